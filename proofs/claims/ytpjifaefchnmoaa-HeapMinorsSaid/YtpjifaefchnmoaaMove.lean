/- The method move: an object is moved to the old space. -/
import Derived.Test.YtpjifaefchnmoaaPlace
import Derived.Deep.RegionWith
namespace Go.Proofs.Ytpjifaefchnmoaa
open Go.RowKit

theorem map_aset_b {n : Int} {o o' : Ob} (hb : o'.b = o.b) : ∀ (l : List (Int × Ob)), alook l n = some o → (aset l n o').map (fun p => (p.1, ptr p.2.b)) = l.map (fun p => (p.1, ptr p.2.b))
  | [], h => by cases h
  | p :: r, h => by
    simp only [alook] at h
    by_cases e : n = p.1
    · rw [if_pos e] at h
      cases h
      simp [aset, e, hb]
    · rw [if_neg e] at h
      simp [aset, e, map_aset_b hb r h]

theorem map_aset_b2 {n : Int} {o o' : Ob} (hb : o'.b = o.b) : ∀ (l : List (Int × Ob)), alook l n = some o → (aset l n o').map (·.2.b) = l.map (·.2.b)
  | [], h => by cases h
  | p :: r, h => by
    simp only [alook] at h
    by_cases e : n = p.1
    · rw [if_pos e] at h
      cases h
      simp [aset, e, hb]
    · rw [if_neg e] at h
      simp [aset, e, map_aset_b2 hb r h]

theorem mem_aset {α : Type} {n : Int} {v : α} : ∀ (l : List (Int × α)), (l.map (·.1)).Nodup → ∀ p ∈ aset l n v, p = (n, v) ∨ (p ∈ l ∧ p.1 ≠ n)
  | [], _, p, h => by simp [aset] at h; exact .inl h
  | q :: r, hn, p, h => by
    simp only [List.map_cons, List.nodup_cons] at hn
    simp only [aset] at h
    split at h
    · rename_i e
      rcases List.mem_cons.1 h with h | h
      · exact .inl h
      · exact .inr ⟨List.mem_cons_of_mem _ h, fun e' => hn.1 (by rw [← e, ← e']; exact List.mem_map_of_mem h)⟩
    · rename_i e
      rcases List.mem_cons.1 h with h | h
      · subst h
        exact .inr ⟨List.mem_cons_self, fun e' => e e'.symm⟩
      · rcases mem_aset r hn.2 p h with h | ⟨h1, h2⟩
        · exact .inl h
        · exact .inr ⟨List.mem_cons_of_mem _ h1, h2⟩

theorem nodup_map_inj {α β : Type} (f : α → β) : ∀ (l : List α), (l.map f).Nodup → ∀ {a b : α}, a ∈ l → b ∈ l → f a = f b → a = b
  | [], _, a, b, ha, _, _ => by cases ha
  | c :: l, hn, a, b, ha, hb, e => by
    simp only [List.map_cons, List.nodup_cons, List.mem_map, not_exists, not_and] at hn
    rcases List.mem_cons.1 ha with h1 | h1 <;> rcases List.mem_cons.1 hb with h2 | h2
    · rw [h1, h2]
    · exact absurd (by rw [← e, h1]) (hn.1 b h2)
    · exact absurd (by rw [e, h2]) (hn.1 a h1)
    · exact nodup_map_inj f l hn.2 h1 h2 e

theorem alook_aset {α : Type} (l : List (Int × α)) (n : Int) (v : α) (k : Int) : alook (aset l n v) k = if k = n then some v else alook l k := by
  induction l with
  | nil => simp [aset, alook]
  | cons q r ih =>
    simp only [aset]
    by_cases e : n = q.1
    · rw [if_pos e]
      simp only [alook]
      by_cases h : k = n
      · simp [h]
      · rw [if_neg h, if_neg h, if_neg (by rw [← e]; exact h)]
    · rw [if_neg e]
      simp only [alook, ih]
      by_cases h : k = n
      · subst h; simp [e]
      · simp [h]

section move
variable {F G : Nat → Prop} {L : Lay} {st : St} {w w' : World}

/-- The cells of an object were written. -/
theorem Rep.chOb (R : Rep F L st w) {n : Int} {o o' : Ob} (h : alook st.objs n = some o) (hE : Ext (· = o.b) w w') (hc : w'.heap[o.b]? = some (.cells (obCells o') 74 (0, 0))) (hb : o'.b = o.b) (hv : o'.ve = o.ve) (he : o'.ent = o.ent) :
    Rep F L { st with objs := aset st.objs n o' } w' := by
  have hm := alook_some_mem h
  have hOb := (R.ob _ hm).1
  have hcel : ∀ (b : Nat) (c : Array Value) (T : TypeId) (fr : Nat × Nat), w.heap[b]? = some (Obj.cells c T fr) → T ≠ 74 → w'.heap[b]? = some (Obj.cells c T fr) := fun b c T fr hh h1 => hE.get hh (cells_ne hh hOb h1)
  have hrow : ∀ (v : Value) e sz n xs, Row F e sz w v n xs → e ≠ 74 → Row F e sz w' v n xs := fun v e sz n xs hr h1 => hr.ext hE fun k hk e => row_ne_cells hr hOb h1 hk e
  have hmap : ∀ b l, IMap w b l → IMap w' b l := fun b l hI => hI.ext hE (map_ne_cells hI hOb)
  refine ⟨hcel _ _ _ _ R.hH (by decide), ?_, hmap _ _ R.mH, hmap _ _ R.mR, ?_, hrow _ _ _ _ _ R.r0 (by decide), hrow _ _ _ _ _ R.r1 (by decide), hcel _ _ _ _ R.fr (by decide), hrow _ _ _ _ _ R.rf (by decide), R.fs,
    fun k hk => Nat.lt_of_lt_of_le (R.lt k hk) hE.size, R.sep1, ?_, R.sep3, ?_⟩
  · show IMap w' L.mo ((aset st.objs n o').map fun p => (p.1, ptr p.2.b))
    rw [map_aset_b hb _ h]
    exact hmap _ _ R.mO
  · intro p hp
    rcases mem_aset _ R.nodupO p hp with rfl | ⟨hp, hne⟩
    · refine ⟨by rw [hb]; exact hc, ?_, by rw [hb]; exact (R.ob _ hm).2.2⟩
      rw [hv, he]
      exact hrow _ _ _ _ _ (R.ob _ hm).2.1 (by decide)
    · have hpb : p.2.b ≠ o.b := by
        intro e
        exact hne (by rw [nodup_map_inj (fun p : Int × Ob => p.2.b) _ R.sep2 hp hm e])
      exact ⟨hE.get (R.ob p hp).1 hpb, hrow _ _ _ _ _ (R.ob p hp).2.1 (by decide), (R.ob p hp).2.2⟩
  · show ((aset st.objs n o').map (·.2.b)).Nodup
    rw [map_aset_b2 hb _ h]; exact R.sep2
  · intro p hp q hq hpq k hk
    have hh : ∀ p ∈ aset st.objs n o', ∃ p' ∈ st.objs, p'.1 = p.1 ∧ p'.2.ve = p.2.ve := by
      intro p hp
      rcases mem_aset _ R.nodupO p hp with rfl | ⟨hp, _⟩
      · exact ⟨_, hm, rfl, hv.symm⟩
      · exact ⟨p, hp, rfl, rfl⟩
    obtain ⟨p', hp', e1, e2⟩ := hh p hp
    obtain ⟨q', hq', e3, e4⟩ := hh q hq
    have := R.sep4 p' hp' q' hq' (by rw [e1, e3]; exact hpq) k (by rw [e2]; exact hk)
    rwa [e4] at this

/-- What move makes of a state: an object's words are laid behind the old ones. -/
def moveSt (st : St) (n : Int) (o : Ob) (ws : List Wd) : St :=
  { st with m1 := st.m1 ++ ws, objs := aset st.objs n { o with at_ := st.m1.length, old := true } }

def MovePost (F : Nat → Prop) (L : Lay) (st' : St) (w : World) (e : Ending) (w' : World) : Prop :=
  e = .returned (.tuple #[]) ∧ (∃ s0 s1, Rep (grow F w w') { L with s0 := s0, s1 := s1 } st' w') ∧ Ext F w w'

set_option maxRecDepth 100000 in
set_option maxHeartbeats 2000000 in
theorem move_any (R : Rep F L st w) {n : Int} {o : Ob} (h : alook st.objs n = some o) {mf : List Wd} {gf capf : Nat} {Ff : Nat → Prop} (hfr : Row Ff 66 2 w (.slice (some ⟨gf, 0, none⟩) mf.length capf) mf.length (wdCells mf)) (hgf : ¬ F gf)
    (hat : o.at_ + 1 + o.size ≤ mf.length) (hml : mf.length < 20000) (hsz : o.size < 5000) (hm1 : st.m1.length < 50000) :
    Calls Try.prog 48 #[.pointer (some ⟨L.hb, 0, none⟩), .pointer (some ⟨o.b, 0, none⟩), .slice (some ⟨gf, 0, none⟩) mf.length capf, .int .i64 1] w (MovePost F L (moveSt st n o ((mf.drop o.at_).take (1 + o.size))) w) := by
  have hcapf : mf.length ≤ capf := by
    rcases hfr.cases with ⟨h, _⟩ | ⟨g', cap', cur, hv, _, _, hnc, _⟩
    · cases h
    · cases hv; exact hnc
  have d3 : w.cell? ⟨o.b, 3, none⟩ = some (.int .i64 o.at_) := R.oc h 3
  have d1 : w.cell? ⟨o.b, 1, none⟩ = some (.int .i64 o.size) := R.oc h 1
  have hwl : ((mf.drop o.at_).take (1 + o.size)).length = o.at_ + 1 + o.size - o.at_ := by
    simp; omega
  have Rd : Rep F L st w.drew := R.of_block (Nat.le_refl _) fun _ _ => rfl
  have hpl := place1_any (la := ⟨gf, o.at_ * 2, none⟩) (lc := capf - o.at_) Rd (ws := (mf.drop o.at_).take (1 + o.size)) (by omega) (by omega) (by omega) (by
    intro j u hu
    have hj : j < (1 + o.size) * 2 := by
      have := (List.getElem?_eq_some_iff.1 hu).1
      rw [wdCells_length] at this
      omega
    have e1 : ((⟨gf, o.at_ * 2, none⟩ : Addr).add j) = ⟨gf, o.at_ * 2 + j, none⟩ := by unfold Addr.add; split <;> simp_all
    rw [e1]
    show w.cell? _ = _
    rw [hfr.cell _ (by omega)]
    rw [← hu]
    -- the cells of the cut
    have e2 : wdCells mf = wdCells (mf.take o.at_) ++ (wdCells ((mf.drop o.at_).take (1 + o.size)) ++ wdCells ((mf.drop o.at_).drop (1 + o.size))) := by
      rw [← wdCells_append, ← wdCells_append, List.take_append_drop, List.take_append_drop]
    have e3 : (wdCells (mf.take o.at_)).length = o.at_ * 2 := by
      rw [wdCells_length, List.length_take, Nat.min_eq_left (by omega)]
    rw [e2, List.getElem?_append_right (by rw [e3]; omega), e3, Nat.add_sub_cancel_left, List.getElem?_append_left (by rw [wdCells_length, hwl]; omega)]) hgf
  rw [hwl] at hpl
  have Hpl := Lib.hid hpl
  have hob : ¬ o.b = L.hb := cells_ne (R.ob _ (alook_some_mem h)).1 R.hH (by decide)
  -- behind place
  have hback : ∀ w1 s0 s1, Rep (grow F w.drew w1) { L with s0 := s0, s1 := s1 } (placeSt st 1 ((mf.drop o.at_).take (1 + o.size))) w1 → Ext F w.drew w1 →
      (w1.cell? ⟨o.b, 3, none⟩ = some (.int .i64 o.at_) ∧ w1.frozen? ⟨o.b, 3, none⟩ = false ∧ w1.cell? ⟨o.b, 2, none⟩ = some (.bool o.old) ∧ w1.frozen? ⟨o.b, 2, none⟩ = false) ∧
      MovePost F L (moveSt st n o ((mf.drop o.at_).take (1 + o.size))) w (.returned (.tuple #[])) ((w1.setCell ⟨o.b, 3, none⟩ (.int .i64 st.m1.length)).setCell ⟨o.b, 2, none⟩ (.bool true)) := by
    intro w1 s0 s1 R1 hE1
    have h1 : alook (placeSt st 1 ((mf.drop o.at_).take (1 + o.size))).objs n = some o := h
    have hc1 := (R1.ob _ (alook_some_mem h1)).1
    refine ⟨⟨R1.oc h1 3, R1.of' h1 3, R1.oc h1 2, R1.of' h1 2⟩, ?_⟩
    have hE2 := ext_setCell w1 o.b 3 (.int .i64 st.m1.length)
    have hc2 := get_setCell hc1 3 (.int .i64 st.m1.length)
    have hE3 := ext_setCell (w1.setCell ⟨o.b, 3, none⟩ (.int .i64 st.m1.length)) o.b 2 (.bool true)
    have hc3 := get_setCell hc2 2 (.bool true)
    have hE23 := hE2.trans hE3 (fun i hi => .inl hi)
    have R2 := R1.chOb (o' := { o with at_ := st.m1.length, old := true }) h1 hE23 hc3 rfl rfl rfl
    have hEw : Ext F w w1 := ⟨hE1.os, hE1.tape, hE1.output, hE1.size, hE1.block⟩
    refine ⟨rfl, ⟨s0, s1, R2.mono (fun k hk => ?_) (fun k hk => ?_)⟩, hEw.trans hE23 (fun i hi => .inl (hi ▸ (R.ob _ (alook_some_mem h)).2.2))⟩
    · rcases hk with hk | hk
      · exact .inl hk
      · exact .inr ⟨hk.1, Nat.lt_of_lt_of_le hk.2 hE23.size⟩
    · rcases hk with hk | hk
      · exact Nat.lt_of_lt_of_le (R.lt k hk) (Nat.le_trans hEw.size hE23.size)
      · exact hk.2
  have Hback := Lib.hid hback
  have hca : capf ≠ o.at_ := by omega
  have hca2 : o.at_ < capf := by omega
  have w1 : IntKind.i64.wrap ((o.at_ : Int) + 1) = (o.at_ : Int) + 1 := IntWalk.i64_in _ (by omega)
  have w2 : IntKind.i64.wrap ((o.at_ : Int) + 1 + (o.size : Int)) = (o.at_ : Int) + 1 + (o.size : Int) := IntWalk.i64_in _ (by omega)
  have w3 : (0 : Int) ≤ (o.at_ : Int) + 1 + (o.size : Int) := by omega
  have w4 : (o.at_ : Int) + 1 + (o.size : Int) ≤ (capf : Int) := by omega
  have w5 : (o.at_ : Int) ≤ (o.at_ : Int) + 1 + (o.size : Int) := by omega
  have w6 : ((o.at_ : Int) + 1 + (o.size : Int)).toNat = o.at_ + 1 + o.size := by omega
  clear hpl hback R Rd h hfr hgf hwl hob
  go_enter Try.func48, Try.ntmps48
  go_wp2
  go_region_with (go_at_call 54; refine Hpl.out.mono ?_; rintro e w1 ⟨rfl, ⟨s0, s1, R1⟩, hE1⟩; obtain ⟨⟨q1, q2, q3, q4⟩, hfin⟩ := Hback.out w1 s0 s1 R1 hE1; have Hfin := Lib.hid hfin; clear R1 hE1 hfin)
  all_goals
    go_wp2
    go_end0
    exact Hfin.out
end move
end Go.Proofs.Ytpjifaefchnmoaa
