/- The methods await, run, major and Major. -/
import Derived.Test.YtpjifaefchnmoaaSweep
namespace Go.Proofs.Ytpjifaefchnmoaa
open Go.RowKit

section major
variable {F : Nat → Prop} {L : Lay} {st : St} {w w' : World}

/-- A cell of the heap's own is written with what it holds. -/
theorem Rep.chSame (R : Rep F L st w) {k : Nat} {v : Value} (h : (heapCells L st)[k]? = some v) : Rep F L st (w.setCell ⟨L.hb, k, none⟩ v) ∧ Ext F w (w.setCell ⟨L.hb, k, none⟩ v) := by
  have hE := ext_setCell w L.hb k v
  have hg := get_setCell R.hH k v
  have he : (heapCells L st).setIfInBounds k v = heapCells L st := by
    apply Array.ext_getElem?
    intro i
    rw [Array.getElem?_setIfInBounds]
    split
    · rename_i e
      subst e
      rw [h]
      split
      · rfl
      · rename_i hlt
        rw [Array.getElem?_eq_none (by omega)] at h
        cases h
    · rfl
  rw [he] at hg
  refine ⟨R.of_block hE.size fun j hj => ?_, hE.mono fun j hj => hj ▸ R.fs.1⟩
  by_cases e : j = L.hb
  · rw [e, hg, R.hH]
  · exact hE.block j (R.lt j hj) e

set_option maxRecDepth 100000 in
set_option maxHeartbeats 1000000 in
theorem await_any (R : Rep F L st w) (hwh : Whole st) (hfl : Flds st) (hN : st.objs.length < 10000) (hnh : st.hnd.length < 10000) (hf : ∀ n ∈ st.hnd.map (·.2), ∃ o, alook st.objs n = some o) :
    Calls Try.prog 51 #[.pointer (some ⟨L.hb, 0, none⟩)] w fun e w' => e = .returned (.tuple #[]) ∧ Rep F L st w' ∧ Ext F w w' := by
  have H := Lib.hid (And.intro R (And.intro hwh (And.intro hfl (And.intro hN (And.intro hnh hf)))))
  have Hroots := Lib.hid (roots_any R (by omega))
  clear R hwh hfl hN hnh hf
  go_enter Try.func51, Try.ntmps51
  go_wp2_with (go_at_call 43; refine Hroots.out.mono ?_; rintro e w1 ⟨v, l, rfl, hperm, hrow, hb1⟩)
  obtain ⟨a, cap, rfl⟩ := hrow.form
  have Hre := Lib.hid (reached_any (H.out.1.below' hb1) H.out.2.1 H.out.2.2.1 H.out.2.2.2.1 hrow (by have := hperm.length_eq; simp at this; have := H.out.2.2.2.2.1; omega) (fun n hn => H.out.2.2.2.2.2 n (hperm.subset hn)))
  have H1 := Lib.hid hb1
  clear hperm hrow hb1
  go_wp2_with (
    go_at_call 66
    refine Hre.out.mono ?_
    rintro e w2 ⟨sb, S, rfl, hI, hsb, hb2, hR⟩
    have hbA : Below w.heap.size w w2 := H1.out.trans (hb2.mono H1.out.size)
    have R2 := H.out.1.below' hbA
    have c6 : w2.cell? ⟨L.hb, 6, none⟩ = some (.slice none 0 0) := R2.hc 6
    have f6 : w2.frozen? ⟨L.hb, 6, none⟩ = false := R2.hf 6
    obtain ⟨R3, hE3⟩ := R2.chSame (k := 6) (v := .slice none 0 0) rfl
    have hE := (Below.ext hbA F).trans hE3 (fun i hi => .inl hi)
    have HH := Lib.hid (And.intro R3 hE)
    clear hbA R2 R3 hE3 hE hI hsb hb2 hR)
  go_loopw [3, 15] (fun v i wr => v = .slice none 0 0 ∧ i = .int .i64 0 ∧ wr = w2) (fun _ _ _ => 0)
  case atStart => exact ⟨rfl, rfl, rfl⟩
  case round =>
    obtain ⟨rfl, rfl, hw⟩ := hrel
    subst hw
    go_wp2
    go_end0
    exact ⟨rfl, HH.out.1, HH.out.2⟩

theorem alook_filter (S : List Int) : ∀ (l : List (Int × Ob)) (n : Int), alook (l.filter fun p => decide (p.1 ∈ S)) n = if n ∈ S then alook l n else none
  | [], n => by simp [alook]
  | p :: l, n => by
    rw [List.filter_cons]
    by_cases h : p.1 ∈ S
    · rw [if_pos (by simpa using h)]
      simp only [alook, alook_filter S l n]
      by_cases e : n = p.1
      · rw [if_pos e, if_pos e, if_pos (e ▸ h)]
      · rw [if_neg e, if_neg e]
    · rw [if_neg (by simpa using h), alook_filter S l n]
      by_cases e : n = p.1
      · rw [if_neg (e ▸ h), if_neg (e ▸ h)]
      · simp only [alook, if_neg e]

/-- What sweep leaves. -/
def swept (st : St) (S : List Int) : St := forgetSt (sweepSt st S)

theorem look_swept (st : St) (S : List Int) (n : Int) : alook (swept st S).objs n = if n ∈ S then (alook st.objs n).map (fgt (sweepSt st S)) else none := by
  unfold swept forgetSt
  rw [alook_map (fun o => fgt (sweepSt st S) o)]
  simp only [sweepSt, alook_filter]
  split <;> rfl

theorem fgt_same (st : St) (o : Ob) : (fgt st o).tbl = o.tbl ∧ (fgt st o).size = o.size ∧ (fgt st o).old = o.old ∧ (fgt st o).at_ = o.at_ ∧ (fgt st o).b = o.b := by
  unfold fgt; split
  · split <;> simp
  · simp

theorem rowOf_swept (st st' : St) (S : List Int) (o : Ob) : rowOf (swept st S) (fgt st' o) = rowOf st o := by
  simp only [rowOf, (fgt_same st' o).2.2.1]; rfl

theorem swept_len (st : St) (S : List Int) : (swept st S).objs.length ≤ st.objs.length := by
  simp only [swept, forgetSt, sweepSt, List.length_map]
  exact List.length_filter_le _ _

theorem look_swept_some {st : St} {S : List Int} {n : Int} {o : Ob} (h : alook (swept st S).objs n = some o) : n ∈ S ∧ ∃ o', alook st.objs n = some o' ∧ o = fgt (sweepSt st S) o' := by
  rw [look_swept] at h
  split at h
  · rename_i hn
    obtain ⟨o', ho', e⟩ := Option.map_eq_some_iff.1 h
    exact ⟨hn, o', ho', e.symm⟩
  · cases h

theorem Flds.swept {st : St} (h : Flds st) (S : List Int) : Flds (swept st S) := by
  refine ⟨fun n o ho => ?_, h.2⟩
  obtain ⟨_, o', ho', rfl⟩ := look_swept_some ho
  rw [rowOf_swept, (fgt_same _ o').2.1, (fgt_same _ o').2.2.2.1]
  exact h.1 n o' ho'

/-- What major leaves: what is reached stays, and is old. -/
def MajorPost (F : Nat → Prop) (L : Lay) (st : St) (w : World) (e : Ending) (w' : World) : Prop :=
  e = .returned (.tuple #[]) ∧ (∃ S l s0 s1, ReachS st (st.hnd.map (·.2)) S ∧ l.Perm ((swept st S).objs.map (·.1)) ∧ Rep (grow F w w') { L with s0 := s0, s1 := s1 } (settleSt (swept st S) l) w') ∧ Ext F w w'

def fnV (f : Nat) (L : Lay) : Value := .func (.func f) #[.pointer (some ⟨L.hb, 0, none⟩)] #[]

set_option maxRecDepth 100000 in
set_option maxHeartbeats 1000000 in
theorem run_any (R : Rep F L st w) (hwh : Whole st) (hfl : Flds st) (hN : st.objs.length < 1000) (hnh : st.hnd.length < 10000) (hf : ∀ n ∈ st.hnd.map (·.2), ∃ o, alook st.objs n = some o) (hsz : ∀ n o, alook st.objs n = some o → o.size ≤ 3)
    {g : Nat} (hg : w.heap[g]? = some (.cells #[fnV 51 L, fnV 52 L, fnV 53 L] 1 (0, 0))) (hgF : ¬ F g) :
    Calls Try.prog 50 #[.pointer (some ⟨L.hb, 0, none⟩), .slice (some ⟨g, 0, none⟩) 3 3] w (MajorPost F L st w) := by
  have H := Lib.hid (And.intro R (And.intro hwh (And.intro hfl (And.intro hN (And.intro hnh (And.intro hf (And.intro hsz (And.intro hg hgF))))))))
  clear R hwh hfl hN hnh hf hsz hg hgF
  go_enter Try.func50, Try.ntmps50
  go_wp2
  go_loopw [8] (fun i wr => (i = .int .i64 0 ∧ wr = w) ∨ (i = .int .i64 1 ∧ Rep F L st wr ∧ Ext F w wr) ∨ (i = .int .i64 2 ∧ ∃ S, ReachS st (st.hnd.map (·.2)) S ∧ Rep (grow F w wr) L (swept st S) wr ∧ Ext F w wr) ∨
    (i = .int .i64 3 ∧ MajorPost F L st w (.returned (.tuple #[])) wr)) (fun i _ => 3 - (intOf i).toNat)
  case atStart => exact .inl ⟨rfl, rfl⟩
  case round =>
    rcases hrel with ⟨rfl, hw⟩ | ⟨rfl, hR, hE⟩ | ⟨rfl, S, hS, hR, hE⟩ | ⟨rfl, hM⟩
    · subst hw
      have q : wr.cell? ⟨g, 0, none⟩ = some (.func (.func 51) #[.pointer (some ⟨L.hb, 0, none⟩)] #[]) := by rw [cell_of H.out.2.2.2.2.2.2.2.1]; rfl
      have Hc := Lib.hid (await_any H.out.1 H.out.2.1 H.out.2.2.1 (by have := H.out.2.2.2.1; omega) H.out.2.2.2.2.1 H.out.2.2.2.2.2.1)
      go_wp2_with (go_at_call 51; refine Hc.out.mono ?_; rintro e w1 ⟨rfl, hR1, hE1⟩; have H1 := Lib.hid (And.intro hR1 hE1); clear hR1 hE1)
      go_roundw
      case rel => exact .inr (.inl ⟨rfl, H1.out.1, H1.out.2⟩)
      case measure => simp [intOf]
    · have hgr := hE.get H.out.2.2.2.2.2.2.2.1 H.out.2.2.2.2.2.2.2.2
      have q : wr.cell? ⟨g, 1, none⟩ = some (.func (.func 52) #[.pointer (some ⟨L.hb, 0, none⟩)] #[]) := by rw [cell_of hgr]; rfl
      have Hc := Lib.hid (sweep_any hR H.out.2.1 H.out.2.2.1 (by have := H.out.2.2.2.1; omega) H.out.2.2.2.2.1 H.out.2.2.2.2.2.1)
      have HE := Lib.hid hE
      clear hR hE hgr
      go_wp2_with (go_at_call 52; refine Hc.out.mono ?_; rintro e w1 ⟨rfl, ⟨S, hS, hR1⟩, hE1⟩; have H1 := Lib.hid (And.intro hS (And.intro hR1 hE1)); clear hS hR1 hE1)
      go_roundw
      case rel =>
        refine .inr (.inr (.inl ⟨rfl, S, H1.out.1, H1.out.2.1.mono (fun k hk => ?_) (fun k hk => ?_), HE.out.trans H1.out.2.2 (fun i hi => .inl hi)⟩))
        · rcases hk with hk | hk
          · exact .inl hk
          · exact .inr ⟨Nat.le_trans HE.out.size hk.1, hk.2⟩
        · rcases hk with hk | hk
          · exact Nat.lt_of_lt_of_le (H.out.1.lt k hk) (Nat.le_trans HE.out.size H1.out.2.2.size)
          · exact hk.2
      case measure => simp [intOf]
    · have hgr := hE.get H.out.2.2.2.2.2.2.2.1 H.out.2.2.2.2.2.2.2.2
      have q : wr.cell? ⟨g, 2, none⟩ = some (.func (.func 53) #[.pointer (some ⟨L.hb, 0, none⟩)] #[]) := by rw [cell_of hgr]; rfl
      have Hc := Lib.hid (settle_any hR (H.out.2.2.1.swept S) (fun n o ho => by
        obtain ⟨_, o', ho', rfl⟩ := look_swept_some ho
        rw [(fgt_same _ o').2.1]; exact H.out.2.2.2.2.2.2.1 n o' ho') (by have := swept_len st S; have := H.out.2.2.2.1; omega))
      have HE := Lib.hid (And.intro hE hS)
      clear hR hE hgr hS
      go_wp2_with (go_at_call 53; refine Hc.out.mono ?_; rintro e w1 ⟨rfl, ⟨l, s0, s1, hl, hR1⟩, hE1⟩; have H1 := Lib.hid (And.intro hl (And.intro hR1 hE1)); clear hl hR1 hE1)
      go_roundw
      case rel =>
        have hE2 : Ext F w w1 := HE.out.1.then H1.out.2.2
        refine .inr (.inr (.inr ⟨rfl, rfl, ⟨S, l, s0, s1, HE.out.2, H1.out.1, H1.out.2.1.mono (fun k hk => grow_grow HE.out.1.size H1.out.2.2.size hk) (fun k hk => ?_)⟩, hE2⟩))
        rcases hk with hk | hk
        · exact Nat.lt_of_lt_of_le (H.out.1.lt k hk) hE2.size
        · exact hk.2
      case measure => simp [intOf]
    · have HM := Lib.hid hM
      clear hM
      go_wp2
      go_end0
      exact HM.out

set_option maxRecDepth 100000 in
set_option maxHeartbeats 1000000 in
theorem major_any (R : Rep F L st w) (hwh : Whole st) (hfl : Flds st) (hN : st.objs.length < 1000) (hnh : st.hnd.length < 10000) (hf : ∀ n ∈ st.hnd.map (·.2), ∃ o, alook st.objs n = some o) (hsz : ∀ n o, alook st.objs n = some o → o.size ≤ 3) :
    Calls Try.prog 24 #[.pointer (some ⟨L.hb, 0, none⟩)] w (MajorPost F L st w) := by
  have hg := Below.heap_new w (.cells #[fnV 51 L, fnV 52 L, fnV 53 L] 1)
  have hc := run_any (R.alloc (.cells #[fnV 51 L, fnV 52 L, fnV 53 L] 1)) hwh hfl hN hnh hf hsz hg (fun h => by have := R.lt _ h; omega)
  have hb := (Below.refl w.heap.size w).alloc (Nat.le_refl _) (.cells #[fnV 51 L, fnV 52 L, fnV 53 L] 1)
  have hlt := R.lt
  unfold fnV at hc hb
  have Hc := Lib.hid hc
  have Hb := Lib.hid (And.intro hb hlt)
  clear hc hb hg R hwh hfl hN hnh hf hsz hlt
  go_enter Try.func24, Try.ntmps24
  go_wp2_with (go_at_call 50; refine Hc.out.mono ?_; rintro e w1 ⟨rfl, ⟨S, l, s0, s1, hS, hl, hR1⟩, hE1⟩; have H1 := Lib.hid (And.intro hS (And.intro hl (And.intro hR1 hE1))); clear hS hl hR1 hE1)
  go_end0
  have hE2 : Ext F w w1 := (Below.ext Hb.out.1 F).trans H1.out.2.2.2 (fun i hi => .inl hi)
  refine ⟨rfl, ⟨S, l, s0, s1, H1.out.1, H1.out.2.1, H1.out.2.2.1.mono (fun k hk => ?_) (fun k hk => ?_)⟩, hE2⟩
  · rcases hk with hk | hk
    · exact .inl hk
    · exact .inr ⟨Nat.le_trans Hb.out.1.size hk.1, hk.2⟩
  · rcases hk with hk | hk
    · exact Nat.lt_of_lt_of_le (Hb.out.2 k hk) hE2.size
    · exact hk.2

set_option maxHeartbeats 400000 in
theorem Major_any (hc : Calls Try.prog 24 #[.pointer (some ⟨L.hb, 0, none⟩)] w (MajorPost F L st w)) : Calls Try.prog 8 #[.pointer (some ⟨L.hb, 0, none⟩)] w (MajorPost F L st w) := by
  have Hc := Lib.hid hc
  clear hc
  go_enter Try.func8, Try.ntmps8
  go_wp2_with (go_at_call 24; refine Hc.out.mono ?_; rintro e w1 ⟨rfl, hM⟩; have HM := Lib.hid hM; clear hM)
  go_end0
  exact ⟨rfl, HM.out⟩
end major
end Go.Proofs.Ytpjifaefchnmoaa
