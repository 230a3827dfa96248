/- Entries whose keys were freed are taken away: the closures, IndexFunc and DeleteFunc at the entries of an object (one at most). -/
import Derived.Test.YtpjifaefchnmoaaSettle
namespace Go.Proofs.Ytpjifaefchnmoaa
open Go.RowKit

section forget
variable {F G : Nat → Prop} {L : Lay} {st : St} {w w' : World}

/-- An object's cells, and its entries, were written. -/
theorem Rep.chObE (R : Rep F L st w) {n : Int} {o o' : Ob} (h : alook st.objs n = some o) (hE : Ext (fun k => k = o.b ∨ o.ve.ownBlock = some k) w w') (hc : w'.heap[o.b]? = some (Obj.cells (obCells o') 74 (0, 0))) (hb : o'.b = o.b)
    (hrow : Row G 85 3 w' o'.ve (entCount o'.ent) (entCells o'.ent)) (hFG : ∀ k, F k → G k) (hGl : ∀ k, G k → k < w'.heap.size) (hv : ∀ k, o'.ve.ownBlock = some k → o.ve.ownBlock = some k ∨ w.heap.size ≤ k) :
    Rep G L { st with objs := aset st.objs n o' } w' := by
  have hm := alook_some_mem h
  have hOb := (R.ob _ hm).1
  have hRw := (R.ob _ hm).2.1
  have hcel : ∀ (b : Nat) (c : Array Value) (T : TypeId) (fr : Nat × Nat), w.heap[b]? = some (Obj.cells c T fr) → T ≠ 74 → T ≠ 85 → w'.heap[b]? = some (Obj.cells c T fr) := fun b c T fr hh h1 h2 => by
    refine hE.get hh ?_
    rintro (e | e)
    · exact cells_ne hh hOb h1 e
    · exact row_ne_cells hRw hh (Ne.symm h2) e rfl
  have hrw : ∀ (v : Value) e sz m xs, Row F e sz w v m xs → e ≠ 74 → e ≠ 85 → Row G e sz w' v m xs := fun v e sz m xs hr h1 h2 => by
    refine (hr.ext hE ?_).mono hFG
    rintro k hk (e | e)
    · exact row_ne_cells hr hOb h1 hk e
    · exact row_ne_row hr hRw h2 hk e rfl
  have hmap : ∀ b l, IMap w b l → IMap w' b l := fun b l hI => hI.ext hE (by
    rintro (e | e)
    · exact map_ne_cells hI hOb e
    · exact row_ne_map hRw hI e rfl)
  refine ⟨hcel _ _ _ _ R.hH (by decide) (by decide), ?_, hmap _ _ R.mH, hmap _ _ R.mR, ?_, hrw _ _ _ _ _ R.r0 (by decide) (by decide), hrw _ _ _ _ _ R.r1 (by decide) (by decide), hcel _ _ _ _ R.fr (by decide) (by decide), hrw _ _ _ _ _ R.rf (by decide) (by decide),
    ⟨hFG _ R.fs.1, hFG _ R.fs.2.1, hFG _ R.fs.2.2.1, hFG _ R.fs.2.2.2.1, hFG _ R.fs.2.2.2.2⟩, hGl, R.sep1, ?_, R.sep3, ?_⟩
  · show IMap w' L.mo ((aset st.objs n o').map fun p => (p.1, ptr p.2.b))
    rw [map_aset_b hb _ h]
    exact hmap _ _ R.mO
  · intro p hp
    rcases mem_aset _ R.nodupO p hp with rfl | ⟨hp, hne⟩
    · exact ⟨by rw [hb]; exact hc, hrow, by rw [hb]; exact hFG _ (R.ob _ hm).2.2⟩
    · have hpb : p.2.b ≠ o.b := by
        intro e
        exact hne (by rw [nodup_map_inj (fun p : Int × Ob => p.2.b) _ R.sep2 hp hm e])
      refine ⟨hE.get (R.ob p hp).1 ?_, ?_, hFG _ (R.ob p hp).2.2⟩
      · rintro (e | e)
        · exact hpb e
        · exact row_ne_cells hRw (R.ob p hp).1 (by decide) e rfl
      · refine ((R.ob p hp).2.1.ext hE ?_).mono hFG
        rintro k hk (e | e)
        · exact row_ne_cells (R.ob p hp).2.1 hOb (by decide) hk e
        · exact R.sep4 p hp _ hm hne k hk e
  · show ((aset st.objs n o').map (·.2.b)).Nodup
    rw [map_aset_b2 hb _ h]; exact R.sep2
  · intro p hp q hq hpq k hk hk'
    rcases mem_aset _ R.nodupO p hp with rfl | ⟨hp, hpn⟩
    · rcases mem_aset _ R.nodupO q hq with rfl | ⟨hq, hqn⟩
      · exact hpq rfl
      · rcases hv k hk with e | e
        · exact R.sep4 _ hm q hq (Ne.symm hqn) k e hk'
        · have := (R.ob q hq).2.1.lt hk'
          omega
    · rcases mem_aset _ R.nodupO q hq with rfl | ⟨hq, hqn⟩
      · rcases hv k hk' with e | e
        · exact R.sep4 p hp _ hm hpn k hk e
        · have := (R.ob p hp).2.1.lt hk
          omega
      · exact R.sep4 p hp q hq hpq k hk hk'

/-- An entry as a value. -/
def entV (k : Int) (d : Wd) : Value := .agg #[.int .i64 k, .bool d.ref, .int .i64 d.num]

set_option maxHeartbeats 400000 in
theorem forget1_any (R : Rep F L st w) (k : Int) (d : Wd) (cB : Nat) (hc : w.heap[cB]? = some (.cells #[.pointer (some ⟨L.hb, 0, none⟩)] 87 (0, 0))) :
    Calls Try.prog 65 #[entV k d, .pointer (some ⟨cB, 0, none⟩)] w fun e w' => e = .returned (.bool (alook st.objs k).isNone) ∧ Below w.heap.size w w' := by
  have c1 : ∀ ob, (w.alloc ob).cell? ⟨cB, 0, none⟩ = some (.pointer (some ⟨L.hb, 0, none⟩)) := fun ob => by
    rw [cell_of (Below.get ((Below.refl w.heap.size w).alloc (Nat.le_refl _) ob) hc (lt_of_blk hc))]; rfl
  have c0 : ∀ ob, (w.alloc ob).cell? ⟨L.hb, 0, none⟩ = some (.map (some L.mo)) := fun ob => (R.alloc ob).hc 0
  unfold entV
  cases h : alook st.objs k with
  | none =>
    have lk := fun ob m => Rep.lookO_none ((R.alloc ob).drewN m) h
    clear R hc h
    go_enter Try.func65, Try.ntmps65
    go_wp2
    go_quiet (fail)
    go_wp2
    go_ret
    exact ⟨rfl, below_drewN ((Below.refl _ _).alloc (Nat.le_refl _) _) _⟩
  | some o =>
    have lk := fun ob m => Rep.lookO ((R.alloc ob).drewN m) h
    clear R hc h
    go_enter Try.func65, Try.ntmps65
    go_wp2
    go_quiet (fail)
    go_wp2
    go_ret
    exact ⟨rfl, below_drewN ((Below.refl _ _).alloc (Nat.le_refl _) _) _⟩

set_option maxHeartbeats 400000 in
/-- The closure of entry: is it the entry with a key? -/
theorem entry1_any (w : World) (k key : Int) (d : Wd) (kB : Nat) (hc : w.heap[kB]? = some (.cells #[.int .i64 key] 3 (0, 0))) :
    Calls Try.prog 59 #[entV k d, .pointer (some ⟨kB, 0, none⟩)] w fun e w' => e = .returned (.bool (k == key)) ∧ Below w.heap.size w w' := by
  have c1 : ∀ ob, (w.alloc ob).cell? ⟨kB, 0, none⟩ = some (.int .i64 key) := fun ob => by
    rw [cell_of (Below.get ((Below.refl w.heap.size w).alloc (Nat.le_refl _) ob) hc (lt_of_blk hc))]; rfl
  unfold entV
  clear hc
  go_enter Try.func59, Try.ntmps59
  go_wp2
  go_ret
  exact ⟨rfl, (Below.refl _ _).alloc (Nat.le_refl _) _⟩

/-- The function values that IndexFunc is handed. -/
def IsTest (fv : Value) (FN : Nat) (c : Nat) : Prop :=
  (fv = .func (.func 65) #[] #[.pointer (some ⟨c, 0, none⟩)] ∧ FN = 65) ∨ (fv = .func (.func 59) #[] #[.pointer (some ⟨c, 0, none⟩)] ∧ FN = 59)

set_option maxHeartbeats 800000 in
theorem index_none {fv : Value} {FN c : Nat} (hfn : IsTest fv FN c) (a : Option Addr) (cap : Nat) (w : World) :
    Calls Try.prog 58 #[.slice a 0 cap, fv] w fun e w' => e = .returned (.int .i64 (-1)) ∧ w' = w := by
  rcases hfn with ⟨rfl, rfl⟩ | ⟨rfl, rfl⟩
  all_goals
    go_enter Try.func58, Try.ntmps58
    go_wp2
    go_loopw [8] (fun i wr => i = .int .i64 0 ∧ wr = w) (fun _ _ => 0)
    case atStart => exact ⟨rfl, rfl⟩
    case round =>
      obtain ⟨rfl, hw⟩ := hrel
      subst hw
      go_wp2
      go_ret
      exact ⟨rfl, rfl⟩

set_option maxHeartbeats 800000 in
theorem index_some {fv : Value} {FN c : Nat} (hfn : IsTest fv FN c) {g cap : Nat} {k : Int} {d : Wd} {w : World} (e0 : w.cell? ⟨g, 0, none⟩ = some (.int .i64 k)) (e1 : w.cell? ⟨g, 1, none⟩ = some (.bool d.ref)) (e2 : w.cell? ⟨g, 2, none⟩ = some (.int .i64 d.num)) {b : Bool}
    (hcall : Calls Try.prog FN #[entV k d, .pointer (some ⟨c, 0, none⟩)] w fun e w' => e = .returned (.bool b) ∧ Below w.heap.size w w') :
    Calls Try.prog 58 #[.slice (some ⟨g, 0, none⟩) 1 cap, fv] w fun e w' => e = .returned (.int .i64 (if b then 0 else -1)) ∧ Below w.heap.size w w' := by
  have Hcall := Lib.hid hcall
  clear hcall
  unfold entV at Hcall
  rcases hfn with ⟨rfl, rfl⟩ | ⟨rfl, rfl⟩
  all_goals
    go_enter Try.func58, Try.ntmps58
    go_wp2
    go_loopw [8] (fun i wr => (i = .int .i64 0 ∧ wr = w) ∨ (i = .int .i64 1 ∧ b = false ∧ Below w.heap.size w wr)) (fun i _ => 1 - (intOf i).toNat)
    case atStart => exact Or.inl ⟨rfl, rfl⟩
    case round =>
      rcases hrel with ⟨rfl, hw⟩ | ⟨rfl, hb, hbw⟩
      · subst hw
        cases b
        · go_wp2_with fail
          refine Hcall.out.mono ?_
          rintro e w3 ⟨rfl, hb3⟩
          have Hb3 := Lib.hid hb3
          clear hb3
          go_wp2
          go_roundw
          case rel => exact Or.inr ⟨rfl, trivial, Hb3.out⟩
          case measure => simp [intOf]
        · go_wp2_with fail
          refine Hcall.out.mono ?_
          rintro e w3 ⟨rfl, hb3⟩
          have Hb3 := Lib.hid hb3
          clear hb3
          go_wp2
          go_ret
          exact ⟨rfl, Hb3.out⟩
      · have Hbw := Lib.hid hbw
        subst hb
        clear hbw
        go_wp2
        go_ret
        exact ⟨rfl, Hbw.out⟩
end forget
end Go.Proofs.Ytpjifaefchnmoaa
