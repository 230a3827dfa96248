/- The methods Used, Drop, Get and Set. -/
import Derived.Test.YtpjifaefchnmoaaMake
namespace Go.Proofs.Ytpjifaefchnmoaa
open Go.RowKit

section ops1
variable {F G : Nat → Prop} {L : Lay} {st : St} {w w' : World}

set_option maxHeartbeats 400000 in
theorem Used_any (R : Rep F L st w) (hu : wsum st.objs < 100000) : Calls Try.prog 20 #[.pointer (some ⟨L.hb, 0, none⟩)] w fun e w' => e = .returned (.int .i64 (wsum st.objs)) ∧ Below w.heap.size w w' := by
  have Hu := Lib.hid (used_any R hu)
  clear R
  go_enter Try.func20, Try.ntmps20
  go_wp2_with (go_at_call 37; refine Hu.out.mono ?_; rintro e w1 ⟨rfl, hb⟩; have Hb := Lib.hid hb; clear hb)
  go_ret
  exact ⟨rfl, Hb.out⟩

/-- A handle is given up. -/
def dropSt (st : St) (k : Int) : St := { st with hnd := adel st.hnd k, free := st.free ++ [k] }

set_option maxHeartbeats 1000000 in
theorem drop_any (R : Rep F L st w) {k n : Int} {o : Ob} (hk : alook st.hnd k = some n) (h : alook st.objs n = some o) (hf : st.free = [] ∨ ∃ a, st.free = [a] ∧ a ≤ k) :
    Calls Try.prog 21 #[.pointer (some ⟨L.hb, 0, none⟩), .int .i64 k] w fun e w' => e = .returned (.int .i64 0) ∧ (∃ sf, Rep (grow F w w') { L with sf := sf } (dropSt st k) w') ∧ Ext F w w' := by
  have Hof := Lib.hid (of_ok R hk h)
  have c5 : w.cell? ⟨L.hb, 5, none⟩ = some (.map (some L.mh)) := R.hc 5
  obtain ⟨w1, hdel, hI1, hE1⟩ := R.mH.delete (P := Try.prog) Try.underlying57 Try.underlying3 k 0 3
  rw [adel_map (fun m : Int => Value.int .i64 m)] at hI1
  have R1 := R.chHnd hE1 hI1
  have c9 : w1.cell? ⟨L.hb, 9, none⟩ = some (.iface 52 (.pointer (some ⟨L.fb, 0, none⟩))) := R1.hc 9
  have hp := push38_any R1 k hf
  unfold hpV at hp
  have Hp := Lib.hid hp
  have H := Lib.hid (And.intro (hE1.mono (G := F) (fun i hi => hi ▸ R.fs.2.2.1)) R.lt)
  clear R hk h hf hI1 hE1 R1 hp
  go_enter Try.func21, Try.ntmps21
  go_wp2_with (first
    | (go_at_call 29; refine Hof.out.mono ?_; rintro e w2 ⟨rfl, rfl⟩)
    | (at_delete; refine wpList_delete_eq rfl _ _ _ rfl _ _ rfl rfl _ hdel ?_)
    | (go_at_call 38; refine Hp.out.mono ?_; rintro e w3 ⟨rfl, hR3, hE3⟩; have H3 := Lib.hid (And.intro hR3 hE3); clear hR3 hE3))
  go_ret
  obtain ⟨⟨sf, hR3⟩, hE3⟩ := H3.out
  have hE := H.out.1.trans hE3 (fun i hi => .inl hi)
  refine ⟨rfl, ⟨sf, hR3.mono (fun k hk => ?_) (fun k hk => ?_)⟩, hE⟩
  · rcases hk with hk | hk
    · exact .inl hk
    · exact .inr ⟨Nat.le_trans H.out.1.size hk.1, hk.2⟩
  · rcases hk with hk | hk
    · exact Nat.lt_of_lt_of_le (H.out.2 k hk) hE.size
    · exact hk.2

/-- The word of a field, in memory. -/
theorem Rep.field (R : Rep F L st w) {n : Int} {o : Ob} (_h : alook st.objs n = some o) (hat : o.at_ + 1 + o.size ≤ (rowOf st o).length) {i : Nat} {d : Wd} (hi : i < o.size) (hd : (fldsOf st o)[i]? = some d) {g len cap : Nat} (hs : sliceOf L o = .slice (some ⟨g, 0, none⟩) len cap) :
    w.cell? ⟨g, (o.at_ + 1) * 2 + i * 2, none⟩ = some (.bool d.ref) ∧ w.cell? ⟨g, (o.at_ + 1) * 2 + i * 2 + 1, none⟩ = some (.int .i64 d.num) := by
  have hr := R.rowS o
  have hlen : len = (rowOf st o).length := by
    obtain ⟨a, c, hf⟩ := hr.form
    rw [hs] at hf; cases hf; rfl
  rw [hs, hlen] at hr
  obtain ⟨d', hd1, hd2⟩ := flds_get hat hi
  rw [hd] at hd1; cases hd1
  rw [hr.cell _ (by omega), hr.cell _ (by omega), show (o.at_ + 1) * 2 + i * 2 = (o.at_ + 1 + i) * 2 from by omega, wdCells_ref, wdCells_num, hd2]
  exact ⟨rfl, rfl⟩

set_option maxRecDepth 100000 in
set_option maxHeartbeats 1000000 in
/-- A field that holds a number. -/
theorem get_num (R : Rep F L st w) {k n : Int} {o : Ob} (hk : alook st.hnd k = some n) (h : alook st.objs n = some o) (ht : o.tbl = false) (hat : o.at_ + 1 + o.size ≤ (rowOf st o).length) (hsz : (rowOf st o).length < 100000)
    {i : Nat} {d : Wd} (hi : i < o.size) (hd : (fldsOf st o)[i]? = some d) (hr : d.ref = false) :
    Calls Try.prog 15 #[.pointer (some ⟨L.hb, 0, none⟩), .int .i64 k, .int .i64 i] w fun e w' => e = .returned (.tuple #[.agg #[.bool false, .int .i64 d.num], .int .i64 0]) ∧ Below w.heap.size w w' := by
  have hal := (Below.refl w.heap.size w).alloc (Nat.le_refl _) (.cells #[.bool false, .int .i64 0] 35)
  have Ra := R.below' hal
  have hpl := plain_any Ra hk h
  rw [ht] at hpl
  have Hpl := Lib.hid hpl
  have c1 : (w.alloc (.cells #[.bool false, .int .i64 0] 35)).cell? ⟨o.b, 1, none⟩ = some (.int .i64 o.size) := Ra.oc h 1
  obtain ⟨g, len, cap, hs, hfl⟩ := fields_any Ra h hat (by omega)
  have Hfl := Lib.hid hfl
  obtain ⟨q0, q1⟩ := Ra.field h hat hi hd hs
  have Hal := Lib.hid hal
  have hres : ∀ m ob, (((w.alloc (.cells #[.bool false, .int .i64 0] 35)).drewN m).alloc ob).heap[w.heap.size]? = some (.cells #[.bool false, .int .i64 0] 35 (0, 0)) := fun m ob =>
    (Below.heap_alloc ((w.alloc (.cells #[.bool false, .int .i64 0] 35)).drewN m) ob w.heap.size (by show w.heap.size < (w.alloc (.cells #[.bool false, .int .i64 0] 35)).heap.size; simp)).trans (Below.heap_new w _)
  have Hres := Lib.hid hres
  have hos : o.size < 100000 := by omega
  rw [hr] at q0
  clear R hk h hat hd hr hpl hs hfl hal Ra ht hres
  go_enter Try.func15, Try.ntmps15
  go_wp2_with (first
    | (go_at_call 30; refine Hpl.out.mono ?_; rintro e w2 ⟨rfl, rfl⟩)
    | (go_at_call 31
       refine Hfl.out.mono ?_
       rintro e w3 ⟨a, cp, m, rfl, ha, rfl⟩
       have ha' := ha (by omega)
       subst ha')
    | (go_at_call 34
       refine (out_num _ _ _).mono ?_
       rintro e w4 ⟨rfl, hb4⟩
       have hcl := Below.get hb4 (Hres.out _ _) (lt_of_blk (Hres.out _ _))
       have p0 := cell_of hcl 0
       have p1 := cell_of hcl 1
       have pf0 := free_of hcl 0
       have pf1 := free_of hcl 1
       simp at p0 p1
       have H4 := Lib.hid hb4
       clear hb4 hcl))
  have hE1 := (ext_setCell w4 w.heap.size 0 (.bool false)).trans (ext_setCell (w4.setCell ⟨w.heap.size, 0, none⟩ (.bool false)) w.heap.size 1 (.int .i64 d.num)) (fun i hi => .inl hi)
  refine bodyPost_ret (v := .tuple #[.agg #[.bool false, .int .i64 d.num], .int .i64 0]) (by simp [results, Try.results15, go_sem, p0, p1]) rfl ⟨rfl, ?_⟩
  have h1 := H4.out.mono (B' := w.heap.size) (by simp; omega)
  have hA := ((below_drewN Hal.out m).alloc (by show w.heap.size ≤ (w.alloc (.cells #[.bool false, .int .i64 0] 35)).heap.size; simp) _).trans h1
  exact hA.trans (hE1.below hA.size (fun k hk => by omega))

set_option maxRecDepth 100000 in
set_option maxHeartbeats 1000000 in
/-- A field that holds a reference: a handle is made for it. -/
theorem get_ref (R : Rep F L st w) {k n : Int} {o : Ob} (hk : alook st.hnd k = some n) (h : alook st.objs n = some o) (ht : o.tbl = false) (hat : o.at_ + 1 + o.size ≤ (rowOf st o).length) (hsz : (rowOf st o).length < 100000) (hnl : st.hnd.length < 10000)
    {i : Nat} {d : Wd} (hi : i < o.size) (hd : (fldsOf st o)[i]? = some d) (hr : d.ref = true) (kn : Int) {Φ : World → Prop}
    (hc : ∀ w1, Below w.heap.size w w1 → Calls Try.prog 56 #[.pointer (some ⟨L.hb, 0, none⟩), .int .i64 d.num] w1 fun e w' => e = .returned (.int .i64 kn) ∧ Φ w' ∧ Ext F w1 w') :
    Calls Try.prog 15 #[.pointer (some ⟨L.hb, 0, none⟩), .int .i64 k, .int .i64 i] w fun e w' => e = .returned (.tuple #[.agg #[.bool true, .int .i64 kn], .int .i64 0]) ∧ ∃ w1, Φ w1 ∧ Ext F w w1 ∧ Ext (fun b => w.heap.size ≤ b) w1 w' := by
  have hal := (Below.refl w.heap.size w).alloc (Nat.le_refl _) (.cells #[.bool false, .int .i64 0] 35)
  have Ra := R.below' hal
  have hpl := plain_any Ra hk h
  rw [ht] at hpl
  have Hpl := Lib.hid hpl
  have c1 : (w.alloc (.cells #[.bool false, .int .i64 0] 35)).cell? ⟨o.b, 1, none⟩ = some (.int .i64 o.size) := Ra.oc h 1
  obtain ⟨g, len, cap, hs, hfl⟩ := fields_any Ra h hat (by omega)
  have Hfl := Lib.hid hfl
  obtain ⟨q0, q1⟩ := Ra.field h hat hi hd hs
  have Hal := Lib.hid hal
  have hres : ∀ m ob, (((w.alloc (.cells #[.bool false, .int .i64 0] 35)).drewN m).alloc ob).heap[w.heap.size]? = some (.cells #[.bool false, .int .i64 0] 35 (0, 0)) := fun m ob =>
    (Below.heap_alloc ((w.alloc (.cells #[.bool false, .int .i64 0] 35)).drewN m) ob w.heap.size (by show w.heap.size < (w.alloc (.cells #[.bool false, .int .i64 0] 35)).heap.size; simp)).trans (Below.heap_new w _)
  have hA : ∀ m ob, Below w.heap.size w (((w.alloc (.cells #[.bool false, .int .i64 0] 35)).drewN m).alloc ob) := fun m ob =>
    (below_drewN hal m).alloc (by show w.heap.size ≤ (w.alloc (.cells #[.bool false, .int .i64 0] 35)).heap.size; simp) _
  have Hsp := Lib.hid (fun m ob => spare_yes (R.below' (hA m ob)) hnl)
  have hout : ∀ m ob, Calls Try.prog 34 #[.pointer (some ⟨L.hb, 0, none⟩), .agg #[.bool true, .int .i64 d.num]] (((w.alloc (.cells #[.bool false, .int .i64 0] 35)).drewN m).alloc ob) fun e w' => e = .returned (.agg #[.bool true, .int .i64 kn]) ∧ ∃ w1, Φ w1 ∧ Ext F (((w.alloc (.cells #[.bool false, .int .i64 0] 35)).drewN m).alloc ob) w1 ∧ Ext (· = (((w.alloc (.cells #[.bool false, .int .i64 0] 35)).drewN m).alloc ob).heap.size + 1) w1 w' := fun m ob =>
    out_ref (fun j hj => Nat.lt_of_lt_of_le (R.lt j hj) (hA m ob).size) d.num kn (hc _ ((hA m ob).trans ((outW_below _ _).mono (hA m ob).size)))
  have Hout := Lib.hid hout
  have Hres := Lib.hid (And.intro hres (And.intro hA R.lt))
  have hos : o.size < 100000 := by omega
  rw [hr] at q0
  clear R hk h hat hd hr hpl hs hfl hal Ra ht hres hA hc hout
  go_enter Try.func15, Try.ntmps15
  go_wp2_with (first
    | (go_at_call 30; refine Hpl.out.mono ?_; rintro e w2 ⟨rfl, rfl⟩)
    | (go_at_call 31
       refine Hfl.out.mono ?_
       rintro e w3 ⟨a, cp, m, rfl, ha, rfl⟩
       have ha' := ha (by omega)
       subst ha')
    | (go_at_call 26
       refine (Hsp.out _ _).mono ?_
       rintro e w5 ⟨rfl, rfl⟩)
    | (go_at_call 34
       refine (Hout.out _ _).mono ?_
       rintro e w4 ⟨rfl, w1, hΦ, hE1, hE2⟩
       have hlt := lt_of_blk (Hres.out.1 m (.cells #[.bool true, .int .i64 d.num] 66))
       have hcl := hE2.get (hE1.get (Hres.out.1 _ _) (fun hF => Nat.lt_irrefl _ (Hres.out.2.2 _ hF))) (by have := hE1.size; omega)
       have p0 := cell_of hcl 0
       have p1 := cell_of hcl 1
       have pf0 := free_of hcl 0
       have pf1 := free_of hcl 1
       simp at p0 p1
       have H4 := Lib.hid (And.intro hΦ (And.intro hE1 hE2))
       clear hE1 hE2 hcl hΦ hlt))
  have hE1 := (ext_setCell w4 w.heap.size 0 (.bool true)).trans (ext_setCell (w4.setCell ⟨w.heap.size, 0, none⟩ (.bool true)) w.heap.size 1 (.int .i64 kn)) (fun i hi => .inl hi)
  have hs := (Hres.out.2.1 m (.cells #[.bool true, .int .i64 d.num] 66)).size
  refine bodyPost_ret (v := .tuple #[.agg #[.bool true, .int .i64 kn], .int .i64 0]) (by simp [results, Try.results15, go_sem, p0, p1]) rfl ⟨rfl, w1, H4.out.1, (Below.ext (Hres.out.2.1 m _) F).trans H4.out.2.1 (fun i hi => .inl hi), ?_⟩
  exact (H4.out.2.2.mono (G := fun b => w.heap.size ≤ b) (fun b hb => by omega)).trans hE1 (fun b hb => .inl (by omega))
end ops1
end Go.Proofs.Ytpjifaefchnmoaa
