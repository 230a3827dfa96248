/- Words in and out: the methods in, out and room. -/
import Derived.Test.YtpjifaefchnmoaaLeast
namespace Go.Proofs.Ytpjifaefchnmoaa
open Go.RowKit

def wdV (d : Wd) : Value := .agg #[.bool d.ref, .int .i64 d.num]

section in_
variable {F G : Nat → Prop} {L : Lay} {st : St} {w w' : World}

set_option maxHeartbeats 1000000 in
theorem in_num (n : Int) (hp : Value) (w : World) :
    Calls Try.prog 25 #[hp, .agg #[.bool false, .int .i64 n]] w fun e w' => e = .returned (.tuple #[.agg #[.bool false, .int .i64 n], .int .i64 0]) ∧ Below w.heap.size w w' := by
  go_enter Try.func25, Try.ntmps25
  go_wp2
  exact bodyPost_ret (v := .tuple #[.agg #[.bool false, .int .i64 n], .int .i64 0]) (by simp [results, Try.results25, go_sem]) rfl ⟨rfl, ((Below.refl _ _).alloc (Nat.le_refl _) _).alloc (by simp) _⟩

set_option maxHeartbeats 1000000 in
theorem in_ref (R : Rep F L st w) {k n : Int} {o : Ob} (hk : alook st.hnd k = some n) (h : alook st.objs n = some o) :
    Calls Try.prog 25 #[.pointer (some ⟨L.hb, 0, none⟩), .agg #[.bool true, .int .i64 k]] w fun e w' => e = .returned (.tuple #[.agg #[.bool true, .int .i64 n], .int .i64 0]) ∧ Below w.heap.size w w' := by
  have Hof := Lib.hid (of_ok ((R.alloc (.cells #[.bool true, .int .i64 k] 35)).alloc (.cells #[.bool false, .int .i64 0] 66)) hk h)
  clear R hk h
  go_enter Try.func25, Try.ntmps25
  go_wp2_with (go_at_call 29; refine Hof.out.mono ?_; rintro e w1 ⟨rfl, rfl⟩)
  exact bodyPost_ret (v := .tuple #[.agg #[.bool true, .int .i64 n], .int .i64 0]) (by simp [results, Try.results25, go_sem]) rfl ⟨rfl, ((Below.refl _ _).alloc (Nat.le_refl _) _).alloc (by simp) _⟩

set_option maxHeartbeats 1000000 in
theorem out_num (n : Int) (hp : Value) (w : World) :
    Calls Try.prog 34 #[hp, .agg #[.bool false, .int .i64 n]] w fun e w' => e = .returned (.agg #[.bool false, .int .i64 n]) ∧ Below w.heap.size w w' := by
  go_enter Try.func34, Try.ntmps34
  go_wp2
  exact bodyPost_ret (v := .agg #[.bool false, .int .i64 n]) (by simp [results, Try.results34, go_sem]) rfl ⟨rfl, ((Below.refl _ _).alloc (Nat.le_refl _) _).alloc (by simp) _⟩

/-- The world in which out makes its handle. -/
def outW (w : World) (n : Int) : World := (w.alloc (.cells #[.bool true, .int .i64 n] 66)).alloc (.cells #[.bool false, .int .i64 0] 35)

theorem outW_below (w : World) (n : Int) : Below w.heap.size w (outW w n) := ((Below.refl _ _).alloc (Nat.le_refl _) _).alloc (by simp) _

theorem outW_cells (w : World) (n : Int) : (outW w n).heap[w.heap.size + 1]? = some (.cells #[.bool false, .int .i64 0] 35 (0, 0)) := by
  have := Below.heap_new (w.alloc (.cells #[.bool true, .int .i64 n] 66)) (.cells #[.bool false, .int .i64 0] 35)
  have hs : (w.alloc (.cells #[.bool true, .int .i64 n] 66)).heap.size = w.heap.size + 1 := by simp
  rw [hs] at this
  exact this

set_option maxHeartbeats 1000000 in
theorem out_ref (hlt : ∀ k, F k → k < w.heap.size) (n k : Int) {Φ : World → Prop}
    (hc : Calls Try.prog 56 #[.pointer (some ⟨L.hb, 0, none⟩), .int .i64 n] (outW w n) fun e w' => e = .returned (.int .i64 k) ∧ Φ w' ∧ Ext F (outW w n) w') :
    Calls Try.prog 34 #[.pointer (some ⟨L.hb, 0, none⟩), .agg #[.bool true, .int .i64 n]] w fun e w' => e = .returned (.agg #[.bool true, .int .i64 k]) ∧ ∃ w1, Φ w1 ∧ Ext F w w1 ∧ Ext (· = w.heap.size + 1) w1 w' := by
  have Hc := Lib.hid hc
  have hb := outW_below w n
  have hcl := outW_cells w n
  have hs : (outW w n).heap.size = w.heap.size + 2 := by simp [outW]
  have Hb := Lib.hid (And.intro hb (And.intro hcl (And.intro hs hlt)))
  clear hc hb hcl hs hlt
  unfold outW at Hc
  go_enter Try.func34, Try.ntmps34
  go_wp2_with (
    go_at_call 56
    refine Hc.out.mono ?_
    rintro e w1 ⟨rfl, hΦ, hE⟩
    have hcl := hE.get Hb.out.2.1 (fun h => by have := Hb.out.2.2.2 _ h; omega)
    have q0 := cell_of hcl 0
    have q1 := cell_of hcl 1
    have f0 := free_of hcl 0
    have f1 := free_of hcl 1
    simp at q0 q1
    have H := Lib.hid (And.intro hΦ (And.intro hE hcl))
    clear hΦ hE hcl)
  have hE1 := (ext_setCell w1 (w.heap.size + 1) 0 (.bool true)).trans (ext_setCell (w1.setCell ⟨w.heap.size + 1, 0, none⟩ (.bool true)) (w.heap.size + 1) 1 (.int .i64 k)) (fun i hi => .inl hi)
  exact bodyPost_ret (v := .agg #[.bool true, .int .i64 k]) (by simp [results, Try.results34, go_sem, q0, q1]) rfl ⟨rfl, w1, H.out.1, (Below.ext Hb.out.1 F).trans H.out.2.1 (fun i hi => .inl hi), hE1⟩

set_option maxHeartbeats 1000000 in
/-- There is room. -/
theorem room_yes (R : Rep F L st w) {n : Nat} (hn : n < 1000) (hr : wsum st.objs + n ≤ st.full) (hu : wsum st.objs < 50000) :
    Calls Try.prog 27 #[.pointer (some ⟨L.hb, 0, none⟩), .int .i64 n] w fun e w' => e = .returned (.bool true) ∧ Below w.heap.size w w' := by
  have hus : ∀ w', Below w.heap.size w w' → Calls Try.prog 37 #[.pointer (some ⟨L.hb, 0, none⟩)] w' fun e w'' => e = .returned (.int .i64 (wsum st.objs)) ∧ Below w'.heap.size w' w'' := fun w' hb => used_any (R.below' hb) (by omega)
  have hcl : ∀ w', Below w.heap.size w w' → w'.cell? ⟨L.hb, 11, none⟩ = some (.int .i64 st.full) := fun w' hb => (R.below' hb).hc 11
  have Hus := Lib.hid hus
  have Hcl := Lib.hid hcl
  have c11 : w.drew.cell? ⟨L.hb, 11, none⟩ = some (.int .i64 st.full) := R.hc 11
  have hwrap : IntKind.i64.wrap ((wsum st.objs : Int) + (n : Int)) = (wsum st.objs : Int) + (n : Int) := IntWalk.i64_in _ (by omega)
  have hgt : decide (st.full < (wsum st.objs : Int) + (n : Int)) = false := by simp; omega
  have hle : decide ((wsum st.objs : Int) + (n : Int) ≤ st.full) = true := by simp; omega
  clear R hus hcl hr
  generalize wsum st.objs = u at *
  go_enter Try.func27, Try.ntmps27
  go_wp2
  go_region_held3 (fun w' => w'.cell? ⟨L.hb, 11, none⟩ = some (.int .i64 st.full)) (first | exact c11 | exact c11b)
    ((go_at_call 37
      refine (Hus.out _ (below_drewN (Below.refl _ _) 1)).mono ?_
      rintro e w1 ⟨rfl, hb1⟩
      have hb2 : Below w.heap.size w w1 := (below_drewN (Below.refl w.heap.size w) 1).trans hb1
      have c11b := Hcl.out w1 hb2
      have H1 := Lib.hid hb2
      clear hb1 hb2))
  have c11c : w1.drew.cell? ⟨L.hb, 11, none⟩ = some (.int .i64 st.full) := c11b
  go_wp2
  go_region_held3 (fun w' => w'.cell? ⟨L.hb, 11, none⟩ = some (.int .i64 st.full)) (first | exact c11c | exact c11d)
    ((go_at_call 37
      refine (Hus.out _ (below_drewN H1.out 1)).mono ?_
      rintro e w2 ⟨rfl, hb1⟩
      have hb2 : Below w.heap.size w w2 := (below_drewN H1.out 1).trans (hb1.mono H1.out.size)
      have c11d := Hcl.out w2 hb2
      have H2 := Lib.hid hb2
      clear hb1 hb2))
  go_wp2
  go_ret
  exact ⟨rfl, H2.out⟩
end in_
end Go.Proofs.Ytpjifaefchnmoaa
