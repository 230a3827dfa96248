/- New and Mod. -/
import Derived.Test.YtpjifaefchnmoaaOps3
namespace Go.Proofs.Ytpjifaefchnmoaa
open Go.RowKit

def newSt (y f : Int) : St := ⟨[], 0, [], [], y, f, 0, [], [], []⟩

def NewPost (y f : Int) (w : World) (e : Ending) (w' : World) : Prop :=
  ∃ L : Lay, e = .returned (.tuple #[.pointer (some ⟨L.hb, 0, none⟩), .int .i64 0]) ∧ Rep (fun k => w.heap.size ≤ k ∧ k < w'.heap.size) L (newSt y f) w' ∧ Below w.heap.size w w'

def newLay (b : Nat) : Lay := ⟨b + 1 + 1, b + 1 + 1 + 1, b + 1 + 1 + 1 + 1, b + 1 + 1 + 1 + 1 + 1, b + 1, .slice none 0 0, .slice none 0 0, .slice (some ⟨b, 0, none⟩) 0 0⟩

def newW (y f : Int) (w : World) : World :=
  (((((w.alloc (.cells #[] 3)).alloc (.cells #[.slice (some ⟨w.heap.size, 0, none⟩) 0 0] 53)).alloc (.cells (heapCells (newLay w.heap.size) (newSt y f)) 64)).alloc (.map #[] 0)).alloc (.map #[] 0)).alloc (.map #[] 0)

theorem newW_rep (y f : Int) (w : World) : Rep (fun k => w.heap.size ≤ k ∧ k < (newW y f w).heap.size) (newLay w.heap.size) (newSt y f) (newW y f w) ∧ Below w.heap.size w (newW y f w) := by
  have hg : ∀ (v : World) (o o' : Obj) b, v.heap[b]? = some o' → (v.alloc o).heap[b]? = some o' := fun v o o' b h => (Below.heap_alloc v o b (lt_of_blk h)).trans h
  let w1 := w.alloc (.cells #[] 3)
  let w2 := w1.alloc (.cells #[.slice (some ⟨w.heap.size, 0, none⟩) 0 0] 53)
  let w3 := w2.alloc (.cells (heapCells (newLay w.heap.size) (newSt y f)) 64)
  let w4 := w3.alloc (.map #[] 0)
  let w5 := w4.alloc (.map #[] 0)
  let w6 := w5.alloc (.map #[] 0)
  have s1 : w1.heap.size = w.heap.size + 1 := by simp [w1]
  have s2 : w2.heap.size = w.heap.size + 1 + 1 := by simp [w2, s1]
  have s3 : w3.heap.size = w.heap.size + 1 + 1 + 1 := by simp [w3, s2]
  have s4 : w4.heap.size = w.heap.size + 1 + 1 + 1 + 1 := by simp [w4, s3]
  have s5 : w5.heap.size = w.heap.size + 1 + 1 + 1 + 1 + 1 := by simp [w5, s4]
  have s6 : w6.heap.size = w.heap.size + 6 := by simp [w6, s5]
  have b0 : w6.heap[w.heap.size]? = some (.cells #[] 3 (0, 0)) := hg _ _ _ _ (hg _ _ _ _ (hg _ _ _ _ (hg _ _ _ _ (hg _ _ _ _ (Below.heap_new w _)))))
  have b1 : w6.heap[w.heap.size + 1]? = some (.cells #[.slice (some ⟨w.heap.size, 0, none⟩) 0 0] 53 (0, 0)) := by
    have := Below.heap_new w1 (.cells #[.slice (some ⟨w.heap.size, 0, none⟩) 0 0] 53)
    rw [s1] at this
    exact hg _ _ _ _ (hg _ _ _ _ (hg _ _ _ _ (hg _ _ _ _ this)))
  have b2 : w6.heap[w.heap.size + 1 + 1]? = some (.cells (heapCells (newLay w.heap.size) (newSt y f)) 64 (0, 0)) := by
    have := Below.heap_new w2 (.cells (heapCells (newLay w.heap.size) (newSt y f)) 64)
    rw [s2] at this
    exact hg _ _ _ _ (hg _ _ _ _ (hg _ _ _ _ this))
  have b3 : IMap w6 (w.heap.size + 1 + 1 + 1) [] := by
    have := IMap.made w3
    rw [s3] at this
    exact (this.alloc _).alloc _
  have b4 : IMap w6 (w.heap.size + 1 + 1 + 1 + 1) [] := by
    have := IMap.made w4
    rw [s4] at this
    exact this.alloc _
  have b5 : IMap w6 (w.heap.size + 1 + 1 + 1 + 1 + 1) [] := by
    have := IMap.made w5
    rw [s5] at this
    exact this
  have hb : Below w.heap.size w w6 := ((((((Below.refl w.heap.size w).alloc (Nat.le_refl _) _).alloc (by rw [show (w.alloc (.cells #[] 3)).heap.size = _ from s1]; omega) _).alloc (by show _ ≤ w2.heap.size; omega) _).alloc (by show _ ≤ w3.heap.size; omega) _).alloc (by show _ ≤ w4.heap.size; omega) _).alloc (by show _ ≤ w5.heap.size; omega) _
  refine ⟨?_, hb⟩
  show Rep (fun k => w.heap.size ≤ k ∧ k < w6.heap.size) (newLay w.heap.size) (newSt y f) w6
  refine ⟨b2, b3, b4, b5, fun p hp => (by cases hp), Row.nil _ _ _ _, Row.nil _ _ _ _, b1, ⟨⟨rfl, .inr ⟨w.heap.size, 0, #[], rfl, Nat.zero_le _, b0, Nat.le_refl _, by decide, rfl, rfl⟩⟩, fun k hk => (by cases hk; exact ⟨Nat.le_refl _, by show w.heap.size < _; omega⟩)⟩,
    ⟨⟨?_, ?_⟩, ⟨?_, ?_⟩, ⟨?_, ?_⟩, ⟨?_, ?_⟩, ?_, ?_⟩, fun k hk => hk.2, ⟨?_, ?_, ?_⟩, List.nodup_nil, fun k hk => (by cases hk), fun p hp => (by cases hp)⟩
  all_goals simp only [newLay]; omega

set_option maxRecDepth 100000 in
set_option maxHeartbeats 2000000 in
theorem new_any (y f : Int) (hy : 4 ≤ y) (hy2 : y ≤ 60000) (hf : 4 ≤ f) (hf2 : f ≤ 60000) (w : World) : Calls Try.prog 5 #[.int .i64 y, .int .i64 f] w (NewPost y f w) := by
  have hmm := @run_makeMap Try.prog
  have h := newW_rep y f w
  have hfin : NewPost y f w (.returned (.tuple #[.pointer (some ⟨w.heap.size + 1 + 1, 0, none⟩), .int .i64 0])) (newW y f w) := ⟨newLay w.heap.size, rfl, h.1, h.2⟩
  have H := Lib.hid hfin
  clear hfin h
  go_enter Try.func5, Try.ntmps5
  go_wp2
  go_ret2
  exact H.out

set_option maxHeartbeats 400000 in
theorem mod_any (n m : Int) (hm : 0 < m) (hm2 : m < 1000) (w : World) :
    Calls Try.prog 6 #[.int .i64 n, .int .i64 m] w fun e w' => (∃ r, e = .returned (.int .i64 r) ∧ 0 ≤ r ∧ r < m) ∧ w' = w := by
  have h1 : n.tmod m < m := Int.tmod_lt_of_pos n hm
  have h2 : -m < n.tmod m := Int.lt_tmod_of_pos n hm
  go_enter Try.func6, Try.ntmps6
  go_wp2
  · go_ret
    exact ⟨⟨n.tmod m + m, rfl, by omega, by omega⟩, rfl⟩
  · go_ret
    exact ⟨⟨_, rfl, by omega, h1⟩, rfl⟩
end Go.Proofs.Ytpjifaefchnmoaa
