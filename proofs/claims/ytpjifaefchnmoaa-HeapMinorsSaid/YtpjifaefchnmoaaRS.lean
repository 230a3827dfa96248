/- What the walk over objects and the list of tables are in memory while reached and minor run. -/
import Derived.Test.YtpjifaefchnmoaaReachPure
namespace Go.Proofs.Ytpjifaefchnmoaa
open Go.RowKit

/-- Behind w: the walk (wb, sb) with S seen and T to do, and the row tv of the tables U; all of it lies in new blocks, apart from each other. -/
def RS (B : Nat) (w w' : World) (wb sb : Nat) (tv : Value) (S T U : List Int) : Prop :=
  Below B w w' ∧ Row (fun k => B ≤ k) 3 1 w' tv U.length (ints U) ∧ ∃ G, WalkR G w' wb sb S T ∧ ∀ k, G k → B ≤ k ∧ k < w'.heap.size ∧ tv.ownBlock ≠ some k

section rs
variable {B : Nat} {w w' w'' : World} {wb sb : Nat} {tv : Value} {S T U : List Int}

theorem Row.lt' {F : Nat → Prop} {e : TypeId} {size : Nat} {w : World} {v : Value} {n : Nat} {xs : List Value} (h : Row F e size w v n xs) : ∀ k, v.ownBlock = some k → k < w.heap.size := fun _ hk => h.lt hk

theorem RS.alloc (h : RS B w w' wb sb tv S T U) (hb : Below w'.heap.size w' w'') (hB : B ≤ w'.heap.size) : RS B w w'' wb sb tv S T U := by
  obtain ⟨h1, h2, G, h3, h4⟩ := h
  refine ⟨h1.trans (hb.mono hB), h2.below hb h2.lt', G, h3.of_block (fun k hk _ => hb.block k (h4 k hk).2.1), fun k hk => ⟨(h4 k hk).1, Nat.lt_of_lt_of_le (h4 k hk).2.1 hb.size, (h4 k hk).2.2⟩⟩

theorem RS.drewN (h : RS B w w' wb sb tv S T U) (hB : B ≤ w'.heap.size) (m : Nat) : RS B w (w'.drewN m) wb sb tv S T U := h.alloc (below_drewN (Below.refl _ _) m) hB

theorem RS.cells (h : RS B w w' wb sb tv S T U) : ∃ a cap, w'.heap[wb]? = some (.cells #[.map (some sb), .slice a T.length cap] 90 (0, 0)) ∧ IMap w' sb (S.map fun n => (n, .bool true)) := by
  obtain ⟨h1, h2, G, ⟨t, q1, q2, q3, q4, q5⟩, h4⟩ := h
  obtain ⟨a, cap, rfl⟩ := q3.form
  exact ⟨a, cap, q1, q2⟩

theorem RS.see (h : RS B w w' wb sb tv S T U) (hT : T.length < 100000) (hB : B ≤ w.heap.size) (n : Int) :
    Calls Try.prog 42 #[.pointer (some ⟨wb, 0, none⟩), .int .i64 n] w' fun e w'' => e = .returned (.tuple #[]) ∧ RS B w w'' wb sb tv (seeA (S, T) n).1 (seeA (S, T) n).2 U := by
  obtain ⟨h1, h2, G, h3, h4⟩ := h
  refine (see_any G w' wb sb S T n h3 hT).mono ?_
  rintro e w'' ⟨rfl, hw, hE⟩
  refine ⟨rfl, h1.trans (hE.below (Nat.le_trans hB h1.size) fun k hk => (h4 k hk).1), h2.ext hE fun k hk hg => (h4 k hg).2.2 hk, _, hw, ?_⟩
  rintro k (hk | hk)
  · exact ⟨(h4 k hk).1, Nat.lt_of_lt_of_le (h4 k hk).2.1 hE.size, (h4 k hk).2.2⟩
  · refine ⟨Nat.le_trans (Nat.le_trans hB h1.size) hk.1, hk.2, fun e => ?_⟩
    have := h2.lt e
    omega

/-- A table more. -/
theorem RS.tab (h : RS B w w' wb sb tv S T U) (hU : U.length < 100000) (hB : B ≤ w.heap.size) (n : Int) :
    ∃ a cap w'', (Builtin.append_ #[28, 28] 28 #[tv, .slice (some ⟨w'.heap.size, 0, none⟩) 1 1]).run Try.prog (w'.alloc (.cells #[.int .i64 n] 3)) = .ok (.slice a (U.length + 1) cap) w'' ∧
      RS B w w'' wb sb (.slice a (U.length + 1) cap) S T (U ++ [n]) := by
  obtain ⟨h1, h2, G, h3, h4⟩ := h
  obtain ⟨a, cap, w'', r1, r2, r3, r4, r5⟩ := app_step (w0 := w) n h2 h1 (Nat.le_trans hB h1.size) (by omega)
  refine ⟨a, cap, w'', r1, r3, by simpa using r2, G, h3.of_block (fun k hk hl => r4.block k hl fun e => (h4 k hk).2.2 e), fun k hk => ⟨(h4 k hk).1, Nat.lt_of_lt_of_le (h4 k hk).2.1 r4.size, ?_⟩⟩
  rcases r5 with e | ⟨b, e, hb⟩
  · rw [e]; exact (h4 k hk).2.2
  · rw [e]
    intro e'
    cases e'
    have := (h4 k hk).2.1
    omega

/-- The last one that is to be looked at: where it lies; what is left when it is taken off. -/
theorem RS.last {n : Int} (h : RS B w w' wb sb tv S (T ++ [n]) U) (hB : B ≤ w.heap.size) :
    ∃ g cap, w'.heap[wb]? = some (.cells #[.map (some sb), .slice (some ⟨g, 0, none⟩) (T.length + 1) cap] 90 (0, 0)) ∧ w'.cell? ⟨g, T.length, none⟩ = some (.int .i64 n) ∧ T.length + 1 ≤ cap ∧
      RS B w (w'.setCell ⟨wb, 1, none⟩ (.slice (some ⟨g, 0, none⟩) T.length cap)) wb sb tv S T U := by
  obtain ⟨h1, h2, G, ⟨t, q1, q2, q3, q4, q5⟩, h4⟩ := h
  rcases q3.cases with ⟨_, h0, _⟩ | ⟨g, cap, cur, rfl, hF, hg, hnc, hcm, hcs, htk⟩
  · simp at h0
  · have hlen : (T ++ [n]).length = T.length + 1 := by simp
    rw [hlen] at q1 q3 hnc htk
    refine ⟨g, cap, q1, ?_, hnc, ?_⟩
    · rw [q3.cell T.length (by omega)]
      simp [ints]
    · have hE := ext_setCell w' wb 1 (.slice (some ⟨g, 0, none⟩) T.length cap)
      have hgw : ¬ g = wb := cells_ne hg q1 (by decide)
      refine ⟨h1.trans (hE.below (Nat.le_trans hB h1.size) fun k hk => hk ▸ (h4 wb q4).1), h2.ext hE fun k hk e => (h4 wb q4).2.2 (e ▸ hk), G, ⟨.slice (some ⟨g, 0, none⟩) T.length cap, ?_, ?_, ?_, q4, q5⟩, fun k hk => ⟨(h4 k hk).1, Nat.lt_of_lt_of_le (h4 k hk).2.1 hE.size, (h4 k hk).2.2⟩⟩
      · have := get_setCell q1 1 (.slice (some ⟨g, 0, none⟩) T.length cap)
        simpa using this
      · exact q2.ext hE (map_ne_cells q2 q1)
      · have hg' := hE.get hg hgw
        refine ⟨⟨by simp [ints], .inr ⟨g, cap, cur, rfl, Nat.zero_le _, hg', by omega, hcm, hcs, ?_⟩⟩, fun k hk => by cases hk; exact hF⟩
        have := congrArg (fun x => x.take T.length) htk
        simp only [List.take_take] at this
        rw [Nat.mul_one, ← Nat.min_eq_left (Nat.le_succ T.length)]
        simp only [Nat.mul_one] at this
        rw [this]
        simp [ints]
end rs
end Go.Proofs.Ytpjifaefchnmoaa
