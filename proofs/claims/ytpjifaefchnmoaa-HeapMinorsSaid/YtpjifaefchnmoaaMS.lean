/- What the walk over young objects is in memory while minor runs; the closure that sees the young ones; values where there are no tables. -/
import Derived.Test.YtpjifaefchnmoaaMajor
import Derived.StillTailTactics
namespace Go.Proofs.Ytpjifaefchnmoaa
open Go.RowKit

/-- Since wx only the walk (wb, sb) has changed, and what is new: S was seen, T is still to be looked at. -/
def MS (wx w' : World) (wb sb : Nat) (S T : List Int) : Prop :=
  Ext (fun k => k = sb ∨ k = wb) wx w' ∧ ∃ G, WalkR G w' wb sb S T ∧ ∀ k, G k → k < w'.heap.size ∧ (k = sb ∨ k = wb ∨ wx.heap.size ≤ k)

/-- What the closure makes of a name. -/
def seeY (st : St) (s : List Int × List Int) (n : Int) : List Int × List Int := if yng st n then seeA s n else s

section ms
variable {F : Nat → Prop} {L : Lay} {st : St} {wx w w' w'' : World} {S T : List Int} {wb sb cb pb : Nat}

theorem MS.cells (h : MS wx w' wb sb S T) : ∃ tv, w'.heap[wb]? = some (.cells #[.map (some sb), tv] 90 (0, 0)) ∧ IMap w' sb (S.map fun n => (n, .bool true)) ∧ Row (fun _ => True) 3 1 w' tv T.length (ints T) := by
  obtain ⟨_, G, ⟨t, q1, q2, q3, q4, q5⟩, h4⟩ := h
  exact ⟨t, q1, q2, q3.mono fun _ _ => trivial⟩

theorem MS.see (h : MS wx w' wb sb S T) (hT : T.length < 100000) (n : Int) :
    Calls Try.prog 42 #[.pointer (some ⟨wb, 0, none⟩), .int .i64 n] w' fun e w'' => e = .returned (.tuple #[]) ∧ MS wx w'' wb sb (seeA (S, T) n).1 (seeA (S, T) n).2 := by
  obtain ⟨h1, G, h4, h5⟩ := h
  refine (see_any G w' _ _ S T n h4 hT).mono ?_
  rintro e w'' ⟨rfl, hw, hE⟩
  refine ⟨rfl, h1.trans hE (fun k hk => ?_), _, hw, ?_⟩
  · rcases (h5 k hk).2 with h | h | h
    · exact .inl (.inl h)
    · exact .inl (.inr h)
    · exact .inr h
  · rintro k (hk | hk)
    · exact ⟨Nat.lt_of_lt_of_le (h5 k hk).1 hE.size, (h5 k hk).2⟩
    · exact ⟨hk.2, .inr (.inr (Nat.le_trans h1.size hk.1))⟩

set_option maxHeartbeats 400000 in
/-- A name that was seen. -/
theorem see_seen (q : w'.cell? ⟨wb, 0, none⟩ = some (.map (some sb))) (hI : IMap w' sb (S.map fun n => (n, .bool true))) {n : Int} (hn : n ∈ S) :
    Calls Try.prog 42 #[.pointer (some ⟨wb, 0, none⟩), .int .i64 n] w' fun e w'' => e = .returned (.tuple #[]) ∧ w'' = w' := by
  have lk := hI.look Try.underlying58 Try.underlying3 (zero4 w') n false
  rw [look_seen, if_pos hn] at lk
  clear hI
  go_enter Try.func42, Try.ntmps42
  go_wp2
  go_end0
  exact ⟨rfl, rfl⟩

set_option maxHeartbeats 400000 in
/-- The closure, with what see does handed in. -/
theorem see40_any (q0 : w'.cell? ⟨cb, 0, none⟩ = some (.pointer (some ⟨L.hb, 0, none⟩))) (q3 : w'.cell? ⟨pb, 0, none⟩ = some (.pointer (some ⟨wb, 0, none⟩))) (R : Rep F L st w') (n : Int) {Φ : World → Prop}
    (hy1 : yng st n = true → Calls Try.prog 42 #[.pointer (some ⟨wb, 0, none⟩), .int .i64 n] w' fun e w'' => e = .returned (.tuple #[]) ∧ Φ w'') (hy0 : yng st n = false → Φ w') :
    Calls Try.prog 40 #[.int .i64 n, .pointer (some ⟨cb, 0, none⟩), .pointer (some ⟨pb, 0, none⟩)] w' fun e w'' => e = .returned (.tuple #[]) ∧ Φ w'' := by
  have Hy := Lib.hid (isYoung_any R n)
  clear R
  cases hy : yng st n
  · rw [hy] at Hy
    have H0 := Lib.hid (hy0 hy)
    clear hy0 hy1
    go_enter Try.func40, Try.ntmps40
    go_wp2_with (go_at_call 41; refine Hy.out.mono ?_; rintro e w1 ⟨rfl, rfl⟩)
    go_end0
    exact ⟨rfl, H0.out⟩
  · rw [hy] at Hy
    have Hs := Lib.hid (hy1 hy)
    clear hy0 hy1
    go_enter Try.func40, Try.ntmps40
    go_wp2_with (first | (go_at_call 41; refine Hy.out.mono ?_; rintro e w1 ⟨rfl, rfl⟩) | (go_at_call 42; refine Hs.out.mono ?_; rintro e w1 ⟨rfl, hm1⟩; have Hm1 := Lib.hid hm1; clear hm1))
    go_end0
    exact ⟨rfl, Hm1.out⟩

theorem MS.see40 (h : MS wx w' wb sb S T) (hT : T.length < 100000) (q0 : w'.cell? ⟨cb, 0, none⟩ = some (.pointer (some ⟨L.hb, 0, none⟩))) (q3 : w'.cell? ⟨pb, 0, none⟩ = some (.pointer (some ⟨wb, 0, none⟩))) (R : Rep F L st w') (n : Int) :
    Calls Try.prog 40 #[.int .i64 n, .pointer (some ⟨cb, 0, none⟩), .pointer (some ⟨pb, 0, none⟩)] w' fun e w'' => e = .returned (.tuple #[]) ∧ MS wx w'' wb sb (seeY st (S, T) n).1 (seeY st (S, T) n).2 := by
  refine see40_any q0 q3 R n (fun hy => ?_) (fun hy => ?_)
  · have := h.see hT n
    simpa [seeY, hy] using this
  · simpa [seeY, hy] using h

theorem see40_done (q0 : w'.cell? ⟨cb, 0, none⟩ = some (.pointer (some ⟨L.hb, 0, none⟩))) (q3 : w'.cell? ⟨pb, 0, none⟩ = some (.pointer (some ⟨wb, 0, none⟩))) (qw : w'.cell? ⟨wb, 0, none⟩ = some (.map (some sb))) (hI : IMap w' sb (S.map fun n => (n, .bool true)))
    (R : Rep F L st w') (hS : ∀ n, yng st n = true → n ∈ S) (n : Int) :
    Calls Try.prog 40 #[.int .i64 n, .pointer (some ⟨cb, 0, none⟩), .pointer (some ⟨pb, 0, none⟩)] w' fun e w'' => e = .returned (.tuple #[]) ∧ w'' = w' :=
  see40_any q0 q3 R n (fun hy => see_seen qw hI (hS n hy)) (fun _ => rfl)

set_option maxHeartbeats 400000 in
theorem values_nil (w : World) (c : Value) (wk fv : Value) : Calls Try.prog 46 #[c, .slice none 0 0, wk, fv] w fun e w' => e = .returned (.tuple #[]) ∧ w' = w := by
  go_enter Try.func46, Try.ntmps46
  go_wp2
  go_loopw [14] (fun i wr => i = .int .i64 0 ∧ wr = w) (fun _ _ => 0)
  case atStart => exact ⟨rfl, rfl⟩
  case round =>
    obtain ⟨rfl, hw⟩ := hrel
    subst hw
    go_wp2
    go_end0
    exact ⟨rfl, rfl⟩

/-! ### what was seen when some roots have been handed over -/
structure YI (st : St) (l S T : List Int) : Prop where
  y : ∀ n ∈ S, yng st n = true
  t : ∀ n ∈ T, n ∈ S
  all : ∀ n ∈ l, yng st n = true → n ∈ S
  len : T.length ≤ l.length
  nd : T.Nodup

theorem YI.start : YI st [] [] [] := ⟨by simp, by simp, by simp, Nat.le_refl _, by simp⟩

theorem YI.step {l : List Int} (h : YI st l S T) (n : Int) : YI st (l ++ [n]) (seeY st (S, T) n).1 (seeY st (S, T) n).2 := by
  unfold seeY
  by_cases hy : yng st n = true
  · rw [if_pos hy]
    unfold seeA
    by_cases hn : n ∈ S
    · rw [if_pos hn]
      refine ⟨h.y, h.t, ?_, ?_, h.nd⟩
      · intro m hm hy
        rcases List.mem_append.1 hm with hm | hm
        · exact h.all m hm hy
        · simp at hm; subst hm; exact hn
      · have := h.len; simp; omega
    · rw [if_neg hn]
      refine ⟨?_, ?_, ?_, ?_, ?_⟩
      · intro m hm
        rcases List.mem_append.1 hm with hm | hm
        · exact h.y m hm
        · simp at hm; subst hm; exact hy
      · intro m hm
        rcases List.mem_append.1 hm with hm | hm
        · exact List.mem_append_left _ (h.t m hm)
        · exact List.mem_append_right _ hm
      · intro m hm hy
        rcases List.mem_append.1 hm with hm | hm
        · exact List.mem_append_left _ (h.all m hm hy)
        · exact List.mem_append_right _ hm
      · have := h.len; simp; omega
      · rw [List.nodup_append]
        refine ⟨h.nd, by simp, ?_⟩
        intro a ha b hb e
        simp at hb; subst hb; subst e
        exact hn (h.t _ ha)
  · rw [if_neg hy]
    refine ⟨h.y, h.t, ?_, ?_, h.nd⟩
    · intro m hm hy'
      rcases List.mem_append.1 hm with hm | hm
      · exact h.all m hm hy'
      · simp at hm; subst hm; exact absurd hy' hy
    · have := h.len; simp; omega
end ms
end Go.Proofs.Ytpjifaefchnmoaa
