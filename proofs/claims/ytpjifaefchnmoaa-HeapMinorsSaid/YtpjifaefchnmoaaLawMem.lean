/- The law's own lists in memory: something is laid behind each; a pair is written. -/
import Derived.Test.YtpjifaefchnmoaaLaw4
namespace Go.Proofs.Ytpjifaefchnmoaa
open Go.RowKit

/-- The law's lists, each of its own length. -/
structure LG (B : Nat) (F : Nat → Prop) (vo vm vt : Value) (bs : List Nat) (os ms : List Int) (to : List (Int × Int)) (w : World) : Prop where
  ro : Row (fun b => B ≤ b ∧ ¬ F b) 3 1 w vo os.length (ints os)
  rm : Row (fun b => B ≤ b ∧ ¬ F b) 3 1 w vm ms.length (ints ms)
  rt : Row (fun b => B ≤ b ∧ ¬ F b) 28 1 w vt bs.length (bs.map fun b => .slice (some ⟨b, 0, none⟩) 2 2)
  tb : ∀ (j : Nat) b t, bs[j]? = some b → to[j]? = some t → w.heap[b]? = some (.cells #[.int .i64 t.1, .int .i64 t.2] 3 (0, 0)) ∧ B ≤ b ∧ ¬ F b ∧ vo.ownBlock ≠ some b ∧ vm.ownBlock ≠ some b
  nd : bs.Nodup
  len : bs.length = to.length
  om : ∀ k, vo.ownBlock = some k → vm.ownBlock ≠ some k

theorem info28 : (Try.prog.info? 28).map (fun i => (i.zero, i.size, i.bytes)) = some (some (.slice none 0 0), 1, 24) := by kernel_rfl

section lg
variable {B : Nat} {F : Nat → Prop} {vo vm vt : Value} {bs : List Nat} {os ms made : List Int} {to : List (Int × Int)} {w w' : World}

theorem LM.lg (h : LM B F vo vm vt bs made to w) : LG B F vo vm vt bs (nms made.length) made to w :=
  ⟨by rw [nms_len]; exact h.ro, h.rm, by rw [h.len.1]; exact h.rt, h.tb, h.nd, by rw [h.len.1, h.len.2], h.om⟩

theorem LG.lm (h : LG B F vo vm vt bs (nms made.length) made to w) (hl : to.length = made.length) : LM B F vo vm vt bs made to w :=
  ⟨by have := h.ro; rwa [nms_len] at this, h.rm, by rw [← hl, ← h.len]; exact h.rt, h.tb, h.nd, ⟨by rw [h.len, hl], hl⟩, h.om⟩

theorem LG.start (B : Nat) (F : Nat → Prop) (w : World) : LG B F (.slice none 0 0) (.slice none 0 0) (.slice none 0 0) [] [] [] [] w :=
  ⟨Row.nil _ _ _ _, Row.nil _ _ _ _, Row.nil _ _ _ _, fun j b t hb => by simp at hb, List.nodup_nil, rfl, fun k hk => by cases hk⟩

theorem LG.below (h : LG B F vo vm vt bs os ms to w) (hb : Below w.heap.size w w') : LG B F vo vm vt bs os ms to w' :=
  ⟨h.ro.below hb h.ro.lt', h.rm.below hb h.rm.lt', h.rt.below hb h.rt.lt', fun j b t h1 h2 => by
    obtain ⟨a1, a2⟩ := h.tb j b t h1 h2
    exact ⟨Below.get hb a1 (lt_of_blk a1), a2⟩, h.nd, h.len, h.om⟩

theorem LG.get (h : LG B F vo vm vt bs os ms to w) {j b : Nat} (hb : bs[j]? = some b) : ∃ t, to[j]? = some t ∧ w.heap[b]? = some (.cells #[.int .i64 t.1, .int .i64 t.2] 3 (0, 0)) ∧ B ≤ b ∧ ¬ F b ∧ vo.ownBlock ≠ some b ∧ vm.ownBlock ≠ some b := by
  have hj := (List.getElem?_eq_some_iff.1 hb).1
  have ht : to[j]? = some (to[j]'(by rw [← h.len]; exact hj)) := List.getElem?_eq_getElem _
  exact ⟨_, ht, h.tb j b _ hb ht⟩

theorem LG.pushO (h : LG B F vo vm vt bs os ms to w) (x : Int) (hl : os.length < 1000) (hB : B ≤ w.heap.size) (hF : ∀ k, F k → k < w.heap.size) :
    ∃ a cap w', (Builtin.append_ #[28, 28] 28 #[vo, .slice (some ⟨w.heap.size, 0, none⟩) 1 1]).run Try.prog (w.alloc (.cells #[.int .i64 x] 3)) = .ok (.slice a (os.length + 1) cap) w' ∧
      LG B F (.slice a (os.length + 1) cap) vm vt bs (os ++ [x]) ms to w' ∧ Ext (fun k => vo.ownBlock = some k) w w' := by
  have hr : Row (fun k => vo.ownBlock = some k) 3 1 w vo os.length (ints os) := ⟨h.ro.1, fun _ h => h⟩
  obtain ⟨v', w', r1, r2, r3, r4⟩ := hr.append1 (P := Try.prog) Try.underlying28 info3 rfl 28 (.int .i64 x) rfl (by omega) (by decide)
  obtain ⟨a, cap, rfl⟩ := r2.form
  have hnew : ∀ k, (Value.slice a (os.length + 1) cap).ownBlock = some k → vo.ownBlock = some k ∨ w.heap.size < k := fun k hk => by
    rcases r4 with e | ⟨b, e, hb⟩
    · exact .inl (e ▸ hk)
    · rw [e] at hk; cases hk; exact .inr hb
  refine ⟨a, cap, w', r1, ⟨?_, h.rm.ext r3 (fun k hk e => h.om k e hk), h.rt.ext r3 (fun k hk e => row_ne_row h.rt h.ro (by decide) hk e rfl), fun j b t hb ht => ?_, h.nd, h.len, fun k hk hk' => ?_⟩, r3⟩
  · have e1 : (os ++ [x]).length = os.length + 1 := by simp
    have e2 : ints (os ++ [x]) = ints os ++ [.int .i64 x] := by simp [ints]
    rw [e1, e2]
    refine ⟨r2.1, fun k hk => ?_⟩
    rcases hnew k hk with e | e
    · exact h.ro.2 k e
    · exact ⟨by omega, fun hf => by have := hF k hf; omega⟩
  · obtain ⟨a1, a2, a3, a4, a5⟩ := h.tb j b t hb ht
    refine ⟨r3.get a1 a4, a2, a3, fun hk => ?_, a5⟩
    rcases hnew b hk with e | e
    · exact a4 e
    · have := lt_of_blk a1; omega
  · rcases hnew k hk with e | e
    · exact h.om k e hk'
    · have := h.rm.lt hk'; omega

theorem LG.pushM (h : LG B F vo vm vt bs os ms to w) (x : Int) (hl : ms.length < 1000) (hB : B ≤ w.heap.size) (hF : ∀ k, F k → k < w.heap.size) :
    ∃ a cap w', (Builtin.append_ #[28, 28] 28 #[vm, .slice (some ⟨w.heap.size, 0, none⟩) 1 1]).run Try.prog (w.alloc (.cells #[.int .i64 x] 3)) = .ok (.slice a (ms.length + 1) cap) w' ∧
      LG B F vo (.slice a (ms.length + 1) cap) vt bs os (ms ++ [x]) to w' ∧ Ext (fun k => vm.ownBlock = some k) w w' := by
  have hr : Row (fun k => vm.ownBlock = some k) 3 1 w vm ms.length (ints ms) := ⟨h.rm.1, fun _ h => h⟩
  obtain ⟨v', w', r1, r2, r3, r4⟩ := hr.append1 (P := Try.prog) Try.underlying28 info3 rfl 28 (.int .i64 x) rfl (by omega) (by decide)
  obtain ⟨a, cap, rfl⟩ := r2.form
  have hnew : ∀ k, (Value.slice a (ms.length + 1) cap).ownBlock = some k → vm.ownBlock = some k ∨ w.heap.size < k := fun k hk => by
    rcases r4 with e | ⟨b, e, hb⟩
    · exact .inl (e ▸ hk)
    · rw [e] at hk; cases hk; exact .inr hb
  refine ⟨a, cap, w', r1, ⟨h.ro.ext r3 (fun k hk e => h.om k hk e), ?_, h.rt.ext r3 (fun k hk e => row_ne_row h.rt h.rm (by decide) hk e rfl), fun j b t hb ht => ?_, h.nd, h.len, fun k hk hk' => ?_⟩, r3⟩
  · have e1 : (ms ++ [x]).length = ms.length + 1 := by simp
    have e2 : ints (ms ++ [x]) = ints ms ++ [.int .i64 x] := by simp [ints]
    rw [e1, e2]
    refine ⟨r2.1, fun k hk => ?_⟩
    rcases hnew k hk with e | e
    · exact h.rm.2 k e
    · exact ⟨by omega, fun hf => by have := hF k hf; omega⟩
  · obtain ⟨a1, a2, a3, a4, a5⟩ := h.tb j b t hb ht
    refine ⟨r3.get a1 a5, a2, a3, a4, fun hk => ?_⟩
    rcases hnew b hk with e | e
    · exact a5 e
    · have := lt_of_blk a1; omega
  · rcases hnew k hk' with e | e
    · exact h.om k hk e
    · have := h.ro.lt hk; omega

/-- A new pair, in the block that was laid just ahead. -/
theorem LG.pushT (h : LG B F vo vm vt bs os ms to w) (t : Int × Int) (hl : bs.length < 1000) (hB : B ≤ w.heap.size) (hF : ∀ k, F k → k < w.heap.size) :
    ∃ a cap w', (Builtin.append_ #[29, 29] 29 #[vt, .slice (some ⟨w.heap.size + 1, 0, none⟩) 1 1]).run Try.prog ((w.alloc (.cells #[.int .i64 t.1, .int .i64 t.2] 3)).alloc (.cells #[.slice (some ⟨w.heap.size, 0, none⟩) 2 2] 28)) = .ok (.slice a (bs.length + 1) cap) w' ∧
      LG B F vo vm (.slice a (bs.length + 1) cap) (bs ++ [w.heap.size]) os ms (to ++ [t]) w' ∧ Ext (fun k => vt.ownBlock = some k) w w' := by
  have hal := (Below.refl w.heap.size w).alloc (Nat.le_refl _) (.cells #[.int .i64 t.1, .int .i64 t.2] 3)
  have hbn := Below.heap_new w (.cells #[.int .i64 t.1, .int .i64 t.2] 3)
  have hs1 : (w.alloc (.cells #[.int .i64 t.1, .int .i64 t.2] 3)).heap.size = w.heap.size + 1 := by simp
  have h1 := h.below hal
  have hr : Row (fun k => vt.ownBlock = some k) 28 1 (w.alloc (.cells #[.int .i64 t.1, .int .i64 t.2] 3)) vt bs.length (bs.map fun b => .slice (some ⟨b, 0, none⟩) 2 2) := ⟨h1.rt.1, fun _ h => h⟩
  obtain ⟨v', w', r1, r2, r3, r4⟩ := hr.append1 (P := Try.prog) Try.underlying29 info28 rfl 29 (.slice (some ⟨w.heap.size, 0, none⟩) 2 2) rfl (by omega) (by decide)
  rw [hs1] at r1
  obtain ⟨a, cap, rfl⟩ := r2.form
  have hnew : ∀ k, (Value.slice a (bs.length + 1) cap).ownBlock = some k → vt.ownBlock = some k ∨ w.heap.size + 1 < k := fun k hk => by
    rcases r4 with e | ⟨b, e, hb⟩
    · exact .inl (e ▸ hk)
    · rw [e] at hk; cases hk; rw [hs1] at hb; exact .inr hb
  have hw' := r3.get hbn (fun e => by have := h.rt.lt e; omega)
  refine ⟨a, cap, w', r1, ⟨h1.ro.ext r3 (fun k hk e => row_ne_row h1.ro h1.rt (by decide) hk e rfl), h1.rm.ext r3 (fun k hk e => row_ne_row h1.rm h1.rt (by decide) hk e rfl), ?_, fun j b t' hb ht => ?_, ?_, by simp [h.len], h.om⟩, (Below.ext hal _).trans r3 (fun i hi => .inl hi)⟩
  · have e1 : (bs ++ [w.heap.size]).length = bs.length + 1 := by simp
    rw [e1, List.map_append]
    refine ⟨r2.1, fun k hk => ?_⟩
    rcases hnew k hk with e | e
    · exact h.rt.2 k e
    · exact ⟨by omega, fun hf => by have := hF k hf; omega⟩
  · by_cases hj : j < bs.length
    · rw [List.getElem?_append_left hj] at hb
      rw [List.getElem?_append_left (by rw [← h.len]; exact hj)] at ht
      obtain ⟨a1, a2, a3, a4, a5⟩ := h1.tb j b t' hb ht
      exact ⟨r3.get a1 (fun e => row_ne_cells h1.rt a1 (by decide) e rfl), a2, a3, a4, a5⟩
    · rw [List.getElem?_append_right (by omega)] at hb
      rw [List.getElem?_append_right (by rw [← h.len]; omega)] at ht
      have hjb : j - bs.length = 0 := by
        have := (List.getElem?_eq_some_iff.1 hb).1
        simp at this; omega
      rw [hjb] at hb
      rw [← h.len, hjb] at ht
      simp at hb ht
      subst hb; subst ht
      refine ⟨hw', hB, fun hf => Nat.lt_irrefl _ (hF _ hf), fun hk => ?_, fun hk => ?_⟩
      · have := h.ro.lt hk; omega
      · have := h.rm.lt hk; omega
  · rw [List.nodup_append]
    refine ⟨h.nd, by simp, ?_⟩
    intro b hb c hc e
    simp at hc
    subst hc; subst e
    obtain ⟨j, hj⟩ := List.mem_iff_getElem?.1 hb
    obtain ⟨t', _, a1, _⟩ := h.get hj
    have := lt_of_blk a1
    omega

/-- A pair is written. -/
theorem LG.setT (h : LG B F vo vm vt bs os ms to w) {j b : Nat} {t : Int × Int} (hb : bs[j]? = some b) (ht : to[j]? = some t) {c : Nat} (hc : c < 2) (x : Int) :
    LG B F vo vm vt bs os ms (to.set j (putTo t c x)) (w.setCell ⟨b, c, none⟩ (.int .i64 x)) ∧ Ext (· = b) w (w.setCell ⟨b, c, none⟩ (.int .i64 x)) := by
  have hE := ext_setCell w b c (.int .i64 x)
  obtain ⟨a1, a2, a3, a4, a5⟩ := h.tb j b t hb ht
  have hg := get_setCell a1 c (.int .i64 x)
  refine ⟨⟨h.ro.ext hE (fun k hk e => a4 (e ▸ hk)), h.rm.ext hE (fun k hk e => a5 (e ▸ hk)), h.rt.ext hE (fun k hk e => row_ne_cells h.rt a1 (by decide) hk e), fun j' b' t' hb' ht' => ?_, h.nd, by rw [List.length_set]; exact h.len, h.om⟩, hE⟩
  by_cases e : j' = j
  · subst e
    rw [hb] at hb'; cases hb'
    rw [List.getElem?_set, if_pos rfl, if_pos (List.getElem?_eq_some_iff.1 ht).1] at ht'
    cases ht'
    refine ⟨?_, a2, a3, a4, a5⟩
    rw [hg]
    match c, hc with
    | 0, _ => rfl
    | 1, _ => rfl
  · rw [List.getElem?_set, if_neg (fun e' => e e'.symm)] at ht'
    obtain ⟨b1, b2⟩ := h.tb j' b' t' hb' ht'
    refine ⟨hE.get b1 (fun eb => e ?_), b2⟩
    rw [eb] at hb'
    exact (List.getElem?_inj (List.getElem?_eq_some_iff.1 hb').1 h.nd).1 (hb'.trans hb.symm)
end lg
end Go.Proofs.Ytpjifaefchnmoaa
