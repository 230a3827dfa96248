/- Proved: for every list of triples of numbers that is handed to skerrylaw22.HeapMinors, the call returns true and the list reads behind the call as it read before.
   Conditions: none beyond the given row's own. -/
import Derived.Test.YtpjifaefchnmoaaMain
import Derived.ProofKit
import Derived.Below
import Derived.OpenShut
import Derived.Carry
import Derived.ChangeSame
import Derived.Deep.Slices
namespace Go.Proofs.Ytpjifaefchnmoaa
open Go.ChangeShapes Go.WideShapes Go.ChangeAt Go.RowKit

theorem Try.own : ownKnob Try.prog.godebug = none := by kernel_rfl
theorem Try.laidOut : laidOutB Try.prog = true := by kernel_rfl
theorem cellsOf31 : Try.prog.cellsOf 31 = 3 := by kernel_rfl
theorem cellsOf3 : Try.prog.cellsOf 3 = 1 := by kernel_rfl

set_option maxRecDepth 100000 in
/-- The law's input, out of its reading. -/
theorem inL_of {H : Type} {enc : TypeId × Value → H} {W : World} {v : Value} {d : DataW H} {p : List MemPlace} (hv : Value.okWide Try.prog W .any 0 22 v)
    (h : DataW.Trod enc Try.prog W 0 (fun _ => true) true 22 v d p) : ∃ n, InL W v n := by
  obtain ⟨a, len, cap, rfl⟩ := okWide_slice Try.underlying22 hv
  obtain ⟨fuel, hf⟩ := h
  refine ⟨len, a, cap, rfl, fun i hi => ?_⟩
  rcases Deep.open_slice Try.underlying22 hf with ⟨e, _⟩ | ⟨b, len', cap', m, n, D, Pl, e, hb, hl, hm, hmm, _, hx⟩
  · simp [Value.cells] at e
    omega
  · simp only [Value.cells, List.cons.injEq, Value.slice.injEq, and_true] at e
    obtain ⟨rfl, rfl, rfl⟩ := e
    have hlm : len ≤ m := by rw [hmm]; split <;> omega
    have hcell : ∀ i, i < len → ∃ x0 x1 x2, W.cell? (b.add (i * 3)) = some (.int .i64 x0) ∧ W.cell? ((b.add (i * 3)).add 1) = some (.int .i64 x1) ∧ W.cell? ((b.add (i * 3)).add 2) = some (.int .i64 x2) := by
      intro i hi
      obtain ⟨cs', h1, h2⟩ := hx i (by omega)
      rw [cellsOf31] at h1
      obtain ⟨_, hlen, hc⟩ := World.cells?_some h1
      obtain ⟨ys, k, _, _, _, hl3, hel⟩ := DataW.trod_array Try.underlying31 h2
      rw [cellsOf3] at hel
      match ys, hl3, cs', hlen with
      | [y0, y1, y2], _, [v0, v1, v2], _ =>
        have g0 := hel 0 (by decide)
        have g1 := hel 1 (by decide)
        have g2 := hel 2 (by decide)
        simp at g0 g1 g2
        obtain ⟨x0, e0, _⟩ := DataW.trod_int Try.underlying3 g0
        obtain ⟨x1, e1, _⟩ := DataW.trod_int Try.underlying3 g1
        obtain ⟨x2, e2, _⟩ := DataW.trod_int Try.underlying3 g2
        simp at e0 e1 e2
        subst e0; subst e1; subst e2
        have c0 := hc 0 (by decide)
        have c1 := hc 1 (by decide)
        have c2 := hc 2 (by decide)
        exact ⟨x0, x1, x2, by simpa [Addr.add] using c0, by simpa using c1, by simpa using c2⟩
    obtain ⟨bb, off, sp⟩ := b
    have hsp : sp = none := by
      obtain ⟨x0, _, _, h0, _⟩ := hcell 0 (by omega)
      cases sp with
      | none => rfl
      | some s =>
        exfalso
        have e : (⟨bb, off, some s⟩ : Addr).add (0 * 3) = ⟨bb, off, some s⟩ := by simp [Addr.add]
        rw [e] at h0
        unfold World.cell? at h0
        split at h0 <;> simp_all
    subst hsp
    obtain ⟨x0, x1, x2, h0, h1, h2⟩ := hcell i hi
    have e0 : (⟨bb, off, none⟩ : Addr).add (i * 3) = ⟨bb, off + i * 3, none⟩ := by unfold Addr.add; split <;> simp_all
    have e1 : (⟨bb, off + i * 3, none⟩ : Addr).add 1 = ⟨bb, off + i * 3 + 1, none⟩ := rfl
    have e2 : (⟨bb, off + i * 3, none⟩ : Addr).add 2 = ⟨bb, off + i * 3 + 2, none⟩ := rfl
    rw [e0] at h0 h1 h2
    rw [e1] at h1
    rw [e2] at h2
    exact ⟨bb, off, x0, x1, x2, rfl, World.block_lt_of_cell? W _ h0, h0, h1, h2⟩

set_option maxRecDepth 100000 in
theorem heapMinors_lifted (os : Os) (started : os.Started) (H : Type) (enc : TypeId × Value → H) :
    ReturnsInHanded {} Try.checked os 3 .any (Rows.heapMinorsSpec.pre6 enc Try.prog Try.f3 Rows.heapMinorsRow.domain false) (Rows.heapMinorsSpec.post enc Try.prog Try.f3 false true false false) := by
  refine returnsInHanded_of_change (C := Try.checked) Try.own started (by kernel_rfl) Try.func3
    (ChangeSpec.witness6 (enc := enc) (C := Try.checked) false ⟨#[], #[.slice none 0 0], []⟩ 8 (by kernel_rfl) (by kernel_rfl) (by kernel_rfl) (by kernel_rfl)) ?_
  intro W base args ds gs before hval0 hW hcnd _
  have hval : ∀ (j : Nat) t v, Try.f3.params[j]? = some t → args[j]? = some v → Value.okWide Try.prog W .any base t v := hval0
  have hW' := hW
  obtain ⟨p, q, hA0, hV, rfl, hfz, hnd⟩ := hW
  have hA : DataW.TrodAll enc Try.prog W 0 (fun _ => true) true Try.f3.params.toList args.toList ds p := hA0
  rw [Try.params3] at hA hval
  obtain ⟨v0, d0, rfl, rfl, h0⟩ := trodAll_one hA
  obtain ⟨rfl, rfl⟩ := trodVars_none hV
  obtain ⟨n, hin⟩ := inL_of (hval 0 22 v0 rfl rfl) h0
  clear hA0 hval0
  simp only [List.append_nil] at hW'
  have hlt := hW'.lt
  refine (heapMinors_any W v0 n hin).mono fun e W' ⟨he, hw⟩ => ?_
  subst he
  refine ⟨_, rfl, [d0], [], p, [], p, [], hW', trodAll_mk1 (shut_bool Try.underlying4 true), trodAll_mk1 (WideElems.Trod_stays Try.laidOut (by kernel_rfl) (of_decide_eq_true (by kernel_rfl)) h0 (fun x hx => hw.same (hlt x hx)) (fun x hx => by simpa using hlt x hx)), rfl, ?_, fun h => by cases h⟩
  exact World.keptBut_mono (fun x hx => ⟨hx, .inr (.inl hx)⟩) (hw.frame (· ∈ p))

theorem heapMinors_holds : Rows.HeapMinorsSaid :=
  OpenClaim.holds_of_wide 3 Try.f3 rfl rfl rfl rfl rfl rfl rfl ⟨rfl, rfl, rfl, rfl, rfl⟩ rfl rfl rfl rfl rfl (by kernel_rfl) Try.func3 (by kernel_rfl)
    (of_decide_eq_true (by kernel_rfl)) (by unfold Func.isWrapper; first | (rw [if_pos (by decide +kernel)]; kernel_rfl) | (rw [if_neg (by decide +kernel)]; exact ⟨rfl, rfl⟩))
    (fun os started H enc _ => heapMinors_lifted os started H enc)
end Go.Proofs.Ytpjifaefchnmoaa
