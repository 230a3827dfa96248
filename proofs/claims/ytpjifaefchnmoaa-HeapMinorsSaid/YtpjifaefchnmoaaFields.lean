/- Fields of an object, and what they refer to. -/
import Derived.Test.YtpjifaefchnmoaaReads
namespace Go.Proofs.Ytpjifaefchnmoaa
open Go.RowKit

/-- The words of the space in which an object lies. -/
def rowOf (st : St) (o : Ob) : List Wd := if o.old then st.m1 else st.m0
def sliceOf (L : Lay) (o : Ob) : Value := if o.old then L.s1 else L.s0

section fields
variable {F : Nat → Prop} {L : Lay} {st : St} {w : World}

theorem Rep.rowS (R : Rep F L st w) (o : Ob) : Row F 66 2 w (sliceOf L o) (rowOf st o).length (wdCells (rowOf st o)) := by
  unfold sliceOf rowOf; cases o.old
  · exact R.r0
  · exact R.r1

def FieldsPost (w : World) (g at_ size : Nat) (e : Ending) (w' : World) : Prop :=
  ∃ a cap m, e = .returned (.slice (some a) size cap) ∧ (0 < size → a = ⟨g, (at_ + 1) * 2, none⟩) ∧ w' = w.drewN m

theorem fieldsPost_mk {w : World} {g at_ size n cap m : Nat} {a : Addr} (hn : n = size) (h : 0 < size → a = ⟨g, (at_ + 1) * 2, none⟩) : FieldsPost w g at_ size (.returned (.slice (some a) n cap)) (w.drewN m) :=
  ⟨a, cap, m, by rw [hn], h, rfl⟩

set_option maxHeartbeats 800000 in
theorem fields_any (R : Rep F L st w) {n : Int} {o : Ob} (h : alook st.objs n = some o) (hat : o.at_ + 1 + o.size ≤ (rowOf st o).length) (hsz : (rowOf st o).length < 1000000) :
    ∃ g len cap, sliceOf L o = .slice (some ⟨g, 0, none⟩) len cap ∧ Calls Try.prog 31 #[.pointer (some ⟨L.hb, 0, none⟩), .pointer (some ⟨o.b, 0, none⟩)] w (FieldsPost w g o.at_ o.size) := by
  have hr := R.rowS o
  rcases hr.cases with ⟨_, h0, _⟩ | ⟨g, cap, cur, hv, _, hg, hnc, hcm, hcs, htk⟩
  · omega
  refine ⟨g, _, cap, hv, ?_⟩
  have hsp := Lib.hid (fun m => space_any (R.drewN m) h)
  have c2 : w.cell? ⟨L.hb, 2 + (if o.old then 1 else 0), none⟩ = some (.slice (some ⟨g, 0, none⟩) (rowOf st o).length cap) := by
    have := R.hc (2 + (if o.old then 1 else 0))
    rw [← hv, this]
    unfold sliceOf; cases o.old <;> rfl
  have d3 : w.cell? ⟨o.b, 3, none⟩ = some (.int .i64 o.at_) := R.oc h 3
  have d1 : w.cell? ⟨o.b, 1, none⟩ = some (.int .i64 o.size) := R.oc h 1
  generalize (rowOf st o).length = N at *
  clear R h hr hv hg hcs htk cur
  by_cases hc : cap = o.at_ + 1
  all_goals
    cases ho : o.old
    all_goals
      rw [ho] at c2 hsp
      simp only [if_true, if_false, Bool.false_eq_true] at c2 hsp
      clear ho
      go_enter Try.func31, Try.ntmps31
      go_wp2
      go_quiet ((go_at_call 55; exact Calls.quiet_of_same (hsp.out _)))
      go_wp2
      go_ret
      first
        | exact fieldsPost_mk (by omega) (fun h0 => by exfalso; omega)
        | exact fieldsPost_mk (by omega) (fun _ => rfl)
end fields
end Go.Proofs.Ytpjifaefchnmoaa
