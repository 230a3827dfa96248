/- The method handle: a new handle, or the least that is free. -/
import Derived.Test.YtpjifaefchnmoaaMinor2
namespace Go.Proofs.Ytpjifaefchnmoaa
open Go.RowKit

theorem methInfo (name : String) {F : Nat} {b : Bool} (hm : (Try.prog.info? 52).bind (fun i => (i.methods.find? (·.name == name)).map fun m => (m.path.toList.length, m.func)) = some (0, some (F, b))) :
    ∃ i m, Try.prog.info? 52 = some i ∧ i.methods.find? (·.name == name) = some m ∧ m.path = #[] ∧ m.func = some (F, b) := by
  cases hi : Try.prog.info? 52 with
  | none => rw [hi] at hm; cases hm
  | some i =>
    rw [hi] at hm
    simp only [Option.bind_some, Option.map_eq_some_iff, Prod.mk.injEq] at hm
    obtain ⟨m, h1, h2, h3⟩ := hm
    exact ⟨i, m, rfl, h1, by simpa using h2, h3⟩

theorem meth_ptr {w : World} {fb : Nat} (name : String) {F : Nat} (hm : (Try.prog.info? 52).bind (fun i => (i.methods.find? (·.name == name)).map fun m => (m.path.toList.length, m.func)) = some (0, some (F, true))) (k : Nat) :
    (method (k + 1) 52 (.pointer (some ⟨fb, 0, none⟩)) name).run Try.prog w = .ok (F, .pointer (some ⟨fb, 0, none⟩)) w := by
  obtain ⟨i, m, hi, h1, h2, h3⟩ := methInfo name hm
  unfold method
  simp [typeInfo, hi, h1, h2, h3, follow, receiverAt, run_underlying Try.underlying52, Place.get, Result.andThen]

theorem wrap_ok (a : Array TypeId) (t : TypeId) (p : Addr) (s m : ByteArray) : Builtin.ssaWrapNilChk_ a t #[.pointer (some p), .string s, .string m] = pure (.pointer (some p)) := rfl

theorem meth_val {w : World} {fb : Nat} (name : String) {F : Nat} (hm : (Try.prog.info? 52).bind (fun i => (i.methods.find? (·.name == name)).map fun m => (m.path.toList.length, m.func)) = some (0, some (F, false))) (k : Nat) {v : Value} (hc : w.cell? ⟨fb, 0, none⟩ = some v) :
    (method (k + 1) 52 (.pointer (some ⟨fb, 0, none⟩)) name).run Try.prog w = .ok (F, v) w := by
  obtain ⟨i, m, hi, h1, h2, h3⟩ := methInfo name hm
  unfold method
  simp [typeInfo, hi, h1, h2, h3, follow, receiverAt, run_underlying Try.underlying52, Place.get, Result.andThen, wrap_ok, strVal, asAddr, loadVar, isAgg, run_underlying Try.underlying53, go_sem, hc]

section handle
variable {F G : Nat → Prop} {L : Lay} {st : St} {w w' : World}

/-- A new handle for a name, where none is free. -/
def handleSt (st : St) (n : Int) : St := { st with next := st.next + 1, hnd := aset st.hnd st.next n }

def HandlePost (F : Nat → Prop) (L : Lay) (st' : St) (h : Int) (w : World) (e : Ending) (w' : World) : Prop :=
  e = .returned (.int .i64 h) ∧ Rep F L st' w' ∧ Ext F w w'

/-- The next handle's number is written. -/
theorem Rep.chNext (R : Rep F L st w) (k : Int) : Rep F L { st with next := k } (w.setCell ⟨L.hb, 10, none⟩ (.int .i64 k)) ∧ Ext F w (w.setCell ⟨L.hb, 10, none⟩ (.int .i64 k)) := by
  have hE := ext_setCell w L.hb 10 (.int .i64 k)
  have hH := get_setCell R.hH 10 (.int .i64 k)
  refine ⟨?_, hE.mono fun j hj => hj ▸ R.fs.1⟩
  exact R.chMem (s0 := L.s0) (s1 := L.s1) (m0 := st.m0) (m1 := st.m1) (names := st.names) (next := k) (fun j hj => Nat.lt_of_lt_of_le (R.lt j hj) hE.size) (fun _ h => h) (fun j hF h1 _ _ => hE.block j (R.lt j hF) h1) hH
    (R.r0.ext hE (fun j hj e => row_ne_cells R.r0 R.hH (by decide) hj e)) (R.r1.ext hE (fun j hj e => row_ne_cells R.r1 R.hH (by decide) hj e)) R.sep3

set_option maxRecDepth 100000 in
set_option maxHeartbeats 1000000 in
theorem handle_new (R : Rep F L st w) (hf : st.free = []) (hn : st.next < 100000) (hn0 : 0 ≤ st.next) (n : Int) :
    Calls Try.prog 56 #[.pointer (some ⟨L.hb, 0, none⟩), .int .i64 n] w (HandlePost F L (handleSt st n) st.next w) := by
  have c10 : w.cell? ⟨L.hb, 10, none⟩ = some (.int .i64 st.next) := R.hc 10
  have f10 : w.frozen? ⟨L.hb, 10, none⟩ = false := R.hf 10
  have c9 : w.cell? ⟨L.hb, 9, none⟩ = some (.iface 52 (.pointer (some ⟨L.fb, 0, none⟩))) := R.hc 9
  have hrf := R.rf
  rw [hf] at hrf
  obtain ⟨af, capf, hsf⟩ := hrf.form
  have cf : w.cell? ⟨L.fb, 0, none⟩ = some (.slice af 0 capf) := by rw [cell_of R.fr]; simp [hsf]
  have mE := meth_val "skerry/heap.empty" (F := 110) (by kernel_rfl) 252 cf
  obtain ⟨R1, hE1⟩ := R.chNext (st.next + 1)
  have c5 : (w.setCell ⟨L.hb, 10, none⟩ (.int .i64 (st.next + 1))).cell? ⟨L.hb, 5, none⟩ = some (.map (some L.mh)) := R1.hc 5
  obtain ⟨w2, hup, hI2, hE2⟩ := R1.mH.update (P := Try.prog) Try.underlying57 Try.underlying3 st.next (.int .i64 n)
  rw [aset_map (fun m : Int => Value.int .i64 m)] at hI2
  have R2 := R1.chHnd hE2 hI2
  have hfin : HandlePost F L (handleSt st n) st.next w (.returned (.int .i64 st.next)) w2 := ⟨rfl, R2, hE1.trans hE2 (fun i hi => .inl (hi ▸ R1.fs.2.2.1))⟩
  have H := Lib.hid hfin
  clear R hrf hsf R1 hE1 hI2 hE2 R2 hfin cf
  go_enter Try.func56, Try.ntmps56
  go_wp2
  go_ret
  exact H.out
end handle
end Go.Proofs.Ytpjifaefchnmoaa
