/- The method note: what is remembered of an object. -/
import Derived.Test.YtpjifaefchnmoaaAll
namespace Go.Proofs.Ytpjifaefchnmoaa
open Go.RowKit

def insR (l : List Int) (n : Int) : List Int := if n ∈ l then l else l ++ [n]

theorem aset_true (l : List Int) (n : Int) : aset (l.map fun n => (n, Value.bool true)) n (.bool true) = (insR l n).map fun n => (n, Value.bool true) := by
  unfold insR
  induction l with
  | nil => rfl
  | cons a l ih =>
    simp only [List.map_cons, aset, List.mem_cons]
    by_cases h : n = a
    · simp [h]
    · simp only [h, if_false, ih, false_or]
      split <;> simp

theorem adel_true (l : List Int) (n : Int) : adel (l.map fun n => (n, Value.bool true)) n = (l.erase n).map fun n => (n, Value.bool true) := by
  induction l with
  | nil => rfl
  | cons a l ih =>
    simp only [List.map_cons, adel]
    by_cases h : n = a
    · simp [h]
    · have h' : ¬ a = n := fun e => h e.symm
      simp [h, h', ih]

section note
variable {F : Nat → Prop} {L : Lay} {st : St} {w w' : World}

/-- A map was written: the cells stay. -/
theorem Rep.map_write (R : Rep F L st w) {b : Nat} {l : List (Int × Value)} (hI : IMap w b l) (hE : Ext (· = b) w w') :
    w'.heap[L.hb]? = some (.cells (heapCells L st) 64 (0, 0)) ∧ (∀ p ∈ st.objs, ObR F w' p.2) ∧ Row F 66 2 w' L.s0 st.m0.length (wdCells st.m0) ∧ Row F 66 2 w' L.s1 st.m1.length (wdCells st.m1) ∧
      w'.heap[L.fb]? = some (.cells #[L.sf] 53 (0, 0)) ∧ Row F 3 1 w' L.sf st.free.length (ints st.free) :=
  ⟨hE.get R.hH (map_ne_cells hI R.hH).symm,
   fun p hp => ⟨hE.get (R.ob p hp).1 (map_ne_cells hI (R.ob p hp).1).symm, (R.ob p hp).2.1.ext hE fun _ hk => row_ne_map (R.ob p hp).2.1 hI hk, (R.ob p hp).2.2⟩,
   R.r0.ext hE fun _ hk => row_ne_map R.r0 hI hk, R.r1.ext hE fun _ hk => row_ne_map R.r1 hI hk, hE.get R.fr (map_ne_cells hI R.fr).symm, R.rf.ext hE fun _ hk => row_ne_map R.rf hI hk⟩

theorem Rep.chR (R : Rep F L st w) (hE : Ext (· = L.mr) w w') {rem : List Int} (hI : IMap w' L.mr (rem.map fun n => (n, .bool true))) : Rep F L { st with rem := rem } w' := by
  obtain ⟨h1, h2, h3, h4, h5, h6⟩ := R.map_write R.mR hE
  exact ⟨h1, R.mO.ext hE R.sep1.2.1, R.mH.ext hE R.sep1.2.2, hI, h2, h3, h4, h5, h6, R.fs, fun k hk => Nat.lt_of_lt_of_le (R.lt k hk) hE.size, R.sep1, R.sep2, R.sep3, R.sep4⟩

theorem Rep.chHnd (R : Rep F L st w) (hE : Ext (· = L.mh) w w') {hnd : List (Int × Int)} (hI : IMap w' L.mh (hnd.map fun p => (p.1, .int .i64 p.2))) : Rep F L { st with hnd := hnd } w' := by
  obtain ⟨h1, h2, h3, h4, h5, h6⟩ := R.map_write R.mH hE
  exact ⟨h1, R.mO.ext hE R.sep1.1, hI, R.mR.ext hE R.sep1.2.2.symm, h2, h3, h4, h5, h6, R.fs, fun k hk => Nat.lt_of_lt_of_le (R.lt k hk) hE.size, R.sep1, R.sep2, R.sep3, R.sep4⟩

set_option maxHeartbeats 400000 in
theorem note1_any (R : Rep F L st w) (n : Int) (isB cB : Nat) (b : Bool) (hc : w.heap[cB]? = some (.cells #[.pointer (some ⟨L.hb, 0, none⟩)] 87 (0, 0))) (hi : w.heap[isB]? = some (.cells #[.bool b] 4 (0, 0))) :
    Calls Try.prog 57 #[.int .i64 n, .pointer (some ⟨isB, 0, none⟩), .pointer (some ⟨cB, 0, none⟩)] w fun e w' => e = .returned (.tuple #[]) ∧ w' = w.setCell ⟨isB, 0, none⟩ (.bool (b || yng st n)) := by
  have c0 : w.cell? ⟨isB, 0, none⟩ = some (.bool b) := by rw [cell_of hi]; rfl
  have f0 : w.frozen? ⟨isB, 0, none⟩ = false := free_of hi 0
  have c1 : w.cell? ⟨cB, 0, none⟩ = some (.pointer (some ⟨L.hb, 0, none⟩)) := by rw [cell_of hc]; rfl
  have Hy := Lib.hid (isYoung_any R n)
  clear R hc hi
  cases b
  · go_enter Try.func57, Try.ntmps57
    go_wp2_with (go_at_call 41; refine Hy.out.mono ?_; rintro e w' ⟨rfl, rfl⟩)
    go_end0
    exact ⟨rfl, rfl⟩
  · go_enter Try.func57, Try.ntmps57
    go_wp2
    go_end0
    exact ⟨rfl, rfl⟩

/-- What note makes of what is remembered. -/
def noteRem (st : St) (n : Int) (o : Ob) : List Int := if o.old && (allRefs st o).any (yng st) then insR st.rem n else st.rem.erase n

def NoteJ (w : World) (L : Lay) (st : St) (l : List Int) (w' : World) : Prop :=
  Below w.heap.size w w' ∧ w'.heap[w.heap.size]? = some (.cells #[.pointer (some ⟨L.hb, 0, none⟩)] 87 (0, 0)) ∧ w'.heap[w.heap.size + 1]? = some (.cells #[.bool (l.any (yng st))] 4 (0, 0))

set_option maxRecDepth 100000 in
set_option maxHeartbeats 1000000 in
theorem note_any (R : Rep F L st w) {n : Int} {o : Ob} (h : alook st.objs n = some o) (hat : o.at_ + 1 + o.size ≤ (rowOf st o).length) (hsz : (rowOf st o).length < 1000000) :
    Calls Try.prog 32 #[.pointer (some ⟨L.hb, 0, none⟩), .int .i64 n] w fun e w' => e = .returned (.tuple #[]) ∧ Rep F L { st with rem := noteRem st n o } w' ∧ Ext F w w' := by
  have hJA : ∀ l w' w'', NoteJ w L st l w' → Below w'.heap.size w' w'' → NoteJ w L st l w'' := by
    rintro l w' w'' ⟨h1, h2, h3⟩ hb
    exact ⟨h1.trans (hb.mono h1.size), Below.get hb h2 (lt_of_blk h2), Below.get hb h3 (lt_of_blk h3)⟩
  have hstep : ∀ l m w', NoteJ w L st l w' → Calls Try.prog 57 #[.int .i64 m, .pointer (some ⟨w.heap.size + 1, 0, none⟩), .pointer (some ⟨w.heap.size, 0, none⟩)] w' fun e w'' =>
      e = .returned (.tuple #[]) ∧ NoteJ w L st (l ++ [m]) w'' ∧ Ext (· = w.heap.size + 1) w' w'' := by
    rintro l m w' ⟨h1, h2, h3⟩
    refine (note1_any (R.below h1 R.lt) m (w.heap.size + 1) w.heap.size _ h2 h3).mono ?_
    rintro e w'' ⟨rfl, rfl⟩
    have hE := ext_setCell w' (w.heap.size + 1) 0 (.bool (l.any (yng st) || yng st m))
    refine ⟨rfl, ⟨h1.trans (hE.below h1.size (fun k hk => by subst hk; omega)), hE.get h2 (by omega), ?_⟩, hE⟩
    rw [get_setCell h3]
    simp
  have hall : ∀ w0, NoteJ w L st [] w0 → Calls Try.prog 44 #[.pointer (some ⟨L.hb, 0, none⟩), .pointer (some ⟨o.b, 0, none⟩), .func (.func 57) #[] #[.pointer (some ⟨w.heap.size + 1, 0, none⟩), .pointer (some ⟨w.heap.size, 0, none⟩)]] w0
      fun e w' => e = .returned (.tuple #[]) ∧ NoteJ w L st (allRefs st o) w' := by
    intro w0 h0
    cases he : o.ent with
    | none => exact all_none R h hat hsz (.inr (.inr ⟨_, _, rfl, rfl, rfl⟩)) (NoteJ w L st) w.heap.size R.lt (fun _ _ hj => hj.1) hJA he (fun l m r w' _ hj => (hstep l m w' hj).mono fun _ _ ⟨a, b, _⟩ => ⟨a, b⟩) w0 h0
    | some kd => exact all_some R h hat hsz (.inr (.inr ⟨_, _, rfl, rfl, rfl⟩)) (NoteJ w L st) w.heap.size R.lt (fun _ _ hj => hj.1) hJA he (· = w.heap.size + 1) (fun l w' hj k hk => by subst hk; exact lt_of_blk hj.2.2) (fun l m r w' _ hj => hstep l m w' hj) w0 h0
  have h00 : NoteJ w L st [] ((w.alloc (.cells #[.pointer (some ⟨L.hb, 0, none⟩)] 87)).alloc (.cells #[.bool false] 4)) := by
    refine ⟨((Below.refl _ w).alloc (Nat.le_refl _) _).alloc (by simp) _, ?_, ?_⟩
    · rw [Below.heap_alloc _ _ _ (by simp)]; exact Below.heap_new w _
    · have := Below.heap_new (w.alloc (.cells #[.pointer (some ⟨L.hb, 0, none⟩)] 87)) (.cells #[.bool false] 4)
      simpa using this
  have Hcall := Lib.hid (hall _ h00)
  have c0 : ∀ ob, (w.alloc ob).cell? ⟨L.hb, 0, none⟩ = some (.map (some L.mo)) := fun ob => (R.alloc ob).hc 0
  have lk := fun ob => (R.alloc ob).lookO h
  -- behind the call
  have hcell : ∀ w1, Below w.heap.size w w1 → w1.cell? ⟨L.hb, 8, none⟩ = some (.map (some L.mr)) ∧ w1.cell? ⟨o.b, 2, none⟩ = some (.bool o.old) := fun w1 hb => ⟨(R.below' hb).hc 8, (R.below' hb).oc h 2⟩
  have hup : ∀ w1, Below w.heap.size w w1 → ∃ w2, (Instr.mapUpdate 58 (.map (some L.mr)) (.int .i64 n) (.bool true)).run Try.prog w1 = .ok () w2 ∧ Rep F L { st with rem := insR st.rem n } w2 ∧ Ext F w w2 := by
    intro w1 hb
    have R1 := R.below' hb
    obtain ⟨w2, u, hI, hE⟩ := R1.mR.update Try.underlying58 Try.underlying3 n (.bool true)
    rw [aset_true] at hI
    exact ⟨w2, u, R1.chR hE hI, (Below.ext hb F).trans hE (fun i hi => .inl (hi ▸ R.fs.2.2.2.1))⟩
  have hdel : ∀ w1, Below w.heap.size w w1 → ∃ w2, (Builtin.delete_ #[58, 3] 0 #[.map (some L.mr), .int .i64 n]).run Try.prog w1 = .ok (.tuple #[]) w2 ∧ Rep F L { st with rem := st.rem.erase n } w2 ∧ Ext F w w2 := by
    intro w1 hb
    have R1 := R.below' hb
    obtain ⟨w2, u, hI, hE⟩ := R1.mR.delete Try.underlying58 Try.underlying3 n 0 3
    rw [adel_true] at hI
    exact ⟨w2, u, R1.chR hE hI, (Below.ext hb F).trans hE (fun i hi => .inl (hi ▸ R.fs.2.2.2.1))⟩
  have Hcell := Lib.hid hcell
  have Hup := Lib.hid hup
  have Hdel := Lib.hid hdel
  have hrem : noteRem st n o = if o.old && (allRefs st o).any (yng st) then insR st.rem n else st.rem.erase n := rfl
  generalize noteRem st n o = nr at hrem ⊢
  have Hrem := Lib.hid hrem
  clear hall h00 hstep hJA R h hcell hup hdel hrem
  go_enter Try.func32, Try.ntmps32
  go_wp2_with fail
  refine Hcall.out.mono ?_
  rintro e w1 ⟨rfl, hb, d0, d1⟩
  obtain ⟨q8, q2⟩ := Hcell.out w1 hb
  have e0 : w1.cell? ⟨w.heap.size, 0, none⟩ = some (.pointer (some ⟨L.hb, 0, none⟩)) := by rw [cell_of d0]; rfl
  have e1 : w1.cell? ⟨w.heap.size + 1, 0, none⟩ = some (.bool ((allRefs st o).any (yng st))) := by rw [cell_of d1]; rfl
  obtain ⟨w2, u2, hR2, hE2⟩ := Hup.out w1 hb
  obtain ⟨w3, u3, hR3, hE3⟩ := Hdel.out w1 hb
  have A2 := Lib.hid hR2
  have B2 := Lib.hid hE2
  have A3 := Lib.hid hR3
  have B3 := Lib.hid hE3
  have H := Hrem.out
  clear hR2 hE2 hR3 hE3 hb d0 d1
  generalize (allRefs st o).any (yng st) = an at *
  have Hn := Lib.hid H
  clear H
  cases ho : o.old
  · rw [ho] at q2
    go_wp2_with (at_delete; refine wpList_delete_eq rfl _ _ _ rfl _ _ rfl rfl _ u3 ?_)
    go_end0
    refine ⟨rfl, ?_, B3.out⟩
    rw [Hn.out, ho]; exact A3.out
  · rw [ho] at q2
    cases an
    · go_wp2_with (at_delete; refine wpList_delete_eq rfl _ _ _ rfl _ _ rfl rfl _ u3 ?_)
      go_end0
      refine ⟨rfl, ?_, B3.out⟩
      rw [Hn.out, ho]; exact A3.out
    · go_wp2
      go_end0
      refine ⟨rfl, ?_, B2.out⟩
      rw [Hn.out, ho]; exact A2.out
end note
end Go.Proofs.Ytpjifaefchnmoaa
