/- The method refs: a function is called for what the fields of an object refer to. -/
import Derived.Test.YtpjifaefchnmoaaFields
namespace Go.Proofs.Ytpjifaefchnmoaa
open Go.RowKit

/-- The words of the fields of an object. -/
def fldsOf (st : St) (o : Ob) : List Wd := ((rowOf st o).drop (o.at_ + 1)).take o.size

def refsOf (l : List Wd) : List Int := l.filterMap fun d => if d.ref then some d.num else none

theorem wdCells_length (l : List Wd) : (wdCells l).length = l.length * 2 := by
  induction l with
  | nil => rfl
  | cons d l ih => simp only [wdCells, List.flatMap_cons, List.length_append, List.length_cons, List.length_nil] at *; omega

theorem wdCells_ref : ∀ (l : List Wd) (i : Nat), (wdCells l)[i * 2]? = (l[i]?).map fun d => Value.bool d.ref
  | [], i => by simp [wdCells]
  | d :: l, 0 => rfl
  | d :: l, i + 1 => by
    have := wdCells_ref l i
    rw [show (i + 1) * 2 = i * 2 + 1 + 1 from by omega]
    simpa [wdCells] using this

theorem wdCells_num : ∀ (l : List Wd) (i : Nat), (wdCells l)[i * 2 + 1]? = (l[i]?).map fun d => Value.int .i64 d.num
  | [], i => by simp [wdCells]
  | d :: l, 0 => rfl
  | d :: l, i + 1 => by
    have := wdCells_num l i
    rw [show (i + 1) * 2 + 1 = i * 2 + 1 + 1 + 1 from by omega]
    simpa [wdCells] using this

/-- The function values that are handed to refs and all, with the function that each enters, and its arguments. -/
def IsFn (fv : Value) (FN : Nat) (args : Int → Array Value) : Prop :=
  (∃ a, fv = .func (.func 42) #[.pointer (some ⟨a, 0, none⟩)] #[] ∧ FN = 42 ∧ args = fun n => #[.pointer (some ⟨a, 0, none⟩), .int .i64 n]) ∨
  (∃ a b, fv = .func (.func 40) #[] #[.pointer (some ⟨a, 0, none⟩), .pointer (some ⟨b, 0, none⟩)] ∧ FN = 40 ∧ args = fun n => #[.int .i64 n, .pointer (some ⟨a, 0, none⟩), .pointer (some ⟨b, 0, none⟩)]) ∨
  (∃ a b, fv = .func (.func 57) #[] #[.pointer (some ⟨a, 0, none⟩), .pointer (some ⟨b, 0, none⟩)] ∧ FN = 57 ∧ args = fun n => #[.int .i64 n, .pointer (some ⟨a, 0, none⟩), .pointer (some ⟨b, 0, none⟩)])

section refs
variable {F : Nat → Prop} {L : Lay} {st : St} {w : World}

theorem flds_get {o : Ob} (hat : o.at_ + 1 + o.size ≤ (rowOf st o).length) {k : Nat} (hk : k < o.size) : ∃ d, (fldsOf st o)[k]? = some d ∧ (rowOf st o)[o.at_ + 1 + k]? = some d := by
  have h : o.at_ + 1 + k < (rowOf st o).length := by omega
  refine ⟨(rowOf st o)[o.at_ + 1 + k], ?_, by simp [h]⟩
  simp [fldsOf, hk, h]

theorem flds_len {o : Ob} (hat : o.at_ + 1 + o.size ≤ (rowOf st o).length) : (fldsOf st o).length = o.size := by
  simp [fldsOf]; omega

theorem refs_take_succ (l : List Wd) {k : Nat} {d : Wd} (h : l[k]? = some d) : refsOf (l.take (k + 1)) = refsOf (l.take k) ++ (if d.ref then [d.num] else []) := by
  have hk : k < l.length := (List.getElem?_eq_some_iff.1 h).1
  rw [List.take_add_one, h]
  simp only [refsOf, List.filterMap_append, Option.toList_some, List.filterMap_cons, List.filterMap_nil]
  cases d.ref <;> rfl

theorem refs_split (l : List Wd) {k : Nat} {d : Wd} (h : l[k]? = some d) (hd : d.ref = true) : refsOf l = refsOf (l.take k) ++ d.num :: refsOf (l.drop (k + 1)) := by
  have hk : k < l.length := (List.getElem?_eq_some_iff.1 h).1
  have e : l = l.take k ++ d :: l.drop (k + 1) := by
    have e1 : l[k] = d := (List.getElem?_eq_some_iff.1 h).2
    rw [← e1, List.getElem_cons_drop, List.take_append_drop]
  conv => lhs; rw [e]
  simp [refsOf, List.filterMap_append, hd]

set_option maxRecDepth 100000 in
set_option maxHeartbeats 1000000 in
theorem refs_any (R : Rep F L st w) {n : Int} {o : Ob} (h : alook st.objs n = some o) (hat : o.at_ + 1 + o.size ≤ (rowOf st o).length) (hsz : (rowOf st o).length < 1000000)
    {fv : Value} {FN : Nat} {args : Int → Array Value} (hfn : IsFn fv FN args) (J : List Int → World → Prop)
    (B : Nat) (hB : ∀ k, F k → k < B) (hJB : ∀ l w', J l w' → Below B w w') (hJA : ∀ l w' w'', J l w' → Below w'.heap.size w' w'' → J l w'')
    (hstep : ∀ l m r w', refsOf (fldsOf st o) = l ++ m :: r → J l w' → Calls Try.prog FN (args m) w' fun e w'' => e = .returned (.tuple #[]) ∧ J (l ++ [m]) w'')
    (w0 : World) (h0 : J [] w0) :
    Calls Try.prog 45 #[.pointer (some ⟨L.hb, 0, none⟩), .pointer (some ⟨o.b, 0, none⟩), fv] w0 fun e w' => e = .returned (.tuple #[]) ∧ J (refsOf (fldsOf st o)) w' := by
  have R0 := R.below (hJB _ _ h0) hB
  obtain ⟨g, len, cap, hv, hfl⟩ := fields_any R0 h hat hsz
  have hr := R.rowS o
  have hlen : len = (rowOf st o).length := by
    obtain ⟨a, c, hf⟩ := hr.form
    rw [hv] at hf; cases hf; rfl
  rw [hv, hlen] at hr
  have hFg : F g := hr.2 g rfl
  have hcell : ∀ (k : Nat) (wr : World) (d : Wd), k < o.size → Below B w wr → (fldsOf st o)[k]? = some d →
      wr.cell? ⟨g, (o.at_ + 1) * 2 + k * 2, none⟩ = some (.bool d.ref) ∧ wr.cell? ⟨g, (o.at_ + 1) * 2 + k * 2 + 1, none⟩ = some (.int .i64 d.num) := by
    intro k wr d hk hb hd
    obtain ⟨d', hd1, hd2⟩ := flds_get hat hk
    rw [hd] at hd1; cases hd1
    have e1 := hb.cell (p := ⟨g, (o.at_ + 1) * 2 + k * 2, none⟩) (hB _ hFg)
    have e2 := hb.cell (p := ⟨g, (o.at_ + 1) * 2 + k * 2 + 1, none⟩) (hB _ hFg)
    rw [e1, e2, hr.cell _ (by omega), hr.cell _ (by omega), show (o.at_ + 1) * 2 + k * 2 = (o.at_ + 1 + k) * 2 from by omega, wdCells_ref, wdCells_num, hd2]
    exact ⟨rfl, rfl⟩
  have Hcell := Lib.hid hcell
  have Hfl := Lib.hid hfl
  have Hstep := Lib.hid hstep
  have HJB := Lib.hid hJB
  have HJA := Lib.hid hJA
  have H0 := Lib.hid h0
  clear hcell hfl hstep hJB hJA h0 R R0 hr hv hlen hFg
  rcases hfn with ⟨a, rfl, rfl, rfl⟩ | ⟨a, b, rfl, rfl, rfl⟩ | ⟨a, b, rfl, rfl, rfl⟩
  all_goals
    go_enter Try.func45, Try.ntmps45
    go_wp2_with (go_at_call 31; refine Hfl.out.mono ?_; rintro e w' ⟨ad, cp, m, rfl, hadr, rfl⟩)
    go_loopw [12] (fun i wr => ∃ k : Nat, k ≤ o.size ∧ i = .int .i64 k ∧ J (refsOf ((fldsOf st o).take k)) wr) (fun i _ => o.size - (intOf i).toNat)
    case atStart => exact ⟨0, Nat.zero_le _, rfl, HJA.out _ _ _ H0.out (below_drewN (Below.refl _ _) m)⟩
    case round =>
      obtain ⟨k, hk, rfl, hj⟩ := hrel
      by_cases hlt : k < o.size
      · obtain ⟨d, hd, _⟩ := flds_get hat hlt
        have e := hadr (by omega)
        subst e
        obtain ⟨q1, q2⟩ := Hcell.out k wr d hlt (HJB.out _ _ hj) hd
        have Hj := Lib.hid hj
        have Hts := Lib.hid (refs_take_succ _ hd)
        have Hsp := Lib.hid (refs_split _ hd)
        clear hj hd
        cases hdr : d.ref
        · rw [hdr] at q1
          go_wp2
          refine ⟨⟨k + 1, by omega, by go_num, ?_⟩, by simp [intOf]; omega⟩
          rw [Hts.out, hdr]
          simp only [Bool.false_eq_true, if_false, List.append_nil]
          exact HJA.out _ _ _ Hj.out ((Below.refl _ _).alloc (Nat.le_refl _) _)
        · rw [hdr] at q1
          go_wp2_with fail
          refine (Hstep.out _ _ _ _ (Hsp.out hdr) (HJA.out _ _ _ Hj.out ((Below.refl _ _).alloc (Nat.le_refl _) _))).mono ?_
          rintro e w1 ⟨rfl, hj1⟩
          have Hj1 := Lib.hid hj1
          clear hj1
          go_wp2_with fail
          refine ⟨⟨k + 1, by omega, by go_num, ?_⟩, by simp [intOf]; omega⟩
          rw [Hts.out, hdr]
          exact Hj1.out
      · go_wp2
        go_end0
        have e : k = o.size := by omega
        subst e
        rw [List.take_of_length_le (by rw [flds_len hat]; exact Nat.le_refl _)] at hj
        exact ⟨rfl, hj⟩
end refs
end Go.Proofs.Ytpjifaefchnmoaa
