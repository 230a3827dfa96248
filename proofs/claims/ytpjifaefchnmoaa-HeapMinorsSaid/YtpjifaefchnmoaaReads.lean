/- The functions that only read a heap: what each answers. -/
import Derived.Test.YtpjifaefchnmoaaRep
import Derived.Deep.QuietTactic
import Derived.BigQuiet
namespace Go.Proofs.Ytpjifaefchnmoaa
open Go.RowKit

def yng (st : St) (n : Int) : Bool := match alook st.objs n with
  | some o => !o.old
  | none => false

section reads
variable {F : Nat → Prop} {L : Lay} {st : St} {w : World}

set_option maxHeartbeats 400000 in
theorem space_any (R : Rep F L st w) {n : Int} {o : Ob} (h : alook st.objs n = some o) :
    Calls Try.prog 55 #[.pointer (some ⟨o.b, 0, none⟩)] w fun e w' => e = .returned (.int .i64 (if o.old then 1 else 0)) ∧ w' = w := by
  have c2 : w.cell? ⟨o.b, 2, none⟩ = some (.bool o.old) := R.oc h 2
  clear R h
  cases ho : o.old
  all_goals
    rw [ho] at c2
    clear ho
    go_enter Try.func55, Try.ntmps55
    go_wp2
    go_ret
    exact ⟨rfl, rfl⟩

set_option maxHeartbeats 400000 in
theorem isYoung_any (R : Rep F L st w) (n : Int) :
    Calls Try.prog 41 #[.pointer (some ⟨L.hb, 0, none⟩), .int .i64 n] w fun e w' => e = .returned (.bool (yng st n)) ∧ w = w' := by
  have c0 : w.cell? ⟨L.hb, 0, none⟩ = some (.map (some L.mo)) := R.hc 0
  cases h : alook st.objs n with
  | none =>
    have lk := R.lookO_none h
    have hy : yng st n = false := by simp [yng, h]
    rw [hy]
    clear R h hy
    go_enter Try.func41, Try.ntmps41
    go_wp2
    go_ret
    exact ⟨rfl, rfl⟩
  | some o =>
    have lk := R.lookO h
    have c2 : w.cell? ⟨o.b, 2, none⟩ = some (.bool o.old) := R.oc h 2
    have hy : yng st n = !o.old := by simp [yng, h]
    rw [hy]
    clear R h hy
    go_enter Try.func41, Try.ntmps41
    go_wp2
    go_ret
    exact ⟨rfl, rfl⟩

set_option maxHeartbeats 400000 in
theorem of_ok (R : Rep F L st w) {k n : Int} {o : Ob} (hk : alook st.hnd k = some n) (h : alook st.objs n = some o) :
    Calls Try.prog 29 #[.pointer (some ⟨L.hb, 0, none⟩), .int .i64 k] w fun e w' => e = .returned (.tuple #[.pointer (some ⟨o.b, 0, none⟩), .int .i64 n, .int .i64 0]) ∧ w = w' := by
  have c0 : w.cell? ⟨L.hb, 0, none⟩ = some (.map (some L.mo)) := R.hc 0
  have c5 : w.cell? ⟨L.hb, 5, none⟩ = some (.map (some L.mh)) := R.hc 5
  have l1 := R.lookH hk
  have l2 := R.lookO h
  clear R hk h
  go_enter Try.func29, Try.ntmps29
  go_wp2
  go_ret3
  exact ⟨rfl, rfl⟩

set_option maxHeartbeats 400000 in
theorem plain_any (R : Rep F L st w) {k n : Int} {o : Ob} (hk : alook st.hnd k = some n) (h : alook st.objs n = some o) :
    Calls Try.prog 30 #[.pointer (some ⟨L.hb, 0, none⟩), .int .i64 k] w fun e w' => e = .returned (.tuple #[.pointer (some ⟨o.b, 0, none⟩), .int .i64 n, .int .i64 (if o.tbl then 223 else 0)]) ∧ w = w' := by
  have c0 : w.cell? ⟨o.b, 0, none⟩ = some (.bool o.tbl) := R.oc h 0
  have hof := Lib.hid (of_ok R hk h)
  clear R hk h
  cases ht : o.tbl
  all_goals
    rw [ht] at c0
    clear ht
    go_enter Try.func30, Try.ntmps30
    go_wp2_with (go_at_call 29; refine hof.out.mono ?_; rintro e w' ⟨rfl, rfl⟩)
    go_ret3
    exact ⟨rfl, rfl⟩

set_option maxHeartbeats 400000 in
theorem weak_any (R : Rep F L st w) {k n : Int} {o : Ob} (hk : alook st.hnd k = some n) (h : alook st.objs n = some o) :
    Calls Try.prog 39 #[.pointer (some ⟨L.hb, 0, none⟩), .int .i64 k] w fun e w' => e = .returned (.tuple #[.pointer (some ⟨o.b, 0, none⟩), .int .i64 n, .int .i64 (if o.tbl then 0 else 223)]) ∧ w = w' := by
  have c0 : w.cell? ⟨o.b, 0, none⟩ = some (.bool o.tbl) := R.oc h 0
  have hof := Lib.hid (of_ok R hk h)
  clear R hk h
  cases ht : o.tbl
  all_goals
    rw [ht] at c0
    clear ht
    go_enter Try.func39, Try.ntmps39
    go_wp2_with (go_at_call 29; refine hof.out.mono ?_; rintro e w' ⟨rfl, rfl⟩)
    go_ret3
    exact ⟨rfl, rfl⟩

set_option maxHeartbeats 400000 in
theorem old_any (R : Rep F L st w) {k n : Int} {o : Ob} (hk : alook st.hnd k = some n) (h : alook st.objs n = some o) :
    Calls Try.prog 33 #[.pointer (some ⟨L.hb, 0, none⟩), .int .i64 k] w fun e w' => e = .returned (.tuple #[.bool o.old, .int .i64 0]) ∧ w = w' := by
  have c2 : w.cell? ⟨o.b, 2, none⟩ = some (.bool o.old) := R.oc h 2
  have hof := Lib.hid (of_ok R hk h)
  clear R hk h
  go_enter Try.func33, Try.ntmps33
  go_wp2_with (go_at_call 29; refine hof.out.mono ?_; rintro e w' ⟨rfl, rfl⟩)
  go_ret2
  exact ⟨rfl, rfl⟩

set_option maxHeartbeats 400000 in
theorem spare_yes (R : Rep F L st w) (h : st.hnd.length < 10000) :
    Calls Try.prog 26 #[.pointer (some ⟨L.hb, 0, none⟩), .int .i64 1] w fun e w' => e = .returned (.bool true) ∧ w = w' := by
  have c5 : w.cell? ⟨L.hb, 5, none⟩ = some (.map (some L.mh)) := R.hc 5
  have hl := R.lenH 3
  clear R
  go_enter Try.func26, Try.ntmps26
  go_wp2_with (at_len; refine wpList_len_eq rfl _ _ rfl _ rfl _ hl ?_)
  go_ret
  exact ⟨by simp; omega, rfl⟩

set_option maxHeartbeats 400000 in
theorem remembered_any (R : Rep F L st w) :
    Calls Try.prog 14 #[.pointer (some ⟨L.hb, 0, none⟩)] w fun e w' => e = .returned (.int .i64 st.rem.length) ∧ w = w' := by
  have c5 : w.cell? ⟨L.hb, 8, none⟩ = some (.map (some L.mr)) := R.hc 8
  have hl := R.lenR 3
  clear R
  go_enter Try.func14, Try.ntmps14
  go_wp2_with (at_len; refine wpList_len_eq rfl _ _ rfl _ rfl _ hl ?_)
  go_ret
  exact ⟨rfl, rfl⟩

set_option maxHeartbeats 400000 in
theorem same_any (R : Rep F L st w) {k n k' n' : Int} {o o' : Ob} (hk : alook st.hnd k = some n) (h : alook st.objs n = some o) (hk' : alook st.hnd k' = some n') (h' : alook st.objs n' = some o') :
    Calls Try.prog 16 #[.pointer (some ⟨L.hb, 0, none⟩), .int .i64 k, .int .i64 k'] w fun e w' => e = .returned (.tuple #[.bool (n == n'), .int .i64 0]) ∧ w = w' := by
  have hof := Lib.hid (of_ok R hk h)
  have hof' := Lib.hid (of_ok R hk' h')
  clear R hk h hk' h'
  go_enter Try.func16, Try.ntmps16
  go_wp2_with fail
  refine hof.out.mono ?_
  rintro e w' ⟨rfl, rfl⟩
  go_wp2_with fail
  refine hof'.out.mono ?_
  rintro e w' ⟨rfl, rfl⟩
  go_wp2_with fail
  go_ret2
  exact ⟨rfl, rfl⟩

set_option maxHeartbeats 400000 in
theorem count_any (R : Rep F L st w) {k n : Int} {o : Ob} (hk : alook st.hnd k = some n) (h : alook st.objs n = some o) (ht : o.tbl = true) :
    Calls Try.prog 22 #[.pointer (some ⟨L.hb, 0, none⟩), .int .i64 k] w fun e w' => e = .returned (.tuple #[.int .i64 (entCount o.ent), .int .i64 0]) ∧ w = w' := by
  have c2 : w.cell? ⟨o.b, 4, none⟩ = some o.ve := R.oc h 4
  obtain ⟨a, cap, hv⟩ := (R.ob _ (alook_some_mem h)).2.1.form
  rw [hv] at c2
  have hw := weak_any R hk h
  rw [ht] at hw
  have hwk := Lib.hid hw
  clear R hk h hw ht hv
  go_enter Try.func22, Try.ntmps22
  go_wp2_with (go_at_call 39; refine hwk.out.mono ?_; rintro e w' ⟨rfl, rfl⟩)
  go_ret2
  exact ⟨rfl, rfl⟩

set_option maxHeartbeats 400000 in
theorem words_any (R : Rep F L st w) {n : Int} {o : Ob} (h : alook st.objs n = some o) (hs : o.size < 100000) :
    Calls Try.prog 60 #[.pointer (some ⟨o.b, 0, none⟩)] w fun e w' => e = .returned (.int .i64 (1 + o.size + 3 * entCount o.ent)) ∧ ∃ m, w' = w.drewN m := by
  have c2 : w.cell? ⟨o.b, 4, none⟩ = some o.ve := R.oc h 4
  have c1 : w.cell? ⟨o.b, 1, none⟩ = some (.int .i64 o.size) := R.oc h 1
  obtain ⟨a, cap, hv⟩ := (R.ob _ (alook_some_mem h)).2.1.form
  rw [hv] at c2
  have he : entCount o.ent ≤ 1 := by cases o.ent <;> simp [entCount]
  clear R h hv
  generalize entCount o.ent = c at *
  go_enter Try.func60, Try.ntmps60
  go_wp2
  go_quiet (fail)
  go_wp2
  go_ret
  exact ⟨rfl, _, rfl⟩
end reads

set_option maxHeartbeats 400000 in
theorem num_any (n : Int) (w : World) :
    Calls Try.prog 10 #[.int .i64 n] w fun e w' => e = .returned (.agg #[.bool false, .int .i64 n]) ∧ Below w.heap.size w w' := by
  go_enter Try.func10, Try.ntmps10
  go_wp2
  exact bodyPost_ret (v := .agg #[.bool false, .int .i64 n]) (by simp [results, Try.results10, go_sem]) rfl ⟨rfl, (Below.refl _ _).alloc (Nat.le_refl _) _⟩

set_option maxHeartbeats 400000 in
theorem ref_any (n : Int) (w : World) :
    Calls Try.prog 12 #[.int .i64 n] w fun e w' => e = .returned (.agg #[.bool true, .int .i64 n]) ∧ Below w.heap.size w w' := by
  go_enter Try.func12, Try.ntmps12
  go_wp2
  exact bodyPost_ret (v := .agg #[.bool true, .int .i64 n]) (by simp [results, Try.results12, go_sem]) rfl ⟨rfl, (Below.refl _ _).alloc (Nat.le_refl _) _⟩

end Go.Proofs.Ytpjifaefchnmoaa
