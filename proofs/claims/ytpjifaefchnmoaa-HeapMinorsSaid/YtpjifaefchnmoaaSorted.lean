/- The method sorted: the names of the objects, in some order that is a permutation of them (that it is the rising one is not needed). -/
import Derived.Test.YtpjifaefchnmoaaReached
import Derived.Test.YtpjifaefchnmoaaShelf
import Derived.Sort.OwnSortedInts
namespace Go.Proofs.Ytpjifaefchnmoaa
open Go.RowKit

def SortedPost (w : World) (st : St) (e : Ending) (w' : World) : Prop :=
  ∃ a cap l, e = .returned (.slice a l.length cap) ∧ l.Perm (st.objs.map (·.1)) ∧ Row (fun k => w.heap.size ≤ k) 3 1 w' (.slice a l.length cap) l.length (ints l) ∧ Below w.heap.size w w'

theorem wpList_makeSlice_eq {P : Program} {w w' : World} {ops : Array Oper} {rest : List Oper} {o : Oper} {a : Act} {Q : Exit → Act → World → Prop} (hgd : o.guard = none) (l c : Operand) (t : TypeId) (hop : o.op = Op.makeSlice t l c)
    (lv cv : Value) (hl : a.eval l = lv) (hc : a.eval c = cv) (v' : Value) (hrun : (Instr.makeSlice t lv cv).run P w = .ok v' w')
    (h : wpList P ops Q rest (a.put o.dst v') w') : wpList P ops Q (o :: rest) a w := by
  refine wpList_plain hgd fun K hK => ?_
  unfold Oper.wp execOp
  simp only [hop, Sem.run_bind, hl, hc, hrun, Sem.run_pure, Result.andThen_ok]
  exact hK _ _ h

section sorted
variable {F : Nat → Prop} {L : Lay} {st : St} {w w' : World}

/-- slices.Sort at a row of the call's own. -/
theorem sort_row {B : Nat} {w0 : World} {a : Option Addr} {cap n : Nat} {l : List Int} (hn : n = l.length) (hr : Row (fun k => B ≤ k) 3 1 w (.slice a n cap) n (ints l)) (hb : Below B w0 w) (hB : B ≤ w.heap.size) (hl : l.length < 1000000) (hne : ∃ g, a = some ⟨g, 0, none⟩) :
    Calls Try.prog 63 #[.slice a n cap] w fun e w' => e = .returned (.tuple #[]) ∧ Row (fun k => B ≤ k) 3 1 w' (.slice a n cap) n (ints (l.mergeSort fun x y => decide (x ≤ y))) ∧ Below B w0 w' := by
  subst hn
  obtain ⟨g, rfl⟩ := hne
  rcases hr.cases with ⟨h, _⟩ | ⟨g', cap', cur, hv, hF, hg, hnc, hcm, hcs, htk⟩
  · cases h
  · cases hv
    rw [Nat.mul_one] at htk
    refine (sort_int g 0 cap l w (holds_of_blockI hg htk) (lt_of_blk hg) (by omega)).mono ?_
    rintro e w' ⟨rfl, m, os, rfl⟩
    refine ⟨rfl, ⟨?_, fun k hk => by cases hk; exact hF⟩, hb.grown (grownBy_sortedI _) hB (fun k hk => by cases hk; exact hF)⟩
    exact ownsRow_sortedI (ss := l) (by simp) (Nat.zero_le _) hg hnc hcm hcs

set_option maxRecDepth 100000 in
set_option maxHeartbeats 1000000 in
theorem sorted_any (R : Rep F L st w) (hN : st.objs.length < 10000) : Calls Try.prog 47 #[.pointer (some ⟨L.hb, 0, none⟩)] w (SortedPost w st) := by
  have c0 : w.cell? ⟨L.hb, 0, none⟩ = some (.map (some L.mo)) := R.hc 0
  have hlen := R.lenO 3
  obtain ⟨i0, hi, hz0, hz1, hz2⟩ := info_parts info3
  have hmx : st.objs.length ≤ maxLen := by simp only [maxLen]; omega
  obtain ⟨w1, hmk, hr1, hg1⟩ := run_make_own (P := Try.prog) w 0 28 3 i0 (.int .i64 0) 1 Try.underlying28 hi hz0 hz1 .i64 .i64 st.objs.length (by rw [hz2]; omega) hmx (Nat.zero_le _)
  have hb1 : Below w.heap.size w w1 := (Below.refl _ _).grown hg1 (Nat.le_refl _) (fun k hk => by cases hk)
  have R1 := R.below' hb1
  have c1 : w1.cell? ⟨L.hb, 0, none⟩ = some (.map (some L.mo)) := R1.hc 0
  obtain ⟨w2, hrg, hit, hI2, hb2⟩ := R1.mO.range (P := Try.prog) Try.underlying54
  have hrow1 : Row (fun k => w.heap.size ≤ k) 3 1 w1 (.slice (some ⟨w.heap.size, 0, none⟩) 0 st.objs.length) 0 (ints []) := ⟨by simpa [ints] using hr1, fun k hk => by cases hk; exact Nat.le_refl _⟩
  have hlt1 : w.heap.size < w1.heap.size := hrow1.lt rfl
  have Hrow := Lib.hid (hrow1.below hb2 hrow1.lt')
  have Hit := Lib.hid hit
  have Hb2 := Lib.hid (hb1.trans (hb2.mono hb1.size))
  have Hlt1 := Lib.hid hlt1
  have hIM : ∀ wr, Below w.heap.size w wr → ∃ l0, IMap wr L.mo l0 := fun wr hb => ⟨_, R.mO.below hb (R.lt _ R.fs.2.1)⟩
  have HIM := Lib.hid hIM
  clear R R1 hit hI2 hb1 hb2 hIM hrow1 hr1 hg1 hz0 hz1 hz2 hi hlt1
  go_enter Try.func47, Try.ntmps47
  go_wp2_with (first | (at_len; refine wpList_len_eq rfl _ _ rfl _ rfl _ hlen ?_) | (at_make; refine wpList_makeSlice_eq rfl _ _ _ rfl _ _ rfl rfl _ hmk ?_) | (at_range; refine wpList_range_eq rfl _ _ rfl _ rfl _ hrg ?_))
  go_frame
  go_loopw [3] (fun v wr => ∃ (done : List Int) (todo : List (Int × Ob)), (∃ g cap, v = .slice (some ⟨g, 0, none⟩) done.length cap) ∧ Iter wr w1.heap.size L.mo (todo.map fun p => (p.1, ptr p.2.b)) ∧ (done ++ todo.map (·.1)).Perm (st.objs.map (·.1)) ∧
      Row (fun k => w.heap.size ≤ k) 3 1 wr v done.length (ints done) ∧ (∀ k, v.ownBlock = some k → k ≠ w1.heap.size) ∧ Below w.heap.size w wr) (fun _ wr => iterLeft wr w1.heap.size)
  case atStart => exact ⟨[], st.objs, ⟨_, _, rfl⟩, Hit.out, by simp, Hrow.out, fun k hk => by (cases hk; exact Nat.ne_of_lt Hlt1.out), Hb2.out⟩
  case round =>
    obtain ⟨done, todo, ⟨g0, cap0, rfl⟩, hit, hp, hr, hne, hb⟩ := hrel
    have hdl : done.length < 10000 := by
      have := hp.length_eq
      simp at this
      omega
    rcases Iter.nextM (P := Try.prog) (fun o : Ob => ptr o.b) hit (HIM.out wr hb) 0 with ⟨rfl, hrun⟩ | ⟨l1, key, o, l2, w3, rfl, hrun, hent, hit3, hE3⟩
    · have hperm : done.Perm (st.objs.map (·.1)) := by simpa using hp
      have Hp := Lib.hid hperm
      have Hc := Lib.hid (sort_row (w0 := w) rfl hr hb hb.size (by omega) ⟨g0, rfl⟩)
      clear hp hr hb hit hne hperm
      go_wp2_with (first | (at_next; refine wpList_next_eq rfl _ _ rfl _ rfl _ hrun ?_) | (go_at_call 63; refine Hc.out.mono ?_; rintro e w4 ⟨rfl, hr4, hb4⟩; have Hr4 := Lib.hid hr4; have Hb4 := Lib.hid hb4; clear hr4 hb4))
      go_ret
      have e : (done.mergeSort fun x y => decide (x ≤ y)).length = done.length := by simp
      refine ⟨some ⟨g0, 0, none⟩, cap0, done.mergeSort fun x y => decide (x ≤ y), ?_, (List.mergeSort_perm _ _).trans Hp.out, ?_, Hb4.out⟩
      · rw [e]; rfl
      · rw [e]; exact Hr4.out
    · have hb3 : Below w.heap.size w w3 := hb.trans (hE3.below hb.size fun k hk => by subst hk; exact Nat.le_of_lt Hlt1.out)
      have hr3 := hr.ext hE3 hne
      obtain ⟨a1, cap1, w4, hrun4, hr4, hb4, hE4, hblk⟩ := app_step (w0 := w) key hr3 hb3 hb3.size (by omega)
      obtain ⟨g1, e1, _⟩ := hr4.addr (by omega)
      subst e1
      have hml : ¬ (Value.slice (some ⟨g0, 0, none⟩) done.length cap0).ownBlock = some L.mo := by
        intro e
        obtain ⟨l0, hI0⟩ := HIM.out w3 hb3
        exact row_ne_map hr3 hI0 e rfl
      have hit4 : Iter w4 w1.heap.size L.mo ((l1 ++ l2).map fun p => (p.1, ptr p.2.b)) := hit3.of_block (hE4.block _ hit3.lt.1 hml) (hE4.block _ hit3.lt.2 fun e => hne _ e rfl)
      have hp4 : ((done ++ [key]) ++ (l1 ++ l2).map (·.1)).Perm (st.objs.map (·.1)) := by
        refine List.Perm.trans ?_ hp
        simp only [List.map_append, List.map_cons, List.append_assoc]
        refine List.Perm.append_left _ ?_
        rw [List.singleton_append]
        exact List.perm_middle.symm
      have hne4 : ∀ k, (Value.slice (some ⟨g1, 0, none⟩) (done.length + 1) cap1).ownBlock = some k → k ≠ w1.heap.size := by
        intro k hk
        rcases hblk with e | ⟨b, e, hlt⟩
        · exact hne k (e ▸ hk)
        · rw [e] at hk; cases hk
          have := hit3.lt.2
          omega
      have hms : iterLeft w4 w1.heap.size < iterLeft wr w1.heap.size := by
        rw [hit4.left, hit.left]; simp
      have H := Lib.hid (And.intro hit4 (And.intro hp4 (And.intro hr4 (And.intro hne4 (And.intro hb4 hms)))))
      clear hit4 hp4 hr4 hne4 hb4 hms hml hr3 hb3 hp hr hne hb hit hE3 hE4 hit3 hblk
      simp only [ptr] at hrun hent
      go_wp2_with (first | (at_next; refine wpList_next_eq rfl _ _ rfl _ rfl _ hrun ?_) | (at_builtin; refine wpList_append_eq rfl _ _ _ rfl _ _ rfl rfl _ hrun4 ?_))
      go_roundw
      case rel => exact ⟨done ++ [key], l1 ++ l2, ⟨g1, cap1, by simp⟩, H.out.1, H.out.2.1, by simpa using H.out.2.2.1, H.out.2.2.2.1, H.out.2.2.2.2.1⟩
      case measure => exact H.out.2.2.2.2.2
end sorted
end Go.Proofs.Ytpjifaefchnmoaa
