/- The method Set. -/
import Derived.Test.YtpjifaefchnmoaaOps1
namespace Go.Proofs.Ytpjifaefchnmoaa
open Go.RowKit

theorem wdCells_set : ∀ (l : List Wd) (j : Nat) (d : Wd), j < l.length → wdCells (l.set j d) = ((wdCells l).set (j * 2) (.bool d.ref)).set (j * 2 + 1) (.int .i64 d.num)
  | [], j, d, h => by simp at h
  | e :: l, 0, d, _ => rfl
  | e :: l, j + 1, d, h => by
    have := wdCells_set l j d (by simpa using h)
    rw [show (j + 1) * 2 = j * 2 + 1 + 1 from by omega, show j * 2 + 1 + 1 + 1 = (j * 2 + 1) + 1 + 1 from rfl]
    simp only [List.set_cons_succ, wdCells, List.flatMap_cons, List.cons_append, List.nil_append] at *
    rw [this]

/-- A word of the row in which an object lies. -/
def putWd (st : St) (o : Ob) (i : Nat) (d : Wd) : St := if o.old then { st with m1 := st.m1.set (o.at_ + 1 + i) d } else { st with m0 := st.m0.set (o.at_ + 1 + i) d }

theorem putWd_objs (st : St) (o : Ob) (i : Nat) (d : Wd) : (putWd st o i d).objs = st.objs := by unfold putWd; split <;> rfl

theorem putWd_len (st : St) (o : Ob) (i : Nat) (d : Wd) : (rowOf (putWd st o i d) o).length = (rowOf st o).length := by
  unfold putWd rowOf; cases o.old <;> simp

section ops2
variable {F G : Nat → Prop} {L : Lay} {st : St} {w w' : World}

theorem Row.setWord {g n cap : Nat} {m : List Wd} (h : Row F 66 2 w (.slice (some ⟨g, 0, none⟩) n cap) n (wdCells m)) (hn : n = m.length) {j : Nat} (hj : j < n) (d : Wd) :
    Row F 66 2 ((w.setCell ⟨g, j * 2, none⟩ (.bool d.ref)).setCell ⟨g, j * 2 + 1, none⟩ (.int .i64 d.num)) (.slice (some ⟨g, 0, none⟩) n cap) n (wdCells (m.set j d)) := by
  rcases h.cases with ⟨h0, _⟩ | ⟨g', cap', cur, hv, hF, hg, hnc, hcm, hcs, htk⟩
  · cases h0
  simp only [Value.slice.injEq, Option.some.injEq, Addr.mk.injEq, true_and] at hv
  obtain ⟨⟨rfl, _⟩, rfl⟩ := hv
  have h1 := get_setCell hg (j * 2) (.bool d.ref)
  have h2 := get_setCell h1 (j * 2 + 1) (.int .i64 d.num)
  refine ⟨⟨by rw [wdCells_length, List.length_set, hn], .inr ⟨g, cap, _, rfl, Nat.zero_le _, h2, hnc, hcm, by simpa using hcs, ?_⟩⟩, fun k hk => by cases hk; exact hF⟩
  rw [wdCells_set m j d (by omega), ← htk]
  simp only [Array.toList_setIfInBounds]
  rw [List.take_set, List.take_set]

/-- A word of the row is written. -/
theorem Rep.chWord (R : Rep F L st w) {o : Ob} {i g len cap : Nat} {d : Wd} (hi : o.at_ + 1 + i < (rowOf st o).length) (hs : sliceOf L o = .slice (some ⟨g, 0, none⟩) len cap) :
    Rep F L (putWd st o i d) ((w.setCell ⟨g, (o.at_ + 1 + i) * 2, none⟩ (.bool d.ref)).setCell ⟨g, (o.at_ + 1 + i) * 2 + 1, none⟩ (.int .i64 d.num)) ∧
      Ext F w ((w.setCell ⟨g, (o.at_ + 1 + i) * 2, none⟩ (.bool d.ref)).setCell ⟨g, (o.at_ + 1 + i) * 2 + 1, none⟩ (.int .i64 d.num)) := by
  have hr := R.rowS o
  have hlen : len = (rowOf st o).length := by
    obtain ⟨a, c, hf⟩ := hr.form
    rw [hs] at hf; cases hf; rfl
  rw [hs, hlen] at hr
  have hE := (ext_setCell w g ((o.at_ + 1 + i) * 2) (.bool d.ref)).trans (ext_setCell (w.setCell ⟨g, (o.at_ + 1 + i) * 2, none⟩ (.bool d.ref)) g ((o.at_ + 1 + i) * 2 + 1) (.int .i64 d.num)) (fun i hi => .inl hi)
  have hgF : F g := hr.2 g rfl
  have hset := hr.setWord rfl hi d
  have hgh : ¬ g = L.hb := row_ne_cells hr R.hH (by decide) rfl
  generalize hw' : (w.setCell ⟨g, (o.at_ + 1 + i) * 2, none⟩ (.bool d.ref)).setCell ⟨g, (o.at_ + 1 + i) * 2 + 1, none⟩ (.int .i64 d.num) = w' at *
  refine ⟨?_, hE.mono fun k hk => hk ▸ hgF⟩
  have hH := hE.get R.hH (fun e => hgh e.symm)
  unfold putWd
  cases ho : o.old
  · simp only [sliceOf, rowOf, ho, Bool.false_eq_true, if_false] at hs hset hlen ⊢
    refine R.chMem (s0 := L.s0) (s1 := L.s1) (m0 := st.m0.set (o.at_ + 1 + i) d) (m1 := st.m1) (names := st.names) (next := st.next) (fun k hk => Nat.lt_of_lt_of_le (R.lt k hk) hE.size) (fun _ h => h) (fun k hF h1 h2 _ => hE.block k (R.lt k hF) (fun e => h2 (by rw [hs, e]; rfl))) hH ?_ ?_ R.sep3
    · rw [List.length_set, hs, hlen]; exact hset
    · exact R.r1.ext hE (fun k hk e => R.sep3 g (by rw [hs]; rfl) (e ▸ hk))
  · simp only [sliceOf, rowOf, ho, if_true] at hs hset hlen ⊢
    refine R.chMem (s0 := L.s0) (s1 := L.s1) (m0 := st.m0) (m1 := st.m1.set (o.at_ + 1 + i) d) (names := st.names) (next := st.next) (fun k hk => Nat.lt_of_lt_of_le (R.lt k hk) hE.size) (fun _ h => h) (fun k hF h1 _ h3 => hE.block k (R.lt k hF) (fun e => h3 (by rw [hs, e]; rfl))) hH ?_ ?_ R.sep3
    · exact R.r0.ext hE (fun k hk e => R.sep3 k hk (by rw [hs, e]; rfl))
    · rw [List.length_set, hs, hlen]; exact hset

/-- What Set makes of a state. -/
def setSt (st : St) (n : Int) (o : Ob) (i : Nat) (d : Wd) : St := { putWd st o i d with rem := noteRem (putWd st o i d) n o }

set_option maxRecDepth 100000 in
set_option maxHeartbeats 1000000 in
/-- A field that is not there. -/
theorem set_bad (R : Rep F L st w) {k n : Int} {o : Ob} (hk : alook st.hnd k = some n) (h : alook st.objs n = some o) (ht : o.tbl = false) {c d : Wd} (hcd : CellOf st c d) {i : Nat} (hi : o.size ≤ i) (_hi2 : i < 1000) :
    Calls Try.prog 11 #[.pointer (some ⟨L.hb, 0, none⟩), .int .i64 k, .int .i64 i, .agg #[.bool c.ref, .int .i64 c.num]] w fun e w' => e = .returned (.int .i64 222) ∧ Below w.heap.size w w' := by
  have hal := (Below.refl w.heap.size w).alloc (Nat.le_refl _) (.cells #[.bool c.ref, .int .i64 c.num] 35)
  have Hof := Lib.hid (of_ok (R.below' hal) hk h)
  have Hin := Lib.hid (in_any (R.below' hal) hcd)
  have H := Lib.hid (And.intro R (And.intro hal (And.intro hk (And.intro h ht))))
  clear R hk h hcd ht hal
  go_enter Try.func11, Try.ntmps11
  go_wp2_with (first
    | (go_at_call 29; refine Hof.out.mono ?_; rintro e w2 ⟨rfl, rfl⟩)
    | (go_at_call 25
       refine Hin.out.mono ?_
       rintro e w3 ⟨rfl, hb3⟩
       have hb4 : Below w.heap.size w (w3.alloc (.cells #[.bool d.ref, .int .i64 d.num] 66)) := (H.out.2.1.trans (hb3.mono (by simp))).alloc (Nat.le_trans H.out.2.1.size hb3.size) _
       have R4 := H.out.1.below' hb4
       have hpl := plain_any R4 H.out.2.2.1 H.out.2.2.2.1
       rw [H.out.2.2.2.2] at hpl
       have Hpl := Lib.hid hpl
       have c1 : (w3.alloc (.cells #[.bool d.ref, .int .i64 d.num] 66)).cell? ⟨o.b, 1, none⟩ = some (.int .i64 o.size) := R4.oc H.out.2.2.2.1 1
       have Hb4 := Lib.hid hb4
       clear hb3 hb4 R4 hpl)
    | (go_at_call 30; refine Hpl.out.mono ?_; rintro e w5 ⟨rfl, rfl⟩))
  go_ret
  exact ⟨rfl, Hb4.out⟩

set_option maxRecDepth 100000 in
set_option maxHeartbeats 2000000 in
theorem set_ok (R : Rep F L st w) {k n : Int} {o : Ob} (hk : alook st.hnd k = some n) (h : alook st.objs n = some o) (ht : o.tbl = false) (hat : o.at_ + 1 + o.size ≤ (rowOf st o).length) (hsz : (rowOf st o).length < 100000) {c d : Wd} (hcd : CellOf st c d) {i : Nat} (hi : i < o.size) :
    Calls Try.prog 11 #[.pointer (some ⟨L.hb, 0, none⟩), .int .i64 k, .int .i64 i, .agg #[.bool c.ref, .int .i64 c.num]] w fun e w' => e = .returned (.int .i64 0) ∧ Rep F L (setSt st n o i d) w' ∧ Ext F w w' := by
  have hal := (Below.refl w.heap.size w).alloc (Nat.le_refl _) (.cells #[.bool c.ref, .int .i64 c.num] 35)
  have Hof := Lib.hid (of_ok (R.below' hal) hk h)
  have Hin := Lib.hid (in_any (R.below' hal) hcd)
  have H := Lib.hid (And.intro R (And.intro hal (And.intro hk (And.intro h (And.intro ht hat)))))
  have hos : o.size < 100000 := by omega
  clear R hk h hcd ht hal hat
  go_enter Try.func11, Try.ntmps11
  go_wp2_with (first
    | (go_at_call 29; refine Hof.out.mono ?_; rintro e w2 ⟨rfl, rfl⟩)
    | (go_at_call 25
       refine Hin.out.mono ?_
       rintro e w3 ⟨rfl, hb3⟩
       have hb3' : Below w.heap.size w w3 := H.out.2.1.trans (hb3.mono (by simp))
       have hb4 : Below w.heap.size w (w3.alloc (.cells #[.bool d.ref, .int .i64 d.num] 66)) := hb3'.alloc hb3'.size _
       have R4 := H.out.1.below' hb4
       have hpl := plain_any R4 H.out.2.2.1 H.out.2.2.2.1
       rw [H.out.2.2.2.2.1] at hpl
       have Hpl := Lib.hid hpl
       have c1 : (w3.alloc (.cells #[.bool d.ref, .int .i64 d.num] 66)).cell? ⟨o.b, 1, none⟩ = some (.int .i64 o.size) := R4.oc H.out.2.2.2.1 1
       have Hb4 := Lib.hid (And.intro hb3' hb4)
       clear hb3 hb3' hb4 R4 hpl)
    | (go_at_call 30; refine Hpl.out.mono ?_; rintro e w5 ⟨rfl, rfl⟩))
  have R4 := H.out.1.below' Hb4.out.2
  generalize hw4 : w3.alloc (.cells #[.bool d.ref, .int .i64 d.num] 66) = w4 at *
  have hwb : w4.heap[w3.heap.size]? = some (.cells #[.bool d.ref, .int .i64 d.num] 66 (0, 0)) := by rw [← hw4]; exact Below.heap_new w3 _
  clear hw4 c1
  have t0 : ∀ m, (w4.drewN m).cell? ⟨w3.heap.size, 0, none⟩ = some (.bool d.ref) := fun m => by rw [cell_of (show (w4.drewN m).heap[w3.heap.size]? = _ from hwb)]; rfl
  have t1 : ∀ m, (w4.drewN m).cell? ⟨w3.heap.size, 1, none⟩ = some (.int .i64 d.num) := fun m => by rw [cell_of (show (w4.drewN m).heap[w3.heap.size]? = _ from hwb)]; rfl
  have t0' := t0 0
  have t1' := t1 0
  rw [World.drewN_zero] at t0' t1'
  obtain ⟨g, len, cap, hs, hfl⟩ := fields_any (R4.drewN 1) H.out.2.2.2.1 H.out.2.2.2.2.2 (by omega)
  have Hfl := Lib.hid hfl
  obtain ⟨d0, hd0, _⟩ := flds_get H.out.2.2.2.2.2 hi
  obtain ⟨q0, q1⟩ := R4.field H.out.2.2.2.1 H.out.2.2.2.2.2 hi hd0 hs
  have hr := R4.rowS o
  rw [hs] at hr
  have hrg : w4.frozen? ⟨g, (o.at_ + 1) * 2 + i * 2, none⟩ = false ∧ w4.frozen? ⟨g, (o.at_ + 1) * 2 + i * 2 + 1, none⟩ = false := by
    rcases hr.cases with ⟨h0, _⟩ | ⟨g', cap', cur, hv, hF, hg, _⟩
    · cases h0
    · simp only [Value.slice.injEq, Option.some.injEq, Addr.mk.injEq, true_and] at hv
      obtain ⟨⟨rfl, _⟩, _⟩ := hv
      exact ⟨free_of hg _, free_of hg _⟩
  obtain ⟨r0, r1⟩ := hrg
  have H4 := Lib.hid (And.intro R4 hs)
  clear R4 hs hfl hr hwb hd0
  go_wp2
  go_region_with (go_at_call 31; refine Hfl.out.mono ?_; rintro e w6 ⟨a, cp, m, rfl, ha, rfl⟩; have ha' := ha (by omega); subst ha')
  all_goals
    have eX : (o.at_ + 1) * 2 + i * 2 = (o.at_ + 1 + i) * 2 := by omega
    rw [eX]
    obtain ⟨R7, hE7⟩ := (H4.out.1.drewN (1 + m)).chWord (d := d) (show o.at_ + 1 + i < (rowOf st o).length by have := H.out.2.2.2.2.2; omega) H4.out.2
    generalize hw7 : ((w4.drewN (1 + m)).setCell ⟨g, (o.at_ + 1 + i) * 2, none⟩ (.bool d.ref)).setCell ⟨g, (o.at_ + 1 + i) * 2 + 1, none⟩ (.int .i64 d.num) = w7 at *
    clear hw7 eX t0 t1 t0' t1' q0 q1 r0 r1
    have Hnote := Lib.hid (note_any R7 (by rw [putWd_objs]; exact H.out.2.2.2.1) (by rw [putWd_len]; exact H.out.2.2.2.2.2) (by rw [putWd_len]; omega))
    have H7 := Lib.hid (And.intro R7 hE7)
    clear R7 hE7
    go_wp2_with (go_at_call 32; refine Hnote.out.mono ?_; rintro e w8 ⟨rfl, hR8, hE8⟩; have H8 := Lib.hid (And.intro hR8 hE8); clear hR8 hE8)
    go_ret
    have hE4 : Ext F w (w4.drewN (1 + m)) := Below.ext (below_drewN Hb4.out.2 (1 + m)) F
    exact ⟨rfl, H8.out.1, (hE4.trans H7.out.2 (fun i hi => .inl hi)).trans H8.out.2 (fun i hi => .inl hi)⟩
end ops2
end Go.Proofs.Ytpjifaefchnmoaa
