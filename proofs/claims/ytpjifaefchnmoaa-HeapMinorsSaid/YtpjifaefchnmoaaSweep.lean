/- The method sweep: objects that are not reached are taken away. -/
import Derived.Test.YtpjifaefchnmoaaForget2
namespace Go.Proofs.Ytpjifaefchnmoaa
open Go.RowKit
open Go.ChangeMaps (setBlock)

theorem run_call_go {P : Program} {f : FuncId} {fn : Func} (hf : P.funcs[f]? = some fn) (hname : (fn.name == "runtime.NumGoroutine") = false) (hb : fn.body.isNone = false) (args : Array Value) (w : World) :
    (callFunc f args).run P w = .ok (.enter f args) w := by
  simp only [beq_eq_false_iff_ne, ne_eq] at hname
  have hb' : ¬ fn.body = none := by intro h; rw [h] at hb; cases hb
  simp [callFunc, go_sem, hf, hname, hb']
/-- A call of a function as one step of a region. -/
theorem step_call_eq {P : Program} {ops : Array Oper} {o : Oper} {a : Act} {w : World} {K : Act → World → Prop} {Q : Exit → Act → World → Prop} {E : Prop}
    (hgd : o.guard = none) (f : FuncId) (xs : List Operand) (ts : Array TypeId) (hop : o.op = Op.call { callee := Callee.value (.func f), args := xs.toArray, argTypes := ts })
    {fn : Func} (hf : P.funcs[f]? = some fn) (hname : (fn.name == "runtime.NumGoroutine") = false) (hb : fn.body.isNone = false)
    (args : List Value) (hargs : xs.map a.eval = args) {post : Ending → World → Prop} (hcall : Calls P f args.toArray w post)
    (hK : ∀ e w', post e w' → ∃ v, e = .returned v ∧ K (a.put o.dst v) w') : if Region.wanted o (yielded ops a.tmps) = true then Oper.wp P o a w K Q else E := by
  rw [if_pos (by simp [Region.wanted, hgd])]
  unfold Oper.wp
  have hexec : (execOp a.eval o).run P w = .ok (.enter f args.toArray) w := by
    unfold execOp
    simp [hop, resolve, hargs, go_sem, run_call_go hf hname hb]
  rw [hexec, Oper.upon_enter]
  refine hcall.mono ?_
  intro e w' h
  obtain ⟨v, rfl, hk⟩ := hK e w' h
  exact hk

theorem run_append_nothing {P : Program} {t e : TypeId} {i : TypeInfo} (ht : P.underlying t = some (.slice e)) (hi : P.info? e = some i) (ty : TypeId) (b : Option Addr) (n cap : Nat) (hn : n ≤ cap) (w : World) :
    (Builtin.append_ #[t, t] ty #[.slice b n cap, .slice none 0 0]).run P w = .ok (.slice b n cap) w := by
  cases b <;> simp [Builtin.append_, run_underlying ht, sizeOf, typeInfo, hi, Builtin.lenOf, Builtin.firstCells, loadCells, hn, storeCells, Result.andThen]

/-- 'delete(m, k)' while ranging over m, where k has come already. -/
theorem IMap.deleteI {P : Program} {w : World} {b r : Nat} {l0 l : List (Int × Value)} {t kt et : TypeId} (h : IMap w b l0) (ht : P.underlying t = some (.map kt et)) (hk : P.underlying kt = some (.int .i64)) (hit : Iter w r b l) (k : Int) (hkl : ∀ p ∈ l, p.1 ≠ k) (ty : TypeId) (t2 : TypeId) :
    ∃ w', (Builtin.delete_ #[t, t2] ty #[.map (some b), .int .i64 k]).run P w = .ok (.tuple #[]) w' ∧ IMap w' b (adel l0 k) ∧ Ext (· = b) w w' ∧ Iter w' r b l := by
  obtain ⟨es, clock, hb, he, hn, hs1, hs2⟩ := h
  obtain ⟨es', clock', since, seen, g1, g2, g3, g4, g5⟩ := hit
  rw [hb] at g1
  simp only [Option.some.injEq, Obj.map.injEq] at g1
  obtain ⟨rfl, rfl⟩ := g1
  have hne : r ≠ b := by rintro rfl; rw [hb] at g2; cases g2
  have hr : ∀ o, (setBlock w b o).heap[r]? = some (.mapIter (some b) since seen clock) := fun o => by
    rw [(ext_setBlock (w := w) (b := b) o).block r (lt_of_blk g2) hne]; exact g2
  rcases findNow_int k es.toList l0 0 he with ⟨j, u, h1, h2, h3⟩ | ⟨h1, h2⟩
  · simp only [Nat.zero_add] at h1
    obtain ⟨e, hej, hek⟩ := getElem?_map_key he h3
    refine ⟨setBlock w b (.map (es.eraseIdxIfInBounds j) clock), ?_, ⟨_, _, get_setBlock hb _, ?_, adel_nodup hn k, ?_, ?_⟩, ext_setBlock _, ⟨_, clock, since, seen, get_setBlock hb _, hr _, g3, ?_, ?_⟩⟩
    · simp [Builtin.delete_, run_underlying ht, MapKept.run_getObj_map hb, run_checkKey_int hk, Instr.findKey, run_underlying hk, h1, Result.andThen, MapKept.run_setObj_map _ hb, setBlock]
    · rw [Array.toList_eraseIdxIfInBounds]
      exact erase_pairs k _ _ _ he hn h3
    · rw [Array.toList_eraseIdxIfInBounds]
      exact hs1.sublist ((List.eraseIdx_sublist _ _).map _)
    · intro x hx
      rw [Array.toList_eraseIdxIfInBounds] at hx
      exact hs2 x ((List.eraseIdx_sublist _ _).subset hx)
    · intro x hx
      rw [Array.toList_eraseIdxIfInBounds] at hx
      exact g4 x ((List.eraseIdx_sublist _ _).subset hx)
    · rw [← g5]
      congr 1
      unfold leftOf
      rw [Array.toList_filter, Array.toList_filter, Array.toList_eraseIdxIfInBounds]
      -- the entry that goes was seen
      have hseen : seen.contains e.born = true := by
        cases hc : seen.contains e.born with
        | true => rfl
        | false =>
          exfalso
          have hm : e ∈ (leftOf es seen).toList := by
            unfold leftOf
            rw [Array.toList_filter, List.mem_filter]
            exact ⟨List.mem_of_getElem? hej, by simp at hc ⊢; exact hc⟩
          have hm2 : (e.key, e.val) ∈ (leftOf es seen).toList.map (fun e => (e.key, e.val)) := List.mem_map_of_mem hm
          rw [g5, hek] at hm2
          obtain ⟨p, hp, hpe⟩ := List.mem_map.1 hm2
          simp only [Prod.mk.injEq, Value.int.injEq, true_and] at hpe
          exact hkl p hp hpe.1
      obtain ⟨hjl, hje⟩ := List.getElem?_eq_some_iff.1 hej
      have e1 : es.toList = es.toList.take j ++ e :: es.toList.drop (j + 1) := by
        rw [← hje, List.getElem_cons_drop, List.take_append_drop]
      have e2 : es.toList.eraseIdx j = es.toList.take j ++ es.toList.drop (j + 1) := List.eraseIdx_eq_take_drop_succ _ _
      rw [e2]
      conv => rhs; rw [e1]
      rw [List.filter_append, List.filter_append, List.filter_cons, if_neg (by simp at hseen ⊢; exact hseen)]
  · refine ⟨setBlock w b (.map es clock), ?_, ⟨_, _, get_setBlock hb _, ?_, adel_nodup hn k, hs1, hs2⟩, ext_setBlock _, ⟨es, clock, since, seen, get_setBlock hb _, hr _, g3, g4, g5⟩⟩
    · simp [Builtin.delete_, run_underlying ht, MapKept.run_getObj_map hb, run_checkKey_int hk, Instr.findKey, run_underlying hk, h1, Result.andThen, MapKept.run_setObj_map _ hb, setBlock]
    · rw [adel_of_none h2]; exact he

theorem adel_filter {α : Type} : ∀ (l : List (Int × α)) (k : Int), (l.map (·.1)).Nodup → adel l k = l.filter fun p => decide (p.1 ≠ k)
  | [], _, _ => rfl
  | p :: l, k, hn => by
    simp only [List.map_cons, List.nodup_cons] at hn
    simp only [adel]
    split
    · rename_i e
      subst e
      rw [List.filter_cons, if_neg (by simp)]
      symm
      rw [List.filter_eq_self]
      intro q hq
      simp only [ne_eq, decide_not, Bool.not_eq_true', decide_eq_false_iff_not]
      intro e
      exact hn.1 (e ▸ List.mem_map_of_mem hq)
    · rename_i e
      rw [List.filter_cons, if_pos (by simpa using fun e' => e e'.symm), adel_filter l k hn.2]

theorem Row.le {F : Nat → Prop} {e : TypeId} {size : Nat} {w : World} {a : Option Addr} {n cap : Nat} {xs : List Value} (h : Row F e size w (.slice a n cap) n xs) : n ≤ cap := by
  rcases h.cases with ⟨h0, h1, _⟩ | ⟨g, cap', cur, hv, _, _, h1, _⟩
  · omega
  · simp only [Value.slice.injEq] at hv
    omega

/-- Only the objects that are named stay. -/
def sweepSt (st : St) (S : List Int) : St := { st with objs := st.objs.filter fun p => decide (p.1 ∈ S) }

/-- What is left of the objects while some are still to come. -/
def sweepCur (st : St) (S : List Int) (todo : List (Int × Ob)) : List (Int × Ob) := st.objs.filter fun p => decide (p.1 ∈ S ∨ p.1 ∈ todo.map (·.1))

section sweep
variable {F : Nat → Prop} {L : Lay} {st : St} {w w' : World}

theorem Rep.delO (R : Rep F L st w) (hE : Ext (· = L.mo) w w') {k : Int} (hm : IMap w' L.mo (adel (st.objs.map fun p => (p.1, ptr p.2.b)) k)) : Rep F L { st with objs := adel st.objs k } w' where
  hH := hE.get R.hH (fun e => map_ne_cells R.mO R.hH e.symm)
  mO := by show IMap w' L.mo ((adel st.objs k).map fun p => (p.1, ptr p.2.b)); rw [← adel_map (fun o : Ob => ptr o.b)]; exact hm
  mH := R.mH.ext hE (fun e => R.sep1.1 e.symm)
  mR := R.mR.ext hE (fun e => R.sep1.2.1 e.symm)
  ob := fun p hp => by
    have hp' := (adel_sublist st.objs k).subset hp
    have := R.ob p hp'
    exact ⟨hE.get this.1 (fun e => map_ne_cells R.mO this.1 e.symm), this.2.1.ext hE (fun j hj e => row_ne_map this.2.1 R.mO hj e), this.2.2⟩
  r0 := R.r0.ext hE (fun j hj e => row_ne_map R.r0 R.mO hj e)
  r1 := R.r1.ext hE (fun j hj e => row_ne_map R.r1 R.mO hj e)
  fr := hE.get R.fr (fun e => map_ne_cells R.mO R.fr e.symm)
  rf := R.rf.ext hE (fun j hj e => row_ne_map R.rf R.mO hj e)
  fs := R.fs
  lt := fun j hj => Nat.lt_of_lt_of_le (R.lt j hj) hE.size
  sep1 := R.sep1
  sep2 := R.sep2.sublist ((adel_sublist st.objs k).map _)
  sep3 := R.sep3
  sep4 := fun p hp q hq => R.sep4 p ((adel_sublist _ _).subset hp) q ((adel_sublist _ _).subset hq)

def SweepPost (F : Nat → Prop) (L : Lay) (st : St) (w : World) (e : Ending) (w' : World) : Prop :=
  e = .returned (.tuple #[]) ∧ (∃ S, ReachS st (st.hnd.map (·.2)) S ∧ Rep (grow F w w') L (forgetSt (sweepSt st S)) w') ∧ Ext F w w'

theorem ReachS.perm {frm frm' S : List Int} (h : ReachS st frm S) (hp : ∀ n, n ∈ frm ↔ n ∈ frm') : ReachS st frm' S :=
  ⟨h.sub, fun n hn => h.roots n ((hp n).2 hn), h.clo, fun Z hZ hf n hn => h.min Z hZ (fun n hn => hf n ((hp n).1 hn)) n hn⟩

theorem sweepCur_keep {S : List Int} {l1 l2 : List (Int × Ob)} {key : Int} {o : Ob} (h : key ∈ S) : sweepCur st S (l1 ++ (key, o) :: l2) = sweepCur st S (l1 ++ l2) := by
  unfold sweepCur
  congr 1
  funext p
  simp only [List.map_append, List.map_cons, List.mem_append, List.mem_cons, decide_eq_decide]
  constructor
  · rintro (h1 | h1 | h1 | h1)
    · exact .inl h1
    · exact .inr (.inl h1)
    · exact .inl (h1 ▸ h)
    · exact .inr (.inr h1)
  · rintro (h1 | h1 | h1)
    · exact .inl h1
    · exact .inr (.inl h1)
    · exact .inr (.inr (.inr h1))

theorem sweepCur_drop {S : List Int} {l1 l2 : List (Int × Ob)} {key : Int} {o : Ob} (h : key ∉ S) (hn : (st.objs.map (·.1)).Nodup) (hnd : ((l1 ++ (key, o) :: l2).map (·.1)).Nodup) :
    adel (sweepCur st S (l1 ++ (key, o) :: l2)) key = sweepCur st S (l1 ++ l2) := by
  rw [adel_filter]
  · unfold sweepCur
    rw [List.filter_filter]
    congr 1
    funext p
    have hk : key ∉ (l1 ++ l2).map (·.1) := by
      rw [List.map_append, List.map_cons, List.nodup_append, List.nodup_cons] at hnd
      rw [List.map_append, List.mem_append]
      rintro (hk | hk)
      · exact hnd.2.2 _ hk _ List.mem_cons_self rfl
      · exact hnd.2.1.1 hk
    rw [← Bool.decide_and, decide_eq_decide]
    by_cases e : p.1 = key
    · rw [e]
      simp only [ne_eq, not_true_eq_false, false_and, false_iff]
      rintro (h1 | h1)
      · exact h h1
      · exact hk h1
    · simp [e]
  · exact hn.sublist (List.filter_sublist.map _)

set_option maxRecDepth 100000 in
set_option maxHeartbeats 2000000 in
theorem sweep_any (R : Rep F L st w) (hwh : Whole st) (hfl : Flds st) (hN : st.objs.length < 10000) (hnh : st.hnd.length < 10000) (hf : ∀ n ∈ st.hnd.map (·.2), ∃ o, alook st.objs n = some o) :
    Calls Try.prog 52 #[.pointer (some ⟨L.hb, 0, none⟩)] w (SweepPost F L st w) := by
  have H := Lib.hid (And.intro R (And.intro hwh (And.intro hfl (And.intro hN (And.intro hnh hf)))))
  have c6 : w.drew.cell? ⟨L.hb, 6, none⟩ = some (.slice none 0 0) := R.hc 6
  clear R hwh hfl hN hnh hf
  have Rd : Rep F L st w.drew := H.out.1.drewN 1
  have Hroots := Lib.hid (roots_any Rd (by have := H.out.2.2.2.2.1; omega))
  have Rd2 := Lib.hid Rd
  clear Rd
  go_enter Try.func52, Try.ntmps52
  go_wp2
  go_region_law (first
    | (refine step_append_eq rfl _ _ _ rfl _ _ rfl rfl _ (happ _) ?_)
    | (refine step_call_eq rfl 43 [.tmp 5] #[87] rfl Try.func43 (by kernel_rfl) (by kernel_rfl) [.pointer (some ⟨L.hb, 0, none⟩)] rfl Hroots.out ?_
       rintro e w1 ⟨v, l, rfl, hperm, hrow, hb1⟩
       obtain ⟨a, cap, rfl⟩ := hrow.form
       have happ := fun ww => run_append_nothing (P := Try.prog) Try.underlying28 (info_parts info3).choose_spec.1 28 a l.length cap hrow.le ww
       have c6b : w1.cell? ⟨L.hb, 6, none⟩ = some (.slice none 0 0) := (Rd2.out.below' hb1).hc 6
       have Hre := Lib.hid (reached_any (Rd2.out.below' hb1) H.out.2.1 H.out.2.2.1 H.out.2.2.2.1 hrow (by have := hperm.length_eq; simp at this; have := H.out.2.2.2.2.1; omega) (fun n hn => H.out.2.2.2.2.2 n (hperm.subset hn)))
       have H1 := Lib.hid (And.intro hperm hb1)
       clear hperm hrow hb1
       refine ⟨_, rfl, ?_⟩)
    | (refine step_call_eq rfl 66 [.tmp 4, .tmp 11] #[87, 28] rfl Try.func66 (by kernel_rfl) (by kernel_rfl) [.pointer (some ⟨L.hb, 0, none⟩), .slice a l.length cap] rfl Hre.out ?_
       rintro e w2 ⟨sb, S, rfl, hI, hsb, hb2, hR⟩
       have H2 := Lib.hid (And.intro hI (And.intro hsb (And.intro hb2 hR)))
       clear hI hsb hb2 hR
       refine ⟨_, rfl, ?_⟩))
  all_goals
    have hbA : Below w.heap.size w w2 := (below_drewN (Below.refl _ w) 1).trans (H1.out.2.trans (H2.out.2.2.1.mono H1.out.2.size))
    have R2 := H.out.1.below' hbA
    have c0 : w2.cell? ⟨L.hb, 0, none⟩ = some (.map (some L.mo)) := R2.hc 0
    obtain ⟨w3, hrg, hit, hI3, hb3⟩ := R2.mO.range (P := Try.prog) Try.underlying54
    have R3 := R2.below' hb3
    have hsb2 := H2.out.1.lt
    have hS3 := H2.out.1.below hb3 hsb2
    have hsbm : sb ≠ L.mo := fun e => by
      have h1 := H.out.1.lt _ H.out.1.fs.2.1
      have h2 : w.heap.size ≤ w1.heap.size := H1.out.2.size
      have h3 := H2.out.2.1
      omega
    have hltF : ∀ k, F k → k < w2.heap.size := R2.lt
    have H3 := Lib.hid (And.intro hbA (And.intro hit (And.intro R3 (And.intro hS3 (And.intro hsb2 (And.intro hsbm (And.intro hltF hb3)))))))
    clear hbA R2 hit hI3 hb3 R3 hsb2 hS3 hsbm hltF c6 c6b happ
    go_wp2_with (at_range; refine wpList_range_eq rfl _ _ rfl _ rfl _ hrg ?_)
    go_frame
    clear c0 hrg
    go_loopw [3] (fun _ wr => ∃ todo : List (Int × Ob), Iter wr w2.heap.size L.mo (todo.map fun p => (p.1, ptr p.2.b)) ∧ (todo.map (·.1)).Nodup ∧ (∀ p ∈ todo, p ∈ st.objs) ∧ Rep F L { st with objs := sweepCur st S todo } wr ∧ IMap wr sb (S.map fun n => (n, .bool true)) ∧ Ext (fun k => k = L.mo ∨ k = w2.heap.size) w3 wr) (fun _ wr => iterLeft wr w2.heap.size)
    case atStart =>
      refine ⟨st.objs, H3.out.2.1, H.out.1.nodupO, fun _ h => h, ?_, H3.out.2.2.2.1, Ext.refl _ _⟩
      have e : sweepCur st S st.objs = st.objs := by
        unfold sweepCur
        rw [List.filter_eq_self]
        intro p hp
        have h1 : p.1 ∈ st.objs.map (·.1) := List.mem_map_of_mem hp
        rw [decide_eq_true_eq]
        exact Or.inr h1
      rw [e]
      exact H3.out.2.2.1
    case round =>
      obtain ⟨todo, hit, hnd, hsub, hR, hI, hE⟩ := hrel
      rcases Iter.nextM (P := Try.prog) (fun o : Ob => ptr o.b) hit ⟨_, hR.mO⟩ 0 with ⟨rfl, hrun⟩ | ⟨l1, key, o, l2, w4, rfl, hrun, hent, hit4, hE4⟩
      · have e : sweepCur st S [] = (sweepSt st S).objs := by unfold sweepCur sweepSt; simp
        have hR' : Rep F L (sweepSt st S) wr := by
          have := hR
          rw [e] at this
          exact this
        have Hfg := Lib.hid (forget_any hR')
        have hEw : Ext F w wr := by
          refine ((Below.ext H3.out.1 F).trans (Below.ext H3.out.2.2.2.2.2.2.2 F) (fun i hi => .inl hi)).trans hE (fun i hi => ?_)
          rcases hi with hi | hi
          · exact .inl (hi ▸ H.out.1.fs.2.1)
          · exact .inr (by have := H3.out.1.size; omega)
        have HE := Lib.hid hEw
        clear hit hnd hsub hR hI hE hR' hEw e
        go_wp2_with (first | (at_next; refine wpList_next_eq rfl _ _ rfl _ rfl _ hrun ?_) | (go_at_call 49; refine Hfg.out.mono ?_; rintro e w5 ⟨rfl, hR5, hE5⟩; have HR5 := Lib.hid hR5; have HE5 := Lib.hid hE5; clear hR5 hE5))
        go_end0
        refine ⟨rfl, ⟨S, H2.out.2.2.2.perm fun n => H1.out.1.mem_iff, HR5.out.mono (fun k hk => ?_) (fun k hk => ?_)⟩, HE.out.trans HE5.out (fun i hi => .inl hi)⟩
        · rcases hk with hk | hk
          · exact .inl hk
          · exact .inr ⟨Nat.le_trans HE.out.size hk.1, hk.2⟩
        · rcases hk with hk | hk
          · exact Nat.lt_of_lt_of_le (H.out.1.lt k hk) (Nat.le_trans HE.out.size HE5.out.size)
          · exact hk.2
      · have hR4 := hR.ext hE4 (fun k hk e => by have := H3.out.2.2.2.2.2.2.1 k hk; omega)
        have hI4 := hI.ext hE4 (fun e => by have := H3.out.2.2.2.2.1; omega)
        have c0 : w4.cell? ⟨L.hb, 0, none⟩ = some (.map (some L.mo)) := hR4.hc 0
        have lk := hI4.look Try.underlying58 Try.underlying3 (zero4 w4) key false
        rw [look_seen] at lk
        have hE34 : Ext (fun k => k = L.mo ∨ k = w2.heap.size) w3 w4 := hE.trans hE4 (fun k hk => .inl (.inr hk))
        have hnds : ((l1 ++ l2).map (·.1)).Nodup := hnd.sublist (((List.sublist_cons_self _ _).append_left l1).map _)
        have hsubs : ∀ p ∈ l1 ++ l2, p ∈ st.objs := fun p hp => hsub p (by simp at hp ⊢; rcases hp with hp | hp; exact .inl hp; exact .inr (.inr hp))
        have hkn : ∀ p ∈ l1 ++ l2, p.1 ≠ key := by
          intro p hp e
          rw [List.map_append, List.map_cons, List.nodup_append, List.nodup_cons] at hnd
          rcases List.mem_append.1 hp with hp | hp
          · exact hnd.2.2 _ (List.mem_map_of_mem hp) _ List.mem_cons_self e
          · exact hnd.2.1.1 (List.mem_map.2 ⟨p, hp, e⟩)
        by_cases hk : key ∈ S
        · rw [if_pos hk] at lk
          rw [sweepCur_keep hk] at hR4
          have hms : iterLeft w4 w2.heap.size < iterLeft wr w2.heap.size := by
            rw [hit4.left, hit.left]; simp
          have Hk := Lib.hid (And.intro hit4 (And.intro hnds (And.intro hsubs (And.intro hR4 (And.intro hI4 (And.intro hE34 hms))))))
          clear hit hnd hsub hR hI hE hR4 hI4 hE34 hnds hsubs hkn hit4 hE4 hms
          simp only [ptr] at hrun hent
          go_wp2_with (at_next; refine wpList_next_eq rfl _ _ rfl _ rfl _ hrun ?_)
          go_roundw
          case rel => exact ⟨_, Hk.out.1, Hk.out.2.1, Hk.out.2.2.1, Hk.out.2.2.2.1, Hk.out.2.2.2.2.1, Hk.out.2.2.2.2.2.1⟩
          case measure => exact Hk.out.2.2.2.2.2.2
        · rw [if_neg hk] at lk
          obtain ⟨w5, hdel, hI5, hE5, hit5⟩ := hR4.mO.deleteI (P := Try.prog) Try.underlying54 Try.underlying3 hit4 key (by intro p hp; obtain ⟨q, hq, rfl⟩ := List.mem_map.1 hp; exact hkn q hq) 0 3
          have hR5 := hR4.delO hE5 hI5
          have e : adel (sweepCur st S (l1 ++ (key, o) :: l2)) key = sweepCur st S (l1 ++ l2) := sweepCur_drop hk H.out.1.nodupO hnd
          have hR5' : Rep F L { st with objs := sweepCur st S (l1 ++ l2) } w5 := by
            have := hR5
            rw [← e]
            exact this
          have hS5 := hI4.ext hE5 (fun e => H3.out.2.2.2.2.2.1 e)
          have hE35 : Ext (fun k => k = L.mo ∨ k = w2.heap.size) w3 w5 := hE34.trans hE5 (fun k hk => .inl (.inl hk))
          have hms : iterLeft w5 w2.heap.size < iterLeft wr w2.heap.size := by
            rw [hit5.left, hit.left]; simp
          have Hk := Lib.hid (And.intro hit5 (And.intro hnds (And.intro hsubs (And.intro hR5' (And.intro hS5 (And.intro hE35 hms))))))
          clear hit hnd hsub hR hI hE hR4 hI4 hE34 hnds hsubs hkn hit4 hE4 hms hI5 hE5 hit5 hR5 hR5' hS5 hE35 e
          simp only [ptr] at hrun hent
          go_wp2_with (first | (at_next; refine wpList_next_eq rfl _ _ rfl _ rfl _ hrun ?_) | (at_delete; refine wpList_delete_eq rfl _ _ _ rfl _ _ rfl rfl _ hdel ?_))
          go_frame
          go_roundw
          case rel => exact ⟨_, Hk.out.1, Hk.out.2.1, Hk.out.2.2.1, Hk.out.2.2.2.1, Hk.out.2.2.2.2.1, Hk.out.2.2.2.2.2.1⟩
          case measure => exact Hk.out.2.2.2.2.2.2
end sweep
end Go.Proofs.Ytpjifaefchnmoaa
