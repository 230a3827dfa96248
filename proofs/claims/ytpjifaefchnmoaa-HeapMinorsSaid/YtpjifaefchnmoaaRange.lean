/- The methods that range over the maps of a heap: roots, used. -/
import Derived.Test.YtpjifaefchnmoaaNote
namespace Go.Proofs.Ytpjifaefchnmoaa
open Go.RowKit

/-- How many entries an iterator still has to come. -/
def iterLeft (w : World) (r : Nat) : Nat := match w.heap[r]? with
  | some (.mapIter (some m) _ seen _) => (match w.heap[m]? with
    | some (.map es _) => (leftOf es seen).size
    | _ => 0)
  | _ => 0

theorem Iter.left {w : World} {r b : Nat} {l : List (Int × Value)} (h : Iter w r b l) : iterLeft w r = l.length := by
  obtain ⟨es, clock, since, seen, h1, h2, _, _, h5⟩ := h
  have := congrArg List.length h5
  simp [iterLeft, h1, h2] at this ⊢
  exact this

/-- A step of an iterator over the image of a list. -/
theorem Iter.nextM {α : Type} {P : Program} {w : World} {r b : Nat} {l : List (Int × α)} (f : α → Value) (h : Iter w r b (l.map fun p => (p.1, f p.2))) (hI : ∃ l0, IMap w b l0) (ty : TypeId) :
    (l = [] ∧ (Instr.next (.pointer (some ⟨r, 0, none⟩)) false ty).run P w = .ok (.tuple #[.bool false]) w) ∨
    ∃ l1 k x l2 w', l = l1 ++ (k, x) :: l2 ∧ (Instr.next (.pointer (some ⟨r, 0, none⟩)) false ty).run P w = .ok (.tuple #[.bool true, .int .i64 k, f x]) w' ∧
      (Instr.entry (.pointer (some ⟨r, 0, none⟩))).run P w' = .ok (.tuple #[.int .i64 k, f x]) w' ∧ Iter w' r b ((l1 ++ l2).map fun p => (p.1, f p.2)) ∧ Ext (· = r) w w' := by
  rcases h.next (P := P) hI ty with ⟨h0, hrun⟩ | ⟨l1, k, v, l2, w', e, hrun, hent, hit, hE⟩
  · exact .inl ⟨by simpa using h0, hrun⟩
  · obtain ⟨A, rest, rfl, e1, e2⟩ := List.map_eq_append_iff.1 e
    obtain ⟨p, B, rfl, e3, e4⟩ := List.map_eq_cons_iff.1 e2
    simp only [Prod.mk.injEq] at e3
    refine .inr ⟨A, p.1, p.2, B, w', rfl, by rw [hrun, ← e3.1, ← e3.2], by rw [hent, ← e3.1, ← e3.2], ?_, hE⟩
    rw [List.map_append, e1, e4]; exact hit

section range
variable {F : Nat → Prop} {L : Lay} {st : St} {w w' : World}

set_option maxHeartbeats 400000 in
theorem clone_nil (w : World) : Calls Try.prog 62 #[.slice none 0 0] w fun e w' => e = .returned (.slice none 0 0) ∧ w = w' := by
  have hq := Lib.run_eql_slice_nil (P := Try.prog) w 28 3 none 0 0 0 0 Try.underlying28
  go_enter Try.func62, Try.ntmps62
  go_wp2
  go_ret
  exact ⟨rfl, rfl⟩

/-- One number more behind a row of the call's own. -/
theorem app_step {B : Nat} {w0 wr : World} {v : Value} {l : List Int} (x : Int) (hr : Row (fun k => B ≤ k) 3 1 wr v l.length (ints l)) (hb : Below B w0 wr) (hB : B ≤ wr.heap.size) (hl : l.length < 1000000) :
    ∃ a cap w', (Builtin.append_ #[28, 28] 28 #[v, .slice (some ⟨wr.heap.size, 0, none⟩) 1 1]).run Try.prog (wr.alloc (.cells #[.int .i64 x] 3)) = .ok (.slice a (l.length + 1) cap) w' ∧
      Row (fun k => B ≤ k) 3 1 w' (.slice a (l.length + 1) cap) (l.length + 1) (ints (l ++ [x])) ∧ Below B w0 w' ∧ Ext (fun k => v.ownBlock = some k) wr w' ∧
      ((Value.slice a (l.length + 1) cap).ownBlock = v.ownBlock ∨ ∃ b, (Value.slice a (l.length + 1) cap).ownBlock = some b ∧ wr.heap.size < b) := by
  have hr' : Row (fun k => v.ownBlock = some k) 3 1 wr v l.length (ints l) := ⟨hr.1, fun _ h => h⟩
  obtain ⟨v', w', r1, r2, r3, r4⟩ := hr'.append1 Try.underlying28 info3 rfl 28 (.int .i64 x) rfl (by omega) (by decide)
  obtain ⟨a, cap, rfl⟩ := r2.form
  refine ⟨a, cap, w', r1, ?_, hb.trans (r3.below hB fun k hk => hr.2 k hk), r3, r4⟩
  have := r2.mono (G := fun k => B ≤ k) (by
    rintro k (hk | hk)
    · exact hr.2 k hk
    · exact Nat.le_trans hB hk.1)
  simpa [ints] using this

theorem ints_perm {l : List Int} {l' : List Int} (h : (l.map (Value.int .i64)).Perm (l'.map (Value.int .i64))) : l.Perm l' := by
  have := h.map intOf
  simpa [List.map_map, Function.comp_def, intOf] using this

def RootsPost (w : World) (st : St) (e : Ending) (w' : World) : Prop :=
  ∃ v l, e = .returned v ∧ l.Perm (st.hnd.map (·.2)) ∧ Row (fun k => w.heap.size ≤ k) 3 1 w' v l.length (ints l) ∧ Below w.heap.size w w'

set_option maxRecDepth 100000 in
set_option maxHeartbeats 1000000 in
theorem roots_any (R : Rep F L st w) (hn : st.hnd.length < 100000) : Calls Try.prog 43 #[.pointer (some ⟨L.hb, 0, none⟩)] w (RootsPost w st) := by
  have c7 : w.cell? ⟨L.hb, 7, none⟩ = some (.slice none 0 0) := R.hc 7
  have c5 : w.cell? ⟨L.hb, 5, none⟩ = some (.map (some L.mh)) := R.hc 5
  obtain ⟨w1, hrg, hit, hI1, hb1⟩ := R.mH.range (P := Try.prog) Try.underlying57
  have Hc := Lib.hid (clone_nil w)
  have Hit := Lib.hid hit
  have Hb1 := Lib.hid hb1
  have hmh : L.mh < w.heap.size := R.lt _ R.fs.2.2.1
  have hIM : ∀ wr, Below w.heap.size w wr → ∃ l0, IMap wr L.mh l0 := fun wr hb => ⟨_, R.mH.below hb hmh⟩
  have HIM := Lib.hid hIM
  clear R hit hI1 hb1 hIM
  go_enter Try.func43, Try.ntmps43
  go_wp2_with (first | (go_at_call 62; refine Hc.out.mono ?_; rintro e w' ⟨rfl, rfl⟩) | (at_range; refine wpList_range_eq rfl _ _ rfl _ rfl _ hrg ?_))
  go_frame
  go_loopw [3] (fun v wr => ∃ (done : List Int) (todo : List (Int × Value)), Iter wr w.heap.size L.mh todo ∧ (done.map (Value.int .i64) ++ todo.map (·.2)).Perm (st.hnd.map fun p => Value.int .i64 p.2) ∧
      Row (fun k => w.heap.size ≤ k) 3 1 wr v done.length (ints done) ∧ (∀ k, v.ownBlock = some k → k ≠ w.heap.size) ∧ Below w.heap.size w wr) (fun _ wr => iterLeft wr w.heap.size)
  case atStart => exact ⟨[], _, Hit.out, by simp [Function.comp_def], Row.nil _ _ _ _, fun k hk => (by cases hk), Hb1.out⟩
  case round =>
    obtain ⟨done, todo, hit, hp, hr, hne, hb⟩ := hrel
    obtain ⟨a0, cap0, hv⟩ := hr.form
    subst hv
    rcases hit.next (P := Try.prog) (HIM.out wr hb) 0 with ⟨rfl, hrun⟩ | ⟨l1, key, val, l2, w2, rfl, hrun, hent, hit2, hE2⟩
    · have hperm : done.Perm (st.hnd.map (·.2)) := ints_perm (by simpa [List.map_map, Function.comp_def] using hp)
      have Hp := Lib.hid hperm
      have Hr := Lib.hid hr
      have Hb := Lib.hid hb
      clear hp hr hb hit hne hperm
      go_wp2_with (at_next; refine wpList_next_eq rfl _ _ rfl _ rfl _ hrun ?_)
      go_ret
      exact ⟨_, done, rfl, Hp.out, Hr.out, Hb.out⟩
    · obtain ⟨m, rfl⟩ : ∃ m, val = .int .i64 m := by
        have : val ∈ st.hnd.map fun p => Value.int .i64 p.2 := hp.subset (by simp)
        obtain ⟨p, _, rfl⟩ := List.mem_map.1 this
        exact ⟨_, rfl⟩
      have hlen : done.length < 1000000 := by
        have := hp.length_eq
        simp at this
        omega
      have hb2 : Below w.heap.size w w2 := hb.trans (hE2.below hb.size fun k hk => by subst hk; exact Nat.le_refl _)
      have hr2 := hr.ext hE2 hne
      obtain ⟨a1, cap1, w3, hrun3, hr3, hb3, hE3, hblk⟩ := app_step (w0 := w) m hr2 hb2 hb2.size hlen
      have hml : ¬ (Value.slice a0 done.length cap0).ownBlock = some L.mh := by
        intro e
        obtain ⟨l0, hI0⟩ := HIM.out w2 hb2
        exact row_ne_map hr2 hI0 e rfl
      have hit3 : Iter w3 w.heap.size L.mh (l1 ++ l2) := hit2.of_block (hE3.block _ hit2.lt.1 hml) (hE3.block _ hit2.lt.2 fun e => hne _ e rfl)
      have hp3 : ((done ++ [m]).map (Value.int .i64) ++ (l1 ++ l2).map (·.2)).Perm (st.hnd.map fun p => Value.int .i64 p.2) := by
        refine List.Perm.trans ?_ hp
        simp only [List.map_append, List.map_cons, List.map_nil, List.append_assoc]
        refine List.Perm.append_left _ ?_
        rw [List.singleton_append]
        exact List.perm_middle.symm
      have hne3 : ∀ k, (Value.slice a1 (done.length + 1) cap1).ownBlock = some k → k ≠ w.heap.size := by
        intro k hk
        rcases hblk with e | ⟨b, e, hlt⟩
        · exact hne k (e ▸ hk)
        · rw [e] at hk; cases hk
          have := hb2.size
          omega
      have hms : iterLeft w3 w.heap.size < iterLeft wr w.heap.size := by
        rw [hit3.left, hit.left]; simp
      have H := Lib.hid (And.intro hit3 (And.intro hp3 (And.intro hr3 (And.intro hne3 (And.intro hb3 hms)))))
      clear hit3 hp3 hr3 hne3 hb3 hms hml hr2 hb2 hlen hp hr hne hb hit hE2 hE3 hit2 hblk
      go_wp2_with (first | (at_next; refine wpList_next_eq rfl _ _ rfl _ rfl _ hrun ?_) | (at_builtin; refine wpList_append_eq rfl _ _ _ rfl _ _ rfl rfl _ hrun3 ?_))
      go_roundw
      case rel => exact ⟨done ++ [m], _, H.out.1, H.out.2.1, by simpa using H.out.2.2.1, H.out.2.2.2.1, H.out.2.2.2.2.1⟩
      case measure => exact H.out.2.2.2.2.2
/-- The words of some objects. -/
def wsum (l : List (Int × Ob)) : Nat := (l.map fun p => 1 + p.2.size + 3 * entCount p.2.ent).sum

theorem wsum_mid (l1 l2 : List (Int × Ob)) (p : Int × Ob) : wsum (l1 ++ p :: l2) = (1 + p.2.size + 3 * entCount p.2.ent) + wsum (l1 ++ l2) := by
  simp [wsum]; omega

set_option maxRecDepth 100000 in
set_option maxHeartbeats 1000000 in
theorem used_any (R : Rep F L st w) (hu : wsum st.objs < 100000) : Calls Try.prog 37 #[.pointer (some ⟨L.hb, 0, none⟩)] w fun e w' => e = .returned (.int .i64 (wsum st.objs)) ∧ Below w.heap.size w w' := by
  have c0 : w.cell? ⟨L.hb, 0, none⟩ = some (.map (some L.mo)) := R.hc 0
  obtain ⟨w1, hrg, hit, hI1, hb1⟩ := R.mO.range (P := Try.prog) Try.underlying54
  have Hit := Lib.hid hit
  have Hb1 := Lib.hid hb1
  have hIM : ∀ wr, Below w.heap.size w wr → ∃ l0, IMap wr L.mo l0 := fun wr hb => ⟨_, R.mO.below hb (R.lt _ R.fs.2.1)⟩
  have HIM := Lib.hid hIM
  have hwords : ∀ wr, Below w.heap.size w wr → ∀ p ∈ st.objs, Calls Try.prog 60 #[.pointer (some ⟨p.2.b, 0, none⟩)] wr fun e w' => e = .returned (.int .i64 (1 + p.2.size + 3 * entCount p.2.ent)) ∧ ∃ m, w' = wr.drewN m := by
    intro wr hb p hp
    refine words_any (R.below' hb) (alook_of_mem R.nodupO hp) ?_
    obtain ⟨A, B, e⟩ := List.append_of_mem hp
    rw [e, wsum_mid] at hu
    omega
  have Hw := Lib.hid hwords
  clear R hit hI1 hb1 hIM hwords
  go_enter Try.func37, Try.ntmps37
  go_wp2_with (at_range; refine wpList_range_eq rfl _ _ rfl _ rfl _ hrg ?_)
  go_frame
  go_loopw [3] (fun s wr => ∃ (acc : Nat) (todo : List (Int × Ob)), s = .int .i64 acc ∧ Iter wr w.heap.size L.mo (todo.map fun p => (p.1, ptr p.2.b)) ∧ (∀ p ∈ todo, p ∈ st.objs) ∧ acc + wsum todo = wsum st.objs ∧ Below w.heap.size w wr) (fun _ wr => iterLeft wr w.heap.size)
  case atStart => exact ⟨0, st.objs, rfl, Hit.out, fun _ h => h, by simp, Hb1.out⟩
  case round =>
    obtain ⟨acc, todo, rfl, hit, hsub, hacc, hb⟩ := hrel
    rcases Iter.nextM (P := Try.prog) (fun o : Ob => ptr o.b) hit (HIM.out wr hb) 0 with ⟨rfl, hrun⟩ | ⟨l1, key, o, l2, w2, rfl, hrun, hent, hit2, hE2⟩
    · have Hacc := Lib.hid hacc
      have Hb := Lib.hid hb
      clear hit hsub hacc hb
      go_wp2_with (at_next; refine wpList_next_eq rfl _ _ rfl _ rfl _ hrun ?_)
      go_ret
      refine ⟨?_, Hb.out⟩
      rw [← Hacc.out]; rfl
    · have hb2 : Below w.heap.size w w2 := hb.trans (hE2.below hb.size fun k hk => by subst hk; exact Nat.le_refl _)
      have Hcall := Lib.hid (Hw.out w2 hb2 (key, o) (hsub _ (by simp)))
      rw [wsum_mid] at hacc
      simp only at hacc
      have hle : acc + (1 + o.size + 3 * entCount o.ent) < 100000 := by omega
      have hms : iterLeft w2 w.heap.size < iterLeft wr w.heap.size := by
        rw [hit2.left, hit.left]; simp
      have hsub2 : ∀ p ∈ l1 ++ l2, p ∈ st.objs := fun p hp => hsub p (by simp at hp ⊢; rcases hp with hp | hp; exact .inl hp; exact .inr (.inr hp))
      have H := Lib.hid (And.intro hit2 (And.intro hsub2 (And.intro hacc (And.intro hb2 hms))))
      clear hit2 hsub2 hacc hb2 hms hit hsub hb hE2
      simp only [ptr] at hrun hent
      generalize entCount o.ent = c at *
      go_wp2_with (first | (at_next; refine wpList_next_eq rfl _ _ rfl _ rfl _ hrun ?_) | (go_at_call 60; refine Hcall.out.mono ?_; rintro e w' ⟨rfl, m, rfl⟩))
      go_roundw
      case rel =>
        refine ⟨acc + (1 + o.size + 3 * c), l1 ++ l2, by go_num, H.out.1, H.out.2.1, ?_, below_drewN H.out.2.2.2.1 _⟩
        have := H.out.2.2.1
        omega
      case measure => exact H.out.2.2.2.2
end range
end Go.Proofs.Ytpjifaefchnmoaa
