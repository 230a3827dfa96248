/- The method add: a new object. -/
import Derived.Test.YtpjifaefchnmoaaIn
namespace Go.Proofs.Ytpjifaefchnmoaa
open Go.RowKit

section add
variable {F G : Nat → Prop} {L : Lay} {st : St} {w w' : World}

theorem addr_add_block (a : Addr) (j : Nat) : (a.add j).block = a.block := by
  unfold Addr.add; split <;> rfl

def newOb (b : Nat) (tbl : Bool) (size at_ : Nat) : Ob := ⟨b, tbl, size, false, at_, .slice none 0 0, none⟩

/-- A new object is laid. -/
theorem Rep.addOb (R : Rep F L st w) {k : Int} {o : Ob} (hk : alook st.objs k = none) (hE : Ext (· = L.mo) w w') (hm : IMap w' L.mo (aset (st.objs.map fun p => (p.1, ptr p.2.b)) k (ptr o.b)))
    (hob : w.heap[o.b]? = some (.cells (obCells o) 74 (0, 0))) (hv : o.ve = .slice none 0 0) (he : o.ent = none) (hF : ¬ F o.b) : Rep (fun j => F j ∨ j = o.b) L { st with objs := aset st.objs k o } w' := by
  have hcel : ∀ (b : Nat) (c : Array Value) (T : TypeId) (fr : Nat × Nat), w.heap[b]? = some (Obj.cells c T fr) → w'.heap[b]? = some (Obj.cells c T fr) := fun b c T fr hh => hE.get hh (fun e => map_ne_cells R.mO hh e.symm)
  have hrw : ∀ (v : Value) e sz m xs, Row F e sz w v m xs → Row (fun j => F j ∨ j = o.b) e sz w' v m xs := fun v e sz m xs hr => (hr.ext hE (fun k hk e => row_ne_map hr R.mO hk e)).mono fun _ h => .inl h
  have hset := aset_of_none (v := o) hk
  refine ⟨hcel _ _ _ _ R.hH, ?_, R.mH.ext hE (fun e => R.sep1.1 e.symm), R.mR.ext hE (fun e => R.sep1.2.1 e.symm), ?_, hrw _ _ _ _ _ R.r0, hrw _ _ _ _ _ R.r1, hcel _ _ _ _ R.fr, hrw _ _ _ _ _ R.rf,
    ⟨.inl R.fs.1, .inl R.fs.2.1, .inl R.fs.2.2.1, .inl R.fs.2.2.2.1, .inl R.fs.2.2.2.2⟩, ?_, R.sep1, ?_, R.sep3, ?_⟩
  · show IMap w' L.mo ((aset st.objs k o).map fun p => (p.1, ptr p.2.b))
    rw [← aset_map (fun o : Ob => ptr o.b)]; exact hm
  · intro p hp
    rw [show ({ st with objs := aset st.objs k o } : St).objs = st.objs ++ [(k, o)] from hset] at hp
    rcases List.mem_append.1 hp with hp | hp
    · exact ⟨hcel _ _ _ _ (R.ob p hp).1, hrw _ _ _ _ _ (R.ob p hp).2.1, .inl (R.ob p hp).2.2⟩
    · simp at hp; subst hp
      refine ⟨hcel _ _ _ _ hob, ?_, .inr rfl⟩
      rw [hv, he]; exact Row.nil _ _ _ _
  · rintro j (hj | rfl)
    · exact Nat.lt_of_lt_of_le (R.lt j hj) hE.size
    · exact Nat.lt_of_lt_of_le (lt_of_blk hob) hE.size
  · show ((aset st.objs k o).map (·.2.b)).Nodup
    rw [hset, List.map_append, List.nodup_append]
    refine ⟨R.sep2, by simp, ?_⟩
    intro a ha b hb e
    simp at hb
    obtain ⟨p, hp, rfl⟩ := List.mem_map.1 ha
    exact hF (hb ▸ e ▸ (R.ob p hp).2.2)
  · show ∀ p ∈ aset st.objs k o, ∀ q ∈ aset st.objs k o, p.1 ≠ q.1 → ∀ k, p.2.ve.ownBlock = some k → q.2.ve.ownBlock ≠ some k
    rw [hset]
    intro p hp q hq hpq j hj hj'
    rcases List.mem_append.1 hp with hp | hp
    · rcases List.mem_append.1 hq with hq | hq
      · exact R.sep4 p hp q hq hpq j hj hj'
      · simp at hq; subst hq; rw [hv] at hj'; cases hj'
    · simp at hp; subst hp; rw [hv] at hj; cases hj

/-- The count of names is written. -/
theorem Rep.chNames (R : Rep F L st w) (k : Int) : Rep F L { st with names := k } (w.setCell ⟨L.hb, 1, none⟩ (.int .i64 k)) ∧ Ext (· = L.hb) w (w.setCell ⟨L.hb, 1, none⟩ (.int .i64 k)) := by
  have hE := ext_setCell w L.hb 1 (.int .i64 k)
  have hH := get_setCell R.hH 1 (.int .i64 k)
  refine ⟨?_, hE⟩
  exact R.chMem (s0 := L.s0) (s1 := L.s1) (m0 := st.m0) (m1 := st.m1) (names := k) (next := st.next) (fun j hj => Nat.lt_of_lt_of_le (R.lt j hj) hE.size) (fun _ h => h) (fun j hF h1 _ _ => hE.block j (R.lt j hF) h1) hH
    (R.r0.ext hE (fun j hj e => row_ne_cells R.r0 R.hH (by decide) hj e)) (R.r1.ext hE (fun j hj e => row_ne_cells R.r1 R.hH (by decide) hj e)) R.sep3

set_option maxHeartbeats 400000 in
theorem space_cell {b : Nat} (c2 : w.cell? ⟨b, 2, none⟩ = some (.bool false)) : Calls Try.prog 55 #[.pointer (some ⟨b, 0, none⟩)] w fun e w' => e = .returned (.int .i64 0) ∧ w' = w := by
  go_enter Try.func55, Try.ntmps55
  go_wp2
  go_ret
  exact ⟨rfl, rfl⟩

/-- What add makes of a state. -/
def addSt (st : St) (b : Nat) (tbl : Bool) (size : Nat) (ws : List Wd) : St :=
  { st with m0 := st.m0 ++ ws, names := st.names + 1, objs := aset st.objs st.names (newOb b tbl size st.m0.length), rem := st.rem.erase st.names, next := st.next + 1, hnd := aset st.hnd st.next st.names }

def AddPost (F : Nat → Prop) (L : Lay) (st' : St) (ob : Nat) (h : Int) (w : World) (e : Ending) (w' : World) : Prop :=
  e = .returned (.int .i64 h) ∧ (∃ s0 s1, Rep (fun k => grow F w w' k ∨ k = ob) { L with s0 := s0, s1 := s1 } st' w') ∧ Ext (fun k => F k ∨ k = ob) w w'

set_option maxRecDepth 100000 in
set_option maxHeartbeats 4000000 in
theorem add_any (R : Rep F L st w) {ob : Nat} {tbl : Bool} {size : Nat} {ws : List Wd} {la : Addr} {lc : Nat} (hob : w.heap[ob]? = some (.cells (obCells (newOb ob tbl size 0)) 74 (0, 0))) (hobF : ¬ F ob)
    (hsz : size + 1 ≤ ws.length) (hwl : ws.length < 1000) (hfit : (st.m0.length : Int) + ws.length ≤ st.young) (hml : st.m0.length < 50000) (hy : st.young < 100000)
    (hl : ∀ j u, (wdCells ws)[j]? = some u → w.cell? (la.add j) = some u) (hlf : ¬ F la.block) (hlo : la.block ≠ ob)
    (hk : alook st.objs st.names = none) (hn0 : 0 ≤ st.names) (hn1 : st.names < 100000) (hfr : st.free = []) (hx : st.next < 100000) (hx0 : 0 ≤ st.next) :
    Calls Try.prog 28 #[.pointer (some ⟨L.hb, 0, none⟩), .pointer (some ⟨ob, 0, none⟩), .slice (some la) ws.length lc] w (AddPost F L (addSt st ob tbl size ws) ob st.next w) := by
  obtain ⟨a0, cap0, hs0⟩ := R.r0.form
  have c2 : ∀ m, (w.drewN m).cell? ⟨L.hb, 2, none⟩ = some (.slice a0 st.m0.length cap0) := fun m => by rw [(R.drewN m).hc 2, ← hs0]; rfl
  have c4 : ∀ m, (w.drewN m).cell? ⟨L.hb, 4, none⟩ = some (.int .i64 st.young) := fun m => (R.drewN m).hc 4
  have o2 : ∀ m, (w.drewN m).cell? ⟨ob, 2, none⟩ = some (.bool false) := fun m => by rw [cell_of (show (w.drewN m).heap[ob]? = _ from hob)]; rfl
  have of2 : ∀ m, (w.drewN m).frozen? ⟨ob, 2, none⟩ = false := fun m => free_of (show (w.drewN m).heap[ob]? = _ from hob) 2
  have hwrap : IntKind.i64.wrap ((st.m0.length : Int) + (ws.length : Int)) = (st.m0.length : Int) + (ws.length : Int) := IntWalk.i64_in _ (by omega)
  have hgt : decide (st.young < (st.m0.length : Int) + (ws.length : Int)) = false := by simp; omega
  have H := Lib.hid (And.intro R (And.intro hob hobF))
  clear R hob hobF hs0
  go_enter Try.func28, Try.ntmps28
  go_wp2
  go_quiet (fail)
  go_wp2
  go_region
  generalize hwA : (w.drewN (nq + 1)).setCell ⟨ob, 2, none⟩ (.bool false) = wA
  have hobA : wA.heap[ob]? = some (.cells (obCells (newOb ob tbl size 0)) 74 (0, 0)) := by
    subst hwA
    exact setCell_same (w := w.drewN (nq + 1)) H.out.2.1 rfl
  have hEA : Ext (· = ob) w wA := by
    subst hwA
    have := ext_setCell (w.drewN (nq + 1)) ob 2 (.bool false)
    exact ⟨this.os, this.tape, this.output, this.size, this.block⟩
  clear hwA c2 c4 o2 of2 hwrap hgt
  have RA : Rep F L st wA := H.out.1.ext hEA (fun k hk e => H.out.2.2 (e ▸ hk))
  have oA2 : wA.drew.cell? ⟨ob, 2, none⟩ = some (.bool false) := by rw [cell_of (show wA.drew.heap[ob]? = _ from hobA)]; rfl
  have Hpl := Lib.hid (place0_any (RA.drewN 1) (ws := ws) (la := la) (lc := lc) (by omega) (by omega) (by omega) (fun j u hu => by
    have h1 := hl j u hu
    rw [← h1]
    exact World.cell?_of_block (w := w) (hEA.block _ (by
      have := World.block_lt_of_cell? w (la.add j) h1
      exact this) (by rw [addr_add_block]; exact hlo))) hlf)
  have HA := Lib.hid (And.intro RA (And.intro hobA hEA))
  clear RA hobA hEA hl hlf hlo
  go_wp2
  go_region_with (first
    | (go_at_call 55; refine (space_cell oA2).mono ?_; rintro e w1 ⟨rfl, rfl⟩)
    | (go_at_call 54
       refine Hpl.out.mono ?_
       rintro e w2 ⟨rfl, ⟨s0, s1, hR2⟩, hE2⟩
       have hob2 := hE2.get (show wA.drew.heap[ob]? = _ from HA.out.2.1) H.out.2.2
       have o3 : w2.cell? ⟨ob, 3, none⟩ = some (.int .i64 0) := by rw [cell_of hob2]; rfl
       have of3 : w2.frozen? ⟨ob, 3, none⟩ = false := free_of hob2 3
       have H2 := Lib.hid (And.intro hR2 (And.intro hE2 hob2))
       clear hR2 hE2 hob2))
  have hnat : Int.ofNat st.m0.length = (st.m0.length : Int) := rfl
  have hob3 : (w2.setCell ⟨ob, 3, none⟩ (.int .i64 st.m0.length)).heap[ob]? = some (.cells (obCells (newOb ob tbl size st.m0.length)) 74 (0, 0)) := by
    rw [get_setCell H2.out.2.2 3 (.int .i64 st.m0.length)]; rfl
  have hE3 := ext_setCell w2 ob 3 (.int .i64 st.m0.length)
  have hobG : ¬ grow F wA.drew w2 ob := by
    rintro (h | h)
    · exact H.out.2.2 h
    · have h1 := lt_of_blk HA.out.2.1
      have h2 : wA.drew.heap.size = wA.heap.size := rfl
      omega
  have R3 := H2.out.1.ext hE3 (fun k hk e => hobG (e ▸ hk))
  generalize hw3 : w2.setCell ⟨ob, 3, none⟩ (.int .i64 st.m0.length) = w3 at *
  have c1 : w3.cell? ⟨L.hb, 1, none⟩ = some (.int .i64 st.names) := R3.hc 1
  have f1 : w3.frozen? ⟨L.hb, 1, none⟩ = false := R3.hf 1
  obtain ⟨R4, hE4⟩ := R3.chNames (st.names + 1)
  have hE4' : Ext (· = L.hb) w3 (w3.setCell ⟨L.hb, 1, none⟩ (.int .i64 (st.names + 1))) := hE4
  have hob4 := hE4'.get hob3 (fun e => hobG (.inl (e ▸ H.out.1.fs.1)))
  have c0 : (w3.setCell ⟨L.hb, 1, none⟩ (.int .i64 (st.names + 1))).cell? ⟨L.hb, 0, none⟩ = some (.map (some L.mo)) := R4.hc 0
  obtain ⟨w5, hup, hI5, hE5⟩ := R4.mO.update (P := Try.prog) Try.underlying54 Try.underlying3 st.names (.pointer (some ⟨ob, 0, none⟩))
  have hup' : (Instr.mapUpdate 54 (.map (some L.mo)) (.int .i64 st.names) (.pointer (some ⟨ob, 0, none⟩))).run Try.prog (w3.setCell ⟨L.hb, 1, none⟩ (.int .i64 (st.names + 1))) = .ok () w5 := hup
  have R5 := R4.addOb (o := newOb ob tbl size st.m0.length) hk hE5 hI5 hob4 rfl rfl hobG
  have hlk : alook (aset st.objs st.names (newOb ob tbl size st.m0.length)) st.names = some (newOb ob tbl size st.m0.length) := by rw [alook_aset, if_pos rfl]
  have hrl : (st.m0 ++ ws).length = st.m0.length + ws.length := by simp
  have Hnote := Lib.hid (note_any R5 hlk (by
    show st.m0.length + 1 + size ≤ (st.m0 ++ ws).length
    omega) (by
    show (st.m0 ++ ws).length < 1000000
    omega))
  have H5 := Lib.hid (And.intro hE3 (And.intro hE4' hE5))
  clear R3 R4 hE4 hE4' hob4 hup hI5 hE5 R5 hlk hrl hob3 hE3
  go_wp2_with (first
    | (go_at_call 32
       refine Hnote.out.mono ?_
       rintro e w6 ⟨rfl, hR6, hE6⟩
       have Hh := Lib.hid (handle_new hR6 hfr hx hx0 st.names)
       have H6 := Lib.hid (And.intro hR6 hE6)
       clear hR6 hE6)
    | (go_at_call 56
       refine Hh.out.mono ?_
       rintro e w7 ⟨rfl, hR7, hE7⟩
       have H7 := Lib.hid (And.intro hR7 hE7)
       clear hR7 hE7))
  go_ret
  have hFL : ∀ k, F k → F k ∨ k = ob := fun _ h => .inl h
  have hsA := HA.out.2.2.size
  have hsd : wA.drew.heap.size = wA.heap.size := rfl
  have hG : ∀ k, (grow F wA.drew w2 k ∨ k = ob) → (F k ∨ k = ob) ∨ w.heap.size ≤ k := fun k hk => by
    rcases hk with (hk | hk) | hk
    · exact .inl (.inl hk)
    · exact .inr (by omega)
    · exact .inl (.inr hk)
  have hE1 : Ext (fun k => F k ∨ k = ob) w wA := HA.out.2.2.mono fun _ h => .inr h
  have hE2 : Ext (fun k => F k ∨ k = ob) w w2 := hE1.trans (b := wA) (G := F) ⟨H2.out.2.1.os, H2.out.2.1.tape, H2.out.2.1.output, H2.out.2.1.size, H2.out.2.1.block⟩ (fun k hk => .inl (.inl hk))
  have hE3 := hE2.trans H5.out.1 (fun k hk => .inl (.inr hk))
  have hE4 := hE3.trans H5.out.2.1 (fun k hk => .inl (.inl (hk ▸ H.out.1.fs.1)))
  have hE5 := hE4.trans H5.out.2.2 (fun k hk => .inl (.inl (hk ▸ H.out.1.fs.2.1)))
  have hE6 := hE5.trans H6.out.2 hG
  have hE7 := hE6.trans H7.out.2 hG
  refine ⟨rfl, ⟨s0, s1, ?_⟩, hE7⟩
  have hw27 : w2.heap.size ≤ w7.heap.size := Nat.le_trans H5.out.1.size (Nat.le_trans H5.out.2.1.size (Nat.le_trans H5.out.2.2.size (Nat.le_trans H6.out.2.size H7.out.2.size)))
  refine Rep.mono (st := addSt st ob tbl size ws) H7.out.1 (fun k hk => ?_) (fun k hk => ?_)
  · rcases hk with (hk | hk) | hk
    · exact .inl (.inl hk)
    · have hk1 : wA.heap.size ≤ k := hk.1
      have hk2 : k < w2.heap.size := hk.2
      exact .inl (.inr ⟨by omega, by omega⟩)
    · exact .inr hk
  · rcases hk with (hk | hk) | hk
    · exact Nat.lt_of_lt_of_le (H.out.1.lt k hk) hE7.size
    · exact hk.2
    · subst hk; exact Nat.lt_of_lt_of_le (lt_of_blk H.out.2.1) hE7.size
end add
end Go.Proofs.Ytpjifaefchnmoaa
