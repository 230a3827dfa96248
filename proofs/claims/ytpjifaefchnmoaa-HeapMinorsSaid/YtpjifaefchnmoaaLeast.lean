/- The heap of the handles that are free: container/heap at a slice of one or two numbers. -/
import Derived.Test.YtpjifaefchnmoaaHandle
import Derived.Deep.RegionHeld3
namespace Go.Proofs.Ytpjifaefchnmoaa
open Go.RowKit

@[go_sem] theorem assert3 (v : Value) (w : World) : (Instr.typeAssert (.iface 3 v) 20 3 false).run Try.prog w = .ok v w := by kernel_rfl

section least
variable {F G : Nat → Prop} {L : Lay} {st : St} {w w' : World}

/-- The free handles' slice was written. -/
theorem Rep.chFree (R : Rep F L st w) {sf : Value} {free : List Int} (hE : Ext (fun k => k = L.fb ∨ L.sf.ownBlock = some k) w w') (hc : w'.heap[L.fb]? = some (.cells #[sf] 53 (0, 0))) (hr : Row G 3 1 w' sf free.length (ints free))
    (hFG : ∀ k, F k → G k) (hl : ∀ k, G k → k < w'.heap.size) : Rep G { L with sf := sf } { st with free := free } w' := by
  have hcel : ∀ (b : Nat) (c : Array Value) (T : TypeId) (fr : Nat × Nat), w.heap[b]? = some (Obj.cells c T fr) → T ≠ 53 → T ≠ 3 → w'.heap[b]? = some (Obj.cells c T fr) := fun b c T fr hh h1 h2 => by
    refine hE.get hh ?_
    rintro (e | e)
    · exact cells_ne hh R.fr h1 e
    · exact row_ne_cells R.rf hh (Ne.symm h2) e rfl
  have hrw : ∀ (v : Value) e sz m xs, Row F e sz w v m xs → e ≠ 53 → e ≠ 3 → Row G e sz w' v m xs := fun v e sz m xs hr h1 h2 => by
    refine (hr.ext hE ?_).mono hFG
    rintro k hk (e | e)
    · exact row_ne_cells hr R.fr h1 hk e
    · exact row_ne_row hr R.rf h2 hk e rfl
  have hmap : ∀ b l, IMap w b l → IMap w' b l := fun b l hI => hI.ext hE (by
    rintro (e | e)
    · exact map_ne_cells hI R.fr e
    · exact row_ne_map R.rf hI e rfl)
  exact ⟨hcel _ _ _ _ R.hH (by decide) (by decide), hmap _ _ R.mO, hmap _ _ R.mH, hmap _ _ R.mR, fun p hp => ⟨hcel _ _ _ _ (R.ob p hp).1 (by decide) (by decide), hrw _ _ _ _ _ (R.ob p hp).2.1 (by decide) (by decide), hFG _ (R.ob p hp).2.2⟩,
    hrw _ _ _ _ _ R.r0 (by decide) (by decide), hrw _ _ _ _ _ R.r1 (by decide) (by decide), hc, hr, ⟨hFG _ R.fs.1, hFG _ R.fs.2.1, hFG _ R.fs.2.2.1, hFG _ R.fs.2.2.2.1, hFG _ R.fs.2.2.2.2⟩, hl, R.sep1, R.sep2, R.sep3, R.sep4⟩

def FreePost (F : Nat → Prop) (L : Lay) (st : St) (free : List Int) (w : World) (v : Value) (e : Ending) (w' : World) : Prop :=
  e = .returned v ∧ (∃ sf, Rep (grow F w w') { L with sf := sf } { st with free := free } w') ∧ Ext F w w'

set_option maxRecDepth 100000 in
set_option maxHeartbeats 1000000 in
theorem push108_any (R : Rep F L st w) (hlen : st.free.length < 1000) (x : Int) :
    Calls Try.prog 108 #[.pointer (some ⟨L.fb, 0, none⟩), .iface 3 (.int .i64 x)] w (FreePost F L st (st.free ++ [x]) w (.tuple #[])) := by
  have Rd : Rep F L st w.drew := R.drewN 1
  obtain ⟨af, capf, hsf⟩ := R.rf.form
  have cf : w.drew.cell? ⟨L.fb, 0, none⟩ = some (.slice af st.free.length capf) := by rw [cell_of Rd.fr]; simp [hsf]
  have cfa : ∀ ob, (w.alloc ob).cell? ⟨L.fb, 0, none⟩ = some (.slice af st.free.length capf) := fun ob => by rw [cell_of (R.alloc ob).fr]; simp [hsf]
  have hr1 : Row (fun k => L.sf.ownBlock = some k) 3 1 w.drew L.sf st.free.length (ints st.free) := ⟨Rd.rf.1, fun _ h => h⟩
  obtain ⟨v', w2, hrun, hr2, hE2, hb2⟩ := hr1.append1 (t := 53) Try.underlying53 info3 rfl 53 (.int .i64 x) rfl (by omega) (by decide)
  rw [hsf] at hrun
  obtain ⟨a', cap', rfl⟩ := hr2.form
  have hfbn : ¬ L.sf.ownBlock = some L.fb := fun e => row_ne_cells Rd.rf Rd.fr (by decide) e rfl
  have hf2 := hE2.get Rd.fr hfbn
  have f2 : w2.frozen? ⟨L.fb, 0, none⟩ = false := free_of hf2 0
  have c2 : w2.cell? ⟨L.fb, 0, none⟩ = some L.sf := by rw [cell_of hf2]; rfl
  have hE3 := ext_setCell w2 L.fb 0 (.slice a' (st.free.length + 1) cap')
  have hf3 := get_setCell hf2 0 (.slice a' (st.free.length + 1) cap')
  have hE : Ext (fun k => k = L.fb ∨ L.sf.ownBlock = some k) w.drew (w2.setCell ⟨L.fb, 0, none⟩ (.slice a' (st.free.length + 1) cap')) :=
    (hE2.mono (fun k hk => .inr hk)).trans (hE3.mono (fun k hk => .inl hk)) (fun i hi => .inl hi)
  have hEF : Ext F w.drew (w2.setCell ⟨L.fb, 0, none⟩ (.slice a' (st.free.length + 1) cap')) := hE.mono fun k hk => by
    rcases hk with rfl | hk
    · exact Rd.fs.2.2.2.2
    · exact Rd.rf.2 k hk
  have hrow : Row (grow F w (w2.setCell ⟨L.fb, 0, none⟩ (.slice a' (st.free.length + 1) cap'))) 3 1 (w2.setCell ⟨L.fb, 0, none⟩ (.slice a' (st.free.length + 1) cap')) (.slice a' (st.free.length + 1) cap') (st.free ++ [x]).length (ints (st.free ++ [x])) := by
    have h1 := hr2.ext hE3 (fun k hk e => row_ne_cells hr2 hf2 (by decide) hk e)
    have h2 : ints (st.free ++ [x]) = ints st.free ++ [.int .i64 x] := by simp [ints]
    have h3 : (st.free ++ [x]).length = st.free.length + 1 := by simp
    rw [h2, h3]
    refine h1.mono fun k hk => ?_
    rcases hk with hk | hk
    · exact .inl (R.rf.2 k hk)
    · exact .inr ⟨hk.1, Nat.lt_of_lt_of_le hk.2 hE3.size⟩
  have hfin : FreePost F L st (st.free ++ [x]) w (.tuple #[]) (.returned (.tuple #[])) (w2.setCell ⟨L.fb, 0, none⟩ (.slice a' (st.free.length + 1) cap')) := by
    refine ⟨rfl, ⟨_, Rd.chFree hE (by rw [hf3]; rfl) hrow (fun k hk => .inl hk) (fun k hk => ?_)⟩, ⟨hEF.os, hEF.tape, hEF.output, hEF.size, hEF.block⟩⟩
    rcases hk with hk | hk
    · exact Nat.lt_of_lt_of_le (R.lt k hk) hEF.size
    · exact hk.2
  have H := Lib.hid hfin
  rw [hsf] at c2
  clear hfin hrow hEF hE hf3 hE3 hf2 hfbn hb2 hE2 hr2 hr1 Rd R
  go_enter Try.func108, Try.ntmps108
  go_wp2
  go_region_law (refine step_append_eq rfl _ _ _ rfl _ _ rfl rfl _ hrun ?_)
  all_goals
    go_end0
    exact H.out

set_option maxHeartbeats 400000 in
theorem less106_any {g n cap i k : Nat} {a b : Int} (hi : w.drew.cell? ⟨g, i, none⟩ = some (.int .i64 a)) (hk : w.drew.cell? ⟨g, k, none⟩ = some (.int .i64 b)) (hin : i < n) (hkn : k < n) (_hn : n < 1000) :
    Calls Try.prog 106 #[.slice (some ⟨g, 0, none⟩) n cap, .int .i64 i, .int .i64 k] w fun e w' => e = .returned (.bool (decide (a < b))) ∧ ∃ m, w' = w.drewN m := by
  have h1 : ∀ m, (w.drewN m).cell? ⟨g, i, none⟩ = some (.int .i64 a) := fun _ => hi
  have h2 : ∀ m, (w.drewN m).cell? ⟨g, k, none⟩ = some (.int .i64 b) := fun _ => hk
  clear hi hk
  go_enter Try.func106, Try.ntmps106
  go_wp2
  go_quiet (fail)
  go_wp2
  go_ret
  exact ⟨rfl, _, rfl⟩

set_option maxHeartbeats 400000 in
theorem len105_any (a : Option Addr) (n cap : Nat) (w : World) : Calls Try.prog 105 #[.slice a n cap] w fun e w' => e = .returned (.int .i64 n) ∧ w' = w := by
  go_enter Try.func105, Try.ntmps105
  go_wp2
  go_ret
  exact ⟨rfl, rfl⟩

set_option maxHeartbeats 400000 in
theorem empty110_one (a : Option Addr) (cap : Nat) (w : World) : Calls Try.prog 110 #[.slice a 1 cap] w fun e w' => e = .returned (.bool false) ∧ w' = w := by
  go_enter Try.func110, Try.ntmps110
  go_wp2
  go_ret
  exact ⟨rfl, rfl⟩

set_option maxHeartbeats 400000 in
theorem up0_any (h : Value) (w : World) : Calls Try.prog 61 #[h, .int .i64 0] w fun e w' => e = .returned (.tuple #[]) ∧ w' = w := by
  go_enter Try.func61, Try.ntmps61
  go_wp2
  go_loopw [1] (fun j wr => j = .int .i64 0 ∧ wr = w) (fun _ _ => 0)
  case atStart => exact ⟨rfl, rfl⟩
  case round =>
    obtain ⟨rfl, hw⟩ := hrel
    subst hw
    go_wp2
    go_end0
    exact ⟨rfl, rfl⟩

def hpV (L : Lay) : Value := .iface 52 (.pointer (some ⟨L.fb, 0, none⟩))

theorem Rep.freeCell (R : Rep F L st w) : ∃ a cap, L.sf = .slice a st.free.length cap ∧ w.cell? ⟨L.fb, 0, none⟩ = some (.slice a st.free.length cap) := by
  obtain ⟨a, cap, h⟩ := R.rf.form
  exact ⟨a, cap, h, by rw [cell_of R.fr]; simp [h]⟩

set_option maxHeartbeats 400000 in
theorem up1_any (R : Rep F L st w) {a b : Int} (hf : st.free = [a, b]) (hab : ¬ b < a) : Calls Try.prog 61 #[hpV L, .int .i64 1] w fun e w' => e = .returned (.tuple #[]) ∧ ∃ m, w' = w.drewN m := by
  obtain ⟨ad, cap, hsf, cf⟩ := R.freeCell
  have hr := R.rf
  rw [hsf] at hr
  obtain ⟨g, rfl, _⟩ := hr.addr (by rw [hf]; simp)
  have k0 : w.drew.cell? ⟨g, 0, none⟩ = some (.int .i64 a) := hr.int rfl (k := 0) (by rw [hf]; rfl)
  have k1 : w.drew.cell? ⟨g, 1, none⟩ = some (.int .i64 b) := hr.int rfl (k := 1) (by rw [hf]; rfl)
  rw [hf] at cf
  have Hl := Lib.hid (less106_any (n := 2) (cap := cap) (i := 1) (k := 0) k1 k0 (by decide) (by decide) (by decide))
  rw [show decide (b < a) = false from by simpa using hab] at Hl
  have mL := meth_val "Less" (F := 106) (by kernel_rfl) 252 cf
  clear R hr hsf k0 k1 cf
  unfold hpV
  go_enter Try.func61, Try.ntmps61
  go_wp2
  go_loopw [1] (fun j wr => j = .int .i64 1 ∧ wr = w) (fun _ _ => 0)
  case atStart => exact ⟨rfl, rfl⟩
  case round =>
    obtain ⟨rfl, hw⟩ := hrel
    subst hw
    go_wp2_with (go_at_call 106; refine Hl.out.mono ?_; rintro e w1 ⟨rfl, m, rfl⟩)
    go_end0
    exact ⟨rfl, _, rfl⟩

set_option maxHeartbeats 400000 in
/-- A number onto an empty heap, or onto one that holds a lesser one. -/
theorem push38_any (R : Rep F L st w) (x : Int) (hf : st.free = [] ∨ ∃ a, st.free = [a] ∧ a ≤ x) : Calls Try.prog 38 #[hpV L, .iface 3 (.int .i64 x)] w (FreePost F L st (st.free ++ [x]) w (.tuple #[])) := by
  have Hp := Lib.hid (push108_any R (by rcases hf with h | ⟨a, h, _⟩ <;> rw [h] <;> simp) x)
  have mP := meth_ptr "Push" (w := w) (fb := L.fb) (F := 108) (by kernel_rfl) 252
  have Hf := Lib.hid hf
  clear R hf
  unfold hpV
  rcases Hf.out with h | ⟨k, h, hk⟩
  · rw [h] at Hp ⊢
    go_enter Try.func38, Try.ntmps38
    go_wp2_with (first
      | (go_at_call 108
         refine Hp.out.mono ?_
         rintro e w1 ⟨rfl, ⟨sf, hR⟩, hE⟩
         obtain ⟨ad, cap, hsf, cf⟩ := hR.freeCell
         simp at cf
         have mL := meth_val "Len" (F := 105) (by kernel_rfl) 252 cf
         have H := Lib.hid (And.intro hR hE)
         clear hR hE hsf cf)
      | (go_at_call 105; refine (len105_any _ _ _ _).mono ?_; rintro e w2 ⟨rfl, rfl⟩)
      | (go_at_call 61
         refine (up0_any _ _).mono ?_
         rintro e w2 ⟨rfl, rfl⟩))
    go_end0
    exact ⟨rfl, ⟨_, H.out.1⟩, H.out.2⟩
  · rw [h] at Hp ⊢
    go_enter Try.func38, Try.ntmps38
    go_wp2_with (first
      | (go_at_call 108
         refine Hp.out.mono ?_
         rintro e w1 ⟨rfl, ⟨sf, hR⟩, hE⟩
         obtain ⟨ad, cap, hsf, cf⟩ := hR.freeCell
         simp at cf
         have mL := meth_val "Len" (F := 105) (by kernel_rfl) 252 cf
         have Hu := Lib.hid (up1_any hR (a := k) (b := x) rfl (by omega))
         have H := Lib.hid (And.intro hR hE)
         clear hR hE hsf cf)
      | (go_at_call 105; refine (len105_any _ _ _ _).mono ?_; rintro e w2 ⟨rfl, rfl⟩)
      | (go_at_call 61
         refine Hu.out.mono ?_
         rintro e w2 ⟨rfl, m, rfl⟩))
    go_end0
    exact ⟨rfl, ⟨_, (H.out.1.drewN m).mono (fun _ h => h) (fun k hk => H.out.1.lt k hk)⟩, H.out.2.trans (Below.ext (below_drewN (Below.refl _ _) m) F) (fun i hi => .inl hi)⟩

theorem setCell_same {g : Nat} {c : Array Value} {T : TypeId} {fr : Nat × Nat} {k : Nat} {v : Value} (h : w.heap[g]? = some (.cells c T fr)) (hk : c[k]? = some v) : (w.setCell ⟨g, k, none⟩ v).heap[g]? = some (.cells c T fr) := by
  rw [get_setCell h k v]
  congr 2
  apply Array.ext_getElem?
  intro i
  rw [Array.getElem?_setIfInBounds]
  split
  · rename_i e
    subst e
    rw [hk]
    split
    · rfl
    · rename_i hlt
      rw [Array.getElem?_eq_none (by omega)] at hk
      cases hk
  · rfl

set_option maxHeartbeats 400000 in
theorem swap109_any {g cap : Nat} {cur : Array Value} {k : Int} (hg : w.heap[g]? = some (.cells cur 3 (0, 0))) (hk : cur[0]? = some (.int .i64 k)) :
    Calls Try.prog 109 #[.slice (some ⟨g, 0, none⟩) 1 cap, .int .i64 0, .int .i64 0] w fun e w' => e = .returned (.tuple #[]) ∧ Ext (· = g) w w' ∧ w'.heap[g]? = some (.cells cur 3 (0, 0)) := by
  have k0 : w.cell? ⟨g, 0, none⟩ = some (.int .i64 k) := by rw [cell_of hg]; exact hk
  have f0 : w.frozen? ⟨g, 0, none⟩ = false := free_of hg 0
  have h1 := setCell_same hg hk
  have k1 : (w.setCell ⟨g, 0, none⟩ (.int .i64 k)).cell? ⟨g, 0, none⟩ = some (.int .i64 k) := by rw [cell_of h1]; exact hk
  have h2 := setCell_same h1 hk
  have hE1 := ext_setCell w g 0 (.int .i64 k)
  have hE2 := ext_setCell (w.setCell ⟨g, 0, none⟩ (.int .i64 k)) g 0 (.int .i64 k)
  have hE := hE1.trans hE2 (fun i hi => .inl hi)
  have hE' : Ext (· = g) w ((w.setCell ⟨g, 0, none⟩ (.int .i64 k)).setCell ⟨g, 0, none⟩ (.int .i64 k)).drew := ⟨hE.os, hE.tape, hE.output, hE.size, hE.block⟩
  have h2' : (((w.setCell ⟨g, 0, none⟩ (.int .i64 k)).setCell ⟨g, 0, none⟩ (.int .i64 k)).drew).heap[g]? = some (.cells cur 3 (0, 0)) := h2
  have H := Lib.hid (And.intro hE' h2')
  clear hg h1 h2 hE1 hE2 hE hE' h2'
  go_enter Try.func109, Try.ntmps109
  go_wp2
  go_region
  all_goals
    go_end0
    exact ⟨rfl, H.out⟩

set_option maxHeartbeats 400000 in
theorem down00_any (h : Value) (w : World) : Calls Try.prog 70 #[h, .int .i64 0, .int .i64 0] w fun e w' => e = .returned (.bool false) ∧ w' = w := by
  go_enter Try.func70, Try.ntmps70
  go_wp2
  go_loopw [7] (fun j wr => j = .int .i64 0 ∧ wr = w) (fun _ _ => 0)
  case atStart => exact ⟨rfl, rfl⟩
  case round =>
    obtain ⟨rfl, hw⟩ := hrel
    subst hw
    go_wp2
    go_ret
    exact ⟨rfl, rfl⟩

def PopPost (F : Nat → Prop) (L : Lay) (st : St) (k : Int) (w : World) (e : Ending) (w' : World) : Prop :=
  e = .returned (.iface 3 (.int .i64 k)) ∧ (∃ sf, Rep F { L with sf := sf } { st with free := [] } w') ∧ Ext F w w'

set_option maxHeartbeats 400000 in
theorem pop107_any (R : Rep F L st w) {k : Int} (hf : st.free = [k]) : Calls Try.prog 107 #[.pointer (some ⟨L.fb, 0, none⟩)] w (PopPost F L st k w) := by
  obtain ⟨ad, cap, hsf, cf⟩ := R.freeCell
  have hr := R.rf
  rw [hsf] at hr
  obtain ⟨g, rfl, hgF⟩ := hr.addr (by rw [hf]; simp)
  have k0 : w.cell? ⟨g, 0, none⟩ = some (.int .i64 k) := hr.int rfl (k := 0) (by rw [hf]; rfl)
  rw [hf] at cf
  have f0 : w.frozen? ⟨L.fb, 0, none⟩ = false := free_of R.fr 0
  have hE := ext_setCell w L.fb 0 (.slice (some ⟨g, 0, none⟩) 0 cap)
  have hc := get_setCell R.fr 0 (.slice (some ⟨g, 0, none⟩) 0 cap)
  have hrow : Row F 3 1 (w.setCell ⟨L.fb, 0, none⟩ (.slice (some ⟨g, 0, none⟩) 0 cap)) (.slice (some ⟨g, 0, none⟩) 0 cap) 0 (ints []) := by
    rcases hr.cases with ⟨h, _⟩ | ⟨g', cap', cur, hv, _, hg, hnc, hcm, hcs, _⟩
    · cases h
    · simp only [Value.slice.injEq, Option.some.injEq, Addr.mk.injEq] at hv
      obtain ⟨⟨rfl, _⟩, _, rfl⟩ := hv
      exact ⟨⟨by simp [ints], .inr ⟨g, cap, cur, rfl, Nat.zero_le _, hE.get hg (cells_ne hg R.fr (by decide)), Nat.zero_le _, hcm, hcs, by simp [ints]⟩⟩, fun b hb => by cases hb; exact hgF⟩
  have hcap : 1 ≤ cap := by have := hr.le; rw [hf] at this; simpa using this
  have hfin : PopPost F L st k w (.returned (.iface 3 (.int .i64 k))) (w.setCell ⟨L.fb, 0, none⟩ (.slice (some ⟨g, 0, none⟩) 0 cap)) :=
    ⟨rfl, ⟨_, R.chFree (free := []) (hE.mono fun k hk => .inl hk) (by rw [hc]; rfl) hrow (fun _ h => h) (fun j hj => Nat.lt_of_lt_of_le (R.lt j hj) hE.size)⟩, hE.mono fun j hj => hj ▸ R.fs.2.2.2.2⟩
  have H := Lib.hid hfin
  clear hfin hrow hc hE hr R hsf hgF
  go_enter Try.func107, Try.ntmps107
  go_wp2
  go_ret
  exact H.out

set_option maxHeartbeats 400000 in
theorem pop67_any (R : Rep F L st w) {k : Int} (hf : st.free = [k]) : Calls Try.prog 67 #[hpV L] w (PopPost F L st k w) := by
  obtain ⟨ad, cap, hsf, cf⟩ := R.freeCell
  have hr := R.rf
  rw [hsf] at hr
  obtain ⟨g, rfl, hgF⟩ := hr.addr (by rw [hf]; simp)
  rcases hr.cases with ⟨h, _⟩ | ⟨g', cap', cur, hv, _, hg, hnc, hcm, hcs, htk⟩
  · cases h
  simp only [Value.slice.injEq, Option.some.injEq, Addr.mk.injEq] at hv
  obtain ⟨⟨rfl, _⟩, _, rfl⟩ := hv
  have hk : cur[0]? = some (.int .i64 k) := by
    have h1 : w.cell? ⟨g, 0, none⟩ = some (.int .i64 k) := hr.int rfl (k := 0) (by rw [hf]; rfl)
    rw [cell_of hg] at h1; exact h1
  rw [hf] at cf
  have mL := meth_val "Len" (F := 105) (by kernel_rfl) 252 cf
  have mS := meth_val "Swap" (F := 109) (by kernel_rfl) 252 cf
  have hback : ∀ w', Ext (· = g) w w' → w'.heap[g]? = some (.cells cur 3 (0, 0)) → Rep F L st w' ∧ Ext F w w' := fun w' hE hc => by
    refine ⟨R.of_block hE.size fun b hb => ?_, hE.mono fun b hb => hb ▸ hgF⟩
    by_cases e : b = g
    · rw [e, hc, hg]
    · exact hE.block b (R.lt b hb) e
  have Hs := Lib.hid (swap109_any (cap := cap) hg hk)
  have Hb := Lib.hid (And.intro hback hf)
  clear R hr hsf hgF hg hk hnc hcm hcs htk hback hf
  unfold hpV
  go_enter Try.func67, Try.ntmps67
  go_wp2_with (first
    | (go_at_call 105; refine (len105_any _ _ _ _).mono ?_; rintro e w1 ⟨rfl, rfl⟩)
    | (go_at_call 109
       refine Hs.out.mono ?_
       rintro e w2 ⟨rfl, hE, hc⟩
       obtain ⟨R2, hE2⟩ := Hb.out.1 w2 hE hc
       have mP := meth_ptr "Pop" (w := w2) (fb := L.fb) (F := 107) (by kernel_rfl) 252
       have Hp := Lib.hid (pop107_any R2 Hb.out.2)
       have HE := Lib.hid hE2
       clear hE hc R2 hE2)
    | (go_at_call 70; refine (down00_any _ _).mono ?_; rintro e w3 ⟨rfl, rfl⟩)
    | (go_at_call 107; refine Hp.out.mono ?_; rintro e w4 ⟨rfl, hR4, hE4⟩; have H4 := Lib.hid (And.intro hR4 hE4); clear hR4 hE4))
  go_ret
  exact ⟨rfl, H4.out.1, HE.out.trans H4.out.2 (fun i hi => .inl hi)⟩

/-- A handle that was free. -/
def handleSt1 (st : St) (k n : Int) : St := { st with free := [], hnd := aset st.hnd k n }

set_option maxRecDepth 100000 in
set_option maxHeartbeats 1000000 in
theorem handle_free (R : Rep F L st w) {k : Int} (hf : st.free = [k]) (n : Int) :
    Calls Try.prog 56 #[.pointer (some ⟨L.hb, 0, none⟩), .int .i64 n] w fun e w' => e = .returned (.int .i64 k) ∧ (∃ sf, Rep F { L with sf := sf } (handleSt1 st k n) w') ∧ Ext F w w' := by
  have c10 : w.cell? ⟨L.hb, 10, none⟩ = some (.int .i64 st.next) := R.hc 10
  have c9 : w.cell? ⟨L.hb, 9, none⟩ = some (.iface 52 (.pointer (some ⟨L.fb, 0, none⟩))) := R.hc 9
  obtain ⟨af, capf, hsf, cf⟩ := R.freeCell
  rw [hf] at cf
  have mE := meth_val "skerry/heap.empty" (F := 110) (by kernel_rfl) 252 cf
  have Hp := Lib.hid (pop67_any R hf)
  unfold hpV at Hp
  clear R hsf cf hf
  go_enter Try.func56, Try.ntmps56
  go_wp2_with (first
    | (go_at_call 110; refine (empty110_one _ _ _).mono ?_; rintro e w1 ⟨rfl, rfl⟩)
    | (go_at_call 67
       refine Hp.out.mono ?_
       rintro e w1 ⟨rfl, ⟨sf, hR⟩, hE⟩
       have c5 : w1.cell? ⟨L.hb, 5, none⟩ = some (.map (some L.mh)) := hR.hc 5
       obtain ⟨w2, hup, hI2, hE2⟩ := hR.mH.update (P := Try.prog) Try.underlying57 Try.underlying3 k (.int .i64 n)
       rw [aset_map (fun m : Int => Value.int .i64 m)] at hI2
       have R2 := hR.chHnd hE2 hI2
       have H := Lib.hid (And.intro R2 (hE.trans hE2 (fun i hi => .inl (hi ▸ hR.fs.2.2.1))))
       clear hR hE hI2 hE2 R2))
  go_ret
  exact ⟨rfl, ⟨_, H.out.1⟩, H.out.2⟩
end least
end Go.Proofs.Ytpjifaefchnmoaa
