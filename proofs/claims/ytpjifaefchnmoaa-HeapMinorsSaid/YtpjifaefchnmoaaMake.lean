/- The methods Make and Table. -/
import Derived.Test.YtpjifaefchnmoaaAdd
namespace Go.Proofs.Ytpjifaefchnmoaa
open Go.RowKit

/-- A cell as the callers have it, and the word that it comes to. -/
def CellOf (st : St) (c d : Wd) : Prop := c.ref = d.ref ∧ if c.ref then alook st.hnd c.num = some d.num ∧ ∃ o, alook st.objs d.num = some o else c.num = d.num

section make
variable {F G : Nat → Prop} {L : Lay} {st : St} {w w' : World}

theorem in_any (R : Rep F L st w) {c d : Wd} (h : CellOf st c d) :
    Calls Try.prog 25 #[.pointer (some ⟨L.hb, 0, none⟩), .agg #[.bool c.ref, .int .i64 c.num]] w fun e w' => e = .returned (.tuple #[.agg #[.bool d.ref, .int .i64 d.num], .int .i64 0]) ∧ Below w.heap.size w w' := by
  obtain ⟨h1, h2⟩ := h
  rw [← h1]
  cases hr : c.ref
  · rw [hr] at h2
    simp at h2
    rw [← h2]
    exact in_num _ _ _
  · rw [hr] at h2
    simp at h2
    obtain ⟨h2, o, ho⟩ := h2
    exact in_ref R h2 ho

/-- append(l, x) at a row of words, x in a block of its own just ahead. -/
theorem Row.appWord {F : Nat → Prop} {n : Nat} {v : Value} {xs : List Value} (h : Row F 66 2 w v n xs) (d : Wd) (hn : n < 1000) :
    ∃ a cap w', (Builtin.append_ #[55, 55] 55 #[v, .slice (some ⟨w.heap.size, 0, none⟩) 1 1]).run Try.prog (w.alloc (.cells #[.bool d.ref, .int .i64 d.num] 66)) = .ok (.slice a (n + 1) cap) w' ∧
      Row (grow F w w') 66 2 w' (.slice a (n + 1) cap) (n + 1) (xs ++ [.bool d.ref, .int .i64 d.num]) ∧ Ext F w w' := by
  have h1 : Row F 66 2 (w.alloc (.cells #[.bool d.ref, .int .i64 d.num] 66)) v n xs := h.of_block fun k hk => Below.heap_alloc w _ k (h.lt hk)
  have hb := Below.heap_new w (.cells #[.bool d.ref, .int .i64 d.num] 66)
  obtain ⟨v', w', r1, r2, r3, _⟩ := h1.append (P := Try.prog) (t := 55) Try.underlying55 info66 rfl (by decide) 55 ⟨w.heap.size, 0, none⟩ 1 1 [.bool d.ref, .int .i64 d.num] rfl (by
    intro j u hu
    match j with
    | 0 => simp at hu; subst hu; exact cell_of hb 0
    | 1 => simp at hu; subst hu; exact cell_of hb 1
    | j + 2 => simp at hu) (by intro u hu; simp at hu; rcases hu with rfl | rfl <;> rfl) (by simp only [maxLen]; omega) (Nat.le_trans (Nat.mul_le_mul (by omega : n + 1 ≤ 1000) (Nat.le_refl _)) (by decide))
  obtain ⟨a, cap, rfl⟩ := r2.form
  have hs : (w.alloc (.cells #[.bool d.ref, .int .i64 d.num] 66)).heap.size = w.heap.size + 1 := by simp
  refine ⟨a, cap, w', r1, r2.mono fun k hk => ?_, (Below.ext ((Below.refl _ w).alloc (Nat.le_refl _) _) F).trans r3 (fun i hi => .inl hi)⟩
  rcases hk with hk | hk
  · exact .inl hk
  · rw [hs] at hk; exact .inr ⟨by omega, hk.2⟩

def MakePost (F : Nat → Prop) (L : Lay) (st : St) (tbl : Bool) (size : Nat) (ws : List Wd) (w : World) (e : Ending) (w' : World) : Prop :=
  e = .returned (.tuple #[.int .i64 st.next, .int .i64 0]) ∧ (∃ ob s0 s1, w.heap.size ≤ ob ∧ Rep (grow F w w') { L with s0 := s0, s1 := s1 } (addSt st ob tbl size ws) w') ∧ Ext F w w'

/-- What add wants of a state. -/
structure AddOk (st : St) (n : Nat) : Prop where
  fit : (st.m0.length : Int) + n ≤ st.young
  ml : st.m0.length < 50000
  y : st.young < 100000
  k : alook st.objs st.names = none
  n0 : 0 ≤ st.names
  n1 : st.names < 100000
  fr : st.free = []
  x : st.next < 100000
  x0 : 0 ≤ st.next
  h : st.hnd.length < 10000
  room : wsum st.objs + n ≤ st.full
  u : wsum st.objs < 50000

set_option maxRecDepth 100000 in
set_option maxHeartbeats 4000000 in
theorem make_any (R : Rep F L st w) {cs ds : List Wd} (hcd : cs.length = ds.length) (hd : ∀ (k : Nat) c d, cs[k]? = some c → ds[k]? = some d → CellOf st c d) (hn : cs.length ≤ 10) (hA : AddOk st (1 + cs.length))
    {fa : Option Addr} {fc : Nat} (hfa : 0 < cs.length → ∃ g, fa = some ⟨g, 0, none⟩ ∧ g < w.heap.size ∧ ∀ (k : Nat) c, cs[k]? = some c → w.cell? ⟨g, k * 2, none⟩ = some (.bool c.ref) ∧ w.cell? ⟨g, k * 2 + 1, none⟩ = some (.int .i64 c.num))
    (tag : Int) (ht : 0 ≤ tag) :
    Calls Try.prog 9 #[.pointer (some ⟨L.hb, 0, none⟩), .int .i64 tag, .slice fa cs.length fc] w (MakePost F L st false cs.length (⟨false, tag⟩ :: ds) w) := by
  have H := Lib.hid (And.intro R (And.intro hcd (And.intro hd (And.intro hA hfa))))
  clear R hcd hd hA hfa
  go_enter Try.func9, Try.ntmps9
  go_wp2
  go_loopw [8, 20] (fun v i wr => ∃ k : Nat, k ≤ cs.length ∧ i = .int .i64 k ∧ Row (fun b => w.heap.size ≤ b ∧ b < wr.heap.size) 66 2 wr v (1 + k) (wdCells (⟨false, tag⟩ :: ds.take k)) ∧ Below w.heap.size w wr) (fun _ i _ => cs.length - (intOf i).toNat)
  case atStart =>
    refine ⟨0, Nat.zero_le _, rfl, ?_, (Below.refl _ _).alloc (Nat.le_refl _) _⟩
    exact ⟨⟨rfl, .inr ⟨w.heap.size, 1, _, rfl, Nat.zero_le _, Below.heap_new w _, by decide, by decide, rfl, rfl⟩⟩, fun b hb => by cases hb; simp⟩
  case round =>
    obtain ⟨k, hk, rfl, hrow, hb⟩ := hrel
    obtain ⟨av, cv, rfl⟩ := hrow.form
    by_cases hlt : k < cs.length
    · obtain ⟨c, hc⟩ : ∃ c, cs[k]? = some c := ⟨_, List.getElem?_eq_getElem hlt⟩
      obtain ⟨d, hd⟩ : ∃ d, ds[k]? = some d := ⟨_, List.getElem?_eq_getElem (by have := H.out.2.1; omega)⟩
      obtain ⟨g, hg, hgl, hcell⟩ := H.out.2.2.2.2 (by omega)
      subst hg
      obtain ⟨q0, q1⟩ := hcell k c hc
      rw [← hb.cell (p := ⟨g, k * 2, none⟩) hgl] at q0
      rw [← hb.cell (p := ⟨g, k * 2 + 1, none⟩) hgl] at q1
      have hal := (Below.refl wr.heap.size wr).alloc (Nat.le_refl _) (.cells #[.bool c.ref, .int .i64 c.num] 35)
      have Hin := Lib.hid (in_any ((H.out.1.below' hb).below' hal) (H.out.2.2.1 k c d hc hd))
      have Hk := Lib.hid (And.intro hrow (And.intro hb (And.intro hal hd)))
      clear hrow hb hal hc hd hcell
      go_wp2_with (first
        | (go_at_call 25
           refine Hin.out.mono ?_
           rintro e w5 ⟨rfl, hb5⟩
           have hb5' : Below wr.heap.size wr w5 := Hk.out.2.2.1.trans (hb5.mono (by simp))
           have hal6 := hb5'.alloc hb5'.size (.cells #[.bool d.ref, .int .i64 d.num] 66)
           have hrow6 := Hk.out.1.below hal6 Hk.out.1.lt'
           obtain ⟨a', cap', w7, happ, hrow7, hE7⟩ := hrow6.appWord d (by omega)
           have hs6 : (w5.alloc (.cells #[.bool d.ref, .int .i64 d.num] 66)).heap.size = w5.heap.size + 1 := by simp
           rw [hs6] at happ
           have H7 := Lib.hid (And.intro hrow7 (And.intro hE7 hal6))
           clear hrow7 hE7 hal6 hrow6 hb5' hb5)
        | (at_builtin; refine wpList_append_eq rfl _ _ _ rfl _ _ rfl rfl _ happ ?_))
      go_roundw
      case rel =>
        obtain ⟨hrow7, hE7, hal6⟩ := H7.out
        have hb7 : Below w.heap.size w w7 := Hk.out.2.1.trans ((hal6.mono Hk.out.2.1.size).trans (hE7.below (Nat.le_trans Hk.out.2.1.size hal6.size) (fun b hb => hb.1)))
        refine ⟨k + 1, by omega, by go_num, ?_, hb7⟩
        have e1 : wdCells (⟨false, tag⟩ :: ds.take (k + 1)) = wdCells (⟨false, tag⟩ :: ds.take k) ++ [.bool d.ref, .int .i64 d.num] := by
          rw [List.take_add_one, Hk.out.2.2.2]
          simp [wdCells]
        rw [e1, show 1 + (k + 1) = 1 + k + 1 from by omega]
        refine hrow7.mono fun b hb => ?_
        have h1 := hal6.size
        have h2 := Hk.out.2.1.size
        have h3 := hE7.size
        rcases hb with hb | hb
        · exact ⟨hb.1, by omega⟩
        · exact ⟨by omega, hb.2⟩
      case measure => simp [intOf]; omega
    · have e : k = cs.length := by omega
      subst e
      rw [List.take_of_length_le (by rw [H.out.2.1]; exact Nat.le_refl _)] at hrow
      obtain ⟨g, hg, hgF⟩ := hrow.addr (by omega)
      subst hg
      have Rr := H.out.1.below' hb
      have Hsp := Lib.hid (spare_yes Rr H.out.2.2.2.1.h)
      have Hro := Lib.hid (room_yes Rr (n := 1 + cs.length) (by omega) H.out.2.2.2.1.room H.out.2.2.2.1.u)
      have hcast : ((1 + cs.length : Nat) : Int) = 1 + (cs.length : Int) := by omega
      have Hk := Lib.hid (And.intro hrow (And.intro hb Rr))
      clear hrow hb Rr
      go_wp2_with (first
        | (go_at_call 26; refine Hsp.out.mono ?_; rintro e w5 ⟨rfl, rfl⟩)
        | (go_at_call 27
           refine Hro.out.mono ?_
           rintro e w6 ⟨rfl, hb6⟩
           have hbA : Below w.heap.size w w6 := Hk.out.2.1.trans (hb6.mono Hk.out.2.1.size)
           have R6 := (H.out.1.below' hbA).alloc (.cells (obCells (newOb w6.heap.size false cs.length 0)) 74)
           have hrow6 := (Hk.out.1.below hb6 Hk.out.1.lt').of_block (w' := w6.alloc (.cells (obCells (newOb w6.heap.size false cs.length 0)) 74)) (fun b hb => Below.heap_alloc w6 _ b (Nat.lt_of_lt_of_le (Hk.out.1.lt hb) hb6.size))
           have hlen : (⟨false, tag⟩ :: ds : List Wd).length = 1 + cs.length := by have := H.out.2.1; simp; omega
           have hgl := Hk.out.1.lt (k := g) rfl
           have hA := H.out.2.2.2.1
           have hadd := add_any (ws := ⟨false, tag⟩ :: ds) (la := ⟨g, 0, none⟩) (lc := cv) (size := cs.length) (tbl := false) R6 (Below.heap_new w6 _) (fun h => by have := H.out.1.lt _ h; have := hbA.size; omega)
             (by omega) (by omega) (by rw [hlen]; exact hA.fit) hA.ml hA.y (fun j u hu => by
               have hj : j < (1 + cs.length) * 2 := by
                 have h1 := (List.getElem?_eq_some_iff.1 hu).1
                 rw [wdCells_length, hlen] at h1; exact h1
               have h2 := hrow6.cell j hj
               have h3 : (⟨g, 0, none⟩ : Addr).add j = ⟨g, j, none⟩ := by unfold Addr.add; split <;> simp_all
               rw [h3, h2]
               exact hu) (fun h => by have : g < w.heap.size := H.out.1.lt _ h; omega) (fun e => by have := hb6.size; have e' : g = w6.heap.size := e; omega)
             hA.k hA.n0 hA.n1 hA.fr hA.x hA.x0
           rw [hlen] at hadd
           have Hadd := Lib.hid hadd
           have Hb6 := Lib.hid hbA
           clear hb6 hbA R6 hrow6 hlen hgl hA hadd)
        | (go_at_call 28
           refine Hadd.out.mono ?_
           rintro e w9 ⟨rfl, hR9, hE9⟩
           have H9 := Lib.hid (And.intro hR9 hE9)
           clear hR9 hE9))
      go_ret2
      obtain ⟨⟨s0, s1, hR9⟩, hE9⟩ := H9.out
      have hal := (Below.refl w6.heap.size w6).alloc (Nat.le_refl _) (.cells (obCells (newOb w6.heap.size false cs.length 0)) 74)
      have h1 := Hb6.out.size
      have h2 := hal.size
      have hE : Ext F w w9 := ((Below.ext Hb6.out F).trans (Below.ext hal F) (fun i hi => .inl hi)).trans hE9 (fun i hi => by
        rcases hi with hi | hi
        · exact .inl hi
        · exact .inr (by omega))
      refine ⟨rfl, ⟨w6.heap.size, s0, s1, h1, hR9.mono (fun k hk => ?_) (fun k hk => ?_)⟩, hE⟩
      · have h3 := hE9.size
        have h4 : (w6.alloc (.cells (obCells (newOb w6.heap.size false cs.length 0)) 74)).heap.size = w6.heap.size + 1 := by simp
        rcases hk with (hk | hk) | hk
        · exact .inl hk
        · exact .inr ⟨Nat.le_trans (Nat.le_trans h1 h2) hk.1, hk.2⟩
        · exact .inr ⟨by omega, by subst hk; show w6.heap.size < w9.heap.size; have : (w6.alloc (.cells (obCells (newOb w6.heap.size false cs.length 0)) 74)).heap.size ≤ w9.heap.size := h3; omega⟩
      · rcases hk with hk | hk
        · exact Nat.lt_of_lt_of_le (H.out.1.lt k hk) hE.size
        · exact hk.2

set_option maxRecDepth 100000 in
set_option maxHeartbeats 2000000 in
theorem table_any (R : Rep F L st w) (hA : AddOk st 1) : Calls Try.prog 17 #[.pointer (some ⟨L.hb, 0, none⟩)] w (MakePost F L st true 0 [⟨false, 0⟩] w) := by
  have Hsp := Lib.hid (spare_yes R hA.h)
  have Hro := Lib.hid (room_yes R (n := 1) (by omega) hA.room hA.u)
  have H := Lib.hid (And.intro R hA)
  clear R hA
  go_enter Try.func17, Try.ntmps17
  go_wp2_with (first
    | (go_at_call 26; refine Hsp.out.mono ?_; rintro e w5 ⟨rfl, rfl⟩)
    | (go_at_call 27
       refine Hro.out.mono ?_
       rintro e w6 ⟨rfl, hb6⟩
       have R6 := ((H.out.1.below' hb6).alloc (.cells (obCells (newOb w6.heap.size true 0 0)) 74)).alloc (.cells #[.bool false, .int .i64 0] 66)
       have hs6 : (w6.alloc (.cells (obCells (newOb w6.heap.size true 0 0)) 74)).heap.size = w6.heap.size + 1 := by simp
       have hob := (Below.heap_alloc (w6.alloc (.cells (obCells (newOb w6.heap.size true 0 0)) 74)) (.cells #[.bool false, .int .i64 0] 66) w6.heap.size (by omega)).trans (Below.heap_new w6 (.cells (obCells (newOb w6.heap.size true 0 0)) 74))
       have hwb := Below.heap_new (w6.alloc (.cells (obCells (newOb w6.heap.size true 0 0)) 74)) (.cells #[.bool false, .int .i64 0] 66)
       rw [hs6] at hwb
       have hA := H.out.2
       have hadd := add_any (ws := [⟨false, 0⟩]) (la := ⟨w6.heap.size + 1, 0, none⟩) (lc := 1) (size := 0) (tbl := true) R6 hob (fun h => by have := H.out.1.lt _ h; have := hb6.size; omega)
         (by simp) (by simp) (by simpa using hA.fit) hA.ml hA.y (fun j u hu => by
           match j with
           | 0 => simp [wdCells] at hu; subst hu; exact cell_of hwb 0
           | 1 => simp [wdCells] at hu; subst hu; exact cell_of hwb 1
           | j + 2 => simp [wdCells] at hu) (fun h => by have : w6.heap.size + 1 < w.heap.size := H.out.1.lt _ h; have := hb6.size; omega) (fun e => by have e' : w6.heap.size + 1 = w6.heap.size := e; omega)
         hA.k hA.n0 hA.n1 hA.fr hA.x hA.x0
       have Hadd := Lib.hid hadd
       have Hb6 := Lib.hid hb6
       clear hb6 R6 hs6 hob hwb hA hadd)
    | (go_at_call 28
       refine Hadd.out.mono ?_
       rintro e w9 ⟨rfl, hR9, hE9⟩
       have H9 := Lib.hid (And.intro hR9 hE9)
       clear hR9 hE9))
  go_ret2
  obtain ⟨⟨s0, s1, hR9⟩, hE9⟩ := H9.out
  have hal := ((Below.refl w6.heap.size w6).alloc (Nat.le_refl _) (.cells (obCells (newOb w6.heap.size true 0 0)) 74)).alloc (by simp) (.cells #[.bool false, .int .i64 0] 66)
  have h1 := Hb6.out.size
  have h2 := hal.size
  have hE : Ext F w w9 := ((Below.ext Hb6.out F).trans (Below.ext hal F) (fun i hi => .inl hi)).trans hE9 (fun i hi => by
    rcases hi with hi | hi
    · exact .inl hi
    · exact .inr (by omega))
  have h3 := hE9.size
  have h4 : ((w6.alloc (.cells (obCells (newOb w6.heap.size true 0 0)) 74)).alloc (.cells #[.bool false, .int .i64 0] 66)).heap.size = w6.heap.size + 2 := by simp
  refine ⟨rfl, ⟨w6.heap.size, s0, s1, h1, hR9.mono (fun k hk => ?_) (fun k hk => ?_)⟩, hE⟩
  · rcases hk with (hk | hk) | hk
    · exact .inl hk
    · exact .inr ⟨Nat.le_trans (Nat.le_trans h1 h2) hk.1, hk.2⟩
    · have h5 : ((w6.alloc (.cells (obCells (newOb w6.heap.size true 0 0)) 74)).alloc (.cells #[.bool false, .int .i64 0] 66)).heap.size ≤ w9.heap.size := h3
      exact .inr ⟨by omega, by omega⟩
  · rcases hk with hk | hk
    · exact Nat.lt_of_lt_of_le (H.out.1.lt k hk) hE.size
    · exact hk.2
end make
end Go.Proofs.Ytpjifaefchnmoaa
