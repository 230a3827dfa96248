/- The law's own function: its main loop and its last one. -/
import Derived.Test.YtpjifaefchnmoaaLawEnd
import Derived.Deep.CutRange
import Derived.Deep.CutBlock
namespace Go.Proofs.Ytpjifaefchnmoaa
open Go.RowKit

def modV (n m : Int) : Int := if n.tmod m < 0 then n.tmod m + m else n.tmod m

theorem modV_bounds (n m : Int) (hm : 0 < m) : 0 ≤ modV n m ∧ modV n m < m := by
  have h1 : n.tmod m < m := Int.tmod_lt_of_pos n hm
  have h2 : -m < n.tmod m := Int.lt_tmod_of_pos n hm
  unfold modV
  split <;> omega

set_option maxHeartbeats 400000 in
theorem mod_det (n m : Int) (hm : 0 < m) (hm2 : m < 1000) (w : World) :
    Calls Try.prog 6 #[.int .i64 n, .int .i64 m] w fun e w' => e = .returned (.int .i64 (modV n m)) ∧ w' = w := by
  have h1 : n.tmod m < m := Int.tmod_lt_of_pos n hm
  have h2 : -m < n.tmod m := Int.lt_tmod_of_pos n hm
  unfold modV
  by_cases h : n.tmod m < 0
  · rw [if_pos h]
    go_enter Try.func6, Try.ntmps6
    go_wp2
    go_ret
    exact ⟨rfl, rfl⟩
  · rw [if_neg h]
    have h' : 0 ≤ n.tmod m := by omega
    clear h
    go_enter Try.func6, Try.ntmps6
    go_wp2
    go_ret
    exact ⟨rfl, rfl⟩

theorem nms_get {k j : Nat} (h : j < k) : (nms k)[j]? = some (j : Int) := by
  rw [nms, List.getElem?_map, List.getElem?_range h]
  rfl

section cells
variable {Φ : St → Prop} {w0 w : World} {hb : Nat} {vo vm vt : Value} {os ms : List Int} {tl : List (Int × Int)} {made : List Int} {tos : List (Int × Int)} {i n : Nat} {a : Option Addr} {cap : Nat}

theorem MG.cellO2 (h : MG Φ w0 hb (.slice a n cap) vm vt os ms tl made tos i w) (hn : n = os.length) {j : Nat} {x : Int} (hx : os[j]? = some x) : ∃ g, a = some ⟨g, 0, none⟩ ∧ ∀ w', Below w.heap.size w w' → w'.cell? ⟨g, j, none⟩ = some (.int .i64 x) := by
  subst hn; exact h.cellO hx

theorem MG.cellM2 (h : MG Φ w0 hb vo (.slice a n cap) vt os ms tl made tos i w) (hn : n = ms.length) {j : Nat} {x : Int} (hx : ms[j]? = some x) : ∃ g, a = some ⟨g, 0, none⟩ ∧ ∀ w', Below w.heap.size w w' → w'.cell? ⟨g, j, none⟩ = some (.int .i64 x) := by
  subst hn; exact h.cellM hx

theorem MG.cellT2 (h : MG Φ w0 hb vo vm (.slice a n cap) os ms tl made tos i w) (hn : n = tl.length) {j : Nat} {t : Int × Int} (ht : tl[j]? = some t) {c : Nat} (hc : c < 2) :
    ∃ g b, a = some ⟨g, 0, none⟩ ∧ (∀ w', Below w.heap.size w w' → w'.cell? ⟨g, j, none⟩ = some (.slice (some ⟨b, 0, none⟩) 2 2) ∧ w'.cell? ⟨b, c, none⟩ = some (.int .i64 (pairAt t c)) ∧ w'.frozen? ⟨b, c, none⟩ = false) ∧
      ∀ (x : Int) m, MG Φ w0 hb vo vm (.slice a n cap) os ms (tl.set j (putTo t c x)) made tos i ((w.drewN m).setCell ⟨b, c, none⟩ (.int .i64 x)) := by
  subst hn; exact h.cellT ht hc
end cells

/-- What has been made: numbers of rounds. -/
def MR (made : List Int) : Prop := ∀ m ∈ made, 0 ≤ m ∧ m < 60

theorem MR.snoc {made : List Int} (h : MR made) {i : Nat} (hi : i < 60) : MR (made ++ [(i : Int)]) := fun m hm => by
  rcases List.mem_append.1 hm with hm | hm
  · exact h m hm
  · simp at hm; subst hm; omega

theorem MR.get {made : List Int} (h : MR made) {j : Nat} {m : Int} (hm : made[j]? = some m) : 0 ≤ m ∧ m < 60 := h m (List.mem_of_getElem? hm)

section fcells
variable {w0 w : World} {hb x : Nat} {vo vm vt : Value} {made : List Int} {tos : List (Int × Int)} {a : Option Addr} {n cap : Nat}
theorem FW.cellO2 (h : FW w0 hb (.slice a n cap) vm vt made tos x w) (hn : n = made.length) {j : Nat} (hj : j < made.length) : ∃ g, a = some ⟨g, 0, none⟩ ∧ ∀ w', Below w.heap.size w w' → w'.cell? ⟨g, j, none⟩ = some (.int .i64 j) := by
  obtain ⟨g, e, hc⟩ := h.cellO hn hj
  exact ⟨g, e, fun w' hw => (hw.cell (World.block_lt_of_cell? w _ hc)).trans hc⟩

theorem FW.cellM2 (h : FW w0 hb vo (.slice a n cap) vt made tos x w) (hn : n = made.length) {j : Nat} {m : Int} (hm : made[j]? = some m) : ∃ g, a = some ⟨g, 0, none⟩ ∧ ∀ w', Below w.heap.size w w' → w'.cell? ⟨g, j, none⟩ = some (.int .i64 m) := by
  obtain ⟨g, e, hc⟩ := h.cellM hn hm
  exact ⟨g, e, fun w' hw => (hw.cell (World.block_lt_of_cell? w _ hc)).trans hc⟩

theorem FW.cellT2 (h : FW w0 hb vo vm (.slice a n cap) made tos x w) (hn : n = made.length) {j : Nat} {t : Int × Int} (ht : tos[j]? = some t) {c : Nat} (hc : c < 2) :
    ∃ g b, a = some ⟨g, 0, none⟩ ∧ ∀ w', Below w.heap.size w w' → w'.cell? ⟨g, j, none⟩ = some (.slice (some ⟨b, 0, none⟩) 2 2) ∧ w'.cell? ⟨b, c, none⟩ = some (.int .i64 (pairAt t c)) := by
  obtain ⟨g, b, e, h1, h2⟩ := h.cellT hn ht hc
  exact ⟨g, b, e, fun w' hw => ⟨(hw.cell (World.block_lt_of_cell? w _ h1)).trans h1, (hw.cell (World.block_lt_of_cell? w _ h2)).trans h2⟩⟩
end fcells

theorem pairAt_lt {t : Int × Int} {k : Int} (h : t.1 < k ∧ t.2 < k) (c : Nat) : pairAt t c < k := by
  unfold pairAt
  split
  · exact h.1
  · exact h.2

/-- The law's input in memory: n arrays of three numbers each. -/
def InL (w0 : World) (l : Value) (n : Nat) : Prop := ∃ a cap, l = .slice a n cap ∧ ∀ i, i < n → ∃ g off x0 x1 x2, a = some ⟨g, off, none⟩ ∧ g < w0.heap.size ∧
  w0.cell? ⟨g, off + i * 3, none⟩ = some (.int .i64 x0) ∧ w0.cell? ⟨g, off + i * 3 + 1, none⟩ = some (.int .i64 x1) ∧ w0.cell? ⟨g, off + i * 3 + 2, none⟩ = some (.int .i64 x2)

/-- What the main loop leaves. -/
def Left1 (w1 : World) (hb : Nat) (v6 v7 v8 : Value) (w : World) : Prop := ∃ (made : List Int) (tos : List (Int × Int)) (ao : Option Addr) (co : Nat) (am : Option Addr) (cm : Nat) (at_ : Option Addr) (ct : Nat),
  v6 = .slice ao made.length co ∧ v7 = .slice am made.length cm ∧ v8 = .slice at_ made.length ct ∧ MR made ∧ FW w1 hb v6 v7 v8 made tos 0 w

theorem MG.left {w1 w : World} {hb i : Nat} {v6 v7 v8 : Value} {made : List Int} {tos : List (Int × Int)} (h : MG (fun _ => True) w1 hb v6 v7 v8 (nms made.length) made tos made tos i w) (hm : MR made) : Left1 w1 hb v6 v7 v8 w := by
  obtain ⟨⟨ao, co, e6⟩, ⟨am, cm, e7⟩, ⟨at_, ct, e8⟩⟩ := h.forms
  rw [nms_len] at e6
  rw [h.ki.2.2.1] at e8
  exact ⟨made, tos, ao, co, am, cm, at_, ct, e6, e7, e8, hm, h.fw⟩

set_option maxRecDepth 100000 in
set_option maxHeartbeats 8000000 in
theorem heapMinors_any (w0 : World) (l : Value) (n : Nat) (hin : InL w0 l n) : Calls Try.prog 3 #[l] w0 fun e w' => e = .returned (.bool true) ∧ Below w0.heap.size w0 w' := by
  obtain ⟨al, cl, rfl, hin⟩ := hin
  have Hin := Lib.hid hin
  clear hin
  go_enter Try.func3, Try.ntmps3
  go_wp2_with (go_at_call 4; refine (sane_any w0).mono ?_; rintro e w1 ⟨rfl, hb1⟩; have H1 := Lib.hid hb1; clear hb1)
  go_upto_block 0 with (go_at_call 5; refine mg_new.mono ?_; rintro e w2 ⟨hb, rfl, h2⟩; have H2 := Lib.hid (And.intro h2 h2.base); clear h2)
  have Hin1 : Hid (∀ i, i < n → ∃ g off x0 x1 x2, al = some ⟨g, off, none⟩ ∧ ∀ wr, Below w1.heap.size w1 wr → wr.cell? ⟨g, off + i * 3, none⟩ = some (.int .i64 x0) ∧ wr.cell? ⟨g, off + i * 3 + 1, none⟩ = some (.int .i64 x1) ∧ wr.cell? ⟨g, off + i * 3 + 2, none⟩ = some (.int .i64 x2)) := by
    refine Lib.hid fun i hi => ?_
    obtain ⟨g, off, x0, x1, x2, h1, h2, h3, h4, h5⟩ := Hin.out i hi
    refine ⟨g, off, x0, x1, x2, h1, fun wr hwr => ?_⟩
    have hb : Below w0.heap.size w0 wr := H1.out.trans (hwr.mono H1.out.size)
    exact ⟨(hb.cell h2).trans h3, (hb.cell h2).trans h4, (hb.cell h2).trans h5⟩
  clear Hin
  go_cut [2, 6, 7, 8, 9, 10, 11, 12, 13, 14, 15, 16, 17, 18] from 36 to 159 (fun v2 v6 v7 v8 v9 v10 v11 v12 v13 v14 v15 v16 v17 v18 wx => Left1 w1 hb v6 v7 v8 wx)
  case first =>
    go_wp2_with fail
    go_loopw [6, 7, 8, 9] (fun v6 v7 v8 v9 wr => ∃ (i : Nat) (made : List Int) (tos : List (Int × Int)), i ≤ n ∧ i ≤ 60 ∧ v9 = .int .i64 i ∧ MR made ∧ MG (fun _ => True) w1 hb v6 v7 v8 (nms made.length) made tos made tos i wr) (fun _ _ _ v9 _ => 60 - (intOf v9).toNat)
    case atStart => exact ⟨0, [], [], Nat.zero_le _, Nat.zero_le _, rfl, (fun m hm => nomatch hm), H2.out.1⟩
    case round =>
      obtain ⟨i, made, tos, hi, hi60, rfl, hMR, hM⟩ := hrel
      obtain ⟨⟨ao, co, e6⟩, ⟨am, cm, e7⟩, ⟨at_, ct, e8⟩⟩ := hM.forms
      rw [nms_len] at e6
      have hki := hM.ki
      rw [hki.2.2.1] at e8
      subst e6; subst e7; subst e8
      by_cases hcond : i < n ∧ i < 60
      · obtain ⟨hlt, hlt60⟩ := hcond
        · obtain ⟨g, off, x0, x1, x2, hal, hcell⟩ := Hin1.out i hlt
          subst hal
          obtain ⟨q0, q1, q2⟩ := hcell wr hM.base
          obtain ⟨hr1, hr2⟩ := modV_bounds x0 6 (by decide)
          have Hmod := Lib.hid (mod_det x0 6 (by decide) (by decide) wr)
          have HM := Lib.hid (And.intro hM (And.intro hcell hki))
          have hk60 : made.length ≤ 60 := by omega
          clear hM hcell hki
          generalize modV x0 6 = r at *
          go_wp2_with (go_at_call 6; refine Hmod.out.mono ?_; rintro e w3 ⟨rfl, rfl⟩)
          · as_aux_lemma => -- a collection
              go_wp2_with (first
              | (go_at_call 7
                 refine (mg_minor HM.out.1 hlt60).mono ?_
                 rintro e w4 ⟨rfl, hM4⟩
                 obtain ⟨av, cnt, hav, hcnt, hag, hrm⟩ := mg_aged hM4
                 have hav' := hav (fun _ h => h)
                 subst hav'
                 have Hag := Lib.hid hag
                 have Hrm := Lib.hid hrm
                 have HM4 := Lib.hid hM4
                 clear hav hag hrm hM4)
              | (go_at_call 13
                 refine Hag.out.mono ?_
                 rintro e w5 ⟨rfl, hb5⟩
                 have Hr5 := Lib.hid (Hrm.out w5 hb5)
                 have H5 := Lib.hid hb5
                 clear hb5)
              | (go_at_call 14
                 refine Hr5.out.mono ?_
                 rintro e w6 ⟨rfl, rfl⟩))
              all_goals first
                | exact ⟨⟨i + 1, made, tos, by omega, by omega, by go_num, hMR, (HM4.out.weak (Nat.le_refl _) (by omega)).below H5.out⟩, by simp [intOf]; omega⟩
                | (go_roundw
                   case rel => exact ⟨i + 1, made, tos, by omega, by omega, by go_num, hMR, (HM4.out.weak (Nat.le_refl _) (by omega)).below H5.out⟩
                   case measure => simp [intOf]; omega)
          · as_aux_lemma => -- a collection
              go_wp2_with (first
              | (go_at_call 8
                 refine (mg_major HM.out.1 hlt60).mono ?_
                 rintro e w4 ⟨rfl, hM4⟩
                 obtain ⟨av, cnt, hav, hcnt, hag, hrm⟩ := mg_aged hM4
                 have hav' := hav (fun _ h => h)
                 subst hav'
                 have Hag := Lib.hid hag
                 have Hrm := Lib.hid hrm
                 have HM4 := Lib.hid hM4
                 clear hav hag hrm hM4)
              | (go_at_call 13
                 refine Hag.out.mono ?_
                 rintro e w5 ⟨rfl, hb5⟩
                 have Hr5 := Lib.hid (Hrm.out w5 hb5)
                 have H5 := Lib.hid hb5
                 clear hb5)
              | (go_at_call 14
                 refine Hr5.out.mono ?_
                 rintro e w6 ⟨rfl, rfl⟩))
              all_goals first
                | exact ⟨⟨i + 1, made, tos, by omega, by omega, by go_num, hMR, (HM4.out.weak (Nat.le_refl _) (by omega)).below H5.out⟩, by simp [intOf]; omega⟩
                | (go_roundw
                   case rel => exact ⟨i + 1, made, tos, by omega, by omega, by go_num, hMR, (HM4.out.weak (Nat.le_refl _) (by omega)).below H5.out⟩
                   case measure => simp [intOf]; omega)
          · as_aux_lemma => -- a new object
              have HMx := Lib.hid HM.out.1
              go_wp2_with (first
              | (go_at_call 10; refine (num_any _ _).mono ?_; rintro e w4 ⟨rfl, hb4⟩; replace HMx := Lib.hid (HMx.out.below hb4); clear hb4)
              | (go_at_call 9
                 refine (mg_make (HMx.out.below ((Below.refl _ _).alloc (Nat.le_refl _) _)) hlt60 (by omega) (Below.heap_new _ _)).mono ?_
                 rintro e w6 ⟨rfl, hM6⟩
                 obtain ⟨a7, c7, w7, happ7, hM7⟩ := hM6.pushO (made.length : Int) (by rw [nms_len]; omega)
                 obtain ⟨a8, c8, w8, happ8, hM8⟩ := hM7.pushM (i : Int) (by omega)
                 obtain ⟨a9, c9, w9, happ9, hM9⟩ := hM8.pushT (-1, -1) (by have := HM.out.2.2.2.2.1; omega)
                 rw [nms_len] at happ7 hM9
                 have hto := HM.out.2.2.2.2.1
                 rw [hto] at happ9 hM9
                 have hos : nms made.length ++ [(made.length : Int)] = nms (made ++ [(i : Int)]).length := by simp [nms_succ]
                 rw [hos] at hM9
                 obtain ⟨av, cnt, _, hcnt, hag, hrm⟩ := mg_aged hM9
                 have Hag := Lib.hid hag
                 have Hrm := Lib.hid hrm
                 have HM9 := Lib.hid hM9
                 clear hag hrm hM9 hM8 hM7 hM6 hto hos)
              | (at_builtin; first | (refine wpList_append_eq rfl _ _ _ rfl _ _ rfl rfl _ happ7 ?_; clear happ7) | (refine wpList_append_eq rfl _ _ _ rfl _ _ rfl rfl _ happ8 ?_; clear happ8) | (refine wpList_append_eq rfl _ _ _ rfl _ _ rfl rfl _ happ9 ?_; clear happ9))
              | (go_at_call 13
                 refine Hag.out.mono ?_
                 rintro e w10 ⟨rfl, hb10⟩
                 have Hr5 := Lib.hid (Hrm.out w10 hb10)
                 have H5 := Lib.hid hb10
                 clear hb10)
              | (go_at_call 14
                 refine Hr5.out.mono ?_
                 rintro e w11 ⟨rfl, rfl⟩))
              all_goals first
                | exact ⟨⟨i + 1, made ++ [(i : Int)], tos ++ [(-1, -1)], by omega, by omega, by go_num, hMR.snoc hlt60, (HM9.out.weak (Nat.le_refl _) (by omega)).below H5.out⟩, by simp [intOf]; omega⟩
                | (go_roundw
                   case rel => exact ⟨i + 1, made ++ [(i : Int)], tos ++ [(-1, -1)], by omega, by omega, by go_num, hMR.snoc hlt60, (HM9.out.weak (Nat.le_refl _) (by omega)).below H5.out⟩
                   case measure => simp [intOf]; omega)
          · as_aux_lemma => -- a reference is set
              have hk0 : 0 < made.length := by
                have h2 := (‹4 ≤ r ∧ ((made.length : Int) == 0) = false›).2
                rw [beq_eq_false_iff_ne] at h2
                omega
              obtain ⟨a1, a2⟩ := modV_bounds x1 made.length (by omega)
              obtain ⟨b1, b2⟩ := modV_bounds x1 2 (by decide)
              obtain ⟨d1, d2⟩ := modV_bounds x2 made.length (by omega)
              obtain ⟨a, ea⟩ : ∃ a : Nat, modV x1 made.length = (a : Int) := ⟨(modV x1 made.length).toNat, by omega⟩
              obtain ⟨c, ec⟩ : ∃ c : Nat, modV x1 2 = (c : Int) := ⟨(modV x1 2).toNat, by omega⟩
              obtain ⟨b, eb⟩ : ∃ b : Nat, modV x2 made.length = (b : Int) := ⟨(modV x2 made.length).toNat, by omega⟩
              have hA := fun w => mod_det x1 made.length (by omega) (by omega) w
              have hC := fun w => mod_det x1 2 (by decide) (by decide) w
              have hB := fun w => mod_det x2 made.length (by omega) (by omega) w
              rw [ea] at hA a1 a2
              rw [ec] at hC b1 b2
              rw [eb] at hB d1 d2
              have HA := Lib.hid hA
              have HC := Lib.hid hC
              have HB := Lib.hid hB
              have hak : a < made.length := by omega
              have hc2 : c < 2 := by omega
              have hbk : b < made.length := by omega
              clear hA hC hB ea ec eb a1 a2 b1 b2 d1 d2
              go_quiet (first
                | (go_at_call_of 6 (Value.int IntKind.i64 2); exact Calls.quiet_of_same (HC.out _))
                | (go_at_call_of 6 (Value.int IntKind.i64 x2); exact Calls.quiet_of_same (HB.out _))
                | (go_at_call_of 6 (Value.int IntKind.i64 x1); exact Calls.quiet_of_same (HA.out _)))
              generalize hwd : w3.drewN nq = wd
              have hMd : MG (fun _ => True) w1 hb (.slice ao made.length co) (.slice am made.length cm) (.slice at_ made.length ct) (nms made.length) made tos made tos i wd := by
                subst hwd; exact HM.out.1.below (below_drewN (Below.refl _ _) nq)
              clear hwd
              obtain ⟨go_, eo, hoa⟩ := hMd.cellO2 (by rw [nms_len]) (nms_get hak)
              subst eo
              obtain ⟨go2, eo2, hob⟩ := hMd.cellO2 (by rw [nms_len]) (nms_get hbk)
              cases eo2
              have hSd : wd.drew.cell? ⟨go_, a, none⟩ = some (.int .i64 a) ∧ wd.drew.cell? ⟨go_, b, none⟩ = some (.int .i64 b) := ⟨hoa _ (below_drewN (Below.refl _ _) 1), hob _ (below_drewN (Below.refl _ _) 1)⟩
              have HMd := Lib.hid (And.intro hMd (And.intro hoa hob))
              clear hMd hoa hob
              obtain ⟨t, ht⟩ : ∃ t, tos[a]? = some t := ⟨_, List.getElem?_eq_getElem (by have := HM.out.2.2.2.2.1; omega)⟩
              go_wp2
              go_region_held3 (fun w' => w'.cell? ⟨go_, a, none⟩ = some (.int .i64 a) ∧ w'.cell? ⟨go_, b, none⟩ = some (.int .i64 b)) (first | exact hSd | exact hS4 | exact hS5)
                (first
                | (go_at_call 12
                   refine (ref_any _ _).mono ?_
                   rintro e w4 ⟨rfl, hb4⟩
                   have hb4' := (below_drewN (Below.refl wd.heap.size wd) 1).trans hb4
                   have hS4 : w4.cell? ⟨go_, a, none⟩ = some (.int .i64 a) ∧ w4.cell? ⟨go_, b, none⟩ = some (.int .i64 b) := ⟨HMd.out.2.1 _ hb4', HMd.out.2.2 _ hb4'⟩
                   have H4 := Lib.hid (HMd.out.1.below hb4')
                   clear hb4 hb4')
                | (go_at_call 11
                   refine (mg_set H4.out hak hc2 hbk ht).mono ?_
                   rintro e w5 ⟨rfl, hM5⟩
                   obtain ⟨go3, eo3, hoa5⟩ := hM5.cellO2 (by rw [nms_len]) (nms_get hak)
                   cases eo3
                   obtain ⟨go4, eo4, hob5⟩ := hM5.cellO2 (by rw [nms_len]) (nms_get hbk)
                   cases eo4
                   have hS5 : w5.cell? ⟨go_, a, none⟩ = some (.int .i64 a) ∧ w5.cell? ⟨go_, b, none⟩ = some (.int .i64 b) := ⟨hoa5 _ (Below.refl _ _), hob5 _ (Below.refl _ _)⟩
                   have H5 := Lib.hid hM5
                   clear hM5 hoa5 hob5))
              clear hS5 hS4 hSd
              obtain ⟨gt, bt, et, hct, hset⟩ := H5.out.cellT2 (by have := HM.out.2.2.2.2.1; omega) ht hc2
              subst et
              obtain ⟨qa, qb, qf⟩ := hct _ (Below.refl _ _)
              have Hset := Lib.hid hset
              clear hct hset
              have hM6 := Hset.out (b : Int) 0
              rw [World.drewN_zero] at hM6
              obtain ⟨av, cnt, _, hcnt, hag, hrm⟩ := mg_aged hM6
              have Hag := Lib.hid hag
              have Hrm := Lib.hid hrm
              have HM6 := Lib.hid hM6
              clear hag hrm hM6
              go_wp2_with (first
              | (go_at_call 13
                 refine Hag.out.mono ?_
                 rintro e w10 ⟨rfl, hb10⟩
                 have Hr5 := Lib.hid (Hrm.out w10 hb10)
                 have H5' := Lib.hid hb10
                 clear hb10)
              | (go_at_call 14
                 refine Hr5.out.mono ?_
                 rintro e w11 ⟨rfl, rfl⟩))
              all_goals first
                | exact ⟨⟨i + 1, made, _, by omega, by omega, by go_num, hMR, (HM6.out.weak (Nat.le_succ _) (by omega)).below H5'.out⟩, by simp [intOf]; omega⟩
                | (go_roundw
                   case rel => exact ⟨i + 1, made, _, by omega, by omega, by go_num, hMR, (HM6.out.weak (Nat.le_succ _) (by omega)).below H5'.out⟩
                   case measure => simp [intOf]; omega)
          · as_aux_lemma => -- a new object
              have hr2 : 2 ≤ r := by
                have e0 := ‹(r == 0) = false›
                have e1 := ‹(r == 1) = false›
                rw [beq_eq_false_iff_ne] at e0 e1
                omega
              have HMx := Lib.hid HM.out.1
              go_wp2_with (first
              | (go_at_call 10; refine (num_any _ _).mono ?_; rintro e w4 ⟨rfl, hb4⟩; replace HMx := Lib.hid (HMx.out.below hb4); clear hb4)
              | (go_at_call 9
                 refine (mg_make (HMx.out.below ((Below.refl _ _).alloc (Nat.le_refl _) _)) hlt60 (by omega) (Below.heap_new _ _)).mono ?_
                 rintro e w6 ⟨rfl, hM6⟩
                 obtain ⟨a7, c7, w7, happ7, hM7⟩ := hM6.pushO (made.length : Int) (by rw [nms_len]; omega)
                 obtain ⟨a8, c8, w8, happ8, hM8⟩ := hM7.pushM (i : Int) (by omega)
                 obtain ⟨a9, c9, w9, happ9, hM9⟩ := hM8.pushT (-1, -1) (by have := HM.out.2.2.2.2.1; omega)
                 rw [nms_len] at happ7 hM9
                 have hto := HM.out.2.2.2.2.1
                 rw [hto] at happ9 hM9
                 have hos : nms made.length ++ [(made.length : Int)] = nms (made ++ [(i : Int)]).length := by simp [nms_succ]
                 rw [hos] at hM9
                 obtain ⟨av, cnt, _, hcnt, hag, hrm⟩ := mg_aged hM9
                 have Hag := Lib.hid hag
                 have Hrm := Lib.hid hrm
                 have HM9 := Lib.hid hM9
                 clear hag hrm hM9 hM8 hM7 hM6 hto hos)
              | (at_builtin; first | (refine wpList_append_eq rfl _ _ _ rfl _ _ rfl rfl _ happ7 ?_; clear happ7) | (refine wpList_append_eq rfl _ _ _ rfl _ _ rfl rfl _ happ8 ?_; clear happ8) | (refine wpList_append_eq rfl _ _ _ rfl _ _ rfl rfl _ happ9 ?_; clear happ9))
              | (go_at_call 13
                 refine Hag.out.mono ?_
                 rintro e w10 ⟨rfl, hb10⟩
                 have Hr5 := Lib.hid (Hrm.out w10 hb10)
                 have H5 := Lib.hid hb10
                 clear hb10)
              | (go_at_call 14
                 refine Hr5.out.mono ?_
                 rintro e w11 ⟨rfl, rfl⟩))
              all_goals first
                | exact ⟨⟨i + 1, made ++ [(i : Int)], tos ++ [(-1, -1)], by omega, by omega, by go_num, hMR.snoc hlt60, (HM9.out.weak (Nat.le_refl _) (by omega)).below H5.out⟩, by simp [intOf]; omega⟩
                | (go_roundw
                   case rel => exact ⟨i + 1, made ++ [(i : Int)], tos ++ [(-1, -1)], by omega, by omega, by go_num, hMR.snoc hlt60, (HM9.out.weak (Nat.le_refl _) (by omega)).below H5.out⟩
                   case measure => simp [intOf]; omega)
      · have HL := Lib.hid (hM.left hMR)
        clear hM hki
        have hex : n ≤ i ∨ (i < n ∧ 60 ≤ i) := by omega
        rcases hex with hex | ⟨hex, hex60⟩
        all_goals
          go_wp2_with fail
          go_meet
          exact HL.out
  case rest =>
    obtain ⟨made, tos, ao, co, am, cm, at_, ct, rfl, rfl, rfl, hMR, hFW⟩ := hcut
    have HF := Lib.hid (And.intro hFW (And.intro hFW.bounds hFW.base))
    have hk60 : made.length ≤ 60 := HF.out.2.1.1
    clear hFW
    go_wp2
    go_loopw [19] (fun v19 wr => ∃ j x : Nat, j ≤ made.length ∧ x ≤ 2 * j ∧ v19 = .int .i64 j ∧ FW w1 hb (.slice ao made.length co) (.slice am made.length cm) (.slice at_ made.length ct) made tos x wr) (fun v19 _ => made.length - (intOf v19).toNat)
    case atStart => exact ⟨0, 0, Nat.zero_le _, Nat.le_refl _, rfl, HF.out.1⟩
    case round =>
      obtain ⟨j, x, hj, hx, rfl, hW⟩ := hrel
      by_cases hlt : j < made.length
      · have HW := Lib.hid hW
        clear hW
        obtain ⟨m, hm⟩ : ∃ m, made[j]? = some m := ⟨_, List.getElem?_eq_getElem hlt⟩
        obtain ⟨t, ht⟩ : ∃ t, tos[j]? = some t := ⟨_, List.getElem?_eq_getElem (by have := HF.out.2.1.2.1; omega)⟩
        have Hmt := Lib.hid (And.intro hm ht)
        clear hm ht
        go_wp2
        go_loopw [20] (fun v20 wq => ∃ c y : Nat, c ≤ 2 ∧ y ≤ 2 * j + c ∧ v20 = .int .i64 c ∧ FW w1 hb (.slice ao made.length co) (.slice am made.length cm) (.slice at_ made.length ct) made tos y wq) (fun v20 _ => 2 - (intOf v20).toNat)
        case atStart => exact ⟨0, x, by omega, by omega, rfl, HW.out⟩
        case round =>
          obtain ⟨c, y, hc, hy, rfl, hW⟩ := hrel
          by_cases hc2 : c < 2
          · obtain ⟨go_, eo, qo⟩ := hW.cellO rfl hlt
            subst eo
            by_cases hpos : 0 ≤ pairAt t c
            · as_aux_lemma => -- a reference
                obtain ⟨pn, epn⟩ : ∃ pn : Nat, pairAt t c = (pn : Int) := ⟨(pairAt t c).toNat, by omega⟩
                have hpl : pn < made.length := by
                  have := pairAt_lt (HF.out.2.1.2.2 t (List.mem_of_getElem? Hmt.out.2)) c
                  omega
                obtain ⟨kn, hcall⟩ := fw_ref hW (by omega) Hmt.out.1 Hmt.out.2 hc2 hpos
                rw [epn] at hcall
                have Hcall := Lib.hid hcall
                have Epn := Lib.hid epn
                obtain ⟨gt, bt, et, _⟩ := hW.cellT2 rfl Hmt.out.2 hc2
                subst et
                clear hW hcall hpos epn
                go_wp2_with (go_at_call 15; refine Hcall.out.mono ?_; rintro e w4 ⟨rfl, hW4, hsm⟩; have H4 := Lib.hid (And.intro hW4 hsm); clear hW4 hsm)
                have hcl := Below.heap_new w4 (.cells #[.bool true, .int .i64 kn] 35)
                have hba : Below w4.heap.size w4 (w4.alloc (.cells #[.bool true, .int .i64 kn] 35)) := (Below.refl w4.heap.size w4).alloc (Nat.le_refl _) _
                generalize w4.alloc (.cells #[.bool true, .int .i64 kn] 35) = wa at *
                have hWa := H4.out.1.below hba
                obtain ⟨gt', bt', et', qt⟩ := hWa.cellT2 rfl Hmt.out.2 hc2
                cases et'
                obtain ⟨go', eo', qp⟩ := hWa.cellO2 rfl hpl
                cases eo'
                rw [Epn.out] at qt
                have HA := Lib.hid (And.intro hWa (And.intro qt (And.intro qp (And.intro hcl hba))))
                obtain ⟨qt1, qt2⟩ := qt _ (Below.refl _ _)
                have k0 : wa.cell? ⟨w4.heap.size, 0, none⟩ = some (.bool true) := by rw [cell_of hcl]; rfl
                clear hWa qp hcl hba qt qo
                go_quiet (fail)
                clear k0 qt1 qt2
                have hbd : Below wa.heap.size wa (wa.drewN nq) := below_drewN (Below.refl _ _) nq
                generalize wa.drewN nq = wd at *
                obtain ⟨qt1, qt2⟩ := HA.out.2.1 _ hbd
                have qp1 := HA.out.2.2.1 _ hbd
                have hcd := Below.get hbd HA.out.2.2.2.1 (lt_of_blk HA.out.2.2.2.1)
                have k0 : wd.cell? ⟨w4.heap.size, 0, none⟩ = some (.bool true) := by rw [cell_of hcd]; rfl
                have k1 : wd.cell? ⟨w4.heap.size, 1, none⟩ = some (.int .i64 kn) := by rw [cell_of hcd]; rfl
                have Hsm := Lib.hid (fun k => (H4.out.2 (wd.drewN k) ((HA.out.2.2.2.2.trans (hbd.mono HA.out.2.2.2.2.size)).trans (below_drewN (Below.refl _ _) k))).mono fun e w' (h : _ ∧ wd.drewN k = w') => (⟨h.1, h.2.symm⟩ : _ ∧ w' = wd.drewN k))
                have Hd := Lib.hid (HA.out.1.below hbd)
                clear hbd hcd
                go_wp2
                go_quiet ((go_at_call 16; exact Calls.quiet_of_same (Hsm.out _)))
                clear k0 k1 qt1 qt2 qp1
                have He := Lib.hid (Hd.out.below (below_drewN (Below.refl _ _) nq))
                go_wp2
                all_goals first
                  | exact ⟨⟨c + 1, y + 1, by omega, by omega, by go_num, He.out⟩, by simp [intOf]; omega⟩
                  | (go_roundw
                     case rel => exact ⟨c + 1, y + 1, by omega, by omega, by go_num, He.out⟩
                     case measure => simp [intOf]; omega)
            · as_aux_lemma => -- a number
                have hneg : pairAt t c < 0 := by omega
                have Hcall := Lib.hid (fw_num hW Hmt.out.1 Hmt.out.2 hc2 hneg)
                obtain ⟨hm0, hm60⟩ := hMR.get Hmt.out.1
                obtain ⟨gm, em, qm⟩ := hW.cellM2 rfl Hmt.out.1
                subst em
                obtain ⟨gt, bt, et, qt⟩ := hW.cellT2 rfl Hmt.out.2 hc2
                subst et
                have HW := Lib.hid (And.intro hW (And.intro qm qt))
                clear hW qm qt hpos
                generalize pairAt t c = p at *
                go_wp2_with (go_at_call 15; refine Hcall.out.mono ?_; rintro e w4 ⟨rfl, hb4⟩; have H4 := Lib.hid hb4; clear hb4)
                have hcl := Below.heap_new w4 (.cells #[.bool false, .int .i64 (m + c)] 35)
                have hba : Below wr.heap.size wr (w4.alloc (.cells #[.bool false, .int .i64 (m + c)] 35)).drew := H4.out.trans ((below_drewN ((Below.refl w4.heap.size w4).alloc (Nat.le_refl _) _) 1).mono H4.out.size)
                obtain ⟨qt1, qt2⟩ := HW.out.2.2 _ hba
                have qm1 := HW.out.2.1 _ hba
                have hcl' : (w4.alloc (.cells #[.bool false, .int .i64 (m + c)] 35)).drew.heap[w4.heap.size]? = some (.cells #[.bool false, .int .i64 (m + c)] 35 (0, 0)) := hcl
                have hS0 : (w4.alloc (.cells #[.bool false, .int .i64 (m + c)] 35)).drew.cell? ⟨w4.heap.size, 0, none⟩ = some (.bool false) ∧ (w4.alloc (.cells #[.bool false, .int .i64 (m + c)] 35)).drew.cell? ⟨w4.heap.size, 1, none⟩ = some (.int .i64 (m + c)) ∧ (w4.alloc (.cells #[.bool false, .int .i64 (m + c)] 35)).drew.cell? ⟨gt, j, none⟩ = some (.slice (some ⟨bt, 0, none⟩) 2 2) ∧ (w4.alloc (.cells #[.bool false, .int .i64 (m + c)] 35)).drew.cell? ⟨bt, c, none⟩ = some (.int .i64 p) ∧ (w4.alloc (.cells #[.bool false, .int .i64 (m + c)] 35)).drew.cell? ⟨gm, j, none⟩ = some (.int .i64 m) :=
                  ⟨by rw [cell_of hcl']; rfl, by rw [cell_of hcl']; rfl, qt1, qt2, qm1⟩
                have HB := Lib.hid (And.intro hba hcl')
                clear hba hcl hcl' qt1 qt2 qm1
                have hwr : IntKind.i64.wrap (m + (c : Int)) = m + (c : Int) := IntWalk.i64_in _ (by omega)
                have hdg : decide (0 ≤ p) = false := decide_eq_false (by omega)
                clear hneg
                go_region_held3 (fun w' => w'.cell? ⟨w4.heap.size, 0, none⟩ = some (.bool false) ∧ w'.cell? ⟨w4.heap.size, 1, none⟩ = some (.int .i64 (m + c)) ∧ w'.cell? ⟨gt, j, none⟩ = some (.slice (some ⟨bt, 0, none⟩) 2 2) ∧ w'.cell? ⟨bt, c, none⟩ = some (.int .i64 p) ∧ w'.cell? ⟨gm, j, none⟩ = some (.int .i64 m)) (first | exact hS0 | exact hS8)
                  ((go_at_call 10
                    refine (num_any _ _).mono ?_
                    rintro e w8 ⟨rfl, hb8⟩
                    have hcl8 := Below.get hb8 HB.out.2 (lt_of_blk HB.out.2)
                    have hba8 := HB.out.1.trans (hb8.mono HB.out.1.size)
                    obtain ⟨qt1, qt2⟩ := HW.out.2.2 _ hba8
                    have qm1 := HW.out.2.1 _ hba8
                    have hS8 : w8.cell? ⟨w4.heap.size, 0, none⟩ = some (.bool false) ∧ w8.cell? ⟨w4.heap.size, 1, none⟩ = some (.int .i64 (m + c)) ∧ w8.cell? ⟨gt, j, none⟩ = some (.slice (some ⟨bt, 0, none⟩) 2 2) ∧ w8.cell? ⟨bt, c, none⟩ = some (.int .i64 p) ∧ w8.cell? ⟨gm, j, none⟩ = some (.int .i64 m) :=
                      ⟨by rw [cell_of hcl8]; rfl, by rw [cell_of hcl8]; rfl, qt1, qt2, qm1⟩
                    have H8 := Lib.hid (HW.out.1.below hba8)
                    clear hb8 hcl8 hba8 qt1 qt2 qm1))
                clear hwr hS0 hdg
                go_wp2
                all_goals first
                  | exact ⟨⟨c + 1, y, by omega, by omega, by go_num, H8.out⟩, by simp [intOf]; omega⟩
                  | (go_roundw
                     case rel => exact ⟨c + 1, y, by omega, by omega, by go_num, H8.out⟩
                     case measure => simp [intOf]; omega)
          · have e : c = 2 := by omega
            subst e
            have HW2 := Lib.hid hW
            clear hW
            go_wp2
            go_roundw
            case rel => exact ⟨j + 1, y, by omega, by omega, by go_num, HW2.out⟩
            case measure => simp [intOf]; omega
      · have HW := Lib.hid hW.base
        clear hW
        go_wp2
        go_ret
        exact ⟨rfl, H1.out.trans (HW.out.mono H1.out.size)⟩
end Go.Proofs.Ytpjifaefchnmoaa
