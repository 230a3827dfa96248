/- The law's first look at a heap: it is as it should be. -/
import Derived.Test.YtpjifaefchnmoaaSaneOps
namespace Go.Proofs.Ytpjifaefchnmoaa
open Go.RowKit

/-- What the first collection leaves. -/
def SaneA (st : St) : Prop := ∃ p0 p1 p2, Three st p0 p1 p2 ∧ st.hnd = [(1, 1), (2, 2)] ∧ st.free = [0]

/-- What the second one leaves. -/
def SaneB (st : St) : Prop := ∃ p, st.objs = [(1, p)] ∧ p.tbl = true ∧ p.size = 0 ∧ p.ent = none ∧ st.hnd = [(1, 1)]

section saneA
variable {w0 w : World} {hb : Nat} {st : St}

theorem saneA_major {b1 b2 b3 : Nat} {ve : Value} (h : Hp w0 hb (sane5 b1 b2 ve b3) w) : Calls Try.prog 8 #[.pointer (some ⟨hb, 0, none⟩)] w fun e w' => e = .returned (.tuple #[]) ∧ ∃ st', SaneA st' ∧ Hp w0 hb st' w' := by
  have ht := sane5_three b1 b2 ve b3
  refine hp_major ht.whole ht.flds (by show 3 < 1000; decide) (by show 2 < 10000; decide) (fun n hn => ?_) (fun n o ho => by have := (ht.size n o ho).1; omega) (fun S l hS hl => ?_) h
  · have hn' : n ∈ [(1 : Int), 2] := hn
    simp at hn'
    rcases hn' with rfl | rfl
    · exact ⟨_, ht.l1⟩
    · exact ⟨_, ht.l2⟩
  · obtain ⟨p0, p1, p2, a, b, c⟩ := ht.major1 hS hl
    exact ⟨p0, p1, p2, a, b, c⟩

theorem saneA_count (hA : SaneA st) (h : Hp w0 hb st w) : Calls Try.prog 22 #[.pointer (some ⟨hb, 0, none⟩), .int .i64 1] w fun e w' => e = .returned (.tuple #[.int .i64 1, .int .i64 0]) ∧ w = w' := by
  obtain ⟨p0, p1, p2, ht, hh, _⟩ := hA
  have := hp_count (k := 1) (by rw [hh]; rfl) ht.l1 ht.t1.1 h
  rw [ht.t1.2.2.1] at this
  exact this

theorem saneA_get (hA : SaneA st) (h : Hp w0 hb st w) : Calls Try.prog 15 #[.pointer (some ⟨hb, 0, none⟩), .int .i64 2, .int .i64 0] w fun e w' => e = .returned (.tuple #[.agg #[.bool true, .int .i64 0], .int .i64 0]) ∧ Hp w0 hb { st with hnd := [(1, 1), (2, 2), (0, 0)], free := [] } w' := by
  obtain ⟨p0, p1, p2, ht, hh, hf⟩ := hA
  exact hp_get ht hh hf h

theorem saneA_drop0 (hA : SaneA st) (h : Hp w0 hb { st with hnd := [(1, 1), (2, 2), (0, 0)], free := [] } w) : Calls Try.prog 21 #[.pointer (some ⟨hb, 0, none⟩), .int .i64 0] w fun e w' => e = .returned (.int .i64 0) ∧ Hp w0 hb { st with hnd := [(1, 1), (2, 2)], free := [0] } w' := by
  obtain ⟨p0, p1, p2, ht, hh, hf⟩ := hA
  exact hp_drop (st := { st with hnd := [(1, 1), (2, 2), (0, 0)], free := [] }) (k := 0) (n := 0) (o := p0) rfl ht.l0 (.inl rfl) h

theorem saneA_drop2 (hA : SaneA st) (h : Hp w0 hb { st with hnd := [(1, 1), (2, 2)], free := [0] } w) : Calls Try.prog 21 #[.pointer (some ⟨hb, 0, none⟩), .int .i64 2] w fun e w' => e = .returned (.int .i64 0) ∧ Hp w0 hb { st with hnd := [(1, 1)], free := [0, 2] } w' := by
  obtain ⟨p0, p1, p2, ht, hh, hf⟩ := hA
  exact hp_drop (st := { st with hnd := [(1, 1), (2, 2)], free := [0] }) (k := 2) (n := 2) (o := p2) rfl ht.l2 (.inr ⟨0, rfl, by decide⟩) h

theorem saneB_major (hA : SaneA st) (h : Hp w0 hb { st with hnd := [(1, 1)], free := [0, 2] } w) : Calls Try.prog 8 #[.pointer (some ⟨hb, 0, none⟩)] w fun e w' => e = .returned (.tuple #[]) ∧ ∃ st', SaneB st' ∧ Hp w0 hb st' w' := by
  obtain ⟨p0, p1, p2, ht0, hh, hf⟩ := hA
  have ht := ht0.hnd [(1, 1)] [0, 2]
  refine hp_major ht.whole ht.flds (by rw [ht.objs]; simp) (by show 1 < 10000; decide) (fun n hn => ?_) (fun n o ho => by have := (ht.size n o ho).1; omega) (fun S l hS hl => ?_) h
  · have hn' : n ∈ [(1 : Int)] := hn
    simp at hn'
    subst hn'
    exact ⟨_, ht.l1⟩
  · obtain ⟨p, a1, a2, a3, a4, a5⟩ := ht.major2 hS hl
    exact ⟨p, a1, a2, a3, a4, a5⟩

theorem saneB_count (hB : SaneB st) (h : Hp w0 hb st w) : Calls Try.prog 22 #[.pointer (some ⟨hb, 0, none⟩), .int .i64 1] w fun e w' => e = .returned (.tuple #[.int .i64 0, .int .i64 0]) ∧ w = w' := by
  obtain ⟨p, ho, ht, hs, he, hh⟩ := hB
  have := hp_count (k := 1) (n := 1) (o := p) (by rw [hh]; rfl) (by rw [ho]; rfl) ht h
  rw [he] at this
  exact this

theorem saneB_used (hB : SaneB st) (h : Hp w0 hb st w) : Calls Try.prog 20 #[.pointer (some ⟨hb, 0, none⟩)] w fun e w' => e = .returned (.int .i64 1) ∧ Below w.heap.size w w' := by
  obtain ⟨p, ho, ht, hs, he, hh⟩ := hB
  exact hp_used (n := 1) (by rw [ho]; simp [wsum, hs, he, entCount]) (by decide) h
end saneA

set_option maxRecDepth 100000 in
set_option maxHeartbeats 4000000 in
theorem sane_any (w0 : World) : Calls Try.prog 4 #[] w0 fun e w' => e = .returned (.bool true) ∧ Below w0.heap.size w0 w' := by
  go_enter Try.func4, Try.ntmps4
  go_wp2_with (go_at_call 5; refine hp_new.mono ?_; rintro e w1 ⟨hb, rfl, h1⟩; have H1 := Lib.hid h1; clear h1)
  go_wp2_with (go_at_call 9; refine (hp_make1 H1.out).mono ?_; rintro e w2 ⟨rfl, b1, h2⟩; have H2 := Lib.hid h2; clear h2)
  go_wp2_with (go_at_call 17; refine (hp_table H2.out).mono ?_; rintro e w3 ⟨rfl, b2, h3⟩; have H3 := Lib.hid h3; clear h3)
  go_wp2_with (go_at_call 10; refine (num_any 5 _).mono ?_; rintro e w4 ⟨rfl, h4⟩; have H4 := Lib.hid (H3.out.below h4); clear h4)
  go_wp2_with (go_at_call 18; refine (hp_put H4.out).mono ?_; rintro e w5 ⟨rfl, ve, h5⟩; have H5 := Lib.hid h5; clear h5)
  go_wp2_with (go_at_call 19; refine (hp_find H5.out).mono ?_; rintro e w6 ⟨rfl, h6⟩; have H6 := Lib.hid h6; clear h6)
  have hcl := Below.heap_new w6 (.cells #[.bool false, .int .i64 5] 35)
  have h7 : Hp w0 hb (sane3 b1 b2 ve) ((w6.alloc (.cells #[.bool false, .int .i64 5] 35)).drew) := H6.out.below (below_drewN ((Below.refl w6.heap.size w6).alloc (Nat.le_refl _) _) 1)
  have hS0 : (w6.alloc (.cells #[.bool false, .int .i64 5] 35)).cell? ⟨w6.heap.size, 0, none⟩ = some (.bool false) ∧ (w6.alloc (.cells #[.bool false, .int .i64 5] 35)).cell? ⟨w6.heap.size, 1, none⟩ = some (.int .i64 5) := ⟨by rw [cell_of hcl]; rfl, by rw [cell_of hcl]; rfl⟩
  have hlt : w6.heap.size < (w6.alloc (.cells #[.bool false, .int .i64 5] 35)).drew.heap.size := by show w6.heap.size < (w6.alloc _).heap.size; simp
  have hcl' : (w6.alloc (.cells #[.bool false, .int .i64 5] 35)).drew.heap[w6.heap.size]? = some (.cells #[.bool false, .int .i64 5] 35 (0, 0)) := hcl
  have H7 := Lib.hid (And.intro h7 (And.intro hcl' hlt))
  clear h7 hcl hlt hcl'
  go_region_held3 (fun w' => w'.cell? ⟨w6.heap.size, 0, none⟩ = some (.bool false) ∧ w'.cell? ⟨w6.heap.size, 1, none⟩ = some (.int .i64 5)) (first | exact hS0 | exact hS8 | exact hS9 | exact hS10 | exact hS11)
    (first
    | (go_at_call_of 10 (Value.int IntKind.i64 5)
       refine (num_any 5 _).mono ?_
       rintro e w8 ⟨rfl, hb8⟩
       have hcl8 := Below.get hb8 H7.out.2.1 H7.out.2.2
       have hS8 : w8.cell? ⟨w6.heap.size, 0, none⟩ = some (.bool false) ∧ w8.cell? ⟨w6.heap.size, 1, none⟩ = some (.int .i64 5) := ⟨by rw [cell_of hcl8]; rfl, by rw [cell_of hcl8]; rfl⟩
       have H8 := Lib.hid (And.intro (H7.out.1.below hb8) hcl8)
       clear hb8 hcl8)
    | (go_at_call 20
       refine (hp_used (n := 5) rfl (by decide) H8.out.1).mono ?_
       rintro e w9 ⟨rfl, hb9⟩
       have hcl9 := Below.get hb9 H8.out.2 (lt_of_blk H8.out.2)
       have hS9 : w9.cell? ⟨w6.heap.size, 0, none⟩ = some (.bool false) ∧ w9.cell? ⟨w6.heap.size, 1, none⟩ = some (.int .i64 5) := ⟨by rw [cell_of hcl9]; rfl, by rw [cell_of hcl9]; rfl⟩
       have H9 := Lib.hid (And.intro (H8.out.1.below hb9) hcl9)
       clear hb9 hcl9)
    | (go_at_call_of 10 (Value.int IntKind.i64 1)
       refine (num_any 1 _).mono ?_
       rintro e w10 ⟨rfl, hb10⟩
       have hcl10 := Below.get hb10 H9.out.2 (lt_of_blk H9.out.2)
       have hS10 : w10.cell? ⟨w6.heap.size, 0, none⟩ = some (.bool false) ∧ w10.cell? ⟨w6.heap.size, 1, none⟩ = some (.int .i64 5) := ⟨by rw [cell_of hcl10]; rfl, by rw [cell_of hcl10]; rfl⟩
       have H10 := Lib.hid (And.intro (H9.out.1.below hb10) hcl10)
       clear hb10 hcl10)
    | (go_at_call 11
       refine (hp_set H10.out.1).mono ?_
       rintro e w11 ⟨rfl, hb11⟩
       have hcl11 := Below.get hb11 H10.out.2 (lt_of_blk H10.out.2)
       have hS11 : w11.cell? ⟨w6.heap.size, 0, none⟩ = some (.bool false) ∧ w11.cell? ⟨w6.heap.size, 1, none⟩ = some (.int .i64 5) := ⟨by rw [cell_of hcl11]; rfl, by rw [cell_of hcl11]; rfl⟩
       have H11 := Lib.hid (H10.out.1.below hb11)
       clear hb11 hcl11))
  go_wp2_with (go_at_call 12; refine (ref_any 0 _).mono ?_; rintro e w12 ⟨rfl, h12⟩; have H12 := Lib.hid (H11.out.below h12); clear h12)
  go_wp2_with (go_at_call 10; refine (num_any 7 _).mono ?_; rintro e w13 ⟨rfl, h13⟩; have H13 := Lib.hid (H12.out.below h13); clear h13)
  go_wp2_with (go_at_call 9; refine (hp_make2 (H13.out.below ((Below.refl _ _).alloc (Nat.le_refl _) _)) (Below.heap_new _ _)).mono ?_; rintro e w14 ⟨rfl, b3, h14⟩; have H14 := Lib.hid h14; clear h14)
  go_wp2_with (go_at_call 21; refine (hp_drop (k := 0) (n := 0) rfl rfl (.inl rfl) H14.out).mono ?_; rintro e w15 ⟨rfl, h15⟩; have H15 := Lib.hid h15; clear h15)
  go_wp2_with (go_at_call 8; refine (saneA_major H15.out).mono ?_; rintro e w16 ⟨rfl, st6, hA, h16⟩; have H16 := Lib.hid h16; have HA := Lib.hid hA; clear h16 hA)
  go_wp2_with (go_at_call 22; refine (saneA_count HA.out H16.out).mono ?_; rintro e w17 ⟨rfl, rfl⟩)
  go_wp2_with (go_at_call 15; refine (saneA_get HA.out H16.out).mono ?_; rintro e w18 ⟨rfl, h18⟩; have H18 := Lib.hid h18; clear h18)
  have kcl := Below.heap_new w18 (.cells #[.bool true, .int .i64 0] 35)
  have kh : Hp w0 hb { st6 with hnd := [(1, 1), (2, 2), (0, 0)], free := [] } ((w18.alloc (.cells #[.bool true, .int .i64 0] 35)).drew) := H18.out.below (below_drewN ((Below.refl w18.heap.size w18).alloc (Nat.le_refl _) _) 1)
  have kS0 : (w18.alloc (.cells #[.bool true, .int .i64 0] 35)).cell? ⟨w18.heap.size, 0, none⟩ = some (.bool true) ∧ (w18.alloc (.cells #[.bool true, .int .i64 0] 35)).cell? ⟨w18.heap.size, 1, none⟩ = some (.int .i64 0) := ⟨by rw [cell_of kcl]; rfl, by rw [cell_of kcl]; rfl⟩
  have klt : w18.heap.size < (w18.alloc (.cells #[.bool true, .int .i64 0] 35)).drew.heap.size := by show w18.heap.size < (w18.alloc _).heap.size; simp
  have kcl' : (w18.alloc (.cells #[.bool true, .int .i64 0] 35)).drew.heap[w18.heap.size]? = some (.cells #[.bool true, .int .i64 0] 35 (0, 0)) := kcl
  have K := Lib.hid (And.intro kh (And.intro kcl' klt))
  clear kh kcl klt kcl'
  go_region_held3 (fun w' => w'.cell? ⟨w18.heap.size, 0, none⟩ = some (.bool true) ∧ w'.cell? ⟨w18.heap.size, 1, none⟩ = some (.int .i64 0)) (first | exact kS0 | exact kS1)
    ((go_at_call 12
      refine (ref_any 0 _).mono ?_
      rintro e w19 ⟨rfl, hb19⟩
      have hcl19 := Below.get hb19 K.out.2.1 K.out.2.2
      have kS1 : w19.cell? ⟨w18.heap.size, 0, none⟩ = some (.bool true) ∧ w19.cell? ⟨w18.heap.size, 1, none⟩ = some (.int .i64 0) := ⟨by rw [cell_of hcl19]; rfl, by rw [cell_of hcl19]; rfl⟩
      have H19 := Lib.hid (K.out.1.below hb19)
      clear hb19 hcl19))
  go_wp2_with (go_at_call_of 21 (Value.int IntKind.i64 0); refine (saneA_drop0 HA.out H19.out).mono ?_; rintro e w20 ⟨rfl, h20⟩; have H20 := Lib.hid h20; clear h20)
  go_wp2_with (go_at_call_of 21 (Value.int IntKind.i64 2); refine (saneA_drop2 HA.out H20.out).mono ?_; rintro e w21 ⟨rfl, h21⟩; have H21 := Lib.hid h21; clear h21)
  go_wp2_with (go_at_call 8; refine (saneB_major HA.out H21.out).mono ?_; rintro e w22 ⟨rfl, st9, hB, h22⟩; have H22 := Lib.hid h22; have HB := Lib.hid hB; clear h22 hB)
  go_wp2_with (go_at_call 22; refine (saneB_count HB.out H22.out).mono ?_; rintro e w23 ⟨rfl, rfl⟩)
  go_wp2_with (go_at_call 20; refine (saneB_used HB.out H22.out).mono ?_; rintro e w24 ⟨rfl, h24⟩; have H24 := Lib.hid (H22.out.below h24); clear h24)
  go_ret
  obtain ⟨_, _, _, _, hB, _⟩ := H24.out
  exact ⟨rfl, hB⟩
end Go.Proofs.Ytpjifaefchnmoaa
