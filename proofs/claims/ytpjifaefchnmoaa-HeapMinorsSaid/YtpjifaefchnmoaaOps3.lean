/- The methods entry, Put and Find. -/
import Derived.Test.YtpjifaefchnmoaaOps2
namespace Go.Proofs.Ytpjifaefchnmoaa
open Go.RowKit

section ops3
variable {F G : Nat → Prop} {L : Lay} {st : St} {w w' : World}

/-- Where the entry with a key is. -/
def entAt (o : Ob) (nk : Int) : Int := match o.ent with
  | some (k, _) => if k = nk then 0 else -1
  | none => -1

theorem idx_any (R : Rep F L st w) {n : Int} {o : Ob} (h : alook st.objs n = some o) {nk : Int} {kB : Nat} (hk : w.heap[kB]? = some (.cells #[.int .i64 nk] 3 (0, 0))) :
    Calls Try.prog 58 #[o.ve, .func (.func 59) #[] #[.pointer (some ⟨kB, 0, none⟩)]] w fun e w' => e = .returned (.int .i64 (entAt o nk)) ∧ Below w.heap.size w w' := by
  have hr := R.ents h
  cases he : o.ent with
  | none =>
    obtain ⟨a, cap, hv⟩ := ent_none he hr
    rw [hv]
    refine (index_none (.inr ⟨rfl, rfl⟩) a cap w).mono ?_
    rintro e w' ⟨rfl, rfl⟩
    exact ⟨by simp [entAt, he], Below.refl _ _⟩
  | some kd =>
    obtain ⟨k, d⟩ := kd
    obtain ⟨g, cap, hv, _, e0, e1, e2⟩ := ent_cells he hr
    rw [hv]
    refine (index_some (.inr ⟨rfl, rfl⟩) (cap := cap) e0 e1 e2 (entry1_any w k nk d kB hk)).mono ?_
    rintro e w' ⟨rfl, hb⟩
    refine ⟨?_, hb⟩
    by_cases hkk : k = nk <;> simp [entAt, he, hkk]

set_option maxRecDepth 100000 in
set_option maxHeartbeats 2000000 in
theorem entry_any (R : Rep F L st w) {kt nt kk nk : Int} {o ok : Ob} (hkt : alook st.hnd kt = some nt) (ho : alook st.objs nt = some o) (ht : o.tbl = true) (hkk : alook st.hnd kk = some nk) (hok : alook st.objs nk = some ok) :
    Calls Try.prog 35 #[.pointer (some ⟨L.hb, 0, none⟩), .int .i64 kt, .int .i64 kk] w fun e w' => e = .returned (.tuple #[.pointer (some ⟨o.b, 0, none⟩), .int .i64 nt, .int .i64 nk, .int .i64 (entAt o nk), .int .i64 0]) ∧ Below w.heap.size w w' := by
  have Ra := fun ob => R.alloc (w := w) ob
  have Hof := Lib.hid (fun ob => of_ok (Ra ob) hkt ho)
  have Hof2 := Lib.hid (fun ob => of_ok (Ra ob) hkk hok)
  have hwk := fun ob => weak_any (Ra ob) hkt ho
  simp only [ht, if_true] at hwk
  have Hwk := Lib.hid hwk
  have hbn := Below.heap_new w (.cells #[.int .i64 nk] 3)
  have R1 := R.alloc (.cells #[.int .i64 nk] 3)
  have hlt : w.heap.size < (w.alloc (.cells #[.int .i64 nk] 3)).heap.size := by simp
  have Hidx := Lib.hid (idx_any (R1.drewN 1) ho (show ((w.alloc (.cells #[.int .i64 nk] 3)).drewN 1).heap[w.heap.size]? = _ from hbn))
  obtain ⟨av, cv, hv⟩ := (R.ents ho).form
  have d4 : (w.alloc (.cells #[.int .i64 nk] 3)).cell? ⟨o.b, 4, none⟩ = some (.slice av (entCount o.ent) cv) := by rw [R1.oc ho 4, ← hv]; rfl
  have t8 : (w.alloc (.cells #[.int .i64 nk] 3)).cell? ⟨w.heap.size, 0, none⟩ = some (.int .i64 nk) := by rw [cell_of hbn]; rfl
  have hSd : (w.alloc (.cells #[.int .i64 nk] 3)).cell? ⟨w.heap.size, 0, none⟩ = some (.int .i64 nk) ∧ (w.alloc (.cells #[.int .i64 nk] 3)).cell? ⟨o.b, 4, none⟩ = some (.slice av (entCount o.ent) cv) := ⟨t8, d4⟩
  rw [hv] at Hidx
  have hne : w.heap.size ≠ o.b := by have h1 := lt_of_blk (R.ob _ (alook_some_mem ho)).1; simp only at h1; omega
  have H := Lib.hid (And.intro hbn (And.intro R1 (And.intro ho (And.intro hv hlt))))
  clear R hkt ho ht hkk hok Ra hwk hbn R1 hv d4 t8 hlt
  go_enter Try.func35, Try.ntmps35
  go_wp2_with (first
    | (go_at_call_of 29 (Value.int IntKind.i64 kt); refine (Hof.out _).mono ?_; rintro e w2 ⟨rfl, rfl⟩)
    | (go_at_call_of 29 (Value.int IntKind.i64 kk); refine (Hof2.out _).mono ?_; rintro e w2 ⟨rfl, rfl⟩)
    | (go_at_call_of 39 (Value.int IntKind.i64 kt); refine (Hwk.out _).mono ?_; rintro e w3 ⟨rfl, rfl⟩))
  go_region_held3 (fun w' => w'.cell? ⟨w.heap.size, 0, none⟩ = some (.int .i64 nk) ∧ w'.cell? ⟨o.b, 4, none⟩ = some (.slice av (entCount o.ent) cv)) (first | exact hSd | exact hS4 | exact hS5)
    ((go_at_call 58
      refine Hidx.out.mono ?_
      rintro e w4 ⟨rfl, hb4⟩
      have hcl := Below.get hb4 (show ((w.alloc (.cells #[.int .i64 nk] 3)).drewN 1).heap[w.heap.size]? = _ from H.out.1) H.out.2.2.2.2
      have R4 := (H.out.2.1.drewN 1).below' hb4
      have hS4 : w4.cell? ⟨w.heap.size, 0, none⟩ = some (.int .i64 nk) ∧ w4.cell? ⟨o.b, 4, none⟩ = some (.slice av (entCount o.ent) cv) := ⟨by rw [cell_of hcl]; rfl, by rw [R4.oc H.out.2.2.1 4, ← H.out.2.2.2.1]; rfl⟩
      have f8 : w4.frozen? ⟨w.heap.size, 0, none⟩ = false := free_of hcl 0
      have hcs := setCell_same (k := 0) (v := .int .i64 nk) hcl rfl
      have hob := (R4.ob _ (alook_some_mem H.out.2.2.1)).1
      have hob5 := (ext_setCell w4 w.heap.size 0 (.int .i64 nk)).get hob (fun e => hne e.symm)
      have hS5 : (w4.setCell ⟨w.heap.size, 0, none⟩ (.int .i64 nk)).cell? ⟨w.heap.size, 0, none⟩ = some (.int .i64 nk) ∧ (w4.setCell ⟨w.heap.size, 0, none⟩ (.int .i64 nk)).cell? ⟨o.b, 4, none⟩ = some (.slice av (entCount o.ent) cv) :=
        ⟨by rw [cell_of hcs]; rfl, by rw [cell_of hob5, ← H.out.2.2.2.1]; rfl⟩
      have H4 := Lib.hid hb4
      clear hb4 hcl R4 hcs hob hob5))
  go_wp2
  obtain ⟨q8, _⟩ := hS5
  have hE1 := ext_setCell w4 w.heap.size 0 (.int .i64 nk)
  refine bodyPost_ret (v := .tuple #[.pointer (some ⟨o.b, 0, none⟩), .int .i64 nt, .int .i64 nk, .int .i64 (entAt o nk), .int .i64 0]) (by simp [results, Try.results35, go_sem, hS4.1]) rfl ⟨rfl, ?_⟩
  have hA : Below w.heap.size w w4 := (below_drewN ((Below.refl w.heap.size w).alloc (Nat.le_refl _) (.cells #[.int .i64 nk] 3)) 1).trans (H4.out.mono (by show w.heap.size ≤ (w.alloc (.cells #[.int .i64 nk] 3)).heap.size; simp))
  exact hA.trans (hE1.below hA.size (fun k hk => by omega))

set_option maxRecDepth 100000 in
set_option maxHeartbeats 2000000 in
theorem find_num (R : Rep F L st w) {kt nt kk nk : Int} {o ok : Ob} (hkt : alook st.hnd kt = some nt) (ho : alook st.objs nt = some o) (ht : o.tbl = true) (hkk : alook st.hnd kk = some nk) (hok : alook st.objs nk = some ok) {d : Wd} (he : o.ent = some (nk, d)) (hd : d.ref = false) :
    Calls Try.prog 19 #[.pointer (some ⟨L.hb, 0, none⟩), .int .i64 kt, .int .i64 kk] w fun e w' => e = .returned (.tuple #[.agg #[.bool false, .int .i64 d.num], .bool true, .int .i64 0]) ∧ Below w.heap.size w w' := by
  have hal := (Below.refl w.heap.size w).alloc (Nat.le_refl _) (.cells #[.bool false, .int .i64 0] 35)
  have hen := entry_any (R.below' hal) hkt ho ht hkk hok
  rw [show entAt o nk = 0 from by simp [entAt, he]] at hen
  have Hen := Lib.hid hen
  have hbn := Below.heap_new w (.cells #[.bool false, .int .i64 0] 35)
  have H := Lib.hid (And.intro R (And.intro hal (And.intro ho (And.intro he (And.intro hd hbn)))))
  clear R hkt ho ht hkk hok he hd hal hen hbn
  go_enter Try.func19, Try.ntmps19
  go_wp2_with (first
    | (go_at_call 35
       refine Hen.out.mono ?_
       rintro e w2 ⟨rfl, hb2⟩
       have hbA : Below w.heap.size w w2 := H.out.2.1.trans (hb2.mono (by simp))
       have R2 := H.out.1.below' hbA
       obtain ⟨g, cap, hv, hF, e0, e1, e2⟩ := ent_cells H.out.2.2.2.1 (R2.ents H.out.2.2.1)
       have d4 : w2.cell? ⟨o.b, 4, none⟩ = some (.slice (some ⟨g, 0, none⟩) 1 cap) := by rw [R2.oc H.out.2.2.1 4, ← hv]; rfl
       rw [H.out.2.2.2.2.1] at e1
       have hres := Below.get hb2 H.out.2.2.2.2.2 (lt_of_blk H.out.2.2.2.2.2)
       have H2 := Lib.hid (And.intro hbA hres)
       clear hb2 hbA R2 hv hF hres)
    | (go_at_call 34
       refine (out_num _ _ _).mono ?_
       rintro e w4 ⟨rfl, hb4⟩
       have hcl := Below.get hb4 ((Below.heap_alloc w2 _ _ (lt_of_blk H2.out.2)).trans H2.out.2) (by have := lt_of_blk H2.out.2; simp; omega)
       have p0 := cell_of hcl 0
       have p1 := cell_of hcl 1
       have pf0 := free_of hcl 0
       have pf1 := free_of hcl 1
       simp at p0 p1
       have H4 := Lib.hid hb4
       clear hb4 hcl))
  have hE1 := (ext_setCell w4 w.heap.size 0 (.bool false)).trans (ext_setCell (w4.setCell ⟨w.heap.size, 0, none⟩ (.bool false)) w.heap.size 1 (.int .i64 d.num)) (fun i hi => .inl hi)
  refine bodyPost_ret (v := .tuple #[.agg #[.bool false, .int .i64 d.num], .bool true, .int .i64 0]) (by simp [results, Try.results19, go_sem, p0, p1]) rfl ⟨rfl, ?_⟩
  have hA : Below w.heap.size w w4 := (H2.out.1.alloc H2.out.1.size _).trans (H4.out.mono (by have := H2.out.1.size; simp; omega))
  exact hA.trans (hE1.below hA.size (fun k hk => by omega))

/-- An object with its first entry. -/
def entOb (o : Ob) (ve : Value) (nk : Int) (d : Wd) : Ob := { o with ve := ve, ent := some (nk, d) }

def putSt (st : St) (nt : Int) (o' : Ob) : St := { st with objs := aset st.objs nt o', rem := noteRem { st with objs := aset st.objs nt o' } nt o' }

theorem infoE : (Try.prog.info? 85).map (fun i => (i.zero, i.size, i.bytes)) = some (some (.agg #[.int .i64 0, .bool false, .int .i64 0]), 3, 24) := info85

set_option maxRecDepth 100000 in
set_option maxHeartbeats 4000000 in
theorem put_any (R : Rep F L st w) {kt nt kk nk : Int} {o ok : Ob} (hkt : alook st.hnd kt = some nt) (ho : alook st.objs nt = some o) (ht : o.tbl = true) (hkk : alook st.hnd kk = some nk) (hok : alook st.objs nk = some ok) (he : o.ent = none)
    {c d : Wd} (hcd : CellOf st c d) (hroom : wsum st.objs + 3 ≤ st.full) (hu : wsum st.objs < 50000) (hat : o.at_ + 1 + o.size ≤ (rowOf st o).length) (hsz : (rowOf st o).length < 100000) :
    Calls Try.prog 18 #[.pointer (some ⟨L.hb, 0, none⟩), .int .i64 kt, .int .i64 kk, .agg #[.bool c.ref, .int .i64 c.num]] w fun e w' => e = .returned (.int .i64 0) ∧ (∃ ve, Rep (grow F w w') L (putSt st nt (entOb o ve nk d)) w') ∧ Ext F w w' := by
  have hW : Below w.heap.size w ((w.alloc (.cells #[.bool c.ref, .int .i64 c.num] 35)).alloc (.cells #[.int .i64 kt, .int .i64 kk] 3)) := ((Below.refl _ _).alloc (Nat.le_refl _) _).alloc (by simp) _
  have RW := R.below' hW
  have hb2 := Below.heap_new (w.alloc (.cells #[.bool c.ref, .int .i64 c.num] 35)) (.cells #[.int .i64 kt, .int .i64 kk] 3)
  have hb1 := (Below.heap_alloc (w.alloc (.cells #[.bool c.ref, .int .i64 c.num] 35)) (.cells #[.int .i64 kt, .int .i64 kk] 3) w.heap.size (by simp)).trans (Below.heap_new w (.cells #[.bool c.ref, .int .i64 c.num] 35))
  have hs : (w.alloc (.cells #[.bool c.ref, .int .i64 c.num] 35)).heap.size = w.heap.size + 1 := by simp
  rw [hs] at hb2
  generalize hWe : ((w.alloc (.cells #[.bool c.ref, .int .i64 c.num] 35)).alloc (.cells #[.int .i64 kt, .int .i64 kk] 3)) = W at *
  have Hof := Lib.hid (of_ok RW hkt ho)
  have Hof2 := Lib.hid (of_ok RW hkk hok)
  have Hin := Lib.hid (in_any RW hcd)
  have g0 : W.cell? ⟨w.heap.size + 1, 0, none⟩ = some (.int .i64 kt) := by rw [cell_of hb2]; rfl
  have g1 : W.cell? ⟨w.heap.size + 1, 1, none⟩ = some (.int .i64 kk) := by rw [cell_of hb2]; rfl
  have b0 : W.cell? ⟨w.heap.size, 0, none⟩ = some (.bool c.ref) := by rw [cell_of hb1]; rfl
  have b1 : W.cell? ⟨w.heap.size, 1, none⟩ = some (.int .i64 c.num) := by rw [cell_of hb1]; rfl
  have H := Lib.hid (And.intro R (And.intro hW (And.intro hkt (And.intro ho (And.intro ht (And.intro hkk (And.intro hok (And.intro he hat))))))))
  clear R hW RW hb2 hb1 hs hkt ho ht hkk hok he hat hcd
  go_enter Try.func18, Try.ntmps18
  go_wp2
  go_loopw [26] (fun i wr => wr = W ∧ (i = .int .i64 0 ∨ i = .int .i64 1 ∨ i = .int .i64 2)) (fun i _ => 2 - (intOf i).toNat)
  case atStart => exact ⟨rfl, .inl rfl⟩
  case round =>
    obtain ⟨hw, hi⟩ := hrel
    subst hw
    clear hWe
    rcases hi with rfl | rfl | rfl
    · go_wp2_with (go_at_call 29; refine Hof.out.mono ?_; rintro e w2 ⟨rfl, rfl⟩)
      go_roundw
      case rel => exact ⟨trivial, .inr (.inl rfl)⟩
      case measure => simp [intOf]
    · go_wp2_with (go_at_call 29; refine Hof2.out.mono ?_; rintro e w2 ⟨rfl, rfl⟩)
      go_roundw
      case rel => exact ⟨trivial, .inr (.inr rfl)⟩
      case measure => simp [intOf]
    · go_wp2_with (first
        | (go_at_call 25
           refine Hin.out.mono ?_
           rintro e w3 ⟨rfl, hb3⟩
           have hb3' : Below w.heap.size w w3 := H.out.2.1.trans (hb3.mono H.out.2.1.size)
           have hb4 : Below w.heap.size w (w3.alloc (.cells #[.bool d.ref, .int .i64 d.num] 66)) := hb3'.alloc hb3'.size _
           have R4 := H.out.1.below' hb4
           have hen := entry_any R4 H.out.2.2.1 H.out.2.2.2.1 H.out.2.2.2.2.1 H.out.2.2.2.2.2.1 H.out.2.2.2.2.2.2.1
           rw [show entAt o nk = -1 from by simp [entAt, H.out.2.2.2.2.2.2.2.1]] at hen
           have Hen := Lib.hid hen
           have Hb4 := Lib.hid (And.intro hb3' hb4)
           clear hb3 hb3' hb4 R4 hen)
        | (go_at_call 35
           refine Hen.out.mono ?_
           rintro e w5 ⟨rfl, hb5⟩
           have hbA : Below w.heap.size w w5 := Hb4.out.2.trans (hb5.mono Hb4.out.2.size)
           have R5 := H.out.1.below' hbA
           obtain ⟨av, cv, hv⟩ := ent_none H.out.2.2.2.2.2.2.2.1 (R5.ents H.out.2.2.2.1)
           have d4 : w5.cell? ⟨o.b, 4, none⟩ = some (.slice av 0 cv) := by rw [R5.oc H.out.2.2.2.1 4, ← hv]; rfl
           have Hro := Lib.hid (room_yes R5 (n := 3) (by omega) hroom hu)
           have hwb := Below.get hb5 (Below.heap_new w3 (.cells #[.bool d.ref, .int .i64 d.num] 66)) (by simp)
           have H5 := Lib.hid (And.intro hbA (And.intro hv hwb))
           clear hb5 hbA R5 hv hwb)
        | (go_at_call 27
           refine Hro.out.mono ?_
           rintro e w6 ⟨rfl, hb6⟩
           have H6 := Lib.hid hb6
           clear hb6))
      have hb6 : Below w.heap.size w w6 := H5.out.1.trans (H6.out.mono H5.out.1.size)
      have R6 := H.out.1.below' hb6
      have hwb6 := Below.get H6.out H5.out.2.2 (lt_of_blk H5.out.2.2)
      have ho := H.out.2.2.2.1
      have d46 : w6.cell? ⟨o.b, 4, none⟩ = some (.slice av 0 cv) := by rw [R6.oc ho 4, ← H5.out.2.1]; rfl
      have d46a : ∀ ob, (w6.alloc ob).cell? ⟨o.b, 4, none⟩ = some (.slice av 0 cv) := fun ob => by rw [(R6.alloc ob).oc ho 4, ← H5.out.2.1]; rfl
      have t0 : w6.cell? ⟨w3.heap.size, 0, none⟩ = some (.bool d.ref) := by rw [cell_of hwb6]; rfl
      have t1 : w6.cell? ⟨w3.heap.size, 1, none⟩ = some (.int .i64 d.num) := by rw [cell_of hwb6]; rfl
      have hr0 := R6.ents ho
      rw [H.out.2.2.2.2.2.2.2.1] at hr0
      have hr1 : Row (fun k => o.ve.ownBlock = some k) 85 3 (w6.drew.alloc (.cells #[.int .i64 nk, .bool d.ref, .int .i64 d.num] 85)) o.ve 0 [] := ⟨(hr0.of_block (w' := w6.drew.alloc (.cells #[.int .i64 nk, .bool d.ref, .int .i64 d.num] 85)) (fun b hb => Below.heap_alloc w6.drew _ b (hr0.lt hb))).1, fun _ h => h⟩
      have hbE := Below.heap_new w6.drew (.cells #[.int .i64 nk, .bool d.ref, .int .i64 d.num] 85)
      obtain ⟨v', w7, happ, hr7, hE7, hbk⟩ := hr1.append (P := Try.prog) (t := 72) Try.underlying72 infoE rfl (by decide) 72 ⟨w6.heap.size, 0, none⟩ 1 1 [.int .i64 nk, .bool d.ref, .int .i64 d.num] rfl (by
        intro j u hu
        match j with
        | 0 => simp at hu; subst hu; exact cell_of hbE 0
        | 1 => simp at hu; subst hu; exact cell_of hbE 1
        | 2 => simp at hu; subst hu; exact cell_of hbE 2
        | j + 3 => simp at hu) (by intro u hu; simp at hu; rcases hu with rfl | rfl | rfl <;> rfl) (by simp only [maxLen]; omega) (by decide)
      obtain ⟨a', cap', rfl⟩ := hr7.form
      rw [H5.out.2.1] at happ
      have hob := (R6.ob _ (alook_some_mem ho))
      have hobn : ¬ o.ve.ownBlock = some o.b := fun e => row_ne_cells hob.2.1 hob.1 (by decide) e rfl
      have hobA : (w6.drew.alloc (.cells #[.int .i64 nk, .bool d.ref, .int .i64 d.num] 85)).heap[o.b]? = some (.cells (obCells o) 74 (0, 0)) := (Below.heap_alloc w6.drew _ o.b (lt_of_blk hob.1)).trans hob.1
      have hob7 := hE7.get hobA hobn
      have q4 : w7.cell? ⟨o.b, 4, none⟩ = some (.slice av 0 cv) := by rw [cell_of hob7, ← H5.out.2.1]; rfl
      have f4 : w7.frozen? ⟨o.b, 4, none⟩ = false := free_of hob7 4
      have hE8 := ext_setCell w7 o.b 4 (.slice a' (0 + 1) cap')
      have hob8 := get_setCell hob7 4 (.slice a' (0 + 1) cap')
      have hrow8 := hr7.ext hE8 (fun k hk e => row_ne_cells hr7 hob7 (by decide) hk e)
      have hEa : Ext (fun k => k = o.b ∨ o.ve.ownBlock = some k) w6 (w6.drew.alloc (.cells #[.int .i64 nk, .bool d.ref, .int .i64 d.num] 85)) := Below.ext ((below_drewN (Below.refl w6.heap.size w6) 1).alloc (by show w6.heap.size ≤ w6.heap.size; exact Nat.le_refl _) _) _
      have hE68 : Ext (fun k => k = o.b ∨ o.ve.ownBlock = some k) w6 (w7.setCell ⟨o.b, 4, none⟩ (.slice a' (0 + 1) cap')) := (hEa.trans hE7 (fun i hi => .inl (.inr hi))).trans hE8 (fun i hi => .inl (.inl hi))
      have hsA : (w6.drew.alloc (.cells #[.int .i64 nk, .bool d.ref, .int .i64 d.num] 85)).heap.size = w6.heap.size + 1 := by simp
      have R8 := R6.chObE ho hE68 (o' := entOb o (.slice a' (0 + 1) cap') nk d) (by rw [hob8]; rfl) rfl (G := grow F w6 (w7.setCell ⟨o.b, 4, none⟩ (.slice a' (0 + 1) cap')))
        (hrow8.mono fun k hk => by
          rcases hk with hk | hk
          · exact .inl (hob.2.1.2 k hk)
          · exact .inr ⟨by omega, Nat.lt_of_lt_of_le hk.2 hE8.size⟩) (fun k hk => .inl hk) (fun k hk => by
          rcases hk with hk | hk
          · exact Nat.lt_of_lt_of_le (R6.lt k hk) hE68.size
          · exact hk.2) (fun k hk => by
          rcases hbk with e | e
          · exact .inl (e ▸ hk)
          · have hk' : (Value.slice a' (0 + 1) cap').ownBlock = some k := hk
            rw [e] at hk'; cases hk'; exact .inr (by omega))
      have hlk : alook (aset st.objs nt (entOb o (.slice a' (0 + 1) cap') nk d)) nt = some (entOb o (.slice a' (0 + 1) cap') nk d) := by rw [alook_aset, if_pos rfl]
      have Hnote := Lib.hid (note_any R8 hlk H.out.2.2.2.2.2.2.2.2 (show (rowOf st o).length < 1000000 by omega))
      have hEF : Ext F w (w7.setCell ⟨o.b, 4, none⟩ (.slice a' (0 + 1) cap')) := (Below.ext hb6 F).trans (hE68.mono (fun k hk => by
        rcases hk with rfl | hk
        · exact hob.2.2
        · exact hob.2.1.2 k hk)) (fun i hi => .inl hi)
      have H8 := Lib.hid (And.intro hEF hb6.size)
      clear hb6 R6 hwb6 ho hr0 hr1 hbE hr7 hE7 hbk hob hobn hobA hob7 hE8 hob8 hrow8 hEa hE68 hsA R8 hlk hEF
      go_region_law (refine step_append_eq rfl _ _ _ rfl _ _ rfl rfl _ happ ?_)
      all_goals
        go_wp2_with (go_at_call 32; refine Hnote.out.mono ?_; rintro e w9 ⟨rfl, hR9, hE9⟩; have H9 := Lib.hid (And.intro hR9 hE9); clear hR9 hE9)
        go_ret
        have hE := H8.out.1.trans H9.out.2 (fun k hk => by
          rcases hk with hk | hk
          · exact .inl hk
          · exact .inr (Nat.le_trans H8.out.2 hk.1))
        refine ⟨rfl, ⟨_, Rep.mono (st := putSt st nt (entOb o (.slice a' (0 + 1) cap') nk d)) H9.out.1 (fun k hk => ?_) (fun k hk => ?_)⟩, hE⟩
        · rcases hk with hk | hk
          · exact .inl hk
          · exact .inr ⟨Nat.le_trans H8.out.2 hk.1, Nat.lt_of_lt_of_le hk.2 H9.out.2.size⟩
        · rcases hk with hk | hk
          · exact Nat.lt_of_lt_of_le (H.out.1.lt k hk) hE.size
          · exact hk.2
end ops3
end Go.Proofs.Ytpjifaefchnmoaa
