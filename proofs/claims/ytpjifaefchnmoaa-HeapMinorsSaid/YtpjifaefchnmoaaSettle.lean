/- The method settle: all objects become old, and lie together. -/
import Derived.Test.YtpjifaefchnmoaaMove
namespace Go.Proofs.Ytpjifaefchnmoaa
open Go.RowKit

/-- The words of an object. -/
def wordsOf (st : St) (o : Ob) : List Wd := ((rowOf st o).drop o.at_).take (1 + o.size)

/-- One object is moved; what it was is taken of st. -/
def moveA (st : St) (cur : St) (n : Int) : St := match alook st.objs n with
  | some o => moveSt cur n o (wordsOf st o)
  | none => cur

theorem moveA_other (st cur : St) (n k : Int) (h : k ≠ n) : alook (moveA st cur n).objs k = alook cur.objs k := by
  unfold moveA
  split
  · simp only [moveSt, alook_aset]; rw [if_neg h]
  · rfl

theorem moveA_fold_other (st : St) (l : List Int) : ∀ (cur : St) (k : Int), k ∉ l → alook (l.foldl (moveA st) cur).objs k = alook cur.objs k := by
  induction l with
  | nil => intro cur k _; rfl
  | cons n l ih =>
    intro cur k hk
    simp only [List.mem_cons, not_or] at hk
    simp only [List.foldl_cons]
    rw [ih _ _ hk.2, moveA_other _ _ _ _ hk.1]

theorem moveA_m1 (st : St) (hsz : ∀ n o, alook st.objs n = some o → o.size ≤ 3) (l : List Int) : ∀ cur : St, (l.foldl (moveA st) cur).m1.length ≤ cur.m1.length + 4 * l.length := by
  induction l with
  | nil => intro cur; simp
  | cons n l ih =>
    intro cur
    simp only [List.foldl_cons, List.length_cons]
    refine Nat.le_trans (ih _) ?_
    have : (moveA st cur n).m1.length ≤ cur.m1.length + 4 := by
      unfold moveA
      split
      · rename_i o ho
        have := hsz n o ho
        simp [moveSt, wordsOf]; omega
      · omega
    omega

/-- What the fields of a state that move does not turn are. -/
theorem moveA_same (st : St) (l : List Int) : ∀ cur : St, (l.foldl (moveA st) cur).m0 = cur.m0 ∧ (l.foldl (moveA st) cur).names = cur.names ∧ (l.foldl (moveA st) cur).young = cur.young ∧ (l.foldl (moveA st) cur).full = cur.full ∧
    (l.foldl (moveA st) cur).next = cur.next ∧ (l.foldl (moveA st) cur).hnd = cur.hnd ∧ (l.foldl (moveA st) cur).rem = cur.rem ∧ (l.foldl (moveA st) cur).free = cur.free := by
  induction l with
  | nil => intro cur; simp
  | cons n l ih =>
    intro cur
    simp only [List.foldl_cons]
    have h : (moveA st cur n).m0 = cur.m0 ∧ (moveA st cur n).names = cur.names ∧ (moveA st cur n).young = cur.young ∧ (moveA st cur n).full = cur.full ∧ (moveA st cur n).next = cur.next ∧ (moveA st cur n).hnd = cur.hnd ∧ (moveA st cur n).rem = cur.rem ∧ (moveA st cur n).free = cur.free := by
      unfold moveA; split <;> simp [moveSt]
    have := ih (moveA st cur n)
    simp only [h] at this
    exact this

def settleSt (st : St) (l : List Int) : St := { l.foldl (moveA st) { st with m0 := [], m1 := [] } with rem := [] }

def SettlePost (F : Nat → Prop) (L : Lay) (st : St) (w : World) (e : Ending) (w' : World) : Prop :=
  e = .returned (.tuple #[]) ∧ (∃ l s0 s1, l.Perm (st.objs.map (·.1)) ∧ Rep (grow F w w') { L with s0 := s0, s1 := s1 } (settleSt st l) w') ∧ Ext F w w'

section settle
variable {F G : Nat → Prop} {L : Lay} {st : St} {w w' : World}

/-- The words are given up: the rows are nil, and what they were lies outside. -/
theorem Rep.reset (R : Rep F L st w) : Rep (Used { L with s0 := .slice none 0 0, s1 := .slice none 0 0 } { st with m0 := [], m1 := [] }) { L with s0 := .slice none 0 0, s1 := .slice none 0 0 } { st with m0 := [], m1 := [] }
    ((w.setCell ⟨L.hb, 2, none⟩ (.slice none 0 0)).setCell ⟨L.hb, 3, none⟩ (.slice none 0 0)) ∧ Ext (· = L.hb) w ((w.setCell ⟨L.hb, 2, none⟩ (.slice none 0 0)).setCell ⟨L.hb, 3, none⟩ (.slice none 0 0)) := by
  have hE1 := ext_setCell w L.hb 2 (.slice none 0 0)
  have hE2 := ext_setCell (w.setCell ⟨L.hb, 2, none⟩ (.slice none 0 0)) L.hb 3 (.slice none 0 0)
  have hE := hE1.trans hE2 (fun i hi => .inl hi)
  have hH := get_setCell (get_setCell R.hH 2 (.slice none 0 0)) 3 (.slice none 0 0)
  refine ⟨Rep.tight (F := F) ?_, hE⟩
  exact R.chMem (names := st.names) (next := st.next) (fun k hk => Nat.lt_of_lt_of_le (R.lt k hk) hE.size) (fun _ h => h) (fun k hF h1 _ _ => hE.block k (R.lt k hF) h1) hH (Row.nil _ _ _ _) (Row.nil _ _ _ _) (fun k hk => by cases hk)

/-- The old rows lie outside of what is used behind the reset. -/
theorem Rep.outside (R : Rep F L st w) (o : Ob) {k : Nat} (hk : (sliceOf L o).ownBlock = some k) : ¬ Used { L with s0 := .slice none 0 0, s1 := .slice none 0 0 } { st with m0 := [], m1 := [] } k := by
  have hr := R.rowS o
  rintro (h | h | h | h | h | h | h | h | ⟨p, hp, h | h⟩)
  · exact row_ne_cells hr R.hH (by decide) hk h
  · exact row_ne_map hr R.mO hk h
  · exact row_ne_map hr R.mH hk h
  · exact row_ne_map hr R.mR hk h
  · exact row_ne_cells hr R.fr (by decide) hk h
  · cases h
  · cases h
  · exact row_ne_row hr R.rf (by decide) hk h rfl
  · exact row_ne_cells hr (R.ob p hp).1 (by decide) hk h
  · exact row_ne_row hr (R.ob p hp).2.1 (by decide) hk h rfl

set_option maxRecDepth 100000 in
set_option maxHeartbeats 2000000 in
theorem settle_any (R : Rep F L st w) (hfl : Flds st) (hsz : ∀ n o, alook st.objs n = some o → o.size ≤ 3) (hN : st.objs.length < 1000) :
    Calls Try.prog 53 #[.pointer (some ⟨L.hb, 0, none⟩)] w (SettlePost F L st w) := by
  obtain ⟨a0, cap0, hs0⟩ := R.r0.form
  obtain ⟨a1, cap1, hs1⟩ := R.r1.form
  have c2 : w.cell? ⟨L.hb, 2, none⟩ = some (.slice a0 st.m0.length cap0) := by rw [R.hc 2, ← hs0]; rfl
  have c3 : w.cell? ⟨L.hb, 3, none⟩ = some (.slice a1 st.m1.length cap1) := by rw [R.hc 3, ← hs1]; rfl
  have c2' : ∀ ob, (w.alloc ob).cell? ⟨L.hb, 2, none⟩ = some (.slice a0 st.m0.length cap0) := fun ob => by rw [(R.alloc ob).hc 2, ← hs0]; rfl
  have c3' : ∀ ob, (w.alloc ob).cell? ⟨L.hb, 3, none⟩ = some (.slice a1 st.m1.length cap1) := fun ob => by rw [(R.alloc ob).hc 3, ← hs1]; rfl
  have f2 : ∀ ob, (w.alloc ob).frozen? ⟨L.hb, 2, none⟩ = false := fun ob => (R.alloc ob).hf 2
  have f3 : ∀ ob, (w.alloc ob).frozen? ⟨L.hb, 3, none⟩ = false := fun ob => (R.alloc ob).hf 3
  have hbx0 := Below.heap_new w (.cells #[.slice a0 st.m0.length cap0, .slice a1 st.m1.length cap1] 56)
  have Ra := R.alloc (.cells #[.slice a0 st.m0.length cap0, .slice a1 st.m1.length cap1] 56)
  obtain ⟨R1, hE1⟩ := Ra.reset
  generalize hF1 : Used { L with s0 := .slice none 0 0, s1 := .slice none 0 0 } { st with m0 := [], m1 := [] } = F1 at R1
  have hsub : ∀ k, F1 k → F k := fun k hk => by
    subst hF1
    rcases hk with h | h | h | h | h | h | h | h | h
    · exact h ▸ R.fs.1
    · exact h ▸ R.fs.2.1
    · exact h ▸ R.fs.2.2.1
    · exact h ▸ R.fs.2.2.2.1
    · exact h ▸ R.fs.2.2.2.2
    · cases h
    · cases h
    · exact R.rf.2 k h
    · obtain ⟨p, hp, h⟩ := h
      rcases h with h | h
      · exact h ▸ (R.ob p hp).2.2
      · exact (R.ob p hp).2.1.2 k h
  have hout : ∀ o k, (sliceOf L o).ownBlock = some k → ¬ F1 k := fun o k hk => by subst hF1; exact Ra.outside o hk
  have hEa : Ext F w (w.alloc (.cells #[.slice a0 st.m0.length cap0, .slice a1 st.m1.length cap1] 56)) := Below.ext ((Below.refl _ _).alloc (Nat.le_refl _) _) F
  have hE01 : Ext F w _ := hEa.trans hE1 (fun i hi => .inl (hi ▸ R.fs.1))
  have hbx1 := hE1.get hbx0 (fun e => by have := R.lt _ R.fs.1; omega)
  have hrows1 : ∀ o, Row F 66 2 _ (sliceOf L o) (rowOf st o).length (wdCells (rowOf st o)) := fun o => (Ra.rowS o).ext hE1 (fun k hk e => row_ne_cells (Ra.rowS o) Ra.hH (by decide) hk e)
  generalize hw1 : (((w.alloc (.cells #[.slice a0 st.m0.length cap0, .slice a1 st.m1.length cap1] 56)).setCell ⟨L.hb, 2, none⟩ (.slice none 0 0)).setCell ⟨L.hb, 3, none⟩ (.slice none 0 0)) = w1 at *
  have Hw1 := Lib.hid hw1
  have Hsort := Lib.hid (sorted_any R1 (by show st.objs.length < 10000; omega))
  have hs1w : w.heap.size + 1 = (w.alloc (.cells #[.slice a0 st.m0.length cap0, .slice a1 st.m1.length cap1] 56)).heap.size := by simp
  have hlt1 : w.heap.size < w1.heap.size := by have := hE1.size; omega
  have H1 := Lib.hid (And.intro R1 (And.intro hsub (And.intro hout (And.intro hE01 (And.intro hbx1 hrows1)))))
  have H0 := Lib.hid (And.intro R (And.intro hs0 hs1))
  have Hlt1 := Lib.hid hlt1
  clear R1 hsub hout hE01 hbx1 hrows1 hEa hE1 hbx0 Ra hF1 R hs0 hs1 hs1w hlt1
  go_enter Try.func53, Try.ntmps53
  go_wp2_with fail
  clear hw1 Hw1
  refine Hsort.out.mono ?_
  rintro e w2 ⟨al, capl, l, rfl, hperm, hrl, hb2⟩
  have hll : l.length < 1000 := by
    have := hperm.length_eq
    simp at this
    omega
  have H2 := Lib.hid (And.intro hperm (And.intro hrl hb2))
  clear hperm hrl hb2 c2 c3 c2' c3' f2 f3
  -- the pieces, as functions of what the loop holds
  have hE2 : Ext F1 w1 w2 := Below.ext H2.out.2.2 F1
  have hR2 := H1.out.1.below' H2.out.2.2
  have hF1w2 : ∀ k, F1 k → k < w2.heap.size := hR2.lt
  have hbx2 := Below.get H2.out.2.2 H1.out.2.2.2.2.1 Hlt1.out
  have hrows2 : ∀ o, Row F 66 2 w2 (sliceOf L o) (rowOf st o).length (wdCells (rowOf st o)) := fun o => (H1.out.2.2.2.2.2 o).below H2.out.2.2 (H1.out.2.2.2.2.2 o).lt'
  have hkeepR : ∀ wr, Ext F1 w2 wr → ∀ k, k < w2.heap.size → ¬ F1 k → wr.heap[k]? = w2.heap[k]? := fun wr h k hk hf => h.block k hk hf
  have hbxF : ¬ F1 w.heap.size := fun h => by
    have h1 := H1.out.2.1 _ h
    have h2 := H0.out.1.lt _ h1
    omega
  have HH := Lib.hid (And.intro hE2 (And.intro hR2 (And.intro hF1w2 (And.intro hbx2 (And.intro hrows2 (And.intro hkeepR hbxF))))))
  clear hE2 hR2 hF1w2 hbx2 hrows2 hkeepR hbxF
  go_wp2
  go_loopw [17] (fun i wr => ∃ (j : Nat) (s0 s1 : Value), j ≤ l.length ∧ i = .int .i64 j ∧ Rep (grow F1 w2 wr) { L with s0 := s0, s1 := s1 } ((l.take j).foldl (moveA st) { st with m0 := [], m1 := [] }) wr ∧ Ext F1 w2 wr) (fun i _ => l.length - (intOf i).toNat)
  case atStart => exact ⟨0, _, _, Nat.zero_le _, rfl, HH.out.2.1.mono (fun k hk => .inl hk) (fun k hk => by rcases hk with hk | hk; exact HH.out.2.2.1 k hk; exact hk.2), Ext.refl _ _⟩
  case round =>
    obtain ⟨j, s0, s1, hj, rfl, hR, hE⟩ := hrel
    by_cases hlt : j < l.length
    · obtain ⟨n, hn⟩ : ∃ n, l[j]? = some n := ⟨_, List.getElem?_eq_getElem hlt⟩
      have hnl : l.Nodup := (H2.out.1.nodup_iff).2 H0.out.1.nodupO
      obtain ⟨o, ho⟩ : ∃ o, alook st.objs n = some o := by
        have h1 : n ∈ st.objs.map (·.1) := H2.out.1.subset (List.mem_of_getElem? hn)
        obtain ⟨p, hp, rfl⟩ := List.mem_map.1 h1
        exact ⟨p.2, alook_of_mem H0.out.1.nodupO hp⟩
      have hnt : n ∉ l.take j := by
        intro h
        obtain ⟨i, hi⟩ := List.mem_iff_getElem?.1 h
        rw [List.getElem?_take] at hi
        split at hi
        · rename_i hij
          have := (List.getElem?_inj (by omega) hnl).1 (hi.trans hn.symm)
          omega
        · cases hi
      have hcur : alook ((l.take j).foldl (moveA st) { st with m0 := [], m1 := [] }).objs n = some o := by
        rw [moveA_fold_other _ _ _ _ hnt]; exact ho
      have hm1 := moveA_m1 st hsz (l.take j) { st with m0 := [], m1 := [] }
      have hm1' : ((l.take j).foldl (moveA st) { st with m0 := [], m1 := [] }).m1.length < 50000 := by
        have h2 : (l.take j).length ≤ l.length := List.length_take_le' _ _
        simp only [List.length_nil] at hm1
        omega
      have hnext : (l.take (j + 1)).foldl (moveA st) { st with m0 := [], m1 := [] } = moveSt ((l.take j).foldl (moveA st) { st with m0 := [], m1 := [] }) n o (wordsOf st o) := by
        rw [List.take_add_one, hn, Option.toList_some, List.foldl_append]
        simp [moveA, ho]
      -- what is read
      obtain ⟨gl, e, hgl⟩ := H2.out.2.1.addr (show 0 < l.length by omega)
      subst e
      have hglF : ¬ F1 gl := fun h => by
        have := H1.out.1.lt _ h
        omega
      have q1 : wr.cell? ⟨gl, j, none⟩ = some (.int .i64 n) := by
        rw [World.cell?_of_block (w := w2) (HH.out.2.2.2.2.2.1 wr hE gl (H2.out.2.1.lt rfl) hglF)]
        exact H2.out.2.1.int rfl hn
      have c0 : wr.cell? ⟨L.hb, 0, none⟩ = some (.map (some L.mo)) := hR.hc 0
      have lk := hR.lookO hcur
      have hbxr := HH.out.2.2.2.2.2.1 wr hE w.heap.size (lt_of_blk HH.out.2.2.2.1) HH.out.2.2.2.2.2.2
      rw [HH.out.2.2.2.1] at hbxr
      have b0 : wr.cell? ⟨w.heap.size, 0, none⟩ = some (.slice a0 st.m0.length cap0) := by rw [cell_of hbxr]; rfl
      have b1 : wr.cell? ⟨w.heap.size, 1, none⟩ = some (.slice a1 st.m1.length cap1) := by rw [cell_of hbxr]; rfl
      have hsp := Lib.hid (space_any hR hcur)
      have hat := hfl.1 _ _ ho
      have hrlen := hfl.row o
      obtain ⟨gf, capf, hsl⟩ : ∃ gf capf, sliceOf L o = .slice (some ⟨gf, 0, none⟩) (rowOf st o).length capf := by
        obtain ⟨a, c, hf⟩ := (HH.out.2.2.2.2.1 o).form
        have h3 := HH.out.2.2.2.2.1 o
        rw [hf] at h3
        obtain ⟨g, e, _⟩ := h3.addr (by omega)
        subst e
        exact ⟨g, c, hf⟩
      have hgfF : ¬ F1 gf := H1.out.2.2.1 o gf (by rw [hsl]; rfl)
      have hrf : Row F 66 2 wr (.slice (some ⟨gf, 0, none⟩) (rowOf st o).length capf) (rowOf st o).length (wdCells (rowOf st o)) := by
        have h3 := HH.out.2.2.2.2.1 o
        rw [hsl] at h3
        exact h3.of_block fun k hk => HH.out.2.2.2.2.2.1 wr hE k (h3.lt hk) (by cases hk; exact hgfF)
      have hmv := move_any hR hcur hrf (fun h => by
        rcases h with h | h
        · exact hgfF h
        · have := (HH.out.2.2.2.2.1 o).lt (k := gf) (by rw [hsl]; rfl)
          omega) hat (by omega) (by have := hsz _ _ ho; omega) hm1'
      have Hmv := Lib.hid hmv
      have Hnx := Lib.hid hnext
      have HE := Lib.hid hE
      clear hR hE hn hnl ho hnt hcur hm1 hm1' hnext hglF hbxr hrf hgfF hmv
      cases hod : o.old
      all_goals
        rw [hod] at hsp
        simp only [sliceOf, rowOf, hod, if_true, if_false, Bool.false_eq_true] at hsl
        first | rw [H0.out.2.1] at hsl | rw [H0.out.2.2] at hsl
        have hrw : (rowOf st o).length = (if o.old then st.m1 else st.m0).length := rfl
        simp only [hod, if_true, if_false, Bool.false_eq_true] at hrw
        rw [hrw] at Hmv
        simp only [Value.slice.injEq] at hsl
        obtain ⟨rfl, _, rfl⟩ := hsl
        clear hrw
        go_wp2_with (first | (go_at_call 55; refine hsp.out.mono ?_; rintro e wr ⟨rfl, rfl⟩) | (go_at_call 48; refine Hmv.out.mono ?_; rintro e w3 ⟨rfl, hR3, hE3⟩; have HR3 := Lib.hid hR3; have HE3 := Lib.hid hE3; clear hR3 hE3))
        go_roundw
        case rel =>
          obtain ⟨t0, t1, hR4⟩ := HR3.out
          refine ⟨j + 1, t0, t1, by omega, by go_num, ?_, HE.out.then HE3.out⟩
          rw [Hnx.out]
          exact hR4.mono (fun k hk => grow_grow HE.out.size HE3.out.size hk) (fun k hk => by
            rcases hk with hk | hk
            · exact Nat.lt_of_lt_of_le (HH.out.2.2.1 k hk) (Nat.le_trans HE.out.size HE3.out.size)
            · exact hk.2)
        case measure => simp [intOf]; omega
    · have e : j = l.length := by omega
      subst e
      rw [List.take_length] at hR
      have c8 : wr.cell? ⟨L.hb, 8, none⟩ = some (.map (some L.mr)) := hR.hc 8
      obtain ⟨w5, hcl, hI5, hE5⟩ := hR.mR.clear (P := Try.prog) Try.underlying58 0
      have hR5 := hR.chR hE5 (rem := []) hI5
      have hfs := hR.fs.2.2.2.1
      have hfin : SettlePost F L st w (.returned (.tuple #[])) w5 := by
        have hE2 : Ext F w w2 := H1.out.2.2.2.1.trans (HH.out.1.mono H1.out.2.1) (fun i hi => .inl hi)
        have hE4 : Ext F w wr := hE2.trans (hE.mono H1.out.2.1) (fun i hi => .inl hi)
        refine ⟨rfl, ⟨l, s0, s1, H2.out.1, hR5.mono (fun k hk => ?_) (fun k hk => ?_)⟩, hE4.trans hE5 (fun i hi => ?_)⟩
        · rcases hk with hk | hk
          · exact .inl (H1.out.2.1 k hk)
          · exact .inr ⟨Nat.le_trans hE2.size hk.1, Nat.lt_of_lt_of_le hk.2 hE5.size⟩
        · rcases hk with hk | hk
          · exact Nat.lt_of_lt_of_le (H0.out.1.lt k hk) (Nat.le_trans hE4.size hE5.size)
          · exact hk.2
        · subst hi
          rcases hfs with h | h
          · exact .inl (H1.out.2.1 _ h)
          · exact .inr (Nat.le_trans hE2.size h.1)
      have Hfin := Lib.hid hfin
      clear hR hE hR5 hI5 hE5 hfin hfs
      go_wp2_with (refine wpList_clear_eq rfl (.tmp 38) #[58] rfl _ rfl _ hcl ?_)
      go_end0
      exact Hfin.out
end settle
end Go.Proofs.Ytpjifaefchnmoaa
