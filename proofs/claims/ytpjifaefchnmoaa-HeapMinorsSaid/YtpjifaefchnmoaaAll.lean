/- The method all: a function is called for what an object refers to, by its entry, too. -/
import Derived.Test.YtpjifaefchnmoaaRefs
namespace Go.Proofs.Ytpjifaefchnmoaa
open Go.RowKit

def entRefs : Option (Int × Wd) → List Int
  | none => []
  | some (k, d) => k :: (if d.ref then [d.num] else [])

/-- All that an object refers to. -/
def allRefs (st : St) (o : Ob) : List Int := refsOf (fldsOf st o) ++ entRefs o.ent

theorem Below.heap_new (w : World) (o : Obj) : (w.alloc o).heap[w.heap.size]? = some o := heap_alloc_new w o

section all
variable {F : Nat → Prop} {L : Lay} {st : St} {w : World}

theorem Rep.ents (R : Rep F L st w) {n : Int} {o : Ob} (h : alook st.objs n = some o) : Row F 85 3 w o.ve (entCount o.ent) (entCells o.ent) := (R.ob _ (alook_some_mem h)).2.1

/-- The cells of the one entry. -/
theorem ent_cells {o : Ob} {k : Int} {d : Wd} (he : o.ent = some (k, d)) (hr : Row F 85 3 w o.ve (entCount o.ent) (entCells o.ent)) :
    ∃ g cap, o.ve = .slice (some ⟨g, 0, none⟩) 1 cap ∧ F g ∧ w.cell? ⟨g, 0, none⟩ = some (.int .i64 k) ∧ w.cell? ⟨g, 1, none⟩ = some (.bool d.ref) ∧ w.cell? ⟨g, 2, none⟩ = some (.int .i64 d.num) := by
  rw [he] at hr
  rcases hr.cases with ⟨_, h0, _⟩ | ⟨g, cap, cur, hv, hF, _⟩
  · cases h0
  · rw [hv] at hr
    refine ⟨g, cap, hv, hF, ?_, ?_, ?_⟩
    · rw [hr.cell 0 (by simp [entCount])]; rfl
    · rw [hr.cell 1 (by simp [entCount])]; rfl
    · rw [hr.cell 2 (by simp [entCount])]; rfl

theorem ent_none {o : Ob} (he : o.ent = none) (hr : Row F 85 3 w o.ve (entCount o.ent) (entCells o.ent)) : ∃ a cap, o.ve = .slice a 0 cap := by
  rw [he] at hr; exact hr.form

set_option maxRecDepth 100000 in
set_option maxHeartbeats 1000000 in
/-- .. where it has no entry. -/
theorem all_none (R : Rep F L st w) {n : Int} {o : Ob} (h : alook st.objs n = some o) (hat : o.at_ + 1 + o.size ≤ (rowOf st o).length) (hsz : (rowOf st o).length < 1000000)
    {fv : Value} {FN : Nat} {args : Int → Array Value} (hfn : IsFn fv FN args) (J : List Int → World → Prop)
    (B : Nat) (hB : ∀ k, F k → k < B) (hJB : ∀ l w', J l w' → Below B w w') (hJA : ∀ l w' w'', J l w' → Below w'.heap.size w' w'' → J l w'')
    (he : o.ent = none)
    (hstep : ∀ l m r w', allRefs st o = l ++ m :: r → J l w' → Calls Try.prog FN (args m) w' fun e w'' => e = .returned (.tuple #[]) ∧ J (l ++ [m]) w'')
    (w0 : World) (h0 : J [] w0) :
    Calls Try.prog 44 #[.pointer (some ⟨L.hb, 0, none⟩), .pointer (some ⟨o.b, 0, none⟩), fv] w0 fun e w' => e = .returned (.tuple #[]) ∧ J (allRefs st o) w' := by
  have Hrefs := Lib.hid (refs_any R h hat hsz hfn J B hB hJB hJA (fun l m r w' e hj => hstep l m (r ++ entRefs o.ent) w' (by rw [allRefs, e]; simp) hj) w0 h0)
  have hcell : ∀ wr, Below B w wr → wr.cell? ⟨o.b, 4, none⟩ = some o.ve := fun wr hb => (R.below hb hB).oc h 4
  have Hcell := Lib.hid hcell
  have HJB := Lib.hid hJB
  obtain ⟨a4, c4, hv⟩ := ent_none he (R.ents h)
  have hall : allRefs st o = refsOf (fldsOf st o) := by simp [allRefs, he, entRefs]
  have Hall := Lib.hid hall
  clear hcell hstep hJB hJA h0 R he hall
  rcases hfn with ⟨a, rfl, rfl, rfl⟩ | ⟨a, b, rfl, rfl, rfl⟩ | ⟨a, b, rfl, rfl, rfl⟩
  all_goals
    go_enter Try.func44, Try.ntmps44
    go_wp2_with fail
    refine Hrefs.out.mono ?_
    rintro e w1 ⟨rfl, hj1⟩
    have q4 := Hcell.out w1 (HJB.out _ _ hj1)
    rw [hv] at q4
    have Hj1 := Lib.hid hj1
    clear hj1
    go_wp2_with fail
    go_loopw [17] (fun i wr => i = .int .i64 0 ∧ J (refsOf (fldsOf st o)) wr) (fun _ _ => 0)
    case atStart => exact ⟨rfl, Hj1.out⟩
    case round =>
      obtain ⟨rfl, hj⟩ := hrel
      have Hj := Lib.hid hj
      clear hj
      go_wp2_with fail
      go_end0
      exact ⟨rfl, by rw [Hall.out]; exact Hj.out⟩

set_option maxRecDepth 100000 in
set_option maxHeartbeats 1000000 in
/-- .. where it has one: the function changes blocks of G alone. -/
theorem all_some (R : Rep F L st w) {n : Int} {o : Ob} (h : alook st.objs n = some o) (hat : o.at_ + 1 + o.size ≤ (rowOf st o).length) (hsz : (rowOf st o).length < 1000000)
    {fv : Value} {FN : Nat} {args : Int → Array Value} (hfn : IsFn fv FN args) (J : List Int → World → Prop)
    (B : Nat) (hB : ∀ k, F k → k < B) (hJB : ∀ l w', J l w' → Below B w w') (hJA : ∀ l w' w'', J l w' → Below w'.heap.size w' w'' → J l w'')
    {key : Int} {d : Wd} (he : o.ent = some (key, d)) (G : Nat → Prop) (hG : ∀ l w', J l w' → ∀ k, G k → k < w'.heap.size)
    (hstep : ∀ l m r w', allRefs st o = l ++ m :: r → J l w' → Calls Try.prog FN (args m) w' fun e w'' => e = .returned (.tuple #[]) ∧ J (l ++ [m]) w'' ∧ Ext G w' w'')
    (w0 : World) (h0 : J [] w0) :
    Calls Try.prog 44 #[.pointer (some ⟨L.hb, 0, none⟩), .pointer (some ⟨o.b, 0, none⟩), fv] w0 fun e w' => e = .returned (.tuple #[]) ∧ J (allRefs st o) w' := by
  have Hrefs := Lib.hid (refs_any R h hat hsz hfn J B hB hJB hJA (fun l m r w' e hj => (hstep l m (r ++ entRefs o.ent) w' (by rw [allRefs, e]; simp) hj).mono fun _ _ ⟨h1, h2, _⟩ => ⟨h1, h2⟩) w0 h0)
  have hcell : ∀ wr, Below B w wr → wr.cell? ⟨o.b, 4, none⟩ = some o.ve := fun wr hb => (R.below hb hB).oc h 4
  have Hcell := Lib.hid hcell
  have Hstep := Lib.hid hstep
  have HJB := Lib.hid hJB
  have HJA := Lib.hid hJA
  have HG := Lib.hid hG
  obtain ⟨g, c4, hv, _⟩ := ent_cells he (R.ents h)
  have hall : allRefs st o = refsOf (fldsOf st o) ++ key :: (if d.ref then [d.num] else []) := by simp [allRefs, he, entRefs]
  have hec : ∀ wr, Below B w wr → wr.cell? ⟨g, 0, none⟩ = some (.int .i64 key) ∧ wr.cell? ⟨g, 1, none⟩ = some (.bool d.ref) ∧ wr.cell? ⟨g, 2, none⟩ = some (.int .i64 d.num) := fun wr hb => by
    obtain ⟨g', c', hv', _, r⟩ := ent_cells he ((R.below hb hB).ents h)
    rw [hv] at hv'; cases hv'; exact r
  have Hec := Lib.hid hec
  have Hall := Lib.hid hall
  clear hcell hstep hJB hJA h0 R he hall hec hG
  rcases hfn with ⟨a, rfl, rfl, rfl⟩ | ⟨a, b, rfl, rfl, rfl⟩ | ⟨a, b, rfl, rfl, rfl⟩
  all_goals
    go_enter Try.func44, Try.ntmps44
    go_wp2_with fail
    refine Hrefs.out.mono ?_
    rintro e w1 ⟨rfl, hj1⟩
    have q4 := Hcell.out w1 (HJB.out _ _ hj1)
    rw [hv] at q4
    have Hj1 := Lib.hid hj1
    clear hj1
    go_wp2_with fail
    go_loopw [17] (fun i wr => (i = .int .i64 0 ∧ J (refsOf (fldsOf st o)) wr) ∨ (i = .int .i64 1 ∧ J (allRefs st o) wr)) (fun i _ => 1 - (intOf i).toNat)
    case atStart => exact Or.inl ⟨rfl, Hj1.out⟩
    case round =>
      rcases hrel with ⟨rfl, hj⟩ | ⟨rfl, hj⟩
      · obtain ⟨e0, e1, e2⟩ := Hec.out wr (HJB.out _ _ hj)
        have Hlt := Lib.hid (HG.out _ _ hj)
        have Hj := Lib.hid hj
        clear hj
        cases hdr : d.ref
        all_goals
          rw [hdr] at e1
          go_wp2_with fail
          refine (Hstep.out (refsOf (fldsOf st o)) key (if d.ref then [d.num] else []) _ Hall.out (HJA.out _ _ _ Hj.out ((Below.refl _ _).alloc (Nat.le_refl _) _))).mono ?_
          rintro e w2 ⟨rfl, hj2, hE2⟩
          have hblk := hE2.get (Below.heap_new wr _) (fun hk => Nat.lt_irrefl _ (Hlt.out _ hk))
          have x1 := cell_of hblk 1
          have x2 := cell_of hblk 2
          simp at x1 x2
          have Hj2 := Lib.hid hj2
          clear hj2 hE2 hblk
          go_wp2_with fail
        · refine ⟨Or.inr ⟨rfl, ?_⟩, by simp [intOf]⟩
          rw [Hall.out, hdr]; exact Hj2.out
        · refine (Hstep.out (refsOf (fldsOf st o) ++ [key]) d.num [] _ (by rw [Hall.out, hdr]; simp) Hj2.out).mono ?_
          rintro e w3 ⟨rfl, hj3, _⟩
          have Hj3 := Lib.hid hj3
          clear hj3
          go_wp2_with fail
          refine ⟨Or.inr ⟨rfl, ?_⟩, by simp [intOf]⟩
          rw [Hall.out, hdr]; simpa using Hj3.out
      · have Hj := Lib.hid hj
        clear hj
        go_wp2_with fail
        go_end0
        exact ⟨rfl, Hj.out⟩
end all
end Go.Proofs.Ytpjifaefchnmoaa
