/- Plain law: the states that the law's first look at a heap goes through. -/
import Derived.Test.YtpjifaefchnmoaaAged
namespace Go.Proofs.Ytpjifaefchnmoaa

def sane1 (b1 : Nat) : St := addSt (newSt 20 40) b1 false 0 [⟨false, 0⟩]
def sane2 (b1 b2 : Nat) : St := addSt (sane1 b1) b2 true 0 [⟨false, 0⟩]
def saneT (b2 : Nat) : Ob := newOb b2 true 0 1
def sane3 (b1 b2 : Nat) (ve : Value) : St := putSt (sane2 b1 b2) 1 (entOb (saneT b2) ve 0 ⟨false, 5⟩)
def sane4 (b1 b2 : Nat) (ve : Value) (b3 : Nat) : St := addSt (sane3 b1 b2 ve) b3 false 2 [⟨false, 1⟩, ⟨true, 0⟩, ⟨false, 7⟩]
def sane5 (b1 b2 : Nat) (ve : Value) (b3 : Nat) : St := dropSt (sane4 b1 b2 ve b3) 0

theorem sane1_eq (b1 : Nat) : sane1 b1 = ⟨[(0, newOb b1 false 0 0)], 1, [⟨false, 0⟩], [], 20, 40, 1, [(0, 0)], [], []⟩ := rfl
theorem sane2_eq (b1 b2 : Nat) : sane2 b1 b2 = ⟨[(0, newOb b1 false 0 0), (1, saneT b2)], 2, [⟨false, 0⟩, ⟨false, 0⟩], [], 20, 40, 2, [(0, 0), (1, 1)], [], []⟩ := rfl
theorem sane3_eq (b1 b2 : Nat) (ve : Value) : sane3 b1 b2 ve = ⟨[(0, newOb b1 false 0 0), (1, entOb (saneT b2) ve 0 ⟨false, 5⟩)], 2, [⟨false, 0⟩, ⟨false, 0⟩], [], 20, 40, 2, [(0, 0), (1, 1)], [], []⟩ := rfl
theorem sane4_eq (b1 b2 : Nat) (ve : Value) (b3 : Nat) : sane4 b1 b2 ve b3 = ⟨[(0, newOb b1 false 0 0), (1, entOb (saneT b2) ve 0 ⟨false, 5⟩), (2, newOb b3 false 2 2)], 3,
    [⟨false, 0⟩, ⟨false, 0⟩, ⟨false, 1⟩, ⟨true, 0⟩, ⟨false, 7⟩], [], 20, 40, 3, [(0, 0), (1, 1), (2, 2)], [], []⟩ := rfl
theorem sane5_eq (b1 b2 : Nat) (ve : Value) (b3 : Nat) : sane5 b1 b2 ve b3 = ⟨[(0, newOb b1 false 0 0), (1, entOb (saneT b2) ve 0 ⟨false, 5⟩), (2, newOb b3 false 2 2)], 3,
    [⟨false, 0⟩, ⟨false, 0⟩, ⟨false, 1⟩, ⟨true, 0⟩, ⟨false, 7⟩], [], 20, 40, 3, [(1, 1), (2, 2)], [], [0]⟩ := rfl

/-- Three objects: a plain one without fields, a table whose entry is keyed by it, one that refers to it. -/
structure Three (st : St) (o0 o1 o2 : Ob) : Prop where
  objs : st.objs = [(0, o0), (1, o1), (2, o2)]
  t0 : o0.tbl = false ∧ o0.size = 0 ∧ o0.ent = none ∧ o0.at_ + 1 + o0.size ≤ (rowOf st o0).length
  t1 : o1.tbl = true ∧ o1.size = 0 ∧ o1.ent = some (0, ⟨false, 5⟩) ∧ o1.at_ + 1 + o1.size ≤ (rowOf st o1).length
  t2 : o2.tbl = false ∧ o2.size = 2 ∧ o2.ent = none ∧ o2.at_ + 1 + o2.size ≤ (rowOf st o2).length ∧ fldsOf st o2 = [⟨true, 0⟩, ⟨false, 7⟩]
  m0 : st.m0.length < 1000
  m1 : st.m1.length < 1000

theorem keys_cons {l : List (Int × Ob)} {a : Int} {r : List Int} (h : l.map (·.1) = a :: r) : ∃ x t, l = (a, x) :: t ∧ t.map (·.1) = r := by
  cases l with
  | nil => cases h
  | cons p t =>
    simp only [List.map_cons, List.cons.injEq] at h
    exact ⟨p.2, t, by rw [← h.1], h.2⟩

section three
variable {st : St} {o0 o1 o2 : Ob}

theorem Three.look (h : Three st o0 o1 o2) {n : Int} {o : Ob} (ho : alook st.objs n = some o) : (n = 0 ∧ o = o0) ∨ (n = 1 ∧ o = o1) ∨ (n = 2 ∧ o = o2) := by
  rw [h.objs] at ho
  simp only [alook] at ho
  split at ho
  · cases ho; exact .inl ⟨by assumption, rfl⟩
  · split at ho
    · cases ho; exact .inr (.inl ⟨by assumption, rfl⟩)
    · split at ho
      · cases ho; exact .inr (.inr ⟨by assumption, rfl⟩)
      · cases ho

theorem Three.l0 (h : Three st o0 o1 o2) : alook st.objs 0 = some o0 := by rw [h.objs]; rfl
theorem Three.l1 (h : Three st o0 o1 o2) : alook st.objs 1 = some o1 := by rw [h.objs]; rfl
theorem Three.l2 (h : Three st o0 o1 o2) : alook st.objs 2 = some o2 := by rw [h.objs]; rfl

theorem flds_zero {o : Ob} (h : o.size = 0) : fldsOf st o = [] := by unfold fldsOf; rw [h]; rfl

theorem Three.whole (h : Three st o0 o1 o2) : Whole st := by
  refine ⟨fun n o ho m hm => ?_, fun n o k d ho he => ?_⟩
  · rcases h.look ho with ⟨_, rfl⟩ | ⟨_, rfl⟩ | ⟨_, rfl⟩
    · rw [flds_zero h.t0.2.1] at hm; cases hm
    · rw [flds_zero h.t1.2.1] at hm; cases hm
    · rw [h.t2.2.2.2.2] at hm
      simp [refsOf] at hm
      subst hm
      exact ⟨_, h.l0⟩
  · rcases h.look ho with ⟨_, rfl⟩ | ⟨_, rfl⟩ | ⟨_, rfl⟩
    · rw [h.t0.2.2.1] at he; cases he
    · rw [h.t1.2.2.1] at he
      cases he
      exact ⟨⟨_, h.l0⟩, fun e => by cases e⟩
    · rw [h.t2.2.2.1] at he; cases he

theorem Three.flds (h : Three st o0 o1 o2) : Flds st := by
  refine ⟨fun n o ho => ?_, by have := h.m0; omega, by have := h.m1; omega⟩
  rcases h.look ho with ⟨_, rfl⟩ | ⟨_, rfl⟩ | ⟨_, rfl⟩
  · exact h.t0.2.2.2
  · exact h.t1.2.2.2
  · exact h.t2.2.2.2.1

theorem Three.size (h : Three st o0 o1 o2) : ∀ n o, alook st.objs n = some o → o.size ≤ 2 ∧ o.at_ + (1 + o.size) ≤ (rowOf st o).length := by
  intro n o ho
  rcases h.look ho with ⟨_, rfl⟩ | ⟨_, rfl⟩ | ⟨_, rfl⟩
  · have := h.t0; omega
  · have := h.t1; omega
  · have := h.t2; omega

theorem Three.nodup (h : Three st o0 o1 o2) : (st.objs.map (·.1)).Nodup := by rw [h.objs]; simp

/-- Handles and what is free do not matter. -/
theorem Three.hnd (h : Three st o0 o1 o2) (hnd : List (Int × Int)) (free : List Int) : Three { st with hnd := hnd, free := free } o0 o1 o2 := ⟨h.objs, h.t0, h.t1, h.t2, h.m0, h.m1⟩

/-- All is reached from the table and the third object. -/
theorem Three.major1 (h : Three st o0 o1 o2) {S l : List Int} (hS : ReachS st [1, 2] S) (hl : l.Perm ((swept st S).objs.map (·.1))) :
    ∃ p0 p1 p2, Three (settleSt (swept st S) l) p0 p1 p2 ∧ (settleSt (swept st S) l).hnd = st.hnd ∧ (settleSt (swept st S) l).free = st.free := by
  have h0 : (0 : Int) ∈ S := by
    refine hS.clo.1 2 o2 (hS.roots 2 (by simp)) h.l2 h.t2.1 0 ?_
    rw [h.t2.2.2.2.2]; simp [refsOf]
  have h1 : (1 : Int) ∈ S := hS.roots 1 (by simp)
  have h2 : (2 : Int) ∈ S := hS.roots 2 (by simp)
  have hsw : swept st S = st := by
    unfold swept
    have e : sweepSt st S = st := by
      unfold sweepSt
      rw [List.filter_eq_self.2 (fun p hp => ?_)]
      rw [h.objs] at hp
      simp at hp
      rcases hp with rfl | rfl | rfl
      · simpa using h0
      · simpa using h1
      · simpa using h2
    rw [e]
    unfold forgetSt
    have e2 : (st.objs.map fun p => (p.1, fgt st p.2)) = st.objs := by
      conv => rhs; rw [← List.map_id st.objs]
      refine List.map_congr_left fun p hp => ?_
      have hlk := alook_of_mem h.nodup hp
      rcases h.look hlk with ⟨_, e⟩ | ⟨_, e⟩ | ⟨_, e⟩
      · simp only [id]; rw [show fgt st p.2 = p.2 from by unfold fgt; rw [e, h.t0.2.2.1]]
      · simp only [id]; rw [show fgt st p.2 = p.2 from by unfold fgt; rw [e, h.t1.2.2.1]; simp [h.l0]]
      · simp only [id]; rw [show fgt st p.2 = p.2 from by unfold fgt; rw [e, h.t2.2.2.1]]
    rw [e2]
  rw [hsw] at hl ⊢
  obtain ⟨f1, f2, f3, f4, f5, f6, _⟩ := settle_facts h.size h.nodup hl
  obtain ⟨p0, a1, a2, a3, a4, a5, _⟩ := f1 0 o0 h.l0
  obtain ⟨p1, b1, b2, b3, b4, b5, _⟩ := f1 1 o1 h.l1
  obtain ⟨p2, c1, c2, c3, c4, c5, c6⟩ := f1 2 o2 h.l2
  have hll : l.length = 3 := by rw [hl.length_eq, h.objs]; rfl
  refine ⟨p0, p1, p2, ⟨?_, ⟨a2.trans h.t0.1, a3.trans h.t0.2.1, a4.trans h.t0.2.2.1, a5⟩, ⟨b2.trans h.t1.1, b3.trans h.t1.2.1, b4.trans h.t1.2.2.1, b5⟩, ⟨c2.trans h.t2.1, c3.trans h.t2.2.1, c4.trans h.t2.2.2.1, c5, c6.trans h.t2.2.2.2.2⟩, by rw [f4]; decide, by omega⟩, f5, f6⟩
  rw [h.objs] at f2
  simp only [List.map_cons, List.map_nil] at f2
  obtain ⟨x, t1, e1, g1⟩ := keys_cons f2
  obtain ⟨y, t2, e2, g2⟩ := keys_cons g1
  obtain ⟨z, t3, e3, g3⟩ := keys_cons g2
  have e4 := List.map_eq_nil_iff.1 g3
  rw [e4] at e3
  rw [e3] at e2
  rw [e2] at e1
  rw [e1] at a1 b1 c1 ⊢
  simp [alook] at a1 b1 c1
  rw [a1, b1, c1]

/-- Only the table is reached. -/
theorem Three.major2 (h : Three st o0 o1 o2) {S l : List Int} (hS : ReachS st [1] S) (hl : l.Perm ((swept st S).objs.map (·.1))) :
    ∃ p, (settleSt (swept st S) l).objs = [(1, p)] ∧ p.tbl = true ∧ p.size = 0 ∧ p.ent = none ∧ (settleSt (swept st S) l).hnd = st.hnd := by
  have h1 : (1 : Int) ∈ S := hS.roots 1 (by simp)
  have hall : ∀ n ∈ S, n = 1 := by
    refine hS.min (fun n => n = 1) ⟨?_, ?_⟩ (by simp)
    · rintro n o rfl ho ht
      rw [h.l1] at ho; cases ho
      rw [h.t1.1] at ht; cases ht
    · rintro n o k d rfl ho _ he hk _
      rw [h.l1] at ho; cases ho
      rw [h.t1.2.2.1] at he; cases he
      cases hk
  have h0 : (0 : Int) ∉ S := fun hm => by have := hall 0 hm; cases this
  have h2 : (2 : Int) ∉ S := fun hm => by have := hall 2 hm; cases this
  have hsw : (swept st S).objs = [(1, { o1 with ent := none, ve := cutV o1.ve })] := by
    have e : (sweepSt st S).objs = [(1, o1)] := by
      unfold sweepSt
      simp [h.objs, h0, h1, h2]
    unfold swept forgetSt
    simp only [e, List.map_cons, List.map_nil]
    have : fgt (sweepSt st S) o1 = { o1 with ent := none, ve := cutV o1.ve } := by
      unfold fgt
      rw [h.t1.2.2.1]
      simp [e, alook]
    rw [this]
  have hrow : ∀ o : Ob, rowOf (swept st S) o = rowOf st o := fun o => rfl
  obtain ⟨f1, f2, _, _, f5, _, _⟩ := settle_facts (st := swept st S) (fun n o ho => by
    rw [hsw] at ho
    simp only [alook] at ho
    split at ho
    · cases ho
      have := h.t1
      rw [hrow]
      refine ⟨by simp [this.2.1], ?_⟩
      show o1.at_ + (1 + o1.size) ≤ (rowOf st o1).length
      omega
    · cases ho) (by rw [hsw]; simp) hl
  obtain ⟨p, a1, a2, a3, a4, _⟩ := f1 1 _ (by rw [hsw]; rfl)
  refine ⟨p, ?_, a2.trans h.t1.1, a3.trans h.t1.2.1, a4, f5⟩
  rw [hsw] at f2
  simp only [List.map_cons, List.map_nil] at f2
  obtain ⟨x, t1, e1, g1⟩ := keys_cons f2
  have e4 := List.map_eq_nil_iff.1 g1
  rw [e4] at e1
  rw [e1] at a1 ⊢
  simp [alook] at a1
  rw [a1]
end three

theorem sane5_three (b1 b2 : Nat) (ve : Value) (b3 : Nat) : Three (sane5 b1 b2 ve b3) (newOb b1 false 0 0) (entOb (saneT b2) ve 0 ⟨false, 5⟩) (newOb b3 false 2 2) := by
  rw [sane5_eq]
  exact ⟨rfl, ⟨rfl, rfl, rfl, by show (0 + 1 + 0 : Nat) ≤ 5; decide⟩, ⟨rfl, rfl, rfl, by show (1 + 1 + 0 : Nat) ≤ 5; decide⟩, ⟨rfl, rfl, rfl, by show (2 + 1 + 2 : Nat) ≤ 5; decide, rfl⟩, by show (5 : Nat) < 1000; decide, by show (0 : Nat) < 1000; decide⟩
end Go.Proofs.Ytpjifaefchnmoaa
