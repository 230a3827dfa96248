/- Plain law: what a collection leaves. -/
import Derived.Test.YtpjifaefchnmoaaLaw2
namespace Go.Proofs.Ytpjifaefchnmoaa

/-- One object is moved, if it is one of those that are. -/
def mvA (sel : Ob → Bool) (st cur : St) (n : Int) : St := match alook st.objs n with
  | some o => if sel o then moveSt cur n o (wordsOf st o) else cur
  | none => cur

theorem moveA_mv (st : St) : moveA st = mvA (fun _ => true) st := by
  funext cur n
  unfold moveA mvA
  cases alook st.objs n with
  | none => rfl
  | some o => simp

theorem minorA_mv (st : St) : minorA st = mvA (fun o => !o.old) st := by
  funext cur n
  unfold minorA mvA
  cases alook st.objs n with
  | none => rfl
  | some o =>
    cases ho : o.old
    · simp [ho, wordsOf, rowOf]
    · simp [ho]

theorem words_flds (st : St) (o : Ob) : (wordsOf st o).drop 1 = fldsOf st o := by
  unfold wordsOf fldsOf
  rw [List.drop_take, List.drop_drop]
  congr 1
  omega

structure FI (sel : Ob → Bool) (st : St) (base : List Wd) (p : List Int) (cur : St) : Prop where
  keys : cur.objs.map (·.1) = st.objs.map (·.1)
  pre : ∃ s, cur.m1 = base ++ s
  len : cur.m1.length ≤ base.length + 3 * p.length
  look : ∀ n o, alook st.objs n = some o → ∃ o', alook cur.objs n = some o' ∧ o'.tbl = o.tbl ∧ o'.size = o.size ∧ o'.ent = o.ent ∧
    (n ∈ p ∧ sel o = true → o'.old = true ∧ base.length ≤ o'.at_ ∧ o'.at_ + (1 + o.size) ≤ cur.m1.length ∧ (cur.m1.drop o'.at_).take (1 + o.size) = wordsOf st o) ∧ (¬ (n ∈ p ∧ sel o = true) → o' = o)
  disj : ∀ n n' o o' q q', alook st.objs n = some o → alook st.objs n' = some o' → n ≠ n' → n ∈ p ∧ sel o = true → n' ∈ p ∧ sel o' = true → alook cur.objs n = some q → alook cur.objs n' = some q' → q.at_ + (1 + o.size) ≤ q'.at_ ∨ q'.at_ + (1 + o'.size) ≤ q.at_
  same : cur.m0 = [] ∧ cur.names = st.names ∧ cur.young = st.young ∧ cur.full = st.full ∧ cur.next = st.next ∧ cur.hnd = st.hnd ∧ cur.free = st.free

section law3
variable {st : St} {made : List Int} {to : List (Int × Int)} {i : Nat}

theorem FI.start (sel : Ob → Bool) (st : St) (base : List Wd) : FI sel st base [] { st with m0 := [], m1 := base } :=
  ⟨rfl, ⟨[], by simp⟩, by simp, fun n o h => ⟨o, h, rfl, rfl, rfl, fun hp => by simp at hp, fun _ => rfl⟩, fun n n' o o' q q' _ _ _ hp => by simp at hp, rfl, rfl, rfl, rfl, rfl, rfl, rfl⟩

theorem FI.step {sel : Ob → Bool} {base : List Wd} {p : List Int} {cur : St} (h : FI sel st base p cur) {n : Int} (hn : n ∉ p) {o : Ob} (ho : alook st.objs n = some o) (hs : o.size ≤ 2) (hat : o.at_ + (1 + o.size) ≤ (rowOf st o).length) :
    FI sel st base (p ++ [n]) (mvA sel st cur n) := by
  have hmv : mvA sel st cur n = if sel o then moveSt cur n o (wordsOf st o) else cur := by unfold mvA; rw [ho]
  rw [hmv]
  cases hsel : sel o
  · rw [if_neg (by simp)]
    have hiff : ∀ m o1, alook st.objs m = some o1 → ((m ∈ p ++ [n] ∧ sel o1 = true) ↔ (m ∈ p ∧ sel o1 = true)) := by
      intro m o1 h1
      constructor
      · rintro ⟨hm, hs⟩
        rcases List.mem_append.1 hm with hm | hm
        · exact ⟨hm, hs⟩
        · simp at hm; subst hm
          rw [ho] at h1; cases h1
          rw [hsel] at hs; cases hs
      · rintro ⟨hm, hs⟩
        exact ⟨List.mem_append_left _ hm, hs⟩
    refine ⟨h.keys, h.pre, by have := h.len; simp; omega, fun m o1 h1 => ?_, fun m m' o1 o2 q q' h1 h2 hne hp hp' => h.disj m m' o1 o2 q q' h1 h2 hne ((hiff m o1 h1).1 hp) ((hiff m' o2 h2).1 hp'), h.same⟩
    obtain ⟨o', a1, a2, a3, a4, a5, a6⟩ := h.look m o1 h1
    exact ⟨o', a1, a2, a3, a4, fun hp => a5 ((hiff m o1 h1).1 hp), fun hp => a6 fun hq => hp ((hiff m o1 h1).2 hq)⟩
  · rw [if_pos rfl]
    have hwl : (wordsOf st o).length = 1 + o.size := by
      unfold wordsOf
      rw [List.length_take, List.length_drop]; omega
    have hlk : ∀ m, alook (moveSt cur n o (wordsOf st o)).objs m = if m = n then some { o with at_ := cur.m1.length, old := true } else alook cur.objs m := fun m => alook_aset _ _ _ _
    obtain ⟨oc, hoc, _⟩ := h.look n o ho
    obtain ⟨s, hpre⟩ := h.pre
    refine ⟨?_, ⟨s ++ wordsOf st o, by show cur.m1 ++ _ = _; rw [hpre, List.append_assoc]⟩, by show (cur.m1 ++ wordsOf st o).length ≤ _; have := h.len; simp [hwl]; omega, fun m o1 h1 => ?_, ?_, h.same⟩
    · show (aset cur.objs n _).map (·.1) = _
      rw [aset_keys_of_some (by rw [hoc]; rfl)]
      exact h.keys
    · rw [hlk]
      by_cases e : m = n
      · subst e
        rw [ho] at h1; cases h1
        rw [if_pos rfl]
        refine ⟨_, rfl, rfl, rfl, rfl, fun _ => ⟨rfl, ?_, ?_, ?_⟩, fun hp => absurd ⟨List.mem_append_right _ (by simp), hsel⟩ hp⟩
        · show base.length ≤ cur.m1.length
          rw [hpre]; simp
        · show cur.m1.length + (1 + o.size) ≤ (cur.m1 ++ wordsOf st o).length
          simp [hwl]
        · show ((cur.m1 ++ wordsOf st o).drop cur.m1.length).take (1 + o.size) = _
          rw [List.drop_left, ← hwl, List.take_length]
      · rw [if_neg e]
        obtain ⟨o', a1, a2, a3, a4, a5, a6⟩ := h.look m o1 h1
        refine ⟨o', a1, a2, a3, a4, fun hp => ?_, fun hp => a6 fun hq => hp ⟨List.mem_append_left _ hq.1, hq.2⟩⟩
        have hp' : m ∈ p ∧ sel o1 = true := by
          rcases List.mem_append.1 hp.1 with hm | hm
          · exact ⟨hm, hp.2⟩
          · simp at hm; exact absurd hm e
        obtain ⟨b1, b2, b3, b4⟩ := a5 hp'
        refine ⟨b1, b2, ?_, ?_⟩
        · show o'.at_ + (1 + o1.size) ≤ (cur.m1 ++ wordsOf st o).length
          simp; omega
        · show ((cur.m1 ++ wordsOf st o).drop o'.at_).take (1 + o1.size) = _
          rw [List.drop_append_of_le_length (by omega), List.take_append_of_le_length (by simp; omega)]
          exact b4
    · intro m m' o1 o2 q q' h1 h2 hne hp hp' hq hq'
      rw [hlk] at hq hq'
      have hold : ∀ m o1 q, m ≠ n → alook st.objs m = some o1 → m ∈ p ++ [n] ∧ sel o1 = true → alook cur.objs m = some q → (m ∈ p ∧ sel o1 = true) ∧ q.at_ + (1 + o1.size) ≤ cur.m1.length := by
        intro m o1 q hmn h1 hp hq
        have hp' : m ∈ p ∧ sel o1 = true := by
          rcases List.mem_append.1 hp.1 with hm | hm
          · exact ⟨hm, hp.2⟩
          · simp at hm; exact absurd hm hmn
        obtain ⟨o', a1, _, _, _, a5, _⟩ := h.look m o1 h1
        rw [hq] at a1; cases a1
        exact ⟨hp', (a5 hp').2.2.1⟩
      by_cases e : m = n
      · by_cases e' : m' = n
        · exact absurd (e.trans e'.symm) hne
        · rw [if_pos e] at hq; rw [if_neg e'] at hq'
          cases hq
          right
          exact (hold m' o2 q' e' h2 hp' hq').2
      · by_cases e' : m' = n
        · rw [if_neg e] at hq; rw [if_pos e'] at hq'
          cases hq'
          left
          exact (hold m o1 q e h1 hp hq).2
        · rw [if_neg e] at hq; rw [if_neg e'] at hq'
          exact h.disj m m' o1 o2 q q' h1 h2 hne (hold m o1 q e h1 hp hq).1 (hold m' o2 q' e' h2 hp' hq').1 hq hq'

theorem FI.fold {sel : Ob → Bool} {base : List Wd} (hob : ∀ n o, alook st.objs n = some o → o.size ≤ 2 ∧ o.at_ + (1 + o.size) ≤ (rowOf st o).length) :
    ∀ (l p : List Int) (cur : St), FI sel st base p cur → (p ++ l).Nodup → (∀ n ∈ l, ∃ o, alook st.objs n = some o) → FI sel st base (p ++ l) (l.foldl (mvA sel st) cur)
  | [], p, cur, h, _, _ => by simpa using h
  | n :: l, p, cur, h, hn, hl => by
    obtain ⟨o, ho⟩ := hl n List.mem_cons_self
    have hnp : n ∉ p := fun hp => (List.nodup_append.1 hn).2.2 n hp n List.mem_cons_self rfl
    have h1 := h.step hnp ho (hob n o ho).1 (hob n o ho).2
    have e : p ++ n :: l = (p ++ [n]) ++ l := by simp
    rw [e] at hn ⊢
    exact FI.fold hob l (p ++ [n]) _ h1 hn (fun m hm => hl m (List.mem_cons_of_mem _ hm))

theorem FI.MI {sel : Ob → Bool} {base : List Wd} {p : List Int} {cur : St} (h : MI st made to i) (f : FI sel st base p cur) (hi : i < 60) (hp : p.Perm (st.objs.map (·.1))) (hsel : ∀ n o, alook st.objs n = some o → sel o = false → o.old = true ∧ base = st.m1) (hbl : base.length ≤ 180 * i) :
    MI { cur with rem := [] } made to (i + 1) ∧ ∀ n o, alook cur.objs n = some o → o.old = true := by
  have hpl : p.length = made.length := by rw [hp.length_eq, List.length_map, h.len]
  have hki := h.ki
  have hin : ∀ n o, alook st.objs n = some o → n ∈ p := fun n o ho => hp.symm.subset (names_of ho)
  obtain ⟨s, hpre⟩ := f.pre
  -- what became of an object
  have hob : ∀ n o, alook st.objs n = some o → ∃ o', alook cur.objs n = some o' ∧ o'.tbl = o.tbl ∧ o'.size = o.size ∧ o'.ent = o.ent ∧ o'.old = true ∧ o'.at_ + 3 ≤ cur.m1.length ∧ fldsOf { cur with rem := [] } o' = fldsOf st o := by
    intro n o ho
    obtain ⟨o', a1, a2, a3, a4, a5, a6⟩ := f.look n o ho
    obtain ⟨g1, g2, g3, g4⟩ := h.obI ho
    cases hs : sel o
    · have e := a6 (by rw [hs]; simp)
      subst e
      obtain ⟨ho1, hb⟩ := hsel n o' ho hs
      simp only [rowOf, ho1, if_true] at g4
      have hle : o'.at_ + 3 ≤ cur.m1.length := by rw [hpre, hb]; simp; omega
      refine ⟨o', a1, rfl, rfl, rfl, ho1, hle, ?_⟩
      refine fldsOf_congr fun x _ hx => ?_
      simp only [rowOf, ho1, if_true]
      rw [hpre, hb, List.getElem?_append_left (by omega)]
    · obtain ⟨b1, b2, b3, b4⟩ := a5 ⟨hin n o ho, hs⟩
      refine ⟨o', a1, a2, a3, a4, b1, by omega, ?_⟩
      rw [← words_flds st o, ← b4, List.drop_take, List.drop_drop]
      unfold fldsOf
      simp only [rowOf, b1, if_true, a3]
      rw [show 1 + o.size - 1 = o.size from by omega]
  have hback : ∀ n o', alook cur.objs n = some o' → ∃ o, alook st.objs n = some o := by
    intro n o' ho'
    have h1 : n ∈ cur.objs.map (·.1) := names_of ho'
    rw [f.keys, h.keys] at h1
    exact (h.look n).2 (mem_nms.1 h1)
  have hall : ∀ n o, alook cur.objs n = some o → o.old = true := by
    intro n o' ho'
    obtain ⟨o, ho⟩ := hback n o' ho'
    obtain ⟨o2, a1, _, _, _, a5, _⟩ := hob n o ho
    rw [ho'] at a1; cases a1
    exact a5
  refine ⟨⟨h.klen, by omega, by omega, f.keys.trans h.keys, f.same.2.1.trans h.names, f.same.2.2.1.trans h.young, f.same.2.2.2.1.trans h.full, ?_, ?_, ?_, ?_, h.rng, List.nodup_nil, ?_⟩, hall⟩
  · intro j o' ho'
    obtain ⟨o, ho⟩ := hback j o' ho'
    obtain ⟨o2, a1, a2, a3, a4, a5, a6, a7⟩ := hob j o ho
    have e : alook cur.objs j = some o' := ho'
    rw [e] at a1; cases a1
    obtain ⟨g1, g2, g3, g4, g5⟩ := h.ob j o ho
    refine ⟨a2.trans g1, a3.trans g2, a4.trans g3, ?_, fun m t hm ht => by rw [a7]; exact g5 m t hm ht⟩
    simp only [rowOf, a5, if_true]; exact a6
  · intro n n' o1 o2 ho1 ho2 hne _
    obtain ⟨q1, hq1⟩ := hback n o1 ho1
    obtain ⟨q2, hq2⟩ := hback n' o2 ho2
    obtain ⟨x1, a1, _, _, _, a5, a6⟩ := f.look n q1 hq1
    obtain ⟨x2, b1, _, _, _, b5, b6⟩ := f.look n' q2 hq2
    have e1 : alook cur.objs n = some o1 := ho1
    have e2 : alook cur.objs n' = some o2 := ho2
    rw [e1] at a1; cases a1
    rw [e2] at b1; cases b1
    cases hs1 : sel q1
    · have e := a6 (by rw [hs1]; simp)
      subst e
      obtain ⟨ho3, hb3⟩ := hsel n o1 hq1 hs1
      have g4 := (h.obI hq1).2.2.2
      simp only [rowOf, ho3, if_true, ← hb3] at g4
      cases hs2 : sel q2
      · have e := b6 (by rw [hs2]; simp)
        subst e
        obtain ⟨ho4, _⟩ := hsel n' o2 hq2 hs2
        exact h.disj n n' o1 o2 hq1 hq2 hne (by rw [ho3, ho4])
      · have := (b5 ⟨hin n' q2 hq2, hs2⟩).2.1
        left; omega
    · cases hs2 : sel q2
      · have e := b6 (by rw [hs2]; simp)
        subst e
        obtain ⟨ho4, hb4⟩ := hsel n' o2 hq2 hs2
        have g4 := (h.obI hq2).2.2.2
        simp only [rowOf, ho4, if_true, ← hb4] at g4
        have := (a5 ⟨hin n q1 hq1, hs1⟩).2.1
        right; omega
      · have h1 := (h.obI hq1).2.1
        have h2 := (h.obI hq2).2.1
        rcases f.disj n n' q1 q2 o1 o2 hq1 hq2 hne ⟨hin n q1 hq1, hs1⟩ ⟨hin n' q2 hq2, hs2⟩ e1 e2 with hd | hd <;> omega
  · show cur.m0.length ≤ _
    rw [f.same.1]; simp
  · show cur.m1.length ≤ _
    have := f.len
    omega
  · intro n
    simp only [List.not_mem_nil, false_iff]
    rintro ⟨o, _, _, hy⟩
    rw [List.any_eq_true] at hy
    obtain ⟨x, _, hx⟩ := hy
    unfold yng at hx
    split at hx
    · rename_i o' ho'
      rw [hall x o' ho'] at hx; simp at hx
    · cases hx

theorem MI.minor (h : MI st made to i) (hi : i < 60) {l : List Int} (hl : l.Perm (st.objs.map (·.1))) :
    MI (minorSt st l) made to (i + 1) ∧ ∀ n o, alook (minorSt st l).objs n = some o → o.old = true := by
  have f := FI.fold (sel := fun o => !o.old) (base := st.m1) (fun n o ho => by obtain ⟨_, h2, _, h4⟩ := h.obI ho; exact ⟨by omega, by omega⟩) l [] _ (FI.start _ st st.m1) (by simpa using hl.nodup_iff.2 h.nodup) (fun n hn => by
    have := hl.subset hn
    rw [h.keys] at this
    exact (h.look n).2 (mem_nms.1 this))
  simp only [List.nil_append] at f
  have := FI.MI h f hi hl (fun n o ho hs => ⟨by simpa using hs, rfl⟩) h.m1
  rw [← minorA_mv] at this
  exact this

theorem MI.major (h : MI st made to i) (hi : i < 60) {S l : List Int} (hS : ∀ n ∈ st.objs.map (·.1), n ∈ S) (hl : l.Perm ((swept st S).objs.map (·.1))) :
    MI (settleSt (swept st S) l) made to (i + 1) ∧ ∀ n o, alook (settleSt (swept st S) l).objs n = some o → o.old = true := by
  have hsw : swept st S = st := by
    unfold swept
    have h1 : sweepSt st S = st := by
      unfold sweepSt
      rw [List.filter_eq_self.2 (fun p hp => by simpa using hS p.1 (List.mem_map_of_mem hp))]
    rw [h1]
    exact forget_noEnt (fun n o ho => (h.obI ho).2.2.1) h.nodup
  rw [hsw] at hl ⊢
  have f := FI.fold (sel := fun _ => true) (base := []) (fun n o ho => by obtain ⟨_, h2, _, h4⟩ := h.obI ho; exact ⟨by omega, by omega⟩) l [] _ (FI.start _ st []) (by simpa using hl.nodup_iff.2 h.nodup) (fun n hn => by
    have := hl.subset hn
    rw [h.keys] at this
    exact (h.look n).2 (mem_nms.1 this))
  simp only [List.nil_append] at f
  have := FI.MI h f hi hl (fun n o ho hs => by cases hs) (by simp)
  rw [← moveA_mv] at this
  exact this

/-- What settle leaves of whatever objects. -/
theorem settle_facts {l : List Int} (hob : ∀ n o, alook st.objs n = some o → o.size ≤ 2 ∧ o.at_ + (1 + o.size) ≤ (rowOf st o).length) (hn : (st.objs.map (·.1)).Nodup) (hl : l.Perm (st.objs.map (·.1))) :
    (∀ n o, alook st.objs n = some o → ∃ o', alook (settleSt st l).objs n = some o' ∧ o'.tbl = o.tbl ∧ o'.size = o.size ∧ o'.ent = o.ent ∧ o'.at_ + 1 + o'.size ≤ (rowOf (settleSt st l) o').length ∧ fldsOf (settleSt st l) o' = fldsOf st o) ∧
    (settleSt st l).objs.map (·.1) = st.objs.map (·.1) ∧ (settleSt st l).m1.length ≤ 3 * l.length ∧ (settleSt st l).m0 = [] ∧ (settleSt st l).hnd = st.hnd ∧ (settleSt st l).free = st.free ∧ (settleSt st l).next = st.next := by
  have hin : ∀ n ∈ l, ∃ o, alook st.objs n = some o := fun n hn2 => by
    obtain ⟨p, hp, rfl⟩ := List.mem_map.1 (hl.subset hn2)
    exact ⟨p.2, alook_of_mem hn hp⟩
  have f := FI.fold (sel := fun _ => true) (base := []) hob l [] _ (FI.start _ st []) (by simpa using hl.nodup_iff.2 hn) hin
  simp only [List.nil_append] at f
  rw [← moveA_mv] at f
  refine ⟨fun n o ho => ?_, f.keys, by have := f.len; simpa [settleSt] using this, f.same.1, f.same.2.2.2.2.2.1, f.same.2.2.2.2.2.2, f.same.2.2.2.2.1⟩
  obtain ⟨o', a1, a2, a3, a4, a5, _⟩ := f.look n o ho
  obtain ⟨b1, b2, b3, b4⟩ := a5 ⟨hl.symm.subset (names_of ho), rfl⟩
  have hrow : rowOf (settleSt st l) o' = (l.foldl (moveA st) { st with m0 := [], m1 := [] }).m1 := by unfold rowOf; rw [if_pos b1]; rfl
  refine ⟨o', a1, a2, a3, a4, ?_, ?_⟩
  · rw [hrow, a3]; omega
  · rw [← words_flds st o, ← b4, List.drop_take, List.drop_drop]
    unfold fldsOf
    rw [hrow, a3, show 1 + o.size - 1 = o.size from by omega]
end law3
end Go.Proofs.Ytpjifaefchnmoaa
