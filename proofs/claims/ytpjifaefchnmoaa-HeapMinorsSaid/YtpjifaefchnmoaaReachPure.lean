/- Plain lists: what is reached from some names. -/
import Derived.Test.YtpjifaefchnmoaaRange
namespace Go.Proofs.Ytpjifaefchnmoaa

def sees (s : List Int × List Int) (l : List Int) : List Int × List Int := l.foldl seeA s

theorem sees_spec (l : List Int) : ∀ S T : List Int, ∃ X, sees (S, T) l = (S ++ X, T ++ X) ∧ X.Nodup ∧ (∀ x ∈ X, x ∈ l ∧ x ∉ S) ∧ ∀ x ∈ l, x ∈ S ++ X := by
  induction l with
  | nil => intro S T; exact ⟨[], by simp [sees], by simp, by simp, by simp⟩
  | cons a l ih =>
    intro S T
    by_cases ha : a ∈ S
    · obtain ⟨X, h1, h2, h3, h4⟩ := ih S T
      refine ⟨X, ?_, h2, fun x hx => ⟨List.mem_cons_of_mem _ (h3 x hx).1, (h3 x hx).2⟩, ?_⟩
      · show (l.foldl seeA (seeA (S, T) a)) = _
        simp only [seeA, ha, if_true]; exact h1
      · intro x hx
        rcases List.mem_cons.1 hx with rfl | hx
        · exact List.mem_append_left _ ha
        · exact h4 x hx
    · obtain ⟨X, h1, h2, h3, h4⟩ := ih (S ++ [a]) (T ++ [a])
      refine ⟨a :: X, ?_, ?_, ?_, ?_⟩
      · show (l.foldl seeA (seeA (S, T) a)) = _
        simp only [seeA, ha, if_false]
        have := h1
        simp only [sees] at this
        rw [this]; simp
      · rw [List.nodup_cons]
        exact ⟨fun hx => (h3 a hx).2 (by simp), h2⟩
      · intro x hx
        rcases List.mem_cons.1 hx with rfl | hx
        · exact ⟨List.mem_cons_self, ha⟩
        · obtain ⟨p, q⟩ := h3 x hx
          exact ⟨List.mem_cons_of_mem _ p, fun hs => q (List.mem_append_left _ hs)⟩
      · intro x hx
        rcases List.mem_cons.1 hx with rfl | hx
        · simp
        · have := h4 x hx
          simp at this ⊢
          rcases this with h | h | h
          · exact .inl h
          · exact .inr (.inl h)
          · exact .inr (.inr h)

theorem nodup_le : ∀ {A B : List Int}, A.Nodup → (∀ a ∈ A, a ∈ B) → A.length ≤ B.length
  | [], _, _, _ => Nat.zero_le _
  | a :: A, B, hn, h => by
    have ha : a ∈ B := h a List.mem_cons_self
    rw [List.nodup_cons] at hn
    have h1 : ∀ x ∈ A, x ∈ B.erase a := fun x hx => (List.mem_erase_of_ne (by rintro rfl; exact hn.1 hx)).2 (h x (List.mem_cons_of_mem _ hx))
    have h2 := nodup_le hn.2 h1
    rw [List.length_erase_of_mem ha] at h2
    have h3 : 0 < B.length := List.length_pos_of_mem ha
    simp only [List.length_cons]
    omega

theorem sees_len (l : List Int) : ∀ S T : List Int, (sees (S, T) l).2.length ≤ T.length + l.length := by
  induction l with
  | nil => intro S T; exact Nat.le_refl _
  | cons a l ih =>
    intro S T
    show (sees (seeA (S, T) a) l).2.length ≤ _
    unfold seeA
    split
    · have := ih S T
      simp only [List.length_cons]; omega
    · have := ih (S ++ [a]) (T ++ [a])
      simp only [List.length_append, List.length_cons, List.length_nil] at this ⊢; omega

theorem sees_snoc (s : List Int × List Int) (l : List Int) (m : Int) : sees s (l ++ [m]) = seeA (sees s l) m := by simp [sees, List.foldl_append]

theorem refsOf_len (l : List Wd) : (refsOf l).length ≤ l.length := List.length_filterMap_le _ _

/-- Z is closed: by fields, and by entries whose keys are in Z. -/
def Clo (st : St) (Z : Int → Prop) : Prop :=
  (∀ n o, Z n → alook st.objs n = some o → o.tbl = false → ∀ m ∈ refsOf (fldsOf st o), Z m) ∧
  (∀ n o k d, Z n → alook st.objs n = some o → o.tbl = true → o.ent = some (k, d) → Z k → d.ref = true → Z d.num)

/-- All that is referred to is there. -/
def Whole (st : St) : Prop :=
  (∀ n o, alook st.objs n = some o → ∀ m ∈ refsOf (fldsOf st o), ∃ o', alook st.objs m = some o') ∧
  (∀ n o k d, alook st.objs n = some o → o.ent = some (k, d) → (∃ o', alook st.objs k = some o') ∧ (d.ref = true → ∃ o', alook st.objs d.num = some o'))

structure CI (st : St) (frm S T U : List Int) : Prop where
  sub : ∀ n ∈ S, ∃ o, alook st.objs n = some o
  nodS : S.Nodup
  nodT : (U ++ T).Nodup
  tS : ∀ n ∈ T, n ∈ S
  uS : ∀ n ∈ U, n ∈ S ∧ ∃ o, alook st.objs n = some o ∧ o.tbl = true
  done : ∀ n ∈ S, n ∈ T ∨ ∃ o, alook st.objs n = some o ∧ ((o.tbl = true ∧ n ∈ U) ∨ (o.tbl = false ∧ ∀ m ∈ refsOf (fldsOf st o), m ∈ S))
  min : ∀ Z, Clo st Z → (∀ n ∈ frm, Z n) → ∀ n ∈ S, Z n

section ci
variable {st : St} {frm S T U : List Int}

theorem names_of {n : Int} {o : Ob} (h : alook st.objs n = some o) : n ∈ st.objs.map (·.1) := List.mem_map.2 ⟨_, alook_some_mem h, rfl⟩

theorem CI.lenS (h : CI st frm S T U) : S.length ≤ st.objs.length := by
  have := nodup_le (B := st.objs.map (·.1)) h.nodS (fun a ha => by obtain ⟨o, ho⟩ := h.sub a ha; exact names_of ho)
  simpa using this

theorem CI.lenT (h : CI st frm S T U) : T.length ≤ st.objs.length :=
  Nat.le_trans (nodup_le (List.nodup_append.1 h.nodT).2.1 h.tS) h.lenS

theorem CI.lenU (h : CI st frm S T U) : U.length ≤ st.objs.length :=
  Nat.le_trans (nodup_le (List.nodup_append.1 h.nodT).1 (fun a ha => (h.uS a ha).1)) h.lenS

theorem CI.start (hf : ∀ n ∈ frm, ∃ o, alook st.objs n = some o) : CI st frm (sees ([], []) frm).1 (sees ([], []) frm).2 [] ∧ ∀ n ∈ frm, n ∈ (sees ([], []) frm).1 := by
  obtain ⟨X, h1, h2, h3, h4⟩ := sees_spec frm [] []
  rw [h1]
  simp only [List.nil_append] at *
  exact ⟨⟨fun n hn => hf n (h3 n hn).1, h2, by simpa using h2, fun n hn => hn, by simp, fun n hn => .inl hn, fun Z _ hz n hn => hz n (h3 n hn).1⟩, h4⟩

/-- More names seen, all of which what is seen leads to. -/
theorem CI.more (h : CI st frm S T U) (l : List Int) (hl : ∀ m ∈ l, ∃ o, alook st.objs m = some o) (hm : ∀ Z, Clo st Z → (∀ n ∈ frm, Z n) → ∀ m ∈ l, Z m) :
    CI st frm (sees (S, T) l).1 (sees (S, T) l).2 U ∧ ∃ X, (sees (S, T) l).1 = S ++ X ∧ (sees (S, T) l).2 = T ++ X ∧ ∀ x ∈ l, x ∈ S ++ X := by
  obtain ⟨X, h1, h2, h3, h4⟩ := sees_spec l S T
  rw [h1]
  refine ⟨⟨?_, ?_, ?_, ?_, ?_, ?_, ?_⟩, X, rfl, rfl, h4⟩
  · intro n hn
    rcases List.mem_append.1 hn with hn | hn
    · exact h.sub n hn
    · exact hl n (h3 n hn).1
  · rw [List.nodup_append]
    exact ⟨h.nodS, h2, fun a ha b hb => fun e => (h3 b hb).2 (e ▸ ha)⟩
  · rw [← List.append_assoc, List.nodup_append]
    refine ⟨h.nodT, h2, ?_⟩
    intro a ha b hb e
    subst e
    rcases List.mem_append.1 ha with ha | ha
    · exact (h3 a hb).2 (h.uS a ha).1
    · exact (h3 a hb).2 (h.tS a ha)
  · intro n hn
    rcases List.mem_append.1 hn with hn | hn
    · exact List.mem_append_left _ (h.tS n hn)
    · exact List.mem_append_right _ hn
  · intro n hn
    exact ⟨List.mem_append_left _ (h.uS n hn).1, (h.uS n hn).2⟩
  · intro n hn
    rcases List.mem_append.1 hn with hn | hn
    · rcases h.done n hn with hd | ⟨o, ho, hd⟩
      · exact .inl (List.mem_append_left _ hd)
      · refine .inr ⟨o, ho, ?_⟩
        rcases hd with hd | hd
        · exact .inl hd
        · exact .inr ⟨hd.1, fun m hm => List.mem_append_left _ (hd.2 m hm)⟩
    · exact .inl (List.mem_append_right _ hn)
  · intro Z hZ hz n hn
    rcases List.mem_append.1 hn with hn | hn
    · exact h.min Z hZ hz n hn
    · exact hm Z hZ hz n (h3 n hn).1

/-- The last one is a table. -/
theorem CI.table {n : Int} {o : Ob} (h : CI st frm S (T ++ [n]) U) (ho : alook st.objs n = some o) (ht : o.tbl = true) : CI st frm S T (U ++ [n]) := by
  refine ⟨h.sub, h.nodS, ?_, fun m hm => h.tS m (List.mem_append_left _ hm), ?_, ?_, h.min⟩
  · have := h.nodT
    refine this.perm ?_ 
    rw [List.append_assoc]
    exact List.Perm.append_left _ List.perm_append_comm
  · intro m hm
    rcases List.mem_append.1 hm with hm | hm
    · exact h.uS m hm
    · simp at hm; subst hm; exact ⟨h.tS _ (by simp), o, ho, ht⟩
  · intro m hm
    rcases h.done m hm with hd | ⟨o', ho', hd⟩
    · rcases List.mem_append.1 hd with hd | hd
      · exact .inl hd
      · simp at hd; subst hd; exact .inr ⟨o, ho, .inl ⟨ht, by simp⟩⟩
    · refine .inr ⟨o', ho', ?_⟩
      rcases hd with hd | hd
      · exact .inl ⟨hd.1, List.mem_append_left _ hd.2⟩
      · exact .inr hd

/-- The last one is plain. -/
theorem CI.plain {n : Int} {o : Ob} (hw : Whole st) (h : CI st frm S (T ++ [n]) U) (ho : alook st.objs n = some o) (ht : o.tbl = false) :
    CI st frm (sees (S, T) (refsOf (fldsOf st o))).1 (sees (S, T) (refsOf (fldsOf st o))).2 U ∧
      2 * (st.objs.length - (sees (S, T) (refsOf (fldsOf st o))).1.length) + (sees (S, T) (refsOf (fldsOf st o))).2.length < 2 * (st.objs.length - S.length) + (T ++ [n]).length := by
  obtain ⟨X, h1, h2, h3, h4⟩ := sees_spec (refsOf (fldsOf st o)) S T
  have hnS : n ∈ S := h.tS n (by simp)
  have hnT : n ∉ U ++ T := by
    have := h.nodT
    rw [← List.append_assoc, List.nodup_append] at this
    intro hn
    exact this.2.2 n hn n (by simp) rfl
  have hci : CI st frm (S ++ X) (T ++ X) U := by
    refine ⟨?_, ?_, ?_, ?_, ?_, ?_, ?_⟩
    · intro m hm
      rcases List.mem_append.1 hm with hm | hm
      · exact h.sub m hm
      · exact hw.1 n o ho m (h3 m hm).1
    · rw [List.nodup_append]
      exact ⟨h.nodS, h2, fun a ha b hb => fun e => (h3 b hb).2 (e ▸ ha)⟩
    · have h5 := h.nodT
      rw [← List.append_assoc, List.nodup_append] at h5
      rw [← List.append_assoc, List.nodup_append]
      refine ⟨h5.1, h2, ?_⟩
      intro a ha b hb e
      subst e
      rcases List.mem_append.1 ha with ha | ha
      · exact (h3 a hb).2 (h.uS a ha).1
      · exact (h3 a hb).2 (h.tS a (List.mem_append_left _ ha))
    · intro m hm
      rcases List.mem_append.1 hm with hm | hm
      · exact List.mem_append_left _ (h.tS m (List.mem_append_left _ hm))
      · exact List.mem_append_right _ hm
    · intro m hm
      exact ⟨List.mem_append_left _ (h.uS m hm).1, (h.uS m hm).2⟩
    · intro m hm
      rcases List.mem_append.1 hm with hm | hm
      · rcases h.done m hm with hd | ⟨o', ho', hd⟩
        · rcases List.mem_append.1 hd with hd | hd
          · exact .inl (List.mem_append_left _ hd)
          · simp at hd; subst hd; exact .inr ⟨o, ho, .inr ⟨ht, h4⟩⟩
        · refine .inr ⟨o', ho', ?_⟩
          rcases hd with hd | hd
          · exact .inl hd
          · exact .inr ⟨hd.1, fun x hx => List.mem_append_left _ (hd.2 x hx)⟩
      · exact .inl (List.mem_append_right _ hm)
    · intro Z hZ hz m hm
      rcases List.mem_append.1 hm with hm | hm
      · exact h.min Z hZ hz m hm
      · exact hZ.1 n o (h.min Z hZ hz n hnS) ho ht m (h3 m hm).1
  rw [h1]
  refine ⟨hci, ?_⟩
  have e1 := hci.lenS
  simp only [List.length_append, List.length_cons, List.length_nil] at *
  omega

/-- What is reached. -/
structure ReachS (st : St) (frm S : List Int) : Prop where
  sub : ∀ n ∈ S, ∃ o, alook st.objs n = some o
  roots : ∀ n ∈ frm, n ∈ S
  clo : Clo st (· ∈ S)
  min : ∀ Z, Clo st Z → (∀ n ∈ frm, Z n) → ∀ n ∈ S, Z n

/-- Nothing is left to look at, and the tables bring nothing. -/
theorem CI.reach (h : CI st frm S [] U) (hf : ∀ n ∈ frm, n ∈ S) (hu : ∀ n ∈ U, ∀ o, alook st.objs n = some o → ∀ k d, o.ent = some (k, d) → k ∈ S → d.ref = true → d.num ∈ S) : ReachS st frm S := by
  refine ⟨h.sub, hf, ⟨?_, ?_⟩, h.min⟩
  · intro n o hn ho ht m hm
    rcases h.done n hn with hd | ⟨o', ho', hd⟩
    · simp at hd
    · rw [ho] at ho'; cases ho'
      rcases hd with hd | hd
      · rw [ht] at hd; cases hd.1
      · exact hd.2 m hm
  · intro n o k d hn ho ht he hk hd
    rcases h.done n hn with hd' | ⟨o', ho', hd'⟩
    · simp at hd'
    · rw [ho] at ho'; cases ho'
      rcases hd' with hd' | hd'
      · exact hu n hd'.2 o ho k d he hk hd
      · rw [ht] at hd'; cases hd'.1
end ci
end Go.Proofs.Ytpjifaefchnmoaa
