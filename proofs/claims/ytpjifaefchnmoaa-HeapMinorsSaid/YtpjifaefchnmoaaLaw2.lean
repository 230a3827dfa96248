/- Plain law: Set, and what a collection leaves. -/
import Derived.Test.YtpjifaefchnmoaaLaw1
namespace Go.Proofs.Ytpjifaefchnmoaa

section law2
variable {st : St} {made : List Int} {to : List (Int × Int)} {i : Nat}

theorem MI.mono (h : MI st made to i) {i' : Nat} (h1 : i ≤ i') (h2 : i' ≤ 60) : MI st made to i' :=
  { h with ki := Nat.le_trans h.ki h1, i60 := h2, m1 := Nat.le_trans h.m1 (by omega) }

theorem mem_insR {l : List Int} {n m : Int} : m ∈ insR l n ↔ m ∈ l ∨ m = n := by
  unfold insR
  split
  · rename_i h
    constructor
    · exact .inl
    · rintro (h1 | rfl)
      · exact h1
      · exact h
  · simp

theorem insR_nodup {l : List Int} (h : l.Nodup) (n : Int) : (insR l n).Nodup := by
  unfold insR
  split
  · exact h
  · rename_i hn
    rw [List.nodup_append]
    refine ⟨h, by simp, ?_⟩
    intro a ha b hb e
    simp at hb; subst hb; subst e
    exact hn ha

/-- The two fields, one of them written. -/
def putTo (t : Int × Int) (c : Nat) (b : Int) : Int × Int := if c = 0 then (b, t.2) else (t.1, b)

theorem MI.set (h : MI st made to i) {j : Nat} {o : Ob} {t : Int × Int} (ho : alook st.objs j = some o) (ht : to[j]? = some t) {c : Nat} (hc : c < 2) {b : Int} (hb0 : 0 ≤ b) (hb : b < made.length) :
    MI (setSt st j o c ⟨true, b⟩) made (to.set j (putTo t c b)) i := by
  obtain ⟨h1, h2, h3, h4⟩ := h.obI ho
  have hobj : (putWd st o c ⟨true, b⟩).objs = st.objs := putWd_objs st o c ⟨true, b⟩
  -- the rows
  have hrowg : ∀ o' : Ob, ∀ x, (o'.old = o.old → x ≠ o.at_ + 1 + c) → (rowOf (putWd st o c ⟨true, b⟩) o')[x]? = (rowOf st o')[x]? := by
    intro o' x hx
    unfold putWd rowOf
    cases ho1 : o.old <;> cases ho2 : o'.old
    · simp only [Bool.false_eq_true, if_false]
      rw [List.getElem?_set, if_neg (fun e => hx (by rw [ho1, ho2]) e.symm)]
    · simp
    · simp
    · simp only [if_true]
      rw [List.getElem?_set, if_neg (fun e => hx (by rw [ho1, ho2]) e.symm)]
  have hlen : ∀ o' : Ob, (rowOf (putWd st o c ⟨true, b⟩) o').length = (rowOf st o').length := by
    intro o'
    unfold putWd rowOf
    cases o.old <;> cases o'.old <;> simp
  have hfl : ∀ n o', alook st.objs n = some o' → n ≠ j → fldsOf (putWd st o c ⟨true, b⟩) o' = fldsOf st o' := by
    intro n o' ho' hn
    obtain ⟨_, g2, _, g4⟩ := h.obI ho'
    refine fldsOf_congr fun x hx1 hx2 => hrowg o' x fun hold e => ?_
    rcases h.disj n j o' o ho' ho hn hold with hd | hd <;> omega
  have hat : (rowOf (putWd st o c ⟨true, b⟩) o)[o.at_ + 1 + c]? = some ⟨true, b⟩ := by
    unfold putWd rowOf
    unfold rowOf at h4
    cases ho1 : o.old
    · simp only [ho1, Bool.false_eq_true, if_false] at h4 ⊢
      rw [List.getElem?_set, if_pos rfl, if_pos (by omega)]
    · simp only [ho1, if_true] at h4 ⊢
      rw [List.getElem?_set, if_pos rfl, if_pos (by omega)]
  obtain ⟨m, hm⟩ : ∃ m, made[j]? = some m := ⟨_, List.getElem?_eq_getElem (by have := (h.look j).1 ⟨o, ho⟩; omega)⟩
  have hold := (h.ob j o ho).2.2.2.2 m t hm ht
  have hfj : fldsOf (putWd st o c ⟨true, b⟩) o = [fld (putTo t c b).1 m, fld (putTo t c b).2 (m + 1)] := by
    have hg : ∀ x, x < 2 → (fldsOf st o)[x]? = (rowOf st o)[o.at_ + 1 + x]? := fun x hx => by
      unfold fldsOf
      rw [List.getElem?_take, if_pos (by omega), List.getElem?_drop]
    have hg' : ∀ x, x < 2 → (fldsOf (putWd st o c ⟨true, b⟩) o)[x]? = (rowOf (putWd st o c ⟨true, b⟩) o)[o.at_ + 1 + x]? := fun x hx => by
      unfold fldsOf
      rw [List.getElem?_take, if_pos (by omega), List.getElem?_drop]
    have hl : (fldsOf (putWd st o c ⟨true, b⟩) o).length = 2 := by
      rw [flds_len (by rw [hlen]; omega), h2]
    have hfb : ∀ m', fld b m' = ⟨true, b⟩ := fun m' => by unfold fld; rw [if_pos hb0]
    apply List.ext_getElem?
    intro x
    match x with
    | 0 =>
      rw [hg' 0 (by omega)]
      by_cases hc0 : c = 0
      · subst hc0
        rw [hat]; simp [putTo, hfb]
      · rw [hrowg o _ (fun _ => by omega), ← hg 0 (by omega), hold]
        simp [putTo, hc0]
    | 1 =>
      rw [hg' 1 (by omega)]
      by_cases hc0 : c = 0
      · rw [hrowg o _ (fun _ => by omega), ← hg 1 (by omega), hold]
        simp [putTo, hc0]
      · have : c = 1 := by omega
        subst this
        rw [hat]; simp [putTo, hfb]
    | x + 2 =>
      rw [List.getElem?_eq_none (by omega), List.getElem?_eq_none (by simp)]
  have hyng : ∀ n, yng (putWd st o c ⟨true, b⟩) n = yng st n := fun n => by unfold yng; rw [hobj]
  have hall : allRefs (putWd st o c ⟨true, b⟩) o = refsOf (fldsOf (putWd st o c ⟨true, b⟩) o) := by simp [allRefs, h3, entRefs]
  have hrm : (putWd st o c ⟨true, b⟩).rem = st.rem := by unfold putWd; split <;> rfl
  refine ⟨by simp [h.klen], h.ki, h.i60, ?_, ?_, ?_, ?_, ?_, ?_, ?_, ?_, ?_, ?_, ?_⟩
  · show (putWd st o c ⟨true, b⟩).objs.map (·.1) = _
    rw [hobj]; exact h.keys
  · show (putWd st o c ⟨true, b⟩).names = _
    rw [← h.names]; unfold putWd; split <;> rfl
  · show (putWd st o c ⟨true, b⟩).young = _
    rw [← h.young]; unfold putWd; split <;> rfl
  · show (putWd st o c ⟨true, b⟩).full = _
    rw [← h.full]; unfold putWd; split <;> rfl
  · intro j' o' ho'
    have ho2 : alook st.objs j' = some o' := by rw [← hobj]; exact ho'
    obtain ⟨g1, g2, g3, g4, g5⟩ := h.ob j' o' ho2
    refine ⟨g1, g2, g3, by show _ ≤ (rowOf (putWd st o c ⟨true, b⟩) o').length; rw [hlen]; exact g4, ?_⟩
    intro m' t' hm' ht'
    show fldsOf (putWd st o c ⟨true, b⟩) o' = _
    by_cases e : j' = j
    · subst e
      rw [ho] at ho2; cases ho2
      rw [hm] at hm'; cases hm'
      rw [List.getElem?_set, if_pos rfl, if_pos (List.getElem?_eq_some_iff.1 ht).1] at ht'
      cases ht'
      exact hfj
    · rw [List.getElem?_set, if_neg (fun e' => e e'.symm)] at ht'
      rw [hfl _ o' ho2 (by omega)]
      exact g5 m' t' hm' ht'
  · intro n n' o1 o2 ho1 ho2 hne hold
    refine h.disj n n' o1 o2 ?_ ?_ hne hold
    · rw [← hobj]; exact ho1
    · rw [← hobj]; exact ho2
  · show (putWd st o c ⟨true, b⟩).m0.length ≤ _
    have := h.m0
    unfold putWd; split <;> simpa using this
  · show (putWd st o c ⟨true, b⟩).m1.length ≤ _
    have := h.m1
    unfold putWd; split <;> simpa using this
  · intro t' ht'
    rcases List.mem_or_eq_of_mem_set ht' with ht' | rfl
    · exact h.rng t' ht'
    · have := h.rng t (List.mem_of_getElem? ht)
      unfold putTo; split <;> simp <;> omega
  · show (noteRem (putWd st o c ⟨true, b⟩) j o).Nodup
    unfold noteRem
    rw [hrm]
    split
    · exact insR_nodup h.remN _
    · exact h.remN.erase _
  · intro n
    show n ∈ noteRem (putWd st o c ⟨true, b⟩) j o ↔ ∃ o', alook (putWd st o c ⟨true, b⟩).objs n = some o' ∧ o'.old = true ∧ (refsOf (fldsOf (putWd st o c ⟨true, b⟩) o')).any (yng (putWd st o c ⟨true, b⟩)) = true
    rw [hobj]
    have hyf : yng (putWd st o c ⟨true, b⟩) = yng st := funext hyng
    rw [hyf]
    unfold noteRem
    rw [hall, hrm, hyf]
    by_cases e : n = j
    · subst e
      constructor
      · intro hm
        split at hm
        · rename_i hc1
          rw [Bool.and_eq_true] at hc1
          exact ⟨o, ho, hc1.1, hc1.2⟩
        · exact absurd hm (List.Nodup.not_mem_erase h.remN)
      · rintro ⟨o', ho', g1, g2⟩
        rw [ho] at ho'; cases ho'
        rw [if_pos (by rw [Bool.and_eq_true]; exact ⟨g1, g2⟩)]
        exact mem_insR.2 (.inr rfl)
    · have hiff : (n ∈ if (o.old && (refsOf (fldsOf (putWd st o c ⟨true, b⟩) o)).any (yng st)) = true then insR st.rem j else st.rem.erase j) ↔ n ∈ st.rem := by
        split
        · rw [mem_insR]; simp [e]
        · rw [List.mem_erase_of_ne e]
      rw [hiff, h.rem n]
      constructor
      · rintro ⟨o', ho', g1, g2⟩
        exact ⟨o', ho', g1, by rw [hfl n o' ho' e]; exact g2⟩
      · rintro ⟨o', ho', g1, g2⟩
        exact ⟨o', ho', g1, by rw [hfl n o' ho' e] at g2; exact g2⟩
end law2
end Go.Proofs.Ytpjifaefchnmoaa
