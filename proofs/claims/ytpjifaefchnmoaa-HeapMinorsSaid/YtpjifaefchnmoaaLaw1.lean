/- Plain law: what the objects of the main phase hold, and how Make and Set keep it. -/
import Derived.Test.YtpjifaefchnmoaaNew
namespace Go.Proofs.Ytpjifaefchnmoaa

/-- A field as the law keeps it: a reference, or the number that was laid. -/
def fld (t m : Int) : Wd := if 0 ≤ t then ⟨true, t⟩ else ⟨false, m⟩

/-- The names 0, 1, .. -/
def nms (k : Nat) : List Int := (List.range k).map Int.ofNat

theorem mem_nms {k : Nat} {n : Int} : n ∈ nms k ↔ 0 ≤ n ∧ n < k := by
  unfold nms
  simp only [List.mem_map, List.mem_range]
  constructor
  · rintro ⟨j, hj, rfl⟩
    simp; omega
  · rintro ⟨h1, h2⟩
    exact ⟨n.toNat, by omega, by simp; omega⟩

theorem nms_succ (k : Nat) : nms (k + 1) = nms k ++ [(k : Int)] := by
  unfold nms
  rw [List.range_succ, List.map_append]
  rfl

theorem nms_nodup (k : Nat) : (nms k).Nodup := by
  unfold nms
  rw [List.Nodup, List.pairwise_map]
  exact List.nodup_range.imp fun {a b} h e => h (Int.ofNat.inj e)

theorem nms_len (k : Nat) : (nms k).length = k := by simp [nms]

/-- The state of the main phase: made: what was laid in each object; to: what its two fields refer to (or -1). -/
structure MI (st : St) (made : List Int) (to : List (Int × Int)) (i : Nat) : Prop where
  klen : to.length = made.length
  ki : made.length ≤ i
  i60 : i ≤ 60
  keys : st.objs.map (·.1) = nms made.length
  names : st.names = made.length
  young : st.young = 2000
  full : st.full = 6000
  ob : ∀ (j : Nat) o, alook st.objs j = some o → o.tbl = false ∧ o.size = 2 ∧ o.ent = none ∧ o.at_ + 3 ≤ (rowOf st o).length ∧
    ∀ m t, made[j]? = some m → to[j]? = some t → fldsOf st o = [fld t.1 m, fld t.2 (m + 1)]
  disj : ∀ n n' o o', alook st.objs n = some o → alook st.objs n' = some o' → n ≠ n' → o.old = o'.old → o.at_ + 3 ≤ o'.at_ ∨ o'.at_ + 3 ≤ o.at_
  m0 : st.m0.length ≤ 3 * made.length
  m1 : st.m1.length ≤ 180 * i
  rng : ∀ t ∈ to, t.1 < made.length ∧ t.2 < made.length
  remN : st.rem.Nodup
  rem : ∀ n, n ∈ st.rem ↔ ∃ o, alook st.objs n = some o ∧ o.old = true ∧ (refsOf (fldsOf st o)).any (yng st) = true

section law1
variable {st : St} {made : List Int} {to : List (Int × Int)} {i : Nat}

theorem keys_look {α : Type} {l : List (Int × α)} {k : Nat} (h : l.map (·.1) = nms k) (n : Int) : (∃ o, alook l n = some o) ↔ 0 ≤ n ∧ n < k := by
  rw [← mem_nms, ← h]
  constructor
  · rintro ⟨o, ho⟩
    exact List.mem_map.2 ⟨_, alook_some_mem ho, rfl⟩
  · intro hm
    cases ho : alook l n with
    | some o => exact ⟨o, rfl⟩
    | none =>
      rw [alook_none] at ho
      obtain ⟨p, hp, e⟩ := List.mem_map.1 hm
      exact absurd e (ho p hp)

theorem MI.look (h : MI st made to i) (n : Int) : (∃ o, alook st.objs n = some o) ↔ 0 ≤ n ∧ n < made.length := keys_look h.keys n

theorem MI.nodup (h : MI st made to i) : (st.objs.map (·.1)).Nodup := by rw [h.keys]; exact nms_nodup _

theorem MI.len (h : MI st made to i) : st.objs.length = made.length := by
  have := congrArg List.length h.keys
  rwa [List.length_map, nms_len] at this

theorem MI.get (h : MI st made to i) {n : Int} {o : Ob} (ho : alook st.objs n = some o) : ∃ (j : Nat) (m : Int) (t : Int × Int), n = j ∧ made[j]? = some m ∧ to[j]? = some t := by
  obtain ⟨h1, h2⟩ := (h.look n).1 ⟨o, ho⟩
  refine ⟨n.toNat, made[n.toNat]'(by omega), to[n.toNat]'(by have := h.klen; omega), by omega, ?_, ?_⟩
  · exact List.getElem?_eq_getElem _
  · exact List.getElem?_eq_getElem _

theorem MI.obI (h : MI st made to i) {n : Int} {o : Ob} (ho : alook st.objs n = some o) : o.tbl = false ∧ o.size = 2 ∧ o.ent = none ∧ o.at_ + 3 ≤ (rowOf st o).length := by
  obtain ⟨j, _, _, rfl, _⟩ := h.get ho
  have := h.ob j o ho
  exact ⟨this.1, this.2.1, this.2.2.1, this.2.2.2.1⟩

theorem refsOf_fld (a b m m' : Int) : refsOf [fld a m, fld b m'] = (if 0 ≤ a then [a] else []) ++ (if 0 ≤ b then [b] else []) := by
  unfold refsOf fld
  by_cases h1 : 0 ≤ a <;> by_cases h2 : 0 ≤ b <;> simp [h1, h2]

theorem MI.refs (h : MI st made to i) {n : Int} {o : Ob} (ho : alook st.objs n = some o) : ∀ m ∈ refsOf (fldsOf st o), 0 ≤ m ∧ m < made.length := by
  obtain ⟨j, m, t, rfl, hm, ht⟩ := h.get ho
  have hf := (h.ob j o ho).2.2.2.2 m t hm ht
  have hr := h.rng t (List.mem_of_getElem? ht)
  intro x hx
  rw [hf, refsOf_fld] at hx
  rcases List.mem_append.1 hx with hx | hx
  · split at hx
    · simp at hx; subst hx; exact ⟨by assumption, hr.1⟩
    · cases hx
  · split at hx
    · simp at hx; subst hx; exact ⟨by assumption, hr.2⟩
    · cases hx

theorem MI.whole (h : MI st made to i) : Whole st :=
  ⟨fun _ _ ho m hm => (h.look m).2 (h.refs ho m hm), fun n o k d ho he => by rw [(h.obI ho).2.2.1] at he; cases he⟩

theorem MI.flds (h : MI st made to i) : Flds st := by
  refine ⟨fun n o ho => ?_, ?_, ?_⟩
  · obtain ⟨_, h2, _, h4⟩ := h.obI ho
    omega
  · have h1 := h.m0; have h2 := h.ki; have h3 := h.i60; omega
  · have h1 := h.m1; have h3 := h.i60; omega

theorem wsum_two : ∀ (l : List (Int × Ob)), (∀ p ∈ l, p.2.size = 2 ∧ p.2.ent = none) → wsum l = 3 * l.length
  | [], _ => rfl
  | p :: l, h => by
    have h1 := h p List.mem_cons_self
    have h2 := wsum_two l (fun q hq => h q (List.mem_cons_of_mem _ hq))
    have h3 := wsum_mid [] l p
    simp only [List.nil_append] at h3
    rw [h3, h2, h1.1, h1.2]
    simp [entCount]
    omega

theorem MI.wsum (h : MI st made to i) : wsum st.objs = 3 * made.length := by
  rw [wsum_two, h.len]
  intro p hp
  have := h.obI (alook_of_mem h.nodup hp)
  exact ⟨this.2.1, this.2.2.1⟩

theorem fldsOf_congr {st st' : St} {o : Ob} (h : ∀ x, o.at_ ≤ x → x < o.at_ + 1 + o.size → (rowOf st' o)[x]? = (rowOf st o)[x]?) : fldsOf st' o = fldsOf st o := by
  unfold fldsOf
  apply List.ext_getElem?
  intro x
  rw [List.getElem?_take, List.getElem?_take]
  split
  · rw [List.getElem?_drop, List.getElem?_drop]
    exact h _ (by omega) (by omega)
  · rfl

/-! ### Make -/
theorem MI.make (h : MI st made to i) (hi : i < 60) (b : Nat) (tag : Int) (m : Int) (hh : Bool) :
    MI (addSt st b false 2 [⟨hh, tag⟩, ⟨false, m⟩, ⟨false, m + 1⟩]) (made ++ [m]) (to ++ [(-1, -1)]) (i + 1) := by
  have hnone : alook st.objs st.names = none := by
    cases ho : alook st.objs st.names with
    | none => rfl
    | some o =>
      have := (h.look st.names).1 ⟨o, ho⟩
      have := h.names
      omega
  have hob : (addSt st b false 2 [⟨hh, tag⟩, ⟨false, m⟩, ⟨false, m + 1⟩]).objs = st.objs ++ [(st.names, newOb b false 2 st.m0.length)] := aset_of_none hnone
  have hlk : ∀ n, alook (addSt st b false 2 [⟨hh, tag⟩, ⟨false, m⟩, ⟨false, m + 1⟩]).objs n = if n = st.names then some (newOb b false 2 st.m0.length) else alook st.objs n := fun n => alook_aset _ _ _ _
  have hkl : made.length < 60 := by have := h.ki; omega
  -- the old ones hold what they held
  have hrow : ∀ o, o.at_ + 3 ≤ (rowOf st o).length → (rowOf st o).length ≤ (rowOf (addSt st b false 2 [⟨hh, tag⟩, ⟨false, m⟩, ⟨false, m + 1⟩]) o).length ∧
      ∀ x, x < (rowOf st o).length → (rowOf (addSt st b false 2 [⟨hh, tag⟩, ⟨false, m⟩, ⟨false, m + 1⟩]) o)[x]? = (rowOf st o)[x]? := by
    intro o _
    unfold rowOf
    cases o.old
    · refine ⟨by simp [addSt], fun x hx => ?_⟩
      simp only [Bool.false_eq_true, if_false, addSt] at hx ⊢
      rw [List.getElem?_append_left hx]
    · exact ⟨by simp [addSt], fun x _ => rfl⟩
  have hfl : ∀ n o, alook st.objs n = some o → fldsOf (addSt st b false 2 [⟨hh, tag⟩, ⟨false, m⟩, ⟨false, m + 1⟩]) o = fldsOf st o := by
    intro n o ho
    obtain ⟨_, h2, _, h4⟩ := h.obI ho
    exact fldsOf_congr fun x _ hx => (hrow o h4).2 x (by omega)
  have hnew : fldsOf (addSt st b false 2 [⟨hh, tag⟩, ⟨false, m⟩, ⟨false, m + 1⟩]) (newOb b false 2 st.m0.length) = [fld (-1) m, fld (-1) (m + 1)] := by
    show (((st.m0 ++ [⟨hh, tag⟩, ⟨false, m⟩, ⟨false, m + 1⟩] : List Wd).drop (st.m0.length + 1)).take 2) = _
    rw [List.drop_append, List.drop_eq_nil_of_le (by omega)]
    simp [fld]
  have hyng : ∀ n : Int, 0 ≤ n → n < made.length → yng (addSt st b false 2 [⟨hh, tag⟩, ⟨false, m⟩, ⟨false, m + 1⟩]) n = yng st n := by
    intro n h1 h2
    unfold yng
    rw [hlk, if_neg (by have := h.names; omega)]
  have hnr : st.names ∉ st.rem := fun hm => by
    obtain ⟨o, ho, _⟩ := (h.rem _).1 hm
    rw [hnone] at ho; cases ho
  refine ⟨by simp [h.klen], by have := h.ki; simp; omega, by omega, ?_, ?_, h.young, h.full, ?_, ?_, ?_, ?_, ?_, ?_, ?_⟩
  · rw [hob, List.map_append, h.keys]
    simp only [List.length_append, List.length_cons, List.length_nil, Nat.zero_add, nms_succ, List.map_cons, List.map_nil, h.names]
  · show st.names + 1 = _
    rw [h.names]; simp
  · intro j o ho
    rw [hlk] at ho
    split at ho
    · rename_i e
      cases ho
      refine ⟨rfl, rfl, rfl, ?_, ?_⟩
      · show st.m0.length + 3 ≤ (st.m0 ++ [⟨hh, tag⟩, ⟨false, m⟩, ⟨false, m + 1⟩] : List Wd).length
        simp
      · intro m' t hm ht
        have hj : j = made.length := by have := h.names; omega
        subst hj
        simp at hm
        rw [← h.klen] at ht
        simp at ht
        subst hm; subst ht
        exact hnew
    · rename_i e
      obtain ⟨h1, h2, h3, h4, h5⟩ := h.ob j o ho
      refine ⟨h1, h2, h3, Nat.le_trans h4 (hrow o h4).1, ?_⟩
      intro m' t hm ht
      have hj := (h.look j).1 ⟨o, ho⟩
      rw [List.getElem?_append_left (by omega)] at hm
      rw [List.getElem?_append_left (by have := h.klen; omega)] at ht
      rw [hfl _ o ho]
      exact h5 m' t hm ht
  · intro n n' o o' ho ho' hne hold
    rw [hlk] at ho ho'
    split at ho
    · cases ho
      split at ho'
      · omega
      · right
        have h4 := (h.obI ho').2.2.2
        have : o'.old = false := hold.symm
        simp only [rowOf, this, Bool.false_eq_true, if_false] at h4
        exact h4
    · split at ho'
      · cases ho'
        left
        have h4 := (h.obI ho).2.2.2
        have : o.old = false := hold
        simp only [rowOf, this, Bool.false_eq_true, if_false] at h4
        exact h4
      · exact h.disj n n' o o' ho ho' hne hold
  · show (st.m0 ++ [⟨hh, tag⟩, ⟨false, m⟩, ⟨false, m + 1⟩] : List Wd).length ≤ _
    have := h.m0
    simp; omega
  · show st.m1.length ≤ _
    have := h.m1
    omega
  · intro t ht
    rcases List.mem_append.1 ht with ht | ht
    · have := h.rng t ht
      simp; omega
    · simp at ht; subst ht
      simp; omega
  · show (st.rem.erase st.names).Nodup
    exact h.remN.erase _
  · intro n
    show n ∈ st.rem.erase st.names ↔ _
    rw [List.erase_of_not_mem hnr, h.rem n]
    constructor
    · rintro ⟨o, ho, h1, h2⟩
      have hn : n ≠ st.names := by rintro rfl; rw [hnone] at ho; cases ho
      refine ⟨o, by rw [hlk, if_neg hn]; exact ho, h1, ?_⟩
      rw [hfl n o ho]
      rw [List.any_eq_true] at h2 ⊢
      obtain ⟨x, hx, hy⟩ := h2
      have := h.refs ho x hx
      exact ⟨x, hx, by rw [hyng x this.1 this.2]; exact hy⟩
    · rintro ⟨o, ho, h1, h2⟩
      rw [hlk] at ho
      split at ho
      · cases ho; cases h1
      · refine ⟨o, ho, h1, ?_⟩
        rw [hfl n o ho] at h2
        rw [List.any_eq_true] at h2 ⊢
        obtain ⟨x, hx, hy⟩ := h2
        have := h.refs ho x hx
        exact ⟨x, hx, by rw [hyng x this.1 this.2] at hy; exact hy⟩
end law1
end Go.Proofs.Ytpjifaefchnmoaa
