/- Plain law: the state of the main phase with its handles; how many are remembered. -/
import Derived.Test.YtpjifaefchnmoaaSane
namespace Go.Proofs.Ytpjifaefchnmoaa

/-- Handles are the names, in the main phase. -/
def diag (k : Nat) : List (Int × Int) := (nms k).map fun n => (n, n)

theorem alook_diagL : ∀ (l : List Int) (n : Int), alook (l.map fun n => (n, n)) n = if n ∈ l then some n else none
  | [], n => rfl
  | a :: l, n => by
    simp only [List.map_cons, alook, alook_diagL l n, List.mem_cons]
    by_cases h : n = a <;> simp [h]

theorem alook_diag {k : Nat} {n : Int} (h0 : 0 ≤ n) (h1 : n < k) : alook (diag k) n = some n := by
  unfold diag
  rw [alook_diagL, if_pos (mem_nms.2 ⟨h0, h1⟩)]

theorem alook_diag_none {k : Nat} {n : Int} (h1 : (k : Int) ≤ n) : alook (diag k) n = none := by
  unfold diag
  rw [alook_diagL, if_neg (fun h => by have := (mem_nms.1 h).2; omega)]

theorem diag_succ (k : Nat) : diag (k + 1) = diag k ++ [((k : Int), (k : Int))] := by
  unfold diag
  rw [nms_succ, List.map_append]
  rfl

theorem diag_snd (k : Nat) : (diag k).map (·.2) = nms k := by
  unfold diag
  rw [List.map_map]
  conv => rhs; rw [← List.map_id (nms k)]
  rfl

theorem diag_len (k : Nat) : (diag k).length = k := by unfold diag; rw [List.length_map, nms_len]

/-- The main phase. -/
structure MP (st : St) (made : List Int) (to : List (Int × Int)) (i : Nat) : Prop where
  mi : MI st made to i
  hnd : st.hnd = diag made.length
  next : st.next = made.length
  free : st.free = []

section law4
variable {st : St} {made : List Int} {to : List (Int × Int)} {i : Nat}

theorem MP.mono (h : MP st made to i) {i' : Nat} (h1 : i ≤ i') (h2 : i' ≤ 60) : MP st made to i' := ⟨h.mi.mono h1 h2, h.hnd, h.next, h.free⟩

theorem MP.k60 (h : MP st made to i) : made.length ≤ 60 := Nat.le_trans h.mi.ki h.mi.i60

theorem MP.look (h : MP st made to i) {j : Nat} (hj : j < made.length) : alook st.hnd j = some (j : Int) := by
  rw [h.hnd]; exact alook_diag (by omega) (by omega)

theorem MP.roots (h : MP st made to i) : ∀ n ∈ st.hnd.map (·.2), ∃ o, alook st.objs n = some o := by
  intro n hn
  rw [h.hnd, diag_snd] at hn
  exact (h.mi.look n).2 (mem_nms.1 hn)

theorem MP.nh (h : MP st made to i) : st.hnd.length < 10000 := by rw [h.hnd, diag_len]; have := h.k60; omega

theorem MP.nobj (h : MP st made to i) : st.objs.length < 1000 := by rw [h.mi.len]; have := h.k60; omega

theorem MP.size (h : MP st made to i) : ∀ n o, alook st.objs n = some o → o.size ≤ 3 := fun n o ho => by have := (h.mi.obI ho).2.1; omega

theorem MP.plain (h : MP st made to i) : Plain st := by
  refine ⟨fun n o ho => ?_, fun n o ho => (h.mi.obI ho).1, fun n o ho => (h.mi.obI ho).2.2.1, fun n hn => ?_⟩
  · rw [h.hnd, diag_snd]
    exact mem_nms.2 ((h.mi.look n).1 ⟨o, ho⟩)
  · obtain ⟨o, ho, _⟩ := (h.mi.rem n).1 hn
    exact ⟨o, ho⟩

theorem MP.addOk (h : MP st made to i) : AddOk st 3 := by
  have hk := h.k60
  have h0 := h.mi.m0
  refine ⟨by rw [h.mi.young]; omega, by omega, by rw [h.mi.young]; decide, ?_, by rw [h.mi.names]; omega, by rw [h.mi.names]; omega, h.free, by rw [h.next]; omega, by rw [h.next]; omega, h.nh, by rw [h.mi.wsum, h.mi.full]; omega, by rw [h.mi.wsum]; omega⟩
  cases ho : alook st.objs st.names with
  | none => rfl
  | some o =>
    have := (h.mi.look st.names).1 ⟨o, ho⟩
    have := h.mi.names
    omega

theorem MP.make (h : MP st made to i) (hi : i < 60) (b : Nat) (tag m : Int) : MP (addSt st b false 2 [⟨false, tag⟩, ⟨false, m⟩, ⟨false, m + 1⟩]) (made ++ [m]) (to ++ [(-1, -1)]) (i + 1) := by
  refine ⟨h.mi.make hi b tag m false, ?_, ?_, h.free⟩
  · show aset st.hnd st.next st.names = _
    rw [h.hnd, h.next, h.mi.names, aset_of_none (alook_diag_none (by omega))]
    simp [diag_succ]
  · show st.next + 1 = _
    rw [h.next]; simp

theorem MP.set (h : MP st made to i) {j : Nat} {o : Ob} {t : Int × Int} (ho : alook st.objs j = some o) (ht : to[j]? = some t) {c : Nat} (hc : c < 2) {b : Int} (hb0 : 0 ≤ b) (hb : b < made.length) :
    MP (setSt st j o c ⟨true, b⟩) made (to.set j (putTo t c b)) i := by
  refine ⟨h.mi.set ho ht hc hb0 hb, ?_, ?_, ?_⟩
  · show (putWd st o c ⟨true, b⟩).hnd = _
    rw [← h.hnd]; unfold putWd; split <;> rfl
  · show (putWd st o c ⟨true, b⟩).next = _
    rw [← h.next]; unfold putWd; split <;> rfl
  · show (putWd st o c ⟨true, b⟩).free = _
    rw [← h.free]; unfold putWd; split <;> rfl

/-- What a fold of moves keeps. -/
theorem mv_same (sel : Ob → Bool) (st : St) (l : List Int) : ∀ cur : St, (l.foldl (mvA sel st) cur).hnd = cur.hnd ∧ (l.foldl (mvA sel st) cur).next = cur.next ∧ (l.foldl (mvA sel st) cur).free = cur.free := by
  induction l with
  | nil => intro cur; simp
  | cons n l ih =>
    intro cur
    simp only [List.foldl_cons]
    have h : (mvA sel st cur n).hnd = cur.hnd ∧ (mvA sel st cur n).next = cur.next ∧ (mvA sel st cur n).free = cur.free := by
      unfold mvA
      split
      · split <;> simp [moveSt]
      · simp
    have := ih (mvA sel st cur n)
    simp only [h] at this
    exact this

theorem MP.minor (h : MP st made to i) (hi : i < 60) {l : List Int} (hl : l.Perm (st.objs.map (·.1))) :
    MP (minorSt st l) made to (i + 1) ∧ ∀ n o, alook (minorSt st l).objs n = some o → o.old = true := by
  obtain ⟨h1, h2⟩ := h.mi.minor hi hl
  have hs := mv_same (fun o => !o.old) st l { st with m0 := [] }
  rw [← minorA_mv] at hs
  exact ⟨⟨h1, hs.1.trans h.hnd, hs.2.1.trans h.next, hs.2.2.trans h.free⟩, h2⟩

theorem MP.major (h : MP st made to i) (hi : i < 60) {S l : List Int} (hS : ReachS st (st.hnd.map (·.2)) S) (hl : l.Perm ((swept st S).objs.map (·.1))) :
    MP (settleSt (swept st S) l) made to (i + 1) ∧ ∀ n o, alook (settleSt (swept st S) l).objs n = some o → o.old = true := by
  obtain ⟨h1, h2⟩ := h.mi.major hi (fun n hn => hS.roots n (by rw [h.hnd, diag_snd, ← h.mi.keys]; exact hn)) hl
  have hs := mv_same (fun _ => true) (swept st S) l { swept st S with m0 := [], m1 := [] }
  rw [← moveA_mv] at hs
  exact ⟨⟨h1, hs.1.trans h.hnd, hs.2.1.trans h.next, hs.2.2.trans h.free⟩, h2⟩

theorem MI.oldOf (_h : MI st made to i) {j : Nat} {o : Ob} (ho : alook st.objs j = some o) : oldOf st j = o.old := by unfold Ytpjifaefchnmoaa.oldOf; rw [ho]

theorem MI.yng (h : MI st made to i) {x : Int} (h0 : 0 ≤ x) (h1 : x < made.length) : yng st x = !Ytpjifaefchnmoaa.oldOf st x.toNat := by
  obtain ⟨o, ho⟩ := (h.look x).2 ⟨h0, h1⟩
  have e : ((x.toNat : Nat) : Int) = x := by omega
  unfold Ytpjifaefchnmoaa.yng Ytpjifaefchnmoaa.oldOf
  rw [e, ho]

theorem MI.one (h : MI st made to i) {j : Nat} {o : Ob} (ho : alook st.objs j = some o) : ageOne st to j = (o.old && (refsOf (fldsOf st o)).any (Ytpjifaefchnmoaa.yng st)) := by
  obtain ⟨j', m, t, e, hm, ht⟩ := h.get ho
  have e' : j' = j := by omega
  subst e'
  have hf := (h.ob j' o ho).2.2.2.2 m t hm ht
  have hr := h.rng t (List.mem_of_getElem? ht)
  unfold ageOne
  rw [h.oldOf ho, ht]
  congr 1
  rw [hf, refsOf_fld, List.any_append]
  have hy : yUp st t 2 = (yF st t.1 || yF st t.2) := by
    unfold yUp
    rw [show List.range 2 = [0, 1] from rfl]
    simp [pairAt]
  show yUp st t 2 = _
  rw [hy]
  have hone : ∀ x : Int, x < made.length → yF st x = (if 0 ≤ x then [x] else []).any (Ytpjifaefchnmoaa.yng st) := by
    intro x hx
    by_cases h0 : 0 ≤ x
    · rw [if_pos h0]
      simp only [List.any_cons, List.any_nil, Bool.or_false]
      rw [h.yng h0 hx]
      unfold yF
      simp [h0]
    · rw [if_neg h0]
      unfold yF
      simp [h0]
  rw [hone _ hr.1, hone _ hr.2]

/-- As many are remembered as the law counts. -/
theorem MI.count (h : MI st made to i) : st.rem.length = ageCnt st to made.length := by
  have hB : ageCnt st to made.length = (((List.range made.length).filter (ageOne st to)).map Int.ofNat).length := by
    unfold ageCnt
    rw [List.length_map, List.countP_eq_length_filter]
  rw [hB]
  have hnd : (((List.range made.length).filter (ageOne st to)).map Int.ofNat).Nodup := by
    rw [List.Nodup, List.pairwise_map]
    exact (List.nodup_range.filter _).imp fun {a b} h e => h (Int.ofNat.inj e)
  have hiff : ∀ n, n ∈ st.rem ↔ n ∈ ((List.range made.length).filter (ageOne st to)).map Int.ofNat := by
    intro n
    rw [h.rem n]
    constructor
    · rintro ⟨o, ho, h1, h2⟩
      obtain ⟨j, m, t, rfl, hm, ht⟩ := h.get ho
      refine List.mem_map.2 ⟨j, List.mem_filter.2 ⟨List.mem_range.2 (by have := (h.look j).1 ⟨o, ho⟩; omega), ?_⟩, rfl⟩
      rw [h.one ho, h1, h2]; rfl
    · intro hn
      obtain ⟨j, hj, rfl⟩ := List.mem_map.1 hn
      obtain ⟨hj1, hj2⟩ := List.mem_filter.1 hj
      rw [List.mem_range] at hj1
      obtain ⟨o, ho⟩ := (h.look (j : Int)).2 ⟨by omega, by omega⟩
      rw [h.one ho, Bool.and_eq_true] at hj2
      exact ⟨o, ho, hj2.1, hj2.2⟩
  exact Nat.le_antisymm (nodup_le h.remN fun n hn => (hiff n).1 hn) (nodup_le hnd fun n hn => (hiff n).2 hn)

theorem MI.allOld (h : MI st made to i) (ha : ∀ n o, alook st.objs n = some o → o.old = true) : ageAll st made.length = true := by
  unfold ageAll
  rw [List.all_eq_true]
  intro j hj
  rw [List.mem_range] at hj
  obtain ⟨o, ho⟩ := (h.look (j : Int)).2 ⟨by omega, by omega⟩
  rw [h.oldOf ho]
  exact ha _ o ho
end law4
end Go.Proofs.Ytpjifaefchnmoaa
