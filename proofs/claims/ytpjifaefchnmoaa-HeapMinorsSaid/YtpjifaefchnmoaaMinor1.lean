/- What minor leans on: calls that change nothing once all young ones were seen; the nursery given up; what is moved. -/
import Derived.Test.YtpjifaefchnmoaaMS
namespace Go.Proofs.Ytpjifaefchnmoaa
open Go.RowKit

/-- What minor reads of the blocks that it made, when the roots have been handed over. -/
structure MF (F : Nat → Prop) (L : Lay) (st : St) (cb pb wb sb : Nat) (S : List Int) (tv : Value) (w : World) : Prop where
  R : Rep F L st w
  c : w.heap[cb]? = some (.cells #[ptr L.hb] 87 (0, 0))
  p : w.heap[pb]? = some (.cells #[ptr wb] 88 (0, 0))
  wk : w.heap[wb]? = some (.cells #[.map (some sb), tv] 90 (0, 0))
  seen : IMap w sb (S.map fun n => (n, .bool true))
  fresh : ¬ F cb ∧ ¬ F pb ∧ ¬ F wb ∧ ¬ F sb

/-- Nothing but plain objects, all of them held. -/
structure Plain (st : St) : Prop where
  held : ∀ n o, alook st.objs n = some o → n ∈ st.hnd.map (·.2)
  tbl : ∀ n o, alook st.objs n = some o → o.tbl = false
  ent : ∀ n o, alook st.objs n = some o → o.ent = none
  rem : ∀ n ∈ st.rem, ∃ o, alook st.objs n = some o

section minor1
variable {F G : Nat → Prop} {L : Lay} {st : St} {w w' : World} {S : List Int} {cb pb wb sb : Nat} {tv : Value}

theorem MF.below (M : MF F L st cb pb wb sb S tv w) (h : Below w.heap.size w w') : MF F L st cb pb wb sb S tv w' :=
  ⟨M.R.below' h, Below.get h M.c (lt_of_blk M.c), Below.get h M.p (lt_of_blk M.p), Below.get h M.wk (lt_of_blk M.wk), M.seen.below h M.seen.lt, M.fresh⟩

theorem MF.ext (M : MF F L st cb pb wb sb S tv w) (h : Ext G w w') (hF : ∀ k, F k → ¬ G k) (hc : ¬ G cb) (hp : ¬ G pb) (hw : ¬ G wb) (hs : ¬ G sb) : MF F L st cb pb wb sb S tv w' :=
  ⟨M.R.ext h hF, h.get M.c hc, h.get M.p hp, h.get M.wk hw, M.seen.ext h hs, M.fresh⟩

theorem MF.call (M : MF F L st cb pb wb sb S tv w) (hS : ∀ n, yng st n = true → n ∈ S) (n : Int) :
    Calls Try.prog 40 #[.int .i64 n, .pointer (some ⟨cb, 0, none⟩), .pointer (some ⟨pb, 0, none⟩)] w fun e w'' => e = .returned (.tuple #[]) ∧ w'' = w :=
  see40_done (wb := wb) (sb := sb) (by rw [cell_of M.c]; rfl) (by rw [cell_of M.p]; rfl) (by rw [cell_of M.wk]; rfl) M.seen M.R hS n

theorem MF.all (M : MF F L st cb pb wb sb S tv w) (hS : ∀ n, yng st n = true → n ∈ S) {n : Int} {o : Ob} (h : alook st.objs n = some o) (hfl : Flds st) (he : o.ent = none) :
    Calls Try.prog 44 #[.pointer (some ⟨L.hb, 0, none⟩), .pointer (some ⟨o.b, 0, none⟩), .func (.func 40) #[] #[.pointer (some ⟨cb, 0, none⟩), .pointer (some ⟨pb, 0, none⟩)]] w fun e w' => e = .returned (.tuple #[]) ∧ Below w.heap.size w w' :=
  all_none M.R h (hfl.1 _ _ h) (by have := hfl.row o; omega) (.inr (.inl ⟨cb, pb, rfl, rfl, rfl⟩)) (fun _ w' => Below w.heap.size w w') w.heap.size M.R.lt (fun _ _ h => h) (fun _ w' w'' h h' => h.trans (h'.mono h.size)) he
    (fun l m r w' _ hb => ((M.below hb).call hS m).mono fun e w'' ⟨h1, h2⟩ => ⟨h1, h2 ▸ hb⟩) w (Below.refl _ _)

theorem MF.refs (M : MF F L st cb pb wb sb S tv w) (hS : ∀ n, yng st n = true → n ∈ S) {n : Int} {o : Ob} (h : alook st.objs n = some o) (hfl : Flds st) :
    Calls Try.prog 45 #[.pointer (some ⟨L.hb, 0, none⟩), .pointer (some ⟨o.b, 0, none⟩), .func (.func 40) #[] #[.pointer (some ⟨cb, 0, none⟩), .pointer (some ⟨pb, 0, none⟩)]] w fun e w' => e = .returned (.tuple #[]) ∧ Below w.heap.size w w' :=
  refs_any M.R h (hfl.1 _ _ h) (by have := hfl.row o; omega) (.inr (.inl ⟨cb, pb, rfl, rfl, rfl⟩)) (fun _ w' => Below w.heap.size w w') w.heap.size M.R.lt (fun _ _ h => h) (fun _ w' w'' h h' => h.trans (h'.mono h.size))
    (fun l m r w' _ hb => ((M.below hb).call hS m).mono fun e w'' ⟨h1, h2⟩ => ⟨h1, h2 ▸ hb⟩) w (Below.refl _ _)

/-! ### the nursery is given up -/
theorem Rep.reset0 (R : Rep F L st w) : Rep (Used { L with s0 := .slice none 0 0 } { st with m0 := [] }) { L with s0 := .slice none 0 0 } { st with m0 := [] } (w.setCell ⟨L.hb, 2, none⟩ (.slice none 0 0)) ∧ Ext (· = L.hb) w (w.setCell ⟨L.hb, 2, none⟩ (.slice none 0 0)) := by
  have hE := ext_setCell w L.hb 2 (.slice none 0 0)
  have hH := get_setCell R.hH 2 (.slice none 0 0)
  refine ⟨Rep.tight (F := F) ?_, hE⟩
  exact R.chMem (s0 := .slice none 0 0) (s1 := L.s1) (m0 := []) (m1 := st.m1) (names := st.names) (next := st.next) (fun k hk => Nat.lt_of_lt_of_le (R.lt k hk) hE.size) (fun _ h => h) (fun k hF h1 _ _ => hE.block k (R.lt k hF) h1) hH (Row.nil _ _ _ _)
    (R.r1.ext hE (fun k hk e => row_ne_cells R.r1 R.hH (by decide) hk e)) (fun k hk => by cases hk)

theorem Rep.outside0 (R : Rep F L st w) {k : Nat} (hk : L.s0.ownBlock = some k) : ¬ Used { L with s0 := .slice none 0 0 } { st with m0 := [] } k := by
  have hr := R.r0
  rintro (h | h | h | h | h | h | h | h | ⟨p, hp, h | h⟩)
  · exact row_ne_cells hr R.hH (by decide) hk h
  · exact row_ne_map hr R.mO hk h
  · exact row_ne_map hr R.mH hk h
  · exact row_ne_map hr R.mR hk h
  · exact row_ne_cells hr R.fr (by decide) hk h
  · cases h
  · exact R.sep3 k hk h
  · exact row_ne_row hr R.rf (by decide) hk h rfl
  · exact row_ne_cells hr (R.ob p hp).1 (by decide) hk h
  · exact row_ne_row hr (R.ob p hp).2.1 (by decide) hk h rfl

theorem Rep.used0 (R : Rep F L st w) : ∀ k, Used { L with s0 := .slice none 0 0 } { st with m0 := [] } k → F k := by
  rintro k (h | h | h | h | h | h | h | h | ⟨p, hp, h | h⟩)
  · exact h ▸ R.fs.1
  · exact h ▸ R.fs.2.1
  · exact h ▸ R.fs.2.2.1
  · exact h ▸ R.fs.2.2.2.1
  · exact h ▸ R.fs.2.2.2.2
  · cases h
  · exact R.r1.2 k h
  · exact R.rf.2 k h
  · exact h ▸ (R.ob p hp).2.2
  · exact (R.ob p hp).2.1.2 k h

/-! ### what is moved -/
def minorA (st cur : St) (n : Int) : St := match alook st.objs n with
  | some o => if o.old then cur else moveSt cur n o ((st.m0.drop o.at_).take (1 + o.size))
  | none => cur

theorem minorA_other (st cur : St) (n k : Int) (h : k ≠ n) : alook (minorA st cur n).objs k = alook cur.objs k := by
  unfold minorA
  split
  · split
    · rfl
    · simp only [moveSt, alook_aset]; rw [if_neg h]
  · rfl

theorem minorA_fold_other (st : St) (l : List Int) : ∀ (cur : St) (k : Int), k ∉ l → alook (l.foldl (minorA st) cur).objs k = alook cur.objs k := by
  induction l with
  | nil => intro cur k _; rfl
  | cons n l ih =>
    intro cur k hk
    simp only [List.mem_cons, not_or] at hk
    simp only [List.foldl_cons]
    rw [ih _ _ hk.2, minorA_other _ _ _ _ hk.1]

theorem minorA_m1 (st : St) (hsz : ∀ n o, alook st.objs n = some o → o.size ≤ 3) (l : List Int) : ∀ cur : St, (l.foldl (minorA st) cur).m1.length ≤ cur.m1.length + 4 * l.length := by
  induction l with
  | nil => intro cur; simp
  | cons n l ih =>
    intro cur
    simp only [List.foldl_cons, List.length_cons]
    refine Nat.le_trans (ih _) ?_
    have : (minorA st cur n).m1.length ≤ cur.m1.length + 4 := by
      unfold minorA
      split
      · rename_i o ho
        have := hsz n o ho
        split
        · omega
        · simp [moveSt]; omega
      · omega
    omega

/-- No object has an entry, whatever was moved. -/
def NoEnt (st : St) : Prop := ∀ n o, alook st.objs n = some o → o.ent = none

theorem minorA_noEnt {st : St} (h : NoEnt st) (l : List Int) : ∀ cur : St, NoEnt cur → NoEnt (l.foldl (minorA st) cur) := by
  induction l with
  | nil => intro cur hc; exact hc
  | cons n l ih =>
    intro cur hc
    simp only [List.foldl_cons]
    refine ih _ ?_
    unfold minorA
    split
    · rename_i o ho
      split
      · exact hc
      · intro k o' hk
        simp only [moveSt, alook_aset] at hk
        split at hk
        · cases hk; exact h n o ho
        · exact hc _ _ hk
    · exact hc

theorem forget_noEnt {st : St} (h : NoEnt st) (hn : (st.objs.map (·.1)).Nodup) : forgetSt st = st := by
  unfold forgetSt
  have : (st.objs.map fun p => (p.1, fgt st p.2)) = st.objs := by
    conv => rhs; rw [← List.map_id st.objs]
    refine List.map_congr_left fun p hp => ?_
    have := h p.1 p.2 (alook_of_mem hn hp)
    simp [fgt, this]
  rw [this]

def minorSt (st : St) (l : List Int) : St := { l.foldl (minorA st) { st with m0 := [] } with rem := [] }

def MinorPost (F : Nat → Prop) (L : Lay) (st : St) (w : World) (e : Ending) (w' : World) : Prop :=
  e = .returned (.tuple #[]) ∧ (∃ l s0 s1, l.Perm (st.objs.map (·.1)) ∧ Rep (grow F w w') { L with s0 := s0, s1 := s1 } (minorSt st l) w') ∧ Ext F w w'
end minor1
end Go.Proofs.Ytpjifaefchnmoaa
