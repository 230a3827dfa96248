/- The law's own lists in memory, and its function aged. -/
import Derived.Test.YtpjifaefchnmoaaLaw3
namespace Go.Proofs.Ytpjifaefchnmoaa
open Go.RowKit

/-- The lists of the law: the objects' handles (0, 1, ..), what was laid in them, what they refer to (each pair in a block of bs). -/
structure LM (B : Nat) (F : Nat → Prop) (vo vm vt : Value) (bs : List Nat) (made : List Int) (to : List (Int × Int)) (w : World) : Prop where
  ro : Row (fun b => B ≤ b ∧ ¬ F b) 3 1 w vo made.length (ints (nms made.length))
  rm : Row (fun b => B ≤ b ∧ ¬ F b) 3 1 w vm made.length (ints made)
  rt : Row (fun b => B ≤ b ∧ ¬ F b) 28 1 w vt made.length (bs.map fun b => .slice (some ⟨b, 0, none⟩) 2 2)
  tb : ∀ (j : Nat) b t, bs[j]? = some b → to[j]? = some t → w.heap[b]? = some (.cells #[.int .i64 t.1, .int .i64 t.2] 3 (0, 0)) ∧ B ≤ b ∧ ¬ F b ∧ vo.ownBlock ≠ some b ∧ vm.ownBlock ≠ some b
  nd : bs.Nodup
  len : bs.length = made.length ∧ to.length = made.length
  om : ∀ k, vo.ownBlock = some k → vm.ownBlock ≠ some k

section lm
variable {B : Nat} {F : Nat → Prop} {vo vm vt : Value} {bs : List Nat} {made : List Int} {to : List (Int × Int)} {w w' : World} {gt n cap : Nat}

theorem LM.get (h : LM B F vo vm vt bs made to w) {j : Nat} {t : Int × Int} (ht : to[j]? = some t) : ∃ b, bs[j]? = some b ∧ w.heap[b]? = some (.cells #[.int .i64 t.1, .int .i64 t.2] 3 (0, 0)) ∧ ¬ F b := by
  have hj := (List.getElem?_eq_some_iff.1 ht).1
  have hb : j < bs.length := by have := h.len; omega
  refine ⟨bs[j], List.getElem?_eq_getElem hb, ?_⟩
  have := h.tb j _ t (List.getElem?_eq_getElem hb) ht
  exact ⟨this.1, this.2.2.1⟩

/-- Blocks of F, and new ones, may have changed; the new ones may be the heap's. -/
theorem LM.heap (h : LM B F vo vm vt bs made to w) (hE : Ext F w w') : LM B (grow F w w') vo vm vt bs made to w' := by
  have hrow : ∀ e sz v n xs, Row (fun b => B ≤ b ∧ ¬ F b) e sz w v n xs → Row (fun b => B ≤ b ∧ ¬ grow F w w' b) e sz w' v n xs := fun e sz v n xs hr =>
    ⟨(hr.ext hE (fun k hk => (hr.2 k hk).2)).1, fun k hk => ⟨(hr.2 k hk).1, fun hg => by
      have h1 := hr.lt hk
      rcases hg with hg | hg
      · exact (hr.2 k hk).2 hg
      · omega⟩⟩
  refine ⟨hrow _ _ _ _ _ h.ro, hrow _ _ _ _ _ h.rm, hrow _ _ _ _ _ h.rt, fun j b t hb ht => ?_, h.nd, h.len, h.om⟩
  obtain ⟨h1, h2, h3, h4⟩ := h.tb j b t hb ht
  refine ⟨hE.get h1 h3, h2, fun hg => ?_, h4⟩
  have := lt_of_blk h1
  rcases hg with hg | hg
  · exact h3 hg
  · omega

/-- New blocks that are not the heap's. -/
theorem LM.below (h : LM B F vo vm vt bs made to w) (hb : Below w.heap.size w w') : LM B F vo vm vt bs made to w' :=
  ⟨h.ro.below hb h.ro.lt', h.rm.below hb h.rm.lt', h.rt.below hb h.rt.lt', fun j b t h1 h2 => by
    obtain ⟨a1, a2⟩ := h.tb j b t h1 h2
    exact ⟨Below.get hb a1 (lt_of_blk a1), a2⟩, h.nd, h.len, h.om⟩

/-- A pair's cell. -/
def pairAt (t : Int × Int) (c : Nat) : Int := if c = 0 then t.1 else t.2

theorem LM.cellO (h : LM B F (.slice (some ⟨gt, 0, none⟩) n cap) vm vt bs made to w) (hn : n = made.length) {j : Nat} (hj : j < made.length) : w.cell? ⟨gt, j, none⟩ = some (.int .i64 j) := by
  have hr := h.ro
  subst hn
  refine hr.int (by rw [nms_len]) ?_
  rw [nms, List.getElem?_map, List.getElem?_range hj]
  rfl

theorem LM.cellT (h : LM B F vo vm (.slice (some ⟨gt, 0, none⟩) n cap) bs made to w) (hn : n = made.length) {j : Nat} {t : Int × Int} (ht : to[j]? = some t) {c : Nat} (hc : c < 2) :
    ∃ b, w.cell? ⟨gt, j, none⟩ = some (.slice (some ⟨b, 0, none⟩) 2 2) ∧ w.cell? ⟨b, c, none⟩ = some (.int .i64 (pairAt t c)) := by
  obtain ⟨b, hb, hcl, _⟩ := h.get ht
  have hr := h.rt
  subst hn
  have hj : j < made.length := by have := (List.getElem?_eq_some_iff.1 ht).1; have := h.len; omega
  refine ⟨b, ?_, ?_⟩
  · rw [hr.cell j (by omega), List.getElem?_map, hb]; rfl
  · rw [cell_of hcl]
    match c, hc with
    | 0, _ => rfl
    | 1, _ => rfl
end lm

/-- Is the object with a name old? -/
def oldOf (st : St) (j : Nat) : Bool := match alook st.objs j with
  | some o => o.old
  | none => false

/-- Does a field refer to a young one? -/
def yF (st : St) (x : Int) : Bool := decide (0 ≤ x) && !oldOf st x.toNat

/-- .. one of the first c fields. -/
def yUp (st : St) (t : Int × Int) (c : Nat) : Bool := (List.range c).any fun x => yF st (pairAt t x)

def ageAll (st : St) (k : Nat) : Bool := (List.range k).all (oldOf st)

def ageOne (st : St) (to : List (Int × Int)) (j : Nat) : Bool := oldOf st j && (match to[j]? with | some t => yUp st t 2 | none => false)

def ageCnt (st : St) (to : List (Int × Int)) (k : Nat) : Nat := (List.range k).countP (ageOne st to)

theorem info4 : (Try.prog.info? 4).map (fun i => (i.zero, i.size, i.bytes)) = some (some (.bool false), 1, 1) := by kernel_rfl

section aged
variable {B : Nat} {F : Nat → Prop} {L : Lay} {st : St} {made : List Int} {to : List (Int × Int)} {i : Nat} {w : World}

theorem ageAll_succ (st : St) (k : Nat) : ageAll st (k + 1) = (ageAll st k && oldOf st k) := by
  unfold ageAll; rw [List.range_succ]; simp

theorem ageCnt_succ (st : St) (to : List (Int × Int)) (k : Nat) : ageCnt st to (k + 1) = ageCnt st to k + (if ageOne st to k then 1 else 0) := by
  unfold ageCnt; rw [List.range_succ, List.countP_append]; simp [List.countP_cons]

theorem yUp_succ (st : St) (t : Int × Int) (c : Nat) : yUp st t (c + 1) = (yUp st t c || yF st (pairAt t c)) := by
  unfold yUp; rw [List.range_succ]; simp

theorem ageCnt_le (st : St) (to : List (Int × Int)) (k : Nat) : ageCnt st to k ≤ k := by
  unfold ageCnt
  have := List.countP_le_length (p := ageOne st to) (l := List.range k)
  simpa using this

set_option maxRecDepth 100000 in
set_option maxHeartbeats 4000000 in
theorem aged_any (R : Rep F L st w) (h : MI st made to i) (hh : ∀ j : Nat, j < made.length → alook st.hnd j = some (j : Int)) {vo vm vt : Value} {bs : List Nat} (M : LM B F vo vm vt bs made to w) :
    Calls Try.prog 13 #[.pointer (some ⟨L.hb, 0, none⟩), vo, vt] w fun e w' => e = .returned (.tuple #[.bool (ageAll st made.length), .int .i64 (ageCnt st to made.length)]) ∧ Below w.heap.size w w' := by
  obtain ⟨ao, co, rfl⟩ := M.ro.form
  obtain ⟨at_, ct, rfl⟩ := M.rt.form
  have hk60 : made.length ≤ 60 := by have := h.ki; have := h.i60; omega
  have H := Lib.hid (And.intro R (And.intro h (And.intro hh M)))
  clear R h hh M
  go_enter Try.func13, Try.ntmps13
  go_wp2
  go_loopw [8, 9, 10] (fun v8 v9 v10 wr => ∃ j : Nat, j ≤ made.length ∧ v8 = .bool (ageAll st j) ∧ v10 = .int .i64 j ∧ Row (fun b => w.heap.size ≤ b) 4 1 wr v9 j ((List.range j).map fun x => .bool (oldOf st x)) ∧ Below w.heap.size w wr) (fun _ _ v10 _ => made.length - (intOf v10).toNat)
  case atStart => exact ⟨0, Nat.zero_le _, rfl, rfl, Row.nil _ _ _ _, Below.refl _ _⟩
  case round =>
    obtain ⟨j, hj, rfl, rfl, hrow, hb⟩ := hrel
    obtain ⟨a9, c9, rfl⟩ := hrow.form
    by_cases hlt : j < made.length
    · obtain ⟨go_, hgo, _⟩ := H.out.2.2.2.ro.addr (by omega)
      subst hgo
      have q1 : wr.cell? ⟨go_, j, none⟩ = some (.int .i64 j) := (H.out.2.2.2.below hb).cellO (by omega) (by omega)
      obtain ⟨o, ho⟩ := (H.out.2.1.look j).2 ⟨by omega, by omega⟩
      have hold := old_any (H.out.1.below' hb) (H.out.2.2.1 j hlt) ho
      have hoo : oldOf st j = o.old := by unfold oldOf; rw [ho]
      rw [← hoo] at hold
      have Hold := Lib.hid hold
      obtain ⟨v9', w9, happ, hrow9, hE9, hb9⟩ := hrow.append1 (t := 79) Try.underlying79 info4 rfl 79 (.bool (oldOf st j)) rfl (by omega) (by decide)
      have hbn : Below w.heap.size w w9 := hb.trans (hE9.below hb.size (fun b hb => hb))
      have hsucc := ageAll_succ st j
      have hrow9' : Row (fun b => w.heap.size ≤ b) 4 1 w9 v9' (j + 1) ((List.range (j + 1)).map fun x => .bool (oldOf st x)) := by
        rw [List.range_succ, List.map_append]
        refine hrow9.mono fun b hb' => ?_
        rcases hb' with hb' | hb'
        · exact hb'
        · exact Nat.le_trans hb.size hb'.1
      obtain ⟨a9', c9', rfl⟩ := hrow9'.form
      have H9 := Lib.hid (And.intro hbn hrow9')
      have Hs := Lib.hid hsucc
      clear hrow hb hold hoo ho hrow9 hE9 hb9 hbn hsucc hrow9'
      cases h8 : ageAll st j <;> cases h9 : oldOf st j
      all_goals
        rw [h9] at Hold happ
        go_wp2_with (first
          | (go_at_call 33; refine Hold.out.mono ?_; rintro e w2 ⟨rfl, rfl⟩)
          | (at_builtin; refine wpList_append_eq rfl _ _ _ rfl _ _ rfl rfl _ happ ?_))
        go_roundw
        case rel => exact ⟨j + 1, by omega, by rw [Hs.out, h8, h9]; rfl, by go_num, H9.out.2, H9.out.1⟩
        case measure => simp [intOf]; omega
    · have e : j = made.length := by omega
      subst e
      obtain ⟨w1, rfl⟩ : ∃ w1 : World, w1 = wr := ⟨_, rfl⟩
      have H1 := Lib.hid (And.intro hrow hb)
      clear hrow hb
      go_wp2
      go_loopw [13, 14] (fun v13 v14 wr => ∃ j : Nat, j ≤ made.length ∧ v13 = .int .i64 (ageCnt st to j) ∧ v14 = .int .i64 j ∧ wr = w1) (fun _ v14 _ => made.length - (intOf v14).toNat)
      case atStart => exact ⟨0, Nat.zero_le _, rfl, rfl, rfl⟩
      case round =>
        obtain ⟨j, hj, rfl, rfl, hw⟩ := hrel
        subst hw
        have hcl := ageCnt_le st to j
        by_cases hlt2 : j < made.length
        · have M1 := H.out.2.2.2.below H1.out.2
          obtain ⟨t, ht⟩ : ∃ t, to[j]? = some t := ⟨_, List.getElem?_eq_getElem (by have := H.out.2.1.klen; omega)⟩
          obtain ⟨gt, hgt, _⟩ := M1.rt.addr (by omega)
          subst hgt
          obtain ⟨g9, hg9, _⟩ := H1.out.1.addr (by omega)
          subst hg9
          have hcell9 : ∀ x : Nat, x < made.length → wr.cell? ⟨g9, x, none⟩ = some (.bool (oldOf st x)) := fun x hx => by
            rw [H1.out.1.cell x (by omega), List.getElem?_map, List.getElem?_range hx]; rfl
          have hcellT : ∀ c, c < 2 → ∃ b, wr.cell? ⟨gt, j, none⟩ = some (.slice (some ⟨b, 0, none⟩) 2 2) ∧ wr.cell? ⟨b, c, none⟩ = some (.int .i64 (pairAt t c)) := fun c hc => M1.cellT rfl ht hc
          have hrng : ∀ c, pairAt t c < made.length := fun c => by
            have := H.out.2.1.rng t (List.mem_of_getElem? ht)
            unfold pairAt; split
            · exact this.1
            · exact this.2
          have hone : ageOne st to j = (oldOf st j && yUp st t 2) := by unfold ageOne; rw [ht]
          have hsucc := ageCnt_succ st to j
          rw [hone] at hsucc
          have H2 := Lib.hid (And.intro hcell9 (And.intro hcellT (And.intro hrng hsucc)))
          clear hcell9 hcellT hrng hone hsucc M1
          go_wp2
          obtain ⟨w8, rfl⟩ : ∃ w8 : World, w8 = wr := ⟨_, rfl⟩
          go_loopw [15, 16] (fun v15 v16 wq => ∃ c : Nat, c ≤ 2 ∧ v15 = .bool (yUp st t c) ∧ v16 = .int .i64 c ∧ wq = w8) (fun _ v16 _ => 2 - (intOf v16).toNat)
          case atStart => exact ⟨0, Nat.zero_le _, rfl, rfl, rfl⟩
          case round =>
            obtain ⟨c, hc, rfl, rfl, hwq⟩ := hrel
            subst hwq
            by_cases hc2 : c < 2
            · obtain ⟨b, qa, qb⟩ := H2.out.2.1 c hc2
              have hys := yUp_succ st t c
              have hx := H2.out.2.2.1 c
              cases hy : yUp st t c
              · by_cases hp0 : 0 ≤ pairAt t c
                · obtain ⟨x, hxx⟩ : ∃ x : Nat, pairAt t c = (x : Int) := ⟨(pairAt t c).toNat, by omega⟩
                  have hyf : yF st (pairAt t c) = !oldOf st x := by unfold yF; rw [hxx]; simp
                  rw [hxx] at qb hx
                  have q9 := H2.out.1 x (by omega)
                  have hxk : x < made.length := by omega
                  have Hs := Lib.hid (And.intro hys hyf)
                  clear hys hyf hp0 hxx
                  cases ho : oldOf st x
                  all_goals
                    rw [ho] at q9
                    go_wp2
                    go_roundw
                    case rel => exact ⟨c + 1, by omega, by rw [Hs.out.1, Hs.out.2, hy, ho]; rfl, by go_num, trivial⟩
                    case measure => simp [intOf]; omega
                · have hyf : yF st (pairAt t c) = false := by unfold yF; simp; omega
                  have hneg : pairAt t c < 0 := by omega
                  have Hs := Lib.hid (And.intro hys hyf)
                  clear hys hyf hp0 hx
                  generalize pairAt t c = x at *
                  go_wp2
                  go_roundw
                  case rel => exact ⟨c + 1, by omega, by rw [Hs.out.1, Hs.out.2, hy]; rfl, by go_num, trivial⟩
                  case measure => simp [intOf]; omega
              · have Hs := Lib.hid hys
                clear hys qb hx
                go_wp2
                go_roundw
                case rel => exact ⟨c + 1, by omega, by rw [Hs.out, hy]; rfl, by go_num, trivial⟩
                case measure => simp [intOf]; omega
            · have e : c = 2 := by omega
              subst e
              obtain ⟨b, qa, _⟩ := H2.out.2.1 0 (by omega)
              have q9 := H2.out.1 j hlt2
              cases hy : yUp st t 2 <;> cases ho : oldOf st j
              all_goals
                rw [ho] at q9
                go_wp2
                go_roundw
                case rel => exact ⟨j + 1, by omega, by rw [H2.out.2.2.2, hy, ho]; simp, by go_num, trivial⟩
                case measure => simp [intOf]; omega
        · have e : j = made.length := by omega
          subst e
          go_wp2
          go_ret2
          exact ⟨rfl, H1.out.2⟩
end aged
end Go.Proofs.Ytpjifaefchnmoaa
