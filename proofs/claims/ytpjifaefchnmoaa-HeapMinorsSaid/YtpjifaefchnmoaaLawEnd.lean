/- The heap's methods as the law uses them in its last loop. -/
import Derived.Test.YtpjifaefchnmoaaLawOps
namespace Go.Proofs.Ytpjifaefchnmoaa
open Go.RowKit

/-- The heap in the last loop: x handles may have been made. -/
def FW (w0 : World) (hb : Nat) (vo vm vt : Value) (made : List Int) (to : List (Int × Int)) (x : Nat) (w : World) : Prop :=
  ∃ F L st bs, Rep F L st w ∧ (∀ k, F k → w0.heap.size ≤ k) ∧ Below w0.heap.size w0 w ∧ L.hb = hb ∧ MI st made to 60 ∧ LM w0.heap.size F vo vm vt bs made to w ∧ st.free = [] ∧
    (∀ j : Nat, j < made.length → alook st.hnd j = some (j : Int)) ∧ (∀ p ∈ st.hnd, p.1 < st.next) ∧ 0 ≤ st.next ∧ st.next ≤ 60 + (x : Int) ∧ st.hnd.length ≤ 60 + x

section fw
variable {Φ : St → Prop} {w0 w w' : World} {hb : Nat} {vo vm vt : Value} {made : List Int} {to : List (Int × Int)} {i x : Nat}

theorem MG.fw (h : MG Φ w0 hb vo vm vt (nms made.length) made to made to i w) : FW w0 hb vo vm vt made to 0 w := by
  obtain ⟨F, L, st, bs, R, hF, hB, hL, hM, hG, _⟩ := h
  have hk := hM.k60
  refine ⟨F, L, st, bs, R, hF, hB, hL, hM.mi.mono hM.mi.i60 (Nat.le_refl _), hG.lm hM.mi.klen, hM.free, fun j hj => hM.look hj, fun p hp => ?_, by rw [hM.next]; omega, by rw [hM.next]; omega, by rw [hM.hnd, diag_len]; omega⟩
  rw [hM.hnd] at hp
  unfold diag at hp
  obtain ⟨n, hn, rfl⟩ := List.mem_map.1 hp
  have := mem_nms.1 hn
  rw [hM.next]
  exact this.2

theorem FW.below (h : FW w0 hb vo vm vt made to x w) (hw : Below w.heap.size w w') : FW w0 hb vo vm vt made to x w' := by
  obtain ⟨F, L, st, bs, R, hF, hB, hL, hM, hG, r⟩ := h
  exact ⟨F, L, st, bs, R.below' hw, hF, hB.trans (hw.mono hB.size), hL, hM, hG.below hw, r⟩

theorem FW.base (h : FW w0 hb vo vm vt made to x w) : Below w0.heap.size w0 w := by
  obtain ⟨F, L, st, bs, R, hF, hB, _⟩ := h
  exact hB

theorem LM.keep {B : Nat} {F : Nat → Prop} {bs : List Nat} (h : LM B F vo vm vt bs made to w) (hE : Ext F w w') : LM B F vo vm vt bs made to w' :=
  ⟨h.ro.ext hE (fun k hk => (h.ro.2 k hk).2), h.rm.ext hE (fun k hk => (h.rm.2 k hk).2), h.rt.ext hE (fun k hk => (h.rt.2 k hk).2), fun j b t h1 h2 => by
    obtain ⟨a1, a2, a3, a4⟩ := h.tb j b t h1 h2
    exact ⟨hE.get a1 a3, a2, a3, a4⟩, h.nd, h.len, h.om⟩

theorem LM.new {B : Nat} {F : Nat → Prop} {bs : List Nat} (h : LM B F vo vm vt bs made to w) (hE : Ext (fun b => w.heap.size ≤ b) w w') : LM B F vo vm vt bs made to w' :=
  h.below (hE.below (Nat.le_refl _) (fun _ hk => hk))

theorem MI.fld {st : St} (h : MI st made to i) {j : Nat} {m : Int} {t : Int × Int} {o : Ob} (ho : alook st.objs j = some o) (hm : made[j]? = some m) (ht : to[j]? = some t) {c : Nat} (hc : c < 2) : (fldsOf st o)[c]? = some (Ytpjifaefchnmoaa.fld (pairAt t c) (m + c)) := by
  rw [(h.ob j o ho).2.2.2.2 m t hm ht]
  match c, hc with
  | 0, _ => simp [pairAt]
  | 1, _ => simp [pairAt]

theorem fw_num (h : FW w0 hb vo vm vt made to x w) {j : Nat} {m : Int} {t : Int × Int} (hm : made[j]? = some m) (ht : to[j]? = some t) {c : Nat} (hc : c < 2) (hneg : pairAt t c < 0) :
    Calls Try.prog 15 #[.pointer (some ⟨hb, 0, none⟩), .int .i64 j, .int .i64 c] w fun e w' => e = .returned (.tuple #[.agg #[.bool false, .int .i64 (m + c)], .int .i64 0]) ∧ Below w.heap.size w w' := by
  obtain ⟨F, L, st, bs, R, hF, hB, rfl, hM, hG, hf, hl, _⟩ := h
  have hj := (List.getElem?_eq_some_iff.1 hm).1
  obtain ⟨o, ho⟩ := (hM.look (j : Int)).2 ⟨by omega, by omega⟩
  obtain ⟨g1, g2, g3, g4⟩ := hM.obI ho
  have hfl := hM.fld ho hm ht hc
  rw [show fld (pairAt t c) (m + c) = ⟨false, m + c⟩ from by unfold fld; rw [if_neg (by omega)]] at hfl
  have h0 := hM.m0; have h1 := hM.m1; have hk := hM.ki
  exact get_num R (hl j hj) ho g1 (by omega) (by unfold rowOf; split <;> omega) (by omega) hfl rfl

theorem fw_ref (h : FW w0 hb vo vm vt made to x w) (hx : x < 1000) {j : Nat} {m : Int} {t : Int × Int} (hm : made[j]? = some m) (ht : to[j]? = some t) {c : Nat} (hc : c < 2) (hpos : 0 ≤ pairAt t c) :
    ∃ kn : Int, Calls Try.prog 15 #[.pointer (some ⟨hb, 0, none⟩), .int .i64 j, .int .i64 c] w fun e w' => e = .returned (.tuple #[.agg #[.bool true, .int .i64 kn], .int .i64 0]) ∧ FW w0 hb vo vm vt made to (x + 1) w' ∧
      ∀ w'', Below w'.heap.size w' w'' → Calls Try.prog 16 #[.pointer (some ⟨hb, 0, none⟩), .int .i64 kn, .int .i64 (pairAt t c)] w'' fun e w3 => e = .returned (.tuple #[.bool true, .int .i64 0]) ∧ w'' = w3 := by
  obtain ⟨F, L, st, bs, R, hF, hB, rfl, hM, hG, hf, hl, hlt, hn0, hn1, hnl⟩ := h
  have hj := (List.getElem?_eq_some_iff.1 hm).1
  obtain ⟨o, ho⟩ := (hM.look (j : Int)).2 ⟨by omega, by omega⟩
  obtain ⟨g1, g2, g3, g4⟩ := hM.obI ho
  have hfl := hM.fld ho hm ht hc
  rw [show fld (pairAt t c) (m + c) = ⟨true, pairAt t c⟩ from by unfold fld; rw [if_pos hpos]] at hfl
  have h0 := hM.m0; have h1 := hM.m1; have hk := hM.ki
  have hr : pairAt t c < made.length := by
    have := hM.rng t (List.mem_of_getElem? ht)
    unfold pairAt; split
    · exact this.1
    · exact this.2
  obtain ⟨ov, hov⟩ := (hM.look (pairAt t c)).2 ⟨hpos, hr⟩
  have hnone : alook st.hnd st.next = none := by
    rw [alook_none]
    intro p hp e
    have := hlt p hp
    omega
  refine ⟨st.next, ?_⟩
  refine (get_ref (kn := st.next) (Φ := fun w' => Rep F L (handleSt st (pairAt t c)) w') R (hl j hj) ho g1 (by omega) (by unfold rowOf; split <;> omega) (by omega) (by omega) hfl rfl
    (fun w1 hw1 => (handle_new (R.below' hw1) hf (by omega) hn0 (pairAt t c)).mono fun e w' ⟨a, b, c⟩ => ⟨a, b, c⟩)).mono ?_
  rintro e w' ⟨rfl, w1, hR1, hE1, hE2⟩
  have hE2' : Ext (fun b => w1.heap.size ≤ b ∨ (w.heap.size ≤ b ∧ b < w1.heap.size)) w1 w' := hE2.mono fun b hb => by omega
  have hR' : Rep F L (handleSt st (pairAt t c)) w' := hR1.ext hE2 (fun k hk hle => by have := R.lt k hk; omega)
  have hG' : LM w0.heap.size F vo vm vt bs made to w' := by
    refine (?_ : LM w0.heap.size F vo vm vt bs made to w')
    have hE : Ext (fun b => F b ∨ w.heap.size ≤ b) w w' := (hE1.mono fun b hb => .inl hb).trans hE2 (fun b hb => .inr hb)
    refine ⟨hG.ro.ext hE (fun k hk hh => ?_), hG.rm.ext hE (fun k hk hh => ?_), hG.rt.ext hE (fun k hk hh => ?_), fun j b t' h1 h2 => ?_, hG.nd, hG.len, hG.om⟩
    · rcases hh with hh | hh
      · exact (hG.ro.2 k hk).2 hh
      · have := hG.ro.lt hk; omega
    · rcases hh with hh | hh
      · exact (hG.rm.2 k hk).2 hh
      · have := hG.rm.lt hk; omega
    · rcases hh with hh | hh
      · exact (hG.rt.2 k hk).2 hh
      · have := hG.rt.lt hk; omega
    · obtain ⟨a1, a2, a3, a4⟩ := hG.tb j b t' h1 h2
      refine ⟨hE.get a1 (fun hh => ?_), a2, a3, a4⟩
      rcases hh with hh | hh
      · exact a3 hh
      · have := lt_of_blk a1; omega
  have hst : (handleSt st (pairAt t c)).hnd = st.hnd ++ [(st.next, pairAt t c)] := aset_of_none hnone
  have hlk : ∀ n, alook (handleSt st (pairAt t c)).hnd n = if n = st.next then some (pairAt t c) else alook st.hnd n := fun n => alook_aset _ _ _ _
  have hl' : ∀ j : Nat, j < made.length → alook (handleSt st (pairAt t c)).hnd j = some (j : Int) := fun j hj => by
    rw [hlk]
    split
    · rename_i e
      have := hl j hj
      rw [e, hnone] at this; cases this
    · exact hl j hj
  have hvk : alook (handleSt st (pairAt t c)).hnd (pairAt t c) = some (pairAt t c) := by
    have := hl' (pairAt t c).toNat (by omega)
    rwa [show ((pairAt t c).toNat : Int) = pairAt t c from by omega] at this
  refine ⟨rfl, ⟨F, L, handleSt st (pairAt t c), bs, hR', hF, hB.trans ((hE1.below hB.size hF).trans (hE2.below (Nat.le_trans hB.size hE1.size) (fun k hk => Nat.le_trans hB.size hk))), rfl,
    ⟨hM.klen, hM.ki, hM.i60, hM.keys, hM.names, hM.young, hM.full, hM.ob, hM.disj, hM.m0, hM.m1, hM.rng, hM.remN, hM.rem⟩, hG', hf, hl', fun p hp => ?_, ?_, ?_, ?_⟩, fun w'' hw'' => ?_⟩
  · rw [hst] at hp
    show p.1 < st.next + 1
    rcases List.mem_append.1 hp with hp | hp
    · have := hlt p hp; omega
    · simp at hp; subst hp; simp; omega
  · show 0 ≤ st.next + 1
    omega
  · show st.next + 1 ≤ 60 + ((x + 1 : Nat) : Int)
    omega
  · rw [hst]; simp; omega
  · have := same_any (R := hR'.below' hw'') (k := st.next) (n := pairAt t c) (k' := pairAt t c) (n' := pairAt t c) (by rw [hlk, if_pos rfl]) (o := ov) hov hvk hov
    simpa using this

theorem FW.cellO {a : Option Addr} {n cap : Nat} (h : FW w0 hb (.slice a n cap) vm vt made to x w) (hn : n = made.length) {j : Nat} (hj : j < made.length) : ∃ g, a = some ⟨g, 0, none⟩ ∧ w.cell? ⟨g, j, none⟩ = some (.int .i64 j) := by
  obtain ⟨F, L, st, bs, R, hF, hB, rfl, hM, hG, _⟩ := h
  have hr := hG.ro
  subst hn
  obtain ⟨g, rfl, _⟩ := hr.addr (by omega)
  exact ⟨g, rfl, hG.cellO rfl hj⟩

theorem FW.cellM {a : Option Addr} {n cap : Nat} (h : FW w0 hb vo (.slice a n cap) vt made to x w) (hn : n = made.length) {j : Nat} {m : Int} (hm : made[j]? = some m) : ∃ g, a = some ⟨g, 0, none⟩ ∧ w.cell? ⟨g, j, none⟩ = some (.int .i64 m) := by
  obtain ⟨F, L, st, bs, R, hF, hB, rfl, hM, hG, _⟩ := h
  have hr := hG.rm
  subst hn
  obtain ⟨g, rfl, _⟩ := hr.addr (by have := (List.getElem?_eq_some_iff.1 hm).1; omega)
  exact ⟨g, rfl, hr.int rfl hm⟩

theorem FW.cellT {a : Option Addr} {n cap : Nat} (h : FW w0 hb vo vm (.slice a n cap) made to x w) (hn : n = made.length) {j : Nat} {t : Int × Int} (ht : to[j]? = some t) {c : Nat} (hc : c < 2) :
    ∃ g b, a = some ⟨g, 0, none⟩ ∧ w.cell? ⟨g, j, none⟩ = some (.slice (some ⟨b, 0, none⟩) 2 2) ∧ w.cell? ⟨b, c, none⟩ = some (.int .i64 (pairAt t c)) := by
  obtain ⟨F, L, st, bs, R, hF, hB, rfl, hM, hG, _⟩ := h
  have hr := hG.rt
  have hj := (List.getElem?_eq_some_iff.1 ht).1
  have hl := hG.len
  obtain ⟨g, rfl, _⟩ := Row.addr (n := n) (by subst hn; exact hr) (by omega)
  obtain ⟨b, h1, h2⟩ := hG.cellT hn ht hc
  exact ⟨g, b, rfl, h1, h2⟩

theorem FW.bounds (h : FW w0 hb vo vm vt made to x w) : made.length ≤ 60 ∧ to.length = made.length ∧ ∀ t ∈ to, t.1 < made.length ∧ t.2 < made.length := by
  obtain ⟨F, L, st, bs, R, hF, hB, rfl, hM, hG, _⟩ := h
  exact ⟨hM.ki, hM.klen, hM.rng⟩
end fw
end Go.Proofs.Ytpjifaefchnmoaa
