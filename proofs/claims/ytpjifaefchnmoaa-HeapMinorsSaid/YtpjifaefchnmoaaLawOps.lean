/- The heap's methods as the law uses them in its main loop. -/
import Derived.Test.YtpjifaefchnmoaaLawMem
namespace Go.Proofs.Ytpjifaefchnmoaa
open Go.RowKit

/-- Behind w0, in new blocks: a heap (its own block hb) that holds made and to; beside it the law's lists os, ms, tl. -/
def MG (Φ : St → Prop) (w0 : World) (hb : Nat) (vo vm vt : Value) (os ms : List Int) (tl : List (Int × Int)) (made : List Int) (to : List (Int × Int)) (i : Nat) (w : World) : Prop :=
  ∃ F L st bs, Rep F L st w ∧ (∀ k, F k → w0.heap.size ≤ k) ∧ Below w0.heap.size w0 w ∧ L.hb = hb ∧ MP st made to i ∧ LG w0.heap.size F vo vm vt bs os ms tl w ∧ Φ st

/-- All is old. -/
def AllOld (st : St) : Prop := ∀ n o, alook st.objs n = some o → o.old = true

section ops
variable {Φ : St → Prop} {w0 w w' : World} {hb : Nat} {vo vm vt : Value} {os ms : List Int} {tl : List (Int × Int)} {made : List Int} {to : List (Int × Int)} {i : Nat}

theorem MG.below (h : MG Φ w0 hb vo vm vt os ms tl made to i w) (hw : Below w.heap.size w w') : MG Φ w0 hb vo vm vt os ms tl made to i w' := by
  obtain ⟨F, L, st, bs, R, hF, hB, hL, hM, hG, hΦ⟩ := h
  exact ⟨F, L, st, bs, R.below' hw, hF, hB.trans (hw.mono hB.size), hL, hM, hG.below hw, hΦ⟩

theorem MG.weak (h : MG Φ w0 hb vo vm vt os ms tl made to i w) {i' : Nat} (h1 : i ≤ i') (h2 : i' ≤ 60) : MG (fun _ => True) w0 hb vo vm vt os ms tl made to i' w := by
  obtain ⟨F, L, st, bs, R, hF, hB, hL, hM, hG, hΦ⟩ := h
  exact ⟨F, L, st, bs, R, hF, hB, hL, hM.mono h1 h2, hG, trivial⟩

theorem MG.base (h : MG Φ w0 hb vo vm vt os ms tl made to i w) : Below w0.heap.size w0 w := by
  obtain ⟨F, L, st, bs, R, hF, hB, _⟩ := h
  exact hB

theorem MG.ki (h : MG Φ w0 hb vo vm vt os ms tl made to i w) : made.length ≤ i ∧ i ≤ 60 ∧ to.length = made.length ∧ ∀ t ∈ to, t.1 < made.length ∧ t.2 < made.length := by
  obtain ⟨F, L, st, bs, _, _, _, _, hM, _⟩ := h
  exact ⟨hM.mi.ki, hM.mi.i60, hM.mi.klen, hM.mi.rng⟩

/-- Another heap's state, in blocks of F and new ones. -/
theorem MG.turn {F : Nat → Prop} {L' : Lay} {st' : St} {bs : List Nat} {made' : List Int} {to' : List (Int × Int)} {i' : Nat} (hF : ∀ k, F k → w0.heap.size ≤ k) (hB : Below w0.heap.size w0 w) (hG : LG w0.heap.size F vo vm vt bs os ms tl w)
    (hR : Rep (grow F w w') L' st' w') (hE : Ext F w w') (hL : L'.hb = hb) (hM : MP st' made' to' i') (hΦ : Φ st') : MG Φ w0 hb vo vm vt os ms tl made' to' i' w' := by
  refine ⟨grow F w w', L', st', bs, hR, fun k hk => ?_, hB.trans (hE.below hB.size hF), hL, hM, ?_, hΦ⟩
  · rcases hk with hk | hk
    · exact hF k hk
    · exact Nat.le_trans hB.size hk.1
  · have hrow : ∀ e sz v n xs, Row (fun b => w0.heap.size ≤ b ∧ ¬ F b) e sz w v n xs → Row (fun b => w0.heap.size ≤ b ∧ ¬ grow F w w' b) e sz w' v n xs := fun e sz v n xs hr =>
      ⟨(hr.ext hE (fun k hk => (hr.2 k hk).2)).1, fun k hk => ⟨(hr.2 k hk).1, fun hg => by
        have h1 := hr.lt hk
        rcases hg with hg | hg
        · exact (hr.2 k hk).2 hg
        · omega⟩⟩
    refine ⟨hrow _ _ _ _ _ hG.ro, hrow _ _ _ _ _ hG.rm, hrow _ _ _ _ _ hG.rt, fun j b t hb ht => ?_, hG.nd, hG.len, hG.om⟩
    obtain ⟨h1, h2, h3, h4⟩ := hG.tb j b t hb ht
    refine ⟨hE.get h1 h3, h2, fun hg => ?_, h4⟩
    have := lt_of_blk h1
    rcases hg with hg | hg
    · exact h3 hg
    · omega

theorem mg_new : Calls Try.prog 5 #[.int .i64 2000, .int .i64 6000] w0 fun e w' => ∃ hb, e = .returned (.tuple #[.pointer (some ⟨hb, 0, none⟩), .int .i64 0]) ∧ MG (fun _ => True) w0 hb (.slice none 0 0) (.slice none 0 0) (.slice none 0 0) [] [] [] [] [] 0 w' := by
  refine (new_any 2000 6000 (by decide) (by decide) (by decide) (by decide) w0).mono ?_
  rintro e w' ⟨L, rfl, hR, hB⟩
  refine ⟨L.hb, rfl, _, L, _, [], hR, fun k hk => hk.1, hB, rfl, ⟨?_, rfl, rfl, rfl⟩, LG.start _ _ _, trivial⟩
  exact ⟨rfl, Nat.le_refl _, by decide, rfl, rfl, rfl, rfl, fun j o h => (by cases h), fun n n' o o' h => (by cases h), Nat.le_refl _, Nat.le_refl _, fun t ht => (by cases ht), List.nodup_nil, fun n => ⟨fun h => (by cases h), fun ⟨o, ho, _⟩ => (by cases ho)⟩⟩

theorem mg_minor (h : MG Φ w0 hb vo vm vt os ms tl made to i w) (hi : i < 60) : Calls Try.prog 7 #[.pointer (some ⟨hb, 0, none⟩)] w fun e w' => e = .returned (.tuple #[]) ∧ MG AllOld w0 hb vo vm vt os ms tl made to (i + 1) w' := by
  obtain ⟨F, L, st, bs, R, hF, hB, rfl, hM, hG, _⟩ := h
  refine (Minor_any (minor_any R hM.plain hM.mi.flds hM.nobj hM.nh hM.size)).mono ?_
  rintro e w' ⟨rfl, ⟨l, s0, s1, hl, hR⟩, hE⟩
  obtain ⟨h1, h2⟩ := hM.minor hi hl
  exact ⟨rfl, MG.turn (L' := { L with s0 := s0, s1 := s1 }) hF hB hG hR hE rfl h1 h2⟩

theorem mg_major (h : MG Φ w0 hb vo vm vt os ms tl made to i w) (hi : i < 60) : Calls Try.prog 8 #[.pointer (some ⟨hb, 0, none⟩)] w fun e w' => e = .returned (.tuple #[]) ∧ MG AllOld w0 hb vo vm vt os ms tl made to (i + 1) w' := by
  obtain ⟨F, L, st, bs, R, hF, hB, rfl, hM, hG, _⟩ := h
  refine (Major_any (major_any R hM.mi.whole hM.mi.flds hM.nobj hM.nh hM.roots hM.size)).mono ?_
  rintro e w' ⟨rfl, ⟨S, l, s0, s1, hS, hl, hR⟩, hE⟩
  obtain ⟨h1, h2⟩ := hM.major hi hS hl
  exact ⟨rfl, MG.turn (L' := { L with s0 := s0, s1 := s1 }) hF hB hG hR hE rfl h1 h2⟩

theorem mg_make (h : MG Φ w0 hb vo vm vt os ms tl made to i w) (hi : i < 60) {g : Nat} {m tag : Int} (ht : 0 ≤ tag) (hg : w.heap[g]? = some (.cells #[.bool false, .int .i64 m, .bool false, .int .i64 (m + 1)] 35 (0, 0))) :
    Calls Try.prog 9 #[.pointer (some ⟨hb, 0, none⟩), .int .i64 tag, .slice (some ⟨g, 0, none⟩) 2 2] w fun e w' => e = .returned (.tuple #[.int .i64 made.length, .int .i64 0]) ∧
      MG (fun _ => True) w0 hb vo vm vt os ms tl (made ++ [m]) (to ++ [(-1, -1)]) (i + 1) w' := by
  obtain ⟨F, L, st, bs, R, hF, hB, rfl, hM, hG, _⟩ := h
  refine (make_any (cs := [⟨false, m⟩, ⟨false, m + 1⟩]) (ds := [⟨false, m⟩, ⟨false, m + 1⟩]) (fa := some ⟨g, 0, none⟩) (fc := 2) R rfl ?_ (by show 2 ≤ 10; decide) hM.addOk ?_ tag ht).mono ?_
  · intro k c d hc hd
    match k with
    | 0 => simp at hc hd; subst hc; subst hd; exact ⟨rfl, rfl⟩
    | 1 => simp at hc hd; subst hc; subst hd; exact ⟨rfl, rfl⟩
    | k + 2 => simp at hc
  · intro _
    refine ⟨g, rfl, lt_of_blk hg, fun k c hc => ?_⟩
    match k with
    | 0 => simp at hc; subst hc; exact ⟨cell_of hg 0, cell_of hg 1⟩
    | 1 => simp at hc; subst hc; exact ⟨cell_of hg 2, cell_of hg 3⟩
    | k + 2 => simp at hc
  · rintro e w' ⟨rfl, ⟨ob, s0, s1, _, hR⟩, hE⟩
    exact ⟨by rw [hM.next], MG.turn (L' := { L with s0 := s0, s1 := s1 }) hF hB hG hR hE rfl (hM.make hi ob tag m) trivial⟩

theorem mg_set (h : MG Φ w0 hb vo vm vt os ms tl made to i w) {a c b : Nat} {t : Int × Int} (ha : a < made.length) (hc : c < 2) (hb' : b < made.length) (ht : to[a]? = some t) :
    Calls Try.prog 11 #[.pointer (some ⟨hb, 0, none⟩), .int .i64 a, .int .i64 c, .agg #[.bool true, .int .i64 b]] w fun e w' => e = .returned (.int .i64 0) ∧
      MG (fun _ => True) w0 hb vo vm vt os ms tl made (to.set a (putTo t c b)) i w' := by
  obtain ⟨F, L, st, bs, R, hF, hB, rfl, hM, hG, _⟩ := h
  obtain ⟨o, ho⟩ := (hM.mi.look (a : Int)).2 ⟨by omega, by omega⟩
  obtain ⟨ob, hob⟩ := (hM.mi.look (b : Int)).2 ⟨by omega, by omega⟩
  obtain ⟨g1, g2, g3, g4⟩ := hM.mi.obI ho
  have hm0 := hM.mi.m0; have hm1 := hM.mi.m1; have hk := hM.k60; have hi := hM.mi.i60
  refine (set_ok (c := ⟨true, b⟩) (d := ⟨true, b⟩) R (hM.look ha) ho g1 (by omega) (by unfold rowOf; split <;> omega) ⟨rfl, hM.look hb', ob, hob⟩ (by omega)).mono ?_
  rintro e w' ⟨rfl, hR, hE⟩
  refine ⟨rfl, MG.turn (L' := L) hF hB hG (hR.mono (fun k hk => .inl hk) (fun k hk => ?_)) hE rfl (hM.set ho ht hc (by omega) (by omega)) trivial⟩
  rcases hk with hk | hk
  · exact hR.lt k hk
  · exact hk.2

/-- Something is laid behind the law's lists. -/
theorem MG.pushO (h : MG Φ w0 hb vo vm vt os ms tl made to i w) (x : Int) (hl : os.length < 1000) :
    ∃ a cap w', (Builtin.append_ #[28, 28] 28 #[vo, .slice (some ⟨w.heap.size, 0, none⟩) 1 1]).run Try.prog (w.alloc (.cells #[.int .i64 x] 3)) = .ok (.slice a (os.length + 1) cap) w' ∧
      MG Φ w0 hb (.slice a (os.length + 1) cap) vm vt (os ++ [x]) ms tl made to i w' := by
  obtain ⟨F, L, st, bs, R, hF, hB, rfl, hM, hG, hΦ⟩ := h
  obtain ⟨a, cap, w', r1, r2, r3⟩ := hG.pushO x hl hB.size R.lt
  exact ⟨a, cap, w', r1, F, L, st, bs, R.ext r3 (fun k hk e => (hG.ro.2 k e).2 hk), hF, hB.trans (r3.below hB.size (fun k hk => (hG.ro.2 k hk).1)), rfl, hM, r2, hΦ⟩

theorem MG.pushM (h : MG Φ w0 hb vo vm vt os ms tl made to i w) (x : Int) (hl : ms.length < 1000) :
    ∃ a cap w', (Builtin.append_ #[28, 28] 28 #[vm, .slice (some ⟨w.heap.size, 0, none⟩) 1 1]).run Try.prog (w.alloc (.cells #[.int .i64 x] 3)) = .ok (.slice a (ms.length + 1) cap) w' ∧
      MG Φ w0 hb vo (.slice a (ms.length + 1) cap) vt os (ms ++ [x]) tl made to i w' := by
  obtain ⟨F, L, st, bs, R, hF, hB, rfl, hM, hG, hΦ⟩ := h
  obtain ⟨a, cap, w', r1, r2, r3⟩ := hG.pushM x hl hB.size R.lt
  exact ⟨a, cap, w', r1, F, L, st, bs, R.ext r3 (fun k hk e => (hG.rm.2 k e).2 hk), hF, hB.trans (r3.below hB.size (fun k hk => (hG.rm.2 k hk).1)), rfl, hM, r2, hΦ⟩

theorem MG.pushT (h : MG Φ w0 hb vo vm vt os ms tl made to i w) (t : Int × Int) (hl : tl.length < 1000) :
    ∃ a cap w', (Builtin.append_ #[29, 29] 29 #[vt, .slice (some ⟨w.heap.size + 1, 0, none⟩) 1 1]).run Try.prog ((w.alloc (.cells #[.int .i64 t.1, .int .i64 t.2] 3)).alloc (.cells #[.slice (some ⟨w.heap.size, 0, none⟩) 2 2] 28)) = .ok (.slice a (tl.length + 1) cap) w' ∧
      MG Φ w0 hb vo vm (.slice a (tl.length + 1) cap) os ms (tl ++ [t]) made to i w' := by
  obtain ⟨F, L, st, bs, R, hF, hB, rfl, hM, hG, hΦ⟩ := h
  have hlen := hG.len
  obtain ⟨a, cap, w', r1, r2, r3⟩ := hG.pushT t (by omega) hB.size R.lt
  rw [hlen] at r1 r2
  exact ⟨a, cap, w', r1, F, L, st, _, R.ext r3 (fun k hk e => (hG.rt.2 k e).2 hk), hF, hB.trans (r3.below hB.size (fun k hk => (hG.rt.2 k hk).1)), rfl, hM, r2, hΦ⟩

/-- What the lists look like, and what their cells hold. -/
theorem MG.forms (h : MG Φ w0 hb vo vm vt os ms tl made to i w) : (∃ a cap, vo = .slice a os.length cap) ∧ (∃ a cap, vm = .slice a ms.length cap) ∧ ∃ a cap, vt = .slice a tl.length cap := by
  obtain ⟨F, L, st, bs, R, hF, hB, rfl, hM, hG, hΦ⟩ := h
  refine ⟨hG.ro.form, hG.rm.form, ?_⟩
  rw [← hG.len]; exact hG.rt.form

theorem MG.cellO {a : Option Addr} {cap : Nat} (h : MG Φ w0 hb (.slice a os.length cap) vm vt os ms tl made to i w) {j : Nat} {x : Int} (hx : os[j]? = some x) : ∃ g, a = some ⟨g, 0, none⟩ ∧ ∀ w', Below w.heap.size w w' → w'.cell? ⟨g, j, none⟩ = some (.int .i64 x) := by
  obtain ⟨F, L, st, bs, R, hF, hB, rfl, hM, hG, hΦ⟩ := h
  obtain ⟨g, rfl, _⟩ := hG.ro.addr (by have := (List.getElem?_eq_some_iff.1 hx).1; omega)
  exact ⟨g, rfl, fun w' hw => (hG.ro.below hw hG.ro.lt').int rfl hx⟩

theorem MG.cellM {a : Option Addr} {cap : Nat} (h : MG Φ w0 hb vo (.slice a ms.length cap) vt os ms tl made to i w) {j : Nat} {x : Int} (hx : ms[j]? = some x) : ∃ g, a = some ⟨g, 0, none⟩ ∧ ∀ w', Below w.heap.size w w' → w'.cell? ⟨g, j, none⟩ = some (.int .i64 x) := by
  obtain ⟨F, L, st, bs, R, hF, hB, rfl, hM, hG, hΦ⟩ := h
  obtain ⟨g, rfl, _⟩ := hG.rm.addr (by have := (List.getElem?_eq_some_iff.1 hx).1; omega)
  exact ⟨g, rfl, fun w' hw => (hG.rm.below hw hG.rm.lt').int rfl hx⟩

/-- A pair: where it lies; it is written. -/
theorem MG.cellT {a : Option Addr} {cap : Nat} (h : MG Φ w0 hb vo vm (.slice a tl.length cap) os ms tl made to i w) {j : Nat} {t : Int × Int} (ht : tl[j]? = some t) {c : Nat} (hc : c < 2) :
    ∃ g b, a = some ⟨g, 0, none⟩ ∧ (∀ w', Below w.heap.size w w' → w'.cell? ⟨g, j, none⟩ = some (.slice (some ⟨b, 0, none⟩) 2 2) ∧ w'.cell? ⟨b, c, none⟩ = some (.int .i64 (pairAt t c)) ∧ w'.frozen? ⟨b, c, none⟩ = false) ∧
      ∀ (x : Int) m, MG Φ w0 hb vo vm (.slice a tl.length cap) os ms (tl.set j (putTo t c x)) made to i ((w.drewN m).setCell ⟨b, c, none⟩ (.int .i64 x)) := by
  obtain ⟨F, L, st, bs, R, hF, hB, rfl, hM, hG, hΦ⟩ := h
  have hj := (List.getElem?_eq_some_iff.1 ht).1
  have hbj : bs[j]? = some (bs[j]'(by rw [hG.len]; exact hj)) := List.getElem?_eq_getElem _
  generalize hbe : (bs[j]'(by rw [hG.len]; exact hj)) = b at hbj
  obtain ⟨a1, a2, a3, a4, a5⟩ := hG.tb j b t hbj ht
  have hrt := hG.rt
  rw [hG.len] at hrt
  obtain ⟨g, rfl, _⟩ := hrt.addr (by omega)
  refine ⟨g, b, rfl, fun w' hw => ⟨?_, ?_, free_of (Below.get hw a1 (lt_of_blk a1)) c⟩, fun x m => ?_⟩
  · rw [(hrt.below hw hrt.lt').cell j (by omega), List.getElem?_map, hbj]; rfl
  · rw [cell_of (Below.get hw a1 (lt_of_blk a1))]
    match c, hc with
    | 0, _ => rfl
    | 1, _ => rfl
  · have hbd := below_drewN (Below.refl w.heap.size w) m
    obtain ⟨h1, h2⟩ := (hG.below hbd).setT hbj ht hc x
    exact ⟨F, L, st, bs, (R.drewN m).ext h2 (fun k hk e => a3 (e ▸ hk)), hF, (below_drewN hB m).trans (h2.below hB.size (fun k hk => hk ▸ a2)), rfl, hM, h1, hΦ⟩

/-- aged, and how many are remembered. -/
theorem mg_aged (h : MG Φ w0 hb vo vm vt (nms made.length) made to made to i w) : ∃ (al : Bool) (n : Nat), ((∀ st, Φ st → AllOld st) → al = true) ∧ n < 1000 ∧
    Calls Try.prog 13 #[.pointer (some ⟨hb, 0, none⟩), vo, vt] w (fun e w' => e = .returned (.tuple #[.bool al, .int .i64 n]) ∧ Below w.heap.size w w') ∧
    ∀ w', Below w.heap.size w w' → Calls Try.prog 14 #[.pointer (some ⟨hb, 0, none⟩)] w' fun e w'' => e = .returned (.int .i64 n) ∧ w' = w'' := by
  obtain ⟨F, L, st, bs, R, hF, hB, rfl, hM, hG, hΦ⟩ := h
  refine ⟨ageAll st made.length, ageCnt st to made.length, fun hall => hM.mi.allOld (hall st hΦ), ?_, aged_any R hM.mi (fun j hj => hM.look hj) (hG.lm hM.mi.klen), fun w' hw => ?_⟩
  · have := ageCnt_le st to made.length
    have := hM.k60
    omega
  · have := remembered_any (R.below' hw)
    rw [hM.mi.count] at this
    exact this
end ops
end Go.Proofs.Ytpjifaefchnmoaa
