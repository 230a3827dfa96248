/- The heap's methods at the states that the law's first look goes through. -/
import Derived.Test.YtpjifaefchnmoaaSaneLaw
namespace Go.Proofs.Ytpjifaefchnmoaa
open Go.RowKit

/-- Behind w0, in new blocks, lies a heap that holds st; its own block is hb. -/
def Hp (w0 : World) (hb : Nat) (st : St) (w : World) : Prop := ∃ F L, Rep F L st w ∧ (∀ k, F k → w0.heap.size ≤ k) ∧ Below w0.heap.size w0 w ∧ L.hb = hb

section hp
variable {w0 w w' : World} {hb : Nat} {st st' : St} {F : Nat → Prop} {L : Lay}

theorem Hp.below (h : Hp w0 hb st w) (hw : Below w.heap.size w w') : Hp w0 hb st w' := by
  obtain ⟨F, L, R, hF, hB, hL⟩ := h
  exact ⟨F, L, R.below' hw, hF, hB.trans (hw.mono hB.size), hL⟩

theorem Hp.of (hF : ∀ k, F k → w0.heap.size ≤ k) (hB : Below w0.heap.size w0 w) (hR : Rep (grow F w w') L st' w') (hE : Ext F w w') : Hp w0 L.hb st' w' :=
  ⟨_, L, hR, fun k hk => by
    rcases hk with hk | hk
    · exact hF k hk
    · exact Nat.le_trans hB.size hk.1, hB.trans (hE.below hB.size hF), rfl⟩

theorem ok1 (b1 : Nat) : AddOk (sane1 b1) 1 :=
  ⟨by show (1 : Int) + 1 ≤ 20; decide, by show 1 < 50000; decide, by show (20 : Int) < 100000; decide, rfl, by show (0 : Int) ≤ 1; decide, by show (1 : Int) < 100000; decide, rfl, by show (1 : Int) < 100000; decide, by show (0 : Int) ≤ 1; decide,
    by show 1 < 10000; decide, by show (1 : Int) + 1 ≤ 40; decide, by show 1 < 50000; decide⟩

theorem ok3 (b1 b2 : Nat) (ve : Value) : AddOk (sane3 b1 b2 ve) 3 :=
  ⟨by show (2 : Int) + 3 ≤ 20; decide, by show 2 < 50000; decide, by show (20 : Int) < 100000; decide, rfl, by show (0 : Int) ≤ 2; decide, by show (2 : Int) < 100000; decide, rfl, by show (2 : Int) < 100000; decide, by show (0 : Int) ≤ 2; decide,
    by show 2 < 10000; decide, by show (5 : Int) + 3 ≤ 40; decide, by show 5 < 50000; decide⟩

theorem hp_new : Calls Try.prog 5 #[.int .i64 20, .int .i64 40] w0 fun e w' => ∃ hb, e = .returned (.tuple #[.pointer (some ⟨hb, 0, none⟩), .int .i64 0]) ∧ Hp w0 hb (newSt 20 40) w' := by
  refine (new_any 20 40 (by decide) (by decide) (by decide) (by decide) w0).mono ?_
  rintro e w' ⟨L, rfl, hR, hB⟩
  exact ⟨L.hb, rfl, _, L, hR, fun k hk => hk.1, hB, rfl⟩

theorem hp_make1 (h : Hp w0 hb (newSt 20 40) w) : Calls Try.prog 9 #[.pointer (some ⟨hb, 0, none⟩), .int .i64 0, .slice none 0 0] w fun e w' => e = .returned (.tuple #[.int .i64 0, .int .i64 0]) ∧ ∃ b1, Hp w0 hb (sane1 b1) w' := by
  obtain ⟨F, L, R, hF, hB, rfl⟩ := h
  refine (make_any (cs := []) (ds := []) (fa := none) (fc := 0) R rfl (by simp) (by simp) ⟨by decide, by decide, by decide, rfl, by decide, by decide, rfl, by decide, by decide, by decide, by decide, by decide⟩ (by simp) 0 (by decide)).mono ?_
  rintro e w' ⟨rfl, ⟨ob, s0, s1, _, hR⟩, hE⟩
  exact ⟨rfl, ob, Hp.of (L := { L with s0 := s0, s1 := s1 }) hF hB hR hE⟩

theorem hp_table {b1 : Nat} (h : Hp w0 hb (sane1 b1) w) : Calls Try.prog 17 #[.pointer (some ⟨hb, 0, none⟩)] w fun e w' => e = .returned (.tuple #[.int .i64 1, .int .i64 0]) ∧ ∃ b2, Hp w0 hb (sane2 b1 b2) w' := by
  obtain ⟨F, L, R, hF, hB, rfl⟩ := h
  refine (table_any R (ok1 b1)).mono ?_
  rintro e w' ⟨rfl, ⟨ob, s0, s1, _, hR⟩, hE⟩
  exact ⟨rfl, ob, Hp.of (L := { L with s0 := s0, s1 := s1 }) hF hB hR hE⟩

theorem hp_put {b1 b2 : Nat} (h : Hp w0 hb (sane2 b1 b2) w) : Calls Try.prog 18 #[.pointer (some ⟨hb, 0, none⟩), .int .i64 1, .int .i64 0, .agg #[.bool false, .int .i64 5]] w fun e w' => e = .returned (.int .i64 0) ∧ ∃ ve, Hp w0 hb (sane3 b1 b2 ve) w' := by
  obtain ⟨F, L, R, hF, hB, rfl⟩ := h
  refine (put_any (kt := 1) (nt := 1) (kk := 0) (nk := 0) (c := ⟨false, 5⟩) (d := ⟨false, 5⟩) (o := saneT b2) R rfl rfl rfl rfl rfl rfl ⟨rfl, rfl⟩ (by show (2 : Int) + 3 ≤ 40; decide) (by show 2 < 50000; decide) (by show (1 + 1 + 0 : Nat) ≤ 2; decide) (by show 2 < 100000; decide)).mono ?_
  rintro e w' ⟨rfl, ⟨ve, hR⟩, hE⟩
  exact ⟨rfl, ve, Hp.of hF hB hR hE⟩

theorem hp_find {b1 b2 : Nat} {ve : Value} (h : Hp w0 hb (sane3 b1 b2 ve) w) : Calls Try.prog 19 #[.pointer (some ⟨hb, 0, none⟩), .int .i64 1, .int .i64 0] w fun e w' => e = .returned (.tuple #[.agg #[.bool false, .int .i64 5], .bool true, .int .i64 0]) ∧ Hp w0 hb (sane3 b1 b2 ve) w' := by
  have h' := h
  obtain ⟨F, L, R, hF, hB, rfl⟩ := h
  refine (find_num (kt := 1) (nt := 1) (kk := 0) (nk := 0) (d := ⟨false, 5⟩) (o := entOb (saneT b2) ve 0 ⟨false, 5⟩) R rfl rfl rfl rfl rfl rfl rfl).mono ?_
  rintro e w' ⟨rfl, hb'⟩
  exact ⟨rfl, h'.below hb'⟩

theorem hp_used {n : Nat} (hn : wsum st.objs = n) (hn2 : n < 1000) (h : Hp w0 hb st w) : Calls Try.prog 20 #[.pointer (some ⟨hb, 0, none⟩)] w fun e w' => e = .returned (.int .i64 n) ∧ Below w.heap.size w w' := by
  obtain ⟨F, L, R, hF, hB, rfl⟩ := h
  rw [← hn]
  exact Used_any R (by omega)

theorem hp_set {b1 b2 : Nat} {ve : Value} (h : Hp w0 hb (sane3 b1 b2 ve) w) : Calls Try.prog 11 #[.pointer (some ⟨hb, 0, none⟩), .int .i64 0, .int .i64 0, .agg #[.bool false, .int .i64 1]] w fun e w' => e = .returned (.int .i64 222) ∧ Below w.heap.size w w' := by
  obtain ⟨F, L, R, hF, hB, rfl⟩ := h
  exact set_bad (k := 0) (n := 0) (c := ⟨false, 1⟩) (d := ⟨false, 1⟩) (i := 0) (o := newOb b1 false 0 0) R rfl rfl rfl ⟨rfl, rfl⟩ (Nat.le_refl _) (by decide)

theorem hp_make2 {b1 b2 : Nat} {ve : Value} (h : Hp w0 hb (sane3 b1 b2 ve) w) {g : Nat} (hg : w.heap[g]? = some (.cells #[.bool true, .int .i64 0, .bool false, .int .i64 7] 35 (0, 0))) :
    Calls Try.prog 9 #[.pointer (some ⟨hb, 0, none⟩), .int .i64 1, .slice (some ⟨g, 0, none⟩) 2 2] w fun e w' => e = .returned (.tuple #[.int .i64 2, .int .i64 0]) ∧ ∃ b3, Hp w0 hb (sane4 b1 b2 ve b3) w' := by
  obtain ⟨F, L, R, hF, hB, rfl⟩ := h
  refine (make_any (cs := [⟨true, 0⟩, ⟨false, 7⟩]) (ds := [⟨true, 0⟩, ⟨false, 7⟩]) (fa := some ⟨g, 0, none⟩) (fc := 2) R rfl ?_ (by decide) (ok3 b1 b2 ve) ?_ 1 (by decide)).mono ?_
  · intro k c d hc hd
    match k with
    | 0 => simp at hc hd; subst hc; subst hd; exact ⟨rfl, rfl, _, rfl⟩
    | 1 => simp at hc hd; subst hc; subst hd; exact ⟨rfl, rfl⟩
    | k + 2 => simp at hc
  · intro _
    refine ⟨g, rfl, lt_of_blk hg, fun k c hc => ?_⟩
    match k with
    | 0 => simp at hc; subst hc; exact ⟨cell_of hg 0, cell_of hg 1⟩
    | 1 => simp at hc; subst hc; exact ⟨cell_of hg 2, cell_of hg 3⟩
    | k + 2 => simp at hc
  · rintro e w' ⟨rfl, ⟨ob, s0, s1, _, hR⟩, hE⟩
    exact ⟨rfl, ob, Hp.of (L := { L with s0 := s0, s1 := s1 }) hF hB hR hE⟩

theorem hp_drop {k n : Int} {o : Ob} (hk : alook st.hnd k = some n) (ho : alook st.objs n = some o) (hf : st.free = [] ∨ ∃ a, st.free = [a] ∧ a ≤ k) (h : Hp w0 hb st w) :
    Calls Try.prog 21 #[.pointer (some ⟨hb, 0, none⟩), .int .i64 k] w fun e w' => e = .returned (.int .i64 0) ∧ Hp w0 hb (dropSt st k) w' := by
  obtain ⟨F, L, R, hF, hB, rfl⟩ := h
  refine (drop_any R hk ho hf).mono ?_
  rintro e w' ⟨rfl, ⟨sf, hR⟩, hE⟩
  exact ⟨rfl, Hp.of (L := { L with sf := sf }) hF hB hR hE⟩

theorem hp_major {Φ : St → Prop} (hwh : Whole st) (hfl : Flds st) (hN : st.objs.length < 1000) (hnh : st.hnd.length < 10000) (hf : ∀ n ∈ st.hnd.map (·.2), ∃ o, alook st.objs n = some o) (hsz : ∀ n o, alook st.objs n = some o → o.size ≤ 3)
    (hΦ : ∀ S l, ReachS st (st.hnd.map (·.2)) S → l.Perm ((swept st S).objs.map (·.1)) → Φ (settleSt (swept st S) l)) (h : Hp w0 hb st w) :
    Calls Try.prog 8 #[.pointer (some ⟨hb, 0, none⟩)] w fun e w' => e = .returned (.tuple #[]) ∧ ∃ st', Φ st' ∧ Hp w0 hb st' w' := by
  obtain ⟨F, L, R, hF, hB, rfl⟩ := h
  refine (Major_any (major_any R hwh hfl hN hnh hf hsz)).mono ?_
  rintro e w' ⟨rfl, ⟨S, l, s0, s1, hS, hl, hR⟩, hE⟩
  exact ⟨rfl, _, hΦ S l hS hl, Hp.of (L := { L with s0 := s0, s1 := s1 }) hF hB hR hE⟩

theorem hp_count {k n : Int} {o : Ob} (hk : alook st.hnd k = some n) (ho : alook st.objs n = some o) (ht : o.tbl = true) (h : Hp w0 hb st w) :
    Calls Try.prog 22 #[.pointer (some ⟨hb, 0, none⟩), .int .i64 k] w fun e w' => e = .returned (.tuple #[.int .i64 (entCount o.ent), .int .i64 0]) ∧ w = w' := by
  obtain ⟨F, L, R, hF, hB, rfl⟩ := h
  exact count_any R hk ho ht

theorem hp_get {o0 o1 o2 : Ob} (ht : Three st o0 o1 o2) (hh : st.hnd = [(1, 1), (2, 2)]) (hf : st.free = [0]) (h : Hp w0 hb st w) :
    Calls Try.prog 15 #[.pointer (some ⟨hb, 0, none⟩), .int .i64 2, .int .i64 0] w fun e w' => e = .returned (.tuple #[.agg #[.bool true, .int .i64 0], .int .i64 0]) ∧ Hp w0 hb { st with hnd := [(1, 1), (2, 2), (0, 0)], free := [] } w' := by
  obtain ⟨F, L, R, hF, hB, rfl⟩ := h
  have hg := get_ref (k := 2) (n := 2) (i := 0) (d := ⟨true, 0⟩) (kn := 0) (Φ := fun w' => ∃ sf, Rep F { L with sf := sf } (handleSt1 st 0 0) w') R (by rw [hh]; rfl) ht.l2 ht.t2.1 (by have := ht.t2; omega) (by have := ht.flds.row o2; omega) (by rw [hh]; decide) (by rw [ht.t2.2.1]; decide) (by rw [ht.t2.2.2.2.2]; rfl) rfl
    (fun w1 hw1 => (handle_free (R.below' hw1) hf 0).mono fun e w' ⟨h1, h2, h3⟩ => ⟨h1, h2, h3⟩)
  refine hg.mono ?_
  rintro e w' ⟨rfl, w1, ⟨sf, hR⟩, hE1, hE2⟩
  have hst : handleSt1 st 0 0 = { st with hnd := [(1, 1), (2, 2), (0, 0)], free := [] } := by
    unfold handleSt1; rw [hh]; rfl
  rw [hst] at hR
  refine ⟨rfl, F, { L with sf := sf }, hR.ext hE2 (fun k hk hle => by have := R.lt k hk; omega), hF, hB.trans ((hE1.below hB.size hF).trans (hE2.below (Nat.le_trans hB.size hE1.size) (fun k hk => Nat.le_trans hB.size hk))), rfl⟩
end hp
end Go.Proofs.Ytpjifaefchnmoaa
