/- The walk over objects (what was seen, what is still to be looked at): the method see. -/
import Derived.Test.YtpjifaefchnmoaaBase2
namespace Go.Proofs.Ytpjifaefchnmoaa
open Go.RowKit

theorem info3 : (Try.prog.info? 3).map (fun i => (i.zero, i.size, i.bytes)) = some (some (.int .i64 0), 1, 8) := by kernel_rfl
theorem zero4 (w : World) : (zeroValue 4).run Try.prog w = .ok (.bool false) w := by kernel_rfl
theorem zero3 (w : World) : (zeroValue 3).run Try.prog w = .ok (.int .i64 0) w := by kernel_rfl
theorem zero71 (w : World) : (zeroValue 71).run Try.prog w = .ok (.pointer none) w := by kernel_rfl

def ints (l : List Int) : List Value := l.map (Value.int .i64)

/-- Block wb is a walk: S was seen, T is still to be looked at. -/
def WalkR (F : Nat → Prop) (w : World) (wb sb : Nat) (S T : List Int) : Prop :=
  ∃ tv, w.heap[wb]? = some (.cells #[.map (some sb), tv] 90 (0, 0)) ∧ IMap w sb (S.map fun n => (n, .bool true)) ∧ Row F 3 1 w tv T.length (ints T) ∧ F wb ∧ F sb

theorem WalkR.mono {F G : Nat → Prop} {w : World} {wb sb : Nat} {S T : List Int} (h : WalkR F w wb sb S T) (hFG : ∀ k, F k → G k) : WalkR G w wb sb S T := by
  obtain ⟨tv, h1, h2, h3, h4, h5⟩ := h
  exact ⟨tv, h1, h2, h3.mono hFG, hFG _ h4, hFG _ h5⟩

theorem WalkR.of_block {F : Nat → Prop} {w w' : World} {wb sb : Nat} {S T : List Int} (h : WalkR F w wb sb S T) (hb : ∀ k, F k → k < w.heap.size → w'.heap[k]? = w.heap[k]?) : WalkR F w' wb sb S T := by
  obtain ⟨tv, h1, h2, h3, h4, h5⟩ := h
  exact ⟨tv, (hb _ h4 (lt_of_blk h1)).trans h1, h2.of_block (hb _ h5 h2.lt), h3.of_block fun k hk => hb k (h3.2 k hk) (h3.lt hk), h4, h5⟩

theorem WalkR.ext {F G : Nat → Prop} {w w' : World} {wb sb : Nat} {S T : List Int} (h : WalkR F w wb sb S T) (hE : Ext G w w') (hd : ∀ k, F k → ¬ G k) : WalkR F w' wb sb S T :=
  h.of_block fun k hk hl => hE.block k hl (hd k hk)

theorem look_seen (S : List Int) (n : Int) : alook (S.map fun n => (n, Value.bool true)) n = if n ∈ S then some (.bool true) else none := by
  induction S with
  | nil => rfl
  | cons a S ih =>
    simp only [List.map_cons, alook, ih, List.mem_cons]
    by_cases h : n = a <;> simp [h]

/-- What 'see' makes of a name. -/
def seeA (s : List Int × List Int) (n : Int) : List Int × List Int := if n ∈ s.1 then s else (s.1 ++ [n], s.2 ++ [n])

set_option maxRecDepth 100000 in
set_option maxHeartbeats 400000 in
theorem see_any (F : Nat → Prop) (w : World) (wb sb : Nat) (S T : List Int) (n : Int) (hW : WalkR F w wb sb S T) (hT : T.length < 100000) :
    Calls Try.prog 42 #[.pointer (some ⟨wb, 0, none⟩), .int .i64 n] w fun e w' => e = .returned (.tuple #[]) ∧
      WalkR (grow F w w') w' wb sb (seeA (S, T) n).1 (seeA (S, T) n).2 ∧ Ext F w w' := by
  have hWW := hW
  obtain ⟨tv, hb, hI, hr, hFw, hFs⟩ := hW
  have c0 : w.cell? ⟨wb, 0, none⟩ = some (.map (some sb)) := by rw [cell_of hb]; rfl
  have lk := hI.look Try.underlying58 Try.underlying3 (zero4 w) n false
  rw [look_seen] at lk
  by_cases hn : n ∈ S
  · rw [if_pos hn] at lk
    have hz : WalkR (grow F w w) w wb sb (seeA (S, T) n).1 (seeA (S, T) n).2 := by
      simp only [seeA, hn, if_true]; exact hWW.mono fun k hk => .inl hk
    have hE := Ext.refl F w
    clear hb hI hr hFw hFs hWW
    go_enter Try.func42, Try.ntmps42
    go_wp2
    go_end0
    exact ⟨rfl, hz, hE⟩
  · rw [if_neg hn] at lk
    obtain ⟨w1, u1, hI1, hE1⟩ := hI.update Try.underlying58 Try.underlying3 n (.bool true)
    have hne : ¬ wb = sb := by rintro rfl; obtain ⟨es, c, h, _⟩ := hI; rw [h] at hb; cases hb
    have hne2 : ∀ k, tv.ownBlock = some k → ¬ k = sb := by
      rintro k hk rfl
      rcases hr.cases with ⟨rfl, _⟩ | ⟨g, cap, cur, rfl, _, hg, _⟩
      · cases hk
      · cases hk; obtain ⟨es, c, h, _⟩ := hI; rw [h] at hg; cases hg
    have hne3 : ∀ k, tv.ownBlock = some k → ¬ k = wb := by
      rintro k hk rfl
      rcases hr.cases with ⟨rfl, _⟩ | ⟨g, cap, cur, rfl, _, hg, _⟩
      · cases hk
      · cases hk; rw [hg] at hb; cases hb
    have hb1 := hE1.get hb hne
    have d0 : w1.cell? ⟨wb, 0, none⟩ = some (.map (some sb)) := by rw [cell_of hb1]; rfl
    have d1 : w1.cell? ⟨wb, 1, none⟩ = some tv := by rw [cell_of hb1]; rfl
    have hr1 : Row (fun k => tv.ownBlock = some k) 3 1 w1 tv T.length (ints T) := ⟨(hr.ext hE1 hne2).1, fun _ h => h⟩
    obtain ⟨v', w2, hrun2, hr2, hE2, hb2⟩ := hr1.append1 Try.underlying28 info3 rfl 28 (.int .i64 n) rfl (by omega) (by decide)
    have hw2 := hE2.get hb1 (fun h => hne3 wb h rfl)
    have c2 : w2.cell? ⟨wb, 1, none⟩ = some tv := by rw [cell_of hw2]; rfl
    have f2 : w2.frozen? ⟨wb, 1, none⟩ = false := free_of hw2 1
    have hlt2 := lt_of_blk hw2
    have hfin : WalkR (grow F w (w2.setCell ⟨wb, 1, none⟩ v')) (w2.setCell ⟨wb, 1, none⟩ v') wb sb (seeA (S, T) n).1 (seeA (S, T) n).2 ∧ Ext F w (w2.setCell ⟨wb, 1, none⟩ v') := by
      have hE3 := ext_setCell w2 wb 1 v'
      have hg : ∀ k, grow (fun k => tv.ownBlock = some k) w1 w2 k → grow F w (w2.setCell ⟨wb, 1, none⟩ v') k := by
        rintro k (hk | hk)
        · exact .inl (hr.2 k hk)
        · exact .inr ⟨Nat.le_trans hE1.size hk.1, Nat.lt_of_lt_of_le hk.2 hE3.size⟩
      have hsb : ¬ sb = wb := fun e => hne e.symm
      refine ⟨?_, ?_⟩
      · simp only [seeA, hn, if_false]
        refine ⟨v', ?_, ?_, ?_, .inl hFw, .inl hFs⟩
        · have := get_setCell hw2 1 v'
          simpa using this
        · have h1 := (hI1.ext hE2 (fun h => hne2 sb h rfl)).ext hE3 hsb
          rw [aset_of_none (by rw [look_seen, if_neg hn])] at h1
          simpa using h1
        · have h2 := (hr2.mono hg).ext hE3 (by
            rintro k hk rfl
            rcases hr2.cases with ⟨rfl, _⟩ | ⟨g, cap, cur, rfl, _, hgg, _⟩
            · cases hk
            · cases hk; rw [hgg] at hw2; cases hw2)
          simpa [ints] using h2
      · refine ((hE1.mono (G := F) (fun k hk => hk ▸ hFs)).trans (hE2.mono (G := F) (fun k hk => hr.2 k hk)) (fun i hi => .inl hi)).trans (hE3.mono (G := F) (fun k hk => hk ▸ hFw)) (fun i hi => .inl hi)
    obtain ⟨a', cap', rfl⟩ := hr2.form
    obtain ⟨a0, cap0, rfl⟩ := hr.form
    have H := Lib.hid hfin
    clear hI hI1 hE1 hb hb1 hr hr1 hr2 hE2 hb2 hw2 hFw hFs hWW hfin hne hne2 hne3 hlt2
    go_enter Try.func42, Try.ntmps42
    go_wp2_with (at_builtin; refine wpList_append_eq rfl _ _ _ rfl _ _ rfl rfl _ hrun2 ?_)
    go_end0
    exact ⟨rfl, H.out⟩
end Go.Proofs.Ytpjifaefchnmoaa
