/- The method reached: all objects that are reached from some. -/
import Derived.Test.YtpjifaefchnmoaaRS
import Derived.Deep.LoopGhost
import Derived.StillTailTactics
namespace Go.Proofs.Ytpjifaefchnmoaa
open Go.RowKit

def ReachPost (w : World) (st : St) (frm : List Int) (e : Ending) (w' : World) : Prop :=
  ∃ sb S, e = .returned (.map (some sb)) ∧ IMap w' sb (S.map fun n => (n, .bool true)) ∧ w.heap.size ≤ sb ∧ Below w.heap.size w w' ∧ ReachS st frm S

/-- Where the fields lie is within the words. -/
def Flds (st : St) : Prop := (∀ n o, alook st.objs n = some o → o.at_ + 1 + o.size ≤ (rowOf st o).length) ∧ st.m0.length < 20000 ∧ st.m1.length < 20000

theorem Flds.row {st : St} (h : Flds st) (o : Ob) : (rowOf st o).length < 20000 := by
  unfold rowOf; split
  · exact h.2.2
  · exact h.2.1

/-- The entries of the first j tables have been looked at. -/
def EntDone (st : St) (S X : List Int) (l : List Int) : Prop :=
  ∀ n ∈ l, ∀ o, alook st.objs n = some o → ∀ k d, o.ent = some (k, d) → k ∈ S → d.ref = true → d.num ∈ S ++ X

/-- What an entry brings. -/
def entSee (S : List Int) (k : Int) (d : Wd) : List Int := if k ∈ S ∧ d.ref = true then [d.num] else []

section reached
variable {F : Nat → Prop} {L : Lay} {st : St} {w : World}

theorem Row.addr {F : Nat → Prop} {e : TypeId} {size : Nat} {w : World} {a : Option Addr} {n cap : Nat} {xs : List Value} (h : Row F e size w (.slice a n cap) n xs) (hn : 0 < n) : ∃ g, a = some ⟨g, 0, none⟩ ∧ F g := by
  rcases h.cases with ⟨_, h0, _⟩ | ⟨g, cap', cur, hv, hF, _⟩
  · omega
  · cases hv; exact ⟨g, rfl, hF⟩

theorem Row.int {F : Nat → Prop} {w : World} {g n cap : Nat} {l : List Int} (h : Row F 3 1 w (.slice (some ⟨g, 0, none⟩) n cap) n (ints l)) (hn : n = l.length) {k : Nat} {x : Int} (hk : l[k]? = some x) : w.cell? ⟨g, k, none⟩ = some (.int .i64 x) := by
  have hlt : k < l.length := (List.getElem?_eq_some_iff.1 hk).1
  rw [h.cell k (by omega)]
  simp [ints, hk]

set_option maxRecDepth 100000 in
set_option maxHeartbeats 4000000 in
theorem reached_any (R : Rep F L st w) (hwh : Whole st) (hfl : Flds st) (hN : st.objs.length < 10000)
    {F' : Nat → Prop} {a : Option Addr} {cap : Nat} {frm : List Int} (hv : Row F' 3 1 w (.slice a frm.length cap) frm.length (ints frm)) (hfn : frm.length < 100000)
    (hf : ∀ n ∈ frm, ∃ o, alook st.objs n = some o) :
    Calls Try.prog 66 #[.pointer (some ⟨L.hb, 0, none⟩), .slice a frm.length cap] w (ReachPost w st frm) := by
  have hBB : w.heap.size ≤ w.heap.size := Nat.le_refl _
  -- the walk, new
  have h0 : RS w.heap.size w ((w.alloc (.map #[] 0)).alloc (.cells #[.map (some w.heap.size), .slice none 0 0] 90)) (w.heap.size + 1) w.heap.size (.slice none 0 0) [] [] [] := by
    have hb := ((Below.refl w.heap.size w).alloc (Nat.le_refl _) (.map #[] 0)).alloc (by simp) (.cells #[.map (some w.heap.size), .slice none 0 0] 90)
    refine ⟨hb, Row.nil _ _ _ _, fun k => k = w.heap.size ∨ k = w.heap.size + 1, ⟨.slice none 0 0, ?_, (IMap.made w).alloc _, Row.nil _ _ _ _, .inr rfl, .inl rfl⟩, ?_⟩
    · have := Below.heap_new (w.alloc (.map #[] 0)) (.cells #[.map (some w.heap.size), .slice none 0 0] 90)
      simpa using this
    · intro k hk
      simp
      rcases hk with rfl | rfl
      · exact ⟨by omega, by omega, by simp [Value.ownBlock]⟩
      · exact ⟨by omega, by omega, by simp [Value.ownBlock]⟩
  have H0 := Lib.hid h0
  have hmm := @run_makeMap Try.prog
  -- the loop over what is handed in
  have hcellA : ∀ wr k x g, a = some ⟨g, 0, none⟩ → Below w.heap.size w wr → frm[k]? = some x → wr.cell? ⟨g, k, none⟩ = some (.int .i64 x) := by
    intro wr k x g hg hb hx
    subst hg
    exact (hv.below hb hv.lt').int rfl hx
  have HcellA := Lib.hid hcellA
  have hadr : 0 < frm.length → ∃ g, a = some ⟨g, 0, none⟩ := fun h => by obtain ⟨g, e, _⟩ := hv.addr h; exact ⟨g, e⟩
  have Hadr := Lib.hid hadr
  have hsee : ∀ wr tv S T U n, RS w.heap.size w wr (w.heap.size + 1) w.heap.size tv S T U → T.length < 100000 → Calls Try.prog 42 #[.pointer (some ⟨w.heap.size + 1, 0, none⟩), .int .i64 n] wr fun e w'' =>
      e = .returned (.tuple #[]) ∧ RS w.heap.size w w'' (w.heap.size + 1) w.heap.size tv (seeA (S, T) n).1 (seeA (S, T) n).2 U := fun wr tv S T U n h hT => h.see hT hBB n
  have Hsee := Lib.hid hsee
  have hseesL : ∀ k, (sees ([], []) (frm.take k)).2.length ≤ frm.length := by
    intro k
    obtain ⟨X, e, hX, hX2, _⟩ := sees_spec (frm.take k) [] []
    rw [e]
    simp only [List.nil_append]
    exact nodup_le hX (fun x hx => List.mem_of_mem_take (hX2 x hx).1)
  have HseesL := Lib.hid hseesL
  clear h0 hcellA hadr hsee hseesL
  go_enter Try.func66, Try.ntmps66
  go_wp2
  go_loopw [20] (fun i wr => ∃ k : Nat, k ≤ frm.length ∧ i = .int .i64 k ∧ RS w.heap.size w wr (w.heap.size + 1) w.heap.size (.slice none 0 0) (sees ([], []) (frm.take k)).1 (sees ([], []) (frm.take k)).2 []) (fun i _ => frm.length - (intOf i).toNat)
  case atStart => exact ⟨0, Nat.zero_le _, rfl, H0.out⟩
  case round =>
    obtain ⟨k, hk, rfl, hrs⟩ := hrel
    by_cases hlt : k < frm.length
    · obtain ⟨g, hg⟩ := Hadr.out (by omega)
      subst hg
      obtain ⟨x, hx⟩ : ∃ x, frm[k]? = some x := ⟨_, List.getElem?_eq_getElem hlt⟩
      have q1 := HcellA.out wr k x g rfl hrs.1 hx
      have hts : sees ([], []) (frm.take (k + 1)) = seeA (sees ([], []) (frm.take k)) x := by
        rw [List.take_add_one, hx]; simp [sees, List.foldl_append]
      have Hc := Lib.hid (Hsee.out wr _ _ _ _ x hrs (Nat.lt_of_le_of_lt (HseesL.out k) hfn))
      have Hts := Lib.hid hts
      clear hrs hx hts
      go_wp2_with (go_at_call 42; refine Hc.out.mono ?_; rintro e w' ⟨rfl, hrs'⟩; have Hrs' := Lib.hid hrs'; clear hrs')
      go_roundw
      case rel => exact ⟨k + 1, by omega, by go_num, by rw [Hts.out]; exact Hrs'.out⟩
      case measure => simp [intOf]; omega
    · have e : k = frm.length := by omega
      subst e
      rw [List.take_length] at hrs
      have Hrs := Lib.hid hrs
      clear hrs
      obtain ⟨hci0, hfr0⟩ := CI.start hf
      have Hci0 := Lib.hid hci0
      have Hfr0 := Lib.hid hfr0
      clear hci0 hfr0
      go_wp2
      have HR := Lib.hid (fun wr hb => Rep.below' (w' := wr) R hb)
      have HF := Lib.hid hfl
      have HW := Lib.hid hwh
      clear R hfl hwh
      go_loopg [8] (st.objs.length - (sees ([], []) frm).1.length + 1) (fun gk tv wr => ∃ S T U, RS w.heap.size w wr (w.heap.size + 1) w.heap.size tv S T U ∧ CI st frm S T U ∧ (∀ n ∈ frm, n ∈ S) ∧ gk = st.objs.length - S.length + 1)
      case atStart => exact ⟨_, _, [], Hrs.out, Hci0.out, Hfr0.out, rfl⟩
      case round =>
        obtain ⟨S, T, U, hrs, hci, hfr, hgk⟩ := hrel
        obtain ⟨wo, rfl⟩ : ∃ wo : World, wo = wr := ⟨_, rfl⟩
        have Hrs1 := Lib.hid hrs
        have Hci1 := Lib.hid hci
        have Hfr1 := Lib.hid hfr
        have Hgk := Lib.hid hgk
        clear hrs hci hfr hgk
        go_wp2
        go_loopg [8] (2 * (st.objs.length - S.length) + T.length) (fun gm tv wr => ∃ S' T' U', RS w.heap.size w wr (w.heap.size + 1) w.heap.size tv S' T' U' ∧ CI st frm S' T' U' ∧ (∀ n ∈ frm, n ∈ S') ∧ S.length ≤ S'.length ∧ gm = 2 * (st.objs.length - S'.length) + T'.length)
        case atStart => exact ⟨S, T, U, Hrs1.out, Hci1.out, Hfr1.out, Nat.le_refl _, rfl⟩
        case round =>
          obtain ⟨S', T', U', hrs, hci, hfr, hle, hgm⟩ := hrel
          have hR := HR.out wr hrs.1
          have c0 : wr.cell? ⟨L.hb, 0, none⟩ = some (.map (some L.mo)) := hR.hc 0
          rcases List.eq_nil_or_concat T' with rfl | ⟨T1, n, rfl⟩
          · obtain ⟨a1, cap1, hb1, _⟩ := hrs.cells
            have q1 := cell_of hb1 1
            simp at q1
            obtain ⟨a8, cap8, rfl⟩ := hrs.2.1.form
            have hUl : U'.length < 10000 := by
              have := hci.lenU
              omega
            have Hrs2 := Lib.hid hrs
            have Hci2 := Lib.hid hci
            have Hfr2 := Lib.hid hfr
            have Hle := Lib.hid hle
            clear hrs hci hfr hle hgm hR hb1 c0
            go_wp2
            obtain ⟨w5, rfl⟩ : ∃ w5 : World, w5 = wr := ⟨_, rfl⟩
            go_loopw [81] (fun i wr => ∃ (j : Nat) (X : List Int), j ≤ U'.length ∧ i = .int .i64 j ∧ RS w.heap.size w wr (w.heap.size + 1) w.heap.size (.slice a8 U'.length cap8) (S' ++ X) X U' ∧ CI st frm (S' ++ X) X U' ∧ EntDone st S' X (U'.take j)) (fun i _ => U'.length - (intOf i).toNat)
            case atStart => exact ⟨0, [], Nat.zero_le _, rfl, by simpa using Hrs2.out, by simpa using Hci2.out, fun n hn => by simp at hn⟩
            case round =>
              obtain ⟨j, X, hj, rfl, hrs, hci, hed⟩ := hrel
              by_cases hlt : j < U'.length
              · obtain ⟨gt, e8, _⟩ := hrs.2.1.addr (by omega)
                subst e8
                obtain ⟨n, hn⟩ : ∃ n, U'[j]? = some n := ⟨_, List.getElem?_eq_getElem hlt⟩
                have t1 := hrs.2.1.int rfl hn
                obtain ⟨hnS, o, ho, ht⟩ := hci.uS n (List.mem_of_getElem? hn)
                have R3 := HR.out wr hrs.1
                have c0 : wr.cell? ⟨L.hb, 0, none⟩ = some (.map (some L.mo)) := R3.hc 0
                have lk := R3.lookO ho
                have d4 : wr.cell? ⟨o.b, 4, none⟩ = some o.ve := R3.oc ho 4
                cases he : o.ent with
                | none =>
                  obtain ⟨a9, c9, hv9⟩ := ent_none he (R3.ents ho)
                  rw [hv9] at d4
                  have hed2 : EntDone st S' X (U'.take (j + 1)) := by
                    rw [List.take_add_one, hn]
                    intro m hm o' ho' k d hk
                    rcases List.mem_append.1 hm with hm | hm
                    · exact hed m hm o' ho' k d hk
                    · simp at hm; subst hm; rw [ho] at ho'; cases ho'; rw [he] at hk; cases hk
                  have H := Lib.hid (And.intro hrs (And.intro hci hed2))
                  clear R3 hrs hci hed hed2 hn ho ht he hnS hv9
                  go_wp2
                  obtain ⟨w8, rfl⟩ : ∃ w8 : World, w8 = wr := ⟨_, rfl⟩
                  go_loopw [95] (fun i wq => i = .int .i64 0 ∧ wq = w8) (fun _ _ => 0)
                  case atStart => exact ⟨rfl, rfl⟩
                  case round =>
                    obtain ⟨rfl, hwq⟩ := hrel
                    subst hwq
                    go_wp2
                    go_roundw
                    case rel => exact ⟨j + 1, X, by omega, by go_num, H.out.1, H.out.2.1, H.out.2.2⟩
                    case measure => simp [intOf]; omega
                | some kd =>
                  obtain ⟨key, d⟩ := kd
                  obtain ⟨ge, c9, hv9, _, e0, e1, e2⟩ := ent_cells he (R3.ents ho)
                  rw [hv9] at d4
                  have HH := Lib.hid (And.intro hrs (And.intro hci hed))
                  have Hn := Lib.hid hn
                  have Hon := Lib.hid (And.intro ho (And.intro ht (And.intro he hnS)))
                  have Hcells := Lib.hid hrs.cells
                  clear R3 hrs hci hed hn ho ht he hnS hv9
                  go_wp2
                  obtain ⟨w8, rfl⟩ : ∃ w8 : World, w8 = wr := ⟨_, rfl⟩
                  go_loopw [95] (fun i wq => (i = .int .i64 0 ∧ wq = w8) ∨ (i = .int .i64 1 ∧ RS w.heap.size w wq (w.heap.size + 1) w.heap.size (.slice (some ⟨gt, 0, none⟩) U'.length cap8) (sees (S' ++ X, X) (entSee (S' ++ X) key d)).1 (sees (S' ++ X, X) (entSee (S' ++ X) key d)).2 U')) (fun i _ => 1 - (intOf i).toNat)
                  case atStart => exact Or.inl ⟨rfl, rfl⟩
                  case round =>
                    rcases hrel with ⟨rfl, hwq⟩ | ⟨rfl, hrq⟩
                    · subst hwq
                      obtain ⟨a2, cap2, hb2, hI2⟩ := Hcells.out
                      have c0w : ∀ ob, (wr.alloc ob).cell? ⟨w.heap.size + 1, 0, none⟩ = some (.map (some w.heap.size)) := fun ob => by
                        rw [cell_of (Below.get ((Below.refl wr.heap.size wr).alloc (Nat.le_refl _) ob) hb2 (lt_of_blk hb2))]; rfl
                      have hlk : ∀ ob m, (Instr.lookup 58 (.map (some w.heap.size)) (.int .i64 key) false).run Try.prog ((wr.alloc ob).drewN m) = .ok ((if key ∈ S' ++ X then some (Value.bool true) else none).getD (.bool false)) ((wr.alloc ob).drewN m) := fun ob m => by
                        have := IMap.look (P := Try.prog) (IMap.of_block (w' := (wr.alloc ob).drewN m) (hI2.alloc ob) rfl) Try.underlying58 Try.underlying3 (zero4 _) key false
                        rw [look_seen] at this
                        exact this
                      have hal : ∀ ob m, RS w.heap.size w ((wr.alloc ob).drewN m) (w.heap.size + 1) w.heap.size (.slice (some ⟨gt, 0, none⟩) U'.length cap8) (S' ++ X) X U' := fun ob m =>
                        HH.out.1.alloc (below_drewN ((Below.refl _ _).alloc (Nat.le_refl _) _) m) (Nat.le_trans hBB HH.out.1.1.size)
                      have Hal := Lib.hid hal
                      have hXl : X.length < 10000 := by
                        have := HH.out.2.1.lenT
                        omega
                      clear hb2 hI2 hal
                      by_cases hk : key ∈ S' ++ X
                      · simp only [hk, if_true, Option.getD_some] at hlk
                        have Hk := Lib.hid hk
                        clear hk
                        cases hd : d.ref
                        · rw [hd] at e1
                          have hse : entSee (S' ++ X) key d = [] := by simp [entSee, hd]
                          have Hse := Lib.hid hse
                          clear hse
                          go_wp2
                          go_quiet (fail)
                          go_wp2
                          go_roundw
                          case rel =>
                            refine Or.inr ⟨by go_num, ?_⟩
                            rw [Hse.out]; exact Hal.out _ _
                          case measure => simp [intOf]
                        · rw [hd] at e1
                          have hse : entSee (S' ++ X) key d = [d.num] := by simp only [entSee, Hk.out, hd, and_self, if_true]
                          have Hse := Lib.hid hse
                          have Hcall := Lib.hid (fun ob m => Hsee.out _ _ _ _ _ d.num (Hal.out ob m) (by omega))
                          clear hse
                          go_wp2
                          go_quiet (fail)
                          go_wp2_with (go_at_call 42; refine (Hcall.out _ _).mono ?_; rintro e w6 ⟨rfl, hrs6⟩; have Hrs6 := Lib.hid hrs6; clear hrs6)
                          go_roundw
                          case rel =>
                            refine Or.inr ⟨by go_num, ?_⟩
                            rw [Hse.out]; exact Hrs6.out
                          case measure => simp [intOf]
                      · simp only [hk, if_false, Option.getD_none] at hlk
                        have hse : entSee (S' ++ X) key d = [] := by simp only [entSee, hk, false_and, if_false]
                        have Hse := Lib.hid hse
                        clear hse hk
                        go_wp2
                        go_quiet (fail)
                        go_wp2
                        go_roundw
                        case rel =>
                          refine Or.inr ⟨by go_num, ?_⟩
                          rw [Hse.out]; exact Hal.out _ _
                        case measure => simp [intOf]
                    · have Hrq := Lib.hid hrq
                      clear hrq
                      go_wp2
                      go_roundw
                      case rel =>
                        obtain ⟨ho, ht, he, hnS⟩ := Hon.out
                        obtain ⟨hrs, hci, hed⟩ := HH.out
                        have hmin : ∀ Z, Clo st Z → (∀ n ∈ frm, Z n) → ∀ m ∈ entSee (S' ++ X) key d, Z m := by
                          intro Z hZ hz m hm
                          unfold entSee at hm
                          split at hm
                          · rename_i hc
                            simp at hm; subst hm
                            exact hZ.2 n o key d (hci.min Z hZ hz n hnS) ho ht he (hci.min Z hZ hz key hc.1) hc.2
                          · simp at hm
                        have hex : ∀ m ∈ entSee (S' ++ X) key d, ∃ o, alook st.objs m = some o := by
                          intro m hm
                          unfold entSee at hm
                          split at hm
                          · rename_i hc
                            simp at hm; subst hm
                            exact (HW.out.2 n o key d ho he).2 hc.2
                          · simp at hm
                        obtain ⟨hci2, X2, hs1, hs2, hs3⟩ := hci.more (entSee (S' ++ X) key d) hex hmin
                        have hrq := Hrq.out
                        rw [hs1, hs2, List.append_assoc] at hrq hci2
                        refine ⟨j + 1, X ++ X2, by omega, by go_num, hrq, hci2, ?_⟩
                        rw [List.take_add_one, Hn.out]
                        intro m hm o' ho' k' d' hk' hkS hd'
                        rcases List.mem_append.1 hm with hm | hm
                        · have := hed m hm o' ho' k' d' hk' hkS hd'
                          rw [← List.append_assoc]
                          exact List.mem_append_left _ this
                        · simp at hm; subst hm
                          rw [ho] at ho'; cases ho'
                          rw [he] at hk'; cases hk'
                          rw [← List.append_assoc]
                          refine hs3 _ ?_
                          unfold entSee
                          rw [if_pos ⟨List.mem_append_left _ hkS, hd'⟩]
                          simp
                      case measure => simp [intOf]; omega
              · have e : j = U'.length := by omega
                subst e
                rw [List.take_length] at hed
                obtain ⟨a2, cap2, hb2, hI2⟩ := hrs.cells
                have p1 := cell_of hb2 1
                have p0 := cell_of hb2 0
                simp at p1 p0
                have H := Lib.hid (And.intro hrs (And.intro hci hed))
                cases X with
                | nil =>
                  have HI := Lib.hid hI2
                  clear hrs hci hed hb2 hI2
                  go_wp2
                  go_ret
                  refine ⟨w.heap.size, S' ++ [], rfl, HI.out, hBB, H.out.1.1, ?_⟩
                  refine CI.reach H.out.2.1 (fun n hn => List.mem_append_left _ (Hfr2.out n hn)) ?_
                  intro n hn o ho k d he hk hd
                  exact H.out.2.2 n hn o ho k d he (by simpa using hk) hd
                | cons x X =>
                  clear hrs hci hed hb2 hI2
                  go_wp2
                  go_roundg (st.objs.length - (S' ++ x :: X).length + 1)
                  case measure =>
                    rw [Hgk.out]
                    have h1 := H.out.2.1.lenS
                    have h2 := Hle.out
                    simp only [List.length_append, List.length_cons] at h1 ⊢
                    omega
                  case rel => exact ⟨S' ++ x :: X, x :: X, U', H.out.1, H.out.2.1, fun n hn => List.mem_append_left _ (Hfr2.out n hn), rfl⟩
          · rw [List.concat_eq_append] at *
            obtain ⟨g, cap1, hb1, hx, hcap, hrs2⟩ := hrs.last hBB
            have q1 := cell_of hb1 1
            have f1 := free_of hb1 1
            simp at q1
            have hTl : T1.length < 10000 := by
              have := hci.lenT
              simp at this
              omega
            have hwr : IntKind.i64.wrap (T1.length : Int) = (T1.length : Int) := IntWalk.i64_in _ (by omega)
            have hrs3 : ∀ m, RS w.heap.size w ((wr.drewN m).setCell ⟨w.heap.size + 1, 1, none⟩ (.slice (some ⟨g, 0, none⟩) T1.length cap1)) (w.heap.size + 1) w.heap.size u8 S' T1 U' :=
              fun m => hrs2.drewN (Nat.le_trans hBB hrs2.1.size) m
            obtain ⟨o, ho⟩ := hci.sub n (hci.tS n (by simp))
            have Hrs3 := Lib.hid hrs3
            have Hci2 := Lib.hid hci
            have Hfr2 := Lib.hid hfr
            have Hle := Lib.hid hle
            have Hgm := Lib.hid hgm
            have Ho := Lib.hid ho
            clear hrs hci hfr hle hgm hR hrs2 hb1 hrs3 ho
            go_wp2
            go_quiet (fail)
            go_wp2
            go_region
            generalize hw2 : (wr.drewN (nq + 1)).setCell ⟨w.heap.size + 1, 1, none⟩ (.slice (some ⟨g, 0, none⟩) T1.length cap1) = w2
            have hrs3 : RS w.heap.size w w2 (w.heap.size + 1) w.heap.size u8 S' T1 U' := hw2 ▸ Hrs3.out _
            clear hw2 c0 hx f1 q1 hwr Hrs3
            have R3 := HR.out w2 hrs3.1
            have c0 : w2.cell? ⟨L.hb, 0, none⟩ = some (.map (some L.mo)) := R3.hc 0
            have lk := R3.lookO Ho.out
            have d0 : w2.cell? ⟨o.b, 0, none⟩ = some (.bool o.tbl) := R3.oc Ho.out 0
            obtain ⟨a8, cap8, rfl⟩ := hrs3.2.1.form
            cases ht : o.tbl
            · rw [ht] at d0
              have hbd := HF.out.1 _ _ Ho.out
              have hrow := HF.out.row o
              have Hcall := Lib.hid (refs_any (HR.out w (Below.refl _ _)) Ho.out hbd (by omega) (.inl ⟨w.heap.size + 1, rfl, rfl, rfl⟩)
                (fun l w' => RS w.heap.size w w' (w.heap.size + 1) w.heap.size (.slice a8 U'.length cap8) (sees (S', T1) l).1 (sees (S', T1) l).2 U')
                w.heap.size (HR.out w (Below.refl _ _)).lt (fun l w' h => h.1) (fun l w' w'' h hb => h.alloc hb (Nat.le_trans hBB h.1.size))
                (fun l m r w' e h => by
                  rw [sees_snoc]
                  refine Hsee.out w' _ _ _ _ m h ?_
                  show (sees (S', T1) l).2.length < 100000
                  have h1 := sees_len l S' T1
                  have h2 := congrArg List.length e
                  have h3 := refsOf_len (fldsOf st o)
                  rw [flds_len hbd] at h3
                  simp at h2
                  omega)
                w2 hrs3)
              have Hnew := Lib.hid (CI.plain HW.out Hci2.out Ho.out ht)
              have Hnew2 := Lib.hid (sees_spec (refsOf (fldsOf st o)) S' T1)
              clear hrs3 R3 hbd hrow
              go_wp2_with (go_at_call 45; refine Hcall.out.mono ?_; rintro e w3 ⟨rfl, hrs4⟩; have Hrs4 := Lib.hid hrs4; clear hrs4)
              go_roundg (2 * (st.objs.length - (sees (S', T1) (refsOf (fldsOf st o))).1.length) + (sees (S', T1) (refsOf (fldsOf st o))).2.length)
              case measure => rw [Hgm.out]; exact Hnew.out.2
              case rel =>
                obtain ⟨X, e, _⟩ := Hnew2.out
                refine ⟨_, _, U', Hrs4.out, Hnew.out.1, ?_, ?_, rfl⟩
                · intro m hm
                  rw [e]; exact List.mem_append_left _ (Hfr2.out m hm)
                · rw [e]
                  have := Hle.out
                  simp only [List.length_append]
                  omega
            · rw [ht] at d0
              have hUl : U'.length < 100000 := by
                have := Hci2.out.lenU
                omega
              obtain ⟨a9, cap9, w3, hap, hrs4⟩ := hrs3.tab hUl hBB n
              have Hrs4 := Lib.hid hrs4
              have Hnew := Lib.hid (CI.table Hci2.out Ho.out ht)
              clear hrs3 R3 hrs4
              go_wp2_with (at_builtin; refine wpList_append_eq rfl _ _ _ rfl _ _ rfl rfl _ hap ?_)
              go_roundg (2 * (st.objs.length - S'.length) + T1.length)
              case measure => rw [Hgm.out]; simp
              case rel => exact ⟨S', T1, U' ++ [n], by simpa using Hrs4.out, Hnew.out, Hfr2.out, Hle.out, rfl⟩
end reached
end Go.Proofs.Ytpjifaefchnmoaa
