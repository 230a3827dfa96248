/- The method minor. -/
import Derived.Test.YtpjifaefchnmoaaMinor1
import Derived.Deep.RegionHeld3
namespace Go.Proofs.Ytpjifaefchnmoaa
open Go.RowKit

section minor2
variable {F G : Nat → Prop} {L : Lay} {st : St} {w w' : World}

/-- What minor makes ahead of its first loop. -/
theorem minor_start (w : World) (hb : Nat) {w0 : World} (hw0 : w0 = (((w.alloc (.cells #[ptr hb] 87)).alloc (.map #[] 0)).alloc (.cells #[.map (some (w.heap.size + 1)), .slice none 0 0] 90)).alloc (.cells #[ptr (w.heap.size + 1 + 1)] 88)) :
    Below w.heap.size w w0 ∧ w0.heap.size = w.heap.size + 4 ∧ w0.heap[w.heap.size]? = some (.cells #[ptr hb] 87 (0, 0)) ∧ w0.heap[w.heap.size + 3]? = some (.cells #[ptr (w.heap.size + 1 + 1)] 88 (0, 0)) ∧
      w0.heap[w.heap.size + 1 + 1]? = some (.cells #[.map (some (w.heap.size + 1)), .slice none 0 0] 90 (0, 0)) ∧ IMap w0 (w.heap.size + 1) [] := by
  subst hw0
  have h1 := Below.heap_new w (.cells #[ptr hb] 87)
  have h2 := IMap.made (w.alloc (.cells #[ptr hb] 87))
  have h3 := Below.heap_new ((w.alloc (.cells #[ptr hb] 87)).alloc (.map #[] 0)) (.cells #[.map (some (w.heap.size + 1)), .slice none 0 0] 90)
  have h4 := Below.heap_new (((w.alloc (.cells #[ptr hb] 87)).alloc (.map #[] 0)).alloc (.cells #[.map (some (w.heap.size + 1)), .slice none 0 0] 90)) (.cells #[ptr (w.heap.size + 1 + 1)] 88)
  have hg : ∀ (v : World) (o o' : Obj) b, v.heap[b]? = some o' → (v.alloc o).heap[b]? = some o' := fun v o o' b h => (Below.heap_alloc v o b (lt_of_blk h)).trans h
  have hs : (w.alloc (.cells #[ptr hb] 87)).heap.size = w.heap.size + 1 := by simp
  rw [hs] at h2
  refine ⟨((((Below.refl _ _).alloc (Nat.le_refl _) _).alloc (by simp) _).alloc (by simp; omega) _).alloc (by simp; omega) _, by simp, hg _ _ _ _ (hg _ _ _ _ (hg _ _ _ _ h1)), ?_, ?_, (h2.alloc _).alloc _⟩
  · simpa using h4
  · simpa using hg _ _ _ _ h3

theorem MF.start {cb pb wb sb : Nat} (M : MF F L st cb pb wb sb [] (.slice none 0 0) w) : MS w w wb sb [] [] :=
  ⟨Ext.refl _ _, fun k => k = sb ∨ k = wb, ⟨_, M.wk, M.seen, Row.nil _ _ _ _, .inr rfl, .inl rfl⟩, fun k hk => ⟨by rcases hk with rfl | rfl; exact M.seen.lt; exact lt_of_blk M.wk, hk.elim .inl (fun h => .inr (.inl h))⟩⟩

theorem yng_some {n : Int} (h : yng st n = true) : ∃ o, alook st.objs n = some o ∧ o.old = false := by
  unfold yng at h
  split at h
  · rename_i o ho; exact ⟨o, ho, by simpa using h⟩
  · cases h

set_option maxRecDepth 100000 in
set_option maxHeartbeats 4000000 in
theorem minor_any (R : Rep F L st w) (hp : Plain st) (hfl : Flds st) (hN : st.objs.length < 1000) (hnh : st.hnd.length < 10000) (hsz : ∀ n o, alook st.objs n = some o → o.size ≤ 3) :
    Calls Try.prog 23 #[.pointer (some ⟨L.hb, 0, none⟩)] w (MinorPost F L st w) := by
  have H := Lib.hid (And.intro R (And.intro hp (And.intro hfl (And.intro hN (And.intro hnh hsz)))))
  clear R hp hfl hN hnh hsz
  have hmm := @run_makeMap Try.prog
  go_enter Try.func23, Try.ntmps23
  go_wp2
  clear hmm
  have e3 : w.heap.size + 1 + 1 + 1 = w.heap.size + 3 := rfl
  rw [e3]
  clear e3
  generalize hw0 : (((w.alloc (.cells #[.pointer (some ⟨L.hb, 0, none⟩)] 87)).alloc (.map #[] 0)).alloc (.cells #[.map (some (w.heap.size + 1)), .slice none 0 0] 90)).alloc (.cells #[.pointer (some ⟨w.heap.size + 1 + 1, 0, none⟩)] 88) = w0
  obtain ⟨hb0, hs0, hc0, hp0, hk0, hI0⟩ := minor_start w L.hb hw0.symm
  clear hw0
  have hcb : ¬ F w.heap.size := fun h => by have := H.out.1.lt _ h; omega
  have hsb : ¬ F (w.heap.size + 1) := fun h => by have := H.out.1.lt _ h; omega
  have hwb : ¬ F (w.heap.size + 1 + 1) := fun h => by have := H.out.1.lt _ h; omega
  have hpb : ¬ F (w.heap.size + 3) := fun h => by have := H.out.1.lt _ h; omega
  have hsp : w.heap.size + 3 = w.heap.size + 1 + 1 + 1 := rfl
  generalize hpbe : w.heap.size + 3 = pb at *
  generalize hwbe : w.heap.size + 1 + 1 = wb at *
  generalize hsbe : w.heap.size + 1 = sb at *
  generalize hcbe : w.heap.size = cb at *
  have hR0 := H.out.1.below hb0 (fun k hk => by have := H.out.1.lt k hk; omega)
  have hRd : Rep F L st w0.drew := hR0.drewN 1
  have hSd : w0.drew.cell? ⟨cb, 0, none⟩ = some (.pointer (some ⟨L.hb, 0, none⟩)) ∧ w0.drew.cell? ⟨L.hb, 6, none⟩ = some (.slice none 0 0) := ⟨by rw [cell_of (show w0.drew.heap[cb]? = _ from hc0)]; rfl, hRd.hc 6⟩
  have Hroots := Lib.hid (roots_any hRd (by have := H.out.2.2.2.2.1; omega))
  have hM0 : MF F L st cb pb wb sb [] (.slice none 0 0) w0.drew := ⟨hRd, hc0, hp0, hk0, hI0.of_block rfl, hcb, hpb, hwb, hsb⟩
  have H0 := Lib.hid (And.intro hb0 (And.intro hs0 (And.intro hM0 (And.intro hsp (And.intro hpbe (And.intro hwbe (And.intro hsbe hcbe)))))))
  clear hb0 hs0 hc0 hp0 hk0 hI0 hR0 hRd hM0 hcb hsb hwb hpb hsp hpbe hwbe hsbe hcbe
  go_region_held3 (fun w' => w'.cell? ⟨cb, 0, none⟩ = some (.pointer (some ⟨L.hb, 0, none⟩)) ∧ w'.cell? ⟨L.hb, 6, none⟩ = some (.slice none 0 0)) (first | exact hSd | exact hS1)
    (first
    | (go_at_call 43
       refine Hroots.out.mono ?_
       rintro e w1 ⟨v, l, rfl, hperm, hrow, hb1⟩
       obtain ⟨a, cap, rfl⟩ := hrow.form
       have happ := fun ww => run_append_nothing (P := Try.prog) Try.underlying28 (info_parts info3).choose_spec.1 28 a l.length cap hrow.le ww
       have hM1 := H0.out.2.2.1.below hb1
       have hS1 : w1.cell? ⟨cb, 0, none⟩ = some (.pointer (some ⟨L.hb, 0, none⟩)) ∧ w1.cell? ⟨L.hb, 6, none⟩ = some (.slice none 0 0) := ⟨by rw [cell_of hM1.c]; rfl, hM1.R.hc 6⟩
       have H1 := Lib.hid (And.intro hperm (And.intro hrow (And.intro hb1 hM1)))
       clear hperm hrow hb1 hM1)
    | (refine step_append_eq rfl _ _ _ rfl _ _ rfl rfl _ (happ _) ?_))
  clear hS1 hSd happ Hroots
  have hd : cb ≠ sb ∧ cb ≠ wb ∧ pb ≠ sb ∧ pb ≠ wb ∧ sb < w0.heap.size ∧ wb < w0.heap.size ∧ cb < w0.heap.size ∧ sb ≠ wb := by
    obtain ⟨_, h1, _, h2, h3, h4, h5, h6⟩ := H0.out
    omega
  have hM1 := H1.out.2.2.2
  have hfr : ∀ k, F k → ¬ (k = sb ∨ k = wb) := fun k hk h => by
    rcases h with rfl | rfl
    · exact hM1.fresh.2.2.2 hk
    · exact hM1.fresh.2.2.1 hk
  have hdw : w0.drew.heap.size = w0.heap.size := rfl
  have hbA1 : Below cb w w1 := H0.out.1.trans ((below_drewN (Below.refl w0.heap.size w0) 1).mono (by have := H0.out.2.1; omega) |>.trans (H1.out.2.2.1.mono (by have := H0.out.2.1; omega)))
  have hll : l.length < 10000 := by
    have h2 := H1.out.1.length_eq
    have h3 := H.out.2.2.2.2.1
    simp at h2
    omega
  have Hd := Lib.hid (And.intro hd (And.intro hfr hbA1))
  clear hd hM1 hfr hbA1 hdw
  go_wp2
  go_loopw [26] (fun i wr => ∃ (k : Nat) (S T : List Int), k ≤ l.length ∧ i = .int .i64 k ∧ MS w1 wr wb sb S T ∧ YI st (l.take k) S T) (fun i _ => l.length - (intOf i).toNat)
  case atStart => exact ⟨0, [], [], Nat.zero_le _, rfl, H1.out.2.2.2.start, by simpa using YI.start⟩
  case round =>
    obtain ⟨k, S, T, hk, rfl, hms, hyi⟩ := hrel
    have hcr := hms.1.get H1.out.2.2.2.c (by rintro (h | h); exact Hd.out.1.1 h; exact Hd.out.1.2.1 h)
    have hpr := hms.1.get H1.out.2.2.2.p (by rintro (h | h); exact Hd.out.1.2.2.1 h; exact Hd.out.1.2.2.2.1 h)
    have hRr := H1.out.2.2.2.R.ext hms.1 Hd.out.2.1
    by_cases hlt : k < l.length
    · have hrow := H1.out.2.1.ext hms.1 (fun b hb h => by
        have h1 := H1.out.2.1.2 b hb
        have h2 : w0.drew.heap.size = w0.heap.size := rfl
        obtain ⟨_, _, _, _, h3, h4, _⟩ := Hd.out.1
        rcases h with h | h <;> omega)
      obtain ⟨g, hg, _⟩ := hrow.addr (by omega)
      subst hg
      obtain ⟨x, hx⟩ : ∃ x, l[k]? = some x := ⟨_, List.getElem?_eq_getElem hlt⟩
      have q1 := hrow.int rfl hx
      have hTl : T.length < 100000 := by
        have h1 := hyi.len
        have h2 := H1.out.1.length_eq
        have h3 := H.out.2.2.2.2.1
        simp at h1 h2
        omega
      have Hc := Lib.hid (hms.see40 hTl (by rw [cell_of hcr]; rfl) (by rw [cell_of hpr]; rfl) hRr x)
      have Hy := Lib.hid (hyi.step x)
      have Hx := Lib.hid hx
      clear hms hyi hcr hpr hRr hrow hx hTl
      go_wp2_with (go_at_call 40; refine Hc.out.mono ?_; rintro e w2 ⟨rfl, hm2⟩; have Hm2 := Lib.hid hm2; clear hm2)
      go_roundw
      case rel =>
        refine ⟨k + 1, _, _, by omega, by go_num, Hm2.out, ?_⟩
        rw [List.take_add_one, Hx.out]
        exact Hy.out
      case measure => simp [intOf]; omega
    · have e : k = l.length := by omega
      subst e
      rw [List.take_length] at hyi
      obtain ⟨tv, hwk, hI, hrowT⟩ := hms.cells
      obtain ⟨aT, capT, rfl⟩ := hrowT.form
      obtain ⟨wy, rfl⟩ : ∃ wy : World, wy = wr := ⟨_, rfl⟩
      have hM : MF F L st cb pb wb sb S (.slice aT T.length capT) wy := ⟨hRr, hcr, hpr, hwk, hI, H1.out.2.2.2.fresh⟩
      have hS : ∀ n, yng st n = true → n ∈ S := fun n hy => by
        obtain ⟨o, ho, _⟩ := yng_some hy
        exact hyi.all n (H1.out.1.symm.subset (H.out.2.1.held n o ho)) hy
      have hT : ∀ n ∈ T, ∃ o, alook st.objs n = some o := fun n hn => by
        obtain ⟨o, ho, _⟩ := yng_some (hyi.y n (hyi.t n hn))
        exact ⟨o, ho⟩
      have hTl : T.length < 10000 := by
        have h1 := hyi.len
        have h2 := H1.out.1.length_eq
        have h3 := H.out.2.2.2.2.1
        simp at h2
        omega
      have hbA : Below cb w wy := by
        refine Hd.out.2.2.trans (hms.1.below (by have := Hd.out.2.2.size; have := H0.out.2.2.2.2.2.2.2; omega) (fun k hk => ?_))
        obtain ⟨_, _, _, _, _, h3, h4, h5⟩ := H0.out
        rcases hk with rfl | rfl <;> omega
      have q0 : wy.cell? ⟨cb, 0, none⟩ = some (.pointer (some ⟨L.hb, 0, none⟩)) := by rw [cell_of hcr]; rfl
      have c8 : wy.cell? ⟨L.hb, 8, none⟩ = some (.map (some L.mr)) := hRr.hc 8
      obtain ⟨wz, hrg, hit, hI3, hbz⟩ := hRr.mR.range (P := Try.prog) Try.underlying58
      have HM := Lib.hid (And.intro hM (And.intro hS (And.intro hT (And.intro hTl (And.intro hbA (And.intro hrowT (And.intro hit hbz)))))))
      clear hM hS hT hTl hbA hrowT hit hbz hI3 hRr hcr hpr hms hyi hwk hI
      go_wp2_with (at_range; refine wpList_range_eq rfl _ _ rfl _ rfl _ hrg ?_)
      go_frame
      clear hrg q0 c8
      have hMq : ∀ wq, Ext (· = wy.heap.size) wz wq → MF F L st cb pb wb sb S (.slice aT T.length capT) wq ∧ Row (fun _ => True) 3 1 wq (.slice aT T.length capT) T.length (ints T) := fun wq hE => by
        obtain ⟨hM, _, _, _, _, hrowT, _, hbz⟩ := HM.out
        refine ⟨(hM.below hbz).ext hE (fun k hk => Nat.ne_of_lt (hM.R.lt k hk)) (Nat.ne_of_lt (lt_of_blk hM.c)) (Nat.ne_of_lt (lt_of_blk hM.p)) (Nat.ne_of_lt (lt_of_blk hM.wk)) (Nat.ne_of_lt hM.seen.lt), ?_⟩
        exact (hrowT.below hbz hrowT.lt').ext hE (fun k hk => Nat.ne_of_lt (hrowT.lt hk))
      have Hq := Lib.hid hMq
      clear hMq
      go_loopw [6] (fun _ wq => ∃ todo : List (Int × Unit), Iter wq wy.heap.size L.mr (todo.map fun p => (p.1, Value.bool true)) ∧ (∀ p ∈ todo, p.1 ∈ st.rem) ∧ Ext (· = wy.heap.size) wz wq) (fun _ wq => iterLeft wq wy.heap.size)
      case atStart =>
        refine ⟨st.rem.map fun n => (n, ()), ?_, ?_, Ext.refl _ _⟩
        · have := HM.out.2.2.2.2.2.2.1
          simpa [Function.comp_def] using this
        · intro p hp
          obtain ⟨n, hn, rfl⟩ := List.mem_map.1 hp
          exact hn
      case round =>
        obtain ⟨todo, hit, hsub, hE⟩ := hrel
        obtain ⟨M, hrT⟩ := Hq.out wr hE
        rcases Iter.nextM (P := Try.prog) (fun _ : Unit => Value.bool true) hit ⟨_, M.R.mR⟩ 0 with ⟨rfl, hrun⟩ | ⟨l1, key, u, l2, w4, rfl, hrun, hent, hit4, hE4⟩
        · obtain ⟨wq, rfl⟩ : ∃ wq : World, wq = wr := ⟨_, rfl⟩
          have hEw : Ext F w wq := by
            obtain ⟨_, _, _, _, hbA, _, _, hbz⟩ := HM.out
            have hcw := H0.out.2.2.2.2.2.2.2
            have h1 := hbA.size
            refine ((Below.ext (hcw ▸ hbA) F).trans (Below.ext hbz F) (fun i hi => .inl hi)).trans hE (fun i hi => .inr (by omega))
          have HQ := Lib.hid (And.intro M (And.intro hrT hEw))
          clear hit hsub hE M hrT hEw
          go_wp2_with (at_next; refine wpList_next_eq rfl _ _ rfl _ rfl _ hrun ?_)
          clear hrun
          have hMr : ∀ wr v, Ext (· = wb) wq wr → wr.heap[wb]? = some (.cells #[.map (some sb), v] 90 (0, 0)) → MF F L st cb pb wb sb S v wr := fun wr v hE hv => by
            obtain ⟨M, _, _⟩ := HQ.out
            have h1 : cb ≠ wb := Hd.out.1.2.1
            have h2 : pb ≠ wb := Hd.out.1.2.2.2.1
            have h3 : sb ≠ wb := Hd.out.1.2.2.2.2.2.2.2
            exact ⟨M.R.ext hE (fun k hk e => M.fresh.2.2.1 (e ▸ hk)), hE.get M.c h1, hE.get M.p h2, hv, M.seen.ext hE h3, M.fresh⟩
          have Hr := Lib.hid hMr
          clear hMr
          go_loopg [7] T.length (fun gk v wr => v = .slice none 0 0 ∧ gk ≤ T.length ∧ wr.heap[wb]? = some (.cells #[.map (some sb), .slice aT gk capT] 90 (0, 0)) ∧ Ext (· = wb) wq wr)
          case atStart => exact ⟨rfl, Nat.le_refl _, HQ.out.1.wk, Ext.refl _ _⟩
          case round =>
            obtain ⟨rfl, hj, hwk, hE⟩ := hrel
            have M := Hr.out wr _ hE hwk
            have qp : wr.cell? ⟨pb, 0, none⟩ = some (.pointer (some ⟨wb, 0, none⟩)) := by rw [cell_of M.p]; rfl
            have q1 : wr.cell? ⟨wb, 1, none⟩ = some (.slice aT gk capT) := by rw [cell_of hwk]; rfl
            rcases gk with _ | j
            · -- the young ones are moved
              obtain ⟨R1, hE1⟩ := M.R.reset0
              have hsub1 := M.R.used0
              have hout1 := fun k => M.R.outside0 (k := k)
              obtain ⟨a0, cap0, hs0⟩ := M.R.r0.form
              have q0 : wr.cell? ⟨cb, 0, none⟩ = some (.pointer (some ⟨L.hb, 0, none⟩)) := by rw [cell_of M.c]; rfl
              have c2 : wr.cell? ⟨L.hb, 2, none⟩ = some (.slice a0 st.m0.length cap0) := by rw [M.R.hc 2, ← hs0]; rfl
              have f2 : wr.frozen? ⟨L.hb, 2, none⟩ = false := M.R.hf 2
              generalize hF1 : Used { L with s0 := .slice none 0 0 } { st with m0 := [] } = F1 at R1 hsub1 hout1
              have hrow0 := M.R.r0.ext hE1 (fun k hk e => row_ne_cells M.R.r0 M.R.hH (by decide) hk e)
              have hbl : cb ≠ L.hb ∧ pb ≠ L.hb ∧ wb ≠ L.hb ∧ sb ≠ L.hb := ⟨fun e => M.fresh.1 (e ▸ M.R.fs.1), fun e => M.fresh.2.1 (e ▸ M.R.fs.1), fun e => M.fresh.2.2.1 (e ▸ M.R.fs.1), fun e => M.fresh.2.2.2 (e ▸ M.R.fs.1)⟩
              have hc1 := hE1.get M.c hbl.1
              have hp1 := hE1.get M.p hbl.2.1
              have hw1 := hE1.get hwk hbl.2.2.1
              have hs1 := M.seen.ext hE1 hbl.2.2.2
              have hfr := M.fresh
              have hEA : Ext F w (wr.setCell ⟨L.hb, 2, none⟩ (.slice none 0 0)) := (HQ.out.2.2.trans hE (fun i hi => .inr (by
                obtain ⟨_, _, _, _, h1, h2, h3, h4⟩ := H0.out
                omega))).trans hE1 (fun i hi => .inl (hi ▸ M.R.fs.1))
              have hwb2 := hEA.size
              have hltF := M.R.lt
              generalize hws : wr.setCell ⟨L.hb, 2, none⟩ (.slice none 0 0) = ws at *
              have q0s : ws.cell? ⟨cb, 0, none⟩ = some (.pointer (some ⟨L.hb, 0, none⟩)) := by rw [cell_of hc1]; rfl
              have Hsort := Lib.hid (sorted_any R1 (by show st.objs.length < 10000; have := H.out.2.2.2.1; omega))
              have hsz1 : ∀ k, F k → k < ws.heap.size := fun k hk => Nat.lt_of_lt_of_le (hltF k hk) hE1.size
              have H4 := Lib.hid (And.intro R1 (And.intro hsub1 (And.intro hout1 (And.intro hrow0 (And.intro hc1 (And.intro hp1 (And.intro hw1 (And.intro hs1 (And.intro hfr (And.intro hEA hsz1))))))))))
              have Hs0 := Lib.hid hs0
              have Hws := Lib.hid hws
              clear R1 hsub1 hout1 hrow0 hc1 hp1 hw1 hs1 hfr hEA hE1 hE M hj hwk hbl hF1 hs0 hwb2 hltF hsz1
              have hSd := HM.out.2.1
              clear Hws
              go_wp2_with (
                go_at_call 47
                refine Hsort.out.mono ?_
                rintro e w3 ⟨al, capl, l2, rfl, hperm2, hrl2, hb3⟩
                have H5 := Lib.hid (And.intro hperm2 (And.intro hrl2 hb3))
                clear hperm2 hrl2 hb3)
              clear c2 f2 q0 q0s hws qp q1
              have hll2 : l2.length < 1000 := by
                have h1 := H5.out.1.length_eq
                have h2 := H.out.2.2.2.1
                simp at h1
                omega
              have HS := Lib.hid hSd
              clear hSd
              have hR3 := H4.out.1.below' H5.out.2.2
              have hkeep : ∀ b o, ws.heap[b]? = some o → ¬ F1 b → ∀ wr, Ext F1 w3 wr → wr.heap[b]? = some o := fun b o hb hF wr hE =>
                (hE.block b (by have := lt_of_blk hb; have := H5.out.2.2.size; omega) hF).trans (Below.get H5.out.2.2 hb (lt_of_blk hb))
              have hX : ∀ wr, Ext F1 w3 wr → wr.heap[cb]? = some (.cells #[ptr L.hb] 87 (0, 0)) ∧ wr.heap[pb]? = some (.cells #[ptr wb] 88 (0, 0)) ∧ wr.heap[wb]? = some (.cells #[.map (some sb), .slice aT 0 capT] 90 (0, 0)) ∧ IMap wr sb (S.map fun n => (n, .bool true)) := fun wr hE => by
                obtain ⟨_, hsub1, _, _, hc1, hp1, hw1, hs1, hfr, _, _⟩ := H4.out
                refine ⟨hkeep _ _ hc1 (fun h => hfr.1 (hsub1 _ h)) wr hE, hkeep _ _ hp1 (fun h => hfr.2.1 (hsub1 _ h)) wr hE, hkeep _ _ hw1 (fun h => hfr.2.2.1 (hsub1 _ h)) wr hE, ?_⟩
                exact (hs1.below H5.out.2.2 hs1.lt).ext hE (fun h => hfr.2.2.2 (hsub1 _ h))
              have HX := Lib.hid (And.intro hR3 hX)
              clear hR3 hX hkeep
              go_wp2
              go_loopw [125] (fun i wr => ∃ (j : Nat) (s0 s1 : Value), j ≤ l2.length ∧ i = .int .i64 j ∧ Rep (grow F1 w3 wr) { L with s0 := s0, s1 := s1 } ((l2.take j).foldl (minorA st) { st with m0 := [] }) wr ∧ Ext F1 w3 wr) (fun i _ => l2.length - (intOf i).toNat)
              case atStart => exact ⟨0, _, _, Nat.zero_le _, rfl, HX.out.1.mono (fun k hk => .inl hk) (fun k hk => by rcases hk with hk | hk; exact HX.out.1.lt k hk; exact hk.2), Ext.refl _ _⟩
              case round =>
                obtain ⟨j, s0, s1, hj, rfl, hR, hE⟩ := hrel
                obtain ⟨hc, hp, hw, hs⟩ := HX.out.2 wr hE
                have q0 : wr.cell? ⟨cb, 0, none⟩ = some (.pointer (some ⟨L.hb, 0, none⟩)) := by rw [cell_of hc]; rfl
                by_cases hlt : j < l2.length
                · obtain ⟨n, hn⟩ : ∃ n, l2[j]? = some n := ⟨_, List.getElem?_eq_getElem hlt⟩
                  have hnl : l2.Nodup := (H5.out.1.nodup_iff).2 H.out.1.nodupO
                  obtain ⟨o, ho⟩ : ∃ o, alook st.objs n = some o := by
                    have h1 : n ∈ st.objs.map (·.1) := H5.out.1.subset (List.mem_of_getElem? hn)
                    obtain ⟨p, hp, rfl⟩ := List.mem_map.1 h1
                    exact ⟨p.2, alook_of_mem H.out.1.nodupO hp⟩
                  have hnt : n ∉ l2.take j := by
                    intro h
                    obtain ⟨i, hi⟩ := List.mem_iff_getElem?.1 h
                    rw [List.getElem?_take] at hi
                    split at hi
                    · rename_i hij
                      have := (List.getElem?_inj (by omega) hnl).1 (hi.trans hn.symm)
                      omega
                    · cases hi
                  have hcur : alook ((l2.take j).foldl (minorA st) { st with m0 := [] }).objs n = some o := by
                    rw [minorA_fold_other _ _ _ _ hnt]; exact ho
                  have hnext : (l2.take (j + 1)).foldl (minorA st) { st with m0 := [] } = minorA st ((l2.take j).foldl (minorA st) { st with m0 := [] }) n := by
                    rw [List.take_add_one, hn, Option.toList_some, List.foldl_append]
                    rfl
                  obtain ⟨gl, e, hgl⟩ := H5.out.2.1.addr (show 0 < l2.length by omega)
                  subst e
                  have hglF : ¬ F1 gl := fun h => by
                    have := H4.out.1.lt _ h
                    omega
                  have q1 : wr.cell? ⟨gl, j, none⟩ = some (.int .i64 n) := by
                    rw [World.cell?_of_block (w := w3) (hE.block gl (H5.out.2.1.lt rfl) hglF)]
                    exact H5.out.2.1.int rfl hn
                  have c0 : wr.cell? ⟨L.hb, 0, none⟩ = some (.map (some L.mo)) := hR.hc 0
                  have lk := hR.lookO hcur
                  cases hod : o.old
                  · -- young
                    have d2 : wr.cell? ⟨o.b, 2, none⟩ = some (.bool false) := by rw [hR.oc hcur 2]; simp [obCells, hod]
                    have qp : wr.cell? ⟨pb, 0, none⟩ = some (.pointer (some ⟨wb, 0, none⟩)) := by rw [cell_of hp]; rfl
                    have qw : wr.cell? ⟨wb, 0, none⟩ = some (.map (some sb)) := by rw [cell_of hw]; rfl
                    have lks := hs.look (P := Try.prog) Try.underlying58 Try.underlying3 (zero4 wr) n false
                    rw [look_seen, if_pos (HS.out n (by simp [yng, ho, hod]))] at lks
                    have hat := H.out.2.2.1.1 _ _ ho
                    have hrl := H.out.2.2.1.2.1
                    simp only [rowOf, hod, Bool.false_eq_true, if_false] at hat
                    have hm1 := minorA_m1 st H.out.2.2.2.2.2 (l2.take j) { st with m0 := [] }
                    have hm1' : ((l2.take j).foldl (minorA st) { st with m0 := [] }).m1.length < 50000 := by
                      have h2 : (l2.take j).length ≤ l2.length := List.length_take_le' _ _
                      have h3 := H.out.2.2.1.2.2
                      simp only at hm1
                      omega
                    have hr0 := H4.out.2.2.2.1
                    rw [Hs0.out] at hr0
                    obtain ⟨gf, e, _⟩ := hr0.addr (by omega)
                    subst e
                    have hgfF : ¬ F1 gf := H4.out.2.2.1 gf (by rw [Hs0.out]; rfl)
                    have hgl0 := hr0.lt (k := gf) rfl
                    have hr3 := hr0.below H5.out.2.2 hr0.lt'
                    have hrr := hr3.ext hE (fun k hk => by cases hk; exact hgfF)
                    have hmv := move_any hR hcur hrr (fun h => by
                      rcases h with h | h
                      · exact hgfF h
                      · have := H5.out.2.2.size
                        omega) hat hrl (by have := H.out.2.2.2.2.2 _ _ ho; omega) hm1'
                    have hmA : minorA st ((l2.take j).foldl (minorA st) { st with m0 := [] }) n = moveSt ((l2.take j).foldl (minorA st) { st with m0 := [] }) n o ((st.m0.drop o.at_).take (1 + o.size)) := by
                      simp [minorA, ho, hod]
                    rw [← hmA, ← hnext] at hmv
                    have Hmv := Lib.hid hmv
                    have HE := Lib.hid hE
                    clear hR hE hn hnl ho hnt hcur hnext hgl hglF hat hrl hm1 hm1' hr0 hgfF hgl0 hr3 hrr hmv hmA hc hp hw hs hod
                    go_wp2_with (go_at_call 48; refine Hmv.out.mono ?_; rintro e w4 ⟨rfl, hR4, hE4⟩; have HR4 := Lib.hid hR4; have HE4 := Lib.hid hE4; clear hR4 hE4)
                    go_roundw
                    case rel =>
                      obtain ⟨t0, t1, hR4⟩ := HR4.out
                      refine ⟨j + 1, t0, t1, by omega, by go_num, ?_, HE.out.then HE4.out⟩
                      exact hR4.mono (fun k hk => grow_grow HE.out.size HE4.out.size hk) (fun k hk => by
                        rcases hk with hk | hk
                        · exact Nat.lt_of_lt_of_le (HX.out.1.lt k hk) (Nat.le_trans HE.out.size HE4.out.size)
                        · exact hk.2)
                    case measure => simp [intOf]; omega
                  · have d2 : wr.cell? ⟨o.b, 2, none⟩ = some (.bool true) := by rw [hR.oc hcur 2]; simp [obCells, hod]
                    have hmA : minorA st ((l2.take j).foldl (minorA st) { st with m0 := [] }) n = (l2.take j).foldl (minorA st) { st with m0 := [] } := by
                      simp [minorA, ho, hod]
                    rw [hmA] at hnext
                    have Hk := Lib.hid (And.intro hnext (And.intro hR hE))
                    clear hR hE hn hnl ho hnt hcur hnext hgl hglF hmA hc hp hw hs hod
                    go_wp2
                    go_roundw
                    case rel => exact ⟨j + 1, s0, s1, by omega, by go_num, by rw [Hk.out.1]; exact Hk.out.2.1, Hk.out.2.2⟩
                    case measure => simp [intOf]; omega
                · have e : j = l2.length := by omega
                  subst e
                  rw [List.take_length] at hR
                  have hne : NoEnt (l2.foldl (minorA st) { st with m0 := [] }) := minorA_noEnt H.out.2.1.ent l2 _ H.out.2.1.ent
                  have Hfg := Lib.hid (forget_any hR)
                  have Hk := Lib.hid (And.intro hR (And.intro hE hne))
                  clear hR hE hne hc hp hw hs
                  go_wp2_with (first
                    | (go_at_call 49
                       refine Hfg.out.mono ?_
                       rintro e w5 ⟨rfl, hR5, hE5⟩
                       rw [forget_noEnt Hk.out.2.2 Hk.out.1.nodupO] at hR5
                       have hE35 : Ext F1 w3 w5 := Hk.out.2.1.then hE5
                       have q05 : w5.cell? ⟨cb, 0, none⟩ = some (.pointer (some ⟨L.hb, 0, none⟩)) := by rw [cell_of (HX.out.2 w5 hE35).1]; rfl
                       have c85 : w5.cell? ⟨L.hb, 8, none⟩ = some (.map (some L.mr)) := hR5.hc 8
                       obtain ⟨w6, hcl, hI6, hE6⟩ := hR5.mR.clear (P := Try.prog) Try.underlying58 0
                       have hR6 := hR5.chR hE6 (rem := []) hI6
                       have H6 := Lib.hid (And.intro hR6 (And.intro hE6 (And.intro hE35 (And.intro hE5 hR5.fs.2.2.2.1))))
                       clear hR5 hE35 hI6 hE6 hR6 hE5)
                    | (refine wpList_clear_eq rfl (.tmp 162) #[58] rfl _ rfl _ hcl ?_))
                  go_end0
                  obtain ⟨hR6, hE6, hE35, hE5, hfs⟩ := H6.out
                  obtain ⟨_, hsub1, _, _, _, _, _, _, _, hEA, hszF⟩ := H4.out
                  have hEB : Ext F w w3 := hEA.trans (Below.ext H5.out.2.2 F) (fun i hi => .inl hi)
                  have hEC : Ext F w w5 := hEB.trans (hE35.mono hsub1) (fun i hi => .inl hi)
                  have hED : Ext F w w6 := hEC.trans hE6 (fun i hi => by
                    subst hi
                    rcases hfs with (h | h) | h
                    · exact .inl (hsub1 _ h)
                    · exact .inr (Nat.le_trans hEB.size h.1)
                    · exact .inr (Nat.le_trans hEB.size (Nat.le_trans Hk.out.2.1.size h.1)))
                  refine ⟨rfl, ⟨l2, s0, s1, H5.out.1, hR6.mono (fun k hk => ?_) (fun k hk => ?_)⟩, hED⟩
                  · rcases hk with (hk | hk) | hk
                    · exact .inl (hsub1 k hk)
                    · exact .inr ⟨Nat.le_trans hEB.size hk.1, Nat.lt_of_lt_of_le hk.2 (Nat.le_trans hE5.size hE6.size)⟩
                    · exact .inr ⟨Nat.le_trans hEB.size (Nat.le_trans Hk.out.2.1.size hk.1), Nat.lt_of_lt_of_le hk.2 hE6.size⟩
                  · rcases hk with hk | hk
                    · exact Nat.lt_of_lt_of_le (H.out.1.lt k hk) hED.size
                    · exact hk.2
            · have hrT := HQ.out.2.1.ext hE (fun k hk e => row_ne_cells HQ.out.2.1 HQ.out.1.wk (by decide) hk e)
              have hTl := HM.out.2.2.2.1
              obtain ⟨gT, hgT, _⟩ := hrT.addr (by omega)
              subst hgT
              obtain ⟨n, hn⟩ : ∃ n, T[j]? = some n := ⟨_, List.getElem?_eq_getElem (by omega)⟩
              have hx := hrT.int rfl hn
              have hcap := hrT.le
              obtain ⟨o, ho⟩ := HM.out.2.2.1 n (List.mem_of_getElem? hn)
              have f1 : wr.frozen? ⟨wb, 1, none⟩ = false := free_of hwk 1
              have hj10 : j < 10000 := by omega
              have hjc : j + 1 ≤ capT := by omega
              have hwrap : IntKind.i64.wrap (j : Int) = (j : Int) := IntWalk.i64_in _ (by omega)
              have Hj := Lib.hid (And.intro M (And.intro hwk (And.intro hE (And.intro ho hj))))
              clear M hwk hE hrT hTl hn hcap ho hj
              go_wp2
              go_quiet (fail)
              go_wp2
              go_region
              generalize hw2 : (wr.drewN (nq + 1)).setCell ⟨wb, 1, none⟩ (.slice (some ⟨gT, 0, none⟩) j capT) = w2
              have hE2 : Ext (· = wb) wq w2 := by
                subst hw2
                refine Hj.out.2.2.1.trans (b := wr) (G := (· = wb)) ?_ (fun i hi => .inl hi)
                have := ext_setCell (wr.drewN (nq + 1)) wb 1 (.slice (some ⟨gT, 0, none⟩) j capT)
                exact ⟨this.os, this.tape, this.output, this.size, this.block⟩
              have hwk2 : w2.heap[wb]? = some (.cells #[.map (some sb), .slice (some ⟨gT, 0, none⟩) j capT] 90 (0, 0)) := by
                subst hw2
                have := get_setCell (w := wr.drewN (nq + 1)) Hj.out.2.1 1 (.slice (some ⟨gT, 0, none⟩) j capT)
                simpa using this
              clear hw2 qp q1 hx f1 hwrap
              have M2 := Hr.out w2 _ hE2 hwk2
              have ho := Hj.out.2.2.2.1
              have q0 : w2.cell? ⟨cb, 0, none⟩ = some (.pointer (some ⟨L.hb, 0, none⟩)) := by rw [cell_of M2.c]; rfl
              have c0 : w2.cell? ⟨L.hb, 0, none⟩ = some (.map (some L.mo)) := M2.R.hc 0
              have lk := M2.R.lookO ho
              have d0 : w2.cell? ⟨o.b, 0, none⟩ = some (.bool false) := by
                have h1 := M2.R.oc ho 0
                have h2 := H.out.2.1.tbl n o ho
                rw [h1]; simp [obCells, h2]
              have Hrefs := Lib.hid (M2.refs HM.out.2.1 ho H.out.2.2.1)
              have HM2 := Lib.hid (And.intro M2 (And.intro hE2 (Nat.le_of_succ_le Hj.out.2.2.2.2)))
              clear hE2 hwk2 M2 ho
              rcases j with _ | j
              all_goals
                go_wp2_with (first
                  | (go_at_call 45
                     refine Hrefs.out.mono ?_
                     rintro e w5 ⟨rfl, hb5⟩
                     have M5 := HM2.out.1.below hb5
                     have qp5 : w5.cell? ⟨pb, 0, none⟩ = some (.pointer (some ⟨wb, 0, none⟩)) := by rw [cell_of M5.p]; rfl
                     have q05 : w5.cell? ⟨cb, 0, none⟩ = some (.pointer (some ⟨L.hb, 0, none⟩)) := by rw [cell_of M5.c]; rfl
                     have q15 := cell_of M5.wk 1
                     simp at q15
                     have H5 := Lib.hid (And.intro M5 hb5)
                     clear M5 hb5)
                  | (go_at_call 46
                     refine (values_nil _ _ _ _).mono ?_
                     rintro e w6 ⟨rfl, rfl⟩))
              · go_roundg 0
                case measure => omega
                case rel => exact ⟨rfl, HM2.out.2.2, H5.out.1.wk, HM2.out.2.1.trans (Below.ext H5.out.2 _) (fun i hi => .inl hi)⟩
              · go_roundg (j + 1)
                case measure => omega
                case rel => exact ⟨rfl, HM2.out.2.2, H5.out.1.wk, HM2.out.2.1.trans (Below.ext H5.out.2 _) (fun i hi => .inl hi)⟩
        · have hE' : Ext (· = wy.heap.size) wz w4 := hE.trans hE4 (fun k hk => .inl hk)
          obtain ⟨M4, _⟩ := Hq.out w4 hE'
          obtain ⟨o, ho⟩ := H.out.2.1.rem key (hsub (key, u) (by simp))
          have M4d := M4.below (below_drewN (Below.refl w4.heap.size w4) 1)
          have Hall := Lib.hid (M4d.all HM.out.2.1 ho H.out.2.2.1 (H.out.2.1.ent key o ho))
          have hSd : (w4.drewN 1).cell? ⟨cb, 0, none⟩ = some (.pointer (some ⟨L.hb, 0, none⟩)) ∧ (w4.drewN 1).cell? ⟨L.hb, 0, none⟩ = some (.map (some L.mo)) ∧ (Instr.lookup 54 (.map (some L.mo)) (.int .i64 key) false).run Try.prog (w4.drewN 1) = .ok (.pointer (some ⟨o.b, 0, none⟩)) (w4.drewN 1) :=
            ⟨by rw [cell_of M4d.c]; rfl, M4d.R.hc 0, M4d.R.lookO ho⟩
          have hms : iterLeft w4 wy.heap.size < iterLeft wr wy.heap.size := by
            rw [hit4.left, hit.left]; simp
          have hsubs : ∀ p ∈ l1 ++ l2, p.1 ∈ st.rem := fun p hp => hsub p (by simp at hp ⊢; rcases hp with hp | hp; exact .inl hp; exact .inr (.inr hp))
          have Hk := Lib.hid (And.intro hit4 (And.intro hms (And.intro hsubs (And.intro hE' (And.intro M4d ho)))))
          clear hit hit4 hsub hE hE4 M hrT hE' M4 M4d hms hsubs ho
          go_wp2_with (at_next; refine wpList_next_eq rfl _ _ rfl _ rfl _ hrun ?_)
          go_region_held3 (fun w' => w'.cell? ⟨cb, 0, none⟩ = some (.pointer (some ⟨L.hb, 0, none⟩)) ∧ w'.cell? ⟨L.hb, 0, none⟩ = some (.map (some L.mo)) ∧ (Instr.lookup 54 (.map (some L.mo)) (.int .i64 key) false).run Try.prog w' = .ok (.pointer (some ⟨o.b, 0, none⟩)) w') (first | exact hSd | exact hS5)
            ((go_at_call 44
              refine Hall.out.mono ?_
              rintro e w5 ⟨rfl, hb5⟩
              have M5 := Hk.out.2.2.2.2.1.below hb5
              have hS5 : w5.cell? ⟨cb, 0, none⟩ = some (.pointer (some ⟨L.hb, 0, none⟩)) ∧ w5.cell? ⟨L.hb, 0, none⟩ = some (.map (some L.mo)) ∧ (Instr.lookup 54 (.map (some L.mo)) (.int .i64 key) false).run Try.prog w5 = .ok (.pointer (some ⟨o.b, 0, none⟩)) w5 :=
                ⟨by rw [cell_of M5.c]; rfl, M5.R.hc 0, M5.R.lookO Hk.out.2.2.2.2.2⟩
              have H5 := Lib.hid hb5
              clear hb5 M5))
          go_wp2
          obtain ⟨hit4, hms, hsubs, hE', _⟩ := Hk.out
          have hb5 : Below w4.heap.size w4 w5 := (below_drewN (Below.refl w4.heap.size w4) 1).trans H5.out
          have hit5 := hit4.of_block (hb5.block _ hit4.lt.1) (hb5.block _ hit4.lt.2)
          refine ⟨⟨l1 ++ l2, hit5, hsubs, hE'.trans (Below.ext hb5 _) (fun i hi => .inl hi)⟩, ?_⟩
          rw [hit5.left, ← hit4.left]; exact hms

set_option maxHeartbeats 400000 in
theorem Minor_any (hc : Calls Try.prog 23 #[.pointer (some ⟨L.hb, 0, none⟩)] w (MinorPost F L st w)) : Calls Try.prog 7 #[.pointer (some ⟨L.hb, 0, none⟩)] w (MinorPost F L st w) := by
  have Hc := Lib.hid hc
  clear hc
  go_enter Try.func7, Try.ntmps7
  go_wp2_with (go_at_call 23; refine Hc.out.mono ?_; rintro e w1 ⟨rfl, hM⟩; have HM := Lib.hid hM; clear hM)
  go_end0
  exact ⟨rfl, HM.out⟩
end minor2
end Go.Proofs.Ytpjifaefchnmoaa
