/- The method place: words are laid at the end of a space. -/
import Derived.Test.YtpjifaefchnmoaaSorted
import Derived.Lib.AppendZerosOnto
import Derived.Deep.RegionLaw
import Derived.Laws.CopyOwn
namespace Go.Proofs.Ytpjifaefchnmoaa
open Go.RowKit

theorem step_append_eq {P : Program} {ops : Array Oper} {o : Oper} {a : Act} {w w' : World} {K : Act → World → Prop} {Q : Exit → Act → World → Prop} {E : Prop}
    (hgd : o.guard = none) (s x : Operand) (ts : Array TypeId) (hop : o.op = Op.call { callee := Callee.builtin Builtin.append, args := #[s, x], argTypes := ts })
    (sv xv : Value) (hs : a.eval s = sv) (hx : a.eval x = xv) (v' : Value) (hrun : (Builtin.append_ ts o.type #[sv, xv]).run P w = .ok v' w')
    (hK : K (a.put o.dst v') w') : if Region.wanted o (yielded ops a.tmps) = true then Oper.wp P o a w K Q else E := by
  rw [if_pos (by simp [Region.wanted, hgd])]
  unfold Oper.wp execOp
  simp only [hop, resolve, invoke, builtin, Sem.run_bind, Sem.run_pure, Result.andThen_ok, List.map_toArray, List.map_cons, List.map_nil, hs, hx, hrun]
  exact hK

/-- append(s, make([]T, k)...) at a row of F. -/
theorem Row.appendZeros {F : Nat → Prop} {P : Program} {e t tn : TypeId} {size bytes n : Nat} {z : Value} {w : World} {v : Value} {xs : List Value} (h : Row F e size w v n xs)
    (ht : P.underlying t = some (.slice e)) (htn : P.underlying tn = some (.int .i64)) (hinfo : (P.info? e).map (fun i => (i.zero, i.size, i.bytes)) = some (some z, size, bytes)) (hzs : z.cells.size = size) (hsz : 0 < size) (ty : TypeId)
    (k : Nat) (hk : 0 < k) (h1 : ∀ u ∈ (Builtin.zeroCells z.cells k).toList, u.oneCell' = true)
    (h63 : n + k ≤ 1000000) (hby : bytes ≤ 1000) :
    ∃ v' w', (Builtin.append_ #[t, tn] ty #[v, .int .i64 k]).run P w = .ok v' w' ∧ Row (grow F w w') e size w' v' (n + k) (xs ++ (Builtin.zeroCells z.cells k).toList) ∧ Ext (fun b => v.ownBlock = some b) w w' ∧
      (v'.ownBlock = v.ownBlock ∨ v'.ownBlock = some w.heap.size) := by
  obtain ⟨i, hi, hz, hs, hb⟩ := info_parts hinfo
  have hlz : (Builtin.zeroCells z.cells k).toList.length = k * size := by rw [Array.length_toList, size_zeroCells, hzs]
  have hkb : (n + k) * bytes ≤ 1000000 * 1000 := Nat.mul_le_mul h63 hby
  have hkb2 : k * bytes ≤ 1000000 * 1000 := Nat.mul_le_mul (by omega) hby
  have hnew : ∀ old c : Nat, c = grownCap w (n + k) old e → Row (grow F w (w.drew.alloc (.cells (xs.toArray ++ Builtin.zeroCells z.cells k ++ Builtin.zeroCells z.cells (c - (n + k))) e))) e size
      (w.drew.alloc (.cells (xs.toArray ++ Builtin.zeroCells z.cells k ++ Builtin.zeroCells z.cells (c - (n + k))) e)) (.slice (some ⟨w.heap.size, 0, none⟩) (n + k) c) (n + k) (xs ++ (Builtin.zeroCells z.cells k).toList) := by
    rintro old c rfl
    have hge := grownCap_ge w (n + k) old e
    have hcm : grownCap w (n + k) old e ≤ maxLen := grownCap_le_maxLen w (n + k) old e (by simp only [maxLen]; omega)
    refine ⟨⟨by rw [List.length_append, h.1.1, hlz, Nat.add_mul], .inr ⟨w.heap.size, _, _, rfl, Nat.zero_le _, heap_alloc_new w.drew _, hge, hcm, ?_, ?_⟩⟩, fun b hb => by cases hb; exact .inr ⟨Nat.le_refl _, by simp⟩⟩
    · simp only [Array.size_append, List.size_toArray, size_zeroCells, hzs, h.1.1, ← Nat.add_mul]
      congr 1
      omega
    · simp only [Array.toList_append]
      rw [List.take_left']
      rw [List.length_append, hlz, h.1.1, Nat.add_mul]
  have hE : ∀ o, Ext (fun b => v.ownBlock = some b) w (w.drew.alloc o) := fun o => Below.ext ((Below.refl w.heap.size w).drew.alloc (Nat.le_refl _) o) _
  rcases h.cases with ⟨rfl, rfl, rfl⟩ | ⟨g, cap, cur, rfl, hF, hg, hnc, hcm, hcs, htk⟩
  · have hr := Lib.run_append_nil_zeros (P := P) w t tn ty e i z .i64 .i64 ht htn hi hz k hk (by omega) (by omega) (by rw [hb]; omega)
    have hn := hnew 0 _ rfl
    simp only [Nat.zero_add] at hn hr ⊢
    rw [show (#[] : Array Value) ++ Builtin.zeroCells z.cells k = Builtin.zeroCells z.cells k from by simp] at hn
    exact ⟨_, _, hr, hn, hE _, .inr rfl⟩
  · subst hs
    by_cases hroom : n + k ≤ cap
    · have hfit : 0 + n * i.size + 0 + (Builtin.zeroCells z.cells k).toList.length ≤ cur.size := by
        rw [hlz, hcs, Nat.zero_add, Nat.add_zero, ← Nat.add_mul]; exact Nat.mul_le_mul_right _ hroom
      have hst := run_storeCells_at P g (n * i.size) e (Builtin.zeroCells z.cells k).toList 0 cur w hg (by simpa using hfit) h1
      simp only [Nat.add_zero] at hst
      have hneg : ¬ ((k : Int) < 0) := by omega
      have hw : IntKind.i64.wrap (k : Int) = k := by rw [IntKind.wrap_i64]; omega
      have h48i : ¬ (281474976710656 < (k : Int) * (i.bytes : Int)) := by
        rw [← Int.natCast_mul, hb]; omega
      have hns : ¬ (k * i.size = 0) := Nat.mul_ne_zero (by omega) (by omega)
      refine ⟨.slice (some ⟨g, 0, none⟩) (n + k) cap, w.setRow g (cur.toList.take (n * i.size) ++ (Builtin.zeroCells z.cells k).toList ++ cur.toList.drop (n * i.size + (Builtin.zeroCells z.cells k).toList.length)).toArray, ?_, ⟨⟨?_, .inr ⟨g, cap, _, rfl, Nat.zero_le _, setRow_heap w g cur _ e _ hg, hroom, hcm, ?_, ?_⟩⟩, fun b hb => by cases hb; exact .inl hF⟩, ?_, .inl rfl⟩
      · simp [Builtin.append_, run_underlying ht, run_underlying htn, sizeOf, typeInfo, zeroValue, hi, hz, asInt, asIntOf, hw, hneg, hns, h48i, hroom, Addr.add_lit, hst]
      · rw [List.length_append, h.1.1, hlz, Nat.add_mul]
      · simp only [List.size_toArray, List.length_append, List.length_take, List.length_drop, Array.length_toList] at *
        omega
      · rw [htk, List.take_left']
        rw [List.length_append, hlz, h.1.1, Nat.add_mul]
      · exact ⟨rfl, rfl, rfl, by simp [World.setRow], fun b _ hb => setRow_other w g b _ (fun e => hb (by rw [e]; rfl))⟩
    · have hold := run_firstCells_some (P := P) w.drew i.size n ⟨g, 0, none⟩ n cap xs h.1.1 (h.1.cells (g := g) rfl)
      have hr := Lib.run_append_grow_zeros (P := P) w t tn ty e i z .i64 .i64 ht htn hi hz (some ⟨g, 0, none⟩) n cap xs hold k hk hsz (by omega) (by omega) (by rw [hb]; omega) (growslice_fits (by omega) (by rw [hb]; omega))
      exact ⟨_, _, hr, hnew cap _ rfl, hE _, .inr rfl⟩

/-- copy(s[n:], src) where s has k elements behind n, and so many are copied. -/
theorem Row.copyTail {F : Nat → Prop} {P : Program} {e t t2 : TypeId} {size n k : Nat} {w : World} {g len cap : Nat} {xs ys : List Value} (h : Row F e size w (.slice (some ⟨g, 0, none⟩) (n + k) cap) (n + k) (xs ++ ys)) (hxs : xs.length = n * size)
    (ht : P.underlying t = some (.slice e)) (hinfo : (P.info? e).map (·.size) = some size) (ty : TypeId)
    (a : Addr) (c2 : Nat) (news : List Value) (hl : news.length = k * size) (hnews : ∀ j u, news[j]? = some u → w.cell? (a.add j) = some u) (h1 : ∀ u ∈ news, u.oneCell' = true) (hlen : len = k) (cd : Nat) :
    ∃ w', (Builtin.copy_ #[t, t2] ty #[.slice (some ⟨g, n * size, none⟩) k cd, .slice (some a) len c2]).run P w = .ok (.int .i64 k) w' ∧ Row F e size w' (.slice (some ⟨g, 0, none⟩) (n + k) cap) (n + k) (xs ++ news) ∧ Ext (· = g) w w' := by
  subst hlen
  obtain ⟨i, hi, hs⟩ := Option.map_eq_some_iff.1 hinfo
  subst hs
  rcases h.cases with ⟨h0, _⟩ | ⟨g', cap', cur, hv, hF, hg, hnc, hcm, hcs, htk⟩
  · cases h0
  · cases hv
    have hf := run_firstCells_some (P := P) w i.size len a len c2 news hl hnews
    have hfit : n * i.size + 0 + news.length ≤ cur.size := by
      rw [hl, hcs, Nat.add_zero, ← Nat.add_mul]; exact Nat.mul_le_mul_right _ hnc
    have hst := run_storeCells_at P g (n * i.size) e news 0 cur w hg hfit h1
    simp only [Nat.add_zero] at hst hfit
    refine ⟨w.setRow g (cur.toList.take (n * i.size) ++ news ++ cur.toList.drop (n * i.size + news.length)).toArray, ?_, ⟨⟨?_, .inr ⟨g, cap, _, rfl, Nat.zero_le _, setRow_heap w g cur _ e _ hg, hnc, hcm, ?_, ?_⟩⟩, h.2⟩, ?_⟩
    · simp [Builtin.copy_, run_underlying ht, sizeOf, typeInfo, hi, Builtin.lenOf, hf, hst, goInt]
    · rw [List.length_append, hxs, hl, Nat.add_mul]
    · simp only [List.size_toArray, List.length_append, List.length_take, List.length_drop, Array.length_toList] at *
      omega
    · have : cur.toList.take (n * i.size) = xs := by
        have h2 := congrArg (fun x => x.take (n * i.size)) htk
        simp only [List.take_take] at h2
        rw [Nat.min_eq_left (Nat.mul_le_mul_right _ (by omega))] at h2
        rw [h2, ← hxs, List.take_left]
      rw [this, List.take_left']
      rw [List.length_append, hxs, hl, Nat.add_mul]
    · exact ⟨rfl, rfl, rfl, by simp [World.setRow], fun b _ hb => setRow_other w g b _ hb⟩

theorem info66 : (Try.prog.info? 66).map (fun i => (i.zero, i.size, i.bytes)) = some (some (.agg #[.bool false, .int .i64 0]), 2, 16) := by kernel_rfl
theorem size66 : (Try.prog.info? 66).map (·.size) = some 2 := by kernel_rfl

/-- The blocks that a heap really uses. -/
def Used (L : Lay) (st : St) (k : Nat) : Prop :=
  k = L.hb ∨ k = L.mo ∨ k = L.mh ∨ k = L.mr ∨ k = L.fb ∨ L.s0.ownBlock = some k ∨ L.s1.ownBlock = some k ∨ L.sf.ownBlock = some k ∨ ∃ p ∈ st.objs, k = p.2.b ∨ p.2.ve.ownBlock = some k

section place
variable {F G : Nat → Prop} {L : Lay} {st : St} {w w' : World}

theorem Rep.used (R : Rep F L st w) : ∀ k, Used L st k → F k := by
  rintro k (rfl | rfl | rfl | rfl | rfl | h | h | h | ⟨p, hp, rfl | h⟩)
  · exact R.fs.1
  · exact R.fs.2.1
  · exact R.fs.2.2.1
  · exact R.fs.2.2.2.1
  · exact R.fs.2.2.2.2
  · exact R.r0.2 k h
  · exact R.r1.2 k h
  · exact R.rf.2 k h
  · exact (R.ob p hp).2.2
  · exact (R.ob p hp).2.1.2 k h

theorem Rep.tight (R : Rep F L st w) : Rep (Used L st) L st w where
  hH := R.hH
  mO := R.mO
  mH := R.mH
  mR := R.mR
  ob := fun p hp => ⟨(R.ob p hp).1, ⟨(R.ob p hp).2.1.1, fun _ hk => .inr (.inr (.inr (.inr (.inr (.inr (.inr (.inr ⟨p, hp, .inr hk⟩)))))))⟩, .inr (.inr (.inr (.inr (.inr (.inr (.inr (.inr ⟨p, hp, .inl rfl⟩)))))))⟩
  r0 := ⟨R.r0.1, fun _ hk => .inr (.inr (.inr (.inr (.inr (.inl hk)))))⟩
  r1 := ⟨R.r1.1, fun _ hk => .inr (.inr (.inr (.inr (.inr (.inr (.inl hk))))))⟩
  fr := R.fr
  rf := ⟨R.rf.1, fun _ hk => .inr (.inr (.inr (.inr (.inr (.inr (.inr (.inl hk)))))))⟩
  fs := ⟨.inl rfl, .inr (.inl rfl), .inr (.inr (.inl rfl)), .inr (.inr (.inr (.inl rfl))), .inr (.inr (.inr (.inr (.inl rfl))))⟩
  lt := fun k hk => R.lt k (R.used k hk)
  sep1 := R.sep1
  sep2 := R.sep2
  sep3 := R.sep3
  sep4 := R.sep4

/-- The heap's own cells, and the rows of words, were written; the rest stands. -/
theorem Rep.chMem (R : Rep F L st w) {s0 s1 : Value} {m0 m1 : List Wd} {names next : Int} (hl : ∀ k, G k → k < w'.heap.size) (hFG : ∀ k, F k → G k)
    (hkeep : ∀ k, F k → k ≠ L.hb → L.s0.ownBlock ≠ some k → L.s1.ownBlock ≠ some k → w'.heap[k]? = w.heap[k]?)
    (hH : w'.heap[L.hb]? = some (.cells (heapCells { L with s0 := s0, s1 := s1 } { st with m0 := m0, m1 := m1, names := names, next := next }) 64 (0, 0)))
    (r0 : Row G 66 2 w' s0 m0.length (wdCells m0)) (r1 : Row G 66 2 w' s1 m1.length (wdCells m1)) (h01 : ∀ k, s0.ownBlock = some k → s1.ownBlock ≠ some k) :
    Rep G { L with s0 := s0, s1 := s1 } { st with m0 := m0, m1 := m1, names := names, next := next } w' := by
  have hmap : ∀ b l, IMap w b l → F b → w'.heap[b]? = w.heap[b]? := fun b l hI hF =>
    hkeep b hF (map_ne_cells hI R.hH) (fun e => row_ne_map R.r0 hI e rfl) (fun e => row_ne_map R.r1 hI e rfl)
  have hcel : ∀ b (c : Array Value) T (fr : Nat × Nat), w.heap[b]? = some (.cells c T fr) → T ≠ 64 → T ≠ 66 → F b → w'.heap[b]? = w.heap[b]? := fun b c T fr hb h1 h2 hF =>
    hkeep b hF (cells_ne hb R.hH h1) (fun e => row_ne_cells R.r0 hb (Ne.symm h2) e rfl) (fun e => row_ne_cells R.r1 hb (Ne.symm h2) e rfl)
  have hrow : ∀ (v : Value) e sz n xs, Row F e sz w v n xs → e ≠ 64 → e ≠ 66 → Row G e sz w' v n xs := fun v e sz n xs hr h1 h2 => by
    refine (hr.of_block fun k hk => ?_).mono hFG
    rcases hr.cases with ⟨rfl, _⟩ | ⟨g, cap, cur, rfl, hF, hg, _⟩
    · cases hk
    · cases hk; exact hcel g _ _ _ hg h1 h2 hF
  exact ⟨hH, R.mO.of_block (hmap _ _ R.mO R.fs.2.1), R.mH.of_block (hmap _ _ R.mH R.fs.2.2.1), R.mR.of_block (hmap _ _ R.mR R.fs.2.2.2.1),
    fun p hp => ⟨(hcel _ _ _ _ (R.ob p hp).1 (by decide) (by decide) (R.ob p hp).2.2).trans (R.ob p hp).1, hrow _ _ _ _ _ (R.ob p hp).2.1 (by decide) (by decide), hFG _ (R.ob p hp).2.2⟩,
    r0, r1, (hcel _ _ _ _ R.fr (by decide) (by decide) R.fs.2.2.2.2).trans R.fr, hrow _ _ _ _ _ R.rf (by decide) (by decide),
    ⟨hFG _ R.fs.1, hFG _ R.fs.2.1, hFG _ R.fs.2.2.1, hFG _ R.fs.2.2.2.1, hFG _ R.fs.2.2.2.2⟩, hl, R.sep1, R.sep2, h01, R.sep4⟩

theorem wdCells_append (a b : List Wd) : wdCells (a ++ b) = wdCells a ++ wdCells b := by simp [wdCells]

theorem wdCells_one (l : List Wd) : ∀ u ∈ wdCells l, u.oneCell' = true := by
  intro u hu
  simp only [wdCells, List.mem_flatMap, List.mem_cons, List.not_mem_nil, or_false] at hu
  obtain ⟨d, _, rfl | rfl⟩ := hu <;> rfl

theorem zero66 (k : Nat) : ∀ u ∈ (Builtin.zeroCells #[.bool false, .int .i64 0] k).toList, u.oneCell' = true := by
  intro u hu
  simp only [Builtin.zeroCells, Array.toList_map, List.mem_map] at hu
  obtain ⟨i, _, rfl⟩ := hu
  have h2 : i % (#[Value.bool false, .int .i64 0]).size < 2 := Nat.mod_lt _ (by simp)
  generalize i % (#[Value.bool false, .int .i64 0]).size = j at h2
  rcases j with _ | _ | j
  · rfl
  · rfl
  · omega

def placeSt (st : St) (s : Nat) (ws : List Wd) : St := if s = 1 then { st with m1 := st.m1 ++ ws } else { st with m0 := st.m0 ++ ws }

def PlacePost (F : Nat → Prop) (L : Lay) (st : St) (s : Nat) (ws : List Wd) (w : World) (e : Ending) (w' : World) : Prop :=
  e = .returned (.int .i64 (if s = 1 then st.m1.length else st.m0.length)) ∧ (∃ s0 s1, Rep (grow F w w') { L with s0 := s0, s1 := s1 } (placeSt st s ws) w') ∧ Ext F w w'

set_option maxRecDepth 100000 in
set_option maxHeartbeats 2000000 in
theorem place1_any (R : Rep F L st w) {ws : List Wd} {la : Addr} {lc : Nat} (hws : 0 < ws.length) (hwl : ws.length < 10000) (hml : st.m1.length < 100000)
    (hl : ∀ j u, (wdCells ws)[j]? = some u → w.cell? (la.add j) = some u) (hlf : ¬ F la.block) :
    Calls Try.prog 54 #[.pointer (some ⟨L.hb, 0, none⟩), .int .i64 1, .slice (some la) ws.length lc] w (PlacePost F L st 1 ws w) := by
  obtain ⟨a1, cap1, hs1⟩ := R.r1.form
  have c3 : w.cell? ⟨L.hb, 3, none⟩ = some (.slice a1 st.m1.length cap1) := by rw [R.hc 3, ← hs1]; rfl
  have f3 : w.frozen? ⟨L.hb, 3, none⟩ = false := R.hf 3
  have hrow : Row F 66 2 w.drew L.s1 st.m1.length (wdCells st.m1) := R.r1.of_block fun _ _ => rfl
  obtain ⟨v2, w2, hrun2, hr2, hE2, hb2⟩ := hrow.appendZeros (P := Try.prog) (tn := 3) Try.underlying55 Try.underlying3 info66 rfl (by decide) 55 ws.length hws (zero66 _) (by omega) (by decide)
  have hE2' : Ext (fun b => L.s1.ownBlock = some b) w w2 := ⟨hE2.os, hE2.tape, hE2.output, hE2.size, hE2.block⟩
  obtain ⟨a2, cap2, rfl⟩ := hr2.form
  obtain ⟨g2, rfl, hg2⟩ := hr2.addr (by omega)
  have hg2' : L.s1.ownBlock = some g2 ∨ g2 = w.heap.size := by
    rcases hb2 with e | e
    · exact .inl e.symm
    · cases e; exact .inr rfl
  have hhb : ¬ L.s1.ownBlock = some L.hb := fun e => row_ne_cells R.r1 R.hH (by decide) e rfl
  have hH2 := hE2'.get R.hH hhb
  have hE3 := ext_setCell w2 L.hb 3 (.slice (some ⟨g2, 0, none⟩) (st.m1.length + ws.length) cap2)
  have hghb : ¬ g2 = L.hb := by
    rintro rfl
    rcases hg2' with e | e
    · exact hhb e
    · have := R.lt _ R.fs.1
      omega
  have hlb : la.block < w.heap.size := by
    obtain ⟨u, hu⟩ : ∃ u, (wdCells ws)[0]? = some u := ⟨_, List.getElem?_eq_getElem (by rw [wdCells_length]; omega)⟩
    have := hl 0 u hu
    cases hh : w.heap[la.block]? with
    | none =>
      have hab : (la.add 0).block = la.block := by unfold Addr.add; split <;> rfl
      simp [World.cell?, hab, hh] at this
    | some o => exact lt_of_blk hh
  have hl3 : ∀ j u, (wdCells ws)[j]? = some u → (w2.setCell ⟨L.hb, 3, none⟩ (.slice (some ⟨g2, 0, none⟩) (st.m1.length + ws.length) cap2)).cell? (la.add j) = some u := by
    intro j u hu
    rw [← hl j u hu]
    refine World.cell?_of_block ?_
    have hab : (la.add j).block = la.block := by unfold Addr.add; split <;> rfl
    rw [hab, hE3.block _ (Nat.lt_of_lt_of_le hlb hE2'.size) (fun e => hlf (e ▸ R.fs.1)), hE2'.block _ hlb (fun e => hlf (R.r1.2 _ e))]
  have hr3 := hr2.ext hE3 (fun k hk => by cases hk; exact hghb)
  obtain ⟨w4, hrun4, hr4, hE4⟩ := hr3.copyTail (P := Try.prog) (t2 := 55) (len := ws.length) (wdCells_length _) Try.underlying55 size66 3 la lc (wdCells ws) (wdCells_length _) hl3 (wdCells_one _) rfl (cap2 - st.m1.length)
  have hg2w : g2 = w.heap.size ∨ F g2 := hg2'.symm.imp id (fun e => R.r1.2 _ e)
  have hlt2 : g2 < w2.heap.size := hr2.lt rfl
  have hcap : st.m1.length + ws.length ≤ cap2 := by
    rcases hr2.cases with ⟨h, _⟩ | ⟨g', cap', cur, hv, _, _, hnc, _⟩
    · cases h
    · cases hv; exact hnc
  have hEF : Ext F w w4 := by
    refine ((hE2'.mono (G := F) fun k hk => R.r1.2 k hk).trans (hE3.mono (G := F) fun k hk => hk ▸ R.fs.1) fun i hi => .inl hi).trans hE4 ?_
    rintro i rfl
    rcases hg2w with e | e
    · exact .inr (by omega)
    · exact .inl e
  have hkeep : ∀ k, F k → k ≠ L.hb → L.s0.ownBlock ≠ some k → L.s1.ownBlock ≠ some k → w4.heap[k]? = w.heap[k]? := by
    intro k hF h1 h2 h3
    have hk := R.lt k hF
    have hk2 : k < w2.heap.size := Nat.lt_of_lt_of_le hk hE2'.size
    have hne : ¬ k = g2 := by
      rintro rfl
      rcases hg2' with e | e
      · exact h3 e
      · omega
    rw [hE4.block k (Nat.lt_of_lt_of_le hk2 hE3.size) hne, hE3.block k hk2 h1, hE2'.block k hk h3]
  have hfin : PlacePost F L st 1 ws w (.returned (.int .i64 st.m1.length)) w4 := by
    refine ⟨rfl, ⟨L.s0, .slice (some ⟨g2, 0, none⟩) (st.m1.length + ws.length) cap2, ?_⟩, hEF⟩
    refine R.chMem (fun k hk => ?_) (fun k hk => .inl hk) hkeep ?_ ?_ ?_ ?_
    · rcases hk with hk | hk
      · exact Nat.lt_of_lt_of_le (R.lt k hk) hEF.size
      · exact hk.2
    · rw [hE4.block _ (lt_of_blk (get_setCell hH2 _ _)) (fun e => hghb e.symm), get_setCell hH2]
      rfl
    · refine (R.r0.of_block fun k hk => ?_).mono fun k hk => .inl hk
      have hk1 := R.lt k (R.r0.2 k hk)
      have hk2 : k < w2.heap.size := Nat.lt_of_lt_of_le hk1 hE2'.size
      have h1 : ¬ L.s1.ownBlock = some k := fun e => R.sep3 k hk e
      have hne : ¬ k = g2 := by
        rintro rfl
        rcases hg2' with e | e
        · exact h1 e
        · omega
      rw [hE4.block k (Nat.lt_of_lt_of_le hk2 hE3.size) hne, hE3.block k hk2 (fun e => row_ne_cells R.r0 R.hH (by decide) hk e), hE2'.block k hk1 h1]
    · have := hr4
      rw [← wdCells_append] at this
      refine (show Row _ 66 2 w4 _ (st.m1 ++ ws).length _ from by simpa using this).mono ?_
      rintro k (hk | hk)
      · exact .inl hk
      · exact .inr ⟨hk.1, Nat.lt_of_lt_of_le hk.2 (Nat.le_trans hE3.size hE4.size)⟩
    · intro k hk e
      obtain rfl : g2 = k := by simpa [Value.ownBlock] using e
      rcases hg2' with e | e
      · exact R.sep3 _ hk e
      · have := R.lt _ (R.r0.2 _ hk)
        omega
  have hn : st.m1.length < cap2 := by omega
  have H := Lib.hid hfin
  have hH3 := get_setCell hH2 3 (.slice (some ⟨g2, 0, none⟩) (st.m1.length + ws.length) cap2)
  rw [hs1] at hrun2
  have d3 : w2.cell? ⟨L.hb, 3, none⟩ = some L.s1 := by rw [cell_of hH2]; rfl
  have e3 : w2.frozen? ⟨L.hb, 3, none⟩ = false := free_of hH2 3
  rw [hs1] at d3
  clear hfin hkeep hEF hr4 hE4 hr3 hl3 hE3 hE2 hE2' hr2 hb2 hg2' hhb hH2 hghb hlb hl hlf hg2w hrow hH3 R hs1 hg2 hlt2
  go_enter Try.func54, Try.ntmps54
  go_wp2
  go_region_law (refine step_append_eq rfl _ _ _ rfl _ _ rfl rfl _ hrun2 ?_)
  go_wp2_with (with_reducible refine wpList_copy_eq rfl (.tmp 36) (.tmp 37) #[55, 55] rfl _ _ rfl rfl _ hrun4 ?_)
  go_ret
  exact H.out

set_option maxRecDepth 100000 in
set_option maxHeartbeats 2000000 in
theorem place0_any (R : Rep F L st w) {ws : List Wd} {la : Addr} {lc : Nat} (hws : 0 < ws.length) (hwl : ws.length < 10000) (hml : st.m0.length < 100000)
    (hl : ∀ j u, (wdCells ws)[j]? = some u → w.cell? (la.add j) = some u) (hlf : ¬ F la.block) :
    Calls Try.prog 54 #[.pointer (some ⟨L.hb, 0, none⟩), .int .i64 0, .slice (some la) ws.length lc] w (PlacePost F L st 0 ws w) := by
  obtain ⟨a1, cap1, hs1⟩ := R.r0.form
  have c3 : w.cell? ⟨L.hb, 2, none⟩ = some (.slice a1 st.m0.length cap1) := by rw [R.hc 2, ← hs1]; rfl
  have f3 : w.frozen? ⟨L.hb, 2, none⟩ = false := R.hf 2
  have hrow : Row F 66 2 w.drew L.s0 st.m0.length (wdCells st.m0) := R.r0.of_block fun _ _ => rfl
  obtain ⟨v2, w2, hrun2, hr2, hE2, hb2⟩ := hrow.appendZeros (P := Try.prog) (tn := 3) Try.underlying55 Try.underlying3 info66 rfl (by decide) 55 ws.length hws (zero66 _) (by omega) (by decide)
  have hE2' : Ext (fun b => L.s0.ownBlock = some b) w w2 := ⟨hE2.os, hE2.tape, hE2.output, hE2.size, hE2.block⟩
  obtain ⟨a2, cap2, rfl⟩ := hr2.form
  obtain ⟨g2, rfl, hg2⟩ := hr2.addr (by omega)
  have hg2' : L.s0.ownBlock = some g2 ∨ g2 = w.heap.size := by
    rcases hb2 with e | e
    · exact .inl e.symm
    · cases e; exact .inr rfl
  have hhb : ¬ L.s0.ownBlock = some L.hb := fun e => row_ne_cells R.r0 R.hH (by decide) e rfl
  have hH2 := hE2'.get R.hH hhb
  have hE3 := ext_setCell w2 L.hb 2 (.slice (some ⟨g2, 0, none⟩) (st.m0.length + ws.length) cap2)
  have hghb : ¬ g2 = L.hb := by
    rintro rfl
    rcases hg2' with e | e
    · exact hhb e
    · have := R.lt _ R.fs.1
      omega
  have hlb : la.block < w.heap.size := by
    obtain ⟨u, hu⟩ : ∃ u, (wdCells ws)[0]? = some u := ⟨_, List.getElem?_eq_getElem (by rw [wdCells_length]; omega)⟩
    have := hl 0 u hu
    cases hh : w.heap[la.block]? with
    | none =>
      have hab : (la.add 0).block = la.block := by unfold Addr.add; split <;> rfl
      simp [World.cell?, hab, hh] at this
    | some o => exact lt_of_blk hh
  have hl3 : ∀ j u, (wdCells ws)[j]? = some u → (w2.setCell ⟨L.hb, 2, none⟩ (.slice (some ⟨g2, 0, none⟩) (st.m0.length + ws.length) cap2)).cell? (la.add j) = some u := by
    intro j u hu
    rw [← hl j u hu]
    refine World.cell?_of_block ?_
    have hab : (la.add j).block = la.block := by unfold Addr.add; split <;> rfl
    rw [hab, hE3.block _ (Nat.lt_of_lt_of_le hlb hE2'.size) (fun e => hlf (e ▸ R.fs.1)), hE2'.block _ hlb (fun e => hlf (R.r0.2 _ e))]
  have hr3 := hr2.ext hE3 (fun k hk => by cases hk; exact hghb)
  obtain ⟨w4, hrun4, hr4, hE4⟩ := hr3.copyTail (P := Try.prog) (t2 := 55) (len := ws.length) (wdCells_length _) Try.underlying55 size66 3 la lc (wdCells ws) (wdCells_length _) hl3 (wdCells_one _) rfl (cap2 - st.m0.length)
  have hg2w : g2 = w.heap.size ∨ F g2 := hg2'.symm.imp id (fun e => R.r0.2 _ e)
  have hlt2 : g2 < w2.heap.size := hr2.lt rfl
  have hcap : st.m0.length + ws.length ≤ cap2 := by
    rcases hr2.cases with ⟨h, _⟩ | ⟨g', cap', cur, hv, _, _, hnc, _⟩
    · cases h
    · cases hv; exact hnc
  have hEF : Ext F w w4 := by
    refine ((hE2'.mono (G := F) fun k hk => R.r0.2 k hk).trans (hE3.mono (G := F) fun k hk => hk ▸ R.fs.1) fun i hi => .inl hi).trans hE4 ?_
    rintro i rfl
    rcases hg2w with e | e
    · exact .inr (by omega)
    · exact .inl e
  have hkeep : ∀ k, F k → k ≠ L.hb → L.s0.ownBlock ≠ some k → L.s1.ownBlock ≠ some k → w4.heap[k]? = w.heap[k]? := by
    intro k hF h1 h2 h3
    have hk := R.lt k hF
    have hk2 : k < w2.heap.size := Nat.lt_of_lt_of_le hk hE2'.size
    have hne : ¬ k = g2 := by
      rintro rfl
      rcases hg2' with e | e
      · exact h2 e
      · omega
    rw [hE4.block k (Nat.lt_of_lt_of_le hk2 hE3.size) hne, hE3.block k hk2 h1, hE2'.block k hk h2]
  have hfin : PlacePost F L st 0 ws w (.returned (.int .i64 st.m0.length)) w4 := by
    refine ⟨rfl, ⟨.slice (some ⟨g2, 0, none⟩) (st.m0.length + ws.length) cap2, L.s1, ?_⟩, hEF⟩
    refine R.chMem (fun k hk => ?_) (fun k hk => .inl hk) hkeep ?_ ?_ ?_ ?_
    · rcases hk with hk | hk
      · exact Nat.lt_of_lt_of_le (R.lt k hk) hEF.size
      · exact hk.2
    · rw [hE4.block _ (lt_of_blk (get_setCell hH2 _ _)) (fun e => hghb e.symm), get_setCell hH2]
      rfl
    · have := hr4
      rw [← wdCells_append] at this
      refine (show Row _ 66 2 w4 _ (st.m0 ++ ws).length _ from by simpa using this).mono ?_
      rintro k (hk | hk)
      · exact .inl hk
      · exact .inr ⟨hk.1, Nat.lt_of_lt_of_le hk.2 (Nat.le_trans hE3.size hE4.size)⟩
    · refine (R.r1.of_block fun k hk => ?_).mono fun k hk => .inl hk
      have hk1 := R.lt k (R.r1.2 k hk)
      have hk2 : k < w2.heap.size := Nat.lt_of_lt_of_le hk1 hE2'.size
      have h1 : ¬ L.s0.ownBlock = some k := fun e => R.sep3 k e hk
      have hne : ¬ k = g2 := by
        rintro rfl
        rcases hg2' with e | e
        · exact h1 e
        · omega
      rw [hE4.block k (Nat.lt_of_lt_of_le hk2 hE3.size) hne, hE3.block k hk2 (fun e => row_ne_cells R.r1 R.hH (by decide) hk e), hE2'.block k hk1 h1]
    · intro k hk e
      obtain rfl : g2 = k := by simpa [Value.ownBlock] using hk
      rcases hg2' with e' | e'
      · exact R.sep3 _ e' e
      · have := R.lt _ (R.r1.2 _ e)
        omega
  have hn : st.m0.length < cap2 := by omega
  have H := Lib.hid hfin
  have hH3 := get_setCell hH2 2 (.slice (some ⟨g2, 0, none⟩) (st.m0.length + ws.length) cap2)
  rw [hs1] at hrun2
  have d3 : w2.cell? ⟨L.hb, 2, none⟩ = some L.s0 := by rw [cell_of hH2]; rfl
  have e3 : w2.frozen? ⟨L.hb, 2, none⟩ = false := free_of hH2 2
  rw [hs1] at d3
  clear hfin hkeep hEF hr4 hE4 hr3 hl3 hE3 hE2 hE2' hr2 hb2 hg2' hhb hH2 hghb hlb hl hlf hg2w hrow hH3 R hs1 hg2 hlt2
  go_enter Try.func54, Try.ntmps54
  go_wp2
  go_region_law (refine step_append_eq rfl _ _ _ rfl _ _ rfl rfl _ hrun2 ?_)
  go_wp2_with (with_reducible refine wpList_copy_eq rfl (.tmp 36) (.tmp 37) #[55, 55] rfl _ _ rfl rfl _ hrun4 ?_)
  go_ret
  exact H.out

end place
end Go.Proofs.Ytpjifaefchnmoaa
