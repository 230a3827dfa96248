/- More general words for this claim: rows of cells that lie in blocks of a set, appends to them, laws at the operation that take the run of the operation as an equation. -/
import Derived.Test.YtpjifaefchnmoaaBase
import Derived.Maps.AppendAt
namespace Go.Proofs.Ytpjifaefchnmoaa
open Go.RowKit
open Go.ChangeMaps (setBlock)

/-- The blocks of F, and those that are new between two worlds. -/
def grow (F : Nat → Prop) (w w' : World) (k : Nat) : Prop := F k ∨ (w.heap.size ≤ k ∧ k < w'.heap.size)

theorem Ext.then {F : Nat → Prop} {a b c : World} (h : Ext F a b) (k : Ext (grow F a b) b c) : Ext F a c :=
  h.trans k fun _ hi => hi.imp id (fun x => x.1)

theorem grow_grow {F : Nat → Prop} {a b c : World} (hab : a.heap.size ≤ b.heap.size) (hbc : b.heap.size ≤ c.heap.size) {k : Nat} (h : grow (grow F a b) b c k) : grow F a c k := by
  rcases h with (h | h) | h
  · exact .inl h
  · exact .inr ⟨h.1, by omega⟩
  · exact .inr ⟨by omega, h.2⟩

theorem grow_refl {F : Nat → Prop} {a : World} {k : Nat} (h : grow F a a k) : F k := by
  rcases h with h | h
  · exact h
  · omega

/-- A row of n elements (size cells each) that v leads to, in a block of F. -/
def Row (F : Nat → Prop) (e : TypeId) (size : Nat) (w : World) (v : Value) (n : Nat) (xs : List Value) : Prop :=
  w.ownsRow 0 e size v n xs ∧ ∀ k, v.ownBlock = some k → F k

theorem Row.nil (F : Nat → Prop) (e : TypeId) (size : Nat) (w : World) : Row F e size w (.slice none 0 0) 0 [] :=
  ⟨World.ownsRow_nil w 0 e size, fun k h => by cases h⟩

theorem Row.mono {F G : Nat → Prop} {e : TypeId} {size : Nat} {w : World} {v : Value} {n : Nat} {xs : List Value} (h : Row F e size w v n xs) (hFG : ∀ k, F k → G k) : Row G e size w v n xs :=
  ⟨h.1, fun k hk => hFG k (h.2 k hk)⟩

theorem Row.of_block {F : Nat → Prop} {e : TypeId} {size : Nat} {w w' : World} {v : Value} {n : Nat} {xs : List Value} (h : Row F e size w v n xs)
    (hb : ∀ k, v.ownBlock = some k → w'.heap[k]? = w.heap[k]?) : Row F e size w' v n xs := by
  refine ⟨⟨h.1.1, ?_⟩, h.2⟩
  rcases h.1.2 with h2 | ⟨g, cap, cur, rfl, r1, r2, r⟩
  · exact .inl h2
  · exact .inr ⟨g, cap, cur, rfl, r1, (hb g rfl).trans r2, r⟩

theorem Row.lt {F : Nat → Prop} {e : TypeId} {size : Nat} {w : World} {v : Value} {n : Nat} {xs : List Value} (h : Row F e size w v n xs) {k : Nat} (hk : v.ownBlock = some k) : k < w.heap.size := (h.1.lt k hk).2

theorem Row.below {F : Nat → Prop} {e : TypeId} {size : Nat} {w w' : World} {v : Value} {n : Nat} {xs : List Value} (h : Row F e size w v n xs) {B : Nat} (hB : Below B w w') (hF : ∀ k, v.ownBlock = some k → k < B) : Row F e size w' v n xs :=
  h.of_block fun k hk => hB.block k (hF k hk)

theorem Row.ext {F G : Nat → Prop} {e : TypeId} {size : Nat} {w w' : World} {v : Value} {n : Nat} {xs : List Value} (h : Row F e size w v n xs) (hG : Ext G w w') (hd : ∀ k, v.ownBlock = some k → ¬ G k) : Row F e size w' v n xs :=
  h.of_block fun k hk => hG.block k (h.lt hk) (hd k hk)

/-- What a row looks like. -/
theorem Row.cases {F : Nat → Prop} {e : TypeId} {size : Nat} {w : World} {v : Value} {n : Nat} {xs : List Value} (h : Row F e size w v n xs) :
    (v = .slice none 0 0 ∧ n = 0 ∧ xs = []) ∨ ∃ g cap cur, v = .slice (some ⟨g, 0, none⟩) n cap ∧ F g ∧ w.heap[g]? = some (.cells cur e (0, 0)) ∧ n ≤ cap ∧ cap ≤ maxLen ∧ cur.size = cap * size ∧ cur.toList.take (n * size) = xs := by
  rcases h.1.2 with ⟨h1, h2⟩ | ⟨g, cap, cur, rfl, r1, r2, r3, r4, r5, r6⟩
  · exact .inl ⟨h1, h2, List.eq_nil_of_length_eq_zero (by rw [h.1.1, h2, Nat.zero_mul])⟩
  · exact .inr ⟨g, cap, cur, rfl, h.2 g rfl, r2, r3, r4, r5, r6⟩

theorem Row.form {F : Nat → Prop} {e : TypeId} {size : Nat} {w : World} {v : Value} {n : Nat} {xs : List Value} (h : Row F e size w v n xs) : ∃ a cap, v = .slice a n cap := by
  rcases h.cases with ⟨rfl, rfl, _⟩ | ⟨g, cap, cur, rfl, _⟩
  · exact ⟨_, _, rfl⟩
  · exact ⟨_, _, rfl⟩

theorem Row.cell {F : Nat → Prop} {e : TypeId} {size : Nat} {w : World} {g n cap : Nat} {xs : List Value} (h : Row F e size w (.slice (some ⟨g, 0, none⟩) n cap) n xs) (j : Nat) (hj : j < n * size) : w.cell? ⟨g, j, none⟩ = xs[j]? :=
  h.1.cellAt j hj

theorem Row.free {F : Nat → Prop} {e : TypeId} {size : Nat} {w : World} {g n cap : Nat} {xs : List Value} (h : Row F e size w (.slice (some ⟨g, 0, none⟩) n cap) n xs) (j : Nat) : w.frozen? ⟨g, j, none⟩ = false :=
  h.1.frozenAt j

theorem Ext.of_grown {F : Nat → Prop} {w w' : World} {row : Option Nat} (h : w.grownBy w' row) (hF : ∀ k, row = some k → F k) : Ext F w w' :=
  ⟨h.os, h.tape, h.output, h.size, fun k hk hn => h.block k hk fun e => hn (hF k e.symm)⟩

theorem Row.append {F : Nat → Prop} {P : Program} {e t : TypeId} {size bytes n : Nat} {z : Value} {w : World} {v : Value} {xs : List Value} (h : Row F e size w v n xs)
    (ht : P.underlying t = some (.slice e)) (hinfo : (P.info? e).map (fun i => (i.zero, i.size, i.bytes)) = some (some z, size, bytes)) (hzs : z.cells.size = size) (hsz : 0 < size) (ty : TypeId)
    (a : Addr) (m c : Nat) (news : List Value) (hl : news.length = m * size) (hnews : ∀ j u, news[j]? = some u → w.cell? (a.add j) = some u) (h1 : ∀ u ∈ news, u.oneCell' = true)
    (h63 : n + m ≤ maxLen) (hbytes : (n + m) * bytes ≤ 140737488355328) :
    ∃ v' w', (Builtin.append_ #[t, t] ty #[v, .slice (some a) m c]).run P w = .ok v' w' ∧ Row (grow F w w') e size w' v' (n + m) (xs ++ news) ∧ Ext F w w' ∧
      (v'.ownBlock = v.ownBlock ∨ v'.ownBlock = some w.heap.size) := by
  obtain ⟨i, hi, hz, hs, hb⟩ := info_parts hinfo
  obtain ⟨v', w', r1, r2, r3, r4⟩ := run_append_own (P := P) w 0 t ty e i z size bytes ht hi hz hs hb hzs hsz v n xs h.1 a m c news hl hnews h1 h63 hbytes (Nat.zero_le _)
  -- which block
  have hblk : v'.ownBlock = v.ownBlock ∨ v'.ownBlock = some w.heap.size := by
    subst hs
    rcases h.cases with ⟨rfl, rfl, rfl⟩ | ⟨g, cap, cur, rfl, hF, hg, hnc, hcm, hcs, htake⟩
    · by_cases hm : m = 0
      · subst hm
        have : v' = .slice none 0 0 := r4.2 ⟨rfl, rfl⟩
        rw [this]; exact .inl rfl
      · have hr := run_append_nil (P := P) w t ty e i z ht hi hz a m c news hl hnews (by omega) (by simp only [maxLen] at h63; omega) (by simp only [Nat.zero_add] at hbytes; rw [hb]; omega)
        rw [hr] at r1
        simp only [Result.ok.injEq] at r1
        rw [← r1.1]; exact .inr rfl
    · by_cases hroom : n + m ≤ cap
      · have hfit : n * i.size + news.length ≤ cur.size := by rw [hl, hcs, ← Nat.add_mul]; exact Nat.mul_le_mul_right _ hroom
        have hr := run_append_room (P := P) w t ty e i ht hi g n cap cur hg a m c news hl hnews h1 hroom hfit
        rw [hr] at r1
        simp only [Result.ok.injEq] at r1
        rw [← r1.1]; exact .inl rfl
      · have holds : ∀ j u, xs[j]? = some u → w.cell? ((⟨g, 0, none⟩ : Addr).add j) = some u := h.1.cells (g := g) rfl
        have hr := run_append_grow (P := P) w t ty e i z ht hi hz ⟨g, 0, none⟩ n cap xs h.1.1 holds a m c news hl hnews (by omega) (by simp only [maxLen] at h63; omega) (growslice_fits (by omega) (by rw [hb]; exact hbytes))
        rw [hr] at r1
        simp only [Result.ok.injEq] at r1
        rw [← r1.1]; exact .inr rfl
  have hE : Ext F w w' := Ext.of_grown r3 (fun k hk => h.2 k hk)
  refine ⟨v', w', r1, ⟨r2, fun k hk => ?_⟩, hE, hblk⟩
  rcases hblk with e | e
  · exact .inl (h.2 k (e ▸ hk))
  · rw [e] at hk; cases hk; exact .inr ⟨Nat.le_refl _, (r2.lt _ e).2⟩

/-- append(s, x) with x of one cell, x's own new block laid just ahead. -/
theorem Row.append1 {F : Nat → Prop} {P : Program} {e t : TypeId} {bytes n : Nat} {z : Value} {w : World} {v : Value} {xs : List Value} (h : Row F e 1 w v n xs)
    (ht : P.underlying t = some (.slice e)) (hinfo : (P.info? e).map (fun i => (i.zero, i.size, i.bytes)) = some (some z, 1, bytes)) (hzs : z.cells.size = 1) (ty : TypeId)
    (x : Value) (hx : x.oneCell' = true) (h63 : n < 1000000000) (hbytes : bytes ≤ 1000) :
    ∃ v' w', (Builtin.append_ #[t, t] ty #[v, .slice (some ⟨w.heap.size, 0, none⟩) 1 1]).run P (w.alloc (.cells #[x] e)) = .ok v' w' ∧ Row (grow F w w') e 1 w' v' (n + 1) (xs ++ [x]) ∧ Ext F w w' ∧
      (v'.ownBlock = v.ownBlock ∨ ∃ b, v'.ownBlock = some b ∧ w.heap.size < b) := by
  have hm : n + 1 ≤ maxLen := by simp only [maxLen]; omega
  have hb : (n + 1) * bytes ≤ 140737488355328 := Nat.le_trans (Nat.mul_le_mul (Nat.le_of_lt_succ (by omega : n + 1 < 1000000001)) hbytes) (by decide)
  have h0 : Row F e 1 (w.alloc (.cells #[x] e)) v n xs := h.of_block fun k hk => Below.heap_alloc w _ k (h.lt hk)
  obtain ⟨v', w', r1, r2, r3, r4⟩ := h0.append (P := P) ht hinfo hzs (by decide) ty ⟨w.heap.size, 0, none⟩ 1 1 [x] rfl (cell_one_new w x e) (by simpa using hx) hm hb
  have hs : (w.alloc (.cells #[x] e)).heap.size = w.heap.size + 1 := by simp
  have hE : Ext F w w' := (Below.ext ((Below.refl _ w).alloc (Nat.le_refl _) _) F).trans r3 (fun i hi => .inl hi)
  refine ⟨v', w', r1, r2.mono fun k hk => ?_, hE, ?_⟩
  · rcases hk with hk | hk
    · exact .inl hk
    · rw [hs] at hk; exact .inr ⟨by omega, hk.2⟩
  · rcases r4 with r4 | r4
    · exact .inl r4
    · exact .inr ⟨_, r4, by rw [hs]; omega⟩

/-! ### at an operation whose run is known as an equation -/
section ateq
variable {P : Program} {w w' : World} {ops : Array Oper} {rest : List Oper} {o : Oper} {a : Act} {Q : Exit → Act → World → Prop}

theorem wpList_append_eq (hgd : o.guard = none) (s x : Operand) (ts : Array TypeId) (hop : o.op = Op.call { callee := Callee.builtin Builtin.append, args := #[s, x], argTypes := ts })
    (sv xv : Value) (hs : a.eval s = sv) (hx : a.eval x = xv) (v' : Value) (hrun : (Builtin.append_ ts o.type #[sv, xv]).run P w = .ok v' w')
    (h : wpList P ops Q rest (a.put o.dst v') w') : wpList P ops Q (o :: rest) a w := by
  refine wpList_plain hgd fun K hK => ?_
  unfold Oper.wp execOp
  simp only [hop, resolve, invoke, builtin, Sem.run_bind, Sem.run_pure, Result.andThen_ok, List.map_toArray, List.map_cons, List.map_nil, hs, hx, hrun]
  exact hK _ _ h

theorem wpList_copy_eq (hgd : o.guard = none) (s x : Operand) (ts : Array TypeId) (hop : o.op = Op.call { callee := Callee.builtin Builtin.copy, args := #[s, x], argTypes := ts })
    (sv xv : Value) (hs : a.eval s = sv) (hx : a.eval x = xv) (v' : Value) (hrun : (Builtin.copy_ ts o.type #[sv, xv]).run P w = .ok v' w')
    (h : wpList P ops Q rest (a.put o.dst v') w') : wpList P ops Q (o :: rest) a w := by
  refine wpList_plain hgd fun K hK => ?_
  unfold Oper.wp execOp
  simp only [hop, resolve, invoke, builtin, Sem.run_bind, Sem.run_pure, Result.andThen_ok, List.map_toArray, List.map_cons, List.map_nil, hs, hx, hrun]
  exact hK _ _ h

theorem wpList_delete_eq (hgd : o.guard = none) (s x : Operand) (ts : Array TypeId) (hop : o.op = Op.call { callee := Callee.builtin Builtin.delete, args := #[s, x], argTypes := ts })
    (sv xv : Value) (hs : a.eval s = sv) (hx : a.eval x = xv) (v' : Value) (hrun : (Builtin.delete_ ts o.type #[sv, xv]).run P w = .ok v' w')
    (h : wpList P ops Q rest (a.put o.dst v') w') : wpList P ops Q (o :: rest) a w := by
  refine wpList_plain hgd fun K hK => ?_
  unfold Oper.wp execOp
  simp only [hop, resolve, invoke, builtin, Sem.run_bind, Sem.run_pure, Result.andThen_ok, List.map_toArray, List.map_cons, List.map_nil, hs, hx, hrun]
  exact hK _ _ h

theorem wpList_clear_eq (hgd : o.guard = none) (s : Operand) (ts : Array TypeId) (hop : o.op = Op.call { callee := Callee.builtin Builtin.clear, args := #[s], argTypes := ts })
    (sv : Value) (hs : a.eval s = sv) (v' : Value) (hrun : (Builtin.clear_ ts o.type #[sv]).run P w = .ok v' w')
    (h : wpList P ops Q rest (a.put o.dst v') w') : wpList P ops Q (o :: rest) a w := by
  refine wpList_plain hgd fun K hK => ?_
  unfold Oper.wp execOp
  simp only [hop, resolve, invoke, builtin, Sem.run_bind, Sem.run_pure, Result.andThen_ok, List.map_toArray, List.map_cons, List.map_nil, hs, hrun]
  exact hK _ _ h

theorem wpList_len_eq (hgd : o.guard = none) (s : Operand) (ts : Array TypeId) (hop : o.op = Op.call { callee := Callee.builtin Builtin.len, args := #[s], argTypes := ts })
    (sv : Value) (hs : a.eval s = sv) (v' : Value) (hrun : (Builtin.len_ ts o.type #[sv]).run P w = .ok v' w')
    (h : wpList P ops Q rest (a.put o.dst v') w') : wpList P ops Q (o :: rest) a w := by
  refine wpList_plain hgd fun K hK => ?_
  unfold Oper.wp execOp
  simp only [hop, resolve, invoke, builtin, Sem.run_bind, Sem.run_pure, Result.andThen_ok, List.map_toArray, List.map_cons, List.map_nil, hs, hrun]
  exact hK _ _ h

theorem wpList_next_eq (hgd : o.guard = none) (it : Operand) (b : Bool) (hop : o.op = Op.next it b)
    (iv : Value) (hs : a.eval it = iv) (v' : Value) (hrun : (Instr.next iv b o.type).run P w = .ok v' w')
    (h : wpList P ops Q rest (a.put o.dst v') w') : wpList P ops Q (o :: rest) a w := by
  refine wpList_plain hgd fun K hK => ?_
  unfold Oper.wp execOp
  simp only [hop, Sem.run_bind, hs, hrun, Sem.run_pure, Result.andThen_ok]
  exact hK _ _ h

theorem wpList_range_eq (hgd : o.guard = none) (t : TypeId) (x : Operand) (hop : o.op = Op.range t x)
    (iv : Value) (hs : a.eval x = iv) (v' : Value) (hrun : (Instr.range t iv).run P w = .ok v' w')
    (h : wpList P ops Q rest (a.put o.dst v') w') : wpList P ops Q (o :: rest) a w := by
  refine wpList_plain hgd fun K hK => ?_
  unfold Oper.wp execOp
  simp only [hop, Sem.run_bind, hs, hrun, Sem.run_pure, Result.andThen_ok]
  exact hK _ _ h
end ateq

/-! ### ranging over a map keyed by int -/
/-- Block r is an iterator over the map in block b, whose pairs of l are still to come. -/
def Iter (w : World) (r b : Nat) (l : List (Int × Value)) : Prop :=
  ∃ es clock since seen, w.heap[b]? = some (.map es clock) ∧ w.heap[r]? = some (.mapIter (some b) since seen clock) ∧ since ≤ clock ∧ (∀ x ∈ es.toList, x.born < since) ∧
    (leftOf es seen).toList.map (fun e => (e.key, e.val)) = l.map (fun p => (Value.int .i64 p.1, p.2))

section iter
variable {P : Program} {w w' : World} {b r : Nat} {l : List (Int × Value)} {t kt et : TypeId}

theorem Iter.of_block (h : Iter w r b l) (e1 : w'.heap[b]? = w.heap[b]?) (e2 : w'.heap[r]? = w.heap[r]?) : Iter w' r b l := by
  obtain ⟨es, clock, since, seen, h1, h2, h3⟩ := h
  exact ⟨es, clock, since, seen, e1.trans h1, e2.trans h2, h3⟩

theorem Iter.lt (h : Iter w r b l) : b < w.heap.size ∧ r < w.heap.size := by
  obtain ⟨es, clock, since, seen, h1, h2, h3⟩ := h
  exact ⟨lt_of_blk h1, lt_of_blk h2⟩

theorem IMap.range (h : IMap w b l) (ht : P.underlying t = some (.map kt et)) :
    ∃ w', (Instr.range t (.map (some b))).run P w = .ok (.pointer (some ⟨w.heap.size, 0, none⟩)) w' ∧ Iter w' w.heap.size b l ∧ IMap w' b l ∧ Below w.heap.size w w' := by
  have hI := h
  obtain ⟨es, clock, hb, he, hn, hs1, hs2⟩ := h
  refine ⟨w.alloc (.mapIter (some b) clock #[] clock), ?_, ⟨es, clock, clock, #[], ?_, heap_alloc_new w _, Nat.le_refl _, hs2, ?_⟩, hI.alloc _, (Below.refl _ _).alloc (Nat.le_refl _) _⟩
  · simp [Instr.range, run_underlying ht, MapKept.run_getObj_map hb, Result.andThen, newObj, Sem.run]
  · rw [Below.heap_alloc w _ b (lt_of_blk hb)]; exact hb
  · have e : leftOf es #[] = es := by unfold leftOf; simp
    rw [e]; exact he

/-- One step: nothing is left, or some pair that is left comes. -/
theorem Iter.next (h : Iter w r b l) (hI : ∃ l0, IMap w b l0) (ty : TypeId) :
    (l = [] ∧ (Instr.next (.pointer (some ⟨r, 0, none⟩)) false ty).run P w = .ok (.tuple #[.bool false]) w) ∨
    ∃ l1 k v l2 w', l = l1 ++ (k, v) :: l2 ∧ (Instr.next (.pointer (some ⟨r, 0, none⟩)) false ty).run P w = .ok (.tuple #[.bool true, .int .i64 k, v]) w' ∧
      (Instr.entry (.pointer (some ⟨r, 0, none⟩))).run P w' = .ok (.tuple #[.int .i64 k, v]) w' ∧ Iter w' r b (l1 ++ l2) ∧ Ext (· = r) w w' := by
  obtain ⟨es, clock, since, seen, h1, h2, h3, h4, h5⟩ := h
  obtain ⟨l0, es', clock', g1, _, _, g4, _⟩ := hI
  rw [g1] at h1
  simp only [Option.some.injEq, Obj.map.injEq] at h1
  obtain ⟨rfl, rfl⟩ := h1
  have hne : r ≠ b := by rintro rfl; rw [g1] at h2; cases h2
  rcases run_next_at (P := P) w ty r b since clock' seen es' clock' h2 g1 h4 h3 with ⟨h0, hrun⟩ | ⟨e, he, w1, hw1, hrun⟩
  · left
    refine ⟨?_, hrun⟩
    have : (leftOf es' seen).toList = [] := by
      have : leftOf es' seen = #[] := Array.eq_empty_of_size_eq_zero h0
      rw [this]
    rw [this] at h5
    simpa using h5.symm
  · right
    obtain ⟨A, B, hAB⟩ := List.append_of_mem he
    have hmem : e ∈ es'.toList := by
      have : e ∈ leftOf es' seen := by simpa using he
      unfold leftOf at this
      simpa using (Array.mem_filter.1 this).1
    rw [hAB] at h5
    simp only [List.map_append, List.map_cons] at h5
    obtain ⟨l1, rest, rfl, e1, e2⟩ := List.map_eq_append_iff.1 h5.symm
    obtain ⟨p, l2, rfl, e3, e4⟩ := List.map_eq_cons_iff.1 e2
    have hb1 : w1.heap[b]? = some (.map es' clock') := by rcases hw1 with rfl | rfl <;> exact g1
    have hr1 : w1.heap[r]? = some (.mapIter (some b) since seen clock') := by rcases hw1 with rfl | rfl <;> exact h2
    have hEx : Ext (· = r) w w1 := by
      rcases hw1 with rfl | rfl
      · exact Ext.refl _ _
      · exact ⟨rfl, rfl, rfl, Nat.le_refl _, fun _ _ _ => rfl⟩
    have hbb : (setBlock w1 r (.mapIter (some b) since (seen.push e.born) clock')).heap[b]? = some (.map es' clock') := by
      rw [(ext_setBlock (w := w1) (b := r) _).block b (lt_of_blk hb1) (fun e => hne e.symm)]; exact hb1
    have hrr := get_setBlock hr1 (.mapIter (some b) since (seen.push e.born) clock')
    simp only [Prod.mk.injEq] at e3
    refine ⟨l1, p.1, p.2, l2, setBlock w1 r (.mapIter (some b) since (seen.push e.born) clock'), rfl, ?_, ?_, ?_, ?_⟩
    · rw [hrun, ← e3.1, ← e3.2]
    · rw [run_entry_at (P := P) _ r b since seen es' clock' e hrr hbb hmem g4, ← e3.1, ← e3.2]
    · refine ⟨es', clock', since, seen.push e.born, hbb, hrr, h3, h4, ?_⟩
      -- what is left: the others
      have hleft : (leftOf es' (seen.push e.born)).toList = A ++ B := by
        have e5 : leftOf es' (seen.push e.born) = (leftOf es' seen).filter (fun x => !(x.born == e.born)) := by
          unfold leftOf
          rw [Array.filter_filter]
          congr 1
          funext x
          simp only [Array.contains_push, Bool.not_or]
          rw [Bool.and_comm]
        rw [e5, Array.toList_filter, hAB, List.filter_append, List.filter_cons]
        have hnd : ((leftOf es' seen).toList.map (·.born)).Nodup := by
          unfold leftOf
          rw [Array.toList_filter]
          exact g4.sublist (List.filter_sublist.map _)
        rw [hAB, List.map_append, List.map_cons, List.nodup_append, List.nodup_cons] at hnd
        have hA : A.filter (fun x => !(x.born == e.born)) = A := by
          rw [List.filter_eq_self]
          intro x hx
          have := hnd.2.2 x.born (List.mem_map_of_mem hx) e.born List.mem_cons_self
          simpa using this
        have hB : B.filter (fun x => !(x.born == e.born)) = B := by
          rw [List.filter_eq_self]
          intro x hx
          have := hnd.2.1.1
          simp only [List.mem_map, not_exists, not_and] at this
          simpa using this x hx
        rw [hA, hB]
        simp
      rw [hleft, List.map_append, List.map_append, e1, e4]
    · exact hEx.trans (ext_setBlock _) (fun i hi => .inl hi)
end iter
end Go.Proofs.Ytpjifaefchnmoaa
