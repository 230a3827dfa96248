/- General words for this claim: which blocks of memory may have changed, maps keyed by int read as lists of pairs, and the laws for the walk over them. -/
import Derived.Test.YtpjifaefchnmoaaRows
import Derived.WalkKit
import Derived.WalkSpells
import Derived.WalkLawsBesides
import Derived.Maps.RangeWalk
import Derived.Maps.OwnSet
import Derived.Lib.Hide
namespace Go.Proofs.Ytpjifaefchnmoaa
open Go.RowKit
open Go.ChangeMaps (setBlock)

/-- Only blocks of F, and new ones, may have changed. -/
structure Ext (F : Nat → Prop) (w w' : World) : Prop where
  os : w'.os = w.os
  tape : w'.tape = w.tape
  output : w'.output = w.output
  size : w.heap.size ≤ w'.heap.size
  block : ∀ k, k < w.heap.size → ¬ F k → w'.heap[k]? = w.heap[k]?

theorem lt_of_blk {w : World} {b : Nat} {o : Obj} (h : w.heap[b]? = some o) : b < w.heap.size := (Array.getElem?_eq_some_iff.1 h).1

theorem Ext.refl (F : Nat → Prop) (w : World) : Ext F w w := ⟨rfl, rfl, rfl, Nat.le_refl _, fun _ _ _ => rfl⟩

theorem Ext.mono {F G : Nat → Prop} {w w' : World} (h : Ext F w w') (hFG : ∀ k, F k → G k) : Ext G w w' :=
  ⟨h.os, h.tape, h.output, h.size, fun k hk hG => h.block k hk fun hF => hG (hFG k hF)⟩

/-- Two steps: what the second may change, the first may, or it is new since the first began. -/
theorem Ext.trans {F G : Nat → Prop} {a b c : World} (h : Ext F a b) (k : Ext G b c) (hG : ∀ i, G i → F i ∨ a.heap.size ≤ i) : Ext F a c :=
  ⟨k.os.trans h.os, k.tape.trans h.tape, k.output.trans h.output, Nat.le_trans h.size k.size, fun i hi hF =>
    (k.block i (Nat.lt_of_lt_of_le hi h.size) fun hg => by rcases hG i hg with h1 | h1; exact hF h1; omega).trans (h.block i hi hF)⟩

theorem Ext.get {F : Nat → Prop} {w w' : World} (h : Ext F w w') {b : Nat} {o : Obj} (hb : w.heap[b]? = some o) (hF : ¬ F b) : w'.heap[b]? = some o :=
  (h.block b (lt_of_blk hb) hF).trans hb

theorem Below.get {B : Nat} {w w' : World} (h : Below B w w') {b : Nat} {o : Obj} (hb : w.heap[b]? = some o) (hB : b < B) : w'.heap[b]? = some o :=
  (h.block b hB).trans hb

theorem Below.ext {w w' : World} (h : Below w.heap.size w w') (F : Nat → Prop) : Ext F w w' :=
  ⟨h.os, h.tape, h.output, h.size, fun k hk _ => h.block k hk⟩

theorem Ext.below {F : Nat → Prop} {w w' : World} (h : Ext F w w') {B : Nat} (hB : B ≤ w.heap.size) (hF : ∀ k, F k → B ≤ k) : Below B w w' :=
  ⟨h.os, h.tape, h.output, h.size, fun k hk => h.block k (by omega) fun hf => by have := hF k hf; omega⟩

theorem ext_setBlock {w : World} {b : Nat} (o : Obj) : Ext (· = b) w (setBlock w b o) :=
  ⟨rfl, rfl, rfl, by simp [setBlock], fun k _ hne => by
    show (w.heap.setIfInBounds b o)[k]? = _
    rw [Array.getElem?_setIfInBounds, if_neg (fun e => hne e.symm)]⟩

theorem get_setBlock {w : World} {b : Nat} {o0 : Obj} (h : w.heap[b]? = some o0) (o : Obj) : (setBlock w b o).heap[b]? = some o := by
  show (w.heap.setIfInBounds b o)[b]? = _
  rw [Array.getElem?_setIfInBounds, if_pos rfl, if_pos (lt_of_blk h)]

/-! ### cells of a block that is known whole -/
theorem cell_of {w : World} {b : Nat} {c : Array Value} {T : TypeId} {fr : Nat × Nat} (h : w.heap[b]? = some (.cells c T fr)) (k : Nat) : w.cell? ⟨b, k, none⟩ = c[k]? := by
  simp [World.cell?, h]

theorem free_of {w : World} {b : Nat} {c : Array Value} {T : TypeId} (h : w.heap[b]? = some (.cells c T (0, 0))) (k : Nat) : w.frozen? ⟨b, k, none⟩ = false := by
  simp [World.frozen?, h]

theorem get_setCell {w : World} {b : Nat} {c : Array Value} {T : TypeId} {fr : Nat × Nat} (h : w.heap[b]? = some (.cells c T fr)) (k : Nat) (v : Value) :
    (w.setCell ⟨b, k, none⟩ v).heap[b]? = some (.cells (c.setIfInBounds k v) T fr) := by
  simp [World.setCell, Array.getElem?_modify, h]

theorem ext_setCell (w : World) (b k : Nat) (v : Value) : Ext (· = b) w (w.setCell ⟨b, k, none⟩ v) :=
  ⟨rfl, rfl, rfl, by simp [World.setCell], fun i _ hne => by
    simp only [World.setCell, Array.getElem?_modify]
    rw [if_neg (fun e => hne e.symm)]⟩

/-! ### association lists -/
def alook {α : Type} : List (Int × α) → Int → Option α
  | [], _ => none
  | p :: r, k => if k = p.1 then some p.2 else alook r k

def aset {α : Type} : List (Int × α) → Int → α → List (Int × α)
  | [], k, v => [(k, v)]
  | p :: r, k, v => if k = p.1 then (k, v) :: r else p :: aset r k v

def adel {α : Type} : List (Int × α) → Int → List (Int × α)
  | [], _ => []
  | p :: r, k => if k = p.1 then r else p :: adel r k

theorem alook_map {α β : Type} (f : α → β) (l : List (Int × α)) (k : Int) : alook (l.map fun p => (p.1, f p.2)) k = (alook l k).map f := by
  induction l with
  | nil => rfl
  | cons p r ih => simp only [List.map_cons, alook]; split <;> simp [ih]

theorem aset_map {α β : Type} (f : α → β) (l : List (Int × α)) (k : Int) (v : α) : aset (l.map fun p => (p.1, f p.2)) k (f v) = (aset l k v).map fun p => (p.1, f p.2) := by
  induction l with
  | nil => rfl
  | cons p r ih => simp only [List.map_cons, aset]; split <;> simp [ih]

theorem adel_map {α β : Type} (f : α → β) (l : List (Int × α)) (k : Int) : adel (l.map fun p => (p.1, f p.2)) k = (adel l k).map fun p => (p.1, f p.2) := by
  induction l with
  | nil => rfl
  | cons p r ih => simp only [List.map_cons, adel]; split <;> simp [ih]

theorem alook_some_mem {α : Type} {l : List (Int × α)} {k : Int} {v : α} (h : alook l k = some v) : (k, v) ∈ l := by
  induction l with
  | nil => cases h
  | cons p r ih =>
    simp only [alook] at h
    split at h
    · rename_i e; cases h; subst e; exact List.mem_cons_self
    · exact List.mem_cons_of_mem _ (ih h)

theorem alook_none {α : Type} {l : List (Int × α)} {k : Int} : alook l k = none ↔ ∀ p ∈ l, p.1 ≠ k := by
  induction l with
  | nil => simp [alook]
  | cons p r ih =>
    simp only [alook, List.mem_cons, forall_eq_or_imp]
    split
    · rename_i e; simp [e]
    · rename_i e; rw [ih]; exact ⟨fun h => ⟨fun e' => e e'.symm, h⟩, fun h => h.2⟩

theorem alook_of_mem {α : Type} {l : List (Int × α)} (hn : (l.map (·.1)).Nodup) {k : Int} {v : α} (h : (k, v) ∈ l) : alook l k = some v := by
  induction l with
  | nil => cases h
  | cons p r ih =>
    simp only [List.map_cons, List.nodup_cons, List.mem_map, not_exists, not_and] at hn
    simp only [alook]
    rcases List.mem_cons.1 h with e | e
    · subst e; simp
    · rw [if_neg, ih hn.2 e]
      intro e'
      exact hn.1 (k, v) e e'

theorem aset_keys_of_some {α : Type} {l : List (Int × α)} {k : Int} {v : α} (h : (alook l k).isSome) : (aset l k v).map (·.1) = l.map (·.1) := by
  induction l with
  | nil => cases h
  | cons p r ih =>
    simp only [alook] at h
    simp only [aset]
    split
    · rename_i e; simp [e]
    · rename_i e; rw [if_neg e] at h; simp [ih h]

theorem aset_of_none {α : Type} {l : List (Int × α)} {k : Int} {v : α} (h : alook l k = none) : aset l k v = l ++ [(k, v)] := by
  induction l with
  | nil => rfl
  | cons p r ih =>
    simp only [alook] at h
    split at h
    · cases h
    · rename_i e; simp [aset, e, ih h]

theorem aset_nodup {α : Type} {l : List (Int × α)} (hn : (l.map (·.1)).Nodup) (k : Int) (v : α) : ((aset l k v).map (·.1)).Nodup := by
  cases h : alook l k with
  | some u => rw [aset_keys_of_some (by simp [h])]; exact hn
  | none =>
    rw [aset_of_none h]
    rw [List.map_append, List.nodup_append]
    refine ⟨hn, by simp, ?_⟩
    intro a ha b hb
    simp at hb
    subst hb
    rintro rfl
    obtain ⟨p, hp, hpe⟩ := List.mem_map.1 ha
    exact alook_none.1 h p hp hpe

theorem adel_sublist {α : Type} (l : List (Int × α)) (k : Int) : (adel l k).Sublist l := by
  induction l with
  | nil => exact List.Sublist.slnil
  | cons p r ih =>
    simp only [adel]
    split
    · exact List.sublist_cons_self _ _
    · exact ih.cons_cons _

theorem adel_nodup {α : Type} {l : List (Int × α)} (hn : (l.map (·.1)).Nodup) (k : Int) : ((adel l k).map (·.1)).Nodup :=
  hn.sublist ((adel_sublist l k).map _)

/-! ### a map keyed by int -/
/-- Block b is a map that holds the pairs of l, in the order in which they were laid. -/
def IMap (w : World) (b : Nat) (l : List (Int × Value)) : Prop :=
  ∃ es clock, w.heap[b]? = some (.map es clock) ∧ es.toList.map (fun e => (e.key, e.val)) = l.map (fun p => (Value.int .i64 p.1, p.2)) ∧ (l.map (·.1)).Nodup ∧
    (es.toList.map (·.born)).Nodup ∧ ∀ e ∈ es.toList, e.born < clock

section imap
variable {P : Program} {w w' : World} {b : Nat} {l : List (Int × Value)} {t kt et : TypeId}

theorem IMap.lt (h : IMap w b l) : b < w.heap.size := by obtain ⟨es, c, hb, _⟩ := h; exact lt_of_blk hb

theorem IMap.of_block (h : IMap w b l) (e : w'.heap[b]? = w.heap[b]?) : IMap w' b l := by
  obtain ⟨es, c, hb, r⟩ := h
  exact ⟨es, c, e.trans hb, r⟩

theorem IMap.below {B : Nat} (h : IMap w b l) (hB : Below B w w') (hb : b < B) : IMap w' b l := h.of_block (hB.block b hb)

theorem IMap.ext {F : Nat → Prop} (h : IMap w b l) (hF : Ext F w w') (hb : ¬ F b) : IMap w' b l := h.of_block (hF.block b h.lt hb)

theorem IMap.alloc (h : IMap w b l) (o : Obj) : IMap (w.alloc o) b l := h.of_block (Below.heap_alloc w o b h.lt)

theorem IMap.drew (h : IMap w b l) : IMap w.drew b l := h

theorem IMap.nodup (h : IMap w b l) : (l.map (·.1)).Nodup := by obtain ⟨es, c, _, _, hn, _⟩ := h; exact hn

theorem findNow_int (k : Int) : ∀ (es : List MapEntry) (l : List (Int × Value)) (i : Nat), es.map (fun e => (e.key, e.val)) = l.map (fun p => (Value.int .i64 p.1, p.2)) →
    (∃ j v, Instr.findNow (.int .i64) (.int .i64 k) es i = some (some (i + j, v)) ∧ alook l k = some v ∧ (l.map (·.1))[j]? = some k) ∨
    (Instr.findNow (.int .i64) (.int .i64 k) es i = some none ∧ alook l k = none)
  | [], l, i, h => by
    cases l with
    | nil => right; exact ⟨rfl, rfl⟩
    | cons p r => simp at h
  | e :: es, l, i, h => by
    cases l with
    | nil => simp at h
    | cons p r =>
      simp only [List.map_cons, List.cons.injEq, Prod.mk.injEq] at h
      obtain ⟨⟨hk, hv⟩, hr⟩ := h
      by_cases e1 : k = p.1
      · left
        refine ⟨0, e.val, ?_, ?_, ?_⟩
        · simp [Instr.findNow, Instr.sameNow, hk, e1]
        · simp [alook, e1, hv]
        · simp [e1]
      · have hb : (k == p.1) = false := by simpa using e1
        rcases findNow_int k es r (i + 1) hr with ⟨j, v, h1, h2, h3⟩ | ⟨h1, h2⟩
        · left
          refine ⟨j + 1, v, ?_, ?_, ?_⟩
          · simp only [Instr.findNow, Instr.sameNow, hk, if_true, hb, h1]
            rw [show i + 1 + j = i + (j + 1) from by omega]
          · simp [alook, e1, h2]
          · simpa using h3
        · right
          refine ⟨?_, ?_⟩
          · simp only [Instr.findNow, Instr.sameNow, hk, if_true, hb, h1]
          · simp [alook, e1, h2]

theorem run_checkKey_int (hk : P.underlying kt = some (.int .i64)) (k : Int) (em : Bool) (w : World) : (Instr.checkKey em 10000 kt (.int .i64 k)).run P w = .ok () w := by
  rw [show (10000 : Nat) = 9999 + 1 from rfl]
  unfold Instr.checkKey
  simp [run_underlying hk, Result.andThen]

/-- 'm[k]', and 'v, ok := m[k]'. -/
theorem IMap.look (h : IMap w b l) (ht : P.underlying t = some (.map kt et)) (hk : P.underlying kt = some (.int .i64)) {z : Value} (hz : (zeroValue et).run P w = .ok z w) (k : Int) (c : Bool) :
    (Instr.lookup t (.map (some b)) (.int .i64 k) c).run P w = .ok (if c then .tuple #[(alook l k).getD z, .bool (alook l k).isSome] else (alook l k).getD z) w := by
  obtain ⟨es, clock, hb, he, _⟩ := h
  rcases findNow_int k es.toList l 0 he with ⟨j, v, h1, h2, _⟩ | ⟨h1, h2⟩
  · simp [Instr.lookup, run_underlying ht, MapKept.run_getObj_map hb, run_checkKey_int hk, Instr.findKey, run_underlying hk, h1, h2, Result.andThen]
  · simp [Instr.lookup, run_underlying ht, MapKept.run_getObj_map hb, run_checkKey_int hk, Instr.findKey, run_underlying hk, h1, h2, hz, Result.andThen]

theorem IMap.len (h : IMap w b l) (ht : P.underlying t = some (.map kt et)) (ty : TypeId) :
    (Builtin.len_ #[t] ty #[.map (some b)]).run P w = .ok (.int .i64 l.length) w := by
  obtain ⟨es, clock, hb, he, _⟩ := h
  have : es.size = l.length := by have := congrArg List.length he; simpa using this
  simp [Builtin.len_, run_underlying ht, MapKept.run_getObj_map hb, Result.andThen, goInt, this]

theorem stays_int (k : Int) (w : World) : (Instr.keyThatStays (.int .i64 k) (.int .i64 k)).run P w = .ok (.int .i64 k) w := by
  simp [Instr.keyThatStays, Instr.sameBits]

theorem getElem?_map_key {es : List MapEntry} (he : es.map (fun e => (e.key, e.val)) = l.map (fun p => (Value.int .i64 p.1, p.2))) {j : Nat} {k : Int} (hj : (l.map (·.1))[j]? = some k) :
    ∃ e, es[j]? = some e ∧ e.key = .int .i64 k := by
  have h1 := congrArg (fun x => x[j]?) he
  simp only [List.getElem?_map] at h1 hj
  cases hl : l[j]? with
  | none => simp [hl] at hj
  | some p =>
    simp only [hl, Option.map_some, Option.some.injEq] at h1 hj
    cases hes : es[j]? with
    | none => simp [hes] at h1
    | some e =>
      simp only [hes, Option.map_some, Option.some.injEq, Prod.mk.injEq] at h1
      exact ⟨e, rfl, by rw [h1.1, hj]⟩

theorem modify_pairs (k : Int) (v : Value) (g : MapEntry → MapEntry) (hg : ∀ e, (g e).key = .int .i64 k ∧ (g e).val = v) :
    ∀ (es : List MapEntry) (l : List (Int × Value)) (j : Nat), es.map (fun e => (e.key, e.val)) = l.map (fun p => (Value.int .i64 p.1, p.2)) → (l.map (·.1)).Nodup → (l.map (·.1))[j]? = some k →
      (es.modify j g).map (fun e => (e.key, e.val)) = (aset l k v).map (fun p => (Value.int .i64 p.1, p.2))
  | [], l, j, h, _, hj => by
    cases l with
    | nil => simp at hj
    | cons p r => simp at h
  | e :: es, l, j, h, hn, hj => by
    cases l with
    | nil => simp at h
    | cons p r =>
      simp only [List.map_cons, List.cons.injEq] at h
      simp only [List.map_cons, List.nodup_cons] at hn
      cases j with
      | zero =>
        simp only [List.map_cons, List.getElem?_cons_zero, Option.some.injEq] at hj
        simp [aset, hj, hg e, h.2]
      | succ j =>
        simp only [List.map_cons, List.getElem?_cons_succ] at hj
        have hne : ¬ k = p.1 := fun e' => hn.1 (by rw [← e']; exact List.mem_of_getElem? hj)
        simp only [List.modify_succ_cons, List.map_cons, aset, if_neg hne, List.cons.injEq]
        exact ⟨h.1, modify_pairs k v g hg es r j h.2 hn.2 hj⟩

/-- 'm[k] = v'. -/
theorem IMap.update (h : IMap w b l) (ht : P.underlying t = some (.map kt et)) (hk : P.underlying kt = some (.int .i64)) (k : Int) (v : Value) :
    ∃ w', (Instr.mapUpdate t (.map (some b)) (.int .i64 k) v).run P w = .ok () w' ∧ IMap w' b (aset l k v) ∧ Ext (· = b) w w' := by
  obtain ⟨es, clock, hb, he, hn, hs1, hs2⟩ := h
  rcases findNow_int k es.toList l 0 he with ⟨j, u, h1, h2, h3⟩ | ⟨h1, h2⟩
  · obtain ⟨e, hej, hek⟩ := getElem?_map_key he h3
    have hej' : es[j]? = some e := by simpa using hej
    refine ⟨setBlock w b (.map (es.modify j fun e => { e with key := .int .i64 k, val := v }) clock), ?_, ⟨_, _, get_setBlock hb _, ?_, aset_nodup hn k v, ?_, ?_⟩, ext_setBlock _⟩
    · simp only [Nat.zero_add] at h1
      simp [Instr.mapUpdate, run_underlying ht, MapKept.run_getObj_map hb, run_checkKey_int hk, Instr.findKey, run_underlying hk, h1, hej', hek, stays_int, Result.andThen, MapKept.run_setObj_map _ hb, setBlock]
    · rw [Array.toList_modify]
      exact modify_pairs k v _ (fun _ => ⟨rfl, rfl⟩) _ _ _ he hn h3
    · rw [Array.toList_modify]
      have : (es.toList.modify j fun e => { e with key := Value.int .i64 k, val := v }).map (·.born) = es.toList.map (·.born) := by
        apply List.ext_getElem?
        intro i
        simp only [List.getElem?_map, List.getElem?_modify]
        cases es.toList[i]? <;> simp
        split <;> rfl
      rw [this]; exact hs1
    · intro x hx
      rw [Array.toList_modify] at hx
      obtain ⟨i, hi⟩ := List.mem_iff_getElem?.1 hx
      rw [List.getElem?_modify] at hi
      cases hy : es.toList[i]? with
      | none => simp [hy] at hi
      | some y =>
        have hyb := hs2 y (List.mem_of_getElem? hy)
        simp only [hy, Option.map_eq_map, Option.map_some, Option.some.injEq] at hi
        split at hi <;> (subst hi; exact hyb)
  · refine ⟨setBlock w b (.map (es.push { key := .int .i64 k, val := v, born := clock }) (clock + 1)), ?_, ⟨_, _, get_setBlock hb _, ?_, aset_nodup hn k v, ?_, ?_⟩, ext_setBlock _⟩
    · simp [Instr.mapUpdate, run_underlying ht, MapKept.run_getObj_map hb, run_checkKey_int hk, Instr.findKey, run_underlying hk, h1, Result.andThen, MapKept.run_setObj_map _ hb, setBlock]
    · rw [aset_of_none h2]
      simp [he]
    · simp only [Array.toList_push, List.map_append, List.map_cons, List.map_nil, List.nodup_append]
      refine ⟨hs1, by simp, ?_⟩
      intro a ha c hc
      obtain ⟨e, he1, rfl⟩ := List.mem_map.1 ha
      simp at hc
      have := hs2 e he1
      omega
    · intro x hx
      simp only [Array.toList_push, List.mem_append, List.mem_singleton] at hx
      rcases hx with hx | rfl
      · have := hs2 x hx; omega
      · simp

theorem erase_pairs (k : Int) :
    ∀ (es : List MapEntry) (l : List (Int × Value)) (j : Nat), es.map (fun e => (e.key, e.val)) = l.map (fun p => (Value.int .i64 p.1, p.2)) → (l.map (·.1)).Nodup → (l.map (·.1))[j]? = some k →
      (es.eraseIdx j).map (fun e => (e.key, e.val)) = (adel l k).map (fun p => (Value.int .i64 p.1, p.2))
  | [], l, j, h, _, hj => by
    cases l with
    | nil => simp at hj
    | cons p r => simp at h
  | e :: es, l, j, h, hn, hj => by
    cases l with
    | nil => simp at h
    | cons p r =>
      simp only [List.map_cons, List.cons.injEq] at h
      simp only [List.map_cons, List.nodup_cons] at hn
      cases j with
      | zero =>
        simp only [List.map_cons, List.getElem?_cons_zero, Option.some.injEq] at hj
        simp [adel, hj, h.2]
      | succ j =>
        simp only [List.map_cons, List.getElem?_cons_succ] at hj
        have hne : ¬ k = p.1 := fun e' => hn.1 (by rw [← e']; exact List.mem_of_getElem? hj)
        simp only [List.eraseIdx_cons_succ, List.map_cons, adel, if_neg hne, List.cons.injEq]
        exact ⟨h.1, erase_pairs k es r j h.2 hn.2 hj⟩

theorem adel_of_none {α : Type} {l : List (Int × α)} {k : Int} (h : alook l k = none) : adel l k = l := by
  induction l with
  | nil => rfl
  | cons p r ih =>
    simp only [alook] at h
    split at h
    · cases h
    · rename_i e; simp [adel, e, ih h]

/-- 'delete(m, k)'. -/
theorem IMap.delete (h : IMap w b l) (ht : P.underlying t = some (.map kt et)) (hk : P.underlying kt = some (.int .i64)) (k : Int) (ty : TypeId) (t2 : TypeId) :
    ∃ w', (Builtin.delete_ #[t, t2] ty #[.map (some b), .int .i64 k]).run P w = .ok (.tuple #[]) w' ∧ IMap w' b (adel l k) ∧ Ext (· = b) w w' := by
  obtain ⟨es, clock, hb, he, hn, hs1, hs2⟩ := h
  rcases findNow_int k es.toList l 0 he with ⟨j, u, h1, h2, h3⟩ | ⟨h1, h2⟩
  · simp only [Nat.zero_add] at h1
    refine ⟨setBlock w b (.map (es.eraseIdxIfInBounds j) clock), ?_, ⟨_, _, get_setBlock hb _, ?_, adel_nodup hn k, ?_, ?_⟩, ext_setBlock _⟩
    · simp [Builtin.delete_, run_underlying ht, MapKept.run_getObj_map hb, run_checkKey_int hk, Instr.findKey, run_underlying hk, h1, Result.andThen, MapKept.run_setObj_map _ hb, setBlock]
    · rw [Array.toList_eraseIdxIfInBounds]
      exact erase_pairs k _ _ _ he hn h3
    · rw [Array.toList_eraseIdxIfInBounds]
      exact hs1.sublist ((List.eraseIdx_sublist _ _).map _)
    · intro x hx
      rw [Array.toList_eraseIdxIfInBounds] at hx
      exact hs2 x ((List.eraseIdx_sublist _ _).subset hx)
  · refine ⟨setBlock w b (.map es clock), ?_, ⟨_, _, get_setBlock hb _, ?_, adel_nodup hn k, hs1, hs2⟩, ext_setBlock _⟩
    · simp [Builtin.delete_, run_underlying ht, MapKept.run_getObj_map hb, run_checkKey_int hk, Instr.findKey, run_underlying hk, h1, Result.andThen, MapKept.run_setObj_map _ hb, setBlock]
    · rw [adel_of_none h2]; exact he

/-- 'clear(m)'. -/
theorem IMap.clear (h : IMap w b l) (ht : P.underlying t = some (.map kt et)) (ty : TypeId) :
    ∃ w', (Builtin.clear_ #[t] ty #[.map (some b)]).run P w = .ok (.tuple #[]) w' ∧ IMap w' b [] ∧ Ext (· = b) w w' := by
  obtain ⟨es, clock, hb, he, hn, hs1, hs2⟩ := h
  refine ⟨setBlock w b (.map #[] clock), ?_, ⟨_, _, get_setBlock hb _, rfl, by simp, by simp, by simp⟩, ext_setBlock _⟩
  simp [Builtin.clear_, run_underlying ht, MapKept.run_getObj_map hb, Result.andThen, MapKept.run_setObj_map _ hb, setBlock]

theorem IMap.made (w : World) : IMap (w.alloc (.map #[] 0)) w.heap.size [] :=
  ⟨#[], 0, (MapKept.heap_alloc w _).1, rfl, by simp, by simp, by simp⟩
end imap
end Go.Proofs.Ytpjifaefchnmoaa
