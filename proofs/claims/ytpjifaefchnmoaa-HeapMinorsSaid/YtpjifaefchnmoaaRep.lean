/- What a heap of the program is in memory, as a state of plain lists; how it is kept. -/
import Derived.Test.YtpjifaefchnmoaaSee
namespace Go.Proofs.Ytpjifaefchnmoaa
open Go.RowKit

/-- A word: a number, or a reference to a name. -/
structure Wd where
  ref : Bool
  num : Int

/-- An object: its block, what its cells hold, and its one entry, if it has one (ve: the slice of its entries). -/
structure Ob where
  b : Nat
  tbl : Bool
  size : Nat
  old : Bool
  at_ : Nat
  ve : Value
  ent : Option (Int × Wd)

structure St where
  objs : List (Int × Ob)
  names : Int
  m0 : List Wd
  m1 : List Wd
  young : Int
  full : Int
  next : Int
  hnd : List (Int × Int)
  rem : List Int
  free : List Int

/-- Where the parts lie. -/
structure Lay where
  hb : Nat
  mo : Nat
  mh : Nat
  mr : Nat
  fb : Nat
  s0 : Value
  s1 : Value
  sf : Value

def wdCells (l : List Wd) : List Value := l.flatMap fun d => [.bool d.ref, .int .i64 d.num]

def entCells : Option (Int × Wd) → List Value
  | none => []
  | some (k, d) => [.int .i64 k, .bool d.ref, .int .i64 d.num]

def entCount : Option (Int × Wd) → Nat
  | none => 0
  | some _ => 1

def ptr (b : Nat) : Value := .pointer (some ⟨b, 0, none⟩)

def heapCells (L : Lay) (st : St) : Array Value :=
  #[.map (some L.mo), .int .i64 st.names, L.s0, L.s1, .int .i64 st.young, .map (some L.mh), .slice none 0 0, .slice none 0 0, .map (some L.mr),
    .iface 52 (.pointer (some ⟨L.fb, 0, none⟩)), .int .i64 st.next, .int .i64 st.full]

def obCells (o : Ob) : Array Value := #[.bool o.tbl, .int .i64 o.size, .bool o.old, .int .i64 o.at_, o.ve]

def ObR (F : Nat → Prop) (w : World) (o : Ob) : Prop :=
  w.heap[o.b]? = some (.cells (obCells o) 74 (0, 0)) ∧ Row F 85 3 w o.ve (entCount o.ent) (entCells o.ent) ∧ F o.b

structure Rep (F : Nat → Prop) (L : Lay) (st : St) (w : World) : Prop where
  hH : w.heap[L.hb]? = some (.cells (heapCells L st) 64 (0, 0))
  mO : IMap w L.mo (st.objs.map fun p => (p.1, ptr p.2.b))
  mH : IMap w L.mh (st.hnd.map fun p => (p.1, .int .i64 p.2))
  mR : IMap w L.mr (st.rem.map fun n => (n, .bool true))
  ob : ∀ p ∈ st.objs, ObR F w p.2
  r0 : Row F 66 2 w L.s0 st.m0.length (wdCells st.m0)
  r1 : Row F 66 2 w L.s1 st.m1.length (wdCells st.m1)
  fr : w.heap[L.fb]? = some (.cells #[L.sf] 53 (0, 0))
  rf : Row F 3 1 w L.sf st.free.length (ints st.free)
  fs : F L.hb ∧ F L.mo ∧ F L.mh ∧ F L.mr ∧ F L.fb
  lt : ∀ k, F k → k < w.heap.size
  sep1 : L.mo ≠ L.mh ∧ L.mo ≠ L.mr ∧ L.mh ≠ L.mr
  sep2 : (st.objs.map (·.2.b)).Nodup
  sep3 : ∀ k, L.s0.ownBlock = some k → L.s1.ownBlock ≠ some k
  sep4 : ∀ p ∈ st.objs, ∀ q ∈ st.objs, p.1 ≠ q.1 → ∀ k, p.2.ve.ownBlock = some k → q.2.ve.ownBlock ≠ some k

section rep
variable {F G : Nat → Prop} {L : Lay} {st : St} {w w' : World}

theorem ObR.of_block {o : Ob} (h : ObR F w o) (hb : ∀ k, F k → w'.heap[k]? = w.heap[k]?) : ObR F w' o :=
  ⟨(hb _ h.2.2).trans h.1, h.2.1.of_block fun k hk => hb k (h.2.1.2 k hk), h.2.2⟩

theorem ObR.mono {o : Ob} (h : ObR F w o) (hFG : ∀ k, F k → G k) : ObR G w o := ⟨h.1, h.2.1.mono hFG, hFG _ h.2.2⟩

theorem Rep.of_block (R : Rep F L st w) (hs : w.heap.size ≤ w'.heap.size) (hb : ∀ k, F k → w'.heap[k]? = w.heap[k]?) : Rep F L st w' where
  hH := (hb _ R.fs.1).trans R.hH
  mO := R.mO.of_block (hb _ R.fs.2.1)
  mH := R.mH.of_block (hb _ R.fs.2.2.1)
  mR := R.mR.of_block (hb _ R.fs.2.2.2.1)
  ob := fun p hp => (R.ob p hp).of_block hb
  r0 := R.r0.of_block fun k hk => hb k (R.r0.2 k hk)
  r1 := R.r1.of_block fun k hk => hb k (R.r1.2 k hk)
  fr := (hb _ R.fs.2.2.2.2).trans R.fr
  rf := R.rf.of_block fun k hk => hb k (R.rf.2 k hk)
  fs := R.fs
  lt := fun k hk => Nat.lt_of_lt_of_le (R.lt k hk) hs
  sep1 := R.sep1
  sep2 := R.sep2
  sep3 := R.sep3
  sep4 := R.sep4

theorem Rep.below (R : Rep F L st w) {B : Nat} (h : Below B w w') (hB : ∀ k, F k → k < B) : Rep F L st w' := R.of_block h.size fun k hk => h.block k (hB k hk)

theorem Rep.below' (R : Rep F L st w) (h : Below w.heap.size w w') : Rep F L st w' := R.below h R.lt

theorem Rep.ext (R : Rep F L st w) (h : Ext G w w') (hd : ∀ k, F k → ¬ G k) : Rep F L st w' := R.of_block h.size fun k hk => h.block k (R.lt k hk) (hd k hk)

theorem Rep.mono (R : Rep F L st w) (hFG : ∀ k, F k → G k) (hl : ∀ k, G k → k < w.heap.size) : Rep G L st w where
  hH := R.hH
  mO := R.mO
  mH := R.mH
  mR := R.mR
  ob := fun p hp => (R.ob p hp).mono hFG
  r0 := R.r0.mono hFG
  r1 := R.r1.mono hFG
  fr := R.fr
  rf := R.rf.mono hFG
  fs := ⟨hFG _ R.fs.1, hFG _ R.fs.2.1, hFG _ R.fs.2.2.1, hFG _ R.fs.2.2.2.1, hFG _ R.fs.2.2.2.2⟩
  lt := hl
  sep1 := R.sep1
  sep2 := R.sep2
  sep3 := R.sep3
  sep4 := R.sep4

theorem Rep.alloc (R : Rep F L st w) (ob : Obj) : Rep F L st (w.alloc ob) := R.below' ((Below.refl _ w).alloc (Nat.le_refl _) ob)

theorem Rep.drewN (R : Rep F L st w) (m : Nat) : Rep F L st (w.drewN m) := R.of_block (Nat.le_refl _) fun _ _ => rfl

theorem Rep.hc (R : Rep F L st w) (k : Nat) : w.cell? ⟨L.hb, k, none⟩ = (heapCells L st)[k]? := cell_of R.hH k
theorem Rep.hf (R : Rep F L st w) (k : Nat) : w.frozen? ⟨L.hb, k, none⟩ = false := free_of R.hH k

theorem Rep.oc (R : Rep F L st w) {n : Int} {o : Ob} (h : alook st.objs n = some o) (k : Nat) : w.cell? ⟨o.b, k, none⟩ = (obCells o)[k]? := cell_of (R.ob _ (alook_some_mem h)).1 k
theorem Rep.of' (R : Rep F L st w) {n : Int} {o : Ob} (h : alook st.objs n = some o) (k : Nat) : w.frozen? ⟨o.b, k, none⟩ = false := free_of (R.ob _ (alook_some_mem h)).1 k

theorem Rep.lookO (R : Rep F L st w) {n : Int} {o : Ob} (h : alook st.objs n = some o) : (Instr.lookup 54 (.map (some L.mo)) (.int .i64 n) false).run Try.prog w = .ok (.pointer (some ⟨o.b, 0, none⟩)) w := by
  have := R.mO.look Try.underlying54 Try.underlying3 (zero71 w) n false
  rw [alook_map (fun o : Ob => ptr o.b), h] at this
  exact this

theorem Rep.lookO_none (R : Rep F L st w) {n : Int} (h : alook st.objs n = none) : (Instr.lookup 54 (.map (some L.mo)) (.int .i64 n) false).run Try.prog w = .ok (.pointer none) w := by
  have := R.mO.look Try.underlying54 Try.underlying3 (zero71 w) n false
  rw [alook_map (fun o : Ob => ptr o.b), h] at this
  exact this

theorem Rep.lookH (R : Rep F L st w) {n m : Int} (h : alook st.hnd n = some m) : (Instr.lookup 57 (.map (some L.mh)) (.int .i64 n) true).run Try.prog w = .ok (.tuple #[.int .i64 m, .bool true]) w := by
  have := R.mH.look Try.underlying57 Try.underlying3 (zero3 w) n true
  rw [alook_map (fun m : Int => Value.int .i64 m), h] at this
  exact this

theorem Rep.lenH (R : Rep F L st w) (ty : TypeId) : (Builtin.len_ #[57] ty #[.map (some L.mh)]).run Try.prog w = .ok (.int .i64 st.hnd.length) w := by
  have := R.mH.len Try.underlying57 ty
  simpa using this

theorem Rep.lenO (R : Rep F L st w) (ty : TypeId) : (Builtin.len_ #[54] ty #[.map (some L.mo)]).run Try.prog w = .ok (.int .i64 st.objs.length) w := by
  have := R.mO.len Try.underlying54 ty
  simpa using this

theorem Rep.lenR (R : Rep F L st w) (ty : TypeId) : (Builtin.len_ #[58] ty #[.map (some L.mr)]).run Try.prog w = .ok (.int .i64 st.rem.length) w := by
  have := R.mR.len Try.underlying58 ty
  simpa using this

theorem Rep.nodupO (R : Rep F L st w) : (st.objs.map (·.1)).Nodup := by
  have := R.mO.nodup
  rw [List.map_map] at this
  exact this

theorem Rep.nodupH (R : Rep F L st w) : (st.hnd.map (·.1)).Nodup := by
  have := R.mH.nodup
  rw [List.map_map] at this
  exact this

theorem Rep.nodupR (R : Rep F L st w) : st.rem.Nodup := by
  have := R.mR.nodup
  rw [List.map_map] at this
  simpa [Function.comp_def] using this

/-! ### blocks of different kinds differ -/
theorem map_ne_cells {b c : Nat} {l : List (Int × Value)} {cs : Array Value} {T : TypeId} {fr : Nat × Nat} (h : IMap w b l) (h' : w.heap[c]? = some (.cells cs T fr)) : b ≠ c := by
  rintro rfl; obtain ⟨es, k, hb, _⟩ := h; rw [hb] at h'; cases h'

theorem cells_ne {b c : Nat} {cs cs' : Array Value} {T T' : TypeId} {fr fr' : Nat × Nat} (h : w.heap[b]? = some (.cells cs T fr)) (h' : w.heap[c]? = some (.cells cs' T' fr')) (hT : T ≠ T') : b ≠ c := by
  rintro rfl; rw [h] at h'; simp only [Option.some.injEq, Obj.cells.injEq] at h'; exact hT h'.2.1

theorem row_ne_map {b : Nat} {e : TypeId} {sz n : Nat} {v : Value} {xs : List Value} {l : List (Int × Value)} (h : Row F e sz w v n xs) (h' : IMap w b l) {k : Nat} (hk : v.ownBlock = some k) : k ≠ b := by
  rcases h.cases with ⟨rfl, _⟩ | ⟨g, cap, cur, rfl, _, hg, _⟩
  · cases hk
  · cases hk; exact (map_ne_cells h' hg).symm

theorem row_ne_cells {b : Nat} {e : TypeId} {sz n : Nat} {v : Value} {xs : List Value} {cs : Array Value} {T : TypeId} {fr : Nat × Nat} (h : Row F e sz w v n xs) (h' : w.heap[b]? = some (.cells cs T fr)) (hT : e ≠ T)
    {k : Nat} (hk : v.ownBlock = some k) : k ≠ b := by
  rcases h.cases with ⟨rfl, _⟩ | ⟨g, cap, cur, rfl, _, hg, _⟩
  · cases hk
  · cases hk; exact cells_ne hg h' hT

theorem row_ne_row {e e' : TypeId} {sz n sz' n' : Nat} {v v' : Value} {xs xs' : List Value} (h : Row F e sz w v n xs) (h' : Row G e' sz' w v' n' xs') (hT : e ≠ e')
    {k k' : Nat} (hk : v.ownBlock = some k) (hk' : v'.ownBlock = some k') : k ≠ k' := by
  rcases h'.cases with ⟨rfl, _⟩ | ⟨g, cap, cur, rfl, _, hg, _⟩
  · cases hk'
  · cases hk'; exact row_ne_cells h hg hT hk

end rep
end Go.Proofs.Ytpjifaefchnmoaa
