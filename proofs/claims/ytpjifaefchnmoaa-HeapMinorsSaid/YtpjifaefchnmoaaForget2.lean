/- DeleteFunc at the entries of an object, and the method forget. -/
import Derived.Test.YtpjifaefchnmoaaForget
namespace Go.Proofs.Ytpjifaefchnmoaa
open Go.RowKit

section forget2
variable {F G : Nat → Prop} {L : Lay} {st : St} {w w' : World}

theorem info85 : (Try.prog.info? 85).map (fun i => (i.zero, i.size, i.bytes)) = some (some (.agg #[.int .i64 0, .bool false, .int .i64 0]), 3, 24) := by kernel_rfl

theorem clear85 {w : World} {g cap : Nat} {cur : Array Value} (hg : w.heap[g]? = some (.cells cur 85 (0, 0))) (hcur : 3 ≤ cur.size) :
    ∃ cur', (Builtin.clear_ #[72] 0 #[.slice (some ⟨g, 0, none⟩) 1 cap]).run Try.prog w = .ok (.tuple #[]) (w.setRow g cur') ∧ cur'.size = cur.size := by
  obtain ⟨i, hi, hz, hs, hb⟩ := info_parts info85
  have hone : ∀ v ∈ [Value.int .i64 0, .bool false, .int .i64 0], v.oneCell' = true := by
    intro v hv
    simp at hv
    rcases hv with rfl | rfl | rfl <;> rfl
  have hst := run_storeCells_at Try.prog g 0 85 [.int .i64 0, .bool false, .int .i64 0] 0 cur w hg (by simpa using hcur) hone
  have hzc : (Builtin.zeroCells #[Value.int .i64 0, .bool false, .int .i64 0] 1).toList = [Value.int .i64 0, .bool false, .int .i64 0] := by kernel_rfl
  refine ⟨([Value.int .i64 0, .bool false, .int .i64 0] ++ cur.toList.drop 3).toArray, ?_, by simp; omega⟩
  simp only [Nat.add_zero, Nat.zero_add, List.take_zero, List.nil_append, List.length_cons, List.length_nil] at hst
  simp [Builtin.clear_, run_underlying Try.underlying72, zeroValue, typeInfo, hi, hz, Result.andThen, Value.cells, hzc]
  simp at hst
  rw [hst]

set_option maxHeartbeats 800000 in
theorem delete_none {c : Nat} (a : Option Addr) (cap : Nat) (w : World) :
    Calls Try.prog 64 #[.slice a 0 cap, .func (.func 65) #[] #[.pointer (some ⟨c, 0, none⟩)]] w fun e w' => e = .returned (.slice a 0 cap) ∧ w' = w := by
  have Hi := Lib.hid (index_none (fv := .func (.func 65) #[] #[.pointer (some ⟨c, 0, none⟩)]) (.inl ⟨rfl, rfl⟩) a cap w)
  go_enter Try.func64, Try.ntmps64
  go_wp2_with (go_at_call 58; refine Hi.out.mono ?_; rintro e w1 ⟨rfl, rfl⟩)
  go_ret
  exact ⟨rfl, rfl⟩

set_option maxHeartbeats 800000 in
theorem delete_keep {c g cap : Nat} {k : Int} {d : Wd} {w : World} (e0 : w.cell? ⟨g, 0, none⟩ = some (.int .i64 k)) (e1 : w.cell? ⟨g, 1, none⟩ = some (.bool d.ref)) (e2 : w.cell? ⟨g, 2, none⟩ = some (.int .i64 d.num))
    (hcall : Calls Try.prog 65 #[entV k d, .pointer (some ⟨c, 0, none⟩)] w fun e w' => e = .returned (.bool false) ∧ Below w.heap.size w w') :
    Calls Try.prog 64 #[.slice (some ⟨g, 0, none⟩) 1 cap, .func (.func 65) #[] #[.pointer (some ⟨c, 0, none⟩)]] w fun e w' => e = .returned (.slice (some ⟨g, 0, none⟩) 1 cap) ∧ Below w.heap.size w w' := by
  have Hi := Lib.hid (index_some (fv := .func (.func 65) #[] #[.pointer (some ⟨c, 0, none⟩)]) (.inl ⟨rfl, rfl⟩) (cap := cap) e0 e1 e2 hcall)
  clear hcall
  go_enter Try.func64, Try.ntmps64
  go_wp2_with (go_at_call 58; refine Hi.out.mono ?_; rintro e w1 ⟨rfl, hb⟩; have Hb := Lib.hid hb; clear hb)
  go_ret
  exact ⟨rfl, Hb.out⟩

set_option maxHeartbeats 800000 in
theorem delete_del {c g cap : Nat} {k : Int} {d : Wd} {w : World} {cur : Array Value} (hg : w.heap[g]? = some (.cells cur 85 (0, 0))) (hcur : 3 ≤ cur.size)  (hcap : 1 ≤ cap) (e0 : w.cell? ⟨g, 0, none⟩ = some (.int .i64 k)) (e1 : w.cell? ⟨g, 1, none⟩ = some (.bool d.ref)) (e2 : w.cell? ⟨g, 2, none⟩ = some (.int .i64 d.num))
    (hcall : Calls Try.prog 65 #[entV k d, .pointer (some ⟨c, 0, none⟩)] w fun e w' => e = .returned (.bool true) ∧ Below w.heap.size w w') :
    Calls Try.prog 64 #[.slice (some ⟨g, 0, none⟩) 1 cap, .func (.func 65) #[] #[.pointer (some ⟨c, 0, none⟩)]] w fun e w' => e = .returned (.slice (some ⟨g, 0, none⟩) 0 cap) ∧ Ext (· = g) w w' ∧ ∃ cur', w'.heap[g]? = some (.cells cur' 85 (0, 0)) ∧ cur'.size = cur.size := by
  have Hi := Lib.hid (index_some (fv := .func (.func 65) #[] #[.pointer (some ⟨c, 0, none⟩)]) (.inl ⟨rfl, rfl⟩) (cap := cap) e0 e1 e2 hcall)
  clear hcall
  go_enter Try.func64, Try.ntmps64
  go_wp2_with (go_at_call 58; refine Hi.out.mono ?_; rintro e w1 ⟨rfl, hb⟩; have Hb := Lib.hid hb; clear hb)
  go_loopw [5, 6] (fun i j wr => i = .int .i64 0 ∧ j = .int .i64 1 ∧ wr = w1) (fun _ _ _ => 0)
  case atStart => exact ⟨rfl, rfl, rfl⟩
  case round =>
    obtain ⟨rfl, rfl, hw⟩ := hrel
    subst hw
    obtain ⟨cur', hcl, hsz⟩ := clear85 (cap := cap) (Below.get Hb.out hg (lt_of_blk hg)) hcur
    have hc0 : cap ≠ 0 := by omega
    have hfin : Ext (· = g) w (wr.setRow g cur') ∧ ∃ cur'', (wr.setRow g cur').heap[g]? = some (.cells cur'' 85 (0, 0)) ∧ cur''.size = cur.size := by
      refine ⟨(Below.ext Hb.out _).trans ⟨rfl, rfl, rfl, by simp [World.setRow], fun b _ hb => setRow_other wr g b _ hb⟩ (fun i hi => .inl hi), cur', setRow_heap wr g cur cur' 85 (0, 0) (Below.get Hb.out hg (lt_of_blk hg)), hsz⟩
    have Hfin := Lib.hid hfin
    clear hfin
    go_wp2
    go_ret
    exact ⟨rfl, Hfin.out⟩
/-- The slice of the entries, cut to none. -/
def cutV : Value → Value
  | .slice a _ c => .slice a 0 c
  | v => v

/-- What forget makes of an object. -/
def fgt (st : St) (o : Ob) : Ob := match o.ent with
  | some (k, _) => if (alook st.objs k).isNone then { o with ent := none, ve := cutV o.ve } else o
  | none => o

def forgetSt (st : St) : St := { st with objs := st.objs.map fun p => (p.1, fgt st p.2) }

theorem fgt_b (st : St) (o : Ob) : (fgt st o).b = o.b := by
  unfold fgt; split
  · split <;> rfl
  · rfl

/-- DeleteFunc at the entries of an object, whatever they are: the value that is stored then, and what it is good for. -/
theorem delete_any (R : Rep F L st w) {n : Int} {o : Ob} (ho : alook st.objs n = some o) {st0 : St} (hkeys : ∀ k, (alook st.objs k).isNone = (alook st0.objs k).isNone) {cB : Nat} (hc : w.heap[cB]? = some (.cells #[.pointer (some ⟨L.hb, 0, none⟩)] 87 (0, 0))) :
    Calls Try.prog 64 #[o.ve, .func (.func 65) #[] #[.pointer (some ⟨cB, 0, none⟩)]] w fun e w' => e = .returned (fgt st0 o).ve ∧ Ext (fun k => o.ve.ownBlock = some k) w w' ∧
      Row (grow F w w') 85 3 w' (fgt st0 o).ve (entCount (fgt st0 o).ent) (entCells (fgt st0 o).ent) ∧ ∀ k, (fgt st0 o).ve.ownBlock = some k → o.ve.ownBlock = some k := by
  have hr := R.ents ho
  cases he : o.ent with
  | none =>
    obtain ⟨a, cap, hv⟩ := ent_none he hr
    have hf : fgt st0 o = o := by simp [fgt, he]
    rw [hf, he, hv]
    refine (delete_none a cap w).mono ?_
    rintro e w' ⟨rfl, rfl⟩
    refine ⟨rfl, Ext.refl _ _, ?_, fun k hk => hk⟩
    rw [he, hv] at hr
    exact hr.mono fun k hk => .inl hk
  | some kd =>
    obtain ⟨k, d⟩ := kd
    obtain ⟨g, cap, hv, hF, e0, e1, e2⟩ := ent_cells he hr
    have hcall := forget1_any R k d cB hc
    cases hn : (alook st.objs k).isNone
    · have hf : fgt st0 o = o := by simp [fgt, he, ← hkeys, hn]
      rw [hn] at hcall
      rw [hf, hv]
      refine (delete_keep (cap := cap) e0 e1 e2 hcall).mono ?_
      rintro e w' ⟨rfl, hb⟩
      refine ⟨rfl, Below.ext hb _, ?_, fun k hk => hk⟩
      rw [hv] at hr
      exact (hr.below hb hr.lt').mono fun k hk => .inl hk
    · have hf : fgt st0 o = { o with ent := none, ve := .slice (some ⟨g, 0, none⟩) 0 cap } := by simp [fgt, he, ← hkeys, hn, hv, cutV]
      rw [hn] at hcall
      rw [hf, hv]
      rw [he, hv] at hr
      rcases hr.cases with ⟨h0, _⟩ | ⟨g', cap', cur, hv', _, hg, hnc, hcm, hcs, _⟩
      · cases h0
      · cases hv'
        have hcur : 3 ≤ cur.size := by rw [hcs]; simp [entCount] at hnc; omega
        refine (delete_del (cap := cap) hg hcur (by simpa [entCount] using hnc) e0 e1 e2 hcall).mono ?_
        rintro e w' ⟨rfl, hE, cur', hg', hsz⟩
        refine ⟨rfl, hE.mono (fun k hk => by subst hk; rfl), ⟨⟨rfl, .inr ⟨g, cap, cur', rfl, Nat.zero_le _, hg', Nat.zero_le _, hcm, by rw [hsz]; exact hcs, by simp [entCells, entCount]⟩⟩, fun k hk => by cases hk; exact .inl hF⟩, fun k hk => hk⟩

def ForgetPost (F : Nat → Prop) (L : Lay) (st : St) (w : World) (e : Ending) (w' : World) : Prop :=
  e = .returned (.tuple #[]) ∧ Rep (grow F w w') L (forgetSt st) w' ∧ Ext F w w'

/-- What is looked up when some of the objects have been gone through. -/
def FgtRel (st : St) (cur : List (Int × Ob)) (todo : List (Int × Ob)) : Prop :=
  cur.map (·.1) = st.objs.map (·.1) ∧ ∀ n o, alook st.objs n = some o → alook cur n = some (if n ∈ todo.map (·.1) then o else fgt st o)

theorem alook_ext : ∀ (a b : List (Int × Ob)), a.map (·.1) = b.map (·.1) → (a.map (·.1)).Nodup → (∀ n, alook a n = alook b n) → a = b
  | [], b, h, _, _ => by
    cases b with
    | nil => rfl
    | cons p r => simp at h
  | p :: a, b, h, hn, hl => by
    cases b with
    | nil => simp at h
    | cons q b =>
      simp only [List.map_cons, List.cons.injEq] at h
      simp only [List.map_cons, List.nodup_cons] at hn
      have h1 := hl p.1
      simp only [alook, h.1, if_true, Option.some.injEq] at h1
      have hpq : p = q := Prod.ext h.1 h1
      subst hpq
      congr 1
      refine alook_ext a b h.2 hn.2 fun n => ?_
      have h2 := hl n
      simp only [alook] at h2
      by_cases e : n = p.1
      · rw [e, alook_none.2, alook_none.2]
        · intro q hq e'; exact hn.1 (by rw [h.2]; exact e' ▸ List.mem_map_of_mem hq)
        · intro q hq e'; exact hn.1 (e' ▸ List.mem_map_of_mem hq)
      · rwa [if_neg e, if_neg e] at h2
theorem obCells_fgt (st : St) (o : Ob) : obCells (fgt st o) = (obCells o).setIfInBounds 4 (fgt st o).ve := by
  unfold fgt; split
  · split <;> rfl
  · rfl

theorem FgtRel.start (st : St) (_hn : (st.objs.map (·.1)).Nodup) : FgtRel st st.objs st.objs :=
  ⟨rfl, fun n o h => by rw [if_pos (names_of h)]; exact h⟩

theorem FgtRel.step {st : St} {cur l1 l2 : List (Int × Ob)} {key : Int} {o : Ob} (h : FgtRel st cur (l1 ++ (key, o) :: l2)) (ho : alook st.objs key = some o) (hnd : ((l1 ++ (key, o) :: l2).map (·.1)).Nodup) :
    FgtRel st (aset cur key (fgt st o)) (l1 ++ l2) := by
  have hcur := h.2 key o ho
  rw [if_pos (by simp)] at hcur
  refine ⟨by rw [aset_keys_of_some (by rw [hcur]; rfl)]; exact h.1, fun n o' ho' => ?_⟩
  rw [alook_aset]
  have hk : key ∉ (l1 ++ l2).map (·.1) := by
    rw [List.map_append, List.map_cons, List.nodup_append, List.nodup_cons] at hnd
    rw [List.map_append, List.mem_append]
    rintro (hk | hk)
    · exact hnd.2.2 _ hk _ List.mem_cons_self rfl
    · exact hnd.2.1.1 hk
  by_cases e : n = key
  · subst e
    rw [if_pos rfl, if_neg hk]
    rw [ho] at ho'; cases ho'; rfl
  · rw [if_neg e, h.2 n o' ho']
    congr 1
    have : (n ∈ (l1 ++ (key, o) :: l2).map (·.1)) ↔ (n ∈ (l1 ++ l2).map (·.1)) := by simp [e]
    simp only [this]

theorem FgtRel.done {st : St} {cur : List (Int × Ob)} (h : FgtRel st cur []) (hn : (st.objs.map (·.1)).Nodup) : cur = st.objs.map fun p => (p.1, fgt st p.2) := by
  refine alook_ext _ _ (by rw [h.1, List.map_map]; rfl) (by rw [h.1]; exact hn) fun n => ?_
  rw [alook_map (fun o => fgt st o)]
  cases ho : alook st.objs n with
  | some o => rw [h.2 n o ho]; simp
  | none =>
    rw [alook_none] at ho
    show alook cur n = none
    rw [alook_none]
    intro p hp e
    have h1 : p.1 ∈ st.objs.map (·.1) := by rw [← h.1]; exact List.mem_map_of_mem hp
    obtain ⟨q, hq, e'⟩ := List.mem_map.1 h1
    exact ho q hq (e'.trans e)

theorem FgtRel.keys {st : St} {cur todo : List (Int × Ob)} (h : FgtRel st cur todo) (k : Int) : (alook cur k).isNone = (alook st.objs k).isNone := by
  cases ho : alook st.objs k with
  | some o => rw [h.2 k o ho]; simp
  | none =>
    rw [alook_none] at ho
    have : alook cur k = none := by
      rw [alook_none]
      intro p hp e
      have h1 : p.1 ∈ st.objs.map (·.1) := by rw [← h.1]; exact List.mem_map_of_mem hp
      obtain ⟨q, hq, e'⟩ := List.mem_map.1 h1
      exact ho q hq (e'.trans e)
    rw [this]

set_option maxRecDepth 100000 in
set_option maxHeartbeats 1000000 in
theorem forget_any (R : Rep F L st w) : Calls Try.prog 49 #[.pointer (some ⟨L.hb, 0, none⟩)] w (ForgetPost F L st w) := by
  have Ra := R.alloc (.cells #[.pointer (some ⟨L.hb, 0, none⟩)] 87)
  have c0 : ∀ ob, (w.alloc ob).cell? ⟨L.hb, 0, none⟩ = some (.map (some L.mo)) := fun ob => (R.alloc ob).hc 0
  obtain ⟨w1, hrg, hit, hI1, hb1⟩ := Ra.mO.range (P := Try.prog) Try.underlying54
  have hsa : (w.alloc (.cells #[.pointer (some ⟨L.hb, 0, none⟩)] 87)).heap.size = w.heap.size + 1 := by simp
  rw [hsa] at hrg hit
  have hcb := Below.get hb1 (Below.heap_new w (.cells #[.pointer (some ⟨L.hb, 0, none⟩)] 87)) (by omega)
  have R1 := Ra.below' hb1
  have hE01 : Ext F w w1 := (Below.ext ((Below.refl _ _).alloc (Nat.le_refl _) _) F).trans (Below.ext hb1 F) (fun i hi => .inl hi)
  have hlt1 : w.heap.size + 1 ≤ w1.heap.size := by have := hb1.size; omega
  have hltr := hit.lt.2
  have H := Lib.hid (And.intro R (And.intro hit (And.intro hcb (And.intro R1 (And.intro hE01 (And.intro hlt1 hltr))))))
  clear R hit hcb R1 hE01 hlt1 hb1 hI1 Ra hsa hltr
  go_enter Try.func49, Try.ntmps49
  go_wp2_with (at_range; refine wpList_range_eq rfl _ _ rfl _ rfl _ hrg ?_)
  go_frame
  clear c0 hrg
  go_loopw [3] (fun _ wr => ∃ (cur todo : List (Int × Ob)), Iter wr (w.heap.size + 1) L.mo (todo.map fun p => (p.1, ptr p.2.b)) ∧ FgtRel st cur todo ∧ (todo.map (·.1)).Nodup ∧ (∀ p ∈ todo, p ∈ st.objs) ∧ Rep (grow F w1 wr) L { st with objs := cur } wr ∧ Ext (fun k => F k ∨ k = w.heap.size + 1) w1 wr) (fun _ wr => iterLeft wr (w.heap.size + 1))
  case atStart => exact ⟨st.objs, st.objs, H.out.2.1, FgtRel.start st H.out.1.nodupO, H.out.1.nodupO, fun _ h => h, H.out.2.2.2.1.mono (fun k hk => .inl hk) (fun k hk => by rcases hk with hk | hk; exact H.out.2.2.2.1.lt k hk; exact hk.2), Ext.refl _ _⟩
  case round =>
    obtain ⟨cur, todo, hit, hrel2, hnd, hsub, hR, hE⟩ := hrel
    have hcbr := hE.get H.out.2.2.1 (fun h => by rcases h with h | h; have := H.out.1.lt _ h; omega; omega)
    have hEw : Ext F w wr := H.out.2.2.2.2.1.trans hE (fun i hi => by rcases hi with hi | hi; exact .inl hi; exact .inr (by omega))
    rcases Iter.nextM (P := Try.prog) (fun o : Ob => ptr o.b) hit ⟨_, hR.mO⟩ 0 with ⟨rfl, hrun⟩ | ⟨l1, key, o, l2, w2, rfl, hrun, hent, hit2, hE2⟩
    · have hfin : ForgetPost F L st w (.returned (.tuple #[])) wr := by
        refine ⟨rfl, ?_, hEw⟩
        rw [hrel2.done H.out.1.nodupO] at hR
        refine hR.mono (fun k hk => ?_) (fun k hk => ?_)
        · rcases hk with hk | hk
          · exact .inl hk
          · exact .inr ⟨Nat.le_trans (by have := H.out.2.2.2.2.2.1; omega) hk.1, hk.2⟩
        · rcases hk with hk | hk
          · exact Nat.lt_of_lt_of_le (H.out.1.lt k hk) hEw.size
          · exact hk.2
      have Hfin := Lib.hid hfin
      clear hfin hit hrel2 hnd hsub hR hE hcbr hEw
      go_wp2_with (at_next; refine wpList_next_eq rfl _ _ rfl _ rfl _ hrun ?_)
      go_end0
      exact Hfin.out
    · have ho : alook st.objs key = some o := alook_of_mem H.out.1.nodupO (hsub _ (by simp))
      have hcur : alook cur key = some o := by rw [hrel2.2 key o ho, if_pos (by simp)]
      have hrF : ¬ grow F w1 wr (w.heap.size + 1) := by
        rintro (h | h)
        · have := H.out.1.lt _ h; omega
        · have := H.out.2.2.2.2.2.2; omega
      have hcF : ¬ grow F w1 wr w.heap.size := by
        rintro (h | h)
        · have := H.out.1.lt _ h; omega
        · have := H.out.2.2.2.2.2.1; omega
      have R2 := hR.ext hE2 (fun k hk e => hrF (e ▸ hk))
      have hcb2 := hE2.get hcbr (by omega)
      have d4 : w2.cell? ⟨o.b, 4, none⟩ = some o.ve := R2.oc hcur 4
      have c1 : w2.cell? ⟨w.heap.size, 0, none⟩ = some (.pointer (some ⟨L.hb, 0, none⟩)) := by rw [cell_of hcb2]; rfl
      obtain ⟨av, cv, hv⟩ := (R2.ents hcur).form
      have Hdel := Lib.hid (delete_any R2 hcur (st0 := st) (fun k => hrel2.keys k) hcb2)
      have hms : iterLeft w2 (w.heap.size + 1) < iterLeft wr (w.heap.size + 1) := by
        rw [hit2.left, hit.left]; simp
      have hback : ∀ w3, Ext (fun k => o.ve.ownBlock = some k) w2 w3 → Row (grow (grow F w1 wr) w2 w3) 85 3 w3 (fgt st o).ve (entCount (fgt st o).ent) (entCells (fgt st o).ent) → (∀ k, (fgt st o).ve.ownBlock = some k → o.ve.ownBlock = some k) →
          (w3.cell? ⟨o.b, 4, none⟩ = some o.ve ∧ w3.frozen? ⟨o.b, 4, none⟩ = false) ∧ Iter (w3.setCell ⟨o.b, 4, none⟩ (fgt st o).ve) (w.heap.size + 1) L.mo ((l1 ++ l2).map fun p => (p.1, ptr p.2.b)) ∧
            Rep (grow F w1 (w3.setCell ⟨o.b, 4, none⟩ (fgt st o).ve)) L { st with objs := aset cur key (fgt st o) } (w3.setCell ⟨o.b, 4, none⟩ (fgt st o).ve) ∧ Ext (fun k => F k ∨ k = w.heap.size + 1) w1 (w3.setCell ⟨o.b, 4, none⟩ (fgt st o).ve) ∧
            iterLeft (w3.setCell ⟨o.b, 4, none⟩ (fgt st o).ve) (w.heap.size + 1) < iterLeft wr (w.heap.size + 1) := by
        intro w3 hE3 hrow hown
        have hob := (R2.ob _ (alook_some_mem hcur))
        have hob3 := hE3.get hob.1 (fun e => row_ne_cells hob.2.1 hob.1 (by decide) e rfl)
        have hE4 := ext_setCell w3 o.b 4 (fgt st o).ve
        have hob4 := get_setCell hob3 4 (fgt st o).ve
        rw [← obCells_fgt st o] at hob4
        have hE24 : Ext (fun k => k = o.b ∨ o.ve.ownBlock = some k) w2 (w3.setCell ⟨o.b, 4, none⟩ (fgt st o).ve) := (hE3.mono (fun k hk => .inr hk)).trans (hE4.mono (fun k hk => .inl hk)) (fun i hi => .inl hi)
        have hsub24 : ∀ k, (k = o.b ∨ o.ve.ownBlock = some k) → grow F w1 wr k := fun k hk => by
          rcases hk with hk | hk
          · exact hk ▸ hob.2.2
          · exact hob.2.1.2 k hk
        have hs2 : wr.heap.size ≤ w2.heap.size := hE2.size
        have hEF : Ext (fun k => F k ∨ k = w.heap.size + 1) w1 (w3.setCell ⟨o.b, 4, none⟩ (fgt st o).ve) := by
          refine (hE.trans hE2 (fun k hk => .inl (.inr hk))).trans hE24 (fun k hk => ?_)
          rcases hsub24 k hk with h | h
          · exact .inl (.inl h)
          · exact .inr h.1
        have hitn : Iter (w3.setCell ⟨o.b, 4, none⟩ (fgt st o).ve) (w.heap.size + 1) L.mo ((l1 ++ l2).map fun p => (p.1, ptr p.2.b)) := by
          refine hit2.of_block (hE24.block _ hit2.lt.1 ?_) (hE24.block _ hit2.lt.2 (fun hk => hrF (hsub24 _ hk)))
          rintro (e | e)
          · exact map_ne_cells R2.mO hob.1 e
          · exact row_ne_map hob.2.1 R2.mO e rfl
        refine ⟨⟨by rw [cell_of hob3]; rfl, free_of hob3 4⟩, hitn, ?_, hEF, ?_⟩
        · refine R2.chObE hcur hE24 (by rw [hob4]) (fgt_b st o) (hrow.ext hE4 (fun k hk e => row_ne_cells hob.2.1 hob.1 (by decide) (hown k hk) e) |>.mono ?_) (fun k hk => ?_) (fun k hk => ?_) (fun k hk => .inl (hown k hk))
          · intro k hk
            rcases hk with (hk | hk) | hk
            · exact .inl hk
            · exact .inr ⟨hk.1, Nat.lt_of_lt_of_le hk.2 (Nat.le_trans hs2 hE24.size)⟩
            · exact .inr ⟨Nat.le_trans (Nat.le_trans hE.size hs2) hk.1, Nat.lt_of_lt_of_le hk.2 hE4.size⟩
          · rcases hk with hk | hk
            · exact .inl hk
            · exact .inr ⟨hk.1, Nat.lt_of_lt_of_le hk.2 (Nat.le_trans hs2 hE24.size)⟩
          · rcases hk with hk | hk
            · exact Nat.lt_of_lt_of_le (R2.lt k (.inl hk)) hE24.size
            · exact hk.2
        · rw [hitn.left, hit.left]; simp
      have hnds : ((l1 ++ l2).map (·.1)).Nodup := hnd.sublist (((List.sublist_cons_self _ _).append_left l1).map _)
      have hsubs : ∀ p ∈ l1 ++ l2, p ∈ st.objs := fun p hp => hsub p (by simp at hp ⊢; rcases hp with hp | hp; exact .inl hp; exact .inr (.inr hp))
      have Hk := Lib.hid (And.intro (hrel2.step ho hnd) (And.intro hnds (And.intro hsubs hback)))
      clear hrel2 hnd hsub hback hms hit2 hE2 R2 hR hE hit hnds hsubs hcb2 hcbr hEw hcF hrF hcur ho
      obtain ⟨n2, hv2⟩ : ∃ n2, (fgt st o).ve = .slice av n2 cv := by
        unfold fgt
        split
        · split
          · exact ⟨0, by rw [hv]; rfl⟩
          · exact ⟨_, hv⟩
        · exact ⟨_, hv⟩
      rw [hv2] at Hk Hdel
      rw [hv] at d4 Hdel
      simp only [ptr] at hrun hent
      go_wp2_with (first | (at_next; refine wpList_next_eq rfl _ _ rfl _ rfl _ hrun ?_) | (go_at_call 64; refine Hdel.out.mono ?_; rintro e w3 ⟨rfl, hE3, hrow, hown⟩; have hb := Hk.out.2.2.2 w3 (by rw [hv]; exact hE3) hrow (by rw [hv]; exact hown); obtain ⟨hcf, hrest⟩ := hb; obtain ⟨q1, q2⟩ := hcf; have Hr := Lib.hid hrest; clear hrest hE3 hrow hown))
      go_roundw
      case rel => exact ⟨_, _, Hr.out.1, Hk.out.1, Hk.out.2.1, Hk.out.2.2.1, Hr.out.2.1, Hr.out.2.2.1⟩
      case measure => exact Hr.out.2.2.2
end forget2
end Go.Proofs.Ytpjifaefchnmoaa
