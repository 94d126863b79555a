/- Maps as lists of pairs, in whatever order: what is looked up, stored, deleted, ranged over. No program stands in it. -/
import Derived.Test.YtoeeobebkalglaaBase
import Derived.Maps.RangeWalk
namespace Go.Ease
open Go.RowKit Go.ChangeMaps Go.MapKept Go.WideShapes
open Go.WideElems (Fit rd rg pl rd_key rd_val rg_of other_key)
open Go.Maps (Keyed)

def R0 : Value → Option (DataW Unit × List MemPlace) := fun _ => some (.nil, [])
def kv (e : MapEntry) : Value × Value := (e.key, e.val)

variable {P : Program} {k : TypeId}

theorem perm_erase {α : Type} (l : List α) (j : Nat) (h : j < l.length) : l.Perm (l[j] :: l.eraseIdx j) := by
  have := Go.ChangeMaps.set_perm l j h l[j]
  rwa [List.set_getElem_self] at this

theorem nodup_of_map {α β : Type} {f : α → β} {l : List α} (h : (l.map f).Nodup) : l.Nodup := by
  rw [List.Nodup, List.pairwise_map] at h
  exact h.imp (fun hne e => hne (congrArg f e))

/-- Block b is a map with these pairs. -/
def Mp (P : Program) (k : TypeId) (w : World) (b : Nat) (m : List (Value × Value)) : Prop :=
  ∃ es clock, w.heap[b]? = some (.map es clock) ∧ Fit P k R0 es clock ∧ (es.toList.map kv).Perm m

/-- Block r is an iterator over the map in block b, with these pairs still to come. -/
def It (P : Program) (k : TypeId) (w : World) (b r : Nat) (m todo : List (Value × Value)) : Prop :=
  ∃ es clock since seen c0, w.heap[b]? = some (.map es clock) ∧ Fit P k R0 es clock ∧ (es.toList.map kv).Perm m ∧
    w.heap[r]? = some (.mapIter (some b) since seen c0) ∧ (∀ x ∈ es.toList, x.born < since) ∧ since ≤ c0 ∧ since ≤ clock ∧ ((leftOf es seen).toList.map kv).Perm todo

theorem fitR_key {es : Array MapEntry} {clock : Nat} (F : Fit P k R0 es clock) {x : MapEntry} (hx : x ∈ es.toList) : ∃ l, keyOf P k x.key = some l := by
  obtain ⟨y, hy⟩ := F.reads x hx
  exact ⟨_, rd_key hy⟩

theorem fitR_mk {es : Array MapEntry} {clock : Nat} (h1 : es.size ≤ maxLen) (h2 : Stamped es clock) (h3 : ∀ x ∈ es.toList, ∃ l, keyOf P k x.key = some l) : Fit P k R0 es clock :=
  ⟨h1, h2, fun x hx => by
    obtain ⟨l, hl⟩ := h3 x hx
    exact ⟨_, WideElems.rd_mk (R := R0) hl rfl⟩⟩

theorem Mp.lt {w : World} {b : Nat} {m : List (Value × Value)} (h : Mp P k w b m) : b < w.heap.size := by
  obtain ⟨es, clock, hb, _⟩ := h
  exact (Array.getElem?_eq_some_iff.1 hb).1

theorem Mp.perm {w : World} {b : Nat} {m m' : List (Value × Value)} (h : Mp P k w b m) (hp : m.Perm m') : Mp P k w b m' := by
  obtain ⟨es, clock, hb, F, hm⟩ := h
  exact ⟨es, clock, hb, F, hm.trans hp⟩

theorem Mp.same {w w' : World} {b : Nat} {m : List (Value × Value)} (h : Mp P k w b m) (hb : w'.heap[b]? = w.heap[b]?) : Mp P k w' b m := by
  obtain ⟨es, clock, h1, r⟩ := h
  exact ⟨es, clock, hb.trans h1, r⟩

theorem Mp.new (P : Program) (k : TypeId) {w : World} {b : Nat} (hb : w.heap[b]? = some (.map #[] 0)) : Mp P k w b [] :=
  ⟨#[], 0, hb, fitR_mk (by simp) (stamped_empty 0) (by simp), by simp⟩

theorem Mp.nodup {w : World} {b : Nat} {m : List (Value × Value)} (h : Mp P k w b m) : (m.map (·.1)).Nodup := by
  obtain ⟨es, clock, hb, F, hm⟩ := h
  have h3 := F.stamped.2.2
  refine (List.Perm.nodup_iff (hm.map _)).1 ?_
  rw [List.map_map]
  exact h3

/-- 'm[k]' (c = false), 'v, ok := m[k]' (c = true), at a key that is there. -/
theorem Mp.look {w : World} {b : Nat} {m : List (Value × Value)} (h : Mp P k w b m) (K : Keyed P k) {t e : TypeId} (ht : P.underlying t = some (.map k e)) {z : Value} (hz : (zeroValue e).run P w = .ok z w) (c : Bool) {key v : Value} {l : Lit} (hkey : keyOf P k key = some l) (hm : (key, v) ∈ m) :
    (Instr.lookup t (.map (some b)) key c).run P w = .ok (if c then .tuple #[v, .bool true] else v) w := by
  have hnd := h.nodup
  obtain ⟨es, clock, hb, F, hp⟩ := h
  have h1 : (key, v) ∈ es.toList.map kv := hp.mem_iff.2 hm
  obtain ⟨x, hx, hxe⟩ := List.mem_map.1 h1
  have hxk : x.key = key := congrArg Prod.fst hxe
  have hxv : x.val = v := congrArg Prod.snd hxe
  rcases Maps.fit_look c K ht hz hb F hkey with ⟨_, h2, _⟩ | ⟨e0, y, h2, h3, h4, _⟩
  · exact absurd hxk (h2 x hx)
  · have hst := (stamped_iff es clock).1 F.stamped
    have : e0 = x := entry_eq_of_key hst.2.2 h2 hx (h3.trans hxk.symm)
    subst this
    rw [h4, hxv]

/-- .. at a key that isn't there. -/
theorem Mp.miss {w : World} {b : Nat} {m : List (Value × Value)} (h : Mp P k w b m) (K : Keyed P k) {t e : TypeId} (ht : P.underlying t = some (.map k e)) {z : Value} (hz : (zeroValue e).run P w = .ok z w) (c : Bool) {key : Value} {l : Lit} (hkey : keyOf P k key = some l) (hm : ∀ v, (key, v) ∉ m) :
    (Instr.lookup t (.map (some b)) key c).run P w = .ok (if c then .tuple #[z, .bool false] else z) w := by
  obtain ⟨es, clock, hb, F, hp⟩ := h
  rcases Maps.fit_look c K ht hz hb F hkey with ⟨h1, _⟩ | ⟨e0, y, h2, h3, _⟩
  · exact h1
  · refine absurd (hp.mem_iff.1 (List.mem_map.2 ⟨e0, h2, rfl⟩)) ?_
    show (e0.key, e0.val) ∉ m
    rw [h3]; exact hm _

theorem size_perm {es : Array MapEntry} {m : List (Value × Value)} (hp : (es.toList.map kv).Perm m) : es.size = m.length := by
  have := hp.length_eq; simpa using this

/-- 'm[k] = v' at a new key. -/
theorem Mp.store_new {w : World} {b : Nat} {m : List (Value × Value)} (h : Mp P k w b m) (K : Keyed P k) {t e : TypeId} (ht : P.underlying t = some (.map k e)) {key v : Value} {l : Lit} (hkey : keyOf P k key = some l) (hroom : m.length < maxLen) (hm : ∀ v, (key, v) ∉ m) :
    ∃ o, (Instr.mapUpdate t (.map (some b)) key v).run P w = .ok () (setBlock w b o) ∧ Mp P k (setBlock w b o) b ((key, v) :: m) := by
  obtain ⟨es, clock, hb, F, hp⟩ := h
  have hsz := size_perm hp
  rcases K.find w hkey es.toList (fun x hx => fitR_key F hx) with ⟨h1, h2⟩ | ⟨j, e0, h1, h2, h3⟩
  · refine ⟨.map (es.push ⟨key, v, clock⟩) (clock + 1), ?_, es.push ⟨key, v, clock⟩, clock + 1, heap_setBlock_same hb _, fitR_mk (by simp; omega) (stamped_push F.stamped h2) ?_, ?_⟩
    · simp [Instr.mapUpdate, run_underlying ht, MapKept.run_getObj_map hb, K.check w false hkey, h1, MapKept.run_setObj_map _ hb, Result.andThen, setBlock]
    · intro x hx
      simp only [Array.toList_push, List.mem_append, List.mem_singleton] at hx
      rcases hx with hx | rfl
      · exact fitR_key F hx
      · exact ⟨_, hkey⟩
    · rw [Array.toList_push, List.map_append]
      exact List.perm_append_comm.trans (List.Perm.cons _ hp)
  · refine absurd (hp.mem_iff.1 (List.mem_map.2 ⟨e0, List.mem_of_getElem? h2, rfl⟩)) ?_
    show (e0.key, e0.val) ∉ m
    rw [h3]; exact hm _

/-- 'm[k] = v' at a key that is there. -/
theorem Mp.store_old {w : World} {b : Nat} {m : List (Value × Value)} {old : Value} {key v : Value} (h : Mp P k w b ((key, old) :: m)) (K : Keyed P k) {t e : TypeId} (ht : P.underlying t = some (.map k e)) {l : Lit} (hkey : keyOf P k key = some l) :
    ∃ o, (Instr.mapUpdate t (.map (some b)) key v).run P w = .ok () (setBlock w b o) ∧ Mp P k (setBlock w b o) b ((key, v) :: m) := by
  obtain ⟨es, clock, hb, F, hp⟩ := h
  have h0 : (key, old) ∈ es.toList.map kv := hp.mem_iff.2 (by simp)
  obtain ⟨x, hx, hxe⟩ := List.mem_map.1 h0
  have hxk : x.key = key := congrArg Prod.fst hxe
  have hxv : x.val = old := congrArg Prod.snd hxe
  have hst := (stamped_iff es clock).1 F.stamped
  rcases K.find w hkey es.toList (fun x hx => fitR_key F hx) with ⟨h1, h2⟩ | ⟨j, e0, h1, h2, h3⟩
  · exact absurd hxk (h2 x hx)
  · have hex : e0 = x := entry_eq_of_key hst.2.2 (List.mem_of_getElem? h2) hx (h3.trans hxk.symm)
    subst hex
    have hj : es[j]? = some e0 := by simpa using h2
    have hjl : j < es.toList.length := (List.getElem?_eq_some_iff.1 h2).1
    have hlist : (es.modify j (fun e' => { e' with key := key, val := v })).toList = es.toList.set j { e0 with key := key, val := v } := by rw [Array.toList_modify, modify_eq_set _ _ _ _ h2]
    refine ⟨.map (es.modify j (fun e' => { e' with key := key, val := v })) clock, ?_, es.modify j (fun e' => { e' with key := key, val := v }), clock, heap_setBlock_same hb _, fitR_mk (by simpa using F.size) (stamped_modify F.stamped _ _ (fun _ _ => rfl) (fun e' _ he' => by rw [hj] at he'; cases he'; exact h3.symm)) ?_, ?_⟩
    · simp [Instr.mapUpdate, run_underlying ht, MapKept.run_getObj_map hb, K.check w false hkey, h1, hj, h3, K.stays w hkey, MapKept.run_setObj_map _ hb, Result.andThen, setBlock]
    · intro x hx
      rw [hlist] at hx
      rcases List.mem_or_eq_of_mem_set hx with hx | rfl
      · exact fitR_key F hx
      · exact ⟨_, hkey⟩
    · rw [hlist, List.map_set]
      have e1 : (es.toList.map kv).Perm ((key, old) :: (es.toList.map kv).eraseIdx j) := by
        refine (perm_erase (es.toList.map kv) j (by simpa using hjl)).trans ?_
        have e2 : (es.toList.map kv)[j]'(by simpa using hjl) = (key, old) := by
          rw [List.getElem_map]
          have : es.toList[j] = e0 := (List.getElem?_eq_some_iff.1 h2).2
          rw [this]; exact hxe
        rw [e2]
      have e3 : ((es.toList.map kv).eraseIdx j).Perm m := (e1.symm.trans hp).cons_inv
      refine (Go.ChangeMaps.set_perm _ _ (by simpa using hjl) _).trans ?_
      exact List.Perm.cons _ e3

/-- 'delete(m, k)' at a key that is there. -/
theorem Mp.del {w : World} {b : Nat} {m : List (Value × Value)} {old : Value} {key : Value} (h : Mp P k w b ((key, old) :: m)) (K : Keyed P k) {t e : TypeId} (ht : P.underlying t = some (.map k e)) {l : Lit} (hkey : keyOf P k key = some l) (ty : TypeId) :
    ∃ o, (Builtin.delete_ #[t, k] ty #[.map (some b), key]).run P w = .ok (.tuple #[]) (setBlock w b o) ∧ Mp P k (setBlock w b o) b m := by
  obtain ⟨es, clock, hb, F, hp⟩ := h
  have h0 : (key, old) ∈ es.toList.map kv := hp.mem_iff.2 (by simp)
  obtain ⟨x, hx, hxe⟩ := List.mem_map.1 h0
  have hxk : x.key = key := congrArg Prod.fst hxe
  have hst := (stamped_iff es clock).1 F.stamped
  rcases K.find w hkey es.toList (fun x hx => fitR_key F hx) with ⟨h1, h2⟩ | ⟨j, e0, h1, h2, h3⟩
  · exact absurd hxk (h2 x hx)
  · have hex : e0 = x := entry_eq_of_key hst.2.2 (List.mem_of_getElem? h2) hx (h3.trans hxk.symm)
    subst hex
    have hjl : j < es.toList.length := (List.getElem?_eq_some_iff.1 h2).1
    have hjs : j < es.size := by simpa using hjl
    have hsub : (es.eraseIdxIfInBounds j).toList = es.toList.eraseIdx j := by
      unfold Array.eraseIdxIfInBounds
      rw [dif_pos hjs]
      simp
    refine ⟨.map (es.eraseIdxIfInBounds j) clock, ?_, es.eraseIdxIfInBounds j, clock, heap_setBlock_same hb _, fitR_mk (Nat.le_trans (MapFrom.size_erase es j) F.size) (stamped_erase F.stamped j) ?_, ?_⟩
    · simp [Builtin.delete_, run_underlying ht, MapKept.run_getObj_map hb, K.check w _ hkey, h1, MapKept.run_setObj_map _ hb, Result.andThen, setBlock]
    · intro x hx
      rw [hsub] at hx
      exact fitR_key F ((List.eraseIdx_sublist _ _).subset hx)
    · rw [hsub, map_eraseIdx]
      have e1 : (es.toList.map kv).Perm ((key, old) :: (es.toList.map kv).eraseIdx j) := by
        refine (perm_erase (es.toList.map kv) j (by simpa using hjl)).trans ?_
        have e2 : (es.toList.map kv)[j]'(by simpa using hjl) = (key, old) := by
          rw [List.getElem_map]
          have : es.toList[j] = e0 := (List.getElem?_eq_some_iff.1 h2).2
          rw [this]; exact hxe
        rw [e2]
      exact (e1.symm.trans hp).cons_inv

theorem Stp.setBlock {F F' : Nat → Prop} {a w : World} (h : Stp F a w F') {b : Nat} {o : Obj} (hp : b < a.heap.size → F b) : Stp F a (setBlock w b o) F' :=
  ⟨h.os, h.tape, h.output, by have := h.size; simp [ChangeMaps.setBlock]; omega,
    fun k hk hn => by
      have : k ≠ b := fun e => hn (by subst e; exact hp hk)
      rw [show (ChangeMaps.setBlock w b o).heap[k]? = w.heap[k]? from by
        simp only [ChangeMaps.setBlock]; rw [Array.getElem?_setIfInBounds_ne (fun e => this e.symm)]]
      exact h.block k hk hn, h.mono⟩

/-- 'range m'. -/
theorem Mp.range {w : World} {b : Nat} {m : List (Value × Value)} (h : Mp P k w b m) {t e : TypeId} (ht : P.underlying t = some (.map k e)) :
    ∃ o, (Instr.range t (.map (some b))).run P w = .ok (.pointer (some ⟨w.heap.size, 0, none⟩)) (w.alloc o) ∧ It P k (w.alloc o) b w.heap.size m m := by
  have hlt := h.lt
  obtain ⟨es, clock, hb, F, hp⟩ := h
  refine ⟨_, run_range_map w t k e b es clock ht hb, es, clock, clock, #[], clock, ((MapKept.heap_alloc w _).2 b hlt).trans hb, F, hp, (MapKept.heap_alloc w _).1, F.stamped.1, Nat.le_refl _, Nat.le_refl _, ?_⟩
  have : leftOf es #[] = es := by unfold leftOf; simp
  rw [this]; exact hp

theorem It.mp {w : World} {b r : Nat} {m todo : List (Value × Value)} (h : It P k w b r m todo) : Mp P k w b m := by
  obtain ⟨es, clock, _, _, _, hb, F, hp, _⟩ := h
  exact ⟨es, clock, hb, F, hp⟩

theorem It.lt {w : World} {b r : Nat} {m todo : List (Value × Value)} (h : It P k w b r m todo) : r < w.heap.size := by
  obtain ⟨es, clock, since, seen, c0, _, _, _, hr, _⟩ := h
  exact (Array.getElem?_eq_some_iff.1 hr).1

theorem It.same {w w' : World} {b r : Nat} {m todo : List (Value × Value)} (h : It P k w b r m todo) (hb : w'.heap[b]? = w.heap[b]?) (hr : w'.heap[r]? = w.heap[r]?) : It P k w' b r m todo := by
  obtain ⟨es, clock, since, seen, c0, h1, F, hp, h2, rest⟩ := h
  exact ⟨es, clock, since, seen, c0, hb.trans h1, F, hp, hr.trans h2, rest⟩

/-- How many are still to come, read off the world. -/
theorem It.left {w : World} {b r : Nat} {m todo : List (Value × Value)} (h : It P k w b r m todo) : w.rangeLeft b r = todo.length := by
  obtain ⟨es, clock, since, seen, c0, hb, _, _, hr, _, _, _, hc⟩ := h
  simp only [World.rangeLeft, hb, hr]
  have := hc.length_eq; simpa using this

theorem It.next {w : World} {b r : Nat} {m todo : List (Value × Value)} (h : It P k w b r m todo) (hne : r ≠ b) (ty : TypeId) :
    (todo = [] ∧ (Instr.next (.pointer (some ⟨r, 0, none⟩)) false ty).run P w = .ok (.tuple #[.bool false]) w) ∨
    ∃ key v todo' w1 o, todo.Perm ((key, v) :: todo') ∧ (key, v) ∈ m ∧ (w1 = w ∨ w1 = w.drew) ∧ (Instr.next (.pointer (some ⟨r, 0, none⟩)) false ty).run P w = .ok (.tuple #[.bool true, key, v]) (setBlock w1 r o) ∧
      It P k (setBlock w1 r o) b r m todo' ∧ (Instr.entry (.pointer (some ⟨r, 0, none⟩))).run P (setBlock w1 r o) = .ok (.tuple #[key, v]) (setBlock w1 r o) := by
  obtain ⟨es, clock, since, seen, c0, hb, F, hp, hr, hold, hsc, hsk, hleft⟩ := h
  rcases run_next_at (P := P) w ty r b since c0 seen es clock hr hb hold hsc with ⟨h0, hrun⟩ | ⟨e, he, w1, hal, hrun⟩
  · refine Or.inl ⟨?_, hrun⟩
    have := hleft.length_eq
    simp only [List.length_map, Array.length_toList, h0] at this
    exact List.eq_nil_of_length_eq_zero this.symm
  · right
    obtain ⟨hem, hes⟩ := mem_left he
    have hr1 : w1.heap[r]? = some (.mapIter (some b) since seen c0) := by rcases hal with rfl | rfl <;> exact hr
    have hb1 : w1.heap[b]? = some (.map es clock) := by rcases hal with rfl | rfl <;> exact hb
    have hset := heap_set (o' := .mapIter (some b) since (seen.push e.born) clock) hr1
    have hb' : (setBlock w1 r (.mapIter (some b) since (seen.push e.born) clock)).heap[b]? = some (.map es clock) := (hset.2 b (fun h => hne h.symm)).trans hb1
    have hst := (stamped_iff es clock).1 F.stamped
    have hbi : ∀ x ∈ es.toList, ∀ y ∈ es.toList, x.born = y.born → x = y := fun x hx y hy hxy => born_inj hst.2.1 hx hy hxy
    have hnd : es.toList.Nodup := nodup_of_map hst.2.1
    have hL : (leftOf es seen).toList = es.toList.filter fun x => !seen.contains x.born := by unfold leftOf; rw [Array.toList_filter]
    have hL' : (leftOf es (seen.push e.born)).toList = es.toList.filter fun x => !(seen.push e.born).contains x.born := by unfold leftOf; rw [Array.toList_filter]
    have hper : (leftOf es seen).toList.Perm (e :: (leftOf es (seen.push e.born)).toList) := by
      refine (List.perm_ext_iff_of_nodup ?_ ?_).2 ?_
      · rw [hL]; exact hnd.filter _
      · rw [List.nodup_cons]
        refine ⟨?_, by rw [hL']; exact hnd.filter _⟩
        rw [hL']
        simp
      · intro x
        rw [List.mem_cons, hL, hL']
        simp only [List.mem_filter, Array.contains_push, Bool.not_eq_true', Bool.or_eq_false_iff, beq_eq_false_iff_ne]
        constructor
        · rintro ⟨h1, h2⟩
          by_cases hx : x.born = e.born
          · exact Or.inl (hbi x h1 e hem hx)
          · exact Or.inr ⟨h1, h2, hx⟩
        · rintro (rfl | ⟨h1, h2, _⟩)
          · exact ⟨hem, by simpa using hes⟩
          · exact ⟨h1, h2⟩
    refine ⟨e.key, e.val, (leftOf es (seen.push e.born)).toList.map kv, w1, _, hleft.symm.trans ?_, hp.mem_iff.1 (List.mem_map.2 ⟨e, hem, rfl⟩), hal, hrun, ⟨es, clock, since, seen.push e.born, clock, hb', F, hp, hset.1, hold, hsk, hsk, List.Perm.refl _⟩, run_entry_at _ r b since seen es clock e hset.1 hb' hem hst.2.1⟩
    exact (hper.map kv)

theorem Mp.stp {F F' : Nat → Prop} {w w' : World} {b : Nat} {m : List (Value × Value)} (h : Mp P k w b m) (hs : Stp F w w' F') (hb : ¬ F b) : Mp P k w' b m :=
  h.same (hs.block b h.lt hb)

section
variable (w : World) {ops : Array Oper} {rest : List Oper} {o : Oper} {a : Act} {Q : Exit → Act → World → Prop}

theorem wpList_range_mp (hg : o.guard = none) (x : Operand) (t : TypeId) (hop : o.op = Op.range t x) (e : TypeId) (ht : P.underlying t = some (.map k e)) (b : Nat) (m : List (Value × Value))
    (hx : a.eval x = .map (some b)) (h : Mp P k w b m)
    (hK : ∀ ob, It P k (w.alloc ob) b w.heap.size m m → wpList P ops Q rest (a.put o.dst (.pointer (some ⟨w.heap.size, 0, none⟩))) (w.alloc ob)) :
    wpList P ops Q (o :: rest) a w := by
  refine wpList_plain hg fun K' hK' => ?_
  obtain ⟨ob, hrun, r1⟩ := h.range ht
  unfold Oper.wp
  simp [execOp, hop, hx, hrun, Result.andThen]
  exact hK' _ _ (hK ob r1)

theorem wpList_next_mp (hg : o.guard = none) (it : Operand) (hop : o.op = Op.next it false) (b r : Nat) (m todo : List (Value × Value))
    (hit : a.eval it = .pointer (some ⟨r, 0, none⟩)) (h : It P k w b r m todo) (hne : r ≠ b)
    (hDone : todo = [] → wpList P ops Q rest (a.put o.dst (.tuple #[.bool false])) w)
    (hMore : ∀ key v todo' w1 ob, todo.Perm ((key, v) :: todo') → (key, v) ∈ m → (w1 = w ∨ w1 = w.drew) → It P k (setBlock w1 r ob) b r m todo' →
      (Instr.entry (.pointer (some ⟨r, 0, none⟩))).run P (setBlock w1 r ob) = .ok (.tuple #[key, v]) (setBlock w1 r ob) → wpList P ops Q rest (a.put o.dst (.tuple #[.bool true, key, v])) (setBlock w1 r ob)) :
    wpList P ops Q (o :: rest) a w := by
  refine wpList_plain hg fun K' hK' => ?_
  unfold Oper.wp
  rcases h.next hne o.type with ⟨h0, hrun⟩ | ⟨key, v, todo', w1, ob, r1, r2, r3, hrun, r4, r5⟩
  · simp [execOp, hop, hit, hrun, Result.andThen]
    exact hK' _ _ (hDone h0)
  · simp [execOp, hop, hit, hrun, Result.andThen]
    exact hK' _ _ (hMore key v todo' w1 ob r1 r2 r3 r4 r5)

theorem grown_setBlock (w : World) (b : Nat) (ob : Obj) : w.grownBy (setBlock w b ob) (some b) :=
  ⟨rfl, rfl, rfl, by simp [setBlock], fun i hi hne => by
    simp only [setBlock]; rw [Array.getElem?_setIfInBounds_ne (fun e => hne (by subst e; rfl))]⟩

theorem wpList_mapUpdate_mp (hg : o.guard = none) (x y v : Operand) (t : TypeId) (hop : o.op = Op.mapUpdate t x y v) (b : Nat) (m' : List (Value × Value)) (key val : Value)
    (hx : a.eval x = .map (some b)) (hy : a.eval y = key) (hv : a.eval v = val)
    (hup : ∃ ob, (Instr.mapUpdate t (.map (some b)) key val).run P w = .ok () (setBlock w b ob) ∧ Mp P k (setBlock w b ob) b m')
    (hK : ∀ w', Mp P k w' b m' → w.grownBy w' (some b) → w'.heap.size = w.heap.size → wpList P ops Q rest (a.put o.dst undef) w') :
    wpList P ops Q (o :: rest) a w := by
  refine wpList_plain hg fun K' hK' => ?_
  obtain ⟨ob, hrun, r1⟩ := hup
  unfold Oper.wp
  simp [execOp, hop, hx, hy, hv, hrun, Result.andThen]
  exact hK' _ _ (hK _ r1 (grown_setBlock w b ob) (by simp [setBlock]))

theorem wpList_insert_mp (hg : o.guard = none) (x y v : Operand) (t : TypeId) (hop : o.op = Op.insert t x y v) (b : Nat) (m' : List (Value × Value)) (key val : Value)
    (hx : a.eval x = .map (some b)) (hy : a.eval y = key) (hv : a.eval v = val)
    (hup : ∃ ob, (Instr.mapUpdate t (.map (some b)) key val).run P w = .ok () (setBlock w b ob) ∧ Mp P k (setBlock w b ob) b m')
    (hK : ∀ w', Mp P k w' b m' → w.grownBy w' (some b) → w'.heap.size = w.heap.size → wpList P ops Q rest (a.put o.dst undef) w') :
    wpList P ops Q (o :: rest) a w := by
  refine wpList_plain hg fun K' hK' => ?_
  obtain ⟨ob, hrun, r1⟩ := hup
  unfold Oper.wp
  simp [execOp, hop, hx, hy, hv, hrun, Result.andThen]
  exact hK' _ _ (hK _ r1 (grown_setBlock w b ob) (by simp [setBlock]))

theorem wpList_delete_mp (hg : o.guard = none) (x y : Operand) (t : TypeId) (hop : o.op = Op.call { callee := Callee.builtin Builtin.delete, args := #[x, y], argTypes := #[t, k] })
    (e : TypeId) (K : Keyed P k) (ht : P.underlying t = some (.map k e)) (b : Nat) (m : List (Value × Value)) (key old : Value) (l : Lit)
    (hx : a.eval x = .map (some b)) (hy : a.eval y = key) (hkey : keyOf P k key = some l) (h : Mp P k w b ((key, old) :: m))
    (hK : ∀ w', Mp P k w' b m → w.grownBy w' (some b) → w'.heap.size = w.heap.size → wpList P ops Q rest (a.put o.dst (.tuple #[])) w') :
    wpList P ops Q (o :: rest) a w := by
  refine wpList_plain hg fun K' hK' => ?_
  obtain ⟨ob, hrun, r1⟩ := h.del K ht hkey o.type
  unfold Oper.wp
  simp [execOp, hop, resolve, invoke, builtin, hx, hy, hrun, Result.andThen]
  exact hK' _ _ (hK _ r1 (grown_setBlock w b ob) (by simp [setBlock]))
end
end Go.Ease
