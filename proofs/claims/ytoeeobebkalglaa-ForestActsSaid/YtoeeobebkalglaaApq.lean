/- append onto a slice of one's own: what lay in it before reads as before, where it was. -/
import Derived.Test.YtoeeobebkalglaaApp
namespace Go.Ease
open Go
section
variable {P : Program} (w : World)

theorem run_append3 (base : Nat) (t ty e : TypeId) (i : TypeInfo) (z : Value) (size bytes : Nat) (ht : P.underlying t = some (.slice e)) (hi : P.info? e = some i) (hz : i.zero = some z)
    (hsize : i.size = size) (hby : i.bytes = bytes) (hzs : z.cells.size = size) (hsz : 0 < size)
    (v : Value) (n : Nat) (xs : List Value) (hown : w.ownsRow base e size v n xs)
    (x : Value) (m : Nat) (news : List Value) (hx : Rd w size x m news) (h1 : ∀ u ∈ news, u.oneCell' = true)
    (h63 : n + m ≤ maxLen) (hbytes : (n + m) * bytes ≤ 140737488355328) (hbase : base ≤ w.heap.size) :
    ∃ a' c' w', (Builtin.append_ #[t, t] ty #[v, x]).run P w = .ok (.slice a' (n + m) c') w' ∧ w'.ownsRow base e size (.slice a' (n + m) c') (n + m) (xs ++ news) ∧ w.grownBy w' v.ownBlock ∧
      (Value.ownBlock (.slice a' (n + m) c') = v.ownBlock ∨ Value.ownBlock (.slice a' (n + m) c') = some w.heap.size) ∧ (∀ g, v.ownBlock = some g → ∀ j, j < n * size → w'.cell? ⟨g, j, none⟩ = w.cell? ⟨g, j, none⟩) := by
  obtain ⟨hl, hx⟩ := hx
  rcases hx with ⟨rfl, rfl⟩ | ⟨g, off, c, rfl, hmc, hlt, hc⟩
  · have hn : news = [] := List.eq_nil_of_length_eq_zero (by simpa using hl)
    subst hn
    obtain ⟨a, cc, rfl⟩ := owns_shape hown
    refine ⟨a, cc, w, ?_, by simpa using hown, World.grownBy.refl _ _, .inl rfl, fun _ _ _ _ => rfl⟩
    have hle : n ≤ cc := by
      rcases hown.2 with ⟨h, rfl⟩ | ⟨_, _, _, h, _, _, h2, _⟩
      · omega
      · cases h; exact h2
    have e0 : ∀ (aa : Addr) (w : World), (storeCells aa []).run P w = .ok () w := fun _ _ => rfl
    cases a <;> simp [Builtin.append_, run_underlying ht, sizeOf, typeInfo, hi, Builtin.lenOf, Builtin.firstCells, hle, e0]
  · have hnews : ∀ j u, news[j]? = some u → w.cell? ((⟨g, off, none⟩ : Addr).add j) = some u := fun j u hu => by rw [addr_add]; exact hc j u hu
    obtain ⟨v', w', hr, ho, hg, hiff⟩ := run_append_own (P := P) w base t ty e i z size bytes ht hi hz hsize hby hzs hsz v n xs hown ⟨g, off, none⟩ m c news hl hnews h1 h63 hbytes hbase
    obtain ⟨a', c', rfl⟩ := owns_shape ho
    refine ⟨a', c', w', hr, ho, hg, ?_⟩
    subst hsize
    subst hby
    rcases hown.2 with ⟨rfl, rfl⟩ | ⟨g0, cap, cur, rfl, hbg, hgg, hnc, hcm, hcs, htake⟩
    · by_cases hm : m = 0
      · have := hiff.2 ⟨rfl, hm⟩
        rw [this]; exact ⟨.inl rfl, fun g hg => by simp [Value.ownBlock] at hg⟩
      · have hr2 := run_append_nil (P := P) w t ty e i z ht hi hz ⟨g, off, none⟩ m c news hl hnews (by omega) (by unfold maxLen at h63; omega) (by have hb := hbytes; simp only [Nat.zero_add] at hb; omega)
        rw [hr] at hr2
        simp only [Result.ok.injEq] at hr2
        rw [hr2.1]; exact ⟨.inr rfl, fun g hg => by simp [Value.ownBlock] at hg⟩
    · by_cases hroom : n + m ≤ cap
      · have hfit : n * i.size + news.length ≤ cur.size := by rw [hl, hcs, ← Nat.add_mul]; exact Nat.mul_le_mul_right _ hroom
        have hr2 := run_append_room (P := P) w t ty e i ht hi g0 n cap cur hgg ⟨g, off, none⟩ m c news hl hnews h1 hroom hfit
        rw [hr] at hr2
        simp only [Result.ok.injEq] at hr2
        rw [hr2.1] at ho ⊢
        refine ⟨.inl rfl, fun g hg j hj => ?_⟩
        simp only [Value.ownBlock, Option.some.injEq] at hg
        subst hg
        rw [ho.cellAt j (Nat.lt_of_lt_of_le hj (Nat.mul_le_mul_right _ (Nat.le_add_right _ _))), hown.cellAt j hj, List.getElem?_append_left (by rw [hown.1]; exact hj)]
      · have holds : ∀ j u, xs[j]? = some u → w.cell? ((⟨g0, 0, none⟩ : Addr).add j) = some u := hown.cells (g := g0) rfl
        have hr2 := run_append_grow (P := P) w t ty e i z ht hi hz ⟨g0, 0, none⟩ n cap xs hown.1 holds ⟨g, off, none⟩ m c news hl hnews (by omega) (by unfold maxLen at h63; omega) (growslice_fits (by omega) hbytes)
        rw [hr] at hr2
        simp only [Result.ok.injEq] at hr2
        rw [hr2.1]
        refine ⟨.inr rfl, fun g hg j hj => ?_⟩
        simp only [Value.ownBlock, Option.some.injEq] at hg
        subst hg
        rw [hr2.2]
        exact World.cell?_alloc_lt (a := ⟨g0, j, none⟩) _ _ (Array.getElem?_eq_some_iff.1 hgg).1

theorem wpList_append3 {ops : Array Oper} {rest : List Oper} {o : Oper} {a : Act} {Q : Exit → Act → World → Prop} (hgd : o.guard = none) (s x : Operand) (t : TypeId)
    (ho : o.op = .call { callee := .builtin .append, args := #[s, x], argTypes := #[t, t] })
    (base : Nat) (e : TypeId) (i : TypeInfo) (z : Value) (size bytes : Nat) (ht : P.underlying t = some (.slice e)) (hi : P.info? e = some i) (hz : i.zero = some z)
    (hsize : i.size = size) (hby : i.bytes = bytes) (hzs : z.cells.size = size) (hsz : 0 < size)
    (v : Value) (n : Nat) (xs : List Value) (hs : a.eval s = v) (hown : w.ownsRow base e size v n xs)
    (y : Value) (m : Nat) (news : List Value) (hx : a.eval x = y) (hrd : Rd w size y m news) (h1 : ∀ u ∈ news, u.oneCell' = true)
    (h63 : n + m ≤ maxLen) (hbytes : (n + m) * bytes ≤ 140737488355328) (hbase : base ≤ w.heap.size)
    (h : ∀ a' c' w', w'.ownsRow base e size (.slice a' (n + m) c') (n + m) (xs ++ news) → w.grownBy w' v.ownBlock →
      (Value.ownBlock (.slice a' (n + m) c') = v.ownBlock ∨ Value.ownBlock (.slice a' (n + m) c') = some w.heap.size) → (∀ g, v.ownBlock = some g → ∀ j, j < n * size → w'.cell? ⟨g, j, none⟩ = w.cell? ⟨g, j, none⟩) → wpList P ops Q rest (a.put o.dst (.slice a' (n + m) c')) w') : wpList P ops Q (o :: rest) a w :=
  wpList_plain hgd fun _ hK => by
    obtain ⟨a', c', w', hr, h2, h3, h4, h5⟩ := run_append3 (P := P) w base t o.type e i z size bytes ht hi hz hsize hby hzs hsz v n xs hown y m news hrd h1 h63 hbytes hbase
    unfold Oper.wp execOp
    simp only [ho, resolve, invoke, builtin, Sem.run_bind, Sem.run_pure, Result.andThen_ok, List.map_toArray, List.map_cons, List.map_nil, hs, hx, hr]
    exact hK _ _ (h a' c' w' h2 h3 h4 h5)

end
end Go.Ease
