/- The builtin append onto a row of one's own, from whatever a slice shows. -/
import Derived.Test.YthhckledkhcfeaaCop
namespace Go.Proofs.Ythhckledkhcfeaa
open Go.RowKit

section
variable {P : Program} {w : World}
theorem run_app (t ty e : TypeId) (i : TypeInfo) (z : Value) (sz bytes : Nat) (ht : P.underlying t = some (.slice e)) (hi : P.info? e = some i) (hz : i.zero = some z)
    (hsize : i.size = sz) (hby : i.bytes = bytes) (hzs : z.cells.size = sz) (hsz : 0 < sz) {v : Sl} {xs : List Value} (hrow : Row w e sz v xs)
    {A : Option Addr} {n : Nat} (c : Nat) {news : List Value} (hv : View w sz A n news) (h1 : ∀ u ∈ news, u.oneCell' = true) (h63 : v.n + n ≤ maxLen) (hbytes : (v.n + n) * bytes ≤ 140737488355328) :
    ∃ (v' : Sl) (w' : World), (Builtin.append_ #[t, t] ty #[.slice v.a v.n v.c, .slice A n c]).run P w = .ok (.slice v'.a v'.n v'.c) w' ∧ Row w' e sz v' (xs ++ news) ∧ v'.n = v.n + n ∧ w.grownBy w' v.blk ∧ (v'.blk = v.blk ∨ v'.blk = some w.heap.size) := by
  cases A with
  | none =>
    have hn : news = [] := by
      cases hq : news with
      | nil => rfl
      | cons a l => obtain ⟨_, _, h, _⟩ := hv.2 (by rw [hq]; simp); cases h
    have hn0 : n = 0 := by
      have := hv.1
      rw [hn] at this
      rcases Nat.eq_zero_or_pos n with h | h
      · exact h
      · have := Nat.mul_pos h hsz; simp at *; omega
    subst hn; subst hn0
    refine ⟨v, w, ?_, by simpa using hrow, rfl, World.grownBy.refl _ _, .inl rfl⟩
    rcases hrow.2 with ⟨hq, h0⟩ | ⟨g, cap, cur, hq, _, _, hnc, _⟩
    · injection hq with q1 q2 q3
      rw [q1, q2, q3]
      simp [Builtin.append_, run_underlying ht, sizeOf, typeInfo, hi, Builtin.lenOf, Builtin.firstCells]
    · injection hq with q1 q2 q3
      rw [q1, q3]
      simp [Builtin.append_, run_underlying ht, sizeOf, typeInfo, hi, Builtin.lenOf, Builtin.firstCells, hnc, storeCells]
  | some ad =>
    have hcells : ∀ j u, news[j]? = some u → w.cell? (ad.add j) = some u := by
      intro j u hu
      obtain ⟨g, o, h, _, hc⟩ := hv.2 (by have := getElem?_lt' hu; omega)
      injection h with h
      subst h
      rw [Addr.add_lit]
      exact hc j u hu
    obtain ⟨v', w', hrun, h2, h3, _, h5⟩ := run_append_own_at (P := P) w 0 t ty e i z sz bytes ht hi hz hsize hby hzs hsz _ v.n xs hrow ad n c news hv.1 hcells h1 h63 hbytes (Nat.zero_le _)
    have hblk : Value.ownBlock (.slice v.a v.n v.c) = v.blk := by obtain ⟨a, _, _⟩ := v; cases a <;> rfl
    rw [hblk] at h3 h5
    rcases h2.2 with ⟨rfl, h0⟩ | ⟨g, cap, cur, rfl, _⟩
    · exact ⟨⟨none, 0, 0⟩, w', hrun, by rw [h0] at h2; exact h2, h0.symm, h3, h5⟩
    · exact ⟨⟨some ⟨g, 0, none⟩, v.n + n, cap⟩, w', hrun, h2, rfl, h3, h5⟩
where
  getElem?_lt' {α : Type} {l : List α} {b : α} {i : Nat} (h : l[i]? = some b) : i < l.length := (List.getElem?_eq_some_iff.1 h).1

theorem wp_app {o : Oper} {a : Act} {K : Act → World → Prop} {Q : Exit → Act → World → Prop} (s x : Operand) (t : TypeId) (ho : o.op = .call { callee := .builtin .append, args := #[s, x], argTypes := #[t, t] })
    (e : TypeId) (i : TypeInfo) (z : Value) (sz bytes : Nat) (ht : P.underlying t = some (.slice e)) (hi : P.info? e = some i) (hz : i.zero = some z)
    (hsize : i.size = sz) (hby : i.bytes = bytes) (hzs : z.cells.size = sz) (hsz : 0 < sz) (v : Sl) (hs : a.eval s = .slice v.a v.n v.c) {xs : List Value} (hrow : Row w e sz v xs)
    {A : Option Addr} {n c : Nat} (hx : a.eval x = .slice A n c) {news : List Value} (hv : View w sz A n news) (h1 : ∀ u ∈ news, u.oneCell' = true) (h63 : v.n + n ≤ maxLen) (hbytes : (v.n + n) * bytes ≤ 140737488355328)
    (h : ∀ (v' : Sl) (w' : World), Row w' e sz v' (xs ++ news) → Hid (v'.n = v.n + n) → w.grownBy w' v.blk → (v'.blk = v.blk ∨ v'.blk = some w.heap.size) → K (a.put o.dst (.slice v'.a v'.n v'.c)) w') : o.wp P a w K Q := by
  obtain ⟨v', w', hr, h2, h3, h4, h5⟩ := run_app (P := P) t o.type e i z sz bytes ht hi hz hsize hby hzs hsz hrow c hv h1 h63 hbytes
  unfold Oper.wp execOp
  simp only [ho, resolve, invoke, builtin, Sem.run_bind, Sem.run_pure, Result.andThen_ok, List.map_toArray, List.map_cons, List.map_nil, hs, hx, hr]
  exact h v' w' h2 h3 h4 h5
theorem wpList_app {ops : Array Oper} {rest : List Oper} {o : Oper} {a : Act} {Q : Exit → Act → World → Prop} (hgd : o.guard = none) (s x : Operand) (t : TypeId) (ho : o.op = .call { callee := .builtin .append, args := #[s, x], argTypes := #[t, t] })
    (e : TypeId) (i : TypeInfo) (z : Value) (sz bytes : Nat) (ht : P.underlying t = some (.slice e)) (hi : P.info? e = some i) (hz : i.zero = some z)
    (hsize : i.size = sz) (hby : i.bytes = bytes) (hzs : z.cells.size = sz) (hsz : 0 < sz) (v : Sl) (hs : a.eval s = .slice v.a v.n v.c) {xs : List Value} (hrow : Row w e sz v xs)
    {A : Option Addr} {n c : Nat} (hx : a.eval x = .slice A n c) {news : List Value} (hv : View w sz A n news) (h1 : ∀ u ∈ news, u.oneCell' = true) (h63 : v.n + n ≤ maxLen) (hbytes : (v.n + n) * bytes ≤ 140737488355328)
    (h : ∀ (v' : Sl) (w' : World), Row w' e sz v' (xs ++ news) → Hid (v'.n = v.n + n) → w.grownBy w' v.blk → (v'.blk = v.blk ∨ v'.blk = some w.heap.size) → wpList P ops Q rest (a.put o.dst (.slice v'.a v'.n v'.c)) w') : wpList P ops Q (o :: rest) a w :=
  wpList_plain hgd fun _ hK => wp_app s x t ho e i z sz bytes ht hi hz hsize hby hzs hsz v hs hrow hx hv h1 h63 hbytes fun v' w' h2 h3 h4 h5 => hK _ _ (h v' w' h2 h3 h4 h5)
theorem step_app {ops : Array Oper} {E : Prop} {o : Oper} {a : Act} {K : Act → World → Prop} {Q : Exit → Act → World → Prop} (hgd : o.guard = none) (s x : Operand) (t : TypeId) (ho : o.op = .call { callee := .builtin .append, args := #[s, x], argTypes := #[t, t] })
    (e : TypeId) (i : TypeInfo) (z : Value) (sz bytes : Nat) (ht : P.underlying t = some (.slice e)) (hi : P.info? e = some i) (hz : i.zero = some z)
    (hsize : i.size = sz) (hby : i.bytes = bytes) (hzs : z.cells.size = sz) (hsz : 0 < sz) (v : Sl) (hs : a.eval s = .slice v.a v.n v.c) {xs : List Value} (hrow : Row w e sz v xs)
    {A : Option Addr} {n c : Nat} (hx : a.eval x = .slice A n c) {news : List Value} (hv : View w sz A n news) (h1 : ∀ u ∈ news, u.oneCell' = true) (h63 : v.n + n ≤ maxLen) (hbytes : (v.n + n) * bytes ≤ 140737488355328)
    (h : ∀ (v' : Sl) (w' : World), Row w' e sz v' (xs ++ news) → Hid (v'.n = v.n + n) → w.grownBy w' v.blk → (v'.blk = v.blk ∨ v'.blk = some w.heap.size) → K (a.put o.dst (.slice v'.a v'.n v'.c)) w') :
    if Region.wanted o (yielded ops a.tmps) = true then Oper.wp P o a w K Q else E := by
  rw [if_pos (by simp [Region.wanted, hgd])]
  exact wp_app s x t ho e i z sz bytes ht hi hz hsize hby hzs hsz v hs hrow hx hv h1 h63 hbytes h
end

/-! ### A struct of many cells, loaded whole -/
section
variable {P : Program} {w : World} {o : Oper} {a : Act} {g off : Nat} {ty : TypeId} {cs : List Value} {fs : Array Field}
theorem run_load_at (hc : ∀ j u, cs[j]? = some u → w.cell? ⟨g, off + j, none⟩ = some u) (hu : P.underlying ty = some (.struct fs)) (hi : (P.info? ty).map (·.size) = some cs.length) :
    (loadVar ty ⟨g, off, none⟩).run P w = .ok (.agg cs.toArray) w := by
  have hl : (loadCells ⟨g, off, none⟩ cs.length).run P w = .ok cs.toArray w :=
    run_loadCells_list (P := P) w ⟨g, off, none⟩ cs (fun j v hv => by rw [Addr.add_lit]; exact hc j v hv)
  cases hq : P.info? ty with
  | none => simp [hq] at hi
  | some i =>
    have hs : i.size = cs.length := by simpa [hq] using hi
    have hagg : (isAgg ty).run P w = .ok true w := by
      unfold isAgg
      rw [Sem.run_bind, run_underlying hu w]
      simp
    simp [loadVar, Sem.run_bind, hagg, sizeOf, typeInfo, hq, hs, hl]
theorem exec_load_at (x : Operand) (ho : o.op = .load ty x) (hx : a.eval x = .pointer (some ⟨g, off, none⟩)) (hc : ∀ j u, cs[j]? = some u → w.cell? ⟨g, off + j, none⟩ = some u)
    (hu : P.underlying ty = some (.struct fs)) (hi : (P.info? ty).map (·.size) = some cs.length) : (execOp a.eval o).run P w = .ok (.value (.agg cs.toArray)) w := by
  unfold execOp
  simp only [ho, hx, Instr.loadAt, Instr.sureAddr, Sem.run_bind, Sem.run_pure, Result.andThen_ok, run_load_at hc hu hi]
theorem wpList_load_at {ops : Array Oper} {rest : List Oper} {Q : Exit → Act → World → Prop} (hgd : o.guard = none) (x : Operand) (ho : o.op = .load ty x) (hx : a.eval x = .pointer (some ⟨g, off, none⟩))
    (hc : ∀ j u, cs[j]? = some u → w.cell? ⟨g, off + j, none⟩ = some u) (hu : P.underlying ty = some (.struct fs)) (hi : (P.info? ty).map (·.size) = some cs.length)
    (h : wpList P ops Q rest (a.put o.dst (.agg cs.toArray)) w) : wpList P ops Q (o :: rest) a w :=
  wpList_plain hgd fun K hK => by
    unfold Oper.wp
    rw [exec_load_at x ho hx hc hu hi]
    exact hK _ _ h
theorem quiet_load_at {C : World → Prop} {K : Act → Prop} (x : Operand) (ho : o.op = .load ty x) (hx : a.eval x = .pointer (some ⟨g, off, none⟩))
    (hc : ∀ w, C w → ∀ j u, cs[j]? = some u → w.cell? ⟨g, off + j, none⟩ = some u) (hu : P.underlying ty = some (.struct fs)) (hi : (P.info? ty).map (·.size) = some cs.length)
    (h : K (a.put o.dst (.agg cs.toArray))) : o.quiet P a C K :=
  ⟨_, fun w hw => by unfold Oper.quietAt; rw [exec_load_at x ho hx (hc w hw) hu hi]; exact ⟨rfl, rfl⟩, h⟩
end
theorem Blk.cells {w : World} {g : Nat} {t : TypeId} {cs : List Value} (h : Blk w g t cs) : ∀ j u, cs[j]? = some u → w.cell? ⟨g, 0 + j, none⟩ = some u := fun j u hu => by rw [Nat.zero_add, h.cell j]; exact hu

/-- The cells of a block, as what a slice over it shows. -/
theorem View.of_blk {w : World} {g : Nat} {t : TypeId} {cs : List Value} {sz n : Nat} (hb : Blk w g t cs) (hl : cs.length = n * sz) : View w sz (some ⟨g, 0, none⟩) n cs :=
  ⟨hl, fun _ => ⟨g, 0, rfl, hb.lt, fun j u hu => by rw [Nat.zero_add, hb.cell j]; exact hu⟩⟩
/-- A literal: '[]T{..}'. -/
theorem Row.lit {w : World} {g : Nat} {e : TypeId} {cs : List Value} {sz n : Nat} (hb : Blk w g e cs) (hl : cs.length = n * sz) (hn : n ≤ maxLen) : Row w e sz ⟨some ⟨g, 0, none⟩, n, n⟩ cs :=
  ⟨hl, .inr ⟨g, n, cs.toArray, rfl, Nat.zero_le _, hb, Nat.le_refl _, hn, by simpa using hl, by simpa using List.take_of_length_le (Nat.le_of_eq hl)⟩⟩
/-- A new row, all of it new memory. -/
def Fresh (w w' : World) (e : TypeId) (sz : Nat) (s : Sl) (xs : List Value) : Prop := Row w' e sz s xs ∧ (∀ g, s.blk = some g → w.heap.size ≤ g) ∧ Ext w w'
end Go.Proofs.Ythhckledkhcfeaa
