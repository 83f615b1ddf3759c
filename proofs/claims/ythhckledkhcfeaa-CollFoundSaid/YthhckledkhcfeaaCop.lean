/- The builtin copy into a row, elements of any number of cells; what a slice shows. -/
import Derived.Test.YthhckledkhcfeaaSep
namespace Go.Proofs.Ythhckledkhcfeaa
open Go.RowKit

/-- The slice A, of n elements of sz cells, shows the cells xs. -/
def View (w : World) (sz : Nat) (A : Option Addr) (n : Nat) (xs : List Value) : Prop :=
  xs.length = n * sz ∧ (0 < xs.length → ∃ g o, A = some ⟨g, o, none⟩ ∧ g < w.heap.size ∧ ∀ j u, xs[j]? = some u → w.cell? ⟨g, o + j, none⟩ = some u)
section
variable {w w' : World} {sz n : Nat} {A : Option Addr} {xs : List Value}
theorem View.keep (h : View w sz A n xs) (hs : w.heap.size ≤ w'.heap.size) (hk : ∀ g o, A = some ⟨g, o, none⟩ → g < w.heap.size → w'.heap[g]? = w.heap[g]?) : View w' sz A n xs :=
  ⟨h.1, fun h0 => by
    obtain ⟨g, o, h1, h2, h3⟩ := h.2 h0
    exact ⟨g, o, h1, by omega, fun j u hu => (World.cell?_of_block (hk g o h1 h2)).trans (h3 j u hu)⟩⟩
theorem View.ext (h : View w sz A n xs) (hx : Ext w w') : View w' sz A n xs := h.keep hx.size fun _ _ _ hg => hx.at_ hg
theorem View.drew (h : View w sz A n xs) : View w.drew sz A n xs := h
theorem View.of_row {e : TypeId} {s : Sl} (h : Row w e sz s xs) : View w sz s.a s.n xs :=
  ⟨h.len, fun h0 => by
    have hl := h.len
    obtain ⟨g, h1, h2⟩ := h.pos (by
      rcases Nat.eq_zero_or_pos s.n with h3 | h3
      · rw [h3] at hl; omega
      · exact h3)
    exact ⟨g, 0, h1, h.blk_lt h2, fun j u hu => by
      have hj : j < s.n * sz := by rw [← hl]; exact (List.getElem?_eq_some_iff.1 hu).1
      rw [Nat.zero_add, h.cell h1 j hj]; exact hu⟩⟩
/-- A part 's[f : f+m]' of a row. -/
theorem View.part {e : TypeId} {s : Sl} {f m : Nat} (h : Row w e sz s xs) (hfm : f + m ≤ s.n) : View w sz (cutA s.a s.c f sz) m ((xs.drop (f * sz)).take (m * sz)) := by
  have hl := h.len
  have h1 : (f + m) * sz ≤ s.n * sz := Nat.mul_le_mul_right _ hfm
  rw [Nat.add_mul] at h1
  refine ⟨by rw [List.length_take, List.length_drop]; omega, fun h0 => ?_⟩
  have hm : 0 < m := by
    rcases Nat.eq_zero_or_pos m with h3 | h3
    · subst h3; simp at h0
    · exact h3
  obtain ⟨g, h2, h3, h4, h5⟩ := h.cutA_ (f := f) (by omega)
  refine ⟨g, f * sz, h4, h5, fun j u hu => ?_⟩
  have hj : j < m * sz := by
    have := (List.getElem?_eq_some_iff.1 hu).1
    rw [List.length_take] at this; omega
  rw [h.cell h3 (f * sz + j) (by omega)]
  rw [List.getElem?_take_of_lt hj, List.getElem?_drop] at hu
  exact hu
end

section
variable {P : Program} (w : World)
theorem run_copy_gen (dT sT ty elem : TypeId) (sz g o dLen dCap : Nat) (a : Addr) (sLen sCap : Nat) (cur : Array Value) (t : TypeId) (cs : List Value)
    (hu : P.underlying dT = some (.slice elem)) (hs : (P.info? elem).map (·.size) = some sz)
    (hg : w.heap[g]? = some (.cells cur t (0, 0))) (hn : cs.length = Nat.min sLen dLen * sz)
    (hsrc : ∀ j v, cs[j]? = some v → w.cell? (a.add j) = some v) (hfit : o + cs.length ≤ cur.size) (h1 : ∀ v ∈ cs, v.oneCell' = true) :
    (Builtin.copy_ #[dT, sT] ty #[.slice (some ⟨g, o, none⟩) dLen dCap, .slice (some a) sLen sCap]).run P w =
      .ok (goInt (Nat.min sLen dLen)) (w.setRow g (cur.toList.take o ++ cs ++ cur.toList.drop (o + cs.length)).toArray) := by
  have hl := run_loadCells_list (P := P) w a cs hsrc
  have hst := run_storeCells_at P g o t cs 0 cur w hg (by simpa using hfit) h1
  cases hq : P.info? elem with
  | none => simp [hq] at hs
  | some i =>
    have hi : i.size = sz := by simpa [hq] using hs
    simp [Builtin.copy_, run_underlying hu, Builtin.lenOf, Builtin.firstCells, sizeOf, typeInfo, hq, hi, ← hn, hl, hst]
theorem run_copy_zero (dT sT ty elem : TypeId) (sz : Nat) (dp sp : Option Addr) (dLen dCap sLen sCap : Nat)
    (hu : P.underlying dT = some (.slice elem)) (hs : (P.info? elem).map (·.size) = some sz) (hn : Nat.min sLen dLen * sz = 0) :
    (Builtin.copy_ #[dT, sT] ty #[.slice dp dLen dCap, .slice sp sLen sCap]).run P w = .ok (goInt (Nat.min sLen dLen)) w := by
  cases hq : P.info? elem with
  | none => simp [hq] at hs
  | some i =>
    have hi : i.size = sz := by simpa [hq] using hs
    cases dp <;> cases sp <;> simp [Builtin.copy_, run_underlying hu, Builtin.lenOf, Builtin.firstCells, sizeOf, typeInfo, hq, hi, hn, loadCells, loadCellsFrom, storeCells]
end

section
variable {P : Program} {w : World} {o : Oper} {a : Act} {K : Act → World → Prop} {Q : Exit → Act → World → Prop}
theorem wp_copy_row (d s : Operand) (dT sT : TypeId) (ho : o.op = .call { callee := .builtin .copy, args := #[d, s], argTypes := #[dT, sT] }) (elem : TypeId) (sz : Nat)
    (hu : P.underlying dT = some (.slice elem)) (hsz : (P.info? elem).map (·.size) = some sz)
    (dp sp : Option Addr) (dLen dCap sLen sCap : Nat) (hd : a.eval d = .slice dp dLen dCap) (hs : a.eval s = .slice sp sLen sCap)
    {v : Sl} {xs : List Value} {e : TypeId} (hrow : Row w e sz v xs) (off : Nat) (cs : List Value) (hn : cs.length = Nat.min sLen dLen * sz)
    (hdst : 0 < cs.length → ∃ g, v.a = some ⟨g, 0, none⟩ ∧ dp = some ⟨g, off, none⟩) (hsrc : 0 < cs.length → ∃ g so, sp = some ⟨g, so, none⟩ ∧ ∀ j u, cs[j]? = some u → w.cell? ⟨g, so + j, none⟩ = some u)
    (hfit : off + cs.length ≤ xs.length) (h1 : ∀ u ∈ cs, u.oneCell' = true)
    (h : ∀ w', Row w' e sz v (splice xs off cs) → w.grownBy w' v.blk → w'.heap.size = w.heap.size → K (a.put o.dst (goInt (Nat.min sLen dLen))) w') : o.wp P a w K Q := by
  by_cases h0 : cs.length = 0
  · obtain rfl : cs = [] := List.eq_nil_of_length_eq_zero h0
    have hrun := run_copy_zero (P := P) w dT sT o.type elem sz dp sp dLen dCap sLen sCap hu hsz (by simpa using hn.symm)
    unfold Oper.wp
    simp [execOp, ho, resolve, invoke, builtin, hd, hs, hrun, Result.andThen]
    exact h w (by simpa [splice] using hrow) (World.grownBy.refl _ _) rfl
  · obtain ⟨g, hva, rfl⟩ := hdst (by omega)
    obtain ⟨g', so, rfl, hcells⟩ := hsrc (by omega)
    rcases hrow.shape with ⟨hh, _⟩ | ⟨g2, cur, hh1, hh2, hh3, hh4, hh5⟩
    · rw [hh] at hva; cases hva
    rw [hh1] at hva; injection hva with hva; injection hva with hva; subst hva
    have hcl : xs.length ≤ cur.size := by rw [← hh5]; simp; omega
    have hrun := run_copy_gen (P := P) w dT sT o.type elem sz g2 off dLen dCap ⟨g', so, none⟩ sLen sCap cur e cs hu hsz hh3 hn
      (fun j u hj => by rw [Addr.add_lit]; exact hcells j u hj) (by omega) h1
    unfold Oper.wp
    simp [execOp, ho, resolve, invoke, builtin, hd, hs, hrun, Result.andThen]
    have hcap := hrow.cap_le
    have hxl := hrow.len
    have hlen : (splice xs off cs).length = xs.length := length_splice xs off cs hfit
    have hw' := setRow_heap w g2 cur ((cur.toList.take off ++ cs ++ cur.toList.drop (off + cs.length)).toArray) e _ hh3
    refine h _ ⟨hlen.trans hxl, .inr ⟨g2, v.c, _, by rw [hh1], Nat.zero_le _, by simpa using hw', hcap.1, hcap.2, ?_, ?_⟩⟩ ?_ (by simp)
    · simp only [List.size_toArray, List.length_append, List.length_take, List.length_drop, Array.length_toList]
      omega
    · rw [← hxl]
      apply List.ext_getElem?
      intro j
      unfold splice
      rw [List.getElem?_take]
      have hx : ∀ i, i < xs.length → xs[i]? = cur.toList[i]? := fun i hi => by rw [← hh5, List.getElem?_take_of_lt (by omega)]
      by_cases hj : j < xs.length
      · rw [if_pos hj]
        simp only [List.getElem?_append, List.length_take, List.length_append, List.getElem?_take, List.getElem?_drop, Array.length_toList]
        have e1 : min off cur.size = off := by omega
        have e2 : min off xs.length = off := by omega
        rw [e1, e2]
        by_cases h3 : j < off
        · simp [h3, show j < off + cs.length by omega, hx j hj]
        · by_cases h4 : j - off < cs.length
          · simp [h3, h4, show j < off + cs.length by omega]
          · simp only [h3, h4, show ¬ j < off + cs.length by omega, if_false]
            rw [hx _ (by omega)]
      · rw [if_neg hj, List.getElem?_eq_none]
        have := length_splice xs off cs hfit
        unfold splice at this
        omega
    · exact ⟨rfl, rfl, rfl, by simp, fun k _ hk => setRow_other w g2 k _ (fun e => hk (by rw [e, hh2]))⟩

theorem wpList_copy_row {ops : Array Oper} {rest : List Oper} (hgd : o.guard = none) (d s : Operand) (dT sT : TypeId) (ho : o.op = .call { callee := .builtin .copy, args := #[d, s], argTypes := #[dT, sT] }) (elem : TypeId) (sz : Nat)
    (hu : P.underlying dT = some (.slice elem)) (hsz : (P.info? elem).map (·.size) = some sz)
    (dp sp : Option Addr) (dLen dCap sLen sCap : Nat) (hd : a.eval d = .slice dp dLen dCap) (hs : a.eval s = .slice sp sLen sCap)
    {v : Sl} {xs : List Value} {e : TypeId} (hrow : Row w e sz v xs) (off : Nat) (cs : List Value) (hn : cs.length = Nat.min sLen dLen * sz)
    (hdst : 0 < cs.length → ∃ g, v.a = some ⟨g, 0, none⟩ ∧ dp = some ⟨g, off, none⟩) (hsrc : 0 < cs.length → ∃ g so, sp = some ⟨g, so, none⟩ ∧ ∀ j u, cs[j]? = some u → w.cell? ⟨g, so + j, none⟩ = some u)
    (hfit : off + cs.length ≤ xs.length) (h1 : ∀ u ∈ cs, u.oneCell' = true)
    (h : ∀ w', Row w' e sz v (splice xs off cs) → w.grownBy w' v.blk → w'.heap.size = w.heap.size → wpList P ops Q rest (a.put o.dst (goInt (Nat.min sLen dLen))) w') : wpList P ops Q (o :: rest) a w :=
  wpList_plain hgd fun _ hK => wp_copy_row d s dT sT ho elem sz hu hsz dp sp dLen dCap sLen sCap hd hs hrow off cs hn hdst hsrc hfit h1 fun w' h2 h3 h4 => hK _ _ (h w' h2 h3 h4)
theorem step_copy_row {ops : Array Oper} {E : Prop} (hgd : o.guard = none) (d s : Operand) (dT sT : TypeId) (ho : o.op = .call { callee := .builtin .copy, args := #[d, s], argTypes := #[dT, sT] }) (elem : TypeId) (sz : Nat)
    (hu : P.underlying dT = some (.slice elem)) (hsz : (P.info? elem).map (·.size) = some sz)
    (dp sp : Option Addr) (dLen dCap sLen sCap : Nat) (hd : a.eval d = .slice dp dLen dCap) (hs : a.eval s = .slice sp sLen sCap)
    {v : Sl} {xs : List Value} {e : TypeId} (hrow : Row w e sz v xs) (off : Nat) (cs : List Value) (hn : cs.length = Nat.min sLen dLen * sz)
    (hdst : 0 < cs.length → ∃ g, v.a = some ⟨g, 0, none⟩ ∧ dp = some ⟨g, off, none⟩) (hsrc : 0 < cs.length → ∃ g so, sp = some ⟨g, so, none⟩ ∧ ∀ j u, cs[j]? = some u → w.cell? ⟨g, so + j, none⟩ = some u)
    (hfit : off + cs.length ≤ xs.length) (h1 : ∀ u ∈ cs, u.oneCell' = true)
    (h : ∀ w', Row w' e sz v (splice xs off cs) → w.grownBy w' v.blk → w'.heap.size = w.heap.size → K (a.put o.dst (goInt (Nat.min sLen dLen))) w') : if Region.wanted o (yielded ops a.tmps) = true then Oper.wp P o a w K Q else E := by
  rw [if_pos (by simp [Region.wanted, hgd])]
  exact wp_copy_row d s dT sT ho elem sz hu hsz dp sp dLen dCap sLen sCap hd hs hrow off cs hn hdst hsrc hfit h1 h
end
end Go.Proofs.Ythhckledkhcfeaa
