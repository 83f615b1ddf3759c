/- A region that draws its order: operations that only read, a call, operations that look at no memory; a new variable may be laid ahead of the call or behind it; then the rest. A region that draws its order: operations that only read, a call, operations that only read, in the world behind the call; then the rest. The store: Pair. (printed by tools/gen_stt.py) The law layer of the store: pick. -/
import Derived.Test.YthhckledkhcfeaaQ09
import Derived.Test.YthhckledkhcfeaaQ12
namespace Go.Proofs.Ythhckledkhcfeaa
open Go.RowKit
section
variable {P : Program}
def planAlloc (ops : Array Oper) (n m : Nat) : Bool :=
  Region.noSelect ops && decide (n < m) && decide (m < ops.size) && match planG ops [n] (some n) n 0 (Array.replicate ops.size false) with
  | some l0 => decide (Region.ready .any ops l0 = [n, m]) && (l0.setIfInBounds n true).getD n false &&
      (match planG ops [n] none (m - (n + 1)) (n + 1) (l0.setIfInBounds n true) with
      | some l1 => planH ops [n] (ops.size - m) m l1
      | none => false) &&
      decide (Region.ready .any ops (l0.setIfInBounds m true) = [n]) && ((l0.setIfInBounds m true).setIfInBounds n true).getD n false &&
      (match planG ops [n] none (m - (n + 1)) (n + 1) ((l0.setIfInBounds m true).setIfInBounds n true) with
      | some l2 => planH ops [n] (ops.size - (m + 1)) (m + 1) l2
      | none => false)
  | none => false
/-- One operation, whatever comes. -/
def wpOne (P : Program) (ops : Array Oper) (Q : Exit → Act → World → Prop) (o : Oper) (T : Act → World → Prop) (a : Act) (w : World) : Prop :=
  ∀ K : Act → World → Prop, (∀ a w, T a w → K a w) → if Region.wanted o (yielded ops a.tmps) then o.wp P a w K Q else K (a.put o.dst undef) w
theorem wpOne_op {ops : Array Oper} {Q : Exit → Act → World → Prop} {o : Oper} {T : Act → World → Prop} {a : Act} {w : World} {i : Nat} (hi : ops[i]? = some o) {K : Act → World → Prop} (h : wpOne P ops Q o T a w) (hK : ∀ a w, T a w → K a w) : wpOp P ops Q i K a w := by
  have hk := h K hK
  unfold wpOp
  simp only [hi]
  split
  · rename_i hw; rw [if_pos hw] at hk; exact .inl hk
  · rename_i hw; rw [if_neg hw] at hk; exact hk
theorem wp_region_alloc {Q : Exit → Act → World → Prop} {id : Nat} {a : Act} {w : World} {l : List Oper} (n m : Nat) (C : World → Prop) {o oA : Oper} {pl r : List Oper} (hd : l.drop n = o :: (pl ++ oA :: r)) (hpl : pl.length = m - (n + 1)) (hm : P.follows .mixedOrders = true) (hB : planAlloc l.toArray n m = true)
    (hQ : ∀ c a d v w, Q (.panic c) (Act.put a d v) w → Q (.panic c) a w) (hC : C w.drew)
    (h : wpQuiet P l.toArray C (fun a =>
        wpOne P l.toArray Q o (fun a w => wpQuiet P l.toArray (fun _ => True) (fun a => wpList P l.toArray Q (oA :: r) a w) pl a) a w.drew ∧
        wpOne P l.toArray Q oA (fun a w => C w ∧ wpOne P l.toArray Q o (fun a w => wpQuiet P l.toArray (fun _ => True) (fun a => wpList P l.toArray Q r a w) pl a) a w) a w.drew) (l.take n) a) : (Code.region id l.toArray true).wp P Q a w := by
  unfold planAlloc at hB
  simp only [Bool.and_eq_true, decide_eq_true_eq] at hB
  obtain ⟨⟨⟨hsel, hnm⟩, hlen⟩, hplan⟩ := hB
  have hlen' : m < l.length := by simpa using hlen
  have hdl : ∀ j, (o :: (pl ++ oA :: r))[j]? = l[n + j]? := fun j => by rw [← hd]; simp
  have h0n : l.toArray[n]? = some o := by have := hdl 0; simpa using this.symm
  have hpj : ∀ j, j < m - (n + 1) → pl[j]? = l.toArray[n + 1 + j]? := fun j hj => by
    have := hdl (j + 1)
    rw [List.getElem?_cons_succ, List.getElem?_append_left (by omega)] at this
    rw [this, List.getElem?_toArray]
    congr 1
    omega
  have htj : ∀ j, (oA :: r)[j]? = l.toArray[m + j]? := fun j => by
    have := hdl (j + (m - (n + 1)) + 1)
    rw [List.getElem?_cons_succ, List.getElem?_append_right (by omega), hpl, Nat.add_sub_cancel] at this
    rw [this, List.getElem?_toArray]
    congr 1
    omega
  have h0m : l.toArray[m]? = some oA := by have := htj 0; simpa using this.symm
  have hrj : ∀ j, r[j]? = l.toArray[m + 1 + j]? := fun j => by
    have := htj (j + 1)
    rw [List.getElem?_cons_succ] at this
    rw [this]
    congr 1
    omega
  have hrl : r.length = l.length - (m + 1) := by have := congrArg List.length hd; simp at this; omega
  split at hplan
  · rename_i l0 hl0
    simp only [Bool.and_eq_true, decide_eq_true_eq] at hplan
    obtain ⟨⟨⟨⟨⟨hr0, hset⟩, hp1⟩, hr2⟩, hset2⟩, hp2⟩ := hplan
    split at hp1
    · rename_i l1 hl1
      split at hp2
      · rename_i l2 hl2
        refine wp_region_any hm (wpAny_of_H (L := [(n, C)]) _ _ _ _ ?_)
        have hsh : Shutl l.toArray (Array.replicate l.toArray.size false) := ⟨by simp, fun j o _ hl => by
          exfalso
          rcases Nat.lt_or_ge j l.toArray.size with hj | hj
          · simp [hj] at hl
            simp_all
          · simp [hj] at hl
            simp_all⟩
        have hH : Held [(n, C)] (Array.replicate l.toArray.size false) w.drew := fun p hp _ => by
          simp only [List.mem_cons, List.mem_nil_iff, or_false] at hp
          subst hp
          exact hC
        have hlisted : ∀ (l' : Array Bool) (w' : World), l'.getD n false = true → Held [(n, C)] l' w' := fun l' w' hg p hp hf => by
          simp only [List.mem_cons, List.mem_nil_iff, or_false] at hp
          subst hp
          rw [hg] at hf
          cases hf
        have hx := wpH_group (P := P) (Q := Q) (L := [(n, C)]) (t := some n) (D := C) (w := w.drew) hsel hQ (fun l w hd hH => hH (n, C) (by simp) (hd n rfl)) (l.toArray.size - (n + 1) + 1) l0 n 0 (l.take n) _ a (fun j hj => by simp [hj]) (by simp; omega) hsh hH hl0
          (fun hsh0 hH0 a ha => by
            refine ⟨fun h1 => (by rw [hr0] at h1; cases h1), fun i hi => ?_⟩
            have hi' := hi
            rw [hr0] at hi
            simp only [List.mem_cons, List.mem_nil_iff, or_false] at hi
            rcases hi with rfl | rfl
            · refine wpOne_op h0n ha.1 fun a' w' hq => ⟨hlisted _ _ hset, ?_⟩
              have := wpH_group (P := P) (Q := Q) (L := [(i, C)]) (t := none) (D := fun _ => True) (w := w') hsel hQ (fun _ _ _ _ => trivial) (l.toArray.size - m) l1 (m - (i + 1)) (i + 1) pl _ a' hpj hpl (hsh0.set hi') (hlisted _ _ hset) hl1
                (fun _ _ a ha => wpH_tail (l.toArray.size - m) m (oA :: r) l1 a w' (fun j _ => htj j) (by simp [hrl]; omega) hp1 (wpTailH_list (fun p hp => by simp only [List.mem_cons, List.mem_nil_iff, or_false] at hp; subst hp; show i ≤ m; omega) ha)) hq
              rw [show m - (i + 1) + (l.toArray.size - m) = l.toArray.size - (i + 1) by omega] at this
              exact this
            · refine wpOne_op h0m ha.2 fun a' w' hq => ?_
              have hHm : Held [(n, C)] (l0.setIfInBounds i true) w' := fun p hp _ => by
                simp only [List.mem_cons, List.mem_nil_iff, or_false] at hp
                subst hp
                exact hq.1
              refine ⟨hHm, ?_⟩
              rw [show l.toArray.size - (n + 1) = (l.toArray.size - (n + 1) - 1) + 1 by omega]
              refine ⟨fun h1 => (by rw [hr2] at h1; cases h1), fun j hj => ?_⟩
              have hj' := hj
              rw [hr2] at hj
              have hjn : j = n := by simpa using hj
              subst hjn
              refine wpOne_op h0n hq.2 fun a' w' hq => ⟨hlisted _ _ hset2, ?_⟩
              have := wpH_group (P := P) (Q := Q) (L := [(j, C)]) (t := none) (D := fun _ => True) (w := w') hsel hQ (fun _ _ _ _ => trivial) (l.toArray.size - (i + 1)) l2 (i - (j + 1)) (j + 1) pl _ a' hpj hpl ((hsh0.set hi').set hj') (hlisted _ _ hset2) hl2
                (fun _ _ a ha => wpH_tail (l.toArray.size - (i + 1)) (i + 1) r l2 a w' (fun j _ => hrj j) (by simp [hrl]) hp2 (wpTailH_list (fun p hp => by simp only [List.mem_cons, List.mem_nil_iff, or_false] at hp; subst hp; show j ≤ i + 1; omega) ha)) hq
              rw [show i - (j + 1) + (l.toArray.size - (i + 1)) = l.toArray.size - (j + 1) - 1 by omega] at this
              exact this) h
        rw [show n + (l.toArray.size - (n + 1) + 1) = l.toArray.size by simp; omega] at hx
        exact hx
      · cases hp2
    · cases hp1
  · cases hplan
theorem wp_region_alloc_ {Q : Exit → Act → World → Prop} {id : Nat} {a : Act} {w : World} {l : List Oper} (n m : Nat) (C : World → Prop) {o oA : Oper} {rest r : List Oper} (hd1 : l.drop n = o :: rest) (hd2 : l.drop m = oA :: r) (hm : P.follows .mixedOrders = true) (hB : planAlloc l.toArray n m = true)
    (hQ : ∀ c a d v w, Q (.panic c) (Act.put a d v) w → Q (.panic c) a w) (hC : C w.drew)
    (h : wpQuiet P l.toArray C (fun a =>
        wpOne P l.toArray Q o (fun a w => wpQuiet P l.toArray (fun _ => True) (fun a => wpList P l.toArray Q (oA :: r) a w) (rest.take (m - (n + 1))) a) a w.drew ∧
        wpOne P l.toArray Q oA (fun a w => C w ∧ wpOne P l.toArray Q o (fun a w => wpQuiet P l.toArray (fun _ => True) (fun a => wpList P l.toArray Q r a w) (rest.take (m - (n + 1))) a) a w) a w.drew) (l.take n) a) : (Code.region id l.toArray true).wp P Q a w := by
  have hB' := hB
  unfold planAlloc at hB'
  simp only [Bool.and_eq_true, decide_eq_true_eq] at hB'
  obtain ⟨⟨⟨-, hnm⟩, hlen⟩, -⟩ := hB'
  have hlen' : m < l.length := by simpa using hlen
  have hrl : rest.length = l.length - (n + 1) := by have := congrArg List.length hd1; simp at this; omega
  have hr : rest.drop (m - (n + 1)) = oA :: r := by
    have h1 : rest = l.drop (n + 1) := by
      have := congrArg (List.drop 1) hd1
      simp only [List.drop_drop, List.drop_succ_cons, List.drop_zero] at this
      exact this.symm
    rw [h1, List.drop_drop, show n + 1 + (m - (n + 1)) = m by omega]
    exact hd2
  refine wp_region_alloc n m C (pl := rest.take (m - (n + 1))) (oA := oA) (r := r) (o := o) ?_ (by rw [List.length_take]; omega) hm hB hQ hC h
  rw [hd1, ← hr, List.take_append_drop]
end
end Go.Proofs.Ythhckledkhcfeaa
namespace Go.Proofs.Ythhckledkhcfeaa
open Go.RowKit
section
variable {P : Program}
theorem wpH_other {ops : Array Oper} {Q : Exit → Act → World → Prop} {L L' : List (Nat × (World → Prop))} : ∀ (f : Nat) (l : Array Bool) (a : Act) (w : World), (∀ p ∈ L, l.getD p.1 false = true) → wpH P ops Q L' f l a w → wpH P ops Q L f l a w
  | 0, _, _, _, _, h => h
  | f + 1, l, a, w, hl, h => ⟨h.1, fun i hi => wpOp_mono (fun a' w' h' => by
      have hl' : ∀ p ∈ L, (l.setIfInBounds i true).getD p.1 false = true := fun p hp => getD_set_true (hl p hp)
      exact ⟨fun p hp hf => (by rw [hl' p hp] at hf; cases hf), wpH_other f _ a' w' hl' h'.2⟩) (h.2 i hi)⟩
def planCallQ (ops : Array Oper) (n m : Nat) : Bool :=
  Region.noSelect ops && decide (n < m) && decide (m < ops.size) && match planG ops [n] (some n) n 0 (Array.replicate ops.size false) with
  | some l0 => decide (Region.ready .any ops l0 = [n]) && (l0.setIfInBounds n true).getD n false && match planG ops [m] (some m) (m - (n + 1)) (n + 1) (l0.setIfInBounds n true) with
    | some l1 => planH ops [m] (ops.size - m) m l1
    | none => false
  | none => false
theorem wp_region_callq {Q : Exit → Act → World → Prop} {id : Nat} {a : Act} {w : World} {l : List Oper} (n m : Nat) (C : World → Prop) {o : Oper} {rest r : List Oper} (hd1 : l.drop n = o :: rest) (hd2 : l.drop m = r) (hm : P.follows .mixedOrders = true) (hB : planCallQ l.toArray n m = true)
    (hQ : ∀ c a d v w, Q (.panic c) (Act.put a d v) w → Q (.panic c) a w) (hC : C w.drew)
    (h : wpQuiet P l.toArray C (fun a =>
        wpOne P l.toArray Q o (fun a w => ∃ D : World → Prop, D w ∧ wpQuiet P l.toArray D (fun a => wpList P l.toArray Q r a w) ((l.drop (n + 1)).take (m - (n + 1))) a) a w.drew) (l.take n) a) : (Code.region id l.toArray true).wp P Q a w := by
  unfold planCallQ at hB
  simp only [Bool.and_eq_true, decide_eq_true_eq] at hB
  obtain ⟨⟨⟨hsel, hnm⟩, hlen⟩, hplan⟩ := hB
  have hlen' : m < l.length := by simpa using hlen
  have h0n : l.toArray[n]? = some o := by
    have : (l.drop n)[0]? = some o := by rw [hd1]; rfl
    simpa using this
  have hrl : r.length = l.length - m := by rw [← hd2]; simp
  have hrj : ∀ j, r[j]? = l.toArray[m + j]? := fun j => by rw [← hd2]; simp
  split at hplan
  · rename_i l0 hl0
    simp only [Bool.and_eq_true, decide_eq_true_eq] at hplan
    obtain ⟨⟨hr0, hset⟩, hplan⟩ := hplan
    split at hplan
    · rename_i l1 hl1
      refine wp_region_any hm (wpAny_of_H (L := [(n, C)]) _ _ _ _ ?_)
      have hsh : Shutl l.toArray (Array.replicate l.toArray.size false) := ⟨by simp, fun j o _ hl => by
        exfalso
        rcases Nat.lt_or_ge j l.toArray.size with hj | hj
        · simp [hj] at hl
          simp_all
        · simp [hj] at hl
          simp_all⟩
      have hH : Held [(n, C)] (Array.replicate l.toArray.size false) w.drew := fun p hp _ => by
        simp only [List.mem_cons, List.mem_nil_iff, or_false] at hp
        subst hp
        exact hC
      have hx := wpH_group (P := P) (Q := Q) (L := [(n, C)]) (t := some n) (D := C) (w := w.drew) hsel hQ (fun l w hd hH => hH (n, C) (by simp) (hd n rfl)) (l.toArray.size - (n + 1) + 1) l0 n 0 (l.take n) _ a (fun j hj => by simp [hj]) (by simp; omega) hsh hH hl0
        (fun hsh0 _ a ha => by
          refine ⟨fun h1 => (by rw [hr0] at h1; cases h1), fun i hi => ?_⟩
          have hi' := hi
          rw [hr0] at hi
          have hin : i = n := by simpa using hi
          subst hin
          refine wpOne_op h0n ha fun a' w' hq => ?_
          obtain ⟨D, hD, hq⟩ := hq
          have hl : ∀ p ∈ [(i, C)], (l0.setIfInBounds i true).getD p.1 false = true := fun p hp => by
            simp only [List.mem_cons, List.mem_nil_iff, or_false] at hp
            subst hp
            exact hset
          refine ⟨fun p hp hf => (by rw [hl p hp] at hf; cases hf), wpH_other (L' := [(m, D)]) _ _ a' w' hl ?_⟩
          have hHD : Held [(m, D)] (l0.setIfInBounds i true) w' := fun p hp _ => by
            simp only [List.mem_cons, List.mem_nil_iff, or_false] at hp
            subst hp
            exact hD
          have := wpH_group (P := P) (Q := Q) (L := [(m, D)]) (t := some m) (D := D) (w := w') hsel hQ (fun l w hd hH => hH (m, D) (by simp) (hd m rfl)) (l.toArray.size - m) l1 (m - (i + 1)) (i + 1) ((l.drop (i + 1)).take (m - (i + 1))) _ a' (fun j hj => by simp [hj]) (by simp; omega) (hsh0.set hi') hHD hl1
            (fun _ _ a ha => wpH_tail (l.toArray.size - m) m r l1 a w' (fun j _ => hrj j) (by simp [hrl]) hplan (wpTailH_list (fun p hp => by simp only [List.mem_cons, List.mem_nil_iff, or_false] at hp; subst hp; exact Nat.le_refl _) ha)) hq
          rw [show m - (i + 1) + (l.toArray.size - m) = l.toArray.size - (i + 1) by simp; omega] at this
          exact this) h
      rw [show n + (l.toArray.size - (n + 1) + 1) = l.toArray.size by simp; omega] at hx
      exact hx
    · cases hplan
  · cases hplan
end
end Go.Proofs.Ythhckledkhcfeaa
namespace Go.Proofs.Ythhckledkhcfeaa
open Go.RowKit
abbrev set16 (w : World) (b : Nat) (v0 v1 v2 v3 v4 v5 v6 v7 v8 v9 v10 v11 v12 v13 v14 v15 : Value) : World := ((((((((((((((((w.setCell ⟨b, 0, none⟩ v0).setCell ⟨b, 1, none⟩ v1).setCell ⟨b, 2, none⟩ v2).setCell ⟨b, 3, none⟩ v3).setCell ⟨b, 4, none⟩ v4).setCell ⟨b, 5, none⟩ v5).setCell ⟨b, 6, none⟩ v6).setCell ⟨b, 7, none⟩ v7).setCell ⟨b, 8, none⟩ v8).setCell ⟨b, 9, none⟩ v9).setCell ⟨b, 10, none⟩ v10).setCell ⟨b, 11, none⟩ v11).setCell ⟨b, 12, none⟩ v12).setCell ⟨b, 13, none⟩ v13).setCell ⟨b, 14, none⟩ v14).setCell ⟨b, 15, none⟩ v15)
theorem set16_only (w : World) (b : Nat) (v0 v1 v2 v3 v4 v5 v6 v7 v8 v9 v10 v11 v12 v13 v14 v15 : Value) : Only w b (set16 w b v0 v1 v2 v3 v4 v5 v6 v7 v8 v9 v10 v11 v12 v13 v14 v15) := (((((((((((((((((Only.refl_ w b).set_ 0 v0).set_ 1 v1).set_ 2 v2).set_ 3 v3).set_ 4 v4).set_ 5 v5).set_ 6 v6).set_ 7 v7).set_ 8 v8).set_ 9 v9).set_ 10 v10).set_ 11 v11).set_ 12 v12).set_ 13 v13).set_ 14 v14).set_ 15 v15)
theorem set16_blk {w : World} {b : Nat} {t : TypeId} {c0 c1 c2 c3 c4 c5 c6 c7 c8 c9 c10 c11 c12 c13 c14 c15 : Value} (h : Blk w b t [c0, c1, c2, c3, c4, c5, c6, c7, c8, c9, c10, c11, c12, c13, c14, c15]) (v0 v1 v2 v3 v4 v5 v6 v7 v8 v9 v10 v11 v12 v13 v14 v15 : Value) : Blk (set16 w b v0 v1 v2 v3 v4 v5 v6 v7 v8 v9 v10 v11 v12 v13 v14 v15) b t [v0, v1, v2, v3, v4, v5, v6, v7, v8, v9, v10, v11, v12, v13, v14, v15] := ((((((((((((((((h.set_ 0 v0).set_ 1 v1).set_ 2 v2).set_ 3 v3).set_ 4 v4).set_ 5 v5).set_ 6 v6).set_ 7 v7).set_ 8 v8).set_ 9 v9).set_ 10 v10).set_ 11 v11).set_ 12 v12).set_ 13 v13).set_ 14 v14).set_ 15 v15)
theorem only_drew {w w' : World} {b : Nat} (h : Only w b w') : Only w b w'.drew := ⟨h.os, h.tape, h.output, h.size, h.block⟩
section
variable {P : Program} {fn : Func} {tmps : Array Value} {w : World} {g g2 : Nat} {t t2 ty : TypeId} {cs cs2 : List Value} {fs : Array Field} {p q u : Tmp}
theorem res_cct (h : fn.results = #[.cell p ty, .cell q ty, .tmp u]) (hp : tmps.getD p undef = .pointer (some ⟨g, 0, none⟩)) (hb : Blk w g t cs) (hp2 : tmps.getD q undef = .pointer (some ⟨g2, 0, none⟩)) (hb2 : Blk w g2 t2 cs2) (hu : P.underlying ty = some (.struct fs)) (hi : (P.info? ty).map (·.size) = some cs.length) (hi2 : (P.info? ty).map (·.size) = some cs2.length) :
    (results fn tmps).run P w = .ok (.tuple #[.agg cs.toArray, .agg cs2.toArray, tmps.getD u undef]) w := by
  simp only [results, h]
  rw [show (#[ResultVar.cell p ty, .cell q ty, .tmp u] : Array ResultVar) = [ResultVar.cell p ty, .cell q ty, .tmp u].toArray from rfl]
  simp only [List.mapM_toArray, List.mapM_cons, List.mapM_nil, Sem.run_bind, hp, hp2, asAddr, Sem.run_pure, Result.andThen_ok, load_blk hb hu hi, load_blk hb2 hu hi2, Sem.run_map]
  simp
end
section
variable {w w' : World} {p : Nat} {σ : St} {h : Hd} {ρ : Roles}
set_option maxRecDepth 100000 in
set_option maxHeartbeats 2000000 in
theorem pair_ok (s : Sto w p σ h ρ) (x : Bool) (ac n : Int) (nm : ByteArray) (r : Nat) (fr ln : Int) {D : Dc} (hD : σ.dicts[r]? = some D) (i : Nat) {kA : Int} {xA : Bool} {aA nA : Int} {mA : ByteArray} {rA fA lA : Int} {kB : Int} {xB : Bool} {aB nB : Int} {mB : ByteArray} {rB fB lB : Int}
    (hU : D.pairs[i]? = some (⟨kA, xA, aA, nA, mA, rA, fA, lA⟩, ⟨kB, xB, aB, nB, mB, rB, fB, lB⟩)) :
    Calls Try.prog 82 #[.pointer (some ⟨p, 0, none⟩), .agg #[.int .i64 8, .bool x, .int .i64 ac, .int .i64 n, .string nm, .int .i64 r, .int .i64 fr, .int .i64 ln], .int .i64 i] w fun e w' =>
      e = .returned (.tuple #[.agg #[.int .i64 kA, .bool xA, .int .i64 aA, .int .i64 nA, .string mA, .int .i64 rA, .int .i64 fA, .int .i64 lA], .agg #[.int .i64 kB, .bool xB, .int .i64 aB, .int .i64 nB, .string mB, .int .i64 rB, .int .i64 fB, .int .i64 lB], .bool true]) ∧ Ext w w' := by
  have hrl := getElem?_lt hD
  have hrl2 : r < 1048576 := by have := s.ok.room; have := s.ok.free0; omega
  obtain ⟨g, d, D', ha, hds, hD', hcell, hblk, hrow, hro1, hro2, hglt, hdn, hok1, hok2⟩ := s.dict_at hrl
  rw [hD] at hD'
  injection hD' with hD'
  subst hD'
  have hmain := s.main
  rw [ha] at hmain
  have hrn : r < h.dicts.n := by rw [s.ndicts]; exact hrl
  have hil := getElem?_lt hU
  have hi1 : i < d.2.n := by rw [hdn]; exact hil
  have hi2 : i ≤ 4096 := by omega
  obtain ⟨g2, hg2, hg2b⟩ := hrow.pos (show 0 < d.2.n by omega)
  have hcap := hrow.cap_le
  simp only [maxLen] at hcap
  rw [hg2] at hblk
  have hHU := Lib.hid hU
  have hHD := Lib.hid hD
  have hHdn := Lib.hid hdn
  clear hD hds ha hdn hok1 hok2 hU
  go_enter Try.func82, Try.ntmps82
  go_upto_region 1 with fail
  generalize hX : World.alloc (World.alloc (World.alloc w _) _) _ = X
  obtain ⟨hx, hB4, hB6, hB7⟩ := boxed3 hX
  clear hX
  have y1 := fun (E : ExtOf X) i => (E.cells hB4.lt i).trans (hB4.cell i)
  have hni : ¬ (i : Int) < 0 := by omega
  have hni2 : ¬ ((d.2.n : Int) ≤ i) := by omega
  refine wp_region_callq 2 23 (fun w' => ∃ E : ExtOf X, w' = E.w) rfl rfl (by kernel_rfl) (by kernel_rfl) (fun c a d v w h => by cases d <;> exact h) ⟨⟨_, (Ext.rfl_ X).drew_⟩, rfl⟩ ?_
  simp only [List.take_succ_cons, List.take_zero, List.drop_succ_cons, List.drop_zero, Nat.reduceSub, Nat.reduceAdd]
  repeat (go_big_quiet_step (fail))
  refine wpQuiet_nil fun K hK => ?_
  clear y1
  go_simp
  refine (is_b (b := true) ((s.ext hx).ext (Ext.rfl_ X).drew_) _ _ _ _ _ _ _ _ _ (isA_dict hrl)).mono ?_
  rintro e w1 ⟨rfl, hx1⟩
  have hX1 : Ext X w1 := (Ext.rfl_ X).drew_.trans_ hx1
  have hxx := hx.trans_ hX1
  refine hK _ _ ⟨fun w' => ∃ E : ExtOf w1, w' = E.w, ⟨⟨_, Ext.rfl_ w1⟩, rfl⟩, ?_⟩
  clear hK K
  have y1 := fun (E : ExtOf w1) j => (E.cells (hmain.ext hxx).lt j).trans ((hmain.ext hxx).cell j)
  have y2 := fun (E : ExtOf w1) j => (E.cells (hB4.ext hX1).lt j).trans ((hB4.ext hX1).cell j)
  have y3 : ∀ (E : ExtOf w1), E.w.cell? ⟨g, r, none⟩ = some (.pointer (some ⟨d.1, 0, none⟩)) := fun E => ((hxx.trans_ E.h).cells hglt r).trans hcell
  have y4 := fun (E : ExtOf w1) j => (E.cells (hblk.ext hxx).lt j).trans ((hblk.ext hxx).cell j)
  have hCell := Lib.hid hcell
  clear hcell
  repeat (go_big_quiet_step (fail))
  refine wpQuiet_nil ?_
  go_upto_region 3 with fail
  have hcells := fun (F : ExtOf w1) => cells_pair ((hrow.ext hxx).ext F.h) hg2 hHU.out
  refine wp_region_plan (C := fun w' => ∃ E : ExtOf w1, w' = E.w) [true, true, true, true, true, true, true, true, true, true, true, true, true, true, false, false] 15 1 (by kernel_rfl) (by kernel_rfl) (fun c a d v w h => by cases d <;> exact h) ⟨⟨_, (Ext.rfl_ w1).drew_⟩, rfl⟩ ?_
  simp only [pickQ, pickT]
  repeat (go_big_quiet_step (fail))
  go_big_quiet_want
  refine quiet_load_at (cs := [.int .i64 kA, .bool xA, .int .i64 aA, .int .i64 nA, .string mA, .int .i64 rA, .int .i64 fA, .int .i64 lA, .int .i64 kB, .bool xB, .int .i64 aB, .int .i64 nB, .string mB, .int .i64 rB, .int .i64 fB, .int .i64 lB]) _ (by rfl) (by rfl) (fun w' hw' => by obtain ⟨F, rfl⟩ := hw'; exact hcells F) Try.underlying122 (by kernel_rfl) ?_
  simp only [Act.put, List.setIfInBounds_toArray, List.set_cons_zero, List.set_cons_succ]
  go_big_quiet_on
  repeat (go_big_quiet_step (fail))
  refine wpQuiet_nil ?_
  clear y1 y2 y3 y4 hcells
  refine wpTail_cons (fun K hK => ?_)
  go_simp
  refine hK _ _ ⟨⟨_, ((Ext.rfl_ w1).drew_.alloc_ _)⟩, rfl⟩ ?_
  clear hK K
  refine wpTail_zero ?_
  generalize hZ : World.drew (World.alloc w1 _) = Z
  have hxZ : Ext w1 Z := by rw [← hZ]; exact ((Ext.rfl_ w1).alloc_ _).drew_
  have hz : Blk Z w1.heap.size 122 [.int .i64 0, .bool false, .int .i64 0, .int .i64 0, .string ByteArray.empty, .int .i64 0, .int .i64 0, .int .i64 0, .int .i64 0, .bool false, .int .i64 0, .int .i64 0, .string ByteArray.empty, .int .i64 0, .int .i64 0, .int .i64 0] := by rw [← hZ]; exact (Blk.new w1 122 _).drew
  clear hZ
  have zc := hz.cell
  have zf := hz.frozen
  go_upto_region 4 with fail
  have h9 := set16_blk hz (.int .i64 kA) (.bool xA) (.int .i64 aA) (.int .i64 nA) (.string mA) (.int .i64 rA) (.int .i64 fA) (.int .i64 lA) (.int .i64 kB) (.bool xB) (.int .i64 aB) (.int .i64 nB) (.string mB) (.int .i64 rB) (.int .i64 fB) (.int .i64 lB)
  have o9 := set16_only Z w1.heap.size (.int .i64 kA) (.bool xA) (.int .i64 aA) (.int .i64 nA) (.string mA) (.int .i64 rA) (.int .i64 fA) (.int .i64 lA) (.int .i64 kB) (.bool xB) (.int .i64 aB) (.int .i64 nB) (.string mB) (.int .i64 rB) (.int .i64 fB) (.int .i64 lB)
  have x9 := hxZ.only o9 (Nat.le_refl _)
  clear zc zf hz
  unfold set16 at h9 o9 x9
  generalize World.setCell _ ⟨w1.heap.size, 15, none⟩ (.int .i64 lB) = Z1 at h9 o9 x9 ⊢
  clear o9
  have hB6' := (hB6.ext hX1).ext x9
  have hB7' := (hB7.ext hX1).ext x9
  have hlt6 : w.heap.size + 1 < w1.heap.size := (hB6.ext hX1).lt
  have hlt7 : w.heap.size + 2 < w1.heap.size := (hB7.ext hX1).lt
  have hne : ¬ w1.heap.size = w.heap.size + 1 := by omega
  have y9 := fun (E : But Z1 (fun b => b = w.heap.size + 1)) j => (E.cells h9.lt hne j).trans (h9.cell j)
  refine wp_region_three 0 2 2 0 4 5 6 (fun w' => ∃ E : But Z1 (fun b => b = w.heap.size + 1), w' = E.w) (fun w' => ∃ E : But Z1 (fun b => b = w.heap.size + 1), w' = E.w) (fun _ => True) (by kernel_rfl) (by kernel_rfl) (fun c a d v w h => by cases d <;> exact h) (InBut.of (Nat.le_refl _) fun _ _ _ => rfl) (InBut.of (Nat.le_refl _) fun _ _ _ => rfl) trivial ?_
  simp only [List.take_succ_cons, List.take_zero, List.drop_succ_cons, List.drop_zero]
  refine wpQuiet_nil ?_
  repeat (go_big_quiet_step (fail))
  refine wpQuiet_nil ?_
  repeat (go_big_quiet_step (fail))
  refine wpQuiet_nil ?_
  refine wpQuiet_nil ?_
  clear y9
  have hB7'' : Blk Z1 (w.heap.size + 1 + 1) 27 _ := hB7'
  have c6 := hB6'.cell
  have f6 := hB6'.frozen
  refine wpTailH_cons (fun K hK => ?_)
  go_simp
  have b6 := (set8_blk hB6' (.int .i64 kA) (.bool xA) (.int .i64 aA) (.int .i64 nA) (.string mA) (.int .i64 rA) (.int .i64 fA) (.int .i64 lA)).drew
  have o6 := only_drew (set8_only Z1 (w.heap.size + 1) (.int .i64 kA) (.bool xA) (.int .i64 aA) (.int .i64 nA) (.string mA) (.int .i64 rA) (.int .i64 fA) (.int .i64 lA))
  have b7 := hB7''.keep (o6.block _ (by omega))
  refine hK _ _ (by
    intro q hq hlt
    have hin := InBut.of (W := Z1) (F := fun b => b = w.heap.size + 1) (Nat.le_of_eq o6.size.symm) (fun b _ hn => o6.block b hn)
    simp only [List.mem_cons, List.mem_nil_iff, or_false] at hq
    rcases hq with rfl | rfl | rfl
    · exact hin
    · exact hin
    · trivial) ?_
  clear hK K
  unfold set8 at b6 o6 b7
  generalize World.drew (World.setCell _ ⟨w.heap.size + 1, 7, none⟩ (.int .i64 lA)) = Z2 at b6 o6 b7 ⊢
  clear c6 f6
  have c7 := b7.cell
  have f7 := b7.frozen
  refine wpTailH_cons (fun K hK => ?_)
  go_simp
  have b7' := set8_blk b7 (.int .i64 kB) (.bool xB) (.int .i64 aB) (.int .i64 nB) (.string mB) (.int .i64 rB) (.int .i64 fB) (.int .i64 lB)
  have o7 := set8_only Z2 (w.heap.size + 1 + 1) (.int .i64 kB) (.bool xB) (.int .i64 aB) (.int .i64 nB) (.string mB) (.int .i64 rB) (.int .i64 fB) (.int .i64 lB)
  have b6' := b6.keep (o7.block _ (by omega))
  refine hK _ _ (by
    intro q hq hlt
    simp only [List.mem_cons, List.mem_nil_iff, or_false] at hq
    rcases hq with rfl | rfl | rfl
    · exact absurd hlt (show ¬ (5 : Nat) < 4 by omega)
    · exact absurd hlt (show ¬ (5 : Nat) < 5 by omega)
    · trivial) ?_
  clear hK K
  unfold set8 at b7' o7 b6'
  generalize World.setCell _ ⟨w.heap.size + 1 + 1, 7, none⟩ (.int .i64 lB) = Z3 at b7' o7 b6' ⊢
  clear c7 f7
  refine wpTailH_list (fun q hq => by
    simp only [List.mem_cons, List.mem_nil_iff, or_false] at hq
    rcases hq with rfl | rfl | rfl
    · exact show (4 : Nat) ≤ 6 by omega
    · exact show (5 : Nat) ≤ 6 by omega
    · exact show (6 : Nat) ≤ 6 by omega) ?_
  go_wp2
  have hfin : Ext w Z3 := ((hxx.trans_ x9).only o6 (by omega)).only o7 (by omega)
  refine bodyPost_ret (res_cct rfl rfl b6' rfl b7' Try.underlying27 (by kernel_rfl) (by kernel_rfl)) rfl ⟨rfl, hfin⟩
end
end Go.Proofs.Ythhckledkhcfeaa
namespace Go.Proofs.Ythhckledkhcfeaa
open Go.RowKit
def natK (k : Int) : Nat := if k < 0 then (-(k + 1)).toNat else k.toNat
/-- One of what was made, or a plain thing. -/
def pickF (L : List Ob) (V : List Vl) (k : Int) : Ob × Vl :=
  if 0 < L.length ∧ 0 < natK k % 3 then (L.getD (natK k % L.length) Ob.null, V.getD (natK k % L.length) (.plain 0 false 0 ByteArray.empty)) else plainF (natK k % 100)
theorem View.at_ {α : Type} {w : World} {sz n : Nat} {A : Option Addr} {f : α → List Value} {l : List α} (h : View w sz A n (l.flatMap f)) (hf : ∀ a, (f a).length = sz) (hz : 0 < sz) {i : Nat} {x : α} (hx : l[i]? = some x) :
    ∃ g o, A = some ⟨g, o, none⟩ ∧ g < w.heap.size ∧ ∀ j u, (f x)[j]? = some u → w.cell? ⟨g, o + i * sz + j, none⟩ = some u := by
  have hil := getElem?_lt hx
  have hlen : (l.flatMap f).length = l.length * sz := length_flat f sz hf l
  obtain ⟨g, o, h1, h2, h3⟩ := h.2 (by rw [hlen]; exact Nat.mul_pos (by omega) hz)
  refine ⟨g, o, h1, h2, fun j u hu => ?_⟩
  have hj : j < sz := by rw [← hf x]; exact getElem?_lt hu
  rw [Nat.add_assoc]
  refine h3 _ _ ?_
  rw [getElem?_flat f sz hf l i x j hx hj]
  exact hu
set_option maxRecDepth 100000 in
set_option maxHeartbeats 4000000 in
theorem pick_c {w : World} {A B : Option Addr} {n c d : Nat} {L : List Ob} {V : List Vl} (hA : View w 8 A n (obCells L)) (hB : View w 10 B n (V.flatMap Vl.cells)) (hn : n ≤ 1048576) (k : Int) (hk : I64 k) :
    Calls Try.prog 31 #[.slice A n c, .slice B n d, .int .i64 k] w fun e w' => e = .returned (.tuple #[.agg (pickF L V k).1.cells.toArray, .agg (pickF L V k).2.cells.toArray]) ∧ Ext w w' := by
  obtain ⟨hk1, hk2⟩ := hk
  have hLn : L.length = n := by have := hA.1; rw [length_obCells] at this; omega
  have hVn : V.length = n := by have := hB.1; rw [length_flat Vl.cells 10 (fun _ => rfl)] at this; omega
  obtain ⟨K, hK⟩ : ∃ K, natK k = K := ⟨_, rfl⟩
  have hKb : K ≤ 9223372036854775807 := by rw [← hK]; unfold natK; split <;> omega
  unfold pickF
  rw [hK, hLn]
  have hHA := Lib.hid hA
  have hHB := Lib.hid hB
  have hHL := Lib.hid hLn
  have hHV := Lib.hid hVn
  clear hA hB hLn hVn
  obtain ⟨r, hr⟩ : ∃ r, K % 3 = r := ⟨_, rfl⟩
  obtain ⟨q, hq⟩ : ∃ q, K % 100 = q := ⟨_, rfl⟩
  have hq100 : q < 100 := by omega
  have t1 : (K : Int).tmod 3 = r := by rw [Int.tmod_eq_emod_of_nonneg (by omega)]; omega
  have t2 : (K : Int).tmod 100 = q := by rw [Int.tmod_eq_emod_of_nonneg (by omega)]; omega
  rw [hr, hq]
  have hr3 : r < 3 := by omega
  clear hr hq
  have hkk : k = (K : Int) ∨ (k < 0 ∧ k = -((K : Int) + 1)) := by
    unfold natK at hK
    split at hK
    · exact .inr ⟨by assumption, by omega⟩
    · exact .inl (by omega)
  clear hK
  by_cases hpick : 0 < n ∧ 0 < r
  · rw [if_pos hpick]
    obtain ⟨hn0, hr0⟩ := hpick
    obtain ⟨j, hj⟩ : ∃ j, K % n = j := ⟨_, rfl⟩
    have hjn : j < n := by rw [← hj]; exact Nat.mod_lt _ hn0
    have t3 : (K : Int).tmod (n : Int) = j := by rw [Int.tmod_eq_emod_of_nonneg (by omega), ← hj]; simp
    rw [hj]
    clear hj
    have z1 : ((n : Int) == 0) = false := by simp; omega
    have z2 : ¬ (n : Int) = 0 := by omega
    have hn0i : (0 : Int) < n := by omega
    have hr0i : (0 : Int) < r := by omega
    obtain ⟨⟨k1, b1, a1, n1, m1, r1, f1, l1⟩, ho⟩ : ∃ o, L[j]? = some o := ⟨_, List.getElem?_eq_getElem (by rw [hHL.out]; exact hjn)⟩
    obtain ⟨⟨k2, b2, a2, n2, m2, s2, p2, d2, f2, l2⟩, hv⟩ : ∃ v, V[j]? = some v := ⟨_, List.getElem?_eq_getElem (by rw [hHV.out]; exact hjn)⟩
    rw [show L.getD j Ob.null = ⟨k1, b1, a1, n1, m1, r1, f1, l1⟩ by simp [List.getD, ho], show V.getD j (.plain 0 false 0 ByteArray.empty) = ⟨k2, b2, a2, n2, m2, s2, p2, d2, f2, l2⟩ by simp [List.getD, hv]]
    obtain ⟨gA, oA, rfl, hgA, hcA⟩ := View.at_ (f := Ob.cells) hHA.out Ob.cells_len (by omega) ho
    obtain ⟨gB, oB, rfl, hgB, hcB⟩ := View.at_ (f := Vl.cells) hHB.out (fun _ => rfl) (by omega) hv
    have hHcA := Lib.hid hcA
    have hHcB := Lib.hid hcB
    clear hcA hcB ho hv
    have ea : -((K : Int) + 1) + 1 = -(K : Int) := by omega
    clear hr0 hn0
    rcases hkk with rfl | ⟨hneg, rfl⟩
    all_goals
      clear hk1 hk2
      go_enter Try.func31, Try.ntmps31
      go_upto_region 1 with fail
      generalize hX : World.alloc (World.alloc w _) _ = X
      obtain ⟨hx, hB6, hB7⟩ := boxed2 hX
      clear hX
      go_upto_region 4 with fail
      have hcA := fun (E : But X (fun b => b = w.heap.size)) (i : Nat) (u : Value) (hu : ([.int .i64 k1, .bool b1, .int .i64 a1, .int .i64 n1, .string m1, .int .i64 r1, .int .i64 f1, .int .i64 l1] : List Value)[i]? = some u) => (E.cells (Nat.lt_of_lt_of_le hgA hx.size) (by omega) (oA + j * 8 + i)).trans ((hx.cells hgA (oA + j * 8 + i)).trans (hHcA.out i u hu))
      have hcB := fun (E : But X (fun b => b = w.heap.size)) (i : Nat) (u : Value) (hu : ([.int .i64 k2, .bool b2, .int .i64 a2, .int .i64 n2, .string m2, .pointer s2, .pointer p2, .pointer d2, .int .i64 f2, .int .i64 l2] : List Value)[i]? = some u) => (E.cells (Nat.lt_of_lt_of_le hgB hx.size) (by omega) (oB + j * 10 + i)).trans ((hx.cells hgB (oB + j * 10 + i)).trans (hHcB.out i u hu))
      refine wp_region_three 0 7 7 0 14 15 16 (fun w' => ∃ E : But X (fun b => b = w.heap.size), w' = E.w) (fun w' => ∃ E : But X (fun b => b = w.heap.size), w' = E.w) (fun _ => True) (by kernel_rfl) (by kernel_rfl) (fun c a d v w h => by cases d <;> exact h) (InBut.of (Nat.le_refl _) fun _ _ _ => rfl) (InBut.of (Nat.le_refl _) fun _ _ _ => rfl) trivial ?_
      simp only [List.take_succ_cons, List.take_zero, List.drop_succ_cons, List.drop_zero]
      refine wpQuiet_nil ?_
      repeat (go_big_quiet_step (fail))
      go_big_quiet_want
      refine quiet_load_at (cs := [.int .i64 k1, .bool b1, .int .i64 a1, .int .i64 n1, .string m1, .int .i64 r1, .int .i64 f1, .int .i64 l1]) _ (by rfl) (by rfl) (fun w' hw' => by obtain ⟨F, rfl⟩ := hw'; exact hcA F) Try.underlying27 (by kernel_rfl) ?_
      simp only [Act.put, List.setIfInBounds_toArray, List.set_cons_zero, List.set_cons_succ]
      go_big_quiet_on
      refine wpQuiet_nil ?_
      repeat (go_big_quiet_step (fail))
      go_big_quiet_want
      refine quiet_load_at (cs := [.int .i64 k2, .bool b2, .int .i64 a2, .int .i64 n2, .string m2, .pointer s2, .pointer p2, .pointer d2, .int .i64 f2, .int .i64 l2]) _ (by rfl) (by rfl) (fun w' hw' => by obtain ⟨F, rfl⟩ := hw'; exact hcB F) Try.underlying69 (by kernel_rfl) ?_
      simp only [Act.put, List.setIfInBounds_toArray, List.set_cons_zero, List.set_cons_succ]
      go_big_quiet_on
      refine wpQuiet_nil ?_
      refine wpQuiet_nil ?_
      clear hcA hcB
      have c6 := hB6.cell
      have f6 := hB6.frozen
      refine wpTailH_cons (fun KK hKK => ?_)
      go_simp
      have h6 := (set8_blk hB6 (.int .i64 k1) (.bool b1) (.int .i64 a1) (.int .i64 n1) (.string m1) (.int .i64 r1) (.int .i64 f1) (.int .i64 l1)).drew
      have o6 := only_drew (set8_only X w.heap.size (.int .i64 k1) (.bool b1) (.int .i64 a1) (.int .i64 n1) (.string m1) (.int .i64 r1) (.int .i64 f1) (.int .i64 l1))
      have h7 := hB7.keep (o6.block _ (by omega))
      refine hKK _ _ (by
        intro z hz hlt
        have hin := InBut.of (W := X) (F := fun b => b = w.heap.size) (Nat.le_of_eq o6.size.symm) (fun b _ hn => o6.block b hn)
        simp only [List.mem_cons, List.mem_nil_iff, or_false] at hz
        rcases hz with rfl | rfl | rfl
        · exact hin
        · exact hin
        · trivial) ?_
      clear hKK KK
      unfold set8 at h6 o6 h7
      generalize World.drew (World.setCell _ ⟨w.heap.size, 7, none⟩ (.int .i64 l1)) = Z2 at h6 o6 h7 ⊢
      clear c6 f6
      have c7 := h7.cell
      have f7 := h7.frozen
      refine wpTailH_cons (fun KK hKK => ?_)
      go_simp
      have h7' := set10_blk h7 (.int .i64 k2) (.bool b2) (.int .i64 a2) (.int .i64 n2) (.string m2) (.pointer s2) (.pointer p2) (.pointer d2) (.int .i64 f2) (.int .i64 l2)
      have o7 := set10_only Z2 (w.heap.size + 1) (.int .i64 k2) (.bool b2) (.int .i64 a2) (.int .i64 n2) (.string m2) (.pointer s2) (.pointer p2) (.pointer d2) (.int .i64 f2) (.int .i64 l2)
      have h6' := h6.keep (o7.block _ (by omega))
      refine hKK _ _ (by
        intro z hz hlt
        simp only [List.mem_cons, List.mem_nil_iff, or_false] at hz
        rcases hz with rfl | rfl | rfl
        · exact absurd hlt (show ¬ (15 : Nat) < 14 by omega)
        · exact absurd hlt (show ¬ (15 : Nat) < 15 by omega)
        · trivial) ?_
      clear hKK KK
      unfold set10 at h7' o7 h6'
      generalize World.setCell _ ⟨w.heap.size + 1, 9, none⟩ (.int .i64 l2) = Z3 at h7' o7 h6' ⊢
      clear c7 f7
      refine wpTailH_list (fun z hz => by
        simp only [List.mem_cons, List.mem_nil_iff, or_false] at hz
        rcases hz with rfl | rfl | rfl
        · exact show (14 : Nat) ≤ 16 by omega
        · exact show (15 : Nat) ≤ 16 by omega
        · exact show (16 : Nat) ≤ 16 by omega) ?_
      go_wp2
      have hfin : Ext w Z3 := (hx.only o6 (Nat.le_refl _)).only o7 (by omega)
      refine bodyPost_ret (res_cc rfl rfl h6' rfl h7' Try.underlying27 (by kernel_rfl) Try.underlying69 (by kernel_rfl)) rfl ⟨rfl, hfin⟩
  · rw [if_neg hpick]
    have ea : -((K : Int) + 1) + 1 = -(K : Int) := by omega
    have hpl := fun w => plain_c q hq100 w
    rcases hpf : plainF q with ⟨⟨k1, b1, a1, n1, m1, r1, f1, l1⟩, ⟨k2, b2, a2, n2, m2, s2, p2, d2, f2, l2⟩⟩
    rw [hpf] at hpl
    simp only [Ob.cells, Vl.cells] at hpl
    have hPl := Lib.hid hpl
    clear hpl hpf
    have hor : n = 0 ∨ (0 < n ∧ r = 0) := by omega
    clear hpick
    rcases hor with hn0 | ⟨hn0, hr0⟩
    all_goals
      rcases hkk with rfl | ⟨hneg, rfl⟩
    all_goals
      clear hk1 hk2
      have hni : (n : Int) = 0 ∨ (0 < (n : Int) ∧ (r : Int) = 0) := by omega
      clear hni
      go_enter Try.func31, Try.ntmps31
      go_upto_region 1 with fail
      generalize hX : World.alloc (World.alloc w _) _ = X
      obtain ⟨hx, hB6, hB7⟩ := boxed2 hX
      clear hX
      go_upto_region 5 with fail
      go_wp2_with (
        go_at_call 83
        refine (hPl.out _).mono ?_
        rintro e w1 ⟨rfl, hx1⟩
        have c6 := (hB6.ext hx1).cell
        have f6 := (hB6.ext hx1).frozen
        have c7 := (hB7.ext hx1).cell
        have f7 := (hB7.ext hx1).frozen)
      have h6 := set8_blk (hB6.ext hx1) (.int .i64 k1) (.bool b1) (.int .i64 a1) (.int .i64 n1) (.string m1) (.int .i64 r1) (.int .i64 f1) (.int .i64 l1)
      have o6 := set8_only w1 w.heap.size (.int .i64 k1) (.bool b1) (.int .i64 a1) (.int .i64 n1) (.string m1) (.int .i64 r1) (.int .i64 f1) (.int .i64 l1)
      have h7 := (hB7.ext hx1).keep (o6.block _ (by omega))
      have x6 := (hx.trans_ hx1).only o6 (Nat.le_refl _)
      unfold set8 at h6 o6 h7 x6
      generalize World.setCell _ ⟨w.heap.size, 7, none⟩ (.int .i64 l1) = Z2 at h6 o6 h7 x6 ⊢
      have h7' := set10_blk h7 (.int .i64 k2) (.bool b2) (.int .i64 a2) (.int .i64 n2) (.string m2) (.pointer s2) (.pointer p2) (.pointer d2) (.int .i64 f2) (.int .i64 l2)
      have o7 := set10_only Z2 (w.heap.size + 1) (.int .i64 k2) (.bool b2) (.int .i64 a2) (.int .i64 n2) (.string m2) (.pointer s2) (.pointer p2) (.pointer d2) (.int .i64 f2) (.int .i64 l2)
      have h6' := h6.keep (o7.block _ (by omega))
      unfold set10 at h7' o7 h6'
      generalize World.setCell _ ⟨w.heap.size + 1, 9, none⟩ (.int .i64 l2) = Z3 at h7' o7 h6' ⊢
      refine bodyPost_ret (res_cc rfl rfl h6' rfl h7' Try.underlying27 (by kernel_rfl) Try.underlying69 (by kernel_rfl)) rfl ⟨rfl, x6.only o7 (by omega)⟩
end Go.Proofs.Ythhckledkhcfeaa
