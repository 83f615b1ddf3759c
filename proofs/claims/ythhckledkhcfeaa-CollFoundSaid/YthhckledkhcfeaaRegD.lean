/- A region that draws its order: operations that only read, a call, operations that look at no memory; a new variable may be laid ahead of the call or behind it; then the rest. -/
import Derived.Test.YthhckledkhcfeaaRegC
namespace Go.Proofs.Ythhckledkhcfeaa
open Go.RowKit
section
variable {P : Program}
def planAlloc (ops : Array Oper) (n m : Nat) : Bool :=
  Region.noSelect ops && decide (n < m) && decide (m < ops.size) && match planG ops [n] (some n) n 0 (Array.replicate ops.size false) with
  | some l0 => decide (Region.ready .any ops l0 = [n, m]) && (l0.setIfInBounds n true).getD n false &&
      (match planG ops [n] none (m - (n + 1)) (n + 1) (l0.setIfInBounds n true) with
      | some l1 => planH ops [n] (ops.size - m) m l1
      | none => false) &&
      decide (Region.ready .any ops (l0.setIfInBounds m true) = [n]) && ((l0.setIfInBounds m true).setIfInBounds n true).getD n false &&
      (match planG ops [n] none (m - (n + 1)) (n + 1) ((l0.setIfInBounds m true).setIfInBounds n true) with
      | some l2 => planH ops [n] (ops.size - (m + 1)) (m + 1) l2
      | none => false)
  | none => false
/-- One operation, whatever comes. -/
def wpOne (P : Program) (ops : Array Oper) (Q : Exit → Act → World → Prop) (o : Oper) (T : Act → World → Prop) (a : Act) (w : World) : Prop :=
  ∀ K : Act → World → Prop, (∀ a w, T a w → K a w) → if Region.wanted o (yielded ops a.tmps) then o.wp P a w K Q else K (a.put o.dst undef) w
theorem wpOne_op {ops : Array Oper} {Q : Exit → Act → World → Prop} {o : Oper} {T : Act → World → Prop} {a : Act} {w : World} {i : Nat} (hi : ops[i]? = some o) {K : Act → World → Prop} (h : wpOne P ops Q o T a w) (hK : ∀ a w, T a w → K a w) : wpOp P ops Q i K a w := by
  have hk := h K hK
  unfold wpOp
  simp only [hi]
  split
  · rename_i hw; rw [if_pos hw] at hk; exact .inl hk
  · rename_i hw; rw [if_neg hw] at hk; exact hk
theorem wp_region_alloc {Q : Exit → Act → World → Prop} {id : Nat} {a : Act} {w : World} {l : List Oper} (n m : Nat) (C : World → Prop) {o oA : Oper} {pl r : List Oper} (hd : l.drop n = o :: (pl ++ oA :: r)) (hpl : pl.length = m - (n + 1)) (hm : P.follows .mixedOrders = true) (hB : planAlloc l.toArray n m = true)
    (hQ : ∀ c a d v w, Q (.panic c) (Act.put a d v) w → Q (.panic c) a w) (hC : C w.drew)
    (h : wpQuiet P l.toArray C (fun a =>
        wpOne P l.toArray Q o (fun a w => wpQuiet P l.toArray (fun _ => True) (fun a => wpList P l.toArray Q (oA :: r) a w) pl a) a w.drew ∧
        wpOne P l.toArray Q oA (fun a w => C w ∧ wpOne P l.toArray Q o (fun a w => wpQuiet P l.toArray (fun _ => True) (fun a => wpList P l.toArray Q r a w) pl a) a w) a w.drew) (l.take n) a) : (Code.region id l.toArray true).wp P Q a w := by
  unfold planAlloc at hB
  simp only [Bool.and_eq_true, decide_eq_true_eq] at hB
  obtain ⟨⟨⟨hsel, hnm⟩, hlen⟩, hplan⟩ := hB
  have hlen' : m < l.length := by simpa using hlen
  have hdl : ∀ j, (o :: (pl ++ oA :: r))[j]? = l[n + j]? := fun j => by rw [← hd]; simp
  have h0n : l.toArray[n]? = some o := by have := hdl 0; simpa using this.symm
  have hpj : ∀ j, j < m - (n + 1) → pl[j]? = l.toArray[n + 1 + j]? := fun j hj => by
    have := hdl (j + 1)
    rw [List.getElem?_cons_succ, List.getElem?_append_left (by omega)] at this
    rw [this, List.getElem?_toArray]
    congr 1
    omega
  have htj : ∀ j, (oA :: r)[j]? = l.toArray[m + j]? := fun j => by
    have := hdl (j + (m - (n + 1)) + 1)
    rw [List.getElem?_cons_succ, List.getElem?_append_right (by omega), hpl, Nat.add_sub_cancel] at this
    rw [this, List.getElem?_toArray]
    congr 1
    omega
  have h0m : l.toArray[m]? = some oA := by have := htj 0; simpa using this.symm
  have hrj : ∀ j, r[j]? = l.toArray[m + 1 + j]? := fun j => by
    have := htj (j + 1)
    rw [List.getElem?_cons_succ] at this
    rw [this]
    congr 1
    omega
  have hrl : r.length = l.length - (m + 1) := by have := congrArg List.length hd; simp at this; omega
  split at hplan
  · rename_i l0 hl0
    simp only [Bool.and_eq_true, decide_eq_true_eq] at hplan
    obtain ⟨⟨⟨⟨⟨hr0, hset⟩, hp1⟩, hr2⟩, hset2⟩, hp2⟩ := hplan
    split at hp1
    · rename_i l1 hl1
      split at hp2
      · rename_i l2 hl2
        refine wp_region_any hm (wpAny_of_H (L := [(n, C)]) _ _ _ _ ?_)
        have hsh : Shutl l.toArray (Array.replicate l.toArray.size false) := ⟨by simp, fun j o _ hl => by
          exfalso
          rcases Nat.lt_or_ge j l.toArray.size with hj | hj
          · simp [hj] at hl
            simp_all
          · simp [hj] at hl
            simp_all⟩
        have hH : Held [(n, C)] (Array.replicate l.toArray.size false) w.drew := fun p hp _ => by
          simp only [List.mem_cons, List.mem_nil_iff, or_false] at hp
          subst hp
          exact hC
        have hlisted : ∀ (l' : Array Bool) (w' : World), l'.getD n false = true → Held [(n, C)] l' w' := fun l' w' hg p hp hf => by
          simp only [List.mem_cons, List.mem_nil_iff, or_false] at hp
          subst hp
          rw [hg] at hf
          cases hf
        have hx := wpH_group (P := P) (Q := Q) (L := [(n, C)]) (t := some n) (D := C) (w := w.drew) hsel hQ (fun l w hd hH => hH (n, C) (by simp) (hd n rfl)) (l.toArray.size - (n + 1) + 1) l0 n 0 (l.take n) _ a (fun j hj => by simp [hj]) (by simp; omega) hsh hH hl0
          (fun hsh0 hH0 a ha => by
            refine ⟨fun h1 => (by rw [hr0] at h1; cases h1), fun i hi => ?_⟩
            have hi' := hi
            rw [hr0] at hi
            simp only [List.mem_cons, List.mem_nil_iff, or_false] at hi
            rcases hi with rfl | rfl
            · refine wpOne_op h0n ha.1 fun a' w' hq => ⟨hlisted _ _ hset, ?_⟩
              have := wpH_group (P := P) (Q := Q) (L := [(i, C)]) (t := none) (D := fun _ => True) (w := w') hsel hQ (fun _ _ _ _ => trivial) (l.toArray.size - m) l1 (m - (i + 1)) (i + 1) pl _ a' hpj hpl (hsh0.set hi') (hlisted _ _ hset) hl1
                (fun _ _ a ha => wpH_tail (l.toArray.size - m) m (oA :: r) l1 a w' (fun j _ => htj j) (by simp [hrl]; omega) hp1 (wpTailH_list (fun p hp => by simp only [List.mem_cons, List.mem_nil_iff, or_false] at hp; subst hp; show i ≤ m; omega) ha)) hq
              rw [show m - (i + 1) + (l.toArray.size - m) = l.toArray.size - (i + 1) by omega] at this
              exact this
            · refine wpOne_op h0m ha.2 fun a' w' hq => ?_
              have hHm : Held [(n, C)] (l0.setIfInBounds i true) w' := fun p hp _ => by
                simp only [List.mem_cons, List.mem_nil_iff, or_false] at hp
                subst hp
                exact hq.1
              refine ⟨hHm, ?_⟩
              rw [show l.toArray.size - (n + 1) = (l.toArray.size - (n + 1) - 1) + 1 by omega]
              refine ⟨fun h1 => (by rw [hr2] at h1; cases h1), fun j hj => ?_⟩
              have hj' := hj
              rw [hr2] at hj
              have hjn : j = n := by simpa using hj
              subst hjn
              refine wpOne_op h0n hq.2 fun a' w' hq => ⟨hlisted _ _ hset2, ?_⟩
              have := wpH_group (P := P) (Q := Q) (L := [(j, C)]) (t := none) (D := fun _ => True) (w := w') hsel hQ (fun _ _ _ _ => trivial) (l.toArray.size - (i + 1)) l2 (i - (j + 1)) (j + 1) pl _ a' hpj hpl ((hsh0.set hi').set hj') (hlisted _ _ hset2) hl2
                (fun _ _ a ha => wpH_tail (l.toArray.size - (i + 1)) (i + 1) r l2 a w' (fun j _ => hrj j) (by simp [hrl]) hp2 (wpTailH_list (fun p hp => by simp only [List.mem_cons, List.mem_nil_iff, or_false] at hp; subst hp; show j ≤ i + 1; omega) ha)) hq
              rw [show i - (j + 1) + (l.toArray.size - (i + 1)) = l.toArray.size - (j + 1) - 1 by omega] at this
              exact this) h
        rw [show n + (l.toArray.size - (n + 1) + 1) = l.toArray.size by simp; omega] at hx
        exact hx
      · cases hp2
    · cases hp1
  · cases hplan
theorem wp_region_alloc_ {Q : Exit → Act → World → Prop} {id : Nat} {a : Act} {w : World} {l : List Oper} (n m : Nat) (C : World → Prop) {o oA : Oper} {rest r : List Oper} (hd1 : l.drop n = o :: rest) (hd2 : l.drop m = oA :: r) (hm : P.follows .mixedOrders = true) (hB : planAlloc l.toArray n m = true)
    (hQ : ∀ c a d v w, Q (.panic c) (Act.put a d v) w → Q (.panic c) a w) (hC : C w.drew)
    (h : wpQuiet P l.toArray C (fun a =>
        wpOne P l.toArray Q o (fun a w => wpQuiet P l.toArray (fun _ => True) (fun a => wpList P l.toArray Q (oA :: r) a w) (rest.take (m - (n + 1))) a) a w.drew ∧
        wpOne P l.toArray Q oA (fun a w => C w ∧ wpOne P l.toArray Q o (fun a w => wpQuiet P l.toArray (fun _ => True) (fun a => wpList P l.toArray Q r a w) (rest.take (m - (n + 1))) a) a w) a w.drew) (l.take n) a) : (Code.region id l.toArray true).wp P Q a w := by
  have hB' := hB
  unfold planAlloc at hB'
  simp only [Bool.and_eq_true, decide_eq_true_eq] at hB'
  obtain ⟨⟨⟨-, hnm⟩, hlen⟩, -⟩ := hB'
  have hlen' : m < l.length := by simpa using hlen
  have hrl : rest.length = l.length - (n + 1) := by have := congrArg List.length hd1; simp at this; omega
  have hr : rest.drop (m - (n + 1)) = oA :: r := by
    have h1 : rest = l.drop (n + 1) := by
      have := congrArg (List.drop 1) hd1
      simp only [List.drop_drop, List.drop_succ_cons, List.drop_zero] at this
      exact this.symm
    rw [h1, List.drop_drop, show n + 1 + (m - (n + 1)) = m by omega]
    exact hd2
  refine wp_region_alloc n m C (pl := rest.take (m - (n + 1))) (oA := oA) (r := r) (o := o) ?_ (by rw [List.length_take]; omega) hm hB hQ hC h
  rw [hd1, ← hr, List.take_append_drop]
end
end Go.Proofs.Ythhckledkhcfeaa
