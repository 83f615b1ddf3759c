/- A region that draws its order: operations that only read, then one that does something (a call), then operations that look at no memory. -/
import Derived.Test.YthhckledkhcfeaaRegT
namespace Go.Proofs.Ythhckledkhcfeaa
open Go.RowKit
section
variable {P : Program}
def planCall (ops : Array Oper) (n : Nat) : Bool :=
  Region.noSelect ops && decide (n < ops.size) && match planG ops [n] (some n) n 0 (Array.replicate ops.size false) with
  | some l0 => decide (Region.ready .any ops l0 = [n]) && (l0.setIfInBounds n true).getD n false && match planG ops [n] none (ops.size - (n + 1)) (n + 1) (l0.setIfInBounds n true) with
    | some l1 => (Region.ready .any ops l1).isEmpty
    | none => false
  | none => false
/-- The operation n, and what looks at no memory behind it. -/
def wpThen (P : Program) (ops : Array Oper) (Q : Exit → Act → World → Prop) (o : Oper) (r : List Oper) (a : Act) (w : World) : Prop :=
  ∀ K : Act → World → Prop, (∀ a w, wpQuiet P ops (fun _ => True) (fun a => Q .normal a w) r a → K a w) → if Region.wanted o (yielded ops a.tmps) then o.wp P a w K Q else K (a.put o.dst undef) w
theorem wp_region_call {Q : Exit → Act → World → Prop} {id : Nat} {a : Act} {w : World} {l : List Oper} (n : Nat) (C : World → Prop) {o : Oper} {r : List Oper} (hd : l.drop n = o :: r) (hm : P.follows .mixedOrders = true) (hB : planCall l.toArray n = true)
    (hQ : ∀ c a d v w, Q (.panic c) (Act.put a d v) w → Q (.panic c) a w) (hC : C w.drew)
    (h : wpQuiet P l.toArray C (fun a => wpThen P l.toArray Q o r a w.drew) (l.take n) a) : (Code.region id l.toArray true).wp P Q a w := by
  unfold planCall at hB
  simp only [Bool.and_eq_true, decide_eq_true_eq] at hB
  obtain ⟨⟨hsel, hlen⟩, hplan⟩ := hB
  have hlen' : n < l.length := by simpa using hlen
  have hdl : ∀ j, (o :: r)[j]? = l[n + j]? := fun j => by rw [← hd]; simp
  have hrl : r.length = l.length - (n + 1) := by have := congrArg List.length hd; simp at this; omega
  split at hplan
  · rename_i l0 hl0
    simp only [Bool.and_eq_true, decide_eq_true_eq] at hplan
    obtain ⟨⟨hr0, hset⟩, hplan⟩ := hplan
    split at hplan
    · rename_i l1 hl1
      refine wp_region_any hm (wpAny_of_H (L := [(n, C)]) _ _ _ _ ?_)
      have hsh : Shutl l.toArray (Array.replicate l.toArray.size false) := ⟨by simp, fun j o _ hl => by
        exfalso
        rcases Nat.lt_or_ge j l.toArray.size with hj | hj
        · simp [hj] at hl
          simp_all
        · simp [hj] at hl
          simp_all⟩
      have hH : Held [(n, C)] (Array.replicate l.toArray.size false) w.drew := fun p hp _ => by
        simp only [List.mem_cons, List.mem_nil_iff, or_false] at hp
        subst hp
        exact hC
      have hx := wpH_group (P := P) (Q := Q) (L := [(n, C)]) (t := some n) (D := C) (w := w.drew) hsel hQ (fun l w hd hH => hH (n, C) (by simp) (hd n rfl)) (l.toArray.size - (n + 1) + 1) l0 n 0 (l.take n) _ a (fun j hj => by simp [hj]) (by simp; omega) hsh hH hl0
        (fun hsh0 _ a ha => by
          refine ⟨fun h1 => (by rw [hr0] at h1; cases h1), fun i hi => ?_⟩
          have hi' := hi
          rw [hr0] at hi
          have hin : i = n := by simpa using hi
          subst hin
          have h0 : l.toArray[i]? = some o := by have := hdl 0; simpa using this.symm
          unfold wpOp
          simp only [h0]
          have hrest : ∀ a' w', wpQuiet P l.toArray (fun _ => True) (fun a => Q .normal a w') r a' → Held [(i, C)] (l0.setIfInBounds i true) w' ∧ wpH P l.toArray Q [(i, C)] (l.toArray.size - (i + 1)) (l0.setIfInBounds i true) a' w' := fun a' w' hq => by
            have hH' : Held [(i, C)] (l0.setIfInBounds i true) w' := fun p hp hf => by
              simp only [List.mem_cons, List.mem_nil_iff, or_false] at hp
              subst hp
              rw [hset] at hf
              cases hf
            refine ⟨hH', ?_⟩
            have := wpH_group (P := P) (Q := Q) (L := [(i, C)]) (t := none) (D := fun _ => True) (w := w') hsel hQ (fun _ _ _ _ => trivial) 0 l1 (l.toArray.size - (i + 1)) (i + 1) r _ a' (fun j hj => by have := hdl (j + 1); simpa [Nat.add_assoc, Nat.add_comm 1 j] using this) (by simpa using hrl) (hsh0.set hi') hH' hl1
              (fun _ _ a ha => ⟨by simpa using hplan, ha⟩) hq
            simpa using this
          have hk := ha (fun a' w' => Held [(i, C)] (l0.setIfInBounds i true) w' ∧ wpH P l.toArray Q [(i, C)] (l.toArray.size - (i + 1)) (l0.setIfInBounds i true) a' w') hrest
          split
          · rename_i hw; rw [if_pos hw] at hk; exact .inl hk
          · rename_i hw; rw [if_neg hw] at hk; exact hk) h
      rw [show n + (l.toArray.size - (n + 1) + 1) = l.toArray.size by simp; omega] at hx
      exact hx
    · cases hplan
  · cases hplan
end
end Go.Proofs.Ythhckledkhcfeaa
