/- A region that draws its order: two groups of reads (up to the store n + 2, up to the store n + 3); two new variables, laid in either order; the two stores. -/
import Derived.Test.YthhckledkhcfeaaRegE
namespace Go.Proofs.Ythhckledkhcfeaa
open Go.RowKit
section
variable {P : Program}
def planPair (ops : Array Oper) (n1 n : Nat) : Bool :=
  Region.noSelect ops && decide (n1 ≤ n) && decide (n + 4 = ops.size) && match planG ops [n + 2, n + 3] (some (n + 2)) n1 0 (Array.replicate ops.size false) with
  | some l1 => match planG ops [n + 2, n + 3] (some (n + 3)) (n - n1) n1 l1 with
    | some l0 => decide (Region.ready .any ops l0 = [n, n + 1]) && decide (Region.ready .any ops (l0.setIfInBounds n true) = [n + 1]) && decide (Region.ready .any ops (l0.setIfInBounds (n + 1) true) = [n]) &&
        planH ops [n + 2, n + 3] 2 (n + 2) ((l0.setIfInBounds n true).setIfInBounds (n + 1) true)
    | none => false
  | none => false
theorem wp_region_pair {Q : Exit → Act → World → Prop} {id : Nat} {a : Act} {w : World} {l : List Oper} (n1 n : Nat) (C : World → Prop) {o1 o2 o3 o4 : Oper} (hd : l.drop n = [o1, o2, o3, o4]) (hm : P.follows .mixedOrders = true) (hB : planPair l.toArray n1 n = true)
    (hQ : ∀ c a d v w, Q (.panic c) (Act.put a d v) w → Q (.panic c) a w) (hC : C w.drew)
    (h : wpQuiet P l.toArray C (fun a => wpQuiet P l.toArray C (fun a =>
        wpOne P l.toArray Q o1 (fun a w => C w ∧ wpOne P l.toArray Q o2 (fun a w => C w ∧ wpOne P l.toArray Q o3 (fun a w => C w ∧ wpList P l.toArray Q [o4] a w) a w) a w) a w.drew ∧
        wpOne P l.toArray Q o2 (fun a w => C w ∧ wpOne P l.toArray Q o1 (fun a w => C w ∧ wpOne P l.toArray Q o3 (fun a w => C w ∧ wpList P l.toArray Q [o4] a w) a w) a w) a w.drew) ((l.drop n1).take (n - n1)) a) (l.take n1) a) : (Code.region id l.toArray true).wp P Q a w := by
  unfold planPair at hB
  simp only [Bool.and_eq_true, decide_eq_true_eq] at hB
  obtain ⟨⟨⟨hsel, hn1⟩, hlen⟩, hplan⟩ := hB
  have hlen' : n + 4 = l.length := by simpa using hlen
  have hdl : ∀ j, ([o1, o2, o3, o4] : List Oper)[j]? = l.toArray[n + j]? := fun j => by rw [← hd]; simp
  have h1 : l.toArray[n]? = some o1 := by have := hdl 0; simpa using this.symm
  have h2 : l.toArray[n + 1]? = some o2 := by have := hdl 1; simpa using this.symm
  have hrj : ∀ j, ([o3, o4] : List Oper)[j]? = l.toArray[n + 2 + j]? := fun j => by
    have := hdl (j + 2)
    rw [List.getElem?_cons_succ, List.getElem?_cons_succ] at this
    rw [this]
    congr 1
    omega
  split at hplan
  · rename_i l1 hl1
    split at hplan
    · rename_i l0 hl0
      simp only [Bool.and_eq_true, decide_eq_true_eq] at hplan
      obtain ⟨⟨⟨hr0, hr1⟩, hr2⟩, hp⟩ := hplan
      refine wp_region_any hm (wpAny_of_H (L := [(n + 2, C), (n + 3, C)]) _ _ _ _ ?_)
      have hsh : Shutl l.toArray (Array.replicate l.toArray.size false) := ⟨by simp, fun j o _ hl => by
        exfalso
        rcases Nat.lt_or_ge j l.toArray.size with hj | hj
        · simp [hj] at hl
          simp_all
        · simp [hj] at hl
          simp_all⟩
      have hheld : ∀ (l' : Array Bool) (w' : World), C w' → Held [(n + 2, C), (n + 3, C)] l' w' := fun l' w' hc p hp _ => by
        simp only [List.mem_cons, List.mem_nil_iff, or_false] at hp
        rcases hp with rfl | rfl <;> exact hc
      have hcomm : (l0.setIfInBounds (n + 1) true).setIfInBounds n true = (l0.setIfInBounds n true).setIfInBounds (n + 1) true := Array.setIfInBounds_comm _ _ (by omega)
      have hlast : ∀ a' w', wpOne P l.toArray Q o3 (fun a w => C w ∧ wpList P l.toArray Q [o4] a w) a' w' → wpH P l.toArray Q [(n + 2, C), (n + 3, C)] 2 ((l0.setIfInBounds n true).setIfInBounds (n + 1) true) a' w' := fun a' w' hw =>
        wpH_tail 2 (n + 2) [o3, o4] _ a' w' (fun j _ => hrj j) rfl hp (wpTailH_cons fun K hK => hw K fun a w hq => hK a w (fun p hp _ => by
          simp only [List.mem_cons, List.mem_nil_iff, or_false] at hp
          rcases hp with rfl | rfl <;> exact hq.1) (wpTailH_list (fun p hp => by
            simp only [List.mem_cons, List.mem_nil_iff, or_false] at hp
            rcases hp with rfl | rfl
            · exact Nat.le_succ _
            · exact Nat.le_refl _) hq.2))
      have hx := wpH_group (P := P) (Q := Q) (L := [(n + 2, C), (n + 3, C)]) (t := some (n + 2)) (D := C) (w := w.drew) hsel hQ (fun l w hd hH => hH (n + 2, C) (by simp) (hd (n + 2) rfl)) (n - n1 + (2 + 1 + 1)) l1 n1 0 (l.take n1) _ a (fun j hj => by simp [hj]) (by simp; omega) hsh (hheld _ _ hC) hl1
        (fun hsh hH a hb => wpH_group (P := P) (Q := Q) (L := [(n + 2, C), (n + 3, C)]) (t := some (n + 3)) (D := C) (w := w.drew) (K := fun a =>
        wpOne P l.toArray Q o1 (fun a w => C w ∧ wpOne P l.toArray Q o2 (fun a w => C w ∧ wpOne P l.toArray Q o3 (fun a w => C w ∧ wpList P l.toArray Q [o4] a w) a w) a w) a w.drew ∧
        wpOne P l.toArray Q o2 (fun a w => C w ∧ wpOne P l.toArray Q o1 (fun a w => C w ∧ wpOne P l.toArray Q o3 (fun a w => C w ∧ wpList P l.toArray Q [o4] a w) a w) a w) a w.drew) hsel hQ (fun l w hd hH => hH (n + 3, C) (by simp) (hd (n + 3) rfl)) (2 + 1 + 1) l0 (n - n1) n1 ((l.drop n1).take (n - n1)) _ a (fun j hj => by simp [hj]) (by simp; omega) hsh hH hl0
          (fun hsh0 _ a ha => by
          refine ⟨fun h1 => (by rw [hr0] at h1; cases h1), fun i hi => ?_⟩
          rw [hr0] at hi
          simp only [List.mem_cons, List.mem_nil_iff, or_false] at hi
          rcases hi with rfl | rfl
          · refine wpOne_op h1 ha.1 fun a' w' hq => ⟨hheld _ _ hq.1, ?_⟩
            refine ⟨fun h1 => (by rw [hr1] at h1; cases h1), fun j hj => ?_⟩
            rw [hr1] at hj
            have hjn : j = i + 1 := by simpa using hj
            subst hjn
            exact wpOne_op h2 hq.2 fun a' w' hq => ⟨hheld _ _ hq.1, hlast a' w' hq.2⟩
          · refine wpOne_op h2 ha.2 fun a' w' hq => ⟨hheld _ _ hq.1, ?_⟩
            refine ⟨fun h1 => (by rw [hr2] at h1; cases h1), fun j hj => ?_⟩
            rw [hr2] at hj
            have hjn : j = n := by simpa using hj
            subst hjn
            refine wpOne_op h1 hq.2 fun a' w' hq => ⟨hheld _ _ hq.1, ?_⟩
            rw [hcomm]
            exact hlast a' w' hq.2) hb) h
      rw [show n1 + (n - n1 + (2 + 1 + 1)) = l.toArray.size by simp; omega] at hx
      exact hx
    · cases hplan
  · cases hplan
end
end Go.Proofs.Ythhckledkhcfeaa
