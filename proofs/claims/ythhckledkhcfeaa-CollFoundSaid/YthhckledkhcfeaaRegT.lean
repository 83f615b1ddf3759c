/- A region that draws its order and stores more than once: operations that only read, each in a class of worlds that lasts up to its own store. -/
import Derived.Test.YthhckledkhcfeaaReg
namespace Go.Proofs.Ythhckledkhcfeaa
open Go.RowKit
section
variable {P : Program} {ops : Array Oper} {Q : Exit → Act → World → Prop} {L : List (Nat × (World → Prop))}
/-- The classes whose store has not come up. -/
def Held (L : List (Nat × (World → Prop))) (l : Array Bool) (w : World) : Prop := ∀ p ∈ L, l.getD p.1 false = false → p.2 w
theorem Held.set {l : Array Bool} {w : World} {i : Nat} (hi : ∀ p ∈ L, i ≠ p.1) : Held L (l.setIfInBounds i true) w ↔ Held L l w :=
  ⟨fun h p hp hf => h p hp (by rw [getD_set_ne false (hi p hp)]; exact hf), fun h p hp hf => h p hp (by rw [getD_set_ne false (hi p hp)] at hf; exact hf)⟩
def wpH (P : Program) (ops : Array Oper) (Q : Exit → Act → World → Prop) (L : List (Nat × (World → Prop))) : Nat → Array Bool → Act → World → Prop
  | 0, l, a, w => Region.ready .any ops l = [] ∧ Q .normal a w
  | f + 1, l, a, w => (Region.ready .any ops l = [] → Q .normal a w) ∧
    ∀ i ∈ Region.ready .any ops l, wpOp P ops Q i (fun a' w' => Held L (l.setIfInBounds i true) w' ∧ wpH P ops Q L f (l.setIfInBounds i true) a' w') a w
theorem wpAny_of_H : ∀ (f : Nat) (l : Array Bool) (a : Act) (w : World), wpH P ops Q L f l a w → wpAny P .any ops Q f l a w
  | 0, _, _, _, h => h
  | f + 1, _, _, _, h => ⟨h.1, fun i hi => wpOp_mono (fun a' w' h' => wpAny_of_H f _ a' w' h'.2) (h.2 i hi)⟩
theorem unlisted_of {l : Array Bool} {i : Nat} (hr : i ∈ Region.ready .any ops l) : l.getD i false = false := by
  have h0 := (mem_ready.1 hr).1
  rcases Nat.lt_or_ge i l.size with h' | h'
  · simp [h'] at h0 ⊢; exact h0
  · simp [Array.getElem?_eq_none h'] at h0
/-- An operation that only reads, in a class D that lasts as long as it has not come up. -/
theorem wpH_first {i : Nat} {oi : Oper} {v : Value} {D : World → Prop} (hi : ops[i]? = some oi) (hsel : ∀ (j : Nat) (o : Oper) cs b, ops[j]? = some o → o.op ≠ .select cs b)
    (hQ : ∀ c a w, Q (.panic c) (a.put oi.dst v) w → Q (.panic c) a w) (hil : ∀ p ∈ L, i ≠ p.1) (hD : ∀ l w, Shutl ops l → l.getD i false = false → Held L l w → D w) :
    ∀ (f : Nat) (l : Array Bool) (a : Act) (w : World), Shutl ops l →
      (∀ j oj, ops[j]? = some oj → j ≠ i → l.getD j true = false → (∀ e ∈ oj.after, Region.binds .any e = true → e.on ≠ i) → oi.apart ops oj = true) →
      i ∈ Region.ready .any ops l → YieldsIf P ops D oi v a → Held L l w → wpH P ops Q L f (l.setIfInBounds i true) (a.put oi.dst v) w → wpH P ops Q L (f + 1) l a w := by
  intro f
  induction f with
  | zero =>
    intro l a w hsh _ hr hy hC H
    have hDw := hD l w hsh (unlisted_of hr) hC
    refine ⟨fun h => (by rw [h] at hr; cases hr), fun j hj => ?_⟩
    by_cases hji : j = i
    · subst hji; exact hy.wpOp hi hDw ⟨(Held.set hil).2 hC, H⟩
    · have := ready_mono hj hji
      rw [H.1] at this; cases this
  | succ f ih =>
    intro l a w hsh hfree hr hy hC H
    have hun := unlisted_of hr
    have hDw := hD l w hsh hun hC
    refine ⟨fun h => (by rw [h] at hr; cases hr), fun j hj => ?_⟩
    by_cases hji : j = i
    · subst hji; exact hy.wpOp hi hDw ⟨(Held.set hil).2 hC, H⟩
    · have h1 := H.2 j (ready_mono hj hji)
      obtain ⟨hjun, oj, hoj, hall⟩ := mem_ready.1 hj
      have hnot : ∀ e ∈ oj.after, Region.binds .any e = true → e.on ≠ i := fun e he hb heq => by
        have h1 := hall e he hb
        rw [heq, hun] at h1; cases h1
      have hswap : ∀ w', Held L ((l.setIfInBounds i true).setIfInBounds j true) w' → Held L (l.setIfInBounds j true) w' := fun w' h => by
        rw [Array.setIfInBounds_comm _ _ (Ne.symm hji)] at h
        exact (Held.set hil).1 h
      have hunj : (l.setIfInBounds j true).getD i false = false := by rw [getD_set_ne false hji]; exact hun
      have h2 := wpOp_putIf (S := D) hoj (hfree j oj hoj hji hjun hnot) (fun cs b => hsel i oi cs b hi) (fun cs b => hsel j oj cs b hoj) hQ hy h1
      refine wpOp_mono (fun a' w' h3 => ⟨hswap w' h3.2.1, ih (l.setIfInBounds j true) a' w' (hsh.set hj) (fun k ok hk hki hun hno => ?_) (ready_mono hr (Ne.symm hji)) h3.1 (hswap w' h3.2.1) ?_⟩) h2
      · refine hfree k ok hk hki ?_ hno
        by_cases hjk : j = k
        · subst hjk; exact hjun
        · rw [getD_set_ne true hjk] at hun; exact hun
      · rw [Array.setIfInBounds_comm _ _ hji]
        exact h3.2.2
/-- A group: operations that only read, in the class D, up to the deadline t (none: they look at no memory). -/
def waitsUpTo (ops : Array Oper) (t : Option Nat) (k : Nat) : Bool := match t with | some d => sinks ops d ops.size k && decide (d < ops.size) | none => true
def plainAt (ops : Array Oper) (k : Nat) : Bool := match ops[k]? with | some o => plainOp o.op | none => false
def grpOk (ops : Array Oper) (ts : List Nat) (t : Option Nat) (k : Nat) (l : Array Bool) : Bool := (Region.ready .any ops l).contains k && Region.free .any ops l k && waitsUpTo ops t k && ts.all (fun d => k != d) && plainAt ops k
def planG (ops : Array Oper) (ts : List Nat) (t : Option Nat) : Nat → Nat → Array Bool → Option (Array Bool)
  | 0, _, l => some l
  | n + 1, k, l => if grpOk ops ts t k l = true then planG ops ts t n (k + 1) (l.setIfInBounds k true) else none
theorem wpH_group {t : Option Nat} {D : World → Prop} (hsel : Region.noSelect ops = true) (hQ : ∀ c a d v w, Q (.panic c) (Act.put a d v) w → Q (.panic c) a w)
    (hD : ∀ l w, (∀ d, t = some d → l.getD d false = false) → Held L l w → D w) {K : Act → Prop} {w : World} (g : Nat) (l' : Array Bool) :
    ∀ (n k : Nat) (lst : List Oper) (l : Array Bool) (a : Act), (∀ j, j < n → lst[j]? = ops[k + j]?) → lst.length = n → Shutl ops l → Held L l w →
      planG ops (L.map (·.1)) t n k l = some l' → (Shutl ops l' → Held L l' w → ∀ a, K a → wpH P ops Q L g l' a w) → wpQuiet P ops D K lst a → wpH P ops Q L (n + g) l a w
  | 0, k, [], l, a, _, _, hsh, hH, hB, hK, h => by
    simp only [planG, Option.some.injEq] at hB
    subst hB
    simpa using hK hsh hH a h
  | 0, _, _ :: _, _, _, _, hlen, _, _, _, _, _ => by simp at hlen
  | n + 1, _, [], _, _, _, hlen, _, _, _, _, _ => by simp at hlen
  | n + 1, k, o :: lst, l, a, hl, hlen, hsh, hH, hB, hK, h => by
    have h0 : ops[k]? = some o := by simpa using (hl 0 (by omega)).symm
    simp only [planG] at hB
    split at hB
    · rename_i hc
      simp only [grpOk, plainAt, h0, Bool.and_eq_true, List.all_eq_true, bne_iff_ne] at hc
      obtain ⟨⟨⟨⟨hr, hf⟩, hsk⟩, hts⟩, hp⟩ := hc
      have hr' : k ∈ Region.ready .any ops l := by simpa using hr
      have hil : ∀ p ∈ L, k ≠ p.1 := fun p hp => hts p.1 (List.mem_map_of_mem hp)
      have hDi : ∀ l w, Shutl ops l → l.getD k false = false → Held L l w → D w := fun l w hsh hun hH => hD l w (fun d hd => by
        subst hd
        simp only [waitsUpTo, Bool.and_eq_true, decide_eq_true_eq] at hsk
        exact (sinks_unlisted hsh hsk.2 _ k hsk.1 hun).1) hH
      have hrec := fun a' => wpH_group hsel hQ hD g l' n (k + 1) lst (l.setIfInBounds k true) a' (fun j hj => by have := hl (j + 1) (by omega); simpa [Nat.add_assoc, Nat.add_comm 1 j] using this) (by simpa using hlen) (hsh.set hr') ((Held.set hil).2 hH) hB hK
      rw [show n + 1 + g = (n + g) + 1 by omega]
      have h' : wpQuiet P ops D K (o :: lst) a := h
      simp only [wpQuiet] at h'
      by_cases hw : Region.wanted o (yielded ops a.tmps) = true
      · rw [if_pos hw] at h'
        obtain ⟨v, h1, h2⟩ := h'
        exact wpH_first h0 (Region.noSelect_spec hsel) (fun c a w => hQ c a _ _ w) hil hDi _ l a w hsh (Region.free_spec h0 hf) hr' (.inl ⟨hw, quiet_yields hp h1⟩) hH (hrec _ h2)
      · rw [if_neg hw] at h'
        exact wpH_first h0 (Region.noSelect_spec hsel) (fun c a w => hQ c a _ _ w) hil hDi _ l a w hsh (Region.free_spec h0 hf) hr' (.inr ⟨by simpa using hw, rfl⟩) hH (hrec _ h')
    · cases hB
/-- The others, one behind the other; behind each the classes whose store is still to come are shown. -/
def wpTailH (P : Program) (ops : Array Oper) (Q : Exit → Act → World → Prop) (L : List (Nat × (World → Prop))) : Nat → List Oper → Act → World → Prop
  | _, [], a, w => Q .normal a w
  | k, o :: r, a, w => if Region.wanted o (yielded ops a.tmps) then o.wp P a w (fun a' w' => (∀ p ∈ L, k < p.1 → p.2 w') ∧ wpTailH P ops Q L (k + 1) r a' w') Q ∨ (o.asks P a w ∧ LetsOut Q) else (∀ p ∈ L, k < p.1 → p.2 w) ∧ wpTailH P ops Q L (k + 1) r (a.put o.dst undef) w
theorem wpTailH_nil {k : Nat} {a : Act} {w : World} (h : Q .normal a w) : wpTailH P ops Q L k [] a w := h
theorem wpTailH_cons {k : Nat} {o : Oper} {r : List Oper} {a : Act} {w : World}
    (h : ∀ K : Act → World → Prop, (∀ a w, (∀ p ∈ L, k < p.1 → p.2 w) → wpTailH P ops Q L (k + 1) r a w → K a w) → if Region.wanted o (yielded ops a.tmps) then o.wp P a w K Q else K (a.put o.dst undef) w) : wpTailH P ops Q L k (o :: r) a w := by
  have := h (fun a' w' => (∀ p ∈ L, k < p.1 → p.2 w') ∧ wpTailH P ops Q L (k + 1) r a' w') (fun _ _ h1 h2 => ⟨h1, h2⟩)
  unfold wpTailH
  split
  · rename_i hw; rw [if_pos hw] at this; exact .inl this
  · rename_i hw; rw [if_neg hw] at this; exact this
/-- Behind the last store: a plain list. -/
theorem wpTailH_list : ∀ {k : Nat} {lst : List Oper} {a : Act} {w : World}, (∀ p ∈ L, p.1 ≤ k) → wpList P ops Q lst a w → wpTailH P ops Q L k lst a w
  | _, [], _, _, _, h => by simpa [wpTailH, wpList] using h
  | k, o :: r, a, w, hk, h => by
    have hv : ∀ p ∈ L, ¬ k < p.1 := fun p hp => by have := hk p hp; omega
    have IH := fun a w (h : wpList P ops Q r a w) => wpTailH_list (k := k + 1) (fun p hp => by have := hk p hp; omega) h
    unfold wpList at h
    unfold wpTailH
    split
    · rename_i hw; rw [if_pos hw] at h
      exact h.imp (Oper.wp_mono fun a' w' hq => ⟨fun p hp hlt => absurd hlt (hv p hp), IH a' w' hq⟩) id
    · rename_i hw; rw [if_neg hw] at h
      exact ⟨fun p hp hlt => absurd hlt (hv p hp), IH _ _ h⟩
def planH (ops : Array Oper) (ts : List Nat) : Nat → Nat → Array Bool → Bool
  | 0, _, l => (Region.ready .any ops l).isEmpty
  | n + 1, k, l => decide (Region.ready .any ops l = [k]) && ts.all (fun d => (l.setIfInBounds k true).getD d false || decide (k < d)) && planH ops ts n (k + 1) (l.setIfInBounds k true)
theorem wpH_tail : ∀ (n k : Nat) (lst : List Oper) (l : Array Bool) (a : Act) (w : World), (∀ j, j < n → lst[j]? = ops[k + j]?) → lst.length = n → planH ops (L.map (·.1)) n k l = true → wpTailH P ops Q L k lst a w → wpH P ops Q L n l a w
  | 0, k, [], l, a, w, _, _, hB, h => ⟨by simpa [planH] using hB, by simpa [wpTailH] using h⟩
  | 0, _, _ :: _, _, _, _, _, hlen, _, _ => by simp at hlen
  | n + 1, _, [], _, _, _, _, hlen, _, _ => by simp at hlen
  | n + 1, k, o :: lst, l, a, w, hl, hlen, hB, h => by
    have h0 : ops[k]? = some o := by simpa using (hl 0 (by omega)).symm
    simp only [planH, Bool.and_eq_true, decide_eq_true_eq, List.all_eq_true, Bool.or_eq_true] at hB
    obtain ⟨⟨hr, hts⟩, hB⟩ := hB
    refine ⟨fun h1 => (by rw [hr] at h1; cases h1), fun i hi => ?_⟩
    rw [hr] at hi
    have hik : i = k := by simpa using hi
    subst hik
    have hheld : ∀ w', (∀ p ∈ L, i < p.1 → p.2 w') → Held L (l.setIfInBounds i true) w' := fun w' hc p hp hf => by
      rcases hts p.1 (List.mem_map_of_mem hp) with h1 | h1
      · rw [h1] at hf; cases hf
      · exact hc p hp h1
    have h' : wpTailH P ops Q L i (o :: lst) a w := h
    unfold wpTailH at h'
    unfold wpOp
    simp only [h0]
    have IH := fun a w (h : wpTailH P ops Q L (i + 1) lst a w) => wpH_tail n (i + 1) lst (l.setIfInBounds i true) a w (fun j hj => by have := hl (j + 1) (by omega); simpa [Nat.add_assoc, Nat.add_comm 1 j] using this) (by simpa using hlen) hB h
    split
    · rename_i hw; rw [if_pos hw] at h'
      exact h'.imp (Oper.wp_mono fun a' w' hq => ⟨hheld w' hq.1, IH a' w' hq.2⟩) id
    · rename_i hw; rw [if_neg hw] at h'
      exact ⟨hheld w h'.1, IH _ _ h'.2⟩
/-- Three stores in one statement: n0 copies of slots, then n1, n2, n3 operations that only read, each up to its own store (t1, t2, t3), then the rest. -/
def planThree (ops : Array Oper) (n0 n1 n2 n3 t1 t2 t3 : Nat) : Bool :=
  let ts := [t1, t2, t3]
  Region.noSelect ops && decide (n0 + n1 + n2 + n3 ≤ ops.size) && match planG ops ts none n0 0 (Array.replicate ops.size false) with
  | some l0 => match planG ops ts (some t1) n1 n0 l0 with
    | some l1 => match planG ops ts (some t2) n2 (n0 + n1) l1 with
      | some l2 => match planG ops ts (some t3) n3 (n0 + n1 + n2) l2 with
        | some l3 => planH ops ts (ops.size - (n0 + n1 + n2 + n3)) (n0 + n1 + n2 + n3) l3
        | none => false
      | none => false
    | none => false
  | none => false
theorem wp_region_three {id : Nat} {a : Act} {w : World} {l : List Oper} (n0 n1 n2 n3 t1 t2 t3 : Nat) (C1 C2 C3 : World → Prop) (hm : P.follows .mixedOrders = true) (hB : planThree l.toArray n0 n1 n2 n3 t1 t2 t3 = true)
    (hQ : ∀ c a d v w, Q (.panic c) (Act.put a d v) w → Q (.panic c) a w) (h1 : C1 w.drew) (h2 : C2 w.drew) (h3 : C3 w.drew)
    (h : wpQuiet P l.toArray (fun _ => True) (fun a => wpQuiet P l.toArray C1 (fun a => wpQuiet P l.toArray C2 (fun a => wpQuiet P l.toArray C3 (fun a => wpTailH P l.toArray Q [(t1, C1), (t2, C2), (t3, C3)] (n0 + n1 + n2 + n3) (l.drop (n0 + n1 + n2 + n3)) a w.drew)
      ((l.drop (n0 + n1 + n2)).take n3) a) ((l.drop (n0 + n1)).take n2) a) ((l.drop n0).take n1) a) (l.take n0) a) : (Code.region id l.toArray true).wp P Q a w := by
  unfold planThree at hB
  simp only [Bool.and_eq_true, decide_eq_true_eq] at hB
  obtain ⟨⟨hsel, hlen⟩, hplan⟩ := hB
  have hlen' : n0 + n1 + n2 + n3 ≤ l.length := by simpa using hlen
  split at hplan
  · rename_i l0 hl0
    split at hplan
    · rename_i l1 hl1
      split at hplan
      · rename_i l2 hl2
        split at hplan
        · rename_i l3 hl3
          refine wp_region_any hm (wpAny_of_H (L := [(t1, C1), (t2, C2), (t3, C3)]) _ _ _ _ ?_)
          have hsh : Shutl l.toArray (Array.replicate l.toArray.size false) := ⟨by simp, fun j o _ hl => by
            exfalso
            rcases Nat.lt_or_ge j l.toArray.size with hj | hj
            · simp [hj] at hl
              simp_all
            · simp [hj] at hl
              simp_all⟩
          have hH : Held [(t1, C1), (t2, C2), (t3, C3)] (Array.replicate l.toArray.size false) w.drew := fun p hp _ => by
            simp only [List.mem_cons, List.mem_nil_iff, or_false] at hp
            rcases hp with rfl | rfl | rfl
            · exact h1
            · exact h2
            · exact h3
          have hx := wpH_group (P := P) (Q := Q) (L := [(t1, C1), (t2, C2), (t3, C3)]) (t := none) (D := fun _ => True) (w := w.drew) hsel hQ (fun _ _ _ _ => trivial) (n1 + (n2 + (n3 + (l.toArray.size - (n0 + n1 + n2 + n3))))) l0 n0 0 (l.take n0) _ a (fun j hj => by simp [hj]) (by simp; omega) hsh hH hl0
            (fun hsh hH a ha => wpH_group (P := P) (t := some t1) (D := C1) hsel hQ (fun l w hd hH => hH (t1, C1) (by simp) (hd t1 rfl)) (n2 + (n3 + (l.toArray.size - (n0 + n1 + n2 + n3)))) l1 n1 n0 ((l.drop n0).take n1) _ a (fun j hj => by simp [hj]) (by simp; omega) hsh hH hl1
              (fun hsh hH a ha => wpH_group (P := P) (t := some t2) (D := C2) hsel hQ (fun l w hd hH => hH (t2, C2) (by simp) (hd t2 rfl)) (n3 + (l.toArray.size - (n0 + n1 + n2 + n3))) l2 n2 (n0 + n1) ((l.drop (n0 + n1)).take n2) _ a (fun j hj => by simp [hj]) (by simp; omega) hsh hH hl2
                (fun hsh hH a ha => wpH_group (P := P) (t := some t3) (D := C3) hsel hQ (fun l w hd hH => hH (t3, C3) (by simp) (hd t3 rfl)) (l.toArray.size - (n0 + n1 + n2 + n3)) l3 n3 (n0 + n1 + n2) ((l.drop (n0 + n1 + n2)).take n3) _ a (fun j hj => by simp [hj]) (by simp; omega) hsh hH hl3
                  (fun _ _ a ha => wpH_tail _ _ (l.drop (n0 + n1 + n2 + n3)) l3 a w.drew (fun j hj => by simp) (by simp) hplan ha) ha) ha) ha) h
          rw [show n0 + (n1 + (n2 + (n3 + (l.toArray.size - (n0 + n1 + n2 + n3))))) = l.toArray.size by omega] at hx
          exact hx
        · cases hplan
      · cases hplan
    · cases hplan
  · cases hplan
end
end Go.Proofs.Ythhckledkhcfeaa
