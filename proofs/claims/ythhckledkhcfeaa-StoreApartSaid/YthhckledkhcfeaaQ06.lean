/- A region that draws its order, by a plan: operations that only read are taken first, in the text's order; the others come in the one order that their edges leave. -/
import Derived.OrdersHeld
import Derived.Test.YthhckledkhcfeaaQ04
namespace Go.Proofs.Ythhckledkhcfeaa
open Go.RowKit

/-- Kinds of operations that hand over a value and do not call. -/
def plainOp : Op → Bool
  | .move _ | .assign _ | .pick .. | .load .. | .nilCheck _ | .binOp .. | .unOp .. | .slice .. | .fieldAddr .. | .field .. | .indexAddr .. | .index .. | .extract .. | .build .. | .makeInterface .. | .convert .. => true
  | .call { callee := .builtin .len, .. } | .call { callee := .builtin .cap, .. } | .call { callee := .builtin .max, .. } | .call { callee := .builtin .min, .. } => true
  | _ => false
theorem bind_value {P : Program} {s : Sem Value} {w w' : World} {n : Next} (h : (do pure (Next.value (← s)) : Sem Next).run P w = .ok n w') : ∃ v, n = .value v := by
  rw [Sem.run_bind] at h
  cases hs : s.run P w with
  | ok v w1 => rw [hs] at h; simp at h; exact ⟨v, h.1.symm⟩
  | halt x w1 => rw [hs] at h; simp [Result.andThen] at h
theorem plain_value {P : Program} {ρ : Operand → Value} {o : Oper} {w w' : World} {n : Next} (hp : plainOp o.op = true) (h : (execOp ρ o).run P w = .ok n w') : ∃ v, n = .value v := by
  unfold execOp at h
  generalize o.op = op at hp h
  cases op <;> simp only [plainOp, Bool.false_eq_true] at hp <;> dsimp only at h
  case move x => simp at h; exact ⟨_, h.1.symm⟩
  case assign x => simp at h; exact ⟨_, h.1.symm⟩
  case pick c a b =>
    rw [Sem.run_bind] at h
    cases hs : (asBool (ρ c)).run P w with
    | ok v w1 => rw [hs] at h; simp at h; exact ⟨_, h.1.symm⟩
    | halt x w1 => rw [hs] at h; simp [Result.andThen] at h
  case nilCheck x =>
    split at h
    · simp [runtimePanic, Sem.run] at h
    · simp [runtimePanic, Sem.run] at h
    · simp [runtimePanic, Sem.run] at h
    · split at h
      · simp [runtimePanic, Sem.run] at h
      · rw [Sem.run_bind] at h
        generalize (program : Sem Program).run P w = r1 at h
        cases r1 with
        | halt x w1 => simp [Result.andThen] at h
        | ok pr w1 =>
          simp only [Result.andThen_ok] at h
          rw [Sem.run_bind] at h
          generalize (nilAhead _ _ _ _).run P w1 = r2 at h
          cases r2 with
          | halt x w1 => simp [Result.andThen] at h
          | ok y w2 =>
            simp only [Result.andThen_ok] at h
            by_cases hy : (y != some false) = true
            · simp [hy, unsupported, Sem.run] at h
            · simp [hy] at h
              exact ⟨_, h.1.symm⟩
      · simp at h; exact ⟨_, h.1.symm⟩
    · simp at h; exact ⟨_, h.1.symm⟩
  case call c =>
    obtain ⟨callee, args, argTypes⟩ := c
    cases callee with
    | value f => simp [plainOp] at hp
    | invoke r m => simp [plainOp] at hp
    | builtin b =>
      simp only [resolve, Sem.run_bind, Sem.run_pure, Result.andThen_ok, invoke] at h
      cases b <;> simp only [plainOp, Bool.false_eq_true] at hp <;> exact bind_value h
  all_goals exact bind_value h

section
variable {P : Program} {ops : Array Oper} {Q : Exit → Act → World → Prop} {C : World → Prop}

/-- Whatever order is picked; as long as the operation 'tl' has not come up the world is of the class. -/
def wpS (P : Program) (ops : Array Oper) (Q : Exit → Act → World → Prop) (C : World → Prop) (tl : Nat) : Nat → Array Bool → Act → World → Prop
  | 0, l, a, w => Region.ready .any ops l = [] ∧ Q .normal a w
  | f + 1, l, a, w => (Region.ready .any ops l = [] → Q .normal a w) ∧
    ∀ i ∈ Region.ready .any ops l, wpOp P ops Q i (fun a' w' => ((l.setIfInBounds i true).getD tl false = false → C w') ∧ wpS P ops Q C tl f (l.setIfInBounds i true) a' w') a w
theorem wpAny_of_S {tl : Nat} : ∀ (f : Nat) (l : Array Bool) (a : Act) (w : World), wpS P ops Q C tl f l a w → wpAny P .any ops Q f l a w
  | 0, _, _, _, h => h
  | f + 1, _, _, _, h => ⟨h.1, fun i hi => wpOp_mono (fun a' w' h' => wpAny_of_S f _ a' w' h'.2) (h.2 i hi)⟩

/-- What has been listed is closed under what it waited for. -/
structure Shutl (ops : Array Oper) (l : Array Bool) : Prop where
  size : l.size = ops.size
  closed : ∀ j o, ops[j]? = some o → l.getD j false = true → ∀ e ∈ o.after, Region.binds .any e = true → l.getD e.on false = true
theorem Shutl.set {l : Array Bool} {i : Nat} (h : Shutl ops l) (hi : i ∈ Region.ready .any ops l) : Shutl ops (l.setIfInBounds i true) := by
  obtain ⟨_, oi, hoi, hall⟩ := mem_ready.1 hi
  refine ⟨by simp [h.size], fun j o hj hl e he hb => ?_⟩
  by_cases hij : i = j
  · subst hij
    rw [hoi] at hj; injection hj with hj; subst hj
    exact getD_set_true (hall e he hb)
  · rw [getD_set_ne false hij] at hl
    exact getD_set_true (h.closed j o hj hl e he hb)

def waitsOn (ops : Array Oper) (j i : Nat) : Bool :=
  match ops[j]? with
  | some o => o.after.any fun e => Region.binds .any e && e.on == i
  | none => false
/-- tl waits for i, through others. -/
def sinks (ops : Array Oper) (tl : Nat) : Nat → Nat → Bool
  | 0, _ => false
  | n + 1, i => (List.range (tl + 1)).any fun j => waitsOn ops j i && (j == tl || sinks ops tl n j)
theorem sinks_unlisted {tl : Nat} {l : Array Bool} (h : Shutl ops l) (htl : tl < ops.size) : ∀ (n i : Nat), sinks ops tl n i = true → l.getD i false = false → l.getD tl false = false ∧ tl ∉ Region.ready .any ops l
  | 0, _, hs, _ => by simp [sinks] at hs
  | n + 1, i, hs, hi => by
    simp only [sinks, List.any_eq_true, List.mem_range, Bool.and_eq_true, Bool.or_eq_true, beq_iff_eq] at hs
    obtain ⟨j, hj, hw, hj2⟩ := hs
    unfold waitsOn at hw
    cases hoj : ops[j]? with
    | none => rw [hoj] at hw; cases hw
    | some o =>
      rw [hoj] at hw
      obtain ⟨e, he, hb⟩ := Array.any_eq_true'.1 hw
      simp only [Bool.and_eq_true, beq_iff_eq] at hb
      have hjl : l.getD j false = false := by
        cases hq : l.getD j false with
        | false => rfl
        | true =>
          have h2 := h.closed j o hoj hq e he hb.1
          rw [hb.2, hi] at h2; cases h2
      rcases hj2 with rfl | hj2
      · refine ⟨hjl, fun hr => ?_⟩
        obtain ⟨_, o', ho', hall⟩ := mem_ready.1 hr
        rw [hoj] at ho'; injection ho' with ho'; subst ho'
        have h2 := hall e he hb.1
        rw [hb.2, hi] at h2; cases h2
      · exact sinks_unlisted h htl n j hj2 hjl

theorem wpS_first {tl i : Nat} {oi : Oper} {v : Value} (hi : ops[i]? = some oi) (hsel : ∀ (j : Nat) (o : Oper) cs b, ops[j]? = some o → o.op ≠ .select cs b)
    (hQ : ∀ c a w, Q (.panic c) (a.put oi.dst v) w → Q (.panic c) a w) (htl : tl < ops.size) (hsk : sinks ops tl ops.size i = true) :
    ∀ (f : Nat) (l : Array Bool) (a : Act) (w : World), Shutl ops l →
      (∀ j oj, ops[j]? = some oj → j ≠ i → l.getD j true = false → (∀ e ∈ oj.after, Region.binds .any e = true → e.on ≠ i) → oi.apart ops oj = true) →
      i ∈ Region.ready .any ops l → YieldsIf P ops C oi v a → C w → wpS P ops Q C tl f (l.setIfInBounds i true) (a.put oi.dst v) w → wpS P ops Q C tl (f + 1) l a w := by
  intro f
  induction f with
  | zero =>
    intro l a w _ _ hr hy hC H
    refine ⟨fun h => (by rw [h] at hr; cases hr), fun j hj => ?_⟩
    by_cases hji : j = i
    · subst hji; exact hy.wpOp hi hC ⟨fun _ => hC, H⟩
    · have := ready_mono hj hji
      rw [H.1] at this; cases this
  | succ f ih =>
    intro l a w hsh hfree hr hy hC H
    refine ⟨fun h => (by rw [h] at hr; cases hr), fun j hj => ?_⟩
    by_cases hji : j = i
    · subst hji; exact hy.wpOp hi hC ⟨fun _ => hC, H⟩
    · have hil : l.getD i false = false := by
        have h0 := (mem_ready.1 hr).1
        rcases Nat.lt_or_ge i l.size with h' | h'
        · simp [h'] at h0 ⊢; exact h0
        · simp [Array.getElem?_eq_none h'] at h0
      have hjt : j ≠ tl := by
        rintro rfl
        exact (sinks_unlisted hsh htl _ i hsk hil).2 hj
      have h1 := H.2 j (ready_mono hj hji)
      obtain ⟨hjun, oj, hoj, hall⟩ := mem_ready.1 hj
      have hnot : ∀ e ∈ oj.after, Region.binds .any e = true → e.on ≠ i := fun e he hb heq => by
        have h1 := hall e he hb
        rw [heq, hil] at h1; cases h1
      have h2 := wpOp_putIf hoj (hfree j oj hoj hji hjun hnot) (fun cs b => hsel i oi cs b hi) (fun cs b => hsel j oj cs b hoj) hQ hy h1
      have hit : i ≠ tl := by
        rintro rfl
        exact (sinks_unlisted hsh htl _ i hsk hil).2 hr
      have htf2 : ((l.setIfInBounds i true).setIfInBounds j true).getD tl false = false := by rw [getD_set_ne false hjt, getD_set_ne false hit]; exact (sinks_unlisted hsh htl _ i hsk hil).1
      refine wpOp_mono (fun a' w' h3 => ⟨fun _ => h3.2.1 htf2, ih (l.setIfInBounds j true) a' w' (hsh.set hj) (fun k ok hk hki hun hno => ?_) (ready_mono hr (Ne.symm hji)) h3.1 (h3.2.1 htf2) ?_⟩) h2
      · refine hfree k ok hk hki ?_ hno
        by_cases hjk : j = k
        · subst hjk; exact hjun
        · rw [getD_set_ne true hjk] at hun; exact hun
      · rw [Array.setIfInBounds_comm _ _ hji]
        exact h3.2.2

/-- A copy of a slot may come up anywhere. -/
theorem wpS_first_pure {tl i : Nat} {oi : Oper} {v : Value} (hi : ops[i]? = some oi) (hsel : ∀ (j : Nat) (o : Oper) cs b, ops[j]? = some o → o.op ≠ .select cs b)
    (hQ : ∀ c a w, Q (.panic c) (a.put oi.dst v) w → Q (.panic c) a w) (hit : i ≠ tl) :
    ∀ (f : Nat) (l : Array Bool) (a : Act) (w : World),
      (∀ j oj, ops[j]? = some oj → j ≠ i → l.getD j true = false → (∀ e ∈ oj.after, Region.binds .any e = true → e.on ≠ i) → oi.apart ops oj = true) →
      i ∈ Region.ready .any ops l → YieldsIf P ops (fun _ => True) oi v a → (l.getD tl false = false → C w) → wpS P ops Q C tl f (l.setIfInBounds i true) (a.put oi.dst v) w → wpS P ops Q C tl (f + 1) l a w := by
  intro f
  induction f with
  | zero =>
    intro l a w _ hr hy hC H
    refine ⟨fun h => (by rw [h] at hr; cases hr), fun j hj => ?_⟩
    by_cases hji : j = i
    · subst hji; exact hy.wpOp hi trivial ⟨fun h => hC (by rw [getD_set_ne false hit] at h; exact h), H⟩
    · have := ready_mono hj hji
      rw [H.1] at this; cases this
  | succ f ih =>
    intro l a w hfree hr hy hC H
    refine ⟨fun h => (by rw [h] at hr; cases hr), fun j hj => ?_⟩
    by_cases hji : j = i
    · subst hji; exact hy.wpOp hi trivial ⟨fun h => hC (by rw [getD_set_ne false hit] at h; exact h), H⟩
    · have hil : l.getD i false = false := by
        have h0 := (mem_ready.1 hr).1
        rcases Nat.lt_or_ge i l.size with h' | h'
        · simp [h'] at h0 ⊢; exact h0
        · simp [Array.getElem?_eq_none h'] at h0
      have h1 := H.2 j (ready_mono hj hji)
      obtain ⟨hjun, oj, hoj, hall⟩ := mem_ready.1 hj
      have hnot : ∀ e ∈ oj.after, Region.binds .any e = true → e.on ≠ i := fun e he hb heq => by
        have h1 := hall e he hb
        rw [heq, hil] at h1; cases h1
      have h2 := wpOp_putIf hoj (hfree j oj hoj hji hjun hnot) (fun cs b => hsel i oi cs b hi) (fun cs b => hsel j oj cs b hoj) hQ hy h1
      have hc : ∀ w', (((l.setIfInBounds i true).setIfInBounds j true).getD tl false = false → C w') → ((l.setIfInBounds j true).getD tl false = false → C w') := fun w' h h' =>
        h (by rw [Array.setIfInBounds_comm _ _ (Ne.symm hji), getD_set_ne false hit]; exact h')
      refine wpOp_mono (fun a' w' h3 => ⟨hc w' h3.2.1, ih (l.setIfInBounds j true) a' w' (fun k ok hk hki hun hno => ?_) (ready_mono hr (Ne.symm hji)) h3.1 (hc w' h3.2.1) ?_⟩) h2
      · refine hfree k ok hk hki ?_ hno
        by_cases hjk : j = k
        · subst hjk; exact hjun
        · rw [getD_set_ne true hjk] at hun; exact hun
      · rw [Array.setIfInBounds_comm _ _ hji]
        exact h3.2.2

def moveOp : Op → Bool
  | .move _ => true
  | _ => false
theorem move_yields {o : Oper} {v : Value} {a : Act} {w0 : World} (hm : moveOp o.op = true) (h : (execOp a.eval o).run P w0 = .ok (.value v) w0) : ∀ w, True → (execOp a.eval o).run P w = .ok (.value v) w := by
  intro w _
  obtain ⟨dst, op, ty, pos, after, guard⟩ := o
  cases op <;> simp only [moveOp, Bool.false_eq_true] at hm
  simp [execOp] at h ⊢
  exact h

/-- The operations of the mask, the others. -/
def pickQ : List Oper → List Bool → List Oper
  | o :: l, true :: m => o :: pickQ l m
  | _ :: l, false :: m => pickQ l m
  | _, _ => []
def pickT : List Oper → List Bool → List Oper
  | o :: l, false :: m => o :: pickT l m
  | _ :: l, true :: m => pickT l m
  | _, _ => []
def planQ (ops : Array Oper) (tl : Nat) : List Bool → Nat → Array Bool → Option (Array Bool)
  | [], _, l => some l
  | true :: m, k, l => if (Region.ready .any ops l).contains k && Region.free .any ops l k && (sinks ops tl ops.size k || (k != tl && match ops[k]? with | some o => moveOp o.op | none => false)) && (match ops[k]? with | some o => plainOp o.op | none => false) then planQ ops tl m (k + 1) (l.setIfInBounds k true) else none
  | false :: m, k, l => planQ ops tl m (k + 1) l
def planT (ops : Array Oper) (tl : Nat) : List Bool → Nat → Nat → Array Bool → Bool
  | [], _, _, l => (Region.ready .any ops l).isEmpty
  | true :: m, n, k, l => planT ops tl m n (k + 1) l
  | false :: m, 0, k, l => decide (Region.ready .any ops l = [k]) && (l.setIfInBounds k true).getD tl false && planT ops tl m 0 (k + 1) (l.setIfInBounds k true)
  | false :: m, n + 1, k, l => decide (Region.ready .any ops l = [k]) && planT ops tl m n (k + 1) (l.setIfInBounds k true)
def planB (ops : Array Oper) (m : List Bool) (tl n : Nat) : Bool :=
  Region.noSelect ops && decide (m.length = ops.size) && decide (tl < ops.size) && match planQ ops tl m 0 (Array.replicate ops.size false) with
  | some l => planT ops tl m n 0 l
  | none => false

/-- The others, one behind the other; the class is shown anew behind the first n. -/
def wpTail (P : Program) (ops : Array Oper) (Q : Exit → Act → World → Prop) (C : World → Prop) : Nat → List Oper → Act → World → Prop
  | 0, l, a, w => wpList P ops Q l a w
  | _ + 1, [], a, w => Q .normal a w
  | n + 1, o :: r, a, w => if Region.wanted o (yielded ops a.tmps) then o.wp P a w (fun a' w' => C w' ∧ wpTail P ops Q C n r a' w') Q ∨ (o.asks P a w ∧ LetsOut Q) else C w ∧ wpTail P ops Q C n r (a.put o.dst undef) w
theorem wpTail_zero {l : List Oper} {a : Act} {w : World} (h : wpList P ops Q l a w) : wpTail P ops Q C 0 l a w := h
theorem wpTail_cons {n : Nat} {o : Oper} {r : List Oper} {a : Act} {w : World}
    (h : ∀ K : Act → World → Prop, (∀ a w, C w → wpTail P ops Q C n r a w → K a w) → if Region.wanted o (yielded ops a.tmps) then o.wp P a w K Q else K (a.put o.dst undef) w) : wpTail P ops Q C (n + 1) (o :: r) a w := by
  have := h (fun a' w' => C w' ∧ wpTail P ops Q C n r a' w') (fun _ _ h1 h2 => ⟨h1, h2⟩)
  unfold wpTail
  split
  · rename_i hw; rw [if_pos hw] at this; exact .inl this
  · rename_i hw; rw [if_neg hw] at this; exact this

theorem wpS_tail {tl : Nat} : ∀ (lst : List Oper) (m : List Bool) (n k : Nat) (l : Array Bool) (a : Act) (w : World), (∀ j, lst[j]? = ops[k + j]?) → m.length = lst.length →
    planT ops tl m n k l = true → wpTail P ops Q C n (pickT lst m) a w → wpS P ops Q C tl (pickT lst m).length l a w
  | [], [], n, k, l, a, w, _, _, hB, h => by
    refine ⟨by simpa [planT] using hB, ?_⟩
    cases n with
    | zero => simpa [wpTail, pickT, wpList] using h
    | succ n => simpa [wpTail, pickT] using h
  | o :: lst, true :: m, n, k, l, a, w, hl, hm, hB, h =>
    wpS_tail lst m n (k + 1) l a w (fun j => by have := hl (j + 1); simpa [Nat.add_assoc, Nat.add_comm 1 j] using this) (by simpa using hm) hB h
  | o :: lst, false :: m, n, k, l, a, w, hl, hm, hB, h => by
    have h0 : ops[k]? = some o := by simpa using (hl 0).symm
    have hl' : ∀ j, lst[j]? = ops[k + 1 + j]? := fun j => by have := hl (j + 1); simpa [Nat.add_assoc, Nat.add_comm 1 j] using this
    have hm' : m.length = lst.length := by simpa using hm
    show wpS P ops Q C tl ((pickT lst m).length + 1) l a w
    cases n with
    | zero =>
      simp only [planT, Bool.and_eq_true, decide_eq_true_eq] at hB
      obtain ⟨⟨hr, htl⟩, hB⟩ := hB
      refine ⟨fun h1 => (by rw [hr] at h1; cases h1), fun i hi => ?_⟩
      rw [hr] at hi
      have hik : i = k := by simpa using hi
      subst hik
      have h' : wpList P ops Q (o :: pickT lst m) a w := h
      unfold wpList at h'
      unfold wpOp
      simp only [h0]
      have IH := fun a w (h : wpList P ops Q (pickT lst m) a w) => wpS_tail lst m 0 (i + 1) (l.setIfInBounds i true) a w hl' hm' hB h
      split
      · rename_i hw; rw [if_pos hw] at h'
        exact h'.imp (Oper.wp_mono fun a' w' hq => ⟨fun hf => (by rw [htl] at hf; cases hf), IH a' w' hq⟩) id
      · rename_i hw; rw [if_neg hw] at h'
        exact ⟨fun hf => (by rw [htl] at hf; cases hf), IH _ _ h'⟩
    | succ n =>
      simp only [planT, Bool.and_eq_true, decide_eq_true_eq] at hB
      obtain ⟨hr, hB⟩ := hB
      refine ⟨fun h1 => (by rw [hr] at h1; cases h1), fun i hi => ?_⟩
      rw [hr] at hi
      have hik : i = k := by simpa using hi
      subst hik
      have h' : wpTail P ops Q C (n + 1) (o :: pickT lst m) a w := h
      unfold wpTail at h'
      unfold wpOp
      simp only [h0]
      have IH := fun a w (h : wpTail P ops Q C n (pickT lst m) a w) => wpS_tail lst m n (i + 1) (l.setIfInBounds i true) a w hl' hm' hB h
      split
      · rename_i hw; rw [if_pos hw] at h'
        exact h'.imp (Oper.wp_mono fun a' w' hq => ⟨fun _ => hq.1, IH a' w' hq.2⟩) id
      · rename_i hw; rw [if_neg hw] at h'
        exact ⟨fun _ => h'.1, IH _ _ h'.2⟩

theorem quiet_yields {o : Oper} {v : Value} {a : Act} (hp : plainOp o.op = true) (h : ∀ w, C w → o.quietAt P a C w v) : ∀ w, C w → (execOp a.eval o).run P w = .ok (.value v) w := by
  intro w hw
  have h1 := h w hw
  unfold Oper.quietAt at h1
  cases hr : (execOp a.eval o).run P w with
  | ok n w' =>
    obtain ⟨u, rfl⟩ := plain_value hp hr
    rw [hr] at h1
    obtain ⟨rfl, rfl⟩ := h1
    rfl
  | halt x w' => rw [hr] at h1; exact h1.elim

theorem wpS_quiet {tl : Nat} (htl : tl < ops.size) (hsel : Region.noSelect ops = true) (hQ : ∀ c a d v w, Q (.panic c) (Act.put a d v) w → Q (.panic c) a w) {K : Act → Prop} {w : World} (hC : C w) (g : Nat) (l' : Array Bool)
    (hK : ∀ a, K a → wpS P ops Q C tl g l' a w) : ∀ (lst : List Oper) (m : List Bool) (k : Nat) (l : Array Bool) (a : Act), (∀ j, lst[j]? = ops[k + j]?) → m.length = lst.length → Shutl ops l →
    planQ ops tl m k l = some l' → wpQuiet P ops C K (pickQ lst m) a → wpS P ops Q C tl ((pickQ lst m).length + g) l a w
  | [], [], k, l, a, _, _, _, hB, h => by
    simp only [planQ, Option.some.injEq] at hB
    subst hB
    simpa [pickQ] using hK a h
  | o :: lst, false :: m, k, l, a, hl, hm, hsh, hB, h =>
    wpS_quiet htl hsel hQ hC g l' hK lst m (k + 1) l a (fun j => by have := hl (j + 1); simpa [Nat.add_assoc, Nat.add_comm 1 j] using this) (by simpa using hm) hsh hB h
  | o :: lst, true :: m, k, l, a, hl, hm, hsh, hB, h => by
    have h0 : ops[k]? = some o := by simpa using (hl 0).symm
    simp only [planQ, h0] at hB
    split at hB
    · rename_i hc
      simp only [Bool.and_eq_true, Bool.or_eq_true, bne_iff_ne] at hc
      obtain ⟨⟨⟨hr, hf⟩, hsk⟩, hp⟩ := hc
      have hr' : k ∈ Region.ready .any ops l := by simpa using hr
      have hl' : ∀ j, lst[j]? = ops[k + 1 + j]? := fun j => by have := hl (j + 1); simpa [Nat.add_assoc, Nat.add_comm 1 j] using this
      have hrec := fun a' => wpS_quiet htl hsel hQ hC g l' hK lst m (k + 1) (l.setIfInBounds k true) a' hl' (by simpa using hm) (hsh.set hr') hB
      show wpS P ops Q C tl ((pickQ lst m).length + 1 + g) l a w
      rw [show (pickQ lst m).length + 1 + g = ((pickQ lst m).length + g) + 1 by omega]
      have h' : wpQuiet P ops C K (o :: pickQ lst m) a := h
      simp only [wpQuiet] at h'
      by_cases hw : Region.wanted o (yielded ops a.tmps) = true
      · rw [if_pos hw] at h'
        obtain ⟨v, h1, h2⟩ := h'
        have hy := quiet_yields hp h1
        rcases hsk with hsk | ⟨hne, hmv⟩
        · exact wpS_first h0 (Region.noSelect_spec hsel) (fun c a w => hQ c a _ _ w) htl hsk _ l a w hsh (Region.free_spec h0 hf) hr' (.inl ⟨hw, hy⟩) hC (hrec _ h2)
        · exact wpS_first_pure h0 (Region.noSelect_spec hsel) (fun c a w => hQ c a _ _ w) hne _ l a w (Region.free_spec h0 hf) hr' (.inl ⟨hw, move_yields hmv (hy w hC)⟩) (fun _ => hC) (hrec _ h2)
      · rw [if_neg hw] at h'
        have hy : Region.wanted o (yielded ops a.tmps) = false ∧ undef = undef := ⟨by simpa using hw, rfl⟩
        rcases hsk with hsk | ⟨hne, hmv⟩
        · exact wpS_first h0 (Region.noSelect_spec hsel) (fun c a w => hQ c a _ _ w) htl hsk _ l a w hsh (Region.free_spec h0 hf) hr' (.inr hy) hC (hrec _ h')
        · exact wpS_first_pure h0 (Region.noSelect_spec hsel) (fun c a w => hQ c a _ _ w) hne _ l a w (Region.free_spec h0 hf) hr' (.inr hy) (fun _ => hC) (hrec _ h')
    · cases hB

/-- A REGION BY ITS PLAN: m: which operations only read; tl: an operation for which all of these wait; n: how many of the others stand ahead of it. -/
theorem wp_region_plan {id : Nat} {a : Act} {w : World} {l : List Oper} (m : List Bool) (tl n : Nat) (hm : P.follows .mixedOrders = true) (hB : planB l.toArray m tl n = true)
    (hQ : ∀ c a d v w, Q (.panic c) (Act.put a d v) w → Q (.panic c) a w) (hC : C w.drew)
    (h : wpQuiet P l.toArray C (fun a' => wpTail P l.toArray Q C n (pickT l m) a' w.drew) (pickQ l m) a) : (Code.region id l.toArray true).wp P Q a w := by
  unfold planB at hB
  simp only [Bool.and_eq_true, decide_eq_true_eq] at hB
  obtain ⟨⟨⟨hsel, hlen⟩, htl⟩, hplan⟩ := hB
  have hlen' : m.length = l.length := by simpa using hlen
  split at hplan
  · rename_i l' hl'
    refine wp_region_any hm (wpAny_of_S (C := C) (tl := tl) _ _ _ _ ?_)
    have hcnt : ∀ (lst : List Oper) (m : List Bool), m.length = lst.length → (pickQ lst m).length + (pickT lst m).length = lst.length := by
      intro lst
      induction lst with
      | nil => intro m _; cases m <;> rfl
      | cons o lst ih => intro m hm; cases m with
        | nil => simp at hm
        | cons b m =>
          have := ih m (by simpa using hm)
          cases b <;> simp [pickQ, pickT] <;> omega
    have h1 := wpS_quiet (P := P) (ops := l.toArray) (Q := Q) (C := C) htl hsel hQ (w := w.drew) hC (pickT l m).length l'
      (fun a' ha' => wpS_tail (tl := tl) l m n 0 l' a' w.drew (fun j => by simp) hlen' hplan ha') l m 0 (Array.replicate l.toArray.size false) a (fun j => by simp) hlen'
      ⟨by simp, fun j o _ hl => by
        exfalso
        rcases Nat.lt_or_ge j l.toArray.size with hj | hj
        · simp [hj] at hl
          simp_all
        · simp [hj] at hl
          simp_all⟩ hl' h
    rw [hcnt l m hlen'] at h1
    rw [show l.toArray.size = l.length by simp]
    rw [show l.toArray.size = l.length by simp] at h1
    exact h1
  · cases hplan
end

/-! ### All but the last operations are quiet in a class of worlds (calls that are quiet among them); the last ones come in the one order left -/
section
variable {P : Program} {ops : Array Oper} {Q : Exit → Act → World → Prop} {C : World → Prop}
def wpQL (P : Program) (ops : Array Oper) (C : World → Prop) (tl : Nat) (L : Array Bool → Act → Prop) : Nat → Array Bool → Act → Prop
  | 0, l, a => L l a
  | f + 1, l, a => Region.ready .any ops l ≠ [] ∧ ∀ i ∈ Region.ready .any ops l, i < tl ∧ qOp P ops C i (wpQL P ops C tl L f (l.setIfInBounds i true)) a
theorem wpAny_of_QL {tl g : Nat} {L : Array Bool → Act → Prop} (hL : ∀ l a w, C w → L l a → wpAny P .any ops Q g l a w) :
    ∀ (f : Nat) (l : Array Bool) (a : Act) (w : World), C w → wpQL P ops C tl L f l a → wpAny P .any ops Q (f + g) l a w
  | 0, l, a, w, hC, h => by rw [Nat.zero_add]; exact hL l a w hC h
  | f + 1, l, a, w, hC, h => by
    rw [show f + 1 + g = (f + g) + 1 by omega]
    exact ⟨fun h0 => absurd h0 h.1, fun i hi => wpOp_of_qOp hC (fun a' w' hC' h' => wpAny_of_QL hL f _ a' w' hC' h') (h.2 i hi).2⟩
/-- tl and what stands behind it wait for i. -/
theorem wpQL_first {tl i : Nat} {oi : Oper} {v : Value} {L : Array Bool → Act → Prop} (hi : ops[i]? = some oi) (hsel : ∀ (j : Nat) (o : Oper) cs b, ops[j]? = some o → o.op ≠ .select cs b)
    (htl : tl < ops.size) (hsk : sinks ops tl ops.size i = true) (hit : i < tl) (hchain : ∀ t, tl < t → t < ops.size → waitsOn ops t (t - 1) = true)
    (hL : ∀ l a, L l a → ∀ j ∈ Region.ready .any ops l, tl ≤ j) :
    ∀ (f : Nat) (l : Array Bool) (a : Act), Shutl ops l →
      (∀ j oj, ops[j]? = some oj → j ≠ i → l.getD j true = false → (∀ e ∈ oj.after, Region.binds .any e = true → e.on ≠ i) → oi.apart ops oj = true) →
      i ∈ Region.ready .any ops l → YieldsIn P ops C oi v a → wpQL P ops C tl L f (l.setIfInBounds i true) (a.put oi.dst v) → wpQL P ops C tl L (f + 1) l a := by
  have hlate : ∀ l, Shutl ops l → l.getD i false = false → ∀ j ∈ Region.ready .any ops l, j < tl := by
    intro l hsh hil j hj
    obtain ⟨hun, hnr⟩ := sinks_unlisted hsh htl _ i hsk hil
    rcases Nat.lt_trichotomy j tl with h | h | h
    · exact h
    · subst h; exact absurd hj hnr
    · exfalso
      have hjs : j < ops.size := by
        obtain ⟨_, o, ho, _⟩ := mem_ready.1 hj
        exact (Array.getElem?_eq_some_iff.1 ho).1
      -- no one behind tl is listed, and each waits for the one ahead
      have hall : ∀ d t, t = tl + d → t < ops.size → l.getD t false = false := by
        intro d
        induction d with
        | zero => intro t ht _; rw [ht]; exact hun
        | succ d ih =>
          intro t ht hts
          cases hq : l.getD t false with
          | false => rfl
          | true =>
            have hw := hchain t (by omega) hts
            unfold waitsOn at hw
            rw [Array.getElem?_eq_getElem hts] at hw
            obtain ⟨e, he, hb⟩ := Array.any_eq_true'.1 hw
            simp only [Bool.and_eq_true, beq_iff_eq] at hb
            have h2 := hsh.closed t _ (Array.getElem?_eq_getElem hts) hq e he hb.1
            rw [hb.2, ih (t - 1) (by omega) (by omega)] at h2
            cases h2
      obtain ⟨_, o, ho, hw2⟩ := mem_ready.1 hj
      have hw := hchain j h hjs
      unfold waitsOn at hw
      rw [ho] at hw
      obtain ⟨e, he, hb⟩ := Array.any_eq_true'.1 hw
      simp only [Bool.and_eq_true, beq_iff_eq] at hb
      have h2 := hw2 e he hb.1
      rw [hb.2, hall (j - 1 - tl) (j - 1) (by omega) (by omega)] at h2
      cases h2
  have hun0 : ∀ l : Array Bool, i ∈ Region.ready .any ops l → l.getD i false = false := by
    intro l hr
    have h0 := (mem_ready.1 hr).1
    rcases Nat.lt_or_ge i l.size with h' | h'
    · simp [h'] at h0 ⊢; exact h0
    · simp [Array.getElem?_eq_none h'] at h0
  intro f
  induction f with
  | zero =>
    intro l a hsh _ hr hy H
    refine ⟨fun h => (by rw [h] at hr; cases hr), fun j hj => ⟨hlate l hsh (hun0 l hr) j hj, ?_⟩⟩
    by_cases hji : j = i
    · subst hji; exact hy.qOp hi H
    · have h1 := hL _ _ H j (ready_mono hj hji)
      have h2 := hlate l hsh (hun0 l hr) j hj
      omega
  | succ f ih =>
    intro l a hsh hfree hr hy H
    refine ⟨fun h => (by rw [h] at hr; cases hr), fun j hj => ⟨hlate l hsh (hun0 l hr) j hj, ?_⟩⟩
    by_cases hji : j = i
    · subst hji; exact hy.qOp hi H
    · have h1 := (H.2 j (ready_mono hj hji)).2
      obtain ⟨hjun, oj, hoj, hall⟩ := mem_ready.1 hj
      have hnot : ∀ e ∈ oj.after, Region.binds .any e = true → e.on ≠ i := fun e he hb heq => by
        have h1 := hall e he hb
        rw [heq, hun0 l hr] at h1; cases h1
      have h2 := qOp_put hoj (hfree j oj hoj hji hjun hnot) (fun cs b => hsel i oi cs b hi) (fun cs b => hsel j oj cs b hoj) hy h1
      refine qOp_mono (fun a' h3 => ih (l.setIfInBounds j true) a' (hsh.set hj) (fun k ok hk hki hun hno => ?_) (ready_mono hr (Ne.symm hji)) h3.1 ?_) h2
      · refine hfree k ok hk hki ?_ hno
        by_cases hjk : j = k
        · subst hjk; exact hjun
        · rw [getD_set_ne true hjk] at hun; exact hun
      · rw [Array.setIfInBounds_comm _ _ hji]
        exact h3.2

def seqT (ops : Array Oper) : Nat → Nat → Array Bool → Bool
  | 0, _, l => (Region.ready .any ops l).isEmpty
  | g + 1, k, l => decide (Region.ready .any ops l = [k]) && seqT ops g (k + 1) (l.setIfInBounds k true)
def headT (ops : Array Oper) (tl g : Nat) : Nat → Nat → Array Bool → Bool
  | 0, k, l => seqT ops g k l
  | f + 1, k, l => (Region.ready .any ops l).contains k && Region.free .any ops l k && sinks ops tl ops.size k && headT ops tl g f (k + 1) (l.setIfInBounds k true)
def qlB (ops : Array Oper) (n : Nat) : Bool :=
  Region.noSelect ops && decide (n < ops.size) && ((List.range ops.size).all fun t => decide (t ≤ n) || waitsOn ops t (t - 1)) && headT ops n (ops.size - n) n 0 (Array.replicate ops.size false)
theorem wpAny_of_seqT : ∀ (lst : List Oper) (k : Nat) (l : Array Bool) (a : Act) (w : World), (∀ j, lst[j]? = ops[k + j]?) → seqT ops lst.length k l = true → wpList P ops Q lst a w → wpAny P .any ops Q lst.length l a w
  | [], _, _, _, _, _, hB, h => ⟨by simpa [seqT] using hB, h⟩
  | o :: lst, k, l, a, w, hl, hB, h => by
    have h0 : ops[k]? = some o := by simpa using (hl 0).symm
    simp only [List.length_cons, seqT, Bool.and_eq_true, decide_eq_true_eq] at hB
    refine ⟨fun h1 => (by rw [hB.1] at h1; cases h1), fun i hi => ?_⟩
    rw [hB.1] at hi
    have hik : i = k := by simpa using hi
    subst hik
    have hw : wpOp P ops Q i (wpList P ops Q lst) a w := by unfold wpOp; simp only [h0]; exact h
    exact wpOp_mono (fun a' w' h' => wpAny_of_seqT lst (i + 1) _ a' w' (fun j => by have := hl (j + 1); simpa [Nat.add_assoc, Nat.add_comm 1 j] using this) hB.2 h') hw
theorem seqT_ready {g k : Nat} {l : Array Bool} (h : seqT ops g k l = true) : ∀ j ∈ Region.ready .any ops l, k ≤ j := by
  cases g with
  | zero => intro j hj; simp only [seqT, List.isEmpty_iff] at h; rw [h] at hj; cases hj
  | succ g =>
    intro j hj
    simp only [seqT, Bool.and_eq_true, decide_eq_true_eq] at h
    rw [h.1] at hj
    have : j = k := by simpa using hj
    omega
theorem wpQL_lex {n g : Nat} {Lq : Act → Prop} (hsel : Region.noSelect ops = true) (hn : n < ops.size) (hchain : ∀ t, n < t → t < ops.size → waitsOn ops t (t - 1) = true) :
    ∀ (lst : List Oper) (k : Nat) (l : Array Bool) (a : Act), (∀ j, j < lst.length → lst[j]? = ops[k + j]?) → k + lst.length = n → Shutl ops l → headT ops n g lst.length k l = true →
      wpQuiet P ops C Lq lst a → wpQL P ops C n (fun l' a' => seqT ops g n l' = true ∧ Lq a') lst.length l a
  | [], k, l, a, _, hk, _, hB, h => by
    have : k = n := by simpa using hk
    subst this
    exact ⟨by simpa [headT] using hB, h⟩
  | o :: lst, k, l, a, hl, hk, hsh, hB, h => by
    have h0 : ops[k]? = some o := by simpa using (hl 0 (by simp)).symm
    simp only [List.length_cons, headT, Bool.and_eq_true] at hB
    obtain ⟨⟨⟨hr, hf⟩, hsk⟩, hB'⟩ := hB
    have hr' : k ∈ Region.ready .any ops l := by simpa using hr
    have hst : qOp P ops C k (wpQuiet P ops C Lq lst) a := by unfold qOp; simp only [h0]; exact h
    obtain ⟨v, hy, hK⟩ := yieldsIn_of_qOp h0 hst
    exact wpQL_first h0 (Region.noSelect_spec hsel) hn hsk (by simp only [List.length_cons] at hk; omega) hchain (fun l' a' hL => seqT_ready hL.1) lst.length l a hsh (Region.free_spec h0 hf) hr' hy
      (wpQL_lex hsel hn hchain lst (k + 1) _ _ (fun j hj => by have := hl (j + 1) (by simp; omega); simpa [Nat.add_assoc, Nat.add_comm 1 j] using this) (by simp only [List.length_cons] at hk; omega) (hsh.set hr') hB' hK)
/-- The first n operations are quiet in the class; then the others, in the text's order. -/
theorem wp_region_ql {id : Nat} {a : Act} {w : World} {l : List Oper} (n : Nat) (hm : P.follows .mixedOrders = true) (hB : qlB l.toArray n = true) (hC : C w.drew)
    (h : wpQuiet P l.toArray C (fun a' => ∀ w', C w' → wpList P l.toArray Q (l.drop n) a' w') (l.take n) a) : (Code.region id l.toArray true).wp P Q a w := by
  simp only [qlB, Bool.and_eq_true, decide_eq_true_eq, List.all_eq_true, List.mem_range, Bool.or_eq_true] at hB
  obtain ⟨⟨⟨hsel, hn⟩, hch⟩, hlex⟩ := hB
  have hn' : n < l.length := by simpa using hn
  have htl : (l.take n).length = n := by simp; omega
  have hsh : Shutl l.toArray (Array.replicate l.toArray.size false) := ⟨by simp, fun j o _ hl => by
    exfalso
    rcases Nat.lt_or_ge j l.toArray.size with hj | hj
    · simp [hj] at hl
      simp_all
    · simp [hj] at hl
      simp_all⟩
  have H := wpQL_lex (P := P) (ops := l.toArray) (C := C) (g := l.toArray.size - n) hsel hn (fun t h1 h2 => (hch t h2).resolve_left (by omega)) (l.take n) 0 _ a
    (fun j hj => by rw [htl] at hj; simp [hj]) (by simpa using htl) hsh (by rw [htl]; exact hlex) h
  refine wp_region_any hm ?_
  have h2 := wpAny_of_QL (Q := Q) (g := l.toArray.size - n) (fun l' a' w' hC' hL => by
    have h3 := wpAny_of_seqT (P := P) (ops := l.toArray) (Q := Q) (l.drop n) n l' a' w' (fun j => by simp [List.getElem?_drop]) (by
      have : (l.drop n).length = l.toArray.size - n := by simp
      rw [this]; exact hL.1) (hL.2 w' hC')
    have e : (l.drop n).length = l.toArray.size - n := by simp
    rwa [e] at h3) _ _ _ _ hC H
  rw [htl, show n + (l.toArray.size - n) = l.toArray.size by omega] at h2
  exact h2
/-- .. at the class 'W with new blocks'. -/
theorem wp_region_ext_tail {id : Nat} {a : Act} {W : World} {l : List Oper} (n : Nat) (hm : P.follows .mixedOrders = true) (hB : qlB l.toArray n = true)
    (h : wpQuiet P l.toArray (fun w' => ∃ E : ExtOf W, w' = E.w) (fun a' => ∀ E : ExtOf W, wpList P l.toArray Q (l.drop n) a' E.w) (l.take n) a) : (Code.region id l.toArray true).wp P Q a W := by
  refine wp_region_ql (C := fun w' => ∃ E : ExtOf W, w' = E.w) n hm hB ⟨⟨_, (Ext.rfl_ W).drew_⟩, rfl⟩ ?_
  have e : (fun a' => ∀ w', (∃ E : ExtOf W, w' = E.w) → wpList P l.toArray Q (l.drop n) a' w') = fun a' => ∀ E : ExtOf W, wpList P l.toArray Q (l.drop n) a' E.w := by
    funext a'
    exact propext ⟨fun h E => h _ ⟨E, rfl⟩, fun h w' ⟨E, hE⟩ => hE ▸ h E⟩
  rw [e]
  exact h
end

/-- A world that has kept the blocks of W but those of F. -/
structure But (W : World) (F : Nat → Prop) where
  w : World
  size : W.heap.size ≤ w.heap.size
  block : ∀ b, b < W.heap.size → ¬ F b → w.heap[b]? = W.heap[b]?
instance (W : World) (F : Nat → Prop) : Nonempty (But W F) := ⟨⟨W, Nat.le_refl _, fun _ _ _ => rfl⟩⟩
theorem But.cells {W : World} {F : Nat → Prop} (E : But W F) {b : Nat} (hb : b < W.heap.size) (hn : ¬ F b) (i : Nat) : E.w.cell? ⟨b, i, none⟩ = W.cell? ⟨b, i, none⟩ := World.cell?_of_block (E.block b hb hn)
theorem But.frz {W : World} {F : Nat → Prop} (E : But W F) {b : Nat} (hb : b < W.heap.size) (hn : ¬ F b) (i : Nat) : E.w.frozen? ⟨b, i, none⟩ = W.frozen? ⟨b, i, none⟩ := World.frozen?_of_block (E.block b hb hn)
theorem But.blk {W : World} {F : Nat → Prop} (E : But W F) {g : Nat} {t : TypeId} {cs : List Value} (h : Blk W g t cs) (hn : ¬ F g) : Blk E.w g t cs := h.keep (E.block g h.lt hn)
def InBut (W : World) (F : Nat → Prop) (w : World) : Prop := ∃ E : But W F, w = E.w
theorem InBut.of {W w : World} {F : Nat → Prop} (size : W.heap.size ≤ w.heap.size) (block : ∀ b, b < W.heap.size → ¬ F b → w.heap[b]? = W.heap[b]?) : ∃ E : But W F, w = E.w := ⟨⟨w, size, block⟩, rfl⟩
end Go.Proofs.Ythhckledkhcfeaa
