/- The store's functions, part B: Valid, is. -/
import Derived.Test.YthhckledkhcfeaaStA
namespace Go.Proofs.Ythhckledkhcfeaa
open Go.RowKit

def St.valid (σ : St) (o : Ob) : Bool :=
  if o.k = 6 then decide (0 ≤ o.rf ∧ o.rf < σ.texts.length) && withinB o.fr o.ln (σ.texts.getD o.rf.toNat []).length
  else if o.k = 7 then decide (0 ≤ o.rf ∧ o.rf < σ.lists.length) && withinB o.fr o.ln (σ.lists.getD o.rf.toNat []).length
  else if o.k = 8 then decide (0 ≤ o.rf ∧ o.rf < σ.dicts.length)
  else true

section
variable {w : World} {p : Nat} {σ : St} {h : Hd} {ρ : Roles}
theorem Sto.ntexts (s : Sto w p σ h ρ) : h.texts.n = σ.texts.length := by have h1 := s.texts.len; have h2 := s.nts; simp [slVals] at h1; omega
theorem Sto.nlists (s : Sto w p σ h ρ) : h.lists.n = σ.lists.length := by have h1 := s.lists.len; have h2 := s.nls; simp [slVals] at h1; omega
theorem Sto.ndicts (s : Sto w p σ h ρ) : h.dicts.n = σ.dicts.length := by have h1 := s.dicts.len; have h2 := s.nds; simp [ptrVals] at h1; omega
theorem Sto.text_at (s : Sto w p σ h ρ) {r : Nat} (hr : r < σ.texts.length) :
    ∃ g t b, h.texts.a = some ⟨g, 0, none⟩ ∧ h.ts[r]? = some t ∧ σ.texts[r]? = some b ∧ w.cell? ⟨g, r, none⟩ = some (.slice t.a t.n t.c) ∧ Row w 5 1 t (byteCells b) ∧ t.on ρ (.text r) ∧ ρ g = some .texts ∧ g < w.heap.size ∧ t.n = b.length ∧ b.length ≤ 65535 := by
  have hrt : r < h.ts.length := by have := s.nts; omega
  have hl := s.ntexts
  obtain ⟨hrow, hon⟩ := s.ts r (h.ts[r]) (σ.texts[r]) (List.getElem?_eq_getElem hrt) (List.getElem?_eq_getElem hr)
  obtain ⟨g, hg, hgb⟩ := s.texts.pos (by omega)
  refine ⟨g, h.ts[r], σ.texts[r], hg, List.getElem?_eq_getElem hrt, List.getElem?_eq_getElem hr, ?_, hrow, hon, s.rtexts g hgb, s.texts.blk_lt hgb, ?_, s.ok.text _ (List.getElem_mem _)⟩
  · rw [s.texts.cell hg r (by omega)]
    simp [slVals, hrt]
  · have := hrow.len
    simp [byteCells] at this
    omega
theorem length_obCells (l : List Ob) : (obCells l).length = l.length * 8 := by
  induction l with
  | nil => rfl
  | cons a l ih => simp only [obCells, List.flatMap_cons, List.length_append, List.length_cons] at *; rw [ih]; simp [Ob.cells]; omega
/-- Where cell j of item q stands. -/
theorem getElem?_flat {α β : Type} (f : α → List β) (k : Nat) (hf : ∀ a, (f a).length = k) : ∀ (l : List α) (q : Nat) (a : α) (j : Nat), l[q]? = some a → j < k → (l.flatMap f)[q * k + j]? = (f a)[j]?
  | [], q, a, j, h, _ => by simp at h
  | b :: l, 0, a, j, h, hj => by
    simp at h; subst h
    rw [Nat.zero_mul, Nat.zero_add, List.flatMap_cons, List.getElem?_append_left (by rw [hf]; exact hj)]
  | b :: l, q + 1, a, j, h, hj => by
    have h' : l[q]? = some a := by simpa using h
    rw [List.flatMap_cons, List.getElem?_append_right (by rw [hf, Nat.add_mul]; omega), hf, show (q + 1) * k + j - k = q * k + j by rw [Nat.add_mul]; omega]
    exact getElem?_flat f k hf l q a j h' hj
theorem length_flat {α β : Type} (f : α → List β) (k : Nat) (hf : ∀ a, (f a).length = k) (l : List α) : (l.flatMap f).length = l.length * k := by
  induction l with
  | nil => simp
  | cons a l ih => rw [List.flatMap_cons, List.length_append, hf, ih, List.length_cons, Nat.add_mul]; omega
theorem Row.item {α : Type} {f : α → List Value} {k : Nat} (hf : ∀ a, (f a).length = k) {e : TypeId} {t : Sl} {l : List α} (h : Row w e k t (l.flatMap f)) {g q : Nat} {a : α} (ha : t.a = some ⟨g, 0, none⟩) (hq : l[q]? = some a) {j : Nat} (hj : j < k) :
    w.cell? ⟨g, q * k + j, none⟩ = (f a)[j]? := by
  have hl := h.len
  rw [length_flat f k hf] at hl
  have hq' := (List.getElem?_eq_some_iff.1 hq).1
  have h1 : (q + 1) * k ≤ l.length * k := Nat.mul_le_mul_right _ hq'
  rw [Nat.add_mul] at h1
  rw [h.cell ha _ (by omega), getElem?_flat f k hf l q a j hq hj]
theorem Ob.cells_len (o : Ob) : o.cells.length = 8 := rfl
theorem Row.ob {e : TypeId} {t : Sl} {l : List Ob} (h : Row w e 8 t (obCells l)) {g q off : Nat} {o : Ob} (ha : t.a = some ⟨g, 0, none⟩) (hq : l[q]? = some o) (he : off = q * 8) :
    w.cell? ⟨g, off, none⟩ = some (.int .i64 o.k) ∧ w.cell? ⟨g, off + 1, none⟩ = some (.bool o.x) ∧ w.cell? ⟨g, off + 2, none⟩ = some (.int .i64 o.ac) ∧ w.cell? ⟨g, off + 3, none⟩ = some (.int .i64 o.n) ∧
      w.cell? ⟨g, off + 4, none⟩ = some (.string o.nm) ∧ w.cell? ⟨g, off + 5, none⟩ = some (.int .i64 o.rf) ∧ w.cell? ⟨g, off + 6, none⟩ = some (.int .i64 o.fr) ∧ w.cell? ⟨g, off + 7, none⟩ = some (.int .i64 o.ln) := by
  subst he
  have H := fun j hj => h.item (f := Ob.cells) Ob.cells_len ha hq (j := j) hj
  exact ⟨H 0 (by omega), H 1 (by omega), H 2 (by omega), H 3 (by omega), H 4 (by omega), H 5 (by omega), H 6 (by omega), H 7 (by omega)⟩
abbrev sets8 (xs : List Value) (off : Nat) (v0 v1 v2 v3 v4 v5 v6 v7 : Value) : List Value :=
  (((((((xs.set off v0).set (off + 1) v1).set (off + 2) v2).set (off + 3) v3).set (off + 4) v4).set (off + 5) v5).set (off + 6) v6).set (off + 7) v7
theorem sets8_obs (o : Ob) : ∀ (l : List Ob) (q : Nat), q < l.length → sets8 (obCells l) (q * 8) (.int .i64 o.k) (.bool o.x) (.int .i64 o.ac) (.int .i64 o.n) (.string o.nm) (.int .i64 o.rf) (.int .i64 o.fr) (.int .i64 o.ln) = obCells (l.set q o)
  | a :: l, 0, _ => rfl
  | a :: l, q + 1, h => by
    have ih := sets8_obs o l q (by simpa using h)
    have e : ∀ (xs : List Value) (j : Nat) (v : Value), (a.cells ++ xs).set ((q + 1) * 8 + j) v = a.cells ++ xs.set (q * 8 + j) v := by
      intro xs j v
      have hl : a.cells.length = 8 := rfl
      rw [List.set_append_right _ _ (by omega), hl, show (q + 1) * 8 + j - 8 = q * 8 + j by omega]
    have e0 := e (obCells l) 0
    simp only [Nat.add_zero] at e0
    show sets8 (a.cells ++ obCells l) ((q + 1) * 8) _ _ _ _ _ _ _ _ = a.cells ++ obCells (l.set q o)
    unfold sets8 at ih ⊢
    rw [e0, e, e, e, e, e, e, e, ih]
abbrev setO (w : World) (g off : Nat) (v0 v1 v2 v3 v4 v5 v6 v7 : Value) : World :=
  (((((((w.setCell ⟨g, off, none⟩ v0).setCell ⟨g, off + 1, none⟩ v1).setCell ⟨g, off + 2, none⟩ v2).setCell ⟨g, off + 3, none⟩ v3).setCell ⟨g, off + 4, none⟩ v4).setCell ⟨g, off + 5, none⟩ v5).setCell ⟨g, off + 6, none⟩ v6).setCell ⟨g, off + 7, none⟩ v7
theorem setO_only (w : World) (g off : Nat) (v0 v1 v2 v3 v4 v5 v6 v7 : Value) : Only w g (setO w g off v0 v1 v2 v3 v4 v5 v6 v7) :=
  ((((((((Only.refl_ w g).set_ off v0).set_ (off + 1) v1).set_ (off + 2) v2).set_ (off + 3) v3).set_ (off + 4) v4).set_ (off + 5) v5).set_ (off + 6) v6).set_ (off + 7) v7
theorem Row.set_ob {e : TypeId} {t : Sl} {l : List Ob} (h : Row w e 8 t (obCells l)) {g q off : Nat} (o : Ob) (ha : t.a = some ⟨g, 0, none⟩) (hq : q < l.length) (he : off = q * 8) :
    Row (setO w g off (.int .i64 o.k) (.bool o.x) (.int .i64 o.ac) (.int .i64 o.n) (.string o.nm) (.int .i64 o.rf) (.int .i64 o.fr) (.int .i64 o.ln)) e 8 t (obCells (l.set q o)) := by
  subst he
  rw [← sets8_obs o l q hq]
  exact (((((((h.set_ ha (q * 8) _).set_ ha (q * 8 + 1) _).set_ ha (q * 8 + 2) _).set_ ha (q * 8 + 3) _).set_ ha (q * 8 + 4) _).set_ ha (q * 8 + 5) _).set_ ha (q * 8 + 6) _).set_ ha (q * 8 + 7) _
theorem Sto.list_at (s : Sto w p σ h ρ) {r : Nat} (hr : r < σ.lists.length) :
    ∃ g t b, h.lists.a = some ⟨g, 0, none⟩ ∧ h.ls[r]? = some t ∧ σ.lists[r]? = some b ∧ w.cell? ⟨g, r, none⟩ = some (.slice t.a t.n t.c) ∧ Row w 27 8 t (obCells b) ∧ t.on ρ (.list r) ∧ ρ g = some .lists ∧ g < w.heap.size ∧ t.n = b.length ∧ b.length ≤ 65535 := by
  have hrt : r < h.ls.length := by have := s.nls; omega
  have hl := s.nlists
  obtain ⟨hrow, hon⟩ := s.ls r (h.ls[r]) (σ.lists[r]) (List.getElem?_eq_getElem hrt) (List.getElem?_eq_getElem hr)
  obtain ⟨g, hg, hgb⟩ := s.lists.pos (by omega)
  refine ⟨g, h.ls[r], σ.lists[r], hg, List.getElem?_eq_getElem hrt, List.getElem?_eq_getElem hr, ?_, hrow, hon, s.rlists g hgb, s.lists.blk_lt hgb, ?_, s.ok.list _ (List.getElem_mem _)⟩
  · rw [s.lists.cell hg r (by omega)]
    simp [slVals, hrt]
  · have := hrow.len
    rw [length_obCells] at this
    omega
end

section
variable {w : World} {p : Nat} {σ : St} {h : Hd} {ρ : Roles}
theorem valid6 (s : Sto w p σ h ρ) (x : Bool) (ac n : Int) (nm : ByteArray) (r : Nat) (fr ln : Int) (hr : r < σ.texts.length) :
    Calls Try.prog 46 #[.pointer (some ⟨p, 0, none⟩), .agg #[.int .i64 6, .bool x, .int .i64 ac, .int .i64 n, .string nm, .int .i64 r, .int .i64 fr, .int .i64 ln]] w fun e w' =>
      e = .returned (.bool (withinB fr ln (σ.texts.getD r []).length)) ∧ Ext w w' := by
  obtain ⟨g, t, b, ha, h1, h2, hcell, hrow, hon, hg, hglt, htn, hb⟩ := s.text_at hr
  have e1 : (σ.texts.getD r []).length = t.n := by simp [List.getD, h2, htn]
  rw [← htn] at hb
  rw [e1]
  have hmain := s.main
  rw [ha] at hmain
  have hc := hmain.cell
  have hp := hmain.lt
  have hrn : r < h.texts.n := by rw [s.ntexts]; exact hr
  clear e1 h1 h2 htn ha hmain s hrow hon hg
  go_enter Try.func46, Try.ntmps46
  go_wp2_with fail
  generalize hW : World.alloc w _ = W
  obtain ⟨hx, hcW, -, hzW, -⟩ := boxed hW
  clear hW
  have f1 := fun (E : ExtOf W) i => (E.cells hzW i).trans (hcW i)
  have f2 : ∀ (E : ExtOf W), E.w.cell? ⟨g, r, none⟩ = some (.slice t.a t.n t.c) := fun E => ((hx.trans_ E.h).cells hglt r).trans hcell
  have f3 := fun (E : ExtOf W) i => ((hx.trans_ E.h).cells hp i).trans (hc i)
  clear hc hcell hcW
  refine wp_region_ext (by kernel_rfl) (by kernel_rfl) ?_
  repeat (go_big_quiet_step ((go_at_call 92; exact quiet_ext (within_c _ _ _ _ _ _ _ _ _ _ (by omega) (by omega)))))
  refine wpQuiet_nil fun E => ?_
  go_wp2
  go_ret
  exact ⟨rfl, hx.trans_ E.h⟩
theorem valid7 (s : Sto w p σ h ρ) (x : Bool) (ac n : Int) (nm : ByteArray) (r : Nat) (fr ln : Int) (hr : r < σ.lists.length) :
    Calls Try.prog 46 #[.pointer (some ⟨p, 0, none⟩), .agg #[.int .i64 7, .bool x, .int .i64 ac, .int .i64 n, .string nm, .int .i64 r, .int .i64 fr, .int .i64 ln]] w fun e w' =>
      e = .returned (.bool (withinB fr ln (σ.lists.getD r []).length)) ∧ Ext w w' := by
  obtain ⟨g, t, b, ha, h1, h2, hcell, hrow, hon, hg, hglt, htn, hb⟩ := s.list_at hr
  have e1 : (σ.lists.getD r []).length = t.n := by simp [List.getD, h2, htn]
  rw [← htn] at hb
  rw [e1]
  have hmain := s.main
  rw [ha] at hmain
  have hc := hmain.cell
  have hp := hmain.lt
  have hrn : r < h.lists.n := by rw [s.nlists]; exact hr
  clear e1 h1 h2 htn ha hmain s hrow hon hg
  go_enter Try.func46, Try.ntmps46
  go_wp2_with fail
  generalize hW : World.alloc w _ = W
  obtain ⟨hx, hcW, -, hzW, -⟩ := boxed hW
  clear hW
  have f1 := fun (E : ExtOf W) i => (E.cells hzW i).trans (hcW i)
  have f2 : ∀ (E : ExtOf W), E.w.cell? ⟨g, r, none⟩ = some (.slice t.a t.n t.c) := fun E => ((hx.trans_ E.h).cells hglt r).trans hcell
  have f3 := fun (E : ExtOf W) i => ((hx.trans_ E.h).cells hp i).trans (hc i)
  clear hc hcell hcW
  refine wp_region_ext (by kernel_rfl) (by kernel_rfl) ?_
  repeat (go_big_quiet_step ((go_at_call 92; exact quiet_ext (within_c _ _ _ _ _ _ _ _ _ _ (by omega) (by omega)))))
  refine wpQuiet_nil fun E => ?_
  go_wp2
  go_ret
  exact ⟨rfl, hx.trans_ E.h⟩

/-- A reference out of its bounds; N: how many there are. -/
theorem validOut (s : Sto w p σ h ρ) (k : Int) (x : Bool) (ac n : Int) (nm : ByteArray) (rf fr ln : Int) (hk : k = 6 ∧ (rf < 0 ∨ (σ.texts.length : Int) ≤ rf) ∨ k = 7 ∧ (rf < 0 ∨ (σ.lists.length : Int) ≤ rf)) :
    Calls Try.prog 46 #[.pointer (some ⟨p, 0, none⟩), .agg #[.int .i64 k, .bool x, .int .i64 ac, .int .i64 n, .string nm, .int .i64 rf, .int .i64 fr, .int .i64 ln]] w fun e w' =>
      e = .returned (.bool false) ∧ Ext w w' := by
  have hmain := s.main
  have hc := hmain.cell
  have hp := hmain.lt
  have ht := s.ntexts
  have hl := s.nlists
  rw [← ht, ← hl] at hk
  clear ht hl hmain s
  by_cases h0 : rf < 0
  · have hd : decide (0 ≤ rf) = false := by simp; omega
    rcases hk with ⟨rfl, -⟩ | ⟨rfl, -⟩
    all_goals
      go_enter Try.func46, Try.ntmps46
      go_wp2_with fail
      generalize hW : World.alloc w _ = W
      obtain ⟨hx, hcW, -, hzW, -⟩ := boxed hW
      clear hW
      have f1 := fun (E : ExtOf W) i => (E.cells hzW i).trans (hcW i)
      have f3 := fun (E : ExtOf W) i => ((hx.trans_ E.h).cells hp i).trans (hc i)
      clear hc hcW
      refine wp_region_ext (by kernel_rfl) (by kernel_rfl) ?_
      repeat (go_big_quiet_step (fail))
      refine wpQuiet_nil fun E => ?_
      go_wp2
      go_ret
      exact ⟨rfl, hx.trans_ E.h⟩
  · have h0' : 0 ≤ rf := by omega
    rcases hk with ⟨rfl, hk⟩ | ⟨rfl, hk⟩
    all_goals
      first
        | (have hd : decide (rf < (h.texts.n : Int)) = false := by simp; omega)
        | (have hd : decide (rf < (h.lists.n : Int)) = false := by simp; omega)
      clear hk
      go_enter Try.func46, Try.ntmps46
      go_wp2_with fail
      generalize hW : World.alloc w _ = W
      obtain ⟨hx, hcW, -, hzW, -⟩ := boxed hW
      clear hW
      have f1 := fun (E : ExtOf W) i => (E.cells hzW i).trans (hcW i)
      have f3 := fun (E : ExtOf W) i => ((hx.trans_ E.h).cells hp i).trans (hc i)
      clear hc hcW
      refine wp_region_ext (by kernel_rfl) (by kernel_rfl) ?_
      repeat (go_big_quiet_step (fail))
      refine wpQuiet_nil fun E => ?_
      go_wp2
      go_ret
      exact ⟨rfl, hx.trans_ E.h⟩
theorem valid8 (s : Sto w p σ h ρ) (x : Bool) (ac n : Int) (nm : ByteArray) (rf fr ln : Int) :
    Calls Try.prog 46 #[.pointer (some ⟨p, 0, none⟩), .agg #[.int .i64 8, .bool x, .int .i64 ac, .int .i64 n, .string nm, .int .i64 rf, .int .i64 fr, .int .i64 ln]] w fun e w' =>
      e = .returned (.bool (decide (0 ≤ rf ∧ rf < σ.dicts.length))) ∧ Ext w w' := by
  have hmain := s.main
  have hc := hmain.cell
  have hp := hmain.lt
  have hl := s.ndicts
  rw [← hl]
  clear hl hmain s
  by_cases h0 : rf < 0
  · have hd : decide (0 ≤ rf) = false := by simp; omega
    have he : decide (0 ≤ rf ∧ rf < (h.dicts.n : Int)) = false := by simp; omega
    rw [he]
    clear he
    go_enter Try.func46, Try.ntmps46
    go_wp2_with fail
    generalize hW : World.alloc w _ = W
    obtain ⟨hx, hcW, -, hzW, -⟩ := boxed hW
    clear hW
    have f1 := fun (E : ExtOf W) i => (E.cells hzW i).trans (hcW i)
    have f3 := fun (E : ExtOf W) i => ((hx.trans_ E.h).cells hp i).trans (hc i)
    clear hc hcW
    refine wp_region_ext (by kernel_rfl) (by kernel_rfl) ?_
    repeat (go_big_quiet_step (fail))
    refine wpQuiet_nil fun E => ?_
    go_wp2
    go_ret
    exact ⟨rfl, hx.trans_ E.h⟩
  · have h0' : 0 ≤ rf := by omega
    have he : decide (0 ≤ rf ∧ rf < (h.dicts.n : Int)) = decide (rf < (h.dicts.n : Int)) := by simp; omega
    rw [he]
    clear he
    go_enter Try.func46, Try.ntmps46
    go_wp2_with fail
    generalize hW : World.alloc w _ = W
    obtain ⟨hx, hcW, -, hzW, -⟩ := boxed hW
    clear hW
    have f1 := fun (E : ExtOf W) i => (E.cells hzW i).trans (hcW i)
    have f3 := fun (E : ExtOf W) i => ((hx.trans_ E.h).cells hp i).trans (hc i)
    clear hc hcW
    refine wp_region_ext (by kernel_rfl) (by kernel_rfl) ?_
    repeat (go_big_quiet_step (fail))
    refine wpQuiet_nil fun E => ?_
    go_wp2
    go_ret
    exact ⟨rfl, hx.trans_ E.h⟩
theorem validElse (s : Sto w p σ h ρ) (k : Int) (x : Bool) (ac n : Int) (nm : ByteArray) (rf fr ln : Int) (h6 : ¬ k = 6) (h7 : ¬ k = 7) (h8 : ¬ k = 8) :
    Calls Try.prog 46 #[.pointer (some ⟨p, 0, none⟩), .agg #[.int .i64 k, .bool x, .int .i64 ac, .int .i64 n, .string nm, .int .i64 rf, .int .i64 fr, .int .i64 ln]] w fun e w' =>
      e = .returned (.bool true) ∧ Ext w w' := by
  have b6 : (k == 6) = false := by simpa using h6
  have b7 : (k == 7) = false := by simpa using h7
  have b8 : (k == 8) = false := by simpa using h8
  go_enter Try.func46, Try.ntmps46
  go_wp2_with fail
  go_ret
  exact ⟨rfl, (Ext.rfl_ w).alloc_ _⟩
theorem valid_nil (k : Int) (x : Bool) (ac n : Int) (nm : ByteArray) (rf fr ln : Int) (w : World) :
    Calls Try.prog 46 #[.pointer none, .agg #[.int .i64 k, .bool x, .int .i64 ac, .int .i64 n, .string nm, .int .i64 rf, .int .i64 fr, .int .i64 ln]] w fun e w' =>
      e = .returned (.bool false) ∧ Ext w w' := by
  go_enter Try.func46, Try.ntmps46
  go_wp2_with fail
  go_ret
  exact ⟨rfl, (Ext.rfl_ w).alloc_ _⟩

/-- (*Store).Valid. -/
theorem valid_c (s : Sto w p σ h ρ) (k : Int) (x : Bool) (ac n : Int) (nm : ByteArray) (rf fr ln : Int) :
    Calls Try.prog 46 #[.pointer (some ⟨p, 0, none⟩), .agg #[.int .i64 k, .bool x, .int .i64 ac, .int .i64 n, .string nm, .int .i64 rf, .int .i64 fr, .int .i64 ln]] w fun e w' =>
      e = .returned (.bool (σ.valid ⟨k, x, ac, n, nm, rf, fr, ln⟩)) ∧ Ext w w' := by
  unfold St.valid
  dsimp only
  by_cases h6 : k = 6
  · subst h6
    rw [if_pos rfl]
    by_cases hin : 0 ≤ rf ∧ rf < σ.texts.length
    · obtain ⟨r, rfl⟩ := Int.eq_ofNat_of_zero_le hin.1
      have hr : r < σ.texts.length := by omega
      have e : decide (0 ≤ (r : Int) ∧ (r : Int) < σ.texts.length) = true := by simp; omega
      rw [e, Bool.true_and, Int.toNat_natCast]
      exact valid6 s x ac n nm r fr ln hr
    · rw [decide_eq_false hin, Bool.false_and]
      exact validOut s 6 x ac n nm rf fr ln (.inl ⟨rfl, by omega⟩)
  · rw [if_neg h6]
    by_cases h7 : k = 7
    · subst h7
      rw [if_pos rfl]
      by_cases hin : 0 ≤ rf ∧ rf < σ.lists.length
      · obtain ⟨r, rfl⟩ := Int.eq_ofNat_of_zero_le hin.1
        have hr : r < σ.lists.length := by omega
        have e : decide (0 ≤ (r : Int) ∧ (r : Int) < σ.lists.length) = true := by simp; omega
        rw [e, Bool.true_and, Int.toNat_natCast]
        exact valid7 s x ac n nm r fr ln hr
      · rw [decide_eq_false hin, Bool.false_and]
        exact validOut s 7 x ac n nm rf fr ln (.inr ⟨rfl, by omega⟩)
    · rw [if_neg h7]
      by_cases h8 : k = 8
      · subst h8
        rw [if_pos rfl]
        exact valid8 s x ac n nm rf fr ln
      · rw [if_neg h8]
        exact validElse s k x ac n nm rf fr ln h6 h7 h8

/-- (*Store).is. -/
theorem is_c (s : Sto w p σ h ρ) (k : Int) (x : Bool) (ac n : Int) (nm : ByteArray) (rf fr ln kind : Int) :
    Calls Try.prog 61 #[.pointer (some ⟨p, 0, none⟩), .agg #[.int .i64 k, .bool x, .int .i64 ac, .int .i64 n, .string nm, .int .i64 rf, .int .i64 fr, .int .i64 ln], .int .i64 kind] w fun e w' =>
      e = .returned (.bool (decide (k = kind) && σ.valid ⟨k, x, ac, n, nm, rf, fr, ln⟩)) ∧ Ext w w' := by
  by_cases hk : k = kind
  · subst hk
    rw [decide_eq_true rfl, Bool.true_and]
    go_enter Try.func61, Try.ntmps61
    go_wp2_with (go_at_call 46; refine (valid_c (s.ext ((Ext.rfl_ w).alloc_ _)) _ _ _ _ _ _ _ _).mono ?_; rintro e w1 ⟨rfl, hx1⟩)
    go_ret
    exact ⟨rfl, ((Ext.rfl_ w).alloc_ _).trans_ hx1⟩
  · have hb : (k == kind) = false := by simpa using hk
    rw [decide_eq_false hk, Bool.false_and]
    go_enter Try.func61, Try.ntmps61
    go_wp2_with fail
    go_ret
    exact ⟨rfl, (Ext.rfl_ w).alloc_ _⟩
theorem is_nil (k : Int) (x : Bool) (ac n : Int) (nm : ByteArray) (rf fr ln kind : Int) (w : World) :
    Calls Try.prog 61 #[.pointer none, .agg #[.int .i64 k, .bool x, .int .i64 ac, .int .i64 n, .string nm, .int .i64 rf, .int .i64 fr, .int .i64 ln], .int .i64 kind] w fun e w' =>
      e = .returned (.bool false) ∧ Ext w w' := by
  by_cases hk : k = kind
  · subst hk
    go_enter Try.func61, Try.ntmps61
    go_wp2_with (go_at_call 46; refine (valid_nil _ _ _ _ _ _ _ _ _).mono ?_; rintro e w1 ⟨rfl, hx1⟩)
    go_ret
    exact ⟨rfl, ((Ext.rfl_ w).alloc_ _).trans_ hx1⟩
  · have hb : (k == kind) = false := by simpa using hk
    go_enter Try.func61, Try.ntmps61
    go_wp2_with fail
    go_ret
    exact ⟨rfl, (Ext.rfl_ w).alloc_ _⟩
end
end Go.Proofs.Ythhckledkhcfeaa
