/- The store's functions, part B: Valid, is. The store's functions, part C: text, list: the parts themselves. The builtin copy into a row, elements of any number of cells; what a slice shows. -/
import Derived.Test.YthhckledkhcfeaaQ01
namespace Go.Proofs.Ythhckledkhcfeaa
open Go.RowKit

def St.valid (σ : St) (o : Ob) : Bool :=
  if o.k = 6 then decide (0 ≤ o.rf ∧ o.rf < σ.texts.length) && withinB o.fr o.ln (σ.texts.getD o.rf.toNat []).length
  else if o.k = 7 then decide (0 ≤ o.rf ∧ o.rf < σ.lists.length) && withinB o.fr o.ln (σ.lists.getD o.rf.toNat []).length
  else if o.k = 8 then decide (0 ≤ o.rf ∧ o.rf < σ.dicts.length)
  else true

section
variable {w : World} {p : Nat} {σ : St} {h : Hd} {ρ : Roles}
theorem Sto.ntexts (s : Sto w p σ h ρ) : h.texts.n = σ.texts.length := by have h1 := s.texts.len; have h2 := s.nts; simp [slVals] at h1; omega
theorem Sto.nlists (s : Sto w p σ h ρ) : h.lists.n = σ.lists.length := by have h1 := s.lists.len; have h2 := s.nls; simp [slVals] at h1; omega
theorem Sto.ndicts (s : Sto w p σ h ρ) : h.dicts.n = σ.dicts.length := by have h1 := s.dicts.len; have h2 := s.nds; simp [ptrVals] at h1; omega
theorem Sto.text_at (s : Sto w p σ h ρ) {r : Nat} (hr : r < σ.texts.length) :
    ∃ g t b, h.texts.a = some ⟨g, 0, none⟩ ∧ h.ts[r]? = some t ∧ σ.texts[r]? = some b ∧ w.cell? ⟨g, r, none⟩ = some (.slice t.a t.n t.c) ∧ Row w 5 1 t (byteCells b) ∧ t.on ρ (.text r) ∧ ρ g = some .texts ∧ g < w.heap.size ∧ t.n = b.length ∧ b.length ≤ 65535 := by
  have hrt : r < h.ts.length := by have := s.nts; omega
  have hl := s.ntexts
  obtain ⟨hrow, hon⟩ := s.ts r (h.ts[r]) (σ.texts[r]) (List.getElem?_eq_getElem hrt) (List.getElem?_eq_getElem hr)
  obtain ⟨g, hg, hgb⟩ := s.texts.pos (by omega)
  refine ⟨g, h.ts[r], σ.texts[r], hg, List.getElem?_eq_getElem hrt, List.getElem?_eq_getElem hr, ?_, hrow, hon, s.rtexts g hgb, s.texts.blk_lt hgb, ?_, s.ok.text _ (List.getElem_mem _)⟩
  · rw [s.texts.cell hg r (by omega)]
    simp [slVals, hrt]
  · have := hrow.len
    simp [byteCells] at this
    omega
theorem length_obCells (l : List Ob) : (obCells l).length = l.length * 8 := by
  induction l with
  | nil => rfl
  | cons a l ih => simp only [obCells, List.flatMap_cons, List.length_append, List.length_cons] at *; rw [ih]; simp [Ob.cells]; omega
/-- Where cell j of item q stands. -/
theorem getElem?_flat {α β : Type} (f : α → List β) (k : Nat) (hf : ∀ a, (f a).length = k) : ∀ (l : List α) (q : Nat) (a : α) (j : Nat), l[q]? = some a → j < k → (l.flatMap f)[q * k + j]? = (f a)[j]?
  | [], q, a, j, h, _ => by simp at h
  | b :: l, 0, a, j, h, hj => by
    simp at h; subst h
    rw [Nat.zero_mul, Nat.zero_add, List.flatMap_cons, List.getElem?_append_left (by rw [hf]; exact hj)]
  | b :: l, q + 1, a, j, h, hj => by
    have h' : l[q]? = some a := by simpa using h
    rw [List.flatMap_cons, List.getElem?_append_right (by rw [hf, Nat.add_mul]; omega), hf, show (q + 1) * k + j - k = q * k + j by rw [Nat.add_mul]; omega]
    exact getElem?_flat f k hf l q a j h' hj
theorem length_flat {α β : Type} (f : α → List β) (k : Nat) (hf : ∀ a, (f a).length = k) (l : List α) : (l.flatMap f).length = l.length * k := by
  induction l with
  | nil => simp
  | cons a l ih => rw [List.flatMap_cons, List.length_append, hf, ih, List.length_cons, Nat.add_mul]; omega
theorem Row.item {α : Type} {f : α → List Value} {k : Nat} (hf : ∀ a, (f a).length = k) {e : TypeId} {t : Sl} {l : List α} (h : Row w e k t (l.flatMap f)) {g q : Nat} {a : α} (ha : t.a = some ⟨g, 0, none⟩) (hq : l[q]? = some a) {j : Nat} (hj : j < k) :
    w.cell? ⟨g, q * k + j, none⟩ = (f a)[j]? := by
  have hl := h.len
  rw [length_flat f k hf] at hl
  have hq' := (List.getElem?_eq_some_iff.1 hq).1
  have h1 : (q + 1) * k ≤ l.length * k := Nat.mul_le_mul_right _ hq'
  rw [Nat.add_mul] at h1
  rw [h.cell ha _ (by omega), getElem?_flat f k hf l q a j hq hj]
theorem Ob.cells_len (o : Ob) : o.cells.length = 8 := rfl
theorem Row.ob {e : TypeId} {t : Sl} {l : List Ob} (h : Row w e 8 t (obCells l)) {g q off : Nat} {o : Ob} (ha : t.a = some ⟨g, 0, none⟩) (hq : l[q]? = some o) (he : off = q * 8) :
    w.cell? ⟨g, off, none⟩ = some (.int .i64 o.k) ∧ w.cell? ⟨g, off + 1, none⟩ = some (.bool o.x) ∧ w.cell? ⟨g, off + 2, none⟩ = some (.int .i64 o.ac) ∧ w.cell? ⟨g, off + 3, none⟩ = some (.int .i64 o.n) ∧
      w.cell? ⟨g, off + 4, none⟩ = some (.string o.nm) ∧ w.cell? ⟨g, off + 5, none⟩ = some (.int .i64 o.rf) ∧ w.cell? ⟨g, off + 6, none⟩ = some (.int .i64 o.fr) ∧ w.cell? ⟨g, off + 7, none⟩ = some (.int .i64 o.ln) := by
  subst he
  have H := fun j hj => h.item (f := Ob.cells) Ob.cells_len ha hq (j := j) hj
  exact ⟨H 0 (by omega), H 1 (by omega), H 2 (by omega), H 3 (by omega), H 4 (by omega), H 5 (by omega), H 6 (by omega), H 7 (by omega)⟩
abbrev sets8 (xs : List Value) (off : Nat) (v0 v1 v2 v3 v4 v5 v6 v7 : Value) : List Value :=
  (((((((xs.set off v0).set (off + 1) v1).set (off + 2) v2).set (off + 3) v3).set (off + 4) v4).set (off + 5) v5).set (off + 6) v6).set (off + 7) v7
theorem sets8_obs (o : Ob) : ∀ (l : List Ob) (q : Nat), q < l.length → sets8 (obCells l) (q * 8) (.int .i64 o.k) (.bool o.x) (.int .i64 o.ac) (.int .i64 o.n) (.string o.nm) (.int .i64 o.rf) (.int .i64 o.fr) (.int .i64 o.ln) = obCells (l.set q o)
  | a :: l, 0, _ => rfl
  | a :: l, q + 1, h => by
    have ih := sets8_obs o l q (by simpa using h)
    have e : ∀ (xs : List Value) (j : Nat) (v : Value), (a.cells ++ xs).set ((q + 1) * 8 + j) v = a.cells ++ xs.set (q * 8 + j) v := by
      intro xs j v
      have hl : a.cells.length = 8 := rfl
      rw [List.set_append_right _ _ (by omega), hl, show (q + 1) * 8 + j - 8 = q * 8 + j by omega]
    have e0 := e (obCells l) 0
    simp only [Nat.add_zero] at e0
    show sets8 (a.cells ++ obCells l) ((q + 1) * 8) _ _ _ _ _ _ _ _ = a.cells ++ obCells (l.set q o)
    unfold sets8 at ih ⊢
    rw [e0, e, e, e, e, e, e, e, ih]
abbrev setO (w : World) (g off : Nat) (v0 v1 v2 v3 v4 v5 v6 v7 : Value) : World :=
  (((((((w.setCell ⟨g, off, none⟩ v0).setCell ⟨g, off + 1, none⟩ v1).setCell ⟨g, off + 2, none⟩ v2).setCell ⟨g, off + 3, none⟩ v3).setCell ⟨g, off + 4, none⟩ v4).setCell ⟨g, off + 5, none⟩ v5).setCell ⟨g, off + 6, none⟩ v6).setCell ⟨g, off + 7, none⟩ v7
theorem setO_only (w : World) (g off : Nat) (v0 v1 v2 v3 v4 v5 v6 v7 : Value) : Only w g (setO w g off v0 v1 v2 v3 v4 v5 v6 v7) :=
  ((((((((Only.refl_ w g).set_ off v0).set_ (off + 1) v1).set_ (off + 2) v2).set_ (off + 3) v3).set_ (off + 4) v4).set_ (off + 5) v5).set_ (off + 6) v6).set_ (off + 7) v7
theorem Row.set_ob {e : TypeId} {t : Sl} {l : List Ob} (h : Row w e 8 t (obCells l)) {g q off : Nat} (o : Ob) (ha : t.a = some ⟨g, 0, none⟩) (hq : q < l.length) (he : off = q * 8) :
    Row (setO w g off (.int .i64 o.k) (.bool o.x) (.int .i64 o.ac) (.int .i64 o.n) (.string o.nm) (.int .i64 o.rf) (.int .i64 o.fr) (.int .i64 o.ln)) e 8 t (obCells (l.set q o)) := by
  subst he
  rw [← sets8_obs o l q hq]
  exact (((((((h.set_ ha (q * 8) _).set_ ha (q * 8 + 1) _).set_ ha (q * 8 + 2) _).set_ ha (q * 8 + 3) _).set_ ha (q * 8 + 4) _).set_ ha (q * 8 + 5) _).set_ ha (q * 8 + 6) _).set_ ha (q * 8 + 7) _
theorem Sto.list_at (s : Sto w p σ h ρ) {r : Nat} (hr : r < σ.lists.length) :
    ∃ g t b, h.lists.a = some ⟨g, 0, none⟩ ∧ h.ls[r]? = some t ∧ σ.lists[r]? = some b ∧ w.cell? ⟨g, r, none⟩ = some (.slice t.a t.n t.c) ∧ Row w 27 8 t (obCells b) ∧ t.on ρ (.list r) ∧ ρ g = some .lists ∧ g < w.heap.size ∧ t.n = b.length ∧ b.length ≤ 65535 := by
  have hrt : r < h.ls.length := by have := s.nls; omega
  have hl := s.nlists
  obtain ⟨hrow, hon⟩ := s.ls r (h.ls[r]) (σ.lists[r]) (List.getElem?_eq_getElem hrt) (List.getElem?_eq_getElem hr)
  obtain ⟨g, hg, hgb⟩ := s.lists.pos (by omega)
  refine ⟨g, h.ls[r], σ.lists[r], hg, List.getElem?_eq_getElem hrt, List.getElem?_eq_getElem hr, ?_, hrow, hon, s.rlists g hgb, s.lists.blk_lt hgb, ?_, s.ok.list _ (List.getElem_mem _)⟩
  · rw [s.lists.cell hg r (by omega)]
    simp [slVals, hrt]
  · have := hrow.len
    rw [length_obCells] at this
    omega
end

section
variable {w : World} {p : Nat} {σ : St} {h : Hd} {ρ : Roles}
theorem valid6 (s : Sto w p σ h ρ) (x : Bool) (ac n : Int) (nm : ByteArray) (r : Nat) (fr ln : Int) (hr : r < σ.texts.length) :
    Calls Try.prog 46 #[.pointer (some ⟨p, 0, none⟩), .agg #[.int .i64 6, .bool x, .int .i64 ac, .int .i64 n, .string nm, .int .i64 r, .int .i64 fr, .int .i64 ln]] w fun e w' =>
      e = .returned (.bool (withinB fr ln (σ.texts.getD r []).length)) ∧ Ext w w' := by
  obtain ⟨g, t, b, ha, h1, h2, hcell, hrow, hon, hg, hglt, htn, hb⟩ := s.text_at hr
  have e1 : (σ.texts.getD r []).length = t.n := by simp [List.getD, h2, htn]
  rw [← htn] at hb
  rw [e1]
  have hmain := s.main
  rw [ha] at hmain
  have hc := hmain.cell
  have hp := hmain.lt
  have hrn : r < h.texts.n := by rw [s.ntexts]; exact hr
  clear e1 h1 h2 htn ha hmain s hrow hon hg
  go_enter Try.func46, Try.ntmps46
  go_wp2_with fail
  generalize hW : World.alloc w _ = W
  obtain ⟨hx, hcW, -, hzW, -⟩ := boxed hW
  clear hW
  have f1 := fun (E : ExtOf W) i => (E.cells hzW i).trans (hcW i)
  have f2 : ∀ (E : ExtOf W), E.w.cell? ⟨g, r, none⟩ = some (.slice t.a t.n t.c) := fun E => ((hx.trans_ E.h).cells hglt r).trans hcell
  have f3 := fun (E : ExtOf W) i => ((hx.trans_ E.h).cells hp i).trans (hc i)
  clear hc hcell hcW
  refine wp_region_ext (by kernel_rfl) (by kernel_rfl) ?_
  repeat (go_big_quiet_step ((go_at_call 92; exact quiet_ext (within_c _ _ _ _ _ _ _ _ _ _ (by omega) (by omega)))))
  refine wpQuiet_nil fun E => ?_
  go_wp2
  go_ret
  exact ⟨rfl, hx.trans_ E.h⟩
theorem valid7 (s : Sto w p σ h ρ) (x : Bool) (ac n : Int) (nm : ByteArray) (r : Nat) (fr ln : Int) (hr : r < σ.lists.length) :
    Calls Try.prog 46 #[.pointer (some ⟨p, 0, none⟩), .agg #[.int .i64 7, .bool x, .int .i64 ac, .int .i64 n, .string nm, .int .i64 r, .int .i64 fr, .int .i64 ln]] w fun e w' =>
      e = .returned (.bool (withinB fr ln (σ.lists.getD r []).length)) ∧ Ext w w' := by
  obtain ⟨g, t, b, ha, h1, h2, hcell, hrow, hon, hg, hglt, htn, hb⟩ := s.list_at hr
  have e1 : (σ.lists.getD r []).length = t.n := by simp [List.getD, h2, htn]
  rw [← htn] at hb
  rw [e1]
  have hmain := s.main
  rw [ha] at hmain
  have hc := hmain.cell
  have hp := hmain.lt
  have hrn : r < h.lists.n := by rw [s.nlists]; exact hr
  clear e1 h1 h2 htn ha hmain s hrow hon hg
  go_enter Try.func46, Try.ntmps46
  go_wp2_with fail
  generalize hW : World.alloc w _ = W
  obtain ⟨hx, hcW, -, hzW, -⟩ := boxed hW
  clear hW
  have f1 := fun (E : ExtOf W) i => (E.cells hzW i).trans (hcW i)
  have f2 : ∀ (E : ExtOf W), E.w.cell? ⟨g, r, none⟩ = some (.slice t.a t.n t.c) := fun E => ((hx.trans_ E.h).cells hglt r).trans hcell
  have f3 := fun (E : ExtOf W) i => ((hx.trans_ E.h).cells hp i).trans (hc i)
  clear hc hcell hcW
  refine wp_region_ext (by kernel_rfl) (by kernel_rfl) ?_
  repeat (go_big_quiet_step ((go_at_call 92; exact quiet_ext (within_c _ _ _ _ _ _ _ _ _ _ (by omega) (by omega)))))
  refine wpQuiet_nil fun E => ?_
  go_wp2
  go_ret
  exact ⟨rfl, hx.trans_ E.h⟩

/-- A reference out of its bounds; N: how many there are. -/
theorem validOut (s : Sto w p σ h ρ) (k : Int) (x : Bool) (ac n : Int) (nm : ByteArray) (rf fr ln : Int) (hk : k = 6 ∧ (rf < 0 ∨ (σ.texts.length : Int) ≤ rf) ∨ k = 7 ∧ (rf < 0 ∨ (σ.lists.length : Int) ≤ rf)) :
    Calls Try.prog 46 #[.pointer (some ⟨p, 0, none⟩), .agg #[.int .i64 k, .bool x, .int .i64 ac, .int .i64 n, .string nm, .int .i64 rf, .int .i64 fr, .int .i64 ln]] w fun e w' =>
      e = .returned (.bool false) ∧ Ext w w' := by
  have hmain := s.main
  have hc := hmain.cell
  have hp := hmain.lt
  have ht := s.ntexts
  have hl := s.nlists
  rw [← ht, ← hl] at hk
  clear ht hl hmain s
  by_cases h0 : rf < 0
  · have hd : decide (0 ≤ rf) = false := by simp; omega
    rcases hk with ⟨rfl, -⟩ | ⟨rfl, -⟩
    all_goals
      go_enter Try.func46, Try.ntmps46
      go_wp2_with fail
      generalize hW : World.alloc w _ = W
      obtain ⟨hx, hcW, -, hzW, -⟩ := boxed hW
      clear hW
      have f1 := fun (E : ExtOf W) i => (E.cells hzW i).trans (hcW i)
      have f3 := fun (E : ExtOf W) i => ((hx.trans_ E.h).cells hp i).trans (hc i)
      clear hc hcW
      refine wp_region_ext (by kernel_rfl) (by kernel_rfl) ?_
      repeat (go_big_quiet_step (fail))
      refine wpQuiet_nil fun E => ?_
      go_wp2
      go_ret
      exact ⟨rfl, hx.trans_ E.h⟩
  · have h0' : 0 ≤ rf := by omega
    rcases hk with ⟨rfl, hk⟩ | ⟨rfl, hk⟩
    all_goals
      first
        | (have hd : decide (rf < (h.texts.n : Int)) = false := by simp; omega)
        | (have hd : decide (rf < (h.lists.n : Int)) = false := by simp; omega)
      clear hk
      go_enter Try.func46, Try.ntmps46
      go_wp2_with fail
      generalize hW : World.alloc w _ = W
      obtain ⟨hx, hcW, -, hzW, -⟩ := boxed hW
      clear hW
      have f1 := fun (E : ExtOf W) i => (E.cells hzW i).trans (hcW i)
      have f3 := fun (E : ExtOf W) i => ((hx.trans_ E.h).cells hp i).trans (hc i)
      clear hc hcW
      refine wp_region_ext (by kernel_rfl) (by kernel_rfl) ?_
      repeat (go_big_quiet_step (fail))
      refine wpQuiet_nil fun E => ?_
      go_wp2
      go_ret
      exact ⟨rfl, hx.trans_ E.h⟩
theorem valid8 (s : Sto w p σ h ρ) (x : Bool) (ac n : Int) (nm : ByteArray) (rf fr ln : Int) :
    Calls Try.prog 46 #[.pointer (some ⟨p, 0, none⟩), .agg #[.int .i64 8, .bool x, .int .i64 ac, .int .i64 n, .string nm, .int .i64 rf, .int .i64 fr, .int .i64 ln]] w fun e w' =>
      e = .returned (.bool (decide (0 ≤ rf ∧ rf < σ.dicts.length))) ∧ Ext w w' := by
  have hmain := s.main
  have hc := hmain.cell
  have hp := hmain.lt
  have hl := s.ndicts
  rw [← hl]
  clear hl hmain s
  by_cases h0 : rf < 0
  · have hd : decide (0 ≤ rf) = false := by simp; omega
    have he : decide (0 ≤ rf ∧ rf < (h.dicts.n : Int)) = false := by simp; omega
    rw [he]
    clear he
    go_enter Try.func46, Try.ntmps46
    go_wp2_with fail
    generalize hW : World.alloc w _ = W
    obtain ⟨hx, hcW, -, hzW, -⟩ := boxed hW
    clear hW
    have f1 := fun (E : ExtOf W) i => (E.cells hzW i).trans (hcW i)
    have f3 := fun (E : ExtOf W) i => ((hx.trans_ E.h).cells hp i).trans (hc i)
    clear hc hcW
    refine wp_region_ext (by kernel_rfl) (by kernel_rfl) ?_
    repeat (go_big_quiet_step (fail))
    refine wpQuiet_nil fun E => ?_
    go_wp2
    go_ret
    exact ⟨rfl, hx.trans_ E.h⟩
  · have h0' : 0 ≤ rf := by omega
    have he : decide (0 ≤ rf ∧ rf < (h.dicts.n : Int)) = decide (rf < (h.dicts.n : Int)) := by simp; omega
    rw [he]
    clear he
    go_enter Try.func46, Try.ntmps46
    go_wp2_with fail
    generalize hW : World.alloc w _ = W
    obtain ⟨hx, hcW, -, hzW, -⟩ := boxed hW
    clear hW
    have f1 := fun (E : ExtOf W) i => (E.cells hzW i).trans (hcW i)
    have f3 := fun (E : ExtOf W) i => ((hx.trans_ E.h).cells hp i).trans (hc i)
    clear hc hcW
    refine wp_region_ext (by kernel_rfl) (by kernel_rfl) ?_
    repeat (go_big_quiet_step (fail))
    refine wpQuiet_nil fun E => ?_
    go_wp2
    go_ret
    exact ⟨rfl, hx.trans_ E.h⟩
theorem validElse (s : Sto w p σ h ρ) (k : Int) (x : Bool) (ac n : Int) (nm : ByteArray) (rf fr ln : Int) (h6 : ¬ k = 6) (h7 : ¬ k = 7) (h8 : ¬ k = 8) :
    Calls Try.prog 46 #[.pointer (some ⟨p, 0, none⟩), .agg #[.int .i64 k, .bool x, .int .i64 ac, .int .i64 n, .string nm, .int .i64 rf, .int .i64 fr, .int .i64 ln]] w fun e w' =>
      e = .returned (.bool true) ∧ Ext w w' := by
  have b6 : (k == 6) = false := by simpa using h6
  have b7 : (k == 7) = false := by simpa using h7
  have b8 : (k == 8) = false := by simpa using h8
  go_enter Try.func46, Try.ntmps46
  go_wp2_with fail
  go_ret
  exact ⟨rfl, (Ext.rfl_ w).alloc_ _⟩
theorem valid_nil (k : Int) (x : Bool) (ac n : Int) (nm : ByteArray) (rf fr ln : Int) (w : World) :
    Calls Try.prog 46 #[.pointer none, .agg #[.int .i64 k, .bool x, .int .i64 ac, .int .i64 n, .string nm, .int .i64 rf, .int .i64 fr, .int .i64 ln]] w fun e w' =>
      e = .returned (.bool false) ∧ Ext w w' := by
  go_enter Try.func46, Try.ntmps46
  go_wp2_with fail
  go_ret
  exact ⟨rfl, (Ext.rfl_ w).alloc_ _⟩

/-- (*Store).Valid. -/
theorem valid_c (s : Sto w p σ h ρ) (k : Int) (x : Bool) (ac n : Int) (nm : ByteArray) (rf fr ln : Int) :
    Calls Try.prog 46 #[.pointer (some ⟨p, 0, none⟩), .agg #[.int .i64 k, .bool x, .int .i64 ac, .int .i64 n, .string nm, .int .i64 rf, .int .i64 fr, .int .i64 ln]] w fun e w' =>
      e = .returned (.bool (σ.valid ⟨k, x, ac, n, nm, rf, fr, ln⟩)) ∧ Ext w w' := by
  unfold St.valid
  dsimp only
  by_cases h6 : k = 6
  · subst h6
    rw [if_pos rfl]
    by_cases hin : 0 ≤ rf ∧ rf < σ.texts.length
    · obtain ⟨r, rfl⟩ := Int.eq_ofNat_of_zero_le hin.1
      have hr : r < σ.texts.length := by omega
      have e : decide (0 ≤ (r : Int) ∧ (r : Int) < σ.texts.length) = true := by simp; omega
      rw [e, Bool.true_and, Int.toNat_natCast]
      exact valid6 s x ac n nm r fr ln hr
    · rw [decide_eq_false hin, Bool.false_and]
      exact validOut s 6 x ac n nm rf fr ln (.inl ⟨rfl, by omega⟩)
  · rw [if_neg h6]
    by_cases h7 : k = 7
    · subst h7
      rw [if_pos rfl]
      by_cases hin : 0 ≤ rf ∧ rf < σ.lists.length
      · obtain ⟨r, rfl⟩ := Int.eq_ofNat_of_zero_le hin.1
        have hr : r < σ.lists.length := by omega
        have e : decide (0 ≤ (r : Int) ∧ (r : Int) < σ.lists.length) = true := by simp; omega
        rw [e, Bool.true_and, Int.toNat_natCast]
        exact valid7 s x ac n nm r fr ln hr
      · rw [decide_eq_false hin, Bool.false_and]
        exact validOut s 7 x ac n nm rf fr ln (.inr ⟨rfl, by omega⟩)
    · rw [if_neg h7]
      by_cases h8 : k = 8
      · subst h8
        rw [if_pos rfl]
        exact valid8 s x ac n nm rf fr ln
      · rw [if_neg h8]
        exact validElse s k x ac n nm rf fr ln h6 h7 h8

/-- (*Store).is. -/
theorem is_c (s : Sto w p σ h ρ) (k : Int) (x : Bool) (ac n : Int) (nm : ByteArray) (rf fr ln kind : Int) :
    Calls Try.prog 61 #[.pointer (some ⟨p, 0, none⟩), .agg #[.int .i64 k, .bool x, .int .i64 ac, .int .i64 n, .string nm, .int .i64 rf, .int .i64 fr, .int .i64 ln], .int .i64 kind] w fun e w' =>
      e = .returned (.bool (decide (k = kind) && σ.valid ⟨k, x, ac, n, nm, rf, fr, ln⟩)) ∧ Ext w w' := by
  by_cases hk : k = kind
  · subst hk
    rw [decide_eq_true rfl, Bool.true_and]
    go_enter Try.func61, Try.ntmps61
    go_wp2_with (go_at_call 46; refine (valid_c (s.ext ((Ext.rfl_ w).alloc_ _)) _ _ _ _ _ _ _ _).mono ?_; rintro e w1 ⟨rfl, hx1⟩)
    go_ret
    exact ⟨rfl, ((Ext.rfl_ w).alloc_ _).trans_ hx1⟩
  · have hb : (k == kind) = false := by simpa using hk
    rw [decide_eq_false hk, Bool.false_and]
    go_enter Try.func61, Try.ntmps61
    go_wp2_with fail
    go_ret
    exact ⟨rfl, (Ext.rfl_ w).alloc_ _⟩
theorem is_nil (k : Int) (x : Bool) (ac n : Int) (nm : ByteArray) (rf fr ln kind : Int) (w : World) :
    Calls Try.prog 61 #[.pointer none, .agg #[.int .i64 k, .bool x, .int .i64 ac, .int .i64 n, .string nm, .int .i64 rf, .int .i64 fr, .int .i64 ln], .int .i64 kind] w fun e w' =>
      e = .returned (.bool false) ∧ Ext w w' := by
  by_cases hk : k = kind
  · subst hk
    go_enter Try.func61, Try.ntmps61
    go_wp2_with (go_at_call 46; refine (valid_nil _ _ _ _ _ _ _ _ _).mono ?_; rintro e w1 ⟨rfl, hx1⟩)
    go_ret
    exact ⟨rfl, ((Ext.rfl_ w).alloc_ _).trans_ hx1⟩
  · have hb : (k == kind) = false := by simpa using hk
    go_enter Try.func61, Try.ntmps61
    go_wp2_with fail
    go_ret
    exact ⟨rfl, (Ext.rfl_ w).alloc_ _⟩
end
end Go.Proofs.Ythhckledkhcfeaa
namespace Go.Proofs.Ythhckledkhcfeaa
open Go.RowKit
section
variable {w : World} {p : Nat} {σ : St} {h : Hd} {ρ : Roles}
theorem ret_slice {A B : Option Addr} {m c : Nat} (h : A = B) : Ending.returned (.slice A m c) = .returned (.slice B m c) := by rw [h]
theorem list_c (s : Sto w p σ h ρ) (k : Int) (x : Bool) (ac n : Int) (nm : ByteArray) (r f m : Nat) (t : Sl) (l : List Ob) (ht : h.ls[r]? = some t) (hl : σ.lists[r]? = some l) (hfm : f + m ≤ l.length) :
    Calls Try.prog 63 #[.pointer (some ⟨p, 0, none⟩), .agg #[.int .i64 k, .bool x, .int .i64 ac, .int .i64 n, .string nm, .int .i64 r, .int .i64 f, .int .i64 m]] w fun e w' =>
      e = .returned (.slice (cutA t.a t.c f 8) m (t.c - f)) ∧ Ext w w' := by
  have hr : r < σ.lists.length := (List.getElem?_eq_some_iff.1 hl).1
  obtain ⟨g, t', b, ha, h1, h2, hcell, hrow, hon, hg, hglt, htn, hb⟩ := s.list_at hr
  rw [ht] at h1; rw [hl] at h2
  injection h1 with h1; injection h2 with h2; subst h1; subst h2
  rw [← htn] at hb hfm
  have hmain := s.main
  rw [ha] at hmain
  have hc := hmain.cell
  have hp := hmain.lt
  have hrn : r < h.lists.n := by rw [s.nlists]; exact hr
  have hcap := hrow.cap_le
  clear htn ha hmain s hrow hon hg ht hl
  go_enter Try.func63, Try.ntmps63
  go_wp2_with fail
  generalize hW : World.alloc w _ = W
  obtain ⟨hx, hcW, -, hzW, -⟩ := boxed hW
  clear hW
  have f1 := fun (E : ExtOf W) i => (E.cells hzW i).trans (hcW i)
  have f2 : ∀ (E : ExtOf W), E.w.cell? ⟨g, r, none⟩ = some (.slice t.a t.n t.c) := fun E => ((hx.trans_ E.h).cells hglt r).trans hcell
  have f3 := fun (E : ExtOf W) i => ((hx.trans_ E.h).cells hp i).trans (hc i)
  clear hc hcell hcW
  refine wp_region_ext (by kernel_rfl) (by kernel_rfl) ?_
  repeat (go_big_quiet_step (fail))
  refine wpQuiet_nil fun E => ?_
  go_wp2
  all_goals
    go_ret
    exact ⟨ret_slice (by simp [cutA, *]), hx.trans_ E.h⟩
theorem text_c (s : Sto w p σ h ρ) (k : Int) (x : Bool) (ac n : Int) (nm : ByteArray) (r f m : Nat) (t : Sl) (l : List UInt8) (ht : h.ts[r]? = some t) (hl : σ.texts[r]? = some l) (hfm : f + m ≤ l.length) :
    Calls Try.prog 74 #[.pointer (some ⟨p, 0, none⟩), .agg #[.int .i64 k, .bool x, .int .i64 ac, .int .i64 n, .string nm, .int .i64 r, .int .i64 f, .int .i64 m]] w fun e w' =>
      e = .returned (.slice (cutA t.a t.c f 1) m (t.c - f)) ∧ Ext w w' := by
  have hr : r < σ.texts.length := (List.getElem?_eq_some_iff.1 hl).1
  obtain ⟨g, t', b, ha, h1, h2, hcell, hrow, hon, hg, hglt, htn, hb⟩ := s.text_at hr
  rw [ht] at h1; rw [hl] at h2
  injection h1 with h1; injection h2 with h2; subst h1; subst h2
  rw [← htn] at hb hfm
  have hmain := s.main
  rw [ha] at hmain
  have hc := hmain.cell
  have hp := hmain.lt
  have hrn : r < h.texts.n := by rw [s.ntexts]; exact hr
  have hcap := hrow.cap_le
  clear htn ha hmain s hrow hon hg ht hl
  go_enter Try.func74, Try.ntmps74
  go_wp2_with fail
  generalize hW : World.alloc w _ = W
  obtain ⟨hx, hcW, -, hzW, -⟩ := boxed hW
  clear hW
  have f1 := fun (E : ExtOf W) i => (E.cells hzW i).trans (hcW i)
  have f2 : ∀ (E : ExtOf W), E.w.cell? ⟨g, r, none⟩ = some (.slice t.a t.n t.c) := fun E => ((hx.trans_ E.h).cells hglt r).trans hcell
  have f3 := fun (E : ExtOf W) i => ((hx.trans_ E.h).cells hp i).trans (hc i)
  clear hc hcell hcW
  refine wp_region_ext (by kernel_rfl) (by kernel_rfl) ?_
  repeat (go_big_quiet_step (fail))
  refine wpQuiet_nil fun E => ?_
  go_wp2
  all_goals
    go_ret
    exact ⟨ret_slice (by simp [cutA, *]), hx.trans_ E.h⟩
end
end Go.Proofs.Ythhckledkhcfeaa
namespace Go.Proofs.Ythhckledkhcfeaa
open Go.RowKit

/-- The slice A, of n elements of sz cells, shows the cells xs. -/
def View (w : World) (sz : Nat) (A : Option Addr) (n : Nat) (xs : List Value) : Prop :=
  xs.length = n * sz ∧ (0 < xs.length → ∃ g o, A = some ⟨g, o, none⟩ ∧ g < w.heap.size ∧ ∀ j u, xs[j]? = some u → w.cell? ⟨g, o + j, none⟩ = some u)
section
variable {w w' : World} {sz n : Nat} {A : Option Addr} {xs : List Value}
theorem View.keep (h : View w sz A n xs) (hs : w.heap.size ≤ w'.heap.size) (hk : ∀ g o, A = some ⟨g, o, none⟩ → g < w.heap.size → w'.heap[g]? = w.heap[g]?) : View w' sz A n xs :=
  ⟨h.1, fun h0 => by
    obtain ⟨g, o, h1, h2, h3⟩ := h.2 h0
    exact ⟨g, o, h1, by omega, fun j u hu => (World.cell?_of_block (hk g o h1 h2)).trans (h3 j u hu)⟩⟩
theorem View.ext (h : View w sz A n xs) (hx : Ext w w') : View w' sz A n xs := h.keep hx.size fun _ _ _ hg => hx.at_ hg
theorem View.drew (h : View w sz A n xs) : View w.drew sz A n xs := h
theorem View.of_row {e : TypeId} {s : Sl} (h : Row w e sz s xs) : View w sz s.a s.n xs :=
  ⟨h.len, fun h0 => by
    have hl := h.len
    obtain ⟨g, h1, h2⟩ := h.pos (by
      rcases Nat.eq_zero_or_pos s.n with h3 | h3
      · rw [h3] at hl; omega
      · exact h3)
    exact ⟨g, 0, h1, h.blk_lt h2, fun j u hu => by
      have hj : j < s.n * sz := by rw [← hl]; exact (List.getElem?_eq_some_iff.1 hu).1
      rw [Nat.zero_add, h.cell h1 j hj]; exact hu⟩⟩
/-- A part 's[f : f+m]' of a row. -/
theorem View.part {e : TypeId} {s : Sl} {f m : Nat} (h : Row w e sz s xs) (hfm : f + m ≤ s.n) : View w sz (cutA s.a s.c f sz) m ((xs.drop (f * sz)).take (m * sz)) := by
  have hl := h.len
  have h1 : (f + m) * sz ≤ s.n * sz := Nat.mul_le_mul_right _ hfm
  rw [Nat.add_mul] at h1
  refine ⟨by rw [List.length_take, List.length_drop]; omega, fun h0 => ?_⟩
  have hm : 0 < m := by
    rcases Nat.eq_zero_or_pos m with h3 | h3
    · subst h3; simp at h0
    · exact h3
  obtain ⟨g, h2, h3, h4, h5⟩ := h.cutA_ (f := f) (by omega)
  refine ⟨g, f * sz, h4, h5, fun j u hu => ?_⟩
  have hj : j < m * sz := by
    have := (List.getElem?_eq_some_iff.1 hu).1
    rw [List.length_take] at this; omega
  rw [h.cell h3 (f * sz + j) (by omega)]
  rw [List.getElem?_take_of_lt hj, List.getElem?_drop] at hu
  exact hu
end

section
variable {P : Program} (w : World)
theorem run_copy_gen (dT sT ty elem : TypeId) (sz g o dLen dCap : Nat) (a : Addr) (sLen sCap : Nat) (cur : Array Value) (t : TypeId) (cs : List Value)
    (hu : P.underlying dT = some (.slice elem)) (hs : (P.info? elem).map (·.size) = some sz)
    (hg : w.heap[g]? = some (.cells cur t (0, 0))) (hn : cs.length = Nat.min sLen dLen * sz)
    (hsrc : ∀ j v, cs[j]? = some v → w.cell? (a.add j) = some v) (hfit : o + cs.length ≤ cur.size) (h1 : ∀ v ∈ cs, v.oneCell' = true) :
    (Builtin.copy_ #[dT, sT] ty #[.slice (some ⟨g, o, none⟩) dLen dCap, .slice (some a) sLen sCap]).run P w =
      .ok (goInt (Nat.min sLen dLen)) (w.setRow g (cur.toList.take o ++ cs ++ cur.toList.drop (o + cs.length)).toArray) := by
  have hl := run_loadCells_list (P := P) w a cs hsrc
  have hst := run_storeCells_at P g o t cs 0 cur w hg (by simpa using hfit) h1
  cases hq : P.info? elem with
  | none => simp [hq] at hs
  | some i =>
    have hi : i.size = sz := by simpa [hq] using hs
    simp [Builtin.copy_, run_underlying hu, Builtin.lenOf, Builtin.firstCells, sizeOf, typeInfo, hq, hi, ← hn, hl, hst]
theorem run_copy_zero (dT sT ty elem : TypeId) (sz : Nat) (dp sp : Option Addr) (dLen dCap sLen sCap : Nat)
    (hu : P.underlying dT = some (.slice elem)) (hs : (P.info? elem).map (·.size) = some sz) (hn : Nat.min sLen dLen * sz = 0) :
    (Builtin.copy_ #[dT, sT] ty #[.slice dp dLen dCap, .slice sp sLen sCap]).run P w = .ok (goInt (Nat.min sLen dLen)) w := by
  cases hq : P.info? elem with
  | none => simp [hq] at hs
  | some i =>
    have hi : i.size = sz := by simpa [hq] using hs
    cases dp <;> cases sp <;> simp [Builtin.copy_, run_underlying hu, Builtin.lenOf, Builtin.firstCells, sizeOf, typeInfo, hq, hi, hn, loadCells, loadCellsFrom, storeCells]
end

section
variable {P : Program} {w : World} {o : Oper} {a : Act} {K : Act → World → Prop} {Q : Exit → Act → World → Prop}
theorem wp_copy_row (d s : Operand) (dT sT : TypeId) (ho : o.op = .call { callee := .builtin .copy, args := #[d, s], argTypes := #[dT, sT] }) (elem : TypeId) (sz : Nat)
    (hu : P.underlying dT = some (.slice elem)) (hsz : (P.info? elem).map (·.size) = some sz)
    (dp sp : Option Addr) (dLen dCap sLen sCap : Nat) (hd : a.eval d = .slice dp dLen dCap) (hs : a.eval s = .slice sp sLen sCap)
    {v : Sl} {xs : List Value} {e : TypeId} (hrow : Row w e sz v xs) (off : Nat) (cs : List Value) (hn : cs.length = Nat.min sLen dLen * sz)
    (hdst : 0 < cs.length → ∃ g, v.a = some ⟨g, 0, none⟩ ∧ dp = some ⟨g, off, none⟩) (hsrc : 0 < cs.length → ∃ g so, sp = some ⟨g, so, none⟩ ∧ ∀ j u, cs[j]? = some u → w.cell? ⟨g, so + j, none⟩ = some u)
    (hfit : off + cs.length ≤ xs.length) (h1 : ∀ u ∈ cs, u.oneCell' = true)
    (h : ∀ w', Row w' e sz v (splice xs off cs) → w.grownBy w' v.blk → w'.heap.size = w.heap.size → K (a.put o.dst (goInt (Nat.min sLen dLen))) w') : o.wp P a w K Q := by
  by_cases h0 : cs.length = 0
  · obtain rfl : cs = [] := List.eq_nil_of_length_eq_zero h0
    have hrun := run_copy_zero (P := P) w dT sT o.type elem sz dp sp dLen dCap sLen sCap hu hsz (by simpa using hn.symm)
    unfold Oper.wp
    simp [execOp, ho, resolve, invoke, builtin, hd, hs, hrun, Result.andThen]
    exact h w (by simpa [splice] using hrow) (World.grownBy.refl _ _) rfl
  · obtain ⟨g, hva, rfl⟩ := hdst (by omega)
    obtain ⟨g', so, rfl, hcells⟩ := hsrc (by omega)
    rcases hrow.shape with ⟨hh, _⟩ | ⟨g2, cur, hh1, hh2, hh3, hh4, hh5⟩
    · rw [hh] at hva; cases hva
    rw [hh1] at hva; injection hva with hva; injection hva with hva; subst hva
    have hcl : xs.length ≤ cur.size := by rw [← hh5]; simp; omega
    have hrun := run_copy_gen (P := P) w dT sT o.type elem sz g2 off dLen dCap ⟨g', so, none⟩ sLen sCap cur e cs hu hsz hh3 hn
      (fun j u hj => by rw [Addr.add_lit]; exact hcells j u hj) (by omega) h1
    unfold Oper.wp
    simp [execOp, ho, resolve, invoke, builtin, hd, hs, hrun, Result.andThen]
    have hcap := hrow.cap_le
    have hxl := hrow.len
    have hlen : (splice xs off cs).length = xs.length := length_splice xs off cs hfit
    have hw' := setRow_heap w g2 cur ((cur.toList.take off ++ cs ++ cur.toList.drop (off + cs.length)).toArray) e _ hh3
    refine h _ ⟨hlen.trans hxl, .inr ⟨g2, v.c, _, by rw [hh1], Nat.zero_le _, by simpa using hw', hcap.1, hcap.2, ?_, ?_⟩⟩ ?_ (by simp)
    · simp only [List.size_toArray, List.length_append, List.length_take, List.length_drop, Array.length_toList]
      omega
    · rw [← hxl]
      apply List.ext_getElem?
      intro j
      unfold splice
      rw [List.getElem?_take]
      have hx : ∀ i, i < xs.length → xs[i]? = cur.toList[i]? := fun i hi => by rw [← hh5, List.getElem?_take_of_lt (by omega)]
      by_cases hj : j < xs.length
      · rw [if_pos hj]
        simp only [List.getElem?_append, List.length_take, List.length_append, List.getElem?_take, List.getElem?_drop, Array.length_toList]
        have e1 : min off cur.size = off := by omega
        have e2 : min off xs.length = off := by omega
        rw [e1, e2]
        by_cases h3 : j < off
        · simp [h3, show j < off + cs.length by omega, hx j hj]
        · by_cases h4 : j - off < cs.length
          · simp [h3, h4, show j < off + cs.length by omega]
          · simp only [h3, h4, show ¬ j < off + cs.length by omega, if_false]
            rw [hx _ (by omega)]
      · rw [if_neg hj, List.getElem?_eq_none]
        have := length_splice xs off cs hfit
        unfold splice at this
        omega
    · exact ⟨rfl, rfl, rfl, by simp, fun k _ hk => setRow_other w g2 k _ (fun e => hk (by rw [e, hh2]))⟩

theorem wpList_copy_row {ops : Array Oper} {rest : List Oper} (hgd : o.guard = none) (d s : Operand) (dT sT : TypeId) (ho : o.op = .call { callee := .builtin .copy, args := #[d, s], argTypes := #[dT, sT] }) (elem : TypeId) (sz : Nat)
    (hu : P.underlying dT = some (.slice elem)) (hsz : (P.info? elem).map (·.size) = some sz)
    (dp sp : Option Addr) (dLen dCap sLen sCap : Nat) (hd : a.eval d = .slice dp dLen dCap) (hs : a.eval s = .slice sp sLen sCap)
    {v : Sl} {xs : List Value} {e : TypeId} (hrow : Row w e sz v xs) (off : Nat) (cs : List Value) (hn : cs.length = Nat.min sLen dLen * sz)
    (hdst : 0 < cs.length → ∃ g, v.a = some ⟨g, 0, none⟩ ∧ dp = some ⟨g, off, none⟩) (hsrc : 0 < cs.length → ∃ g so, sp = some ⟨g, so, none⟩ ∧ ∀ j u, cs[j]? = some u → w.cell? ⟨g, so + j, none⟩ = some u)
    (hfit : off + cs.length ≤ xs.length) (h1 : ∀ u ∈ cs, u.oneCell' = true)
    (h : ∀ w', Row w' e sz v (splice xs off cs) → w.grownBy w' v.blk → w'.heap.size = w.heap.size → wpList P ops Q rest (a.put o.dst (goInt (Nat.min sLen dLen))) w') : wpList P ops Q (o :: rest) a w :=
  wpList_plain hgd fun _ hK => wp_copy_row d s dT sT ho elem sz hu hsz dp sp dLen dCap sLen sCap hd hs hrow off cs hn hdst hsrc hfit h1 fun w' h2 h3 h4 => hK _ _ (h w' h2 h3 h4)
theorem step_copy_row {ops : Array Oper} {E : Prop} (hgd : o.guard = none) (d s : Operand) (dT sT : TypeId) (ho : o.op = .call { callee := .builtin .copy, args := #[d, s], argTypes := #[dT, sT] }) (elem : TypeId) (sz : Nat)
    (hu : P.underlying dT = some (.slice elem)) (hsz : (P.info? elem).map (·.size) = some sz)
    (dp sp : Option Addr) (dLen dCap sLen sCap : Nat) (hd : a.eval d = .slice dp dLen dCap) (hs : a.eval s = .slice sp sLen sCap)
    {v : Sl} {xs : List Value} {e : TypeId} (hrow : Row w e sz v xs) (off : Nat) (cs : List Value) (hn : cs.length = Nat.min sLen dLen * sz)
    (hdst : 0 < cs.length → ∃ g, v.a = some ⟨g, 0, none⟩ ∧ dp = some ⟨g, off, none⟩) (hsrc : 0 < cs.length → ∃ g so, sp = some ⟨g, so, none⟩ ∧ ∀ j u, cs[j]? = some u → w.cell? ⟨g, so + j, none⟩ = some u)
    (hfit : off + cs.length ≤ xs.length) (h1 : ∀ u ∈ cs, u.oneCell' = true)
    (h : ∀ w', Row w' e sz v (splice xs off cs) → w.grownBy w' v.blk → w'.heap.size = w.heap.size → K (a.put o.dst (goInt (Nat.min sLen dLen))) w') : if Region.wanted o (yielded ops a.tmps) = true then Oper.wp P o a w K Q else E := by
  rw [if_pos (by simp [Region.wanted, hgd])]
  exact wp_copy_row d s dT sT ho elem sz hu hsz dp sp dLen dCap sLen sCap hd hs hrow off cs hn hdst hsrc hfit h1 h
end
end Go.Proofs.Ythhckledkhcfeaa
