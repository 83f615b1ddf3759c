/- The store's functions, part Q: undo, of each kind of change but a pair that is gone. Its long lists are printed by a small program of mine. -/
import Derived.Test.YthhckledkhcfeaaStP
namespace Go.Proofs.Ythhckledkhcfeaa
open Go.RowKit
abbrev sets16 (xs : List Value) (off : Nat) (v0 v1 v2 v3 v4 v5 v6 v7 v8 v9 v10 v11 v12 v13 v14 v15 : Value) : List Value := ((((((((((((((((xs.set (off) v0).set (off + 1) v1).set (off + 2) v2).set (off + 3) v3).set (off + 4) v4).set (off + 5) v5).set (off + 6) v6).set (off + 7) v7).set (off + 8) v8).set (off + 9) v9).set (off + 10) v10).set (off + 11) v11).set (off + 12) v12).set (off + 13) v13).set (off + 14) v14).set (off + 15) v15)
abbrev setP (w : World) (g off : Nat) (v0 v1 v2 v3 v4 v5 v6 v7 v8 v9 v10 v11 v12 v13 v14 v15 : Value) : World := ((((((((((((((((w.setCell ⟨g, off, none⟩ v0).setCell ⟨g, off + 1, none⟩ v1).setCell ⟨g, off + 2, none⟩ v2).setCell ⟨g, off + 3, none⟩ v3).setCell ⟨g, off + 4, none⟩ v4).setCell ⟨g, off + 5, none⟩ v5).setCell ⟨g, off + 6, none⟩ v6).setCell ⟨g, off + 7, none⟩ v7).setCell ⟨g, off + 8, none⟩ v8).setCell ⟨g, off + 9, none⟩ v9).setCell ⟨g, off + 10, none⟩ v10).setCell ⟨g, off + 11, none⟩ v11).setCell ⟨g, off + 12, none⟩ v12).setCell ⟨g, off + 13, none⟩ v13).setCell ⟨g, off + 14, none⟩ v14).setCell ⟨g, off + 15, none⟩ v15)
theorem setP_only (w : World) (g off : Nat) (v0 v1 v2 v3 v4 v5 v6 v7 v8 v9 v10 v11 v12 v13 v14 v15 : Value) : Only w g (setP w g off v0 v1 v2 v3 v4 v5 v6 v7 v8 v9 v10 v11 v12 v13 v14 v15) := (((((((((((((((((Only.refl_ w g).set_ (off) v0).set_ (off + 1) v1).set_ (off + 2) v2).set_ (off + 3) v3).set_ (off + 4) v4).set_ (off + 5) v5).set_ (off + 6) v6).set_ (off + 7) v7).set_ (off + 8) v8).set_ (off + 9) v9).set_ (off + 10) v10).set_ (off + 11) v11).set_ (off + 12) v12).set_ (off + 13) v13).set_ (off + 14) v14).set_ (off + 15) v15)
theorem sets8_key (o : Ob) : ∀ (l : List (Ob × Ob)) (q : Nat) (u : Ob × Ob), l[q]? = some u → sets8 (l.flatMap pairCells) (q * 16) (.int .i64 o.k) (.bool o.x) (.int .i64 o.ac) (.int .i64 o.n) (.string o.nm) (.int .i64 o.rf) (.int .i64 o.fr) (.int .i64 o.ln) = (l.set q (o, u.2)).flatMap pairCells
  | [], q, u, h => by simp at h
  | a :: l, 0, u, h => by
    simp at h
    subst h
    rfl
  | a :: l, q + 1, u, h => by
    have ih := sets8_key o l q u (by simpa using h)
    have e : ∀ (xs : List Value) (j : Nat) (v : Value), (pairCells a ++ xs).set ((q + 1) * 16 + j) v = pairCells a ++ xs.set (q * 16 + j) v := by
      intro xs j v
      have hl : (pairCells a).length = 16 := rfl
      rw [List.set_append_right _ _ (by omega), hl, show (q + 1) * 16 + j - 16 = q * 16 + j by omega]
    have e0 := e (l.flatMap pairCells) 0
    simp only [Nat.add_zero] at e0
    show sets8 (pairCells a ++ l.flatMap pairCells) ((q + 1) * 16) _ _ _ _ _ _ _ _ = pairCells a ++ (l.set q (o, u.2)).flatMap pairCells
    unfold sets8 at ih ⊢
    rw [e0, e, e, e, e, e, e, e, ih]
theorem Row.set_key {w : World} {t : Sl} {l : List (Ob × Ob)} (h : Row w 122 16 t (l.flatMap pairCells)) {g q off : Nat} {u : Ob × Ob} (o : Ob) (ha : t.a = some ⟨g, 0, none⟩) (hu : l[q]? = some u) (he : off = q * 16) :
    Row (setO w g off (.int .i64 o.k) (.bool o.x) (.int .i64 o.ac) (.int .i64 o.n) (.string o.nm) (.int .i64 o.rf) (.int .i64 o.fr) (.int .i64 o.ln)) 122 16 t ((l.set q (o, u.2)).flatMap pairCells) := by
  subst he
  rw [← sets8_key o l q u hu]
  exact (((((((h.set_ ha (q * 16) _).set_ ha (q * 16 + 1) _).set_ ha (q * 16 + 2) _).set_ ha (q * 16 + 3) _).set_ ha (q * 16 + 4) _).set_ ha (q * 16 + 5) _).set_ ha (q * 16 + 6) _).set_ ha (q * 16 + 7) _
theorem Row.set_pair {w : World} {t : Sl} {l : List (Ob × Ob)} (h : Row w 122 16 t (l.flatMap pairCells)) {g q off : Nat} (o : Ob × Ob) (ha : t.a = some ⟨g, 0, none⟩) (hq : q < l.length) (he : off = q * 16) :
    Row (setP w g off (.int .i64 o.1.k) (.bool o.1.x) (.int .i64 o.1.ac) (.int .i64 o.1.n) (.string o.1.nm) (.int .i64 o.1.rf) (.int .i64 o.1.fr) (.int .i64 o.1.ln) (.int .i64 o.2.k) (.bool o.2.x) (.int .i64 o.2.ac) (.int .i64 o.2.n) (.string o.2.nm) (.int .i64 o.2.rf) (.int .i64 o.2.fr) (.int .i64 o.2.ln)) 122 16 t ((l.set q o).flatMap pairCells) := by
  obtain ⟨u, hu⟩ : ∃ u, l[q]? = some u := ⟨_, List.getElem?_eq_getElem hq⟩
  have h1 := h.set_key o.1 ha hu he
  have hu2 : (l.set q (o.1, u.2))[q]? = some (o.1, u.2) := List.getElem?_set_self hq
  have h2 := h1.set_val (off := off + 8) o.2 ha hu2 (by omega)
  rw [List.set_set] at h2
  exact h2
section
variable {w : World} {p : Nat} {σ : St} {h : Hd} {ρ : Roles}
set_option maxRecDepth 100000 in
set_option maxHeartbeats 1000000 in
theorem undo_put (s : Sto w p σ h ρ) (r a : Nat) (old : Ob × Ob) {l : List Ob} (hl : σ.lists[r]? = some l) (ha : a < l.length) :
    Calls Try.prog 105 #[.pointer (some ⟨p, 0, none⟩), .agg (Chg.cells ⟨0, r, a, old⟩).toArray] w fun e w' => e = .returned (.tuple #[]) ∧ StoTo w w' p ρ { σ with lists := σ.lists.set r (l.set a old.2) } := by
  have hr := getElem?_lt hl
  have hr2 : r < 1048576 := by have := s.ok.room; have := s.ok.free0; omega
  have hll : l.length ≤ 65535 := s.ok.list l (List.mem_of_getElem? hl)
  obtain ⟨g, t, l', hg, ht, hl', hcell, hrow, hon, hgr, hglt, htn, -⟩ := s.list_at hr
  rw [hl] at hl'
  injection hl' with hl'
  subst hl'
  have hat : a < t.n := by rw [htn]; exact ha
  have hrn : r < h.lists.n := by rw [s.nlists]; exact hr
  obtain ⟨g2, hg2, hg2b⟩ := hrow.pos (show 0 < t.n by omega)
  have hmain := s.main
  rw [hg] at hmain
  rw [hg2] at hcell
  have hcap := hrow.cap_le
  simp only [maxLen] at hcap
  obtain ⟨o, ho⟩ : ∃ o, l[a]? = some o := ⟨_, List.getElem?_eq_getElem ha⟩
  have hHl := Lib.hid hl
  have hHt := Lib.hid ht
  have hHo := Lib.hid ho
  clear hl ht hg htn ho
  obtain ⟨⟨kA, xA, aA, nA, mA, rA, fA, lA⟩, ⟨kB, xB, aB, nB, mB, rB, fB, lB⟩⟩ := old
  simp only [Chg.cells, pairCells, Ob.cells, List.cons_append, List.nil_append]
  go_enter Try.func105, Try.ntmps105
  go_upto_region 1 with fail
  generalize hX : World.alloc w _ = X
  obtain ⟨hx, hcX, hfX, hzX, hbX⟩ := boxed hX
  clear hX hfX
  go_upto_region 3 with fail
  clear hcX
  have y1 := fun (E : ExtOf X) i => (E.cells (hmain.ext hx).lt i).trans ((hmain.ext hx).cell i)
  have y2 := fun (E : ExtOf X) i => (E.cells hbX.lt i).trans (hbX.cell i)
  have y3 : ∀ (E : ExtOf X), E.w.cell? ⟨g, r, none⟩ = some (.slice (some ⟨g2, 0, none⟩) t.n t.c) := fun E => ((hx.trans_ E.h).cells hglt r).trans hcell
  refine wp_region_ext_tail 14 (by kernel_rfl) (by kernel_rfl) ?_
  simp only [List.take_succ_cons, List.take_zero, List.drop_succ_cons, List.drop_zero]
  repeat (go_big_quiet_step (fail))
  refine wpQuiet_nil fun E => ?_
  clear y1 y2 y3
  have hrow3 := (hrow.ext hx).ext E.h
  obtain ⟨c0, c1, c2, c3, c4, c5, c6, c7⟩ := hrow3.ob (off := a * 8) hg2 hHo.out rfl
  have hfr := fun j => hrow3.frozen hg2 j
  go_wp2
  refine bodyPost_ret (results_none rfl _ _ _) rfl ⟨rfl, ?_⟩
  have ho := setO_only E.w g2 (a * 8) (.int .i64 kB) (.bool xB) (.int .i64 aB) (.int .i64 nB) (.string mB) (.int .i64 rB) (.int .i64 fB) (.int .i64 lB)
  have hw := hrow3.set_ob (q := a) (off := a * 8) ⟨kB, xB, aB, nB, mB, rB, fB, lB⟩ hg2 ha rfl
  have s4 := ((s.ext hx).ext E.h).setList (b' := l.set a ⟨kB, xB, aB, nB, mB, rB, fB, lB⟩) hHt.out hHl.out (by simp) hw (fun c hc hne => ho.block c (by rintro rfl; exact hne hg2b)) (Nat.le_of_eq ho.size.symm)
  exact ⟨h, ρ, s4, (Moves.of_ext (hx.trans_ E.h) _).only ho (.inr (by unfold Roles.own; rw [hon _ hg2b]; simp))⟩
set_option maxRecDepth 100000 in
set_option maxHeartbeats 1000000 in
theorem undo_lock (s : Sto w p σ h ρ) (r : Nat) (a : Int) (old : Ob × Ob) {D : Dc} (hD : σ.dicts[r]? = some D) :
    Calls Try.prog 105 #[.pointer (some ⟨p, 0, none⟩), .agg (Chg.cells ⟨4, r, a, old⟩).toArray] w fun e w' => e = .returned (.tuple #[]) ∧ StoTo w w' p ρ { σ with dicts := σ.dicts.set r { D with access := a } } := by
  have hrl := getElem?_lt hD
  have hrl2 : r < 1048576 := by have := s.ok.room; have := s.ok.free0; omega
  obtain ⟨g, d, D', ha, hds, hD', hcell, hblk, hrow, hro1, hro2, hglt, hdn, hok1, hok2⟩ := s.dict_at hrl
  rw [hD] at hD'
  injection hD' with hD'
  subst hD'
  have hmain := s.main
  rw [ha] at hmain
  have hrn : r < h.dicts.n := by rw [s.ndicts]; exact hrl
  have hHD := Lib.hid hD
  have hHs := Lib.hid hds
  clear hD hds ha hdn
  obtain ⟨⟨kA, xA, aA, nA, mA, rA, fA, lA⟩, ⟨kB, xB, aB, nB, mB, rB, fB, lB⟩⟩ := old
  simp only [Chg.cells, pairCells, Ob.cells, List.cons_append, List.nil_append]
  go_enter Try.func105, Try.ntmps105
  go_upto_region 1 with fail
  generalize hX : World.alloc w _ = X
  obtain ⟨hx, hcX, hfX, hzX, hbX⟩ := boxed hX
  clear hX hfX
  go_upto_region 5 with fail
  clear hcX
  have y1 := fun (E : ExtOf X) i => (E.cells (hmain.ext hx).lt i).trans ((hmain.ext hx).cell i)
  have y2 := fun (E : ExtOf X) i => (E.cells hbX.lt i).trans (hbX.cell i)
  have y3 : ∀ (E : ExtOf X), E.w.cell? ⟨g, r, none⟩ = some (.pointer (some ⟨d.1, 0, none⟩)) := fun E => ((hx.trans_ E.h).cells hglt r).trans hcell
  have y4 := fun (E : ExtOf X) i => (E.cells (hblk.ext hx).lt i).trans ((hblk.ext hx).cell i)
  refine wp_region_ext_tail 12 (by kernel_rfl) (by kernel_rfl) ?_
  simp only [List.take_succ_cons, List.take_zero, List.drop_succ_cons, List.drop_zero]
  repeat (go_big_quiet_step (fail))
  refine wpQuiet_nil fun E => ?_
  clear y1 y2 y3 y4
  have hxx := hx.trans_ E.h
  have hc3 := (hblk.ext hxx).cell
  have hf3 := (hblk.ext hxx).frozen
  go_wp2
  refine bodyPost_ret (results_none rfl _ _ _) rfl ⟨rfl, ?_⟩
  have hne : d.2.blk ≠ some d.1 := fun e => by have := hro2 _ e; rw [hro1] at this; cases this
  obtain ⟨ρ4, s4, h4⟩ := (s.ext hxx).setDict (w' := E.w.setCell ⟨d.1, 1, none⟩ (.int .i64 a)) (x' := { D with access := a }) hHs.out hHD.out d.2 ((hblk.ext hxx).set_ 1 _) ((hrow.ext hxx).far hne _) (.inl rfl) (fun b _ hb _ => Below.heap_setCell _ _ _ _ hb) (by simp) ⟨hok1, hok2⟩
  refine ⟨_, ρ4, s4, ?_⟩
  have hm4 : Moves E.w (E.w.setCell ⟨d.1, 1, none⟩ (.int .i64 a)) ρ.own ρ4.own := ⟨rfl, rfl, rfl, by simp, fun b _ hn => Below.heap_setCell _ _ _ _ (by rintro rfl; exact hn (by unfold Roles.own; rw [hro1]; simp)), h4⟩
  exact Moves.ext_left hxx hm4
set_option maxRecDepth 100000 in
set_option maxHeartbeats 2000000 in
theorem undo_set (s : Sto w p σ h ρ) (r i : Nat) (old : Ob × Ob) {D : Dc} (hD : σ.dicts[r]? = some D) (hi : i < D.pairs.length) :
    Calls Try.prog 105 #[.pointer (some ⟨p, 0, none⟩), .agg (Chg.cells ⟨1, r, i, old⟩).toArray] w fun e w' => e = .returned (.tuple #[]) ∧ StoTo w w' p ρ { σ with dicts := σ.dicts.set r { D with pairs := D.pairs.set i old } } := by
  have hrl := getElem?_lt hD
  have hrl2 : r < 1048576 := by have := s.ok.room; have := s.ok.free0; omega
  obtain ⟨g, d, D', ha, hds, hD', hcell, hblk, hrow, hro1, hro2, hglt, hdn, hok1, hok2⟩ := s.dict_at hrl
  rw [hD] at hD'
  injection hD' with hD'
  subst hD'
  have hmain := s.main
  rw [ha] at hmain
  have hrn : r < h.dicts.n := by rw [s.ndicts]; exact hrl
  have hin : i < d.2.n := by rw [hdn]; exact hi
  obtain ⟨g2, hg2, hg2b⟩ := hrow.pos (show 0 < d.2.n by omega)
  have hblk' := hblk
  rw [hg2] at hblk'
  have hcap := hrow.cap_le
  simp only [maxLen] at hcap
  have hpl : (D.pairs.length : Int) ≤ 4096 := by omega
  obtain ⟨u, hu⟩ : ∃ u, D.pairs[i]? = some u := ⟨_, List.getElem?_eq_getElem hi⟩
  have hHU := Lib.hid hu
  have hHD := Lib.hid hD
  have hHs := Lib.hid hds
  clear hD hds ha hdn hu
  obtain ⟨⟨kA, xA, aA, nA, mA, rA, fA, lA⟩, ⟨kB, xB, aB, nB, mB, rB, fB, lB⟩⟩ := old
  simp only [Chg.cells, pairCells, Ob.cells, List.cons_append, List.nil_append]
  go_enter Try.func105, Try.ntmps105
  go_upto_region 1 with fail
  generalize hX : World.alloc w _ = X
  obtain ⟨hx, hcX, hfX, hzX, hbX⟩ := boxed hX
  clear hX hfX
  go_upto_region 6 with fail
  clear hcX
  have y1 := fun (E : ExtOf X) i => (E.cells (hmain.ext hx).lt i).trans ((hmain.ext hx).cell i)
  have y2 := fun (E : ExtOf X) i => (E.cells hbX.lt i).trans (hbX.cell i)
  have y3 : ∀ (E : ExtOf X), E.w.cell? ⟨g, r, none⟩ = some (.pointer (some ⟨d.1, 0, none⟩)) := fun E => ((hx.trans_ E.h).cells hglt r).trans hcell
  refine wp_region_ext (by kernel_rfl) (by kernel_rfl) ?_
  repeat (go_big_quiet_step (fail))
  refine wpQuiet_nil fun E => ?_
  clear y1 y2 y3
  have hxx := hx.trans_ E.h
  have hbE := hbX.ext E.h
  have hc2 := hbE.cell
  go_upto_region 9 with fail
  clear hc2
  have y2 := fun (F : ExtOf E.w) i => (F.cells hbE.lt i).trans (hbE.cell i)
  have y4 := fun (F : ExtOf E.w) i => (F.cells (hblk'.ext hxx).lt i).trans ((hblk'.ext hxx).cell i)
  refine wp_region_ext_tail 9 (by kernel_rfl) (by kernel_rfl) ?_
  simp only [List.take_succ_cons, List.take_zero, List.drop_succ_cons, List.drop_zero]
  repeat (go_big_quiet_step (fail))
  refine wpQuiet_nil fun F => ?_
  clear y2 y4
  have hrow3 := (hrow.ext hxx).ext F.h
  have hC := cells_pair hrow3 hg2 hHU.out
  have z0 := hC 0 _ rfl
  have z1 := hC 1 _ rfl
  have z2 := hC 2 _ rfl
  have z3 := hC 3 _ rfl
  have z4 := hC 4 _ rfl
  have z5 := hC 5 _ rfl
  have z6 := hC 6 _ rfl
  have z7 := hC 7 _ rfl
  have z8 := hC 8 _ rfl
  have z9 := hC 9 _ rfl
  have z10 := hC 10 _ rfl
  have z11 := hC 11 _ rfl
  have z12 := hC 12 _ rfl
  have z13 := hC 13 _ rfl
  have z14 := hC 14 _ rfl
  have z15 := hC 15 _ rfl
  simp only [Nat.add_zero] at z0
  clear hC
  have hfr := fun j => hrow3.frozen hg2 j
  go_wp2
  go_end0
  refine ⟨rfl, ?_⟩
  have ho := setP_only F.w g2 (i * 16) (.int .i64 kA) (.bool xA) (.int .i64 aA) (.int .i64 nA) (.string mA) (.int .i64 rA) (.int .i64 fA) (.int .i64 lA) (.int .i64 kB) (.bool xB) (.int .i64 aB) (.int .i64 nB) (.string mB) (.int .i64 rB) (.int .i64 fB) (.int .i64 lB)
  have hw := hrow3.set_pair (q := i) (off := i * 16) (⟨kA, xA, aA, nA, mA, rA, fA, lA⟩, ⟨kB, xB, aB, nB, mB, rB, fB, lB⟩) hg2 hi rfl
  have hne : d.2.blk ≠ some d.1 := fun e => by have := hro2 _ e; rw [hro1] at this; cases this
  have hg1 : g2 ≠ d.1 := by rintro rfl; exact hne hg2b
  obtain ⟨ρ6, s6, h6⟩ := (s.ext (hxx.trans_ F.h)).setDict (x' := { D with pairs := D.pairs.set i (⟨kA, xA, aA, nA, mA, rA, fA, lA⟩, ⟨kB, xB, aB, nB, mB, rB, fB, lB⟩) }) hHs.out hHD.out d.2 (((hblk.ext hxx).ext F.h).keep (ho.block _ (Ne.symm hg1))) hw (.inl rfl) (fun b hb h1 h2 => ho.block b (by rintro rfl; exact h2 hg2b)) (Nat.le_of_eq ho.size.symm) ⟨by simpa using hok1, hok2⟩
  refine ⟨_, ρ6, s6, ?_⟩
  have hm6 : Moves F.w (setP F.w g2 (i * 16) (.int .i64 kA) (.bool xA) (.int .i64 aA) (.int .i64 nA) (.string mA) (.int .i64 rA) (.int .i64 fA) (.int .i64 lA) (.int .i64 kB) (.bool xB) (.int .i64 aB) (.int .i64 nB) (.string mB) (.int .i64 rB) (.int .i64 fB) (.int .i64 lB)) ρ.own ρ6.own :=
    ⟨ho.os, ho.tape, ho.output, Nat.le_of_eq ho.size.symm, fun b hb hn => ho.block b (by rintro rfl; exact hn (by unfold Roles.own; rw [hro2 _ hg2b]; simp)), h6⟩
  exact Moves.ext_left (hxx.trans_ F.h) hm6
end
end Go.Proofs.Ythhckledkhcfeaa
