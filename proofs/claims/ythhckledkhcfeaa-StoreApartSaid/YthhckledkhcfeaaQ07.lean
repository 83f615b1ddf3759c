/- The store's functions, part H: note, Put. The store's functions, part I: Put, where it refuses. What the law layer answers() shows: it returns true, and only new memory is laid. The law's way from a run that only adds memory to the statement's postcondition, for a law that hands nothing back but its result. The store's functions, part J: two objects the same; the place of a key. The store's functions, part K: Key. -/
import Derived.Lib.SmallJoins
import Derived.ProofKit
import Derived.OpenShut
import Derived.Deep.LoopGhost
import Derived.Laws.StructEq
import Derived.Laws.BytesString
import Derived.Laws.IdiomStrings
import Derived.Test.YthhckledkhcfeaaQ05
import Derived.Test.YthhckledkhcfeaaQ06
namespace Go.Proofs.Ythhckledkhcfeaa
open Go.RowKit
section
variable {w : World} {p : Nat} {σ : St} {h : Hd} {ρ : Roles}
theorem length_chg (c : Chg) : c.cells.length = 19 := rfl
theorem length_szs (c : Szs) : c.cells.length = 5 := rfl
theorem Sto.nchanges (s : Sto w p σ h ρ) : h.changes.n = σ.changes.length := by have h1 := s.changes.len; rw [length_flat _ 19 length_chg] at h1; omega
theorem Sto.nmarks (s : Sto w p σ h ρ) : h.marks.n = σ.marks.length := by have h1 := s.marks.len; rw [length_flat _ 5 length_szs] at h1; omega
/-- (*Store).note. -/
theorem note_none (s : Sto w p σ h ρ) (c : Chg) (hm : σ.marks = []) :
    Calls Try.prog 62 #[.pointer (some ⟨p, 0, none⟩), .agg c.cells.toArray] w fun e w' => e = .returned (.tuple #[]) ∧ Ext w w' := by
  have hmn : h.marks.n = 0 := by rw [s.nmarks, hm]; rfl
  have hmain := s.main
  rw [hmn] at hmain
  have hps := hmain.lt
  have hc := hmain.cell
  clear hmn hm hmain
  obtain ⟨kind, ref, at_, ⟨kA, xA, aA, nA, mA, rA, fA, lA⟩, ⟨kB, xB, aB, nB, mB, rB, fB, lB⟩⟩ := c
  simp only [Chg.cells, pairCells, Ob.cells, List.cons_append, List.nil_append]
  go_enter Try.func62, Try.ntmps62
  go_wp2
  go_end0
  exact ⟨rfl, (Ext.rfl_ w).alloc_ _⟩
set_option maxHeartbeats 800000 in
theorem note_some (s : Sto w p σ h ρ) (c : Chg) (hm : 0 < σ.marks.length) (hn : σ.changes.length + 1 ≤ 4294967296) :
    Calls Try.prog 62 #[.pointer (some ⟨p, 0, none⟩), .agg c.cells.toArray] w fun e w' => e = .returned (.tuple #[]) ∧ StoTo w w' p ρ { σ with changes := σ.changes ++ [c] } := by
  obtain ⟨iL, hiL, hzL, hsL, hbL⟩ := info_parts info_chg
  have hmn : 0 < h.marks.n := by rw [s.nmarks]; exact hm
  have hmb : h.marks.n ≤ 4294967296 := by rw [s.nmarks]; exact s.ok.nmark
  have hcn : h.changes.n + 1 ≤ 4294967296 := by rw [s.nchanges]; exact hn
  have hps := s.lt
  have hc0 := s.main.cell
  obtain ⟨cs, hcs⟩ : ∃ cs, cs = c.cells := ⟨_, rfl⟩
  have hcl : c.cells.length = 19 := rfl
  obtain ⟨kind, ref, at_, ⟨kA, xA, aA, nA, mA, rA, fA, lA⟩, ⟨kB, xB, aB, nB, mB, rB, fB, lB⟩⟩ := c
  simp only [Chg.cells, pairCells, Ob.cells, List.cons_append, List.nil_append]
  go_enter Try.func62, Try.ntmps62
  go_wp2
  generalize hX : World.alloc w _ = X
  obtain ⟨hx, hcX, hfX, hzX, hbX⟩ := boxed hX
  clear hX
  have s1 := s.ext hx
  have hc := s1.main.cell
  have hpf := s1.main.frozen
  have hps1 := s1.lt
  clear hc0
  have f2 := fun (E : But X (fun b => h.changes.blk = some b)) i => (E.cells hps1 (fun hb => by have := s.rchanges _ hb; rw [s.rmain] at this; cases this) i).trans (hc i)
  clear hcX hfX hc
  refine wp_region_plan (C := fun w' => ∃ E : But X (fun b => h.changes.blk = some b), w' = E.w) [true, true, true, true, true, true, false, false, false, false, false] 7 1 (by kernel_rfl) (by kernel_rfl) (fun c a d v w h => by cases d <;> exact h) (InBut.of (Nat.le_refl _) fun _ _ _ => rfl) ?_
  simp only [pickQ, pickT]
  repeat (go_big_quiet_step (fail))
  go_big_quiet_want
  refine quiet_load_at _ (by rfl) (by rfl) (fun w' hw' => by obtain ⟨E, rfl⟩ := hw'; exact (E.blk hbX (fun hb => by have := s.changes.blk_lt hb; omega)).cells) Try.underlying124 (by kernel_rfl) ?_
  simp only [Act.put, List.setIfInBounds_toArray, List.set_cons_zero, List.set_cons_succ]
  go_big_quiet_on
  refine wpQuiet_nil ?_
  refine wpTail_cons (fun K hK => ?_)
  go_simp
  refine hK _ _ (InBut.of (by simp) fun b hb _ => Below.heap_alloc _ _ _ hb) ?_
  clear hK K
  refine wpTail_zero ?_
  go_wp2_with (
    at_builtin
    refine wpList_app (by rfl) _ _ _ (by rfl) 124 iL _ 19 168 Try.underlying113 hiL hzL hsL hbL rfl (by omega) h.changes (by rfl) (s1.changes.alloc _).drew (by rfl) (View.of_blk (n := 1) (Blk.new X _ _).drew rfl) ?_ ?_ ?_ ?_
    · intro u hu
      simp only [List.mem_cons, List.mem_nil_iff, or_false] at hu
      rcases hu with rfl | rfl | rfl | rfl | rfl | rfl | rfl | rfl | rfl | rfl | rfl | rfl | rfl | rfl | rfl | rfl | rfl | rfl | rfl <;> rfl
    · simp only [maxLen]; omega
    · omega
    intro v' w1 hrow hlen hgrow hat
    obtain ⟨hg1, hg2, hg3, hg4, hg5, hg6, hg7⟩ := s1.hdr_app (H := X.heap.size + 1) s1.rchanges (by simp) (((Ext.rfl_ X).alloc_ _).drew_) hgrow (by rcases hat with hat | hat; exact .inl hat; exact .inr (by rw [hat]; simp)) (by omega) hrow 4 (.slice v'.a v'.n v'.c) s1.main
    have k0 := hg1.cell
    have k1 := hg1.frozen)
  go_end0
  obtain ⟨ρ', hs', hr'⟩ := s1.addChange (c := ⟨kind, ref, at_, ⟨⟨kA, xA, aA, nA, mA, rA, fA, lA⟩, ⟨kB, xB, aB, nB, mB, rB, fB, lB⟩⟩⟩) hg6 hg4 hg5 hg2 (by rw [List.flatMap_append]; exact hg3) hn
  exact ⟨rfl, _, ρ', hs', Moves.ext_left hx (hg7 _ hr')⟩
def St.noted (σ : St) (c : Chg) : St := if σ.marks.length = 0 then σ else { σ with changes := σ.changes ++ [c] }
theorem noted_lists (σ : St) (c : Chg) : (σ.noted c).lists = σ.lists := by unfold St.noted; split <;> rfl
theorem note_c (s : Sto w p σ h ρ) (c : Chg) (hn : σ.changes.length + 1 ≤ 4294967296) :
    Calls Try.prog 62 #[.pointer (some ⟨p, 0, none⟩), .agg c.cells.toArray] w fun e w' => e = .returned (.tuple #[]) ∧ StoTo w w' p ρ (σ.noted c) := by
  unfold St.noted
  by_cases h0 : σ.marks.length = 0
  · rw [if_pos h0]
    exact (note_none s c (List.eq_nil_of_length_eq_zero h0)).mono fun e w' ⟨he, hx⟩ => ⟨he, s.to_ext hx⟩
  · rw [if_neg h0]
    exact note_some s c (by omega) hn
/-- (*Store).Put. -/
theorem put_ok (s : Sto w p σ h ρ) (x : Bool) (ac n : Int) (nm : ByteArray) (r f m i : Nat) (b : List Ob) (o : Ob) (hb : σ.lists[r]? = some b) (hfm : f + m ≤ b.length) (hi : i < m) (ho : b[f + i]? = some o)
    (k' : Int) (x' : Bool) (ac' n' : Int) (nm' : ByteArray) (rf' fr' ln' : Int) (hv : σ.valid ⟨k', x', ac', n', nm', rf', fr', ln'⟩ = true) (hn : σ.changes.length + 1 ≤ 4294967296) :
    Calls Try.prog 16 #[.pointer (some ⟨p, 0, none⟩), .agg #[.int .i64 7, .bool x, .int .i64 ac, .int .i64 n, .string nm, .int .i64 r, .int .i64 f, .int .i64 m], .int .i64 i,
        .agg #[.int .i64 k', .bool x', .int .i64 ac', .int .i64 n', .string nm', .int .i64 rf', .int .i64 fr', .int .i64 ln']] w fun e w' =>
      e = .returned (.int .i64 0) ∧ StoTo w w' p ρ { σ.noted ⟨0, r, f + i, (Ob.null, o)⟩ with lists := σ.lists.set r (b.set (f + i) ⟨k', x', ac', n', nm', rf', fr', ln'⟩) } := by
  have hr := getElem?_lt hb
  obtain ⟨t, ht⟩ : ∃ t, h.ls[r]? = some t := ⟨_, List.getElem?_eq_getElem (by have := s.nls; omega)⟩
  have hlen : b.length ≤ 65535 := s.ok.list b (List.mem_of_getElem? hb)
  have hrl : r < 1048576 := by have := s.ok.room; have := s.ok.free0; omega
  have htn : t.n = b.length := by have := (s.ls r t b ht hb).1.len; rw [length_obCells] at this; omega
  obtain ⟨g, hg1, hg2, hg3, hg4⟩ := (s.ls r t b ht hb).1.cutA_ (f := f) (by omega)
  have hHb := Lib.hid hb
  have hHt := Lib.hid ht
  have hHg := Lib.hid hg3
  have hHo := Lib.hid ho
  clear hb ht htn hg3 ho
  go_enter Try.func16, Try.ntmps16
  go_upto_region 5 with (first
    | (go_at_call 61; refine (is_b (b := true) (s.ext (((Ext.rfl_ w).alloc_ _).alloc_ _)) _ _ _ _ _ _ _ _ _ (isA_arr hHb.out hfm)).mono ?_; rintro e w1 ⟨rfl, hx1⟩; have hb5 := ((Blk.new w 27 [.int .i64 7, .bool x, .int .i64 ac, .int .i64 n, .string nm, .int .i64 r, .int .i64 f, .int .i64 m]).alloc (.cells #[.int .i64 k', .bool x', .int .i64 ac', .int .i64 n', .string nm', .int .i64 rf', .int .i64 fr', .int .i64 ln'] 27)).ext hx1; have hb7 := (Blk.new1 w (.cells #[.int .i64 7, .bool x, .int .i64 ac, .int .i64 n, .string nm, .int .i64 r, .int .i64 f, .int .i64 m] 27) 27 [.int .i64 k', .bool x', .int .i64 ac', .int .i64 n', .string nm', .int .i64 rf', .int .i64 fr', .int .i64 ln']).ext hx1; have hc5 := hb5.cell; have hc7 := hb7.cell)
    | (go_at_call 46; refine (valid_b (b := true) (s.ext ((((Ext.rfl_ w).alloc_ _).alloc_ _).trans_ hx1)) _ _ _ _ _ _ _ _ hv).mono ?_; rintro e w2 ⟨rfl, hx2⟩; have hc5' := (hb5.ext hx2).cell; have hc7' := (hb7.ext hx2).cell))
  have hx : Ext w w2 := ((((Ext.rfl_ w).alloc_ _).alloc_ _).trans_ hx1).trans_ hx2
  have hB5 := hb5.ext hx2
  have hB7 := hb7.ext hx2
  have s2 := s.ext hx
  clear hc5 hc7 hc5' hc7' hb5 hb7 hx1 hx2
  have f5 := fun (E : ExtOf w2) i => (E.cells hB5.lt i).trans (hB5.cell i)
  have fo : ∀ (E : ExtOf w2), E.w.cell? ⟨g, f * 8 + i * 8, none⟩ = some (.int .i64 o.k) ∧ E.w.cell? ⟨g, f * 8 + i * 8 + 1, none⟩ = some (.bool o.x) ∧ E.w.cell? ⟨g, f * 8 + i * 8 + 2, none⟩ = some (.int .i64 o.ac) ∧ E.w.cell? ⟨g, f * 8 + i * 8 + 3, none⟩ = some (.int .i64 o.n) ∧
      E.w.cell? ⟨g, f * 8 + i * 8 + 4, none⟩ = some (.string o.nm) ∧ E.w.cell? ⟨g, f * 8 + i * 8 + 5, none⟩ = some (.int .i64 o.rf) ∧ E.w.cell? ⟨g, f * 8 + i * 8 + 6, none⟩ = some (.int .i64 o.fr) ∧ E.w.cell? ⟨g, f * 8 + i * 8 + 7, none⟩ = some (.int .i64 o.ln) :=
    fun E => ((s.ls r t b hHt.out hHb.out).1.ext (hx.trans_ E.h)).ob (off := f * 8 + i * 8) hg2 hHo.out (by omega)
  have hl : ∀ (W : World) (h' : Hd) (ρ' : Roles) (σ' : St) (s' : Sto W p σ' h' ρ') (t' : Sl) (b' : List Ob) (_ : h'.ls[r]? = some t') (_ : σ'.lists[r]? = some b') (_ : f + m ≤ b'.length) (g' : Nat) (_ : cutA t'.a t'.c f 8 = some ⟨g', f * 8, none⟩),
      Calls Try.prog 63 #[.pointer (some ⟨p, 0, none⟩), .agg #[.int .i64 7, .bool x, .int .i64 ac, .int .i64 n, .string nm, .int .i64 r, .int .i64 f, .int .i64 m]] W fun e w' => e = .returned (.slice (some ⟨g', f * 8, none⟩) m (t'.c - f)) ∧ Ext W w' := by
    intro W h' ρ' σ' s' t' b' h1 h2 h3 g' h4
    have := list_c s' 7 x ac n nm r f m t' b' h1 h2 h3
    rw [h4] at this
    exact this
  have hl1 := Lib.hid hl
  clear hl
  refine wp_region_ext_tail 15 (by kernel_rfl) (by kernel_rfl) ?_
  simp only [List.take_succ_cons, List.take_zero, List.drop_succ_cons, List.drop_zero]
  repeat (go_big_quiet_step ((go_at_call 63; exact quiet_ext (hl1.out _ _ _ _ (s2.ext (ExtOf.h _)) t b hHt.out hHb.out hfm g hHg.out))))
  refine wpQuiet_nil fun E => ?_
  go_upto_region 6 with (
    go_at_call 62
    refine (note_c (s2.ext E.h) ⟨0, r, f + i, (Ob.null, o)⟩ hn).mono ?_
    rintro e w3 ⟨rfl, h3, ρ3, s3, hm3⟩)
  have hxE : Ext w E.w := hx.trans_ E.h
  have hn5 : ¬ ρ.own w.heap.size := Roles.not_own (s.fresh (Nat.le_refl _))
  have hn7 : ¬ ρ.own (w.heap.size + 1) := Roles.not_own (s.fresh (by omega))
  have hB5' := (hB5.ext E.h).moves hm3 hn5
  have hB7' := (hB7.ext E.h).moves hm3 hn7
  have hL3 : (σ.noted ⟨0, r, f + i, (Ob.null, o)⟩).lists[r]? = some b := by rw [noted_lists]; exact hHb.out
  obtain ⟨t3, ht3⟩ : ∃ t3, h3.ls[r]? = some t3 := ⟨_, List.getElem?_eq_getElem (by have := s3.nls; rw [noted_lists] at this; omega)⟩
  have htn3 : t3.n = b.length := by have := (s3.ls r t3 b ht3 hL3).1.len; rw [length_obCells] at this; omega
  obtain ⟨g3, hg31, hg32, hg33, hg34⟩ := (s3.ls r t3 b ht3 hL3).1.cutA_ (f := f) (by omega)
  have hHL3 := Lib.hid hL3
  have hHt3 := Lib.hid ht3
  have hHg33 := Lib.hid hg33
  have hHn3 := Lib.hid htn3
  have hcap3 := (s3.ls r t3 b ht3 hL3).1.cap_le
  clear hL3 ht3 hg33 htn3 f5 fo
  have f5 := fun (E : ExtOf w3) i => (E.cells hB5'.lt i).trans (hB5'.cell i)
  have f7 := fun (E : ExtOf w3) i => (E.cells hB7'.lt i).trans (hB7'.cell i)
  refine wp_region_ext_tail 6 (by kernel_rfl) (by kernel_rfl) ?_
  simp only [List.take_succ_cons, List.take_zero, List.drop_succ_cons, List.drop_zero]
  repeat (go_big_quiet_step ((go_at_call 63; exact quiet_ext (hl1.out _ _ _ _ (s3.ext (ExtOf.h _)) t3 b hHt3.out hHL3.out hfm g3 hHg33.out))))
  refine wpQuiet_nil fun E3 => ?_
  have hrow3 := (s3.ls r t3 b hHt3.out hHL3.out).1.ext E3.h
  obtain ⟨c0, c1, c2, c3, c4, c5, c6, c7⟩ := hrow3.ob (off := f * 8 + i * 8) hg32 hHo.out (by omega)
  have hfr := fun j => hrow3.frozen hg32 j
  go_wp2
  go_ret
  refine ⟨rfl, ?_⟩
  have ho := setO_only E3.w g3 (f * 8 + i * 8) (.int .i64 k') (.bool x') (.int .i64 ac') (.int .i64 n') (.string nm') (.int .i64 rf') (.int .i64 fr') (.int .i64 ln')
  have hw := hrow3.set_ob (q := f + i) (off := f * 8 + i * 8) ⟨k', x', ac', n', nm', rf', fr', ln'⟩ hg32 (by omega) (by omega)
  have s4 := (s3.ext E3.h).setList (b' := b.set (f + i) ⟨k', x', ac', n', nm', rf', fr', ln'⟩) hHt3.out hHL3.out (by simp) hw (fun c hc hne => ho.block c (by rintro rfl; exact hne hg31)) (Nat.le_of_eq ho.size.symm)
  rw [noted_lists] at s4
  refine ⟨h3, ρ3, s4, ?_⟩
  exact (Moves.ext_left hxE (hm3.ext_right E3.h)).only ho (by
    have := (s3.ls r t3 b hHt3.out hHL3.out).2 g3 hg31
    rcases hm3.foot g3 (by unfold Roles.own; rw [this]; simp) with h | h
    · exact .inr h
    · exact .inl (Nat.le_trans hxE.size h))
end
end Go.Proofs.Ythhckledkhcfeaa
namespace Go.Proofs.Ythhckledkhcfeaa
open Go.RowKit
section
variable {w : World} {p : Nat} {σ : St} {h : Hd} {ρ : Roles}
theorem put_range (s : Sto w p σ h ρ) (x : Bool) (ac n : Int) (nm : ByteArray) (r f m : Nat) (i : Int) (b : List Ob) (hb : σ.lists[r]? = some b) (hfm : f + m ≤ b.length) (hi : i < 0 ∨ (m : Int) ≤ i)
    (k' : Int) (x' : Bool) (ac' n' : Int) (nm' : ByteArray) (rf' fr' ln' : Int) (hv : σ.valid ⟨k', x', ac', n', nm', rf', fr', ln'⟩ = true) :
    Calls Try.prog 16 #[.pointer (some ⟨p, 0, none⟩), .agg #[.int .i64 7, .bool x, .int .i64 ac, .int .i64 n, .string nm, .int .i64 r, .int .i64 f, .int .i64 m], .int .i64 i,
        .agg #[.int .i64 k', .bool x', .int .i64 ac', .int .i64 n', .string nm', .int .i64 rf', .int .i64 fr', .int .i64 ln']] w fun e w' => e = .returned (.int .i64 11) ∧ Ext w w' := by
  have hHb := Lib.hid hb
  clear hb
  have hs : i < 0 ∨ (0 ≤ i ∧ (m : Int) ≤ i) := by omega
  clear hi
  rcases hs with hs | ⟨hs, hs2⟩
  all_goals
    go_enter Try.func16, Try.ntmps16
    go_wp2_with (first
      | (go_at_call 61; refine (is_b (b := true) (s.ext (((Ext.rfl_ w).alloc_ _).alloc_ _)) _ _ _ _ _ _ _ _ _ (isA_arr hHb.out hfm)).mono ?_; rintro e w1 ⟨rfl, hx1⟩; have hb5 := ((Blk.new w 27 [.int .i64 7, .bool x, .int .i64 ac, .int .i64 n, .string nm, .int .i64 r, .int .i64 f, .int .i64 m]).alloc (.cells #[.int .i64 k', .bool x', .int .i64 ac', .int .i64 n', .string nm', .int .i64 rf', .int .i64 fr', .int .i64 ln'] 27)).ext hx1; have hb7 := (Blk.new1 w (.cells #[.int .i64 7, .bool x, .int .i64 ac, .int .i64 n, .string nm, .int .i64 r, .int .i64 f, .int .i64 m] 27) 27 [.int .i64 k', .bool x', .int .i64 ac', .int .i64 n', .string nm', .int .i64 rf', .int .i64 fr', .int .i64 ln']).ext hx1; have hc5 := hb5.cell; have hc7 := hb7.cell)
      | (go_at_call 46; refine (valid_b (b := true) (s.ext ((((Ext.rfl_ w).alloc_ _).alloc_ _).trans_ hx1)) _ _ _ _ _ _ _ _ hv).mono ?_; rintro e w2 ⟨rfl, hx2⟩; have hc5' := (hb5.ext hx2).cell; have hc7' := (hb7.ext hx2).cell))
    go_ret
    exact ⟨rfl, ((((Ext.rfl_ w).alloc_ _).alloc_ _).trans_ hx1).trans_ hx2⟩
theorem put_no (s : Sto w p σ h ρ) (k : Int) (x : Bool) (ac n : Int) (nm : ByteArray) (rf fr ln i : Int)
    (k' : Int) (x' : Bool) (ac' n' : Int) (nm' : ByteArray) (rf' fr' ln' : Int) (hno : σ.isA ⟨k, x, ac, n, nm, rf, fr, ln⟩ 7 = false ∨ σ.valid ⟨k', x', ac', n', nm', rf', fr', ln'⟩ = false) :
    Calls Try.prog 16 #[.pointer (some ⟨p, 0, none⟩), .agg #[.int .i64 k, .bool x, .int .i64 ac, .int .i64 n, .string nm, .int .i64 rf, .int .i64 fr, .int .i64 ln], .int .i64 i,
        .agg #[.int .i64 k', .bool x', .int .i64 ac', .int .i64 n', .string nm', .int .i64 rf', .int .i64 fr', .int .i64 ln']] w fun e w' => e = .returned (.int .i64 21) ∧ Ext w w' := by
  by_cases hq : σ.isA ⟨k, x, ac, n, nm, rf, fr, ln⟩ 7 = true
  · have hv : σ.valid ⟨k', x', ac', n', nm', rf', fr', ln'⟩ = false := by rcases hno with h | h; rw [h] at hq; cases hq; exact h
    have hq' := Lib.hid hq
    clear hq hno
    go_enter Try.func16, Try.ntmps16
    go_wp2_with (first
      | (go_at_call 61; refine (is_b (b := true) (s.ext (((Ext.rfl_ w).alloc_ _).alloc_ _)) _ _ _ _ _ _ _ _ _ hq'.out).mono ?_; rintro e w1 ⟨rfl, hx1⟩; have hb7 := (Blk.new1 w (.cells #[.int .i64 k, .bool x, .int .i64 ac, .int .i64 n, .string nm, .int .i64 rf, .int .i64 fr, .int .i64 ln] 27) 27 [.int .i64 k', .bool x', .int .i64 ac', .int .i64 n', .string nm', .int .i64 rf', .int .i64 fr', .int .i64 ln']).ext hx1; have hc7 := hb7.cell)
      | (go_at_call 46; refine (valid_b (b := false) (s.ext ((((Ext.rfl_ w).alloc_ _).alloc_ _).trans_ hx1)) _ _ _ _ _ _ _ _ hv).mono ?_; rintro e w2 ⟨rfl, hx2⟩))
    go_ret
    exact ⟨rfl, ((((Ext.rfl_ w).alloc_ _).alloc_ _).trans_ hx1).trans_ hx2⟩
  · have hq' := Lib.hid (show σ.isA ⟨k, x, ac, n, nm, rf, fr, ln⟩ 7 = false by simpa using hq)
    clear hq hno
    go_enter Try.func16, Try.ntmps16
    go_wp2_with (go_at_call 61; refine (is_b (b := false) (s.ext (((Ext.rfl_ w).alloc_ _).alloc_ _)) _ _ _ _ _ _ _ _ _ hq'.out).mono ?_; rintro e w1 ⟨rfl, hx1⟩)
    go_ret
    exact ⟨rfl, (((Ext.rfl_ w).alloc_ _).alloc_ _).trans_ hx1⟩
end
end Go.Proofs.Ythhckledkhcfeaa
namespace Go.Proofs.Ythhckledkhcfeaa
open Go.RowKit
section
theorem View.marked (w : World) (cs : List Value) (t : TypeId) (fr : Nat × Nat) : View (w.alloc (.cells cs.toArray t fr)) 1 (some ⟨w.heap.size, 0, none⟩) cs.length cs :=
  ⟨by simp, fun _ => ⟨w.heap.size, 0, rfl, by simp, fun j u hu => by rw [Nat.zero_add, World.cell?_alloc_mark]; simpa using hu⟩⟩
set_option maxRecDepth 100000 in
theorem answers_c (w : World) : Calls Try.prog 14 #[] w fun e w' => e = .returned (.bool true) ∧ Ext w w' := by
  have kc := fun (w : World) (C : Array Value) (n c : Nat) => Lib.run_convert_bytes_const (P := Try.prog) w 45 5 C n c Try.underlying45 Try.underlying5
  go_enter Try.func14, Try.ntmps14
  go_upto_region 4 with (
    go_at_call 12
    refine (new_ok 100 w (by omega) (by omega)).mono ?_
    rintro e w1 ⟨rfl, s1, hx1⟩)
  go_upto_region 5 with (
    go_at_call 25
    refine (Text_ok (bs := [97, 98]) (s1.ext ((Ext.rfl_ w1).alloc_ _)) (View.marked w1 [.int .u8 97, .int .u8 98] 5 (2, 3)) (fun g o hg => by injection hg with hg; injection hg with hg; subst hg; exact s1.fresh (Nat.le_refl _)) (by simp) (by simp [St.empty])).mono ?_
    rintro e w2 ⟨rfl, h2, ρ2, s2, hm2⟩)
  have hm : Ext w w2 := by
    exact ((Moves.ext_left hx1 (Moves.ext_left ((Ext.rfl_ w1).alloc_ _) hm2)).below (B := w.heap.size) (fun b hb => by rw [Roles.one_own hb]; exact Nat.le_refl _) (Nat.le_refl _))
  go_upto_region 6 with (
    go_at_call 26
    refine (bytes_ok (s2.ext ((Ext.rfl_ w2).alloc_ _)) false 0 0 ByteArray.empty 0 0 2 [97, 98] rfl (by simp)).mono ?_
    rintro e w3 ⟨⟨a, n, c⟩, rfl, hvn, hfr⟩
    dsimp only at hvn
    subst hvn)
  obtain ⟨g, ha, hg⟩ := hfr.1.pos (by simp)
  dsimp only at ha
  subst ha
  have kb : (convert 45 9 (.slice (some ⟨g, 0, none⟩) 2 c)).run Try.prog w3 = .ok (.string ⟨#[97, 98]⟩) w3 :=
    run_convert_bytes_back (P := Try.prog) w3 45 9 5 ⟨g, 0, none⟩ c [97, 98] Try.underlying45 Try.underlying5 Try.underlying9 (fun j hj => by
      have := hfr.1.cell rfl j (by simpa using hj)
      rw [show (Addr.add ⟨g, 0, none⟩ j) = ⟨g, j, none⟩ by simp [Addr.add]; omega, this]
      match j, hj with
      | 0, _ => rfl
      | 1, _ => rfl)
  go_wp2_with (
    go_at_call 42
    refine (free_c (s2.ext (((Ext.rfl_ w2).alloc_ _).trans_ hfr.2.2))).mono ?_
    rintro e w4 ⟨rfl, rfl⟩)
  go_ret
  exact ⟨rfl, ((hm.alloc_ _).trans_ hfr.2.2)⟩
end
end Go.Proofs.Ythhckledkhcfeaa
namespace Go.Proofs.Ythhckledkhcfeaa
open Go.RowKit Go.ChangeShapes Go.WideShapes Go.ChangeAt
theorem post_of_ext {H : Type} {enc : TypeId × Value → H} {P : Program} {f : Func} {s : ChangeSpec} {apart fresh handsOn again : Bool} {W W' : World} {args : Array Value} {v : Value} {ds gs : List (DataW H)} {before pa pv : List MemPlace}
    (hW : DataW.Whole enc P f.params.toList s.vars apart W args.toList ds gs before)
    (hres : ∀ (b : Nat) (sp : Nat → Bool) (hd : Bool), DataW.TrodAll enc P W' b sp hd f.resultTypes.toList (v.resultList f.resultTypes.size) (s.fn H (ds ++ gs)).results [])
    (hargs : ∀ sp : Nat → Bool, (∀ p ∈ before, sp p.block = true) → DataW.TrodAll enc P W' 0 sp true f.params.toList args.toList (s.fn H (ds ++ gs)).args pa)
    (hvars : ∀ sp : Nat → Bool, (∀ p ∈ before, sp p.block = true) → DataW.TrodVars enc P W' sp s.vars (s.fn H (ds ++ gs)).vars pv)
    (hps : before = pa ++ pv) (hk : Ext W W')
    (hok : ∀ (j : Nat) (t : TypeId) (r : Value), f.resultTypes[j]? = some t → (v.resultList f.resultTypes.size)[j]? = some r → Value.okWide P W' .any 0 t r) :
    s.post enc P f apart fresh handsOn again W args v W' := by
  have hlt := fun p hp => hW.lt p hp
  have hold : ∀ p ∈ before, (fun b => decide (b < W.heap.size)) p.block = true := fun p hp => by simpa using hlt p hp
  refine ⟨ds, gs, before, [], pa, pv, hW, hres _ _ _, hargs _ hold, hvars _ hold, World.keptBut_mono (fun p hp => ⟨hp, ?_⟩) (Below.frame hk (· ∈ before)), fun _ => ?_⟩
  · rw [hps, List.mem_append] at hp
    exact Or.inr hp
  · obtain ⟨_, _, _, _, _, hz, hn⟩ := hW
    refine ⟨hok, _, _, ([] ++ pa) ++ pv, ⟨[] ++ pa, pv, trodAll_append (hargs _ (fun _ _ => rfl)) (hres _ _ _), hvars _ (fun _ _ => rfl), rfl, ?_, ?_⟩, ?_⟩
    · intro b off hp
      have hm : MemPlace.cell b off ∈ before := by rw [hps]; simpa using hp
      rw [Below.frozen hk (p := ⟨b, off, none⟩) (hlt _ hm)]
      exact hz b off hm
    · intro ha
      have := hn ha
      rw [hps] at this
      simpa using this
    · intro p hp _
      rw [hps]
      simpa using hp
theorem u8_nat {a : Int} (h : (Lit.int .u8 a).wf = true) : ∃ n : Nat, a = n ∧ n ≤ 255 := by
  simp only [Lit.wf, Bool.and_eq_true, decide_eq_true_eq, show IntKind.u8.min = 0 from rfl, show IntKind.u8.max = 255 from rfl] at h
  obtain ⟨n, rfl⟩ := Int.eq_ofNat_of_zero_le h.1
  exact ⟨n, rfl, by omega⟩
end Go.Proofs.Ythhckledkhcfeaa
namespace Go.Proofs.Ythhckledkhcfeaa
open Go.RowKit
/-- Are two objects one and the same? -/
def obEq (a b : Ob) : Bool := a.k == b.k && (a.x == b.x && (a.ac == b.ac && (a.n == b.n && (a.nm.toList == b.nm.toList && (a.rf == b.rf && (a.fr == b.fr && a.ln == b.ln))))))
theorem obEq_self (a : Ob) : obEq a a = true := by simp [obEq]
theorem run_obEq (w : World) (a b : Ob) : (binOp .eql 27 (.agg a.cells.toArray) (.agg b.cells.toArray)).run Try.prog w = .ok (.bool (obEq a b)) w := by
  have hp : Try.prog.stoodInHeld 27 = false := by kernel_rfl
  have hu := Try.underlying27
  have hi := Try.underlying3
  have hb := Try.underlying4
  have hs := Try.underlying9
  have c3 : Try.prog.cellsOf 3 = 1 := by kernel_rfl
  have c4 : Try.prog.cellsOf 4 = 1 := by kernel_rfl
  have c9 : Try.prog.cellsOf 9 = 1 := by kernel_rfl
  simp [go_sem, Ob.cells, hp, hu, hi, hb, hs, c3, c4, c9]
  unfold obEq
  repeat' split
  all_goals simp_all
/-- The first place where something is so; none: -1. -/
def idxOf {α : Type} (f : α → Bool) (l : List α) : Int := match l.findIdx? f with | some i => (i : Int) | none => -1
theorem idxOf_some {α : Type} {f : α → Bool} {l : List α} {i : Nat} {s : α} (hi : l[i]? = some s) (hs : f s = true) (hno : ∀ (q : Nat) (u : α), q < i → l[q]? = some u → f u = false) : idxOf f l = i := by
  have : l.findIdx? f = some i := by
    rw [List.findIdx?_eq_some_iff_getElem]
    obtain ⟨hlt, he⟩ := List.getElem?_eq_some_iff.1 hi
    refine ⟨hlt, by rw [he]; exact hs, fun j hj => ?_⟩
    have := hno j l[j] hj (List.getElem?_eq_getElem (by omega))
    simpa using this
  simp only [idxOf, this]
theorem idxOf_none {α : Type} {f : α → Bool} {l : List α} (hno : ∀ (q : Nat) (u : α), l[q]? = some u → f u = false) : idxOf f l = -1 := by
  have : l.findIdx? f = none := by
    rw [List.findIdx?_eq_none_iff]
    intro u hu
    obtain ⟨q, hq⟩ := List.getElem?_of_mem hu
    exact hno q u hq
  simp only [idxOf, this]
theorem idxOf_cases {α : Type} (f : α → Bool) (l : List α) : (idxOf f l = -1 ∧ ∀ u ∈ l, f u = false) ∨ ∃ (i : Nat) (u : α), idxOf f l = i ∧ l[i]? = some u ∧ f u = true := by
  unfold idxOf
  cases hq : l.findIdx? f with
  | none => exact .inl ⟨rfl, by simpa using hq⟩
  | some i =>
    obtain ⟨hlt, he, -⟩ := List.findIdx?_eq_some_iff_getElem.1 hq
    exact .inr ⟨i, l[i], rfl, List.getElem?_eq_getElem hlt, he⟩
theorem length_pair (q : Ob × Ob) : (pairCells q).length = 16 := rfl
section
variable {w : World} {p : Nat} {σ : St} {h : Hd} {ρ : Roles}
theorem Sto.dict_at (s : Sto w p σ h ρ) {r : Nat} (hr : r < σ.dicts.length) :
    ∃ g d x, h.dicts.a = some ⟨g, 0, none⟩ ∧ h.ds[r]? = some d ∧ σ.dicts[r]? = some x ∧ w.cell? ⟨g, r, none⟩ = some (.pointer (some ⟨d.1, 0, none⟩)) ∧ Blk w d.1 144 [.int .i64 x.most, .int .i64 x.access, .slice d.2.a d.2.n d.2.c] ∧
      Row w 122 16 d.2 (x.pairs.flatMap pairCells) ∧ ρ d.1 = some (.dict r) ∧ d.2.on ρ (.pairs r) ∧ g < w.heap.size ∧ d.2.n = x.pairs.length ∧ (x.pairs.length : Int) ≤ x.most ∧ x.most ≤ 4096 := by
  have hrt : r < h.ds.length := by have := s.nds; omega
  have hl := s.ndicts
  obtain ⟨hblk, hrole, hrow, hon⟩ := s.ds r (h.ds[r]) (σ.dicts[r]) (List.getElem?_eq_getElem hrt) (List.getElem?_eq_getElem hr)
  obtain ⟨g, hg, hgb⟩ := s.dicts.pos (by omega)
  have hd := s.ok.dict _ (List.getElem_mem hr)
  refine ⟨g, h.ds[r], σ.dicts[r], hg, List.getElem?_eq_getElem hrt, List.getElem?_eq_getElem hr, ?_, hblk, hrow, hrole, hon, s.dicts.blk_lt hgb, ?_, hd.1, hd.2⟩
  · rw [s.dicts.cell hg r (by omega)]
    simp [ptrVals, hrt]
  · have := hrow.len
    rw [length_flat _ 16 length_pair] at this
    omega
end
/-- Is this pair the key's? -/
abbrev isKey (k : Ob) (q : Ob × Ob) : Bool := obEq q.1 k
set_option maxRecDepth 100000 in
theorem at1_pair {w : World} {b : Nat} {k : Ob} (h : Blk w b 27 k.cells) (u : Ob × Ob) {q : Bool} (hq : isKey k u = q) :
    Calls Try.prog 121 #[.agg (pairCells u).toArray, .pointer (some ⟨b, 0, none⟩)] w fun e w' => e = .returned (.bool q) ∧ Ext w w' := by
  have hX := h.alloc (.cells (pairCells u).toArray 122)
  have hU := Blk.new w 122 (pairCells u)
  have hE := fun w => run_obEq w u.1 k
  subst hq
  obtain ⟨⟨kA, xA, aA, nA, mA, rA, fA, lA⟩, ⟨kB, xB, aB, nB, mB, rB, fB, lB⟩⟩ := u
  obtain ⟨kK, xK, aK, nK, mK, rK, fK, lK⟩ := k
  have hc := hX.cell
  have hu := hU.cell
  simp only [pairCells, Ob.cells, List.cons_append, List.nil_append] at hE hc hu ⊢
  go_enter Try.func121, Try.ntmps121
  go_wp2
  go_ret
  exact ⟨rfl, (Ext.rfl_ w).alloc_ _⟩
theorem index_pair {w : World} {b : Nat} {t : Sl} {l : List (Ob × Ob)} {k : Ob} (hr : Row w 122 16 t (l.flatMap pairCells)) (hn : t.n = l.length) (h : Blk w b 27 k.cells) :
    Calls Try.prog 120 #[.slice t.a t.n t.c, .func (.func 121) #[] #[.pointer (some ⟨b, 0, none⟩)]] w fun e w' => e = .returned (.int .i64 (idxOf (isKey k) l)) ∧ Ext w w' := by
  have hcap := hr.cap_le
  obtain ⟨a, tn, tc⟩ := t
  dsimp only at hn hcap
  obtain ⟨hcap1, hcap2⟩ := hcap
  simp only [maxLen] at hcap2
  have hHn := Lib.hid hn
  clear hn
  go_enter Try.func120, Try.ntmps120
  go_wp2_with fail
  go_loopg [8] tn (fun k8 s8 wr => ∃ i : Nat, i ≤ tn ∧ k8 = tn - i ∧ s8 = .int .i64 i ∧ (∀ (q : Nat) (u : Ob × Ob), q < i → l[q]? = some u → isKey k u = false) ∧ Ext w wr)
  case atStart => exact ⟨0, by omega, by omega, rfl, (by intro q u hq; omega), Ext.rfl_ w⟩
  case round =>
    obtain ⟨i, hi, hk, hs8, hno, hx⟩ := hrel
    subst hs8
    have hNo := Lib.hid hno
    clear hno
    by_cases hlt : i < tn
    · obtain ⟨g, ha, hg⟩ := hr.pos (show 0 < tn by omega)
      dsimp only at ha
      subst ha
      obtain ⟨u, hu⟩ : ∃ u, l[i]? = some u := ⟨_, List.getElem?_eq_getElem (by have := hHn.out; omega)⟩
      have hHu := Lib.hid hu
      clear hu
      have hrx := hr.ext hx
      have hcells : ∀ q v, (pairCells u)[q]? = some v → wr.cell? ⟨g, i * 16 + q, none⟩ = some v := fun q v hv => (hrx.item length_pair rfl hHu.out (by have := (List.getElem?_eq_some_iff.1 hv).1; rw [length_pair] at this; exact this)).trans hv
      cases hq : isKey k u with
      | true =>
        have hQ := Lib.hid hq
        clear hq
        go_wp2_with (first
          | (go_at_call 121; refine (at1_pair (h.ext hx) u hQ.out).mono ?_; rintro e w1 ⟨rfl, hx1⟩)
          | (refine wpList_load_at (ty := 122) (cs := pairCells u) (by rfl) _ (by rfl) (by rfl) hcells Try.underlying122 (by kernel_rfl) ?_))
        go_ret
        exact ⟨by rw [idxOf_some hHu.out hQ.out hNo.out]; rfl, hx.trans_ hx1⟩
      | false =>
        have hQ := Lib.hid hq
        clear hq
        go_wp2_with (first
          | (go_at_call 121; refine (at1_pair (h.ext hx) u hQ.out).mono ?_; rintro e w1 ⟨rfl, hx1⟩)
          | (refine wpList_load_at (ty := 122) (cs := pairCells u) (by rfl) _ (by rfl) (by rfl) hcells Try.underlying122 (by kernel_rfl) ?_))
        go_roundg (tn - (i + 1))
        case measure => omega
        case rel =>
          refine ⟨i + 1, by omega, rfl, by simp, ?_, hx.trans_ hx1⟩
          intro q u' hq' hu'
          rcases Nat.lt_or_ge q i with h1 | h1
          · exact hNo.out q u' h1 hu'
          · obtain rfl : q = i := by omega
            rw [hHu.out] at hu'
            injection hu' with hu'
            subst hu'
            exact hQ.out
    · go_wp2_with fail
      go_ret
      refine ⟨?_, hx⟩
      rw [idxOf_none]
      · rfl
      intro q u hu
      exact hNo.out q u (by have := (List.getElem?_eq_some_iff.1 hu).1; have := hHn.out; omega) hu
/-- (*dict).at. -/
theorem dictAt_c {w : World} {d : Nat} {t : Sl} {c0 c1 : Value} {l : List (Ob × Ob)} (hd : Blk w d 144 [c0, c1, .slice t.a t.n t.c]) (hr : Row w 122 16 t (l.flatMap pairCells)) (hn : t.n = l.length)
    (k : Int) (x : Bool) (ac n : Int) (nm : ByteArray) (rf fr ln : Int) :
    Calls Try.prog 87 #[.pointer (some ⟨d, 0, none⟩), .agg #[.int .i64 k, .bool x, .int .i64 ac, .int .i64 n, .string nm, .int .i64 rf, .int .i64 fr, .int .i64 ln]] w fun e w' => e = .returned (.int .i64 (idxOf (isKey ⟨k, x, ac, n, nm, rf, fr, ln⟩) l)) ∧ Ext w w' := by
  have hmf : ∀ (fn : Fn) (first cap : Array Value) (w : World), (Instr.makeFunc fn first cap).run Try.prog w = .ok (.func fn first cap) w := fun _ _ _ _ => rfl
  have hHn := Lib.hid hn
  clear hn
  go_enter Try.func87, Try.ntmps87
  go_upto_region 1 with fail
  generalize hX : World.alloc w _ = X
  obtain ⟨hx, hcX, hfX, hzX, hbX⟩ := boxed hX
  clear hX
  have hc := (hd.ext hx).cell
  go_wp2_with (go_at_call 120; refine (index_pair (k := ⟨k, x, ac, n, nm, rf, fr, ln⟩) (hr.ext hx) hHn.out hbX).mono ?_; rintro e w1 ⟨rfl, hx1⟩)
  go_ret
  exact ⟨rfl, hx.trans_ hx1⟩
end Go.Proofs.Ythhckledkhcfeaa
namespace Go.Proofs.Ythhckledkhcfeaa
open Go.RowKit
theorem run_string {w : World} {A : Option Addr} {n : Nat} (c : Nat) {bs : List UInt8} (hv : View w 1 A n (byteCells bs)) :
    (convert 45 9 (.slice A n c)).run Try.prog w = .ok (.string ⟨bs.toArray⟩) w := by
  have hl : bs.length = n := by have := hv.1; simp [byteCells] at this; omega
  subst hl
  rcases Nat.eq_zero_or_pos bs.length with h0 | h0
  · have hb : bs = [] := List.eq_nil_of_length_eq_zero h0
    subst hb
    rw [run_convert_bytes_string w 45 9 5 _ _ c Try.underlying45 Try.underlying5 Try.underlying9]
    cases A <;> simp [Conv.bytesToString, loadCells]
    all_goals rfl
  · obtain ⟨g, o, rfl, -, hj⟩ := hv.2 (by simp [byteCells]; omega)
    refine run_convert_bytes_back (P := Try.prog) w 45 9 5 ⟨g, o, none⟩ c bs Try.underlying45 Try.underlying5 Try.underlying9 (fun j hjl => ?_)
    have := hj j (.int .u8 (bs[j].toNat : Int)) (by simp [byteCells, hjl])
    rw [Addr.add_lit]
    exact this
def Ob.bare (k : Ob) : Ob := { k with x := false, ac := 0 }
/-- The bytes that a string's part shows. -/
def St.shows (σ : St) (o : Ob) : List UInt8 := ((σ.texts.getD o.rf.toNat []).drop o.fr.toNat).take o.ln.toNat
/-- What stands for an object as a key, and the error. -/
def St.key (σ : St) (k : Ob) : Ob × Int :=
  if σ.valid k = false then (Ob.null, 21) else if k.k = 0 then (Ob.null, 16)
  else if k.k = 6 then (if 127 < k.ln then (Ob.null, 9) else (⟨5, false, 0, 0, ⟨(σ.shows k).toArray⟩, 0, 0, 0⟩, 0))
  else if k.k = 2 ∧ k.n.tmod 65536 = 0 then (⟨1, false, 0, k.n.tdiv 65536, ByteArray.empty, 0, 0, 0⟩, 0)
  else (k.bare, 0)
section
variable {w : World} {p : Nat} {σ : St} {h : Hd} {ρ : Roles}
theorem key_any (s : Sto w p σ h ρ) (k : Int) (x : Bool) (ac n : Int) (nm : ByteArray) (rf fr ln : Int) (hn : I64 n) :
    Calls Try.prog 86 #[.pointer (some ⟨p, 0, none⟩), .agg #[.int .i64 k, .bool x, .int .i64 ac, .int .i64 n, .string nm, .int .i64 rf, .int .i64 fr, .int .i64 ln]] w fun e w' =>
      e = .returned (.tuple #[.agg (σ.key ⟨k, x, ac, n, nm, rf, fr, ln⟩).1.cells.toArray, .int .i64 (σ.key ⟨k, x, ac, n, nm, rf, fr, ln⟩).2]) ∧ Ext w w' := by
  obtain ⟨hn1, hn2⟩ := hn
  have hk0 := fun b hb => valid_b s (b := b) k x ac n nm rf fr ln hb
  cases hv : σ.valid ⟨k, x, ac, n, nm, rf, fr, ln⟩ with
  | false =>
    have e : σ.key ⟨k, x, ac, n, nm, rf, fr, ln⟩ = (Ob.null, 21) := by unfold St.key; rw [if_pos hv]
    rw [e]
    have hV := Lib.hid hv
    clear e hv hk0
    go_enter Try.func86, Try.ntmps86
    go_upto_region 1 with fail
    generalize hX : World.alloc (World.alloc w _) _ = X
    have hB3 : Blk X w.heap.size 27 [.int .i64 k, .bool x, .int .i64 ac, .int .i64 n, .string nm, .int .i64 rf, .int .i64 fr, .int .i64 ln] := by rw [← hX]; exact (Blk.new w 27 _).alloc _
    have hB4 : Blk X (w.heap.size + 1) 27 [.int .i64 0, .bool false, .int .i64 0, .int .i64 0, .string ByteArray.empty, .int .i64 0, .int .i64 0, .int .i64 0] := by rw [← hX]; exact Blk.new1 w _ 27 _
    have hx : Ext w X := by rw [← hX]; exact ((Ext.rfl_ w).alloc_ _).alloc_ _
    clear hX
    have hc3 := hB3.cell
    go_upto_region 2 with (go_at_call 46; refine (valid_b (b := false) (s.ext hx) _ _ _ _ _ _ _ _ hV.out).mono ?_; rintro e w1 ⟨rfl, hx1⟩)
    have hB4' := hB4.ext hx1
    have hc4 := hB4'.cell
    have hf4 := hB4'.frozen
    clear hc3
    go_wp2
    refine bodyPost_ret (res_ct rfl rfl (set8_blk hB4' _ _ _ _ _ _ _ _) Try.underlying27 (by kernel_rfl)) rfl ⟨rfl, ?_⟩
    exact (hx.trans_ hx1).only (set8_only _ _ _ _ _ _ _ _ _ _) (by omega)
  | true =>
    have hV := Lib.hid hv
    clear hk0
    go_enter Try.func86, Try.ntmps86
    go_upto_region 1 with fail
    generalize hX : World.alloc (World.alloc w _) _ = X
    have hB3 : Blk X w.heap.size 27 [.int .i64 k, .bool x, .int .i64 ac, .int .i64 n, .string nm, .int .i64 rf, .int .i64 fr, .int .i64 ln] := by rw [← hX]; exact (Blk.new w 27 _).alloc _
    have hB4 : Blk X (w.heap.size + 1) 27 [.int .i64 0, .bool false, .int .i64 0, .int .i64 0, .string ByteArray.empty, .int .i64 0, .int .i64 0, .int .i64 0] := by rw [← hX]; exact Blk.new1 w _ 27 _
    have hx : Ext w X := by rw [← hX]; exact ((Ext.rfl_ w).alloc_ _).alloc_ _
    clear hX
    have hc3 := hB3.cell
    clear hv
    go_upto_region 3 with (go_at_call 46; refine (valid_b (b := true) (s.ext hx) _ _ _ _ _ _ _ _ hV.out).mono ?_; rintro e w1 ⟨rfl, hx1⟩)
    clear hc3
    have hc3 := (hB3.ext hx1).cell
    have hf3 := (hB3.ext hx1).frozen
    go_upto_region 4 with fail
    have hB3z := ((hB3.ext hx1).set_ 1 (.bool false)).set_ 2 (.int .i64 0)
    have hB4z := ((hB4.ext hx1).far (p := ⟨w.heap.size, 1, none⟩) (by show w.heap.size + 1 ≠ w.heap.size; omega) (.bool false)).far (p := ⟨w.heap.size, 2, none⟩) (by show w.heap.size + 1 ≠ w.heap.size; omega) (.int .i64 0)
    have hZ : Ext w ((w1.setCell ⟨w.heap.size, 1, none⟩ (.bool false)).setCell ⟨w.heap.size, 2, none⟩ (.int .i64 0)) := ((hx.trans_ hx1).set_ (p := ⟨w.heap.size, 1, none⟩) (Nat.le_refl _) _).set_ (p := ⟨w.heap.size, 2, none⟩) (Nat.le_refl _) _
    clear hc3 hf3
    generalize World.setCell _ _ _ = Z at hB3z hB4z hZ
    simp only [List.set_cons_succ, List.set_cons_zero] at hB3z
    have hc := hB3z.cell
    have hd := hB4z.cell
    have hf := hB4z.frozen
    by_cases k0 : k = 0
    · subst k0
      have e : σ.key ⟨0, x, ac, n, nm, rf, fr, ln⟩ = (Ob.null, 16) := by unfold St.key; rw [if_neg (by rw [hV.out]; simp), if_pos rfl]
      have hE := Lib.hid e
      clear e
      go_wp2
      refine bodyPost_ret (res_ct rfl rfl (set8_blk hB4z _ _ _ _ _ _ _ _) Try.underlying27 (by kernel_rfl)) rfl ⟨by rw [hE.out]; rfl, ?_⟩
      exact hZ.only (set8_only _ _ _ _ _ _ _ _ _ _) (by omega)
    · by_cases k6 : k = 6
      · subst k6
        obtain ⟨r, f, m, b, -, hr, hfr, hm, hb, hfm⟩ := isA_str_inv (show σ.isA ⟨6, x, ac, n, nm, rf, fr, ln⟩ 6 = true by unfold St.isA; rw [hV.out]; rfl)
        dsimp only at hr hfr hm
        subst hr
        subst hfr
        subst hm
        by_cases hl : 127 < (m : Int)
        · have e : σ.key ⟨6, x, ac, n, nm, r, f, m⟩ = (Ob.null, 9) := by unfold St.key; rw [if_neg (by rw [hV.out]; simp), if_neg (by simp), if_pos rfl, if_pos hl]
          have hE := Lib.hid e
          clear e
          go_wp2
          refine bodyPost_ret (res_ct rfl rfl (set8_blk hB4z _ _ _ _ _ _ _ _) Try.underlying27 (by kernel_rfl)) rfl ⟨by rw [hE.out]; rfl, ?_⟩
          exact hZ.only (set8_only _ _ _ _ _ _ _ _ _ _) (by omega)
        · have hsh : σ.shows ⟨6, x, ac, n, nm, r, f, m⟩ = (b.drop f).take m := by unfold St.shows; simp [List.getD, hb]
          have e : σ.key ⟨6, x, ac, n, nm, r, f, m⟩ = (⟨5, false, 0, 0, ⟨((b.drop f).take m).toArray⟩, 0, 0, 0⟩, 0) := by unfold St.key; rw [if_neg (by rw [hV.out]; simp), if_neg (by simp), if_pos rfl, if_neg hl, hsh]
          have hE := Lib.hid e
          obtain ⟨t, ht⟩ : ∃ t, h.ts[r]? = some t := ⟨_, List.getElem?_eq_getElem (by have := s.nts; have := getElem?_lt hb; omega)⟩
          have htn : t.n = b.length := by have := (s.ts r t b ht hb).1.len; simp [byteCells] at this; omega
          have hvw := View.part (f := f) (m := m) (s.ts r t b ht hb).1 (by omega)
          rw [part_bytes] at hvw
          have hHb := Lib.hid hb
          have hHt := Lib.hid ht
          have hHv := Lib.hid hvw
          have hlf : (m : Int) ≤ 127 := by omega
          clear e hsh hb ht hvw hl htn
          go_upto_region 10 with fail
          have kb : ∀ W, Ext w W → (convert 45 9 (.slice (cutA t.a t.c f 1) m (t.c - f))).run Try.prog W = .ok (.string ⟨((b.drop f).take m).toArray⟩) W := fun W hW => run_string _ (hHv.out.ext hW)
          have hKb := Lib.hid kb
          clear kb hd hf
          go_wp2_with (go_at_call 74; refine (text_c (s.ext hZ) 6 false 0 n nm r f m t b hHt.out hHb.out hfm).mono ?_; rintro e w2 ⟨rfl, hx2⟩; have kb2 := hKb.out w2 (hZ.trans_ hx2); have hd := (hB4z.ext hx2).cell; have hf := (hB4z.ext hx2).frozen)
          refine bodyPost_ret (res_ct rfl rfl (set8_blk (hB4z.ext hx2) _ _ _ _ _ _ _ _) Try.underlying27 (by kernel_rfl)) rfl ⟨by rw [hE.out]; rfl, ?_⟩
          exact (hZ.trans_ hx2).only (set8_only _ _ _ _ _ _ _ _ _ _) (by omega)
      · by_cases hdv : k = 2 ∧ n.tmod 65536 = 0
        · obtain ⟨rfl, hmod⟩ := hdv
          have e : σ.key ⟨2, x, ac, n, nm, rf, fr, ln⟩ = (⟨1, false, 0, n.tdiv 65536, ByteArray.empty, 0, 0, 0⟩, 0) := by unfold St.key; rw [if_neg (by rw [hV.out]; simp), if_neg (by simp), if_neg (by simp), if_pos ⟨rfl, hmod⟩]
          have hE := Lib.hid e
          clear e k0 k6
          have hm2 : (n.tmod 65536 == 0) = true := by simp [hmod]
          clear hmod
          go_wp2
          refine bodyPost_ret (res_ct rfl rfl (set8_blk hB4z _ _ _ _ _ _ _ _) Try.underlying27 (by kernel_rfl)) rfl ⟨by rw [hE.out]; rfl, ?_⟩
          exact hZ.only (set8_only _ _ _ _ _ _ _ _ _ _) (by omega)
        · have e : σ.key ⟨k, x, ac, n, nm, rf, fr, ln⟩ = (⟨k, false, 0, n, nm, rf, fr, ln⟩, 0) := by unfold St.key; rw [if_neg (by rw [hV.out]; simp), if_neg k0, if_neg k6, if_neg hdv]; rfl
          have hE := Lib.hid e
          have h0 : (k == 0) = false := by simpa using k0
          have h6 : (k == 6) = false := by simpa using k6
          clear e k0 k6
          by_cases k2 : k = 2
          · subst k2
            have hm2 : (n.tmod 65536 == 0) = false := by simpa using hdv
            clear hdv h0 h6
            go_wp2
            refine bodyPost_ret (res_ct rfl rfl (set8_blk hB4z _ _ _ _ _ _ _ _) Try.underlying27 (by kernel_rfl)) rfl ⟨by rw [hE.out]; rfl, ?_⟩
            exact hZ.only (set8_only _ _ _ _ _ _ _ _ _ _) (by omega)
          · have h2 : (k == 2) = false := by simpa using k2
            clear hdv k2
            go_wp2
            refine bodyPost_ret (res_ct rfl rfl (set8_blk hB4z _ _ _ _ _ _ _ _) Try.underlying27 (by kernel_rfl)) rfl ⟨by rw [hE.out]; rfl, ?_⟩
            exact hZ.only (set8_only _ _ _ _ _ _ _ _ _ _) (by omega)
end
end Go.Proofs.Ythhckledkhcfeaa
