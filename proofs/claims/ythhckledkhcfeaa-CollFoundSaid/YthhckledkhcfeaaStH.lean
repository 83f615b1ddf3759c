/- The store's functions, part H: note, Put. -/
import Derived.Test.YthhckledkhcfeaaStG
import Derived.Test.YthhckledkhcfeaaReg
namespace Go.Proofs.Ythhckledkhcfeaa
open Go.RowKit
section
variable {w : World} {p : Nat} {σ : St} {h : Hd} {ρ : Roles}
theorem length_chg (c : Chg) : c.cells.length = 19 := rfl
theorem length_szs (c : Szs) : c.cells.length = 5 := rfl
theorem Sto.nchanges (s : Sto w p σ h ρ) : h.changes.n = σ.changes.length := by have h1 := s.changes.len; rw [length_flat _ 19 length_chg] at h1; omega
theorem Sto.nmarks (s : Sto w p σ h ρ) : h.marks.n = σ.marks.length := by have h1 := s.marks.len; rw [length_flat _ 5 length_szs] at h1; omega
/-- (*Store).note. -/
theorem note_none (s : Sto w p σ h ρ) (c : Chg) (hm : σ.marks = []) :
    Calls Try.prog 62 #[.pointer (some ⟨p, 0, none⟩), .agg c.cells.toArray] w fun e w' => e = .returned (.tuple #[]) ∧ Ext w w' := by
  have hmn : h.marks.n = 0 := by rw [s.nmarks, hm]; rfl
  have hmain := s.main
  rw [hmn] at hmain
  have hps := hmain.lt
  have hc := hmain.cell
  clear hmn hm hmain
  obtain ⟨kind, ref, at_, ⟨kA, xA, aA, nA, mA, rA, fA, lA⟩, ⟨kB, xB, aB, nB, mB, rB, fB, lB⟩⟩ := c
  simp only [Chg.cells, pairCells, Ob.cells, List.cons_append, List.nil_append]
  go_enter Try.func62, Try.ntmps62
  go_wp2
  go_end0
  exact ⟨rfl, (Ext.rfl_ w).alloc_ _⟩
set_option maxHeartbeats 800000 in
theorem note_some (s : Sto w p σ h ρ) (c : Chg) (hm : 0 < σ.marks.length) (hn : σ.changes.length + 1 ≤ 4294967296) :
    Calls Try.prog 62 #[.pointer (some ⟨p, 0, none⟩), .agg c.cells.toArray] w fun e w' => e = .returned (.tuple #[]) ∧ StoTo w w' p ρ { σ with changes := σ.changes ++ [c] } := by
  obtain ⟨iL, hiL, hzL, hsL, hbL⟩ := info_parts info_chg
  have hmn : 0 < h.marks.n := by rw [s.nmarks]; exact hm
  have hmb : h.marks.n ≤ 4294967296 := by rw [s.nmarks]; exact s.ok.nmark
  have hcn : h.changes.n + 1 ≤ 4294967296 := by rw [s.nchanges]; exact hn
  have hps := s.lt
  have hc0 := s.main.cell
  obtain ⟨cs, hcs⟩ : ∃ cs, cs = c.cells := ⟨_, rfl⟩
  have hcl : c.cells.length = 19 := rfl
  obtain ⟨kind, ref, at_, ⟨kA, xA, aA, nA, mA, rA, fA, lA⟩, ⟨kB, xB, aB, nB, mB, rB, fB, lB⟩⟩ := c
  simp only [Chg.cells, pairCells, Ob.cells, List.cons_append, List.nil_append]
  go_enter Try.func62, Try.ntmps62
  go_wp2
  generalize hX : World.alloc w _ = X
  obtain ⟨hx, hcX, hfX, hzX, hbX⟩ := boxed hX
  clear hX
  have s1 := s.ext hx
  have hc := s1.main.cell
  have hpf := s1.main.frozen
  have hps1 := s1.lt
  clear hc0
  have f2 := fun (E : But X (fun b => h.changes.blk = some b)) i => (E.cells hps1 (fun hb => by have := s.rchanges _ hb; rw [s.rmain] at this; cases this) i).trans (hc i)
  clear hcX hfX hc
  refine wp_region_plan (C := fun w' => ∃ E : But X (fun b => h.changes.blk = some b), w' = E.w) [true, true, true, true, true, true, false, false, false, false, false] 7 1 (by kernel_rfl) (by kernel_rfl) (fun c a d v w h => by cases d <;> exact h) (InBut.of (Nat.le_refl _) fun _ _ _ => rfl) ?_
  simp only [pickQ, pickT]
  repeat (go_big_quiet_step (fail))
  go_big_quiet_want
  refine quiet_load_at _ (by rfl) (by rfl) (fun w' hw' => by obtain ⟨E, rfl⟩ := hw'; exact (E.blk hbX (fun hb => by have := s.changes.blk_lt hb; omega)).cells) Try.underlying124 (by kernel_rfl) ?_
  simp only [Act.put, List.setIfInBounds_toArray, List.set_cons_zero, List.set_cons_succ]
  go_big_quiet_on
  refine wpQuiet_nil ?_
  refine wpTail_cons (fun K hK => ?_)
  go_simp
  refine hK _ _ (InBut.of (by simp) fun b hb _ => Below.heap_alloc _ _ _ hb) ?_
  clear hK K
  refine wpTail_zero ?_
  go_wp2_with (
    at_builtin
    refine wpList_app (by rfl) _ _ _ (by rfl) 124 iL _ 19 168 Try.underlying113 hiL hzL hsL hbL rfl (by omega) h.changes (by rfl) (s1.changes.alloc _).drew (by rfl) (View.of_blk (n := 1) (Blk.new X _ _).drew rfl) ?_ ?_ ?_ ?_
    · intro u hu
      simp only [List.mem_cons, List.mem_nil_iff, or_false] at hu
      rcases hu with rfl | rfl | rfl | rfl | rfl | rfl | rfl | rfl | rfl | rfl | rfl | rfl | rfl | rfl | rfl | rfl | rfl | rfl | rfl <;> rfl
    · simp only [maxLen]; omega
    · omega
    intro v' w1 hrow hlen hgrow hat
    obtain ⟨hg1, hg2, hg3, hg4, hg5, hg6, hg7⟩ := s1.hdr_app (H := X.heap.size + 1) s1.rchanges (by simp) (((Ext.rfl_ X).alloc_ _).drew_) hgrow (by rcases hat with hat | hat; exact .inl hat; exact .inr (by rw [hat]; simp)) (by omega) hrow 4 (.slice v'.a v'.n v'.c) s1.main
    have k0 := hg1.cell
    have k1 := hg1.frozen)
  go_end0
  obtain ⟨ρ', hs', hr'⟩ := s1.addChange (c := ⟨kind, ref, at_, ⟨⟨kA, xA, aA, nA, mA, rA, fA, lA⟩, ⟨kB, xB, aB, nB, mB, rB, fB, lB⟩⟩⟩) hg6 hg4 hg5 hg2 (by rw [List.flatMap_append]; exact hg3) hn
  exact ⟨rfl, _, ρ', hs', Moves.ext_left hx (hg7 _ hr')⟩
def St.noted (σ : St) (c : Chg) : St := if σ.marks.length = 0 then σ else { σ with changes := σ.changes ++ [c] }
theorem noted_lists (σ : St) (c : Chg) : (σ.noted c).lists = σ.lists := by unfold St.noted; split <;> rfl
theorem note_c (s : Sto w p σ h ρ) (c : Chg) (hn : σ.changes.length + 1 ≤ 4294967296) :
    Calls Try.prog 62 #[.pointer (some ⟨p, 0, none⟩), .agg c.cells.toArray] w fun e w' => e = .returned (.tuple #[]) ∧ StoTo w w' p ρ (σ.noted c) := by
  unfold St.noted
  by_cases h0 : σ.marks.length = 0
  · rw [if_pos h0]
    exact (note_none s c (List.eq_nil_of_length_eq_zero h0)).mono fun e w' ⟨he, hx⟩ => ⟨he, s.to_ext hx⟩
  · rw [if_neg h0]
    exact note_some s c (by omega) hn
/-- (*Store).Put. -/
theorem put_ok (s : Sto w p σ h ρ) (x : Bool) (ac n : Int) (nm : ByteArray) (r f m i : Nat) (b : List Ob) (o : Ob) (hb : σ.lists[r]? = some b) (hfm : f + m ≤ b.length) (hi : i < m) (ho : b[f + i]? = some o)
    (k' : Int) (x' : Bool) (ac' n' : Int) (nm' : ByteArray) (rf' fr' ln' : Int) (hv : σ.valid ⟨k', x', ac', n', nm', rf', fr', ln'⟩ = true) (hn : σ.changes.length + 1 ≤ 4294967296) :
    Calls Try.prog 16 #[.pointer (some ⟨p, 0, none⟩), .agg #[.int .i64 7, .bool x, .int .i64 ac, .int .i64 n, .string nm, .int .i64 r, .int .i64 f, .int .i64 m], .int .i64 i,
        .agg #[.int .i64 k', .bool x', .int .i64 ac', .int .i64 n', .string nm', .int .i64 rf', .int .i64 fr', .int .i64 ln']] w fun e w' =>
      e = .returned (.int .i64 0) ∧ StoTo w w' p ρ { σ.noted ⟨0, r, f + i, (Ob.null, o)⟩ with lists := σ.lists.set r (b.set (f + i) ⟨k', x', ac', n', nm', rf', fr', ln'⟩) } := by
  have hr := getElem?_lt hb
  obtain ⟨t, ht⟩ : ∃ t, h.ls[r]? = some t := ⟨_, List.getElem?_eq_getElem (by have := s.nls; omega)⟩
  have hlen : b.length ≤ 65535 := s.ok.list b (List.mem_of_getElem? hb)
  have hrl : r < 1048576 := by have := s.ok.room; have := s.ok.free0; omega
  have htn : t.n = b.length := by have := (s.ls r t b ht hb).1.len; rw [length_obCells] at this; omega
  obtain ⟨g, hg1, hg2, hg3, hg4⟩ := (s.ls r t b ht hb).1.cutA_ (f := f) (by omega)
  have hHb := Lib.hid hb
  have hHt := Lib.hid ht
  have hHg := Lib.hid hg3
  have hHo := Lib.hid ho
  clear hb ht htn hg3 ho
  go_enter Try.func16, Try.ntmps16
  go_upto_region 5 with (first
    | (go_at_call 61; refine (is_b (b := true) (s.ext (((Ext.rfl_ w).alloc_ _).alloc_ _)) _ _ _ _ _ _ _ _ _ (isA_arr hHb.out hfm)).mono ?_; rintro e w1 ⟨rfl, hx1⟩; have hb5 := ((Blk.new w 27 [.int .i64 7, .bool x, .int .i64 ac, .int .i64 n, .string nm, .int .i64 r, .int .i64 f, .int .i64 m]).alloc (.cells #[.int .i64 k', .bool x', .int .i64 ac', .int .i64 n', .string nm', .int .i64 rf', .int .i64 fr', .int .i64 ln'] 27)).ext hx1; have hb7 := (Blk.new1 w (.cells #[.int .i64 7, .bool x, .int .i64 ac, .int .i64 n, .string nm, .int .i64 r, .int .i64 f, .int .i64 m] 27) 27 [.int .i64 k', .bool x', .int .i64 ac', .int .i64 n', .string nm', .int .i64 rf', .int .i64 fr', .int .i64 ln']).ext hx1; have hc5 := hb5.cell; have hc7 := hb7.cell)
    | (go_at_call 46; refine (valid_b (b := true) (s.ext ((((Ext.rfl_ w).alloc_ _).alloc_ _).trans_ hx1)) _ _ _ _ _ _ _ _ hv).mono ?_; rintro e w2 ⟨rfl, hx2⟩; have hc5' := (hb5.ext hx2).cell; have hc7' := (hb7.ext hx2).cell))
  have hx : Ext w w2 := ((((Ext.rfl_ w).alloc_ _).alloc_ _).trans_ hx1).trans_ hx2
  have hB5 := hb5.ext hx2
  have hB7 := hb7.ext hx2
  have s2 := s.ext hx
  clear hc5 hc7 hc5' hc7' hb5 hb7 hx1 hx2
  have f5 := fun (E : ExtOf w2) i => (E.cells hB5.lt i).trans (hB5.cell i)
  have fo : ∀ (E : ExtOf w2), E.w.cell? ⟨g, f * 8 + i * 8, none⟩ = some (.int .i64 o.k) ∧ E.w.cell? ⟨g, f * 8 + i * 8 + 1, none⟩ = some (.bool o.x) ∧ E.w.cell? ⟨g, f * 8 + i * 8 + 2, none⟩ = some (.int .i64 o.ac) ∧ E.w.cell? ⟨g, f * 8 + i * 8 + 3, none⟩ = some (.int .i64 o.n) ∧
      E.w.cell? ⟨g, f * 8 + i * 8 + 4, none⟩ = some (.string o.nm) ∧ E.w.cell? ⟨g, f * 8 + i * 8 + 5, none⟩ = some (.int .i64 o.rf) ∧ E.w.cell? ⟨g, f * 8 + i * 8 + 6, none⟩ = some (.int .i64 o.fr) ∧ E.w.cell? ⟨g, f * 8 + i * 8 + 7, none⟩ = some (.int .i64 o.ln) :=
    fun E => ((s.ls r t b hHt.out hHb.out).1.ext (hx.trans_ E.h)).ob (off := f * 8 + i * 8) hg2 hHo.out (by omega)
  have hl : ∀ (W : World) (h' : Hd) (ρ' : Roles) (σ' : St) (s' : Sto W p σ' h' ρ') (t' : Sl) (b' : List Ob) (_ : h'.ls[r]? = some t') (_ : σ'.lists[r]? = some b') (_ : f + m ≤ b'.length) (g' : Nat) (_ : cutA t'.a t'.c f 8 = some ⟨g', f * 8, none⟩),
      Calls Try.prog 63 #[.pointer (some ⟨p, 0, none⟩), .agg #[.int .i64 7, .bool x, .int .i64 ac, .int .i64 n, .string nm, .int .i64 r, .int .i64 f, .int .i64 m]] W fun e w' => e = .returned (.slice (some ⟨g', f * 8, none⟩) m (t'.c - f)) ∧ Ext W w' := by
    intro W h' ρ' σ' s' t' b' h1 h2 h3 g' h4
    have := list_c s' 7 x ac n nm r f m t' b' h1 h2 h3
    rw [h4] at this
    exact this
  have hl1 := Lib.hid hl
  clear hl
  refine wp_region_ext_tail 15 (by kernel_rfl) (by kernel_rfl) ?_
  simp only [List.take_succ_cons, List.take_zero, List.drop_succ_cons, List.drop_zero]
  repeat (go_big_quiet_step ((go_at_call 63; exact quiet_ext (hl1.out _ _ _ _ (s2.ext (ExtOf.h _)) t b hHt.out hHb.out hfm g hHg.out))))
  refine wpQuiet_nil fun E => ?_
  go_upto_region 6 with (
    go_at_call 62
    refine (note_c (s2.ext E.h) ⟨0, r, f + i, (Ob.null, o)⟩ hn).mono ?_
    rintro e w3 ⟨rfl, h3, ρ3, s3, hm3⟩)
  have hxE : Ext w E.w := hx.trans_ E.h
  have hn5 : ¬ ρ.own w.heap.size := Roles.not_own (s.fresh (Nat.le_refl _))
  have hn7 : ¬ ρ.own (w.heap.size + 1) := Roles.not_own (s.fresh (by omega))
  have hB5' := (hB5.ext E.h).moves hm3 hn5
  have hB7' := (hB7.ext E.h).moves hm3 hn7
  have hL3 : (σ.noted ⟨0, r, f + i, (Ob.null, o)⟩).lists[r]? = some b := by rw [noted_lists]; exact hHb.out
  obtain ⟨t3, ht3⟩ : ∃ t3, h3.ls[r]? = some t3 := ⟨_, List.getElem?_eq_getElem (by have := s3.nls; rw [noted_lists] at this; omega)⟩
  have htn3 : t3.n = b.length := by have := (s3.ls r t3 b ht3 hL3).1.len; rw [length_obCells] at this; omega
  obtain ⟨g3, hg31, hg32, hg33, hg34⟩ := (s3.ls r t3 b ht3 hL3).1.cutA_ (f := f) (by omega)
  have hHL3 := Lib.hid hL3
  have hHt3 := Lib.hid ht3
  have hHg33 := Lib.hid hg33
  have hHn3 := Lib.hid htn3
  have hcap3 := (s3.ls r t3 b ht3 hL3).1.cap_le
  clear hL3 ht3 hg33 htn3 f5 fo
  have f5 := fun (E : ExtOf w3) i => (E.cells hB5'.lt i).trans (hB5'.cell i)
  have f7 := fun (E : ExtOf w3) i => (E.cells hB7'.lt i).trans (hB7'.cell i)
  refine wp_region_ext_tail 6 (by kernel_rfl) (by kernel_rfl) ?_
  simp only [List.take_succ_cons, List.take_zero, List.drop_succ_cons, List.drop_zero]
  repeat (go_big_quiet_step ((go_at_call 63; exact quiet_ext (hl1.out _ _ _ _ (s3.ext (ExtOf.h _)) t3 b hHt3.out hHL3.out hfm g3 hHg33.out))))
  refine wpQuiet_nil fun E3 => ?_
  have hrow3 := (s3.ls r t3 b hHt3.out hHL3.out).1.ext E3.h
  obtain ⟨c0, c1, c2, c3, c4, c5, c6, c7⟩ := hrow3.ob (off := f * 8 + i * 8) hg32 hHo.out (by omega)
  have hfr := fun j => hrow3.frozen hg32 j
  go_wp2
  go_ret
  refine ⟨rfl, ?_⟩
  have ho := setO_only E3.w g3 (f * 8 + i * 8) (.int .i64 k') (.bool x') (.int .i64 ac') (.int .i64 n') (.string nm') (.int .i64 rf') (.int .i64 fr') (.int .i64 ln')
  have hw := hrow3.set_ob (q := f + i) (off := f * 8 + i * 8) ⟨k', x', ac', n', nm', rf', fr', ln'⟩ hg32 (by omega) (by omega)
  have s4 := (s3.ext E3.h).setList (b' := b.set (f + i) ⟨k', x', ac', n', nm', rf', fr', ln'⟩) hHt3.out hHL3.out (by simp) hw (fun c hc hne => ho.block c (by rintro rfl; exact hne hg31)) (Nat.le_of_eq ho.size.symm)
  rw [noted_lists] at s4
  refine ⟨h3, ρ3, s4, ?_⟩
  exact (Moves.ext_left hxE (hm3.ext_right E3.h)).only ho (by
    have := (s3.ls r t3 b hHt3.out hHL3.out).2 g3 hg31
    rcases hm3.foot g3 (by unfold Roles.own; rw [this]; simp) with h | h
    · exact .inr h
    · exact .inl (Nat.le_trans hxE.size h))
end
end Go.Proofs.Ythhckledkhcfeaa
