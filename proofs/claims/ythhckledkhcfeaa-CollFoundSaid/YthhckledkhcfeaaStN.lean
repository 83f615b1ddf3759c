/- The store's functions, part N: note once more (the headers that it leaves); Access, Lock. -/
import Derived.Test.YthhckledkhcfeaaStM
namespace Go.Proofs.Ythhckledkhcfeaa
open Go.RowKit
/-- Only the list of changes has another header. -/
def StoChg (w w' : World) (p : Nat) (ρ : Roles) (σ' : St) (h : Hd) : Prop := ∃ v ρ', Sto w' p σ' { h with changes := v } ρ' ∧ Moves w w' ρ.own ρ'.own
section
variable {w : World} {p : Nat} {σ : St} {h : Hd} {ρ : Roles}
theorem noted_dicts (σ : St) (c : Chg) : (σ.noted c).dicts = σ.dicts := by unfold St.noted; split <;> rfl
theorem noted_texts (σ : St) (c : Chg) : (σ.noted c).texts = σ.texts := by unfold St.noted; split <;> rfl
theorem noted_marks (σ : St) (c : Chg) : (σ.noted c).marks = σ.marks := by unfold St.noted; split <;> rfl
theorem noted_free (σ : St) (c : Chg) : (σ.noted c).free = σ.free := by unfold St.noted; split <;> rfl
set_option maxHeartbeats 800000 in
theorem note_some_h (s : Sto w p σ h ρ) (c : Chg) (hm : 0 < σ.marks.length) (hn : σ.changes.length + 1 ≤ 4294967296) :
    Calls Try.prog 62 #[.pointer (some ⟨p, 0, none⟩), .agg c.cells.toArray] w fun e w' => e = .returned (.tuple #[]) ∧ StoChg w w' p ρ { σ with changes := σ.changes ++ [c] } h := by
  obtain ⟨iL, hiL, hzL, hsL, hbL⟩ := info_parts info_chg
  have hmn : 0 < h.marks.n := by rw [s.nmarks]; exact hm
  have hmb : h.marks.n ≤ 4294967296 := by rw [s.nmarks]; exact s.ok.nmark
  have hcn : h.changes.n + 1 ≤ 4294967296 := by rw [s.nchanges]; exact hn
  have hps := s.lt
  have hc0 := s.main.cell
  obtain ⟨cs, hcs⟩ : ∃ cs, cs = c.cells := ⟨_, rfl⟩
  have hcl : c.cells.length = 19 := rfl
  obtain ⟨kind, ref, at_, ⟨kA, xA, aA, nA, mA, rA, fA, lA⟩, ⟨kB, xB, aB, nB, mB, rB, fB, lB⟩⟩ := c
  simp only [Chg.cells, pairCells, Ob.cells, List.cons_append, List.nil_append]
  go_enter Try.func62, Try.ntmps62
  go_wp2
  generalize hX : World.alloc w _ = X
  obtain ⟨hx, hcX, hfX, hzX, hbX⟩ := boxed hX
  clear hX
  have s1 := s.ext hx
  have hc := s1.main.cell
  have hpf := s1.main.frozen
  have hps1 := s1.lt
  clear hc0
  have f2 := fun (E : But X (fun b => h.changes.blk = some b)) i => (E.cells hps1 (fun hb => by have := s.rchanges _ hb; rw [s.rmain] at this; cases this) i).trans (hc i)
  clear hcX hfX hc
  refine wp_region_plan (C := fun w' => ∃ E : But X (fun b => h.changes.blk = some b), w' = E.w) [true, true, true, true, true, true, false, false, false, false, false] 7 1 (by kernel_rfl) (by kernel_rfl) (fun c a d v w h => by cases d <;> exact h) (InBut.of (Nat.le_refl _) fun _ _ _ => rfl) ?_
  simp only [pickQ, pickT]
  repeat (go_big_quiet_step (fail))
  go_big_quiet_want
  refine quiet_load_at _ (by rfl) (by rfl) (fun w' hw' => by obtain ⟨E, rfl⟩ := hw'; exact (E.blk hbX (fun hb => by have := s.changes.blk_lt hb; omega)).cells) Try.underlying124 (by kernel_rfl) ?_
  simp only [Act.put, List.setIfInBounds_toArray, List.set_cons_zero, List.set_cons_succ]
  go_big_quiet_on
  refine wpQuiet_nil ?_
  refine wpTail_cons (fun K hK => ?_)
  go_simp
  refine hK _ _ (InBut.of (by simp) fun b hb _ => Below.heap_alloc _ _ _ hb) ?_
  clear hK K
  refine wpTail_zero ?_
  go_wp2_with (
    at_builtin
    refine wpList_app (by rfl) _ _ _ (by rfl) 124 iL _ 19 168 Try.underlying113 hiL hzL hsL hbL rfl (by omega) h.changes (by rfl) (s1.changes.alloc _).drew (by rfl) (View.of_blk (n := 1) (Blk.new X _ _).drew rfl) ?_ ?_ ?_ ?_
    · intro u hu
      simp only [List.mem_cons, List.mem_nil_iff, or_false] at hu
      rcases hu with rfl | rfl | rfl | rfl | rfl | rfl | rfl | rfl | rfl | rfl | rfl | rfl | rfl | rfl | rfl | rfl | rfl | rfl | rfl <;> rfl
    · simp only [maxLen]; omega
    · omega
    intro v' w1 hrow hlen hgrow hat
    obtain ⟨hg1, hg2, hg3, hg4, hg5, hg6, hg7⟩ := s1.hdr_app (H := X.heap.size + 1) s1.rchanges (by simp) (((Ext.rfl_ X).alloc_ _).drew_) hgrow (by rcases hat with hat | hat; exact .inl hat; exact .inr (by rw [hat]; simp)) (by omega) hrow 4 (.slice v'.a v'.n v'.c) s1.main
    have k0 := hg1.cell
    have k1 := hg1.frozen)
  go_end0
  obtain ⟨ρ', hs', hr'⟩ := s1.addChange (c := ⟨kind, ref, at_, ⟨⟨kA, xA, aA, nA, mA, rA, fA, lA⟩, ⟨kB, xB, aB, nB, mB, rB, fB, lB⟩⟩⟩) hg6 hg4 hg5 hg2 (by rw [List.flatMap_append]; exact hg3) hn
  exact ⟨rfl, _, ρ', hs', Moves.ext_left hx (hg7 _ hr')⟩
theorem note_h (s : Sto w p σ h ρ) (c : Chg) (hn : σ.changes.length + 1 ≤ 4294967296) :
    Calls Try.prog 62 #[.pointer (some ⟨p, 0, none⟩), .agg c.cells.toArray] w fun e w' => e = .returned (.tuple #[]) ∧ StoChg w w' p ρ (σ.noted c) h := by
  unfold St.noted
  by_cases h0 : σ.marks.length = 0
  · rw [if_pos h0]
    exact (note_none s c (List.eq_nil_of_length_eq_zero h0)).mono fun e w' ⟨he, hx⟩ => ⟨he, h.changes, ρ, s.ext hx, Moves.of_ext hx _⟩
  · rw [if_neg h0]
    exact note_some_h s c (by omega) hn
theorem access_ok (s : Sto w p σ h ρ) (x : Bool) (ac n : Int) (nm : ByteArray) (r : Nat) (fr ln : Int) {D : Dc} (hD : σ.dicts[r]? = some D) :
    Calls Try.prog 56 #[.pointer (some ⟨p, 0, none⟩), .agg #[.int .i64 8, .bool x, .int .i64 ac, .int .i64 n, .string nm, .int .i64 r, .int .i64 fr, .int .i64 ln]] w fun e w' => e = .returned (.int .i64 D.access) ∧ Ext w w' := by
  have hrl := getElem?_lt hD
  have hrl2 : r < 1048576 := by have := s.ok.room; have := s.ok.free0; omega
  obtain ⟨g, d, D', ha, hds, hD', hcell, hblk, hrow, hro1, hro2, hglt, hdn, hok1, hok2⟩ := s.dict_at hrl
  rw [hD] at hD'
  injection hD' with hD'
  subst hD'
  have hmain := s.main
  rw [ha] at hmain
  have hrn : r < h.dicts.n := by rw [s.ndicts]; exact hrl
  have hHD := Lib.hid hD
  clear hD hds ha hdn hok1 hok2
  go_enter Try.func56, Try.ntmps56
  go_upto_region 1 with fail
  generalize hX : World.alloc w _ = X
  obtain ⟨hx, hcX, hfX, hzX, hbX⟩ := boxed hX
  clear hX hfX
  go_upto_region 3 with (go_at_call 61; refine (is_b (b := true) (s.ext hx) _ _ _ _ _ _ _ _ _ (isA_dict hrl)).mono ?_; rintro e w1 ⟨rfl, hx1⟩)
  clear hcX
  have hxx := hx.trans_ hx1
  have y1 := fun (E : ExtOf w1) i => (E.cells (hmain.ext hxx).lt i).trans ((hmain.ext hxx).cell i)
  have y2 := fun (E : ExtOf w1) i => (E.cells (hbX.ext hx1).lt i).trans ((hbX.ext hx1).cell i)
  have y3 : ∀ (E : ExtOf w1), E.w.cell? ⟨g, r, none⟩ = some (.pointer (some ⟨d.1, 0, none⟩)) := fun E => ((hxx.trans_ E.h).cells hglt r).trans hcell
  have y4 := fun (E : ExtOf w1) i => (E.cells (hblk.ext hxx).lt i).trans ((hblk.ext hxx).cell i)
  clear hcell
  refine wp_region_ext (by kernel_rfl) (by kernel_rfl) ?_
  repeat (go_big_quiet_step (fail))
  refine wpQuiet_nil fun E => ?_
  go_wp2
  go_ret
  exact ⟨rfl, hxx.trans_ E.h⟩
set_option maxHeartbeats 800000 in
/-- (*Store).Lock. -/
theorem lock_ok (s : Sto w p σ h ρ) (x : Bool) (ac n : Int) (nm : ByteArray) (r : Nat) (fr ln : Int) {D : Dc} (hD : σ.dicts[r]? = some D) (q : Int) (hq0 : 0 ≤ q) (hq3 : q ≤ 3) (hn : σ.changes.length + 1 ≤ 4294967296) :
    Calls Try.prog 41 #[.pointer (some ⟨p, 0, none⟩), .agg #[.int .i64 8, .bool x, .int .i64 ac, .int .i64 n, .string nm, .int .i64 r, .int .i64 fr, .int .i64 ln], .int .i64 q] w fun e w' => e = .returned (.int .i64 0) ∧
      StoTo w w' p ρ { σ.noted ⟨4, r, D.access, (Ob.null, Ob.null)⟩ with dicts := σ.dicts.set r { D with access := q } } := by
  have hrl := getElem?_lt hD
  have hrl2 : r < 1048576 := by have := s.ok.room; have := s.ok.free0; omega
  obtain ⟨g, d, D', ha, hds, hD', hcell, hblk, hrow, hro1, hro2, hglt, hdn, hok1, hok2⟩ := s.dict_at hrl
  rw [hD] at hD'
  injection hD' with hD'
  subst hD'
  have hmain := s.main
  rw [ha] at hmain
  have hrn : r < h.dicts.n := by rw [s.ndicts]; exact hrl
  have hHD := Lib.hid hD
  have hHs := Lib.hid hds
  clear hD hds ha hdn
  go_enter Try.func41, Try.ntmps41
  go_upto_region 1 with fail
  generalize hX : World.alloc w _ = X
  obtain ⟨hx, hcX, hfX, hzX, hbX⟩ := boxed hX
  clear hX hfX
  go_upto_region 3 with (go_at_call 61; refine (is_b (b := true) (s.ext hx) _ _ _ _ _ _ _ _ _ (isA_dict hrl)).mono ?_; rintro e w1 ⟨rfl, hx1⟩)
  clear hcX
  have hxx := hx.trans_ hx1
  have y1 := fun (E : ExtOf w1) i => (E.cells (hmain.ext hxx).lt i).trans ((hmain.ext hxx).cell i)
  have y2 := fun (E : ExtOf w1) i => (E.cells (hbX.ext hx1).lt i).trans ((hbX.ext hx1).cell i)
  have y3 : ∀ (E : ExtOf w1), E.w.cell? ⟨g, r, none⟩ = some (.pointer (some ⟨d.1, 0, none⟩)) := fun E => ((hxx.trans_ E.h).cells hglt r).trans hcell
  clear hcell
  refine wp_region_ext (by kernel_rfl) (by kernel_rfl) ?_
  repeat (go_big_quiet_step (fail))
  refine wpQuiet_nil fun E => ?_
  clear y1 y2 y3
  have hx2 := hxx.trans_ E.h
  have y2 := fun (F : ExtOf E.w) i => (F.cells ((hbX.ext hx1).ext E.h).lt i).trans (((hbX.ext hx1).ext E.h).cell i)
  have y4 := fun (F : ExtOf E.w) i => (F.cells (hblk.ext hx2).lt i).trans ((hblk.ext hx2).cell i)
  go_upto_region 4 with fail
  refine wp_region_ext_tail 8 (by kernel_rfl) (by kernel_rfl) ?_
  simp only [List.take_succ_cons, List.take_zero, List.drop_succ_cons, List.drop_zero]
  repeat (go_big_quiet_step (fail))
  refine wpQuiet_nil fun F => ?_
  clear y2 y4
  go_upto_region 5 with (
    go_at_call 62
    refine (note_h (s.ext (hx2.trans_ F.h)) ⟨4, r, D.access, (Ob.null, Ob.null)⟩ hn).mono ?_
    rintro e w3 ⟨rfl, v3, ρ3, s3, hm3⟩)
  have hD3 : (σ.noted ⟨4, r, D.access, (Ob.null, Ob.null)⟩).dicts[r]? = some D := by rw [noted_dicts]; exact hHD.out
  obtain ⟨hblk3, hro3, hrow3, hon3⟩ := s3.ds r d D hHs.out hD3
  have hc3 := hblk3.cell
  have hf3 := hblk3.frozen
  go_wp2
  go_ret
  refine ⟨rfl, ?_⟩
  have hne : d.2.blk ≠ some d.1 := fun e => by have := hon3 _ e; rw [hro3] at this; cases this
  obtain ⟨ρ4, s4, h4⟩ := s3.setDict (w' := w3.setCell ⟨d.1, 1, none⟩ (.int .i64 q)) (x' := { D with access := q }) hHs.out hD3 d.2 (hblk3.set_ 1 _) (hrow3.far hne _) (.inl rfl) (fun b _ hb _ => Below.heap_setCell _ _ _ _ hb) (by simp) ⟨hok1, hok2⟩
  rw [noted_dicts] at s4
  refine ⟨_, ρ4, s4, ?_⟩
  have hm4 : Moves w3 (w3.setCell ⟨d.1, 1, none⟩ (.int .i64 q)) ρ3.own ρ4.own := ⟨rfl, rfl, rfl, by simp, fun b _ hn => Below.heap_setCell _ _ _ _ (by rintro rfl; exact hn (by unfold Roles.own; rw [hro3]; simp)), h4⟩
  exact Moves.ext_left (hx2.trans_ F.h) (hm3.trans_ hm4)
end
end Go.Proofs.Ythhckledkhcfeaa
