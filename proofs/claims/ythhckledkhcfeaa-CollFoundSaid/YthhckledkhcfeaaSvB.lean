/- The saves: Save. -/
import Derived.Test.YthhckledkhcfeaaSvA
namespace Go.Proofs.Ythhckledkhcfeaa
open Go.RowKit
theorem fld_app {w X w1 : World} {v : Nat} {v0 v' : Sl} {T : TypeId} {cs : List Value} (hv : Blk w v T cs) (hv0 : v0.blk ≠ some v) (hX : Ext w X) (hgrow : X.grownBy w1 v0.blk) {H : Nat} (hat : v'.blk = v0.blk ∨ v'.blk = some H) (hH : w.heap.size ≤ H)
    {e : TypeId} {sz : Nat} {ys : List Value} (hrow : Row w1 e sz v' ys) (i : Nat) (u : Value) :
    Blk w1 v T cs ∧ Blk (w1.setCell ⟨v, i, none⟩ u) v T (cs.set i u) ∧ Row (w1.setCell ⟨v, i, none⟩ u) e sz v' ys ∧ v'.blk ≠ some v ∧
      Moves w (w1.setCell ⟨v, i, none⟩ u) (fun b => b = v ∨ v0.blk = some b) (fun b => b = v ∨ v'.blk = some b) := by
  have hlt := hv.lt
  have hw1 : ∀ b, b < w.heap.size → v0.blk ≠ some b → w1.heap[b]? = w.heap[b]? := fun b hb hn => (hgrow.block b (Nat.lt_of_lt_of_le hb hX.size) (fun e => hn e.symm)).trans (hX.at_ hb)
  have hsize : w.heap.size ≤ w1.heap.size := Nat.le_trans hX.size hgrow.size
  have hgp : v'.blk ≠ some v := by
    rcases hat with h1 | h1
    · rw [h1]; exact hv0
    · rw [h1]; intro e; injection e with e; omega
  refine ⟨hv.keep (hw1 v hlt hv0), (hv.keep (hw1 v hlt hv0)).set_ i u, hrow.far hgp u, hgp, ?_⟩
  refine ⟨hgrow.os.trans hX.os, hgrow.tape.trans hX.tape, hgrow.output.trans hX.output, by simpa using hsize, fun b hb hn => ?_, fun b hb => ?_⟩
  · exact (Below.heap_setCell _ _ _ _ (fun e => hn (.inl e))).trans (hw1 b hb (fun e => hn (.inr e)))
  · rcases hb with hb | hb
    · exact .inl (.inl hb)
    · rcases hat with h1 | h1
      · exact .inl (.inr (by rw [← h1]; exact hb))
      · rw [h1] at hb; injection hb with hb; exact .inr (by omega)
def svOwn (v : Nat) (t : Sl) (ρ : Roles) (b : Nat) : Prop := ρ.own b ∨ b = v ∨ t.blk = some b
structure Sv (w : World) (v p : Nat) (σ : St) (h : Hd) (ρ : Roles) (t : Sl) (l : List (Int × Int)) (last : Int) : Prop where
  sto : Sto w p σ h ρ
  sav : Sav w v p t l last
  nv : ρ v = none
  nt : ∀ g, t.blk = some g → ρ g = none
  vt : t.blk ≠ some v
theorem Moves.frame {w w' : World} {F F' G G' : Nat → Prop} (h : Moves w w' F F') (hF : ∀ b, F b → G b) (hG : ∀ b, G' b → F' b ∨ G b ∨ w.heap.size ≤ b) : Moves w w' G G' :=
  ⟨h.os, h.tape, h.output, h.size, fun b hb hn => h.block b hb (fun hf => hn (hF b hf)), fun b hb => by
    rcases hG b hb with h1 | h1
    · rcases h.foot b h1 with h2 | h2
      · exact .inl (hF b h2)
      · exact .inr h2
    · exact h1⟩
theorem info_state : (Try.prog.info? 130).map (fun i => (i.zero, i.size, i.bytes)) = some (some (.agg #[.int .i64 0, .int .i64 0]), 2, 16) := by kernel_rfl
section
variable {w w' : World} {v p : Nat} {σ : St} {h : Hd} {ρ : Roles} {t : Sl} {l : List (Int × Int)} {last : Int}
theorem Sv.ext (s : Sv w v p σ h ρ t l last) (hx : Ext w w') : Sv w' v p σ h ρ t l last := ⟨s.sto.ext hx, s.sav.ext hx, s.nv, s.nt, s.vt⟩
def SvTo (w w' : World) (v p : Nat) (F : Nat → Prop) (σ' : St) (l' : List (Int × Int)) (last' : Int) : Prop :=
  ∃ h' ρ' t', Sv w' v p σ' h' ρ' t' l' last' ∧ Moves w w' F (svOwn v t' ρ')
set_option maxRecDepth 100000 in
set_option maxHeartbeats 1000000 in
theorem save_ok (s : Sv w v p σ h ρ t l last) (hl : l.length < 15) (hn : σ.marks.length + 1 ≤ 4294967296) (hlast : 0 ≤ last ∧ last ≤ 4294967296) :
    Calls Try.prog 19 #[.pointer (some ⟨v, 0, none⟩)] w fun e w' => e = .returned (.tuple #[.agg #[.int .i64 10, .bool false, .int .i64 0, .int .i64 (last + 1), .string ByteArray.empty, .int .i64 0, .int .i64 0, .int .i64 0], .int .i64 0]) ∧
      SvTo w w' v p (svOwn v t ρ) { σ with marks := σ.marks ++ [σ.sizes] } (l ++ [(last + 1, (σ.marks.length : Int) + 1)]) (last + 1) := by
  obtain ⟨iL, hiL, hzL, hsL, hbL⟩ := info_parts info_state
  have htn : t.n < 15 := by rw [s.sav.n]; exact hl
  have hvlt := s.sav.blk.lt
  go_enter Try.func19, Try.ntmps19
  go_upto_region 1 with fail
  generalize hX : World.alloc w _ = X
  obtain ⟨hx, hcX, hfX, hzX, hbX⟩ := boxed hX
  clear hX hcX hfX
  have s1 := s.ext hx
  have hc := s1.sav.blk.cell
  have hf := s1.sav.blk.frozen
  have hvlt1 := s1.sav.blk.lt
  go_upto_region 6 with (go_at_call 65; refine (none_c s1.sav).mono ?_; rintro e w1 ⟨rfl, rfl⟩)
  clear hc hf
  have hB1 := s1.sav.blk.set_ 2 (.int .i64 (last + 1))
  have hR1 := s1.sav.row.far (p := ⟨v, 2, none⟩) s1.vt (.int .i64 (last + 1))
  have hS1 := s1.sto.only ((Only.refl_ X v).set_ 2 (.int .i64 (last + 1))) s.nv
  have hbY := hbX.far (p := ⟨v, 2, none⟩) (by show w.heap.size ≠ v; omega) (.int .i64 (last + 1))
  have hm1 : Moves w (X.setCell ⟨v, 2, none⟩ (.int .i64 (last + 1))) (svOwn v t ρ) (svOwn v t ρ) := Moves.ext_left hx (Moves.set_ (.inr (.inl rfl)) _)
  have hzY : w.heap.size < (X.setCell ⟨v, 2, none⟩ (.int .i64 (last + 1))).heap.size := by simpa using hzX
  have hvY : v < (X.setCell ⟨v, 2, none⟩ (.int .i64 (last + 1))).heap.size := by simpa using hvlt1
  generalize hY : X.setCell ⟨v, 2, none⟩ (.int .i64 (last + 1)) = Y at hB1 hR1 hS1 hbY hm1 hzY hvY
  clear hY
  have hc := hB1.cell
  have f2 := fun (E : But Y ρ.own) i => (E.cells hvY (Roles.not_own s.nv) i).trans (hc i)
  clear hc
  refine wp_region_plan (C := fun w' => ∃ E : But Y ρ.own, w' = E.w) [true, true, true, true, true, true, true, true, true, true, true, true, true, false, false, false, false, false, false, false] 16 3 (by kernel_rfl) (by kernel_rfl) (fun c a d v w h => by cases d <;> exact h) (InBut.of (Nat.le_refl _) fun _ _ _ => rfl) ?_
  simp only [pickQ, pickT]
  repeat (go_big_quiet_step (fail))
  refine wpQuiet_nil ?_
  refine wpTail_cons (fun K hK => ?_)
  go_simp
  go_wp2_with (go_at_call 66; refine (mark_c (w := Y.drew) (hS1.ext (Ext.rfl_ Y).drew_) hn).mono ?_; rintro e w2 ⟨rfl, h2, ρ2, s2, hm2⟩)
  refine hK _ _ (InBut.of hm2.size hm2.block) ?_
  clear hK K
  refine wpTail_cons (fun K hK => ?_)
  go_simp
  refine hK _ _ (InBut.of hm2.size hm2.block) ?_
  clear hK K
  refine wpTail_cons (fun K hK => ?_)
  go_simp
  refine hK _ _ (InBut.of (Nat.le_trans hm2.size (by simp)) (fun b hb hn => (Below.heap_alloc _ _ _ (Nat.lt_of_lt_of_le hb hm2.size)).trans (hm2.block b hb hn))) ?_
  clear hK K
  refine wpTail_zero ?_
  have hvn : ¬ ρ.own v := Roles.not_own s.nv
  have htn' : ∀ g, t.blk = some g → ¬ ρ.own g := fun g hg => Roles.not_own (s.nt g hg)
  have hB2 := hB1.keep (hm2.block v hvY hvn)
  have hR2 := hR1.keep (w' := w2) fun g hg => hm2.block g (hR1.blk_lt hg) (htn' g hg)
  have hb2 := hbY.keep (hm2.block w.heap.size hzY (Roles.not_own (s.sto.fresh (Nat.le_refl _))))
  have hv2 : v < w2.heap.size := hB2.lt
  have hz2 : w.heap.size < w2.heap.size := hb2.lt
  have hc2 := hB2.cell
  have hf2 := hB2.frozen
  go_upto_region 7 with (
    at_builtin
    refine wpList_app (by rfl) _ _ _ (by rfl) 130 iL _ 2 16 Try.underlying126 hiL hzL hsL hbL rfl (by omega) t (by rfl) (hR2.alloc _) (by rfl) (View.of_blk (n := 1) (Blk.new w2 _ _) rfl) ?_ ?_ ?_ ?_
    · intro u hu
      simp only [List.mem_cons, List.mem_nil_iff, or_false] at hu
      rcases hu with rfl | rfl <;> rfl
    · simp only [maxLen]; omega
    · omega
    intro t' w3 hrow hlen hgrow hat
    obtain ⟨hg1, hg2, hg3, hg4, hg5⟩ := fld_app (H := w2.heap.size + 1) hB2 s1.vt ((Ext.rfl_ w2).alloc_ _) hgrow (by rcases hat with hat | hat; exact .inl hat; exact .inr (by rw [hat]; simp)) (by omega) hrow 1 (.slice t'.a t'.n t'.c)
    have k0 := hg1.cell
    have k1 := hg1.frozen)
  clear k0 k1 hc2 hf2
  have htw : t.blk ≠ some w.heap.size := fun hb => by have := s.sav.row.blk_lt hb; omega
  have hb3 := hb2.moves hg5 (fun hb => by rcases hb with hb | hb; omega; exact htw hb)
  have ht2 : ∀ g, t.blk = some g → ¬ ρ2.own g := fun g hg => hm2.apart (htn' g hg) (hR1.blk_lt hg)
  have hv2n : ¬ ρ2.own v := hm2.apart hvn hvY
  have s3 := s2.keep (fun b hb => hg5.block b (s2.bound b hb) (fun he => by rcases he with he | he; subst he; exact hv2n hb; exact ht2 b he hb)) hg5.size
  have ht3 : ∀ g, t'.blk = some g → ρ2 g = none := fun g hg => by
    rcases hat with hat | hat
    · rw [hat] at hg; exact Roles.none_of (ht2 g hg)
    · rw [hat] at hg; injection hg with hg; exact s2.fresh (by rw [← hg]; simp)
  have htw' : t'.blk ≠ some w.heap.size := fun hb => by
    rcases hat with hat | hat
    · rw [hat] at hb; exact htw hb
    · rw [hat] at hb; injection hb with hb; simp at hb; omega
  have hw2 : ρ2 w.heap.size = none := Roles.none_of (hm2.apart (Roles.not_own (s.sto.fresh (Nat.le_refl _))) hzY)
  have hmv : Moves w (w3.setCell ⟨v, 1, none⟩ (.slice t'.a t'.n t'.c)) (svOwn v t ρ) (svOwn v t' ρ2) := by
    have m1 : Moves Y w2 (svOwn v t ρ) (svOwn v t ρ2) := (Moves.frame (F := ρ.own) (F' := ρ2.own) ⟨hm2.os, hm2.tape, hm2.output, hm2.size, hm2.block, hm2.foot⟩ (fun b hb => .inl hb) (fun b hb => by
      rcases hb with hb | hb
      · exact .inl hb
      · exact .inr (.inl (.inr hb))))
    have m2 : Moves w2 (w3.setCell ⟨v, 1, none⟩ (.slice t'.a t'.n t'.c)) (svOwn v t ρ2) (svOwn v t' ρ2) := hg5.frame (fun b hb => .inr hb) (fun b hb => by
      rcases hb with hb | hb
      · exact .inr (.inl (.inl hb))
      · exact .inl hb)
    exact (hm1.trans_ m1).trans_ m2
  have hfl : List.flatMap svCells l ++ [Value.int .i64 (last + 1), Value.int .i64 ((σ.marks.length : Int) + 1)] = (l ++ [(last + 1, (σ.marks.length : Int) + 1)]).flatMap svCells := by simp [svCells]
  rw [hfl] at hg3
  generalize w3.setCell ⟨v, 1, none⟩ (.slice t'.a t'.n t'.c) = W at hg2 hg3 hb3 s3 hmv hg5
  have hcv := hg2.cell
  have hcb := hb3.cell
  have hfb := hb3.frozen
  have hbn : w.heap.size ≠ v := by omega
  go_wp2
  refine bodyPost_ret (res_ct rfl rfl (set8_blk hb3 _ _ _ _ _ _ _ _) Try.underlying27 (by kernel_rfl)) rfl ⟨rfl, ?_⟩
  have ho := set8_only W w.heap.size (.int .i64 10) (.bool false) (.int .i64 0) (.int .i64 (last + 1)) (.string ByteArray.empty) (.int .i64 0) (.int .i64 0) (.int .i64 0)
  refine ⟨h2, ρ2, t', ⟨s3.only ho hw2, ⟨hg2.keep (ho.block _ hbn.symm), hg3.keep fun g hg => ho.block _ (by rintro rfl; exact htw' hg)⟩, Roles.none_of hv2n, ht3, hg4⟩, hmv.only ho (.inl (Nat.le_refl _))⟩
end
end Go.Proofs.Ythhckledkhcfeaa
