/- (*Store).Back, over the undoing of each change. -/
import Derived.Test.YthhckledkhcfeaaBk
import Derived.Test.YthhckledkhcfeaaRegT
import Derived.Deep.LoopGhost
namespace Go.Proofs.Ythhckledkhcfeaa
open Go.RowKit
structure Keeps (F : World → Prop) where
  w : World
  h : F w
section
variable {w w' : World} {p : Nat} {σ : St} {h : Hd} {ρ : Roles}
theorem back_no (s : Sto w p σ h ρ) {m : Int} (hm : m < 1 ∨ (σ.marks.length : Int) < m) :
    Calls Try.prog 71 #[.pointer (some ⟨p, 0, none⟩), .int .i64 m] w fun e w' => e = .returned (.int .i64 21) ∧ w = w' := by
  have hd : decide (1 ≤ m ∧ m ≤ σ.marks.length) = false := by rw [decide_eq_false_iff_not]; omega
  have hD := Lib.hid hd
  clear hd hm
  go_enter Try.func71, Try.ntmps71
  go_wp2_with (go_at_call 104; refine (marked_c s hD.out).mono ?_; rintro e w1 ⟨rfl, rfl⟩)
  go_ret
  exact ⟨rfl, rfl⟩
/-- What is left when it is gone back to a mark. -/
def St.cut (σ : St) (mark a b c k : Nat) (fr : Int) : St := ⟨fr, σ.texts.take a, σ.lists.take b, σ.dicts.take c, σ.changes.take k, σ.marks.take mark⟩
set_option maxRecDepth 100000 in
set_option maxHeartbeats 2000000 in
theorem back_c (s : Sto w p σ h ρ) (mark a b c k : Nat) (fr : Int) (h1 : 1 ≤ mark) (hm : σ.marks[mark - 1]? = some ⟨a, b, c, fr, k⟩) (ha : a ≤ σ.texts.length) (hb : b ≤ σ.lists.length) (hc : c ≤ σ.dicts.length) (hk : k ≤ σ.changes.length)
    (hfr : 0 ≤ fr) (hroom : (a : Int) + b + c + fr ≤ 1048576) (S : Nat → St) (hS0 : S σ.changes.length = σ)
    (hS : ∀ i, (S i).changes = σ.changes ∧ (S i).marks = σ.marks ∧ (S i).texts.length = σ.texts.length ∧ (S i).lists.length = σ.lists.length ∧ (S i).dicts.length = σ.dicts.length)
    (hround : ∀ i (C : Chg), k ≤ i → σ.changes[i]? = some C → ∀ (W : World) (h' : Hd) (ρ' : Roles), Sto W p (S (i + 1)) h' ρ' →
      Calls Try.prog 105 #[.pointer (some ⟨p, 0, none⟩), .agg C.cells.toArray] W fun e w' => e = .returned (.tuple #[]) ∧ StoTo W w' p ρ' (S i)) :
    Calls Try.prog 71 #[.pointer (some ⟨p, 0, none⟩), .int .i64 mark] w fun e w' => e = .returned (.int .i64 0) ∧ StoTo w w' p ρ ((S k).cut mark a b c k fr) := by
  have hml : mark ≤ σ.marks.length := by have := (List.getElem?_eq_some_iff.1 hm).1; omega
  have hd : decide (1 ≤ (mark : Int) ∧ (mark : Int) ≤ σ.marks.length) = true := by rw [decide_eq_true_eq]; omega
  have hD := Lib.hid hd
  have hmk := s.ok.nmark
  have hnc := s.ok.nchg
  have hmn : mark ≤ h.marks.n := by rw [s.nmarks]; exact hml
  have hmn2 : h.marks.n ≤ 4294967296 := by rw [s.nmarks]; exact hmk
  obtain ⟨g, hga, hgb⟩ := s.marks.pos (show 0 < h.marks.n by omega)
  have q := fun j hj => s.marks.item (j := j) length_szs hga hm hj
  have q0 := q 0 (by omega)
  have q1 := q 1 (by omega)
  have q2 := q 2 (by omega)
  have q3 := q 3 (by omega)
  have q4 := q 4 (by omega)
  have hgl := s.marks.blk_lt hgb
  have hHm := Lib.hid hm
  have hHml := Lib.hid hml
  have hHk := Lib.hid hmk
  have hHc := Lib.hid hnc
  have hmain := s.main
  rw [hga] at hmain
  have hc0 := hmain.cell
  simp only [Szs.cells, Nat.add_zero] at q0 q1 q2 q3 q4
  clear hd hm q hml hmk hnc hmain
  go_enter Try.func71, Try.ntmps71
  go_upto_region 4 with (go_at_call 104; refine (marked_c s hD.out).mono ?_; rintro e w1 ⟨rfl, rfl⟩)
  generalize hX : World.alloc w _ = X
  obtain ⟨hx, hcX, hfX, hzX, hbX⟩ := boxed hX
  clear hX hcX hfX q0 q1 q2 q3 q4 hc0
  have s1 := s.ext hx
  have hc1 := s1.main.cell
  have hnch : h.changes.n = σ.changes.length := s.nchanges
  have hHn := Lib.hid hnch
  have hS0' := Lib.hid hS0
  have hSS := Lib.hid hS
  clear hnch hS0 hS
  go_wp2_with fail
  have hbx : ¬ ρ.own w.heap.size := Roles.not_own (s.fresh (Nat.le_refl _))
  go_loopg [6] (σ.changes.length - k) (fun gk s6 wr => ∃ i : Nat, k ≤ i ∧ i ≤ σ.changes.length ∧ gk = i - k ∧ s6 = .int .i64 ((i : Int) - 1) ∧ ∃ h' ρ', Sto wr p (S i) h' ρ' ∧ Moves X wr ρ.own ρ'.own)
  case atStart => exact ⟨σ.changes.length, hk, Nat.le_refl _, rfl, (by rw [hHn.out]; exact congrArg (Value.int .i64) (by have := hHc.out; unfold wrap64; omega)), h, ρ, by rw [hS0'.out]; exact s1, Moves.refl_ _ _⟩
  case round =>
    obtain ⟨i, hki, hin, hgk, hs6, h', ρ', s', hmv⟩ := hrel
    subst hs6
    have hbX' := hbX.moves hmv hbx
    have hcb := hbX'.cell
    obtain ⟨e1, e2, e3, e4, e5⟩ := hSS.out i
    rcases Nat.lt_or_ge k i with hlt | hge
    · obtain ⟨j, rfl⟩ : ∃ j, i = j + 1 := ⟨i - 1, by omega⟩
      obtain ⟨C, hC⟩ : ∃ C, σ.changes[j]? = some C := ⟨_, List.getElem?_eq_getElem (by omega)⟩
      have hrow := s'.changes
      rw [e1] at hrow
      have hn' : h'.changes.n = σ.changes.length := by rw [s'.nchanges, e1]
      obtain ⟨g2, hg2, hg2b⟩ := hrow.pos (show 0 < h'.changes.n by omega)
      have hcells : ∀ q u, C.cells[q]? = some u → wr.cell? ⟨g2, j * 19 + q, none⟩ = some u := fun q u hu => (hrow.item length_chg hg2 hC (by have := (List.getElem?_eq_some_iff.1 hu).1; rw [length_chg] at this; exact this)).trans hu
      have hmain := s'.main
      rw [hg2] at hmain
      have hcm := hmain.cell
      have hj1 : ((j + 1 : Nat) : Int) - 1 = j := by omega
      rw [hj1]
      have hkj : (k : Int) ≤ j := by omega
      have hjn : j < h'.changes.n := by omega
      have hHc' := Lib.hid hC
      have hHr := Lib.hid (hround j C (by omega) hC wr h' ρ' s')
      have hjb : j < 4294967296 := by have := hHc.out; omega
      clear hcb
      have hcb := hbX'.cell
      clear hC e1 e2 e3 e4 e5 hn'
      go_wp2_with (first
        | (go_at_call 105; refine hHr.out.mono ?_; rintro e w3 ⟨rfl, h3, ρ3, s3, hm3⟩)
        | (refine wpList_load_at (ty := 124) (cs := C.cells) (by rfl) _ (by rfl) (by rfl) hcells Try.underlying124 (by kernel_rfl) ?_))
      go_roundg (j - k)
      case measure => omega
      case rel => exact ⟨j, by omega, by omega, rfl, rfl, h3, ρ3, s3, hmv.trans_ hm3⟩
    · have hik : i = k := by omega
      subst hik
      have hii : ¬ ((i : Int) ≤ (i : Int) - 1) := by omega
      have hn' : i ≤ (S i).changes.length := by rw [e1]; exact hk
      obtain ⟨iC, hiC, -⟩ := info_parts info_chg
      obtain ⟨iT, hiT, -⟩ := info_parts info_u8s
      obtain ⟨iO, hiO, -⟩ := info_parts info_Objs
      obtain ⟨iD, hiD, -⟩ := info_parts info_dictp
      obtain ⟨iZ, hiZ, -⟩ := info_parts info_szs
      have hpw : p ≠ w.heap.size := by have := s.lt; omega
      have hx' : Ext w X := hx
      -- the changes
      have hcm := s'.main.cell
      have hpl := s'.lt
      have kC := run_cut s'.changes Try.underlying113 ⟨iC, hiC⟩ (m := i) (by rw [s'.nchanges]; exact hn')
      have hfm := fun (E : ExtOf wr) => (s'.main.ext E.h).frozen
      have f2 := fun (E : ExtOf wr) j => (E.cells hpl j).trans (hcm j)
      have f5 := fun (E : ExtOf wr) j => (E.cells hbX'.lt j).trans (hcb j)
      go_upto_region 8 with fail
      clear hcm hcb
      refine wp_region_ext_tail 10 (by kernel_rfl) (by kernel_rfl) ?_
      simp only [List.take_succ_cons, List.take_zero, List.drop_succ_cons, List.drop_zero]
      repeat (go_big_quiet_step (fail))
      refine wpQuiet_nil fun E => ?_
      have kf := hfm E
      have kc := f2 E
      go_upto_region 9 with fail
      have s2 := (s'.ext E.h).cutChanges hn'
      have hb2 := (hbX'.ext E.h).far (p := ⟨p, 4, none⟩) (fun e => hpw e.symm) (.slice h'.changes.a i h'.changes.c)
      have hm2 : Moves X (E.w.setCell ⟨p, 4, none⟩ (.slice h'.changes.a i h'.changes.c)) ρ.own ρ'.own := (hmv.ext_right E.h).trans_ (Moves.set_ (by unfold Roles.own; rw [s'.rmain]; simp) _)
      clear hfm f2 f5 kc kf kC
      generalize hY : E.w.setCell ⟨p, 4, none⟩ (.slice h'.changes.a i h'.changes.c) = Y at s2 hb2 hm2
      clear hY
      -- texts, lists, dicts
      have ha' : a ≤ (S i).texts.length := by rw [e3]; exact ha
      have hb' : b ≤ (S i).lists.length := by rw [e4]; exact hb
      have hc' : c ≤ (S i).dicts.length := by rw [e5]; exact hc
      have hml' : mark ≤ (S i).marks.length := by rw [e2]; exact hHml.out
      have kT := run_cut s2.texts Try.underlying110 ⟨iT, hiT⟩ (m := a) (by rw [s2.ntexts]; exact ha')
      have kL := run_cut s2.lists Try.underlying111 ⟨iO, hiO⟩ (m := b) (by rw [s2.nlists]; exact hb')
      have kD := run_cut s2.dicts Try.underlying112 ⟨iD, hiD⟩ (m := c) (by rw [s2.ndicts]; exact hc')
      have kM := run_cut s2.marks Try.underlying114 ⟨iZ, hiZ⟩ (m := mark) (by rw [s2.nmarks]; exact hml')
      have hpl2 := s2.lt
      let F1 : World → Prop := fun W => (W.cell? ⟨p, 1, none⟩ = some (.slice h'.texts.a h'.texts.n h'.texts.c)) ∧ ∀ j, W.cell? ⟨w.heap.size, j, none⟩ = [Value.int .i64 a, .int .i64 b, .int .i64 c, .int .i64 fr, .int .i64 i][j]?
      let F2 : World → Prop := fun W => (W.cell? ⟨p, 2, none⟩ = some (.slice h'.lists.a h'.lists.n h'.lists.c)) ∧ ∀ j, W.cell? ⟨w.heap.size, j, none⟩ = [Value.int .i64 a, .int .i64 b, .int .i64 c, .int .i64 fr, .int .i64 i][j]?
      let F3 : World → Prop := fun W => (W.cell? ⟨p, 3, none⟩ = some (.slice h'.dicts.a h'.dicts.n h'.dicts.c)) ∧ ∀ j, W.cell? ⟨w.heap.size, j, none⟩ = [Value.int .i64 a, .int .i64 b, .int .i64 c, .int .i64 fr, .int .i64 i][j]?
      have B0 : Blk Y.drew p _ _ := s2.main
      have D0 : Blk Y.drew w.heap.size _ _ := hb2
      have B1 := B0.set_ 1 (.slice h'.texts.a a h'.texts.c)
      have D1 := D0.far (p := ⟨p, 1, none⟩) (fun e => hpw e.symm) (.slice h'.texts.a a h'.texts.c)
      have B2 := B1.set_ 2 (.slice h'.lists.a b h'.lists.c)
      have D2 := D1.far (p := ⟨p, 2, none⟩) (fun e => hpw e.symm) (.slice h'.lists.a b h'.lists.c)
      have a01 : F1 Y.drew := ⟨B0.cell 1, D0.cell⟩
      have a02 : F2 Y.drew := ⟨B0.cell 2, D0.cell⟩
      have a03 : F3 Y.drew := ⟨B0.cell 3, D0.cell⟩
      have a12 : F2 _ := ⟨B1.cell 2, D1.cell⟩
      have a13 : F3 _ := ⟨B1.cell 3, D1.cell⟩
      have a23 : F3 _ := ⟨B2.cell 3, D2.cell⟩
      haveI : Nonempty (Keeps F1) := ⟨⟨_, a01⟩⟩
      haveI : Nonempty (Keeps F2) := ⟨⟨_, a02⟩⟩
      haveI : Nonempty (Keeps F3) := ⟨⟨_, a03⟩⟩
      have u1 := fun (E : Keeps F1) => E.h.1
      have v1 := fun (E : Keeps F1) => E.h.2
      have u2 := fun (E : Keeps F2) => E.h.1
      have v2 := fun (E : Keeps F2) => E.h.2
      have u3 := fun (E : Keeps F3) => E.h.1
      have v3 := fun (E : Keeps F3) => E.h.2
      have kf := s2.main.frozen
      refine wp_region_three 3 7 7 7 26 29 32 (fun w' => ∃ E : Keeps F1, w' = E.w) (fun w' => ∃ E : Keeps F2, w' = E.w) (fun w' => ∃ E : Keeps F3, w' = E.w) (by kernel_rfl) (by kernel_rfl) (fun c a d v w h => by cases d <;> exact h) ⟨⟨_, a01⟩, rfl⟩ ⟨⟨_, a02⟩, rfl⟩ ⟨⟨_, a03⟩, rfl⟩ ?_
      simp only [List.take_succ_cons, List.take_zero, List.drop_succ_cons, List.drop_zero]
      repeat (go_big_quiet_step (fail))
      refine wpQuiet_nil ?_
      repeat (go_big_quiet_step (fail))
      refine wpQuiet_nil ?_
      repeat (go_big_quiet_step (fail))
      refine wpQuiet_nil ?_
      repeat (go_big_quiet_step (fail))
      refine wpQuiet_nil ?_
      have hlow : ¬ (w.heap.size = p) := fun e => hpw e.symm
      have hlow2 : ¬ (p = w.heap.size) := hpw
      clear u1 u2 u3 v1 v2 v3
      have kc := s2.main.cell
      have kd := B0.cell
      have kg := B0.frozen
      have ke := B1.cell
      have kh := B1.frozen
      have k5 := hb2.cell
      refine wpTailH_cons (fun K hK => ?_)
      go_simp
      refine hK _ _ (by intro q hq hlt; simp only [List.mem_cons, List.mem_nil_iff, or_false] at hq; rcases hq with rfl | rfl | rfl; exact ⟨⟨_, a01⟩, rfl⟩; exact ⟨⟨_, a02⟩, rfl⟩; exact ⟨⟨_, a03⟩, rfl⟩) ?_
      clear hK K
      refine wpTailH_cons (fun K hK => ?_)
      go_simp
      refine hK _ _ (by intro q hq hlt; simp only [List.mem_cons, List.mem_nil_iff, or_false] at hq; rcases hq with rfl | rfl | rfl; exact ⟨⟨_, a01⟩, rfl⟩; exact ⟨⟨_, a02⟩, rfl⟩; exact ⟨⟨_, a03⟩, rfl⟩) ?_
      clear hK K
      refine wpTailH_cons (fun K hK => ?_)
      go_simp
      refine hK _ _ (by intro q hq hlt; simp only [List.mem_cons, List.mem_nil_iff, or_false] at hq; rcases hq with rfl | rfl | rfl; exact absurd hlt (by simp); exact ⟨⟨_, a12⟩, rfl⟩; exact ⟨⟨_, a13⟩, rfl⟩) ?_
      clear hK K
      refine wpTailH_cons (fun K hK => ?_)
      go_simp
      refine hK _ _ (by intro q hq hlt; simp only [List.mem_cons, List.mem_nil_iff, or_false] at hq; rcases hq with rfl | rfl | rfl; exact absurd hlt (by simp); exact ⟨⟨_, a12⟩, rfl⟩; exact ⟨⟨_, a13⟩, rfl⟩) ?_
      clear hK K
      refine wpTailH_cons (fun K hK => ?_)
      go_simp
      refine hK _ _ (by intro q hq hlt; simp only [List.mem_cons, List.mem_nil_iff, or_false] at hq; rcases hq with rfl | rfl | rfl; exact absurd hlt (by simp); exact ⟨⟨_, a12⟩, rfl⟩; exact ⟨⟨_, a13⟩, rfl⟩) ?_
      clear hK K
      refine wpTailH_cons (fun K hK => ?_)
      go_simp
      refine hK _ _ (by intro q hq hlt; simp only [List.mem_cons, List.mem_nil_iff, or_false] at hq; rcases hq with rfl | rfl | rfl; exact absurd hlt (by simp); exact absurd hlt (by simp); exact ⟨⟨_, a23⟩, rfl⟩) ?_
      clear hK K
      refine wpTailH_cons (fun K hK => ?_)
      go_simp
      refine hK _ _ (by intro q hq hlt; simp only [List.mem_cons, List.mem_nil_iff, or_false] at hq; rcases hq with rfl | rfl | rfl; exact absurd hlt (by simp); exact absurd hlt (by simp); exact ⟨⟨_, a23⟩, rfl⟩) ?_
      clear hK K
      refine wpTailH_cons (fun K hK => ?_)
      go_simp
      refine hK _ _ (by intro q hq hlt; simp only [List.mem_cons, List.mem_nil_iff, or_false] at hq; rcases hq with rfl | rfl | rfl; exact absurd hlt (by simp); exact absurd hlt (by simp); exact ⟨⟨_, a23⟩, rfl⟩) ?_
      clear hK K
      refine wpTailH_list (by intro q hq; simp only [List.mem_cons, List.mem_nil_iff, or_false] at hq; rcases hq with rfl | rfl | rfl <;> simp) ?_
      clear kd kg ke kh
      clear a01 a02 a03 a12 a13 a23 B0 B1 B2 D0 D1 D2
      go_wp2_with fail
      go_ret
      refine ⟨rfl, ?_⟩
      have s3 := s2.cutTexts ha'
      have s4 := s3.cutLists hb'
      have s5 := s4.cutDicts hc'
      have s6 := s5.setFree hfr (by simp only [List.length_take]; omega)
      have s7 := s6.cutMarks hml'
      have hown : ρ'.own p := by unfold Roles.own; rw [s'.rmain]; simp
      exact ⟨_, ρ', s7.ext ((Ext.rfl_ _).drew_), ((Moves.ext_left hx' (((((hm2.trans_ (Moves.set_ hown _)).trans_ (Moves.set_ hown _)).trans_ (Moves.set_ hown _)).trans_ (Moves.set_ hown _)).trans_ (Moves.set_ hown _))).ext_right ((Ext.rfl_ _).drew_))⟩
end
end Go.Proofs.Ythhckledkhcfeaa
