/- CollMoves: its walk. -/
import Derived.Test.YthhckledkhcfeaaCoF
import Derived.Test.YthhckledkhcfeaaSvK
namespace Go.Proofs.Ythhckledkhcfeaa
open Go.RowKit
def ints (m : Nat) : List Ob := (List.range m).map fun (q : Nat) => ⟨1, false, 0, (q : Int), ByteArray.empty, 0, 0, 0⟩
theorem ints_len (m : Nat) : (ints m).length = m := by simp [ints]
theorem ints_get {m q : Nat} (h : q < m) : (ints m)[q]? = some ⟨1, false, 0, (q : Int), ByteArray.empty, 0, 0, 0⟩ := by simp [ints, h]
theorem ints_next (m : Nat) : ints m ++ [⟨1, false, 0, (m : Int), ByteArray.empty, 0, 0, 0⟩] = ints (m + 1) := by simp [ints, List.range_succ]
theorem ints_k {m : Nat} {o : Ob} (h : o ∈ ints m) : o.k = 1 := by
  obtain ⟨q, -, rfl⟩ := List.mem_map.1 h
  rfl
theorem mv_get {m f q g i : Nat} (hfq : f + q ≤ m) (hgq : g + q ≤ m) (hi : i < m) : (splice (ints m) (0 + g) (((ints m).drop f).take q))[i]? = some ⟨1, false, 0, if g ≤ i ∧ i < g + q then (i : Int) - g + f else i, ByteArray.empty, 0, 0, 0⟩ := by
  have h1 : (((ints m).drop f).take q).length = q := by simp [ints_len]; omega
  have h2 : ((ints m).take g).length = g := by simp [ints_len]; omega
  unfold splice
  rw [Nat.zero_add]
  simp only [List.getElem?_append, h1, h2]
  by_cases hc : g ≤ i ∧ i < g + q
  · rw [if_pos hc, if_neg (by omega), if_pos (by omega), List.getElem?_take_of_lt (by omega), List.getElem?_drop, ints_get (by omega)]
    have : ((f + (i - g) : Nat) : Int) = (i : Int) - g + f := by omega
    rw [this]
  · rw [if_neg hc]
    by_cases hl : i < g
    · rw [if_pos hl, List.getElem?_take_of_lt hl, ints_get hi]
    · rw [if_neg hl, if_neg (by omega), List.getElem?_drop, show g + q + (i - g - q) = i by omega, ints_get hi]
set_option maxRecDepth 100000 in
set_option maxHeartbeats 8000000 in
theorem CollMoves_walk (n a b z k : Nat) (hk : (n : Int) % 40 = (k : Int)) (hn : n ≤ 255) (ha : a ≤ 255) (hb : b ≤ 255) (hz : z ≤ 255) (w : World) :
    Calls Try.prog 11 #[.int .u8 n, .int .u8 a, .int .u8 b, .int .u8 z] w fun e w' => e = .returned (.bool true) ∧ Ext w w' := by
  obtain ⟨iO, hiO, hzO, hsO, hbO⟩ := info_parts info_Obj
  have hk40 : k < 40 := by omega
  go_enter Try.func11, Try.ntmps11
  go_upto_region 2 with (
    go_at_call 12
    refine (new_ok 2000 w (by omega) (by omega)).mono ?_
    rintro e w1 ⟨rfl, s1, hx1⟩)
  have hf1 : Fr w w1 (Roles.own (.one w.heap.size)) := ⟨hx1, fun b hb => by rw [Roles.one_own hb]; exact Nat.le_refl _⟩
  go_upto_region 4 with (go_at_call 57; refine (answers9 w1).mono ?_; rintro e w2 ⟨rfl, hx2⟩)
  have s2 := s1.ext hx2
  have hf2 := hf1.ext_ hx2
  clear s1 hf1 hx1 hx2
  have hHk := Lib.hid hk
  clear hk
  go_upto_region 6 with fail
  rw [hHk.out]
  go_upto_region 7 with fail
  go_loopg [11, 13] k (fun gk s11 s13 wr => ∃ i : Nat, i ≤ k ∧ gk = k - i ∧ s13 = .int .i64 i ∧ ∃ o : Sl, s11 = .slice o.a o.n o.c ∧ Row wr 27 8 o (obCells (ints i)) ∧ (∀ g, o.blk = some g → w2.heap.size ≤ g) ∧ Ext w2 wr)
  case atStart => exact ⟨0, Nat.zero_le _, rfl, rfl, .nil, rfl, Row.nil_ _ _ _, fun g hg => by simp [Sl.blk] at hg, Ext.rfl_ _⟩
  case round =>
    obtain ⟨i, hi, hgk, hs13, o, hs11, hrow, hol, hx⟩ := hrel
    subst hs13
    subst hs11
    by_cases hlt : i < k
    · have hon : o.n = i := by have := hrow.len; rw [length_obCells, ints_len] at this; omega
      have hob : o.n ≤ 40 := by omega
      have hHon := Lib.hid hon
      have hik : (i : Int) < k := by omega
      clear hon
      go_wp2_with (
        at_builtin
        refine wpList_app (by rfl) _ _ _ (by rfl) 27 iO _ 8 72 Try.underlying33 hiO hzO hsO hbO rfl (by omega) o (by rfl) (hrow.alloc _) (by rfl) (View.of_blk (n := 1) (Blk.new wr _ _) rfl) ?_ ?_ ?_ ?_
        · intro u hu
          simp only [List.mem_cons, List.mem_nil_iff, or_false] at hu
          rcases hu with rfl | rfl | rfl | rfl | rfl | rfl | rfl | rfl <;> rfl
        · simp only [maxLen]; omega
        · omega
        intro o' w4 hrow4 hlen4 hgrow4 hat4)
      go_roundg (k - (i + 1))
      case measure => omega
      case rel =>
        have hx4 : Ext w2 w4 := ext_grown (hx.alloc_ _) hgrow4 hol
        refine ⟨i + 1, by omega, rfl, by simp, o', rfl, ?_, ?_, hx4⟩
        · rw [← ints_next]
          have e : obCells (ints i ++ [⟨1, false, 0, (i : Int), ByteArray.empty, 0, 0, 0⟩]) = obCells (ints i) ++ [.int .i64 1, .bool false, .int .i64 0, .int .i64 (i : Int), .string ByteArray.empty, .int .i64 0, .int .i64 0, .int .i64 0] := by simp [obCells, Ob.cells]
          rw [e]
          exact hrow4
        · intro g hg
          rcases hat4 with h4 | h4
          · rw [h4] at hg; exact hol g hg
          · rw [h4] at hg; injection hg with hg; have := hx.size; simp at hg; omega
    · obtain rfl : i = k := by omega
      obtain ⟨oa, on, oc⟩ := o
      have hon : on = i := by have := hrow.len; rw [length_obCells, ints_len] at this; dsimp only at this; omega
      subst hon
      have s3 := s2.ext hx
      have hf3 := hf2.ext_ hx
      have hap : ∀ g o, oa = some ⟨g, o, none⟩ → Roles.one w.heap.size g = none := fun g o hg => s2.fresh (hol g (by simp [Sl.blk, hg]))
      have hvl : ∀ o ∈ ints on, (St.empty 2000).valid o = true := fun o ho => by
        obtain ⟨q, -, rfl⟩ := List.mem_map.1 ho
        rfl
      have hl : Calls Try.prog 59 #[.pointer (some ⟨w.heap.size, 0, none⟩), .slice oa on oc] wr fun e w' => e = .returned (.tuple #[.agg #[.int .i64 7, .bool false, .int .i64 0, .int .i64 0, .string ByteArray.empty, .int .i64 0, .int .i64 0, .int .i64 on], .int .i64 0]) ∧
          StoTo wr w' w.heap.size (Roles.one w.heap.size) ⟨2000 - (1 + (on : Int)), [], [ints on], [], [], []⟩ := lst_ok (c := oc) s3 (View.of_row hrow) hap hvl (by omega) (by simp only [St.empty]; omega)
      have hLs := Lib.hid hl
      clear hl
      go_upto_region 11 with (
        go_at_call 59
        refine hLs.out.mono ?_
        rintro e w4 ⟨rfl, h4, ρ4, s4, m4⟩)
      have hf4 := hf3.moves m4
      generalize hX : World.alloc w4 _ = X
      obtain ⟨hx4, hcX, hfX, hzX, hbX⟩ := boxed hX
      clear hX hcX hfX hLs
      have s5 : Sto X w.heap.size ⟨2000 - (1 + (on : Int)), [], [ints on], [], [], []⟩ h4 ρ4 := s4.ext hx4
      have hf5 := hf4.ext_ hx4
      have la : Loc X ρ4.own w4.heap.size 27 _ := ⟨hbX, Roles.not_own (s4.fresh (Nat.le_refl _))⟩
      clear s4 hf4 m4 hbX
      by_cases hk0 : on = 0
      · subst hk0
        go_wp2_with fail
        go_ret
        exact ⟨rfl, hf5.ext⟩
      · have hk1 : 1 ≤ on := by omega
        have hk0' : ¬ ((on : Int) = 0) := by omega
        go_upto_region 13 with fail
        obtain ⟨f, hf⟩ : ∃ f : Nat, (a : Int) % (on : Int) = f := ⟨a % on, by simp⟩
        have hfl : f < on := by have := Int.emod_lt_of_pos (a : Int) (show (0 : Int) < on by omega); omega
        obtain ⟨q, hq⟩ : ∃ q : Nat, (z : Int) % ((on : Int) - f + 1) = q := ⟨((z : Int) % ((on : Int) - f + 1)).toNat, by have := Int.emod_nonneg (z : Int) (show (on : Int) - f + 1 ≠ 0 by omega); omega⟩
        have hql : f + q ≤ on := by have := Int.emod_lt_of_pos (z : Int) (show (0 : Int) < (on : Int) - f + 1 by omega); omega
        have t1 : (a : Int).tmod (on : Int) = f := by rw [Int.tmod_eq_emod_of_nonneg (by omega)]; exact hf
        have t2 : (z : Int).tmod ((on : Int) - f + 1) = q := by rw [Int.tmod_eq_emod_of_nonneg (by omega)]; exact hq
        have w1' : IntKind.i64.wrap ((on : Int) - f) = (on : Int) - f := IntWalk.i64_in _ (by omega)
        have w2' : IntKind.i64.wrap ((on : Int) - f + 1) = (on : Int) - f + 1 := IntWalk.i64_in _ (by omega)
        have z1 : ((on : Int) == 0) = false := by simp; omega
        have z2 : ((on : Int) - f + 1 == 0) = false := by simp; omega
        have z3 : ¬ ((on : Int) - f + 1 = 0) := by omega
        have hHf := Lib.hid hf
        have hHq := Lib.hid hq
        clear hf hq
        have ya := fun (E : ExtOf X) j => (E.cells la.blk.lt j).trans (la.blk.cell j)
        refine wp_region_alloc_ 16 20 (fun w' => ∃ E : ExtOf X, w' = E.w) rfl rfl (by kernel_rfl) (by kernel_rfl) (fun c a d v w h => by cases d <;> exact h) ⟨⟨_, (Ext.rfl_ X).drew_⟩, rfl⟩ ?_
        simp only [List.take_succ_cons, List.take_zero]
        repeat (go_big_quiet_step (fail))
        refine wpQuiet_nil ?_
        clear ya t1 t2 w1' w2' z1 z2 z3
        have hvP : (⟨2000 - (1 + (on : Int)), [], [ints on], [], [], []⟩ : St).valid ⟨7, false, 0, 0, ByteArray.empty, 0, 0, on⟩ = true := by
          simp [St.valid, withinB, ints_len]
        have hVP := Lib.hid hvP
        clear hvP
        refine ⟨fun K hK => ?_, fun K hK => ?_⟩
        · go_simp
          refine (part_ok (s5.ext (Ext.rfl_ X).drew_) 7 false 0 0 ByteArray.empty 0 0 on f q (.inr rfl) hVP.out (by omega) (by omega) (by omega) (by omega)).mono ?_
          rintro e w6 ⟨rfl, hx6⟩
          refine hK _ _ ?_
          clear hK K
          show wpQuiet _ _ _ _ _ _
          repeat (go_big_quiet_step (fail))
          refine wpQuiet_nil ?_
          go_upto_region 14 with fail
          generalize hX13 : World.alloc w6 _ = X13
          obtain ⟨hx7, -, -, -, hb13⟩ := boxed hX13
          have hx13 : Ext X X13 := ((Ext.rfl_ X).drew_.trans_ hx6).trans_ hx7
          obtain ⟨pb, hpb⟩ : ∃ pb, w6.heap.size = pb := ⟨_, rfl⟩
          have hpg : X.heap.size ≤ pb := by rw [← hpb]; exact hx6.size
          rw [hpb] at hb13 ⊢
          clear hX13 hx7 hx6 hpb
          have s13 := s5.ext hx13
          have hf13 := hf5.ext_ hx13
          have la13 := la.ext_ hx13
          have lp13 : Loc X13 ρ4.own pb 27 [.int .i64 7, .bool false, .int .i64 0, .int .i64 0, .string ByteArray.empty, .int .i64 0, .int .i64 f, .int .i64 q] := ⟨by simpa using hb13, Roles.not_own (s5.fresh hpg)⟩
          clear hb13
          obtain ⟨g, hg⟩ : ∃ g : Nat, (b : Int) % (on : Int) = g := ⟨b % on, by simp⟩
          have hgl : g < on := by have := Int.emod_lt_of_pos (b : Int) (show (0 : Int) < on by omega); omega
          have hHg := Lib.hid hg
          clear hg
          go_upto_region 17 with fail
          rw [hHg.out]
          have hca := la13.blk.cell
          have hcp := lp13.blk.cell
          by_cases hfit : on < g + q
          · have hno := do_pi_no (cc := 3) (s13.ext ((Ext.rfl_ X13).alloc_ (.cells #[.int .i64 7, .bool false, .int .i64 0, .int .i64 0, .string ByteArray.empty, .int .i64 0, .int .i64 0, .int .i64 on, .int .i64 1, .bool false, .int .i64 0, .int .i64 g, .string ByteArray.empty, .int .i64 0, .int .i64 0, .int .i64 0, .int .i64 7, .bool false, .int .i64 0, .int .i64 0, .string ByteArray.empty, .int .i64 0, .int .i64 f, .int .i64 q] 27)))
              false 0 ByteArray.empty 0 0 on false 0 ByteArray.empty 0 0 0 g false 0 ByteArray.empty 0 f q (View.of_blk (n := 3) (Blk.new X13 27 _) rfl) (ints on) rfl (by rw [ints_len]; omega) (ints on) rfl (by rw [ints_len]; omega) (.inr ⟨by omega, by omega⟩) (by omega) (by omega) (by omega)
            have hNo := Lib.hid hno
            clear hno
            have hfit' : (on : Int) < (g : Int) + q := by omega
            go_upto_region 18 with (
              go_at_call 58
              refine hNo.out.mono ?_
              rintro e w14 ⟨rfl, hx14⟩)
            clear hca hcp hNo
            have hx14' : Ext X13 w14 := ((Ext.rfl_ X13).alloc_ _).trans_ hx14
            have hcp := (lp13.blk.ext hx14').cell
            go_wp2_with fail
            go_ret
            exact ⟨rfl, (hf13.ext_ hx14').ext⟩
          · have hyes := do_pi_ok (cc := 3) (s13.ext ((Ext.rfl_ X13).alloc_ (.cells #[.int .i64 7, .bool false, .int .i64 0, .int .i64 0, .string ByteArray.empty, .int .i64 0, .int .i64 0, .int .i64 on, .int .i64 1, .bool false, .int .i64 0, .int .i64 g, .string ByteArray.empty, .int .i64 0, .int .i64 0, .int .i64 0, .int .i64 7, .bool false, .int .i64 0, .int .i64 0, .string ByteArray.empty, .int .i64 0, .int .i64 f, .int .i64 q] 27)))
              false 0 ByteArray.empty 0 0 on false 0 ByteArray.empty 0 0 0 g false 0 ByteArray.empty 0 f q (View.of_blk (n := 3) (Blk.new X13 27 _) rfl) rfl (ints on) rfl (by rw [ints_len]; omega) (ints on) rfl (by rw [ints_len]; omega) (by omega) (fun o ho => ints_k (List.mem_of_mem_drop (List.mem_of_mem_take ho))) (by simp)
            have hYes := Lib.hid hyes
            clear hyes
            have hfit' : ¬ (on : Int) < (g : Int) + q := by omega
            go_upto_region 18 with (
              go_at_call 58
              refine hYes.out.mono ?_
              rintro e w14 ⟨⟨va, vn, vc⟩, rfl, hrow14, -, h14, ρ14, s14, m14⟩)
            have hvn : vn = 0 := by have := hrow14.len; rw [length_obCells] at this; simp at this; omega
            subst hvn
            clear hca hcp hYes hrow14
            have m14' : Moves X13 w14 ρ4.own ρ14.own := Moves.ext_left ((Ext.rfl_ X13).alloc_ _) m14
            have hf14 := hf13.moves m14'
            have la14 := la13.moves m14'
            have lp14 := lp13.moves m14'
            have hcp := lp14.blk.cell
            go_upto_region 20 with fail
            have hca := la14.blk.cell
            have hNl : (splice (ints on) (0 + g) (((ints on).drop f).take q)).length = on := by rw [length_splice _ _ _ (by simp [ints_len]; omega), ints_len]
            have hHN := Lib.hid hNl
            clear hNl
            go_upto_region 21 with (
              go_at_call 17
              refine (items_ok s14 false 0 0 ByteArray.empty 0 0 on (splice (ints on) (0 + g) (((ints on).drop f).take q)) rfl (by rw [hHN.out]; omega)).mono ?_
              rintro e w15 ⟨⟨ia, im, ic⟩, rfl, hin, hfr15⟩
              dsimp only at hin
              subst hin)
            obtain ⟨hr15, -, hx15⟩ := hfr15
            have hr15' : Row w15 27 8 ⟨ia, im, ic⟩ (obCells (splice (ints im) (0 + g) (((ints im).drop f).take q))) := by
              have e : (List.drop 0 (splice (ints im) (0 + g) (((ints im).drop f).take q))).take im = splice (ints im) (0 + g) (((ints im).drop f).take q) := by
                rw [List.drop_zero, List.take_of_length_le (by rw [hHN.out]; omega)]
              rw [e] at hr15
              exact hr15
            obtain ⟨gi, hga, hgb⟩ := hr15'.pos (show 0 < im by omega)
            dsimp only at hga
            subst hga
            clear hca hcp hr15
            have hcp := (lp14.blk.ext hx15).cell
            have hcap15 := hr15'.cap_le
            simp only [maxLen] at hcap15
            go_upto_region 22 with fail
            go_loopg [23, 24] im (fun gk s23 s24 wr => wr = w15 ∧ ∃ i : Nat, i ≤ im ∧ gk = im - i ∧ s23 = .int .i64 i)
            case atStart => exact ⟨rfl, 0, Nat.zero_le _, rfl, rfl⟩
            case round =>
              obtain ⟨hwr, i, hi, hgk, hs23⟩ := hrel
              subst hwr
              subst hs23
              by_cases hlt : i < im
              · have hlt' : (i : Int) < im := by omega
                obtain ⟨-, -, -, c3, -⟩ := hr15'.ob (off := i * 8) (q := i) rfl (mv_get (by omega) (by omega) hlt) rfl
                dsimp only at c3
                by_cases hin1 : g ≤ i
                · by_cases hin2 : i < g + q
                  · rw [if_pos ⟨hin1, hin2⟩] at c3
                    have h1' : (g : Int) ≤ i := by omega
                    have h2' : (i : Int) < (g : Int) + q := by omega
                    have hf0 := hHf.out
                    go_wp2_with fail
                    go_roundg (im - (i + 1))
                    case measure => omega
                    case rel => exact ⟨rfl, i + 1, by omega, rfl, by simp⟩
                  · rw [if_neg (by omega)] at c3
                    have h1' : (g : Int) ≤ i := by omega
                    have h2' : ¬ (i : Int) < (g : Int) + q := by omega
                    go_wp2_with fail
                    go_roundg (im - (i + 1))
                    case measure => omega
                    case rel => exact ⟨rfl, i + 1, by omega, rfl, by simp⟩
                · rw [if_neg (by omega)] at c3
                  have h1' : ¬ (g : Int) ≤ i := by omega
                  go_wp2_with fail
                  go_roundg (im - (i + 1))
                  case measure => omega
                  case rel => exact ⟨rfl, i + 1, by omega, rfl, by simp⟩
              · go_wp2_with fail
                go_ret
                exact ⟨rfl, (hf14.ext_ hx15).ext⟩
        · go_simp
          refine hK _ _ ⟨⟨⟨_, ((Ext.rfl_ X).alloc_ _).drew_⟩, rfl⟩, fun K2 hK2 => ?_⟩
          clear hK
          go_simp
          refine (part_ok (s5.ext ((Ext.rfl_ X).alloc_ _).drew_) 7 false 0 0 ByteArray.empty 0 0 on f q (.inr rfl) hVP.out (by omega) (by omega) (by omega) (by omega)).mono ?_
          rintro e w6 ⟨rfl, hx6⟩
          refine hK2 _ _ ?_
          clear hK2 K2 K
          show wpQuiet _ _ _ _ _ _
          repeat (go_big_quiet_step (fail))
          refine wpQuiet_nil ?_
          have hb12 := (Blk.new X 27 [.int .i64 0, .bool false, .int .i64 0, .int .i64 0, .string ByteArray.empty, .int .i64 0, .int .i64 0, .int .i64 0]).drew.ext hx6
          have hc12 := hb12.cell
          have hf12 := hb12.frozen
          go_upto_region 14 with fail
          have hb13 := set8_blk hb12 (.int .i64 7) (.bool false) (.int .i64 0) (.int .i64 0) (.string ByteArray.empty) (.int .i64 0) (.int .i64 f) (.int .i64 q)
          have hx13 : Ext X (set8 w6 X.heap.size (.int .i64 7) (.bool false) (.int .i64 0) (.int .i64 0) (.string ByteArray.empty) (.int .i64 0) (.int .i64 f) (.int .i64 q)) := (((Ext.rfl_ X).alloc_ _).drew_.trans_ hx6).only (set8_only _ _ _ _ _ _ _ _ _ _) (Nat.le_refl _)
          clear hc12 hf12 hb12
          unfold set8 at hb13 hx13
          generalize World.setCell _ ⟨X.heap.size, 7, none⟩ (.int .i64 q) = X13 at hb13 hx13 ⊢
          obtain ⟨pb, hpb⟩ : ∃ pb, X.heap.size = pb := ⟨_, rfl⟩
          have hpg : X.heap.size ≤ pb := Nat.le_of_eq hpb
          rw [hpb] at hb13
          rw [hpb]
          clear hx6 hpb
          have s13 := s5.ext hx13
          have hf13 := hf5.ext_ hx13
          have la13 := la.ext_ hx13
          have lp13 : Loc X13 ρ4.own pb 27 [.int .i64 7, .bool false, .int .i64 0, .int .i64 0, .string ByteArray.empty, .int .i64 0, .int .i64 f, .int .i64 q] := ⟨by simpa using hb13, Roles.not_own (s5.fresh hpg)⟩
          clear hb13
          obtain ⟨g, hg⟩ : ∃ g : Nat, (b : Int) % (on : Int) = g := ⟨b % on, by simp⟩
          have hgl : g < on := by have := Int.emod_lt_of_pos (b : Int) (show (0 : Int) < on by omega); omega
          have hHg := Lib.hid hg
          clear hg
          go_upto_region 17 with fail
          rw [hHg.out]
          have hca := la13.blk.cell
          have hcp := lp13.blk.cell
          by_cases hfit : on < g + q
          · have hno := do_pi_no (cc := 3) (s13.ext ((Ext.rfl_ X13).alloc_ (.cells #[.int .i64 7, .bool false, .int .i64 0, .int .i64 0, .string ByteArray.empty, .int .i64 0, .int .i64 0, .int .i64 on, .int .i64 1, .bool false, .int .i64 0, .int .i64 g, .string ByteArray.empty, .int .i64 0, .int .i64 0, .int .i64 0, .int .i64 7, .bool false, .int .i64 0, .int .i64 0, .string ByteArray.empty, .int .i64 0, .int .i64 f, .int .i64 q] 27)))
              false 0 ByteArray.empty 0 0 on false 0 ByteArray.empty 0 0 0 g false 0 ByteArray.empty 0 f q (View.of_blk (n := 3) (Blk.new X13 27 _) rfl) (ints on) rfl (by rw [ints_len]; omega) (ints on) rfl (by rw [ints_len]; omega) (.inr ⟨by omega, by omega⟩) (by omega) (by omega) (by omega)
            have hNo := Lib.hid hno
            clear hno
            have hfit' : (on : Int) < (g : Int) + q := by omega
            go_upto_region 18 with (
              go_at_call 58
              refine hNo.out.mono ?_
              rintro e w14 ⟨rfl, hx14⟩)
            clear hca hcp hNo
            have hx14' : Ext X13 w14 := ((Ext.rfl_ X13).alloc_ _).trans_ hx14
            have hcp := (lp13.blk.ext hx14').cell
            go_wp2_with fail
            go_ret
            exact ⟨rfl, (hf13.ext_ hx14').ext⟩
          · have hyes := do_pi_ok (cc := 3) (s13.ext ((Ext.rfl_ X13).alloc_ (.cells #[.int .i64 7, .bool false, .int .i64 0, .int .i64 0, .string ByteArray.empty, .int .i64 0, .int .i64 0, .int .i64 on, .int .i64 1, .bool false, .int .i64 0, .int .i64 g, .string ByteArray.empty, .int .i64 0, .int .i64 0, .int .i64 0, .int .i64 7, .bool false, .int .i64 0, .int .i64 0, .string ByteArray.empty, .int .i64 0, .int .i64 f, .int .i64 q] 27)))
              false 0 ByteArray.empty 0 0 on false 0 ByteArray.empty 0 0 0 g false 0 ByteArray.empty 0 f q (View.of_blk (n := 3) (Blk.new X13 27 _) rfl) rfl (ints on) rfl (by rw [ints_len]; omega) (ints on) rfl (by rw [ints_len]; omega) (by omega) (fun o ho => ints_k (List.mem_of_mem_drop (List.mem_of_mem_take ho))) (by simp)
            have hYes := Lib.hid hyes
            clear hyes
            have hfit' : ¬ (on : Int) < (g : Int) + q := by omega
            go_upto_region 18 with (
              go_at_call 58
              refine hYes.out.mono ?_
              rintro e w14 ⟨⟨va, vn, vc⟩, rfl, hrow14, -, h14, ρ14, s14, m14⟩)
            have hvn : vn = 0 := by have := hrow14.len; rw [length_obCells] at this; simp at this; omega
            subst hvn
            clear hca hcp hYes hrow14
            have m14' : Moves X13 w14 ρ4.own ρ14.own := Moves.ext_left ((Ext.rfl_ X13).alloc_ _) m14
            have hf14 := hf13.moves m14'
            have la14 := la13.moves m14'
            have lp14 := lp13.moves m14'
            have hcp := lp14.blk.cell
            go_upto_region 20 with fail
            have hca := la14.blk.cell
            have hNl : (splice (ints on) (0 + g) (((ints on).drop f).take q)).length = on := by rw [length_splice _ _ _ (by simp [ints_len]; omega), ints_len]
            have hHN := Lib.hid hNl
            clear hNl
            go_upto_region 21 with (
              go_at_call 17
              refine (items_ok s14 false 0 0 ByteArray.empty 0 0 on (splice (ints on) (0 + g) (((ints on).drop f).take q)) rfl (by rw [hHN.out]; omega)).mono ?_
              rintro e w15 ⟨⟨ia, im, ic⟩, rfl, hin, hfr15⟩
              dsimp only at hin
              subst hin)
            obtain ⟨hr15, -, hx15⟩ := hfr15
            have hr15' : Row w15 27 8 ⟨ia, im, ic⟩ (obCells (splice (ints im) (0 + g) (((ints im).drop f).take q))) := by
              have e : (List.drop 0 (splice (ints im) (0 + g) (((ints im).drop f).take q))).take im = splice (ints im) (0 + g) (((ints im).drop f).take q) := by
                rw [List.drop_zero, List.take_of_length_le (by rw [hHN.out]; omega)]
              rw [e] at hr15
              exact hr15
            obtain ⟨gi, hga, hgb⟩ := hr15'.pos (show 0 < im by omega)
            dsimp only at hga
            subst hga
            clear hca hcp hr15
            have hcp := (lp14.blk.ext hx15).cell
            have hcap15 := hr15'.cap_le
            simp only [maxLen] at hcap15
            go_upto_region 22 with fail
            go_loopg [23, 24] im (fun gk s23 s24 wr => wr = w15 ∧ ∃ i : Nat, i ≤ im ∧ gk = im - i ∧ s23 = .int .i64 i)
            case atStart => exact ⟨rfl, 0, Nat.zero_le _, rfl, rfl⟩
            case round =>
              obtain ⟨hwr, i, hi, hgk, hs23⟩ := hrel
              subst hwr
              subst hs23
              by_cases hlt : i < im
              · have hlt' : (i : Int) < im := by omega
                obtain ⟨-, -, -, c3, -⟩ := hr15'.ob (off := i * 8) (q := i) rfl (mv_get (by omega) (by omega) hlt) rfl
                dsimp only at c3
                by_cases hin1 : g ≤ i
                · by_cases hin2 : i < g + q
                  · rw [if_pos ⟨hin1, hin2⟩] at c3
                    have h1' : (g : Int) ≤ i := by omega
                    have h2' : (i : Int) < (g : Int) + q := by omega
                    have hf0 := hHf.out
                    go_wp2_with fail
                    go_roundg (im - (i + 1))
                    case measure => omega
                    case rel => exact ⟨rfl, i + 1, by omega, rfl, by simp⟩
                  · rw [if_neg (by omega)] at c3
                    have h1' : (g : Int) ≤ i := by omega
                    have h2' : ¬ (i : Int) < (g : Int) + q := by omega
                    go_wp2_with fail
                    go_roundg (im - (i + 1))
                    case measure => omega
                    case rel => exact ⟨rfl, i + 1, by omega, rfl, by simp⟩
                · rw [if_neg (by omega)] at c3
                  have h1' : ¬ (g : Int) ≤ i := by omega
                  go_wp2_with fail
                  go_roundg (im - (i + 1))
                  case measure => omega
                  case rel => exact ⟨rfl, i + 1, by omega, rfl, by simp⟩
              · go_wp2_with fail
                go_ret
                exact ⟨rfl, (hf14.ext_ hx15).ext⟩
end Go.Proofs.Ythhckledkhcfeaa
