/- The law StoreParts: its walk returns true for all small numbers, and only new memory is laid. -/
import Derived.Test.YthhckledkhcfeaaLawA
import Derived.Deep.LoopGhost
namespace Go.Proofs.Ythhckledkhcfeaa
open Go.RowKit
section
/-- A list of n things, of which j, from f on, are 1, 2, .. -/
def laidN (n f j : Nat) : List Ob := (List.range n).map fun i => if f ≤ i ∧ i < f + j then ⟨1, false, 0, (i : Int) - f + 1, ByteArray.empty, 0, 0, 0⟩ else Ob.null
theorem laidN_len (n f j : Nat) : (laidN n f j).length = n := by simp [laidN]
theorem laidN_zero (n f : Nat) : List.replicate n Ob.null = laidN n f 0 := by
  apply List.ext_getElem?
  intro i
  by_cases h : i < n <;> simp [laidN, h]
theorem laidN_get {n f j i : Nat} (h : i < n) : (laidN n f j)[i]? = some (if f ≤ i ∧ i < f + j then ⟨1, false, 0, (i : Int) - f + 1, ByteArray.empty, 0, 0, 0⟩ else Ob.null) := by simp [laidN, h]
theorem laidN_set (n f j : Nat) : (laidN n f j).set (f + j) ⟨1, false, 0, (j : Int) + 1, ByteArray.empty, 0, 0, 0⟩ = laidN n f (j + 1) := by
  apply List.ext_getElem?
  intro i
  by_cases h : i < n
  · rw [List.getElem?_set, laidN_get h, laidN_get h, laidN_len]
    by_cases hi : f + j = i
    · subst hi
      simp [h]
      omega
    · rw [if_neg hi]
      congr 1
      by_cases hc : f ≤ i ∧ i < f + j
      · rw [if_pos hc, if_pos (by omega)]
      · rw [if_neg hc, if_neg (by omega)]
  · rw [List.getElem?_eq_none (by simp [laidN_len]; omega), List.getElem?_eq_none (by simp [laidN_len]; omega)]
theorem isA_valid {σ : St} {o : Ob} {k : Int} (h : σ.isA o k = true) : σ.valid o = true := by
  simp only [St.isA, Bool.and_eq_true] at h; exact h.2
theorem valid_plain {σ : St} {o : Ob} (h6 : o.k ≠ 6) (h7 : o.k ≠ 7) (h8 : o.k ≠ 8) : σ.valid o = true := by
  simp [St.valid, h6, h7, h8]
/-- The state in the law: one array. -/
def one (n : Nat) (l : List Ob) : St := { St.empty 2000 with free := 2000 - (1 + n), lists := [l] }
variable {w : World} {p : Nat} {h : Hd} {ρ : Roles}
theorem part_one {n : Nat} {l : List Ob} (s : Sto w p (one n l) h ρ) {f m from_ k fa : Nat} (hfm : f + m ≤ l.length) (hk : from_ + k ≤ m) (hfa : fa = f + from_) :
    Calls Try.prog 15 #[.pointer (some ⟨p, 0, none⟩), .agg #[.int .i64 7, .bool false, .int .i64 0, .int .i64 0, .string ByteArray.empty, .int .i64 0, .int .i64 f, .int .i64 m], .int .i64 from_, .int .i64 k] w fun e w' =>
      e = .returned (.tuple #[.agg #[.int .i64 7, .bool false, .int .i64 0, .int .i64 0, .string ByteArray.empty, .int .i64 0, .int .i64 fa, .int .i64 k], .int .i64 0]) ∧ Ext w w' := by
  subst hfa
  exact part_ok s 7 false 0 0 ByteArray.empty 0 f m from_ k (.inr rfl) (isA_valid (isA_arr (r := 0) (b := l) rfl hfm)) (by omega) (by omega) (by omega) (by omega)
theorem put_one {n : Nat} {f m j : Nat} (s : Sto w p (one n (laidN n f j)) h ρ) (hfm : f + m ≤ n) (hj : j < m) :
    Calls Try.prog 16 #[.pointer (some ⟨p, 0, none⟩), .agg #[.int .i64 7, .bool false, .int .i64 0, .int .i64 0, .string ByteArray.empty, .int .i64 0, .int .i64 f, .int .i64 m], .int .i64 j,
        .agg #[.int .i64 1, .bool false, .int .i64 0, .int .i64 ((j : Int) + 1), .string ByteArray.empty, .int .i64 0, .int .i64 0, .int .i64 0]] w fun e w' =>
      e = .returned (.int .i64 0) ∧ StoTo w w' p ρ (one n (laidN n f (j + 1))) := by
  have := put_ok s false 0 0 ByteArray.empty 0 f m j (laidN n f j) Ob.null rfl (by rw [laidN_len]; exact hfm) hj (by rw [laidN_get (by omega), if_neg (by omega)]) 1 false 0 ((j : Int) + 1) ByteArray.empty 0 0 0 (valid_plain (show (1 : Int) ≠ 6 by decide) (show (1 : Int) ≠ 7 by decide) (show (1 : Int) ≠ 8 by decide)) (by simp [one, St.empty])
  refine this.mono fun e w' ⟨he, hs⟩ => ⟨he, ?_⟩
  have hst : ({ (one n (laidN n f j)).noted ⟨0, (0 : Nat), (f : Int) + j, (Ob.null, Ob.null)⟩ with lists := (one n (laidN n f j)).lists.set 0 ((laidN n f j).set (f + j) ⟨1, false, 0, (j : Int) + 1, ByteArray.empty, 0, 0, 0⟩) } : St) = one n (laidN n f (j + 1)) := by
    rw [laidN_set]
    rfl
  rw [← hst]
  exact hs

abbrev objOf (f m : Nat) : Array Value := #[.int .i64 7, .bool false, .int .i64 0, .int .i64 0, .string ByteArray.empty, .int .i64 0, .int .i64 f, .int .i64 m]
theorem array_one (s : Sto w p (.empty 2000) h ρ) (n f : Nat) (h0 : n ≤ 255) :
    Calls Try.prog 13 #[.pointer (some ⟨p, 0, none⟩), .int .i64 n] w fun e w' =>
      e = .returned (.tuple #[.agg #[.int .i64 7, .bool false, .int .i64 0, .int .i64 0, .string ByteArray.empty, .int .i64 0, .int .i64 0, .int .i64 n], .int .i64 0]) ∧ StoTo w w' p ρ (one n (laidN n f 0)) := by
  have := array_ok s n (by omega) (by simp [St.empty]; omega)
  rw [laidN_zero n f] at this
  exact this
theorem put_one_no {n : Nat} {f m q : Nat} {i : Int} (s : Sto w p (one n (laidN n f q)) h ρ) (hfm : f + m ≤ n) (hi : i < 0 ∨ (m : Int) ≤ i) :
    Calls Try.prog 16 #[.pointer (some ⟨p, 0, none⟩), .agg #[.int .i64 7, .bool false, .int .i64 0, .int .i64 0, .string ByteArray.empty, .int .i64 0, .int .i64 f, .int .i64 m], .int .i64 i,
        .agg #[.int .i64 0, .bool false, .int .i64 0, .int .i64 0, .string ⟨#[]⟩, .int .i64 0, .int .i64 0, .int .i64 0]] w fun e w' => e = .returned (.int .i64 11) ∧ Ext w w' :=
  put_range s false 0 0 ByteArray.empty 0 f m i (laidN n f q) rfl (by rw [laidN_len]; exact hfm) hi 0 false 0 0 ⟨#[]⟩ 0 0 0 (valid_plain (show (0 : Int) ≠ 6 by decide) (show (0 : Int) ≠ 7 by decide) (show (0 : Int) ≠ 8 by decide))
set_option maxHeartbeats 1000000 in
set_option maxRecDepth 100000 in
theorem StoreParts_walk (n from_ size more less : Nat) (h0 : n ≤ 255) (h1 : from_ ≤ 255) (h2 : size ≤ 255) (h3 : more ≤ 255) (h4 : less ≤ 255) (hf : from_ + size ≤ n) (hg : more + less ≤ size) (w : World) :
    Calls Try.prog 3 #[.int .u8 n, .int .u8 from_, .int .u8 size, .int .u8 more, .int .u8 less] w fun e w' => e = .returned (.bool true) ∧ Ext w w' := by
  obtain ⟨f2, hf2⟩ : ∃ f2, f2 = from_ + more := ⟨_, rfl⟩
  have hF2 := Lib.hid hf2
  clear hf2
  have ha0 : ∀ b, (Roles.one w.heap.size).own b → w.heap.size ≤ b := fun b hb => by rw [Roles.one_own hb]; exact Nat.le_refl _
  go_enter Try.func3, Try.ntmps3
  go_upto_region 2 with (
    go_at_call 12
    refine (new_ok 2000 w (by omega) (by omega)).mono ?_
    rintro e w1 ⟨rfl, s1, hx1⟩)
  go_upto_region 3 with (
    go_at_call 13
    refine (array_one s1 n f2 h0).mono ?_
    rintro e w2 ⟨rfl, h2', ρ2, s2, hm2⟩)
  have hx2 : Ext w w2 := (Moves.ext_left hx1 hm2).below (B := w.heap.size) ha0 (Nat.le_refl _)
  generalize hX : World.alloc w2 _ = X
  obtain ⟨hx, hcX, hfX, hzX, hbX⟩ := boxed hX
  clear hX
  have s3 := s2.ext hx
  go_upto_region 5 with (
    go_at_call 14
    refine (answers_c _).mono ?_
    rintro e w3 ⟨rfl, hx3⟩)
  have s4 := s3.ext hx3
  have hb13 := hbX.ext hx3
  have hc13 := hb13.cell
  go_upto_region 6 with (
    go_at_call 15
    refine (part_one (f := 0) (m := n) (from_ := from_) (k := size) (fa := from_) s4 (by rw [laidN_len]; omega) (by omega) (by omega)).mono ?_
    rintro e w4 ⟨rfl, hx4⟩)
  have s5 := s4.ext hx4
  have hb13' := hb13.ext hx4
  clear hc13
  generalize hY : World.alloc w4 _ = Y
  obtain ⟨hy, hcY, hfY, hzY, hbY⟩ := boxed hY
  clear hY
  have s6 := s5.ext hy
  have fit : (decide ((from_ : Int) + size ≤ n)) = true := by rw [decide_eq_true_eq]; omega
  have deep : (decide ((more : Int) + less ≤ size)) = true := by rw [decide_eq_true_eq]; omega
  go_upto_region 9 with fail
  go_upto_region 10 with (
    go_at_call 15
    refine (part_one (f := from_) (m := size) (from_ := more) (k := less) (fa := f2) s6 (by rw [laidN_len]; omega) (by omega) hF2.out).mono ?_
    rintro e w5 ⟨rfl, hx5⟩)
  have s7 := s6.ext hx5
  have hb13'' := (hb13'.ext hy).ext hx5
  clear hcX hcY hfX hfY
  generalize hZ : World.alloc w5 _ = Z
  obtain ⟨hz, hcZ, hfZ, hzZ, hbZ⟩ := boxed hZ
  clear hZ hcZ hfZ
  have s8 := s7.ext hz
  have hb13 := hb13''.ext hz
  have hb18 := hbZ
  have e5 : Ext w2 Z := ((((hx.trans_ hx3).trans_ hx4).trans_ hy).trans_ hx5).trans_ hz
  have hz2 : w2.heap.size ≤ w5.heap.size := ((((hx.trans_ hx3).trans_ hx4).trans_ hy).trans_ hx5).size
  have hw2 := hx2.size
  clear hb13' hb13'' hbX hbY hbZ s7 s6 s5 s4 s3
  go_wp2_with fail
  go_loopg [10, 21] less (fun k s10 s21 wr => s10 = .bool false ∧ ∃ j : Nat, j ≤ less ∧ k = less - j ∧ s21 = .int .i64 j ∧ ∃ h' ρ', Sto wr w.heap.size (one n (laidN n f2 j)) h' ρ' ∧ Moves Z wr ρ2.own ρ'.own)
  case atStart => exact ⟨rfl, 0, by omega, by omega, rfl, _, _, s8, Moves.refl_ _ _⟩
  case round =>
    obtain ⟨hs10, j, hj, hk, hs21, h', ρ', s, hm⟩ := hrel
    subst hs10
    subst hs21
    have hb := hb18.moves hm (Roles.not_own (s2.fresh (by omega)))
    by_cases hlt : j < less
    · have hc := hb.cell
      go_wp2_with (
        go_at_call 16
        refine (put_one (f := f2) (m := less) s (by have := hF2.out; omega) hlt).mono ?_
        rintro e w6 ⟨rfl, h6, ρ6, s9, hm9⟩)
      go_roundg (less - (j + 1))
      case measure => omega
      case rel => exact ⟨rfl, j + 1, by omega, rfl, by simp, h6, ρ6, s9, hm.trans_ hm9⟩
    · obtain rfl : j = less := by omega
      have hbo := hb13.moves hm (Roles.not_own (s2.fresh (by omega)))
      have hc := hbo.cell
      go_upto_region 19 with (
        go_at_call 17
        refine (items_ok s false 0 0 ByteArray.empty 0 0 n _ rfl (by rw [laidN_len]; omega)).mono ?_
        rintro e w6 ⟨⟨a, m, c⟩, rfl, hvn, hfr⟩
        dsimp only at hvn
        subst hvn)
      rw [List.drop_zero, List.take_of_length_le (by rw [laidN_len]; exact Nat.le_refl _)] at hfr
      have hcap := hfr.1.cap_le
      dsimp only at hcap
      go_wp2_with fail
      go_loopg [10, 24] m (fun k s10 s24 wr => wr = w6 ∧ s10 = .bool false ∧ ∃ i : Nat, i ≤ m ∧ k = m - i ∧ s24 = .int .i64 i)
      case atStart => exact ⟨rfl, rfl, 0, by omega, by omega, rfl⟩
      case round =>
        obtain ⟨hwr, hs10, i, hi, hk, hs24⟩ := hrel
        subst hwr
        subst hs10
        subst hs24
        by_cases hlt2 : i < m
        · obtain ⟨g, ha, hg⟩ := hfr.1.pos (show 0 < m by omega)
          dsimp only at ha
          subst ha
          have hq := laidN_get (f := f2) (j := j) hlt2
          have hf2 : (f2 : Int) = from_ + more := by have := hF2.out; omega
          by_cases hin : f2 ≤ i ∧ i < f2 + j
          · rw [if_pos hin] at hq
            obtain ⟨-, -, -, hcell, -⟩ := hfr.1.ob (off := i * 8) rfl hq rfl
            rw [hf2, show (i : Int) - (from_ + more) + 1 = i - from_ - more + 1 by omega] at hcell
            have q1 : 1 ≤ (i : Int) - from_ - more + 1 := by omega
            have q2 : (i : Int) - from_ - more + 1 ≤ j := by omega
            clear hin hf2 hq
            go_wp2_with fail
            go_roundg (m - (i + 1))
            case measure => omega
            case rel => exact ⟨rfl, rfl, i + 1, by omega, rfl, by simp⟩
          · rw [if_neg hin] at hq
            obtain ⟨-, -, -, hcell, -⟩ := hfr.1.ob (off := i * 8) rfl hq rfl
            have q1 : (i : Int) - from_ - more + 1 < 1 ∨ (1 ≤ (i : Int) - from_ - more + 1 ∧ (j : Int) < (i : Int) - from_ - more + 1) := by omega
            clear hin hf2 hq
            rcases q1 with q1 | ⟨q1, q2⟩
            all_goals
              go_wp2_with fail
              go_roundg (m - (i + 1))
              case measure => omega
              case rel => exact ⟨rfl, rfl, i + 1, by omega, rfl, by simp⟩
        · obtain rfl : i = m := by omega
          have s10 := s.ext hfr.2.2
          have hb' := hb.ext hfr.2.2
          have hc' := hb'.cell
          have hput := fun (W : World) (hW : Ext wr W) (i : Int) (hi : i < 0 ∨ (j : Int) ≤ i) => put_one_no (f := f2) (m := j) (s.ext (hfr.2.2.trans_ hW)) (by have := hF2.out; omega) hi
          have hPut := Lib.hid hput
          clear hput
          go_wp2_with (first
            | (go_at_call 16; refine (hPut.out w7 hx7 (-1) (.inl (by omega))).mono ?_; rintro e w8 ⟨rfl, hx8⟩)
            | (go_at_call 16; refine (hPut.out wr (Ext.rfl_ wr) j (.inr (Int.le_refl _))).mono ?_; rintro e w7 ⟨rfl, hx7⟩; have hc7 := (hb'.ext hx7).cell))
          go_ret
          refine ⟨rfl, ?_⟩
          have hm0 := Moves.ext_left e5 hm
          have hxw : Ext w _ := ((Moves.ext_left hx1 hm2).trans_ hm0).below (B := w.heap.size) ha0 (Nat.le_refl _)
          exact ((hxw.trans_ hfr.2.2).trans_ hx7).trans_ hx8
set_option maxHeartbeats 1000000 in
set_option maxRecDepth 100000 in
theorem StoreParts_no1 (n from_ size more less : Nat) (h0 : n ≤ 255) (h1 : from_ ≤ 255) (h2 : size ≤ 255) (h3 : more ≤ 255) (h4 : less ≤ 255) (hf : n < from_ + size) (w : World) :
    Calls Try.prog 3 #[.int .u8 n, .int .u8 from_, .int .u8 size, .int .u8 more, .int .u8 less] w fun e w' => e = .returned (.bool true) ∧ Ext w w' := by
  obtain ⟨f2, hf2⟩ : ∃ f2, f2 = from_ + more := ⟨_, rfl⟩
  have hF2 := Lib.hid hf2
  clear hf2
  have ha0 : ∀ b, (Roles.one w.heap.size).own b → w.heap.size ≤ b := fun b hb => by rw [Roles.one_own hb]; exact Nat.le_refl _
  go_enter Try.func3, Try.ntmps3
  go_upto_region 2 with (
    go_at_call 12
    refine (new_ok 2000 w (by omega) (by omega)).mono ?_
    rintro e w1 ⟨rfl, s1, hx1⟩)
  go_upto_region 3 with (
    go_at_call 13
    refine (array_one s1 n f2 h0).mono ?_
    rintro e w2 ⟨rfl, h2', ρ2, s2, hm2⟩)
  have hx2 : Ext w w2 := (Moves.ext_left hx1 hm2).below (B := w.heap.size) ha0 (Nat.le_refl _)
  generalize hX : World.alloc w2 _ = X
  obtain ⟨hx, hcX, hfX, hzX, hbX⟩ := boxed hX
  clear hX
  have s3 := s2.ext hx
  go_upto_region 5 with (
    go_at_call 14
    refine (answers_c _).mono ?_
    rintro e w3 ⟨rfl, hx3⟩)
  have s4 := s3.ext hx3
  have hb13 := hbX.ext hx3
  have hc13 := hb13.cell
  go_upto_region 6 with (
    go_at_call 15
    refine (part_range s4 7 false 0 0 ByteArray.empty 0 (0 : Nat) n from_ size (.inr rfl) (isA_valid (isA_arr (r := 0) (b := laidN n f2 0) rfl (by rw [laidN_len]; omega))) (by omega)).mono ?_
    rintro e w4 ⟨rfl, hx4⟩)
  have s5 := s4.ext hx4
  have hb13' := hb13.ext hx4
  clear hc13
  have fit : (decide ((from_ : Int) + size ≤ n)) = false := by rw [decide_eq_false_iff_not]; omega
  go_wp2_with fail
  go_ret
  exact ⟨rfl, ((((hx2.trans_ hx).trans_ hx3).trans_ hx4).alloc_ _)⟩
set_option maxHeartbeats 1000000 in
set_option maxRecDepth 100000 in
theorem StoreParts_no2 (n from_ size more less : Nat) (h0 : n ≤ 255) (h1 : from_ ≤ 255) (h2 : size ≤ 255) (h3 : more ≤ 255) (h4 : less ≤ 255) (hf : from_ + size ≤ n) (hg : size < more + less) (w : World) :
    Calls Try.prog 3 #[.int .u8 n, .int .u8 from_, .int .u8 size, .int .u8 more, .int .u8 less] w fun e w' => e = .returned (.bool true) ∧ Ext w w' := by
  obtain ⟨f2, hf2⟩ : ∃ f2, f2 = from_ + more := ⟨_, rfl⟩
  have hF2 := Lib.hid hf2
  clear hf2
  have ha0 : ∀ b, (Roles.one w.heap.size).own b → w.heap.size ≤ b := fun b hb => by rw [Roles.one_own hb]; exact Nat.le_refl _
  go_enter Try.func3, Try.ntmps3
  go_upto_region 2 with (
    go_at_call 12
    refine (new_ok 2000 w (by omega) (by omega)).mono ?_
    rintro e w1 ⟨rfl, s1, hx1⟩)
  go_upto_region 3 with (
    go_at_call 13
    refine (array_one s1 n f2 h0).mono ?_
    rintro e w2 ⟨rfl, h2', ρ2, s2, hm2⟩)
  have hx2 : Ext w w2 := (Moves.ext_left hx1 hm2).below (B := w.heap.size) ha0 (Nat.le_refl _)
  generalize hX : World.alloc w2 _ = X
  obtain ⟨hx, hcX, hfX, hzX, hbX⟩ := boxed hX
  clear hX
  have s3 := s2.ext hx
  go_upto_region 5 with (
    go_at_call 14
    refine (answers_c _).mono ?_
    rintro e w3 ⟨rfl, hx3⟩)
  have s4 := s3.ext hx3
  have hb13 := hbX.ext hx3
  have hc13 := hb13.cell
  go_upto_region 6 with (
    go_at_call 15
    refine (part_one (f := 0) (m := n) (from_ := from_) (k := size) (fa := from_) s4 (by rw [laidN_len]; omega) (by omega) (by omega)).mono ?_
    rintro e w4 ⟨rfl, hx4⟩)
  have s5 := s4.ext hx4
  have hb13' := hb13.ext hx4
  clear hc13
  generalize hY : World.alloc w4 _ = Y
  obtain ⟨hy, hcY, hfY, hzY, hbY⟩ := boxed hY
  clear hY
  have s6 := s5.ext hy
  have fit : (decide ((from_ : Int) + size ≤ n)) = true := by rw [decide_eq_true_eq]; omega
  have deep : (decide ((more : Int) + less ≤ size)) = false := by rw [decide_eq_false_iff_not]; omega
  go_upto_region 9 with fail
  go_upto_region 10 with (
    go_at_call 15
    refine (part_range s6 7 false 0 0 ByteArray.empty 0 from_ size more less (.inr rfl) (isA_valid (isA_arr (r := 0) (b := laidN n f2 0) rfl (by rw [laidN_len]; omega))) (by omega)).mono ?_
    rintro e w5 ⟨rfl, hx5⟩)
  go_wp2_with fail
  go_ret
  exact ⟨rfl, ((((((hx2.trans_ hx).trans_ hx3).trans_ hx4).trans_ hy).trans_ hx5).alloc_ _)⟩
theorem StoreParts_c (n from_ size more less : Nat) (h0 : n ≤ 255) (h1 : from_ ≤ 255) (h2 : size ≤ 255) (h3 : more ≤ 255) (h4 : less ≤ 255) (w : World) :
    Calls Try.prog 3 #[.int .u8 n, .int .u8 from_, .int .u8 size, .int .u8 more, .int .u8 less] w fun e w' => e = .returned (.bool true) ∧ Ext w w' := by
  by_cases hf : from_ + size ≤ n
  · by_cases hg : more + less ≤ size
    · exact StoreParts_walk n from_ size more less h0 h1 h2 h3 h4 hf hg w
    · exact StoreParts_no2 n from_ size more less h0 h1 h2 h3 h4 hf (by omega) w
  · exact StoreParts_no1 n from_ size more less h0 h1 h2 h3 h4 (by omega) w
end
end Go.Proofs.Ythhckledkhcfeaa
