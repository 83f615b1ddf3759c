/- CollFound: its walk. -/
import Derived.Test.YthhckledkhcfeaaCoJ
import Derived.Test.YthhckledkhcfeaaSvK
import Derived.Lib.IndexLaws
namespace Go.Proofs.Ythhckledkhcfeaa
open Go.RowKit
theorem View.first {w : World} {A : Option Addr} {n m : Nat} {l : List UInt8} (h : View w 1 A n (byteCells l)) (hm : m ≤ n) : View w 1 A m (byteCells (l.take m)) := by
  have hl : l.length = n := by have := h.1; simp [byteCells] at this; exact this
  refine ⟨by simp [byteCells]; omega, fun h0 => ?_⟩
  have h1 : 0 < m := by simp [byteCells] at h0; omega
  obtain ⟨g, o, rfl, hg, hj⟩ := h.2 (by simp [byteCells]; omega)
  refine ⟨g, o, rfl, hg, fun j u hu => hj j u ?_⟩
  simp only [byteCells, List.getElem?_map, List.getElem?_take] at hu ⊢
  split at hu
  · exact hu
  · cases hu
theorem run_mid {A : Option Addr} {n c lo m : Nat} (hlo : lo + m ≤ c) (W : World) : (Instr.slice 45 (.slice A n c) (some (.int .i64 lo)) (some (.int .i64 ((lo : Int) + m))) none).run Try.prog W = .ok (.slice (restA A c lo) m (c - lo)) W := by
  obtain ⟨i, hi, -, hs, -⟩ := info_parts info_u8
  have he : Try.prog.elem 45 = 5 := by simp [Program.elem, Try.underlying45]
  rw [run_slice_lh (w := W) 45 A n c (by rw [he]; exact Try.underlying45) .i64 .i64 lo ((lo : Int) + m) (by omega) (by omega) (by omega), he, run_sizeOf W hi]
  have c5 : Try.prog.cellsOf 5 = 1 := by kernel_rfl
  have e : ((lo : Int) + m).toNat - lo = m := by omega
  simp [Result.andThen, sliced, restA, c5, e]
theorem run_mid_ {A : Option Addr} {n c lo m : Nat} {R : Option Addr} (hR : restA A c lo = R) (hlo : lo + m ≤ c) (W : World) : (Instr.slice 45 (.slice A n c) (some (.int .i64 lo)) (some (.int .i64 ((lo : Int) + m))) none).run Try.prog W = .ok (.slice R m (c - lo)) W := hR ▸ run_mid hlo W
theorem occ_take {T P : List UInt8} {i : Nat} (h : i + P.length ≤ T.length) : Lib.occAt T P i = true ↔ (T.drop i).take P.length = P := by
  rw [Lib.occAt_iff_take T P i h, beq_iff_eq]
theorem str_ne {a b : List UInt8} (h : ¬ a = b) : ¬ (⟨a.toArray⟩ : ByteArray) = ⟨b.toArray⟩ := fun e => h (by
  have := congrArg (fun x : ByteArray => x.data.toList) e
  simpa using this)
theorem str_cat (a b c : List UInt8) : (⟨a.toArray⟩ : ByteArray) ++ ⟨b.toArray⟩ ++ ⟨c.toArray⟩ = ⟨(a ++ b ++ c).toArray⟩ := by
  apply ByteArray.ext
  simp [ByteArray.data_append]
theorem cut3 {T : List UInt8} {i m : Nat} (h : i + m ≤ T.length) : (T.drop 0).take i ++ (T.drop i).take m ++ (T.drop (i + m)).take (T.length - i - m) = T := by
  rw [List.drop_zero, List.take_of_length_le (l := T.drop (i + m)) (by simp; omega), List.append_assoc, ← List.drop_drop, List.take_append_drop, List.take_append_drop]
set_option maxRecDepth 100000 in
set_option maxHeartbeats 4000000 in
theorem CollFound_walk {A B : Option Addr} {c d : Nat} {T U : List UInt8} {M : Int} (w : World) (hM : w.cell? ⟨0, 0, none⟩ = some (.int .i64 M)) (hT : View w 1 A T.length (byteCells T)) (hU : View w 1 B U.length (byteCells U))
    (hTl : T.length ≤ 9223372036854775807) (hUl : U.length ≤ 9223372036854775807) (hTc : T.length ≤ c) (hTc2 : c ≤ 9223372036854775807) :
    Calls Try.prog 10 #[.slice A T.length c, .slice B U.length d] w fun e w' => e = .returned (.bool true) ∧ Ext w w' := by
  obtain ⟨iB, hiB, hzB, hsB, hbB⟩ := info_parts info_u8
  have hz : 0 < w.heap.size := by
    rcases Nat.eq_zero_or_pos w.heap.size with h | h
    · exfalso
      simp [World.cell?, h] at hM
    · exact h
  obtain ⟨tn, htn⟩ : ∃ q, q = T.length := ⟨_, rfl⟩
  obtain ⟨un, hun⟩ : ∃ q, q = U.length := ⟨_, rfl⟩
  rw [← htn] at hT hTl hTc ⊢
  rw [← hun] at hU hUl ⊢
  have hHt := Lib.hid htn
  have hHu := Lib.hid hun
  have hVT := Lib.hid hT
  have hVU := Lib.hid hU
  have hHM := Lib.hid hM
  clear htn hun hT hU hM
  go_enter Try.func10, Try.ntmps10
  go_upto_region 2 with (
    go_at_call 12
    refine (new_ok 10000 w (by omega) (by omega)).mono ?_
    rintro e w1 ⟨rfl, s1, hx1⟩)
  have hf1 : Fr w w1 (Roles.own (.one w.heap.size)) := ⟨hx1, fun b hb => by rw [Roles.one_own hb]; exact Nat.le_refl _⟩
  clear hx1
  by_cases hbig : 2000 < tn
  · have hbigi : (2000 : Int) < tn := by omega
    go_upto_region 3 with (go_at_call 57; refine (answers9 _).mono ?_; rintro e w3 ⟨rfl, hq3⟩)
    go_wp2_with (go_at_call 57; refine (answers9 _).mono ?_; rintro e w4 ⟨rfl, hq4⟩)
    go_ret
    exact ⟨rfl, (hf1.ext_ (hq3.trans_ hq4)).ext⟩
  · by_cases hbig2 : 2000 < un
    · have hbigi : ¬ (2000 : Int) < tn := by omega
      have hbigj : (2000 : Int) < un := by omega
      go_upto_region 3 with (go_at_call 57; refine (answers9 _).mono ?_; rintro e w3 ⟨rfl, hq3⟩)
      go_wp2_with (go_at_call 57; refine (answers9 _).mono ?_; rintro e w4 ⟨rfl, hq4⟩)
      go_ret
      exact ⟨rfl, (hf1.ext_ (hq3.trans_ hq4)).ext⟩
    · have hbigi : ¬ (2000 : Int) < tn := by omega
      have hbigj : ¬ (2000 : Int) < un := by omega
      have ht5 : tn ≤ 2000 := by omega
      have hu5 : un ≤ 2000 := by omega
      clear hbig hbig2
      go_upto_region 4 with (go_at_call 57; refine (answers9 _).mono ?_; rintro e w3 ⟨rfl, hq3⟩)
      clear hbigi hbigj
      have s3 := s1.ext hq3
      have hf3 := hf1.ext_ hq3
      clear s1 hf1 hq3
      -- the text
      go_upto_region 5 with (first
        | (go_at_call 25
           refine (Text_ok (bs := T) (s3.ext hxA) hvA hapA (by have := hHt.out; omega) (by have := hHt.out; simp only [St.empty]; omega)).mono ?_
           rintro e w5 ⟨rfl, h5, ρ5, s5', m5⟩)
        | (at_builtin
           refine wpList_app (by rfl) _ _ _ (by rfl) 5 iB _ 1 1 Try.underlying45 hiB hzB hsB hbB rfl (by omega) ⟨some ⟨w3.heap.size, 0, none⟩, 0, 0⟩ (by rfl) (Row.lit (cs := []) (n := 0) (Blk.new w3 5 []) rfl (by omega)) (by rfl) ((hVT.out.ext hf3.ext).ext ((Ext.rfl_ _).alloc_ _)) (byteCells_one T) (by simp only [maxLen]; omega) (by dsimp only; omega) ?_
           rintro ⟨va, vn, vc⟩ w4 hrow4 hlen4 hgrow4 hat4
           have hvn : vn = T.length := by have h5 := hrow4.len; simp [byteCells] at h5; exact h5.symm
           subst hvn
           have hxA : Ext w3 w4 := ext_app hgrow4 (fun b hb => by simp [Sl.blk] at hb; omega)
           have hvA : View w4 1 va T.length (byteCells T) := by simpa using View.of_row hrow4
           have hapA : ∀ g o, va = some ⟨g, o, none⟩ → Roles.one w.heap.size g = none := fun g o hg => s3.fresh (by
             rcases hat4 with h4 | h4 <;> simp [Sl.blk, hg] at h4 <;> omega)))
      have hf5' := (hf3.ext_ hxA).moves m5
      generalize hX5 : World.alloc w5 _ = X5
      obtain ⟨hx5, -, -, -, hb5⟩ := boxed hX5
      clear hX5
      have s5 := s5'.ext hx5
      have hf5 := hf5'.ext_ hx5
      have lt : Loc X5 ρ5.own w5.heap.size 27 _ := ⟨hb5, Roles.not_own (s5'.fresh (Nat.le_refl _))⟩
      clear s5' hf5' s3 hf3 hxA hvA hapA m5 hb5 hx5 hrow4 hgrow4 hat4
      obtain ⟨fr, hfr⟩ : ∃ fr : Int, fr = 10000 - (1 + ((T.length : Int) + 7) / 8) := ⟨_, rfl⟩
      have hfr1 : 2000 ≤ fr ∧ fr ≤ 10000 := by have := hHt.out; omega
      have hσ5 : ({ St.empty 10000 with free := (St.empty 10000).free - (1 + ((T.length : Int) + 7) / 8), texts := (St.empty 10000).texts ++ [T] } : St) = ⟨fr, [T], [], [], [], []⟩ := by rw [hfr]; rfl
      rw [hσ5] at s5
      clear hfr hσ5
      -- what is sought
      go_upto_region 6 with (first
        | (go_at_call 25
           refine (Text_ok (bs := U) (s5.ext hxA) hvA hapA (by have := hHu.out; omega) (by have := hHu.out; show 1 + ((U.length : Int) + 7) / 8 ≤ fr; omega)).mono ?_
           rintro e w7 ⟨rfl, h7, ρ7, s7', m7⟩)
        | (at_builtin
           refine wpList_app (by rfl) _ _ _ (by rfl) 5 iB _ 1 1 Try.underlying45 hiB hzB hsB hbB rfl (by omega) ⟨some ⟨X5.heap.size, 0, none⟩, 0, 0⟩ (by rfl) (Row.lit (cs := []) (n := 0) (Blk.new X5 5 []) rfl (by omega)) (by rfl) ((hVU.out.ext hf5.ext).ext ((Ext.rfl_ _).alloc_ _)) (byteCells_one U) (by simp only [maxLen]; omega) (by dsimp only; omega) ?_
           rintro ⟨ua, uq, uc⟩ w6 hrow6 hlen6 hgrow6 hat6
           have hvn : uq = U.length := by have h5 := hrow6.len; simp [byteCells] at h5; exact h5.symm
           subst hvn
           have hxA : Ext X5 w6 := ext_app hgrow6 (fun b hb => by simp [Sl.blk] at hb; omega)
           have hvA : View w6 1 ua U.length (byteCells U) := by simpa using View.of_row hrow6
           have hapA : ∀ g o, ua = some ⟨g, o, none⟩ → ρ5 g = none := fun g o hg => s5.fresh (by
             rcases hat6 with h4 | h4 <;> simp [Sl.blk, hg] at h4 <;> omega)))
      have hf7' := (hf5.ext_ hxA).moves m7
      have lt7' := (lt.ext_ hxA).moves m7
      generalize hX7 : World.alloc w7 _ = X7
      obtain ⟨hx7, -, -, -, hb7⟩ := boxed hX7
      clear hX7
      have s7 := s7'.ext hx7
      have hf7 := hf7'.ext_ hx7
      have lt7 := lt7'.ext_ hx7
      have lu7 : Loc X7 ρ7.own w7.heap.size 27 _ := ⟨hb7, Roles.not_own (s7'.fresh (Nat.le_refl _))⟩
      clear s7' hf7' s5 hf5 hxA hvA hapA m7 hb7 hx7 hrow6 hgrow6 hat6 lt lt7'
      obtain ⟨f2, hf2⟩ : ∃ f2 : Int, f2 = fr - (1 + ((U.length : Int) + 7) / 8) := ⟨_, rfl⟩
      have hσ7 : ({ (⟨fr, [T], [], [], [], []⟩ : St) with free := (⟨fr, [T], [], [], [], []⟩ : St).free - (1 + ((U.length : Int) + 7) / 8), texts := (⟨fr, [T], [], [], [], []⟩ : St).texts ++ [U] } : St) = ⟨f2, [T, U], [], [], [], []⟩ := by rw [hf2]; rfl
      rw [hσ7] at s7
      clear hf2 hσ7 hfr1
      rw [← hHt.out, ← hHu.out]
      have ct := lt7.blk.cell
      have cu := lu7.blk.cell
      rw [← hHt.out] at ct
      rw [← hHu.out] at cu
      have hdo := do_se (s7.ext ((Ext.rfl_ X7).alloc_ (.cells #[.int .i64 6, .bool false, .int .i64 0, .int .i64 0, .string ByteArray.empty, .int .i64 0, .int .i64 0, .int .i64 tn, .int .i64 6, .bool false, .int .i64 0, .int .i64 0, .string ByteArray.empty, .int .i64 1, .int .i64 0, .int .i64 un] 27)))
        (((hf7.ext_ ((Ext.rfl_ X7).alloc_ (.cells #[.int .i64 6, .bool false, .int .i64 0, .int .i64 0, .string ByteArray.empty, .int .i64 0, .int .i64 0, .int .i64 tn, .int .i64 6, .bool false, .int .i64 0, .int .i64 0, .string ByteArray.empty, .int .i64 1, .int .i64 0, .int .i64 un] 27))).ext.cells hz 0).trans hHM.out) (cc := 2) false 0 ByteArray.empty 0 0 tn false 0 ByteArray.empty 1 0 un
        (View.of_blk (n := 2) (Blk.new X7 27 [.int .i64 6, .bool false, .int .i64 0, .int .i64 0, .string ByteArray.empty, .int .i64 0, .int .i64 0, .int .i64 tn, .int .i64 6, .bool false, .int .i64 0, .int .i64 0, .string ByteArray.empty, .int .i64 1, .int .i64 0, .int .i64 un]) rfl) T U rfl (by rw [hHt.out]; omega) rfl (by rw [hHu.out]; omega)
      rw [show (T.drop 0).take tn = T by rw [hHt.out]; simp, show (U.drop 0).take un = U by rw [hHu.out]; simp] at hdo
      have hD := Lib.hid hdo
      clear hdo
      go_upto_region 9 with (
        go_at_call 58
        refine hD.out.mono ?_
        rintro e w8 ⟨⟨va, vn, vc⟩, rfl, hrow, hvg, h8, ρ8, s8, m8⟩)
      clear hD ct cu
      have hf8 := (hf7.ext_ ((Ext.rfl_ X7).alloc_ _)).moves m8
      have lt8 := (lt7.ext_ ((Ext.rfl_ X7).alloc_ _)).moves m8
      have hb8 : Blk w8 w5.heap.size 27 [.int .i64 6, .bool false, .int .i64 0, .int .i64 0, .string ByteArray.empty, .int .i64 0, .int .i64 0, .int .i64 tn] := by
        have := lt8.blk
        rw [← hHt.out] at this
        exact this
      clear hf7 lt7 lu7 s7 m8 hHM lt8
      have hRow := Lib.hid hrow
      clear hrow hvg
      obtain ⟨ix, hix⟩ : ∃ ix, ix = Lib.index T U := ⟨_, rfl⟩
      rw [← hix] at hRow
      have hIx := Lib.hid hix
      clear hix
      go_upto_region 11 with fail
      have hge : -1 ≤ ix := by rw [hIx.out]; exact Lib.index_ge T U
      go_loopg [13, 14] (tn + 2) (fun gk s13 s14 wr => ∃ i : Nat, s14 = .int .i64 i ∧ i ≤ tn + 1 ∧ gk = tn + 2 - i ∧ Ext w8 wr ∧ ((s13 = .int .i64 (-1) ∧ Lib.NoOcc T U i) ∨ (s13 = .int .i64 ix ∧ 0 ≤ ix)))
      case atStart => exact ⟨0, rfl, by omega, by omega, Ext.rfl_ _, .inl ⟨rfl, Lib.NoOcc.zero T U⟩⟩
      case round =>
        obtain ⟨i, hs14, hi, hgk, hx, hat⟩ := hrel
        subst hs14
        rcases hat with ⟨hs13, hno⟩ | ⟨hs13, h0⟩
        · subst hs13
          by_cases hlt : i + un ≤ tn
          · have hlti : (i : Int) + un ≤ tn := by omega
            go_upto_region 13 with fail
            have hvT := ((hVT.out.ext (hf8.ext.trans_ hx)).rest (lo := i) (c := c) (by omega) hTc).first (m := un) (by omega)
            have hvU := hVU.out.ext (hf8.ext.trans_ hx)
            obtain ⟨R, hR⟩ : ∃ R, restA A c i = R := ⟨_, rfl⟩
            rw [hR] at hvT
            have kR := fun W => run_mid_ (n := tn) (m := un) hR (show i + un ≤ c by omega) W
            have ks1 := fun (E : ExtOf wr) => run_string (c - i) (hvT.ext E.h)
            have ks2 := fun (E : ExtOf wr) => run_string d (hvU.ext E.h)
            have hun := hHu.out
            by_cases heq : (T.drop i).take un = U
            · have hoc : Lib.occAt T U i = true := (occ_take (by rw [← hun, ← hHt.out]; exact hlt)).2 (by rw [← hun]; exact heq)
              have hixi : ix = i := by rw [hIx.out]; exact Lib.index_hit hno (by rw [← hHt.out]; omega) hoc
              rw [heq] at ks1
              clear hR hvT hvU heq hun
              refine wp_region_ext_tail 10 (by kernel_rfl) (by kernel_rfl) ?_
              simp only [List.take_succ_cons, List.take_zero, List.drop_succ_cons, List.drop_zero]
              repeat (go_big_quiet_step (fail))
              refine wpQuiet_nil fun E => ?_
              have hxE := hx.trans_ E.h
              clear ks1 ks2 kR
              go_wp2
              go_roundg (tn + 2 - (i + 1))
              case measure => omega
              case rel => exact ⟨i + 1, by simp, by omega, rfl, hxE, .inr ⟨by rw [hixi], by omega⟩⟩
            · have hoc : Lib.occAt T U i = false := by
                cases ho : Lib.occAt T U i with
                | false => rfl
                | true => exact absurd (by rw [hun]; exact (occ_take (by rw [← hun, ← hHt.out]; exact hlt)).1 ho) heq
              have hne : ((T.drop i).take un == U) = false := beq_eq_false_iff_ne.2 heq
              clear hR hvT hvU heq hun
              refine wp_region_ext_tail 10 (by kernel_rfl) (by kernel_rfl) ?_
              simp only [List.take_succ_cons, List.take_zero, List.drop_succ_cons, List.drop_zero]
              repeat (go_big_quiet_step (fail))
              refine wpQuiet_nil fun E => ?_
              have hxE := hx.trans_ E.h
              clear ks1 ks2 kR
              go_wp2
              go_roundg (tn + 2 - (i + 1))
              case measure => omega
              case rel =>
                refine ⟨i + 1, by simp, by omega, rfl, hxE, .inl ⟨rfl, fun j hj => ?_⟩⟩
                rcases Nat.lt_or_ge j i with hji | hji
                · exact hno j hji
                · obtain rfl : j = i := by omega
                  exact hoc
          · have hlti : ¬ (i : Int) + un ≤ tn := by omega
            have hixn : ix = -1 := by
              rw [hIx.out]
              have h1 := hHt.out
              have h2 := hHu.out
              refine Lib.index_past (i := i) ?_ hno (by omega)
              intro he
              subst he
              have hpos : 0 < i := by simp at h2; omega
              have := hno 0 hpos
              simp [Lib.occAt] at this
            have hrow := hRow.out.ext hx
            rw [hixn, show found false 0 ByteArray.empty 0 0 tn un (-1) = [⟨6, false, 0, 0, ByteArray.empty, 0, 0, tn⟩, ⟨3, false, 0, 0, ByteArray.empty, 0, 0, 0⟩] from rfl] at hrow
            have hvn : vn = 2 := by have := hrow.len; rw [length_obCells] at this; simp at this; omega
            subst hvn
            obtain ⟨g, hga, hgb⟩ := hrow.pos (show 0 < 2 by omega)
            have hglt := hrow.blk_lt hgb
            dsimp only at hga
            subst hga
            obtain ⟨a0, a1, a2, a3, a4, a5, a6, a7⟩ := hrow.ob (off := 0) (q := 0) rfl rfl rfl
            obtain ⟨b0, b1, b2, b3, b4, b5, b6, b7⟩ := hrow.ob (off := 8) (q := 1) rfl rfl rfl
            simp only [Nat.zero_add, Nat.reduceAdd] at a1 a2 a3 a4 a5 a6 a7 b1 b2 b3 b4 b5 b6 b7
            have cb := hb8.ext hx
            have hE := fun (W : World) => run_obEq W ⟨6, false, 0, 0, ByteArray.empty, 0, 0, tn⟩ ⟨6, false, 0, 0, ByteArray.empty, 0, 0, tn⟩
            simp only [Ob.cells, obEq_self] at hE
            go_upto_region 16 with fail
            have yc := fun (E : ExtOf wr) i => (E.cells cb.lt i).trans (cb.cell i)
            have ye := fun (E : ExtOf wr) i => E.cells hglt i
            refine wp_region_ext_tail 21 (by kernel_rfl) (by kernel_rfl) ?_
            simp only [List.take_succ_cons, List.take_zero, List.drop_succ_cons, List.drop_zero]
            repeat (go_big_quiet_step (fail))
            refine wpQuiet_nil fun E => ?_
            have hxE := hx.trans_ E.h
            clear yc ye hE
            go_wp2
            go_ret
            exact ⟨rfl, (hf8.ext_ hxE).ext⟩
        · subst hs13
          obtain ⟨j, hj⟩ : ∃ j : Nat, ix = j := ⟨ix.toNat, by omega⟩
          have hrm := Lib.index_room T U (by rw [← hIx.out]; exact h0)
          rw [← hIx.out] at hrm
          have hju : j + un ≤ tn := by have h1 := hHt.out; have h2 := hHu.out; omega
          have hoc : (T.drop j).take un = U := by
            rw [hHu.out]
            refine (occ_take (by rw [← hHu.out, ← hHt.out]; exact hju)).1 ?_
            rcases Lib.index_spec T U with ⟨h1, -⟩ | ⟨q, h1, -, h2, -⟩
            · rw [← hIx.out] at h1; omega
            · rw [← hIx.out] at h1
              obtain rfl : q = j := by omega
              exact h2
          clear hrm
          subst hj
          have hix0 : ¬ (j : Int) < 0 := by omega
          obtain ⟨b1, hb1⟩ : ∃ q, q = j + un := ⟨_, rfl⟩
          obtain ⟨e1, he1⟩ : ∃ q, q = tn - j - un := ⟨_, rfl⟩
          have hrow := hRow.out.ext hx
          rw [show found false 0 ByteArray.empty 0 0 tn un (j : Int) = [⟨6, false, 0, 0, ByteArray.empty, 0, b1, e1⟩, ⟨6, false, 0, 0, ByteArray.empty, 0, j, un⟩, ⟨6, false, 0, 0, ByteArray.empty, 0, 0, j⟩, ⟨3, false, 0, 1, ByteArray.empty, 0, 0, 0⟩] by
            rw [found, if_neg (by omega), show ((0 : Nat) : Int) + ((j : Int) + un) = (b1 : Int) by omega, show (tn : Int) - j - un = (e1 : Int) by omega]
            simp] at hrow
          have hvn : vn = 4 := by have := hrow.len; rw [length_obCells] at this; simp at this; omega
          subst hvn
          obtain ⟨g, hga, hgb⟩ := hrow.pos (show 0 < 4 by omega)
          have hglt := hrow.blk_lt hgb
          dsimp only at hga
          subst hga
          obtain ⟨a0, a1, a2, a3, a4, a5, a6, a7⟩ := hrow.ob (off := 0) (q := 0) rfl rfl rfl
          obtain ⟨b0, b1_, b2, b3, b4, b5, b6, b7⟩ := hrow.ob (off := 8) (q := 1) rfl rfl rfl
          obtain ⟨d0, d1, d2, d3, d4, d5, d6, d7⟩ := hrow.ob (off := 16) (q := 2) rfl rfl rfl
          obtain ⟨e0, e1_, e2, e3, e4, e5, e6, e7⟩ := hrow.ob (off := 24) (q := 3) rfl rfl rfl
          simp only [Nat.zero_add, Nat.reduceAdd] at a1 a2 a3 a4 a5 a6 a7 b1_ b2 b3 b4 b5 b6 b7 d1 d2 d3 d4 d5 d6 d7 e1_ e2 e3 e4 e5 e6 e7
          have cb := hb8.ext hx
          have hCB := Lib.hid cb
          have hYE := Lib.hid (fun (W : World) (hW : Ext wr W) (i : Nat) => hW.cells hglt i)
          have hHoc := Lib.hid hoc
          have hHb1 := Lib.hid hb1
          have hHe1 := Lib.hid he1
          clear hoc hb1 he1 hrow cb
          rcases (Decidable.em ((i : Int) + un ≤ tn)) with hlti | hlti
          all_goals
            go_upto_region 17 with fail
            have yc := fun (E : ExtOf wr) i => (E.cells hCB.out.lt i).trans (hCB.out.cell i)
            have ye := fun (E : ExtOf wr) i => E.cells hglt i
            refine wp_region_ext_tail 40 (by kernel_rfl) (by kernel_rfl) ?_
            simp only [List.take_succ_cons, List.take_zero, List.drop_succ_cons, List.drop_zero]
            repeat (go_big_quiet_step (fail))
            refine wpQuiet_nil fun E => ?_
            clear yc ye
            have hxE := E.h
            generalize E.w = W at hxE ⊢
            clear E
            have y := hYE.out W hxE
            go_upto_region 20 with (
              go_at_call 26
              refine (bytes_ok (s8.ext (hx.trans_ hxE)) false 0 0 ByteArray.empty 0 0 j T rfl (by have := hHt.out; omega)).mono ?_
              rintro e w9 ⟨⟨Aa, An, Ac⟩, rfl, hAn, hA⟩
              have hAn' : An = j := hAn
              clear hAn
              subst An)
            have hVA := Lib.hid (View.of_row hA.1)
            have hx9 : Ext wr w9 := hxE.trans_ hA.2.2
            clear hA y
            have y := hYE.out w9 hx9
            go_upto_region 21 with (
              go_at_call 26
              refine (bytes_ok (s8.ext (hx.trans_ hx9)) false 0 0 ByteArray.empty 0 j un T rfl (by have := hHt.out; omega)).mono ?_
              rintro e w10 ⟨⟨Ba, Bn, Bc⟩, rfl, hBn, hB⟩
              have hBn' : Bn = un := hBn
              clear hBn
              subst Bn)
            have hVB := Lib.hid (View.of_row hB.1)
            have hVA2 := Lib.hid (hVA.out.ext hB.2.2)
            have hx10 : Ext wr w10 := hx9.trans_ hB.2.2
            clear hB y hVA
            have y := hYE.out w10 hx10
            go_upto_region 22 with (
              go_at_call 26
              refine (bytes_ok (s8.ext (hx.trans_ hx10)) false 0 0 ByteArray.empty 0 b1 e1 T rfl (by have h1 := hHt.out; have h2 := hHb1.out; have h3 := hHe1.out; omega)).mono ?_
              rintro e w11 ⟨⟨Ca, Cn, Cc⟩, rfl, hCn, hC⟩
              have hCn' : Cn = e1 := hCn
              clear hCn
              subst Cn)
            have hVC := Lib.hid (View.of_row hC.1)
            have hVB2 := Lib.hid (hVB.out.ext hC.2.2)
            have hVA3 := Lib.hid (hVA2.out.ext hC.2.2)
            have hx11 : Ext wr w11 := hx10.trans_ hC.2.2
            clear hC y hVB hVA2
            have hfx := hf8.ext.trans_ (hx.trans_ hx11)
            obtain ⟨SA, hSA⟩ : ∃ S : ByteArray, S = ⟨((T.drop 0).take j).toArray⟩ := ⟨_, rfl⟩
            obtain ⟨SU, hSU⟩ : ∃ S : ByteArray, S = ⟨U.toArray⟩ := ⟨_, rfl⟩
            obtain ⟨SC, hSC⟩ : ∃ S : ByteArray, S = ⟨((T.drop b1).take e1).toArray⟩ := ⟨_, rfl⟩
            obtain ⟨ST, hST⟩ : ∃ S : ByteArray, S = ⟨T.toArray⟩ := ⟨_, rfl⟩
            have hcat : SA ++ SU ++ SC = ST := by
              rw [hSA, hSU, hSC, hST, str_cat, ← hHoc.out, hHb1.out, hHe1.out, hHt.out, cut3 (by have := hHt.out; omega)]
            have z1 : SA.size ≤ 2000 := by
              rw [hSA]
              simp [ByteArray.size]
              have := hHt.out
              omega
            have z2 : SU.size ≤ 2000 := by
              rw [hSU]
              simp [ByteArray.size]
              have := hHu.out
              omega
            have z3 : SC.size ≤ 2000 := by
              rw [hSC]
              simp [ByteArray.size]
              have := hHe1.out
              omega
            have z12 : SA.size + SU.size ≤ 9223372036854775807 := by omega
            have z123 : SA.size + SU.size + SC.size ≤ 9223372036854775807 := by omega
            have z4 : (SA ++ SU).size + SC.size ≤ 9223372036854775807 := by rw [ByteArray.size_append]; omega
            have ka := run_string Ac hVA3.out
            have kb := run_string Bc hVB2.out
            have kc := run_string Cc hVC.out
            have kt := run_string c (hVT.out.ext hfx)
            have ku := run_string d (hVU.out.ext hfx)
            rw [hHoc.out] at kb
            dsimp only at ka kb kc
            rw [← hSA] at ka
            rw [← hSU] at kb ku
            rw [← hSC] at kc
            rw [← hST] at kt
            clear hSA hSU hSC hST
            go_wp2
            go_ret
            exact ⟨rfl, hfx⟩
end Go.Proofs.Ythhckledkhcfeaa
