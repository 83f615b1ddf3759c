/- SaveNested: its walk. -/
import Derived.Test.YthhckledkhcfeaaSvF
namespace Go.Proofs.Ythhckledkhcfeaa
open Go.RowKit
section
theorem Sv.keep {w w' : World} {v p : Nat} {σ : St} {h : Hd} {ρ : Roles} {t : Sl} {l : List (Int × Int)} {last : Int} (s : Sv w v p σ h ρ t l last) (hk : ∀ b, svOwn v t ρ b → w'.heap[b]? = w.heap[b]?) (hs : w.heap.size ≤ w'.heap.size) : Sv w' v p σ h ρ t l last :=
  ⟨s.sto.keep (fun b hb => hk b (.inl hb)) hs, ⟨s.sav.blk.keep (hk v (.inr (.inl rfl))), s.sav.row.keep fun _ hg => hk _ (.inr (.inr hg))⟩, s.nv, s.nt, s.vt⟩
theorem Sv.bound {w : World} {v p : Nat} {σ : St} {h : Hd} {ρ : Roles} {t : Sl} {l : List (Int × Int)} {last : Int} (s : Sv w v p σ h ρ t l last) {b : Nat} (hb : svOwn v t ρ b) : b < w.heap.size := by
  rcases hb with hb | hb | hb
  · exact s.sto.bound b hb
  · rw [hb]; exact s.sav.blk.lt
  · exact s.sav.row.blk_lt hb
section
variable {w w' : World} {v p : Nat} {t : Sl} {last : Int} {j i : Nat}
theorem depth_n {l : List (Int × Int)} (s : Sav w v p t l last) {n : Nat} (hn : l.length = n) : Calls Try.prog 22 #[.pointer (some ⟨v, 0, none⟩)] w fun e w' => e = .returned (.int .i64 n) ∧ w = w' := by
  rw [← hn]; exact depth_c s
theorem alive_in (s : Sav w v p t (svl j) last) (hi : i < j) :
    Calls Try.prog 23 #[.pointer (some ⟨v, 0, none⟩), .agg #[.int .i64 10, .bool false, .int .i64 0, .int .i64 ((i : Int) + 1), .string ByteArray.empty, .int .i64 0, .int .i64 0, .int .i64 0]] w fun e w' => e = .returned (.bool true) ∧ Ext w w' := by
  have := at_save (s.ext ((Ext.rfl_ w).alloc_ (.cells #[.int .i64 10, .bool false, .int .i64 0, .int .i64 ((i : Int) + 1), .string ByteArray.empty, .int .i64 0, .int .i64 0, .int .i64 0] 27))) 10 false 0 ((i : Int) + 1) ByteArray.empty 0 0 0 rfl
  rw [place_in hi] at this
  exact alive_of (b := true) this (by simp)
theorem alive_out (s : Sav w v p t (svl j) last) (hi : j ≤ i) :
    Calls Try.prog 23 #[.pointer (some ⟨v, 0, none⟩), .agg #[.int .i64 10, .bool false, .int .i64 0, .int .i64 ((i : Int) + 1), .string ByteArray.empty, .int .i64 0, .int .i64 0, .int .i64 0]] w fun e w' => e = .returned (.bool false) ∧ Ext w w' := by
  have := at_save (s.ext ((Ext.rfl_ w).alloc_ (.cells #[.int .i64 10, .bool false, .int .i64 0, .int .i64 ((i : Int) + 1), .string ByteArray.empty, .int .i64 0, .int .i64 0, .int .i64 0] 27))) 10 false 0 ((i : Int) + 1) ByteArray.empty 0 0 0 rfl
  rw [place_out hi] at this
  exact alive_of (b := false) this (by simp)
theorem restore_out (s : Sav w v p t (svl j) last) (hi : j ≤ i) :
    Calls Try.prog 21 #[.pointer (some ⟨v, 0, none⟩), .agg #[.int .i64 10, .bool false, .int .i64 0, .int .i64 ((i : Int) + 1), .string ByteArray.empty, .int .i64 0, .int .i64 0, .int .i64 0], .slice none 0 0] w fun e w' => e = .returned (.int .i64 8) ∧ Ext w w' := by
  refine restore_no w (b := false) (i := -1) (fun W' h' => ?_) (fun W' h' => none_c (s.ext h')) (.inr (.inr ⟨rfl, by simp, by omega, rfl⟩))
  have := at_save (s.ext h') 10 false 0 ((i : Int) + 1) ByteArray.empty 0 0 0 rfl
  rw [place_out hi] at this
  exact this
theorem back_at {m : Nat} (hi : i < m) : ∀ (W : World) (h' : Hd) (ρ' : Roles), Sto W p (svs m) h' ρ' → Calls Try.prog 71 #[.pointer (some ⟨p, 0, none⟩), .int .i64 ((i : Int) + 1)] W fun e w' => e = .returned (.int .i64 0) ∧ StoTo W w' p ρ' (svs (i + 1)) :=
  fun _ _ _ s => back_nested hi s
end
set_option maxRecDepth 100000 in
set_option maxHeartbeats 2000000 in
theorem SaveNested_walk (n at_ r : Nat) (hn : n ≤ 255) (hat : at_ ≤ 255) (hr : (n : Int) % 20 = r) (w : World) :
    Calls Try.prog 4 #[.int .u8 n, .int .u8 at_] w fun e w' => e = .returned (.bool true) ∧ Ext w w' := by
  obtain ⟨iO, hiO, hzO, hsO, hbO⟩ := info_parts info_Obj
  have hr20 : r < 20 := by omega
  go_enter Try.func4, Try.ntmps4
  go_upto_region 2 with (
    go_at_call 12
    refine (new_ok 100 w (by omega) (by omega)).mono ?_
    rintro e w1 ⟨rfl, s1, hx1⟩)
  go_upto_region 3 with (
    go_at_call 18
    refine (saveNew w1 _).mono ?_
    rintro e w2 ⟨rfl, b2, hx2⟩)
  have hv : Sv w2 w1.heap.size w.heap.size (svs 0) .empty (.one w.heap.size) .nil (svl 0) 0 :=
    ⟨s1.ext hx2, Sav.new_ b2, s1.fresh (Nat.le_refl _), fun g hg => by simp [Sl.blk] at hg, by simp [Sl.blk]⟩
  go_upto_region 6 with fail
  have hp0 : w.heap.size ≤ w1.heap.size := hx1.size
  have hx12 : Ext w w2 := hx1.trans_ hx2
  clear b2 s1 hr
  go_loopg [4, 9, 10] (r + 1) (fun gk s4 s9 s10 wr => s4 = .bool false ∧ ∃ i : Nat, i ≤ r + 1 ∧ gk = r + 1 - i ∧ s10 = .int .i64 i ∧ ∃ o : Sl, s9 = .slice o.a o.n o.c ∧ Row wr 27 8 o (obCells (svo (min i 15))) ∧
    ∃ h ρ t, Sv wr w1.heap.size w.heap.size (svs (min i 15)) h ρ t (svl (min i 15)) (min i 15 : Nat) ∧ (∀ g, o.blk = some g → w.heap.size ≤ g ∧ ¬ svOwn w1.heap.size t ρ g) ∧ (∀ b, svOwn w1.heap.size t ρ b → w.heap.size ≤ b) ∧ Ext w wr)
  case atStart => exact ⟨rfl, 0, by omega, by omega, rfl, .nil, rfl, Row.nil_ _ _ _, _, _, _, hv, fun g hg => by simp [Sl.blk] at hg, fun b hb => by
    rcases hb with hb | hb | hb
    · rw [Roles.one_own hb]; exact Nat.le_refl _
    · rw [hb]; exact hp0
    · simp [Sl.blk] at hb, hx12⟩
  case round =>
    obtain ⟨hs4, i, hi, hgk, hs10, o, hs9, hrow, h, ρ, t, s, hol, hown, hx⟩ := hrel
    subst hs4
    subst hs9
    subst hs10
    by_cases hlt : i < r + 1
    · by_cases h15 : i < 15
      · have hm : min i 15 = i := by omega
        rw [hm] at hrow s
        go_upto_region 9 with (
          go_at_call 19
          refine (save_ok s (by rw [svl_len]; exact h15) (by rw [svs_len]; omega) (by omega)).mono ?_
          rintro e w3 ⟨rfl, h3, ρ3, t3, s3, hm3⟩)
        rw [svs_next, svs_len, svl_next] at s3
        generalize hX : World.alloc w3 _ = X
        obtain ⟨hxX, hcX, hfX, hzX, hbX⟩ := boxed hX
        clear hX hcX hfX
        have hrow3 := (hrow.moves hm3 (fun g hg => (hol g hg).2)).ext hxX
        have s4 := s3.ext hxX
        have hon : o.n = i := by have := hrow.len; rw [length_obCells, svo_len] at this; omega
        have hHon := Lib.hid hon
        have hob : o.n ≤ 15 := by omega
        have hi15 : (i : Int) < 15 := by omega
        have hcB := hbX.cell
        clear hon hm
        go_wp2_with (
          at_builtin
          refine wpList_app (by rfl) _ _ _ (by rfl) 27 iO _ 8 72 Try.underlying33 hiO hzO hsO hbO rfl (by omega) o (by rfl) (hrow3.alloc _) (by rfl) (View.of_blk (n := 1) (Blk.new X _ _) rfl) ?_ ?_ ?_ ?_
          · intro u hu
            simp only [List.mem_cons, List.mem_nil_iff, or_false] at hu
            rcases hu with rfl | rfl | rfl | rfl | rfl | rfl | rfl | rfl <;> rfl
          · simp only [maxLen]; omega
          · omega
          intro o' w4 hrow4 hlen4 hgrow4 hat4)
        have hm1 : min (i + 1) 15 = i + 1 := by omega
        have hap : ∀ g, o.blk = some g → ¬ svOwn w1.heap.size t3 ρ3 g := fun g hg => hm3.apart (hol g hg).2 (hrow.blk_lt hg)
        have hkb : ∀ b, b < X.heap.size → o.blk ≠ some b → w4.heap[b]? = X.heap[b]? := fun b hb hne => (hgrow4.block b (Nat.lt_of_lt_of_le hb (by simp)) (fun e => hne e.symm)).trans (Below.heap_alloc _ _ _ hb)
        have hsz : X.heap.size ≤ w4.heap.size := Nat.le_trans (by simp) hgrow4.size
        go_roundg (r + 1 - (i + 1))
        case measure => omega
        case rel =>
          refine ⟨rfl, i + 1, by omega, rfl, by simp, o', rfl, ?_, h3, ρ3, t3, ?_, ?_, ?_, ?_⟩
          · rw [hm1, ← svo_next]
            have e : obCells (svo i ++ [⟨10, false, 0, (i : Int) + 1, ByteArray.empty, 0, 0, 0⟩]) = obCells (svo i) ++ [.int .i64 10, .bool false, .int .i64 0, .int .i64 ((i : Int) + 1), .string ByteArray.empty, .int .i64 0, .int .i64 0, .int .i64 0] := by simp [obCells, Ob.cells]
            rw [e]
            exact hrow4
          · rw [hm1]
            have := s4.keep (w' := w4) (fun b hb => hkb b (s4.bound hb) (fun he => hap b he hb)) hsz
            simpa using this
          · intro g hg
            rcases hat4 with h4 | h4
            · rw [h4] at hg
              exact ⟨(hol g hg).1, hap g hg⟩
            · rw [h4] at hg
              injection hg with hg
              simp at hg
              have := hx.size
              have := hm3.size
              have := hxX.size
              exact ⟨by omega, fun ho => by have := s4.bound ho; omega⟩
          · intro b hb
            rcases hm3.foot b hb with hb | hb
            · exact hown b hb
            · exact Nat.le_trans hx.size hb
          · have h5 : Ext w X := (hx.trans (hm3.below hown hx.size)).trans (Below.mono hxX (Nat.le_trans hx.size hm3.size))
            exact ⟨hgrow4.os.trans h5.os, hgrow4.tape.trans h5.tape, hgrow4.output.trans h5.output, Nat.le_trans h5.size hsz,
              fun b hb => (hkb b (Nat.lt_of_lt_of_le hb h5.size) (fun e => by have := (hol b e).1; omega)).trans (h5.block b hb)⟩
      · have hm : min i 15 = 15 := by omega
        rw [hm] at hrow s
        have h15' : (15 : Int) ≤ i := by omega
        clear hm
        go_wp2_with (
          go_at_call 19
          refine (save_full s.sav (by rw [svl_len]; omega)).mono ?_
          rintro e w3 ⟨rfl, hx3⟩)
        generalize hX : World.alloc w3 _ = X
        obtain ⟨hxX, hcX, hfX, hzX, hbX⟩ := boxed hX
        clear hX hcX hfX
        have hm1 : min (i + 1) 15 = 15 := by omega
        have hxx : Ext wr X := hx3.trans_ hxX
        go_roundg (r + 1 - (i + 1))
        case measure => omega
        case rel =>
          refine ⟨rfl, i + 1, by omega, rfl, by simp, o, rfl, ?_, h, ρ, t, ?_, hol, hown, hx.trans (Below.mono hxx hx.size)⟩
          · rw [hm1]; exact hrow.ext hxx
          · rw [hm1]; exact s.ext hxx
    · obtain rfl : i = r + 1 := by omega
      obtain ⟨m, hm⟩ : ∃ m, m = min (r + 1) 15 := ⟨_, rfl⟩
      rw [← hm] at hrow s
      have hm1 : 1 ≤ m := by omega
      have hm15 : m ≤ 15 := by omega
      clear hm hv
      obtain ⟨oa, on, oc⟩ := o
      have hon : on = m := by have := hrow.len; rw [length_obCells, svo_len] at this; dsimp only at this; omega
      subst hon
      obtain ⟨g, hga, hgb⟩ := hrow.pos (show 0 < on by omega)
      dsimp only at hga
      subst hga
      obtain ⟨j, hj⟩ : ∃ j : Nat, (at_ : Int) % (on : Int) = j := ⟨at_ % on, by simp⟩
      have hjm : j < on := by have := Int.emod_lt_of_pos (at_ : Int) (show (0 : Int) < on by omega); omega
      have hHj := Lib.hid hj
      clear hj
      go_upto_region 14 with fail
      rw [hHj.out]
      have hjm' : (j : Int) < on := by omega
      have hol' : ∀ b, g = b → ¬ svOwn w1.heap.size t ρ b := fun b hb => by subst hb; exact (hol g hgb).2
      have hHol := Lib.hid hol
      have hHown := Lib.hid hown
      clear hol hown
      go_upto_region 16 with (first
        | (go_at_call 20; refine (answers6 wr).mono ?_; rintro e w5 ⟨rfl, hq⟩; obtain ⟨c0, c1, c2, c3, c4, c5, c6, c7⟩ := (hrow.ext hq).ob (off := j * 8) rfl (svo_get hjm) rfl)
        | (go_at_call 21; refine (restore_ok (s.ext hq) (svl_get hjm) (place_in hjm) false 0 ByteArray.empty 0 0 0 (back_at hjm)).mono ?_; rintro e w6 ⟨rfl, h6, ρ6, t6, s6, hm6⟩; rw [svl_take (Nat.le_of_lt hjm)] at s6)
        | (go_at_call 22; refine (depth_n s6.sav (svl_len j)).mono ?_; rintro e w7 ⟨rfl, rfl⟩))
      go_upto_region 17 with fail
      have hap6 : ∀ b, g = b → ¬ svOwn w1.heap.size t6 ρ6 b := fun b hb => hm6.apart (hol' b hb) ((hrow.ext hq).blk_lt (by rw [← hb]; exact hgb))
      have hrow6 := (hrow.ext hq).moves hm6 (fun b hb => hol' b (by rw [hgb] at hb; injection hb))
      have hx6 : Ext w w6 := (hx.trans (Below.mono hq hx.size)).trans (hm6.below hHown.out (Nat.le_trans hx.size hq.size))
      have hown6 : ∀ b, svOwn w1.heap.size t6 ρ6 b → w.heap.size ≤ b := fun b hb => by
        rcases hm6.foot b hb with hb | hb
        · exact hHown.out b hb
        · exact Nat.le_trans (Nat.le_trans hx.size hq.size) hb
      have hHap := Lib.hid hap6
      have hHown6 := Lib.hid hown6
      clear c0 c1 c2 c3 c4 c5 c6 c7 hap6 hown6 hol' hHown hHol s hm6 hrow hx hq
      go_loopg [14] on (fun gk2 s14 wr2 => ∃ i : Nat, i ≤ on ∧ gk2 = on - i ∧ s14 = .int .i64 i ∧ Ext w6 wr2)
      case atStart => exact ⟨0, Nat.zero_le _, rfl, rfl, Ext.rfl_ _⟩
      case round =>
        obtain ⟨i, hi2, hgk2, hs14, hx2⟩ := hrel
        subst hs14
        by_cases hlt2 : i < on
        · have hlt2' : (i : Int) < on := by omega
          have hrw := hrow6.ext hx2
          obtain ⟨c0, c1, c2, c3, c4, c5, c6, c7⟩ := hrw.ob (off := i * 8) rfl (svo_get hlt2) rfl
          by_cases hij : i < j
          · have hij' : (i : Int) < j := by omega
            go_wp2_with (
              go_at_call 23
              refine (alive_in (s6.sav.ext hx2) hij).mono ?_
              rintro e w7 ⟨rfl, hx7⟩)
            go_roundg (on - (i + 1))
            case measure => omega
            case rel => exact ⟨i + 1, by omega, rfl, by simp, hx2.trans_ hx7⟩
          · have hij' : ¬ (i : Int) < j := by omega
            have hij2 : (j : Int) ≤ i := by omega
            have hij3 : j ≤ i := by omega
            go_wp2_with (first
              | (go_at_call 23; refine (alive_out (s6.sav.ext hx2) hij3).mono ?_; rintro e w7 ⟨rfl, hx7⟩; obtain ⟨d0, d1, d2, d3, d4, d5, d6, d7⟩ := (hrw.ext hx7).ob (off := i * 8) rfl (svo_get hlt2) rfl)
              | (go_at_call 21; refine (restore_out (s6.sav.ext (hx2.trans_ hx7)) hij3).mono ?_; rintro e w8 ⟨rfl, hx8⟩))
            go_roundg (on - (i + 1))
            case measure => omega
            case rel => exact ⟨i + 1, by omega, rfl, by simp, (hx2.trans_ hx7).trans_ hx8⟩
        · go_upto_region 22 with (
            go_at_call 19
            refine (save_ok (s6.ext hx2) (by rw [svl_len]; omega) (by rw [svs_len]; omega) (by omega)).mono ?_
            rintro e w7 ⟨rfl, h7, ρ7, t7, s7, hm7⟩)
          generalize hX : World.alloc w7 _ = X
          obtain ⟨hxX, hcX, hfX, hzX, hbX⟩ := boxed hX
          clear hX hcX hfX
          have hrow7 := ((hrow6.ext hx2).moves hm7 (fun b hb => hHap.out b (by rw [hgb] at hb; injection hb))).ext hxX
          have hx7 : Ext w X := ((hx6.trans (Below.mono hx2 hx6.size)).trans (hm7.below hHown6.out (Nat.le_trans hx6.size hx2.size))).trans (Below.mono hxX (Nat.le_trans (Nat.le_trans hx6.size hx2.size) hm7.size))
          go_upto_region 23 with fail
          clear hm7 hHap hHown6 hx2 hx6
          go_loopg [17] on (fun gk3 s17 wr3 => ∃ i : Nat, i ≤ on ∧ gk3 = on - i ∧ s17 = .int .i64 i ∧ Ext X wr3)
          case atStart => exact ⟨0, Nat.zero_le _, rfl, rfl, Ext.rfl_ _⟩
          case round =>
            obtain ⟨i3, hi3, hgk3, hs17, hx3⟩ := hrel
            subst hs17
            by_cases hlt3 : i3 < on
            · have hlt3' : (i3 : Int) < on := by omega
              have hrw := hrow7.ext hx3
              obtain ⟨-, -, -, c3, -, -, -, -⟩ := hrw.ob (off := i3 * 8) rfl (svo_get hlt3) rfl
              have c4 := (hbX.ext hx3).cell 3
              have hne : ((i3 : Int) + 1 == (on : Int) + 1) = false := by simp; omega
              dsimp only at c3
              have hg3 : g < wr.heap.size := hrw.blk_lt hgb
              have hz3 : w7.heap.size < wr.heap.size := (hbX.ext hx3).lt
              have f3 : ∀ (E : ExtOf wr), E.w.cell? ⟨g, i3 * 8 + 3, none⟩ = some (.int .i64 ((i3 : Int) + 1)) := fun E => (E.cells hg3 _).trans c3
              have f4 : ∀ (E : ExtOf wr), E.w.cell? ⟨w7.heap.size, 3, none⟩ = some (.int .i64 ((on : Int) + 1)) := fun E => (E.cells hz3 _).trans c4
              clear c3 c4
              go_upto_region 25 with fail
              refine wp_region_ext (by kernel_rfl) (by kernel_rfl) ?_
              repeat (go_big_quiet_step (fail))
              refine wpQuiet_nil fun E => ?_
              go_wp2
              go_roundg (on - (i3 + 1))
              case measure => omega
              case rel => exact ⟨i3 + 1, by omega, rfl, by simp, hx3.trans_ E.h⟩
            · go_wp2_with (
                go_at_call 22
                refine (depth_n (n := j + 1) (s7.sav.ext (hxX.trans_ hx3)) (by simp [svl_len])).mono ?_
                rintro e w8 ⟨rfl, rfl⟩)
              go_ret
              exact ⟨rfl, hx7.trans (Below.mono hx3 hx7.size)⟩
end
end Go.Proofs.Ythhckledkhcfeaa
