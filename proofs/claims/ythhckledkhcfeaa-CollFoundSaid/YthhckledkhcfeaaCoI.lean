/- The operators on collections: search. -/
import Derived.Test.YthhckledkhcfeaaCoH
import Derived.Test.YthhckledkhcfeaaRegF
import Derived.Lib.Index
namespace Go.Proofs.Ythhckledkhcfeaa
open Go.RowKit
/-- What search hands over. -/
def found (x1 : Bool) (n1 : Int) (m1 : ByteArray) (r1 f1 l1 l2 : Nat) (i : Int) : List Ob :=
  if i < 0 then [⟨6, x1, 0, n1, m1, r1, f1, l1⟩, ⟨3, false, 0, 0, ByteArray.empty, 0, 0, 0⟩]
  else [⟨6, x1, 0, n1, m1, r1, f1 + (i + l2), l1 - i - l2⟩, ⟨6, x1, 0, n1, m1, r1, f1 + i, l2⟩, ⟨6, x1, 0, n1, m1, r1, f1 + 0, i⟩, ⟨3, false, 0, 1, ByteArray.empty, 0, 0, 0⟩]
section
variable {w w' : World} {c p : Nat} {t : Sl} {l : List Ob} {σ : St} {h : Hd} {ρ : Roles}
set_option maxRecDepth 100000 in
set_option maxHeartbeats 4000000 in
theorem search_no (s : Sto w p σ h ρ) (x1 : Bool) (n1 : Int) (m1 : ByteArray) (r1 f1 l1 : Nat) (x2 : Bool) (n2 : Int) (m2 : ByteArray) (r2 f2 l2 : Nat)
    (sc : Cal w c p t [⟨6, x1, 0, n1, m1, r1, f1, l1⟩, ⟨6, x2, 0, n2, m2, r2, f2, l2⟩]) (bt bp : List UInt8) (hbt : σ.texts[r1]? = some bt) (hft : f1 + l1 ≤ bt.length) (hbp : σ.texts[r2]? = some bp) (hfp : f2 + l2 ≤ bp.length)
    (i : Int) (hi : i < 0)
    (hix : ∀ (W : World) (A B : Option Addr) (c d : Nat), Ext w W → View W 1 A l1 (byteCells ((bt.drop f1).take l1)) → View W 1 B l2 (byteCells ((bp.drop f2).take l2)) → l1 ≤ c → (A = none → c = 0) →
      Calls Try.prog 158 #[.slice A l1 c, .slice B l2 d] W fun e w' => e = .returned (.int .i64 i) ∧ Ext W w') :
    Calls Try.prog 137 #[.pointer (some ⟨c, 0, none⟩), .string nmSE] w fun e w' => ∃ v : Sl, e = .returned (.slice v.a v.n v.c) ∧ Fresh w w' 27 8 v (obCells (found x1 n1 m1 r1 f1 l1 l2 i)) := by
  have hIx := Lib.hid hix
  have hBt := Lib.hid hbt
  have hBp := Lib.hid hbp
  have hlt1 : bt.length ≤ 65535 := s.ok.text bt (List.mem_of_getElem? hbt)
  have hlt2 : bp.length ≤ 65535 := s.ok.text bp (List.mem_of_getElem? hbp)
  have hvt : σ.valid ⟨6, x1, 0, n1, m1, r1, f1, l1⟩ = true := by
    have := isA_str (σ := σ) (x := x1) (ac := 0) (n := n1) (nm := m1) hbt hft
    unfold St.isA at this
    simp at this
    exact this
  have hVt := Lib.hid hvt
  have htn : t.n = 2 := sc.n
  obtain ⟨g, hga, hgb⟩ := sc.row.pos (show 0 < t.n by omega)
  have hcap := sc.row.cap_le
  simp only [maxLen] at hcap
  have hblk := sc.blk
  rw [hga, htn] at hblk
  have hrb : g < w.heap.size := sc.row.blk_lt hgb
  obtain ⟨a0, a1, a2, a3, a4, a5, a6, a7⟩ := sc.row.ob (off := 0) (q := 0) hga rfl rfl
  obtain ⟨b0, b1, b2, b3, b4, b5, b6, b7⟩ := sc.row.ob (off := 8) (q := 1) hga rfl rfl
  simp only [Nat.zero_add, Nat.reduceAdd] at a1 a2 a3 a4 a5 a6 a7 b1 b2 b3 b4 b5 b6 b7
  have hvr := View.of_row sc.row
  rw [htn, hga] at hvr
  have hVr := Lib.hid hvr
  clear hix hbt hbp hvt hga htn hvr
  go_enter Try.func137, Try.ntmps137
  go_upto_region 1 with fail
  have hkv : View (w.alloc (.cells #[.int .i64 6, .int .i64 6] 3)) 1 (some ⟨w.heap.size, 0, none⟩) 2 (([6, 6] : List Int).map (Value.int .i64)) := View.of_blk (n := 2) (Blk.new w 3 [.int .i64 6, .int .i64 6]) rfl
  have hKv := Lib.hid hkv
  clear hkv
  go_upto_region 2 with (
    go_at_call 145
    refine (kinds_ok (sc.ext ((Ext.rfl_ w).alloc_ _)) [6, 6] hKv.out (by omega) ?_).mono ?_
    · intro i k hk
      match i, hk with
      | 0, hk => simp at hk; subst hk; exact .inr ⟨by omega, _, rfl, rfl⟩
      | 1, hk => simp at hk; subst hk; exact .inr ⟨by omega, _, rfl, rfl⟩
      | _ + 2, hk => simp at hk
    rintro e w2 ⟨rfl, rfl⟩)
  generalize hX : World.alloc w _ = X
  have hx : Ext w X := by rw [← hX]; exact (Ext.rfl_ w).alloc_ _
  clear hX
  have hCC := Lib.hid (fun (W : World) (hW : Ext w W) => (hblk.ext hW).cell)
  have hCE := Lib.hid (fun (W : World) (hW : Ext w W) (i : Nat) => hW.cells hrb i)
  have hcb := hCC.out X hx
  go_upto_region 3 with (
    go_at_call 149
    refine (read_ok (hVr.out.ext hx) (by omega) ?_ _).mono ?_
    · intro o ho
      simp only [List.mem_cons, List.mem_nil_iff, or_false] at ho
      rcases ho with rfl | rfl
      · exact ⟨rfl, .inl rfl⟩
      · exact ⟨rfl, .inl rfl⟩
    rintro e w3 ⟨rfl, hx3⟩)
  have hx3' : Ext w w3 := hx.trans_ hx3
  clear hcb
  have yc := fun (E : ExtOf w3) => hCC.out E.w (hx3'.trans_ E.h)
  have ye := fun (E : ExtOf w3) (i : Nat) => hCE.out E.w (hx3'.trans_ E.h) i
  refine wp_region_pair 6 12 (fun w' => ∃ E : ExtOf w3, w' = E.w) rfl (by kernel_rfl) (by kernel_rfl) (fun c a d v w h => by cases d <;> exact h) ⟨⟨_, (Ext.rfl_ w3).drew_⟩, rfl⟩ ?_
  simp only [List.take_succ_cons, List.take_zero, List.drop_succ_cons, List.drop_zero, Nat.reduceSub]
  repeat (go_big_quiet_step (fail))
  refine wpQuiet_nil ?_
  repeat (go_big_quiet_step (fail))
  refine wpQuiet_nil ?_
  clear yc ye
  refine ⟨fun K hK => ?_, fun K hK => ?_⟩
  · go_simp
    refine hK _ _ ⟨⟨⟨_, ((Ext.rfl_ w3).alloc_ _).drew_⟩, rfl⟩, fun K2 hK2 => ?_⟩
    clear hK
    go_simp
    refine hK2 _ _ ⟨⟨⟨_, (((Ext.rfl_ w3).alloc_ _).alloc_ _).drew_⟩, rfl⟩, fun K3 hK3 => ?_⟩
    clear hK2
    generalize hZ : World.drew (World.alloc (World.alloc w3 _) _) = Z
    have hxZ : Ext w3 Z := by rw [← hZ]; exact (((Ext.rfl_ w3).alloc_ _).alloc_ _).drew_
    have hz5 : Blk Z w3.heap.size 27 [.int .i64 0, .bool false, .int .i64 0, .int .i64 0, .string ByteArray.empty, .int .i64 0, .int .i64 0, .int .i64 0] := by rw [← hZ]; exact ((Blk.new w3 27 _).alloc _).drew
    have hz6 : Blk Z (w3.heap.size + 1) 27 [.int .i64 0, .bool false, .int .i64 0, .int .i64 0, .string ByteArray.empty, .int .i64 0, .int .i64 0, .int .i64 0] := by rw [← hZ]; exact (Blk.new1 w3 _ 27 _).drew
    clear hZ
    have c5 := hz5.cell
    have f5_ := hz5.frozen
    have c6 := hz6.cell
    have f6_ := hz6.frozen
    go_simp
    have h5 := set8_blk hz5 (.int .i64 6) (.bool x1) (.int .i64 0) (.int .i64 n1) (.string m1) (.int .i64 r1) (.int .i64 f1) (.int .i64 l1)
    have o5 := set8_only Z w3.heap.size (.int .i64 6) (.bool x1) (.int .i64 0) (.int .i64 n1) (.string m1) (.int .i64 r1) (.int .i64 f1) (.int .i64 l1)
    have x5 := hxZ.only o5 (by omega)
    have h6 := hz6.keep (o5.block _ (by omega))
    refine hK3 _ _ ⟨⟨⟨_, x5⟩, rfl⟩, ?_⟩
    clear hK3 K3 K2 K hz5 hz6 c5 f5_ c6 f6_
    unfold set8 at h5 h6 o5 x5
    generalize World.setCell _ ⟨w3.heap.size, 7, none⟩ (.int .i64 l1) = Z1 at h5 h6 o5 x5 ⊢
    clear o5 hxZ Z
    have c6 := h6.cell
    have f6_ := h6.frozen
    go_upto_region 4 with fail
    have h6' := set8_blk h6 (.int .i64 6) (.bool x2) (.int .i64 0) (.int .i64 n2) (.string m2) (.int .i64 r2) (.int .i64 f2) (.int .i64 l2)
    have o6 := set8_only Z1 (w3.heap.size + 1) (.int .i64 6) (.bool x2) (.int .i64 0) (.int .i64 n2) (.string m2) (.int .i64 r2) (.int .i64 f2) (.int .i64 l2)
    have x6 := x5.only o6 (by omega)
    have h5' := h5.keep (o6.block _ (by omega))
    clear c6 f6_ h5 h6
    unfold set8 at h5' h6' o6 x6
    generalize World.setCell _ ⟨w3.heap.size + 1, 7, none⟩ (.int .i64 l2) = Z2 at h5' h6' o6 x6 ⊢
    clear o6 x5 Z1
    have hX6 := hx3'.trans_ x6
    have s2 := s.ext hX6
    have sc2 := sc.ext hX6
    have yc5 := fun (E : ExtOf Z2) i => (E.cells h5'.lt i).trans (h5'.cell i)
    have yc6 := fun (E : ExtOf Z2) i => (E.cells h6'.lt i).trans (h6'.cell i)
    refine wp_region_plan (C := fun w' => ∃ E : ExtOf Z2, w' = E.w) [true, true, false, true, true, false, false, false] 6 2 (by kernel_rfl) (by kernel_rfl) (fun c a d v w h => by cases d <;> exact h) ⟨⟨_, (Ext.rfl_ Z2).drew_⟩, rfl⟩ ?_
    simp only [pickQ, pickT]
    repeat (go_big_quiet_step (fail))
    refine wpQuiet_nil ?_
    clear yc5 yc6
    refine wpTail_cons (fun K hK => ?_)
    go_simp
    refine (cbytes_ok (s2.ext (Ext.rfl_ Z2).drew_) (sc2.ext (Ext.rfl_ Z2).drew_) x1 0 n1 m1 r1 f1 l1 bt hBt.out hft).mono ?_
    rintro e w5 ⟨⟨A, An, Ac⟩, rfl, hAn, hA⟩
    dsimp only at hAn
    subst hAn
    have hx5 : Ext Z2 w5 := (Ext.rfl_ Z2).drew_.trans_ hA.2.2
    have hVA := Lib.hid (View.of_row hA.1)
    have hA0 : A = none → Ac = 0 := fun h => by
      rcases hA.1.shape with ⟨_, _, h3, _⟩ | ⟨g, cur, h1, _⟩
      · exact h3
      · dsimp only at h1
        rw [h] at h1
        cases h1
    have hAc := hA.1.cap_le
    dsimp only at hAc
    refine hK _ _ ⟨⟨_, hx5⟩, rfl⟩ ?_
    clear hK K hA
    refine wpTail_cons (fun K hK => ?_)
    go_simp
    refine (cbytes_ok (s2.ext hx5) (sc2.ext hx5) x2 0 n2 m2 r2 f2 l2 bp hBp.out hfp).mono ?_
    rintro e w6 ⟨⟨B, Bn, Bc⟩, rfl, hBn, hB⟩
    dsimp only at hBn
    subst hBn
    have hx6 : Ext Z2 w6 := hx5.trans_ hB.2.2
    have hVA' := Lib.hid (hVA.out.ext hB.2.2)
    have hVB := Lib.hid (View.of_row hB.1)
    have hBc := hB.1.cap_le
    dsimp only at hBc
    refine hK _ _ ⟨⟨_, hx6⟩, rfl⟩ ?_
    clear hK K hB hVA
    refine wpTail_zero ?_
    go_upto_region 5 with (go_at_call 158; refine (hIx.out w6 A B Ac Bc (hX6.trans_ hx6) hVA'.out hVB.out hAc.1 hA0).mono ?_; rintro e w7 ⟨rfl, hx7⟩)
    have H5 := h5'.ext (hx6.trans_ hx7)
    have H6 := h6'.ext (hx6.trans_ hx7)
    have s3 := s2.ext (hx6.trans_ hx7)
    have sc3 := sc2.ext (hx6.trans_ hx7)
    have hX7 := hX6.trans_ (hx6.trans_ hx7)
    clear hA0 hVA' hVB hIx hAc hBc h5' h6' s2 sc2 hKv
    go_upto_region 6 with fail
    have ye := fun (E : ExtOf w7) i => (E.cells H5.lt i).trans (H5.cell i)
    refine wp_region_plan (C := fun w' => ∃ E : ExtOf w7, w' = E.w) [true, false, false, false] 2 1 (by kernel_rfl) (by kernel_rfl) (fun c a d v w h => by cases d <;> exact h) ⟨⟨_, (Ext.rfl_ w7).drew_⟩, rfl⟩ ?_
    simp only [pickQ, pickT]
    repeat (go_big_quiet_step (fail))
    refine wpQuiet_nil ?_
    clear ye
    refine wpTail_cons (fun K hK => ?_)
    go_simp
    refine (truth_c false _).mono ?_
    rintro e w8 ⟨rfl, hx8⟩
    refine hK _ _ ⟨⟨_, (Ext.rfl_ w7).drew_.trans_ hx8⟩, rfl⟩ ?_
    clear hK K
    refine wpTail_zero ?_
    go_wp2
    go_ret
    refine ⟨⟨some ⟨w8.heap.size, 0, none⟩, 2, 2⟩, rfl, ?_, ?_, (hX7.trans_ ((Ext.rfl_ w7).drew_.trans_ hx8)).alloc_ _⟩
    · rw [show found x1 n1 m1 r1 f1 An Bn i = [⟨6, x1, 0, n1, m1, r1, f1, An⟩, ⟨3, false, 0, 0, ByteArray.empty, 0, 0, 0⟩] by rw [found, if_pos hi]]
      exact Row.lit (Blk.new w8 27 _) rfl (by simp only [maxLen]; omega)
    · intro g hg
      simp [Sl.blk] at hg
      have := (hX7.trans_ ((Ext.rfl_ w7).drew_.trans_ hx8)).size
      omega
  · go_simp
    refine hK _ _ ⟨⟨⟨_, ((Ext.rfl_ w3).alloc_ _).drew_⟩, rfl⟩, fun K2 hK2 => ?_⟩
    clear hK
    go_simp
    refine hK2 _ _ ⟨⟨⟨_, (((Ext.rfl_ w3).alloc_ _).alloc_ _).drew_⟩, rfl⟩, fun K3 hK3 => ?_⟩
    clear hK2
    generalize hZ : World.drew (World.alloc (World.alloc w3 _) _) = Z
    have hxZ : Ext w3 Z := by rw [← hZ]; exact (((Ext.rfl_ w3).alloc_ _).alloc_ _).drew_
    have hz5 : Blk Z (w3.heap.size + 1) 27 [.int .i64 0, .bool false, .int .i64 0, .int .i64 0, .string ByteArray.empty, .int .i64 0, .int .i64 0, .int .i64 0] := by rw [← hZ]; exact (Blk.new1 w3 _ 27 _).drew
    have hz6 : Blk Z w3.heap.size 27 [.int .i64 0, .bool false, .int .i64 0, .int .i64 0, .string ByteArray.empty, .int .i64 0, .int .i64 0, .int .i64 0] := by rw [← hZ]; exact ((Blk.new w3 27 _).alloc _).drew
    clear hZ
    have c5 := hz5.cell
    have f5_ := hz5.frozen
    have c6 := hz6.cell
    have f6_ := hz6.frozen
    go_simp
    have h5 := set8_blk hz5 (.int .i64 6) (.bool x1) (.int .i64 0) (.int .i64 n1) (.string m1) (.int .i64 r1) (.int .i64 f1) (.int .i64 l1)
    have o5 := set8_only Z (w3.heap.size + 1) (.int .i64 6) (.bool x1) (.int .i64 0) (.int .i64 n1) (.string m1) (.int .i64 r1) (.int .i64 f1) (.int .i64 l1)
    have x5 := hxZ.only o5 (by omega)
    have h6 := hz6.keep (o5.block _ (by omega))
    refine hK3 _ _ ⟨⟨⟨_, x5⟩, rfl⟩, ?_⟩
    clear hK3 K3 K2 K hz5 hz6 c5 f5_ c6 f6_
    unfold set8 at h5 h6 o5 x5
    generalize World.setCell _ ⟨w3.heap.size + 1, 7, none⟩ (.int .i64 l1) = Z1 at h5 h6 o5 x5 ⊢
    clear o5 hxZ Z
    have c6 := h6.cell
    have f6_ := h6.frozen
    go_upto_region 4 with fail
    have h6' := set8_blk h6 (.int .i64 6) (.bool x2) (.int .i64 0) (.int .i64 n2) (.string m2) (.int .i64 r2) (.int .i64 f2) (.int .i64 l2)
    have o6 := set8_only Z1 w3.heap.size (.int .i64 6) (.bool x2) (.int .i64 0) (.int .i64 n2) (.string m2) (.int .i64 r2) (.int .i64 f2) (.int .i64 l2)
    have x6 := x5.only o6 (by omega)
    have h5' := h5.keep (o6.block _ (by omega))
    clear c6 f6_ h5 h6
    unfold set8 at h5' h6' o6 x6
    generalize World.setCell _ ⟨w3.heap.size, 7, none⟩ (.int .i64 l2) = Z2 at h5' h6' o6 x6 ⊢
    clear o6 x5 Z1
    have hX6 := hx3'.trans_ x6
    have s2 := s.ext hX6
    have sc2 := sc.ext hX6
    have yc5 := fun (E : ExtOf Z2) i => (E.cells h5'.lt i).trans (h5'.cell i)
    have yc6 := fun (E : ExtOf Z2) i => (E.cells h6'.lt i).trans (h6'.cell i)
    refine wp_region_plan (C := fun w' => ∃ E : ExtOf Z2, w' = E.w) [true, true, false, true, true, false, false, false] 6 2 (by kernel_rfl) (by kernel_rfl) (fun c a d v w h => by cases d <;> exact h) ⟨⟨_, (Ext.rfl_ Z2).drew_⟩, rfl⟩ ?_
    simp only [pickQ, pickT]
    repeat (go_big_quiet_step (fail))
    refine wpQuiet_nil ?_
    clear yc5 yc6
    refine wpTail_cons (fun K hK => ?_)
    go_simp
    refine (cbytes_ok (s2.ext (Ext.rfl_ Z2).drew_) (sc2.ext (Ext.rfl_ Z2).drew_) x1 0 n1 m1 r1 f1 l1 bt hBt.out hft).mono ?_
    rintro e w5 ⟨⟨A, An, Ac⟩, rfl, hAn, hA⟩
    dsimp only at hAn
    subst hAn
    have hx5 : Ext Z2 w5 := (Ext.rfl_ Z2).drew_.trans_ hA.2.2
    have hVA := Lib.hid (View.of_row hA.1)
    have hA0 : A = none → Ac = 0 := fun h => by
      rcases hA.1.shape with ⟨_, _, h3, _⟩ | ⟨g, cur, h1, _⟩
      · exact h3
      · dsimp only at h1
        rw [h] at h1
        cases h1
    have hAc := hA.1.cap_le
    dsimp only at hAc
    refine hK _ _ ⟨⟨_, hx5⟩, rfl⟩ ?_
    clear hK K hA
    refine wpTail_cons (fun K hK => ?_)
    go_simp
    refine (cbytes_ok (s2.ext hx5) (sc2.ext hx5) x2 0 n2 m2 r2 f2 l2 bp hBp.out hfp).mono ?_
    rintro e w6 ⟨⟨B, Bn, Bc⟩, rfl, hBn, hB⟩
    dsimp only at hBn
    subst hBn
    have hx6 : Ext Z2 w6 := hx5.trans_ hB.2.2
    have hVA' := Lib.hid (hVA.out.ext hB.2.2)
    have hVB := Lib.hid (View.of_row hB.1)
    have hBc := hB.1.cap_le
    dsimp only at hBc
    refine hK _ _ ⟨⟨_, hx6⟩, rfl⟩ ?_
    clear hK K hB hVA
    refine wpTail_zero ?_
    go_upto_region 5 with (go_at_call 158; refine (hIx.out w6 A B Ac Bc (hX6.trans_ hx6) hVA'.out hVB.out hAc.1 hA0).mono ?_; rintro e w7 ⟨rfl, hx7⟩)
    have H5 := h5'.ext (hx6.trans_ hx7)
    have H6 := h6'.ext (hx6.trans_ hx7)
    have s3 := s2.ext (hx6.trans_ hx7)
    have sc3 := sc2.ext (hx6.trans_ hx7)
    have hX7 := hX6.trans_ (hx6.trans_ hx7)
    clear hA0 hVA' hVB hIx hAc hBc h5' h6' s2 sc2 hKv
    go_upto_region 6 with fail
    have ye := fun (E : ExtOf w7) i => (E.cells H5.lt i).trans (H5.cell i)
    refine wp_region_plan (C := fun w' => ∃ E : ExtOf w7, w' = E.w) [true, false, false, false] 2 1 (by kernel_rfl) (by kernel_rfl) (fun c a d v w h => by cases d <;> exact h) ⟨⟨_, (Ext.rfl_ w7).drew_⟩, rfl⟩ ?_
    simp only [pickQ, pickT]
    repeat (go_big_quiet_step (fail))
    refine wpQuiet_nil ?_
    clear ye
    refine wpTail_cons (fun K hK => ?_)
    go_simp
    refine (truth_c false _).mono ?_
    rintro e w8 ⟨rfl, hx8⟩
    refine hK _ _ ⟨⟨_, (Ext.rfl_ w7).drew_.trans_ hx8⟩, rfl⟩ ?_
    clear hK K
    refine wpTail_zero ?_
    go_wp2
    go_ret
    refine ⟨⟨some ⟨w8.heap.size, 0, none⟩, 2, 2⟩, rfl, ?_, ?_, (hX7.trans_ ((Ext.rfl_ w7).drew_.trans_ hx8)).alloc_ _⟩
    · rw [show found x1 n1 m1 r1 f1 An Bn i = [⟨6, x1, 0, n1, m1, r1, f1, An⟩, ⟨3, false, 0, 0, ByteArray.empty, 0, 0, 0⟩] by rw [found, if_pos hi]]
      exact Row.lit (Blk.new w8 27 _) rfl (by simp only [maxLen]; omega)
    · intro g hg
      simp [Sl.blk] at hg
      have := (hX7.trans_ ((Ext.rfl_ w7).drew_.trans_ hx8)).size
      omega
set_option maxRecDepth 100000 in
set_option maxHeartbeats 4000000 in
theorem search_yes (s : Sto w p σ h ρ) (x1 : Bool) (n1 : Int) (m1 : ByteArray) (r1 f1 l1 : Nat) (x2 : Bool) (n2 : Int) (m2 : ByteArray) (r2 f2 l2 : Nat)
    (sc : Cal w c p t [⟨6, x1, 0, n1, m1, r1, f1, l1⟩, ⟨6, x2, 0, n2, m2, r2, f2, l2⟩]) (bt bp : List UInt8) (hbt : σ.texts[r1]? = some bt) (hft : f1 + l1 ≤ bt.length) (hbp : σ.texts[r2]? = some bp) (hfp : f2 + l2 ≤ bp.length)
    (i : Int) (hi : 0 ≤ i) (hil : i + l2 ≤ l1)
    (hix : ∀ (W : World) (A B : Option Addr) (c d : Nat), Ext w W → View W 1 A l1 (byteCells ((bt.drop f1).take l1)) → View W 1 B l2 (byteCells ((bp.drop f2).take l2)) → l1 ≤ c → (A = none → c = 0) →
      Calls Try.prog 158 #[.slice A l1 c, .slice B l2 d] W fun e w' => e = .returned (.int .i64 i) ∧ Ext W w') :
    Calls Try.prog 137 #[.pointer (some ⟨c, 0, none⟩), .string nmSE] w fun e w' => ∃ v : Sl, e = .returned (.slice v.a v.n v.c) ∧ Fresh w w' 27 8 v (obCells (found x1 n1 m1 r1 f1 l1 l2 i)) := by
  have hIx := Lib.hid hix
  have hBt := Lib.hid hbt
  have hBp := Lib.hid hbp
  have hlt1 : bt.length ≤ 65535 := s.ok.text bt (List.mem_of_getElem? hbt)
  have hlt2 : bp.length ≤ 65535 := s.ok.text bp (List.mem_of_getElem? hbp)
  have hvt : σ.valid ⟨6, x1, 0, n1, m1, r1, f1, l1⟩ = true := by
    have := isA_str (σ := σ) (x := x1) (ac := 0) (n := n1) (nm := m1) hbt hft
    unfold St.isA at this
    simp at this
    exact this
  have hVt := Lib.hid hvt
  have htn : t.n = 2 := sc.n
  obtain ⟨g, hga, hgb⟩ := sc.row.pos (show 0 < t.n by omega)
  have hcap := sc.row.cap_le
  simp only [maxLen] at hcap
  have hblk := sc.blk
  rw [hga, htn] at hblk
  have hrb : g < w.heap.size := sc.row.blk_lt hgb
  obtain ⟨a0, a1, a2, a3, a4, a5, a6, a7⟩ := sc.row.ob (off := 0) (q := 0) hga rfl rfl
  obtain ⟨b0, b1, b2, b3, b4, b5, b6, b7⟩ := sc.row.ob (off := 8) (q := 1) hga rfl rfl
  simp only [Nat.zero_add, Nat.reduceAdd] at a1 a2 a3 a4 a5 a6 a7 b1 b2 b3 b4 b5 b6 b7
  have hvr := View.of_row sc.row
  rw [htn, hga] at hvr
  have hVr := Lib.hid hvr
  clear hix hbt hbp hvt hga htn hvr
  go_enter Try.func137, Try.ntmps137
  go_upto_region 1 with fail
  have hkv : View (w.alloc (.cells #[.int .i64 6, .int .i64 6] 3)) 1 (some ⟨w.heap.size, 0, none⟩) 2 (([6, 6] : List Int).map (Value.int .i64)) := View.of_blk (n := 2) (Blk.new w 3 [.int .i64 6, .int .i64 6]) rfl
  have hKv := Lib.hid hkv
  clear hkv
  go_upto_region 2 with (
    go_at_call 145
    refine (kinds_ok (sc.ext ((Ext.rfl_ w).alloc_ _)) [6, 6] hKv.out (by omega) ?_).mono ?_
    · intro i k hk
      match i, hk with
      | 0, hk => simp at hk; subst hk; exact .inr ⟨by omega, _, rfl, rfl⟩
      | 1, hk => simp at hk; subst hk; exact .inr ⟨by omega, _, rfl, rfl⟩
      | _ + 2, hk => simp at hk
    rintro e w2 ⟨rfl, rfl⟩)
  generalize hX : World.alloc w _ = X
  have hx : Ext w X := by rw [← hX]; exact (Ext.rfl_ w).alloc_ _
  clear hX
  have hCC := Lib.hid (fun (W : World) (hW : Ext w W) => (hblk.ext hW).cell)
  have hCE := Lib.hid (fun (W : World) (hW : Ext w W) (i : Nat) => hW.cells hrb i)
  have hcb := hCC.out X hx
  go_upto_region 3 with (
    go_at_call 149
    refine (read_ok (hVr.out.ext hx) (by omega) ?_ _).mono ?_
    · intro o ho
      simp only [List.mem_cons, List.mem_nil_iff, or_false] at ho
      rcases ho with rfl | rfl
      · exact ⟨rfl, .inl rfl⟩
      · exact ⟨rfl, .inl rfl⟩
    rintro e w3 ⟨rfl, hx3⟩)
  have hx3' : Ext w w3 := hx.trans_ hx3
  clear hcb
  have yc := fun (E : ExtOf w3) => hCC.out E.w (hx3'.trans_ E.h)
  have ye := fun (E : ExtOf w3) (i : Nat) => hCE.out E.w (hx3'.trans_ E.h) i
  refine wp_region_pair 6 12 (fun w' => ∃ E : ExtOf w3, w' = E.w) rfl (by kernel_rfl) (by kernel_rfl) (fun c a d v w h => by cases d <;> exact h) ⟨⟨_, (Ext.rfl_ w3).drew_⟩, rfl⟩ ?_
  simp only [List.take_succ_cons, List.take_zero, List.drop_succ_cons, List.drop_zero, Nat.reduceSub]
  repeat (go_big_quiet_step (fail))
  refine wpQuiet_nil ?_
  repeat (go_big_quiet_step (fail))
  refine wpQuiet_nil ?_
  clear yc ye
  refine ⟨fun K hK => ?_, fun K hK => ?_⟩
  · go_simp
    refine hK _ _ ⟨⟨⟨_, ((Ext.rfl_ w3).alloc_ _).drew_⟩, rfl⟩, fun K2 hK2 => ?_⟩
    clear hK
    go_simp
    refine hK2 _ _ ⟨⟨⟨_, (((Ext.rfl_ w3).alloc_ _).alloc_ _).drew_⟩, rfl⟩, fun K3 hK3 => ?_⟩
    clear hK2
    generalize hZ : World.drew (World.alloc (World.alloc w3 _) _) = Z
    have hxZ : Ext w3 Z := by rw [← hZ]; exact (((Ext.rfl_ w3).alloc_ _).alloc_ _).drew_
    have hz5 : Blk Z w3.heap.size 27 [.int .i64 0, .bool false, .int .i64 0, .int .i64 0, .string ByteArray.empty, .int .i64 0, .int .i64 0, .int .i64 0] := by rw [← hZ]; exact ((Blk.new w3 27 _).alloc _).drew
    have hz6 : Blk Z (w3.heap.size + 1) 27 [.int .i64 0, .bool false, .int .i64 0, .int .i64 0, .string ByteArray.empty, .int .i64 0, .int .i64 0, .int .i64 0] := by rw [← hZ]; exact (Blk.new1 w3 _ 27 _).drew
    clear hZ
    have c5 := hz5.cell
    have f5_ := hz5.frozen
    have c6 := hz6.cell
    have f6_ := hz6.frozen
    go_simp
    have h5 := set8_blk hz5 (.int .i64 6) (.bool x1) (.int .i64 0) (.int .i64 n1) (.string m1) (.int .i64 r1) (.int .i64 f1) (.int .i64 l1)
    have o5 := set8_only Z w3.heap.size (.int .i64 6) (.bool x1) (.int .i64 0) (.int .i64 n1) (.string m1) (.int .i64 r1) (.int .i64 f1) (.int .i64 l1)
    have x5 := hxZ.only o5 (by omega)
    have h6 := hz6.keep (o5.block _ (by omega))
    refine hK3 _ _ ⟨⟨⟨_, x5⟩, rfl⟩, ?_⟩
    clear hK3 K3 K2 K hz5 hz6 c5 f5_ c6 f6_
    unfold set8 at h5 h6 o5 x5
    generalize World.setCell _ ⟨w3.heap.size, 7, none⟩ (.int .i64 l1) = Z1 at h5 h6 o5 x5 ⊢
    clear o5 hxZ Z
    have c6 := h6.cell
    have f6_ := h6.frozen
    go_upto_region 4 with fail
    have h6' := set8_blk h6 (.int .i64 6) (.bool x2) (.int .i64 0) (.int .i64 n2) (.string m2) (.int .i64 r2) (.int .i64 f2) (.int .i64 l2)
    have o6 := set8_only Z1 (w3.heap.size + 1) (.int .i64 6) (.bool x2) (.int .i64 0) (.int .i64 n2) (.string m2) (.int .i64 r2) (.int .i64 f2) (.int .i64 l2)
    have x6 := x5.only o6 (by omega)
    have h5' := h5.keep (o6.block _ (by omega))
    clear c6 f6_ h5 h6
    unfold set8 at h5' h6' o6 x6
    generalize World.setCell _ ⟨w3.heap.size + 1, 7, none⟩ (.int .i64 l2) = Z2 at h5' h6' o6 x6 ⊢
    clear o6 x5 Z1
    have hX6 := hx3'.trans_ x6
    have s2 := s.ext hX6
    have sc2 := sc.ext hX6
    have yc5 := fun (E : ExtOf Z2) i => (E.cells h5'.lt i).trans (h5'.cell i)
    have yc6 := fun (E : ExtOf Z2) i => (E.cells h6'.lt i).trans (h6'.cell i)
    refine wp_region_plan (C := fun w' => ∃ E : ExtOf Z2, w' = E.w) [true, true, false, true, true, false, false, false] 6 2 (by kernel_rfl) (by kernel_rfl) (fun c a d v w h => by cases d <;> exact h) ⟨⟨_, (Ext.rfl_ Z2).drew_⟩, rfl⟩ ?_
    simp only [pickQ, pickT]
    repeat (go_big_quiet_step (fail))
    refine wpQuiet_nil ?_
    clear yc5 yc6
    refine wpTail_cons (fun K hK => ?_)
    go_simp
    refine (cbytes_ok (s2.ext (Ext.rfl_ Z2).drew_) (sc2.ext (Ext.rfl_ Z2).drew_) x1 0 n1 m1 r1 f1 l1 bt hBt.out hft).mono ?_
    rintro e w5 ⟨⟨A, An, Ac⟩, rfl, hAn, hA⟩
    dsimp only at hAn
    subst hAn
    have hx5 : Ext Z2 w5 := (Ext.rfl_ Z2).drew_.trans_ hA.2.2
    have hVA := Lib.hid (View.of_row hA.1)
    have hA0 : A = none → Ac = 0 := fun h => by
      rcases hA.1.shape with ⟨_, _, h3, _⟩ | ⟨g, cur, h1, _⟩
      · exact h3
      · dsimp only at h1
        rw [h] at h1
        cases h1
    have hAc := hA.1.cap_le
    dsimp only at hAc
    refine hK _ _ ⟨⟨_, hx5⟩, rfl⟩ ?_
    clear hK K hA
    refine wpTail_cons (fun K hK => ?_)
    go_simp
    refine (cbytes_ok (s2.ext hx5) (sc2.ext hx5) x2 0 n2 m2 r2 f2 l2 bp hBp.out hfp).mono ?_
    rintro e w6 ⟨⟨B, Bn, Bc⟩, rfl, hBn, hB⟩
    dsimp only at hBn
    subst hBn
    have hx6 : Ext Z2 w6 := hx5.trans_ hB.2.2
    have hVA' := Lib.hid (hVA.out.ext hB.2.2)
    have hVB := Lib.hid (View.of_row hB.1)
    have hBc := hB.1.cap_le
    dsimp only at hBc
    refine hK _ _ ⟨⟨_, hx6⟩, rfl⟩ ?_
    clear hK K hB hVA
    refine wpTail_zero ?_
    go_upto_region 5 with (go_at_call 158; refine (hIx.out w6 A B Ac Bc (hX6.trans_ hx6) hVA'.out hVB.out hAc.1 hA0).mono ?_; rintro e w7 ⟨rfl, hx7⟩)
    have H5 := h5'.ext (hx6.trans_ hx7)
    have H6 := h6'.ext (hx6.trans_ hx7)
    have s3 := s2.ext (hx6.trans_ hx7)
    have sc3 := sc2.ext (hx6.trans_ hx7)
    have hX7 := hX6.trans_ (hx6.trans_ hx7)
    clear hA0 hVA' hVB hIx hAc hBc h5' h6' s2 sc2 hKv
    have c5 := H5.cell
    have c6 := H6.cell
    have hb1 : f1 + An ≤ 65535 := by omega
    have hb2 : f2 + Bn ≤ 65535 := by omega
    go_upto_region 8 with (
      go_at_call 154
      refine (cpart_ok s3 sc3 6 x1 0 n1 m1 r1 f1 An (i + Bn) (An - i - Bn) (.inl rfl) hVt.out (by omega) (by omega) (by omega) (by omega)).mono ?_
      rintro e w8 ⟨rfl, hx8⟩)
    generalize hX8 : World.alloc w8 _ = X8
    obtain ⟨hb8, -, -, -, B8⟩ := boxed hX8
    clear hX8 c5 c6
    have hx8' := hx8.trans_ hb8
    have c5 := (H5.ext hx8').cell
    have c6 := (H6.ext hx8').cell
    go_upto_region 9 with (
      go_at_call 154
      refine (cpart_ok (s3.ext hx8') (sc3.ext hx8') 6 x1 0 n1 m1 r1 f1 An i Bn (.inl rfl) hVt.out (by omega) (by omega) (by omega) (by omega)).mono ?_
      rintro e w9 ⟨rfl, hx9⟩)
    generalize hX9 : World.alloc w9 _ = X9
    obtain ⟨hb9, -, -, -, B9⟩ := boxed hX9
    clear hX9 c5 c6
    have hx9' := hx9.trans_ hb9
    go_upto_region 11 with fail
    have hX9 := hx8'.trans_ hx9'
    have H5' := H5.ext hX9
    have B8' := B8.ext hx9'
    have y5 := fun (E : ExtOf X9) i => (E.cells H5'.lt i).trans (H5'.cell i)
    have y8 := fun (E : ExtOf X9) i => (E.cells B8'.lt i).trans (B8'.cell i)
    have y9 := fun (E : ExtOf X9) i => (E.cells B9.lt i).trans (B9.cell i)
    refine wp_region_plan (C := fun w' => ∃ E : ExtOf X9, w' = E.w) [true, true, true, true, true, false, false, false, false] 7 2 (by kernel_rfl) (by kernel_rfl) (fun c a d v w h => by cases d <;> exact h) ⟨⟨_, (Ext.rfl_ X9).drew_⟩, rfl⟩ ?_
    simp only [pickQ, pickT]
    repeat (go_big_quiet_step (fail))
    refine wpQuiet_nil ?_
    clear y5 y8 y9
    refine wpTail_cons (fun K hK => ?_)
    go_simp
    refine (cpart_ok ((s3.ext hX9).ext (Ext.rfl_ X9).drew_) ((sc3.ext hX9).ext (Ext.rfl_ X9).drew_) 6 x1 0 n1 m1 r1 f1 An 0 i (.inl rfl) hVt.out (by omega) (by omega) (by omega) (by omega)).mono ?_
    rintro e w10 ⟨rfl, hx10⟩
    have hx10' := (Ext.rfl_ X9).drew_.trans_ hx10
    refine hK _ _ ⟨⟨_, hx10'⟩, rfl⟩ ?_
    clear hK K
    refine wpTail_cons (fun K hK => ?_)
    go_simp
    refine (truth_c true _).mono ?_
    rintro e w11 ⟨rfl, hx11⟩
    refine hK _ _ ⟨⟨_, hx10'.trans_ hx11⟩, rfl⟩ ?_
    clear hK K
    refine wpTail_zero ?_
    go_wp2
    go_ret
    have hxx := hX7.trans_ (hX9.trans_ (hx10'.trans_ hx11))
    refine ⟨⟨some ⟨w11.heap.size, 0, none⟩, 4, 4⟩, rfl, ?_, ?_, hxx.alloc_ _⟩
    · rw [found, if_neg (by omega)]
      exact Row.lit (Blk.new w11 27 _) rfl (by simp only [maxLen]; omega)
    · intro g hg
      simp [Sl.blk] at hg
      have := hxx.size
      omega
  · go_simp
    refine hK _ _ ⟨⟨⟨_, ((Ext.rfl_ w3).alloc_ _).drew_⟩, rfl⟩, fun K2 hK2 => ?_⟩
    clear hK
    go_simp
    refine hK2 _ _ ⟨⟨⟨_, (((Ext.rfl_ w3).alloc_ _).alloc_ _).drew_⟩, rfl⟩, fun K3 hK3 => ?_⟩
    clear hK2
    generalize hZ : World.drew (World.alloc (World.alloc w3 _) _) = Z
    have hxZ : Ext w3 Z := by rw [← hZ]; exact (((Ext.rfl_ w3).alloc_ _).alloc_ _).drew_
    have hz5 : Blk Z (w3.heap.size + 1) 27 [.int .i64 0, .bool false, .int .i64 0, .int .i64 0, .string ByteArray.empty, .int .i64 0, .int .i64 0, .int .i64 0] := by rw [← hZ]; exact (Blk.new1 w3 _ 27 _).drew
    have hz6 : Blk Z w3.heap.size 27 [.int .i64 0, .bool false, .int .i64 0, .int .i64 0, .string ByteArray.empty, .int .i64 0, .int .i64 0, .int .i64 0] := by rw [← hZ]; exact ((Blk.new w3 27 _).alloc _).drew
    clear hZ
    have c5 := hz5.cell
    have f5_ := hz5.frozen
    have c6 := hz6.cell
    have f6_ := hz6.frozen
    go_simp
    have h5 := set8_blk hz5 (.int .i64 6) (.bool x1) (.int .i64 0) (.int .i64 n1) (.string m1) (.int .i64 r1) (.int .i64 f1) (.int .i64 l1)
    have o5 := set8_only Z (w3.heap.size + 1) (.int .i64 6) (.bool x1) (.int .i64 0) (.int .i64 n1) (.string m1) (.int .i64 r1) (.int .i64 f1) (.int .i64 l1)
    have x5 := hxZ.only o5 (by omega)
    have h6 := hz6.keep (o5.block _ (by omega))
    refine hK3 _ _ ⟨⟨⟨_, x5⟩, rfl⟩, ?_⟩
    clear hK3 K3 K2 K hz5 hz6 c5 f5_ c6 f6_
    unfold set8 at h5 h6 o5 x5
    generalize World.setCell _ ⟨w3.heap.size + 1, 7, none⟩ (.int .i64 l1) = Z1 at h5 h6 o5 x5 ⊢
    clear o5 hxZ Z
    have c6 := h6.cell
    have f6_ := h6.frozen
    go_upto_region 4 with fail
    have h6' := set8_blk h6 (.int .i64 6) (.bool x2) (.int .i64 0) (.int .i64 n2) (.string m2) (.int .i64 r2) (.int .i64 f2) (.int .i64 l2)
    have o6 := set8_only Z1 w3.heap.size (.int .i64 6) (.bool x2) (.int .i64 0) (.int .i64 n2) (.string m2) (.int .i64 r2) (.int .i64 f2) (.int .i64 l2)
    have x6 := x5.only o6 (by omega)
    have h5' := h5.keep (o6.block _ (by omega))
    clear c6 f6_ h5 h6
    unfold set8 at h5' h6' o6 x6
    generalize World.setCell _ ⟨w3.heap.size, 7, none⟩ (.int .i64 l2) = Z2 at h5' h6' o6 x6 ⊢
    clear o6 x5 Z1
    have hX6 := hx3'.trans_ x6
    have s2 := s.ext hX6
    have sc2 := sc.ext hX6
    have yc5 := fun (E : ExtOf Z2) i => (E.cells h5'.lt i).trans (h5'.cell i)
    have yc6 := fun (E : ExtOf Z2) i => (E.cells h6'.lt i).trans (h6'.cell i)
    refine wp_region_plan (C := fun w' => ∃ E : ExtOf Z2, w' = E.w) [true, true, false, true, true, false, false, false] 6 2 (by kernel_rfl) (by kernel_rfl) (fun c a d v w h => by cases d <;> exact h) ⟨⟨_, (Ext.rfl_ Z2).drew_⟩, rfl⟩ ?_
    simp only [pickQ, pickT]
    repeat (go_big_quiet_step (fail))
    refine wpQuiet_nil ?_
    clear yc5 yc6
    refine wpTail_cons (fun K hK => ?_)
    go_simp
    refine (cbytes_ok (s2.ext (Ext.rfl_ Z2).drew_) (sc2.ext (Ext.rfl_ Z2).drew_) x1 0 n1 m1 r1 f1 l1 bt hBt.out hft).mono ?_
    rintro e w5 ⟨⟨A, An, Ac⟩, rfl, hAn, hA⟩
    dsimp only at hAn
    subst hAn
    have hx5 : Ext Z2 w5 := (Ext.rfl_ Z2).drew_.trans_ hA.2.2
    have hVA := Lib.hid (View.of_row hA.1)
    have hA0 : A = none → Ac = 0 := fun h => by
      rcases hA.1.shape with ⟨_, _, h3, _⟩ | ⟨g, cur, h1, _⟩
      · exact h3
      · dsimp only at h1
        rw [h] at h1
        cases h1
    have hAc := hA.1.cap_le
    dsimp only at hAc
    refine hK _ _ ⟨⟨_, hx5⟩, rfl⟩ ?_
    clear hK K hA
    refine wpTail_cons (fun K hK => ?_)
    go_simp
    refine (cbytes_ok (s2.ext hx5) (sc2.ext hx5) x2 0 n2 m2 r2 f2 l2 bp hBp.out hfp).mono ?_
    rintro e w6 ⟨⟨B, Bn, Bc⟩, rfl, hBn, hB⟩
    dsimp only at hBn
    subst hBn
    have hx6 : Ext Z2 w6 := hx5.trans_ hB.2.2
    have hVA' := Lib.hid (hVA.out.ext hB.2.2)
    have hVB := Lib.hid (View.of_row hB.1)
    have hBc := hB.1.cap_le
    dsimp only at hBc
    refine hK _ _ ⟨⟨_, hx6⟩, rfl⟩ ?_
    clear hK K hB hVA
    refine wpTail_zero ?_
    go_upto_region 5 with (go_at_call 158; refine (hIx.out w6 A B Ac Bc (hX6.trans_ hx6) hVA'.out hVB.out hAc.1 hA0).mono ?_; rintro e w7 ⟨rfl, hx7⟩)
    have H5 := h5'.ext (hx6.trans_ hx7)
    have H6 := h6'.ext (hx6.trans_ hx7)
    have s3 := s2.ext (hx6.trans_ hx7)
    have sc3 := sc2.ext (hx6.trans_ hx7)
    have hX7 := hX6.trans_ (hx6.trans_ hx7)
    clear hA0 hVA' hVB hIx hAc hBc h5' h6' s2 sc2 hKv
    have c5 := H5.cell
    have c6 := H6.cell
    have hb1 : f1 + An ≤ 65535 := by omega
    have hb2 : f2 + Bn ≤ 65535 := by omega
    go_upto_region 8 with (
      go_at_call 154
      refine (cpart_ok s3 sc3 6 x1 0 n1 m1 r1 f1 An (i + Bn) (An - i - Bn) (.inl rfl) hVt.out (by omega) (by omega) (by omega) (by omega)).mono ?_
      rintro e w8 ⟨rfl, hx8⟩)
    generalize hX8 : World.alloc w8 _ = X8
    obtain ⟨hb8, -, -, -, B8⟩ := boxed hX8
    clear hX8 c5 c6
    have hx8' := hx8.trans_ hb8
    have c5 := (H5.ext hx8').cell
    have c6 := (H6.ext hx8').cell
    go_upto_region 9 with (
      go_at_call 154
      refine (cpart_ok (s3.ext hx8') (sc3.ext hx8') 6 x1 0 n1 m1 r1 f1 An i Bn (.inl rfl) hVt.out (by omega) (by omega) (by omega) (by omega)).mono ?_
      rintro e w9 ⟨rfl, hx9⟩)
    generalize hX9 : World.alloc w9 _ = X9
    obtain ⟨hb9, -, -, -, B9⟩ := boxed hX9
    clear hX9 c5 c6
    have hx9' := hx9.trans_ hb9
    go_upto_region 11 with fail
    have hX9 := hx8'.trans_ hx9'
    have H5' := H5.ext hX9
    have B8' := B8.ext hx9'
    have y5 := fun (E : ExtOf X9) i => (E.cells H5'.lt i).trans (H5'.cell i)
    have y8 := fun (E : ExtOf X9) i => (E.cells B8'.lt i).trans (B8'.cell i)
    have y9 := fun (E : ExtOf X9) i => (E.cells B9.lt i).trans (B9.cell i)
    refine wp_region_plan (C := fun w' => ∃ E : ExtOf X9, w' = E.w) [true, true, true, true, true, false, false, false, false] 7 2 (by kernel_rfl) (by kernel_rfl) (fun c a d v w h => by cases d <;> exact h) ⟨⟨_, (Ext.rfl_ X9).drew_⟩, rfl⟩ ?_
    simp only [pickQ, pickT]
    repeat (go_big_quiet_step (fail))
    refine wpQuiet_nil ?_
    clear y5 y8 y9
    refine wpTail_cons (fun K hK => ?_)
    go_simp
    refine (cpart_ok ((s3.ext hX9).ext (Ext.rfl_ X9).drew_) ((sc3.ext hX9).ext (Ext.rfl_ X9).drew_) 6 x1 0 n1 m1 r1 f1 An 0 i (.inl rfl) hVt.out (by omega) (by omega) (by omega) (by omega)).mono ?_
    rintro e w10 ⟨rfl, hx10⟩
    have hx10' := (Ext.rfl_ X9).drew_.trans_ hx10
    refine hK _ _ ⟨⟨_, hx10'⟩, rfl⟩ ?_
    clear hK K
    refine wpTail_cons (fun K hK => ?_)
    go_simp
    refine (truth_c true _).mono ?_
    rintro e w11 ⟨rfl, hx11⟩
    refine hK _ _ ⟨⟨_, hx10'.trans_ hx11⟩, rfl⟩ ?_
    clear hK K
    refine wpTail_zero ?_
    go_wp2
    go_ret
    have hxx := hX7.trans_ (hX9.trans_ (hx10'.trans_ hx11))
    refine ⟨⟨some ⟨w11.heap.size, 0, none⟩, 4, 4⟩, rfl, ?_, ?_, hxx.alloc_ _⟩
    · rw [found, if_neg (by omega)]
      exact Row.lit (Blk.new w11 27 _) rfl (by simp only [maxLen]; omega)
    · intro g hg
      simp [Sl.blk] at hg
      have := hxx.size
      omega
end
end Go.Proofs.Ythhckledkhcfeaa
