/- The operators on collections: putinterval, length, every, run. -/
import Derived.Test.YthhckledkhcfeaaCoB
namespace Go.Proofs.Ythhckledkhcfeaa
open Go.RowKit
abbrev nmPI : ByteArray := ⟨#[112, 117, 116, 105, 110, 116, 101, 114, 118, 97, 108]⟩
abbrev nmLE : ByteArray := ⟨#[108, 101, 110, 103, 116, 104]⟩
section
variable {w w' : World} {c p : Nat} {t : Sl} {l : List Ob} {σ : St} {h : Hd} {ρ : Roles}
set_option maxRecDepth 100000 in
set_option maxHeartbeats 1000000 in
theorem putinterval_no (s : Sto w p σ h ρ) (xt : Bool) (nt : Int) (mt : ByteArray) (r f m : Nat) (ka : Int) (xa : Bool) (aa : Int) (ma : ByteArray) (ra fa la : Int) (hka : ka = 1) (a : Nat) (xf : Bool) (nf : Int) (mf : ByteArray) (r2 f2 q : Nat)
    (sc : Cal w c p t [⟨7, xt, 0, nt, mt, r, f, m⟩, ⟨ka, xa, aa, a, ma, ra, fa, la⟩, ⟨7, xf, 0, nf, mf, r2, f2, q⟩]) (hq : m < a ∨ a ≤ m ∧ m < a + q) (hm : m ≤ 1000000) (hq2 : q ≤ 1000000) (ha : a ≤ 1000000) :
    Calls Try.prog 132 #[.pointer (some ⟨c, 0, none⟩)] w fun e w' => e = gaveUp 11 ∧ Ext w w' := by
  subst hka
  have htn : t.n = 3 := sc.n
  obtain ⟨g, hga, hgb⟩ := sc.row.pos (show 0 < t.n by omega)
  have hcap := sc.row.cap_le
  simp only [maxLen] at hcap
  have hblk := sc.blk
  rw [hga, htn] at hblk
  have hrb : g < w.heap.size := sc.row.blk_lt hgb
  obtain ⟨a0, a1, a2, a3, a4, a5, a6, a7⟩ := sc.row.ob (off := 0) (q := 0) hga rfl rfl
  obtain ⟨b0, b1, b2, b3, b4, b5, b6, b7⟩ := sc.row.ob (off := 8) (q := 1) hga rfl rfl
  obtain ⟨d0, d1, d2, d3, d4, d5, d6, d7⟩ := sc.row.ob (off := 16) (q := 2) hga rfl rfl
  have hcb := hblk.cell
  simp only [Nat.zero_add, Nat.reduceAdd] at a1 a2 a3 a4 a5 a6 a7 b1 b2 b3 b4 b5 b6 b7 d1 d2 d3 d4 d5 d6 d7
  have hga' := Lib.hid hga
  have htn' := Lib.hid htn
  clear hga htn
  go_enter Try.func132, Try.ntmps132
  go_upto_region 2 with (go_at_call 153; refine (sequence0_ok sc (o := ⟨7, xt, 0, nt, mt, r, f, m⟩) rfl rfl).mono ?_; rintro e w1 ⟨rfl, rfl⟩)
  have hkv : View (w.alloc (.cells #[.int .i64 (-1), .int .i64 1, .int .i64 7] 3)) 1 (some ⟨w.heap.size, 0, none⟩) 3 (([-1, 1, 7] : List Int).map (Value.int .i64)) := View.of_blk (n := 3) (Blk.new w 3 [.int .i64 (-1), .int .i64 1, .int .i64 7]) rfl
  have hKv := Lib.hid hkv
  clear hkv
  go_upto_region 3 with (
    go_at_call 145
    refine (kinds_ok (sc.ext ((Ext.rfl_ w).alloc_ _)) [-1, 1, 7] hKv.out (by omega) ?_).mono ?_
    · intro i k hk
      match i, hk with
      | 0, hk => simp at hk; subst hk; exact .inl (by omega)
      | 1, hk => simp at hk; subst hk; exact .inr ⟨by omega, _, rfl, rfl⟩
      | 2, hk => simp at hk; subst hk; exact .inr ⟨by omega, _, rfl, rfl⟩
      | _ + 3, hk => simp at hk
    rintro e w2 ⟨rfl, rfl⟩)
  generalize hX : World.alloc w _ = X
  have hx : Ext w X := by rw [← hX]; exact (Ext.rfl_ w).alloc_ _
  clear hX
  have cc := fun (W : World) (hW : Ext w W) => (hblk.ext hW).cell
  have ce := fun (W : World) (hW : Ext w W) (i : Nat) => hW.cells hrb i
  have hCC := Lib.hid cc
  have hCE := Lib.hid ce
  clear cc ce hcb
  have hcb := hCC.out X hx
  have e0 := (hCE.out X hx 0).trans a0
  have e1 := (hCE.out X hx 1).trans a1
  have e2 := (hCE.out X hx 2).trans a2
  have e3 := (hCE.out X hx 3).trans a3
  have e4 := (hCE.out X hx 4).trans a4
  have e5 := (hCE.out X hx 5).trans a5
  have e6 := (hCE.out X hx 6).trans a6
  have e7 := (hCE.out X hx 7).trans a7
  go_upto_region 4 with (go_at_call 152; refine (write_ok_ 7 xt nt mt r f m (by rfl) _ X).mono ?_; rintro e w2 ⟨rfl, hx2⟩)
  have hx2' := hx.trans_ hx2
  clear hcb e0 e1 e2 e3 e4 e5 e6 e7
  have hcb := hCC.out w2 hx2'
  have f0 := (hCE.out w2 hx2' 16).trans d0
  have f1 := (hCE.out w2 hx2' 17).trans d1
  have f2' := (hCE.out w2 hx2' 18).trans d2
  have f3 := (hCE.out w2 hx2' 19).trans d3
  have f4 := (hCE.out w2 hx2' 20).trans d4
  have f5 := (hCE.out w2 hx2' 21).trans d5
  have f6 := (hCE.out w2 hx2' 22).trans d6
  have f7 := (hCE.out w2 hx2' 23).trans d7
  have hrv : View (w2.alloc (.cells #[.int .i64 7, .bool xf, .int .i64 0, .int .i64 nf, .string mf, .int .i64 r2, .int .i64 f2, .int .i64 q] 27)) 8 (some ⟨w2.heap.size, 0, none⟩) 1 (obCells [⟨7, xf, 0, nf, mf, r2, f2, q⟩]) :=
    View.of_blk (n := 1) (Blk.new w2 27 [.int .i64 7, .bool xf, .int .i64 0, .int .i64 nf, .string mf, .int .i64 r2, .int .i64 f2, .int .i64 q]) rfl
  have hRv := Lib.hid hrv
  clear hrv
  go_upto_region 5 with (
    go_at_call 149
    refine (read_ok hRv.out (by omega) ?_ _).mono ?_
    · intro o ho
      simp only [List.mem_cons, List.mem_nil_iff, or_false] at ho
      subst ho
      exact ⟨rfl, .inl rfl⟩
    rintro e w3 ⟨rfl, hx3⟩)
  have hx3' : Ext w w3 := (hx2'.alloc_ _).trans_ hx3
  clear hcb f0 f1 f2' f3 f4 f5 f6 f7
  have yc := fun (E : ExtOf w3) => hCC.out E.w (hx3'.trans_ E.h)
  have ye := fun (E : ExtOf w3) (i : Nat) => hCE.out E.w (hx3'.trans_ E.h) i
  refine wp_region_ext_tail 20 (by kernel_rfl) (by kernel_rfl) ?_
  simp only [List.take_succ_cons, List.take_zero, List.drop_succ_cons, List.drop_zero]
  repeat (go_big_quiet_step (fail))
  refine wpQuiet_nil fun E => ?_
  clear yc ye
  have hxE := hx3'.trans_ E.h
  go_wp2_with (go_at_call 155; refine (lay_no 7 xt 0 nt mt r f m a 7 xf 0 nf mf r2 f2 q hq hm hq2 ha _ _).mono ?_; rintro e w4 ⟨rfl, hx4⟩)
  exact ⟨rfl, rfl, hxE.trans_ hx4⟩
set_option maxRecDepth 100000 in
set_option maxHeartbeats 1000000 in
theorem putinterval_ok (s : Sto w p σ h ρ) (xt : Bool) (nt : Int) (mt : ByteArray) (r f m : Nat) (ka : Int) (xa : Bool) (aa : Int) (ma : ByteArray) (ra fa la : Int) (hka : ka = 1) (a : Nat) (xf : Bool) (nf : Int) (mf : ByteArray) (r2 f2 q : Nat)
    (sc : Cal w c p t [⟨7, xt, 0, nt, mt, r, f, m⟩, ⟨ka, xa, aa, a, ma, ra, fa, la⟩, ⟨7, xf, 0, nf, mf, r2, f2, q⟩]) (hc : ρ c = none) (hmk : σ.marks = []) (L : List Ob) (hL : σ.lists[r]? = some L) (hfm : f + m ≤ L.length) (L2 : List Ob) (hL2 : σ.lists[r2]? = some L2) (hfm2 : f2 + q ≤ L2.length) (haq : a + q ≤ m) (hit : ∀ o ∈ (L2.drop f2).take q, o.k = 1) (hch : σ.changes.length + 1 ≤ 4294967296) :
    Calls Try.prog 132 #[.pointer (some ⟨c, 0, none⟩)] w fun e w' => e = .returned (.slice none 0 0) ∧ StoTo w w' p ρ { σ with lists := σ.lists.set r (splice L (f + a) ((L2.drop f2).take q)) } := by
  subst hka
  have htn : t.n = 3 := sc.n
  obtain ⟨g, hga, hgb⟩ := sc.row.pos (show 0 < t.n by omega)
  have hcap := sc.row.cap_le
  simp only [maxLen] at hcap
  have hblk := sc.blk
  rw [hga, htn] at hblk
  have hrb : g < w.heap.size := sc.row.blk_lt hgb
  obtain ⟨a0, a1, a2, a3, a4, a5, a6, a7⟩ := sc.row.ob (off := 0) (q := 0) hga rfl rfl
  obtain ⟨b0, b1, b2, b3, b4, b5, b6, b7⟩ := sc.row.ob (off := 8) (q := 1) hga rfl rfl
  obtain ⟨d0, d1, d2, d3, d4, d5, d6, d7⟩ := sc.row.ob (off := 16) (q := 2) hga rfl rfl
  have hcb := hblk.cell
  simp only [Nat.zero_add, Nat.reduceAdd] at a1 a2 a3 a4 a5 a6 a7 b1 b2 b3 b4 b5 b6 b7 d1 d2 d3 d4 d5 d6 d7
  have hga' := Lib.hid hga
  have htn' := Lib.hid htn
  clear hga htn
  go_enter Try.func132, Try.ntmps132
  go_upto_region 2 with (go_at_call 153; refine (sequence0_ok sc (o := ⟨7, xt, 0, nt, mt, r, f, m⟩) rfl rfl).mono ?_; rintro e w1 ⟨rfl, rfl⟩)
  have hkv : View (w.alloc (.cells #[.int .i64 (-1), .int .i64 1, .int .i64 7] 3)) 1 (some ⟨w.heap.size, 0, none⟩) 3 (([-1, 1, 7] : List Int).map (Value.int .i64)) := View.of_blk (n := 3) (Blk.new w 3 [.int .i64 (-1), .int .i64 1, .int .i64 7]) rfl
  have hKv := Lib.hid hkv
  clear hkv
  go_upto_region 3 with (
    go_at_call 145
    refine (kinds_ok (sc.ext ((Ext.rfl_ w).alloc_ _)) [-1, 1, 7] hKv.out (by omega) ?_).mono ?_
    · intro i k hk
      match i, hk with
      | 0, hk => simp at hk; subst hk; exact .inl (by omega)
      | 1, hk => simp at hk; subst hk; exact .inr ⟨by omega, _, rfl, rfl⟩
      | 2, hk => simp at hk; subst hk; exact .inr ⟨by omega, _, rfl, rfl⟩
      | _ + 3, hk => simp at hk
    rintro e w2 ⟨rfl, rfl⟩)
  generalize hX : World.alloc w _ = X
  have hx : Ext w X := by rw [← hX]; exact (Ext.rfl_ w).alloc_ _
  clear hX
  have cc := fun (W : World) (hW : Ext w W) => (hblk.ext hW).cell
  have ce := fun (W : World) (hW : Ext w W) (i : Nat) => hW.cells hrb i
  have hCC := Lib.hid cc
  have hCE := Lib.hid ce
  clear cc ce hcb
  have hcb := hCC.out X hx
  have e0 := (hCE.out X hx 0).trans a0
  have e1 := (hCE.out X hx 1).trans a1
  have e2 := (hCE.out X hx 2).trans a2
  have e3 := (hCE.out X hx 3).trans a3
  have e4 := (hCE.out X hx 4).trans a4
  have e5 := (hCE.out X hx 5).trans a5
  have e6 := (hCE.out X hx 6).trans a6
  have e7 := (hCE.out X hx 7).trans a7
  go_upto_region 4 with (go_at_call 152; refine (write_ok_ 7 xt nt mt r f m (by rfl) _ X).mono ?_; rintro e w2 ⟨rfl, hx2⟩)
  have hx2' := hx.trans_ hx2
  clear hcb e0 e1 e2 e3 e4 e5 e6 e7
  have hcb := hCC.out w2 hx2'
  have f0 := (hCE.out w2 hx2' 16).trans d0
  have f1 := (hCE.out w2 hx2' 17).trans d1
  have f2' := (hCE.out w2 hx2' 18).trans d2
  have f3 := (hCE.out w2 hx2' 19).trans d3
  have f4 := (hCE.out w2 hx2' 20).trans d4
  have f5 := (hCE.out w2 hx2' 21).trans d5
  have f6 := (hCE.out w2 hx2' 22).trans d6
  have f7 := (hCE.out w2 hx2' 23).trans d7
  have hrv : View (w2.alloc (.cells #[.int .i64 7, .bool xf, .int .i64 0, .int .i64 nf, .string mf, .int .i64 r2, .int .i64 f2, .int .i64 q] 27)) 8 (some ⟨w2.heap.size, 0, none⟩) 1 (obCells [⟨7, xf, 0, nf, mf, r2, f2, q⟩]) :=
    View.of_blk (n := 1) (Blk.new w2 27 [.int .i64 7, .bool xf, .int .i64 0, .int .i64 nf, .string mf, .int .i64 r2, .int .i64 f2, .int .i64 q]) rfl
  have hRv := Lib.hid hrv
  clear hrv
  go_upto_region 5 with (
    go_at_call 149
    refine (read_ok hRv.out (by omega) ?_ _).mono ?_
    · intro o ho
      simp only [List.mem_cons, List.mem_nil_iff, or_false] at ho
      subst ho
      exact ⟨rfl, .inl rfl⟩
    rintro e w3 ⟨rfl, hx3⟩)
  have hx3' : Ext w w3 := (hx2'.alloc_ _).trans_ hx3
  clear hcb f0 f1 f2' f3 f4 f5 f6 f7
  have yc := fun (E : ExtOf w3) => hCC.out E.w (hx3'.trans_ E.h)
  have ye := fun (E : ExtOf w3) (i : Nat) => hCE.out E.w (hx3'.trans_ E.h) i
  refine wp_region_ext_tail 20 (by kernel_rfl) (by kernel_rfl) ?_
  simp only [List.take_succ_cons, List.take_zero, List.drop_succ_cons, List.drop_zero]
  repeat (go_big_quiet_step (fail))
  refine wpQuiet_nil fun E => ?_
  clear yc ye
  have hxE := hx3'.trans_ E.h
  go_wp2_with (go_at_call 155; refine (lay_ok (s.ext hxE) (sc.ext hxE) hc hmk xt 0 nt mt r f m L hL hfm a xf 0 nf mf r2 f2 q L2 hL2 hfm2 haq hit hch).mono ?_; rintro e w4 ⟨rfl, h4, ρ4, s4, m4⟩)
  go_ret
  exact ⟨rfl, h4, ρ4, s4, Moves.ext_left hxE m4⟩
end
end Go.Proofs.Ythhckledkhcfeaa
