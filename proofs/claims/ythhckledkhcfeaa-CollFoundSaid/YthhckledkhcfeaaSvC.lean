/- The saves: where Save, Restore, Alive refuse. -/
import Derived.Test.YthhckledkhcfeaaSvB
namespace Go.Proofs.Ythhckledkhcfeaa
open Go.RowKit
section
variable {w w' : World} {v p : Nat} {σ : St} {h : Hd} {ρ : Roles} {t : Sl} {l : List (Int × Int)} {last : Int}
theorem save_nil (w : World) : Calls Try.prog 19 #[.pointer none] w fun e w' => e = .returned (.tuple #[zeroO, .int .i64 21]) ∧ Ext w w' := by
  go_enter Try.func19, Try.ntmps19
  go_wp2_with (go_at_call 65; refine (none_nil _).mono ?_; rintro e w1 ⟨rfl, rfl⟩)
  refine bodyPost_ret (res_ct rfl rfl (Blk.new w 27 _) Try.underlying27 (by kernel_rfl)) rfl ⟨rfl, (Ext.rfl_ w).alloc_ _⟩
theorem save_empty {v : Nat} {c1 c2 : Value} (h : Blk w v 128 [.pointer none, c1, c2]) : Calls Try.prog 19 #[.pointer (some ⟨v, 0, none⟩)] w fun e w' => e = .returned (.tuple #[zeroO, .int .i64 21]) ∧ Ext w w' := by
  go_enter Try.func19, Try.ntmps19
  go_wp2_with (go_at_call 65; refine (none_empty (h.alloc _)).mono ?_; rintro e w1 ⟨rfl, rfl⟩)
  refine bodyPost_ret (res_ct rfl rfl (Blk.new w 27 _) Try.underlying27 (by kernel_rfl)) rfl ⟨rfl, (Ext.rfl_ w).alloc_ _⟩
/-- Alive. -/
theorem alive_of {q : Option Addr} {i : Int} {k : Int} {x : Bool} {ac n : Int} {nm : ByteArray} {rf fr ln : Int} {b : Bool}
    (hat : Calls Try.prog 67 #[.pointer q, .agg #[.int .i64 k, .bool x, .int .i64 ac, .int .i64 n, .string nm, .int .i64 rf, .int .i64 fr, .int .i64 ln]] (w.alloc (.cells #[.int .i64 k, .bool x, .int .i64 ac, .int .i64 n, .string nm, .int .i64 rf, .int .i64 fr, .int .i64 ln] 27)) fun e w' => e = .returned (.int .i64 i) ∧ Ext (w.alloc (.cells #[.int .i64 k, .bool x, .int .i64 ac, .int .i64 n, .string nm, .int .i64 rf, .int .i64 fr, .int .i64 ln] 27)) w') (hb : decide (0 ≤ i) = b) :
    Calls Try.prog 23 #[.pointer q, .agg #[.int .i64 k, .bool x, .int .i64 ac, .int .i64 n, .string nm, .int .i64 rf, .int .i64 fr, .int .i64 ln]] w fun e w' => e = .returned (.bool b) ∧ Ext w w' := by
  subst hb
  go_enter Try.func23, Try.ntmps23
  go_wp2_with (go_at_call 67; refine hat.mono ?_; rintro e w1 ⟨rfl, hx1⟩)
  go_ret
  exact ⟨rfl, ((Ext.rfl_ w).alloc_ _).trans_ hx1⟩
/-- Restore, where there is nothing. -/
theorem restore_no {q : Option Addr} {i : Int} {k : Int} {x : Bool} {ac n : Int} {nm : ByteArray} {rf fr ln : Int} {b : Bool} {r : Int} (W : World)
    (hat : ∀ W', Ext W W' → Calls Try.prog 67 #[.pointer q, .agg #[.int .i64 k, .bool x, .int .i64 ac, .int .i64 n, .string nm, .int .i64 rf, .int .i64 fr, .int .i64 ln]] W' fun e w' => e = .returned (.int .i64 i) ∧ Ext W' w')
    (hno : ∀ W', Ext W W' → Calls Try.prog 65 #[.pointer q] W' fun e w' => e = .returned (.bool b) ∧ W' = w') (hr : (b = true ∧ r = 21) ∨ (b = false ∧ (k != 10) = true ∧ r = 16) ∨ (b = false ∧ (k != 10) = false ∧ i < 0 ∧ r = 8)) :
    Calls Try.prog 21 #[.pointer q, .agg #[.int .i64 k, .bool x, .int .i64 ac, .int .i64 n, .string nm, .int .i64 rf, .int .i64 fr, .int .i64 ln], .slice none 0 0] W fun e w' => e = .returned (.int .i64 r) ∧ Ext W w' := by
  have hAt := Lib.hid hat
  have hNo := Lib.hid hno
  clear hat hno
  rcases hr with ⟨rfl, rfl⟩ | ⟨rfl, h1, rfl⟩ | ⟨rfl, h1, h2, rfl⟩
  all_goals
    go_enter Try.func21, Try.ntmps21
    go_upto_region 1 with fail
    generalize hX : World.alloc (World.alloc W _) _ = X
    have hB3 := (Blk.new W 37 [.pointer q]).alloc (.cells #[.int .i64 k, .bool x, .int .i64 ac, .int .i64 n, .string nm, .int .i64 rf, .int .i64 fr, .int .i64 ln] 27)
    have hB4 := Blk.new1 W (.cells #[.pointer q] 37) 27 [.int .i64 k, .bool x, .int .i64 ac, .int .i64 n, .string nm, .int .i64 rf, .int .i64 fr, .int .i64 ln]
    have hx : Ext W X := by rw [← hX]; exact ((Ext.rfl_ W).alloc_ _).alloc_ _
    rw [hX] at hB3 hB4
    clear hX
    have hc3 := hB3.cell
    have hc4 := hB4.cell
    go_upto_region 2 with (go_at_call 67; refine (hAt.out X hx).mono ?_; rintro e w1 ⟨rfl, hx1⟩)
    have hc3' := (hB3.ext hx1).cell
    have hc4' := (hB4.ext hx1).cell
    clear hc3 hc4
    go_wp2_with (go_at_call 65; refine (hNo.out w1 (hx.trans_ hx1)).mono ?_; rintro e w2 ⟨rfl, rfl⟩)
    go_ret
    exact ⟨rfl, hx.trans_ hx1⟩
set_option maxRecDepth 100000 in
/-- The law layer answers() of the saves. -/
theorem answers6 (w : World) : Calls Try.prog 20 #[] w fun e w' => e = .returned (.bool true) ∧ Ext w w' := by
  go_enter Try.func20, Try.ntmps20
  go_upto_region 2 with (
    go_at_call 12
    refine (new_ok 50 w (by omega) (by omega)).mono ?_
    rintro e w1 ⟨rfl, s1, hx1⟩)
  go_upto_region 3 with (
    go_at_call 18
    refine (saveNew w1 _).mono ?_
    rintro e w2 ⟨rfl, b2, hx2⟩)
  have hv : Sv w2 w1.heap.size w.heap.size (.empty 50) .empty (.one w.heap.size) .nil [] 0 :=
    ⟨s1.ext hx2, Sav.new_ b2, s1.fresh (Nat.le_refl _), fun g hg => by simp [Sl.blk] at hg, by simp [Sl.blk]⟩
  go_upto_region 4 with (
    go_at_call 19
    refine (save_ok hv (by simp) (by simp [St.empty]) (by omega)).mono ?_
    rintro e w3 ⟨rfl, h3, ρ3, t3, s3, hm3⟩)
  have hw1 := hx1.size
  have hxw : Ext w w3 := (Moves.ext_left (hx1.trans_ hx2) hm3).below (B := w.heap.size) (fun b hb => by
    rcases hb with hb | hb | hb
    · rw [Roles.one_own hb]; exact Nat.le_refl _
    · rw [hb]; exact hw1
    · simp [Sl.blk] at hb) (Nat.le_refl _)
  have hHs := Lib.hid s3
  clear s3 hm3 hv b2
  go_wp2_with (first
    | (go_at_call 22; refine (depth_c (hHs.out.sav.ext ((Ext.rfl_ w3).alloc_ _))).mono ?_; rintro e w4 ⟨rfl, rfl⟩)
    | (go_at_call 23; refine (alive_of (b := true) (at_save (hHs.out.sav.ext (((Ext.rfl_ w3).alloc_ _).alloc_ _)) 10 false 0 1 ByteArray.empty 0 0 0 rfl) (by rfl)).mono ?_; rintro e w4 ⟨rfl, hx4⟩))
  go_ret
  exact ⟨rfl, (hxw.alloc_ _).trans_ hx4⟩
end
end Go.Proofs.Ythhckledkhcfeaa
