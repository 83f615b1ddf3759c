/- The law SaveRefuses: its walk. -/
import Derived.Test.YthhckledkhcfeaaSvC
namespace Go.Proofs.Ythhckledkhcfeaa
open Go.RowKit
section
variable {w w' : World}
set_option maxRecDepth 100000 in
set_option maxHeartbeats 1000000 in
theorem SaveRefuses_yes (k : Int) (x : Bool) (ac n : Int) (nm : ByteArray) (rf fr ln : Int) (hk : (k == 10) = true) (w : World) :
    Calls Try.prog 5 #[.agg #[.int .i64 k, .bool x, .int .i64 ac, .int .i64 n, .string nm, .int .i64 rf, .int .i64 fr, .int .i64 ln]] w fun e w' => e = .returned (.bool true) ∧ Ext w w' := by
  go_enter Try.func5, Try.ntmps5
  go_upto_region 1 with fail
  generalize hX0 : World.alloc w _ = X0
  obtain ⟨hx0, hcX, hfX, hzX, hbX⟩ := boxed hX0
  clear hX0 hcX hfX
  go_upto_region 2 with (
    go_at_call 12
    refine (new_ok 100 X0 (by omega) (by omega)).mono ?_
    rintro e w1 ⟨rfl, s1, hx1⟩)
  go_upto_region 3 with (
    go_at_call 18
    refine (saveNew w1 _).mono ?_
    rintro e w2 ⟨rfl, b2, hx2⟩)
  have hs := Sav.new_ b2
  have hb := (hbX.ext hx1).ext hx2
  have hcb := hb.cell
  go_upto_region 7 with fail
  clear hcb
  go_upto_region 8 with (
    go_at_call 19
    refine (save_nil w2).mono ?_
    rintro e w3 ⟨rfl, hx3⟩)
  generalize hX3 : World.alloc w3 _ = X3
  obtain ⟨hx3', -, -, -, -⟩ := boxed hX3
  clear hX3
  go_upto_region 9 with (
    go_at_call 18
    refine (saveNew X3 none).mono ?_
    rintro e w4 ⟨rfl, b4, hx4⟩)
  go_upto_region 11 with (
    go_at_call 19
    refine (save_empty b4).mono ?_
    rintro e w5 ⟨rfl, hx5⟩)
  generalize hX5 : World.alloc w5 _ = X5
  obtain ⟨hx5', -, -, -, -⟩ := boxed hX5
  clear hX5
  have h2X : Ext w2 X5 := (((hx3.trans_ hx3').trans_ hx4).trans_ hx5).trans_ hx5'
  have h4X : Ext w4 X5 := hx5.trans_ hx5'
  have hbX5 := hb.ext h2X
  have hsX := hs.ext h2X
  have heX := b4.ext h4X
  have hw : Ext w X5 := ((hx0.trans_ hx1).trans_ hx2).trans_ h2X
  have hAt : ∀ W, Ext X5 W → Calls Try.prog 67 #[.pointer (some ⟨w1.heap.size, 0, none⟩), .agg #[.int .i64 k, .bool x, .int .i64 ac, .int .i64 n, .string nm, .int .i64 rf, .int .i64 fr, .int .i64 ln]] W fun e w' => e = .returned (.int .i64 (-1)) ∧ Ext W w' := fun W hW => by
    by_cases hk10 : k = 10
    · exact at_save (hsX.ext hW) k x ac n nm rf fr ln hk10
    · exact at_other (hsX.ext hW) k x ac n nm rf fr ln hk10
  have hRv : ∀ W, Ext X5 W → Calls Try.prog 21 #[.pointer (some ⟨w1.heap.size, 0, none⟩), .agg #[.int .i64 k, .bool x, .int .i64 ac, .int .i64 n, .string nm, .int .i64 rf, .int .i64 fr, .int .i64 ln], .slice none 0 0] W fun e w' => e = .returned (.int .i64 8) ∧ Ext X5 w' := fun W hW =>
    (restore_no W (b := false) (i := -1) (fun W' h' => hAt W' (hW.trans_ h')) (fun W' h' => none_c (hsX.ext (hW.trans_ h'))) (by simp only [bne, hk]; simp)).mono fun e w' ⟨he, hx⟩ => ⟨he, hW.trans_ hx⟩
  have hRn : ∀ W, Ext X5 W → Calls Try.prog 21 #[.pointer none, .agg #[.int .i64 k, .bool x, .int .i64 ac, .int .i64 n, .string nm, .int .i64 rf, .int .i64 fr, .int .i64 ln], .slice none 0 0] W fun e w' => e = .returned (.int .i64 21) ∧ Ext X5 w' := fun W hW =>
    (restore_no W (b := true) (i := -1) (fun W' _ => at_nil W' k x ac n nm rf fr ln) (fun W' _ => none_nil W') (.inl ⟨rfl, rfl⟩)).mono fun e w' ⟨he, hx⟩ => ⟨he, hW.trans_ hx⟩
  have hRe : ∀ W, Ext X5 W → Calls Try.prog 21 #[.pointer (some ⟨X3.heap.size, 0, none⟩), .agg #[.int .i64 k, .bool x, .int .i64 ac, .int .i64 n, .string nm, .int .i64 rf, .int .i64 fr, .int .i64 ln], .slice none 0 0] W fun e w' => e = .returned (.int .i64 21) ∧ Ext X5 w' := fun W hW =>
    (restore_no W (b := true) (i := -1) (fun W' h' => at_empty (heX.ext (hW.trans_ h')) k x ac n nm rf fr ln) (fun W' h' => none_empty (heX.ext (hW.trans_ h'))) (.inl ⟨rfl, rfl⟩)).mono fun e w' ⟨he, hx⟩ => ⟨he, hW.trans_ hx⟩
  have hAv : ∀ W, Ext X5 W → Calls Try.prog 23 #[.pointer (some ⟨w1.heap.size, 0, none⟩), .agg #[.int .i64 k, .bool x, .int .i64 ac, .int .i64 n, .string nm, .int .i64 rf, .int .i64 fr, .int .i64 ln]] W fun e w' => e = .returned (.bool false) ∧ Ext X5 w' := fun W hW =>
    (alive_of (b := false) (hAt _ (hW.alloc_ _)) (by rfl)).mono fun e w' ⟨he, hx⟩ => ⟨he, hW.trans_ hx⟩
  have hAn : ∀ W, Ext X5 W → Calls Try.prog 23 #[.pointer none, .agg #[.int .i64 k, .bool x, .int .i64 ac, .int .i64 n, .string nm, .int .i64 rf, .int .i64 fr, .int .i64 ln]] W fun e w' => e = .returned (.bool false) ∧ Ext X5 w' := fun W hW =>
    (alive_of (b := false) (at_nil _ k x ac n nm rf fr ln) (by rfl)).mono fun e w' ⟨he, hx⟩ => ⟨he, hW.trans_ hx⟩
  have hAe : ∀ W, Ext X5 W → Calls Try.prog 23 #[.pointer (some ⟨X3.heap.size, 0, none⟩), .agg #[.int .i64 k, .bool x, .int .i64 ac, .int .i64 n, .string nm, .int .i64 rf, .int .i64 fr, .int .i64 ln]] W fun e w' => e = .returned (.bool false) ∧ Ext X5 w' := fun W hW =>
    (alive_of (b := false) (at_empty ((heX.ext hW).alloc _) k x ac n nm rf fr ln) (by rfl)).mono fun e w' ⟨he, hx⟩ => ⟨he, hW.trans_ hx⟩
  have hDn : ∀ W, Ext X5 W → Calls Try.prog 22 #[.pointer none] W fun e w' => e = .returned (.int .i64 0) ∧ Ext X5 w' := fun W hW => (depth_nil W).mono fun e w' ⟨he, hx⟩ => ⟨he, hx ▸ hW⟩
  have hDe : ∀ W, Ext X5 W → Calls Try.prog 22 #[.pointer (some ⟨X3.heap.size, 0, none⟩)] W fun e w' => e = .returned (.int .i64 0) ∧ Ext X5 w' := fun W hW => (depth_empty (heX.ext hW)).mono fun e w' ⟨he, hx⟩ => ⟨he, hx ▸ hW⟩
  have jRv := Lib.hid hRv
  have jRn := Lib.hid hRn
  have jRe := Lib.hid hRe
  have jAv := Lib.hid hAv
  have jAn := Lib.hid hAn
  have jAe := Lib.hid hAe
  have jDn := Lib.hid hDn
  have jDe := Lib.hid hDe
  clear hRv hRn hRe hAv hAn hAe hDn hDe hAt hsX heX hs hb b2 b4
  have hq0 : Ext X5 X5 := Ext.rfl_ X5
  go_wp2_with (first
    | (go_at_call 20; refine (answers6 X5).mono ?_; rintro e w6 ⟨rfl, hq⟩; have hcq := (hbX5.ext hq).cell)
    | (go_at_call_of 21 (Value.pointer (some { block := w1.heap.size, off := 0 })); refine (jRv.out _ (by assumption)).mono ?_; rintro e w6 ⟨rfl, hq⟩; have hcq := (hbX5.ext hq).cell)
    | (go_at_call_of 21 (Value.pointer none); refine (jRn.out _ (by assumption)).mono ?_; rintro e w6 ⟨rfl, hq⟩; have hcq := (hbX5.ext hq).cell)
    | (go_at_call_of 21 (Value.pointer (some { block := X3.heap.size, off := 0 })); refine (jRe.out _ (by assumption)).mono ?_; rintro e w6 ⟨rfl, hq⟩; have hcq := (hbX5.ext hq).cell)
    | (go_at_call_of 23 (Value.pointer (some { block := w1.heap.size, off := 0 })); refine (jAv.out _ (by assumption)).mono ?_; rintro e w6 ⟨rfl, hq⟩; have hcq := (hbX5.ext hq).cell)
    | (go_at_call_of 23 (Value.pointer none); refine (jAn.out _ (by assumption)).mono ?_; rintro e w6 ⟨rfl, hq⟩; have hcq := (hbX5.ext hq).cell)
    | (go_at_call_of 23 (Value.pointer (some { block := X3.heap.size, off := 0 })); refine (jAe.out _ (by assumption)).mono ?_; rintro e w6 ⟨rfl, hq⟩; have hcq := (hbX5.ext hq).cell)
    | (go_at_call_of 22 (Value.pointer none); refine (jDn.out _ (by assumption)).mono ?_; rintro e w6 ⟨rfl, hq⟩; have hcq := (hbX5.ext hq).cell)
    | (go_at_call_of 22 (Value.pointer (some { block := X3.heap.size, off := 0 })); refine (jDe.out _ (by assumption)).mono ?_; rintro e w6 ⟨rfl, hq⟩; have hcq := (hbX5.ext hq).cell))
  go_ret
  exact ⟨rfl, hw.trans_ (by assumption)⟩
set_option maxRecDepth 100000 in
set_option maxHeartbeats 1000000 in
theorem SaveRefuses_no (k : Int) (x : Bool) (ac n : Int) (nm : ByteArray) (rf fr ln : Int) (hk : (k == 10) = false) (w : World) :
    Calls Try.prog 5 #[.agg #[.int .i64 k, .bool x, .int .i64 ac, .int .i64 n, .string nm, .int .i64 rf, .int .i64 fr, .int .i64 ln]] w fun e w' => e = .returned (.bool true) ∧ Ext w w' := by
  go_enter Try.func5, Try.ntmps5
  go_upto_region 1 with fail
  generalize hX0 : World.alloc w _ = X0
  obtain ⟨hx0, hcX, hfX, hzX, hbX⟩ := boxed hX0
  clear hX0 hcX hfX
  go_upto_region 2 with (
    go_at_call 12
    refine (new_ok 100 X0 (by omega) (by omega)).mono ?_
    rintro e w1 ⟨rfl, s1, hx1⟩)
  go_upto_region 3 with (
    go_at_call 18
    refine (saveNew w1 _).mono ?_
    rintro e w2 ⟨rfl, b2, hx2⟩)
  have hs := Sav.new_ b2
  have hb := (hbX.ext hx1).ext hx2
  have hcb := hb.cell
  go_upto_region 7 with fail
  clear hcb
  go_upto_region 8 with (
    go_at_call 19
    refine (save_nil w2).mono ?_
    rintro e w3 ⟨rfl, hx3⟩)
  generalize hX3 : World.alloc w3 _ = X3
  obtain ⟨hx3', -, -, -, -⟩ := boxed hX3
  clear hX3
  go_upto_region 9 with (
    go_at_call 18
    refine (saveNew X3 none).mono ?_
    rintro e w4 ⟨rfl, b4, hx4⟩)
  go_upto_region 11 with (
    go_at_call 19
    refine (save_empty b4).mono ?_
    rintro e w5 ⟨rfl, hx5⟩)
  generalize hX5 : World.alloc w5 _ = X5
  obtain ⟨hx5', -, -, -, -⟩ := boxed hX5
  clear hX5
  have h2X : Ext w2 X5 := (((hx3.trans_ hx3').trans_ hx4).trans_ hx5).trans_ hx5'
  have h4X : Ext w4 X5 := hx5.trans_ hx5'
  have hbX5 := hb.ext h2X
  have hsX := hs.ext h2X
  have heX := b4.ext h4X
  have hw : Ext w X5 := ((hx0.trans_ hx1).trans_ hx2).trans_ h2X
  have hAt : ∀ W, Ext X5 W → Calls Try.prog 67 #[.pointer (some ⟨w1.heap.size, 0, none⟩), .agg #[.int .i64 k, .bool x, .int .i64 ac, .int .i64 n, .string nm, .int .i64 rf, .int .i64 fr, .int .i64 ln]] W fun e w' => e = .returned (.int .i64 (-1)) ∧ Ext W w' := fun W hW => by
    by_cases hk10 : k = 10
    · exact at_save (hsX.ext hW) k x ac n nm rf fr ln hk10
    · exact at_other (hsX.ext hW) k x ac n nm rf fr ln hk10
  have hRv : ∀ W, Ext X5 W → Calls Try.prog 21 #[.pointer (some ⟨w1.heap.size, 0, none⟩), .agg #[.int .i64 k, .bool x, .int .i64 ac, .int .i64 n, .string nm, .int .i64 rf, .int .i64 fr, .int .i64 ln], .slice none 0 0] W fun e w' => e = .returned (.int .i64 16) ∧ Ext X5 w' := fun W hW =>
    (restore_no W (b := false) (i := -1) (fun W' h' => hAt W' (hW.trans_ h')) (fun W' h' => none_c (hsX.ext (hW.trans_ h'))) (by simp only [bne, hk]; simp)).mono fun e w' ⟨he, hx⟩ => ⟨he, hW.trans_ hx⟩
  have hRn : ∀ W, Ext X5 W → Calls Try.prog 21 #[.pointer none, .agg #[.int .i64 k, .bool x, .int .i64 ac, .int .i64 n, .string nm, .int .i64 rf, .int .i64 fr, .int .i64 ln], .slice none 0 0] W fun e w' => e = .returned (.int .i64 21) ∧ Ext X5 w' := fun W hW =>
    (restore_no W (b := true) (i := -1) (fun W' _ => at_nil W' k x ac n nm rf fr ln) (fun W' _ => none_nil W') (.inl ⟨rfl, rfl⟩)).mono fun e w' ⟨he, hx⟩ => ⟨he, hW.trans_ hx⟩
  have hRe : ∀ W, Ext X5 W → Calls Try.prog 21 #[.pointer (some ⟨X3.heap.size, 0, none⟩), .agg #[.int .i64 k, .bool x, .int .i64 ac, .int .i64 n, .string nm, .int .i64 rf, .int .i64 fr, .int .i64 ln], .slice none 0 0] W fun e w' => e = .returned (.int .i64 21) ∧ Ext X5 w' := fun W hW =>
    (restore_no W (b := true) (i := -1) (fun W' h' => at_empty (heX.ext (hW.trans_ h')) k x ac n nm rf fr ln) (fun W' h' => none_empty (heX.ext (hW.trans_ h'))) (.inl ⟨rfl, rfl⟩)).mono fun e w' ⟨he, hx⟩ => ⟨he, hW.trans_ hx⟩
  have hAv : ∀ W, Ext X5 W → Calls Try.prog 23 #[.pointer (some ⟨w1.heap.size, 0, none⟩), .agg #[.int .i64 k, .bool x, .int .i64 ac, .int .i64 n, .string nm, .int .i64 rf, .int .i64 fr, .int .i64 ln]] W fun e w' => e = .returned (.bool false) ∧ Ext X5 w' := fun W hW =>
    (alive_of (b := false) (hAt _ (hW.alloc_ _)) (by rfl)).mono fun e w' ⟨he, hx⟩ => ⟨he, hW.trans_ hx⟩
  have hAn : ∀ W, Ext X5 W → Calls Try.prog 23 #[.pointer none, .agg #[.int .i64 k, .bool x, .int .i64 ac, .int .i64 n, .string nm, .int .i64 rf, .int .i64 fr, .int .i64 ln]] W fun e w' => e = .returned (.bool false) ∧ Ext X5 w' := fun W hW =>
    (alive_of (b := false) (at_nil _ k x ac n nm rf fr ln) (by rfl)).mono fun e w' ⟨he, hx⟩ => ⟨he, hW.trans_ hx⟩
  have hAe : ∀ W, Ext X5 W → Calls Try.prog 23 #[.pointer (some ⟨X3.heap.size, 0, none⟩), .agg #[.int .i64 k, .bool x, .int .i64 ac, .int .i64 n, .string nm, .int .i64 rf, .int .i64 fr, .int .i64 ln]] W fun e w' => e = .returned (.bool false) ∧ Ext X5 w' := fun W hW =>
    (alive_of (b := false) (at_empty ((heX.ext hW).alloc _) k x ac n nm rf fr ln) (by rfl)).mono fun e w' ⟨he, hx⟩ => ⟨he, hW.trans_ hx⟩
  have hDn : ∀ W, Ext X5 W → Calls Try.prog 22 #[.pointer none] W fun e w' => e = .returned (.int .i64 0) ∧ Ext X5 w' := fun W hW => (depth_nil W).mono fun e w' ⟨he, hx⟩ => ⟨he, hx ▸ hW⟩
  have hDe : ∀ W, Ext X5 W → Calls Try.prog 22 #[.pointer (some ⟨X3.heap.size, 0, none⟩)] W fun e w' => e = .returned (.int .i64 0) ∧ Ext X5 w' := fun W hW => (depth_empty (heX.ext hW)).mono fun e w' ⟨he, hx⟩ => ⟨he, hx ▸ hW⟩
  have jRv := Lib.hid hRv
  have jRn := Lib.hid hRn
  have jRe := Lib.hid hRe
  have jAv := Lib.hid hAv
  have jAn := Lib.hid hAn
  have jAe := Lib.hid hAe
  have jDn := Lib.hid hDn
  have jDe := Lib.hid hDe
  clear hRv hRn hRe hAv hAn hAe hDn hDe hAt hsX heX hs hb b2 b4
  have hq0 : Ext X5 X5 := Ext.rfl_ X5
  go_wp2_with (first
    | (go_at_call 20; refine (answers6 X5).mono ?_; rintro e w6 ⟨rfl, hq⟩; have hcq := (hbX5.ext hq).cell)
    | (go_at_call_of 21 (Value.pointer (some { block := w1.heap.size, off := 0 })); refine (jRv.out _ (by assumption)).mono ?_; rintro e w6 ⟨rfl, hq⟩; have hcq := (hbX5.ext hq).cell)
    | (go_at_call_of 21 (Value.pointer none); refine (jRn.out _ (by assumption)).mono ?_; rintro e w6 ⟨rfl, hq⟩; have hcq := (hbX5.ext hq).cell)
    | (go_at_call_of 21 (Value.pointer (some { block := X3.heap.size, off := 0 })); refine (jRe.out _ (by assumption)).mono ?_; rintro e w6 ⟨rfl, hq⟩; have hcq := (hbX5.ext hq).cell)
    | (go_at_call_of 23 (Value.pointer (some { block := w1.heap.size, off := 0 })); refine (jAv.out _ (by assumption)).mono ?_; rintro e w6 ⟨rfl, hq⟩; have hcq := (hbX5.ext hq).cell)
    | (go_at_call_of 23 (Value.pointer none); refine (jAn.out _ (by assumption)).mono ?_; rintro e w6 ⟨rfl, hq⟩; have hcq := (hbX5.ext hq).cell)
    | (go_at_call_of 23 (Value.pointer (some { block := X3.heap.size, off := 0 })); refine (jAe.out _ (by assumption)).mono ?_; rintro e w6 ⟨rfl, hq⟩; have hcq := (hbX5.ext hq).cell)
    | (go_at_call_of 22 (Value.pointer none); refine (jDn.out _ (by assumption)).mono ?_; rintro e w6 ⟨rfl, hq⟩; have hcq := (hbX5.ext hq).cell)
    | (go_at_call_of 22 (Value.pointer (some { block := X3.heap.size, off := 0 })); refine (jDe.out _ (by assumption)).mono ?_; rintro e w6 ⟨rfl, hq⟩; have hcq := (hbX5.ext hq).cell))
  go_ret
  exact ⟨rfl, hw.trans_ (by assumption)⟩
theorem SaveRefuses_c (k : Int) (x : Bool) (ac n : Int) (nm : ByteArray) (rf fr ln : Int) (w : World) :
    Calls Try.prog 5 #[.agg #[.int .i64 k, .bool x, .int .i64 ac, .int .i64 n, .string nm, .int .i64 rf, .int .i64 fr, .int .i64 ln]] w fun e w' => e = .returned (.bool true) ∧ Ext w w' := by
  cases hk : (k == 10)
  · exact SaveRefuses_no k x ac n nm rf fr ln hk w
  · exact SaveRefuses_yes k x ac n nm rf fr ln hk w
end
end Go.Proofs.Ythhckledkhcfeaa
