/- The operators on collections: search. -/
import Derived.Test.YthhckledkhcfeaaCoE
import Derived.Test.YthhckledkhcfeaaRegD
namespace Go.Proofs.Ythhckledkhcfeaa
open Go.RowKit
abbrev nmSE : ByteArray := ⟨#[115, 101, 97, 114, 99, 104]⟩
section
variable {w w' : World} {c p : Nat} {t : Sl} {l : List Ob} {σ : St} {h : Hd} {ρ : Roles}
theorem cbytes_ok (s : Sto w p σ h ρ) (sc : Cal w c p t l) (x : Bool) (ac n : Int) (nm : ByteArray) (r f m : Nat) (b : List UInt8) (hb : σ.texts[r]? = some b) (hfm : f + m ≤ b.length) :
    Calls Try.prog 151 #[.pointer (some ⟨c, 0, none⟩), .agg #[.int .i64 6, .bool x, .int .i64 ac, .int .i64 n, .string nm, .int .i64 r, .int .i64 f, .int .i64 m]] w fun e w' =>
      ∃ v : Sl, e = .returned (.slice v.a v.n v.c) ∧ v.n = m ∧ Fresh w w' 5 1 v (byteCells ((b.drop f).take m)) := by
  have hHb := Lib.hid hb
  clear hb
  go_enter Try.func151, Try.ntmps151
  go_upto_region 1 with fail
  generalize hX : World.alloc w _ = X
  obtain ⟨hx, hcX, hfX, hzX, hbX⟩ := boxed hX
  clear hX hfX hcX
  have s1 := s.ext hx
  have y1 := fun (E : ExtOf X) i => (E.cells (sc.blk.ext hx).lt i).trans ((sc.blk.ext hx).cell i)
  have y2 := fun (E : ExtOf X) i => (E.cells hbX.lt i).trans (hbX.cell i)
  refine wp_region_call 5 (fun w' => ∃ E : ExtOf X, w' = E.w) rfl (by kernel_rfl) (by kernel_rfl) (fun c a d v w h => by cases d <;> exact h) ⟨⟨_, (Ext.rfl_ X).drew_⟩, rfl⟩ ?_
  simp only [List.take_succ_cons, List.take_zero]
  repeat (go_big_quiet_step (fail))
  refine wpQuiet_nil ?_
  clear y1 y2
  refine fun K hK => ?_
  go_simp
  go_wp2_with (go_at_call 26; refine (bytes_ok (s1.ext (Ext.rfl_ X).drew_) x ac n nm r f m b hHb.out hfm).mono ?_; rintro e w2 ⟨v, rfl, hvn, hfr⟩; have hFr := Lib.hid hfr; have hVn := Lib.hid hvn; clear hfr hvn)
  repeat (go_big_quiet_step (fail))
  refine wpQuiet_nil ?_
  go_wp2_with (go_at_call 146; refine (must_ok w2).mono ?_; rintro e w3 ⟨rfl, rfl⟩)
  go_ret
  exact ⟨v, rfl, hVn.out, hFr.out.1, fun g hg => Nat.le_trans (hx.drew_).size (hFr.out.2.1 g hg), (hx.drew_).trans_ hFr.out.2.2⟩
theorem truth_c (q : Bool) (w : World) : Calls Try.prog 156 #[.bool q] w fun e w' => e = .returned (.agg #[.int .i64 3, .bool false, .int .i64 0, .int .i64 (if q then 1 else 0), .string ByteArray.empty, .int .i64 0, .int .i64 0, .int .i64 0]) ∧ Ext w w' := by
  cases q
  · go_enter Try.func156, Try.ntmps156
    go_wp2
    refine bodyPost_ret (res_c rfl rfl (Blk.new w 27 _) Try.underlying27 (by kernel_rfl)) rfl ⟨rfl, (Ext.rfl_ w).alloc_ _⟩
  · go_enter Try.func156, Try.ntmps156
    go_wp2
    refine bodyPost_ret (res_c rfl rfl (Blk.new w 27 _) Try.underlying27 (by kernel_rfl)) rfl ⟨rfl, (Ext.rfl_ w).alloc_ _⟩
set_option maxRecDepth 100000 in
set_option maxHeartbeats 1000000 in
theorem cpart_ok (s : Sto w p σ h ρ) (sc : Cal w c p t l) (k : Int) (x : Bool) (ac n : Int) (nm : ByteArray) (rf fr ln from_ m : Int) (hk : k = 6 ∨ k = 7) (hv : σ.valid ⟨k, x, ac, n, nm, rf, fr, ln⟩ = true) (h0 : 0 ≤ from_) (h1 : 0 ≤ m) (h2 : from_ ≤ ln) (h3 : m ≤ ln - from_) :
    Calls Try.prog 154 #[.pointer (some ⟨c, 0, none⟩), .agg #[.int .i64 k, .bool x, .int .i64 ac, .int .i64 n, .string nm, .int .i64 rf, .int .i64 fr, .int .i64 ln], .int .i64 from_, .int .i64 m] w fun e w' =>
      e = .returned (.agg #[.int .i64 k, .bool x, .int .i64 ac, .int .i64 n, .string nm, .int .i64 rf, .int .i64 (fr + from_), .int .i64 m]) ∧ Ext w w' := by
  have hV := Lib.hid hv
  have hKk := Lib.hid hk
  clear hv hk
  go_enter Try.func154, Try.ntmps154
  go_upto_region 1 with fail
  generalize hX : World.alloc (World.alloc w _) _ = X
  obtain ⟨hx, hB5, hB8⟩ := boxed2 hX
  clear hX
  have s1 := s.ext hx
  have y1 := fun (E : ExtOf X) i => (E.cells (sc.blk.ext hx).lt i).trans ((sc.blk.ext hx).cell i)
  have y2 := fun (E : ExtOf X) i => (E.cells hB5.lt i).trans (hB5.cell i)
  refine wp_region_alloc_ 7 11 (fun w' => ∃ E : ExtOf X, w' = E.w) rfl rfl (by kernel_rfl) (by kernel_rfl) (fun c a d v w h => by cases d <;> exact h) ⟨⟨_, (Ext.rfl_ X).drew_⟩, rfl⟩ ?_
  simp only [List.take_succ_cons, List.take_zero]
  repeat (go_big_quiet_step (fail))
  refine wpQuiet_nil ?_
  clear y1 y2
  have hfb := valid_bounds s (o := ⟨k, x, ac, n, nm, rf, fr, ln⟩) hKk.out hV.out
  dsimp only at hfb
  obtain ⟨hfb0, hfb1, hfb2⟩ := hfb
  refine ⟨fun K hK => ?_, fun K hK => ?_⟩
  · go_simp
    refine (part_ok (s1.ext (Ext.rfl_ X).drew_) k x ac n nm rf fr ln from_ m hKk.out hV.out h0 h1 h2 h3).mono ?_
    rintro e w2 ⟨rfl, hx2⟩
    refine hK _ _ ?_
    clear hK K
    show wpQuiet _ _ _ _ _ _
    repeat (go_big_quiet_step (fail))
    refine wpQuiet_nil ?_
    go_upto_region 2 with fail
    generalize hX2 : World.alloc w2 _ = X2
    obtain ⟨hx3, -, -, -, hb9⟩ := boxed hX2
    clear hX2
    have hx9 : Ext X X2 := ((Ext.rfl_ X).drew_.trans_ hx2).trans_ hx3
    have hcp := hb9.cell
    have hB8' := hB8.ext hx9
    have hc8 := hB8'.cell
    have hf8 := hB8'.frozen
    go_wp2_with (go_at_call 146; refine (must_ok X2).mono ?_; rintro e w3 ⟨rfl, rfl⟩)
    refine bodyPost_ret (res_c rfl rfl (set8_blk hB8' _ _ _ _ _ _ _ _) Try.underlying27 (by kernel_rfl)) rfl ⟨rfl, ?_⟩
    exact (hx.trans_ hx9).only (set8_only _ _ _ _ _ _ _ _ _ _) (by omega)
  · go_simp
    refine hK _ _ ⟨⟨⟨_, ((Ext.rfl_ X).alloc_ _).drew_⟩, rfl⟩, fun K2 hK2 => ?_⟩
    clear hK
    go_simp
    refine (part_ok (s1.ext ((Ext.rfl_ X).alloc_ _).drew_) k x ac n nm rf fr ln from_ m hKk.out hV.out h0 h1 h2 h3).mono ?_
    rintro e w2 ⟨rfl, hx2⟩
    refine hK2 _ _ ?_
    clear hK2 K2 K
    show wpQuiet _ _ _ _ _ _
    repeat (go_big_quiet_step (fail))
    refine wpQuiet_nil ?_
    have hb12 := (Blk.new X 27 [.int .i64 0, .bool false, .int .i64 0, .int .i64 0, .string ByteArray.empty, .int .i64 0, .int .i64 0, .int .i64 0]).drew.ext hx2
    have hc12 := hb12.cell
    have hf12 := hb12.frozen
    go_upto_region 2 with fail
    have hb9 := set8_blk hb12 (.int .i64 k) (.bool x) (.int .i64 ac) (.int .i64 n) (.string nm) (.int .i64 rf) (.int .i64 (fr + from_)) (.int .i64 m)
    have hx9 : Ext X (set8 w2 X.heap.size (.int .i64 k) (.bool x) (.int .i64 ac) (.int .i64 n) (.string nm) (.int .i64 rf) (.int .i64 (fr + from_)) (.int .i64 m)) := (((Ext.rfl_ X).alloc_ _).drew_.trans_ hx2).only (set8_only _ _ _ _ _ _ _ _ _ _) (Nat.le_refl _)
    clear hc12 hf12 hb12
    unfold set8 at hb9 hx9
    generalize World.setCell _ ⟨X.heap.size, 7, none⟩ (.int .i64 m) = X2 at hb9 hx9 ⊢
    have hcp := hb9.cell
    have hB8' := hB8.ext hx9
    have hc8 := hB8'.cell
    have hf8 := hB8'.frozen
    go_wp2_with (go_at_call 146; refine (must_ok X2).mono ?_; rintro e w3 ⟨rfl, rfl⟩)
    refine bodyPost_ret (res_c rfl rfl (set8_blk hB8' _ _ _ _ _ _ _ _) Try.underlying27 (by kernel_rfl)) rfl ⟨rfl, ?_⟩
    exact (hx.trans_ hx9).only (set8_only _ _ _ _ _ _ _ _ _ _) (by omega)
end
end Go.Proofs.Ythhckledkhcfeaa
