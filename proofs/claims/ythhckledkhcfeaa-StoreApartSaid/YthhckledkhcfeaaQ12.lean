/- The law layer of the store: Whole, Real, Truth, plain. A region that draws its order and stores more than once: operations that only read, each in a class of worlds that lasts up to its own store. A region that draws its order: operations that only read, then one that does something (a call), then operations that look at no memory. -/
import Derived.Test.YthhckledkhcfeaaQ06
import Derived.Test.YthhckledkhcfeaaQ11
namespace Go.Proofs.Ythhckledkhcfeaa
open Go.RowKit
/-- A value of the reference. -/
structure Vl where
  k : Int
  x : Bool
  ac : Int
  n : Int
  nm : ByteArray
  s : Option Addr
  a : Option Addr
  d : Option Addr
  fr : Int
  ln : Int
def Vl.cells (v : Vl) : List Value := [.int .i64 v.k, .bool v.x, .int .i64 v.ac, .int .i64 v.n, .string v.nm, .pointer v.s, .pointer v.a, .pointer v.d, .int .i64 v.fr, .int .i64 v.ln]
abbrev Vl.plain (k : Int) (x : Bool) (n : Int) (nm : ByteArray) : Vl := ⟨k, x, 0, n, nm, none, none, none, 0, 0⟩
abbrev vlA (k : Int) (x : Bool) (n : Int) (nm : ByteArray) : Value := .agg #[.int .i64 k, .bool x, .int .i64 0, .int .i64 n, .string nm, .pointer none, .pointer none, .pointer none, .int .i64 0, .int .i64 0]
theorem whole_c (n : Int) (w : World) : Calls Try.prog 50 #[.int .i64 n] w fun e w' => e = .returned (vlA 1 false n ByteArray.empty) ∧ Ext w w' := by
  go_enter Try.func50, Try.ntmps50
  go_wp2
  refine bodyPost_ret (res_c rfl rfl (Blk.new w 69 _) Try.underlying69 (by kernel_rfl)) rfl ⟨rfl, (Ext.rfl_ w).alloc_ _⟩
theorem real_c (n : Int) (w : World) : Calls Try.prog 108 #[.int .i64 n] w fun e w' => e = .returned (vlA 2 false n ByteArray.empty) ∧ Ext w w' := by
  go_enter Try.func108, Try.ntmps108
  go_wp2
  refine bodyPost_ret (res_c rfl rfl (Blk.new w 69 _) Try.underlying69 (by kernel_rfl)) rfl ⟨rfl, (Ext.rfl_ w).alloc_ _⟩
theorem truthv_c (w : World) : Calls Try.prog 109 #[.bool true] w fun e w' => e = .returned (vlA 3 false 1 ByteArray.empty) ∧ Ext w w' := by
  go_enter Try.func109, Try.ntmps109
  go_wp2
  refine bodyPost_ret (res_c rfl rfl (Blk.new w 69 _) Try.underlying69 (by kernel_rfl)) rfl ⟨rfl, (Ext.rfl_ w).alloc_ _⟩
abbrev set10 (w : World) (b : Nat) (v0 v1 v2 v3 v4 v5 v6 v7 v8 v9 : Value) : World := ((((((((((w.setCell ⟨b, 0, none⟩ v0).setCell ⟨b, 1, none⟩ v1).setCell ⟨b, 2, none⟩ v2).setCell ⟨b, 3, none⟩ v3).setCell ⟨b, 4, none⟩ v4).setCell ⟨b, 5, none⟩ v5).setCell ⟨b, 6, none⟩ v6).setCell ⟨b, 7, none⟩ v7).setCell ⟨b, 8, none⟩ v8).setCell ⟨b, 9, none⟩ v9)
theorem set10_only (w : World) (b : Nat) (v0 v1 v2 v3 v4 v5 v6 v7 v8 v9 : Value) : Only w b (set10 w b v0 v1 v2 v3 v4 v5 v6 v7 v8 v9) := (((((((((((Only.refl_ w b).set_ 0 v0).set_ 1 v1).set_ 2 v2).set_ 3 v3).set_ 4 v4).set_ 5 v5).set_ 6 v6).set_ 7 v7).set_ 8 v8).set_ 9 v9)
theorem set10_blk {w : World} {b : Nat} {t : TypeId} {c0 c1 c2 c3 c4 c5 c6 c7 c8 c9 : Value} (h : Blk w b t [c0, c1, c2, c3, c4, c5, c6, c7, c8, c9]) (v0 v1 v2 v3 v4 v5 v6 v7 v8 v9 : Value) : Blk (set10 w b v0 v1 v2 v3 v4 v5 v6 v7 v8 v9) b t [v0, v1, v2, v3, v4, v5, v6, v7, v8, v9] := ((((((((((h.set_ 0 v0).set_ 1 v1).set_ 2 v2).set_ 3 v3).set_ 4 v4).set_ 5 v5).set_ 6 v6).set_ 7 v7).set_ 8 v8).set_ 9 v9)
section
variable {P : Program} {fn : Func} {tmps : Array Value} {w : World} {g g2 : Nat} {t t2 ty ty2 : TypeId} {cs cs2 : List Value} {fs fs2 : Array Field} {p q : Tmp}
theorem res_cc (h : fn.results = #[.cell p ty, .cell q ty2]) (hp : tmps.getD p undef = .pointer (some ⟨g, 0, none⟩)) (hb : Blk w g t cs) (hp2 : tmps.getD q undef = .pointer (some ⟨g2, 0, none⟩)) (hb2 : Blk w g2 t2 cs2) (hu : P.underlying ty = some (.struct fs)) (hi : (P.info? ty).map (·.size) = some cs.length) (hu2 : P.underlying ty2 = some (.struct fs2)) (hi2 : (P.info? ty2).map (·.size) = some cs2.length) :
    (results fn tmps).run P w = .ok (.tuple #[.agg cs.toArray, .agg cs2.toArray]) w := by
  simp only [results, h]
  rw [show (#[ResultVar.cell p ty, .cell q ty2] : Array ResultVar) = [ResultVar.cell p ty, .cell q ty2].toArray from rfl]
  simp only [List.mapM_toArray, List.mapM_cons, List.mapM_nil, Sem.run_bind, hp, hp2, asAddr, Sem.run_pure, Result.andThen_ok, load_blk hb hu hi, load_blk hb2 hu2 hi2, Sem.run_map]
  simp
end
def nmN (n : Nat) : ByteArray := ⟨(110 :: decL n).toArray⟩
/-- Things that need no store, by a number. -/
def plainF (n : Nat) : Ob × Vl :=
  if n % 6 = 0 then (Ob.null, .plain 0 false 0 ByteArray.empty)
  else if n % 6 = 1 then (⟨1, false, 0, n, ByteArray.empty, 0, 0, 0⟩, .plain 1 false n ByteArray.empty)
  else if n % 6 = 2 then (⟨2, false, 0, n * 32768, ByteArray.empty, 0, 0, 0⟩, .plain 2 false (n * 32768) ByteArray.empty)
  else if n % 6 = 3 then (⟨5, true, 0, 0, nmN n, 0, 0, 0⟩, .plain 5 true 0 (nmN n))
  else if n % 6 = 4 then (⟨3, false, 0, 1, ByteArray.empty, 0, 0, 0⟩, .plain 3 false 1 ByteArray.empty)
  else (⟨4, false, 0, 0, ByteArray.empty, 0, 0, 0⟩, .plain 4 false 0 ByteArray.empty)
set_option maxRecDepth 100000 in
set_option maxHeartbeats 2000000 in
theorem plain_0 (n : Nat) (hn : n < 100) (hr : n % 6 = 0) (w : World) :
    Calls Try.prog 83 #[.int .i64 n] w fun e w' => e = .returned (.tuple #[.agg #[.int .i64 0, .bool false, .int .i64 0, .int .i64 0, .string ByteArray.empty, .int .i64 0, .int .i64 0, .int .i64 0], .agg #[.int .i64 0, .bool false, .int .i64 0, .int .i64 0, .string ByteArray.empty, .pointer none, .pointer none, .pointer none, .int .i64 0, .int .i64 0]]) ∧ Ext w w' := by
  have t1 : (n : Int).tmod 6 = 0 := by rw [Int.tmod_eq_emod_of_nonneg (by omega)]; omega
  clear hr
  go_enter Try.func83, Try.ntmps83
  go_upto_region 1 with fail
  generalize hX : World.alloc (World.alloc w _) _ = X
  obtain ⟨hx, hB2, hB3⟩ := boxed2 hX
  clear hX
  have c2 := hB2.cell
  have f2 := hB2.frozen
  have c3 := hB3.cell
  have f3 := hB3.frozen
  go_wp2
  have h2 := set8_blk hB2 (.int .i64 0) (.bool false) (.int .i64 0) (.int .i64 0) (.string ⟨#[]⟩) (.int .i64 0) (.int .i64 0) (.int .i64 0)
  have o2 := set8_only X w.heap.size (.int .i64 0) (.bool false) (.int .i64 0) (.int .i64 0) (.string ⟨#[]⟩) (.int .i64 0) (.int .i64 0) (.int .i64 0)
  have h3 := hB3.keep (o2.block _ (by omega))
  have x2 := hx.only o2 (Nat.le_refl _)
  unfold set8 at h2 o2 h3 x2
  generalize World.setCell _ ⟨w.heap.size, 7, none⟩ (.int .i64 0) = W2 at h2 o2 h3 x2 ⊢
  have h4 := set10_blk h3 (.int .i64 0) (.bool false) (.int .i64 0) (.int .i64 0) (.string ⟨#[]⟩) (.pointer none) (.pointer none) (.pointer none) (.int .i64 0) (.int .i64 0)
  have o4 := set10_only W2 (w.heap.size + 1) (.int .i64 0) (.bool false) (.int .i64 0) (.int .i64 0) (.string ⟨#[]⟩) (.pointer none) (.pointer none) (.pointer none) (.int .i64 0) (.int .i64 0)
  have h5 := h2.keep (o4.block _ (by omega))
  unfold set10 at h4 o4 h5
  generalize World.setCell _ ⟨w.heap.size + 1, 9, none⟩ (.int .i64 0) = W4 at h4 o4 h5 ⊢
  refine bodyPost_ret (res_cc rfl rfl h5 rfl h4 Try.underlying27 (by kernel_rfl) Try.underlying69 (by kernel_rfl)) rfl ⟨rfl, x2.only o4 (by omega)⟩
set_option maxRecDepth 100000 in
set_option maxHeartbeats 2000000 in
theorem plain_1 (n : Nat) (hn : n < 100) (hr : n % 6 = 1) (w : World) :
    Calls Try.prog 83 #[.int .i64 n] w fun e w' => e = .returned (.tuple #[.agg #[.int .i64 1, .bool false, .int .i64 0, .int .i64 (n : Int), .string ByteArray.empty, .int .i64 0, .int .i64 0, .int .i64 0], .agg #[.int .i64 1, .bool false, .int .i64 0, .int .i64 (n : Int), .string ByteArray.empty, .pointer none, .pointer none, .pointer none, .int .i64 0, .int .i64 0]]) ∧ Ext w w' := by
  have t1 : (n : Int).tmod 6 = 1 := by rw [Int.tmod_eq_emod_of_nonneg (by omega)]; omega
  clear hr
  go_enter Try.func83, Try.ntmps83
  go_upto_region 1 with fail
  generalize hX : World.alloc (World.alloc w _) _ = X
  obtain ⟨hx, hB2, hB3⟩ := boxed2 hX
  clear hX
  go_wp2_with (go_at_call 50; refine (whole_c n _).mono ?_; rintro e w1 ⟨rfl, hx1⟩; have c2 := (hB2.ext hx1).cell; have f2 := (hB2.ext hx1).frozen; have c3 := (hB3.ext hx1).cell; have f3 := (hB3.ext hx1).frozen)
  have h2 := set8_blk (hB2.ext hx1) (.int .i64 1) (.bool false) (.int .i64 0) (.int .i64 (n : Int)) (.string ⟨#[]⟩) (.int .i64 0) (.int .i64 0) (.int .i64 0)
  have o2 := set8_only w1 w.heap.size (.int .i64 1) (.bool false) (.int .i64 0) (.int .i64 (n : Int)) (.string ⟨#[]⟩) (.int .i64 0) (.int .i64 0) (.int .i64 0)
  have h3 := (hB3.ext hx1).keep (o2.block _ (by omega))
  have x2 := (hx.trans_ hx1).only o2 (Nat.le_refl _)
  unfold set8 at h2 o2 h3 x2
  generalize World.setCell _ ⟨w.heap.size, 7, none⟩ (.int .i64 0) = W2 at h2 o2 h3 x2 ⊢
  have h4 := set10_blk h3 (.int .i64 1) (.bool false) (.int .i64 0) (.int .i64 (n : Int)) (.string ByteArray.empty) (.pointer none) (.pointer none) (.pointer none) (.int .i64 0) (.int .i64 0)
  have o4 := set10_only W2 (w.heap.size + 1) (.int .i64 1) (.bool false) (.int .i64 0) (.int .i64 (n : Int)) (.string ByteArray.empty) (.pointer none) (.pointer none) (.pointer none) (.int .i64 0) (.int .i64 0)
  have h5 := h2.keep (o4.block _ (by omega))
  unfold set10 at h4 o4 h5
  generalize World.setCell _ ⟨w.heap.size + 1, 9, none⟩ (.int .i64 0) = W4 at h4 o4 h5 ⊢
  refine bodyPost_ret (res_cc rfl rfl h5 rfl h4 Try.underlying27 (by kernel_rfl) Try.underlying69 (by kernel_rfl)) rfl ⟨rfl, x2.only o4 (by omega)⟩
set_option maxRecDepth 100000 in
set_option maxHeartbeats 2000000 in
theorem plain_2 (n : Nat) (hn : n < 100) (hr : n % 6 = 2) (w : World) :
    Calls Try.prog 83 #[.int .i64 n] w fun e w' => e = .returned (.tuple #[.agg #[.int .i64 2, .bool false, .int .i64 0, .int .i64 ((n : Int) * 32768), .string ByteArray.empty, .int .i64 0, .int .i64 0, .int .i64 0], .agg #[.int .i64 2, .bool false, .int .i64 0, .int .i64 ((n : Int) * 32768), .string ByteArray.empty, .pointer none, .pointer none, .pointer none, .int .i64 0, .int .i64 0]]) ∧ Ext w w' := by
  have t1 : (n : Int).tmod 6 = 2 := by rw [Int.tmod_eq_emod_of_nonneg (by omega)]; omega
  clear hr
  go_enter Try.func83, Try.ntmps83
  go_upto_region 1 with fail
  generalize hX : World.alloc (World.alloc w _) _ = X
  obtain ⟨hx, hB2, hB3⟩ := boxed2 hX
  clear hX
  go_wp2_with (go_at_call 108; refine (real_c _ _).mono ?_; rintro e w1 ⟨rfl, hx1⟩; have c2 := (hB2.ext hx1).cell; have f2 := (hB2.ext hx1).frozen; have c3 := (hB3.ext hx1).cell; have f3 := (hB3.ext hx1).frozen)
  have h2 := set8_blk (hB2.ext hx1) (.int .i64 2) (.bool false) (.int .i64 0) (.int .i64 ((n : Int) * 32768)) (.string ⟨#[]⟩) (.int .i64 0) (.int .i64 0) (.int .i64 0)
  have o2 := set8_only w1 w.heap.size (.int .i64 2) (.bool false) (.int .i64 0) (.int .i64 ((n : Int) * 32768)) (.string ⟨#[]⟩) (.int .i64 0) (.int .i64 0) (.int .i64 0)
  have h3 := (hB3.ext hx1).keep (o2.block _ (by omega))
  have x2 := (hx.trans_ hx1).only o2 (Nat.le_refl _)
  unfold set8 at h2 o2 h3 x2
  generalize World.setCell _ ⟨w.heap.size, 7, none⟩ (.int .i64 0) = W2 at h2 o2 h3 x2 ⊢
  have h4 := set10_blk h3 (.int .i64 2) (.bool false) (.int .i64 0) (.int .i64 ((n : Int) * 32768)) (.string ByteArray.empty) (.pointer none) (.pointer none) (.pointer none) (.int .i64 0) (.int .i64 0)
  have o4 := set10_only W2 (w.heap.size + 1) (.int .i64 2) (.bool false) (.int .i64 0) (.int .i64 ((n : Int) * 32768)) (.string ByteArray.empty) (.pointer none) (.pointer none) (.pointer none) (.int .i64 0) (.int .i64 0)
  have h5 := h2.keep (o4.block _ (by omega))
  unfold set10 at h4 o4 h5
  generalize World.setCell _ ⟨w.heap.size + 1, 9, none⟩ (.int .i64 0) = W4 at h4 o4 h5 ⊢
  refine bodyPost_ret (res_cc rfl rfl h5 rfl h4 Try.underlying27 (by kernel_rfl) Try.underlying69 (by kernel_rfl)) rfl ⟨rfl, x2.only o4 (by omega)⟩
set_option maxRecDepth 100000 in
set_option maxHeartbeats 2000000 in
theorem plain_3 (n : Nat) (hn : n < 100) (hr : n % 6 = 3) (w : World) :
    Calls Try.prog 83 #[.int .i64 n] w fun e w' => e = .returned (.tuple #[.agg #[.int .i64 5, .bool true, .int .i64 0, .int .i64 0, .string (nmN n), .int .i64 0, .int .i64 0, .int .i64 0], .agg #[.int .i64 5, .bool true, .int .i64 0, .int .i64 0, .string (nmN n), .pointer none, .pointer none, .pointer none, .int .i64 0, .int .i64 0]]) ∧ Ext w w' := by
  have t1 : (n : Int).tmod 6 = 3 := by rw [Int.tmod_eq_emod_of_nonneg (by omega)]; omega
  clear hr
  have hH := Lib.hid (fun w => dec_c (n : Int) ⟨by omega, by omega⟩ w)
  have hcat : (⟨#[110]⟩ : ByteArray) ++ ⟨(decL n).toArray⟩ = nmN n := str_cons 110 _
  have hsz : (⟨#[110]⟩ : ByteArray).size + (⟨(decL n).toArray⟩ : ByteArray).size ≤ 9223372036854775807 := by
    have hl := decL_len n
    show 1 + (decL n).length ≤ _
    omega
  generalize nmN n = NM at hcat ⊢
  generalize (⟨(decL n).toArray⟩ : ByteArray) = SD at hcat hsz hH
  go_enter Try.func83, Try.ntmps83
  go_upto_region 1 with fail
  generalize hX : World.alloc (World.alloc w _) _ = X
  obtain ⟨hx, hB2, hB3⟩ := boxed2 hX
  clear hX
  go_wp2_with (first | (have hq := hx1; go_at_call 80; refine (hH.out _).mono ?_; rintro e w2 ⟨rfl, hx2⟩; have c2 := ((hB2.ext hx1).ext hx2).cell; have f2 := ((hB2.ext hx1).ext hx2).frozen; have c3 := ((hB3.ext hx1).ext hx2).cell; have f3 := ((hB3.ext hx1).ext hx2).frozen) | (go_at_call 80; refine (hH.out _).mono ?_; rintro e w1 ⟨rfl, hx1⟩))
  have h2 := set8_blk ((hB2.ext hx1).ext hx2) (.int .i64 5) (.bool true) (.int .i64 0) (.int .i64 0) (.string NM) (.int .i64 0) (.int .i64 0) (.int .i64 0)
  have o2 := set8_only w2 w.heap.size (.int .i64 5) (.bool true) (.int .i64 0) (.int .i64 0) (.string NM) (.int .i64 0) (.int .i64 0) (.int .i64 0)
  have h3 := ((hB3.ext hx1).ext hx2).keep (o2.block _ (by omega))
  have x2 := ((hx.trans_ hx1).trans_ hx2).only o2 (Nat.le_refl _)
  unfold set8 at h2 o2 h3 x2
  generalize World.setCell _ ⟨w.heap.size, 7, none⟩ (.int .i64 0) = W2 at h2 o2 h3 x2 ⊢
  have h4 := set10_blk h3 (.int .i64 5) (.bool true) (.int .i64 0) (.int .i64 0) (.string NM) (.pointer none) (.pointer none) (.pointer none) (.int .i64 0) (.int .i64 0)
  have o4 := set10_only W2 (w.heap.size + 1) (.int .i64 5) (.bool true) (.int .i64 0) (.int .i64 0) (.string NM) (.pointer none) (.pointer none) (.pointer none) (.int .i64 0) (.int .i64 0)
  have h5 := h2.keep (o4.block _ (by omega))
  unfold set10 at h4 o4 h5
  generalize World.setCell _ ⟨w.heap.size + 1, 9, none⟩ (.int .i64 0) = W4 at h4 o4 h5 ⊢
  refine bodyPost_ret (res_cc rfl rfl h5 rfl h4 Try.underlying27 (by kernel_rfl) Try.underlying69 (by kernel_rfl)) rfl ⟨rfl, x2.only o4 (by omega)⟩
set_option maxRecDepth 100000 in
set_option maxHeartbeats 2000000 in
theorem plain_4 (n : Nat) (hn : n < 100) (hr : n % 6 = 4) (w : World) :
    Calls Try.prog 83 #[.int .i64 n] w fun e w' => e = .returned (.tuple #[.agg #[.int .i64 3, .bool false, .int .i64 0, .int .i64 1, .string ByteArray.empty, .int .i64 0, .int .i64 0, .int .i64 0], .agg #[.int .i64 3, .bool false, .int .i64 0, .int .i64 1, .string ByteArray.empty, .pointer none, .pointer none, .pointer none, .int .i64 0, .int .i64 0]]) ∧ Ext w w' := by
  have t1 : (n : Int).tmod 6 = 4 := by rw [Int.tmod_eq_emod_of_nonneg (by omega)]; omega
  clear hr
  go_enter Try.func83, Try.ntmps83
  go_upto_region 1 with fail
  generalize hX : World.alloc (World.alloc w _) _ = X
  obtain ⟨hx, hB2, hB3⟩ := boxed2 hX
  clear hX
  go_wp2_with (go_at_call 109; refine (truthv_c _).mono ?_; rintro e w1 ⟨rfl, hx1⟩; have c2 := (hB2.ext hx1).cell; have f2 := (hB2.ext hx1).frozen; have c3 := (hB3.ext hx1).cell; have f3 := (hB3.ext hx1).frozen)
  have h2 := set8_blk (hB2.ext hx1) (.int .i64 3) (.bool false) (.int .i64 0) (.int .i64 1) (.string ⟨#[]⟩) (.int .i64 0) (.int .i64 0) (.int .i64 0)
  have o2 := set8_only w1 w.heap.size (.int .i64 3) (.bool false) (.int .i64 0) (.int .i64 1) (.string ⟨#[]⟩) (.int .i64 0) (.int .i64 0) (.int .i64 0)
  have h3 := (hB3.ext hx1).keep (o2.block _ (by omega))
  have x2 := (hx.trans_ hx1).only o2 (Nat.le_refl _)
  unfold set8 at h2 o2 h3 x2
  generalize World.setCell _ ⟨w.heap.size, 7, none⟩ (.int .i64 0) = W2 at h2 o2 h3 x2 ⊢
  have h4 := set10_blk h3 (.int .i64 3) (.bool false) (.int .i64 0) (.int .i64 1) (.string ByteArray.empty) (.pointer none) (.pointer none) (.pointer none) (.int .i64 0) (.int .i64 0)
  have o4 := set10_only W2 (w.heap.size + 1) (.int .i64 3) (.bool false) (.int .i64 0) (.int .i64 1) (.string ByteArray.empty) (.pointer none) (.pointer none) (.pointer none) (.int .i64 0) (.int .i64 0)
  have h5 := h2.keep (o4.block _ (by omega))
  unfold set10 at h4 o4 h5
  generalize World.setCell _ ⟨w.heap.size + 1, 9, none⟩ (.int .i64 0) = W4 at h4 o4 h5 ⊢
  refine bodyPost_ret (res_cc rfl rfl h5 rfl h4 Try.underlying27 (by kernel_rfl) Try.underlying69 (by kernel_rfl)) rfl ⟨rfl, x2.only o4 (by omega)⟩
set_option maxRecDepth 100000 in
set_option maxHeartbeats 2000000 in
theorem plain_5 (n : Nat) (hn : n < 100) (hr : n % 6 = 5) (w : World) :
    Calls Try.prog 83 #[.int .i64 n] w fun e w' => e = .returned (.tuple #[.agg #[.int .i64 4, .bool false, .int .i64 0, .int .i64 0, .string ByteArray.empty, .int .i64 0, .int .i64 0, .int .i64 0], .agg #[.int .i64 4, .bool false, .int .i64 0, .int .i64 0, .string ByteArray.empty, .pointer none, .pointer none, .pointer none, .int .i64 0, .int .i64 0]]) ∧ Ext w w' := by
  have t1 : (n : Int).tmod 6 = 5 := by rw [Int.tmod_eq_emod_of_nonneg (by omega)]; omega
  clear hr
  go_enter Try.func83, Try.ntmps83
  go_upto_region 1 with fail
  generalize hX : World.alloc (World.alloc w _) _ = X
  obtain ⟨hx, hB2, hB3⟩ := boxed2 hX
  clear hX
  have c2 := hB2.cell
  have f2 := hB2.frozen
  have c3 := hB3.cell
  have f3 := hB3.frozen
  go_wp2
  have h2 := set8_blk hB2 (.int .i64 4) (.bool false) (.int .i64 0) (.int .i64 0) (.string ⟨#[]⟩) (.int .i64 0) (.int .i64 0) (.int .i64 0)
  have o2 := set8_only X w.heap.size (.int .i64 4) (.bool false) (.int .i64 0) (.int .i64 0) (.string ⟨#[]⟩) (.int .i64 0) (.int .i64 0) (.int .i64 0)
  have h3 := hB3.keep (o2.block _ (by omega))
  have x2 := hx.only o2 (Nat.le_refl _)
  unfold set8 at h2 o2 h3 x2
  generalize World.setCell _ ⟨w.heap.size, 7, none⟩ (.int .i64 0) = W2 at h2 o2 h3 x2 ⊢
  have h4 := set10_blk h3 (.int .i64 4) (.bool false) (.int .i64 0) (.int .i64 0) (.string ⟨#[]⟩) (.pointer none) (.pointer none) (.pointer none) (.int .i64 0) (.int .i64 0)
  have o4 := set10_only W2 (w.heap.size + 1) (.int .i64 4) (.bool false) (.int .i64 0) (.int .i64 0) (.string ⟨#[]⟩) (.pointer none) (.pointer none) (.pointer none) (.int .i64 0) (.int .i64 0)
  have h5 := h2.keep (o4.block _ (by omega))
  unfold set10 at h4 o4 h5
  generalize World.setCell _ ⟨w.heap.size + 1, 9, none⟩ (.int .i64 0) = W4 at h4 o4 h5 ⊢
  refine bodyPost_ret (res_cc rfl rfl h5 rfl h4 Try.underlying27 (by kernel_rfl) Try.underlying69 (by kernel_rfl)) rfl ⟨rfl, x2.only o4 (by omega)⟩
theorem plain_c (n : Nat) (hn : n < 100) (w : World) :
    Calls Try.prog 83 #[.int .i64 n] w fun e w' => e = .returned (.tuple #[.agg (plainF n).1.cells.toArray, .agg (plainF n).2.cells.toArray]) ∧ Ext w w' := by
  unfold plainF
  have h6 : n % 6 < 6 := Nat.mod_lt _ (by omega)
  split
  · rename_i h; exact plain_0 n hn h w
  · split
    · rename_i h; exact plain_1 n hn h w
    · split
      · rename_i h; exact plain_2 n hn h w
      · split
        · rename_i h; exact plain_3 n hn h w
        · split
          · rename_i h; exact plain_4 n hn h w
          · exact plain_5 n hn (by omega) w
end Go.Proofs.Ythhckledkhcfeaa
namespace Go.Proofs.Ythhckledkhcfeaa
open Go.RowKit
section
variable {P : Program} {ops : Array Oper} {Q : Exit → Act → World → Prop} {L : List (Nat × (World → Prop))}
/-- The classes whose store has not come up. -/
def Held (L : List (Nat × (World → Prop))) (l : Array Bool) (w : World) : Prop := ∀ p ∈ L, l.getD p.1 false = false → p.2 w
theorem Held.set {l : Array Bool} {w : World} {i : Nat} (hi : ∀ p ∈ L, i ≠ p.1) : Held L (l.setIfInBounds i true) w ↔ Held L l w :=
  ⟨fun h p hp hf => h p hp (by rw [getD_set_ne false (hi p hp)]; exact hf), fun h p hp hf => h p hp (by rw [getD_set_ne false (hi p hp)] at hf; exact hf)⟩
def wpH (P : Program) (ops : Array Oper) (Q : Exit → Act → World → Prop) (L : List (Nat × (World → Prop))) : Nat → Array Bool → Act → World → Prop
  | 0, l, a, w => Region.ready .any ops l = [] ∧ Q .normal a w
  | f + 1, l, a, w => (Region.ready .any ops l = [] → Q .normal a w) ∧
    ∀ i ∈ Region.ready .any ops l, wpOp P ops Q i (fun a' w' => Held L (l.setIfInBounds i true) w' ∧ wpH P ops Q L f (l.setIfInBounds i true) a' w') a w
theorem wpAny_of_H : ∀ (f : Nat) (l : Array Bool) (a : Act) (w : World), wpH P ops Q L f l a w → wpAny P .any ops Q f l a w
  | 0, _, _, _, h => h
  | f + 1, _, _, _, h => ⟨h.1, fun i hi => wpOp_mono (fun a' w' h' => wpAny_of_H f _ a' w' h'.2) (h.2 i hi)⟩
theorem unlisted_of {l : Array Bool} {i : Nat} (hr : i ∈ Region.ready .any ops l) : l.getD i false = false := by
  have h0 := (mem_ready.1 hr).1
  rcases Nat.lt_or_ge i l.size with h' | h'
  · simp [h'] at h0 ⊢; exact h0
  · simp [Array.getElem?_eq_none h'] at h0
/-- An operation that only reads, in a class D that lasts as long as it has not come up. -/
theorem wpH_first {i : Nat} {oi : Oper} {v : Value} {D : World → Prop} (hi : ops[i]? = some oi) (hsel : ∀ (j : Nat) (o : Oper) cs b, ops[j]? = some o → o.op ≠ .select cs b)
    (hQ : ∀ c a w, Q (.panic c) (a.put oi.dst v) w → Q (.panic c) a w) (hil : ∀ p ∈ L, i ≠ p.1) (hD : ∀ l w, Shutl ops l → l.getD i false = false → Held L l w → D w) :
    ∀ (f : Nat) (l : Array Bool) (a : Act) (w : World), Shutl ops l →
      (∀ j oj, ops[j]? = some oj → j ≠ i → l.getD j true = false → (∀ e ∈ oj.after, Region.binds .any e = true → e.on ≠ i) → oi.apart ops oj = true) →
      i ∈ Region.ready .any ops l → YieldsIf P ops D oi v a → Held L l w → wpH P ops Q L f (l.setIfInBounds i true) (a.put oi.dst v) w → wpH P ops Q L (f + 1) l a w := by
  intro f
  induction f with
  | zero =>
    intro l a w hsh _ hr hy hC H
    have hDw := hD l w hsh (unlisted_of hr) hC
    refine ⟨fun h => (by rw [h] at hr; cases hr), fun j hj => ?_⟩
    by_cases hji : j = i
    · subst hji; exact hy.wpOp hi hDw ⟨(Held.set hil).2 hC, H⟩
    · have := ready_mono hj hji
      rw [H.1] at this; cases this
  | succ f ih =>
    intro l a w hsh hfree hr hy hC H
    have hun := unlisted_of hr
    have hDw := hD l w hsh hun hC
    refine ⟨fun h => (by rw [h] at hr; cases hr), fun j hj => ?_⟩
    by_cases hji : j = i
    · subst hji; exact hy.wpOp hi hDw ⟨(Held.set hil).2 hC, H⟩
    · have h1 := H.2 j (ready_mono hj hji)
      obtain ⟨hjun, oj, hoj, hall⟩ := mem_ready.1 hj
      have hnot : ∀ e ∈ oj.after, Region.binds .any e = true → e.on ≠ i := fun e he hb heq => by
        have h1 := hall e he hb
        rw [heq, hun] at h1; cases h1
      have hswap : ∀ w', Held L ((l.setIfInBounds i true).setIfInBounds j true) w' → Held L (l.setIfInBounds j true) w' := fun w' h => by
        rw [Array.setIfInBounds_comm _ _ (Ne.symm hji)] at h
        exact (Held.set hil).1 h
      have hunj : (l.setIfInBounds j true).getD i false = false := by rw [getD_set_ne false hji]; exact hun
      have h2 := wpOp_putIf (S := D) hoj (hfree j oj hoj hji hjun hnot) (fun cs b => hsel i oi cs b hi) (fun cs b => hsel j oj cs b hoj) hQ hy h1
      refine wpOp_mono (fun a' w' h3 => ⟨hswap w' h3.2.1, ih (l.setIfInBounds j true) a' w' (hsh.set hj) (fun k ok hk hki hun hno => ?_) (ready_mono hr (Ne.symm hji)) h3.1 (hswap w' h3.2.1) ?_⟩) h2
      · refine hfree k ok hk hki ?_ hno
        by_cases hjk : j = k
        · subst hjk; exact hjun
        · rw [getD_set_ne true hjk] at hun; exact hun
      · rw [Array.setIfInBounds_comm _ _ hji]
        exact h3.2.2
/-- A group: operations that only read, in the class D, up to the deadline t (none: they look at no memory). -/
def waitsUpTo (ops : Array Oper) (t : Option Nat) (k : Nat) : Bool := match t with | some d => sinks ops d ops.size k && decide (d < ops.size) | none => true
def plainAt (ops : Array Oper) (k : Nat) : Bool := match ops[k]? with | some o => plainOp o.op | none => false
def grpOk (ops : Array Oper) (ts : List Nat) (t : Option Nat) (k : Nat) (l : Array Bool) : Bool := (Region.ready .any ops l).contains k && Region.free .any ops l k && waitsUpTo ops t k && ts.all (fun d => k != d) && plainAt ops k
def planG (ops : Array Oper) (ts : List Nat) (t : Option Nat) : Nat → Nat → Array Bool → Option (Array Bool)
  | 0, _, l => some l
  | n + 1, k, l => if grpOk ops ts t k l = true then planG ops ts t n (k + 1) (l.setIfInBounds k true) else none
theorem wpH_group {t : Option Nat} {D : World → Prop} (hsel : Region.noSelect ops = true) (hQ : ∀ c a d v w, Q (.panic c) (Act.put a d v) w → Q (.panic c) a w)
    (hD : ∀ l w, (∀ d, t = some d → l.getD d false = false) → Held L l w → D w) {K : Act → Prop} {w : World} (g : Nat) (l' : Array Bool) :
    ∀ (n k : Nat) (lst : List Oper) (l : Array Bool) (a : Act), (∀ j, j < n → lst[j]? = ops[k + j]?) → lst.length = n → Shutl ops l → Held L l w →
      planG ops (L.map (·.1)) t n k l = some l' → (Shutl ops l' → Held L l' w → ∀ a, K a → wpH P ops Q L g l' a w) → wpQuiet P ops D K lst a → wpH P ops Q L (n + g) l a w
  | 0, k, [], l, a, _, _, hsh, hH, hB, hK, h => by
    simp only [planG, Option.some.injEq] at hB
    subst hB
    simpa using hK hsh hH a h
  | 0, _, _ :: _, _, _, _, hlen, _, _, _, _, _ => by simp at hlen
  | n + 1, _, [], _, _, _, hlen, _, _, _, _, _ => by simp at hlen
  | n + 1, k, o :: lst, l, a, hl, hlen, hsh, hH, hB, hK, h => by
    have h0 : ops[k]? = some o := by simpa using (hl 0 (by omega)).symm
    simp only [planG] at hB
    split at hB
    · rename_i hc
      simp only [grpOk, plainAt, h0, Bool.and_eq_true, List.all_eq_true, bne_iff_ne] at hc
      obtain ⟨⟨⟨⟨hr, hf⟩, hsk⟩, hts⟩, hp⟩ := hc
      have hr' : k ∈ Region.ready .any ops l := by simpa using hr
      have hil : ∀ p ∈ L, k ≠ p.1 := fun p hp => hts p.1 (List.mem_map_of_mem hp)
      have hDi : ∀ l w, Shutl ops l → l.getD k false = false → Held L l w → D w := fun l w hsh hun hH => hD l w (fun d hd => by
        subst hd
        simp only [waitsUpTo, Bool.and_eq_true, decide_eq_true_eq] at hsk
        exact (sinks_unlisted hsh hsk.2 _ k hsk.1 hun).1) hH
      have hrec := fun a' => wpH_group hsel hQ hD g l' n (k + 1) lst (l.setIfInBounds k true) a' (fun j hj => by have := hl (j + 1) (by omega); simpa [Nat.add_assoc, Nat.add_comm 1 j] using this) (by simpa using hlen) (hsh.set hr') ((Held.set hil).2 hH) hB hK
      rw [show n + 1 + g = (n + g) + 1 by omega]
      have h' : wpQuiet P ops D K (o :: lst) a := h
      simp only [wpQuiet] at h'
      by_cases hw : Region.wanted o (yielded ops a.tmps) = true
      · rw [if_pos hw] at h'
        obtain ⟨v, h1, h2⟩ := h'
        exact wpH_first h0 (Region.noSelect_spec hsel) (fun c a w => hQ c a _ _ w) hil hDi _ l a w hsh (Region.free_spec h0 hf) hr' (.inl ⟨hw, quiet_yields hp h1⟩) hH (hrec _ h2)
      · rw [if_neg hw] at h'
        exact wpH_first h0 (Region.noSelect_spec hsel) (fun c a w => hQ c a _ _ w) hil hDi _ l a w hsh (Region.free_spec h0 hf) hr' (.inr ⟨by simpa using hw, rfl⟩) hH (hrec _ h')
    · cases hB
/-- The others, one behind the other; behind each the classes whose store is still to come are shown. -/
def wpTailH (P : Program) (ops : Array Oper) (Q : Exit → Act → World → Prop) (L : List (Nat × (World → Prop))) : Nat → List Oper → Act → World → Prop
  | _, [], a, w => Q .normal a w
  | k, o :: r, a, w => if Region.wanted o (yielded ops a.tmps) then o.wp P a w (fun a' w' => (∀ p ∈ L, k < p.1 → p.2 w') ∧ wpTailH P ops Q L (k + 1) r a' w') Q ∨ (o.asks P a w ∧ LetsOut Q) else (∀ p ∈ L, k < p.1 → p.2 w) ∧ wpTailH P ops Q L (k + 1) r (a.put o.dst undef) w
theorem wpTailH_nil {k : Nat} {a : Act} {w : World} (h : Q .normal a w) : wpTailH P ops Q L k [] a w := h
theorem wpTailH_cons {k : Nat} {o : Oper} {r : List Oper} {a : Act} {w : World}
    (h : ∀ K : Act → World → Prop, (∀ a w, (∀ p ∈ L, k < p.1 → p.2 w) → wpTailH P ops Q L (k + 1) r a w → K a w) → if Region.wanted o (yielded ops a.tmps) then o.wp P a w K Q else K (a.put o.dst undef) w) : wpTailH P ops Q L k (o :: r) a w := by
  have := h (fun a' w' => (∀ p ∈ L, k < p.1 → p.2 w') ∧ wpTailH P ops Q L (k + 1) r a' w') (fun _ _ h1 h2 => ⟨h1, h2⟩)
  unfold wpTailH
  split
  · rename_i hw; rw [if_pos hw] at this; exact .inl this
  · rename_i hw; rw [if_neg hw] at this; exact this
/-- Behind the last store: a plain list. -/
theorem wpTailH_list : ∀ {k : Nat} {lst : List Oper} {a : Act} {w : World}, (∀ p ∈ L, p.1 ≤ k) → wpList P ops Q lst a w → wpTailH P ops Q L k lst a w
  | _, [], _, _, _, h => by simpa [wpTailH, wpList] using h
  | k, o :: r, a, w, hk, h => by
    have hv : ∀ p ∈ L, ¬ k < p.1 := fun p hp => by have := hk p hp; omega
    have IH := fun a w (h : wpList P ops Q r a w) => wpTailH_list (k := k + 1) (fun p hp => by have := hk p hp; omega) h
    unfold wpList at h
    unfold wpTailH
    split
    · rename_i hw; rw [if_pos hw] at h
      exact h.imp (Oper.wp_mono fun a' w' hq => ⟨fun p hp hlt => absurd hlt (hv p hp), IH a' w' hq⟩) id
    · rename_i hw; rw [if_neg hw] at h
      exact ⟨fun p hp hlt => absurd hlt (hv p hp), IH _ _ h⟩
def planH (ops : Array Oper) (ts : List Nat) : Nat → Nat → Array Bool → Bool
  | 0, _, l => (Region.ready .any ops l).isEmpty
  | n + 1, k, l => decide (Region.ready .any ops l = [k]) && ts.all (fun d => (l.setIfInBounds k true).getD d false || decide (k < d)) && planH ops ts n (k + 1) (l.setIfInBounds k true)
theorem wpH_tail : ∀ (n k : Nat) (lst : List Oper) (l : Array Bool) (a : Act) (w : World), (∀ j, j < n → lst[j]? = ops[k + j]?) → lst.length = n → planH ops (L.map (·.1)) n k l = true → wpTailH P ops Q L k lst a w → wpH P ops Q L n l a w
  | 0, k, [], l, a, w, _, _, hB, h => ⟨by simpa [planH] using hB, by simpa [wpTailH] using h⟩
  | 0, _, _ :: _, _, _, _, _, hlen, _, _ => by simp at hlen
  | n + 1, _, [], _, _, _, _, hlen, _, _ => by simp at hlen
  | n + 1, k, o :: lst, l, a, w, hl, hlen, hB, h => by
    have h0 : ops[k]? = some o := by simpa using (hl 0 (by omega)).symm
    simp only [planH, Bool.and_eq_true, decide_eq_true_eq, List.all_eq_true, Bool.or_eq_true] at hB
    obtain ⟨⟨hr, hts⟩, hB⟩ := hB
    refine ⟨fun h1 => (by rw [hr] at h1; cases h1), fun i hi => ?_⟩
    rw [hr] at hi
    have hik : i = k := by simpa using hi
    subst hik
    have hheld : ∀ w', (∀ p ∈ L, i < p.1 → p.2 w') → Held L (l.setIfInBounds i true) w' := fun w' hc p hp hf => by
      rcases hts p.1 (List.mem_map_of_mem hp) with h1 | h1
      · rw [h1] at hf; cases hf
      · exact hc p hp h1
    have h' : wpTailH P ops Q L i (o :: lst) a w := h
    unfold wpTailH at h'
    unfold wpOp
    simp only [h0]
    have IH := fun a w (h : wpTailH P ops Q L (i + 1) lst a w) => wpH_tail n (i + 1) lst (l.setIfInBounds i true) a w (fun j hj => by have := hl (j + 1) (by omega); simpa [Nat.add_assoc, Nat.add_comm 1 j] using this) (by simpa using hlen) hB h
    split
    · rename_i hw; rw [if_pos hw] at h'
      exact h'.imp (Oper.wp_mono fun a' w' hq => ⟨hheld w' hq.1, IH a' w' hq.2⟩) id
    · rename_i hw; rw [if_neg hw] at h'
      exact ⟨hheld w h'.1, IH _ _ h'.2⟩
/-- Three stores in one statement: n0 copies of slots, then n1, n2, n3 operations that only read, each up to its own store (t1, t2, t3), then the rest. -/
def planThree (ops : Array Oper) (n0 n1 n2 n3 t1 t2 t3 : Nat) : Bool :=
  let ts := [t1, t2, t3]
  Region.noSelect ops && decide (n0 + n1 + n2 + n3 ≤ ops.size) && match planG ops ts none n0 0 (Array.replicate ops.size false) with
  | some l0 => match planG ops ts (some t1) n1 n0 l0 with
    | some l1 => match planG ops ts (some t2) n2 (n0 + n1) l1 with
      | some l2 => match planG ops ts (some t3) n3 (n0 + n1 + n2) l2 with
        | some l3 => planH ops ts (ops.size - (n0 + n1 + n2 + n3)) (n0 + n1 + n2 + n3) l3
        | none => false
      | none => false
    | none => false
  | none => false
theorem wp_region_three {id : Nat} {a : Act} {w : World} {l : List Oper} (n0 n1 n2 n3 t1 t2 t3 : Nat) (C1 C2 C3 : World → Prop) (hm : P.follows .mixedOrders = true) (hB : planThree l.toArray n0 n1 n2 n3 t1 t2 t3 = true)
    (hQ : ∀ c a d v w, Q (.panic c) (Act.put a d v) w → Q (.panic c) a w) (h1 : C1 w.drew) (h2 : C2 w.drew) (h3 : C3 w.drew)
    (h : wpQuiet P l.toArray (fun _ => True) (fun a => wpQuiet P l.toArray C1 (fun a => wpQuiet P l.toArray C2 (fun a => wpQuiet P l.toArray C3 (fun a => wpTailH P l.toArray Q [(t1, C1), (t2, C2), (t3, C3)] (n0 + n1 + n2 + n3) (l.drop (n0 + n1 + n2 + n3)) a w.drew)
      ((l.drop (n0 + n1 + n2)).take n3) a) ((l.drop (n0 + n1)).take n2) a) ((l.drop n0).take n1) a) (l.take n0) a) : (Code.region id l.toArray true).wp P Q a w := by
  unfold planThree at hB
  simp only [Bool.and_eq_true, decide_eq_true_eq] at hB
  obtain ⟨⟨hsel, hlen⟩, hplan⟩ := hB
  have hlen' : n0 + n1 + n2 + n3 ≤ l.length := by simpa using hlen
  split at hplan
  · rename_i l0 hl0
    split at hplan
    · rename_i l1 hl1
      split at hplan
      · rename_i l2 hl2
        split at hplan
        · rename_i l3 hl3
          refine wp_region_any hm (wpAny_of_H (L := [(t1, C1), (t2, C2), (t3, C3)]) _ _ _ _ ?_)
          have hsh : Shutl l.toArray (Array.replicate l.toArray.size false) := ⟨by simp, fun j o _ hl => by
            exfalso
            rcases Nat.lt_or_ge j l.toArray.size with hj | hj
            · simp [hj] at hl
              simp_all
            · simp [hj] at hl
              simp_all⟩
          have hH : Held [(t1, C1), (t2, C2), (t3, C3)] (Array.replicate l.toArray.size false) w.drew := fun p hp _ => by
            simp only [List.mem_cons, List.mem_nil_iff, or_false] at hp
            rcases hp with rfl | rfl | rfl
            · exact h1
            · exact h2
            · exact h3
          have hx := wpH_group (P := P) (Q := Q) (L := [(t1, C1), (t2, C2), (t3, C3)]) (t := none) (D := fun _ => True) (w := w.drew) hsel hQ (fun _ _ _ _ => trivial) (n1 + (n2 + (n3 + (l.toArray.size - (n0 + n1 + n2 + n3))))) l0 n0 0 (l.take n0) _ a (fun j hj => by simp [hj]) (by simp; omega) hsh hH hl0
            (fun hsh hH a ha => wpH_group (P := P) (t := some t1) (D := C1) hsel hQ (fun l w hd hH => hH (t1, C1) (by simp) (hd t1 rfl)) (n2 + (n3 + (l.toArray.size - (n0 + n1 + n2 + n3)))) l1 n1 n0 ((l.drop n0).take n1) _ a (fun j hj => by simp [hj]) (by simp; omega) hsh hH hl1
              (fun hsh hH a ha => wpH_group (P := P) (t := some t2) (D := C2) hsel hQ (fun l w hd hH => hH (t2, C2) (by simp) (hd t2 rfl)) (n3 + (l.toArray.size - (n0 + n1 + n2 + n3))) l2 n2 (n0 + n1) ((l.drop (n0 + n1)).take n2) _ a (fun j hj => by simp [hj]) (by simp; omega) hsh hH hl2
                (fun hsh hH a ha => wpH_group (P := P) (t := some t3) (D := C3) hsel hQ (fun l w hd hH => hH (t3, C3) (by simp) (hd t3 rfl)) (l.toArray.size - (n0 + n1 + n2 + n3)) l3 n3 (n0 + n1 + n2) ((l.drop (n0 + n1 + n2)).take n3) _ a (fun j hj => by simp [hj]) (by simp; omega) hsh hH hl3
                  (fun _ _ a ha => wpH_tail _ _ (l.drop (n0 + n1 + n2 + n3)) l3 a w.drew (fun j hj => by simp) (by simp) hplan ha) ha) ha) ha) h
          rw [show n0 + (n1 + (n2 + (n3 + (l.toArray.size - (n0 + n1 + n2 + n3))))) = l.toArray.size by omega] at hx
          exact hx
        · cases hplan
      · cases hplan
    · cases hplan
  · cases hplan
end
end Go.Proofs.Ythhckledkhcfeaa
namespace Go.Proofs.Ythhckledkhcfeaa
open Go.RowKit
section
variable {P : Program}
def planCall (ops : Array Oper) (n : Nat) : Bool :=
  Region.noSelect ops && decide (n < ops.size) && match planG ops [n] (some n) n 0 (Array.replicate ops.size false) with
  | some l0 => decide (Region.ready .any ops l0 = [n]) && (l0.setIfInBounds n true).getD n false && match planG ops [n] none (ops.size - (n + 1)) (n + 1) (l0.setIfInBounds n true) with
    | some l1 => (Region.ready .any ops l1).isEmpty
    | none => false
  | none => false
/-- The operation n, and what looks at no memory behind it. -/
def wpThen (P : Program) (ops : Array Oper) (Q : Exit → Act → World → Prop) (o : Oper) (r : List Oper) (a : Act) (w : World) : Prop :=
  ∀ K : Act → World → Prop, (∀ a w, wpQuiet P ops (fun _ => True) (fun a => Q .normal a w) r a → K a w) → if Region.wanted o (yielded ops a.tmps) then o.wp P a w K Q else K (a.put o.dst undef) w
theorem wp_region_call {Q : Exit → Act → World → Prop} {id : Nat} {a : Act} {w : World} {l : List Oper} (n : Nat) (C : World → Prop) {o : Oper} {r : List Oper} (hd : l.drop n = o :: r) (hm : P.follows .mixedOrders = true) (hB : planCall l.toArray n = true)
    (hQ : ∀ c a d v w, Q (.panic c) (Act.put a d v) w → Q (.panic c) a w) (hC : C w.drew)
    (h : wpQuiet P l.toArray C (fun a => wpThen P l.toArray Q o r a w.drew) (l.take n) a) : (Code.region id l.toArray true).wp P Q a w := by
  unfold planCall at hB
  simp only [Bool.and_eq_true, decide_eq_true_eq] at hB
  obtain ⟨⟨hsel, hlen⟩, hplan⟩ := hB
  have hlen' : n < l.length := by simpa using hlen
  have hdl : ∀ j, (o :: r)[j]? = l[n + j]? := fun j => by rw [← hd]; simp
  have hrl : r.length = l.length - (n + 1) := by have := congrArg List.length hd; simp at this; omega
  split at hplan
  · rename_i l0 hl0
    simp only [Bool.and_eq_true, decide_eq_true_eq] at hplan
    obtain ⟨⟨hr0, hset⟩, hplan⟩ := hplan
    split at hplan
    · rename_i l1 hl1
      refine wp_region_any hm (wpAny_of_H (L := [(n, C)]) _ _ _ _ ?_)
      have hsh : Shutl l.toArray (Array.replicate l.toArray.size false) := ⟨by simp, fun j o _ hl => by
        exfalso
        rcases Nat.lt_or_ge j l.toArray.size with hj | hj
        · simp [hj] at hl
          simp_all
        · simp [hj] at hl
          simp_all⟩
      have hH : Held [(n, C)] (Array.replicate l.toArray.size false) w.drew := fun p hp _ => by
        simp only [List.mem_cons, List.mem_nil_iff, or_false] at hp
        subst hp
        exact hC
      have hx := wpH_group (P := P) (Q := Q) (L := [(n, C)]) (t := some n) (D := C) (w := w.drew) hsel hQ (fun l w hd hH => hH (n, C) (by simp) (hd n rfl)) (l.toArray.size - (n + 1) + 1) l0 n 0 (l.take n) _ a (fun j hj => by simp [hj]) (by simp; omega) hsh hH hl0
        (fun hsh0 _ a ha => by
          refine ⟨fun h1 => (by rw [hr0] at h1; cases h1), fun i hi => ?_⟩
          have hi' := hi
          rw [hr0] at hi
          have hin : i = n := by simpa using hi
          subst hin
          have h0 : l.toArray[i]? = some o := by have := hdl 0; simpa using this.symm
          unfold wpOp
          simp only [h0]
          have hrest : ∀ a' w', wpQuiet P l.toArray (fun _ => True) (fun a => Q .normal a w') r a' → Held [(i, C)] (l0.setIfInBounds i true) w' ∧ wpH P l.toArray Q [(i, C)] (l.toArray.size - (i + 1)) (l0.setIfInBounds i true) a' w' := fun a' w' hq => by
            have hH' : Held [(i, C)] (l0.setIfInBounds i true) w' := fun p hp hf => by
              simp only [List.mem_cons, List.mem_nil_iff, or_false] at hp
              subst hp
              rw [hset] at hf
              cases hf
            refine ⟨hH', ?_⟩
            have := wpH_group (P := P) (Q := Q) (L := [(i, C)]) (t := none) (D := fun _ => True) (w := w') hsel hQ (fun _ _ _ _ => trivial) 0 l1 (l.toArray.size - (i + 1)) (i + 1) r _ a' (fun j hj => by have := hdl (j + 1); simpa [Nat.add_assoc, Nat.add_comm 1 j] using this) (by simpa using hrl) (hsh0.set hi') hH' hl1
              (fun _ _ a ha => ⟨by simpa using hplan, ha⟩) hq
            simpa using this
          have hk := ha (fun a' w' => Held [(i, C)] (l0.setIfInBounds i true) w' ∧ wpH P l.toArray Q [(i, C)] (l.toArray.size - (i + 1)) (l0.setIfInBounds i true) a' w') hrest
          split
          · rename_i hw; rw [if_pos hw] at hk; exact .inl hk
          · rename_i hw; rw [if_neg hw] at hk; exact hk) h
      rw [show n + (l.toArray.size - (n + 1) + 1) = l.toArray.size by simp; omega] at hx
      exact hx
    · cases hplan
  · cases hplan
end
end Go.Proofs.Ythhckledkhcfeaa
