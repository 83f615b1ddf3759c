/- The store's functions, part I: Put, where it refuses. -/
import Derived.Test.YthhckledkhcfeaaStH
namespace Go.Proofs.Ythhckledkhcfeaa
open Go.RowKit
section
variable {w : World} {p : Nat} {σ : St} {h : Hd} {ρ : Roles}
theorem put_range (s : Sto w p σ h ρ) (x : Bool) (ac n : Int) (nm : ByteArray) (r f m : Nat) (i : Int) (b : List Ob) (hb : σ.lists[r]? = some b) (hfm : f + m ≤ b.length) (hi : i < 0 ∨ (m : Int) ≤ i)
    (k' : Int) (x' : Bool) (ac' n' : Int) (nm' : ByteArray) (rf' fr' ln' : Int) (hv : σ.valid ⟨k', x', ac', n', nm', rf', fr', ln'⟩ = true) :
    Calls Try.prog 16 #[.pointer (some ⟨p, 0, none⟩), .agg #[.int .i64 7, .bool x, .int .i64 ac, .int .i64 n, .string nm, .int .i64 r, .int .i64 f, .int .i64 m], .int .i64 i,
        .agg #[.int .i64 k', .bool x', .int .i64 ac', .int .i64 n', .string nm', .int .i64 rf', .int .i64 fr', .int .i64 ln']] w fun e w' => e = .returned (.int .i64 11) ∧ Ext w w' := by
  have hHb := Lib.hid hb
  clear hb
  have hs : i < 0 ∨ (0 ≤ i ∧ (m : Int) ≤ i) := by omega
  clear hi
  rcases hs with hs | ⟨hs, hs2⟩
  all_goals
    go_enter Try.func16, Try.ntmps16
    go_wp2_with (first
      | (go_at_call 61; refine (is_b (b := true) (s.ext (((Ext.rfl_ w).alloc_ _).alloc_ _)) _ _ _ _ _ _ _ _ _ (isA_arr hHb.out hfm)).mono ?_; rintro e w1 ⟨rfl, hx1⟩; have hb5 := ((Blk.new w 27 [.int .i64 7, .bool x, .int .i64 ac, .int .i64 n, .string nm, .int .i64 r, .int .i64 f, .int .i64 m]).alloc (.cells #[.int .i64 k', .bool x', .int .i64 ac', .int .i64 n', .string nm', .int .i64 rf', .int .i64 fr', .int .i64 ln'] 27)).ext hx1; have hb7 := (Blk.new1 w (.cells #[.int .i64 7, .bool x, .int .i64 ac, .int .i64 n, .string nm, .int .i64 r, .int .i64 f, .int .i64 m] 27) 27 [.int .i64 k', .bool x', .int .i64 ac', .int .i64 n', .string nm', .int .i64 rf', .int .i64 fr', .int .i64 ln']).ext hx1; have hc5 := hb5.cell; have hc7 := hb7.cell)
      | (go_at_call 46; refine (valid_b (b := true) (s.ext ((((Ext.rfl_ w).alloc_ _).alloc_ _).trans_ hx1)) _ _ _ _ _ _ _ _ hv).mono ?_; rintro e w2 ⟨rfl, hx2⟩; have hc5' := (hb5.ext hx2).cell; have hc7' := (hb7.ext hx2).cell))
    go_ret
    exact ⟨rfl, ((((Ext.rfl_ w).alloc_ _).alloc_ _).trans_ hx1).trans_ hx2⟩
theorem put_no (s : Sto w p σ h ρ) (k : Int) (x : Bool) (ac n : Int) (nm : ByteArray) (rf fr ln i : Int)
    (k' : Int) (x' : Bool) (ac' n' : Int) (nm' : ByteArray) (rf' fr' ln' : Int) (hno : σ.isA ⟨k, x, ac, n, nm, rf, fr, ln⟩ 7 = false ∨ σ.valid ⟨k', x', ac', n', nm', rf', fr', ln'⟩ = false) :
    Calls Try.prog 16 #[.pointer (some ⟨p, 0, none⟩), .agg #[.int .i64 k, .bool x, .int .i64 ac, .int .i64 n, .string nm, .int .i64 rf, .int .i64 fr, .int .i64 ln], .int .i64 i,
        .agg #[.int .i64 k', .bool x', .int .i64 ac', .int .i64 n', .string nm', .int .i64 rf', .int .i64 fr', .int .i64 ln']] w fun e w' => e = .returned (.int .i64 21) ∧ Ext w w' := by
  by_cases hq : σ.isA ⟨k, x, ac, n, nm, rf, fr, ln⟩ 7 = true
  · have hv : σ.valid ⟨k', x', ac', n', nm', rf', fr', ln'⟩ = false := by rcases hno with h | h; rw [h] at hq; cases hq; exact h
    have hq' := Lib.hid hq
    clear hq hno
    go_enter Try.func16, Try.ntmps16
    go_wp2_with (first
      | (go_at_call 61; refine (is_b (b := true) (s.ext (((Ext.rfl_ w).alloc_ _).alloc_ _)) _ _ _ _ _ _ _ _ _ hq'.out).mono ?_; rintro e w1 ⟨rfl, hx1⟩; have hb7 := (Blk.new1 w (.cells #[.int .i64 k, .bool x, .int .i64 ac, .int .i64 n, .string nm, .int .i64 rf, .int .i64 fr, .int .i64 ln] 27) 27 [.int .i64 k', .bool x', .int .i64 ac', .int .i64 n', .string nm', .int .i64 rf', .int .i64 fr', .int .i64 ln']).ext hx1; have hc7 := hb7.cell)
      | (go_at_call 46; refine (valid_b (b := false) (s.ext ((((Ext.rfl_ w).alloc_ _).alloc_ _).trans_ hx1)) _ _ _ _ _ _ _ _ hv).mono ?_; rintro e w2 ⟨rfl, hx2⟩))
    go_ret
    exact ⟨rfl, ((((Ext.rfl_ w).alloc_ _).alloc_ _).trans_ hx1).trans_ hx2⟩
  · have hq' := Lib.hid (show σ.isA ⟨k, x, ac, n, nm, rf, fr, ln⟩ 7 = false by simpa using hq)
    clear hq hno
    go_enter Try.func16, Try.ntmps16
    go_wp2_with (go_at_call 61; refine (is_b (b := false) (s.ext (((Ext.rfl_ w).alloc_ _).alloc_ _)) _ _ _ _ _ _ _ _ _ hq'.out).mono ?_; rintro e w1 ⟨rfl, hx1⟩)
    go_ret
    exact ⟨rfl, (((Ext.rfl_ w).alloc_ _).alloc_ _).trans_ hx1⟩
end
end Go.Proofs.Ythhckledkhcfeaa
