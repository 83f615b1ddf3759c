/- The operators on collections: putinterval and length by Do; the law layer's answers. -/
import Derived.Test.YthhckledkhcfeaaCoE
import Derived.Test.YthhckledkhcfeaaStR
import Derived.Test.YthhckledkhcfeaaRegD
import Derived.Test.YthhckledkhcfeaaLawA
import Derived.Test.YthhckledkhcfeaaSvJ
namespace Go.Proofs.Ythhckledkhcfeaa
open Go.RowKit
section
variable {w w' : World} {c p : Nat} {σ σ' : St} {h : Hd} {ρ : Roles}
theorem do_pi_ok (s : Sto w p σ h ρ) {A : Option Addr} {cc : Nat} (xt : Bool) (nt : Int) (mt : ByteArray) (r f m : Nat) (xa : Bool) (aa : Int) (ma : ByteArray) (ra fa la : Int) (a : Nat) (xf : Bool) (nf : Int) (mf : ByteArray) (r2 f2 q : Nat)
    (hv : View w 8 A 3 (obCells [⟨7, xt, 0, nt, mt, r, f, m⟩, ⟨1, xa, aa, a, ma, ra, fa, la⟩, ⟨7, xf, 0, nf, mf, r2, f2, q⟩])) (hmk : σ.marks = []) (L : List Ob) (hL : σ.lists[r]? = some L) (hfm : f + m ≤ L.length) (L2 : List Ob) (hL2 : σ.lists[r2]? = some L2) (hfm2 : f2 + q ≤ L2.length) (haq : a + q ≤ m)
    (hit : ∀ o ∈ (L2.drop f2).take q, o.k = 1) (hch : σ.changes.length + 1 ≤ 4294967296) :
    Calls Try.prog 58 #[.pointer (some ⟨p, 0, none⟩), .string nmPI, .slice A 3 cc] w fun e w' =>
      ∃ v : Sl, e = .returned (.tuple #[.slice v.a v.n v.c, .int .i64 0]) ∧ Row w' 27 8 v (obCells []) ∧ (∀ g, v.blk = some g → w.heap.size ≤ g) ∧ StoTo w w' p ρ { σ with lists := σ.lists.set r (splice L (f + a) ((L2.drop f2).take q)) } := by
  refine do_ok s hv (by omega) ?_ nmPI [] known_pi fun W c t hW hcal hc => ?_
  · intro o ho
    simp only [List.mem_cons, List.mem_nil_iff, or_false] at ho
    rcases ho with rfl | rfl | rfl
    · have := isA_arr (σ := σ) (x := xt) (ac := 0) (n := nt) (nm := mt) hL hfm
      unfold St.isA at this
      simp at this
      exact this
    · rfl
    · have := isA_arr (σ := σ) (x := xf) (ac := 0) (n := nf) (nm := mf) hL2 hfm2
      unfold St.isA at this
      simp at this
      exact this
  · refine (run_pi W _ (putinterval_ok (s.ext hW) xt nt mt r f m 1 xa aa ma ra fa la rfl a xf nf mf r2 f2 q hcal hc hmk L hL hfm L2 hL2 hfm2 haq hit hch) (fun e w' ⟨he, _⟩ => .inl ⟨_, _, _, he⟩)).mono ?_
    rintro e w' ⟨rfl, hs⟩
    exact ⟨Sl.nil, rfl, Row.nil_ _ _ _, fun g hg => by simp [Sl.blk] at hg, hs⟩
theorem do_pi_no (s : Sto w p σ h ρ) {A : Option Addr} {cc : Nat} (xt : Bool) (nt : Int) (mt : ByteArray) (r f m : Nat) (xa : Bool) (aa : Int) (ma : ByteArray) (ra fa la : Int) (a : Nat) (xf : Bool) (nf : Int) (mf : ByteArray) (r2 f2 q : Nat)
    (hv : View w 8 A 3 (obCells [⟨7, xt, 0, nt, mt, r, f, m⟩, ⟨1, xa, aa, a, ma, ra, fa, la⟩, ⟨7, xf, 0, nf, mf, r2, f2, q⟩])) (L : List Ob) (hL : σ.lists[r]? = some L) (hfm : f + m ≤ L.length) (L2 : List Ob) (hL2 : σ.lists[r2]? = some L2) (hfm2 : f2 + q ≤ L2.length)
    (hq : m < a ∨ a ≤ m ∧ m < a + q) (hm : m ≤ 1000000) (hq2 : q ≤ 1000000) (ha : a ≤ 1000000) :
    Calls Try.prog 58 #[.pointer (some ⟨p, 0, none⟩), .string nmPI, .slice A 3 cc] w fun e w' => e = .returned (.tuple #[.slice none 0 0, .int .i64 11]) ∧ Ext w w' := by
  refine do_no s hv (by omega) ?_ nmPI 11 known_pi fun W c t hW hcal hc => ?_
  · intro o ho
    simp only [List.mem_cons, List.mem_nil_iff, or_false] at ho
    rcases ho with rfl | rfl | rfl
    · have := isA_arr (σ := σ) (x := xt) (ac := 0) (n := nt) (nm := mt) hL hfm
      unfold St.isA at this
      simp at this
      exact this
    · rfl
    · have := isA_arr (σ := σ) (x := xf) (ac := 0) (n := nf) (nm := mf) hL2 hfm2
      unfold St.isA at this
      simp at this
      exact this
  · exact run_pi W _ (putinterval_no (s.ext hW) xt nt mt r f m 1 xa aa ma ra fa la rfl a xf nf mf r2 f2 q hcal hq hm hq2 ha) (fun e w' ⟨he, _⟩ => .inr ⟨_, he⟩)
theorem do_le (s : Sto w p σ h ρ) {A : Option Addr} {cc : Nat} (x : Bool) (n : Int) (nm : ByteArray) (r f m : Nat) (hv : View w 8 A 1 (obCells [⟨6, x, 0, n, nm, r, f, m⟩])) (b : List UInt8) (hb : σ.texts[r]? = some b) (hfm : f + m ≤ b.length) :
    Calls Try.prog 58 #[.pointer (some ⟨p, 0, none⟩), .string nmLE, .slice A 1 cc] w fun e w' =>
      ∃ v : Sl, e = .returned (.tuple #[.slice v.a v.n v.c, .int .i64 0]) ∧ Row w' 27 8 v (obCells [⟨1, false, 0, m, ByteArray.empty, 0, 0, 0⟩]) ∧ (∀ g, v.blk = some g → w.heap.size ≤ g) ∧ StoTo w w' p ρ σ := by
  refine do_ok s hv (by omega) ?_ nmLE _ known_le fun W c t hW hcal hc => ?_
  · intro o ho
    simp only [List.mem_cons, List.mem_nil_iff, or_false] at ho
    subst ho
    have := isA_str (σ := σ) (x := x) (ac := 0) (n := n) (nm := nm) hb hfm
    unfold St.isA at this
    simp at this
    exact this
  · refine (run_le W _ (length_str x n nm r f m hcal) (fun e w' ⟨v, he, _⟩ => ⟨_, _, _, he⟩)).mono ?_
    rintro e w' ⟨v, rfl, hfr⟩
    exact ⟨v, rfl, hfr.1, hfr.2.1, (s.ext hW).to_ext hfr.2.2⟩
set_option maxRecDepth 100000 in
theorem answers9 (w : World) : Calls Try.prog 57 #[] w fun e w' => e = .returned (.bool true) ∧ Ext w w' := by
  have kc := fun (w : World) (C : Array Value) (n c : Nat) => Lib.run_convert_bytes_const (P := Try.prog) w 45 5 C n c Try.underlying45 Try.underlying5
  go_enter Try.func57, Try.ntmps57
  go_upto_region 2 with (
    go_at_call 12
    refine (new_ok 50 w (by omega) (by omega)).mono ?_
    rintro e w1 ⟨rfl, s1, hx1⟩)
  go_upto_region 3 with (
    go_at_call 25
    refine (Text_ok (bs := [97, 98]) (s1.ext ((Ext.rfl_ w1).alloc_ _)) (View.marked w1 [.int .u8 97, .int .u8 98] 5 (2, 3)) (fun g o hg => by injection hg with hg; injection hg with hg; subst hg; exact s1.fresh (Nat.le_refl _)) (by simp) (by simp [St.empty])).mono ?_
    rintro e w2 ⟨rfl, h2, ρ2, s2, hm2⟩)
  have hm : Moves w1 w2 (Roles.own (.one w.heap.size)) ρ2.own := Moves.ext_left ((Ext.rfl_ w1).alloc_ _) hm2
  have hf2 : Fr w w2 ρ2.own := (⟨hx1, fun b hb => by rw [Roles.one_own hb]; exact Nat.le_refl _⟩ : Fr w w1 (Roles.own (.one w.heap.size))).moves hm
  generalize hX : World.alloc w2 _ = X
  obtain ⟨hx, hcX, hfX, hzX, hbX⟩ := boxed hX
  clear hX hfX
  have s3 := s2.ext hx
  have hf3 := hf2.ext_ hx
  have hdo := do_le (s3.ext ((Ext.rfl_ X).alloc_ (.cells #[.int .i64 6, .bool false, .int .i64 0, .int .i64 0, .string ByteArray.empty, .int .i64 0, .int .i64 0, .int .i64 2] 27))) (cc := 1) false 0 ByteArray.empty 0 0 2
    (View.of_blk (n := 1) (Blk.new X 27 [.int .i64 6, .bool false, .int .i64 0, .int .i64 0, .string ByteArray.empty, .int .i64 0, .int .i64 0, .int .i64 2]) rfl) [97, 98] rfl (by simp)
  have hD := Lib.hid hdo
  clear hdo
  go_upto_region 4 with (
    go_at_call 58
    refine hD.out.mono ?_
    rintro e w3 ⟨v, rfl, hrow, hvg, hst⟩)
  obtain ⟨h4, ρ4, s4, m4⟩ := hst
  have hf4 := (hf3.ext_ ((Ext.rfl_ X).alloc_ _)).moves m4
  have hvn : v.n = 1 := by have := hrow.len; rw [length_obCells] at this; simp at this; omega
  obtain ⟨g, hga, hgb⟩ := hrow.pos (show 0 < v.n by omega)
  obtain ⟨-, -, -, c3, -⟩ := hrow.ob (off := 0) (q := 0) hga rfl rfl
  simp only [Nat.zero_add] at c3
  obtain ⟨va, vn, vc⟩ := v
  dsimp only at hvn hga
  subst hvn
  subst hga
  go_wp2
  go_ret
  exact ⟨rfl, hf4.ext⟩
end
end Go.Proofs.Ythhckledkhcfeaa
