/- The store's functions, part P: Write. -/
import Derived.Test.YthhckledkhcfeaaStO
namespace Go.Proofs.Ythhckledkhcfeaa
open Go.RowKit
section
variable {w : World} {p : Nat} {σ : St} {h : Hd} {ρ : Roles}
theorem splice_bytes (b bs : List UInt8) (k : Nat) : splice (byteCells b) k (byteCells bs) = byteCells (splice b k bs) := by
  simp [splice, byteCells, List.map_take, List.map_drop]
set_option maxHeartbeats 800000 in
theorem write_ok (s : Sto w p σ h ρ) (x : Bool) (ac n : Int) (nm : ByteArray) (r f m : Nat) (b : List UInt8) (hb : σ.texts[r]? = some b) (hfm : f + m ≤ b.length) (a : Nat) {A : Option Addr} {c : Nat} {bs : List UInt8}
    (hv : View w 1 A bs.length (byteCells bs)) (hfit : a + bs.length ≤ m) :
    Calls Try.prog 29 #[.pointer (some ⟨p, 0, none⟩), .agg #[.int .i64 6, .bool x, .int .i64 ac, .int .i64 n, .string nm, .int .i64 r, .int .i64 f, .int .i64 m], .int .i64 a, .slice A bs.length c] w fun e w' =>
      e = .returned (.int .i64 0) ∧ StoTo w w' p ρ { σ with texts := σ.texts.set r (splice b (f + a) bs) } := by
  obtain ⟨k, hk⟩ : ∃ k, k = bs.length := ⟨_, rfl⟩
  rw [← hk] at hv hfit ⊢
  have hKl := Lib.hid hk
  have hr := getElem?_lt hb
  obtain ⟨t, ht⟩ : ∃ t, h.ts[r]? = some t := ⟨_, List.getElem?_eq_getElem (by have := s.nts; omega)⟩
  have hlen : b.length ≤ 65535 := s.ok.text b (List.mem_of_getElem? hb)
  have htn : t.n = b.length := by have := (s.ts r t b ht hb).1.len; simp [byteCells] at this; omega
  have hrow := (s.ts r t b ht hb).1
  have hon := (s.ts r t b ht hb).2
  have hcap := hrow.cap_le
  simp only [maxLen] at hcap
  have hHb := Lib.hid hb
  have hHt := Lib.hid ht
  have hTn := Lib.hid htn
  have hmc : m ≤ t.c - f := by omega
  have hmb : m ≤ 65535 := by omega
  have hcs : (byteCells bs).length = Nat.min k (m - a) * 1 := by
    have h1 := hKl.out
    have h2 : Nat.min k (m - a) = k := Nat.min_eq_left (by omega)
    rw [h2]; simp [byteCells]; omega
  clear hk hb ht htn
  have fin : ∀ (W w2 : World), Ext w W → Row w2 5 1 t (splice (byteCells b) (f + a) (byteCells bs)) → W.grownBy w2 t.blk → w2.heap.size = W.heap.size → StoTo w w2 p ρ { σ with texts := σ.texts.set r (splice b (f + a) bs) } := by
    intro W w2 hW h1 h2 h3
    rw [splice_bytes] at h1
    have s3 := (s.ext hW).setText hHt.out hHb.out (b' := splice b (f + a) bs) (length_splice b (f + a) bs (by have := hKl.out; omega)) h1 (fun g hg hne => h2.block g hg (fun e => hne e.symm)) (Nat.le_of_eq h3.symm)
    refine ⟨h, ρ, s3, Moves.ext_left hW ⟨h2.os, h2.tape, h2.output, h2.size, fun b hb hn => h2.block b hb (fun e => hn (by unfold Roles.own; rw [hon b e.symm]; simp)), fun _ hb => .inl hb⟩⟩
  have hFin := Lib.hid fin
  clear fin
  by_cases hk0 : k = 0
  · have hbs : (byteCells bs).length = 0 := by have h1 := hKl.out; simp only [byteCells, List.length_map]; omega
    have hBs := Lib.hid hbs
    have hk1 : k ≤ 0 := by omega
    clear hk0 hbs
    go_enter Try.func29, Try.ntmps29
    go_upto_region 1 with fail
    generalize hX : World.alloc w _ = X
    obtain ⟨hx, hcX, hfX, hzX, hbX⟩ := boxed hX
    clear hX hfX
    go_upto_region 5 with (go_at_call 61; refine (is_b (b := true) (s.ext hx) _ _ _ _ _ _ _ _ _ (isA_str hHb.out hfm)).mono ?_; rintro e w1 ⟨rfl, hx1⟩; have hc1 := (hbX.ext hx1).cell)
    have hxx := hx.trans_ hx1
    clear hcX
    go_wp2_with (first
      | (go_at_call 74; refine (text_c (s.ext hxx) 6 x ac n nm r f m t b hHt.out hHb.out hfm).mono ?_; rintro e w2 ⟨rfl, hx2⟩)
      | (refine wpList_copy_row (by rfl) _ _ _ _ (by rfl) 5 1 Try.underlying45 (by kernel_rfl) _ _ _ _ _ _ (by rfl) (by rfl) (hrow.ext (hxx.trans_ hx2)) (f + a) (byteCells bs) hcs (fun h0 => by have := hBs.out; omega) (fun h0 => by have := hBs.out; omega) (by rw [hrow.len, hBs.out]; have := hTn.out; omega) (byteCells_one bs) ?_; intro w3 hrow3 hg3 hz3))
    all_goals
      go_ret
      exact ⟨rfl, hFin.out _ _ (hxx.trans_ hx2) hrow3 hg3 hz3⟩
  · obtain ⟨g, hg1, hg2, hg3, hg4⟩ := hrow.cutA_ (f := f) (by have := hTn.out; omega)
    have hl : ∀ (W : World) (_ : Ext w W), Calls Try.prog 74 #[.pointer (some ⟨p, 0, none⟩), .agg #[.int .i64 6, .bool x, .int .i64 ac, .int .i64 n, .string nm, .int .i64 r, .int .i64 f, .int .i64 m]] W fun e w' => e = .returned (.slice (some ⟨g, f * 1, none⟩) m (t.c - f)) ∧ Ext W w' := by
      intro W hW
      have := text_c (s.ext hW) 6 x ac n nm r f m t b hHt.out hHb.out hfm
      rw [hg3] at this
      exact this
    have hL := Lib.hid hl
    obtain ⟨gs, os, hA, hgs, hj⟩ := hv.2 (by simp [byteCells]; have := hKl.out; omega)
    have hJ := Lib.hid hj
    have hA' := Lib.hid hA
    have hpos : 0 < k := by omega
    have ham : a < m := by omega
    have hac : ¬ (t.c - f = a) := by omega
    clear hl hg3 hj hA hk0
    go_enter Try.func29, Try.ntmps29
    go_upto_region 1 with fail
    generalize hX : World.alloc w _ = X
    obtain ⟨hx, hcX, hfX, hzX, hbX⟩ := boxed hX
    clear hX hfX
    go_upto_region 5 with (go_at_call 61; refine (is_b (b := true) (s.ext hx) _ _ _ _ _ _ _ _ _ (isA_str hHb.out hfm)).mono ?_; rintro e w1 ⟨rfl, hx1⟩; have hc1 := (hbX.ext hx1).cell)
    have hxx := hx.trans_ hx1
    clear hcX
    go_wp2_with (first
      | (go_at_call 74; refine (hL.out _ hxx).mono ?_; rintro e w2 ⟨rfl, hx2⟩)
      | (refine wpList_copy_row (by rfl) _ _ _ _ (by rfl) 5 1 Try.underlying45 (by kernel_rfl) _ _ _ _ _ _ (by rfl) (by rfl) (hrow.ext (hxx.trans_ hx2)) (f + a) (byteCells bs) hcs ?_ ?_ (by rw [hrow.len]; have := hTn.out; have := hKl.out; simp [byteCells]; omega) (byteCells_one bs) ?_
         · intro _
           exact ⟨g, hg2, by simp⟩
         · intro _
           exact ⟨gs, os, hA'.out, fun j u hu => ((hxx.trans_ hx2).cells hgs _).trans (hJ.out j u hu)⟩
         intro w3 hrow3 hg3 hz3))
    all_goals
      go_ret
      exact ⟨rfl, hFin.out _ _ (hxx.trans_ hx2) hrow3 hg3 hz3⟩
end
end Go.Proofs.Ythhckledkhcfeaa
