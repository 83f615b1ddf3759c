/- The store's functions, part R: List. -/
import Derived.Test.YthhckledkhcfeaaStP
namespace Go.Proofs.Ythhckledkhcfeaa
open Go.RowKit
theorem index_list {w : World} {A : Option Addr} {tn tc : Nat} {l : List Ob} {c1 : Value} {f : Ob → Bool} (hv : View w 8 A tn (obCells l)) (hcap : tn ≤ 4294967296)
    (hcl : ∀ W, Ext w W → ∀ o ∈ l, Calls Try.prog 99 #[.agg o.cells.toArray, c1] W fun e w' => e = .returned (.bool (f o)) ∧ Ext W w') :
    Calls Try.prog 103 #[.slice A tn tc, .func (.func 99) #[] #[c1]] w fun e w' => e = .returned (.int .i64 (idxOf f l)) ∧ Ext w w' := by
  have hn : l.length = tn := by have := hv.1; rw [length_obCells] at this; omega
  have hHn := Lib.hid hn
  have hCl := Lib.hid hcl
  have hHv := Lib.hid hv
  clear hn hcl hv
  go_enter Try.func103, Try.ntmps103
  go_wp2_with fail
  go_loopg [8] tn (fun k8 s8 wr => ∃ i : Nat, i ≤ tn ∧ k8 = tn - i ∧ s8 = .int .i64 i ∧ (∀ (q : Nat) (u : Ob), q < i → l[q]? = some u → f u = false) ∧ Ext w wr)
  case atStart => exact ⟨0, by omega, by omega, rfl, (by intro q u hq; omega), Ext.rfl_ w⟩
  case round =>
    obtain ⟨i, hi, hk, hs8, hno, hx⟩ := hrel
    subst hs8
    have hNo := Lib.hid hno
    clear hno
    by_cases hlt : i < tn
    · obtain ⟨u, hu⟩ : ∃ u, l[i]? = some u := ⟨_, List.getElem?_eq_getElem (by have := hHn.out; omega)⟩
      have hHu := Lib.hid hu
      obtain ⟨g, o, ha, hg, hj⟩ := hHv.out.2 (by rw [length_obCells]; have := hHn.out; omega)
      subst ha
      have hHc := Lib.hid (hCl.out wr hx u (List.mem_of_getElem? hu))
      have hcells : ∀ q v, u.cells[q]? = some v → wr.cell? ⟨g, o + i * 8 + q, none⟩ = some v := fun q v hv => (hx.cells hg _).trans (by
        have hq8 : q < 8 := by have := (List.getElem?_eq_some_iff.1 hv).1; rw [Ob.cells_len] at this; exact this
        rw [Nat.add_assoc]
        exact hj _ _ ((getElem?_flat Ob.cells 8 Ob.cells_len l i u q hHu.out hq8).trans hv))
      clear hu hj
      cases hq : f u with
      | true =>
        rw [hq] at hHc
        have hQ := Lib.hid hq
        clear hq
        go_wp2_with (first
          | (go_at_call 99; refine hHc.out.mono ?_; rintro e w1 ⟨rfl, hx1⟩)
          | (refine wpList_load_at (ty := 27) (cs := u.cells) (by rfl) _ (by rfl) (by rfl) hcells Try.underlying27 (by kernel_rfl) ?_))
        go_ret
        exact ⟨by rw [idxOf_some hHu.out hQ.out hNo.out]; rfl, hx.trans_ hx1⟩
      | false =>
        rw [hq] at hHc
        have hQ := Lib.hid hq
        clear hq
        go_wp2_with (first
          | (go_at_call 99; refine hHc.out.mono ?_; rintro e w1 ⟨rfl, hx1⟩)
          | (refine wpList_load_at (ty := 27) (cs := u.cells) (by rfl) _ (by rfl) (by rfl) hcells Try.underlying27 (by kernel_rfl) ?_))
        go_roundg (tn - (i + 1))
        case measure => omega
        case rel =>
          refine ⟨i + 1, by omega, rfl, by simp, ?_, hx.trans_ hx1⟩
          intro q u' hq' hu'
          rcases Nat.lt_or_ge q i with h1 | h1
          · exact hNo.out q u' h1 hu'
          · obtain rfl : q = i := by omega
            rw [hHu.out] at hu'
            injection hu' with hu'
            subst hu'
            exact hQ.out
    · go_wp2_with fail
      go_ret
      refine ⟨?_, hx⟩
      rw [idxOf_none]
      · rfl
      intro q u hu
      exact hNo.out q u (by have := (List.getElem?_eq_some_iff.1 hu).1; have := hHn.out; omega) hu
theorem contains_list {w : World} {A : Option Addr} {tn tc : Nat} {l : List Ob} {c1 : Value} {f : Ob → Bool} {q : Bool} (hv : View w 8 A tn (obCells l)) (hcap : tn ≤ 4294967296)
    (hcl : ∀ W, Ext w W → ∀ o ∈ l, Calls Try.prog 99 #[.agg o.cells.toArray, c1] W fun e w' => e = .returned (.bool (f o)) ∧ Ext W w') (hq : l.any f = q) :
    Calls Try.prog 68 #[.slice A tn tc, .func (.func 99) #[] #[c1]] w fun e w' => e = .returned (.bool q) ∧ Ext w w' := by
  have hd : decide (0 ≤ idxOf f l) = q := by
    rw [← hq]
    rcases idxOf_cases f l with ⟨h1, h2⟩ | ⟨i, u, h1, h2, h3⟩
    · rw [h1]
      symm
      simpa using h2
    · rw [h1]
      have : l.any f = true := List.any_eq_true.2 ⟨u, List.mem_of_getElem? h2, h3⟩
      rw [this]
      simp
  subst hd
  have hCl := Lib.hid hcl
  clear hcl hq
  go_enter Try.func68, Try.ntmps68
  go_wp2_with (go_at_call 103; refine (index_list (f := f) hv hcap hCl.out).mono ?_; rintro e w1 ⟨rfl, hx1⟩)
  go_ret
  exact ⟨rfl, hx1⟩
section
variable {w : World} {p : Nat} {σ : St} {h : Hd} {ρ : Roles}
theorem list1_c (s : Sto w p σ h ρ) {b : Nat} (hb : Blk w b 22 [.pointer (some ⟨p, 0, none⟩)]) (k : Int) (x : Bool) (ac n : Int) (nm : ByteArray) (rf fr ln : Int) {q : Bool} (hq : σ.valid ⟨k, x, ac, n, nm, rf, fr, ln⟩ = q) :
    Calls Try.prog 99 #[.agg #[.int .i64 k, .bool x, .int .i64 ac, .int .i64 n, .string nm, .int .i64 rf, .int .i64 fr, .int .i64 ln], .pointer (some ⟨b, 0, none⟩)] w fun e w' => e = .returned (.bool !q) ∧ Ext w w' := by
  have hQ := Lib.hid hq
  clear hq
  go_enter Try.func99, Try.ntmps99
  go_upto_region 1 with fail
  generalize hX : World.alloc w _ = X
  obtain ⟨hx, hcX, hfX, hzX, hbX⟩ := boxed hX
  clear hX hfX
  have hcb := (hb.ext hx).cell
  go_wp2_with (go_at_call 46; refine (valid_b (s.ext hx) k x ac n nm rf fr ln hQ.out).mono ?_; rintro e w1 ⟨rfl, hx1⟩)
  go_ret
  exact ⟨rfl, hx.trans_ hx1⟩
theorem splice_obs (b l : List Ob) (h : l.length = b.length) : splice (obCells b) 0 (obCells l) = obCells l := by
  unfold splice
  have h1 : (obCells l).length = (obCells b).length := by rw [length_obCells, length_obCells, h]
  simp
  omega
set_option maxRecDepth 100000 in
set_option maxHeartbeats 1000000 in
/-- (*Store).List. -/
theorem lst_ok (s : Sto w p σ h ρ) {A : Option Addr} {n c : Nat} {l : List Ob} (hv : View w 8 A n (obCells l)) (hap : ∀ g o, A = some ⟨g, o, none⟩ → ρ g = none) (hval : ∀ o ∈ l, σ.valid o = true) (h1 : n ≤ 65535) (h2 : 1 + (n : Int) ≤ σ.free) :
    Calls Try.prog 59 #[.pointer (some ⟨p, 0, none⟩), .slice A n c] w fun e w' =>
      e = .returned (.tuple #[.agg #[.int .i64 7, .bool false, .int .i64 0, .int .i64 0, .string ByteArray.empty, .int .i64 σ.lists.length, .int .i64 0, .int .i64 n], .int .i64 0]) ∧
        StoTo w w' p ρ { σ with free := σ.free - (1 + n), lists := σ.lists ++ [l] } := by
  have hmf : ∀ (fn : Fn) (first cap : Array Value) (w : World), (Instr.makeFunc fn first cap).run Try.prog w = .ok (.func fn first cap) w := fun _ _ _ _ => rfl
  have hln : l.length = n := by have := hv.1; rw [length_obCells] at this; omega
  have hN := Lib.hid hln
  have hV := Lib.hid hv
  have hAp := Lib.hid hap
  have hVl := Lib.hid hval
  clear hln hv hap hval
  go_enter Try.func59, Try.ntmps59
  go_upto_region 1 with fail
  generalize hX : World.alloc (World.alloc w _) _ = X
  obtain ⟨hx, hB2, hB4⟩ := boxed2 hX
  clear hX
  have hcl := contains_list (w := X) (tn := n) (tc := c) (l := l) (f := fun o => !σ.valid o) (q := false) (hV.out.ext hx) (by omega) (fun W hW o _ => list1_c ((s.ext hx).ext hW) (hB2.ext hW) o.k o.x o.ac o.n o.nm o.rf o.fr o.ln rfl) (by
    rw [List.any_eq_false]
    intro o ho
    rw [hVl.out o ho]
    simp)
  have hCl := Lib.hid hcl
  clear hcl
  go_upto_region 3 with (go_at_call 68; refine hCl.out.mono ?_; rintro e w1 ⟨rfl, hx1⟩)
  have hxx := hx.trans_ hx1
  have hc2 := (hB2.ext hx1).cell
  have n2 : ¬ ρ.own w.heap.size := Roles.not_own (s.fresh (Nat.le_refl _))
  have n4 : ¬ ρ.own (w.heap.size + 1) := Roles.not_own (s.fresh (by omega))
  go_upto_region 4 with (go_at_call 13; refine (array_ok (s.ext hxx) n h1 h2).mono ?_; rintro e w2 ⟨rfl, h2', ρ2, s2, m2⟩)
  generalize hY : World.alloc w2 _ = Y
  obtain ⟨hy, hcY, hfY, hzY, hbY⟩ := boxed hY
  clear hY hcY hfY hc2
  have s3 := s2.ext hy
  have D2 := ((hB2.ext hx1).moves m2 n2).ext hy
  have D4 := ((hB4.ext hx1).moves m2 n4).ext hy
  have hvY : View Y 8 A n (obCells l) := ((hV.out.ext hxx).keep m2.size fun g o hA hg => m2.block g hg (Roles.not_own (hAp.out g o hA))).ext hy
  obtain ⟨g, t, b, ha, ht1, ht2, hcell, hrow, hon, hg, hglt, htn, hb⟩ := s3.list_at (r := σ.lists.length) (by simp)
  have hbe : b = List.replicate n Ob.null := by simp at ht2; exact ht2.symm
  have hbn : b.length = n := by rw [hbe]; simp
  have htn' : t.n = n := htn.trans hbn
  have hmain := s3.main
  rw [ha] at hmain
  have hrn : σ.lists.length < h2'.lists.n := by rw [s3.nlists]; simp
  have hcs : (obCells l).length = Nat.min n t.n * 8 := by rw [htn', length_obCells, hN.out]; simp
  have hHt' := Lib.hid htn'
  have hHb := Lib.hid hbn
  have hHt2 := Lib.hid ht2
  have hHt1 := Lib.hid ht1
  have hHv := Lib.hid hvY
  have hrl2 : σ.lists.length < 1048576 := by have := s.ok.room; have := s.ok.free0; omega
  clear ht1 ht2 htn htn' hbn hbe ha hvY
  go_upto_region 5 with fail
  have y2 := fun (E : ExtOf Y) i => (E.cells D2.lt i).trans (D2.cell i)
  have yb := fun (E : ExtOf Y) i => (E.cells hbY.lt i).trans (hbY.cell i)
  have ym := fun (E : ExtOf Y) i => (E.cells hmain.lt i).trans (hmain.cell i)
  have yl : ∀ (E : ExtOf Y), E.w.cell? ⟨g, σ.lists.length, none⟩ = some (.slice t.a t.n t.c) := fun E => (E.cells hglt _).trans hcell
  refine wp_region_ext_tail 9 (by kernel_rfl) (by kernel_rfl) ?_
  simp only [List.take_succ_cons, List.take_zero, List.drop_succ_cons, List.drop_zero]
  repeat (go_big_quiet_step (fail))
  refine wpQuiet_nil fun E => ?_
  clear y2 yb ym yl
  have hrE := hrow.ext E.h
  have hvE := (hHv.out).ext E.h
  go_upto_region 6 with (
    refine wpList_copy_row (by rfl) _ _ _ _ (by rfl) 27 8 Try.underlying33 (by kernel_rfl) _ _ _ _ _ _ (by rfl) (by rfl) hrE 0 (obCells l) hcs ?_ ?_ ?_ ?_ ?_
    · intro h0
      obtain ⟨gt, hgt, -⟩ := hrE.pos (by rw [hHt'.out]; rw [length_obCells] at h0; have := hN.out; omega)
      exact ⟨gt, hgt, hgt⟩
    · intro h0
      obtain ⟨gv, ov, hA, -, hj⟩ := hvE.2 h0
      exact ⟨gv, ov, hA, hj⟩
    · rw [hrE.len, hHt'.out, length_obCells, hN.out]; omega
    · exact obCells_one l
    intro w5 hrow5 hg5 hz5)
  have hne : ∀ c, ¬ ρ2.own c → t.blk ≠ some c := fun c hc hb => hc (by unfold Roles.own; rw [hon c hb]; simp)
  have q4 : ¬ ρ2.own (w.heap.size + 1) := m2.apart n4 (hB4.ext hx1).lt
  have q6 : ¬ ρ2.own w2.heap.size := Roles.not_own (s2.fresh (Nat.le_refl _))
  have F4 := (D4.ext E.h).keep (hg5.block _ (D4.ext E.h).lt (fun e => hne _ q4 e.symm))
  have F6 := (hbY.ext E.h).keep (hg5.block _ (hbY.ext E.h).lt (fun e => hne _ q6 e.symm))
  have hlb : l.length = b.length := by rw [hN.out, hHb.out]
  rw [splice_obs b l hlb] at hrow5
  have s5 := (s3.ext E.h).setList hHt1.out hHt2.out (b' := l) hlb hrow5 (fun c hc hne => hg5.block c hc (fun e => hne e.symm)) hg5.size
  have e2 : (σ.lists ++ [List.replicate n Ob.null]).set σ.lists.length l = σ.lists ++ [l] := by simp
  have m5 : Moves E.w w5 ρ2.own ρ2.own := ⟨hg5.os, hg5.tape, hg5.output, hg5.size, fun c hc hn => hg5.block c hc (fun e => hne _ hn e.symm), fun _ h => .inl h⟩
  have hc4 := F4.cell
  have hf4 := F4.frozen
  have hc6 := F6.cell
  clear hrow5 hg5
  go_wp2
  have hne46 : w.heap.size + 1 < w2.heap.size := ((hB4.ext hx1).moves m2 n4).lt
  refine bodyPost_ret (res_ct rfl rfl (set8_blk F4 _ _ _ _ _ _ _ _) Try.underlying27 (by kernel_rfl)) rfl ⟨rfl, ?_⟩
  have ho := set8_only w5 (w.heap.size + 1) (.int .i64 7) (.bool false) (.int .i64 0) (.int .i64 0) (.string ByteArray.empty) (.int .i64 σ.lists.length) (.int .i64 0) (.int .i64 n)
  have s6 := s5.only ho (Roles.none_of q4)
  simp only [e2] at s6
  exact ⟨_, ρ2, s6, ((((Moves.ext_left hxx m2).ext_right hy).ext_right E.h).trans_ m5).only ho (.inl (by omega))⟩
end
end Go.Proofs.Ythhckledkhcfeaa
