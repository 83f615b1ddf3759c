/- The saves: Restore, nothing being held. The saves: Elder; what is held, held against a mark. The store's functions, part Q: undo, of each kind of change but a pair that is gone. Its long lists are printed by a small program of mine. The saves: Restore with things held. -/
import Derived.Test.YthhckledkhcfeaaQ07
import Derived.Test.YthhckledkhcfeaaQ10
import Derived.Test.YthhckledkhcfeaaQ14
namespace Go.Proofs.Ythhckledkhcfeaa
open Go.RowKit
section
variable {w w' : World} {v p : Nat} {σ σ' : St} {h : Hd} {ρ : Roles} {t : Sl} {l : List (Int × Int)} {last : Int}
set_option maxRecDepth 100000 in
set_option maxHeartbeats 1000000 in
theorem restore_ok (s : Sv w v p σ h ρ t l last) {i : Nat} {n mark : Int} (hi : l[i]? = some (n, mark)) (hp : placeOf l n = i) (x : Bool) (ac : Int) (nm : ByteArray) (rf fr ln : Int)
    (hback : ∀ (W : World) (h' : Hd) (ρ' : Roles), Sto W p σ h' ρ' → Calls Try.prog 71 #[.pointer (some ⟨p, 0, none⟩), .int .i64 mark] W fun e w' => e = .returned (.int .i64 0) ∧ StoTo W w' p ρ' σ') :
    Calls Try.prog 21 #[.pointer (some ⟨v, 0, none⟩), .agg #[.int .i64 10, .bool x, .int .i64 ac, .int .i64 n, .string nm, .int .i64 rf, .int .i64 fr, .int .i64 ln], .slice none 0 0] w fun e w' =>
      e = .returned (.int .i64 0) ∧ SvTo w w' v p (svOwn v t ρ) σ' (l.take i) last := by
  obtain ⟨iL, hiL, -⟩ := info_parts info_state
  have hil := (List.getElem?_eq_some_iff.1 hi).1
  have hBk := Lib.hid hback
  have hHi := Lib.hid hi
  have hHp := Lib.hid hp
  have htn := s.sav.n
  have hlb : i < t.n := by rw [htn]; exact hil
  have hHl := Lib.hid hil
  have hHt := Lib.hid htn
  have hcap := s.sav.row.cap_le
  simp only [maxLen] at hcap
  clear hback hi hp hil htn
  go_enter Try.func21, Try.ntmps21
  go_upto_region 1 with fail
  generalize hX : World.alloc (World.alloc w _) _ = X
  have hB3 := (Blk.new w 37 [.pointer (some ⟨v, 0, none⟩)]).alloc (.cells #[.int .i64 10, .bool x, .int .i64 ac, .int .i64 n, .string nm, .int .i64 rf, .int .i64 fr, .int .i64 ln] 27)
  have hB4 := Blk.new1 w (.cells #[.pointer (some ⟨v, 0, none⟩)] 37) 27 [.int .i64 10, .bool x, .int .i64 ac, .int .i64 n, .string nm, .int .i64 rf, .int .i64 fr, .int .i64 ln]
  have hx : Ext w X := by rw [← hX]; exact ((Ext.rfl_ w).alloc_ _).alloc_ _
  rw [hX] at hB3 hB4
  clear hX
  have hc3 := hB3.cell
  have hc4 := hB4.cell
  have s1 := s.ext hx
  go_upto_region 2 with (go_at_call 67; refine (at_save s1.sav 10 x ac n nm rf fr ln rfl).mono ?_; rintro e w1 ⟨rfl, hx1⟩)
  rw [hHp.out]
  have s2 := s1.ext hx1
  have hC3 := hB3.ext hx1
  have hC4 := hB4.ext hx1
  have hc3' := hC3.cell
  have hc4' := hC4.cell
  clear hc3 hc4
  obtain ⟨g, hga, hgb⟩ := s2.sav.row.pos (show 0 < t.n by omega)
  have c1 : w1.cell? ⟨g, i * 2 + 1, none⟩ = some (.int .i64 mark) := by
    have := s2.sav.row.item length_sv hga hHi.out (show 1 < 2 by omega)
    simpa [svCells] using this
  have hmain := s2.sav.blk
  rw [hga] at hmain
  have hcv := hmain.cell
  go_wp2_with (go_at_call 65; refine (none_c s2.sav).mono ?_; rintro e w2 ⟨rfl, rfl⟩)
  generalize hY : World.alloc w1 _ = Y
  obtain ⟨hy, hcY, hfY, hzY, hbY⟩ := boxed hY
  clear hY hcY hfY hcv hmain c1 hc3' hc4' hga hgb
  have s3 := s2.ext hy
  have hD3 := hC3.ext hy
  go_loopg [34] 0 (fun k s34 wr => wr = Y ∧ s34 = .int .i64 0)
  case atStart => exact ⟨rfl, rfl⟩
  case round =>
    obtain ⟨hwr, hs34⟩ := hrel
    subst hwr
    subst hs34
    have hcv := s3.sav.blk.cell
    have hc3 := hD3.cell
    have hcm := hbY.cell
    have hvl := s3.sav.blk.lt
    have hl3 := hD3.lt
    have f3 := fun (E : ExtOf wr) j => (E.cells hl3 j).trans (hc3 j)
    have fv := fun (E : ExtOf wr) j => (E.cells hvl j).trans (hcv j)
    have fz := fun (E : ExtOf wr) => (s3.sav.blk.ext E.h).frozen
    have kC := run_cut s3.sav.row Try.underlying126 ⟨iL, hiL⟩ (m := i) (by omega)
    go_upto_region 15 with fail
    clear hcv hc3 hcm
    refine wp_region_ext_tail 9 (by kernel_rfl) (by kernel_rfl) ?_
    simp only [List.take_succ_cons, List.take_zero, List.drop_succ_cons, List.drop_zero]
    repeat (go_big_quiet_step (fail))
    refine wpQuiet_nil fun E => ?_
    have kf := fz E
    have kc := fv E
    go_upto_region 16 with fail
    have hvw : v < w.heap.size := s.sav.blk.lt
    have hww := (hx.trans_ hx1).size
    have hV := (s3.sav.blk.ext E.h).set_ 1 (.slice t.a i t.c)
    have hR := ((s3.sav.row.ext E.h).cut (m := i) (by omega)).far (p := ⟨v, 1, none⟩) (fun hb => s.vt hb) (.slice t.a i t.c)
    have hS := (s3.sto.ext E.h).only ((Only.refl_ E.w v).set_ 1 (.slice t.a i t.c)) s.nv
    have hE3 := (hD3.ext E.h).far (p := ⟨v, 1, none⟩) (by show w.heap.size ≠ v; omega) (.slice t.a i t.c)
    have hEm := (hbY.ext E.h).far (p := ⟨v, 1, none⟩) (by show w1.heap.size ≠ v; omega) (.slice t.a i t.c)
    have hm1 : Moves w (E.w.setCell ⟨v, 1, none⟩ (.slice t.a i t.c)) (svOwn v t ρ) (svOwn v t ρ) := Moves.ext_left (((hx.trans_ hx1).trans_ hy).trans_ E.h) (Moves.set_ (.inr (.inl rfl)) _)
    clear f3 fv fz kf kc kC
    generalize E.w.setCell ⟨v, 1, none⟩ (.slice t.a i t.c) = Z at hV hR hS hE3 hEm hm1
    have g3 := fun (E : ExtOf Z) j => (E.cells hE3.lt j).trans (hE3.cell j)
    have gv := fun (E : ExtOf Z) j => (E.cells hV.lt j).trans (hV.cell j)
    have gm := fun (E : ExtOf Z) j => (E.cells hEm.lt j).trans (hEm.cell j)
    refine wp_region_ext_tail 5 (by kernel_rfl) (by kernel_rfl) ?_
    simp only [List.take_succ_cons, List.take_zero, List.drop_succ_cons, List.drop_zero]
    repeat (go_big_quiet_step (fail))
    refine wpQuiet_nil fun E2 => ?_
    go_wp2_with (go_at_call 71; refine (hBk.out _ _ _ (hS.ext E2.h)).mono ?_; rintro e w3 ⟨rfl, h3, ρ3, s4, hm4⟩)
    go_ret
    refine ⟨rfl, h3, ρ3, ⟨t.a, i, t.c⟩, ⟨s4, ⟨?_, ?_⟩, ?_, ?_, s.vt⟩, ?_⟩
    · exact (hV.ext E2.h).moves hm4 (Roles.not_own s.nv)
    · have := (hR.ext E2.h).moves hm4 (fun g hg => Roles.not_own (s.nt g hg))
      rw [take_flat _ 2 length_sv] at this
      exact this
    · exact Roles.none_of (hm4.apart (Roles.not_own s.nv) (hV.ext E2.h).lt)
    · intro g hg
      exact Roles.none_of (hm4.apart (Roles.not_own (s.nt g hg)) ((hR.ext E2.h).blk_lt hg))
    · have m1 : Moves Z w3 (svOwn v t ρ) (svOwn v ⟨t.a, i, t.c⟩ ρ3) := (Moves.ext_left E2.h hm4).frame (fun b hb => .inl hb) (fun b hb => by
        rcases hb with hb | hb | hb
        · exact .inl hb
        · exact .inr (.inl (.inr (.inl hb)))
        · exact .inr (.inl (.inr (.inr hb))))
      exact hm1.trans_ m1
end
end Go.Proofs.Ythhckledkhcfeaa
namespace Go.Proofs.Ythhckledkhcfeaa
open Go.RowKit
/-- Was it there when there was so much of all? -/
def St.elder (σ : St) (m : Szs) (o : Ob) : Bool :=
  σ.valid o && (if o.k = 6 then decide (o.rf < m.texts) else if o.k = 7 then decide (o.rf < m.lists) else if o.k = 8 then decide (o.rf < m.dicts) else true)
section
variable {w : World} {p : Nat} {σ : St} {h : Hd} {ρ : Roles}
set_option maxHeartbeats 800000 in
theorem elder_c (s : Sto w p σ h ρ) (mark : Nat) (m : Szs) (h1 : 1 ≤ mark) (hm : σ.marks[mark - 1]? = some m) (k : Int) (x : Bool) (ac n : Int) (nm : ByteArray) (rf fr ln : Int) {q : Bool} (hq : σ.elder m ⟨k, x, ac, n, nm, rf, fr, ln⟩ = q) :
    Calls Try.prog 70 #[.pointer (some ⟨p, 0, none⟩), .agg #[.int .i64 k, .bool x, .int .i64 ac, .int .i64 n, .string nm, .int .i64 rf, .int .i64 fr, .int .i64 ln], .int .i64 mark] w fun e w' => e = .returned (.bool q) ∧ Ext w w' := by
  have hml : mark ≤ σ.marks.length := by have := (List.getElem?_eq_some_iff.1 hm).1; omega
  have hd : decide (1 ≤ (mark : Int) ∧ (mark : Int) ≤ σ.marks.length) = true := by rw [decide_eq_true_eq]; omega
  have hD := Lib.hid hd
  have hmk := s.ok.nmark
  have hmn : mark ≤ h.marks.n := by rw [s.nmarks]; exact hml
  have hmn2 : h.marks.n ≤ 4294967296 := by rw [s.nmarks]; exact hmk
  obtain ⟨g, hga, hgb⟩ := s.marks.pos (show 0 < h.marks.n by omega)
  have hHm := Lib.hid hm
  clear hd hml hmk hm
  cases hv : σ.valid ⟨k, x, ac, n, nm, rf, fr, ln⟩ with
  | false =>
    have hq0 : q = false := by rw [← hq]; unfold St.elder; rw [hv]; rfl
    subst hq0
    have hV := Lib.hid hv
    clear hv hq
    go_enter Try.func70, Try.ntmps70
    go_upto_region 1 with fail
    generalize hX : World.alloc w _ = X
    obtain ⟨hx, hcX, hfX, hzX, hbX⟩ := boxed hX
    clear hX
    go_wp2_with (first
      | (go_at_call 104; refine (marked_c (s.ext hx) hD.out).mono ?_; rintro e w1 ⟨rfl, rfl⟩)
      | (go_at_call 46; refine (valid_b (b := false) (s.ext hx) _ _ _ _ _ _ _ _ hV.out).mono ?_; rintro e w1 ⟨rfl, hx1⟩))
    go_ret
    exact ⟨rfl, hx.trans_ hx1⟩
  | true =>
    have hV := Lib.hid hv
    have hq1 : (if k = 6 then decide (rf < m.texts) else if k = 7 then decide (rf < m.lists) else if k = 8 then decide (rf < m.dicts) else true) = q := by rw [← hq]; unfold St.elder; rw [hv]; rfl
    have hHq := Lib.hid hq1
    clear hv hq hq1
    go_enter Try.func70, Try.ntmps70
    go_upto_region 1 with fail
    generalize hX : World.alloc w _ = X
    obtain ⟨hx, hcX, hfX, hzX, hbX⟩ := boxed hX
    clear hX hfX
    go_upto_region 3 with (first
      | (go_at_call 104; refine (marked_c (s.ext hx) hD.out).mono ?_; rintro e w1 ⟨rfl, rfl⟩)
      | (go_at_call 46; refine (valid_b (b := true) (s.ext hx) _ _ _ _ _ _ _ _ hV.out).mono ?_; rintro e w1 ⟨rfl, hx1⟩))
    clear hcX
    have s1 := s.ext (hx.trans_ hx1)
    have hmain := s1.main
    rw [hga] at hmain
    have hc := hmain.cell
    have qq := fun j hj => s1.marks.item (j := j) length_szs hga hHm.out hj
    have q0 := qq 0 (by omega)
    have q1 := qq 1 (by omega)
    have q2 := qq 2 (by omega)
    have q3 := qq 3 (by omega)
    have q4 := qq 4 (by omega)
    simp only [Szs.cells, Nat.add_zero] at q0 q1 q2 q3 q4
    clear qq
    go_upto_region 4 with fail
    have hB := (hbX.ext hx1)
    generalize hY : World.alloc w1 _ = Y
    obtain ⟨hy, hcY, hfY, hzY, hbY⟩ := boxed hY
    clear hY hfY q0 q1 q2 q3 q4 hc
    have hc := (hB.ext hy).cell
    have hxx := (hx.trans_ hx1).trans_ hy
    by_cases k6 : k = 6
    · subst k6
      have e : decide (rf < m.texts) = q := by have := hHq.out; rw [if_pos rfl] at this; exact this
      subst e
      go_wp2
      go_ret
      exact ⟨rfl, hxx⟩
    · by_cases k7 : k = 7
      · subst k7
        have e : decide (rf < m.lists) = q := by have := hHq.out; rw [if_neg (by omega), if_pos rfl] at this; exact this
        subst e
        clear k6
        go_wp2
        go_ret
        exact ⟨rfl, hxx⟩
      · by_cases k8 : k = 8
        · subst k8
          have e : decide (rf < m.dicts) = q := by have := hHq.out; rw [if_neg (by omega), if_neg (by omega), if_pos rfl] at this; exact this
          subst e
          clear k6 k7
          go_wp2
          go_ret
          exact ⟨rfl, hxx⟩
        · have e : true = q := by have := hHq.out; rw [if_neg k6, if_neg k7, if_neg k8] at this; exact this
          subst e
          have b6 : (k == 6) = false := by simpa using k6
          have b7 : (k == 7) = false := by simpa using k7
          have b8 : (k == 8) = false := by simpa using k8
          clear k6 k7 k8
          go_wp2
          go_ret
          exact ⟨rfl, hxx⟩
end
section
variable {w : World} {v p : Nat} {σ : St} {h : Hd} {ρ : Roles} {t : Sl} {l : List (Int × Int)} {last : Int}
/-- The closure of Restore: is a held thing younger than the mark? -/
theorem restore1_c (s : Sv w v p σ h ρ t l last) {b3 b8 : Nat} (hb3 : Blk w b3 37 [.pointer (some ⟨v, 0, none⟩)]) (mark : Nat) (hb8 : Blk w b8 3 [.int .i64 mark]) (m : Szs) (h1 : 1 ≤ mark) (hm : σ.marks[mark - 1]? = some m)
    (k : Int) (x : Bool) (ac n : Int) (nm : ByteArray) (rf fr ln : Int) {q : Bool} (hq : σ.elder m ⟨k, x, ac, n, nm, rf, fr, ln⟩ = q) :
    Calls Try.prog 69 #[.agg #[.int .i64 k, .bool x, .int .i64 ac, .int .i64 n, .string nm, .int .i64 rf, .int .i64 fr, .int .i64 ln], .pointer (some ⟨b3, 0, none⟩), .pointer (some ⟨b8, 0, none⟩)] w fun e w' => e = .returned (.bool !q) ∧ Ext w w' := by
  have hHm := Lib.hid hm
  have hHq := Lib.hid hq
  clear hm hq
  go_enter Try.func69, Try.ntmps69
  go_upto_region 1 with fail
  generalize hX : World.alloc w _ = X
  obtain ⟨hx, hcX, hfX, hzX, hbX⟩ := boxed hX
  clear hX hfX hcX
  have s1 := s.ext hx
  have f3 := fun (E : ExtOf X) i => (E.cells (hb3.ext hx).lt i).trans ((hb3.ext hx).cell i)
  have f8 := fun (E : ExtOf X) i => (E.cells (hb8.ext hx).lt i).trans ((hb8.ext hx).cell i)
  have fX := fun (E : ExtOf X) i => (E.cells hbX.lt i).trans (hbX.cell i)
  have fv := fun (E : ExtOf X) i => (E.cells s1.sav.blk.lt i).trans (s1.sav.blk.cell i)
  refine wp_region_ext (by kernel_rfl) (by kernel_rfl) ?_
  repeat (go_big_quiet_step ((go_at_call 70; exact quiet_ext (elder_c (s1.sto.ext (ExtOf.h _)) mark m h1 hHm.out _ _ _ _ _ _ _ _ hHq.out))))
  refine wpQuiet_nil fun E => ?_
  go_wp2
  go_ret
  exact ⟨rfl, hx.trans_ E.h⟩
theorem index_held {w : World} {A : Option Addr} {tn tc : Nat} {l : List Ob} {c1 c2 : Value} {f : Ob → Bool} (hv : View w 8 A tn (obCells l)) (hcap : tn ≤ 4294967296)
    (hcl : ∀ W, Ext w W → ∀ o ∈ l, Calls Try.prog 69 #[.agg o.cells.toArray, c1, c2] W fun e w' => e = .returned (.bool (f o)) ∧ Ext W w') :
    Calls Try.prog 103 #[.slice A tn tc, .func (.func 69) #[] #[c1, c2]] w fun e w' => e = .returned (.int .i64 (idxOf f l)) ∧ Ext w w' := by
  have hn : l.length = tn := by have := hv.1; rw [length_obCells] at this; omega
  have hHn := Lib.hid hn
  have hCl := Lib.hid hcl
  have hHv := Lib.hid hv
  clear hn hcl hv
  go_enter Try.func103, Try.ntmps103
  go_wp2_with fail
  go_loopg [8] tn (fun k8 s8 wr => ∃ i : Nat, i ≤ tn ∧ k8 = tn - i ∧ s8 = .int .i64 i ∧ (∀ (q : Nat) (u : Ob), q < i → l[q]? = some u → f u = false) ∧ Ext w wr)
  case atStart => exact ⟨0, by omega, by omega, rfl, (by intro q u hq; omega), Ext.rfl_ w⟩
  case round =>
    obtain ⟨i, hi, hk, hs8, hno, hx⟩ := hrel
    subst hs8
    have hNo := Lib.hid hno
    clear hno
    by_cases hlt : i < tn
    · obtain ⟨u, hu⟩ : ∃ u, l[i]? = some u := ⟨_, List.getElem?_eq_getElem (by have := hHn.out; omega)⟩
      have hHu := Lib.hid hu
      obtain ⟨g, o, ha, hg, hj⟩ := hHv.out.2 (by rw [length_obCells]; have := hHn.out; omega)
      subst ha
      have hHc := Lib.hid (hCl.out wr hx u (List.mem_of_getElem? hu))
      have hcells : ∀ q v, u.cells[q]? = some v → wr.cell? ⟨g, o + i * 8 + q, none⟩ = some v := fun q v hv => (hx.cells hg _).trans (by
        have hq8 : q < 8 := by have := (List.getElem?_eq_some_iff.1 hv).1; rw [Ob.cells_len] at this; exact this
        rw [Nat.add_assoc]
        exact hj _ _ ((getElem?_flat Ob.cells 8 Ob.cells_len l i u q hHu.out hq8).trans hv))
      clear hu hj
      cases hq : f u with
      | true =>
        rw [hq] at hHc
        have hQ := Lib.hid hq
        clear hq
        go_wp2_with (first
          | (go_at_call 69; refine hHc.out.mono ?_; rintro e w1 ⟨rfl, hx1⟩)
          | (refine wpList_load_at (ty := 27) (cs := u.cells) (by rfl) _ (by rfl) (by rfl) hcells Try.underlying27 (by kernel_rfl) ?_))
        go_ret
        exact ⟨by rw [idxOf_some hHu.out hQ.out hNo.out]; rfl, hx.trans_ hx1⟩
      | false =>
        rw [hq] at hHc
        have hQ := Lib.hid hq
        clear hq
        go_wp2_with (first
          | (go_at_call 69; refine hHc.out.mono ?_; rintro e w1 ⟨rfl, hx1⟩)
          | (refine wpList_load_at (ty := 27) (cs := u.cells) (by rfl) _ (by rfl) (by rfl) hcells Try.underlying27 (by kernel_rfl) ?_))
        go_roundg (tn - (i + 1))
        case measure => omega
        case rel =>
          refine ⟨i + 1, by omega, rfl, by simp, ?_, hx.trans_ hx1⟩
          intro q u' hq' hu'
          rcases Nat.lt_or_ge q i with h1 | h1
          · exact hNo.out q u' h1 hu'
          · obtain rfl : q = i := by omega
            rw [hHu.out] at hu'
            injection hu' with hu'
            subst hu'
            exact hQ.out
    · go_wp2_with fail
      go_ret
      refine ⟨?_, hx⟩
      rw [idxOf_none]
      · rfl
      intro q u hu
      exact hNo.out q u (by have := (List.getElem?_eq_some_iff.1 hu).1; have := hHn.out; omega) hu
theorem contains_held {w : World} {A : Option Addr} {tn tc : Nat} {l : List Ob} {c1 c2 : Value} {f : Ob → Bool} {q : Bool} (hv : View w 8 A tn (obCells l)) (hcap : tn ≤ 4294967296)
    (hcl : ∀ W, Ext w W → ∀ o ∈ l, Calls Try.prog 69 #[.agg o.cells.toArray, c1, c2] W fun e w' => e = .returned (.bool (f o)) ∧ Ext W w') (hq : l.any f = q) :
    Calls Try.prog 68 #[.slice A tn tc, .func (.func 69) #[] #[c1, c2]] w fun e w' => e = .returned (.bool q) ∧ Ext w w' := by
  have hd : decide (0 ≤ idxOf f l) = q := by
    rw [← hq]
    rcases idxOf_cases f l with ⟨h1, h2⟩ | ⟨i, u, h1, h2, h3⟩
    · rw [h1]
      symm
      simpa using h2
    · rw [h1]
      have : l.any f = true := List.any_eq_true.2 ⟨u, List.mem_of_getElem? h2, h3⟩
      rw [this]
      simp
  subst hd
  have hCl := Lib.hid hcl
  clear hcl hq
  go_enter Try.func68, Try.ntmps68
  go_wp2_with (go_at_call 103; refine (index_held (f := f) hv hcap hCl.out).mono ?_; rintro e w1 ⟨rfl, hx1⟩)
  go_ret
  exact ⟨rfl, hx1⟩
end
end Go.Proofs.Ythhckledkhcfeaa
namespace Go.Proofs.Ythhckledkhcfeaa
open Go.RowKit
abbrev sets16 (xs : List Value) (off : Nat) (v0 v1 v2 v3 v4 v5 v6 v7 v8 v9 v10 v11 v12 v13 v14 v15 : Value) : List Value := ((((((((((((((((xs.set (off) v0).set (off + 1) v1).set (off + 2) v2).set (off + 3) v3).set (off + 4) v4).set (off + 5) v5).set (off + 6) v6).set (off + 7) v7).set (off + 8) v8).set (off + 9) v9).set (off + 10) v10).set (off + 11) v11).set (off + 12) v12).set (off + 13) v13).set (off + 14) v14).set (off + 15) v15)
abbrev setP (w : World) (g off : Nat) (v0 v1 v2 v3 v4 v5 v6 v7 v8 v9 v10 v11 v12 v13 v14 v15 : Value) : World := ((((((((((((((((w.setCell ⟨g, off, none⟩ v0).setCell ⟨g, off + 1, none⟩ v1).setCell ⟨g, off + 2, none⟩ v2).setCell ⟨g, off + 3, none⟩ v3).setCell ⟨g, off + 4, none⟩ v4).setCell ⟨g, off + 5, none⟩ v5).setCell ⟨g, off + 6, none⟩ v6).setCell ⟨g, off + 7, none⟩ v7).setCell ⟨g, off + 8, none⟩ v8).setCell ⟨g, off + 9, none⟩ v9).setCell ⟨g, off + 10, none⟩ v10).setCell ⟨g, off + 11, none⟩ v11).setCell ⟨g, off + 12, none⟩ v12).setCell ⟨g, off + 13, none⟩ v13).setCell ⟨g, off + 14, none⟩ v14).setCell ⟨g, off + 15, none⟩ v15)
theorem setP_only (w : World) (g off : Nat) (v0 v1 v2 v3 v4 v5 v6 v7 v8 v9 v10 v11 v12 v13 v14 v15 : Value) : Only w g (setP w g off v0 v1 v2 v3 v4 v5 v6 v7 v8 v9 v10 v11 v12 v13 v14 v15) := (((((((((((((((((Only.refl_ w g).set_ (off) v0).set_ (off + 1) v1).set_ (off + 2) v2).set_ (off + 3) v3).set_ (off + 4) v4).set_ (off + 5) v5).set_ (off + 6) v6).set_ (off + 7) v7).set_ (off + 8) v8).set_ (off + 9) v9).set_ (off + 10) v10).set_ (off + 11) v11).set_ (off + 12) v12).set_ (off + 13) v13).set_ (off + 14) v14).set_ (off + 15) v15)
theorem sets8_key (o : Ob) : ∀ (l : List (Ob × Ob)) (q : Nat) (u : Ob × Ob), l[q]? = some u → sets8 (l.flatMap pairCells) (q * 16) (.int .i64 o.k) (.bool o.x) (.int .i64 o.ac) (.int .i64 o.n) (.string o.nm) (.int .i64 o.rf) (.int .i64 o.fr) (.int .i64 o.ln) = (l.set q (o, u.2)).flatMap pairCells
  | [], q, u, h => by simp at h
  | a :: l, 0, u, h => by
    simp at h
    subst h
    rfl
  | a :: l, q + 1, u, h => by
    have ih := sets8_key o l q u (by simpa using h)
    have e : ∀ (xs : List Value) (j : Nat) (v : Value), (pairCells a ++ xs).set ((q + 1) * 16 + j) v = pairCells a ++ xs.set (q * 16 + j) v := by
      intro xs j v
      have hl : (pairCells a).length = 16 := rfl
      rw [List.set_append_right _ _ (by omega), hl, show (q + 1) * 16 + j - 16 = q * 16 + j by omega]
    have e0 := e (l.flatMap pairCells) 0
    simp only [Nat.add_zero] at e0
    show sets8 (pairCells a ++ l.flatMap pairCells) ((q + 1) * 16) _ _ _ _ _ _ _ _ = pairCells a ++ (l.set q (o, u.2)).flatMap pairCells
    unfold sets8 at ih ⊢
    rw [e0, e, e, e, e, e, e, e, ih]
theorem Row.set_key {w : World} {t : Sl} {l : List (Ob × Ob)} (h : Row w 122 16 t (l.flatMap pairCells)) {g q off : Nat} {u : Ob × Ob} (o : Ob) (ha : t.a = some ⟨g, 0, none⟩) (hu : l[q]? = some u) (he : off = q * 16) :
    Row (setO w g off (.int .i64 o.k) (.bool o.x) (.int .i64 o.ac) (.int .i64 o.n) (.string o.nm) (.int .i64 o.rf) (.int .i64 o.fr) (.int .i64 o.ln)) 122 16 t ((l.set q (o, u.2)).flatMap pairCells) := by
  subst he
  rw [← sets8_key o l q u hu]
  exact (((((((h.set_ ha (q * 16) _).set_ ha (q * 16 + 1) _).set_ ha (q * 16 + 2) _).set_ ha (q * 16 + 3) _).set_ ha (q * 16 + 4) _).set_ ha (q * 16 + 5) _).set_ ha (q * 16 + 6) _).set_ ha (q * 16 + 7) _
theorem Row.set_pair {w : World} {t : Sl} {l : List (Ob × Ob)} (h : Row w 122 16 t (l.flatMap pairCells)) {g q off : Nat} (o : Ob × Ob) (ha : t.a = some ⟨g, 0, none⟩) (hq : q < l.length) (he : off = q * 16) :
    Row (setP w g off (.int .i64 o.1.k) (.bool o.1.x) (.int .i64 o.1.ac) (.int .i64 o.1.n) (.string o.1.nm) (.int .i64 o.1.rf) (.int .i64 o.1.fr) (.int .i64 o.1.ln) (.int .i64 o.2.k) (.bool o.2.x) (.int .i64 o.2.ac) (.int .i64 o.2.n) (.string o.2.nm) (.int .i64 o.2.rf) (.int .i64 o.2.fr) (.int .i64 o.2.ln)) 122 16 t ((l.set q o).flatMap pairCells) := by
  obtain ⟨u, hu⟩ : ∃ u, l[q]? = some u := ⟨_, List.getElem?_eq_getElem hq⟩
  have h1 := h.set_key o.1 ha hu he
  have hu2 : (l.set q (o.1, u.2))[q]? = some (o.1, u.2) := List.getElem?_set_self hq
  have h2 := h1.set_val (off := off + 8) o.2 ha hu2 (by omega)
  rw [List.set_set] at h2
  exact h2
section
variable {w : World} {p : Nat} {σ : St} {h : Hd} {ρ : Roles}
set_option maxRecDepth 100000 in
set_option maxHeartbeats 1000000 in
theorem undo_put (s : Sto w p σ h ρ) (r a : Nat) (old : Ob × Ob) {l : List Ob} (hl : σ.lists[r]? = some l) (ha : a < l.length) :
    Calls Try.prog 105 #[.pointer (some ⟨p, 0, none⟩), .agg (Chg.cells ⟨0, r, a, old⟩).toArray] w fun e w' => e = .returned (.tuple #[]) ∧ StoTo w w' p ρ { σ with lists := σ.lists.set r (l.set a old.2) } := by
  have hr := getElem?_lt hl
  have hr2 : r < 1048576 := by have := s.ok.room; have := s.ok.free0; omega
  have hll : l.length ≤ 65535 := s.ok.list l (List.mem_of_getElem? hl)
  obtain ⟨g, t, l', hg, ht, hl', hcell, hrow, hon, hgr, hglt, htn, -⟩ := s.list_at hr
  rw [hl] at hl'
  injection hl' with hl'
  subst hl'
  have hat : a < t.n := by rw [htn]; exact ha
  have hrn : r < h.lists.n := by rw [s.nlists]; exact hr
  obtain ⟨g2, hg2, hg2b⟩ := hrow.pos (show 0 < t.n by omega)
  have hmain := s.main
  rw [hg] at hmain
  rw [hg2] at hcell
  have hcap := hrow.cap_le
  simp only [maxLen] at hcap
  obtain ⟨o, ho⟩ : ∃ o, l[a]? = some o := ⟨_, List.getElem?_eq_getElem ha⟩
  have hHl := Lib.hid hl
  have hHt := Lib.hid ht
  have hHo := Lib.hid ho
  clear hl ht hg htn ho
  obtain ⟨⟨kA, xA, aA, nA, mA, rA, fA, lA⟩, ⟨kB, xB, aB, nB, mB, rB, fB, lB⟩⟩ := old
  simp only [Chg.cells, pairCells, Ob.cells, List.cons_append, List.nil_append]
  go_enter Try.func105, Try.ntmps105
  go_upto_region 1 with fail
  generalize hX : World.alloc w _ = X
  obtain ⟨hx, hcX, hfX, hzX, hbX⟩ := boxed hX
  clear hX hfX
  go_upto_region 3 with fail
  clear hcX
  have y1 := fun (E : ExtOf X) i => (E.cells (hmain.ext hx).lt i).trans ((hmain.ext hx).cell i)
  have y2 := fun (E : ExtOf X) i => (E.cells hbX.lt i).trans (hbX.cell i)
  have y3 : ∀ (E : ExtOf X), E.w.cell? ⟨g, r, none⟩ = some (.slice (some ⟨g2, 0, none⟩) t.n t.c) := fun E => ((hx.trans_ E.h).cells hglt r).trans hcell
  refine wp_region_ext_tail 14 (by kernel_rfl) (by kernel_rfl) ?_
  simp only [List.take_succ_cons, List.take_zero, List.drop_succ_cons, List.drop_zero]
  repeat (go_big_quiet_step (fail))
  refine wpQuiet_nil fun E => ?_
  clear y1 y2 y3
  have hrow3 := (hrow.ext hx).ext E.h
  obtain ⟨c0, c1, c2, c3, c4, c5, c6, c7⟩ := hrow3.ob (off := a * 8) hg2 hHo.out rfl
  have hfr := fun j => hrow3.frozen hg2 j
  go_wp2
  refine bodyPost_ret (results_none rfl _ _ _) rfl ⟨rfl, ?_⟩
  have ho := setO_only E.w g2 (a * 8) (.int .i64 kB) (.bool xB) (.int .i64 aB) (.int .i64 nB) (.string mB) (.int .i64 rB) (.int .i64 fB) (.int .i64 lB)
  have hw := hrow3.set_ob (q := a) (off := a * 8) ⟨kB, xB, aB, nB, mB, rB, fB, lB⟩ hg2 ha rfl
  have s4 := ((s.ext hx).ext E.h).setList (b' := l.set a ⟨kB, xB, aB, nB, mB, rB, fB, lB⟩) hHt.out hHl.out (by simp) hw (fun c hc hne => ho.block c (by rintro rfl; exact hne hg2b)) (Nat.le_of_eq ho.size.symm)
  exact ⟨h, ρ, s4, (Moves.of_ext (hx.trans_ E.h) _).only ho (.inr (by unfold Roles.own; rw [hon _ hg2b]; simp))⟩
set_option maxRecDepth 100000 in
set_option maxHeartbeats 1000000 in
theorem undo_lock (s : Sto w p σ h ρ) (r : Nat) (a : Int) (old : Ob × Ob) {D : Dc} (hD : σ.dicts[r]? = some D) :
    Calls Try.prog 105 #[.pointer (some ⟨p, 0, none⟩), .agg (Chg.cells ⟨4, r, a, old⟩).toArray] w fun e w' => e = .returned (.tuple #[]) ∧ StoTo w w' p ρ { σ with dicts := σ.dicts.set r { D with access := a } } := by
  have hrl := getElem?_lt hD
  have hrl2 : r < 1048576 := by have := s.ok.room; have := s.ok.free0; omega
  obtain ⟨g, d, D', ha, hds, hD', hcell, hblk, hrow, hro1, hro2, hglt, hdn, hok1, hok2⟩ := s.dict_at hrl
  rw [hD] at hD'
  injection hD' with hD'
  subst hD'
  have hmain := s.main
  rw [ha] at hmain
  have hrn : r < h.dicts.n := by rw [s.ndicts]; exact hrl
  have hHD := Lib.hid hD
  have hHs := Lib.hid hds
  clear hD hds ha hdn
  obtain ⟨⟨kA, xA, aA, nA, mA, rA, fA, lA⟩, ⟨kB, xB, aB, nB, mB, rB, fB, lB⟩⟩ := old
  simp only [Chg.cells, pairCells, Ob.cells, List.cons_append, List.nil_append]
  go_enter Try.func105, Try.ntmps105
  go_upto_region 1 with fail
  generalize hX : World.alloc w _ = X
  obtain ⟨hx, hcX, hfX, hzX, hbX⟩ := boxed hX
  clear hX hfX
  go_upto_region 5 with fail
  clear hcX
  have y1 := fun (E : ExtOf X) i => (E.cells (hmain.ext hx).lt i).trans ((hmain.ext hx).cell i)
  have y2 := fun (E : ExtOf X) i => (E.cells hbX.lt i).trans (hbX.cell i)
  have y3 : ∀ (E : ExtOf X), E.w.cell? ⟨g, r, none⟩ = some (.pointer (some ⟨d.1, 0, none⟩)) := fun E => ((hx.trans_ E.h).cells hglt r).trans hcell
  have y4 := fun (E : ExtOf X) i => (E.cells (hblk.ext hx).lt i).trans ((hblk.ext hx).cell i)
  refine wp_region_ext_tail 12 (by kernel_rfl) (by kernel_rfl) ?_
  simp only [List.take_succ_cons, List.take_zero, List.drop_succ_cons, List.drop_zero]
  repeat (go_big_quiet_step (fail))
  refine wpQuiet_nil fun E => ?_
  clear y1 y2 y3 y4
  have hxx := hx.trans_ E.h
  have hc3 := (hblk.ext hxx).cell
  have hf3 := (hblk.ext hxx).frozen
  go_wp2
  refine bodyPost_ret (results_none rfl _ _ _) rfl ⟨rfl, ?_⟩
  have hne : d.2.blk ≠ some d.1 := fun e => by have := hro2 _ e; rw [hro1] at this; cases this
  obtain ⟨ρ4, s4, h4⟩ := (s.ext hxx).setDict (w' := E.w.setCell ⟨d.1, 1, none⟩ (.int .i64 a)) (x' := { D with access := a }) hHs.out hHD.out d.2 ((hblk.ext hxx).set_ 1 _) ((hrow.ext hxx).far hne _) (.inl rfl) (fun b _ hb _ => Below.heap_setCell _ _ _ _ hb) (by simp) ⟨hok1, hok2⟩
  refine ⟨_, ρ4, s4, ?_⟩
  have hm4 : Moves E.w (E.w.setCell ⟨d.1, 1, none⟩ (.int .i64 a)) ρ.own ρ4.own := ⟨rfl, rfl, rfl, by simp, fun b _ hn => Below.heap_setCell _ _ _ _ (by rintro rfl; exact hn (by unfold Roles.own; rw [hro1]; simp)), h4⟩
  exact Moves.ext_left hxx hm4
set_option maxRecDepth 100000 in
set_option maxHeartbeats 2000000 in
theorem undo_set (s : Sto w p σ h ρ) (r i : Nat) (old : Ob × Ob) {D : Dc} (hD : σ.dicts[r]? = some D) (hi : i < D.pairs.length) :
    Calls Try.prog 105 #[.pointer (some ⟨p, 0, none⟩), .agg (Chg.cells ⟨1, r, i, old⟩).toArray] w fun e w' => e = .returned (.tuple #[]) ∧ StoTo w w' p ρ { σ with dicts := σ.dicts.set r { D with pairs := D.pairs.set i old } } := by
  have hrl := getElem?_lt hD
  have hrl2 : r < 1048576 := by have := s.ok.room; have := s.ok.free0; omega
  obtain ⟨g, d, D', ha, hds, hD', hcell, hblk, hrow, hro1, hro2, hglt, hdn, hok1, hok2⟩ := s.dict_at hrl
  rw [hD] at hD'
  injection hD' with hD'
  subst hD'
  have hmain := s.main
  rw [ha] at hmain
  have hrn : r < h.dicts.n := by rw [s.ndicts]; exact hrl
  have hin : i < d.2.n := by rw [hdn]; exact hi
  obtain ⟨g2, hg2, hg2b⟩ := hrow.pos (show 0 < d.2.n by omega)
  have hblk' := hblk
  rw [hg2] at hblk'
  have hcap := hrow.cap_le
  simp only [maxLen] at hcap
  have hpl : (D.pairs.length : Int) ≤ 4096 := by omega
  obtain ⟨u, hu⟩ : ∃ u, D.pairs[i]? = some u := ⟨_, List.getElem?_eq_getElem hi⟩
  have hHU := Lib.hid hu
  have hHD := Lib.hid hD
  have hHs := Lib.hid hds
  clear hD hds ha hdn hu
  obtain ⟨⟨kA, xA, aA, nA, mA, rA, fA, lA⟩, ⟨kB, xB, aB, nB, mB, rB, fB, lB⟩⟩ := old
  simp only [Chg.cells, pairCells, Ob.cells, List.cons_append, List.nil_append]
  go_enter Try.func105, Try.ntmps105
  go_upto_region 1 with fail
  generalize hX : World.alloc w _ = X
  obtain ⟨hx, hcX, hfX, hzX, hbX⟩ := boxed hX
  clear hX hfX
  go_upto_region 6 with fail
  clear hcX
  have y1 := fun (E : ExtOf X) i => (E.cells (hmain.ext hx).lt i).trans ((hmain.ext hx).cell i)
  have y2 := fun (E : ExtOf X) i => (E.cells hbX.lt i).trans (hbX.cell i)
  have y3 : ∀ (E : ExtOf X), E.w.cell? ⟨g, r, none⟩ = some (.pointer (some ⟨d.1, 0, none⟩)) := fun E => ((hx.trans_ E.h).cells hglt r).trans hcell
  refine wp_region_ext (by kernel_rfl) (by kernel_rfl) ?_
  repeat (go_big_quiet_step (fail))
  refine wpQuiet_nil fun E => ?_
  clear y1 y2 y3
  have hxx := hx.trans_ E.h
  have hbE := hbX.ext E.h
  have hc2 := hbE.cell
  go_upto_region 9 with fail
  clear hc2
  have y2 := fun (F : ExtOf E.w) i => (F.cells hbE.lt i).trans (hbE.cell i)
  have y4 := fun (F : ExtOf E.w) i => (F.cells (hblk'.ext hxx).lt i).trans ((hblk'.ext hxx).cell i)
  refine wp_region_ext_tail 9 (by kernel_rfl) (by kernel_rfl) ?_
  simp only [List.take_succ_cons, List.take_zero, List.drop_succ_cons, List.drop_zero]
  repeat (go_big_quiet_step (fail))
  refine wpQuiet_nil fun F => ?_
  clear y2 y4
  have hrow3 := (hrow.ext hxx).ext F.h
  have hC := cells_pair hrow3 hg2 hHU.out
  have z0 := hC 0 _ rfl
  have z1 := hC 1 _ rfl
  have z2 := hC 2 _ rfl
  have z3 := hC 3 _ rfl
  have z4 := hC 4 _ rfl
  have z5 := hC 5 _ rfl
  have z6 := hC 6 _ rfl
  have z7 := hC 7 _ rfl
  have z8 := hC 8 _ rfl
  have z9 := hC 9 _ rfl
  have z10 := hC 10 _ rfl
  have z11 := hC 11 _ rfl
  have z12 := hC 12 _ rfl
  have z13 := hC 13 _ rfl
  have z14 := hC 14 _ rfl
  have z15 := hC 15 _ rfl
  simp only [Nat.add_zero] at z0
  clear hC
  have hfr := fun j => hrow3.frozen hg2 j
  go_wp2
  go_end0
  refine ⟨rfl, ?_⟩
  have ho := setP_only F.w g2 (i * 16) (.int .i64 kA) (.bool xA) (.int .i64 aA) (.int .i64 nA) (.string mA) (.int .i64 rA) (.int .i64 fA) (.int .i64 lA) (.int .i64 kB) (.bool xB) (.int .i64 aB) (.int .i64 nB) (.string mB) (.int .i64 rB) (.int .i64 fB) (.int .i64 lB)
  have hw := hrow3.set_pair (q := i) (off := i * 16) (⟨kA, xA, aA, nA, mA, rA, fA, lA⟩, ⟨kB, xB, aB, nB, mB, rB, fB, lB⟩) hg2 hi rfl
  have hne : d.2.blk ≠ some d.1 := fun e => by have := hro2 _ e; rw [hro1] at this; cases this
  have hg1 : g2 ≠ d.1 := by rintro rfl; exact hne hg2b
  obtain ⟨ρ6, s6, h6⟩ := (s.ext (hxx.trans_ F.h)).setDict (x' := { D with pairs := D.pairs.set i (⟨kA, xA, aA, nA, mA, rA, fA, lA⟩, ⟨kB, xB, aB, nB, mB, rB, fB, lB⟩) }) hHs.out hHD.out d.2 (((hblk.ext hxx).ext F.h).keep (ho.block _ (Ne.symm hg1))) hw (.inl rfl) (fun b hb h1 h2 => ho.block b (by rintro rfl; exact h2 hg2b)) (Nat.le_of_eq ho.size.symm) ⟨by simpa using hok1, hok2⟩
  refine ⟨_, ρ6, s6, ?_⟩
  have hm6 : Moves F.w (setP F.w g2 (i * 16) (.int .i64 kA) (.bool xA) (.int .i64 aA) (.int .i64 nA) (.string mA) (.int .i64 rA) (.int .i64 fA) (.int .i64 lA) (.int .i64 kB) (.bool xB) (.int .i64 aB) (.int .i64 nB) (.string mB) (.int .i64 rB) (.int .i64 fB) (.int .i64 lB)) ρ.own ρ6.own :=
    ⟨ho.os, ho.tape, ho.output, Nat.le_of_eq ho.size.symm, fun b hb hn => ho.block b (by rintro rfl; exact hn (by unfold Roles.own; rw [hro2 _ hg2b]; simp)), h6⟩
  exact Moves.ext_left (hxx.trans_ F.h) hm6
end
end Go.Proofs.Ythhckledkhcfeaa
namespace Go.Proofs.Ythhckledkhcfeaa
open Go.RowKit
/-- A list of lists of objects, as it lies in memory. -/
structure Lists (w : World) (A : Option Addr) (n : Nat) (hs : List Sl) (L : List (List Ob)) : Prop where
  view : View w 1 A n (slVals hs)
  len : hs.length = L.length
  at_ : ∀ (i : Nat) (s : Sl) (l : List Ob), hs[i]? = some s → L[i]? = some l → View w 8 s.a s.n (obCells l) ∧ s.n ≤ 4294967296
theorem Lists.ext {w w' : World} {A : Option Addr} {n : Nat} {hs : List Sl} {L : List (List Ob)} (h : Lists w A n hs L) (hx : Ext w w') : Lists w' A n hs L :=
  ⟨h.view.ext hx, h.len, fun i s l h1 h2 => ⟨(h.at_ i s l h1 h2).1.ext hx, (h.at_ i s l h1 h2).2⟩⟩
theorem Lists.n_ {w : World} {A : Option Addr} {n : Nat} {hs : List Sl} {L : List (List Ob)} (h : Lists w A n hs L) : hs.length = n := by have := h.view.1; simp [slVals] at this; exact this
section
variable {w w' : World} {v p : Nat} {σ σ' : St} {h : Hd} {ρ : Roles} {t : Sl} {l : List (Int × Int)} {last : Int}
set_option maxRecDepth 100000 in
set_option maxHeartbeats 2000000 in
theorem restore_held (s : Sv w v p σ h ρ t l last) {i : Nat} {n : Int} {mark : Nat} (hi : l[i]? = some (n, (mark : Int))) (hp : placeOf l n = i) (x : Bool) (ac : Int) (nm : ByteArray) (rf fr ln : Int)
    (hback : ∀ (W : World) (h' : Hd) (ρ' : Roles), Sto W p σ h' ρ' → Calls Try.prog 71 #[.pointer (some ⟨p, 0, none⟩), .int .i64 mark] W fun e w' => e = .returned (.int .i64 0) ∧ StoTo W w' p ρ' σ')
    {A : Option Addr} {hn hcp : Nat} {hs : List Sl} {L : List (List Ob)} (hL : Lists w A hn hs L) (hnb : hn ≤ 4294967296) (m : Szs) (h1 : 1 ≤ mark) (hm : σ.marks[mark - 1]? = some m) (hold : ∀ k ∈ L, ∀ o ∈ k, σ.elder m o = true) :
    Calls Try.prog 21 #[.pointer (some ⟨v, 0, none⟩), .agg #[.int .i64 10, .bool x, .int .i64 ac, .int .i64 n, .string nm, .int .i64 rf, .int .i64 fr, .int .i64 ln], .slice A hn hcp] w fun e w' =>
      e = .returned (.int .i64 0) ∧ SvTo w w' v p (svOwn v t ρ) σ' (l.take i) last := by
  obtain ⟨iL, hiL, -⟩ := info_parts info_state
  have hil := (List.getElem?_eq_some_iff.1 hi).1
  have hBk := Lib.hid hback
  have hHi := Lib.hid hi
  have hHp := Lib.hid hp
  have htn := s.sav.n
  have hlb : i < t.n := by rw [htn]; exact hil
  have hHl := Lib.hid hil
  have hHt := Lib.hid htn
  have hcap := s.sav.row.cap_le
  simp only [maxLen] at hcap
  have hHL := Lib.hid hL
  have hHm := Lib.hid hm
  have hHo := Lib.hid hold
  clear hback hi hp hil htn hL hm hold
  go_enter Try.func21, Try.ntmps21
  go_upto_region 1 with fail
  generalize hX : World.alloc (World.alloc w _) _ = X
  have hB3 := (Blk.new w 37 [.pointer (some ⟨v, 0, none⟩)]).alloc (.cells #[.int .i64 10, .bool x, .int .i64 ac, .int .i64 n, .string nm, .int .i64 rf, .int .i64 fr, .int .i64 ln] 27)
  have hB4 := Blk.new1 w (.cells #[.pointer (some ⟨v, 0, none⟩)] 37) 27 [.int .i64 10, .bool x, .int .i64 ac, .int .i64 n, .string nm, .int .i64 rf, .int .i64 fr, .int .i64 ln]
  have hx : Ext w X := by rw [← hX]; exact ((Ext.rfl_ w).alloc_ _).alloc_ _
  rw [hX] at hB3 hB4
  clear hX
  have hc3 := hB3.cell
  have hc4 := hB4.cell
  have s1 := s.ext hx
  go_upto_region 2 with (go_at_call 67; refine (at_save s1.sav 10 x ac n nm rf fr ln rfl).mono ?_; rintro e w1 ⟨rfl, hx1⟩)
  rw [hHp.out]
  have s2 := s1.ext hx1
  have hC3 := hB3.ext hx1
  have hC4 := hB4.ext hx1
  have hc3' := hC3.cell
  have hc4' := hC4.cell
  clear hc3 hc4
  obtain ⟨g, hga, hgb⟩ := s2.sav.row.pos (show 0 < t.n by omega)
  have c1 : w1.cell? ⟨g, i * 2 + 1, none⟩ = some (.int .i64 mark) := by
    have := s2.sav.row.item length_sv hga hHi.out (show 1 < 2 by omega)
    simpa [svCells] using this
  have hmain := s2.sav.blk
  rw [hga] at hmain
  have hcv := hmain.cell
  go_wp2_with (go_at_call 65; refine (none_c s2.sav).mono ?_; rintro e w2 ⟨rfl, rfl⟩)
  generalize hY : World.alloc w1 _ = Y
  obtain ⟨hy, hcY, hfY, hzY, hbY⟩ := boxed hY
  clear hY hcY hfY hcv hmain c1 hc3' hc4' hga hgb
  have s3 := s2.ext hy
  have hD3 := hC3.ext hy
  go_loopg [34] hn (fun gk s34 wr => ∃ q : Nat, q ≤ hn ∧ gk = hn - q ∧ s34 = .int .i64 q ∧ Ext Y wr)
  case atStart => exact ⟨0, Nat.zero_le _, rfl, rfl, Ext.rfl_ _⟩
  case round =>
    obtain ⟨q, hq, hgk, hs34, hxr⟩ := hrel
    subst hs34
    by_cases hlt : q < hn
    · obtain ⟨sl, hsl⟩ : ∃ sl, hs[q]? = some sl := ⟨_, List.getElem?_eq_getElem (by rw [hHL.out.n_]; exact hlt)⟩
      obtain ⟨k, hk⟩ : ∃ k, L[q]? = some k := ⟨_, List.getElem?_eq_getElem (by rw [← hHL.out.len, hHL.out.n_]; exact hlt)⟩
      obtain ⟨hvw, hslb⟩ := hHL.out.at_ q sl k hsl hk
      obtain ⟨gL, oL, hA, hgL, hjL⟩ := hHL.out.view.2 (by simp only [slVals, List.length_map, hHL.out.n_]; omega)
      have hxw := ((hx.trans_ hx1).trans_ hy).trans_ hxr
      have hcq : wr.cell? ⟨gL, oL + q, none⟩ = some (.slice sl.a sl.n sl.c) := ((hxw).cells hgL _).trans (hjL q _ (by simp only [slVals, List.getElem?_map, hsl, Option.map_some]))
      have hEl := Lib.hid (hHo.out k (List.mem_of_getElem? hk))
      have sR := s3.ext hxr
      have hc := contains_held (w := wr) (tn := sl.n) (tc := sl.c) (l := k) (f := fun o => !σ.elder m o) (q := false) (hvw.ext hxw) hslb (fun W hW o _ => restore1_c (sR.ext hW) ((hD3.ext hxr).ext hW) mark ((hbY.ext hxr).ext hW) m h1 hHm.out o.k o.x o.ac o.n o.nm o.rf o.fr o.ln rfl) (by
        rw [List.any_eq_false]
        intro o ho
        rw [hEl.out o ho]
        simp)
      have hC := Lib.hid hc
      have hmf : ∀ (fn : Fn) (first cap : Array Value) (w : World), (Instr.makeFunc fn first cap).run Try.prog w = .ok (.func fn first cap) w := fun _ _ _ _ => rfl
      subst hA
      clear hsl hk hc hjL
      go_wp2_with (go_at_call 68; refine hC.out.mono ?_; rintro e w5 ⟨rfl, hx5⟩)
      go_roundg (hn - (q + 1))
      case measure => omega
      case rel => exact ⟨q + 1, by omega, rfl, by simp, hxr.trans_ hx5⟩
    · clear hHL hHm hHo
      have s3' := s3.ext hxr
      have hD3' := hD3.ext hxr
      have hbY' := hbY.ext hxr
      have hcv := s3'.sav.blk.cell
      have hc3 := hD3'.cell
      have hcm := hbY'.cell
      have hvl := s3'.sav.blk.lt
      have hl3 := hD3'.lt
      have f3 := fun (E : ExtOf wr) j => (E.cells hl3 j).trans (hc3 j)
      have fv := fun (E : ExtOf wr) j => (E.cells hvl j).trans (hcv j)
      have fz := fun (E : ExtOf wr) => (s3'.sav.blk.ext E.h).frozen
      have kC := run_cut s3'.sav.row Try.underlying126 ⟨iL, hiL⟩ (m := i) (by omega)
      go_upto_region 15 with fail
      clear hcv hc3 hcm
      refine wp_region_ext_tail 9 (by kernel_rfl) (by kernel_rfl) ?_
      simp only [List.take_succ_cons, List.take_zero, List.drop_succ_cons, List.drop_zero]
      repeat (go_big_quiet_step (fail))
      refine wpQuiet_nil fun E => ?_
      have kf := fz E
      have kc := fv E
      go_upto_region 16 with fail
      have hvw : v < w.heap.size := s.sav.blk.lt
      have hww := (hx.trans_ hx1).size
      have hV := (s3'.sav.blk.ext E.h).set_ 1 (.slice t.a i t.c)
      have hR := ((s3'.sav.row.ext E.h).cut (m := i) (by omega)).far (p := ⟨v, 1, none⟩) (fun hb => s.vt hb) (.slice t.a i t.c)
      have hS := (s3'.sto.ext E.h).only ((Only.refl_ E.w v).set_ 1 (.slice t.a i t.c)) s.nv
      have hE3 := (hD3'.ext E.h).far (p := ⟨v, 1, none⟩) (by show w.heap.size ≠ v; omega) (.slice t.a i t.c)
      have hEm := (hbY'.ext E.h).far (p := ⟨v, 1, none⟩) (by show w1.heap.size ≠ v; omega) (.slice t.a i t.c)
      have hm1 : Moves w (E.w.setCell ⟨v, 1, none⟩ (.slice t.a i t.c)) (svOwn v t ρ) (svOwn v t ρ) := Moves.ext_left ((((hx.trans_ hx1).trans_ hy).trans_ hxr).trans_ E.h) (Moves.set_ (.inr (.inl rfl)) _)
      clear f3 fv fz kf kc kC
      generalize E.w.setCell ⟨v, 1, none⟩ (.slice t.a i t.c) = Z at hV hR hS hE3 hEm hm1
      have g3 := fun (E : ExtOf Z) j => (E.cells hE3.lt j).trans (hE3.cell j)
      have gv := fun (E : ExtOf Z) j => (E.cells hV.lt j).trans (hV.cell j)
      have gm := fun (E : ExtOf Z) j => (E.cells hEm.lt j).trans (hEm.cell j)
      refine wp_region_ext_tail 5 (by kernel_rfl) (by kernel_rfl) ?_
      simp only [List.take_succ_cons, List.take_zero, List.drop_succ_cons, List.drop_zero]
      repeat (go_big_quiet_step (fail))
      refine wpQuiet_nil fun E2 => ?_
      go_wp2_with (go_at_call 71; refine (hBk.out _ _ _ (hS.ext E2.h)).mono ?_; rintro e w3 ⟨rfl, h3, ρ3, s4, hm4⟩)
      go_ret
      refine ⟨rfl, h3, ρ3, ⟨t.a, i, t.c⟩, ⟨s4, ⟨?_, ?_⟩, ?_, ?_, s.vt⟩, ?_⟩
      · exact (hV.ext E2.h).moves hm4 (Roles.not_own s.nv)
      · have := (hR.ext E2.h).moves hm4 (fun g hg => Roles.not_own (s.nt g hg))
        rw [take_flat _ 2 length_sv] at this
        exact this
      · exact Roles.none_of (hm4.apart (Roles.not_own s.nv) (hV.ext E2.h).lt)
      · intro g hg
        exact Roles.none_of (hm4.apart (Roles.not_own (s.nt g hg)) ((hR.ext E2.h).blk_lt hg))
      · have m1 : Moves Z w3 (svOwn v t ρ) (svOwn v ⟨t.a, i, t.c⟩ ρ3) := (Moves.ext_left E2.h hm4).frame (fun b hb => .inl hb) (fun b hb => by
          rcases hb with hb | hb | hb
          · exact .inl hb
          · exact .inr (.inl (.inr (.inl hb)))
          · exact .inr (.inl (.inr (.inr hb))))
        exact hm1.trans_ m1
end
end Go.Proofs.Ythhckledkhcfeaa
