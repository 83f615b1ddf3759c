/- The saves: Elder; what is held, held against a mark. -/
import Derived.Test.YthhckledkhcfeaaSvE
import Derived.Test.YthhckledkhcfeaaStJ
namespace Go.Proofs.Ythhckledkhcfeaa
open Go.RowKit
/-- Was it there when there was so much of all? -/
def St.elder (σ : St) (m : Szs) (o : Ob) : Bool :=
  σ.valid o && (if o.k = 6 then decide (o.rf < m.texts) else if o.k = 7 then decide (o.rf < m.lists) else if o.k = 8 then decide (o.rf < m.dicts) else true)
section
variable {w : World} {p : Nat} {σ : St} {h : Hd} {ρ : Roles}
set_option maxHeartbeats 800000 in
theorem elder_c (s : Sto w p σ h ρ) (mark : Nat) (m : Szs) (h1 : 1 ≤ mark) (hm : σ.marks[mark - 1]? = some m) (k : Int) (x : Bool) (ac n : Int) (nm : ByteArray) (rf fr ln : Int) {q : Bool} (hq : σ.elder m ⟨k, x, ac, n, nm, rf, fr, ln⟩ = q) :
    Calls Try.prog 70 #[.pointer (some ⟨p, 0, none⟩), .agg #[.int .i64 k, .bool x, .int .i64 ac, .int .i64 n, .string nm, .int .i64 rf, .int .i64 fr, .int .i64 ln], .int .i64 mark] w fun e w' => e = .returned (.bool q) ∧ Ext w w' := by
  have hml : mark ≤ σ.marks.length := by have := (List.getElem?_eq_some_iff.1 hm).1; omega
  have hd : decide (1 ≤ (mark : Int) ∧ (mark : Int) ≤ σ.marks.length) = true := by rw [decide_eq_true_eq]; omega
  have hD := Lib.hid hd
  have hmk := s.ok.nmark
  have hmn : mark ≤ h.marks.n := by rw [s.nmarks]; exact hml
  have hmn2 : h.marks.n ≤ 4294967296 := by rw [s.nmarks]; exact hmk
  obtain ⟨g, hga, hgb⟩ := s.marks.pos (show 0 < h.marks.n by omega)
  have hHm := Lib.hid hm
  clear hd hml hmk hm
  cases hv : σ.valid ⟨k, x, ac, n, nm, rf, fr, ln⟩ with
  | false =>
    have hq0 : q = false := by rw [← hq]; unfold St.elder; rw [hv]; rfl
    subst hq0
    have hV := Lib.hid hv
    clear hv hq
    go_enter Try.func70, Try.ntmps70
    go_upto_region 1 with fail
    generalize hX : World.alloc w _ = X
    obtain ⟨hx, hcX, hfX, hzX, hbX⟩ := boxed hX
    clear hX
    go_wp2_with (first
      | (go_at_call 104; refine (marked_c (s.ext hx) hD.out).mono ?_; rintro e w1 ⟨rfl, rfl⟩)
      | (go_at_call 46; refine (valid_b (b := false) (s.ext hx) _ _ _ _ _ _ _ _ hV.out).mono ?_; rintro e w1 ⟨rfl, hx1⟩))
    go_ret
    exact ⟨rfl, hx.trans_ hx1⟩
  | true =>
    have hV := Lib.hid hv
    have hq1 : (if k = 6 then decide (rf < m.texts) else if k = 7 then decide (rf < m.lists) else if k = 8 then decide (rf < m.dicts) else true) = q := by rw [← hq]; unfold St.elder; rw [hv]; rfl
    have hHq := Lib.hid hq1
    clear hv hq hq1
    go_enter Try.func70, Try.ntmps70
    go_upto_region 1 with fail
    generalize hX : World.alloc w _ = X
    obtain ⟨hx, hcX, hfX, hzX, hbX⟩ := boxed hX
    clear hX hfX
    go_upto_region 3 with (first
      | (go_at_call 104; refine (marked_c (s.ext hx) hD.out).mono ?_; rintro e w1 ⟨rfl, rfl⟩)
      | (go_at_call 46; refine (valid_b (b := true) (s.ext hx) _ _ _ _ _ _ _ _ hV.out).mono ?_; rintro e w1 ⟨rfl, hx1⟩))
    clear hcX
    have s1 := s.ext (hx.trans_ hx1)
    have hmain := s1.main
    rw [hga] at hmain
    have hc := hmain.cell
    have qq := fun j hj => s1.marks.item (j := j) length_szs hga hHm.out hj
    have q0 := qq 0 (by omega)
    have q1 := qq 1 (by omega)
    have q2 := qq 2 (by omega)
    have q3 := qq 3 (by omega)
    have q4 := qq 4 (by omega)
    simp only [Szs.cells, Nat.add_zero] at q0 q1 q2 q3 q4
    clear qq
    go_upto_region 4 with fail
    have hB := (hbX.ext hx1)
    generalize hY : World.alloc w1 _ = Y
    obtain ⟨hy, hcY, hfY, hzY, hbY⟩ := boxed hY
    clear hY hfY q0 q1 q2 q3 q4 hc
    have hc := (hB.ext hy).cell
    have hxx := (hx.trans_ hx1).trans_ hy
    by_cases k6 : k = 6
    · subst k6
      have e : decide (rf < m.texts) = q := by have := hHq.out; rw [if_pos rfl] at this; exact this
      subst e
      go_wp2
      go_ret
      exact ⟨rfl, hxx⟩
    · by_cases k7 : k = 7
      · subst k7
        have e : decide (rf < m.lists) = q := by have := hHq.out; rw [if_neg (by omega), if_pos rfl] at this; exact this
        subst e
        clear k6
        go_wp2
        go_ret
        exact ⟨rfl, hxx⟩
      · by_cases k8 : k = 8
        · subst k8
          have e : decide (rf < m.dicts) = q := by have := hHq.out; rw [if_neg (by omega), if_neg (by omega), if_pos rfl] at this; exact this
          subst e
          clear k6 k7
          go_wp2
          go_ret
          exact ⟨rfl, hxx⟩
        · have e : true = q := by have := hHq.out; rw [if_neg k6, if_neg k7, if_neg k8] at this; exact this
          subst e
          have b6 : (k == 6) = false := by simpa using k6
          have b7 : (k == 7) = false := by simpa using k7
          have b8 : (k == 8) = false := by simpa using k8
          clear k6 k7 k8
          go_wp2
          go_ret
          exact ⟨rfl, hxx⟩
end
section
variable {w : World} {v p : Nat} {σ : St} {h : Hd} {ρ : Roles} {t : Sl} {l : List (Int × Int)} {last : Int}
/-- The closure of Restore: is a held thing younger than the mark? -/
theorem restore1_c (s : Sv w v p σ h ρ t l last) {b3 b8 : Nat} (hb3 : Blk w b3 37 [.pointer (some ⟨v, 0, none⟩)]) (mark : Nat) (hb8 : Blk w b8 3 [.int .i64 mark]) (m : Szs) (h1 : 1 ≤ mark) (hm : σ.marks[mark - 1]? = some m)
    (k : Int) (x : Bool) (ac n : Int) (nm : ByteArray) (rf fr ln : Int) {q : Bool} (hq : σ.elder m ⟨k, x, ac, n, nm, rf, fr, ln⟩ = q) :
    Calls Try.prog 69 #[.agg #[.int .i64 k, .bool x, .int .i64 ac, .int .i64 n, .string nm, .int .i64 rf, .int .i64 fr, .int .i64 ln], .pointer (some ⟨b3, 0, none⟩), .pointer (some ⟨b8, 0, none⟩)] w fun e w' => e = .returned (.bool !q) ∧ Ext w w' := by
  have hHm := Lib.hid hm
  have hHq := Lib.hid hq
  clear hm hq
  go_enter Try.func69, Try.ntmps69
  go_upto_region 1 with fail
  generalize hX : World.alloc w _ = X
  obtain ⟨hx, hcX, hfX, hzX, hbX⟩ := boxed hX
  clear hX hfX hcX
  have s1 := s.ext hx
  have f3 := fun (E : ExtOf X) i => (E.cells (hb3.ext hx).lt i).trans ((hb3.ext hx).cell i)
  have f8 := fun (E : ExtOf X) i => (E.cells (hb8.ext hx).lt i).trans ((hb8.ext hx).cell i)
  have fX := fun (E : ExtOf X) i => (E.cells hbX.lt i).trans (hbX.cell i)
  have fv := fun (E : ExtOf X) i => (E.cells s1.sav.blk.lt i).trans (s1.sav.blk.cell i)
  refine wp_region_ext (by kernel_rfl) (by kernel_rfl) ?_
  repeat (go_big_quiet_step ((go_at_call 70; exact quiet_ext (elder_c (s1.sto.ext (ExtOf.h _)) mark m h1 hHm.out _ _ _ _ _ _ _ _ hHq.out))))
  refine wpQuiet_nil fun E => ?_
  go_wp2
  go_ret
  exact ⟨rfl, hx.trans_ E.h⟩
theorem index_held {w : World} {A : Option Addr} {tn tc : Nat} {l : List Ob} {c1 c2 : Value} {f : Ob → Bool} (hv : View w 8 A tn (obCells l)) (hcap : tn ≤ 4294967296)
    (hcl : ∀ W, Ext w W → ∀ o ∈ l, Calls Try.prog 69 #[.agg o.cells.toArray, c1, c2] W fun e w' => e = .returned (.bool (f o)) ∧ Ext W w') :
    Calls Try.prog 103 #[.slice A tn tc, .func (.func 69) #[] #[c1, c2]] w fun e w' => e = .returned (.int .i64 (idxOf f l)) ∧ Ext w w' := by
  have hn : l.length = tn := by have := hv.1; rw [length_obCells] at this; omega
  have hHn := Lib.hid hn
  have hCl := Lib.hid hcl
  have hHv := Lib.hid hv
  clear hn hcl hv
  go_enter Try.func103, Try.ntmps103
  go_wp2_with fail
  go_loopg [8] tn (fun k8 s8 wr => ∃ i : Nat, i ≤ tn ∧ k8 = tn - i ∧ s8 = .int .i64 i ∧ (∀ (q : Nat) (u : Ob), q < i → l[q]? = some u → f u = false) ∧ Ext w wr)
  case atStart => exact ⟨0, by omega, by omega, rfl, (by intro q u hq; omega), Ext.rfl_ w⟩
  case round =>
    obtain ⟨i, hi, hk, hs8, hno, hx⟩ := hrel
    subst hs8
    have hNo := Lib.hid hno
    clear hno
    by_cases hlt : i < tn
    · obtain ⟨u, hu⟩ : ∃ u, l[i]? = some u := ⟨_, List.getElem?_eq_getElem (by have := hHn.out; omega)⟩
      have hHu := Lib.hid hu
      obtain ⟨g, o, ha, hg, hj⟩ := hHv.out.2 (by rw [length_obCells]; have := hHn.out; omega)
      subst ha
      have hHc := Lib.hid (hCl.out wr hx u (List.mem_of_getElem? hu))
      have hcells : ∀ q v, u.cells[q]? = some v → wr.cell? ⟨g, o + i * 8 + q, none⟩ = some v := fun q v hv => (hx.cells hg _).trans (by
        have hq8 : q < 8 := by have := (List.getElem?_eq_some_iff.1 hv).1; rw [Ob.cells_len] at this; exact this
        rw [Nat.add_assoc]
        exact hj _ _ ((getElem?_flat Ob.cells 8 Ob.cells_len l i u q hHu.out hq8).trans hv))
      clear hu hj
      cases hq : f u with
      | true =>
        rw [hq] at hHc
        have hQ := Lib.hid hq
        clear hq
        go_wp2_with (first
          | (go_at_call 69; refine hHc.out.mono ?_; rintro e w1 ⟨rfl, hx1⟩)
          | (refine wpList_load_at (ty := 27) (cs := u.cells) (by rfl) _ (by rfl) (by rfl) hcells Try.underlying27 (by kernel_rfl) ?_))
        go_ret
        exact ⟨by rw [idxOf_some hHu.out hQ.out hNo.out]; rfl, hx.trans_ hx1⟩
      | false =>
        rw [hq] at hHc
        have hQ := Lib.hid hq
        clear hq
        go_wp2_with (first
          | (go_at_call 69; refine hHc.out.mono ?_; rintro e w1 ⟨rfl, hx1⟩)
          | (refine wpList_load_at (ty := 27) (cs := u.cells) (by rfl) _ (by rfl) (by rfl) hcells Try.underlying27 (by kernel_rfl) ?_))
        go_roundg (tn - (i + 1))
        case measure => omega
        case rel =>
          refine ⟨i + 1, by omega, rfl, by simp, ?_, hx.trans_ hx1⟩
          intro q u' hq' hu'
          rcases Nat.lt_or_ge q i with h1 | h1
          · exact hNo.out q u' h1 hu'
          · obtain rfl : q = i := by omega
            rw [hHu.out] at hu'
            injection hu' with hu'
            subst hu'
            exact hQ.out
    · go_wp2_with fail
      go_ret
      refine ⟨?_, hx⟩
      rw [idxOf_none]
      · rfl
      intro q u hu
      exact hNo.out q u (by have := (List.getElem?_eq_some_iff.1 hu).1; have := hHn.out; omega) hu
theorem contains_held {w : World} {A : Option Addr} {tn tc : Nat} {l : List Ob} {c1 c2 : Value} {f : Ob → Bool} {q : Bool} (hv : View w 8 A tn (obCells l)) (hcap : tn ≤ 4294967296)
    (hcl : ∀ W, Ext w W → ∀ o ∈ l, Calls Try.prog 69 #[.agg o.cells.toArray, c1, c2] W fun e w' => e = .returned (.bool (f o)) ∧ Ext W w') (hq : l.any f = q) :
    Calls Try.prog 68 #[.slice A tn tc, .func (.func 69) #[] #[c1, c2]] w fun e w' => e = .returned (.bool q) ∧ Ext w w' := by
  have hd : decide (0 ≤ idxOf f l) = q := by
    rw [← hq]
    rcases idxOf_cases f l with ⟨h1, h2⟩ | ⟨i, u, h1, h2, h3⟩
    · rw [h1]
      symm
      simpa using h2
    · rw [h1]
      have : l.any f = true := List.any_eq_true.2 ⟨u, List.mem_of_getElem? h2, h3⟩
      rw [this]
      simp
  subst hd
  have hCl := Lib.hid hcl
  clear hcl hq
  go_enter Try.func68, Try.ntmps68
  go_wp2_with (go_at_call 103; refine (index_held (f := f) hv hcap hCl.out).mono ?_; rintro e w1 ⟨rfl, hx1⟩)
  go_ret
  exact ⟨rfl, hx1⟩
end
end Go.Proofs.Ythhckledkhcfeaa
