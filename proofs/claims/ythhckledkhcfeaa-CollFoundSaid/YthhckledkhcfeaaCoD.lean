/- The operators on collections: every, length, run, the deferred closure. -/
import Derived.Test.YthhckledkhcfeaaCoC
import Derived.WideLaws
namespace Go.Proofs.Ythhckledkhcfeaa
open Go.RowKit
section
variable {w w' : World} {c p : Nat} {t : Sl} {l : List Ob} {σ : St} {h : Hd} {ρ : Roles}
theorem every_ok (s : Sto w p σ h ρ) {A : Option Addr} {n cc : Nat} (hv : View w 8 A n (obCells l)) (hnb : n ≤ 4294967296) (hr : ∀ o ∈ l, σ.valid o = true) :
    Calls Try.prog 96 #[.slice A n cc, .func (.func 46) #[.pointer (some ⟨p, 0, none⟩)] #[]] w fun e w' => e = .returned (.bool true) ∧ Ext w w' := by
  have hn : l.length = n := by have := hv.1; rw [length_obCells] at this; omega
  have hN := Lib.hid hn
  have hR := Lib.hid hr
  have hV := Lib.hid hv
  clear hn hr hv
  go_enter Try.func96, Try.ntmps96
  go_wp2_with fail
  go_loopg [9] n (fun gk s9 wr => ∃ i : Nat, i ≤ n ∧ gk = n - i ∧ s9 = .int .i64 i ∧ Ext w wr)
  case atStart => exact ⟨0, Nat.zero_le _, rfl, rfl, Ext.rfl_ _⟩
  case round =>
    obtain ⟨i, hi, hgk, hs9, hx⟩ := hrel
    subst hs9
    by_cases hlt : i < n
    · obtain ⟨⟨k, x, ac, nn, nm, rf, fr, ln⟩, ho⟩ : ∃ o, l[i]? = some o := ⟨_, List.getElem?_eq_getElem (by have := hN.out; omega)⟩
      obtain ⟨g, o, hA, hg, hj⟩ := hV.out.2 (by rw [length_obCells, hN.out]; omega)
      subst hA
      have hvl := Lib.hid (hR.out _ (List.mem_of_getElem? ho))
      have hcells : ∀ q v, [Value.int .i64 k, .bool x, .int .i64 ac, .int .i64 nn, .string nm, .int .i64 rf, .int .i64 fr, .int .i64 ln][q]? = some v → wr.cell? ⟨g, o + i * 8 + q, none⟩ = some v := fun q v hv => (hx.cells hg _).trans (by
        have hq8 : q < 8 := by have := (List.getElem?_eq_some_iff.1 hv).1; exact this
        rw [Nat.add_assoc]
        exact hj _ _ ((getElem?_flat Ob.cells 8 Ob.cells_len l i _ q ho hq8).trans hv))
      clear ho hj
      go_wp2_with (first
        | (go_at_call 46; refine (valid_b (b := true) (s.ext (hx.alloc_ _)) k x ac nn nm rf fr ln hvl.out).mono ?_; rintro e w1 ⟨rfl, hx1⟩)
        | (refine wpList_load_at (ty := 27) (cs := [Value.int .i64 k, .bool x, .int .i64 ac, .int .i64 nn, .string nm, .int .i64 rf, .int .i64 fr, .int .i64 ln]) (by rfl) _ (by rfl) (by rfl) hcells Try.underlying27 (by kernel_rfl) ?_))
      go_roundg (n - (i + 1))
      case measure => omega
      case rel => exact ⟨i + 1, by omega, rfl, by simp, (hx.alloc_ _).trans_ hx1⟩
    · go_wp2_with fail
      go_ret
      exact ⟨rfl, hx⟩
/-- The operator length, of a string. -/
theorem length_str (x : Bool) (n : Int) (nm : ByteArray) (rf fr ln : Int) (sc : Cal w c p t [⟨6, x, 0, n, nm, rf, fr, ln⟩]) :
    Calls Try.prog 126 #[.pointer (some ⟨c, 0, none⟩)] w fun e w' => ∃ v : Sl, e = .returned (.slice v.a v.n v.c) ∧ Fresh w w' 27 8 v (obCells [⟨1, false, 0, ln, ByteArray.empty, 0, 0, 0⟩]) := by
  have htn : t.n = 1 := sc.n
  obtain ⟨g, hga, hgb⟩ := sc.row.pos (show 0 < t.n by omega)
  have hcap := sc.row.cap_le
  simp only [maxLen] at hcap
  have hblk := sc.blk
  rw [hga, htn] at hblk
  obtain ⟨a0, a1, a2, a3, a4, a5, a6, a7⟩ := sc.row.ob (off := 0) (q := 0) hga rfl rfl
  have hcb := hblk.cell
  simp only [Nat.zero_add] at a1 a2 a3 a4 a5 a6 a7
  clear hga htn
  go_enter Try.func126, Try.ntmps126
  go_upto_region 2 with fail
  generalize hX : World.alloc w _ = X
  obtain ⟨hx, hcX, hfX, hzX, hbX⟩ := boxed hX
  clear hX hfX a0 a1 a2 a3 a4 a5 a6 a7 hcb
  have hrv : View (X.alloc (.cells #[.int .i64 6, .bool x, .int .i64 0, .int .i64 n, .string nm, .int .i64 rf, .int .i64 fr, .int .i64 ln] 27)) 8 (some ⟨X.heap.size, 0, none⟩) 1 (obCells [⟨6, x, 0, n, nm, rf, fr, ln⟩]) :=
    View.of_blk (n := 1) (Blk.new X 27 [.int .i64 6, .bool x, .int .i64 0, .int .i64 n, .string nm, .int .i64 rf, .int .i64 fr, .int .i64 ln]) rfl
  have hRv := Lib.hid hrv
  clear hrv
  go_wp2_with (first
    | (go_at_call 149
       refine (read_ok hRv.out (by omega) ?_ _).mono ?_
       · intro o ho
         simp only [List.mem_cons, List.mem_nil_iff, or_false] at ho
         subst ho
         exact ⟨rfl, .inl rfl⟩
       rintro e w3 ⟨rfl, hx3⟩)
    | (go_at_call 147; refine (whole_c ln _).mono ?_; rintro e w4 ⟨rfl, hx4⟩))
  have hxx : Ext w w4 := ((hx.alloc_ _).trans_ hx3).trans_ hx4
  go_ret
  refine ⟨⟨some ⟨w4.heap.size, 0, none⟩, 1, 1⟩, rfl, Row.lit (n := 1) (Blk.new w4 27 _) rfl (by simp only [maxLen]; omega), fun g hg => ?_, hxx.alloc_ _⟩
  simp [Sl.blk] at hg
  have := hxx.size
  omega
theorem run_pi (w : World) (R : Ending → World → Prop) (h : Calls Try.prog 132 #[.pointer (some ⟨c, 0, none⟩)] w R)
    (hR : ∀ e w', R e w' → (∃ A n cc, e = .returned (.slice A n cc)) ∨ ∃ ch, e = .panicked ch) :
    Calls Try.prog 98 #[.pointer (some ⟨c, 0, none⟩), .string nmPI] w R := by
  have hH := Lib.hid h
  have hHR := Lib.hid hR
  clear h hR
  go_enter Try.func98, Try.ntmps98
  go_wp2_with (
    go_at_call 132
    refine hH.out.mono ?_
    intro e w1 he
    have hHe := Lib.hid he
    rcases hHR.out e w1 he with ⟨A, n, cc, rfl⟩ | ⟨ch, rfl⟩
    clear he)
  · exact hHe.out
  · exact ⟨rfl, hHe.out⟩
theorem run_le (w : World) (R : Ending → World → Prop) (h : Calls Try.prog 126 #[.pointer (some ⟨c, 0, none⟩)] w R)
    (hR : ∀ e w', R e w' → ∃ A n cc, e = .returned (.slice A n cc)) :
    Calls Try.prog 98 #[.pointer (some ⟨c, 0, none⟩), .string nmLE] w R := by
  have hH := Lib.hid h
  have hHR := Lib.hid hR
  clear h hR
  go_enter Try.func98, Try.ntmps98
  go_wp2_with (
    go_at_call 126
    refine hH.out.mono ?_
    intro e w1 he
    have hHe := Lib.hid he
    obtain ⟨A, n, cc, rfl⟩ := hHR.out e w1 he
    clear he)
  exact hHe.out
theorem known_pi (w : World) : Calls Try.prog 95 #[.string nmPI] w fun e w' => e = .returned (.tuple #[.int .i64 3, .bool true]) ∧ w = w' := by
  go_enter Try.func95, Try.ntmps95
  go_wp2
  go_ret2
  exact ⟨rfl, rfl⟩
theorem known_le (w : World) : Calls Try.prog 95 #[.string nmLE] w fun e w' => e = .returned (.tuple #[.int .i64 1, .bool true]) ∧ w = w' := by
  go_enter Try.func95, Try.ntmps95
  go_wp2
  go_ret2
  exact ⟨rfl, rfl⟩
theorem catch_idle (p q : Addr) (w : World) :
    CallsD Try.prog 97 #[.pointer (some p), .pointer (some q)] .returning w fun e u' w' => e = .returned (.tuple #[]) ∧ u' = .returning ∧ w' = w := by
  refine callsD_of_wpS Try.func97 rfl fun c₀ cs hu => ?_
  apply wpS_seq
  apply wpS_region
  simp [wpOpsS, go_sem, recoverD, hu, Try.ntmps97, Exit.thenS]
  apply wpS_seq
  apply wpS_region
  simp [wpOpsS, go_sem, Exit.thenS]
  refine wpS_cond (t := false) (by simp [Act.eval, Array.replicate]) ?_
  simp only [Bool.false_eq_true, if_false]
  refine wpS_of_wp (wp_skip ?_)
  cases c₀
  simp_all [bodyPostS, results, Try.results97]
set_option maxRecDepth 100000 in
theorem catch_panicking (p q : Nat) (c0 c1 : Value) (n : Int) (older : List PanicEntry) (w : World) (hp : w.cell? ⟨p, 0, none⟩ = some c0) (hq : w.cell? ⟨q, 0, none⟩ = some c1) (hpf : w.frozen? ⟨p, 0, none⟩ = false) (hqf : w.frozen? ⟨q, 0, none⟩ = false) (hpq : ¬ q = p) :
    CallsD Try.prog 97 #[.pointer (some ⟨p, 0, none⟩), .pointer (some ⟨q, 0, none⟩)] (.panicking ({ v := .iface 23 (.int .i64 n), recovered := false } :: older)) w fun e u' w' =>
      e = .returned (.tuple #[]) ∧ u' = .panicking ({ v := .iface 23 (.int .i64 n), recovered := true } :: older) ∧ w' = (w.setCell ⟨p, 0, none⟩ (.slice none 0 0)).setCell ⟨q, 0, none⟩ (.int .i64 n) := by
  have hta : ∀ w, (Instr.typeAssert (.iface 23 (.int .i64 n)) 20 23 true).run Try.prog w = .ok (.tuple #[.int .i64 n, .bool true]) w := fun w => by kernel_rfl
  refine callsD_of_wpS Try.func97 rfl fun c₀ cs hu => ?_
  apply wpS_seq
  apply wpS_region
  simp [wpOpsS, go_sem, recoverD, hu, Try.ntmps97, Exit.thenS]
  apply wpS_seq
  apply wpS_region
  simp [wpOpsS, go_sem, Exit.thenS]
  refine wpS_cond (t := true) (by simp [Act.eval, Array.replicate]) ?_
  simp only [if_true]
  apply wpS_seq
  apply wpS_region
  simp [wpOpsS, go_sem, Exit.thenS, hta]
  apply wpS_seq
  apply wpS_seq
  apply wpS_region
  simp [wpOpsS, go_sem, Exit.thenS]
  refine wpS_cond (t := false) (by simp [Act.eval, Array.replicate]) ?_
  simp only [Bool.false_eq_true, if_false]
  refine wpS_of_wp (wp_skip ?_)
  simp only [Exit.thenS]
  apply wpS_region
  simp [wpOpsS, go_sem, hp, hq, hpf, hqf, hpq, bodyPostS, results, Try.results97]
end
end Go.Proofs.Ythhckledkhcfeaa
