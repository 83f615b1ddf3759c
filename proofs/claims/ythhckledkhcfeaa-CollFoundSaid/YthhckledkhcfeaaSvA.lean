/- The saves: how they lie in memory; the place of a save. -/
import Derived.Test.YthhckledkhcfeaaMk
import Derived.Deep.LoopGhost
namespace Go.Proofs.Ythhckledkhcfeaa
open Go.RowKit
def svCells (s : Int × Int) : List Value := [.int .i64 s.1, .int .i64 s.2]
theorem length_sv (s : Int × Int) : (svCells s).length = 2 := rfl
/-- At block v lie the saves l, of the store at p. -/
structure Sav (w : World) (v p : Nat) (t : Sl) (l : List (Int × Int)) (last : Int) : Prop where
  blk : Blk w v 128 [.pointer (some ⟨p, 0, none⟩), .slice t.a t.n t.c, .int .i64 last]
  row : Row w 130 2 t (l.flatMap svCells)
theorem Sav.n {w : World} {v p : Nat} {t : Sl} {l : List (Int × Int)} {last : Int} (s : Sav w v p t l last) : t.n = l.length := by have h1 := s.row.len; rw [length_flat _ 2 length_sv] at h1; omega
theorem Sav.ext {w w' : World} {v p : Nat} {t : Sl} {l : List (Int × Int)} {last : Int} (s : Sav w v p t l last) (hx : Ext w w') : Sav w' v p t l last := ⟨s.blk.ext hx, s.row.ext hx⟩
section
variable {w : World} {v p : Nat} {t : Sl} {l : List (Int × Int)} {last : Int}
theorem none_nil (w : World) : Calls Try.prog 65 #[.pointer none] w fun e w' => e = .returned (.bool true) ∧ w = w' := by
  go_enter Try.func65, Try.ntmps65
  go_wp2
  go_ret
  exact ⟨rfl, rfl⟩
theorem none_empty {w : World} {v : Nat} {c1 c2 : Value} (h : Blk w v 128 [.pointer none, c1, c2]) : Calls Try.prog 65 #[.pointer (some ⟨v, 0, none⟩)] w fun e w' => e = .returned (.bool true) ∧ w = w' := by
  have hc := h.cell
  go_enter Try.func65, Try.ntmps65
  go_wp2
  go_ret
  exact ⟨rfl, rfl⟩
theorem none_c (s : Sav w v p t l last) : Calls Try.prog 65 #[.pointer (some ⟨v, 0, none⟩)] w fun e w' => e = .returned (.bool false) ∧ w = w' := by
  have hc := s.blk.cell
  go_enter Try.func65, Try.ntmps65
  go_wp2
  go_ret
  exact ⟨rfl, rfl⟩
theorem saveNew (w : World) (q : Option Addr) : Calls Try.prog 18 #[.pointer q] w fun e w' => e = .returned (.pointer (some ⟨w.heap.size, 0, none⟩)) ∧ Blk w' w.heap.size 128 [.pointer q, .slice none 0 0, .int .i64 0] ∧ Ext w w' := by
  go_enter Try.func18, Try.ntmps18
  go_wp2
  go_ret
  exact ⟨rfl, Blk.new w _ _, (Ext.rfl_ w).alloc_ _⟩
theorem Sav.new_ {w : World} {v p : Nat} (h : Blk w v 128 [.pointer (some ⟨p, 0, none⟩), .slice none 0 0, .int .i64 0]) : Sav w v p .nil [] 0 := ⟨h, Row.nil_ _ _ _⟩
theorem depth_c (s : Sav w v p t l last) : Calls Try.prog 22 #[.pointer (some ⟨v, 0, none⟩)] w fun e w' => e = .returned (.int .i64 l.length) ∧ w = w' := by
  have hc := s.blk.cell
  rw [← s.n]
  go_enter Try.func22, Try.ntmps22
  go_wp2_with (go_at_call 65; refine (none_c s).mono ?_; rintro e w1 ⟨rfl, rfl⟩)
  go_ret
  exact ⟨rfl, rfl⟩
theorem depth_nil (w : World) : Calls Try.prog 22 #[.pointer none] w fun e w' => e = .returned (.int .i64 0) ∧ w = w' := by
  go_enter Try.func22, Try.ntmps22
  go_wp2_with (go_at_call 65; refine (none_nil w).mono ?_; rintro e w1 ⟨rfl, rfl⟩)
  go_ret
  exact ⟨rfl, rfl⟩
theorem depth_empty {w : World} {v : Nat} {c1 c2 : Value} (h : Blk w v 128 [.pointer none, c1, c2]) : Calls Try.prog 22 #[.pointer (some ⟨v, 0, none⟩)] w fun e w' => e = .returned (.int .i64 0) ∧ w = w' := by
  go_enter Try.func22, Try.ntmps22
  go_wp2_with (go_at_call 65; refine (none_empty h).mono ?_; rintro e w1 ⟨rfl, rfl⟩)
  go_ret
  exact ⟨rfl, rfl⟩
theorem at1_c {w : World} {b : Nat} {k : Int} {x : Bool} {ac n : Int} {nm : ByteArray} {rf fr ln : Int} (h : Blk w b 27 (ocs k x ac n nm rf fr ln)) (a m : Int) {q : Bool} (hq : (a == n) = q) :
    Calls Try.prog 102 #[.agg #[.int .i64 a, .int .i64 m], .pointer (some ⟨b, 0, none⟩)] w fun e w' => e = .returned (.bool q) ∧ Ext w w' := by
  have hc := (h.alloc (.cells #[.int .i64 a, .int .i64 m] 130)).cell
  subst hq
  go_enter Try.func102, Try.ntmps102
  go_wp2
  go_ret
  exact ⟨rfl, (Ext.rfl_ w).alloc_ _⟩
/-- The place of a number among the saves; none: -1. -/
def placeOf (l : List (Int × Int)) (n : Int) : Int := match l.findIdx? (fun s => s.1 == n) with | some i => (i : Int) | none => -1
theorem placeOf_some {l : List (Int × Int)} {n : Int} {i : Nat} {s : Int × Int} (hi : l[i]? = some s) (hs : (s.1 == n) = true) (hno : ∀ (q : Nat) (u : Int × Int), q < i → l[q]? = some u → (u.1 == n) = false) : placeOf l n = i := by
  have : l.findIdx? (fun s => s.1 == n) = some i := by
    rw [List.findIdx?_eq_some_iff_getElem]
    obtain ⟨hlt, he⟩ := List.getElem?_eq_some_iff.1 hi
    refine ⟨hlt, by rw [he]; exact hs, fun j hj => ?_⟩
    have := hno j l[j] hj (List.getElem?_eq_getElem (by omega))
    simpa using this
  simp only [placeOf, this]
theorem placeOf_none {l : List (Int × Int)} {n : Int} (hno : ∀ (q : Nat) (u : Int × Int), l[q]? = some u → (u.1 == n) = false) : placeOf l n = -1 := by
  have : l.findIdx? (fun s => s.1 == n) = none := by
    rw [List.findIdx?_eq_none_iff]
    intro u hu
    obtain ⟨q, hq⟩ := List.getElem?_of_mem hu
    exact hno q u hq
  simp only [placeOf, this]
theorem index_c {w : World} {b : Nat} {k : Int} {x : Bool} {ac n : Int} {nm : ByteArray} {rf fr ln : Int} (hr : Row w 130 2 t (l.flatMap svCells)) (hn : t.n = l.length) (h : Blk w b 27 (ocs k x ac n nm rf fr ln)) :
    Calls Try.prog 101 #[.slice t.a t.n t.c, .func (.func 102) #[] #[.pointer (some ⟨b, 0, none⟩)]] w fun e w' => e = .returned (.int .i64 (placeOf l n)) ∧ Ext w w' := by
  have hcap := hr.cap_le
  obtain ⟨a, tn, tc⟩ := t
  dsimp only at hn hcap
  obtain ⟨hcap1, hcap2⟩ := hcap
  simp only [maxLen] at hcap2
  have hHn := Lib.hid hn
  clear hn
  go_enter Try.func101, Try.ntmps101
  go_wp2_with fail
  go_loopg [8] tn (fun k s8 wr => ∃ i : Nat, i ≤ tn ∧ k = tn - i ∧ s8 = .int .i64 i ∧ (∀ (q : Nat) (u : Int × Int), q < i → l[q]? = some u → (u.1 == n) = false) ∧ Ext w wr)
  case atStart => exact ⟨0, by omega, by omega, rfl, (by intro q u hq; omega), Ext.rfl_ w⟩
  case round =>
    obtain ⟨i, hi, hk, hs8, hno, hx⟩ := hrel
    subst hs8
    have hNo := Lib.hid hno
    clear hno
    by_cases hlt : i < tn
    · obtain ⟨g, ha, hg⟩ := hr.pos (show 0 < tn by omega)
      dsimp only at ha
      subst ha
      obtain ⟨⟨u1, u2⟩, hu⟩ : ∃ u, l[i]? = some u := ⟨_, List.getElem?_eq_getElem (by have := hHn.out; omega)⟩
      have hHu := Lib.hid hu
      clear hu
      have hrx := hr.ext hx
      have c0 : wr.cell? ⟨g, i * 2, none⟩ = some (.int .i64 u1) := by
        have := hrx.item length_sv rfl hHu.out (show 0 < 2 by omega)
        simpa [svCells] using this
      have c1 : wr.cell? ⟨g, i * 2 + 1, none⟩ = some (.int .i64 u2) := by
        have := hrx.item length_sv rfl hHu.out (show 1 < 2 by omega)
        simpa [svCells] using this
      by_cases hq : u1 = n
      · subst hq
        go_wp2_with (go_at_call 102; refine (at1_c (h.ext hx) u1 u2 (q := true) (by simp)).mono ?_; rintro e w1 ⟨rfl, hx1⟩)
        go_ret
        exact ⟨by rw [placeOf_some hHu.out (by simp) hNo.out]; rfl, hx.trans_ hx1⟩
      · have hqb : (u1 == n) = false := by simpa using hq
        have hQb := Lib.hid hqb
        clear hq hqb
        go_wp2_with (go_at_call 102; refine (at1_c (h.ext hx) u1 u2 hQb.out).mono ?_; rintro e w1 ⟨rfl, hx1⟩)
        go_roundg (tn - (i + 1))
        case measure => omega
        case rel =>
          refine ⟨i + 1, by omega, rfl, by simp, ?_, hx.trans_ hx1⟩
          intro q u hq hu
          rcases Nat.lt_or_ge q i with h1 | h1
          · exact hNo.out q u h1 hu
          · obtain rfl : q = i := by omega
            rw [hHu.out] at hu
            injection hu with hu
            subst hu
            exact hQb.out
    · go_wp2_with fail
      go_ret
      refine ⟨?_, hx⟩
      rw [placeOf_none]
      · rfl
      intro q u hu
      exact hNo.out q u (by have := (List.getElem?_eq_some_iff.1 hu).1; have := hHn.out; omega) hu
/-- (*Saves).at, Alive. -/
theorem at_save (s : Sav w v p t l last) (k : Int) (x : Bool) (ac n : Int) (nm : ByteArray) (rf fr ln : Int) (hk : k = 10) :
    Calls Try.prog 67 #[.pointer (some ⟨v, 0, none⟩), .agg #[.int .i64 k, .bool x, .int .i64 ac, .int .i64 n, .string nm, .int .i64 rf, .int .i64 fr, .int .i64 ln]] w fun e w' => e = .returned (.int .i64 (placeOf l n)) ∧ Ext w w' := by
  subst hk
  have hmf : ∀ (fn : Fn) (first cap : Array Value) (w : World), (Instr.makeFunc fn first cap).run Try.prog w = .ok (.func fn first cap) w := fun _ _ _ _ => rfl
  go_enter Try.func67, Try.ntmps67
  go_upto_region 1 with fail
  generalize hX : World.alloc w _ = X
  obtain ⟨hx, hcX, hfX, hzX, hbX⟩ := boxed hX
  clear hX
  have s1 := s.ext hx
  have hc := s1.blk.cell
  go_wp2_with (first
    | (go_at_call 65; refine (none_c s1).mono ?_; rintro e w1 ⟨rfl, rfl⟩)
    | (go_at_call 101; refine (index_c s1.row s1.n hbX).mono ?_; rintro e w1 ⟨rfl, hx1⟩))
  go_ret
  exact ⟨rfl, hx.trans_ hx1⟩
theorem at_other (s : Sav w v p t l last) (k : Int) (x : Bool) (ac n : Int) (nm : ByteArray) (rf fr ln : Int) (hk : k ≠ 10) :
    Calls Try.prog 67 #[.pointer (some ⟨v, 0, none⟩), .agg #[.int .i64 k, .bool x, .int .i64 ac, .int .i64 n, .string nm, .int .i64 rf, .int .i64 fr, .int .i64 ln]] w fun e w' => e = .returned (.int .i64 (-1)) ∧ Ext w w' := by
  have hkb : (k != 10) = true := by simpa using hk
  clear hk
  have s1 := s.ext ((Ext.rfl_ w).alloc_ (.cells #[.int .i64 k, .bool x, .int .i64 ac, .int .i64 n, .string nm, .int .i64 rf, .int .i64 fr, .int .i64 ln] 27))
  go_enter Try.func67, Try.ntmps67
  go_wp2_with (go_at_call 65; refine (none_c s1).mono ?_; rintro e w1 ⟨rfl, rfl⟩)
  go_ret
  exact ⟨rfl, (Ext.rfl_ w).alloc_ _⟩
theorem at_nil (w : World) (k : Int) (x : Bool) (ac n : Int) (nm : ByteArray) (rf fr ln : Int) :
    Calls Try.prog 67 #[.pointer none, .agg #[.int .i64 k, .bool x, .int .i64 ac, .int .i64 n, .string nm, .int .i64 rf, .int .i64 fr, .int .i64 ln]] w fun e w' => e = .returned (.int .i64 (-1)) ∧ Ext w w' := by
  go_enter Try.func67, Try.ntmps67
  go_wp2_with (go_at_call 65; refine (none_nil _).mono ?_; rintro e w1 ⟨rfl, rfl⟩)
  go_ret
  exact ⟨rfl, (Ext.rfl_ w).alloc_ _⟩
theorem at_empty {w : World} {v : Nat} {c1 c2 : Value} (h : Blk w v 128 [.pointer none, c1, c2]) (k : Int) (x : Bool) (ac n : Int) (nm : ByteArray) (rf fr ln : Int) :
    Calls Try.prog 67 #[.pointer (some ⟨v, 0, none⟩), .agg #[.int .i64 k, .bool x, .int .i64 ac, .int .i64 n, .string nm, .int .i64 rf, .int .i64 fr, .int .i64 ln]] w fun e w' => e = .returned (.int .i64 (-1)) ∧ Ext w w' := by
  go_enter Try.func67, Try.ntmps67
  go_wp2_with (go_at_call 65; refine (none_empty (h.alloc _)).mono ?_; rintro e w1 ⟨rfl, rfl⟩)
  go_ret
  exact ⟨rfl, (Ext.rfl_ w).alloc_ _⟩
end
end Go.Proofs.Ythhckledkhcfeaa
