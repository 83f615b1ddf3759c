/- The saves: how they lie in memory; the place of a save. The saves: Save. The store's functions, part O: Set. The store: Access, Size and Pair. -/
import Derived.Deep.LoopGhost
import Derived.Test.YthhckledkhcfeaaQ08
namespace Go.Proofs.Ythhckledkhcfeaa
open Go.RowKit
def svCells (s : Int × Int) : List Value := [.int .i64 s.1, .int .i64 s.2]
theorem length_sv (s : Int × Int) : (svCells s).length = 2 := rfl
/-- At block v lie the saves l, of the store at p. -/
structure Sav (w : World) (v p : Nat) (t : Sl) (l : List (Int × Int)) (last : Int) : Prop where
  blk : Blk w v 128 [.pointer (some ⟨p, 0, none⟩), .slice t.a t.n t.c, .int .i64 last]
  row : Row w 130 2 t (l.flatMap svCells)
theorem Sav.n {w : World} {v p : Nat} {t : Sl} {l : List (Int × Int)} {last : Int} (s : Sav w v p t l last) : t.n = l.length := by have h1 := s.row.len; rw [length_flat _ 2 length_sv] at h1; omega
theorem Sav.ext {w w' : World} {v p : Nat} {t : Sl} {l : List (Int × Int)} {last : Int} (s : Sav w v p t l last) (hx : Ext w w') : Sav w' v p t l last := ⟨s.blk.ext hx, s.row.ext hx⟩
section
variable {w : World} {v p : Nat} {t : Sl} {l : List (Int × Int)} {last : Int}
theorem none_nil (w : World) : Calls Try.prog 65 #[.pointer none] w fun e w' => e = .returned (.bool true) ∧ w = w' := by
  go_enter Try.func65, Try.ntmps65
  go_wp2
  go_ret
  exact ⟨rfl, rfl⟩
theorem none_empty {w : World} {v : Nat} {c1 c2 : Value} (h : Blk w v 128 [.pointer none, c1, c2]) : Calls Try.prog 65 #[.pointer (some ⟨v, 0, none⟩)] w fun e w' => e = .returned (.bool true) ∧ w = w' := by
  have hc := h.cell
  go_enter Try.func65, Try.ntmps65
  go_wp2
  go_ret
  exact ⟨rfl, rfl⟩
theorem none_c (s : Sav w v p t l last) : Calls Try.prog 65 #[.pointer (some ⟨v, 0, none⟩)] w fun e w' => e = .returned (.bool false) ∧ w = w' := by
  have hc := s.blk.cell
  go_enter Try.func65, Try.ntmps65
  go_wp2
  go_ret
  exact ⟨rfl, rfl⟩
theorem saveNew (w : World) (q : Option Addr) : Calls Try.prog 18 #[.pointer q] w fun e w' => e = .returned (.pointer (some ⟨w.heap.size, 0, none⟩)) ∧ Blk w' w.heap.size 128 [.pointer q, .slice none 0 0, .int .i64 0] ∧ Ext w w' := by
  go_enter Try.func18, Try.ntmps18
  go_wp2
  go_ret
  exact ⟨rfl, Blk.new w _ _, (Ext.rfl_ w).alloc_ _⟩
theorem Sav.new_ {w : World} {v p : Nat} (h : Blk w v 128 [.pointer (some ⟨p, 0, none⟩), .slice none 0 0, .int .i64 0]) : Sav w v p .nil [] 0 := ⟨h, Row.nil_ _ _ _⟩
theorem depth_c (s : Sav w v p t l last) : Calls Try.prog 22 #[.pointer (some ⟨v, 0, none⟩)] w fun e w' => e = .returned (.int .i64 l.length) ∧ w = w' := by
  have hc := s.blk.cell
  rw [← s.n]
  go_enter Try.func22, Try.ntmps22
  go_wp2_with (go_at_call 65; refine (none_c s).mono ?_; rintro e w1 ⟨rfl, rfl⟩)
  go_ret
  exact ⟨rfl, rfl⟩
theorem depth_nil (w : World) : Calls Try.prog 22 #[.pointer none] w fun e w' => e = .returned (.int .i64 0) ∧ w = w' := by
  go_enter Try.func22, Try.ntmps22
  go_wp2_with (go_at_call 65; refine (none_nil w).mono ?_; rintro e w1 ⟨rfl, rfl⟩)
  go_ret
  exact ⟨rfl, rfl⟩
theorem depth_empty {w : World} {v : Nat} {c1 c2 : Value} (h : Blk w v 128 [.pointer none, c1, c2]) : Calls Try.prog 22 #[.pointer (some ⟨v, 0, none⟩)] w fun e w' => e = .returned (.int .i64 0) ∧ w = w' := by
  go_enter Try.func22, Try.ntmps22
  go_wp2_with (go_at_call 65; refine (none_empty h).mono ?_; rintro e w1 ⟨rfl, rfl⟩)
  go_ret
  exact ⟨rfl, rfl⟩
theorem at1_c {w : World} {b : Nat} {k : Int} {x : Bool} {ac n : Int} {nm : ByteArray} {rf fr ln : Int} (h : Blk w b 27 (ocs k x ac n nm rf fr ln)) (a m : Int) {q : Bool} (hq : (a == n) = q) :
    Calls Try.prog 102 #[.agg #[.int .i64 a, .int .i64 m], .pointer (some ⟨b, 0, none⟩)] w fun e w' => e = .returned (.bool q) ∧ Ext w w' := by
  have hc := (h.alloc (.cells #[.int .i64 a, .int .i64 m] 130)).cell
  subst hq
  go_enter Try.func102, Try.ntmps102
  go_wp2
  go_ret
  exact ⟨rfl, (Ext.rfl_ w).alloc_ _⟩
/-- The place of a number among the saves; none: -1. -/
def placeOf (l : List (Int × Int)) (n : Int) : Int := match l.findIdx? (fun s => s.1 == n) with | some i => (i : Int) | none => -1
theorem placeOf_some {l : List (Int × Int)} {n : Int} {i : Nat} {s : Int × Int} (hi : l[i]? = some s) (hs : (s.1 == n) = true) (hno : ∀ (q : Nat) (u : Int × Int), q < i → l[q]? = some u → (u.1 == n) = false) : placeOf l n = i := by
  have : l.findIdx? (fun s => s.1 == n) = some i := by
    rw [List.findIdx?_eq_some_iff_getElem]
    obtain ⟨hlt, he⟩ := List.getElem?_eq_some_iff.1 hi
    refine ⟨hlt, by rw [he]; exact hs, fun j hj => ?_⟩
    have := hno j l[j] hj (List.getElem?_eq_getElem (by omega))
    simpa using this
  simp only [placeOf, this]
theorem placeOf_none {l : List (Int × Int)} {n : Int} (hno : ∀ (q : Nat) (u : Int × Int), l[q]? = some u → (u.1 == n) = false) : placeOf l n = -1 := by
  have : l.findIdx? (fun s => s.1 == n) = none := by
    rw [List.findIdx?_eq_none_iff]
    intro u hu
    obtain ⟨q, hq⟩ := List.getElem?_of_mem hu
    exact hno q u hq
  simp only [placeOf, this]
theorem index_c {w : World} {b : Nat} {k : Int} {x : Bool} {ac n : Int} {nm : ByteArray} {rf fr ln : Int} (hr : Row w 130 2 t (l.flatMap svCells)) (hn : t.n = l.length) (h : Blk w b 27 (ocs k x ac n nm rf fr ln)) :
    Calls Try.prog 101 #[.slice t.a t.n t.c, .func (.func 102) #[] #[.pointer (some ⟨b, 0, none⟩)]] w fun e w' => e = .returned (.int .i64 (placeOf l n)) ∧ Ext w w' := by
  have hcap := hr.cap_le
  obtain ⟨a, tn, tc⟩ := t
  dsimp only at hn hcap
  obtain ⟨hcap1, hcap2⟩ := hcap
  simp only [maxLen] at hcap2
  have hHn := Lib.hid hn
  clear hn
  go_enter Try.func101, Try.ntmps101
  go_wp2_with fail
  go_loopg [8] tn (fun k s8 wr => ∃ i : Nat, i ≤ tn ∧ k = tn - i ∧ s8 = .int .i64 i ∧ (∀ (q : Nat) (u : Int × Int), q < i → l[q]? = some u → (u.1 == n) = false) ∧ Ext w wr)
  case atStart => exact ⟨0, by omega, by omega, rfl, (by intro q u hq; omega), Ext.rfl_ w⟩
  case round =>
    obtain ⟨i, hi, hk, hs8, hno, hx⟩ := hrel
    subst hs8
    have hNo := Lib.hid hno
    clear hno
    by_cases hlt : i < tn
    · obtain ⟨g, ha, hg⟩ := hr.pos (show 0 < tn by omega)
      dsimp only at ha
      subst ha
      obtain ⟨⟨u1, u2⟩, hu⟩ : ∃ u, l[i]? = some u := ⟨_, List.getElem?_eq_getElem (by have := hHn.out; omega)⟩
      have hHu := Lib.hid hu
      clear hu
      have hrx := hr.ext hx
      have c0 : wr.cell? ⟨g, i * 2, none⟩ = some (.int .i64 u1) := by
        have := hrx.item length_sv rfl hHu.out (show 0 < 2 by omega)
        simpa [svCells] using this
      have c1 : wr.cell? ⟨g, i * 2 + 1, none⟩ = some (.int .i64 u2) := by
        have := hrx.item length_sv rfl hHu.out (show 1 < 2 by omega)
        simpa [svCells] using this
      by_cases hq : u1 = n
      · subst hq
        go_wp2_with (go_at_call 102; refine (at1_c (h.ext hx) u1 u2 (q := true) (by simp)).mono ?_; rintro e w1 ⟨rfl, hx1⟩)
        go_ret
        exact ⟨by rw [placeOf_some hHu.out (by simp) hNo.out]; rfl, hx.trans_ hx1⟩
      · have hqb : (u1 == n) = false := by simpa using hq
        have hQb := Lib.hid hqb
        clear hq hqb
        go_wp2_with (go_at_call 102; refine (at1_c (h.ext hx) u1 u2 hQb.out).mono ?_; rintro e w1 ⟨rfl, hx1⟩)
        go_roundg (tn - (i + 1))
        case measure => omega
        case rel =>
          refine ⟨i + 1, by omega, rfl, by simp, ?_, hx.trans_ hx1⟩
          intro q u hq hu
          rcases Nat.lt_or_ge q i with h1 | h1
          · exact hNo.out q u h1 hu
          · obtain rfl : q = i := by omega
            rw [hHu.out] at hu
            injection hu with hu
            subst hu
            exact hQb.out
    · go_wp2_with fail
      go_ret
      refine ⟨?_, hx⟩
      rw [placeOf_none]
      · rfl
      intro q u hu
      exact hNo.out q u (by have := (List.getElem?_eq_some_iff.1 hu).1; have := hHn.out; omega) hu
/-- (*Saves).at, Alive. -/
theorem at_save (s : Sav w v p t l last) (k : Int) (x : Bool) (ac n : Int) (nm : ByteArray) (rf fr ln : Int) (hk : k = 10) :
    Calls Try.prog 67 #[.pointer (some ⟨v, 0, none⟩), .agg #[.int .i64 k, .bool x, .int .i64 ac, .int .i64 n, .string nm, .int .i64 rf, .int .i64 fr, .int .i64 ln]] w fun e w' => e = .returned (.int .i64 (placeOf l n)) ∧ Ext w w' := by
  subst hk
  have hmf : ∀ (fn : Fn) (first cap : Array Value) (w : World), (Instr.makeFunc fn first cap).run Try.prog w = .ok (.func fn first cap) w := fun _ _ _ _ => rfl
  go_enter Try.func67, Try.ntmps67
  go_upto_region 1 with fail
  generalize hX : World.alloc w _ = X
  obtain ⟨hx, hcX, hfX, hzX, hbX⟩ := boxed hX
  clear hX
  have s1 := s.ext hx
  have hc := s1.blk.cell
  go_wp2_with (first
    | (go_at_call 65; refine (none_c s1).mono ?_; rintro e w1 ⟨rfl, rfl⟩)
    | (go_at_call 101; refine (index_c s1.row s1.n hbX).mono ?_; rintro e w1 ⟨rfl, hx1⟩))
  go_ret
  exact ⟨rfl, hx.trans_ hx1⟩
theorem at_other (s : Sav w v p t l last) (k : Int) (x : Bool) (ac n : Int) (nm : ByteArray) (rf fr ln : Int) (hk : k ≠ 10) :
    Calls Try.prog 67 #[.pointer (some ⟨v, 0, none⟩), .agg #[.int .i64 k, .bool x, .int .i64 ac, .int .i64 n, .string nm, .int .i64 rf, .int .i64 fr, .int .i64 ln]] w fun e w' => e = .returned (.int .i64 (-1)) ∧ Ext w w' := by
  have hkb : (k != 10) = true := by simpa using hk
  clear hk
  have s1 := s.ext ((Ext.rfl_ w).alloc_ (.cells #[.int .i64 k, .bool x, .int .i64 ac, .int .i64 n, .string nm, .int .i64 rf, .int .i64 fr, .int .i64 ln] 27))
  go_enter Try.func67, Try.ntmps67
  go_wp2_with (go_at_call 65; refine (none_c s1).mono ?_; rintro e w1 ⟨rfl, rfl⟩)
  go_ret
  exact ⟨rfl, (Ext.rfl_ w).alloc_ _⟩
theorem at_nil (w : World) (k : Int) (x : Bool) (ac n : Int) (nm : ByteArray) (rf fr ln : Int) :
    Calls Try.prog 67 #[.pointer none, .agg #[.int .i64 k, .bool x, .int .i64 ac, .int .i64 n, .string nm, .int .i64 rf, .int .i64 fr, .int .i64 ln]] w fun e w' => e = .returned (.int .i64 (-1)) ∧ Ext w w' := by
  go_enter Try.func67, Try.ntmps67
  go_wp2_with (go_at_call 65; refine (none_nil _).mono ?_; rintro e w1 ⟨rfl, rfl⟩)
  go_ret
  exact ⟨rfl, (Ext.rfl_ w).alloc_ _⟩
theorem at_empty {w : World} {v : Nat} {c1 c2 : Value} (h : Blk w v 128 [.pointer none, c1, c2]) (k : Int) (x : Bool) (ac n : Int) (nm : ByteArray) (rf fr ln : Int) :
    Calls Try.prog 67 #[.pointer (some ⟨v, 0, none⟩), .agg #[.int .i64 k, .bool x, .int .i64 ac, .int .i64 n, .string nm, .int .i64 rf, .int .i64 fr, .int .i64 ln]] w fun e w' => e = .returned (.int .i64 (-1)) ∧ Ext w w' := by
  go_enter Try.func67, Try.ntmps67
  go_wp2_with (go_at_call 65; refine (none_empty (h.alloc _)).mono ?_; rintro e w1 ⟨rfl, rfl⟩)
  go_ret
  exact ⟨rfl, (Ext.rfl_ w).alloc_ _⟩
end
end Go.Proofs.Ythhckledkhcfeaa
namespace Go.Proofs.Ythhckledkhcfeaa
open Go.RowKit
theorem fld_app {w X w1 : World} {v : Nat} {v0 v' : Sl} {T : TypeId} {cs : List Value} (hv : Blk w v T cs) (hv0 : v0.blk ≠ some v) (hX : Ext w X) (hgrow : X.grownBy w1 v0.blk) {H : Nat} (hat : v'.blk = v0.blk ∨ v'.blk = some H) (hH : w.heap.size ≤ H)
    {e : TypeId} {sz : Nat} {ys : List Value} (hrow : Row w1 e sz v' ys) (i : Nat) (u : Value) :
    Blk w1 v T cs ∧ Blk (w1.setCell ⟨v, i, none⟩ u) v T (cs.set i u) ∧ Row (w1.setCell ⟨v, i, none⟩ u) e sz v' ys ∧ v'.blk ≠ some v ∧
      Moves w (w1.setCell ⟨v, i, none⟩ u) (fun b => b = v ∨ v0.blk = some b) (fun b => b = v ∨ v'.blk = some b) := by
  have hlt := hv.lt
  have hw1 : ∀ b, b < w.heap.size → v0.blk ≠ some b → w1.heap[b]? = w.heap[b]? := fun b hb hn => (hgrow.block b (Nat.lt_of_lt_of_le hb hX.size) (fun e => hn e.symm)).trans (hX.at_ hb)
  have hsize : w.heap.size ≤ w1.heap.size := Nat.le_trans hX.size hgrow.size
  have hgp : v'.blk ≠ some v := by
    rcases hat with h1 | h1
    · rw [h1]; exact hv0
    · rw [h1]; intro e; injection e with e; omega
  refine ⟨hv.keep (hw1 v hlt hv0), (hv.keep (hw1 v hlt hv0)).set_ i u, hrow.far hgp u, hgp, ?_⟩
  refine ⟨hgrow.os.trans hX.os, hgrow.tape.trans hX.tape, hgrow.output.trans hX.output, by simpa using hsize, fun b hb hn => ?_, fun b hb => ?_⟩
  · exact (Below.heap_setCell _ _ _ _ (fun e => hn (.inl e))).trans (hw1 b hb (fun e => hn (.inr e)))
  · rcases hb with hb | hb
    · exact .inl (.inl hb)
    · rcases hat with h1 | h1
      · exact .inl (.inr (by rw [← h1]; exact hb))
      · rw [h1] at hb; injection hb with hb; exact .inr (by omega)
def svOwn (v : Nat) (t : Sl) (ρ : Roles) (b : Nat) : Prop := ρ.own b ∨ b = v ∨ t.blk = some b
structure Sv (w : World) (v p : Nat) (σ : St) (h : Hd) (ρ : Roles) (t : Sl) (l : List (Int × Int)) (last : Int) : Prop where
  sto : Sto w p σ h ρ
  sav : Sav w v p t l last
  nv : ρ v = none
  nt : ∀ g, t.blk = some g → ρ g = none
  vt : t.blk ≠ some v
theorem Moves.frame {w w' : World} {F F' G G' : Nat → Prop} (h : Moves w w' F F') (hF : ∀ b, F b → G b) (hG : ∀ b, G' b → F' b ∨ G b ∨ w.heap.size ≤ b) : Moves w w' G G' :=
  ⟨h.os, h.tape, h.output, h.size, fun b hb hn => h.block b hb (fun hf => hn (hF b hf)), fun b hb => by
    rcases hG b hb with h1 | h1
    · rcases h.foot b h1 with h2 | h2
      · exact .inl (hF b h2)
      · exact .inr h2
    · exact h1⟩
theorem info_state : (Try.prog.info? 130).map (fun i => (i.zero, i.size, i.bytes)) = some (some (.agg #[.int .i64 0, .int .i64 0]), 2, 16) := by kernel_rfl
section
variable {w w' : World} {v p : Nat} {σ : St} {h : Hd} {ρ : Roles} {t : Sl} {l : List (Int × Int)} {last : Int}
theorem Sv.ext (s : Sv w v p σ h ρ t l last) (hx : Ext w w') : Sv w' v p σ h ρ t l last := ⟨s.sto.ext hx, s.sav.ext hx, s.nv, s.nt, s.vt⟩
def SvTo (w w' : World) (v p : Nat) (F : Nat → Prop) (σ' : St) (l' : List (Int × Int)) (last' : Int) : Prop :=
  ∃ h' ρ' t', Sv w' v p σ' h' ρ' t' l' last' ∧ Moves w w' F (svOwn v t' ρ')
set_option maxRecDepth 100000 in
set_option maxHeartbeats 1000000 in
theorem save_ok (s : Sv w v p σ h ρ t l last) (hl : l.length < 15) (hn : σ.marks.length + 1 ≤ 4294967296) (hlast : 0 ≤ last ∧ last ≤ 4294967296) :
    Calls Try.prog 19 #[.pointer (some ⟨v, 0, none⟩)] w fun e w' => e = .returned (.tuple #[.agg #[.int .i64 10, .bool false, .int .i64 0, .int .i64 (last + 1), .string ByteArray.empty, .int .i64 0, .int .i64 0, .int .i64 0], .int .i64 0]) ∧
      SvTo w w' v p (svOwn v t ρ) { σ with marks := σ.marks ++ [σ.sizes] } (l ++ [(last + 1, (σ.marks.length : Int) + 1)]) (last + 1) := by
  obtain ⟨iL, hiL, hzL, hsL, hbL⟩ := info_parts info_state
  have htn : t.n < 15 := by rw [s.sav.n]; exact hl
  have hvlt := s.sav.blk.lt
  go_enter Try.func19, Try.ntmps19
  go_upto_region 1 with fail
  generalize hX : World.alloc w _ = X
  obtain ⟨hx, hcX, hfX, hzX, hbX⟩ := boxed hX
  clear hX hcX hfX
  have s1 := s.ext hx
  have hc := s1.sav.blk.cell
  have hf := s1.sav.blk.frozen
  have hvlt1 := s1.sav.blk.lt
  go_upto_region 6 with (go_at_call 65; refine (none_c s1.sav).mono ?_; rintro e w1 ⟨rfl, rfl⟩)
  clear hc hf
  have hB1 := s1.sav.blk.set_ 2 (.int .i64 (last + 1))
  have hR1 := s1.sav.row.far (p := ⟨v, 2, none⟩) s1.vt (.int .i64 (last + 1))
  have hS1 := s1.sto.only ((Only.refl_ X v).set_ 2 (.int .i64 (last + 1))) s.nv
  have hbY := hbX.far (p := ⟨v, 2, none⟩) (by show w.heap.size ≠ v; omega) (.int .i64 (last + 1))
  have hm1 : Moves w (X.setCell ⟨v, 2, none⟩ (.int .i64 (last + 1))) (svOwn v t ρ) (svOwn v t ρ) := Moves.ext_left hx (Moves.set_ (.inr (.inl rfl)) _)
  have hzY : w.heap.size < (X.setCell ⟨v, 2, none⟩ (.int .i64 (last + 1))).heap.size := by simpa using hzX
  have hvY : v < (X.setCell ⟨v, 2, none⟩ (.int .i64 (last + 1))).heap.size := by simpa using hvlt1
  generalize hY : X.setCell ⟨v, 2, none⟩ (.int .i64 (last + 1)) = Y at hB1 hR1 hS1 hbY hm1 hzY hvY
  clear hY
  have hc := hB1.cell
  have f2 := fun (E : But Y ρ.own) i => (E.cells hvY (Roles.not_own s.nv) i).trans (hc i)
  clear hc
  refine wp_region_plan (C := fun w' => ∃ E : But Y ρ.own, w' = E.w) [true, true, true, true, true, true, true, true, true, true, true, true, true, false, false, false, false, false, false, false] 16 3 (by kernel_rfl) (by kernel_rfl) (fun c a d v w h => by cases d <;> exact h) (InBut.of (Nat.le_refl _) fun _ _ _ => rfl) ?_
  simp only [pickQ, pickT]
  repeat (go_big_quiet_step (fail))
  refine wpQuiet_nil ?_
  refine wpTail_cons (fun K hK => ?_)
  go_simp
  go_wp2_with (go_at_call 66; refine (mark_c (w := Y.drew) (hS1.ext (Ext.rfl_ Y).drew_) hn).mono ?_; rintro e w2 ⟨rfl, h2, ρ2, s2, hm2⟩)
  refine hK _ _ (InBut.of hm2.size hm2.block) ?_
  clear hK K
  refine wpTail_cons (fun K hK => ?_)
  go_simp
  refine hK _ _ (InBut.of hm2.size hm2.block) ?_
  clear hK K
  refine wpTail_cons (fun K hK => ?_)
  go_simp
  refine hK _ _ (InBut.of (Nat.le_trans hm2.size (by simp)) (fun b hb hn => (Below.heap_alloc _ _ _ (Nat.lt_of_lt_of_le hb hm2.size)).trans (hm2.block b hb hn))) ?_
  clear hK K
  refine wpTail_zero ?_
  have hvn : ¬ ρ.own v := Roles.not_own s.nv
  have htn' : ∀ g, t.blk = some g → ¬ ρ.own g := fun g hg => Roles.not_own (s.nt g hg)
  have hB2 := hB1.keep (hm2.block v hvY hvn)
  have hR2 := hR1.keep (w' := w2) fun g hg => hm2.block g (hR1.blk_lt hg) (htn' g hg)
  have hb2 := hbY.keep (hm2.block w.heap.size hzY (Roles.not_own (s.sto.fresh (Nat.le_refl _))))
  have hv2 : v < w2.heap.size := hB2.lt
  have hz2 : w.heap.size < w2.heap.size := hb2.lt
  have hc2 := hB2.cell
  have hf2 := hB2.frozen
  go_upto_region 7 with (
    at_builtin
    refine wpList_app (by rfl) _ _ _ (by rfl) 130 iL _ 2 16 Try.underlying126 hiL hzL hsL hbL rfl (by omega) t (by rfl) (hR2.alloc _) (by rfl) (View.of_blk (n := 1) (Blk.new w2 _ _) rfl) ?_ ?_ ?_ ?_
    · intro u hu
      simp only [List.mem_cons, List.mem_nil_iff, or_false] at hu
      rcases hu with rfl | rfl <;> rfl
    · simp only [maxLen]; omega
    · omega
    intro t' w3 hrow hlen hgrow hat
    obtain ⟨hg1, hg2, hg3, hg4, hg5⟩ := fld_app (H := w2.heap.size + 1) hB2 s1.vt ((Ext.rfl_ w2).alloc_ _) hgrow (by rcases hat with hat | hat; exact .inl hat; exact .inr (by rw [hat]; simp)) (by omega) hrow 1 (.slice t'.a t'.n t'.c)
    have k0 := hg1.cell
    have k1 := hg1.frozen)
  clear k0 k1 hc2 hf2
  have htw : t.blk ≠ some w.heap.size := fun hb => by have := s.sav.row.blk_lt hb; omega
  have hb3 := hb2.moves hg5 (fun hb => by rcases hb with hb | hb; omega; exact htw hb)
  have ht2 : ∀ g, t.blk = some g → ¬ ρ2.own g := fun g hg => hm2.apart (htn' g hg) (hR1.blk_lt hg)
  have hv2n : ¬ ρ2.own v := hm2.apart hvn hvY
  have s3 := s2.keep (fun b hb => hg5.block b (s2.bound b hb) (fun he => by rcases he with he | he; subst he; exact hv2n hb; exact ht2 b he hb)) hg5.size
  have ht3 : ∀ g, t'.blk = some g → ρ2 g = none := fun g hg => by
    rcases hat with hat | hat
    · rw [hat] at hg; exact Roles.none_of (ht2 g hg)
    · rw [hat] at hg; injection hg with hg; exact s2.fresh (by rw [← hg]; simp)
  have htw' : t'.blk ≠ some w.heap.size := fun hb => by
    rcases hat with hat | hat
    · rw [hat] at hb; exact htw hb
    · rw [hat] at hb; injection hb with hb; simp at hb; omega
  have hw2 : ρ2 w.heap.size = none := Roles.none_of (hm2.apart (Roles.not_own (s.sto.fresh (Nat.le_refl _))) hzY)
  have hmv : Moves w (w3.setCell ⟨v, 1, none⟩ (.slice t'.a t'.n t'.c)) (svOwn v t ρ) (svOwn v t' ρ2) := by
    have m1 : Moves Y w2 (svOwn v t ρ) (svOwn v t ρ2) := (Moves.frame (F := ρ.own) (F' := ρ2.own) ⟨hm2.os, hm2.tape, hm2.output, hm2.size, hm2.block, hm2.foot⟩ (fun b hb => .inl hb) (fun b hb => by
      rcases hb with hb | hb
      · exact .inl hb
      · exact .inr (.inl (.inr hb))))
    have m2 : Moves w2 (w3.setCell ⟨v, 1, none⟩ (.slice t'.a t'.n t'.c)) (svOwn v t ρ2) (svOwn v t' ρ2) := hg5.frame (fun b hb => .inr hb) (fun b hb => by
      rcases hb with hb | hb
      · exact .inr (.inl (.inl hb))
      · exact .inl hb)
    exact (hm1.trans_ m1).trans_ m2
  have hfl : List.flatMap svCells l ++ [Value.int .i64 (last + 1), Value.int .i64 ((σ.marks.length : Int) + 1)] = (l ++ [(last + 1, (σ.marks.length : Int) + 1)]).flatMap svCells := by simp [svCells]
  rw [hfl] at hg3
  generalize w3.setCell ⟨v, 1, none⟩ (.slice t'.a t'.n t'.c) = W at hg2 hg3 hb3 s3 hmv hg5
  have hcv := hg2.cell
  have hcb := hb3.cell
  have hfb := hb3.frozen
  have hbn : w.heap.size ≠ v := by omega
  go_wp2
  refine bodyPost_ret (res_ct rfl rfl (set8_blk hb3 _ _ _ _ _ _ _ _) Try.underlying27 (by kernel_rfl)) rfl ⟨rfl, ?_⟩
  have ho := set8_only W w.heap.size (.int .i64 10) (.bool false) (.int .i64 0) (.int .i64 (last + 1)) (.string ByteArray.empty) (.int .i64 0) (.int .i64 0) (.int .i64 0)
  refine ⟨h2, ρ2, t', ⟨s3.only ho hw2, ⟨hg2.keep (ho.block _ hbn.symm), hg3.keep fun g hg => ho.block _ (by rintro rfl; exact htw' hg)⟩, Roles.none_of hv2n, ht3, hg4⟩, hmv.only ho (.inl (Nat.le_refl _))⟩
end
end Go.Proofs.Ythhckledkhcfeaa
namespace Go.Proofs.Ythhckledkhcfeaa
open Go.RowKit
/-- A value comes to stand for a key, in the dictionary D at place r. -/
def St.setD (σ : St) (r : Nat) (D : Dc) (k v : Ob) : St × Int :=
  if 0 ≤ idxOf (isKey k) D.pairs then
    ({ σ.noted ⟨1, r, idxOf (isKey k) D.pairs, D.pairs.getD (idxOf (isKey k) D.pairs).toNat (Ob.null, Ob.null)⟩ with
      dicts := σ.dicts.set r { D with pairs := D.pairs.set (idxOf (isKey k) D.pairs).toNat ((D.pairs.getD (idxOf (isKey k) D.pairs).toNat (Ob.null, Ob.null)).1, v) } }, 0)
  else if D.most ≤ D.pairs.length then (σ, 1)
  else ({ σ.noted ⟨2, r, 0, (Ob.null, Ob.null)⟩ with dicts := σ.dicts.set r { D with pairs := D.pairs ++ [(k, v)] } }, 0)
theorem sets8_val (u1 o : Ob) : ∀ (l : List (Ob × Ob)) (q : Nat) (u : Ob × Ob), l[q]? = some u → sets8 (l.flatMap pairCells) (q * 16 + 8) (.int .i64 o.k) (.bool o.x) (.int .i64 o.ac) (.int .i64 o.n) (.string o.nm) (.int .i64 o.rf) (.int .i64 o.fr) (.int .i64 o.ln) = (l.set q (u.1, o)).flatMap pairCells
  | [], q, u, h => by simp at h
  | a :: l, 0, u, h => by
    simp at h
    subst h
    rfl
  | a :: l, q + 1, u, h => by
    have ih := sets8_val u1 o l q u (by simpa using h)
    have e : ∀ (xs : List Value) (j : Nat) (v : Value), (pairCells a ++ xs).set ((q + 1) * 16 + 8 + j) v = pairCells a ++ xs.set (q * 16 + 8 + j) v := by
      intro xs j v
      have hl : (pairCells a).length = 16 := rfl
      rw [List.set_append_right _ _ (by omega), hl, show (q + 1) * 16 + 8 + j - 16 = q * 16 + 8 + j by omega]
    have e0 := e (l.flatMap pairCells) 0
    simp only [Nat.add_zero] at e0
    show sets8 (pairCells a ++ l.flatMap pairCells) ((q + 1) * 16 + 8) _ _ _ _ _ _ _ _ = pairCells a ++ (l.set q (u.1, o)).flatMap pairCells
    unfold sets8 at ih ⊢
    rw [e0, e, e, e, e, e, e, e, ih]
section
variable {w w' : World} {p : Nat} {σ : St} {h : Hd} {ρ : Roles}
theorem Row.set_val {t : Sl} {l : List (Ob × Ob)} (h : Row w 122 16 t (l.flatMap pairCells)) {g q off : Nat} {u : Ob × Ob} (o : Ob) (ha : t.a = some ⟨g, 0, none⟩) (hu : l[q]? = some u) (he : off = q * 16 + 8) :
    Row (setO w g off (.int .i64 o.k) (.bool o.x) (.int .i64 o.ac) (.int .i64 o.n) (.string o.nm) (.int .i64 o.rf) (.int .i64 o.fr) (.int .i64 o.ln)) 122 16 t ((l.set q (u.1, o)).flatMap pairCells) := by
  subst he
  rw [← sets8_val u.1 o l q u hu]
  exact (((((((h.set_ ha (q * 16 + 8) _).set_ ha (q * 16 + 8 + 1) _).set_ ha (q * 16 + 8 + 2) _).set_ ha (q * 16 + 8 + 3) _).set_ ha (q * 16 + 8 + 4) _).set_ ha (q * 16 + 8 + 5) _).set_ ha (q * 16 + 8 + 6) _).set_ ha (q * 16 + 8 + 7) _
theorem cells_pair {t : Sl} {l : List (Ob × Ob)} (hr : Row w 122 16 t (l.flatMap pairCells)) {g i : Nat} {u : Ob × Ob} (ha : t.a = some ⟨g, 0, none⟩) (hu : l[i]? = some u) :
    ∀ q v, (pairCells u)[q]? = some v → w.cell? ⟨g, i * 16 + q, none⟩ = some v := fun q v hv =>
  (hr.item length_pair ha hu (by have := (List.getElem?_eq_some_iff.1 hv).1; rw [length_pair] at this; exact this)).trans hv
theorem Row.val {t : Sl} {l : List (Ob × Ob)} (hr : Row w 122 16 t (l.flatMap pairCells)) {g i off : Nat} {u : Ob × Ob} (ha : t.a = some ⟨g, 0, none⟩) (hu : l[i]? = some u) (he : off = i * 16 + 8) :
    w.cell? ⟨g, off, none⟩ = some (.int .i64 u.2.k) ∧ w.cell? ⟨g, off + 1, none⟩ = some (.bool u.2.x) ∧ w.cell? ⟨g, off + 2, none⟩ = some (.int .i64 u.2.ac) ∧ w.cell? ⟨g, off + 3, none⟩ = some (.int .i64 u.2.n) ∧
      w.cell? ⟨g, off + 4, none⟩ = some (.string u.2.nm) ∧ w.cell? ⟨g, off + 5, none⟩ = some (.int .i64 u.2.rf) ∧ w.cell? ⟨g, off + 6, none⟩ = some (.int .i64 u.2.fr) ∧ w.cell? ⟨g, off + 7, none⟩ = some (.int .i64 u.2.ln) := by
  subst he
  have H := cells_val hr ha hu
  exact ⟨H 0 _ rfl, H 1 _ rfl, H 2 _ rfl, H 3 _ rfl, H 4 _ rfl, H 5 _ rfl, H 6 _ rfl, H 7 _ rfl⟩
set_option maxRecDepth 100000 in
set_option maxHeartbeats 2000000 in
/-- (*Store).Set, of a dictionary that is there, a valid value and a key. -/
theorem set_c (s : Sto w p σ h ρ) (x : Bool) (ac n : Int) (nm : ByteArray) (r : Nat) (fr ln : Int) {D : Dc} (hD : σ.dicts[r]? = some D)
    (k' : Int) (x' : Bool) (ac' n' : Int) (nm' : ByteArray) (rf' fr' ln' : Int) (hn' : I64 n') {k1 : Int} {x1 : Bool} {a1 n1 : Int} {m1 : ByteArray} {r1 f1 l1 : Int} (hk : σ.key ⟨k', x', ac', n', nm', rf', fr', ln'⟩ = (⟨k1, x1, a1, n1, m1, r1, f1, l1⟩, 0))
    (kv : Int) (xv : Bool) (av nv : Int) (mv : ByteArray) (rv fv lv : Int) (hv : σ.valid ⟨kv, xv, av, nv, mv, rv, fv, lv⟩ = true) (hn : σ.changes.length + 1 ≤ 4294967296) {q : St × Int}
    (hq : σ.setD r D ⟨k1, x1, a1, n1, m1, r1, f1, l1⟩ ⟨kv, xv, av, nv, mv, rv, fv, lv⟩ = q) :
    Calls Try.prog 36 #[.pointer (some ⟨p, 0, none⟩), .agg #[.int .i64 8, .bool x, .int .i64 ac, .int .i64 n, .string nm, .int .i64 r, .int .i64 fr, .int .i64 ln],
        .agg #[.int .i64 k', .bool x', .int .i64 ac', .int .i64 n', .string nm', .int .i64 rf', .int .i64 fr', .int .i64 ln'], .agg #[.int .i64 kv, .bool xv, .int .i64 av, .int .i64 nv, .string mv, .int .i64 rv, .int .i64 fv, .int .i64 lv]] w fun e w' =>
      e = .returned (.int .i64 q.2) ∧ StoTo w w' p ρ q.1 := by
  obtain ⟨iP, hiP, hzP, hsP, hbP⟩ := info_parts info_pair
  have hrl := getElem?_lt hD
  have hrl2 : r < 1048576 := by have := s.ok.room; have := s.ok.free0; omega
  have hK := Lib.hid hk
  have hV := Lib.hid hv
  have hHq := Lib.hid hq
  have hHD := Lib.hid hD
  clear hk hv hq hD
  go_enter Try.func36, Try.ntmps36
  go_upto_region 1 with fail
  generalize hX : World.alloc (World.alloc (World.alloc w _) _) _ = X
  obtain ⟨hx, hBd, hBk, hBv⟩ := boxed3 hX
  clear hX
  have hc := hBd.cell
  go_upto_region 3 with (first
    | (go_at_call 61; refine (is_b (b := true) (s.ext hx) _ _ _ _ _ _ _ _ _ (isA_dict hrl)).mono ?_; rintro e w1 ⟨rfl, hx1⟩; have hcv := (hBv.ext hx1).cell)
    | (go_at_call 46; refine (valid_b (b := true) (s.ext (hx.trans_ hx1)) _ _ _ _ _ _ _ _ hV.out).mono ?_; rintro e w2 ⟨rfl, hx2⟩))
  clear hc hcv
  have hx3 := (hx.trans_ hx1).trans_ hx2
  have hBd1 := (hBd.ext hx1).ext hx2
  have hBk1 := (hBk.ext hx1).ext hx2
  have hBv1 := (hBv.ext hx1).ext hx2
  have hc := hBk1.cell
  go_upto_region 4 with (go_at_call 86; refine (key_e (s.ext hx3) _ _ _ _ _ _ _ _ hn' hK.out).mono ?_; rintro e w3 ⟨rfl, hx4⟩; have hc2 := (hBk1.ext hx4).cell; have hf2 := (hBk1.ext hx4).frozen)
  clear hc hc2 hf2
  have ho := set8_only w3 (w.heap.size + 1) (.int .i64 k1) (.bool x1) (.int .i64 a1) (.int .i64 n1) (.string m1) (.int .i64 r1) (.int .i64 f1) (.int .i64 l1)
  have hZ := (hx3.trans_ hx4).only ho (by omega)
  have hBk2 := set8_blk (hBk1.ext hx4) (.int .i64 k1) (.bool x1) (.int .i64 a1) (.int .i64 n1) (.string m1) (.int .i64 r1) (.int .i64 f1) (.int .i64 l1)
  have hBd2 := (hBd1.ext hx4).keep (ho.block w.heap.size (by omega))
  have hBv2 := (hBv1.ext hx4).keep (ho.block (w.heap.size + 2) (by omega))
  unfold set8 at ho hZ hBk2 hBd2 hBv2
  generalize World.setCell _ ⟨w.heap.size + 1, 7, none⟩ (.int .i64 l1) = Z at ho hZ hBk2 hBd2 hBv2 ⊢
  clear ho hBk1 hBd1 hBv1 hBd hBk hBv hx1 hx2 hx3 hx4
  have sZ := s.ext hZ
  obtain ⟨g, d, D', ha, hds, hD', hcell, hblk, hrow, hro1, hro2, hglt, hdn, hok1, hok2⟩ := sZ.dict_at hrl
  rw [hHD.out] at hD'
  injection hD' with hD'
  subst hD'
  have hmain := sZ.main
  rw [ha] at hmain
  have hrn : r < h.dicts.n := by rw [s.ndicts]; exact hrl
  have hHn := Lib.hid hdn
  have hHs := Lib.hid hds
  clear hdn ha hds
  go_upto_region 6 with fail
  have y1 := fun (E : ExtOf Z) i => (E.cells hmain.lt i).trans (hmain.cell i)
  have y2 := fun (E : ExtOf Z) i => (E.cells hBd2.lt i).trans (hBd2.cell i)
  have y3 : ∀ (E : ExtOf Z), E.w.cell? ⟨g, r, none⟩ = some (.pointer (some ⟨d.1, 0, none⟩)) := fun E => (E.cells hglt r).trans hcell
  clear hcell
  refine wp_region_ext (by kernel_rfl) (by kernel_rfl) ?_
  repeat (go_big_quiet_step (fail))
  refine wpQuiet_nil fun E => ?_
  clear y1 y2 y3
  have hcK := (hBk2.ext E.h).cell
  go_upto_region 10 with (go_at_call 87; refine (dictAt_c (hblk.ext E.h) (hrow.ext E.h) hHn.out _ _ _ _ _ _ _ _).mono ?_; rintro e w4 ⟨rfl, hx4⟩)
  clear hcK
  have hY := (hZ.trans_ E.h).trans_ hx4
  have hEY := E.h.trans_ hx4
  have sY := s.ext hY
  have hBd3 := hBd2.ext hEY
  have hBk3 := hBk2.ext hEY
  have hBv3 := hBv2.ext hEY
  have hbY := hblk.ext hEY
  have hrY := hrow.ext hEY
  clear hBd2 hBk2 hBv2 hblk hrow sZ hmain hx4
  rcases idxOf_cases (isKey ⟨k1, x1, a1, n1, m1, r1, f1, l1⟩) D.pairs with ⟨hi1, -⟩ | ⟨i, u, hi1, hi2, hi3⟩
  · rw [hi1]
    by_cases hfull : D.most ≤ D.pairs.length
    · have hres := hHq.out
      unfold St.setD at hres
      rw [hi1, if_neg (by omega), if_pos hfull] at hres
      subst hres
      have hfull2 : D.most ≤ (d.2.n : Int) := by rw [hHn.out]; exact hfull
      clear hfull hi1
      go_upto_region 13 with fail
      have y1 := fun (F : ExtOf w4) i => (F.cells hbY.lt i).trans (hbY.cell i)
      refine wp_region_ext (by kernel_rfl) (by kernel_rfl) ?_
      repeat (go_big_quiet_step (fail))
      refine wpQuiet_nil fun F => ?_
      go_wp2
      go_ret
      exact ⟨rfl, s.to_ext (hY.trans_ F.h)⟩
    · have hres := hHq.out
      unfold St.setD at hres
      rw [hi1, if_neg (by omega), if_neg hfull] at hres
      subst hres
      have hfull2 : ¬ D.most ≤ (d.2.n : Int) := by rw [hHn.out]; exact hfull
      have hfull3 : (d.2.n : Int) < D.most := by omega
      have hnb : d.2.n ≤ 4096 := by omega
      have hlb : (D.pairs.length : Int) < D.most := by omega
      have hLb := Lib.hid hlb
      clear hfull hi1 hlb
      go_upto_region 13 with fail
      have y1 := fun (F : ExtOf w4) i => (F.cells hbY.lt i).trans (hbY.cell i)
      refine wp_region_ext (by kernel_rfl) (by kernel_rfl) ?_
      repeat (go_big_quiet_step (fail))
      refine wpQuiet_nil fun F => ?_
      clear y1
      have hcd := (hBd3.ext F.h).cell
      go_upto_region 9 with (
        go_at_call 62
        refine (note_h (sY.ext F.h) ⟨2, r, 0, (Ob.null, Ob.null)⟩ hn).mono ?_
        rintro e w5 ⟨rfl, v5, ρ5, s5, hm5⟩)
      have hD5 : (σ.noted ⟨2, r, 0, (Ob.null, Ob.null)⟩).dicts[r]? = some D := by rw [noted_dicts]; exact hHD.out
      obtain ⟨hb5, hro5, hr5, hon5⟩ := s5.ds r d D hHs.out hD5
      have hn1 : ¬ ρ.own (w.heap.size + 1) := Roles.not_own (s.fresh (by omega))
      have hn2 : ¬ ρ.own (w.heap.size + 2) := Roles.not_own (s.fresh (by omega))
      have hBk4 := (hBk3.ext F.h).moves hm5 hn1
      have hBv4 := (hBv3.ext F.h).moves hm5 hn2
      have hne : d.2.blk ≠ some d.1 := fun e => by have := hon5 _ e; rw [hro5] at this; cases this
      have hnk : d.2.blk ≠ some (w.heap.size + 1) := fun e => by
        have := hon5 _ e
        rcases hm5.foot (w.heap.size + 1) (by unfold Roles.own; rw [this]; simp) with h1 | h1
        · exact hn1 h1
        · have := (hBk3.ext F.h).lt; omega
      have hnv : d.2.blk ≠ some (w.heap.size + 2) := fun e => by
        have := hon5 _ e
        rcases hm5.foot (w.heap.size + 2) (by unfold Roles.own; rw [this]; simp) with h1 | h1
        · exact hn2 h1
        · have := (hBv3.ext F.h).lt; omega
      have y1 := fun (G : But w5 (fun b => d.2.blk = some b)) i => (G.cells hb5.lt hne i).trans (hb5.cell i)
      have y2 := fun (G : But w5 (fun b => d.2.blk = some b)) i => (G.cells hBk4.lt hnk i).trans (hBk4.cell i)
      have y3 := fun (G : But w5 (fun b => d.2.blk = some b)) i => (G.cells hBv4.lt hnv i).trans (hBv4.cell i)
      clear hcd
      refine wp_region_plan (C := fun w' => ∃ E : But w5 (fun b => d.2.blk = some b), w' = E.w) [true, true, true, true, true, true, true, true, false, false, false, false, false] 9 1 (by kernel_rfl) (by kernel_rfl) (fun c a d v w h => by cases d <;> exact h) (InBut.of (Nat.le_refl _) fun _ _ _ => rfl) ?_
      simp only [pickQ, pickT]
      repeat (go_big_quiet_step (fail))
      refine wpQuiet_nil ?_
      clear y1 y2 y3
      refine wpTail_cons (fun K hK => ?_)
      go_simp
      refine hK _ _ (InBut.of (by simp) fun b hb _ => Below.heap_alloc _ _ _ hb) ?_
      clear hK K
      refine wpTail_zero ?_
      go_wp2_with (
        at_builtin
        refine wpList_app (by rfl) _ _ _ (by rfl) 122 iP _ 16 144 Try.underlying142 hiP hzP hsP hbP rfl (by omega) d.2 (by rfl) (hr5.alloc _).drew (by rfl) (View.of_blk (n := 1) (Blk.new w5 _ _).drew rfl) ?_ ?_ ?_ ?_
        · intro u hu
          simp only [List.mem_cons, List.mem_nil_iff, or_false] at hu
          rcases hu with rfl | rfl | rfl | rfl | rfl | rfl | rfl | rfl | rfl | rfl | rfl | rfl | rfl | rfl | rfl | rfl <;> rfl
        · simp only [maxLen]; omega
        · omega
        intro v' w6 hrow6 hlen hgrow hat
        obtain ⟨hg1, hg2, hg3, hg4, hg5⟩ := fld_app (H := w5.heap.size + 1) hb5 hne (((Ext.rfl_ w5).alloc_ _).drew_) hgrow (by rcases hat with hat | hat; exact .inl hat; exact .inr (by rw [hat]; simp)) (by omega) hrow6 2 (.slice v'.a v'.n v'.c)
        have z0 := hg1.cell
        have z1 := hg1.frozen)
      go_ret
      refine ⟨rfl, ?_⟩
      have hfl : List.flatMap pairCells D.pairs ++ [Value.int .i64 k1, .bool x1, .int .i64 a1, .int .i64 n1, .string m1, .int .i64 r1, .int .i64 f1, .int .i64 l1, .int .i64 kv, .bool xv, .int .i64 av, .int .i64 nv, .string mv, .int .i64 rv, .int .i64 fv, .int .i64 lv] =
          (D.pairs ++ [((⟨k1, x1, a1, n1, m1, r1, f1, l1⟩ : Ob), (⟨kv, xv, av, nv, mv, rv, fv, lv⟩ : Ob))]).flatMap pairCells := by simp [pairCells, Ob.cells]
      rw [hfl] at hg3
      obtain ⟨ρ6, s6, h6⟩ := s5.setDict (x' := { D with pairs := D.pairs ++ [(⟨k1, x1, a1, n1, m1, r1, f1, l1⟩, ⟨kv, xv, av, nv, mv, rv, fv, lv⟩)] }) hHs.out hD5 v' hg2 hg3 (by
        rcases hat with hat | hat
        · exact .inl hat
        · exact .inr ⟨_, hat, by simp⟩) (fun b hb h1 h2 => hg5.block b hb (fun he => he.elim h1 h2)) hg5.size ⟨by have := hLb.out; simp; omega, hok2⟩
      rw [noted_dicts] at s6
      refine ⟨_, ρ6, s6, ?_⟩
      have hm6 : Moves w5 (w6.setCell ⟨d.1, 2, none⟩ (.slice v'.a v'.n v'.c)) ρ5.own ρ6.own := ⟨hg5.os, hg5.tape, hg5.output, hg5.size, fun b hb hn => hg5.block b hb (fun he => by
        rcases he with he | he
        · subst he; exact hn (by unfold Roles.own; rw [hro5]; simp)
        · exact hn (by unfold Roles.own; rw [hon5 b he]; simp)), h6⟩
      exact Moves.ext_left (hY.trans_ F.h) (hm5.trans_ hm6)
  · rw [hi1]
    have hil : i < D.pairs.length := getElem?_lt hi2
    have hres := hHq.out
    unfold St.setD at hres
    have hget : D.pairs.getD i (Ob.null, Ob.null) = u := by simp [List.getD, hi2]
    rw [hi1, if_pos (by omega), Int.toNat_natCast, hget] at hres
    subst hres
    have hin : i < d.2.n := by rw [hHn.out]; exact hil
    obtain ⟨g2, hg2, hg2b⟩ := hrY.pos (show 0 < d.2.n by omega)
    have hcap := hrY.cap_le
    simp only [maxLen] at hcap
    obtain ⟨⟨kA, xA, aA, nA, mA, rA, fA, lA⟩, ⟨kB, xB, aB, nB, mB, rB, fB, lB⟩⟩ := u
    have hU := Lib.hid hi2
    have hbY' := hbY
    rw [hg2] at hbY'
    clear hi1 hi2 hi3 hget
    go_upto_region 11 with fail
    have y1 := fun (F : ExtOf w4) i => (F.cells hbY'.lt i).trans (hbY'.cell i)
    have y2 := fun (F : ExtOf w4) i => (F.cells hBd3.lt i).trans (hBd3.cell i)
    have hcells := fun (F : ExtOf w4) => cells_pair (hrY.ext F.h) hg2 hU.out
    refine wp_region_ext_tail 12 (by kernel_rfl) (by kernel_rfl) ?_
    simp only [List.take_succ_cons, List.take_zero, List.drop_succ_cons, List.drop_zero]
    repeat (go_big_quiet_step (fail))
    go_big_quiet_want
    refine quiet_load_at (cs := [.int .i64 kA, .bool xA, .int .i64 aA, .int .i64 nA, .string mA, .int .i64 rA, .int .i64 fA, .int .i64 lA, .int .i64 kB, .bool xB, .int .i64 aB, .int .i64 nB, .string mB, .int .i64 rB, .int .i64 fB, .int .i64 lB]) _ (by rfl) (by rfl) (fun w' hw' => by obtain ⟨F, rfl⟩ := hw'; exact hcells F) Try.underlying122 (by kernel_rfl) ?_
    simp only [Act.put, List.setIfInBounds_toArray, List.set_cons_zero, List.set_cons_succ]
    go_big_quiet_on
    repeat (go_big_quiet_step (fail))
    refine wpQuiet_nil fun F => ?_
    clear y1 y2 hcells
    go_upto_region 12 with (
      go_at_call 62
      refine (note_h (sY.ext F.h) ⟨1, r, i, (⟨kA, xA, aA, nA, mA, rA, fA, lA⟩, ⟨kB, xB, aB, nB, mB, rB, fB, lB⟩)⟩ hn).mono ?_
      rintro e w5 ⟨rfl, v5, ρ5, s5, hm5⟩)
    have hD5 : (σ.noted ⟨1, r, i, (⟨kA, xA, aA, nA, mA, rA, fA, lA⟩, ⟨kB, xB, aB, nB, mB, rB, fB, lB⟩)⟩).dicts[r]? = some D := by rw [noted_dicts]; exact hHD.out
    obtain ⟨hb5, hro5, hr5, hon5⟩ := s5.ds r d D hHs.out hD5
    have hn2 : ¬ ρ.own (w.heap.size + 2) := Roles.not_own (s.fresh (by omega))
    have hBv4 := (hBv3.ext F.h).moves hm5 hn2
    have hne : d.2.blk ≠ some d.1 := fun e => by have := hon5 _ e; rw [hro5] at this; cases this
    have hb5' := hb5
    rw [hg2] at hb5'
    have y1 := fun (G : ExtOf w5) j => (G.cells hb5'.lt j).trans (hb5'.cell j)
    have y3 := fun (G : ExtOf w5) j => (G.cells hBv4.lt j).trans (hBv4.cell j)
    refine wp_region_ext_tail 8 (by kernel_rfl) (by kernel_rfl) ?_
    simp only [List.take_succ_cons, List.take_zero, List.drop_succ_cons, List.drop_zero]
    repeat (go_big_quiet_step (fail))
    refine wpQuiet_nil fun G => ?_
    clear y1 y3
    have hr6 := hr5.ext G.h
    obtain ⟨c0, c1, c2, c3, c4, c5, c6, c7⟩ := hr6.val (off := i * 16 + 8) hg2 hU.out rfl
    have hfr := fun j => hr6.frozen hg2 j
    go_wp2
    go_ret
    refine ⟨rfl, ?_⟩
    have ho := setO_only G.w g2 (i * 16 + 8) (.int .i64 kv) (.bool xv) (.int .i64 av) (.int .i64 nv) (.string mv) (.int .i64 rv) (.int .i64 fv) (.int .i64 lv)
    have hw := hr6.set_val (q := i) (off := i * 16 + 8) ⟨kv, xv, av, nv, mv, rv, fv, lv⟩ hg2 hU.out rfl
    have hg1 : g2 ≠ d.1 := by rintro rfl; exact hne hg2b
    have s6' := s5.ext G.h
    obtain ⟨ρ6, s6, h6⟩ := s6'.setDict (x' := { D with pairs := D.pairs.set i (⟨kA, xA, aA, nA, mA, rA, fA, lA⟩, ⟨kv, xv, av, nv, mv, rv, fv, lv⟩) }) hHs.out hD5 d.2 ((hb5.ext G.h).keep (ho.block _ (Ne.symm hg1))) hw (.inl rfl) (fun b hb h1 h2 => ho.block b (by rintro rfl; exact h2 hg2b)) (Nat.le_of_eq ho.size.symm) ⟨by simpa using hok1, hok2⟩
    rw [noted_dicts] at s6
    refine ⟨_, ρ6, s6, ?_⟩
    have hm6 : Moves G.w (setO G.w g2 (i * 16 + 8) (.int .i64 kv) (.bool xv) (.int .i64 av) (.int .i64 nv) (.string mv) (.int .i64 rv) (.int .i64 fv) (.int .i64 lv)) ρ5.own ρ6.own :=
      ⟨ho.os, ho.tape, ho.output, Nat.le_of_eq ho.size.symm, fun b hb hn => ho.block b (by rintro rfl; exact hn (by unfold Roles.own; rw [hon5 _ hg2b]; simp)), h6⟩
    exact Moves.ext_left (hY.trans_ F.h) ((hm5.ext_right G.h).trans_ hm6)
end
end Go.Proofs.Ythhckledkhcfeaa
namespace Go.Proofs.Ythhckledkhcfeaa
open Go.RowKit
section
variable {w w' : World} {p : Nat} {σ : St} {h : Hd} {ρ : Roles}
theorem access_no (s : Sto w p σ h ρ) (k : Int) (x : Bool) (ac n : Int) (nm : ByteArray) (rf fr ln : Int) (hno : σ.isA ⟨k, x, ac, n, nm, rf, fr, ln⟩ 8 = false) :
    Calls Try.prog 56 #[.pointer (some ⟨p, 0, none⟩), .agg #[.int .i64 k, .bool x, .int .i64 ac, .int .i64 n, .string nm, .int .i64 rf, .int .i64 fr, .int .i64 ln]] w fun e w' => e = .returned (.int .i64 0) ∧ Ext w w' := by
  go_enter Try.func56, Try.ntmps56
  go_upto_region 1 with fail
  generalize hX : World.alloc w _ = X
  obtain ⟨hx, hcX, hfX, hzX, hbX⟩ := boxed hX
  clear hX hfX
  go_wp2_with (go_at_call 61; refine (is_b (b := false) (s.ext hx) _ _ _ _ _ _ _ _ _ hno).mono ?_; rintro e w1 ⟨rfl, hx1⟩)
  go_ret
  exact ⟨rfl, hx.trans_ hx1⟩
theorem size_no (s : Sto w p σ h ρ) (k : Int) (x : Bool) (ac n : Int) (nm : ByteArray) (rf fr ln : Int) (hno : σ.isA ⟨k, x, ac, n, nm, rf, fr, ln⟩ 8 = false) :
    Calls Try.prog 81 #[.pointer (some ⟨p, 0, none⟩), .agg #[.int .i64 k, .bool x, .int .i64 ac, .int .i64 n, .string nm, .int .i64 rf, .int .i64 fr, .int .i64 ln]] w fun e w' => e = .returned (.tuple #[.int .i64 0, .int .i64 0, .int .i64 21]) ∧ Ext w w' := by
  go_enter Try.func81, Try.ntmps81
  go_upto_region 1 with fail
  generalize hX : World.alloc w _ = X
  obtain ⟨hx, hcX, hfX, hzX, hbX⟩ := boxed hX
  clear hX hfX
  go_wp2_with (go_at_call 61; refine (is_b (b := false) (s.ext hx) _ _ _ _ _ _ _ _ _ hno).mono ?_; rintro e w1 ⟨rfl, hx1⟩)
  go_ret3
  exact ⟨rfl, hx.trans_ hx1⟩
theorem size_ok (s : Sto w p σ h ρ) (x : Bool) (ac n : Int) (nm : ByteArray) (r : Nat) (fr ln : Int) {D : Dc} (hD : σ.dicts[r]? = some D) :
    Calls Try.prog 81 #[.pointer (some ⟨p, 0, none⟩), .agg #[.int .i64 8, .bool x, .int .i64 ac, .int .i64 n, .string nm, .int .i64 r, .int .i64 fr, .int .i64 ln]] w fun e w' => e = .returned (.tuple #[.int .i64 D.pairs.length, .int .i64 D.most, .int .i64 0]) ∧ Ext w w' := by
  have hrl := getElem?_lt hD
  have hrl2 : r < 1048576 := by have := s.ok.room; have := s.ok.free0; omega
  obtain ⟨g, d, D', ha, hds, hD', hcell, hblk, hrow, hro1, hro2, hglt, hdn, hok1, hok2⟩ := s.dict_at hrl
  rw [hD] at hD'
  injection hD' with hD'
  subst hD'
  have hmain := s.main
  rw [ha] at hmain
  have hrn : r < h.dicts.n := by rw [s.ndicts]; exact hrl
  have hHD := Lib.hid hD
  rw [hdn] at hblk
  clear hD hds ha hdn hok1 hok2
  go_enter Try.func81, Try.ntmps81
  go_upto_region 1 with fail
  generalize hX : World.alloc w _ = X
  obtain ⟨hx, hcX, hfX, hzX, hbX⟩ := boxed hX
  clear hX hfX
  go_upto_region 3 with (go_at_call 61; refine (is_b (b := true) (s.ext hx) _ _ _ _ _ _ _ _ _ (isA_dict hrl)).mono ?_; rintro e w1 ⟨rfl, hx1⟩)
  clear hcX
  have hxx := hx.trans_ hx1
  have y1 := fun (E : ExtOf w1) i => (E.cells (hmain.ext hxx).lt i).trans ((hmain.ext hxx).cell i)
  have y2 := fun (E : ExtOf w1) i => (E.cells (hbX.ext hx1).lt i).trans ((hbX.ext hx1).cell i)
  have y3 : ∀ (E : ExtOf w1), E.w.cell? ⟨g, r, none⟩ = some (.pointer (some ⟨d.1, 0, none⟩)) := fun E => ((hxx.trans_ E.h).cells hglt r).trans hcell
  clear hcell
  refine wp_region_ext (by kernel_rfl) (by kernel_rfl) ?_
  repeat (go_big_quiet_step (fail))
  refine wpQuiet_nil fun E => ?_
  clear y1 y2 y3
  have hxE := hxx.trans_ E.h
  generalize E.w = W at hxE ⊢
  clear E
  go_upto_region 4 with fail
  have y4 := fun (E : ExtOf W) i => (E.cells (hblk.ext hxE).lt i).trans ((hblk.ext hxE).cell i)
  refine wp_region_ext (by kernel_rfl) (by kernel_rfl) ?_
  repeat (go_big_quiet_step (fail))
  refine wpQuiet_nil fun E => ?_
  go_wp2
  go_ret3
  exact ⟨rfl, hxE.trans_ E.h⟩
end
end Go.Proofs.Ythhckledkhcfeaa
