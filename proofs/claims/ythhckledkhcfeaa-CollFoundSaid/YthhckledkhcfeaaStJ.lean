/- The store's functions, part J: two objects the same; the place of a key. -/
import Derived.Test.YthhckledkhcfeaaStI
import Derived.Deep.LoopGhost
import Derived.Laws.StructEq
import Derived.Laws.BytesString
import Derived.Laws.IdiomStrings
namespace Go.Proofs.Ythhckledkhcfeaa
open Go.RowKit
/-- Are two objects one and the same? -/
def obEq (a b : Ob) : Bool := a.k == b.k && (a.x == b.x && (a.ac == b.ac && (a.n == b.n && (a.nm.toList == b.nm.toList && (a.rf == b.rf && (a.fr == b.fr && a.ln == b.ln))))))
theorem obEq_self (a : Ob) : obEq a a = true := by simp [obEq]
theorem run_obEq (w : World) (a b : Ob) : (binOp .eql 27 (.agg a.cells.toArray) (.agg b.cells.toArray)).run Try.prog w = .ok (.bool (obEq a b)) w := by
  have hp : Try.prog.stoodInHeld 27 = false := by kernel_rfl
  have hu := Try.underlying27
  have hi := Try.underlying3
  have hb := Try.underlying4
  have hs := Try.underlying9
  have c3 : Try.prog.cellsOf 3 = 1 := by kernel_rfl
  have c4 : Try.prog.cellsOf 4 = 1 := by kernel_rfl
  have c9 : Try.prog.cellsOf 9 = 1 := by kernel_rfl
  simp [go_sem, Ob.cells, hp, hu, hi, hb, hs, c3, c4, c9]
  unfold obEq
  repeat' split
  all_goals simp_all
/-- The first place where something is so; none: -1. -/
def idxOf {α : Type} (f : α → Bool) (l : List α) : Int := match l.findIdx? f with | some i => (i : Int) | none => -1
theorem idxOf_some {α : Type} {f : α → Bool} {l : List α} {i : Nat} {s : α} (hi : l[i]? = some s) (hs : f s = true) (hno : ∀ (q : Nat) (u : α), q < i → l[q]? = some u → f u = false) : idxOf f l = i := by
  have : l.findIdx? f = some i := by
    rw [List.findIdx?_eq_some_iff_getElem]
    obtain ⟨hlt, he⟩ := List.getElem?_eq_some_iff.1 hi
    refine ⟨hlt, by rw [he]; exact hs, fun j hj => ?_⟩
    have := hno j l[j] hj (List.getElem?_eq_getElem (by omega))
    simpa using this
  simp only [idxOf, this]
theorem idxOf_none {α : Type} {f : α → Bool} {l : List α} (hno : ∀ (q : Nat) (u : α), l[q]? = some u → f u = false) : idxOf f l = -1 := by
  have : l.findIdx? f = none := by
    rw [List.findIdx?_eq_none_iff]
    intro u hu
    obtain ⟨q, hq⟩ := List.getElem?_of_mem hu
    exact hno q u hq
  simp only [idxOf, this]
theorem idxOf_cases {α : Type} (f : α → Bool) (l : List α) : (idxOf f l = -1 ∧ ∀ u ∈ l, f u = false) ∨ ∃ (i : Nat) (u : α), idxOf f l = i ∧ l[i]? = some u ∧ f u = true := by
  unfold idxOf
  cases hq : l.findIdx? f with
  | none => exact .inl ⟨rfl, by simpa using hq⟩
  | some i =>
    obtain ⟨hlt, he, -⟩ := List.findIdx?_eq_some_iff_getElem.1 hq
    exact .inr ⟨i, l[i], rfl, List.getElem?_eq_getElem hlt, he⟩
theorem length_pair (q : Ob × Ob) : (pairCells q).length = 16 := rfl
section
variable {w : World} {p : Nat} {σ : St} {h : Hd} {ρ : Roles}
theorem Sto.dict_at (s : Sto w p σ h ρ) {r : Nat} (hr : r < σ.dicts.length) :
    ∃ g d x, h.dicts.a = some ⟨g, 0, none⟩ ∧ h.ds[r]? = some d ∧ σ.dicts[r]? = some x ∧ w.cell? ⟨g, r, none⟩ = some (.pointer (some ⟨d.1, 0, none⟩)) ∧ Blk w d.1 144 [.int .i64 x.most, .int .i64 x.access, .slice d.2.a d.2.n d.2.c] ∧
      Row w 122 16 d.2 (x.pairs.flatMap pairCells) ∧ ρ d.1 = some (.dict r) ∧ d.2.on ρ (.pairs r) ∧ g < w.heap.size ∧ d.2.n = x.pairs.length ∧ (x.pairs.length : Int) ≤ x.most ∧ x.most ≤ 4096 := by
  have hrt : r < h.ds.length := by have := s.nds; omega
  have hl := s.ndicts
  obtain ⟨hblk, hrole, hrow, hon⟩ := s.ds r (h.ds[r]) (σ.dicts[r]) (List.getElem?_eq_getElem hrt) (List.getElem?_eq_getElem hr)
  obtain ⟨g, hg, hgb⟩ := s.dicts.pos (by omega)
  have hd := s.ok.dict _ (List.getElem_mem hr)
  refine ⟨g, h.ds[r], σ.dicts[r], hg, List.getElem?_eq_getElem hrt, List.getElem?_eq_getElem hr, ?_, hblk, hrow, hrole, hon, s.dicts.blk_lt hgb, ?_, hd.1, hd.2⟩
  · rw [s.dicts.cell hg r (by omega)]
    simp [ptrVals, hrt]
  · have := hrow.len
    rw [length_flat _ 16 length_pair] at this
    omega
end
/-- Is this pair the key's? -/
abbrev isKey (k : Ob) (q : Ob × Ob) : Bool := obEq q.1 k
set_option maxRecDepth 100000 in
theorem at1_pair {w : World} {b : Nat} {k : Ob} (h : Blk w b 27 k.cells) (u : Ob × Ob) {q : Bool} (hq : isKey k u = q) :
    Calls Try.prog 121 #[.agg (pairCells u).toArray, .pointer (some ⟨b, 0, none⟩)] w fun e w' => e = .returned (.bool q) ∧ Ext w w' := by
  have hX := h.alloc (.cells (pairCells u).toArray 122)
  have hU := Blk.new w 122 (pairCells u)
  have hE := fun w => run_obEq w u.1 k
  subst hq
  obtain ⟨⟨kA, xA, aA, nA, mA, rA, fA, lA⟩, ⟨kB, xB, aB, nB, mB, rB, fB, lB⟩⟩ := u
  obtain ⟨kK, xK, aK, nK, mK, rK, fK, lK⟩ := k
  have hc := hX.cell
  have hu := hU.cell
  simp only [pairCells, Ob.cells, List.cons_append, List.nil_append] at hE hc hu ⊢
  go_enter Try.func121, Try.ntmps121
  go_wp2
  go_ret
  exact ⟨rfl, (Ext.rfl_ w).alloc_ _⟩
theorem index_pair {w : World} {b : Nat} {t : Sl} {l : List (Ob × Ob)} {k : Ob} (hr : Row w 122 16 t (l.flatMap pairCells)) (hn : t.n = l.length) (h : Blk w b 27 k.cells) :
    Calls Try.prog 120 #[.slice t.a t.n t.c, .func (.func 121) #[] #[.pointer (some ⟨b, 0, none⟩)]] w fun e w' => e = .returned (.int .i64 (idxOf (isKey k) l)) ∧ Ext w w' := by
  have hcap := hr.cap_le
  obtain ⟨a, tn, tc⟩ := t
  dsimp only at hn hcap
  obtain ⟨hcap1, hcap2⟩ := hcap
  simp only [maxLen] at hcap2
  have hHn := Lib.hid hn
  clear hn
  go_enter Try.func120, Try.ntmps120
  go_wp2_with fail
  go_loopg [8] tn (fun k8 s8 wr => ∃ i : Nat, i ≤ tn ∧ k8 = tn - i ∧ s8 = .int .i64 i ∧ (∀ (q : Nat) (u : Ob × Ob), q < i → l[q]? = some u → isKey k u = false) ∧ Ext w wr)
  case atStart => exact ⟨0, by omega, by omega, rfl, (by intro q u hq; omega), Ext.rfl_ w⟩
  case round =>
    obtain ⟨i, hi, hk, hs8, hno, hx⟩ := hrel
    subst hs8
    have hNo := Lib.hid hno
    clear hno
    by_cases hlt : i < tn
    · obtain ⟨g, ha, hg⟩ := hr.pos (show 0 < tn by omega)
      dsimp only at ha
      subst ha
      obtain ⟨u, hu⟩ : ∃ u, l[i]? = some u := ⟨_, List.getElem?_eq_getElem (by have := hHn.out; omega)⟩
      have hHu := Lib.hid hu
      clear hu
      have hrx := hr.ext hx
      have hcells : ∀ q v, (pairCells u)[q]? = some v → wr.cell? ⟨g, i * 16 + q, none⟩ = some v := fun q v hv => (hrx.item length_pair rfl hHu.out (by have := (List.getElem?_eq_some_iff.1 hv).1; rw [length_pair] at this; exact this)).trans hv
      cases hq : isKey k u with
      | true =>
        have hQ := Lib.hid hq
        clear hq
        go_wp2_with (first
          | (go_at_call 121; refine (at1_pair (h.ext hx) u hQ.out).mono ?_; rintro e w1 ⟨rfl, hx1⟩)
          | (refine wpList_load_at (ty := 122) (cs := pairCells u) (by rfl) _ (by rfl) (by rfl) hcells Try.underlying122 (by kernel_rfl) ?_))
        go_ret
        exact ⟨by rw [idxOf_some hHu.out hQ.out hNo.out]; rfl, hx.trans_ hx1⟩
      | false =>
        have hQ := Lib.hid hq
        clear hq
        go_wp2_with (first
          | (go_at_call 121; refine (at1_pair (h.ext hx) u hQ.out).mono ?_; rintro e w1 ⟨rfl, hx1⟩)
          | (refine wpList_load_at (ty := 122) (cs := pairCells u) (by rfl) _ (by rfl) (by rfl) hcells Try.underlying122 (by kernel_rfl) ?_))
        go_roundg (tn - (i + 1))
        case measure => omega
        case rel =>
          refine ⟨i + 1, by omega, rfl, by simp, ?_, hx.trans_ hx1⟩
          intro q u' hq' hu'
          rcases Nat.lt_or_ge q i with h1 | h1
          · exact hNo.out q u' h1 hu'
          · obtain rfl : q = i := by omega
            rw [hHu.out] at hu'
            injection hu' with hu'
            subst hu'
            exact hQ.out
    · go_wp2_with fail
      go_ret
      refine ⟨?_, hx⟩
      rw [idxOf_none]
      · rfl
      intro q u hu
      exact hNo.out q u (by have := (List.getElem?_eq_some_iff.1 hu).1; have := hHn.out; omega) hu
/-- (*dict).at. -/
theorem dictAt_c {w : World} {d : Nat} {t : Sl} {c0 c1 : Value} {l : List (Ob × Ob)} (hd : Blk w d 144 [c0, c1, .slice t.a t.n t.c]) (hr : Row w 122 16 t (l.flatMap pairCells)) (hn : t.n = l.length)
    (k : Int) (x : Bool) (ac n : Int) (nm : ByteArray) (rf fr ln : Int) :
    Calls Try.prog 87 #[.pointer (some ⟨d, 0, none⟩), .agg #[.int .i64 k, .bool x, .int .i64 ac, .int .i64 n, .string nm, .int .i64 rf, .int .i64 fr, .int .i64 ln]] w fun e w' => e = .returned (.int .i64 (idxOf (isKey ⟨k, x, ac, n, nm, rf, fr, ln⟩) l)) ∧ Ext w w' := by
  have hmf : ∀ (fn : Fn) (first cap : Array Value) (w : World), (Instr.makeFunc fn first cap).run Try.prog w = .ok (.func fn first cap) w := fun _ _ _ _ => rfl
  have hHn := Lib.hid hn
  clear hn
  go_enter Try.func87, Try.ntmps87
  go_upto_region 1 with fail
  generalize hX : World.alloc w _ = X
  obtain ⟨hx, hcX, hfX, hzX, hbX⟩ := boxed hX
  clear hX
  have hc := (hd.ext hx).cell
  go_wp2_with (go_at_call 120; refine (index_pair (k := ⟨k, x, ac, n, nm, rf, fr, ln⟩) (hr.ext hx) hHn.out hbX).mono ?_; rintro e w1 ⟨rfl, hx1⟩)
  go_ret
  exact ⟨rfl, hx.trans_ hx1⟩
end Go.Proofs.Ythhckledkhcfeaa
