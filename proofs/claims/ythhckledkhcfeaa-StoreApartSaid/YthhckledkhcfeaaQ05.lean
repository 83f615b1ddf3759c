/- slices.Clone at each type, bytes.Clone. Printed by a small program of mine. The store's functions, part G: Bytes, Items, At, Part, Write. -/
import Derived.Test.YthhckledkhcfeaaQ04
namespace Go.Proofs.Ythhckledkhcfeaa
open Go.RowKit
theorem info_chg : (Try.prog.info? 124).map (fun i => (i.zero, i.size, i.bytes)) = some (some (.agg (#[.int .i64 0, .int .i64 0, .int .i64 0] ++ (Ob.null.cells ++ Ob.null.cells).toArray)), 19, 168) := by kernel_rfl
theorem info_szs : (Try.prog.info? 140).map (fun i => (i.zero, i.size, i.bytes)) = some (some (.agg #[.int .i64 0, .int .i64 0, .int .i64 0, .int .i64 0, .int .i64 0]), 5, 40) := by kernel_rfl
theorem info_pair : (Try.prog.info? 122).map (fun i => (i.zero, i.size, i.bytes)) = some (some (.agg ((Ob.null.cells ++ Ob.null.cells).toArray)), 16, 144) := by kernel_rfl

theorem cloneObs {w : World} {A : Option Addr} {n : Nat} (c : Nat) {xs : List Value} (hv : View w 8 A n xs) (h1 : ∀ u ∈ xs, u.oneCell' = true) (hn : n ≤ 4294967296) :
    Calls Try.prog 64 #[.slice A n c] w fun e w' => ∃ s : Sl, e = .returned (.slice s.a s.n s.c) ∧ s.n = n ∧ Fresh w w' 27 8 s xs := by
  obtain ⟨iO, hiO, hzO, hsO, hbO⟩ := info_parts info_Obj
  cases A with
  | none =>
    have hxl : xs = [] := by
      cases hq : xs with
      | nil => rfl
      | cons a l => obtain ⟨_, _, h, _⟩ := hv.2 (by rw [hq]; simp); cases h
    have hn0 : n = 0 := by have := hv.1; rw [hxl] at this; simp at this; omega
    subst hxl; subst hn0
    have hq := fun w => Lib.run_eql_slice_nil (P := Try.prog) w 33 27 none 0 c 0 0 Try.underlying33
    go_enter Try.func64, Try.ntmps64
    go_wp2
    go_ret
    exact ⟨Sl.nil, rfl, rfl, Row.nil_ _ _ _, fun g hg => by simp [Sl.blk] at hg, Ext.rfl_ w⟩
  | some ad =>
    have hq := fun w => Lib.run_eql_slice_nil (P := Try.prog) w 33 27 (some ad) n c 0 0 Try.underlying33
    go_enter Try.func64, Try.ntmps64
    go_wp2_with (
      at_builtin
      refine wpList_app (by rfl) _ _ 33 (by rfl) 27 iO _ 8 72 Try.underlying33 hiO hzO hsO hbO rfl (by omega) ⟨some ⟨w.heap.size, 0, none⟩, 0, 0⟩ (by rfl) (Row.lit (cs := []) (n := 0) (Blk.new w 27 []) rfl (by omega)) (by rfl) (hv.ext ((Ext.rfl_ w).alloc_ _)) h1 (by simp only [maxLen]; omega) (by dsimp only; omega) ?_
      intro v' w1 hrow hlen hgrow hat)
    go_ret
    have hsize := hgrow.size
    simp at hsize
    refine ⟨v', rfl, by simpa using hlen.out, by simpa using hrow, fun g hg => ?_, hgrow.os, hgrow.tape, hgrow.output, by omega, fun k hk => (hgrow.block k (by simp; omega) (fun e => by simp [Sl.blk] at e; omega)).trans (Below.heap_alloc _ _ _ hk)⟩
    rcases hat with h2 | h2 <;> rw [hg] at h2 <;> simp [Sl.blk] at h2 <;> omega

theorem cloneBytes {w : World} {A : Option Addr} {n : Nat} (c : Nat) {xs : List Value} (hv : View w 1 A n xs) (h1 : ∀ u ∈ xs, u.oneCell' = true) (hn : n ≤ 4294967296) :
    Calls Try.prog 73 #[.slice A n c] w fun e w' => ∃ s : Sl, e = .returned (.slice s.a s.n s.c) ∧ s.n = n ∧ Fresh w w' 5 1 s xs := by
  obtain ⟨iO, hiO, hzO, hsO, hbO⟩ := info_parts info_u8
  cases A with
  | none =>
    have hxl : xs = [] := by
      cases hq : xs with
      | nil => rfl
      | cons a l => obtain ⟨_, _, h, _⟩ := hv.2 (by rw [hq]; simp); cases h
    have hn0 : n = 0 := by have := hv.1; rw [hxl] at this; simp at this; omega
    subst hxl; subst hn0
    have hq := fun w => Lib.run_eql_slice_nil (P := Try.prog) w 45 5 none 0 c 0 0 Try.underlying45
    go_enter Try.func73, Try.ntmps73
    go_wp2
    go_ret
    exact ⟨Sl.nil, rfl, rfl, Row.nil_ _ _ _, fun g hg => by simp [Sl.blk] at hg, Ext.rfl_ w⟩
  | some ad =>
    have hq := fun w => Lib.run_eql_slice_nil (P := Try.prog) w 45 5 (some ad) n c 0 0 Try.underlying45
    go_enter Try.func73, Try.ntmps73
    go_wp2_with (
      at_builtin
      refine wpList_app (by rfl) _ _ 45 (by rfl) 5 iO _ 1 1 Try.underlying45 hiO hzO hsO hbO rfl (by omega) ⟨some ⟨w.heap.size, 0, none⟩, 0, 0⟩ (by rfl) (Row.lit (cs := []) (n := 0) (Blk.new w 5 []) rfl (by omega)) (by rfl) (hv.ext ((Ext.rfl_ w).alloc_ _)) h1 (by simp only [maxLen]; omega) (by dsimp only; omega) ?_
      intro v' w1 hrow hlen hgrow hat)
    go_ret
    have hsize := hgrow.size
    simp at hsize
    refine ⟨v', rfl, by simpa using hlen.out, by simpa using hrow, fun g hg => ?_, hgrow.os, hgrow.tape, hgrow.output, by omega, fun k hk => (hgrow.block k (by simp; omega) (fun e => by simp [Sl.blk] at e; omega)).trans (Below.heap_alloc _ _ _ hk)⟩
    rcases hat with h2 | h2 <;> rw [hg] at h2 <;> simp [Sl.blk] at h2 <;> omega

theorem cloneByte {w : World} {A : Option Addr} {n : Nat} (c : Nat) {xs : List Value} (hv : View w 1 A n xs) (h1 : ∀ u ∈ xs, u.oneCell' = true) (hn : n ≤ 4294967296) :
    Calls Try.prog 106 #[.slice A n c] w fun e w' => ∃ s : Sl, e = .returned (.slice s.a s.n s.c) ∧ s.n = n ∧ Fresh w w' 5 1 s xs := by
  obtain ⟨iO, hiO, hzO, hsO, hbO⟩ := info_parts info_u8
  cases A with
  | none =>
    have hxl : xs = [] := by
      cases hq : xs with
      | nil => rfl
      | cons a l => obtain ⟨_, _, h, _⟩ := hv.2 (by rw [hq]; simp); cases h
    have hn0 : n = 0 := by have := hv.1; rw [hxl] at this; simp at this; omega
    subst hxl; subst hn0
    have hq := fun w => Lib.run_eql_slice_nil (P := Try.prog) w 45 5 none 0 c 0 0 Try.underlying45
    go_enter Try.func106, Try.ntmps106
    go_wp2
    go_ret
    exact ⟨Sl.nil, rfl, rfl, Row.nil_ _ _ _, fun g hg => by simp [Sl.blk] at hg, Ext.rfl_ w⟩
  | some ad =>
    have hq := fun w => Lib.run_eql_slice_nil (P := Try.prog) w 45 5 (some ad) n c 0 0 Try.underlying45
    go_enter Try.func106, Try.ntmps106
    go_wp2_with (
      at_builtin
      refine wpList_app (by rfl) _ _ 45 (by rfl) 5 iO _ 1 1 Try.underlying45 hiO hzO hsO hbO rfl (by omega) ⟨some ⟨w.heap.size, 0, none⟩, 0, 0⟩ (by rfl) (Row.lit (cs := []) (n := 0) (Blk.new w 5 []) rfl (by omega)) (by rfl) (hv.ext ((Ext.rfl_ w).alloc_ _)) h1 (by simp only [maxLen]; omega) (by dsimp only; omega) ?_
      intro v' w1 hrow hlen hgrow hat)
    go_ret
    have hsize := hgrow.size
    simp at hsize
    refine ⟨v', rfl, by simpa using hlen.out, by simpa using hrow, fun g hg => ?_, hgrow.os, hgrow.tape, hgrow.output, by omega, fun k hk => (hgrow.block k (by simp; omega) (fun e => by simp [Sl.blk] at e; omega)).trans (Below.heap_alloc _ _ _ hk)⟩
    rcases hat with h2 | h2 <;> rw [hg] at h2 <;> simp [Sl.blk] at h2 <;> omega

theorem cloneChg {w : World} {A : Option Addr} {n : Nat} (c : Nat) {xs : List Value} (hv : View w 19 A n xs) (h1 : ∀ u ∈ xs, u.oneCell' = true) (hn : n ≤ 4294967296) :
    Calls Try.prog 77 #[.slice A n c] w fun e w' => ∃ s : Sl, e = .returned (.slice s.a s.n s.c) ∧ s.n = n ∧ Fresh w w' 124 19 s xs := by
  obtain ⟨iO, hiO, hzO, hsO, hbO⟩ := info_parts info_chg
  cases A with
  | none =>
    have hxl : xs = [] := by
      cases hq : xs with
      | nil => rfl
      | cons a l => obtain ⟨_, _, h, _⟩ := hv.2 (by rw [hq]; simp); cases h
    have hn0 : n = 0 := by have := hv.1; rw [hxl] at this; simp at this; omega
    subst hxl; subst hn0
    have hq := fun w => Lib.run_eql_slice_nil (P := Try.prog) w 113 124 none 0 c 0 0 Try.underlying113
    go_enter Try.func77, Try.ntmps77
    go_wp2
    go_ret
    exact ⟨Sl.nil, rfl, rfl, Row.nil_ _ _ _, fun g hg => by simp [Sl.blk] at hg, Ext.rfl_ w⟩
  | some ad =>
    have hq := fun w => Lib.run_eql_slice_nil (P := Try.prog) w 113 124 (some ad) n c 0 0 Try.underlying113
    go_enter Try.func77, Try.ntmps77
    go_wp2_with (
      at_builtin
      refine wpList_app (by rfl) _ _ 113 (by rfl) 124 iO _ 19 168 Try.underlying113 hiO hzO hsO hbO rfl (by omega) ⟨some ⟨w.heap.size, 0, none⟩, 0, 0⟩ (by rfl) (Row.lit (cs := []) (n := 0) (Blk.new w 124 []) rfl (by omega)) (by rfl) (hv.ext ((Ext.rfl_ w).alloc_ _)) h1 (by simp only [maxLen]; omega) (by dsimp only; omega) ?_
      intro v' w1 hrow hlen hgrow hat)
    go_ret
    have hsize := hgrow.size
    simp at hsize
    refine ⟨v', rfl, by simpa using hlen.out, by simpa using hrow, fun g hg => ?_, hgrow.os, hgrow.tape, hgrow.output, by omega, fun k hk => (hgrow.block k (by simp; omega) (fun e => by simp [Sl.blk] at e; omega)).trans (Below.heap_alloc _ _ _ hk)⟩
    rcases hat with h2 | h2 <;> rw [hg] at h2 <;> simp [Sl.blk] at h2 <;> omega

theorem cloneSzs {w : World} {A : Option Addr} {n : Nat} (c : Nat) {xs : List Value} (hv : View w 5 A n xs) (h1 : ∀ u ∈ xs, u.oneCell' = true) (hn : n ≤ 4294967296) :
    Calls Try.prog 78 #[.slice A n c] w fun e w' => ∃ s : Sl, e = .returned (.slice s.a s.n s.c) ∧ s.n = n ∧ Fresh w w' 140 5 s xs := by
  obtain ⟨iO, hiO, hzO, hsO, hbO⟩ := info_parts info_szs
  cases A with
  | none =>
    have hxl : xs = [] := by
      cases hq : xs with
      | nil => rfl
      | cons a l => obtain ⟨_, _, h, _⟩ := hv.2 (by rw [hq]; simp); cases h
    have hn0 : n = 0 := by have := hv.1; rw [hxl] at this; simp at this; omega
    subst hxl; subst hn0
    have hq := fun w => Lib.run_eql_slice_nil (P := Try.prog) w 114 140 none 0 c 0 0 Try.underlying114
    go_enter Try.func78, Try.ntmps78
    go_wp2
    go_ret
    exact ⟨Sl.nil, rfl, rfl, Row.nil_ _ _ _, fun g hg => by simp [Sl.blk] at hg, Ext.rfl_ w⟩
  | some ad =>
    have hq := fun w => Lib.run_eql_slice_nil (P := Try.prog) w 114 140 (some ad) n c 0 0 Try.underlying114
    go_enter Try.func78, Try.ntmps78
    go_wp2_with (
      at_builtin
      refine wpList_app (by rfl) _ _ 114 (by rfl) 140 iO _ 5 40 Try.underlying114 hiO hzO hsO hbO rfl (by omega) ⟨some ⟨w.heap.size, 0, none⟩, 0, 0⟩ (by rfl) (Row.lit (cs := []) (n := 0) (Blk.new w 140 []) rfl (by omega)) (by rfl) (hv.ext ((Ext.rfl_ w).alloc_ _)) h1 (by simp only [maxLen]; omega) (by dsimp only; omega) ?_
      intro v' w1 hrow hlen hgrow hat)
    go_ret
    have hsize := hgrow.size
    simp at hsize
    refine ⟨v', rfl, by simpa using hlen.out, by simpa using hrow, fun g hg => ?_, hgrow.os, hgrow.tape, hgrow.output, by omega, fun k hk => (hgrow.block k (by simp; omega) (fun e => by simp [Sl.blk] at e; omega)).trans (Below.heap_alloc _ _ _ hk)⟩
    rcases hat with h2 | h2 <;> rw [hg] at h2 <;> simp [Sl.blk] at h2 <;> omega

theorem clonePair {w : World} {A : Option Addr} {n : Nat} (c : Nat) {xs : List Value} (hv : View w 16 A n xs) (h1 : ∀ u ∈ xs, u.oneCell' = true) (hn : n ≤ 4294967296) :
    Calls Try.prog 79 #[.slice A n c] w fun e w' => ∃ s : Sl, e = .returned (.slice s.a s.n s.c) ∧ s.n = n ∧ Fresh w w' 122 16 s xs := by
  obtain ⟨iO, hiO, hzO, hsO, hbO⟩ := info_parts info_pair
  cases A with
  | none =>
    have hxl : xs = [] := by
      cases hq : xs with
      | nil => rfl
      | cons a l => obtain ⟨_, _, h, _⟩ := hv.2 (by rw [hq]; simp); cases h
    have hn0 : n = 0 := by have := hv.1; rw [hxl] at this; simp at this; omega
    subst hxl; subst hn0
    have hq := fun w => Lib.run_eql_slice_nil (P := Try.prog) w 142 122 none 0 c 0 0 Try.underlying142
    go_enter Try.func79, Try.ntmps79
    go_wp2
    go_ret
    exact ⟨Sl.nil, rfl, rfl, Row.nil_ _ _ _, fun g hg => by simp [Sl.blk] at hg, Ext.rfl_ w⟩
  | some ad =>
    have hq := fun w => Lib.run_eql_slice_nil (P := Try.prog) w 142 122 (some ad) n c 0 0 Try.underlying142
    go_enter Try.func79, Try.ntmps79
    go_wp2_with (
      at_builtin
      refine wpList_app (by rfl) _ _ 142 (by rfl) 122 iO _ 16 144 Try.underlying142 hiO hzO hsO hbO rfl (by omega) ⟨some ⟨w.heap.size, 0, none⟩, 0, 0⟩ (by rfl) (Row.lit (cs := []) (n := 0) (Blk.new w 122 []) rfl (by omega)) (by rfl) (hv.ext ((Ext.rfl_ w).alloc_ _)) h1 (by simp only [maxLen]; omega) (by dsimp only; omega) ?_
      intro v' w1 hrow hlen hgrow hat)
    go_ret
    have hsize := hgrow.size
    simp at hsize
    refine ⟨v', rfl, by simpa using hlen.out, by simpa using hrow, fun g hg => ?_, hgrow.os, hgrow.tape, hgrow.output, by omega, fun k hk => (hgrow.block k (by simp; omega) (fun e => by simp [Sl.blk] at e; omega)).trans (Below.heap_alloc _ _ _ hk)⟩
    rcases hat with h2 | h2 <;> rw [hg] at h2 <;> simp [Sl.blk] at h2 <;> omega
end Go.Proofs.Ythhckledkhcfeaa
namespace Go.Proofs.Ythhckledkhcfeaa
open Go.RowKit

/-- Is it a string (an array, ..) that is there? -/
def St.isA (σ : St) (o : Ob) (kind : Int) : Bool := decide (o.k = kind) && σ.valid o

section
variable {w : World} {p : Nat} {σ : St} {h : Hd} {ρ : Roles}
theorem isA_str {σ : St} {x : Bool} {ac n : Int} {nm : ByteArray} {r f m : Nat} {b : List UInt8} (hb : σ.texts[r]? = some b) (hfm : f + m ≤ b.length) : σ.isA ⟨6, x, ac, n, nm, r, f, m⟩ 6 = true := by
  have hr := getElem?_lt hb
  simp [St.isA, St.valid, withinB, hb]
  omega
theorem isA_arr {σ : St} {x : Bool} {ac n : Int} {nm : ByteArray} {r f m : Nat} {b : List Ob} (hb : σ.lists[r]? = some b) (hfm : f + m ≤ b.length) : σ.isA ⟨7, x, ac, n, nm, r, f, m⟩ 7 = true := by
  have hr := getElem?_lt hb
  simp [St.isA, St.valid, withinB, hb]
  omega
theorem isA_dict {σ : St} {x : Bool} {ac n : Int} {nm : ByteArray} {r : Nat} {fr ln : Int} (hr : r < σ.dicts.length) : σ.isA ⟨8, x, ac, n, nm, r, fr, ln⟩ 8 = true := by
  simp [St.isA, St.valid, hr]
/-- What a valid string object tells. -/
theorem isA_str_inv {σ : St} {o : Ob} (hv : σ.isA o 6 = true) : ∃ (r f m : Nat) (b : List UInt8), o.k = 6 ∧ o.rf = r ∧ o.fr = f ∧ o.ln = m ∧ σ.texts[r]? = some b ∧ f + m ≤ b.length := by
  simp only [St.isA, Bool.and_eq_true, decide_eq_true_eq] at hv
  obtain ⟨hk, hv⟩ := hv
  simp only [St.valid, hk, if_true, Bool.and_eq_true, decide_eq_true_eq, withinB] at hv
  obtain ⟨⟨h1, h2⟩, h3, h4, h5, h6⟩ := hv
  obtain ⟨r, hr⟩ := Int.eq_ofNat_of_zero_le h1
  obtain ⟨f, hf⟩ := Int.eq_ofNat_of_zero_le h3
  obtain ⟨m, hm⟩ := Int.eq_ofNat_of_zero_le h4
  rw [hr] at h2 h5 h6
  have hlt : r < σ.texts.length := by omega
  simp only [Int.toNat_natCast, List.getD, List.getElem?_eq_getElem hlt, Option.getD_some] at h5 h6
  exact ⟨r, f, m, σ.texts[r], hk, hr, hf, hm, List.getElem?_eq_getElem hlt, by omega⟩
theorem isA_arr_inv {σ : St} {o : Ob} (hv : σ.isA o 7 = true) : ∃ (r f m : Nat) (b : List Ob), o.k = 7 ∧ o.rf = r ∧ o.fr = f ∧ o.ln = m ∧ σ.lists[r]? = some b ∧ f + m ≤ b.length := by
  simp only [St.isA, Bool.and_eq_true, decide_eq_true_eq] at hv
  obtain ⟨hk, hv⟩ := hv
  have h76 : ¬ (7 : Int) = 6 := by decide
  simp only [St.valid, hk, if_true, h76, if_false, Bool.and_eq_true, decide_eq_true_eq, withinB] at hv
  obtain ⟨⟨h1, h2⟩, h3, h4, h5, h6⟩ := hv
  obtain ⟨r, hr⟩ := Int.eq_ofNat_of_zero_le h1
  obtain ⟨f, hf⟩ := Int.eq_ofNat_of_zero_le h3
  obtain ⟨m, hm⟩ := Int.eq_ofNat_of_zero_le h4
  rw [hr] at h2 h5 h6
  have hlt : r < σ.lists.length := by omega
  simp only [Int.toNat_natCast, List.getD, List.getElem?_eq_getElem hlt, Option.getD_some] at h5 h6
  exact ⟨r, f, m, σ.lists[r], hk, hr, hf, hm, List.getElem?_eq_getElem hlt, by omega⟩
theorem isA_dict_inv {σ : St} {o : Ob} (hv : σ.isA o 8 = true) : ∃ (r : Nat) (d : Dc), o.k = 8 ∧ o.rf = r ∧ σ.dicts[r]? = some d := by
  simp only [St.isA, Bool.and_eq_true, decide_eq_true_eq] at hv
  obtain ⟨hk, hv⟩ := hv
  have h86 : ¬ (8 : Int) = 6 := by decide
  have h87 : ¬ (8 : Int) = 7 := by decide
  simp only [St.valid, hk, if_true, h86, h87, if_false, decide_eq_true_eq] at hv
  obtain ⟨r, hr⟩ := Int.eq_ofNat_of_zero_le hv.1
  rw [hr] at hv
  have hlt : r < σ.dicts.length := by omega
  exact ⟨r, σ.dicts[r], hk, hr, List.getElem?_eq_getElem hlt⟩

theorem is_b (s : Sto w p σ h ρ) {b : Bool} (k : Int) (x : Bool) (ac n : Int) (nm : ByteArray) (rf fr ln kind : Int) (hb : σ.isA ⟨k, x, ac, n, nm, rf, fr, ln⟩ kind = b) :
    Calls Try.prog 61 #[.pointer (some ⟨p, 0, none⟩), .agg #[.int .i64 k, .bool x, .int .i64 ac, .int .i64 n, .string nm, .int .i64 rf, .int .i64 fr, .int .i64 ln], .int .i64 kind] w fun e w' =>
      e = .returned (.bool b) ∧ Ext w w' := by rw [← hb]; exact is_c s k x ac n nm rf fr ln kind

theorem part_bytes (b : List UInt8) (f m : Nat) : (List.drop (f * 1) (byteCells b)).take (m * 1) = byteCells ((b.drop f).take m) := by simp [byteCells]
theorem part_obs (l : List Ob) (f m : Nat) : (List.drop (f * 8) (obCells l)).take (m * 8) = obCells ((l.drop f).take m) := by
  have hd : ∀ (f : Nat) (l : List Ob), List.drop (f * 8) (obCells l) = obCells (l.drop f) := by
    intro f
    induction f with
    | zero => intro l; simp
    | succ f ih =>
      intro l
      cases l with
      | nil => simp [obCells]
      | cons a l =>
        rw [List.drop_succ_cons, ← ih l, show (f + 1) * 8 = 8 + f * 8 by omega, ← List.drop_drop]
        congr 1
  have ht : ∀ (m : Nat) (l : List Ob), List.take (m * 8) (obCells l) = obCells (l.take m) := by
    intro m
    induction m with
    | zero => intro l; simp [obCells]
    | succ m ih =>
      intro l
      cases l with
      | nil => simp [obCells]
      | cons a l =>
        rw [List.take_succ_cons, show (m + 1) * 8 = 8 + m * 8 by omega, List.take_add]
        show a.cells ++ List.take (m * 8) (obCells l) = obCells (a :: l.take m)
        rw [ih l]
        rfl
  rw [hd, ht]
theorem obCells_one (l : List Ob) : ∀ u ∈ obCells l, u.oneCell' = true := by
  intro u hu
  obtain ⟨o, -, ho⟩ := List.mem_flatMap.1 hu
  simp only [Ob.cells, List.mem_cons, List.mem_nil_iff, or_false] at ho
  rcases ho with rfl | rfl | rfl | rfl | rfl | rfl | rfl | rfl <;> rfl

/-- (*Store).Bytes. -/
theorem bytes_ok (s : Sto w p σ h ρ) (x : Bool) (ac n : Int) (nm : ByteArray) (r f m : Nat) (b : List UInt8) (hb : σ.texts[r]? = some b) (hfm : f + m ≤ b.length) :
    Calls Try.prog 26 #[.pointer (some ⟨p, 0, none⟩), .agg #[.int .i64 6, .bool x, .int .i64 ac, .int .i64 n, .string nm, .int .i64 r, .int .i64 f, .int .i64 m]] w fun e w' =>
      ∃ v : Sl, e = .returned (.tuple #[.slice v.a v.n v.c, .int .i64 0]) ∧ v.n = m ∧ Fresh w w' 5 1 v (byteCells ((b.drop f).take m)) := by
  have hr := getElem?_lt hb
  obtain ⟨t, ht⟩ : ∃ t, h.ts[r]? = some t := ⟨_, List.getElem?_eq_getElem (by have := s.nts; omega)⟩
  have hlen : b.length ≤ 65535 := s.ok.text b (List.mem_of_getElem? hb)
  have hHb := Lib.hid hb
  have hHt := Lib.hid ht
  clear hb ht
  go_enter Try.func26, Try.ntmps26
  go_wp2_with (first
    | (go_at_call 61; refine (is_b (b := true) (s.ext ((Ext.rfl_ w).alloc_ _)) _ _ _ _ _ _ _ _ _ (isA_str hHb.out hfm)).mono ?_; rintro e w1 ⟨rfl, hx1⟩; have hc1 := ((Blk.new w 27 _).ext hx1).cell)
    | (go_at_call 74; refine (text_c (s.ext (((Ext.rfl_ w).alloc_ _).trans_ hx1)) _ _ _ _ _ r f m t b hHt.out hHb.out hfm).mono ?_; rintro e w2 ⟨rfl, hx2⟩)
    | (go_at_call 73; refine (cloneBytes _ (View.part ((s.ts r t b hHt.out hHb.out).1.ext ((((Ext.rfl_ w).alloc_ _).trans_ hx1).trans_ hx2)) (by have := (s.ts r t b hHt.out hHb.out).1.len; simp [byteCells] at this; omega)) (by rw [part_bytes]; exact byteCells_one _) (by omega)).mono ?_; rintro e w3 ⟨v, rfl, hvn, hfr⟩; have hvn' := Lib.hid hvn; clear hvn))
  go_ret2
  rw [part_bytes] at hfr
  refine ⟨v, rfl, hvn'.out, hfr.1, fun g hg => ?_, ((((Ext.rfl_ w).alloc_ _).trans_ hx1).trans_ hx2).trans_ hfr.2.2⟩
  have h1 := hfr.2.1 g hg
  have h2 := hx1.size
  have h3 := hx2.size
  simp at h2
  omega
theorem bytes_no (s : Sto w p σ h ρ) (k : Int) (x : Bool) (ac n : Int) (nm : ByteArray) (rf fr ln : Int) (hno : σ.isA ⟨k, x, ac, n, nm, rf, fr, ln⟩ 6 = false) :
    Calls Try.prog 26 #[.pointer (some ⟨p, 0, none⟩), .agg #[.int .i64 k, .bool x, .int .i64 ac, .int .i64 n, .string nm, .int .i64 rf, .int .i64 fr, .int .i64 ln]] w fun e w' =>
      e = .returned (.tuple #[.slice none 0 0, .int .i64 21]) ∧ Ext w w' := by
  go_enter Try.func26, Try.ntmps26
  go_wp2_with (go_at_call 61; refine (is_b (s.ext ((Ext.rfl_ w).alloc_ _)) _ _ _ _ _ _ _ _ _ hno).mono ?_; rintro e w1 ⟨rfl, hx1⟩)
  go_ret2
  exact ⟨rfl, ((Ext.rfl_ w).alloc_ _).trans_ hx1⟩

/-- (*Store).Items. -/
theorem items_ok (s : Sto w p σ h ρ) (x : Bool) (ac n : Int) (nm : ByteArray) (r f m : Nat) (b : List Ob) (hb : σ.lists[r]? = some b) (hfm : f + m ≤ b.length) :
    Calls Try.prog 17 #[.pointer (some ⟨p, 0, none⟩), .agg #[.int .i64 7, .bool x, .int .i64 ac, .int .i64 n, .string nm, .int .i64 r, .int .i64 f, .int .i64 m]] w fun e w' =>
      ∃ v : Sl, e = .returned (.tuple #[.slice v.a v.n v.c, .int .i64 0]) ∧ v.n = m ∧ Fresh w w' 27 8 v (obCells ((b.drop f).take m)) := by
  have hr := getElem?_lt hb
  obtain ⟨t, ht⟩ : ∃ t, h.ls[r]? = some t := ⟨_, List.getElem?_eq_getElem (by have := s.nls; omega)⟩
  have hlen : b.length ≤ 65535 := s.ok.list b (List.mem_of_getElem? hb)
  have hHb := Lib.hid hb
  have hHt := Lib.hid ht
  clear hb ht
  go_enter Try.func17, Try.ntmps17
  go_wp2_with (first
    | (go_at_call 61; refine (is_b (b := true) (s.ext ((Ext.rfl_ w).alloc_ _)) _ _ _ _ _ _ _ _ _ (isA_arr hHb.out hfm)).mono ?_; rintro e w1 ⟨rfl, hx1⟩; have hc1 := ((Blk.new w 27 _).ext hx1).cell)
    | (go_at_call 63; refine (list_c (s.ext (((Ext.rfl_ w).alloc_ _).trans_ hx1)) _ _ _ _ _ r f m t b hHt.out hHb.out hfm).mono ?_; rintro e w2 ⟨rfl, hx2⟩)
    | (go_at_call 64; refine (cloneObs _ (View.part ((s.ls r t b hHt.out hHb.out).1.ext ((((Ext.rfl_ w).alloc_ _).trans_ hx1).trans_ hx2)) (by have := (s.ls r t b hHt.out hHb.out).1.len; rw [length_obCells] at this; omega)) (by rw [part_obs]; exact obCells_one _) (by omega)).mono ?_; rintro e w3 ⟨v, rfl, hvn, hfr⟩; have hvn' := Lib.hid hvn; clear hvn))
  go_ret2
  rw [part_obs] at hfr
  refine ⟨v, rfl, hvn'.out, hfr.1, fun g hg => ?_, ((((Ext.rfl_ w).alloc_ _).trans_ hx1).trans_ hx2).trans_ hfr.2.2⟩
  have h1 := hfr.2.1 g hg
  have h2 := hx1.size
  have h3 := hx2.size
  simp at h2
  omega
theorem items_no (s : Sto w p σ h ρ) (k : Int) (x : Bool) (ac n : Int) (nm : ByteArray) (rf fr ln : Int) (hno : σ.isA ⟨k, x, ac, n, nm, rf, fr, ln⟩ 7 = false) :
    Calls Try.prog 17 #[.pointer (some ⟨p, 0, none⟩), .agg #[.int .i64 k, .bool x, .int .i64 ac, .int .i64 n, .string nm, .int .i64 rf, .int .i64 fr, .int .i64 ln]] w fun e w' =>
      e = .returned (.tuple #[.slice none 0 0, .int .i64 21]) ∧ Ext w w' := by
  go_enter Try.func17, Try.ntmps17
  go_wp2_with (go_at_call 61; refine (is_b (s.ext ((Ext.rfl_ w).alloc_ _)) _ _ _ _ _ _ _ _ _ hno).mono ?_; rintro e w1 ⟨rfl, hx1⟩)
  go_ret2
  exact ⟨rfl, ((Ext.rfl_ w).alloc_ _).trans_ hx1⟩
theorem valid_b (s : Sto w p σ h ρ) {b : Bool} (k : Int) (x : Bool) (ac n : Int) (nm : ByteArray) (rf fr ln : Int) (hb : σ.valid ⟨k, x, ac, n, nm, rf, fr, ln⟩ = b) :
    Calls Try.prog 46 #[.pointer (some ⟨p, 0, none⟩), .agg #[.int .i64 k, .bool x, .int .i64 ac, .int .i64 n, .string nm, .int .i64 rf, .int .i64 fr, .int .i64 ln]] w fun e w' =>
      e = .returned (.bool b) ∧ Ext w w' := by rw [← hb]; exact valid_c s k x ac n nm rf fr ln
theorem valid_bounds (s : Sto w p σ h ρ) {o : Ob} (hk : o.k = 6 ∨ o.k = 7) (hv : σ.valid o = true) : 0 ≤ o.fr ∧ 0 ≤ o.ln ∧ o.fr + o.ln ≤ 65535 := by
  rcases hk with hk | hk
  · obtain ⟨r, f, m, b, -, -, hf, hm, hb, hfm⟩ := isA_str_inv (σ := σ) (o := o) (by simp [St.isA, hk, hv])
    have := s.ok.text b (List.mem_of_getElem? hb)
    omega
  · obtain ⟨r, f, m, b, -, -, hf, hm, hb, hfm⟩ := isA_arr_inv (σ := σ) (o := o) (by simp [St.isA, hk, hv])
    have := s.ok.list b (List.mem_of_getElem? hb)
    omega
/-- (*Store).Part. -/
theorem part_ok (s : Sto w p σ h ρ) (k : Int) (x : Bool) (ac n : Int) (nm : ByteArray) (rf fr ln from_ m : Int) (hk : k = 6 ∨ k = 7) (hv : σ.valid ⟨k, x, ac, n, nm, rf, fr, ln⟩ = true)
    (h0 : 0 ≤ from_) (h1 : 0 ≤ m) (h2 : from_ ≤ ln) (h3 : m ≤ ln - from_) :
    Calls Try.prog 15 #[.pointer (some ⟨p, 0, none⟩), .agg #[.int .i64 k, .bool x, .int .i64 ac, .int .i64 n, .string nm, .int .i64 rf, .int .i64 fr, .int .i64 ln], .int .i64 from_, .int .i64 m] w fun e w' =>
      e = .returned (.tuple #[.agg #[.int .i64 k, .bool x, .int .i64 ac, .int .i64 n, .string nm, .int .i64 rf, .int .i64 (fr + from_), .int .i64 m], .int .i64 0]) ∧ Ext w w' := by
  obtain ⟨b0, b1, b2⟩ := valid_bounds s (o := ⟨k, x, ac, n, nm, rf, fr, ln⟩) hk hv
  dsimp only at b0 b1 b2
  have g1 : (k != 6) = true ∧ (k != 7) = false ∨ (k != 6) = false := by rcases hk with rfl | rfl <;> simp
  clear hk
  rcases g1 with ⟨g1, g2⟩ | g1
  all_goals
    go_enter Try.func15, Try.ntmps15
    go_upto_region 5 with (
      go_at_call 46
      refine (valid_b (b := true) (s.ext (((Ext.rfl_ w).alloc_ _).alloc_ _)) _ _ _ _ _ _ _ _ hv).mono ?_
      rintro e w1 ⟨rfl, hx1⟩
      have hb5 := ((Blk.new w 27 [.int .i64 k, .bool x, .int .i64 ac, .int .i64 n, .string nm, .int .i64 rf, .int .i64 fr, .int .i64 ln]).alloc (.cells #[.int .i64 0, .bool false, .int .i64 0, .int .i64 0, .string ByteArray.empty, .int .i64 0, .int .i64 0, .int .i64 0] 27)).ext hx1
      have hb8 := (Blk.new (w.alloc (.cells #[.int .i64 k, .bool x, .int .i64 ac, .int .i64 n, .string nm, .int .i64 rf, .int .i64 fr, .int .i64 ln] 27)) 27 [.int .i64 0, .bool false, .int .i64 0, .int .i64 0, .string ByteArray.empty, .int .i64 0, .int .i64 0, .int .i64 0]).ext hx1
      simp only [World.size_alloc] at hb8
      have hc5 := hb5.cell)
    have hf5 := hb5.frozen
    have hc8 := hb8.cell
    have hf8 := hb8.frozen
    have hz5 := hb5.lt
    have hz8 := hb8.lt
    go_wp2
    have hb5' := (hb5.set_ 6 (.int .i64 (fr + from_))).set_ 7 (.int .i64 m)
    have hb8' := (hb8.far (p := ⟨w.heap.size, 6, none⟩) (by simp) (.int .i64 (fr + from_))).far (p := ⟨w.heap.size, 7, none⟩) (by simp) (.int .i64 m)
    have hx : Ext w w1 := (((Ext.rfl_ w).alloc_ _).alloc_ _).trans_ hx1
    refine bodyPost_ret (res_ct rfl rfl (set8_blk hb8' _ _ _ _ _ _ _ _) Try.underlying27 (by kernel_rfl)) rfl ⟨rfl, ?_⟩
    exact ((hx.set_ (p := ⟨w.heap.size, 6, none⟩) (Nat.le_refl _) _).set_ (p := ⟨w.heap.size, 7, none⟩) (Nat.le_refl _) _).only (set8_only _ (w.heap.size + 1) _ _ _ _ _ _ _ _) (by omega)

set_option maxHeartbeats 1600000 in
theorem part_range (s : Sto w p σ h ρ) (k : Int) (x : Bool) (ac n : Int) (nm : ByteArray) (rf fr ln from_ m : Int) (hk : k = 6 ∨ k = 7) (hv : σ.valid ⟨k, x, ac, n, nm, rf, fr, ln⟩ = true)
    (hno : from_ < 0 ∨ m < 0 ∨ ln < from_ ∨ ln - from_ < m) :
    Calls Try.prog 15 #[.pointer (some ⟨p, 0, none⟩), .agg #[.int .i64 k, .bool x, .int .i64 ac, .int .i64 n, .string nm, .int .i64 rf, .int .i64 fr, .int .i64 ln], .int .i64 from_, .int .i64 m] w fun e w' =>
      e = .returned (.tuple #[zeroO, .int .i64 11]) ∧ Ext w w' := by
  obtain ⟨b0, b1, b2⟩ := valid_bounds s (o := ⟨k, x, ac, n, nm, rf, fr, ln⟩) hk hv
  dsimp only at b0 b1 b2
  have g1 : (k != 6) = true ∧ (k != 7) = false ∨ (k != 6) = false := by rcases hk with rfl | rfl <;> simp
  have hs : (from_ < 0) ∨ (0 ≤ from_ ∧ m < 0) ∨ (0 ≤ from_ ∧ 0 ≤ m ∧ ln < from_) ∨ (0 ≤ from_ ∧ 0 ≤ m ∧ from_ ≤ ln ∧ ln - from_ < m) := by omega
  clear hk hno
  rcases g1 with ⟨g1, g2⟩ | g1 <;> rcases hs with hs | ⟨hs, hs2⟩ | ⟨hs, hs2, hs3⟩ | ⟨hs, hs2, hs3, hs4⟩
  all_goals
    go_enter Try.func15, Try.ntmps15
    go_upto_region 4 with (
      go_at_call 46
      refine (valid_b (b := true) (s.ext (((Ext.rfl_ w).alloc_ _).alloc_ _)) _ _ _ _ _ _ _ _ hv).mono ?_
      rintro e w1 ⟨rfl, hx1⟩
      have hb5 := ((Blk.new w 27 [.int .i64 k, .bool x, .int .i64 ac, .int .i64 n, .string nm, .int .i64 rf, .int .i64 fr, .int .i64 ln]).alloc (.cells #[.int .i64 0, .bool false, .int .i64 0, .int .i64 0, .string ByteArray.empty, .int .i64 0, .int .i64 0, .int .i64 0] 27)).ext hx1
      have hb8 := (Blk.new (w.alloc (.cells #[.int .i64 k, .bool x, .int .i64 ac, .int .i64 n, .string nm, .int .i64 rf, .int .i64 fr, .int .i64 ln] 27)) 27 [.int .i64 0, .bool false, .int .i64 0, .int .i64 0, .string ByteArray.empty, .int .i64 0, .int .i64 0, .int .i64 0]).ext hx1
      simp only [World.size_alloc] at hb8
      have hc5 := hb5.cell)
    have hc8 := hb8.cell
    have hf8 := hb8.frozen
    go_wp2
    have hx : Ext w w1 := (((Ext.rfl_ w).alloc_ _).alloc_ _).trans_ hx1
    refine bodyPost_ret (res_ct rfl rfl (set8_blk hb8 _ _ _ _ _ _ _ _) Try.underlying27 (by kernel_rfl)) rfl ⟨rfl, ?_⟩
    exact hx.only (set8_only _ (w.heap.size + 1) _ _ _ _ _ _ _ _) (by omega)
theorem part_no (s : Sto w p σ h ρ) (k : Int) (x : Bool) (ac n : Int) (nm : ByteArray) (rf fr ln from_ m : Int) (hno : (k ≠ 6 ∧ k ≠ 7) ∨ σ.valid ⟨k, x, ac, n, nm, rf, fr, ln⟩ = false) :
    Calls Try.prog 15 #[.pointer (some ⟨p, 0, none⟩), .agg #[.int .i64 k, .bool x, .int .i64 ac, .int .i64 n, .string nm, .int .i64 rf, .int .i64 fr, .int .i64 ln], .int .i64 from_, .int .i64 m] w fun e w' =>
      e = .returned (.tuple #[zeroO, .int .i64 21]) ∧ Ext w w' := by
  by_cases h0 : k ≠ 6 ∧ k ≠ 7
  · have g6 : (k != 6) = true := by simpa using h0.1
    have g7 : (k != 7) = true := by simpa using h0.2
    go_enter Try.func15, Try.ntmps15
    go_wp2_with fail
    refine bodyPost_ret (res_ct rfl rfl (Blk.new1 w _ 27 _) Try.underlying27 (by kernel_rfl)) rfl ⟨rfl, ((Ext.rfl_ w).alloc_ _).alloc_ _⟩
  · have hv : σ.valid ⟨k, x, ac, n, nm, rf, fr, ln⟩ = false := by rcases hno with hno | hno; exact absurd hno h0; exact hno
    have g1 : (k != 6) = true ∧ (k != 7) = false ∨ (k != 6) = false := by
      by_cases h6 : k = 6
      · simp [h6]
      · have h7 : k = 7 := Decidable.byContradiction fun h7 => h0 ⟨h6, h7⟩
        simp [h7]
    clear h0 hno
    rcases g1 with ⟨g1, g2⟩ | g1
    all_goals
      go_enter Try.func15, Try.ntmps15
      go_upto_region 2 with (
        go_at_call 46
        refine (valid_b (b := false) (s.ext (((Ext.rfl_ w).alloc_ _).alloc_ _)) _ _ _ _ _ _ _ _ hv).mono ?_
        rintro e w1 ⟨rfl, hx1⟩
        have hb8 := (Blk.new (w.alloc (.cells #[.int .i64 k, .bool x, .int .i64 ac, .int .i64 n, .string nm, .int .i64 rf, .int .i64 fr, .int .i64 ln] 27)) 27 [.int .i64 0, .bool false, .int .i64 0, .int .i64 0, .string ByteArray.empty, .int .i64 0, .int .i64 0, .int .i64 0]).ext hx1
        simp only [World.size_alloc] at hb8)
      have hc8 := hb8.cell
      have hf8 := hb8.frozen
      go_wp2
      have hx : Ext w w1 := (((Ext.rfl_ w).alloc_ _).alloc_ _).trans_ hx1
      refine bodyPost_ret (res_ct rfl rfl (set8_blk hb8 _ _ _ _ _ _ _ _) Try.underlying27 (by kernel_rfl)) rfl ⟨rfl, ?_⟩
      exact hx.only (set8_only _ (w.heap.size + 1) _ _ _ _ _ _ _ _) (by omega)
theorem at_ok (s : Sto w p σ h ρ) (x : Bool) (ac n : Int) (nm : ByteArray) (r f m : Nat) (i : Nat) (b : List Ob) (o : Ob) (hb : σ.lists[r]? = some b) (hfm : f + m ≤ b.length) (hi : i < m) (ho : b[f + i]? = some o) :
    Calls Try.prog 54 #[.pointer (some ⟨p, 0, none⟩), .agg #[.int .i64 7, .bool x, .int .i64 ac, .int .i64 n, .string nm, .int .i64 r, .int .i64 f, .int .i64 m], .int .i64 i] w fun e w' =>
      e = .returned (.tuple #[.agg #[.int .i64 o.k, .bool o.x, .int .i64 o.ac, .int .i64 o.n, .string o.nm, .int .i64 o.rf, .int .i64 o.fr, .int .i64 o.ln], .int .i64 0]) ∧ Ext w w' := by
  have hr := getElem?_lt hb
  obtain ⟨t, ht⟩ : ∃ t, h.ls[r]? = some t := ⟨_, List.getElem?_eq_getElem (by have := s.nls; omega)⟩
  have hlen : b.length ≤ 65535 := s.ok.list b (List.mem_of_getElem? hb)
  have htn : t.n = b.length := by have := (s.ls r t b ht hb).1.len; rw [length_obCells] at this; omega
  obtain ⟨g, hg1, hg2, hg3, hg4⟩ := (s.ls r t b ht hb).1.cutA_ (f := f) (by omega)
  have hHb := Lib.hid hb
  have hHt := Lib.hid ht
  have hHg := Lib.hid hg3
  have hHo := Lib.hid ho
  clear hb ht htn hg3 ho
  go_enter Try.func54, Try.ntmps54
  go_upto_region 5 with (first
    | (go_at_call 61; refine (is_b (b := true) (s.ext (((Ext.rfl_ w).alloc_ _).alloc_ _)) _ _ _ _ _ _ _ _ _ (isA_arr hHb.out hfm)).mono ?_; rintro e w1 ⟨rfl, hx1⟩; have hc1 := (((Blk.new w 27 [.int .i64 7, .bool x, .int .i64 ac, .int .i64 n, .string nm, .int .i64 r, .int .i64 f, .int .i64 m]).alloc (.cells #[.int .i64 0, .bool false, .int .i64 0, .int .i64 0, .string ByteArray.empty, .int .i64 0, .int .i64 0, .int .i64 0] 27)).ext hx1).cell))
  have hb8 := (Blk.new1 w (.cells #[.int .i64 7, .bool x, .int .i64 ac, .int .i64 n, .string nm, .int .i64 r, .int .i64 f, .int .i64 m] 27) 27 [.int .i64 0, .bool false, .int .i64 0, .int .i64 0, .string ByteArray.empty, .int .i64 0, .int .i64 0, .int .i64 0]).ext hx1
  have hx : Ext w w1 := (((Ext.rfl_ w).alloc_ _).alloc_ _).trans_ hx1
  go_wp2_with (
    go_at_call 63
    refine (list_c (s.ext hx) _ _ _ _ _ r f m t b hHt.out hHb.out hfm).mono ?_
    rintro e w2 ⟨rfl, hx2⟩
    rw [hHg.out]
    obtain ⟨c0, c1, c2, c3, c4, c5, c6, c7⟩ := ((s.ls r t b hHt.out hHb.out).1.ext (hx.trans_ hx2)).ob (off := f * 8 + i * 8) hg2 hHo.out (by omega)
    have hc8 := (hb8.ext hx2).cell
    have hf8 := (hb8.ext hx2).frozen)
  refine bodyPost_ret (res_ct rfl rfl (set8_blk (hb8.ext hx2) _ _ _ _ _ _ _ _) Try.underlying27 (by kernel_rfl)) rfl ⟨rfl, ?_⟩
  exact (hx.trans_ hx2).only (set8_only _ (w.heap.size + 1) _ _ _ _ _ _ _ _) (by omega)
theorem at_range (s : Sto w p σ h ρ) (x : Bool) (ac n : Int) (nm : ByteArray) (r f m : Nat) (i : Int) (b : List Ob) (hb : σ.lists[r]? = some b) (hfm : f + m ≤ b.length) (hi : i < 0 ∨ (m : Int) ≤ i) :
    Calls Try.prog 54 #[.pointer (some ⟨p, 0, none⟩), .agg #[.int .i64 7, .bool x, .int .i64 ac, .int .i64 n, .string nm, .int .i64 r, .int .i64 f, .int .i64 m], .int .i64 i] w fun e w' =>
      e = .returned (.tuple #[zeroO, .int .i64 11]) ∧ Ext w w' := by
  have hHb := Lib.hid hb
  clear hb
  have hs : i < 0 ∨ (0 ≤ i ∧ (m : Int) ≤ i) := by omega
  clear hi
  rcases hs with hs | ⟨hs, hs2⟩
  all_goals
    go_enter Try.func54, Try.ntmps54
    go_upto_region 4 with (
      go_at_call 61
      refine (is_b (b := true) (s.ext (((Ext.rfl_ w).alloc_ _).alloc_ _)) _ _ _ _ _ _ _ _ _ (isA_arr hHb.out hfm)).mono ?_
      rintro e w1 ⟨rfl, hx1⟩
      have hc1 := (((Blk.new w 27 [.int .i64 7, .bool x, .int .i64 ac, .int .i64 n, .string nm, .int .i64 r, .int .i64 f, .int .i64 m]).alloc (.cells #[.int .i64 0, .bool false, .int .i64 0, .int .i64 0, .string ByteArray.empty, .int .i64 0, .int .i64 0, .int .i64 0] 27)).ext hx1).cell)
    have hb8 := (Blk.new1 w (.cells #[.int .i64 7, .bool x, .int .i64 ac, .int .i64 n, .string nm, .int .i64 r, .int .i64 f, .int .i64 m] 27) 27 [.int .i64 0, .bool false, .int .i64 0, .int .i64 0, .string ByteArray.empty, .int .i64 0, .int .i64 0, .int .i64 0]).ext hx1
    have hx : Ext w w1 := (((Ext.rfl_ w).alloc_ _).alloc_ _).trans_ hx1
    have hc8 := hb8.cell
    have hf8 := hb8.frozen
    go_wp2
    refine bodyPost_ret (res_ct rfl rfl (set8_blk hb8 _ _ _ _ _ _ _ _) Try.underlying27 (by kernel_rfl)) rfl ⟨rfl, ?_⟩
    exact hx.only (set8_only _ (w.heap.size + 1) _ _ _ _ _ _ _ _) (by omega)
theorem at_no (s : Sto w p σ h ρ) (k : Int) (x : Bool) (ac n : Int) (nm : ByteArray) (rf fr ln i : Int) (hno : σ.isA ⟨k, x, ac, n, nm, rf, fr, ln⟩ 7 = false) :
    Calls Try.prog 54 #[.pointer (some ⟨p, 0, none⟩), .agg #[.int .i64 k, .bool x, .int .i64 ac, .int .i64 n, .string nm, .int .i64 rf, .int .i64 fr, .int .i64 ln], .int .i64 i] w fun e w' =>
      e = .returned (.tuple #[zeroO, .int .i64 21]) ∧ Ext w w' := by
  go_enter Try.func54, Try.ntmps54
  go_upto_region 2 with (
    go_at_call 61
    refine (is_b (b := false) (s.ext (((Ext.rfl_ w).alloc_ _).alloc_ _)) _ _ _ _ _ _ _ _ _ hno).mono ?_
    rintro e w1 ⟨rfl, hx1⟩)
  have hb8 := (Blk.new1 w (.cells #[.int .i64 k, .bool x, .int .i64 ac, .int .i64 n, .string nm, .int .i64 rf, .int .i64 fr, .int .i64 ln] 27) 27 [.int .i64 0, .bool false, .int .i64 0, .int .i64 0, .string ByteArray.empty, .int .i64 0, .int .i64 0, .int .i64 0]).ext hx1
  have hx : Ext w w1 := (((Ext.rfl_ w).alloc_ _).alloc_ _).trans_ hx1
  have hc8 := hb8.cell
  have hf8 := hb8.frozen
  go_wp2
  refine bodyPost_ret (res_ct rfl rfl (set8_blk hb8 _ _ _ _ _ _ _ _) Try.underlying27 (by kernel_rfl)) rfl ⟨rfl, ?_⟩
  exact hx.only (set8_only _ (w.heap.size + 1) _ _ _ _ _ _ _ _) (by omega)
end
end Go.Proofs.Ythhckledkhcfeaa
