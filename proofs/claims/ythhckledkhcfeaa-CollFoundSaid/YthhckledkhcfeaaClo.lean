/- slices.Clone at each type, bytes.Clone. Printed by a small program of mine. -/
import Derived.Test.YthhckledkhcfeaaStE
import Derived.Test.YthhckledkhcfeaaApp
namespace Go.Proofs.Ythhckledkhcfeaa
open Go.RowKit
theorem info_chg : (Try.prog.info? 124).map (fun i => (i.zero, i.size, i.bytes)) = some (some (.agg (#[.int .i64 0, .int .i64 0, .int .i64 0] ++ (Ob.null.cells ++ Ob.null.cells).toArray)), 19, 168) := by kernel_rfl
theorem info_szs : (Try.prog.info? 140).map (fun i => (i.zero, i.size, i.bytes)) = some (some (.agg #[.int .i64 0, .int .i64 0, .int .i64 0, .int .i64 0, .int .i64 0]), 5, 40) := by kernel_rfl
theorem info_pair : (Try.prog.info? 122).map (fun i => (i.zero, i.size, i.bytes)) = some (some (.agg ((Ob.null.cells ++ Ob.null.cells).toArray)), 16, 144) := by kernel_rfl

theorem cloneObs {w : World} {A : Option Addr} {n : Nat} (c : Nat) {xs : List Value} (hv : View w 8 A n xs) (h1 : ∀ u ∈ xs, u.oneCell' = true) (hn : n ≤ 4294967296) :
    Calls Try.prog 64 #[.slice A n c] w fun e w' => ∃ s : Sl, e = .returned (.slice s.a s.n s.c) ∧ s.n = n ∧ Fresh w w' 27 8 s xs := by
  obtain ⟨iO, hiO, hzO, hsO, hbO⟩ := info_parts info_Obj
  cases A with
  | none =>
    have hxl : xs = [] := by
      cases hq : xs with
      | nil => rfl
      | cons a l => obtain ⟨_, _, h, _⟩ := hv.2 (by rw [hq]; simp); cases h
    have hn0 : n = 0 := by have := hv.1; rw [hxl] at this; simp at this; omega
    subst hxl; subst hn0
    have hq := fun w => Lib.run_eql_slice_nil (P := Try.prog) w 33 27 none 0 c 0 0 Try.underlying33
    go_enter Try.func64, Try.ntmps64
    go_wp2
    go_ret
    exact ⟨Sl.nil, rfl, rfl, Row.nil_ _ _ _, fun g hg => by simp [Sl.blk] at hg, Ext.rfl_ w⟩
  | some ad =>
    have hq := fun w => Lib.run_eql_slice_nil (P := Try.prog) w 33 27 (some ad) n c 0 0 Try.underlying33
    go_enter Try.func64, Try.ntmps64
    go_wp2_with (
      at_builtin
      refine wpList_app (by rfl) _ _ 33 (by rfl) 27 iO _ 8 72 Try.underlying33 hiO hzO hsO hbO rfl (by omega) ⟨some ⟨w.heap.size, 0, none⟩, 0, 0⟩ (by rfl) (Row.lit (cs := []) (n := 0) (Blk.new w 27 []) rfl (by omega)) (by rfl) (hv.ext ((Ext.rfl_ w).alloc_ _)) h1 (by simp only [maxLen]; omega) (by dsimp only; omega) ?_
      intro v' w1 hrow hlen hgrow hat)
    go_ret
    have hsize := hgrow.size
    simp at hsize
    refine ⟨v', rfl, by simpa using hlen.out, by simpa using hrow, fun g hg => ?_, hgrow.os, hgrow.tape, hgrow.output, by omega, fun k hk => (hgrow.block k (by simp; omega) (fun e => by simp [Sl.blk] at e; omega)).trans (Below.heap_alloc _ _ _ hk)⟩
    rcases hat with h2 | h2 <;> rw [hg] at h2 <;> simp [Sl.blk] at h2 <;> omega

theorem cloneBytes {w : World} {A : Option Addr} {n : Nat} (c : Nat) {xs : List Value} (hv : View w 1 A n xs) (h1 : ∀ u ∈ xs, u.oneCell' = true) (hn : n ≤ 4294967296) :
    Calls Try.prog 73 #[.slice A n c] w fun e w' => ∃ s : Sl, e = .returned (.slice s.a s.n s.c) ∧ s.n = n ∧ Fresh w w' 5 1 s xs := by
  obtain ⟨iO, hiO, hzO, hsO, hbO⟩ := info_parts info_u8
  cases A with
  | none =>
    have hxl : xs = [] := by
      cases hq : xs with
      | nil => rfl
      | cons a l => obtain ⟨_, _, h, _⟩ := hv.2 (by rw [hq]; simp); cases h
    have hn0 : n = 0 := by have := hv.1; rw [hxl] at this; simp at this; omega
    subst hxl; subst hn0
    have hq := fun w => Lib.run_eql_slice_nil (P := Try.prog) w 45 5 none 0 c 0 0 Try.underlying45
    go_enter Try.func73, Try.ntmps73
    go_wp2
    go_ret
    exact ⟨Sl.nil, rfl, rfl, Row.nil_ _ _ _, fun g hg => by simp [Sl.blk] at hg, Ext.rfl_ w⟩
  | some ad =>
    have hq := fun w => Lib.run_eql_slice_nil (P := Try.prog) w 45 5 (some ad) n c 0 0 Try.underlying45
    go_enter Try.func73, Try.ntmps73
    go_wp2_with (
      at_builtin
      refine wpList_app (by rfl) _ _ 45 (by rfl) 5 iO _ 1 1 Try.underlying45 hiO hzO hsO hbO rfl (by omega) ⟨some ⟨w.heap.size, 0, none⟩, 0, 0⟩ (by rfl) (Row.lit (cs := []) (n := 0) (Blk.new w 5 []) rfl (by omega)) (by rfl) (hv.ext ((Ext.rfl_ w).alloc_ _)) h1 (by simp only [maxLen]; omega) (by dsimp only; omega) ?_
      intro v' w1 hrow hlen hgrow hat)
    go_ret
    have hsize := hgrow.size
    simp at hsize
    refine ⟨v', rfl, by simpa using hlen.out, by simpa using hrow, fun g hg => ?_, hgrow.os, hgrow.tape, hgrow.output, by omega, fun k hk => (hgrow.block k (by simp; omega) (fun e => by simp [Sl.blk] at e; omega)).trans (Below.heap_alloc _ _ _ hk)⟩
    rcases hat with h2 | h2 <;> rw [hg] at h2 <;> simp [Sl.blk] at h2 <;> omega

theorem cloneByte {w : World} {A : Option Addr} {n : Nat} (c : Nat) {xs : List Value} (hv : View w 1 A n xs) (h1 : ∀ u ∈ xs, u.oneCell' = true) (hn : n ≤ 4294967296) :
    Calls Try.prog 106 #[.slice A n c] w fun e w' => ∃ s : Sl, e = .returned (.slice s.a s.n s.c) ∧ s.n = n ∧ Fresh w w' 5 1 s xs := by
  obtain ⟨iO, hiO, hzO, hsO, hbO⟩ := info_parts info_u8
  cases A with
  | none =>
    have hxl : xs = [] := by
      cases hq : xs with
      | nil => rfl
      | cons a l => obtain ⟨_, _, h, _⟩ := hv.2 (by rw [hq]; simp); cases h
    have hn0 : n = 0 := by have := hv.1; rw [hxl] at this; simp at this; omega
    subst hxl; subst hn0
    have hq := fun w => Lib.run_eql_slice_nil (P := Try.prog) w 45 5 none 0 c 0 0 Try.underlying45
    go_enter Try.func106, Try.ntmps106
    go_wp2
    go_ret
    exact ⟨Sl.nil, rfl, rfl, Row.nil_ _ _ _, fun g hg => by simp [Sl.blk] at hg, Ext.rfl_ w⟩
  | some ad =>
    have hq := fun w => Lib.run_eql_slice_nil (P := Try.prog) w 45 5 (some ad) n c 0 0 Try.underlying45
    go_enter Try.func106, Try.ntmps106
    go_wp2_with (
      at_builtin
      refine wpList_app (by rfl) _ _ 45 (by rfl) 5 iO _ 1 1 Try.underlying45 hiO hzO hsO hbO rfl (by omega) ⟨some ⟨w.heap.size, 0, none⟩, 0, 0⟩ (by rfl) (Row.lit (cs := []) (n := 0) (Blk.new w 5 []) rfl (by omega)) (by rfl) (hv.ext ((Ext.rfl_ w).alloc_ _)) h1 (by simp only [maxLen]; omega) (by dsimp only; omega) ?_
      intro v' w1 hrow hlen hgrow hat)
    go_ret
    have hsize := hgrow.size
    simp at hsize
    refine ⟨v', rfl, by simpa using hlen.out, by simpa using hrow, fun g hg => ?_, hgrow.os, hgrow.tape, hgrow.output, by omega, fun k hk => (hgrow.block k (by simp; omega) (fun e => by simp [Sl.blk] at e; omega)).trans (Below.heap_alloc _ _ _ hk)⟩
    rcases hat with h2 | h2 <;> rw [hg] at h2 <;> simp [Sl.blk] at h2 <;> omega

theorem cloneChg {w : World} {A : Option Addr} {n : Nat} (c : Nat) {xs : List Value} (hv : View w 19 A n xs) (h1 : ∀ u ∈ xs, u.oneCell' = true) (hn : n ≤ 4294967296) :
    Calls Try.prog 77 #[.slice A n c] w fun e w' => ∃ s : Sl, e = .returned (.slice s.a s.n s.c) ∧ s.n = n ∧ Fresh w w' 124 19 s xs := by
  obtain ⟨iO, hiO, hzO, hsO, hbO⟩ := info_parts info_chg
  cases A with
  | none =>
    have hxl : xs = [] := by
      cases hq : xs with
      | nil => rfl
      | cons a l => obtain ⟨_, _, h, _⟩ := hv.2 (by rw [hq]; simp); cases h
    have hn0 : n = 0 := by have := hv.1; rw [hxl] at this; simp at this; omega
    subst hxl; subst hn0
    have hq := fun w => Lib.run_eql_slice_nil (P := Try.prog) w 113 124 none 0 c 0 0 Try.underlying113
    go_enter Try.func77, Try.ntmps77
    go_wp2
    go_ret
    exact ⟨Sl.nil, rfl, rfl, Row.nil_ _ _ _, fun g hg => by simp [Sl.blk] at hg, Ext.rfl_ w⟩
  | some ad =>
    have hq := fun w => Lib.run_eql_slice_nil (P := Try.prog) w 113 124 (some ad) n c 0 0 Try.underlying113
    go_enter Try.func77, Try.ntmps77
    go_wp2_with (
      at_builtin
      refine wpList_app (by rfl) _ _ 113 (by rfl) 124 iO _ 19 168 Try.underlying113 hiO hzO hsO hbO rfl (by omega) ⟨some ⟨w.heap.size, 0, none⟩, 0, 0⟩ (by rfl) (Row.lit (cs := []) (n := 0) (Blk.new w 124 []) rfl (by omega)) (by rfl) (hv.ext ((Ext.rfl_ w).alloc_ _)) h1 (by simp only [maxLen]; omega) (by dsimp only; omega) ?_
      intro v' w1 hrow hlen hgrow hat)
    go_ret
    have hsize := hgrow.size
    simp at hsize
    refine ⟨v', rfl, by simpa using hlen.out, by simpa using hrow, fun g hg => ?_, hgrow.os, hgrow.tape, hgrow.output, by omega, fun k hk => (hgrow.block k (by simp; omega) (fun e => by simp [Sl.blk] at e; omega)).trans (Below.heap_alloc _ _ _ hk)⟩
    rcases hat with h2 | h2 <;> rw [hg] at h2 <;> simp [Sl.blk] at h2 <;> omega

theorem cloneSzs {w : World} {A : Option Addr} {n : Nat} (c : Nat) {xs : List Value} (hv : View w 5 A n xs) (h1 : ∀ u ∈ xs, u.oneCell' = true) (hn : n ≤ 4294967296) :
    Calls Try.prog 78 #[.slice A n c] w fun e w' => ∃ s : Sl, e = .returned (.slice s.a s.n s.c) ∧ s.n = n ∧ Fresh w w' 140 5 s xs := by
  obtain ⟨iO, hiO, hzO, hsO, hbO⟩ := info_parts info_szs
  cases A with
  | none =>
    have hxl : xs = [] := by
      cases hq : xs with
      | nil => rfl
      | cons a l => obtain ⟨_, _, h, _⟩ := hv.2 (by rw [hq]; simp); cases h
    have hn0 : n = 0 := by have := hv.1; rw [hxl] at this; simp at this; omega
    subst hxl; subst hn0
    have hq := fun w => Lib.run_eql_slice_nil (P := Try.prog) w 114 140 none 0 c 0 0 Try.underlying114
    go_enter Try.func78, Try.ntmps78
    go_wp2
    go_ret
    exact ⟨Sl.nil, rfl, rfl, Row.nil_ _ _ _, fun g hg => by simp [Sl.blk] at hg, Ext.rfl_ w⟩
  | some ad =>
    have hq := fun w => Lib.run_eql_slice_nil (P := Try.prog) w 114 140 (some ad) n c 0 0 Try.underlying114
    go_enter Try.func78, Try.ntmps78
    go_wp2_with (
      at_builtin
      refine wpList_app (by rfl) _ _ 114 (by rfl) 140 iO _ 5 40 Try.underlying114 hiO hzO hsO hbO rfl (by omega) ⟨some ⟨w.heap.size, 0, none⟩, 0, 0⟩ (by rfl) (Row.lit (cs := []) (n := 0) (Blk.new w 140 []) rfl (by omega)) (by rfl) (hv.ext ((Ext.rfl_ w).alloc_ _)) h1 (by simp only [maxLen]; omega) (by dsimp only; omega) ?_
      intro v' w1 hrow hlen hgrow hat)
    go_ret
    have hsize := hgrow.size
    simp at hsize
    refine ⟨v', rfl, by simpa using hlen.out, by simpa using hrow, fun g hg => ?_, hgrow.os, hgrow.tape, hgrow.output, by omega, fun k hk => (hgrow.block k (by simp; omega) (fun e => by simp [Sl.blk] at e; omega)).trans (Below.heap_alloc _ _ _ hk)⟩
    rcases hat with h2 | h2 <;> rw [hg] at h2 <;> simp [Sl.blk] at h2 <;> omega

theorem clonePair {w : World} {A : Option Addr} {n : Nat} (c : Nat) {xs : List Value} (hv : View w 16 A n xs) (h1 : ∀ u ∈ xs, u.oneCell' = true) (hn : n ≤ 4294967296) :
    Calls Try.prog 79 #[.slice A n c] w fun e w' => ∃ s : Sl, e = .returned (.slice s.a s.n s.c) ∧ s.n = n ∧ Fresh w w' 122 16 s xs := by
  obtain ⟨iO, hiO, hzO, hsO, hbO⟩ := info_parts info_pair
  cases A with
  | none =>
    have hxl : xs = [] := by
      cases hq : xs with
      | nil => rfl
      | cons a l => obtain ⟨_, _, h, _⟩ := hv.2 (by rw [hq]; simp); cases h
    have hn0 : n = 0 := by have := hv.1; rw [hxl] at this; simp at this; omega
    subst hxl; subst hn0
    have hq := fun w => Lib.run_eql_slice_nil (P := Try.prog) w 142 122 none 0 c 0 0 Try.underlying142
    go_enter Try.func79, Try.ntmps79
    go_wp2
    go_ret
    exact ⟨Sl.nil, rfl, rfl, Row.nil_ _ _ _, fun g hg => by simp [Sl.blk] at hg, Ext.rfl_ w⟩
  | some ad =>
    have hq := fun w => Lib.run_eql_slice_nil (P := Try.prog) w 142 122 (some ad) n c 0 0 Try.underlying142
    go_enter Try.func79, Try.ntmps79
    go_wp2_with (
      at_builtin
      refine wpList_app (by rfl) _ _ 142 (by rfl) 122 iO _ 16 144 Try.underlying142 hiO hzO hsO hbO rfl (by omega) ⟨some ⟨w.heap.size, 0, none⟩, 0, 0⟩ (by rfl) (Row.lit (cs := []) (n := 0) (Blk.new w 122 []) rfl (by omega)) (by rfl) (hv.ext ((Ext.rfl_ w).alloc_ _)) h1 (by simp only [maxLen]; omega) (by dsimp only; omega) ?_
      intro v' w1 hrow hlen hgrow hat)
    go_ret
    have hsize := hgrow.size
    simp at hsize
    refine ⟨v', rfl, by simpa using hlen.out, by simpa using hrow, fun g hg => ?_, hgrow.os, hgrow.tape, hgrow.output, by omega, fun k hk => (hgrow.block k (by simp; omega) (fun e => by simp [Sl.blk] at e; omega)).trans (Below.heap_alloc _ _ _ hk)⟩
    rcases hat with h2 | h2 <;> rw [hg] at h2 <;> simp [Sl.blk] at h2 <;> omega
end Go.Proofs.Ythhckledkhcfeaa
