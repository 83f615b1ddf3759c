/- The store's functions, part A: New, Free, take, within, Valid, is. -/
import Derived.Test.YthhckledkhcfeaaSt
namespace Go.Proofs.Ythhckledkhcfeaa
open Go.RowKit

def St.empty (cells : Int) : St := ⟨cells, [], [], [], [], []⟩
def Hd.empty : Hd := ⟨.nil, .nil, .nil, .nil, .nil, [], [], []⟩
def Roles.one (p : Nat) : Roles := fun b => if b = p then some .main else none
theorem Roles.one_own {p b : Nat} (h : Roles.own (.one p) b) : b = p := by
  unfold Roles.own Roles.one at h; split at h
  · assumption
  · simp at h

theorem Sl.nil_on (ρ : Roles) (r : Role) : Sl.nil.on ρ r := fun g hg => by simp [Sl.blk] at hg

theorem Sto.new_ {w : World} {p : Nat} {cells : Int} (h0 : 1 ≤ cells) (h1 : cells ≤ 1048576)
    (hb : Blk w p 116 [.int .i64 cells, .slice none 0 0, .slice none 0 0, .slice none 0 0, .slice none 0 0, .slice none 0 0]) :
    Sto w p (.empty cells) .empty (.one p) where
  ok := ⟨by simp [St.empty]; omega, by simp [St.empty]; omega, by simp [St.empty], by simp [St.empty], by simp [St.empty], by simp [St.empty], by simp [St.empty]⟩
  main := hb
  rmain := by simp [Roles.one]
  texts := Row.nil_ _ _ _
  rtexts := Sl.nil_on _ _
  lists := Row.nil_ _ _ _
  rlists := Sl.nil_on _ _
  dicts := Row.nil_ _ _ _
  rdicts := Sl.nil_on _ _
  changes := Row.nil_ _ _ _
  rchanges := Sl.nil_on _ _
  marks := Row.nil_ _ _ _
  rmarks := Sl.nil_on _ _
  nts := rfl
  nls := rfl
  nds := rfl
  ts i s b h := by simp [Hd.empty] at h
  ls i s b h := by simp [Hd.empty] at h
  ds i s b h := by simp [Hd.empty] at h
  bound b hb' := by rw [Roles.one_own hb']; exact hb.lt

/-- store.New. -/
theorem new_ok (cells : Int) (w : World) (h0 : 1 ≤ cells) (h1 : cells ≤ 1048576) :
    Calls Try.prog 12 #[.int .i64 cells] w fun e w' => e = .returned (.tuple #[.pointer (some ⟨w.heap.size, 0, none⟩), .int .i64 0]) ∧
      Sto w' w.heap.size (.empty cells) .empty (.one w.heap.size) ∧ Ext w w' := by
  go_enter Try.func12, Try.ntmps12
  go_wp2
  go_ret2
  exact ⟨rfl, Sto.new_ h0 h1 (Blk.new w _ _), (Ext.rfl_ w).alloc_ _⟩
theorem new_no (cells : Int) (w : World) (h : cells < 1 ∨ 1048576 < cells) :
    Calls Try.prog 12 #[.int .i64 cells] w fun e w' => e = .returned (.tuple #[.pointer none, .int .i64 21]) ∧ w = w' := by
  by_cases h0 : cells < 1
  · go_enter Try.func12, Try.ntmps12
    go_wp2
    go_ret2
    exact ⟨rfl, rfl⟩
  · have h1 : 1048576 < cells := by omega
    go_enter Try.func12, Try.ntmps12
    go_wp2
    go_ret2
    exact ⟨rfl, rfl⟩

/-- (*Store).Free. -/
theorem free_c {w : World} {p : Nat} {σ : St} {h : Hd} {ρ : Roles} (s : Sto w p σ h ρ) :
    Calls Try.prog 42 #[.pointer (some ⟨p, 0, none⟩)] w fun e w' => e = .returned (.int .i64 σ.free) ∧ w = w' := by
  have hc := s.main.cell
  go_enter Try.func42, Try.ntmps42
  go_wp2
  go_ret
  exact ⟨rfl, rfl⟩
theorem free_nil (w : World) : Calls Try.prog 42 #[.pointer none] w fun e w' => e = .returned (.int .i64 0) ∧ w = w' := by
  go_enter Try.func42, Try.ntmps42
  go_wp2
  go_ret
  exact ⟨rfl, rfl⟩

/-- (*Store).take. -/
def takeE (free n most cells : Int) : Int := if n < 0 then 11 else if most < n then 9 else if free < cells then 20 else 0
theorem take_ok {p : Nat} {n most cells free : Int} {c1 c2 c3 c4 c5 : Value} {w : World}
    (h : Blk w p 116 [.int .i64 free, c1, c2, c3, c4, c5]) (h0 : 0 ≤ free) (h1 : free ≤ 1048576) (h2 : 0 ≤ n) (h3 : n ≤ most) (h4 : cells ≤ free) (h5 : 0 ≤ cells) :
    Calls Try.prog 60 #[.pointer (some ⟨p, 0, none⟩), .int .i64 n, .int .i64 most, .int .i64 cells] w fun e w' => e = .returned (.int .i64 0) ∧ w' = w.setCell ⟨p, 0, none⟩ (.int .i64 (free - cells)) := by
  have hc := h.cell
  have hf := h.frozen
  go_enter Try.func60, Try.ntmps60
  go_wp2
  go_ret
  exact ⟨rfl, rfl⟩
theorem take_no {p : Nat} {n most cells free : Int} {c1 c2 c3 c4 c5 : Value} {w : World}
    (h : Blk w p 116 [.int .i64 free, c1, c2, c3, c4, c5]) (hno : n < 0 ∨ most < n ∨ free < cells) :
    Calls Try.prog 60 #[.pointer (some ⟨p, 0, none⟩), .int .i64 n, .int .i64 most, .int .i64 cells] w fun e w' => e = .returned (.int .i64 (takeE free n most cells)) ∧ w = w' := by
  have hc := h.cell
  unfold takeE
  by_cases h1 : n < 0
  · rw [if_pos h1]
    go_enter Try.func60, Try.ntmps60
    go_wp2
    go_ret
    exact ⟨rfl, rfl⟩
  · by_cases h2 : most < n
    · rw [if_neg h1, if_pos h2]
      go_enter Try.func60, Try.ntmps60
      go_wp2
      go_ret
      exact ⟨rfl, rfl⟩
    · have h3 : free < cells := by omega
      rw [if_neg h1, if_neg h2, if_pos h3]
      go_enter Try.func60, Try.ntmps60
      go_wp2
      go_ret
      exact ⟨rfl, rfl⟩
theorem take_nil (n most cells : Int) (w : World) :
    Calls Try.prog 60 #[.pointer none, .int .i64 n, .int .i64 most, .int .i64 cells] w fun e w' => e = .returned (.int .i64 21) ∧ w = w' := by
  go_enter Try.func60, Try.ntmps60
  go_wp2
  go_ret
  exact ⟨rfl, rfl⟩

/-- within. -/
def withinB (fr ln n : Int) : Bool := decide (0 ≤ fr ∧ 0 ≤ ln ∧ fr ≤ n ∧ ln ≤ n - fr)
theorem ret_bool {a b : Bool} (h : a = b) : Ending.returned (.bool a) = .returned (.bool b) := by rw [h]
theorem within_c (k : Int) (x : Bool) (ac nn : Int) (nm : ByteArray) (rf fr ln n : Int) (w : World) (h0 : 0 ≤ n) (h1 : n ≤ 1048576) :
    Calls Try.prog 92 #[.agg #[.int .i64 k, .bool x, .int .i64 ac, .int .i64 nn, .string nm, .int .i64 rf, .int .i64 fr, .int .i64 ln], .int .i64 n] w fun e w' => e = .returned (.bool (withinB fr ln n)) ∧ Ext w w' := by
  go_enter Try.func92, Try.ntmps92
  go_wp2
  all_goals
    go_ret
    refine ⟨ret_bool ?_, (Ext.rfl_ w).alloc_ _⟩
    unfold withinB
    first
      | (rw [decide_eq_decide]; omega)
      | (symm; rw [decide_eq_false_iff_not]; omega)
      | (symm; rw [decide_eq_true_iff]; omega)
end Go.Proofs.Ythhckledkhcfeaa
