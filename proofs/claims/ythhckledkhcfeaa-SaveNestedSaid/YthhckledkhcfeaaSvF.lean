/- SaveNested: the states of its saves; Save where as many are alive as may be. -/
import Derived.Test.YthhckledkhcfeaaSvE
namespace Go.Proofs.Ythhckledkhcfeaa
open Go.RowKit
def svl (m : Nat) : List (Int × Int) := (List.range m).map fun (q : Nat) => ((q : Int) + 1, (q : Int) + 1)
def svs (m : Nat) : St := { St.empty 100 with marks := List.replicate m ⟨0, 0, 0, 100, 0⟩ }
def svo (m : Nat) : List Ob := (List.range m).map fun (q : Nat) => ⟨10, false, 0, (q : Int) + 1, ByteArray.empty, 0, 0, 0⟩
theorem svl_len (m : Nat) : (svl m).length = m := by simp [svl]
theorem svo_len (m : Nat) : (svo m).length = m := by simp [svo]
theorem svs_len (m : Nat) : (svs m).marks.length = m := by simp [svs]
theorem svl_get {m q : Nat} (h : q < m) : (svl m)[q]? = some ((q : Int) + 1, (q : Int) + 1) := by simp [svl, h]
theorem svo_get {m q : Nat} (h : q < m) : (svo m)[q]? = some ⟨10, false, 0, (q : Int) + 1, ByteArray.empty, 0, 0, 0⟩ := by simp [svo, h]
theorem svl_next (m : Nat) : svl m ++ [((m : Int) + 1, (m : Int) + 1)] = svl (m + 1) := by simp [svl, List.range_succ]
theorem svo_next (m : Nat) : svo m ++ [⟨10, false, 0, (m : Int) + 1, ByteArray.empty, 0, 0, 0⟩] = svo (m + 1) := by simp [svo, List.range_succ]
theorem svs_next (m : Nat) : ({ svs m with marks := (svs m).marks ++ [(svs m).sizes] } : St) = svs (m + 1) := by
  have : (svs m).sizes = ⟨0, 0, 0, 100, 0⟩ := rfl
  rw [this]
  simp only [svs, List.replicate_succ']
theorem svl_take {m i : Nat} (h : i ≤ m) : (svl m).take i = svl i := by
  apply List.ext_getElem?
  intro q
  rw [List.getElem?_take]
  by_cases hq : q < i
  · rw [if_pos hq, svl_get hq, svl_get (by omega)]
  · rw [if_neg hq, List.getElem?_eq_none (by rw [svl_len]; omega)]
theorem place_in {m q : Nat} (h : q < m) : placeOf (svl m) ((q : Int) + 1) = q := by
  refine placeOf_some (svl_get h) (by simp) fun r u hr hu => ?_
  rw [svl_get (by omega)] at hu
  injection hu with hu
  subst hu
  simp; omega
theorem place_out {m q : Nat} (h : m ≤ q) : placeOf (svl m) ((q : Int) + 1) = -1 := by
  refine placeOf_none fun r u hu => ?_
  have hr := (List.getElem?_eq_some_iff.1 hu).1
  rw [svl_len] at hr
  rw [svl_get hr] at hu
  injection hu with hu
  subst hu
  simp; omega
section
variable {w w' : World} {v p : Nat} {σ σ' : St} {h : Hd} {ρ : Roles} {t : Sl} {l : List (Int × Int)} {last : Int}
theorem save_full (s : Sav w v p t l last) (hl : 15 ≤ l.length) :
    Calls Try.prog 19 #[.pointer (some ⟨v, 0, none⟩)] w fun e w' => e = .returned (.tuple #[zeroO, .int .i64 9]) ∧ Ext w w' := by
  have htn : 15 ≤ t.n := by rw [s.n]; exact hl
  have s1 := s.ext ((Ext.rfl_ w).alloc_ (.cells #[.int .i64 0, .bool false, .int .i64 0, .int .i64 0, .string ByteArray.empty, .int .i64 0, .int .i64 0, .int .i64 0] 27))
  have hc := s1.blk.cell
  go_enter Try.func19, Try.ntmps19
  go_wp2_with (go_at_call 65; refine (none_c s1).mono ?_; rintro e w1 ⟨rfl, rfl⟩)
  refine bodyPost_ret (res_ct rfl rfl (Blk.new w 27 _) Try.underlying27 (by kernel_rfl)) rfl ⟨rfl, (Ext.rfl_ w).alloc_ _⟩
/-- Going back, where nothing was done. -/
theorem back_nested {m i : Nat} (hi : i < m) {W : World} {h' : Hd} {ρ' : Roles} (s : Sto W p (svs m) h' ρ') :
    Calls Try.prog 71 #[.pointer (some ⟨p, 0, none⟩), .int .i64 ((i : Int) + 1)] W fun e w' => e = .returned (.int .i64 0) ∧ StoTo W w' p ρ' (svs (i + 1)) := by
  have := back_c s (i + 1) 0 0 0 0 100 (by omega) (by simp [svs, hi]) (Nat.zero_le _) (Nat.zero_le _) (Nat.zero_le _) (Nat.zero_le _) (by omega) (by omega) (fun _ => svs m) rfl (fun _ => ⟨rfl, rfl, rfl, rfl, rfl⟩)
    (fun q C _ hq => by simp [svs, St.empty] at hq)
  have e : (svs m).cut (i + 1) 0 0 0 0 100 = svs (i + 1) := by
    simp only [St.cut, svs, St.empty, List.take_nil, List.take_replicate]
    rw [Nat.min_eq_left (by omega)]
  rw [e] at this
  exact this
end
end Go.Proofs.Ythhckledkhcfeaa
