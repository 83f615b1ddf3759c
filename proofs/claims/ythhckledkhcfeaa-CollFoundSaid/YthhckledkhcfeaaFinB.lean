/- An argument of bytes, opened. -/
import Derived.Test.YthhckledkhcfeaaFin
import Derived.Lib.SmallJoins
namespace Go.Proofs.Ythhckledkhcfeaa
open Go.RowKit Go.ChangeShapes Go.WideShapes Go.ChangeAt
set_option maxRecDepth 100000 in
theorem bytes_open {H : Type} {enc : TypeId × Value → H} {w : World} {base : Nat} {held : Bool} {r : Reach} {b0 : Nat} {v : Value} {d : DataW H} {p : List MemPlace}
    (hv : Value.okWide Try.prog w r b0 45 v) (h : DataW.Trod enc Try.prog w base (fun _ => true) held 45 v d p) :
    ∃ (A : Option Addr) (T : List UInt8) (c : Nat), v = .slice A T.length c ∧ View w 1 A T.length (byteCells T) ∧ T.length ≤ c ∧ c ≤ maxLen := by
  obtain ⟨A, n, c, rfl⟩ := okWide_slice Try.underlying45 hv
  obtain ⟨fuel, hf⟩ := h
  rcases open_ints Try.underlying45 Try.underlying5 (by kernel_rfl) hf with ⟨hcs, hx⟩ | ⟨a, len', cap', zs, hcs, _, hl, hm, hz, hx, hcell, hwz⟩
  · simp [Value.cells] at hcs
    obtain ⟨rfl, rfl, rfl⟩ := hcs
    exact ⟨none, [], 0, rfl, ⟨rfl, fun h0 => by simp [byteCells] at h0⟩, Nat.le_refl _, Nat.zero_le _⟩
  · simp [Value.cells] at hcs
    obtain ⟨rfl, rfl, rfl⟩ := hcs
    simp only [if_true] at hz

    refine ⟨some a, ((zs.take n).map fun z => UInt8.ofNat z.toNat), c, by simp; omega, ⟨by simp [byteCells], fun h0 => ?_⟩, by simp; omega, hm⟩
    have hn : 0 < n := by simp [byteCells] at h0; omega
    obtain ⟨b, o, s⟩ := a
    obtain rfl : s = none := by simpa [Addr.add] using World.cell?_spot (hcell 0 (by omega))
    have hc0 := hcell 0 (by omega)
    refine ⟨b, o, rfl, ?_, fun j u hu => ?_⟩
    · rcases Nat.lt_or_ge b w.heap.size with h1 | h1
      · exact h1
      · rw [Addr.add_lit] at hc0
        simp [World.cell?, Array.getElem?_eq_none h1] at hc0
    · have hj : j < n := by have := (List.getElem?_eq_some_iff.1 hu).1; simp [byteCells] at this; omega
      have h1 := hcell j (by omega)
      rw [Addr.add_lit] at h1
      rw [h1]
      have hzj : zs[j]? = some (zs.getD j 0) := by
        rw [List.getD_eq_getElem?_getD, List.getElem?_eq_getElem (by omega)]; rfl
      have hw := hwz _ (List.mem_of_getElem? hzj)
      simp only [Lit.wf, Bool.and_eq_true, decide_eq_true_eq, show IntKind.u8.min = 0 from rfl, show IntKind.u8.max = 255 from rfl] at hw
      simp only [byteCells, List.getElem?_map, List.getElem?_take_of_lt hj, hzj, Option.map_some, Option.some.injEq] at hu
      rw [← hu]
      congr 2
      rw [UInt8.toNat_ofNat']
      omega
end Go.Proofs.Ythhckledkhcfeaa
