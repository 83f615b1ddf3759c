/- What the law layer answers() shows: it returns true, and only new memory is laid. -/
import Derived.Test.YthhckledkhcfeaaStI
import Derived.Lib.SmallJoins
namespace Go.Proofs.Ythhckledkhcfeaa
open Go.RowKit
section
theorem View.marked (w : World) (cs : List Value) (t : TypeId) (fr : Nat × Nat) : View (w.alloc (.cells cs.toArray t fr)) 1 (some ⟨w.heap.size, 0, none⟩) cs.length cs :=
  ⟨by simp, fun _ => ⟨w.heap.size, 0, rfl, by simp, fun j u hu => by rw [Nat.zero_add, World.cell?_alloc_mark]; simpa using hu⟩⟩
set_option maxRecDepth 100000 in
theorem answers_c (w : World) : Calls Try.prog 14 #[] w fun e w' => e = .returned (.bool true) ∧ Ext w w' := by
  have kc := fun (w : World) (C : Array Value) (n c : Nat) => Lib.run_convert_bytes_const (P := Try.prog) w 45 5 C n c Try.underlying45 Try.underlying5
  go_enter Try.func14, Try.ntmps14
  go_upto_region 4 with (
    go_at_call 12
    refine (new_ok 100 w (by omega) (by omega)).mono ?_
    rintro e w1 ⟨rfl, s1, hx1⟩)
  go_upto_region 5 with (
    go_at_call 25
    refine (Text_ok (bs := [97, 98]) (s1.ext ((Ext.rfl_ w1).alloc_ _)) (View.marked w1 [.int .u8 97, .int .u8 98] 5 (2, 3)) (fun g o hg => by injection hg with hg; injection hg with hg; subst hg; exact s1.fresh (Nat.le_refl _)) (by simp) (by simp [St.empty])).mono ?_
    rintro e w2 ⟨rfl, h2, ρ2, s2, hm2⟩)
  have hm : Ext w w2 := by
    exact ((Moves.ext_left hx1 (Moves.ext_left ((Ext.rfl_ w1).alloc_ _) hm2)).below (B := w.heap.size) (fun b hb => by rw [Roles.one_own hb]; exact Nat.le_refl _) (Nat.le_refl _))
  go_upto_region 6 with (
    go_at_call 26
    refine (bytes_ok (s2.ext ((Ext.rfl_ w2).alloc_ _)) false 0 0 ByteArray.empty 0 0 2 [97, 98] rfl (by simp)).mono ?_
    rintro e w3 ⟨⟨a, n, c⟩, rfl, hvn, hfr⟩
    dsimp only at hvn
    subst hvn)
  obtain ⟨g, ha, hg⟩ := hfr.1.pos (by simp)
  dsimp only at ha
  subst ha
  have kb : (convert 45 9 (.slice (some ⟨g, 0, none⟩) 2 c)).run Try.prog w3 = .ok (.string ⟨#[97, 98]⟩) w3 :=
    run_convert_bytes_back (P := Try.prog) w3 45 9 5 ⟨g, 0, none⟩ c [97, 98] Try.underlying45 Try.underlying5 Try.underlying9 (fun j hj => by
      have := hfr.1.cell rfl j (by simpa using hj)
      rw [show (Addr.add ⟨g, 0, none⟩ j) = ⟨g, j, none⟩ by simp [Addr.add]; omega, this]
      match j, hj with
      | 0, _ => rfl
      | 1, _ => rfl)
  go_wp2_with (
    go_at_call 42
    refine (free_c (s2.ext (((Ext.rfl_ w2).alloc_ _).trans_ hfr.2.2))).mono ?_
    rintro e w4 ⟨rfl, rfl⟩)
  go_ret
  exact ⟨rfl, ((hm.alloc_ _).trans_ hfr.2.2)⟩
end
end Go.Proofs.Ythhckledkhcfeaa
