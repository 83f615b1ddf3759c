/- The store's functions, part F: Text. -/
import Derived.Test.YthhckledkhcfeaaStE
namespace Go.Proofs.Ythhckledkhcfeaa
open Go.RowKit
section
variable {w : World} {p : Nat} {σ : St} {h : Hd} {ρ : Roles}
theorem byteCells_one (l : List UInt8) : ∀ u ∈ byteCells l, u.oneCell' = true := by
  intro u hu
  obtain ⟨b, -, rfl⟩ := List.mem_map.1 hu
  rfl
set_option maxHeartbeats 400000 in
theorem Text_ok (s : Sto w p σ h ρ) {A : Option Addr} {c : Nat} {bs : List UInt8} (hv : View w 1 A bs.length (byteCells bs)) (hap : ∀ g o, A = some ⟨g, o, none⟩ → ρ g = none) (h1 : bs.length ≤ 65535) (h2 : 1 + ((bs.length : Int) + 7) / 8 ≤ σ.free) :
    Calls Try.prog 25 #[.pointer (some ⟨p, 0, none⟩), .slice A bs.length c] w fun e w' =>
      e = .returned (.tuple #[.agg #[.int .i64 6, .bool false, .int .i64 0, .int .i64 0, .string ByteArray.empty, .int .i64 σ.texts.length, .int .i64 0, .int .i64 bs.length], .int .i64 0]) ∧
        StoTo w w' p ρ { σ with free := σ.free - (1 + ((bs.length : Int) + 7) / 8), texts := σ.texts ++ [bs] } := by
  obtain ⟨n, hn⟩ : ∃ n, n = bs.length := ⟨_, rfl⟩
  rw [← hn] at hv h1 h2 ⊢
  have hN := Lib.hid hn
  clear hn
  have hv0 : ∀ (w1 : World) (ρ' : Roles), Moves (w.alloc (.cells #[.int .i64 0, .bool false, .int .i64 0, .int .i64 0, .string ByteArray.empty, .int .i64 0, .int .i64 0, .int .i64 0] 27)) w1 ρ.own ρ'.own → View w1 1 A n (byteCells bs) := fun w1 ρ' hm =>
    hv.keep (Nat.le_trans (by simp) hm.size) fun g o hA hg => (hm.block g (by simp; omega) (Roles.not_own (hap g o hA))).trans (Below.heap_alloc _ _ _ hg)
  go_enter Try.func25, Try.ntmps25
  go_upto_region 3 with (
    go_at_call 72
    refine (string_ok (s.ext ((Ext.rfl_ w).alloc_ _)) n h1 h2).mono ?_
    rintro e w1 ⟨rfl, h', ρ', s', hm⟩)
  have hB0 : Blk w1 w.heap.size 27 [.int .i64 0, .bool false, .int .i64 0, .int .i64 0, .string ByteArray.empty, .int .i64 0, .int .i64 0, .int .i64 0] := (Blk.new w _ _).moves hm (Roles.not_own (s.fresh (Nat.le_refl _)))
  have hn1 : ¬ ρ'.own w.heap.size := hm.apart (Roles.not_own (s.fresh (Nat.le_refl _))) (by simp)
  have hv1 : View w1 1 A n (byteCells bs) := hv0 w1 ρ' hm
  generalize hY : World.alloc w1 _ = Y
  obtain ⟨hy, hcY, hfY, hzY, hbY⟩ := boxed hY
  clear hY
  have s2 := s'.ext hy
  obtain ⟨g, t, b, ha, ht1, ht2, hcell, hrow, hon, hg, hglt, htn, hb⟩ := s2.text_at (r := σ.texts.length) (by simp)
  have hbn : b.length = n := by simp at ht2; rw [← ht2]; simp
  have htn' : t.n = n := htn.trans hbn
  have hmain := s2.main
  rw [ha] at hmain
  have hc := hmain.cell
  have hps := s2.lt
  have hrn : σ.texts.length < h'.texts.n := by rw [s2.ntexts]; simp
  have hcs : (byteCells bs).length = Nat.min n t.n * 1 := by rw [htn', hv.1]; simp
  have hcb := Lib.hid hbn
  have hHt' := Lib.hid htn'
  have hHt := Lib.hid htn
  have hHt2 := Lib.hid ht2
  have hHt1 := Lib.hid ht1
  have hHa := Lib.hid ha
  clear hbn htn' htn ht2 ht1 ha
  go_region_law ((
    refine step_copy_row (by rfl) _ _ _ _ (by rfl) 5 1 Try.underlying45 (by kernel_rfl) _ _ _ _ _ _ (by rfl) (by rfl) hrow.drew 0 (byteCells bs) hcs ?_ ?_ ?_ ?_ ?_
    · intro h0
      obtain ⟨gt, hgt, -⟩ := hrow.pos (by rw [hHt'.out]; rw [hv.1] at h0; omega)
      exact ⟨gt, hgt, hgt⟩
    · intro h0
      obtain ⟨gv, ov, hA, -, hj⟩ := (hv1.ext hy).2 h0
      exact ⟨gv, ov, hA, hj⟩
    · rw [hv.1, hrow.len, hHt'.out]; omega
    · exact byteCells_one bs
    intro w2 hrow2 hg2 hz2))
  all_goals
    have s3 := (s2.keep (w' := Y.drew) (fun _ _ => rfl) (Nat.le_refl _)).setText hHt1.out hHt2.out (b' := bs) (by have := hN.out; have := hcb.out; omega) (w' := w2)
      (by have e : splice (byteCells b) 0 (byteCells bs) = byteCells bs := by { unfold splice; have h1 := hN.out; have h2 := hcb.out; simp [byteCells]; omega }
          rw [e] at hrow2; exact hrow2) (fun c hc hne => hg2.block c hc (fun e => hne e.symm)) hg2.size
    have hne : ∀ c, ¬ ρ'.own c → t.blk ≠ some c := fun c hc hb => hc (by unfold Roles.own; rw [hon c hb]; simp)
    have hB6 : Blk w2 w1.heap.size 27 _ := hbY.keep (hg2.block _ hbY.lt (fun e => hne _ (Roles.not_own (s'.fresh (Nat.le_refl _))) e.symm))
    have hB4 : Blk w2 w.heap.size 27 _ := (hB0.ext hy).keep (hg2.block _ (hB0.ext hy).lt (fun e => hne _ hn1 e.symm))
    have hne46 : w.heap.size < w1.heap.size := hB0.lt
    have hc6 := hB6.cell
    have hc4 := hB4.cell
    have hf4 := hB4.frozen
    have hm2 : Moves Y w2 ρ'.own ρ'.own := ⟨hg2.os, hg2.tape, hg2.output, hg2.size, fun c hc hn => hg2.block c hc (fun e => hne _ hn e.symm), fun _ h => .inl h⟩
    clear hc hps hcY hfY hg2 hrow2
    go_wp2
    have hB3 := ((((((((hB4.set_ 0 (.int .i64 6)).set_ 1 (.bool false)).set_ 2 (.int .i64 0)).set_ 3 (.int .i64 0)).set_ 4 (.string ByteArray.empty)).set_ 5 (.int .i64 σ.texts.length)).set_ 6 (.int .i64 0)).set_ 7 (.int .i64 n))
    refine bodyPost_ret (res_ct rfl rfl hB3 Try.underlying27 (by kernel_rfl)) rfl ⟨rfl, ?_⟩
    have ho : Only w2 w.heap.size _ := (((((((((Only.refl_ w2 w.heap.size).set_ 0 (.int .i64 6)).set_ 1 (.bool false)).set_ 2 (.int .i64 0)).set_ 3 (.int .i64 0)).set_ 4 (.string ByteArray.empty)).set_ 5 (.int .i64 σ.texts.length)).set_ 6 (.int .i64 0)).set_ 7 (.int .i64 n))
    have e2 : (σ.texts ++ [List.replicate n (0 : UInt8)]).set σ.texts.length bs = σ.texts ++ [bs] := by simp
    have s4 := s3.only ho (Roles.none_of hn1)
    simp only [e2] at s4
    exact ⟨_, ρ', s4, (((Moves.ext_left ((Ext.rfl_ w).alloc_ _) hm).ext_right hy).trans_ hm2).only ho (.inl (Nat.le_refl _))⟩

theorem Text_no (s : Sto w p σ h ρ) {A : Option Addr} {c n : Nat} (hno : 65535 < n ∨ σ.free < 1 + ((n : Int) + 7) / 8) (hmax : n ≤ 140737488351232) :
    Calls Try.prog 25 #[.pointer (some ⟨p, 0, none⟩), .slice A n c] w fun e w' =>
      e = .returned (.tuple #[zeroO, .int .i64 (takeE σ.free n 65535 (1 + ((n : Int) + 7) / 8))]) ∧ Ext w w' := by
  have he : (takeE σ.free n 65535 (1 + ((n : Int) + 7) / 8) == 0) = false := by unfold takeE; rw [if_neg (by omega)]; split; rfl; split; rfl; omega
  have hne : ¬ takeE σ.free n 65535 (1 + ((n : Int) + 7) / 8) = 0 := by simpa using he
  go_enter Try.func25, Try.ntmps25
  go_upto_region 4 with (
    go_at_call 72
    refine (string_no (s.ext ((Ext.rfl_ w).alloc_ _)) n (by omega) (by omega)).mono ?_
    rintro e w1 ⟨rfl, hx1⟩)
  have hB0 : Blk w1 w.heap.size 27 [.int .i64 0, .bool false, .int .i64 0, .int .i64 0, .string ByteArray.empty, .int .i64 0, .int .i64 0, .int .i64 0] := (Blk.new w _ _).ext hx1
  generalize hY : World.alloc w1 _ = Y
  obtain ⟨hy, hcY, hfY, hzY, hbY⟩ := boxed hY
  clear hY
  have hB4 := hB0.ext hy
  have hc4 := hB4.cell
  have hf4 := hB4.frozen
  have hne46 : w.heap.size < w1.heap.size := hB0.lt
  go_wp2
  have hB3 := ((((((((hB4.set_ 0 (.int .i64 0)).set_ 1 (.bool false)).set_ 2 (.int .i64 0)).set_ 3 (.int .i64 0)).set_ 4 (.string ByteArray.empty)).set_ 5 (.int .i64 0)).set_ 6 (.int .i64 0)).set_ 7 (.int .i64 0))
  refine bodyPost_ret (res_ct rfl rfl hB3 Try.underlying27 (by kernel_rfl)) rfl ⟨rfl, ?_⟩
  have hx : Ext w Y := (((Ext.rfl_ w).alloc_ _).trans_ hx1).trans_ hy
  exact ((((((((hx.set_ (p := ⟨w.heap.size, 0, none⟩) (Nat.le_refl _) _).set_ (p := ⟨w.heap.size, 1, none⟩) (Nat.le_refl _) _).set_ (p := ⟨w.heap.size, 2, none⟩) (Nat.le_refl _) _).set_ (p := ⟨w.heap.size, 3, none⟩) (Nat.le_refl _) _).set_ (p := ⟨w.heap.size, 4, none⟩) (Nat.le_refl _) _).set_ (p := ⟨w.heap.size, 5, none⟩) (Nat.le_refl _) _).set_ (p := ⟨w.heap.size, 6, none⟩) (Nat.le_refl _) _).set_ (p := ⟨w.heap.size, 7, none⟩) (Nat.le_refl _) _)
end
end Go.Proofs.Ythhckledkhcfeaa
