/- The operators on collections: Do. -/
import Derived.Test.YthhckledkhcfeaaCoD
namespace Go.Proofs.Ythhckledkhcfeaa
open Go.RowKit
section
variable {w w' : World} {c p : Nat} {t : Sl} {l : List Ob} {σ σ' : St} {h : Hd} {ρ : Roles}
set_option maxRecDepth 100000 in
set_option maxHeartbeats 1000000 in
theorem do_ok (s : Sto w p σ h ρ) {A : Option Addr} {n cc : Nat} (hv : View w 8 A n (obCells l)) (hnb : n ≤ 4294967296) (hval : ∀ o ∈ l, σ.valid o = true) (nm : ByteArray) (out : List Ob)
    (hkn : ∀ W, Calls Try.prog 95 #[.string nm] W fun e w' => e = .returned (.tuple #[.int .i64 n, .bool true]) ∧ W = w')
    (hrun : ∀ (W : World) (c : Nat) (t : Sl), Ext w W → Cal W c p t l → ρ c = none → Calls Try.prog 98 #[.pointer (some ⟨c, 0, none⟩), .string nm] W fun e w' =>
      ∃ v : Sl, e = .returned (.slice v.a v.n v.c) ∧ Row w' 27 8 v (obCells out) ∧ (∀ g, v.blk = some g → W.heap.size ≤ g) ∧ StoTo W w' p ρ σ') :
    Calls Try.prog 58 #[.pointer (some ⟨p, 0, none⟩), .string nm, .slice A n cc] w fun e w' =>
      ∃ v : Sl, e = .returned (.tuple #[.slice v.a v.n v.c, .int .i64 0]) ∧ Row w' 27 8 v (obCells out) ∧ (∀ g, v.blk = some g → w.heap.size ≤ g) ∧ StoTo w w' p ρ σ' := by
  have hmf : ∀ (fn : Fn) (first cap : Array Value) (w : World), (Instr.makeFunc fn first cap).run Try.prog w = .ok (.func fn first cap) w := fun _ _ _ _ => rfl
  have hK := Lib.hid hkn
  have hR := Lib.hid hrun
  have hV := Lib.hid hv
  have hVl := Lib.hid hval
  clear hkn hrun hv hval
  go_enter_defers Try.func58, Try.ntmps58
  go_upto_region 1 with fail
  generalize hX : World.alloc (World.alloc w _) _ = X
  obtain ⟨hx, hB6, hB7⟩ := boxed2 hX
  clear hX
  go_upto_region 5 with (first
    | (go_at_call 95; refine (hK.out X).mono ?_; rintro e w1 ⟨rfl, rfl⟩)
    | (go_at_call 96; refine (every_ok (s.ext hx) (hV.out.ext hx) hnb hVl.out).mono ?_; rintro e w2 ⟨rfl, hx2⟩))
  go_upto_region 6 with (go_at_call 64; refine (cloneObs cc ((hV.out.ext hx).ext hx2) (obCells_one l) hnb).mono ?_; rintro e w3 ⟨v3, rfl, hvn3, hfr3⟩; have hFr := Lib.hid hfr3; clear hfr3 hvn3)
  generalize hY : World.alloc w3 _ = Y
  obtain ⟨hy, hcY, hfY, hzY, hbY⟩ := boxed hY
  clear hY hcY hfY
  have hx3 : Ext X Y := (hx2.trans_ hFr.out.2.2).trans_ hy
  have hxY := hx.trans_ hx3
  have hcn : ρ w3.heap.size = none := s.fresh (hx.trans_ (hx2.trans_ hFr.out.2.2)).size
  have hcal : Cal Y w3.heap.size p v3 l := ⟨hbY, hFr.out.1.ext hy⟩
  have n6 : ¬ ρ.own w.heap.size := Roles.not_own (s.fresh (Nat.le_refl _))
  have n7 : ¬ ρ.own (w.heap.size + 1) := Roles.not_own (s.fresh (by omega))
  have hB6' := hB6.ext hx3
  have hB7' := hB7.ext hx3
  have hR' := Lib.hid (hR.out Y w3.heap.size v3 hxY hcal hcn)
  clear hFr hcal hK hVl hR hV
  go_wp2_with (
    go_at_call 98
    refine hR'.out.mono ?_
    rintro e w4 ⟨v, rfl, hrow4, hvg4, h4, ρ4, s4, m4⟩
    have e6 := hB6'.moves m4 n6
    have e7 := hB7'.moves m4 n7
    have hc6 := e6.cell
    have hc7 := e7.cell
    have hf6 := e6.frozen
    have hf7 := e7.frozen)
  refine leaves_cons (f := 97) (args := #[.pointer (some ⟨w.heap.size, 0, none⟩), .pointer (some ⟨w.heap.size + 1, 0, none⟩)]) (by simp) (by simp [go_sem]) ?_
  refine (catch_idle _ _ _).mono ?_
  rintro e u' w'' ⟨rfl, rfl, rfl⟩
  have E6 := (e6.set_ 0 (.slice v.a v.n v.c)).far (p := ⟨w.heap.size + 1, 0, none⟩) (by show w.heap.size ≠ w.heap.size + 1; omega) (.int .i64 0)
  have E7 := (e7.far (p := ⟨w.heap.size, 0, none⟩) (by show w.heap.size + 1 ≠ w.heap.size; omega) (.slice v.a v.n v.c)).set_ 0 (.int .i64 0)
  have hkeep : ∀ b, b ≠ w.heap.size → b ≠ w.heap.size + 1 → ((w4.setCell ⟨w.heap.size, 0, none⟩ (.slice v.a v.n v.c)).setCell ⟨w.heap.size + 1, 0, none⟩ (.int .i64 0)).heap[b]? = w4.heap[b]? := fun b h1 h2 => (Below.heap_setCell _ _ _ _ h2).trans (Below.heap_setCell _ _ _ _ h1)
  have hsz : w.heap.size + 2 ≤ Y.heap.size := by have := hB7'.lt; omega
  have hown4 : ∀ b, ρ4 b ≠ none → b ≠ w.heap.size ∧ b ≠ w.heap.size + 1 := fun b hb => by
    rcases m4.foot b hb with h1 | h1
    · have := s.bound b h1; omega
    · omega
  have hmv : Moves w ((w4.setCell ⟨w.heap.size, 0, none⟩ (.slice v.a v.n v.c)).setCell ⟨w.heap.size + 1, 0, none⟩ (.int .i64 0)) ρ.own ρ4.own :=
    ((Moves.ext_left hxY m4).only ((Only.refl_ w4 w.heap.size).set_ 0 (.slice v.a v.n v.c)) (.inl (Nat.le_refl _))).only ((Only.refl_ _ (w.heap.size + 1)).set_ 0 (.int .i64 0)) (.inl (by omega))
  have hst : Sto ((w4.setCell ⟨w.heap.size, 0, none⟩ (.slice v.a v.n v.c)).setCell ⟨w.heap.size + 1, 0, none⟩ (.int .i64 0)) p σ' h4 ρ4 := s4.keep (fun b hb => hkeep b (hown4 b hb).1 (hown4 b hb).2) (by simp)
  have hro : Row ((w4.setCell ⟨w.heap.size, 0, none⟩ (.slice v.a v.n v.c)).setCell ⟨w.heap.size + 1, 0, none⟩ (.int .i64 0)) 27 8 v (obCells out) := hrow4.keep fun g hg => hkeep g (by have := hvg4 g hg; omega) (by have := hvg4 g hg; omega)
  generalize (w4.setCell ⟨w.heap.size, 0, none⟩ (.slice v.a v.n v.c)).setCell ⟨w.heap.size + 1, 0, none⟩ (.int .i64 0) = W at E6 E7 hmv hst hro ⊢
  have g6 := E6.cell 0
  have g7 := E7.cell 0
  simp only [List.set_cons_zero, List.getElem?_cons_zero] at g6 g7
  simp only [Leaves, settle]
  refine ⟨.tuple #[.slice v.a v.n v.c, .int .i64 0], ?_, v, rfl, hro, fun g hg => by have := hvg4 g hg; omega, h4, ρ4, hst, hmv⟩
  simp [results, Try.results58, go_sem, g6, g7]
set_option maxRecDepth 100000 in
set_option maxHeartbeats 1000000 in
theorem do_no (s : Sto w p σ h ρ) {A : Option Addr} {n cc : Nat} (hv : View w 8 A n (obCells l)) (hnb : n ≤ 4294967296) (hval : ∀ o ∈ l, σ.valid o = true) (nm : ByteArray) (q : Int)
    (hkn : ∀ W, Calls Try.prog 95 #[.string nm] W fun e w' => e = .returned (.tuple #[.int .i64 n, .bool true]) ∧ W = w')
    (hrun : ∀ (W : World) (c : Nat) (t : Sl), Ext w W → Cal W c p t l → ρ c = none → Calls Try.prog 98 #[.pointer (some ⟨c, 0, none⟩), .string nm] W fun e w' =>
      e = gaveUp q ∧ Ext W w') :
    Calls Try.prog 58 #[.pointer (some ⟨p, 0, none⟩), .string nm, .slice A n cc] w fun e w' =>
      e = .returned (.tuple #[.slice none 0 0, .int .i64 q]) ∧ Ext w w' := by
  have hmf : ∀ (fn : Fn) (first cap : Array Value) (w : World), (Instr.makeFunc fn first cap).run Try.prog w = .ok (.func fn first cap) w := fun _ _ _ _ => rfl
  have hK := Lib.hid hkn
  have hR := Lib.hid hrun
  have hV := Lib.hid hv
  have hVl := Lib.hid hval
  clear hkn hrun hv hval
  go_enter_defers Try.func58, Try.ntmps58
  go_upto_region 1 with fail
  generalize hX : World.alloc (World.alloc w _) _ = X
  obtain ⟨hx, hB6, hB7⟩ := boxed2 hX
  clear hX
  go_upto_region 5 with (first
    | (go_at_call 95; refine (hK.out X).mono ?_; rintro e w1 ⟨rfl, rfl⟩)
    | (go_at_call 96; refine (every_ok (s.ext hx) (hV.out.ext hx) hnb hVl.out).mono ?_; rintro e w2 ⟨rfl, hx2⟩))
  go_upto_region 6 with (go_at_call 64; refine (cloneObs cc ((hV.out.ext hx).ext hx2) (obCells_one l) hnb).mono ?_; rintro e w3 ⟨v3, rfl, hvn3, hfr3⟩; have hFr := Lib.hid hfr3; clear hfr3 hvn3)
  generalize hY : World.alloc w3 _ = Y
  obtain ⟨hy, hcY, hfY, hzY, hbY⟩ := boxed hY
  clear hY hcY hfY
  have hx3 : Ext X Y := (hx2.trans_ hFr.out.2.2).trans_ hy
  have hxY := hx.trans_ hx3
  have hcn : ρ w3.heap.size = none := s.fresh (hx.trans_ (hx2.trans_ hFr.out.2.2)).size
  have hcal : Cal Y w3.heap.size p v3 l := ⟨hbY, hFr.out.1.ext hy⟩
  have n6 : ¬ ρ.own w.heap.size := Roles.not_own (s.fresh (Nat.le_refl _))
  have n7 : ¬ ρ.own (w.heap.size + 1) := Roles.not_own (s.fresh (by omega))
  have hB6' := hB6.ext hx3
  have hB7' := hB7.ext hx3
  have hR' := Lib.hid (hR.out Y w3.heap.size v3 hxY hcal hcn)
  clear hFr hcal hK hVl hR hV
  go_wp2_with (
    go_at_call 98
    refine hR'.out.mono ?_
    rintro e w4 ⟨rfl, hx4⟩
    have e6 := hB6'.ext hx4
    have e7 := hB7'.ext hx4
    have hc6 := e6.cell
    have hc7 := e7.cell
    have hf6 := e6.frozen
    have hf7 := e7.frozen)
  refine leaves_cons (f := 97) (args := #[.pointer (some ⟨w.heap.size, 0, none⟩), .pointer (some ⟨w.heap.size + 1, 0, none⟩)]) (by simp) (by simp [go_sem]) ?_
  refine (catch_panicking w.heap.size (w.heap.size + 1) _ _ q [] _ (hc6 0) (hc7 0) (hf6 0) (hf7 0) (by omega)).mono ?_
  rintro e u' w'' ⟨rfl, rfl, rfl⟩
  have E6 := (e6.set_ 0 (.slice none 0 0)).far (p := ⟨w.heap.size + 1, 0, none⟩) (by show w.heap.size ≠ w.heap.size + 1; omega) (.int .i64 q)
  have E7 := (e7.far (p := ⟨w.heap.size, 0, none⟩) (by show w.heap.size + 1 ≠ w.heap.size; omega) (.slice none 0 0)).set_ 0 (.int .i64 q)
  have hxx : Ext w ((w4.setCell ⟨w.heap.size, 0, none⟩ (.slice none 0 0)).setCell ⟨w.heap.size + 1, 0, none⟩ (.int .i64 q)) := ((hxY.trans_ hx4).set_ (p := ⟨w.heap.size, 0, none⟩) (Nat.le_refl _) _).set_ (p := ⟨w.heap.size + 1, 0, none⟩) (by show w.heap.size ≤ w.heap.size + 1; omega) _
  generalize (w4.setCell ⟨w.heap.size, 0, none⟩ (.slice none 0 0)).setCell ⟨w.heap.size + 1, 0, none⟩ (.int .i64 q) = W at E6 E7 hxx ⊢
  have g6 := E6.cell 0
  have g7 := E7.cell 0
  simp only [List.set_cons_zero, List.getElem?_cons_zero] at g6 g7
  simp only [Leaves, settle]
  refine ⟨.tuple #[.slice none 0 0, .int .i64 q], ?_, rfl, hxx⟩
  simp [results, Try.results58, go_sem, g6, g7]
end
end Go.Proofs.Ythhckledkhcfeaa
