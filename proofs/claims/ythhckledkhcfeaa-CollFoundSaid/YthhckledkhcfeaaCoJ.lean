/- The operators on collections: search by Do. -/
import Derived.Test.YthhckledkhcfeaaCoI
import Derived.Test.YthhckledkhcfeaaCoF
import Derived.Test.YthhckledkhcfeaaShelf
import Derived.Lib.IndexMore
import Derived.Lib.SlFresh
namespace Go.Proofs.Ythhckledkhcfeaa
open Go.RowKit
section
variable {w w' : World} {c p : Nat} {t : Sl} {l : List Ob} {σ : St} {h : Hd} {ρ : Roles}
theorem addr_add (g o i : Nat) : (⟨g, o, none⟩ : Addr).add i = ⟨g, o + i, none⟩ := by
  unfold Addr.add
  split
  · rename_i h; subst h; rfl
  · rfl
theorem numsL_cells {T : List UInt8} {g o : Nat} (hc : ∀ (j : Nat) (u : Value), (byteCells T)[j]? = some u → w.cell? ⟨g, o + j, none⟩ = some u) (i : Nat) (hi : i < T.length) : w.cell? ((⟨g, o, none⟩ : Addr).add i) = some (.int .u8 ((Lib.numsL T).getD i 0)) := by
  rw [addr_add, hc i (.int .u8 T[i].toNat) (by simp [byteCells, hi])]
  simp [Lib.numsL, hi]
theorem bindex_c {M : Int} (hM : w.cell? ⟨0, 0, none⟩ = some (.int .i64 M)) (T P : List UInt8) (hT : T.length ≤ 65535) (hP : P.length ≤ 65535) (A B : Option Addr) (c d : Nat) (hA : View w 1 A T.length (byteCells T)) (hB : View w 1 B P.length (byteCells P)) (hc : T.length ≤ c) (h0 : A = none → c = 0) :
    Calls Try.prog 158 #[.slice A T.length c, .slice B P.length d] w fun e w' => e = .returned (.int .i64 (Lib.index T P)) ∧ Ext w w' := by
  rcases P with _ | ⟨b, P⟩
  · refine (Try.bytes_Index_none A B T.length c d w).mono ?_
    rintro e w' ⟨rfl, rfl⟩
    exact ⟨by rw [Lib.index_empty], Ext.rfl_ _⟩
  · obtain ⟨g2, o2, rfl, _, hB2⟩ := hB.2 (by simp [byteCells])
    cases A with
    | none =>
      have hc0 := h0 rfl
      subst hc0
      have : T = [] := List.length_eq_zero_iff.1 (by omega)
      subst this
      refine (Try.bytes_Index_nil (some ⟨g2, o2, none⟩) (b :: P).length d w (by omega) (fun h1 => ⟨g2, o2, b.toNat, rfl, hB2 0 _ (by simp [byteCells])⟩)).mono ?_
      rintro e w' ⟨rfl, rfl⟩
      exact ⟨by simp [Lib.index], Ext.rfl_ _⟩
    | some a1 =>
      refine (Try.bytes_Index_at a1 ⟨g2, o2, none⟩ T.length c (b :: P).length d (Lib.numsL T) (Lib.numsL (b :: P)) M w (Lib.numsL_length _) (Lib.numsL_length _) (Lib.numsL_range _) (Lib.numsL_range _) ?_ (numsL_cells hB2) hc (by omega) (by omega) hM).mono ?_
      · intro i hi
        obtain ⟨g, o, h1, _, h2⟩ := hA.2 (by simp [byteCells]; omega)
        injection h1 with h1
        subst h1
        exact numsL_cells h2 i hi
      · rintro e w' ⟨rfl, q, rfl⟩
        exact ⟨by rw [Lib.bytesOf_numsL, Lib.bytesOf_numsL], (Ext.rfl_ _).drewN_ q⟩
theorem run_se (w : World) (R : Ending → World → Prop) (h : Calls Try.prog 137 #[.pointer (some ⟨c, 0, none⟩), .string nmSE] w R)
    (hR : ∀ e w', R e w' → ∃ A n cc, e = .returned (.slice A n cc)) :
    Calls Try.prog 98 #[.pointer (some ⟨c, 0, none⟩), .string nmSE] w R := by
  have hH := Lib.hid h
  have hHR := Lib.hid hR
  clear h hR
  go_enter Try.func98, Try.ntmps98
  go_wp2_with (
    go_at_call 137
    refine hH.out.mono ?_
    intro e w1 he
    have hHe := Lib.hid he
    obtain ⟨A, n, cc, rfl⟩ := hHR.out e w1 he
    clear he)
  exact hHe.out
theorem known_se (w : World) : Calls Try.prog 95 #[.string nmSE] w fun e w' => e = .returned (.tuple #[.int .i64 2, .bool true]) ∧ w = w' := by
  go_enter Try.func95, Try.ntmps95
  go_wp2
  go_ret2
  exact ⟨rfl, rfl⟩
theorem do_se (s : Sto w p σ h ρ) {M : Int} (hM : w.cell? ⟨0, 0, none⟩ = some (.int .i64 M)) {A : Option Addr} {cc : Nat} (x1 : Bool) (n1 : Int) (m1 : ByteArray) (r1 f1 l1 : Nat) (x2 : Bool) (n2 : Int) (m2 : ByteArray) (r2 f2 l2 : Nat)
    (hv : View w 8 A 2 (obCells [⟨6, x1, 0, n1, m1, r1, f1, l1⟩, ⟨6, x2, 0, n2, m2, r2, f2, l2⟩])) (bt bp : List UInt8) (hbt : σ.texts[r1]? = some bt) (hft : f1 + l1 ≤ bt.length) (hbp : σ.texts[r2]? = some bp) (hfp : f2 + l2 ≤ bp.length) :
    Calls Try.prog 58 #[.pointer (some ⟨p, 0, none⟩), .string nmSE, .slice A 2 cc] w fun e w' =>
      ∃ v : Sl, e = .returned (.tuple #[.slice v.a v.n v.c, .int .i64 0]) ∧ Row w' 27 8 v (obCells (found x1 n1 m1 r1 f1 l1 l2 (Lib.index ((bt.drop f1).take l1) ((bp.drop f2).take l2)))) ∧ (∀ g, v.blk = some g → w.heap.size ≤ g) ∧ StoTo w w' p ρ σ := by
  have hlt1 : bt.length ≤ 65535 := s.ok.text bt (List.mem_of_getElem? hbt)
  have hlt2 : bp.length ≤ 65535 := s.ok.text bp (List.mem_of_getElem? hbp)
  have hz : 0 < w.heap.size := by
    rcases Nat.eq_zero_or_pos w.heap.size with h | h
    · exfalso
      simp [World.cell?, h] at hM
    · exact h
  have hT : ((bt.drop f1).take l1).length = l1 := by rw [List.length_take, List.length_drop]; omega
  have hP : ((bp.drop f2).take l2).length = l2 := by rw [List.length_take, List.length_drop]; omega
  refine do_ok s hv (by omega) ?_ nmSE _ known_se fun W c t hW hcal hc => ?_
  · intro o ho
    simp only [List.mem_cons, List.mem_nil_iff, or_false] at ho
    rcases ho with rfl | rfl
    · have := isA_str (σ := σ) (x := x1) (ac := 0) (n := n1) (nm := m1) hbt hft
      unfold St.isA at this
      simp at this
      exact this
    · have := isA_str (σ := σ) (x := x2) (ac := 0) (n := n2) (nm := m2) hbp hfp
      unfold St.isA at this
      simp at this
      exact this
  · have hix : ∀ (W' : World) (A B : Option Addr) (c d : Nat), Ext W W' → View W' 1 A l1 (byteCells ((bt.drop f1).take l1)) → View W' 1 B l2 (byteCells ((bp.drop f2).take l2)) → l1 ≤ c → (A = none → c = 0) →
        Calls Try.prog 158 #[.slice A l1 c, .slice B l2 d] W' fun e w' => e = .returned (.int .i64 (Lib.index ((bt.drop f1).take l1) ((bp.drop f2).take l2))) ∧ Ext W' w' := by
      intro W' A B c d hx h1 h2 h3 h4
      have := bindex_c (((hW.trans_ hx).cells hz 0).trans hM) ((bt.drop f1).take l1) ((bp.drop f2).take l2) (by omega) (by omega) A B c d (by rw [hT]; exact h1) (by rw [hP]; exact h2) (by omega) h4
      rw [hT, hP] at this
      exact this
    refine (run_se W (R := fun e w' => ∃ v : Sl, e = .returned (.slice v.a v.n v.c) ∧ Fresh W w' 27 8 v (obCells (found x1 n1 m1 r1 f1 l1 l2 (Lib.index ((bt.drop f1).take l1) ((bp.drop f2).take l2))))) ?_ (fun e w' ⟨v, he, _⟩ => ⟨_, _, _, he⟩)).mono ?_
    · by_cases hi : Lib.index ((bt.drop f1).take l1) ((bp.drop f2).take l2) < 0
      · exact search_no (s.ext hW) x1 n1 m1 r1 f1 l1 x2 n2 m2 r2 f2 l2 hcal bt bp hbt hft hbp hfp _ hi hix
      · have hr := Lib.index_room ((bt.drop f1).take l1) ((bp.drop f2).take l2) (by omega)
        rw [hT, hP] at hr
        exact search_yes (s.ext hW) x1 n1 m1 r1 f1 l1 x2 n2 m2 r2 f2 l2 hcal bt bp hbt hft hbp hfp _ (by omega) hr hix
    · rintro e w' ⟨v, rfl, hfr⟩
      exact ⟨v, rfl, hfr.1, hfr.2.1, (s.ext hW).to_ext hfr.2.2⟩
end
end Go.Proofs.Ythhckledkhcfeaa
