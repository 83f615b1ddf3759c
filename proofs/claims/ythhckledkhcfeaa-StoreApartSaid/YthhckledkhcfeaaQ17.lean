/- law05.render answers what rnd says: strings, and plain things. law05.render answers what rnd says: arrays. law05.render answers what rnd says: dictionaries; all objects. law05.render answers what rnd says: all objects. -/
import Derived.Test.YthhckledkhcfeaaQ16
namespace Go.Proofs.Ythhckledkhcfeaa
open Go.RowKit
def Bs (l : List UInt8) : ByteArray := ⟨l.toArray⟩
theorem Bs_cat (a b : List UInt8) : Bs a ++ Bs b = Bs (a ++ b) := by
  apply ByteArray.ext
  simp [Bs, ByteArray.data_append]
theorem Bs_size (a : List UInt8) : (Bs a).size = a.length := rfl
theorem cat_mk {A B : ByteArray} {la lb : List UInt8} (hA : Hid (A = Bs la)) (hB : Hid (B = Bs lb)) (hs : la.length + lb.length ≤ 9223372036854775807) :
    ∃ C, A ++ B = C ∧ Hid (C = Bs (la ++ lb)) ∧ A.size + B.size ≤ 9223372036854775807 :=
  ⟨Bs (la ++ lb), by rw [hA.out, hB.out, Bs_cat], Lib.hid rfl, by rw [hA.out, hB.out]; exact hs⟩
/-- What render may be asked for: the objects G, so deep at most. -/
structure Rend (σ : St) (G : Ob → Prop) (D : Nat) : Prop where
  wf : ∀ o, G o → I64 o.k ∧ I64 o.ac ∧ I64 o.n
  acc : ∀ o, I64 (σ.accessF o)
  siz : ∀ o, I64 (σ.sizeF o).1.1 ∧ I64 (σ.sizeF o).1.2
  items : ∀ o, G o → ∀ x ∈ (σ.itemsF o).1, G x
  pairs : ∀ o, G o → ∀ q ∈ σ.pairsF o, G q.1 ∧ G q.2
  len : ∀ d, d ≤ D → ∀ o, G o → (rnd σ d o).length ≤ 9223372036854775807
theorem dec_bs (n : Int) (hn : I64 n) (w : World) : Calls Try.prog 80 #[.int .i64 n] w fun e w' => e = .returned (.string (Bs (decL n))) ∧ Ext w w' := dec_c n hn w
/-- The head of a text. -/
theorem head_mk (k : Int) (x : Bool) (hk : (decL k ++ if x then [120] else []).length ≤ 9223372036854775807) : ∃ T KD : ByteArray, Hid (KD = Bs (decL k)) ∧ Hid (T = Bs (decL k ++ if x then [120] else [])) ∧
    ((x = false ∧ T = KD) ∨ (x = true ∧ KD ++ ⟨#[120]⟩ = T ∧ KD.size + (⟨#[120]⟩ : ByteArray).size ≤ 9223372036854775807)) := by
  cases x
  · exact ⟨Bs (decL k), Bs (decL k), Lib.hid rfl, Lib.hid (by simp), .inl ⟨rfl, rfl⟩⟩
  · refine ⟨Bs (decL k ++ [120]), Bs (decL k), Lib.hid rfl, Lib.hid rfl, .inr ⟨rfl, Bs_cat _ [120], ?_⟩⟩
    simp at hk
    show (decL k).length + 1 ≤ 9223372036854775807
    omega
section
variable {w : World} {p : Nat} {σ : St} {h : Hd} {ρ : Roles}
theorem rnd_6 (d : Nat) (x : Bool) (ac n : Int) (nm : ByteArray) (rf fr ln : Int) : rnd σ d ⟨6, x, ac, n, nm, rf, fr, ln⟩ = (decL 6 ++ if x then [120] else []) ++ [46] ++ decL ac ++ [40] ++ (σ.bytesF ⟨6, x, ac, n, nm, rf, fr, ln⟩).1 ++ [41] := by
  cases d <;> rfl
theorem rnd_p (d : Nat) (k : Int) (x : Bool) (ac n : Int) (nm : ByteArray) (rf fr ln : Int) (h6 : k ≠ 6) (h7 : k ≠ 7) (h8 : k ≠ 8) : rnd σ d ⟨k, x, ac, n, nm, rf, fr, ln⟩ = (decL k ++ if x then [120] else []) ++ [58] ++ decL n ++ nm.data.toList := by
  cases d <;> simp only [rnd, if_neg h6, if_neg h7, if_neg h8, rndHead]
set_option maxRecDepth 100000 in
set_option maxHeartbeats 4000000 in
theorem ren6 {G : Ob → Prop} {D d : Nat} (R : Rend σ G D) (s : Sto w p σ h ρ) (hd : d ≤ D) (x : Bool) (ac n : Int) (nm : ByteArray) (rf fr ln : Int) (ho : G ⟨6, x, ac, n, nm, rf, fr, ln⟩) :
    Calls Try.prog 28 #[.pointer (some ⟨p, 0, none⟩), .agg #[.int .i64 6, .bool x, .int .i64 ac, .int .i64 n, .string nm, .int .i64 rf, .int .i64 fr, .int .i64 ln], .int .i64 d] w fun e w' =>
      e = .returned (.string (Bs (rnd σ d ⟨6, x, ac, n, nm, rf, fr, ln⟩))) ∧ Ext w w' := by
  have hlen := R.len d hd _ ho
  obtain ⟨-, hac, -⟩ := R.wf _ ho
  dsimp only at hac
  have hby := fun W (hx : Ext w W) => bytes_f (s.ext hx) ⟨6, x, ac, n, nm, rf, fr, ln⟩
  rw [rnd_6] at hlen ⊢
  generalize σ.bytesF ⟨6, x, ac, n, nm, rf, fr, ln⟩ = BF at hby hlen ⊢
  obtain ⟨B, be⟩ := BF
  dsimp only [Ob.cells] at hby hlen ⊢
  obtain ⟨DA, hDA⟩ : ∃ DA, DA = Bs (decL ac) := ⟨_, rfl⟩
  obtain ⟨BB, hBB⟩ : ∃ BB, BB = Bs B := ⟨_, rfl⟩
  have hdac := fun W => dec_bs ac hac W
  have hd6 := fun W => dec_bs 6 ⟨by omega, by omega⟩ W
  have hHDA := Lib.hid hDA
  have hHBB := Lib.hid hBB
  rw [← hDA] at hdac
  clear hDA
  simp only [List.length_append, List.length_cons, List.length_nil] at hlen
  obtain ⟨T0, KD, eK, e0, hx0⟩ := head_mk 6 x (by simp only [List.length_append]; omega)
  rw [← eK.out] at hd6
  obtain ⟨T1, c1, e1, z1⟩ := cat_mk e0 (B := ⟨#[46]⟩) (lb := [46]) (Lib.hid rfl) (by simp only [List.length_append, List.length_cons, List.length_nil]; omega)
  obtain ⟨T2, c2, e2, z2⟩ := cat_mk e1 hHDA (by simp only [List.length_append, List.length_cons, List.length_nil]; omega)
  obtain ⟨T3, c3, e3, z3⟩ := cat_mk e2 (B := ⟨#[40]⟩) (lb := [40]) (Lib.hid rfl) (by simp only [List.length_append, List.length_cons, List.length_nil]; omega)
  obtain ⟨T4, c4, e4, z4⟩ := cat_mk e3 hHBB (by simp only [List.length_append, List.length_cons, List.length_nil]; omega)
  obtain ⟨T5, c5, e5, z5⟩ := cat_mk e4 (B := ⟨#[41]⟩) (lb := [41]) (Lib.hid rfl) (by simp only [List.length_append, List.length_cons, List.length_nil]; omega)
  rw [← e5.out]
  have hHby := Lib.hid hby
  have hHdac := Lib.hid hdac
  have hHd6 := Lib.hid hd6
  clear hby hdac hd6 hlen hBB hac
  rcases hx0 with ⟨rfl, rfl⟩ | ⟨rfl, cx, zx⟩
  all_goals
    go_enter Try.func28, Try.ntmps28
    go_upto_region 1 with fail
    generalize hX : World.alloc w _ = X
    obtain ⟨hx, hcX, hfX, hzX, hbX⟩ := boxed hX
    clear hX
    go_upto_region 4 with (
      go_at_call 80
      refine (hHd6.out _).mono ?_
      rintro e w1 ⟨rfl, hx1⟩
      have hc1 := (hbX.ext hx1).cell)
    go_upto_region 7 with (
      go_at_call 26
      refine (hHby.out _ (hx.trans_ hx1)).mono ?_
      rintro e w2 ⟨⟨va, vn, vc⟩, rfl, hvn, hfr⟩
      dsimp only at hvn
      subst hvn)
    have hb2 := (hbX.ext hx1).ext hfr.2.2
    have f4 := fun (E : ExtOf w2) i => (E.cells hb2.lt i).trans (hb2.cell i)
    have kb : ∀ E : ExtOf w2, (convert 45 9 (.slice va B.length vc)).run Try.prog E.w = .ok (.string BB) E.w := fun E => by
      rw [hHBB.out]
      exact run_string vc ((View.of_row (hfr.1.ext E.h)))
    refine wp_region_ext (by kernel_rfl) (by kernel_rfl) ?_
    repeat (go_big_quiet_step ((go_at_call 80; exact quiet_ext (hHdac.out _))))
    refine wpQuiet_nil fun E => ?_
    go_wp2
    go_ret
    exact ⟨rfl, ((hx.trans_ hx1).trans_ hfr.2.2).trans_ E.h⟩
set_option maxRecDepth 100000 in
set_option maxHeartbeats 4000000 in
theorem renP {G : Ob → Prop} {D d : Nat} (R : Rend σ G D) (s : Sto w p σ h ρ) (hd : d ≤ D) (k : Int) (x : Bool) (ac n : Int) (nm : ByteArray) (rf fr ln : Int) (h6 : k ≠ 6) (h7 : k ≠ 7) (h8 : k ≠ 8) (ho : G ⟨k, x, ac, n, nm, rf, fr, ln⟩) :
    Calls Try.prog 28 #[.pointer (some ⟨p, 0, none⟩), .agg #[.int .i64 k, .bool x, .int .i64 ac, .int .i64 n, .string nm, .int .i64 rf, .int .i64 fr, .int .i64 ln], .int .i64 d] w fun e w' =>
      e = .returned (.string (Bs (rnd σ d ⟨k, x, ac, n, nm, rf, fr, ln⟩))) ∧ Ext w w' := by
  have hlen := R.len d hd _ ho
  obtain ⟨hk, -, hn⟩ := R.wf _ ho
  dsimp only at hk hn
  rw [rnd_p d k x ac n nm rf fr ln h6 h7 h8] at hlen ⊢
  obtain ⟨DA, hDA⟩ : ∃ DA, DA = Bs (decL n) := ⟨_, rfl⟩
  have hdac := fun W => dec_bs n hn W
  have hd6 := fun W => dec_bs k hk W
  have hHDA := Lib.hid hDA
  have hHnm : Hid (nm = Bs nm.data.toList) := Lib.hid (by simp [Bs])
  rw [← hDA] at hdac
  clear hDA
  simp only [List.length_append, List.length_cons, List.length_nil] at hlen
  obtain ⟨T0, KD, eK, e0, hx0⟩ := head_mk k x (by simp only [List.length_append]; omega)
  rw [← eK.out] at hd6
  obtain ⟨T1, c1, e1, z1⟩ := cat_mk e0 (B := ⟨#[58]⟩) (lb := [58]) (Lib.hid rfl) (by simp only [List.length_append, List.length_cons, List.length_nil]; omega)
  obtain ⟨T2, c2, e2, z2⟩ := cat_mk e1 hHDA (by simp only [List.length_append, List.length_cons, List.length_nil]; omega)
  obtain ⟨T3, c3, e3, z3⟩ := cat_mk e2 hHnm (by simp only [List.length_append, List.length_cons, List.length_nil]; omega)
  rw [← e3.out]
  have hHdac := Lib.hid hdac
  have hHd6 := Lib.hid hd6
  have b6 : (k == 6) = false := by simp [h6]
  have b7 : (k == 7) = false := by simp [h7]
  have b8 : (k == 8) = false := by simp [h8]
  clear hdac hd6 hlen hn hk
  rcases hx0 with ⟨rfl, rfl⟩ | ⟨rfl, cx, zx⟩
  all_goals
    go_enter Try.func28, Try.ntmps28
    go_upto_region 1 with fail
    generalize hX : World.alloc w _ = X
    obtain ⟨hx, hcX, hfX, hzX, hbX⟩ := boxed hX
    clear hX
    go_upto_region 4 with (
      go_at_call 80
      refine (hHd6.out _).mono ?_
      rintro e w1 ⟨rfl, hx1⟩
      have hc1 := (hbX.ext hx1).cell)
    go_upto_region 25 with fail
    have hb2 := hbX.ext hx1
    have f4 := fun (E : ExtOf w1) i => (E.cells hb2.lt i).trans (hb2.cell i)
    refine wp_region_ext (by kernel_rfl) (by kernel_rfl) ?_
    repeat (go_big_quiet_step ((go_at_call 80; exact quiet_ext (hHdac.out _))))
    refine wpQuiet_nil fun E => ?_
    go_wp2
    go_ret
    exact ⟨rfl, (hx.trans_ hx1).trans_ E.h⟩
end
end Go.Proofs.Ythhckledkhcfeaa
namespace Go.Proofs.Ythhckledkhcfeaa
open Go.RowKit
theorem flat_take_succ {α : Type} {f : α → List UInt8} {l : List α} {i : Nat} {u : α} (h : l[i]? = some u) : (l.take (i + 1)).flatMap f = (l.take i).flatMap f ++ f u := by
  rw [List.take_add_one, h, List.flatMap_append]
  simp
theorem flat_take_le {α : Type} {f : α → List UInt8} (l : List α) {i n : Nat} (h : i ≤ n) : ((l.take i).flatMap f).length ≤ ((l.take n).flatMap f).length := by
  obtain ⟨m, rfl⟩ : ∃ m, n = i + m := ⟨n - i, by omega⟩
  rw [List.take_add, List.flatMap_append, List.length_append]
  omega
/-- render's contract at one depth. -/
def RenC (σ : St) (G : Ob → Prop) (d : Nat) : Prop := ∀ {w : World} {p : Nat} {h : Hd} {ρ : Roles}, Sto w p σ h ρ → ∀ o, G o →
  Calls Try.prog 28 #[.pointer (some ⟨p, 0, none⟩), .agg o.cells.toArray, .int .i64 d] w fun e w' => e = .returned (.string (Bs (rnd σ d o))) ∧ Ext w w'
section
variable {w : World} {p : Nat} {σ : St} {h : Hd} {ρ : Roles}
theorem itemsF_len (ok : σ.Ok) (o : Ob) : (σ.itemsF o).1.length ≤ 65535 := by
  unfold St.itemsF
  split
  · simp
  · have : (σ.lists.getD o.rf.toNat []).length ≤ 65535 := by
      rcases Nat.lt_or_ge o.rf.toNat σ.lists.length with h | h
      · rw [show σ.lists.getD o.rf.toNat [] = σ.lists[o.rf.toNat] by simp [List.getD, h]]
        exact ok.list _ (List.getElem_mem h)
      · rw [show σ.lists.getD o.rf.toNat [] = [] by simp [List.getD, h]]
        simp
    simp only [List.length_take, List.length_drop]
    omega
/-- How many of n are shown at a depth. -/
def upto (d n : Nat) : Nat := if d = 0 then 0 else n
theorem upto_le (d n : Nat) : upto d n ≤ n := by unfold upto; split <;> omega
theorem rnd_7 (d : Nat) (x : Bool) (ac n : Int) (nm : ByteArray) (rf fr ln : Int) : rnd σ d ⟨7, x, ac, n, nm, rf, fr, ln⟩ = (decL 7 ++ if x then [120] else []) ++ [46] ++ decL ac ++ [91] ++
    ((σ.itemsF ⟨7, x, ac, n, nm, rf, fr, ln⟩).1.take (upto d (σ.itemsF ⟨7, x, ac, n, nm, rf, fr, ln⟩).1.length)).flatMap (fun u => rnd σ (d - 1) u ++ [32]) ++ decL ((σ.itemsF ⟨7, x, ac, n, nm, rf, fr, ln⟩).1.length : Int) ++ [93] := by
  cases d with
  | zero => simp [rnd, rndHead, upto]
  | succ d => simp [rnd, rndHead, upto]
set_option maxRecDepth 100000 in
set_option maxHeartbeats 4000000 in
theorem ren7 {G : Ob → Prop} {D d : Nat} (R : Rend σ G D) (s : Sto w p σ h ρ) (hd : d ≤ D) (hD : D ≤ 100) (IH : ∀ d', d = d' + 1 → RenC σ G d') (x : Bool) (ac n : Int) (nm : ByteArray) (rf fr ln : Int) (ho : G ⟨7, x, ac, n, nm, rf, fr, ln⟩) :
    Calls Try.prog 28 #[.pointer (some ⟨p, 0, none⟩), .agg #[.int .i64 7, .bool x, .int .i64 ac, .int .i64 n, .string nm, .int .i64 rf, .int .i64 fr, .int .i64 ln], .int .i64 d] w fun e w' =>
      e = .returned (.string (Bs (rnd σ d ⟨7, x, ac, n, nm, rf, fr, ln⟩))) ∧ Ext w w' := by
  have hlen := R.len d hd _ ho
  obtain ⟨-, hac, -⟩ := R.wf _ ho
  dsimp only at hac
  have hby := fun W (hx : Ext w W) => items_f (s.ext hx) ⟨7, x, ac, n, nm, rf, fr, ln⟩
  have hit := R.items _ ho
  rw [rnd_7] at hlen ⊢
  generalize hBF : σ.itemsF ⟨7, x, ac, n, nm, rf, fr, ln⟩ = BF at hby hlen hit ⊢
  obtain ⟨B, be⟩ := BF
  dsimp only [Ob.cells] at hby hlen hit ⊢
  obtain ⟨m, hm⟩ : ∃ m, B.length = m := ⟨_, rfl⟩
  rw [hm] at hby hlen ⊢
  obtain ⟨N, hN⟩ : ∃ N, upto d m = N := ⟨_, rfl⟩
  have hNm : N ≤ m := by rw [← hN]; exact upto_le _ _
  have hN0 : d = 0 → N = 0 := fun h => by rw [← hN, h]; rfl
  have hNd : 0 < d → N = m := fun h => by rw [← hN, upto, if_neg (by omega)]
  rw [hN] at hlen ⊢
  clear hN
  have hmM : m ≤ 65535 := by
    have := itemsF_len s.ok ⟨7, x, ac, n, nm, rf, fr, ln⟩
    rw [hBF, hm] at this
    exact this
  have hHm := Lib.hid hm
  clear hm hBF
  have hren : ∀ (W : World), Ext w W → 0 < d → ∀ u, G u → Calls Try.prog 28 #[.pointer (some ⟨p, 0, none⟩), .agg u.cells.toArray, .int .i64 ((d : Int) - 1)] W fun e w' => e = .returned (.string (Bs (rnd σ (d - 1) u))) ∧ Ext W w' := by
    intro W hx h0 u hu
    obtain ⟨d', rfl⟩ : ∃ d', d = d' + 1 := ⟨d - 1, by omega⟩
    rw [show ((d' + 1 : Nat) : Int) - 1 = (d' : Int) by omega, show d' + 1 - 1 = d' by omega]
    exact IH d' rfl (s.ext hx) u hu
  have hHren := Lib.hid hren
  clear hren IH
  generalize hf : (fun u => rnd σ (d - 1) u ++ [32]) = f at hlen ⊢
  have hfu : ∀ u, f u = rnd σ (d - 1) u ++ [32] := fun u => by rw [← hf]
  have hHfu := Lib.hid hfu
  clear hf hfu
  obtain ⟨DA, hDA⟩ : ∃ DA, DA = Bs (decL ac) := ⟨_, rfl⟩
  obtain ⟨DM, hDM⟩ : ∃ DM, DM = Bs (decL (m : Int)) := ⟨_, rfl⟩
  have hdac := fun W => dec_bs ac hac W
  have hdm := fun W => dec_bs (m : Int) ⟨by omega, by omega⟩ W
  have hd6 := fun W => dec_bs 7 ⟨by omega, by omega⟩ W
  have hHDA := Lib.hid hDA
  have hHDM := Lib.hid hDM
  rw [← hDA] at hdac
  rw [← hDM] at hdm
  clear hDA hDM
  have hHlen := Lib.hid hlen
  simp only [List.length_append, List.length_cons, List.length_nil] at hlen
  obtain ⟨T0, KD, eK, e0, hx0⟩ := head_mk 7 x (by simp only [List.length_append]; omega)
  rw [← eK.out] at hd6
  obtain ⟨T1, c1, e1, z1⟩ := cat_mk e0 (B := ⟨#[46]⟩) (lb := [46]) (Lib.hid rfl) (by simp only [List.length_append, List.length_cons, List.length_nil]; omega)
  obtain ⟨T2, c2, e2, z2⟩ := cat_mk e1 hHDA (by simp only [List.length_append, List.length_cons, List.length_nil]; omega)
  obtain ⟨T3, c3, e3, z3⟩ := cat_mk e2 (B := ⟨#[91]⟩) (lb := [91]) (Lib.hid rfl) (by simp only [List.length_append, List.length_cons, List.length_nil]; omega)
  have hHby := Lib.hid hby
  have hHdac := Lib.hid hdac
  have hHdm := Lib.hid hdm
  have hHd6 := Lib.hid hd6
  have hHit := Lib.hid hit
  clear hby hdac hd6 hdm hlen hac hit
  obtain ⟨PRE, hPRE⟩ : ∃ PRE, PRE = (decL 7 ++ if x then [120] else []) ++ [46] ++ decL ac ++ [91] := ⟨_, rfl⟩
  rw [← hPRE] at e3 hHlen ⊢
  have hHN0 := Lib.hid hN0
  have hHNd := Lib.hid hNd
  clear hPRE e2 e1 e0 hN0 hNd
  rcases hx0 with ⟨rfl, rfl⟩ | ⟨rfl, cx, zx⟩
  all_goals
    go_enter Try.func28, Try.ntmps28
    go_upto_region 1 with fail
    generalize hX : World.alloc w _ = X
    obtain ⟨hx, hcX, hfX, hzX, hbX⟩ := boxed hX
    clear hX
    go_upto_region 4 with (
      go_at_call 80
      refine (hHd6.out _).mono ?_
      rintro e w1 ⟨rfl, hx1⟩
      have hc1 := (hbX.ext hx1).cell)
    go_upto_region 10 with (
      go_at_call 80
      refine (hHdac.out _).mono ?_
      rintro e w2 ⟨rfl, hx2⟩
      have hc2 := ((hbX.ext hx1).ext hx2).cell)
    go_upto_region 11 with (
      go_at_call 17
      refine (hHby.out _ ((hx.trans_ hx1).trans_ hx2)).mono ?_
      rintro e w3 ⟨⟨va, vn, vc⟩, rfl, hvn, hfr⟩
      dsimp only at hvn
      subst hvn)
    have hx3 := ((hx.trans_ hx1).trans_ hx2).trans_ hfr.2.2
    have hHfr := Lib.hid hfr
    clear hfr hc1 hc2 hcX hfX c1 c2 c3
    go_wp2_with fail
    go_loopg [7, 12] N (fun gk s7 s12 wr => ∃ (i : Nat) (S : ByteArray), i ≤ N ∧ gk = N - i ∧ s12 = .int .i64 i ∧ s7 = .string S ∧ Hid (S = Bs (PRE ++ (B.take i).flatMap f)) ∧ Ext w3 wr)
    case atStart => exact ⟨0, T3, by omega, by omega, rfl, rfl, Lib.hid (by rw [e3.out]; simp), Ext.rfl_ _⟩
    case round =>
      obtain ⟨i, S, hi, hk, hs12, hs7, eS, hxr⟩ := hrel
      subst hs12
      subst hs7
      by_cases hlt : i < N
      · have h0d : 0 < d := by
          rcases Nat.eq_zero_or_pos d with h | h
          · have := hHN0.out h; omega
          · exact h
        obtain ⟨u, hu⟩ : ∃ u, B[i]? = some u := ⟨_, List.getElem?_eq_getElem (by have := hHm.out; omega)⟩
        have hrow := hHfr.out.1
        obtain ⟨g, ha, hg⟩ := hrow.pos (show 0 < vn by omega)
        dsimp only at ha
        subst ha
        have hcells : ∀ q v, u.cells[q]? = some v → wr.cell? ⟨g, i * 8 + q, none⟩ = some v := fun q v hv => (hxr.cells (hrow.blk_lt hg) _).trans (by
          have hq8 : q < 8 := by have := (List.getElem?_eq_some_iff.1 hv).1; rw [Ob.cells_len] at this; exact this
          rw [hrow.cell rfl (i * 8 + q) (show i * 8 + q < vn * 8 by omega)]
          exact (getElem?_flat Ob.cells 8 Ob.cells_len B i u q hu hq8).trans hv)
        have hsucc := flat_take_succ (f := f) hu
        have hle := flat_take_le (f := f) B (show i + 1 ≤ N by omega)
        have hL := hHlen.out
        simp only [List.length_append, List.length_cons, List.length_nil] at hL
        rw [hsucc, hHfu.out, List.length_append, List.length_append] at hle
        obtain ⟨RU, hRU⟩ : ∃ RU, RU = Bs (rnd σ (d - 1) u) := ⟨_, rfl⟩
        have hHRU := Lib.hid hRU
        have hcall := hHren.out wr (hx3.trans_ hxr) h0d u (hHit.out u (List.mem_of_getElem? hu))
        rw [← hRU] at hcall
        obtain ⟨S1, d1, f1, y1⟩ := cat_mk eS hHRU (by simp only [List.length_append]; omega)
        obtain ⟨S2, d2, f2, y2⟩ := cat_mk f1 (B := ⟨#[32]⟩) (lb := [32]) (Lib.hid rfl) (by simp only [List.length_append, List.length_cons, List.length_nil] at hle ⊢; omega)
        have hS2 : Hid (S2 = Bs (PRE ++ (B.take (i + 1)).flatMap f)) := Lib.hid (by rw [f2.out, hsucc, hHfu.out]; simp)
        have hHc := Lib.hid hcall
        have hlti : (i : Int) < vn := by omega
        have h0di : (0 : Int) < d := by omega
        have hd100 : d ≤ 100 := by omega
        clear hu hsucc hle hL hRU hcall
        go_wp2_with (first
          | (go_at_call 28; refine hHc.out.mono ?_; rintro e w4 ⟨rfl, hx4⟩)
          | (refine wpList_load_at (ty := 27) (cs := u.cells) (by rfl) _ (by rfl) (by rfl) hcells Try.underlying27 (by kernel_rfl) ?_))
        go_roundg (N - (i + 1))
        case measure => omega
        case rel => exact ⟨i + 1, S2, by omega, rfl, by simp, rfl, hS2, hxr.trans_ hx4⟩
      · obtain rfl : i = N := by omega
        have hL := hHlen.out
        simp only [List.length_append, List.length_cons, List.length_nil] at hL
        obtain ⟨S1, d1, f1, y1⟩ := cat_mk eS hHDM (by simp only [List.length_append]; omega)
        obtain ⟨S2, d2, f2, y2⟩ := cat_mk f1 (B := ⟨#[93]⟩) (lb := [93]) (Lib.hid rfl) (by simp only [List.length_append, List.length_cons, List.length_nil]; omega)
        have hways : (¬ (i : Int) < vn) ∨ ((i : Int) < vn ∧ ¬ (0 : Int) < d) := by
          rcases Nat.eq_zero_or_pos d with h | h
          · omega
          · have := hHNd.out h; omega
        clear hL
        rcases hways with hw1 | ⟨hw1, hw2⟩
        all_goals
          go_wp2_with (
            go_at_call 80
            refine (hHdm.out _).mono ?_
            rintro e w4 ⟨rfl, hx4⟩)
          go_ret
          exact ⟨by rw [← f2.out]; rfl, (hx3.trans_ hxr).trans_ hx4⟩
end
end Go.Proofs.Ythhckledkhcfeaa
namespace Go.Proofs.Ythhckledkhcfeaa
open Go.RowKit
section
variable {w : World} {p : Nat} {σ : St} {h : Hd} {ρ : Roles}
def twoL (σ : St) (d : Nat) (q : Ob × Ob) : List UInt8 := rnd σ (d - 1) q.1 ++ [61] ++ rnd σ (d - 1) q.2 ++ [32]
theorem rnd_8 (d : Nat) (x : Bool) (ac n : Int) (nm : ByteArray) (rf fr ln : Int) : rnd σ d ⟨8, x, ac, n, nm, rf, fr, ln⟩ = (decL 8 ++ if x then [120] else []) ++ [46] ++ decL (σ.accessF ⟨8, x, ac, n, nm, rf, fr, ln⟩) ++ [60] ++
    ((σ.pairsF ⟨8, x, ac, n, nm, rf, fr, ln⟩).take (upto d (σ.pairsF ⟨8, x, ac, n, nm, rf, fr, ln⟩).length)).flatMap (twoL σ d) ++ decL (σ.sizeF ⟨8, x, ac, n, nm, rf, fr, ln⟩).1.1 ++ [47] ++ decL (σ.sizeF ⟨8, x, ac, n, nm, rf, fr, ln⟩).1.2 ++ [62] := by
  cases d with
  | zero => simp [rnd, rndHead, upto]
  | succ d =>
    have e : twoL σ (d + 1) = fun q => rnd σ d q.1 ++ [61] ++ rnd σ d q.2 ++ [32] := rfl
    rw [e]
    simp [rnd, rndHead, upto]
theorem sizeF_len (o : Ob) : (σ.sizeF o).1.1 = ((σ.pairsF o).length : Int) := by
  unfold St.sizeF St.pairsF
  split
  · rfl
  · rfl
theorem pairsF_len (ok : σ.Ok) (o : Ob) : (σ.pairsF o).length ≤ 4096 := by
  unfold St.pairsF
  split
  · simp
  · unfold St.pairsOf
    rcases Nat.lt_or_ge o.rf.toNat σ.dicts.length with h | h
    · rw [show σ.dicts.getD o.rf.toNat ⟨0, 0, []⟩ = σ.dicts[o.rf.toNat] by simp [List.getD, h]]
      have := ok.dict _ (List.getElem_mem h)
      omega
    · rw [show σ.dicts.getD o.rf.toNat ⟨0, 0, []⟩ = ⟨0, 0, []⟩ by simp [List.getD, h]]
      simp
/-- Pair at a place where there is one. -/
theorem pair_f (s : Sto w p σ h ρ) (x : Bool) (ac n : Int) (nm : ByteArray) (rf fr ln : Int) (i : Nat) {kA : Int} {xA : Bool} {aA nA : Int} {mA : ByteArray} {rA fA lA : Int} {kB : Int} {xB : Bool} {aB nB : Int} {mB : ByteArray} {rB fB lB : Int}
    (hU : (σ.pairsF ⟨8, x, ac, n, nm, rf, fr, ln⟩)[i]? = some (⟨kA, xA, aA, nA, mA, rA, fA, lA⟩, ⟨kB, xB, aB, nB, mB, rB, fB, lB⟩)) :
    Calls Try.prog 82 #[.pointer (some ⟨p, 0, none⟩), .agg #[.int .i64 8, .bool x, .int .i64 ac, .int .i64 n, .string nm, .int .i64 rf, .int .i64 fr, .int .i64 ln], .int .i64 i] w fun e w' =>
      e = .returned (.tuple #[.agg #[.int .i64 kA, .bool xA, .int .i64 aA, .int .i64 nA, .string mA, .int .i64 rA, .int .i64 fA, .int .i64 lA], .agg #[.int .i64 kB, .bool xB, .int .i64 aB, .int .i64 nB, .string mB, .int .i64 rB, .int .i64 fB, .int .i64 lB], .bool true]) ∧ Ext w w' := by
  cases ha : σ.isA ⟨8, x, ac, n, nm, rf, fr, ln⟩ 8 with
  | false =>
    unfold St.pairsF at hU
    rw [if_pos ha] at hU
    simp at hU
  | true =>
    obtain ⟨r, D, -, hr, hD⟩ := isA_dict_inv ha
    dsimp only at hr
    subst hr
    refine pair_ok s x ac n nm r fr ln hD i ?_
    unfold St.pairsF at hU
    rw [if_neg (by rw [ha]; decide)] at hU
    simpa [St.pairsOf, List.getD, hD] using hU
set_option maxRecDepth 100000 in
set_option maxHeartbeats 4000000 in
theorem ren8 {G : Ob → Prop} {D d : Nat} (R : Rend σ G D) (s : Sto w p σ h ρ) (hd : d ≤ D) (hD : D ≤ 100) (IH : ∀ d', d = d' + 1 → RenC σ G d') (x : Bool) (ac n : Int) (nm : ByteArray) (rf fr ln : Int) (ho : G ⟨8, x, ac, n, nm, rf, fr, ln⟩) :
    Calls Try.prog 28 #[.pointer (some ⟨p, 0, none⟩), .agg #[.int .i64 8, .bool x, .int .i64 ac, .int .i64 n, .string nm, .int .i64 rf, .int .i64 fr, .int .i64 ln], .int .i64 d] w fun e w' =>
      e = .returned (.string (Bs (rnd σ d ⟨8, x, ac, n, nm, rf, fr, ln⟩))) ∧ Ext w w' := by
  have hlen := R.len d hd _ ho
  have hac := R.acc ⟨8, x, ac, n, nm, rf, fr, ln⟩
  obtain ⟨-, hmost⟩ := R.siz ⟨8, x, ac, n, nm, rf, fr, ln⟩
  have hsz := fun W (hx : Ext w W) => size_f (s.ext hx) ⟨8, x, ac, n, nm, rf, fr, ln⟩
  have hacc := fun W (hx : Ext w W) => access_f (s.ext hx) ⟨8, x, ac, n, nm, rf, fr, ln⟩
  have hpr := fun W (hx : Ext w W) => @pair_f W p σ h ρ (s.ext hx) x ac n nm rf fr ln
  have hit := R.pairs _ ho
  rw [rnd_8] at hlen ⊢
  have hmM := pairsF_len s.ok ⟨8, x, ac, n, nm, rf, fr, ln⟩
  have hs1 : (σ.sizeF ⟨8, x, ac, n, nm, rf, fr, ln⟩).1.1 = _ := sizeF_len ⟨8, x, ac, n, nm, rf, fr, ln⟩
  generalize σ.sizeF ⟨8, x, ac, n, nm, rf, fr, ln⟩ = SF at hsz hlen hmost hs1 ⊢
  obtain ⟨⟨sn, most⟩, se⟩ := SF
  generalize σ.accessF ⟨8, x, ac, n, nm, rf, fr, ln⟩ = acc at hac hacc hlen ⊢
  generalize σ.pairsF ⟨8, x, ac, n, nm, rf, fr, ln⟩ = B at hpr hlen hit hmM hs1 ⊢
  dsimp only [Ob.cells] at hsz hlen hacc hmost hs1 ⊢
  subst hs1
  obtain ⟨m, hm⟩ : ∃ m, B.length = m := ⟨_, rfl⟩
  rw [hm] at hsz hlen hmM ⊢
  obtain ⟨N, hN⟩ : ∃ N, upto d m = N := ⟨_, rfl⟩
  have hNm : N ≤ m := by rw [← hN]; exact upto_le _ _
  have hN0 : d = 0 → N = 0 := fun h => by rw [← hN, h]; rfl
  have hNd : 0 < d → N = m := fun h => by rw [← hN, upto, if_neg (by omega)]
  rw [hN] at hlen ⊢
  clear hN
  have hHm := Lib.hid hm
  clear hm
  have hren : ∀ (W : World), Ext w W → 0 < d → ∀ u, G u → Calls Try.prog 28 #[.pointer (some ⟨p, 0, none⟩), .agg u.cells.toArray, .int .i64 ((d : Int) - 1)] W fun e w' => e = .returned (.string (Bs (rnd σ (d - 1) u))) ∧ Ext W w' := by
    intro W hx h0 u hu
    obtain ⟨d', rfl⟩ : ∃ d', d = d' + 1 := ⟨d - 1, by omega⟩
    rw [show ((d' + 1 : Nat) : Int) - 1 = (d' : Int) by omega, show d' + 1 - 1 = d' by omega]
    exact IH d' rfl (s.ext hx) u hu
  have hHren := Lib.hid hren
  clear hren IH
  have hfu : ∀ u, twoL σ d u = rnd σ (d - 1) u.1 ++ [61] ++ rnd σ (d - 1) u.2 ++ [32] := fun u => rfl
  generalize hf : twoL σ d = f at hlen hfu ⊢
  have hHfu := Lib.hid hfu
  clear hf hfu
  obtain ⟨DA, hDA⟩ : ∃ DA, DA = Bs (decL acc) := ⟨_, rfl⟩
  obtain ⟨DM, hDM⟩ : ∃ DM, DM = Bs (decL (m : Int)) := ⟨_, rfl⟩
  obtain ⟨DX, hDX⟩ : ∃ DX, DX = Bs (decL most) := ⟨_, rfl⟩
  have hdac := fun W => dec_bs acc hac W
  have hdm := fun W => dec_bs (m : Int) ⟨by omega, by omega⟩ W
  have hdx := fun W => dec_bs most hmost W
  have hd6 := fun W => dec_bs 8 ⟨by omega, by omega⟩ W
  have hHDA := Lib.hid hDA
  have hHDM := Lib.hid hDM
  have hHDX := Lib.hid hDX
  rw [← hDA] at hdac
  rw [← hDM] at hdm
  rw [← hDX] at hdx
  clear hDA hDM hDX
  have hHlen := Lib.hid hlen
  simp only [List.length_append, List.length_cons, List.length_nil] at hlen
  obtain ⟨T0, KD, eK, e0, hx0⟩ := head_mk 8 x (by simp only [List.length_append]; omega)
  rw [← eK.out] at hd6
  obtain ⟨T1, c1, e1, z1⟩ := cat_mk e0 (B := ⟨#[46]⟩) (lb := [46]) (Lib.hid rfl) (by simp only [List.length_append, List.length_cons, List.length_nil]; omega)
  obtain ⟨T2, c2, e2, z2⟩ := cat_mk e1 hHDA (by simp only [List.length_append, List.length_cons, List.length_nil]; omega)
  obtain ⟨T3, c3, e3, z3⟩ := cat_mk e2 (B := ⟨#[60]⟩) (lb := [60]) (Lib.hid rfl) (by simp only [List.length_append, List.length_cons, List.length_nil]; omega)
  have hHsz := Lib.hid hsz
  have hHacc := Lib.hid hacc
  have hHpr := Lib.hid hpr
  have hHdac := Lib.hid hdac
  have hHdm := Lib.hid hdm
  have hHdx := Lib.hid hdx
  have hHd6 := Lib.hid hd6
  have hHit := Lib.hid hit
  clear hsz hacc hpr hdac hd6 hdm hdx hlen hac hit hmost
  obtain ⟨PRE, hPRE⟩ : ∃ PRE, PRE = (decL 8 ++ if x then [120] else []) ++ [46] ++ decL acc ++ [60] := ⟨_, rfl⟩
  rw [← hPRE] at e3 hHlen ⊢
  have hHN0 := Lib.hid hN0
  have hHNd := Lib.hid hNd
  clear hPRE e2 e1 e0 hN0 hNd
  rcases hx0 with ⟨rfl, rfl⟩ | ⟨rfl, cx, zx⟩
  all_goals
    go_enter Try.func28, Try.ntmps28
    go_upto_region 1 with fail
    generalize hX : World.alloc w _ = X
    obtain ⟨hx, hcX, hfX, hzX, hbX⟩ := boxed hX
    clear hX
    go_upto_region 4 with (
      go_at_call 80
      refine (hHd6.out _).mono ?_
      rintro e w1 ⟨rfl, hx1⟩
      have hc1 := (hbX.ext hx1).cell)
    go_upto_region 18 with (
      go_at_call 81
      refine (hHsz.out _ (hx.trans_ hx1)).mono ?_
      rintro e w2 ⟨rfl, hx2⟩
      have hc2 := ((hbX.ext hx1).ext hx2).cell)
    go_upto_region 19 with (first
      | (go_at_call 80
         refine (hHdac.out _).mono ?_
         rintro e w3 ⟨rfl, hx3'⟩)
      | (go_at_call 56
         refine (hHacc.out _ ((hx.trans_ hx1).trans_ hx2)).mono ?_
         rintro e wa ⟨rfl, hxa⟩))
    have hx3 := (((hx.trans_ hx1).trans_ hx2).trans_ hxa).trans_ hx3'
    have hb3 := (((hbX.ext hx1).ext hx2).ext hxa).ext hx3'
    clear hc1 hc2 hcX hfX c1 c2 c3 hx1 hx2 hxa hx3' hx hbX
    go_wp2_with fail
    go_loopg [7, 16] N (fun gk s7 s16 wr => ∃ (i : Nat) (S : ByteArray), i ≤ N ∧ gk = N - i ∧ s16 = .int .i64 i ∧ s7 = .string S ∧ Hid (S = Bs (PRE ++ (B.take i).flatMap f)) ∧ Ext w3 wr)
    case atStart => exact ⟨0, T3, by omega, by omega, rfl, rfl, Lib.hid (by rw [e3.out]; simp), Ext.rfl_ _⟩
    case round =>
      obtain ⟨i, S, hi, hk, hs16, hs7, eS, hxr⟩ := hrel
      subst hs16
      subst hs7
      by_cases hlt : i < N
      · have h0d : 0 < d := by
          rcases Nat.eq_zero_or_pos d with h | h
          · have := hHN0.out h; omega
          · exact h
        obtain ⟨⟨⟨k1, b1, a1, n1, m1, r1, f1, l1⟩, ⟨k2, b2, a2, n2, m2, r2, f2, l2⟩⟩, hu⟩ : ∃ u, B[i]? = some u := ⟨_, List.getElem?_eq_getElem (by have := hHm.out; omega)⟩
        have hcr := (hb3.ext hxr).cell
        have hsucc := flat_take_succ (f := f) hu
        have hle := flat_take_le (f := f) B (show i + 1 ≤ N by omega)
        have hL := hHlen.out
        simp only [List.length_append, List.length_cons, List.length_nil] at hL
        rw [hsucc, hHfu.out] at hle
        simp only [List.length_append, List.length_cons, List.length_nil] at hle
        obtain ⟨RA, hRA⟩ : ∃ R, R = Bs (rnd σ (d - 1) ⟨k1, b1, a1, n1, m1, r1, f1, l1⟩) := ⟨_, rfl⟩
        obtain ⟨RB, hRB⟩ : ∃ R, R = Bs (rnd σ (d - 1) ⟨k2, b2, a2, n2, m2, r2, f2, l2⟩) := ⟨_, rfl⟩
        have hHRA := Lib.hid hRA
        have hHRB := Lib.hid hRB
        obtain ⟨hgA, hgB⟩ := hHit.out _ (List.mem_of_getElem? hu)
        have hcallA := fun W hx => hHren.out W hx h0d _ hgA
        have hcallB := fun W hx => hHren.out W hx h0d _ hgB
        dsimp only [Ob.cells] at hcallA hcallB
        rw [← hRA] at hcallA
        rw [← hRB] at hcallB
        have hpair := hHpr.out wr (hx3.trans_ hxr) i hu
        obtain ⟨S1, d1, f1', y1⟩ := cat_mk eS hHRA (by simp only [List.length_append]; omega)
        obtain ⟨S2, d2, f2', y2⟩ := cat_mk f1' (B := ⟨#[61]⟩) (lb := [61]) (Lib.hid rfl) (by simp only [List.length_append, List.length_cons, List.length_nil]; omega)
        obtain ⟨S3, d3, f3', y3⟩ := cat_mk f2' hHRB (by simp only [List.length_append, List.length_cons, List.length_nil]; omega)
        obtain ⟨S4, d4, f4', y4⟩ := cat_mk f3' (B := ⟨#[32]⟩) (lb := [32]) (Lib.hid rfl) (by simp only [List.length_append, List.length_cons, List.length_nil]; omega)
        have hS4 : Hid (S4 = Bs (PRE ++ (B.take (i + 1)).flatMap f)) := Lib.hid (by rw [f4'.out, hsucc, hHfu.out]; simp)
        have hHcA := Lib.hid hcallA
        have hHcB := Lib.hid hcallB
        have hHp := Lib.hid hpair
        have hlti : (i : Int) < m := by omega
        have h0di : (0 : Int) < d := by omega
        have hd100 : d ≤ 100 := by omega
        clear hu hsucc hle hL hRA hRB hcallA hcallB hpair
        go_upto_region 23 with (
          go_at_call 82
          refine hHp.out.mono ?_
          rintro e w4 ⟨rfl, hx4⟩)
        generalize hY : World.alloc (World.alloc w4 _) _ = Y
        obtain ⟨hxy, hB1, hB2⟩ := boxed2 hY
        clear hY hcr
        have y17 := fun (E : ExtOf Y) i => (E.cells hB1.lt i).trans (hB1.cell i)
        have y18 := fun (E : ExtOf Y) i => (E.cells hB2.lt i).trans (hB2.cell i)
        have hxY := ((hx3.trans_ hxr).trans_ hx4).trans_ hxy
        refine wp_region_ext (by kernel_rfl) (by kernel_rfl) ?_
        repeat (go_big_quiet_step ((first
          | (go_at_call_of 28 (Value.string m1); exact quiet_ext (hHcA.out _ (hxY.trans_ (ExtOf.h _))))
          | (go_at_call_of 28 (Value.string m2); exact quiet_ext (hHcB.out _ (hxY.trans_ (ExtOf.h _)))))))
        refine wpQuiet_nil fun E => ?_
        go_wp2_with fail
        go_roundg (N - (i + 1))
        case measure => omega
        case rel => exact ⟨i + 1, S4, by omega, rfl, by simp, rfl, hS4, ((hxr.trans_ hx4).trans_ hxy).trans_ E.h⟩
      · obtain rfl : i = N := by omega
        have hL := hHlen.out
        simp only [List.length_append, List.length_cons, List.length_nil] at hL
        obtain ⟨S1, d1, f1, y1⟩ := cat_mk eS hHDM (by simp only [List.length_append]; omega)
        obtain ⟨S2, d2, f2, y2⟩ := cat_mk f1 (B := ⟨#[47]⟩) (lb := [47]) (Lib.hid rfl) (by simp only [List.length_append, List.length_cons, List.length_nil]; omega)
        obtain ⟨S3, d3, f3, y3⟩ := cat_mk f2 hHDX (by simp only [List.length_append, List.length_cons, List.length_nil]; omega)
        obtain ⟨S4, d4, f4, y4⟩ := cat_mk f3 (B := ⟨#[62]⟩) (lb := [62]) (Lib.hid rfl) (by simp only [List.length_append, List.length_cons, List.length_nil]; omega)
        have hways : (¬ (i : Int) < m) ∨ ((i : Int) < m ∧ ¬ (0 : Int) < d) := by
          rcases Nat.eq_zero_or_pos d with h | h
          · omega
          · have := hHNd.out h; omega
        clear hL
        rcases hways with hw1 | ⟨hw1, hw2⟩
        all_goals
          go_wp2_with (first
            | (go_at_call_of 80 (m : Int)
               refine (hHdm.out _).mono ?_
               rintro e w4 ⟨rfl, hx4⟩)
            | (go_at_call_of 80 most
               refine (hHdx.out _).mono ?_
               rintro e w5 ⟨rfl, hx5⟩))
          go_ret
          exact ⟨by rw [← f4.out]; rfl, ((hx3.trans_ hxr).trans_ hx4).trans_ hx5⟩
end
end Go.Proofs.Ythhckledkhcfeaa
namespace Go.Proofs.Ythhckledkhcfeaa
open Go.RowKit
section
variable {w : World} {p : Nat} {σ : St} {h : Hd} {ρ : Roles}
theorem ren_all {G : Ob → Prop} {D : Nat} (R : Rend σ G D) (hD : D ≤ 100) (d : Nat) (hd : d ≤ D) : RenC σ G d := by
  induction d with
  | zero =>
    intro w p h ρ s o ho
    obtain ⟨k, x, ac, n, nm, rf, fr, ln⟩ := o
    by_cases h6 : k = 6
    · subst h6; exact ren6 R s hd x ac n nm rf fr ln ho
    · by_cases h7 : k = 7
      · subst h7; exact ren7 R s hd hD (fun d' h => by omega) x ac n nm rf fr ln ho
      · by_cases h8 : k = 8
        · subst h8; exact ren8 R s hd hD (fun d' h => by omega) x ac n nm rf fr ln ho
        · exact renP R s hd k x ac n nm rf fr ln h6 h7 h8 ho
  | succ d ih =>
    intro w p h ρ s o ho
    have IH : ∀ d', d + 1 = d' + 1 → RenC σ G d' := fun d' h => by
      obtain rfl : d = d' := by omega
      exact ih (by omega)
    obtain ⟨k, x, ac, n, nm, rf, fr, ln⟩ := o
    by_cases h6 : k = 6
    · subst h6; exact ren6 R s hd x ac n nm rf fr ln ho
    · by_cases h7 : k = 7
      · subst h7; exact ren7 R s hd hD IH x ac n nm rf fr ln ho
      · by_cases h8 : k = 8
        · subst h8; exact ren8 R s hd hD IH x ac n nm rf fr ln ho
        · exact renP R s hd k x ac n nm rf fr ln h6 h7 h8 ho
theorem sizeF_i64 (ok : σ.Ok) (o : Ob) : I64 (σ.sizeF o).1.1 ∧ I64 (σ.sizeF o).1.2 := by
  unfold St.sizeF
  split
  · exact ⟨⟨by decide, by decide⟩, ⟨by decide, by decide⟩⟩
  · rcases Nat.lt_or_ge o.rf.toNat σ.dicts.length with h | h
    · rw [show σ.dicts.getD o.rf.toNat ⟨0, 0, []⟩ = σ.dicts[o.rf.toNat] by simp [List.getD, h]]
      obtain ⟨h1, h2⟩ := ok.dict _ (List.getElem_mem h)
      exact ⟨⟨by dsimp only; omega, by dsimp only; omega⟩, ⟨by dsimp only; omega, by dsimp only; omega⟩⟩
    · rw [show σ.dicts.getD o.rf.toNat ⟨0, 0, []⟩ = ⟨0, 0, []⟩ by simp [List.getD, h]]
      exact ⟨⟨by decide, by decide⟩, ⟨by decide, by decide⟩⟩
theorem Good.accF (g : Good σ) (o : Ob) : I64 (σ.accessF o) := by
  unfold St.accessF
  split
  · exact ⟨by decide, by decide⟩
  · exact (g.dict _).2.1
theorem bnd_le (d : Nat) (h : d ≤ 3) : bnd d ≤ 9223372036854775807 := by
  match d, h with
  | 0, _ => decide
  | 1, _ => decide
  | 2, _ => decide
  | 3, _ => decide
theorem Good.rend (g : Good σ) (ok : σ.Ok) : Rend σ Obg 3 where
  wf o ho := ⟨ho.wf.k, ho.wf.ac, ho.wf.n⟩
  acc := g.accF
  siz := sizeF_i64 ok
  items o _ := (itemsF_good g o).2
  pairs o _ := (pairsF_good ok g o).2
  len d hd o ho := Nat.le_trans (rnd_len ok g d o ho) (bnd_le d hd)
/-- law05.render, three deep. -/
theorem render3 (s : Sto w p σ h ρ) (g : Good σ) (o : Ob) (ho : Obg o) :
    Calls Try.prog 28 #[.pointer (some ⟨p, 0, none⟩), .agg o.cells.toArray, .int .i64 3] w fun e w' => e = .returned (.string (Bs (rnd σ 3 o))) ∧ Ext w w' :=
  ren_all (g.rend s.ok) (by decide) 3 (Nat.le_refl _) s o ho
end
end Go.Proofs.Ythhckledkhcfeaa
