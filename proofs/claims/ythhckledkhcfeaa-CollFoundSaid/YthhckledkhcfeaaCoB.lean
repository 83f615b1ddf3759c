/- The operators on collections: items, lay. -/
import Derived.Test.YthhckledkhcfeaaCoA
import Derived.Test.YthhckledkhcfeaaRegC
namespace Go.Proofs.Ythhckledkhcfeaa
open Go.RowKit
section
variable {w w' : World} {c p : Nat} {t : Sl} {l : List Ob} {σ : St} {h : Hd} {ρ : Roles}
theorem citems_ok (s : Sto w p σ h ρ) (sc : Cal w c p t l) (x : Bool) (ac n : Int) (nm : ByteArray) (r f m : Nat) (b : List Ob) (hb : σ.lists[r]? = some b) (hfm : f + m ≤ b.length) :
    Calls Try.prog 150 #[.pointer (some ⟨c, 0, none⟩), .agg #[.int .i64 7, .bool x, .int .i64 ac, .int .i64 n, .string nm, .int .i64 r, .int .i64 f, .int .i64 m]] w fun e w' =>
      ∃ v : Sl, e = .returned (.slice v.a v.n v.c) ∧ v.n = m ∧ Fresh w w' 27 8 v (obCells ((b.drop f).take m)) := by
  have hHb := Lib.hid hb
  clear hb
  go_enter Try.func150, Try.ntmps150
  go_upto_region 1 with fail
  generalize hX : World.alloc w _ = X
  obtain ⟨hx, hcX, hfX, hzX, hbX⟩ := boxed hX
  clear hX hfX hcX
  have s1 := s.ext hx
  have y1 := fun (E : ExtOf X) i => (E.cells (sc.blk.ext hx).lt i).trans ((sc.blk.ext hx).cell i)
  have y2 := fun (E : ExtOf X) i => (E.cells hbX.lt i).trans (hbX.cell i)
  refine wp_region_call 5 (fun w' => ∃ E : ExtOf X, w' = E.w) rfl (by kernel_rfl) (by kernel_rfl) (fun c a d v w h => by cases d <;> exact h) ⟨⟨_, (Ext.rfl_ X).drew_⟩, rfl⟩ ?_
  simp only [List.take_succ_cons, List.take_zero]
  repeat (go_big_quiet_step (fail))
  refine wpQuiet_nil ?_
  clear y1 y2
  refine fun K hK => ?_
  go_simp
  go_wp2_with (go_at_call 17; refine (items_ok (s1.ext (Ext.rfl_ X).drew_) x ac n nm r f m b hHb.out hfm).mono ?_; rintro e w2 ⟨v, rfl, hvn, hfr⟩; have hFr := Lib.hid hfr; have hVn := Lib.hid hvn; clear hfr hvn)
  repeat (go_big_quiet_step (fail))
  refine wpQuiet_nil ?_
  go_wp2_with (go_at_call 146; refine (must_ok w2).mono ?_; rintro e w3 ⟨rfl, rfl⟩)
  go_ret
  exact ⟨v, rfl, hVn.out, hFr.out.1, fun g hg => Nat.le_trans (hx.drew_).size (hFr.out.2.1 g hg), (hx.drew_).trans_ hFr.out.2.2⟩
theorem splice_nil {α : Type} (L : List α) (k : Nat) : splice L k [] = L := by simp [splice]
theorem splice_next {α : Type} (L items : List α) (k i : Nat) (x : α) (hx : items[i]? = some x) (hk : k + items.length ≤ L.length) : (splice L k (items.take i)).set (k + i) x = splice L k (items.take (i + 1)) := by
  have hi := getElem?_lt hx
  apply List.ext_getElem?
  intro j
  have h1 : (items.take i).length = i := by simp; omega
  have h2 : (items.take (i + 1)).length = i + 1 := by simp; omega
  have h3 : (L.take k).length = k := by simp; omega
  unfold splice
  rw [List.getElem?_set]
  simp only [List.getElem?_append, h1, h2, h3, List.length_append, List.length_drop]
  by_cases hj : k + i = j
  · subst hj
    rw [if_pos rfl, if_pos (by omega), if_neg (by omega), if_pos (by omega), List.getElem?_take_of_lt (by omega), Nat.add_sub_cancel_left, hx]
  · rw [if_neg hj]
    by_cases h4 : j < k
    · rw [if_pos h4, if_pos h4]
    · rw [if_neg h4, if_neg h4]
      by_cases h5 : j - k < i
      · rw [if_pos h5, if_pos (by omega), List.getElem?_take_of_lt h5, List.getElem?_take_of_lt (by omega)]
      · rw [if_neg h5, if_neg (by omega), List.getElem?_drop, List.getElem?_drop]
        congr 1
        omega
/-- Where lay gives up. -/
theorem lay_no (kt : Int) (xt : Bool) (at_ nt : Int) (mt : ByteArray) (rt ft : Int) (m : Nat) (a : Nat) (kf : Int) (xf : Bool) (af nf : Int) (mf : ByteArray) (rf ff : Int) (q : Nat) (hq : m < a ∨ a ≤ m ∧ m < a + q) (hm : m ≤ 1000000) (hq2 : q ≤ 1000000) (ha : a ≤ 1000000) (u : Value) (w : World) :
    Calls Try.prog 155 #[u, .agg #[.int .i64 kt, .bool xt, .int .i64 at_, .int .i64 nt, .string mt, .int .i64 rt, .int .i64 ft, .int .i64 m], .int .i64 a,
      .agg #[.int .i64 kf, .bool xf, .int .i64 af, .int .i64 nf, .string mf, .int .i64 rf, .int .i64 ff, .int .i64 q]] w fun e w' => e = gaveUp 11 ∧ Ext w w' := by
  rcases hq with h1 | ⟨h1, h2⟩
  · have h1' : (m : Int) < a := by omega
    go_enter Try.func155, Try.ntmps155
    go_wp2_with (go_at_call 148; refine (fail_c 11 _).mono ?_; rintro e w1 ⟨rfl, rfl⟩)
    exact ⟨rfl, rfl, ((Ext.rfl_ w).alloc_ _).alloc_ _⟩
  · have h1' : ¬ (m : Int) < a := by omega
    have h2' : (m : Int) - a < q := by omega
    go_enter Try.func155, Try.ntmps155
    go_wp2_with (go_at_call 148; refine (fail_c 11 _).mono ?_; rintro e w1 ⟨rfl, rfl⟩)
    exact ⟨rfl, rfl, ((Ext.rfl_ w).alloc_ _).alloc_ _⟩
set_option maxRecDepth 100000 in
set_option maxHeartbeats 2000000 in
theorem lay_ok (s : Sto w p σ h ρ) (sc : Cal w c p t l) (hc : ρ c = none) (hmk : σ.marks = []) (xt : Bool) (at_ nt : Int) (mt : ByteArray) (r f m : Nat) (L : List Ob) (hL : σ.lists[r]? = some L) (hfm : f + m ≤ L.length) (a : Nat)
    (xf : Bool) (af nf : Int) (mf : ByteArray) (r2 f2 q : Nat) (L2 : List Ob) (hL2 : σ.lists[r2]? = some L2) (hfm2 : f2 + q ≤ L2.length) (haq : a + q ≤ m) (hit : ∀ o ∈ (L2.drop f2).take q, o.k = 1) (hch : σ.changes.length + 1 ≤ 4294967296) :
    Calls Try.prog 155 #[.pointer (some ⟨c, 0, none⟩), .agg #[.int .i64 7, .bool xt, .int .i64 at_, .int .i64 nt, .string mt, .int .i64 r, .int .i64 f, .int .i64 m], .int .i64 a,
      .agg #[.int .i64 7, .bool xf, .int .i64 af, .int .i64 nf, .string mf, .int .i64 r2, .int .i64 f2, .int .i64 q]] w fun e w' => e = .returned (.tuple #[]) ∧ StoTo w w' p ρ { σ with lists := σ.lists.set r (splice L (f + a) ((L2.drop f2).take q)) } := by
  have hLb : L.length ≤ 65535 := s.ok.list L (List.mem_of_getElem? hL)
  have hrl := getElem?_lt hL
  have hIl : ((L2.drop f2).take q).length = q := by simp; omega
  generalize hI : (L2.drop f2).take q = items at hit hIl ⊢
  have hHI := Lib.hid hI
  have hHL := Lib.hid hL
  have hHL2 := Lib.hid hL2
  have hHmk := Lib.hid hmk
  have hHit := Lib.hid hit
  have hHIl := Lib.hid hIl
  clear hI hL hL2 hmk hit hIl
  have h1' : ¬ (m : Int) < a := by omega
  have h2' : ¬ (m : Int) - a < q := by omega
  go_enter Try.func155, Try.ntmps155
  go_upto_region 1 with fail
  generalize hX : World.alloc (World.alloc w _) _ = X
  obtain ⟨hx, hB5, hB7⟩ := boxed2 hX
  clear hX
  have hc5 := hB5.cell
  have hc7 := hB7.cell
  go_upto_region 6 with (go_at_call 150; refine (citems_ok (s.ext hx) (sc.ext hx) xf af nf mf r2 f2 q L2 hHL2.out hfm2).mono ?_; rintro e w1 ⟨⟨va, vn, vc⟩, rfl, hvn, hfr⟩; dsimp only at hvn; subst hvn; rw [hHI.out] at hfr)
  clear hc5 hc7
  obtain ⟨hfr1, hfr2, hfr3⟩ := hfr
  have hD5 := hB5.ext hfr3
  have hD7 := hB7.ext hfr3
  have s1 := (s.ext hx).ext hfr3
  have sc1 := (sc.ext hx).ext hfr3
  have hxw := hx.trans_ hfr3
  have n5 : ¬ ρ.own w.heap.size := Roles.not_own (s.fresh (Nat.le_refl _))
  have nc : ¬ ρ.own c := Roles.not_own hc
  have nv : ∀ g, Sl.blk ⟨va, vn, vc⟩ = some g → ¬ ρ.own g := fun g hg => Roles.not_own (s.fresh (Nat.le_trans hx.size (hfr2 g hg)))
  have hcap := hfr1.cap_le
  simp only [maxLen] at hcap
  have hq0 : ({ σ with lists := σ.lists.set r (splice L (f + a) (items.take 0)) } : St) = σ := by
    rw [List.take_zero, splice_nil]
    have : σ.lists.set r L = σ.lists := by
      apply List.ext_getElem?
      intro j
      by_cases hj : r = j
      · subst hj; rw [List.getElem?_set_self hrl, hHL.out]
      · rw [List.getElem?_set_ne hj]
    rw [this]
  have hHq0 := Lib.hid hq0
  clear hq0
  go_loopg [46] vn (fun gk s46 wr => ∃ i : Nat, i ≤ vn ∧ gk = vn - i ∧ s46 = .int .i64 i ∧ ∃ h' ρ', Sto wr p { σ with lists := σ.lists.set r (splice L (f + a) (items.take i)) } h' ρ' ∧ Moves w1 wr ρ.own ρ'.own)
  case atStart => exact ⟨0, Nat.zero_le _, rfl, rfl, h, ρ, by rw [hHq0.out]; exact s1, Moves.refl_ _ _⟩
  case round =>
    obtain ⟨i, hi, hgk, hs46, h', ρ', s', hmv⟩ := hrel
    subst hs46
    by_cases hlt : i < vn
    · obtain ⟨⟨k0, x0, a0, n0, m0, r0, f0, l0⟩, hob⟩ : ∃ o, items[i]? = some o := ⟨_, List.getElem?_eq_getElem (by rw [hHIl.out]; exact hlt)⟩
      have hk0 := hHit.out _ (List.mem_of_getElem? hob)
      dsimp only at hk0
      subst hk0
      have hrow := hfr1.moves hmv nv
      obtain ⟨g, hga, hgb⟩ := hrow.pos (show 0 < vn by omega)
      dsimp only at hga
      subst hga
      obtain ⟨c0, c1, c2, c3, c4, c5, c6, c7⟩ := hrow.ob (off := i * 8) rfl hob rfl
      have hOb := Lib.hid hob
      clear hob
      go_upto_region 8 with fail
      generalize hY : World.alloc wr _ = Y
      obtain ⟨hy, hcY, hfY, hzY, hbY⟩ := boxed hY
      clear hY hcY hfY c0 c1 c2 c3 c4 c5 c6 c7
      have e5 := (hD5.moves hmv n5).ext hy
      have ec := (sc1.blk.moves hmv nc).ext hy
      have sY := s'.ext hy
      have y5 := fun (E : ExtOf Y) j => (E.cells e5.lt j).trans (e5.cell j)
      have yc := fun (E : ExtOf Y) j => (E.cells ec.lt j).trans (ec.cell j)
      have y9 := fun (E : ExtOf Y) j => (E.cells hbY.lt j).trans (hbY.cell j)
      have hai : (a : Int) ≤ 65535 := by omega
      have hii : (i : Int) ≤ 65535 := by omega
      refine wp_region_ext_tail 9 (by kernel_rfl) (by kernel_rfl) ?_
      simp only [List.take_succ_cons, List.take_zero, List.drop_succ_cons, List.drop_zero]
      repeat (go_big_quiet_step (fail))
      refine wpQuiet_nil fun E => ?_
      clear y5 yc y9
      obtain ⟨old, hold⟩ : ∃ old, (splice L (f + a) (items.take i))[f + (a + i)]? = some old := ⟨_, List.getElem?_eq_getElem (by rw [length_splice _ _ _ (by rw [List.length_take, hHIl.out]; omega)]; omega)⟩
      have hp := put_ok (sY.ext E.h) xt at_ nt mt r f m (a + i) (splice L (f + a) (items.take i)) old (List.getElem?_set_self hrl) (by rw [length_splice _ _ _ (by rw [List.length_take, hHIl.out]; omega)]; exact hfm) (by omega) hold 1 x0 a0 n0 m0 r0 f0 l0 (by rfl) hch
      rw [Int.natCast_add] at hp
      have hHp := Lib.hid hp
      clear hp
      go_wp2_with (first
        | (go_at_call 16; refine hHp.out.mono ?_; rintro e w3 ⟨rfl, h3, ρ3, s3, hm3⟩)
        | (go_at_call 146; refine (must_ok w3).mono ?_; rintro e w4 ⟨rfl, rfl⟩))
      go_roundg (vn - (i + 1))
      case measure => omega
      case rel =>
        refine ⟨i + 1, by omega, rfl, by simp, h3, ρ3, ?_, (hmv.ext_right (hy.trans_ E.h)).trans_ hm3⟩
        have e : ∀ (C : Chg), (({ ({ σ with lists := σ.lists.set r (splice L (f + a) (items.take i)) } : St).noted C with lists := (σ.lists.set r (splice L (f + a) (items.take i))).set r ((splice L (f + a) (items.take i)).set (f + (a + i)) ⟨1, x0, a0, n0, m0, r0, f0, l0⟩) } : St)) = { σ with lists := σ.lists.set r (splice L (f + a) (items.take (i + 1))) } := by
          intro C
          unfold St.noted
          rw [if_pos (show σ.marks.length = 0 by rw [hHmk.out]; rfl), List.set_set, ← splice_next L items (f + a) i ⟨1, x0, a0, n0, m0, r0, f0, l0⟩ hOb.out (by rw [hHIl.out]; omega), Nat.add_assoc]
        rw [e] at s3
        exact s3
    · obtain rfl : i = vn := by omega
      go_wp2_with fail
      go_end0
      rw [List.take_of_length_le (by rw [hHIl.out]; omega)] at s'
      exact ⟨rfl, h', ρ', s', Moves.ext_left hxw hmv⟩
end
end Go.Proofs.Ythhckledkhcfeaa
