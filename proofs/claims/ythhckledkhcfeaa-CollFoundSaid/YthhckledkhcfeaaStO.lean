/- The store's functions, part O: Set. -/
import Derived.Test.YthhckledkhcfeaaStN
import Derived.Test.YthhckledkhcfeaaSvB
namespace Go.Proofs.Ythhckledkhcfeaa
open Go.RowKit
/-- A value comes to stand for a key, in the dictionary D at place r. -/
def St.setD (σ : St) (r : Nat) (D : Dc) (k v : Ob) : St × Int :=
  if 0 ≤ idxOf (isKey k) D.pairs then
    ({ σ.noted ⟨1, r, idxOf (isKey k) D.pairs, D.pairs.getD (idxOf (isKey k) D.pairs).toNat (Ob.null, Ob.null)⟩ with
      dicts := σ.dicts.set r { D with pairs := D.pairs.set (idxOf (isKey k) D.pairs).toNat ((D.pairs.getD (idxOf (isKey k) D.pairs).toNat (Ob.null, Ob.null)).1, v) } }, 0)
  else if D.most ≤ D.pairs.length then (σ, 1)
  else ({ σ.noted ⟨2, r, 0, (Ob.null, Ob.null)⟩ with dicts := σ.dicts.set r { D with pairs := D.pairs ++ [(k, v)] } }, 0)
theorem sets8_val (u1 o : Ob) : ∀ (l : List (Ob × Ob)) (q : Nat) (u : Ob × Ob), l[q]? = some u → sets8 (l.flatMap pairCells) (q * 16 + 8) (.int .i64 o.k) (.bool o.x) (.int .i64 o.ac) (.int .i64 o.n) (.string o.nm) (.int .i64 o.rf) (.int .i64 o.fr) (.int .i64 o.ln) = (l.set q (u.1, o)).flatMap pairCells
  | [], q, u, h => by simp at h
  | a :: l, 0, u, h => by
    simp at h
    subst h
    rfl
  | a :: l, q + 1, u, h => by
    have ih := sets8_val u1 o l q u (by simpa using h)
    have e : ∀ (xs : List Value) (j : Nat) (v : Value), (pairCells a ++ xs).set ((q + 1) * 16 + 8 + j) v = pairCells a ++ xs.set (q * 16 + 8 + j) v := by
      intro xs j v
      have hl : (pairCells a).length = 16 := rfl
      rw [List.set_append_right _ _ (by omega), hl, show (q + 1) * 16 + 8 + j - 16 = q * 16 + 8 + j by omega]
    have e0 := e (l.flatMap pairCells) 0
    simp only [Nat.add_zero] at e0
    show sets8 (pairCells a ++ l.flatMap pairCells) ((q + 1) * 16 + 8) _ _ _ _ _ _ _ _ = pairCells a ++ (l.set q (u.1, o)).flatMap pairCells
    unfold sets8 at ih ⊢
    rw [e0, e, e, e, e, e, e, e, ih]
section
variable {w w' : World} {p : Nat} {σ : St} {h : Hd} {ρ : Roles}
theorem Row.set_val {t : Sl} {l : List (Ob × Ob)} (h : Row w 122 16 t (l.flatMap pairCells)) {g q off : Nat} {u : Ob × Ob} (o : Ob) (ha : t.a = some ⟨g, 0, none⟩) (hu : l[q]? = some u) (he : off = q * 16 + 8) :
    Row (setO w g off (.int .i64 o.k) (.bool o.x) (.int .i64 o.ac) (.int .i64 o.n) (.string o.nm) (.int .i64 o.rf) (.int .i64 o.fr) (.int .i64 o.ln)) 122 16 t ((l.set q (u.1, o)).flatMap pairCells) := by
  subst he
  rw [← sets8_val u.1 o l q u hu]
  exact (((((((h.set_ ha (q * 16 + 8) _).set_ ha (q * 16 + 8 + 1) _).set_ ha (q * 16 + 8 + 2) _).set_ ha (q * 16 + 8 + 3) _).set_ ha (q * 16 + 8 + 4) _).set_ ha (q * 16 + 8 + 5) _).set_ ha (q * 16 + 8 + 6) _).set_ ha (q * 16 + 8 + 7) _
theorem cells_pair {t : Sl} {l : List (Ob × Ob)} (hr : Row w 122 16 t (l.flatMap pairCells)) {g i : Nat} {u : Ob × Ob} (ha : t.a = some ⟨g, 0, none⟩) (hu : l[i]? = some u) :
    ∀ q v, (pairCells u)[q]? = some v → w.cell? ⟨g, i * 16 + q, none⟩ = some v := fun q v hv =>
  (hr.item length_pair ha hu (by have := (List.getElem?_eq_some_iff.1 hv).1; rw [length_pair] at this; exact this)).trans hv
theorem Row.val {t : Sl} {l : List (Ob × Ob)} (hr : Row w 122 16 t (l.flatMap pairCells)) {g i off : Nat} {u : Ob × Ob} (ha : t.a = some ⟨g, 0, none⟩) (hu : l[i]? = some u) (he : off = i * 16 + 8) :
    w.cell? ⟨g, off, none⟩ = some (.int .i64 u.2.k) ∧ w.cell? ⟨g, off + 1, none⟩ = some (.bool u.2.x) ∧ w.cell? ⟨g, off + 2, none⟩ = some (.int .i64 u.2.ac) ∧ w.cell? ⟨g, off + 3, none⟩ = some (.int .i64 u.2.n) ∧
      w.cell? ⟨g, off + 4, none⟩ = some (.string u.2.nm) ∧ w.cell? ⟨g, off + 5, none⟩ = some (.int .i64 u.2.rf) ∧ w.cell? ⟨g, off + 6, none⟩ = some (.int .i64 u.2.fr) ∧ w.cell? ⟨g, off + 7, none⟩ = some (.int .i64 u.2.ln) := by
  subst he
  have H := cells_val hr ha hu
  exact ⟨H 0 _ rfl, H 1 _ rfl, H 2 _ rfl, H 3 _ rfl, H 4 _ rfl, H 5 _ rfl, H 6 _ rfl, H 7 _ rfl⟩
set_option maxRecDepth 100000 in
set_option maxHeartbeats 2000000 in
/-- (*Store).Set, of a dictionary that is there, a valid value and a key. -/
theorem set_c (s : Sto w p σ h ρ) (x : Bool) (ac n : Int) (nm : ByteArray) (r : Nat) (fr ln : Int) {D : Dc} (hD : σ.dicts[r]? = some D)
    (k' : Int) (x' : Bool) (ac' n' : Int) (nm' : ByteArray) (rf' fr' ln' : Int) (hn' : I64 n') {k1 : Int} {x1 : Bool} {a1 n1 : Int} {m1 : ByteArray} {r1 f1 l1 : Int} (hk : σ.key ⟨k', x', ac', n', nm', rf', fr', ln'⟩ = (⟨k1, x1, a1, n1, m1, r1, f1, l1⟩, 0))
    (kv : Int) (xv : Bool) (av nv : Int) (mv : ByteArray) (rv fv lv : Int) (hv : σ.valid ⟨kv, xv, av, nv, mv, rv, fv, lv⟩ = true) (hn : σ.changes.length + 1 ≤ 4294967296) {q : St × Int}
    (hq : σ.setD r D ⟨k1, x1, a1, n1, m1, r1, f1, l1⟩ ⟨kv, xv, av, nv, mv, rv, fv, lv⟩ = q) :
    Calls Try.prog 36 #[.pointer (some ⟨p, 0, none⟩), .agg #[.int .i64 8, .bool x, .int .i64 ac, .int .i64 n, .string nm, .int .i64 r, .int .i64 fr, .int .i64 ln],
        .agg #[.int .i64 k', .bool x', .int .i64 ac', .int .i64 n', .string nm', .int .i64 rf', .int .i64 fr', .int .i64 ln'], .agg #[.int .i64 kv, .bool xv, .int .i64 av, .int .i64 nv, .string mv, .int .i64 rv, .int .i64 fv, .int .i64 lv]] w fun e w' =>
      e = .returned (.int .i64 q.2) ∧ StoTo w w' p ρ q.1 := by
  obtain ⟨iP, hiP, hzP, hsP, hbP⟩ := info_parts info_pair
  have hrl := getElem?_lt hD
  have hrl2 : r < 1048576 := by have := s.ok.room; have := s.ok.free0; omega
  have hK := Lib.hid hk
  have hV := Lib.hid hv
  have hHq := Lib.hid hq
  have hHD := Lib.hid hD
  clear hk hv hq hD
  go_enter Try.func36, Try.ntmps36
  go_upto_region 1 with fail
  generalize hX : World.alloc (World.alloc (World.alloc w _) _) _ = X
  obtain ⟨hx, hBd, hBk, hBv⟩ := boxed3 hX
  clear hX
  have hc := hBd.cell
  go_upto_region 3 with (first
    | (go_at_call 61; refine (is_b (b := true) (s.ext hx) _ _ _ _ _ _ _ _ _ (isA_dict hrl)).mono ?_; rintro e w1 ⟨rfl, hx1⟩; have hcv := (hBv.ext hx1).cell)
    | (go_at_call 46; refine (valid_b (b := true) (s.ext (hx.trans_ hx1)) _ _ _ _ _ _ _ _ hV.out).mono ?_; rintro e w2 ⟨rfl, hx2⟩))
  clear hc hcv
  have hx3 := (hx.trans_ hx1).trans_ hx2
  have hBd1 := (hBd.ext hx1).ext hx2
  have hBk1 := (hBk.ext hx1).ext hx2
  have hBv1 := (hBv.ext hx1).ext hx2
  have hc := hBk1.cell
  go_upto_region 4 with (go_at_call 86; refine (key_e (s.ext hx3) _ _ _ _ _ _ _ _ hn' hK.out).mono ?_; rintro e w3 ⟨rfl, hx4⟩; have hc2 := (hBk1.ext hx4).cell; have hf2 := (hBk1.ext hx4).frozen)
  clear hc hc2 hf2
  have ho := set8_only w3 (w.heap.size + 1) (.int .i64 k1) (.bool x1) (.int .i64 a1) (.int .i64 n1) (.string m1) (.int .i64 r1) (.int .i64 f1) (.int .i64 l1)
  have hZ := (hx3.trans_ hx4).only ho (by omega)
  have hBk2 := set8_blk (hBk1.ext hx4) (.int .i64 k1) (.bool x1) (.int .i64 a1) (.int .i64 n1) (.string m1) (.int .i64 r1) (.int .i64 f1) (.int .i64 l1)
  have hBd2 := (hBd1.ext hx4).keep (ho.block w.heap.size (by omega))
  have hBv2 := (hBv1.ext hx4).keep (ho.block (w.heap.size + 2) (by omega))
  unfold set8 at ho hZ hBk2 hBd2 hBv2
  generalize World.setCell _ ⟨w.heap.size + 1, 7, none⟩ (.int .i64 l1) = Z at ho hZ hBk2 hBd2 hBv2 ⊢
  clear ho hBk1 hBd1 hBv1 hBd hBk hBv hx1 hx2 hx3 hx4
  have sZ := s.ext hZ
  obtain ⟨g, d, D', ha, hds, hD', hcell, hblk, hrow, hro1, hro2, hglt, hdn, hok1, hok2⟩ := sZ.dict_at hrl
  rw [hHD.out] at hD'
  injection hD' with hD'
  subst hD'
  have hmain := sZ.main
  rw [ha] at hmain
  have hrn : r < h.dicts.n := by rw [s.ndicts]; exact hrl
  have hHn := Lib.hid hdn
  have hHs := Lib.hid hds
  clear hdn ha hds
  go_upto_region 6 with fail
  have y1 := fun (E : ExtOf Z) i => (E.cells hmain.lt i).trans (hmain.cell i)
  have y2 := fun (E : ExtOf Z) i => (E.cells hBd2.lt i).trans (hBd2.cell i)
  have y3 : ∀ (E : ExtOf Z), E.w.cell? ⟨g, r, none⟩ = some (.pointer (some ⟨d.1, 0, none⟩)) := fun E => (E.cells hglt r).trans hcell
  clear hcell
  refine wp_region_ext (by kernel_rfl) (by kernel_rfl) ?_
  repeat (go_big_quiet_step (fail))
  refine wpQuiet_nil fun E => ?_
  clear y1 y2 y3
  have hcK := (hBk2.ext E.h).cell
  go_upto_region 10 with (go_at_call 87; refine (dictAt_c (hblk.ext E.h) (hrow.ext E.h) hHn.out _ _ _ _ _ _ _ _).mono ?_; rintro e w4 ⟨rfl, hx4⟩)
  clear hcK
  have hY := (hZ.trans_ E.h).trans_ hx4
  have hEY := E.h.trans_ hx4
  have sY := s.ext hY
  have hBd3 := hBd2.ext hEY
  have hBk3 := hBk2.ext hEY
  have hBv3 := hBv2.ext hEY
  have hbY := hblk.ext hEY
  have hrY := hrow.ext hEY
  clear hBd2 hBk2 hBv2 hblk hrow sZ hmain hx4
  rcases idxOf_cases (isKey ⟨k1, x1, a1, n1, m1, r1, f1, l1⟩) D.pairs with ⟨hi1, -⟩ | ⟨i, u, hi1, hi2, hi3⟩
  · rw [hi1]
    by_cases hfull : D.most ≤ D.pairs.length
    · have hres := hHq.out
      unfold St.setD at hres
      rw [hi1, if_neg (by omega), if_pos hfull] at hres
      subst hres
      have hfull2 : D.most ≤ (d.2.n : Int) := by rw [hHn.out]; exact hfull
      clear hfull hi1
      go_upto_region 13 with fail
      have y1 := fun (F : ExtOf w4) i => (F.cells hbY.lt i).trans (hbY.cell i)
      refine wp_region_ext (by kernel_rfl) (by kernel_rfl) ?_
      repeat (go_big_quiet_step (fail))
      refine wpQuiet_nil fun F => ?_
      go_wp2
      go_ret
      exact ⟨rfl, s.to_ext (hY.trans_ F.h)⟩
    · have hres := hHq.out
      unfold St.setD at hres
      rw [hi1, if_neg (by omega), if_neg hfull] at hres
      subst hres
      have hfull2 : ¬ D.most ≤ (d.2.n : Int) := by rw [hHn.out]; exact hfull
      have hfull3 : (d.2.n : Int) < D.most := by omega
      have hnb : d.2.n ≤ 4096 := by omega
      have hlb : (D.pairs.length : Int) < D.most := by omega
      have hLb := Lib.hid hlb
      clear hfull hi1 hlb
      go_upto_region 13 with fail
      have y1 := fun (F : ExtOf w4) i => (F.cells hbY.lt i).trans (hbY.cell i)
      refine wp_region_ext (by kernel_rfl) (by kernel_rfl) ?_
      repeat (go_big_quiet_step (fail))
      refine wpQuiet_nil fun F => ?_
      clear y1
      have hcd := (hBd3.ext F.h).cell
      go_upto_region 9 with (
        go_at_call 62
        refine (note_h (sY.ext F.h) ⟨2, r, 0, (Ob.null, Ob.null)⟩ hn).mono ?_
        rintro e w5 ⟨rfl, v5, ρ5, s5, hm5⟩)
      have hD5 : (σ.noted ⟨2, r, 0, (Ob.null, Ob.null)⟩).dicts[r]? = some D := by rw [noted_dicts]; exact hHD.out
      obtain ⟨hb5, hro5, hr5, hon5⟩ := s5.ds r d D hHs.out hD5
      have hn1 : ¬ ρ.own (w.heap.size + 1) := Roles.not_own (s.fresh (by omega))
      have hn2 : ¬ ρ.own (w.heap.size + 2) := Roles.not_own (s.fresh (by omega))
      have hBk4 := (hBk3.ext F.h).moves hm5 hn1
      have hBv4 := (hBv3.ext F.h).moves hm5 hn2
      have hne : d.2.blk ≠ some d.1 := fun e => by have := hon5 _ e; rw [hro5] at this; cases this
      have hnk : d.2.blk ≠ some (w.heap.size + 1) := fun e => by
        have := hon5 _ e
        rcases hm5.foot (w.heap.size + 1) (by unfold Roles.own; rw [this]; simp) with h1 | h1
        · exact hn1 h1
        · have := (hBk3.ext F.h).lt; omega
      have hnv : d.2.blk ≠ some (w.heap.size + 2) := fun e => by
        have := hon5 _ e
        rcases hm5.foot (w.heap.size + 2) (by unfold Roles.own; rw [this]; simp) with h1 | h1
        · exact hn2 h1
        · have := (hBv3.ext F.h).lt; omega
      have y1 := fun (G : But w5 (fun b => d.2.blk = some b)) i => (G.cells hb5.lt hne i).trans (hb5.cell i)
      have y2 := fun (G : But w5 (fun b => d.2.blk = some b)) i => (G.cells hBk4.lt hnk i).trans (hBk4.cell i)
      have y3 := fun (G : But w5 (fun b => d.2.blk = some b)) i => (G.cells hBv4.lt hnv i).trans (hBv4.cell i)
      clear hcd
      refine wp_region_plan (C := fun w' => ∃ E : But w5 (fun b => d.2.blk = some b), w' = E.w) [true, true, true, true, true, true, true, true, false, false, false, false, false] 9 1 (by kernel_rfl) (by kernel_rfl) (fun c a d v w h => by cases d <;> exact h) (InBut.of (Nat.le_refl _) fun _ _ _ => rfl) ?_
      simp only [pickQ, pickT]
      repeat (go_big_quiet_step (fail))
      refine wpQuiet_nil ?_
      clear y1 y2 y3
      refine wpTail_cons (fun K hK => ?_)
      go_simp
      refine hK _ _ (InBut.of (by simp) fun b hb _ => Below.heap_alloc _ _ _ hb) ?_
      clear hK K
      refine wpTail_zero ?_
      go_wp2_with (
        at_builtin
        refine wpList_app (by rfl) _ _ _ (by rfl) 122 iP _ 16 144 Try.underlying142 hiP hzP hsP hbP rfl (by omega) d.2 (by rfl) (hr5.alloc _).drew (by rfl) (View.of_blk (n := 1) (Blk.new w5 _ _).drew rfl) ?_ ?_ ?_ ?_
        · intro u hu
          simp only [List.mem_cons, List.mem_nil_iff, or_false] at hu
          rcases hu with rfl | rfl | rfl | rfl | rfl | rfl | rfl | rfl | rfl | rfl | rfl | rfl | rfl | rfl | rfl | rfl <;> rfl
        · simp only [maxLen]; omega
        · omega
        intro v' w6 hrow6 hlen hgrow hat
        obtain ⟨hg1, hg2, hg3, hg4, hg5⟩ := fld_app (H := w5.heap.size + 1) hb5 hne (((Ext.rfl_ w5).alloc_ _).drew_) hgrow (by rcases hat with hat | hat; exact .inl hat; exact .inr (by rw [hat]; simp)) (by omega) hrow6 2 (.slice v'.a v'.n v'.c)
        have z0 := hg1.cell
        have z1 := hg1.frozen)
      go_ret
      refine ⟨rfl, ?_⟩
      have hfl : List.flatMap pairCells D.pairs ++ [Value.int .i64 k1, .bool x1, .int .i64 a1, .int .i64 n1, .string m1, .int .i64 r1, .int .i64 f1, .int .i64 l1, .int .i64 kv, .bool xv, .int .i64 av, .int .i64 nv, .string mv, .int .i64 rv, .int .i64 fv, .int .i64 lv] =
          (D.pairs ++ [((⟨k1, x1, a1, n1, m1, r1, f1, l1⟩ : Ob), (⟨kv, xv, av, nv, mv, rv, fv, lv⟩ : Ob))]).flatMap pairCells := by simp [pairCells, Ob.cells]
      rw [hfl] at hg3
      obtain ⟨ρ6, s6, h6⟩ := s5.setDict (x' := { D with pairs := D.pairs ++ [(⟨k1, x1, a1, n1, m1, r1, f1, l1⟩, ⟨kv, xv, av, nv, mv, rv, fv, lv⟩)] }) hHs.out hD5 v' hg2 hg3 (by
        rcases hat with hat | hat
        · exact .inl hat
        · exact .inr ⟨_, hat, by simp⟩) (fun b hb h1 h2 => hg5.block b hb (fun he => he.elim h1 h2)) hg5.size ⟨by have := hLb.out; simp; omega, hok2⟩
      rw [noted_dicts] at s6
      refine ⟨_, ρ6, s6, ?_⟩
      have hm6 : Moves w5 (w6.setCell ⟨d.1, 2, none⟩ (.slice v'.a v'.n v'.c)) ρ5.own ρ6.own := ⟨hg5.os, hg5.tape, hg5.output, hg5.size, fun b hb hn => hg5.block b hb (fun he => by
        rcases he with he | he
        · subst he; exact hn (by unfold Roles.own; rw [hro5]; simp)
        · exact hn (by unfold Roles.own; rw [hon5 b he]; simp)), h6⟩
      exact Moves.ext_left (hY.trans_ F.h) (hm5.trans_ hm6)
  · rw [hi1]
    have hil : i < D.pairs.length := getElem?_lt hi2
    have hres := hHq.out
    unfold St.setD at hres
    have hget : D.pairs.getD i (Ob.null, Ob.null) = u := by simp [List.getD, hi2]
    rw [hi1, if_pos (by omega), Int.toNat_natCast, hget] at hres
    subst hres
    have hin : i < d.2.n := by rw [hHn.out]; exact hil
    obtain ⟨g2, hg2, hg2b⟩ := hrY.pos (show 0 < d.2.n by omega)
    have hcap := hrY.cap_le
    simp only [maxLen] at hcap
    obtain ⟨⟨kA, xA, aA, nA, mA, rA, fA, lA⟩, ⟨kB, xB, aB, nB, mB, rB, fB, lB⟩⟩ := u
    have hU := Lib.hid hi2
    have hbY' := hbY
    rw [hg2] at hbY'
    clear hi1 hi2 hi3 hget
    go_upto_region 11 with fail
    have y1 := fun (F : ExtOf w4) i => (F.cells hbY'.lt i).trans (hbY'.cell i)
    have y2 := fun (F : ExtOf w4) i => (F.cells hBd3.lt i).trans (hBd3.cell i)
    have hcells := fun (F : ExtOf w4) => cells_pair (hrY.ext F.h) hg2 hU.out
    refine wp_region_ext_tail 12 (by kernel_rfl) (by kernel_rfl) ?_
    simp only [List.take_succ_cons, List.take_zero, List.drop_succ_cons, List.drop_zero]
    repeat (go_big_quiet_step (fail))
    go_big_quiet_want
    refine quiet_load_at (cs := [.int .i64 kA, .bool xA, .int .i64 aA, .int .i64 nA, .string mA, .int .i64 rA, .int .i64 fA, .int .i64 lA, .int .i64 kB, .bool xB, .int .i64 aB, .int .i64 nB, .string mB, .int .i64 rB, .int .i64 fB, .int .i64 lB]) _ (by rfl) (by rfl) (fun w' hw' => by obtain ⟨F, rfl⟩ := hw'; exact hcells F) Try.underlying122 (by kernel_rfl) ?_
    simp only [Act.put, List.setIfInBounds_toArray, List.set_cons_zero, List.set_cons_succ]
    go_big_quiet_on
    repeat (go_big_quiet_step (fail))
    refine wpQuiet_nil fun F => ?_
    clear y1 y2 hcells
    go_upto_region 12 with (
      go_at_call 62
      refine (note_h (sY.ext F.h) ⟨1, r, i, (⟨kA, xA, aA, nA, mA, rA, fA, lA⟩, ⟨kB, xB, aB, nB, mB, rB, fB, lB⟩)⟩ hn).mono ?_
      rintro e w5 ⟨rfl, v5, ρ5, s5, hm5⟩)
    have hD5 : (σ.noted ⟨1, r, i, (⟨kA, xA, aA, nA, mA, rA, fA, lA⟩, ⟨kB, xB, aB, nB, mB, rB, fB, lB⟩)⟩).dicts[r]? = some D := by rw [noted_dicts]; exact hHD.out
    obtain ⟨hb5, hro5, hr5, hon5⟩ := s5.ds r d D hHs.out hD5
    have hn2 : ¬ ρ.own (w.heap.size + 2) := Roles.not_own (s.fresh (by omega))
    have hBv4 := (hBv3.ext F.h).moves hm5 hn2
    have hne : d.2.blk ≠ some d.1 := fun e => by have := hon5 _ e; rw [hro5] at this; cases this
    have hb5' := hb5
    rw [hg2] at hb5'
    have y1 := fun (G : ExtOf w5) j => (G.cells hb5'.lt j).trans (hb5'.cell j)
    have y3 := fun (G : ExtOf w5) j => (G.cells hBv4.lt j).trans (hBv4.cell j)
    refine wp_region_ext_tail 8 (by kernel_rfl) (by kernel_rfl) ?_
    simp only [List.take_succ_cons, List.take_zero, List.drop_succ_cons, List.drop_zero]
    repeat (go_big_quiet_step (fail))
    refine wpQuiet_nil fun G => ?_
    clear y1 y3
    have hr6 := hr5.ext G.h
    obtain ⟨c0, c1, c2, c3, c4, c5, c6, c7⟩ := hr6.val (off := i * 16 + 8) hg2 hU.out rfl
    have hfr := fun j => hr6.frozen hg2 j
    go_wp2
    go_ret
    refine ⟨rfl, ?_⟩
    have ho := setO_only G.w g2 (i * 16 + 8) (.int .i64 kv) (.bool xv) (.int .i64 av) (.int .i64 nv) (.string mv) (.int .i64 rv) (.int .i64 fv) (.int .i64 lv)
    have hw := hr6.set_val (q := i) (off := i * 16 + 8) ⟨kv, xv, av, nv, mv, rv, fv, lv⟩ hg2 hU.out rfl
    have hg1 : g2 ≠ d.1 := by rintro rfl; exact hne hg2b
    have s6' := s5.ext G.h
    obtain ⟨ρ6, s6, h6⟩ := s6'.setDict (x' := { D with pairs := D.pairs.set i (⟨kA, xA, aA, nA, mA, rA, fA, lA⟩, ⟨kv, xv, av, nv, mv, rv, fv, lv⟩) }) hHs.out hD5 d.2 ((hb5.ext G.h).keep (ho.block _ (Ne.symm hg1))) hw (.inl rfl) (fun b hb h1 h2 => ho.block b (by rintro rfl; exact h2 hg2b)) (Nat.le_of_eq ho.size.symm) ⟨by simpa using hok1, hok2⟩
    rw [noted_dicts] at s6
    refine ⟨_, ρ6, s6, ?_⟩
    have hm6 : Moves G.w (setO G.w g2 (i * 16 + 8) (.int .i64 kv) (.bool xv) (.int .i64 av) (.int .i64 nv) (.string mv) (.int .i64 rv) (.int .i64 fv) (.int .i64 lv)) ρ5.own ρ6.own :=
      ⟨ho.os, ho.tape, ho.output, Nat.le_of_eq ho.size.symm, fun b hb hn => ho.block b (by rintro rfl; exact hn (by unfold Roles.own; rw [hon5 _ hg2b]; simp)), h6⟩
    exact Moves.ext_left (hY.trans_ F.h) ((hm5.ext_right G.h).trans_ hm6)
end
end Go.Proofs.Ythhckledkhcfeaa
