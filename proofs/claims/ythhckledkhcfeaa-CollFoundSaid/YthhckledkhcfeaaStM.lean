/- The store's functions, part M: Find, Access. -/
import Derived.Test.YthhckledkhcfeaaStL
namespace Go.Proofs.Ythhckledkhcfeaa
open Go.RowKit
theorem boxed2 {w X : World} {A B : List Value} {t t2 : TypeId} (h : (w.alloc (.cells A.toArray t)).alloc (.cells B.toArray t2) = X) :
    Ext w X ∧ Blk X w.heap.size t A ∧ Blk X (w.heap.size + 1) t2 B := by
  subst h
  exact ⟨((Ext.rfl_ w).alloc_ _).alloc_ _, (Blk.new w t A).alloc _, Blk.new1 w _ t2 B⟩
theorem boxed3 {w X : World} {A B C : List Value} {t t2 t3 : TypeId} (h : ((w.alloc (.cells A.toArray t)).alloc (.cells B.toArray t2)).alloc (.cells C.toArray t3) = X) :
    Ext w X ∧ Blk X w.heap.size t A ∧ Blk X (w.heap.size + 1) t2 B ∧ Blk X (w.heap.size + 2) t3 C := by
  subst h
  refine ⟨(((Ext.rfl_ w).alloc_ _).alloc_ _).alloc_ _, ((Blk.new w t A).alloc _).alloc _, (Blk.new1 w _ t2 B).alloc _, ?_⟩
  have := Blk.new ((w.alloc (.cells A.toArray t)).alloc (.cells B.toArray t2)) t3 C
  simp only [World.size_alloc] at this
  exact this
theorem idxOf_find {α : Type} {f : α → Bool} {l : List α} {i : Nat} {u : α} (h : idxOf f l = i) (hu : l[i]? = some u) : l.find? f = some u := by
  unfold idxOf at h
  cases hq : l.findIdx? f with
  | none => rw [hq] at h; dsimp only at h; omega
  | some j =>
    rw [hq] at h
    dsimp only at h
    obtain rfl : j = i := by omega
    obtain ⟨hlt, he, hno⟩ := List.findIdx?_eq_some_iff_getElem.1 hq
    rw [List.find?_eq_some_iff_getElem]
    rw [List.getElem?_eq_getElem hlt] at hu
    injection hu with hu
    subst hu
    exact ⟨he, j, hlt, rfl, fun k hk => by have := hno k hk; simpa using this⟩
/-- The pairs of a dictionary. -/
def St.pairsOf (σ : St) (d : Ob) : List (Ob × Ob) := (σ.dicts.getD d.rf.toNat ⟨0, 0, []⟩).pairs
def St.find (σ : St) (d k : Ob) : Ob × Bool :=
  if σ.isA d 8 = true ∧ (σ.key k).2 = 0 then
    match (σ.pairsOf d).find? (isKey (σ.key k).1) with
    | some q => (q.2, true)
    | none => (Ob.null, false)
  else (Ob.null, false)
section
variable {w : World} {p : Nat} {σ : St} {h : Hd} {ρ : Roles}
theorem key_e (s : Sto w p σ h ρ) (k : Int) (x : Bool) (ac n : Int) (nm : ByteArray) (rf fr ln : Int) (hn : I64 n) {k1 : Int} {x1 : Bool} {a1 n1 : Int} {m1 : ByteArray} {r1 f1 l1 e1 : Int} (hk : σ.key ⟨k, x, ac, n, nm, rf, fr, ln⟩ = (⟨k1, x1, a1, n1, m1, r1, f1, l1⟩, e1)) :
    Calls Try.prog 86 #[.pointer (some ⟨p, 0, none⟩), .agg #[.int .i64 k, .bool x, .int .i64 ac, .int .i64 n, .string nm, .int .i64 rf, .int .i64 fr, .int .i64 ln]] w fun e w' =>
      e = .returned (.tuple #[.agg #[.int .i64 k1, .bool x1, .int .i64 a1, .int .i64 n1, .string m1, .int .i64 r1, .int .i64 f1, .int .i64 l1], .int .i64 e1]) ∧ Ext w w' := by
  have := key_any s k x ac n nm rf fr ln hn
  rw [hk] at this
  exact this
theorem cells_val {w : World} {t : Sl} {l : List (Ob × Ob)} (hr : Row w 122 16 t (l.flatMap pairCells)) {g i : Nat} {u : Ob × Ob} (ha : t.a = some ⟨g, 0, none⟩) (hu : l[i]? = some u) :
    ∀ q v, u.2.cells[q]? = some v → w.cell? ⟨g, i * 16 + 8 + q, none⟩ = some v := fun q v hv => by
  have hq8 : q < 8 := by have := (List.getElem?_eq_some_iff.1 hv).1; rw [Ob.cells_len] at this; exact this
  rw [Nat.add_assoc]
  refine (hr.item length_pair ha hu (show 8 + q < 16 by omega)).trans ?_
  unfold pairCells
  rw [List.getElem?_append_right (by rw [Ob.cells_len]; omega), Ob.cells_len, Nat.add_sub_cancel_left]
  exact hv
set_option maxRecDepth 100000 in
set_option maxHeartbeats 1000000 in
/-- (*Store).Find. -/
theorem find_c (s : Sto w p σ h ρ) (k : Int) (x : Bool) (ac n : Int) (nm : ByteArray) (rf fr ln : Int) (k' : Int) (x' : Bool) (ac' n' : Int) (nm' : ByteArray) (rf' fr' ln' : Int) (hn : I64 n') {q : Ob × Bool}
    (hq : σ.find ⟨k, x, ac, n, nm, rf, fr, ln⟩ ⟨k', x', ac', n', nm', rf', fr', ln'⟩ = q) :
    Calls Try.prog 55 #[.pointer (some ⟨p, 0, none⟩), .agg #[.int .i64 k, .bool x, .int .i64 ac, .int .i64 n, .string nm, .int .i64 rf, .int .i64 fr, .int .i64 ln],
        .agg #[.int .i64 k', .bool x', .int .i64 ac', .int .i64 n', .string nm', .int .i64 rf', .int .i64 fr', .int .i64 ln']] w fun e w' =>
      e = .returned (.tuple #[.agg q.1.cells.toArray, .bool q.2]) ∧ Ext w w' := by
  cases hd : σ.isA ⟨k, x, ac, n, nm, rf, fr, ln⟩ 8 with
  | false =>
    have e : q = (Ob.null, false) := by rw [← hq]; unfold St.find; rw [if_neg (by rw [hd]; simp)]
    subst e
    have hD := Lib.hid hd
    clear hd hq
    go_enter Try.func55, Try.ntmps55
    go_upto_region 1 with fail
    generalize hX : World.alloc (World.alloc (World.alloc w _) _) _ = X
    obtain ⟨hx, hBd, hBk, hBr⟩ := boxed3 hX
    clear hX
    have hc := hBd.cell
    go_upto_region 2 with (go_at_call 61; refine (is_b (b := false) (s.ext hx) _ _ _ _ _ _ _ _ _ hD.out).mono ?_; rintro e w1 ⟨rfl, hx1⟩)
    have hBr' := hBr.ext hx1
    have hc4 := hBr'.cell
    have hf4 := hBr'.frozen
    clear hc
    go_wp2
    refine bodyPost_ret (res_ct rfl rfl (set8_blk hBr' _ _ _ _ _ _ _ _) Try.underlying27 (by kernel_rfl)) rfl ⟨rfl, ?_⟩
    exact (hx.trans_ hx1).only (set8_only _ _ _ _ _ _ _ _ _ _) (by omega)
  | true =>
    obtain ⟨⟨⟨k1, x1, a1, n1, m1, r1, f1, l1⟩, e1⟩, hk⟩ : ∃ kp, σ.key ⟨k', x', ac', n', nm', rf', fr', ln'⟩ = kp := ⟨_, rfl⟩
    obtain ⟨r, D, rfl, hr, hD⟩ := isA_dict_inv hd
    dsimp only at hr
    subst hr
    have hrl := getElem?_lt hD
    have hDd := Lib.hid hd
    have hK := Lib.hid hk
    have hHq := Lib.hid hq
    have hrl2 : r < 1048576 := by have := s.ok.room; have := s.ok.free0; omega
    clear hd hk hq
    go_enter Try.func55, Try.ntmps55
    go_upto_region 1 with fail
    generalize hX : World.alloc (World.alloc (World.alloc w _) _) _ = X
    obtain ⟨hx, hBd, hBk, hBr⟩ := boxed3 hX
    clear hX
    have hc := hBd.cell
    go_upto_region 3 with (go_at_call 61; refine (is_b (b := true) (s.ext hx) _ _ _ _ _ _ _ _ _ hDd.out).mono ?_; rintro e w1 ⟨rfl, hx1⟩)
    clear hc
    have hBd1 := hBd.ext hx1
    have hBk1 := hBk.ext hx1
    have hBr1 := hBr.ext hx1
    have hc := hBk1.cell
    go_upto_region 4 with (go_at_call 86; refine (key_e (s.ext (hx.trans_ hx1)) _ _ _ _ _ _ _ _ hn hK.out).mono ?_; rintro e w2 ⟨rfl, hx2⟩; have hc2 := (hBk1.ext hx2).cell; have hf2 := (hBk1.ext hx2).frozen)
    clear hc hc2 hf2
    have ho := set8_only w2 (w.heap.size + 1) (.int .i64 k1) (.bool x1) (.int .i64 a1) (.int .i64 n1) (.string m1) (.int .i64 r1) (.int .i64 f1) (.int .i64 l1)
    have hZ := ((hx.trans_ hx1).trans_ hx2).only ho (by omega)
    have hBk2 := set8_blk (hBk1.ext hx2) (.int .i64 k1) (.bool x1) (.int .i64 a1) (.int .i64 n1) (.string m1) (.int .i64 r1) (.int .i64 f1) (.int .i64 l1)
    have hBd2 := (hBd1.ext hx2).keep (ho.block w.heap.size (by omega))
    have hBr2 := (hBr1.ext hx2).keep (ho.block (w.heap.size + 2) (by omega))
    unfold set8 at ho hZ hBk2 hBd2 hBr2
    generalize World.setCell _ ⟨w.heap.size + 1, 7, none⟩ (.int .i64 l1) = Z at ho hZ hBk2 hBd2 hBr2 ⊢
    clear ho hBk1 hBd1 hBr1 hBd hBk hBr hx1 hx2
    by_cases he : e1 = 0
    · subst he
      obtain ⟨g, d, D', ha, hds, hD', hcell, hblk, hrow, hro1, hro2, hglt, hdn, hok1, hok2⟩ := (s.ext hZ).dict_at hrl
      rw [hD] at hD'
      injection hD' with hD'
      subst hD'
      have hmain := (s.ext hZ).main
      rw [ha] at hmain
      have hrn : r < h.dicts.n := by rw [s.ndicts]; exact hrl
      have hHD := Lib.hid hD
      have hHn := Lib.hid hdn
      have hHs := Lib.hid hds
      clear hD hdn ha hds hok1 hok2
      go_upto_region 6 with fail
      have y1 := fun (E : ExtOf Z) i => (E.cells hmain.lt i).trans (hmain.cell i)
      have y2 := fun (E : ExtOf Z) i => (E.cells hBd2.lt i).trans (hBd2.cell i)
      have y3 : ∀ (E : ExtOf Z), E.w.cell? ⟨g, r, none⟩ = some (.pointer (some ⟨d.1, 0, none⟩)) := fun E => (E.cells hglt r).trans hcell
      clear hcell
      refine wp_region_ext (by kernel_rfl) (by kernel_rfl) ?_
      repeat (go_big_quiet_step (fail))
      refine wpQuiet_nil fun E => ?_
      clear y1 y2 y3
      have hcK := (hBk2.ext E.h).cell
      have hpairs : σ.pairsOf ⟨8, x, ac, n, nm, r, fr, ln⟩ = D.pairs := by unfold St.pairsOf; simp [List.getD, hHD.out]
      rcases idxOf_cases (isKey ⟨k1, x1, a1, n1, m1, r1, f1, l1⟩) D.pairs with ⟨hi1, hi2⟩ | ⟨i, u, hi1, hi2, hi3⟩
      · have e : q = (Ob.null, false) := by
          rw [← hHq.out]
          unfold St.find
          rw [if_pos ⟨hDd.out, by rw [hK.out]⟩, hK.out, hpairs, List.find?_eq_none.2 (fun u hu => by rw [hi2 u hu]; simp)]
        subst e
        have hI := Lib.hid hi1
        clear hi1 hi2 hpairs
        go_wp2_with (go_at_call 87; refine (dictAt_c (hblk.ext E.h) (hrow.ext E.h) hHn.out _ _ _ _ _ _ _ _).mono ?_; rintro e w3 ⟨rfl, hx3⟩; rw [hI.out]; have hc4 := ((hBr2.ext E.h).ext hx3).cell; have hf4 := ((hBr2.ext E.h).ext hx3).frozen)
        refine bodyPost_ret (res_ct rfl rfl (set8_blk ((hBr2.ext E.h).ext hx3) _ _ _ _ _ _ _ _) Try.underlying27 (by kernel_rfl)) rfl ⟨rfl, ?_⟩
        exact ((hZ.trans_ E.h).trans_ hx3).only (set8_only _ _ _ _ _ _ _ _ _ _) (by omega)
      · have e : q = (u.2, true) := by
          rw [← hHq.out]
          unfold St.find
          rw [if_pos ⟨hDd.out, by rw [hK.out]⟩, hK.out, hpairs, idxOf_find hi1 hi2]
        subst e
        have hI := Lib.hid hi1
        have hU := Lib.hid hi2
        have hil : i < D.pairs.length := getElem?_lt hi2
        have hin : i < d.2.n := by rw [hHn.out]; exact hil
        obtain ⟨g2, hg2, hg2b⟩ := hrow.pos (show 0 < d.2.n by omega)
        have hcap := hrow.cap_le
        simp only [maxLen] at hcap
        obtain ⟨u1, ⟨kv, xv, av, nv, mv, rv, fv, lv⟩⟩ := u
        obtain ⟨d1, ⟨da, dn, dc⟩⟩ := d
        dsimp only at hg2 hin hcap hblk hrow hHn hI hHs
        subst hg2
        clear hi1 hi2 hi3 hpairs hil
        go_wp2_with (first
          | (go_at_call 87; refine (dictAt_c (hblk.ext E.h) (hrow.ext E.h) hHn.out _ _ _ _ _ _ _ _).mono ?_; rintro e w3 ⟨rfl, hx3⟩; rw [hI.out]; have hc4 := ((hBr2.ext E.h).ext hx3).cell; have hf4 := ((hBr2.ext E.h).ext hx3).frozen; have hc5 := ((hblk.ext E.h).ext hx3).cell; have hcells := cells_val ((hrow.ext E.h).ext hx3) rfl hU.out)
          | (refine wpList_load_at (ty := 27) (cs := [.int .i64 kv, .bool xv, .int .i64 av, .int .i64 nv, .string mv, .int .i64 rv, .int .i64 fv, .int .i64 lv]) (by rfl) _ (by rfl) (by rfl) hcells Try.underlying27 (by kernel_rfl) ?_))
        refine bodyPost_ret (res_ct rfl rfl (set8_blk ((hBr2.ext E.h).ext hx3) _ _ _ _ _ _ _ _) Try.underlying27 (by kernel_rfl)) rfl ⟨rfl, ?_⟩
        exact ((hZ.trans_ E.h).trans_ hx3).only (set8_only _ _ _ _ _ _ _ _ _ _) (by omega)
    · have e : q = (Ob.null, false) := by rw [← hHq.out]; unfold St.find; rw [if_neg (by rw [hK.out]; simp [he])]
      subst e
      have he2 : (e1 != 0) = true := by simpa using he
      have hc4 := hBr2.cell
      have hf4 := hBr2.frozen
      clear he
      go_wp2
      refine bodyPost_ret (res_ct rfl rfl (set8_blk hBr2 _ _ _ _ _ _ _ _) Try.underlying27 (by kernel_rfl)) rfl ⟨rfl, ?_⟩
      exact hZ.only (set8_only _ _ _ _ _ _ _ _ _ _) (by omega)
end
end Go.Proofs.Ythhckledkhcfeaa
