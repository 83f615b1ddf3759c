/- slices.Delete of one pair. (*Store).Drop, of a dictionary that is there. The store's functions, part P: Write. The store: where Write, Lock and Set refuse. -/
import Derived.OwnWalk
import Derived.Test.YthhckledkhcfeaaQ09
namespace Go.Proofs.Ythhckledkhcfeaa
open Go.RowKit
theorem flat_take {α : Type} {f : α → List Value} {k : Nat} (hf : ∀ a, (f a).length = k) : ∀ (i : Nat) (l : List α), (l.take i).flatMap f = (l.flatMap f).take (i * k)
  | 0, l => by simp
  | i + 1, [] => by simp
  | i + 1, a :: l => by
    have e : List.take (k + i * k) (f a ++ List.flatMap f l) = f a ++ List.take (i * k) (List.flatMap f l) := by
      rw [List.take_append, hf a, Nat.add_sub_cancel_left, List.take_of_length_le (l := f a) (by rw [hf a]; exact Nat.le_add_right _ _)]
    rw [List.take_succ_cons, List.flatMap_cons, List.flatMap_cons, flat_take hf i l, Nat.add_mul, Nat.one_mul, Nat.add_comm, e]
theorem flat_drop {α : Type} {f : α → List Value} {k : Nat} (hf : ∀ a, (f a).length = k) : ∀ (i : Nat) (l : List α), (l.drop i).flatMap f = (l.flatMap f).drop (i * k)
  | 0, l => by simp
  | i + 1, [] => by simp
  | i + 1, a :: l => by
    have e : List.drop (k + i * k) (f a ++ List.flatMap f l) = List.drop (i * k) (List.flatMap f l) := by
      rw [List.drop_append, hf a, Nat.add_sub_cancel_left, List.drop_of_length_le (l := f a) (by rw [hf a]; exact Nat.le_add_right _ _), List.nil_append]
    rw [List.drop_succ_cons, List.flatMap_cons, flat_drop hf i l, Nat.add_mul, Nat.one_mul, Nat.add_comm, e]
theorem pairs_one (l : List (Ob × Ob)) : ∀ u ∈ l.flatMap pairCells, u.oneCell' = true := by
  intro u hu
  obtain ⟨⟨a, b⟩, -, ho⟩ := List.mem_flatMap.1 hu
  simp only [pairCells, Ob.cells, List.mem_append, List.mem_cons, List.mem_nil_iff, or_false] at ho
  rcases ho with (rfl | rfl | rfl | rfl | rfl | rfl | rfl | rfl) | (rfl | rfl | rfl | rfl | rfl | rfl | rfl | rfl) <;> rfl
theorem Row.setCells {e : TypeId} {sz : Nat} {s : Sl} {xs : List Value} {g : Nat} (ha : s.a = some ⟨g, 0, none⟩) : ∀ (vs : List Value) (o : Nat) (w : World), s.n * sz ≤ o → Row w e sz s xs → Row (w.setCells g o vs) e sz s xs
  | [], _, _, _, h => h
  | v :: vs, o, w, ho, h => by
    have h1 := h.set_ ha o v
    rw [List.set_eq_of_length_le (by rw [h.len]; exact ho)] at h1
    exact Row.setCells ha vs (o + 1) _ (by omega) h1
theorem setCells_only (g : Nat) : ∀ (vs : List Value) (o : Nat) (w w' : World), Only w g w' → Only w g (w'.setCells g o vs)
  | [], _, _, _, h => h
  | v :: vs, o, w, w', h => setCells_only g vs (o + 1) w _ (h.set_ o v)
abbrev Zp : List Value := [.int .i64 0, .bool false, .int .i64 0, .int .i64 0, .string ByteArray.empty, .int .i64 0, .int .i64 0, .int .i64 0, .int .i64 0, .bool false, .int .i64 0, .int .i64 0, .string ByteArray.empty, .int .i64 0, .int .i64 0, .int .i64 0]
section
variable {w w' : World} {p : Nat} {σ : St} {h : Hd} {ρ : Roles}
set_option maxRecDepth 100000 in
theorem clear_last {t : Sl} {xs : List Value} {g q : Nat} (hr : Row w 122 16 t xs) (ha : t.a = some ⟨g, 0, none⟩) (hq : q < t.c) (c ty : Nat) :
    (Builtin.clear_ #[142] ty #[.slice (some ⟨g, q * 16, none⟩) 1 c]).run Try.prog w = .ok (.tuple #[]) (w.setCells g (q * 16) Zp) := by
  rcases hr.shape with ⟨h1, _⟩ | ⟨g', cur, h1, _, hg, hs, ht⟩
  · rw [h1] at ha; cases ha
  · rw [h1] at ha; injection ha with ha; injection ha with ha; subst ha
    have hst := run_storeCells_cells (P := Try.prog) g' (q * 16) Zp 0 w (fun j hj => by
      have hj16 : j < 16 := hj
      rw [cell_of_row w g' _ cur 122 (0, 0) hg]
      simp
      omega) (fun j _ => by simp [World.frozen?, hg]) (by
      intro v hv
      simp only [List.mem_cons, List.mem_nil_iff, or_false] at hv
      rcases hv with rfl | rfl | rfl | rfl | rfl | rfl | rfl | rfl | rfl | rfl | rfl | rfl | rfl | rfl | rfl | rfl <;> rfl)
    simp only [Nat.add_zero] at hst
    have hz := Try.zeroValue122
    have hzc : (Builtin.zeroCells (Value.agg #[.int .i64 0, .bool false, .int .i64 0, .int .i64 0, .string ⟨#[]⟩, .int .i64 0, .int .i64 0, .int .i64 0, .int .i64 0, .bool false, .int .i64 0, .int .i64 0, .string ⟨#[]⟩, .int .i64 0, .int .i64 0, .int .i64 0]).cells 1).toList = Zp := by kernel_rfl
    simp [Builtin.clear_, run_underlying Try.underlying142, hz]
    rw [hzc, hst]
    rfl
theorem run_from16 {g n c lo : Nat} (hlo : lo + 1 ≤ n) (W : World) : (Instr.slice 142 (.slice (some ⟨g, 0, none⟩) n c) (some (.int .i64 ((lo : Int) + 1))) none none).run Try.prog W = .ok (.slice (cutA (some ⟨g, 0, none⟩) c (lo + 1) 16) (n - (lo + 1)) (c - (lo + 1))) W := by
  obtain ⟨i, hi, -, hs, -⟩ := info_parts info_pair
  have he : Try.prog.elem 142 = 122 := by simp [Program.elem, Try.underlying142]
  rw [run_slice_l (w := W) 142 (some ⟨g, 0, none⟩) n c (by rw [he]; exact Try.underlying142) .i64 ((lo : Int) + 1) (by omega) (by omega), he, run_sizeOf W hi]
  have c5 : Try.prog.cellsOf 122 = 16 := by kernel_rfl
  have e : ((lo : Int) + 1).toNat = lo + 1 := by omega
  simp [Result.andThen, sliced, cutA, c5, e]
theorem run_last16 {g n c q : Nat} (hn : n = q + 1) (hc : n ≤ c) (W : World) : (Instr.slice 142 (.slice (some ⟨g, 0, none⟩) q c) (some (.int .i64 q)) (some (.int .i64 n)) none).run Try.prog W = .ok (.slice (some ⟨g, q * 16, none⟩) 1 (c - q)) W := by
  subst hn
  obtain ⟨i, hi, -, hs, -⟩ := info_parts info_pair
  have he : Try.prog.elem 142 = 122 := by simp [Program.elem, Try.underlying142]
  rw [run_slice_lh (w := W) 142 (some ⟨g, 0, none⟩) q c (by rw [he]; exact Try.underlying142) .i64 .i64 q ((q + 1 : Nat) : Int) (by omega) (by omega) (by omega), he, run_sizeOf W hi]
  have c5 : Try.prog.cellsOf 122 = 16 := by kernel_rfl
  have e : ((q + 1 : Nat) : Int).toNat - (q : Int).toNat = 1 := by omega
  have e2 : ¬ c = q := by omega
  simp [Result.andThen, sliced, c5, e2, Addr.add_lit]
set_option maxRecDepth 100000 in
set_option maxHeartbeats 2000000 in
theorem delete_c {t : Sl} {l : List (Ob × Ob)} (hr : Row w 122 16 t (l.flatMap pairCells)) (hn : t.n = l.length) (hl : l.length ≤ 4096) (i : Nat) (hi : i < l.length) :
    Calls Try.prog 90 #[.slice t.a t.n t.c, .int .i64 i, .int .i64 ((i : Int) + 1)] w fun e w' => ∃ v : Sl, e = .returned (.slice v.a v.n v.c) ∧ Row w' 122 16 v ((l.eraseIdx i).flatMap pairCells) ∧ v.blk = t.blk ∧ w.grownBy w' t.blk := by
  obtain ⟨iP, hiP, hzP, hsP, hbP⟩ := info_parts info_pair
  have hin : i < t.n := by omega
  have hn2 : t.n ≤ 4096 := by omega
  obtain ⟨g, hga, hgb⟩ := hr.pos (show 0 < t.n by omega)
  have hcap := hr.cap_le
  simp only [maxLen] at hcap
  have hfl : (l.eraseIdx i).flatMap pairCells = (l.flatMap pairCells).take (i * 16) ++ (l.flatMap pairCells).drop ((i + 1) * 16) := by
    rw [List.eraseIdx_eq_take_drop_succ, List.flatMap_append, flat_take length_pair, flat_drop length_pair]
  rw [hfl]
  have hone := pairs_one l
  have hxl := hr.len
  generalize List.flatMap pairCells l = xs at hr hone hxl ⊢
  obtain ⟨ta, tn, tc⟩ := t
  dsimp only at hin hn2 hga hcap hxl ⊢
  subst hga
  have hcut := hr.cut (m := i) (by dsimp only; omega)
  have hpart := View.part (f := i + 1) (m := tn - (i + 1)) hr (by dsimp only; omega)
  dsimp only at hcut hpart
  rw [List.take_of_length_le (l := xs.drop _) (by rw [List.length_drop, hxl]; omega)] at hpart
  have hHp := Lib.hid hpart
  have hHc := Lib.hid hcut
  have hHr := Lib.hid hr
  have hHo := Lib.hid hone
  clear hpart hcut hr hone hfl hn hl hi
  obtain ⟨q, hq⟩ : ∃ q, tn = q + 1 := ⟨tn - 1, by omega⟩
  have hHx := Lib.hid hxl
  clear hxl
  go_enter Try.func90, Try.ntmps90
  have hHq := Lib.hid hq
  clear hq
  go_upto_region 5 with fail
  obtain ⟨R, hR⟩ : ∃ R, cutA (some ⟨g, 0, none⟩) tc (i + 1) 16 = R := ⟨_, rfl⟩
  have kR := fun W => run_from16 (g := g) (n := tn) (c := tc) (lo := i) (by omega) W
  rw [hR] at kR
  have hHR := Lib.hid hR
  clear hR
  refine wp_region_ext_tail 6 (by kernel_rfl) (by kernel_rfl) ?_
  simp only [List.take_succ_cons, List.take_zero, List.drop_succ_cons, List.drop_zero]
  repeat (go_big_quiet_step (fail))
  refine wpQuiet_nil fun E => ?_
  clear kR
  refine wpList_append_fits_any E.w (by rfl) _ _ _ (by rfl) 0 122 iP 16 Try.underlying142 hiP hsP g i tc _ (by rfl) (hHc.out.ext E.h) R (tn - (i + 1)) _ (xs.drop ((i + 1) * 16)) (by rfl) ?_ ?_ ?_ ?_ (by omega) ?_
  · rw [List.length_drop, hHx.out, Nat.sub_mul]
  · intro h
    have h2 := hHR.out
    rw [h] at h2
    unfold cutA at h2
    split at h2 <;> cases h2
  · intro ad had j u hu
    obtain ⟨g', o, h1, -, h2⟩ := (hHp.out.ext E.h).2 (by have := getElem?_lt hu; omega)
    have h3 := hHR.out.symm.trans h1
    rw [had] at h3
    injection h3 with h3
    subst h3
    rw [Addr.add_lit]
    exact h2 j u hu
  · intro u hu
    exact hHo.out u (List.mem_of_mem_drop hu)
  intro w1 hrow1 hg1
  have hm : i + (tn - (i + 1)) = q := by have := hHq.out; omega
  rw [hm] at hrow1 ⊢
  have hr1 : Row w1 122 16 ⟨some ⟨g, 0, none⟩, q, tc⟩ _ := hrow1
  have kS := fun W => run_last16 (g := g) (n := tn) (c := tc) (q := q) hHq.out hcap.1 W
  have kC := fun ty => clear_last hr1 rfl (show q < tc by have := hHq.out; omega) (tc - q) ty
  have hqt : (q : Int) + 1 = tn := by have := hHq.out; omega
  go_wp2
  go_ret
  have ho := setCells_only g Zp (q * 16) w1 w1 (Only.refl_ w1 g)
  refine ⟨⟨some ⟨g, 0, none⟩, q, tc⟩, rfl, Row.setCells rfl Zp (q * 16) w1 (Nat.le_refl _) hr1, rfl, ?_⟩
  exact ⟨ho.os.trans (hg1.os.trans E.h.os), ho.tape.trans (hg1.tape.trans E.h.tape), ho.output.trans (hg1.output.trans E.h.output), Nat.le_trans E.h.size (Nat.le_trans hg1.size (Nat.le_of_eq ho.size.symm)),
    fun b hb hne => (ho.block b (by rintro rfl; exact hne rfl)).trans ((hg1.block b (Nat.lt_of_lt_of_le hb E.h.size) hne).trans (E.h.at_ hb))⟩
end
end Go.Proofs.Ythhckledkhcfeaa
namespace Go.Proofs.Ythhckledkhcfeaa
open Go.RowKit
def St.dropD (σ : St) (r : Nat) (D : Dc) (k : Ob) : St × Int :=
  if 0 ≤ idxOf (isKey k) D.pairs then
    ({ σ.noted ⟨3, r, idxOf (isKey k) D.pairs, D.pairs.getD (idxOf (isKey k) D.pairs).toNat (Ob.null, Ob.null)⟩ with
      dicts := σ.dicts.set r { D with pairs := D.pairs.eraseIdx (idxOf (isKey k) D.pairs).toNat } }, 0)
  else (σ, 17)
section
variable {w w' : World} {p : Nat} {σ : St} {h : Hd} {ρ : Roles}
/-- .. of no dictionary. -/
theorem drop_no (s : Sto w p σ h ρ) (k : Int) (x : Bool) (ac n : Int) (nm : ByteArray) (rf fr ln : Int) (hno : σ.isA ⟨k, x, ac, n, nm, rf, fr, ln⟩ 8 = false) (k' : Int) (x' : Bool) (ac' n' : Int) (nm' : ByteArray) (rf' fr' ln' : Int) :
    Calls Try.prog 38 #[.pointer (some ⟨p, 0, none⟩), .agg #[.int .i64 k, .bool x, .int .i64 ac, .int .i64 n, .string nm, .int .i64 rf, .int .i64 fr, .int .i64 ln],
        .agg #[.int .i64 k', .bool x', .int .i64 ac', .int .i64 n', .string nm', .int .i64 rf', .int .i64 fr', .int .i64 ln']] w fun e w' => e = .returned (.int .i64 21) ∧ Ext w w' := by
  go_enter Try.func38, Try.ntmps38
  go_upto_region 1 with fail
  generalize hX : World.alloc (World.alloc w _) _ = X
  obtain ⟨hx, hBd, hBk⟩ := boxed2 hX
  clear hX
  have hc := hBd.cell
  go_wp2_with (go_at_call 61; refine (is_b (b := false) (s.ext hx) _ _ _ _ _ _ _ _ _ hno).mono ?_; rintro e w1 ⟨rfl, hx1⟩)
  go_ret
  exact ⟨rfl, hx.trans_ hx1⟩
set_option maxRecDepth 100000 in
set_option maxHeartbeats 2000000 in
/-- .. by no key. -/
theorem drop_nokey (s : Sto w p σ h ρ) (x : Bool) (ac n : Int) (nm : ByteArray) (r : Nat) (fr ln : Int) {D : Dc} (hD : σ.dicts[r]? = some D)
    (k' : Int) (x' : Bool) (ac' n' : Int) (nm' : ByteArray) (rf' fr' ln' : Int) (hn' : I64 n') {k1 : Int} {x1 : Bool} {a1 n1 : Int} {m1 : ByteArray} {r1 f1 l1 e1 : Int} (hk : σ.key ⟨k', x', ac', n', nm', rf', fr', ln'⟩ = (⟨k1, x1, a1, n1, m1, r1, f1, l1⟩, e1)) (he : ¬ e1 = 0) :
    Calls Try.prog 38 #[.pointer (some ⟨p, 0, none⟩), .agg #[.int .i64 8, .bool x, .int .i64 ac, .int .i64 n, .string nm, .int .i64 r, .int .i64 fr, .int .i64 ln],
        .agg #[.int .i64 k', .bool x', .int .i64 ac', .int .i64 n', .string nm', .int .i64 rf', .int .i64 fr', .int .i64 ln']] w fun e w' => e = .returned (.int .i64 e1) ∧ Ext w w' := by
  have hrl := getElem?_lt hD
  have hK := Lib.hid hk
  have he2 : (e1 == 0) = false := by simpa using he
  clear hk hD
  go_enter Try.func38, Try.ntmps38
  go_upto_region 1 with fail
  generalize hX : World.alloc (World.alloc w _) _ = X
  obtain ⟨hx, hBd, hBk⟩ := boxed2 hX
  clear hX
  have hc := hBd.cell
  go_upto_region 3 with (go_at_call 61; refine (is_b (b := true) (s.ext hx) _ _ _ _ _ _ _ _ _ (isA_dict hrl)).mono ?_; rintro e w1 ⟨rfl, hx1⟩)
  clear hc
  have hx3 := hx.trans_ hx1
  have hBk1 := hBk.ext hx1
  have hc := hBk1.cell
  go_upto_region 4 with (go_at_call 86; refine (key_e (s.ext hx3) _ _ _ _ _ _ _ _ hn' hK.out).mono ?_; rintro e w3 ⟨rfl, hx4⟩; have hc2 := (hBk1.ext hx4).cell; have hf2 := (hBk1.ext hx4).frozen)
  clear hc hc2 hf2
  have ho := set8_only w3 (w.heap.size + 1) (.int .i64 k1) (.bool x1) (.int .i64 a1) (.int .i64 n1) (.string m1) (.int .i64 r1) (.int .i64 f1) (.int .i64 l1)
  have hZ := (hx3.trans_ hx4).only ho (by omega)
  unfold set8 at ho hZ
  generalize World.setCell _ ⟨w.heap.size + 1, 7, none⟩ (.int .i64 l1) = Z at ho hZ ⊢
  go_wp2
  go_ret
  exact ⟨rfl, hZ⟩
set_option maxRecDepth 100000 in
set_option maxHeartbeats 2000000 in
theorem drop_c (s : Sto w p σ h ρ) (x : Bool) (ac n : Int) (nm : ByteArray) (r : Nat) (fr ln : Int) {D : Dc} (hD : σ.dicts[r]? = some D)
    (k' : Int) (x' : Bool) (ac' n' : Int) (nm' : ByteArray) (rf' fr' ln' : Int) (hn' : I64 n') {k1 : Int} {x1 : Bool} {a1 n1 : Int} {m1 : ByteArray} {r1 f1 l1 : Int} (hk : σ.key ⟨k', x', ac', n', nm', rf', fr', ln'⟩ = (⟨k1, x1, a1, n1, m1, r1, f1, l1⟩, 0))
    (hn : σ.changes.length + 1 ≤ 4294967296) {q : St × Int} (hq : σ.dropD r D ⟨k1, x1, a1, n1, m1, r1, f1, l1⟩ = q) :
    Calls Try.prog 38 #[.pointer (some ⟨p, 0, none⟩), .agg #[.int .i64 8, .bool x, .int .i64 ac, .int .i64 n, .string nm, .int .i64 r, .int .i64 fr, .int .i64 ln],
        .agg #[.int .i64 k', .bool x', .int .i64 ac', .int .i64 n', .string nm', .int .i64 rf', .int .i64 fr', .int .i64 ln']] w fun e w' =>
      e = .returned (.int .i64 q.2) ∧ StoTo w w' p ρ q.1 := by
  have hrl := getElem?_lt hD
  have hrl2 : r < 1048576 := by have := s.ok.room; have := s.ok.free0; omega
  have hK := Lib.hid hk
  have hHq := Lib.hid hq
  have hHD := Lib.hid hD
  clear hk hq hD
  go_enter Try.func38, Try.ntmps38
  go_upto_region 1 with fail
  generalize hX : World.alloc (World.alloc w _) _ = X
  obtain ⟨hx, hBd, hBk⟩ := boxed2 hX
  clear hX
  have hc := hBd.cell
  go_upto_region 3 with (go_at_call 61; refine (is_b (b := true) (s.ext hx) _ _ _ _ _ _ _ _ _ (isA_dict hrl)).mono ?_; rintro e w1 ⟨rfl, hx1⟩)
  clear hc
  have hx3 := hx.trans_ hx1
  have hBd1 := hBd.ext hx1
  have hBk1 := hBk.ext hx1
  have hc := hBk1.cell
  go_upto_region 4 with (go_at_call 86; refine (key_e (s.ext hx3) _ _ _ _ _ _ _ _ hn' hK.out).mono ?_; rintro e w3 ⟨rfl, hx4⟩; have hc2 := (hBk1.ext hx4).cell; have hf2 := (hBk1.ext hx4).frozen)
  clear hc hc2 hf2
  have ho := set8_only w3 (w.heap.size + 1) (.int .i64 k1) (.bool x1) (.int .i64 a1) (.int .i64 n1) (.string m1) (.int .i64 r1) (.int .i64 f1) (.int .i64 l1)
  have hZ := (hx3.trans_ hx4).only ho (by omega)
  have hBk2 := set8_blk (hBk1.ext hx4) (.int .i64 k1) (.bool x1) (.int .i64 a1) (.int .i64 n1) (.string m1) (.int .i64 r1) (.int .i64 f1) (.int .i64 l1)
  have hBd2 := (hBd1.ext hx4).keep (ho.block w.heap.size (by omega))
  unfold set8 at ho hZ hBk2 hBd2
  generalize World.setCell _ ⟨w.heap.size + 1, 7, none⟩ (.int .i64 l1) = Z at ho hZ hBk2 hBd2 ⊢
  clear ho hBk1 hBd1 hBd hBk hx1 hx3 hx4
  have sZ := s.ext hZ
  obtain ⟨g, d, D', ha, hds, hD', hcell, hblk, hrow, hro1, hro2, hglt, hdn, hok1, hok2⟩ := sZ.dict_at hrl
  rw [hHD.out] at hD'
  injection hD' with hD'
  subst hD'
  have hmain := sZ.main
  rw [ha] at hmain
  have hrn : r < h.dicts.n := by rw [s.ndicts]; exact hrl
  have hHn := Lib.hid hdn
  have hHs := Lib.hid hds
  clear hdn ha hds
  go_upto_region 6 with fail
  have y1 := fun (E : ExtOf Z) i => (E.cells hmain.lt i).trans (hmain.cell i)
  have y2 := fun (E : ExtOf Z) i => (E.cells hBd2.lt i).trans (hBd2.cell i)
  have y3 : ∀ (E : ExtOf Z), E.w.cell? ⟨g, r, none⟩ = some (.pointer (some ⟨d.1, 0, none⟩)) := fun E => (E.cells hglt r).trans hcell
  clear hcell
  refine wp_region_ext (by kernel_rfl) (by kernel_rfl) ?_
  repeat (go_big_quiet_step (fail))
  refine wpQuiet_nil fun E => ?_
  clear y1 y2 y3
  have hcK := (hBk2.ext E.h).cell
  go_upto_region 8 with (go_at_call 87; refine (dictAt_c (hblk.ext E.h) (hrow.ext E.h) hHn.out _ _ _ _ _ _ _ _).mono ?_; rintro e w4 ⟨rfl, hx4⟩)
  clear hcK
  have hY := (hZ.trans_ E.h).trans_ hx4
  have hEY := E.h.trans_ hx4
  have sY := s.ext hY
  have hBd3 := hBd2.ext hEY
  have hbY := hblk.ext hEY
  have hrY := hrow.ext hEY
  clear hBd2 hBk2 hblk hrow sZ hmain hx4
  rcases idxOf_cases (isKey ⟨k1, x1, a1, n1, m1, r1, f1, l1⟩) D.pairs with ⟨hi1, -⟩ | ⟨i, u, hi1, hi2, hi3⟩
  · rw [hi1]
    have hres := hHq.out
    unfold St.dropD at hres
    rw [hi1, if_neg (by omega)] at hres
    subst hres
    clear hi1
    go_wp2
    go_ret
    exact ⟨rfl, s.to_ext hY⟩
  · rw [hi1]
    have hil : i < D.pairs.length := getElem?_lt hi2
    have hres := hHq.out
    unfold St.dropD at hres
    have hget : D.pairs.getD i (Ob.null, Ob.null) = u := by simp [List.getD, hi2]
    rw [hi1, if_pos (by omega), Int.toNat_natCast, hget] at hres
    subst hres
    have hin : i < d.2.n := by rw [hHn.out]; exact hil
    obtain ⟨g2, hg2, hg2b⟩ := hrY.pos (show 0 < d.2.n by omega)
    have hcap := hrY.cap_le
    simp only [maxLen] at hcap
    obtain ⟨⟨kA, xA, aA, nA, mA, rA, fA, lA⟩, ⟨kB, xB, aB, nB, mB, rB, fB, lB⟩⟩ := u
    have hU := Lib.hid hi2
    have hbY' := hbY
    rw [hg2] at hbY'
    have hHl := Lib.hid hil
    have hi4 : i ≤ 4096 := by omega
    have hni : ¬ (i : Int) < 0 := by omega
    clear hi1 hi2 hi3 hget hil
    go_upto_region 10 with fail
    have y1 := fun (F : ExtOf w4) i => (F.cells hbY'.lt i).trans (hbY'.cell i)
    have y2 := fun (F : ExtOf w4) i => (F.cells hBd3.lt i).trans (hBd3.cell i)
    have hcells := fun (F : ExtOf w4) => cells_pair (hrY.ext F.h) hg2 hU.out
    refine wp_region_ext_tail 12 (by kernel_rfl) (by kernel_rfl) ?_
    simp only [List.take_succ_cons, List.take_zero, List.drop_succ_cons, List.drop_zero]
    repeat (go_big_quiet_step (fail))
    go_big_quiet_want
    refine quiet_load_at (cs := [.int .i64 kA, .bool xA, .int .i64 aA, .int .i64 nA, .string mA, .int .i64 rA, .int .i64 fA, .int .i64 lA, .int .i64 kB, .bool xB, .int .i64 aB, .int .i64 nB, .string mB, .int .i64 rB, .int .i64 fB, .int .i64 lB]) _ (by rfl) (by rfl) (fun w' hw' => by obtain ⟨F, rfl⟩ := hw'; exact hcells F) Try.underlying122 (by kernel_rfl) ?_
    simp only [Act.put, List.setIfInBounds_toArray, List.set_cons_zero, List.set_cons_succ]
    go_big_quiet_on
    repeat (go_big_quiet_step (fail))
    refine wpQuiet_nil fun F => ?_
    clear y1 y2 hcells
    go_upto_region 11 with (
      go_at_call 62
      refine (note_h (sY.ext F.h) ⟨3, r, i, (⟨kA, xA, aA, nA, mA, rA, fA, lA⟩, ⟨kB, xB, aB, nB, mB, rB, fB, lB⟩)⟩ hn).mono ?_
      rintro e w5 ⟨rfl, v5, ρ5, s5, hm5⟩)
    have hD5 : (σ.noted ⟨3, r, i, (⟨kA, xA, aA, nA, mA, rA, fA, lA⟩, ⟨kB, xB, aB, nB, mB, rB, fB, lB⟩)⟩).dicts[r]? = some D := by rw [noted_dicts]; exact hHD.out
    obtain ⟨hb5, hro5, hr5, hon5⟩ := s5.ds r d D hHs.out hD5
    have hne : d.2.blk ≠ some d.1 := fun e => by have := hon5 _ e; rw [hro5] at this; cases this
    have hcd := hb5.cell
    have hcg := hb5.frozen
    have hDel := Lib.hid (delete_c hr5 hHn.out (by omega) i hHl.out)
    clear hg2 hg2b hbY'
    go_wp2_with (
      go_at_call 90
      refine hDel.out.mono ?_
      rintro e w6 ⟨v6, rfl, hrow6, hvb6, hgrow⟩
      obtain ⟨hg1, hg2', hg3, hg4, hg5⟩ := fld_app (H := w5.heap.size) hb5 hne (Ext.rfl_ w5) hgrow (.inl hvb6) (Nat.le_refl _) hrow6 2 (.slice v6.a v6.n v6.c)
      have z0 := hg1.cell
      have z1 := hg1.frozen)
    go_ret
    refine ⟨rfl, ?_⟩
    obtain ⟨ρ6, s6, h6⟩ := s5.setDict (x' := { D with pairs := D.pairs.eraseIdx i }) hHs.out hD5 v6 hg2' hg3 (.inl hvb6) (fun b hb h1 h2 => hg5.block b hb (fun he => he.elim h1 h2)) hg5.size ⟨by have := hHl.out; dsimp only; rw [List.length_eraseIdx_of_lt this]; omega, hok2⟩
    rw [noted_dicts] at s6
    refine ⟨_, ρ6, s6, ?_⟩
    have hm6 : Moves w5 (w6.setCell ⟨d.1, 2, none⟩ (.slice v6.a v6.n v6.c)) ρ5.own ρ6.own := ⟨hg5.os, hg5.tape, hg5.output, hg5.size, fun b hb hn => hg5.block b hb (fun he => by
      rcases he with he | he
      · subst he; exact hn (by unfold Roles.own; rw [hro5]; simp)
      · exact hn (by unfold Roles.own; rw [hon5 b he]; simp)), h6⟩
    exact Moves.ext_left (hY.trans_ F.h) (hm5.trans_ hm6)
end
end Go.Proofs.Ythhckledkhcfeaa
namespace Go.Proofs.Ythhckledkhcfeaa
open Go.RowKit
section
variable {w : World} {p : Nat} {σ : St} {h : Hd} {ρ : Roles}
theorem splice_bytes (b bs : List UInt8) (k : Nat) : splice (byteCells b) k (byteCells bs) = byteCells (splice b k bs) := by
  simp [splice, byteCells, List.map_take, List.map_drop]
set_option maxHeartbeats 800000 in
theorem write_ok (s : Sto w p σ h ρ) (x : Bool) (ac n : Int) (nm : ByteArray) (r f m : Nat) (b : List UInt8) (hb : σ.texts[r]? = some b) (hfm : f + m ≤ b.length) (a : Nat) {A : Option Addr} {c : Nat} {bs : List UInt8}
    (hv : View w 1 A bs.length (byteCells bs)) (hfit : a + bs.length ≤ m) :
    Calls Try.prog 29 #[.pointer (some ⟨p, 0, none⟩), .agg #[.int .i64 6, .bool x, .int .i64 ac, .int .i64 n, .string nm, .int .i64 r, .int .i64 f, .int .i64 m], .int .i64 a, .slice A bs.length c] w fun e w' =>
      e = .returned (.int .i64 0) ∧ StoTo w w' p ρ { σ with texts := σ.texts.set r (splice b (f + a) bs) } := by
  obtain ⟨k, hk⟩ : ∃ k, k = bs.length := ⟨_, rfl⟩
  rw [← hk] at hv hfit ⊢
  have hKl := Lib.hid hk
  have hr := getElem?_lt hb
  obtain ⟨t, ht⟩ : ∃ t, h.ts[r]? = some t := ⟨_, List.getElem?_eq_getElem (by have := s.nts; omega)⟩
  have hlen : b.length ≤ 65535 := s.ok.text b (List.mem_of_getElem? hb)
  have htn : t.n = b.length := by have := (s.ts r t b ht hb).1.len; simp [byteCells] at this; omega
  have hrow := (s.ts r t b ht hb).1
  have hon := (s.ts r t b ht hb).2
  have hcap := hrow.cap_le
  simp only [maxLen] at hcap
  have hHb := Lib.hid hb
  have hHt := Lib.hid ht
  have hTn := Lib.hid htn
  have hmc : m ≤ t.c - f := by omega
  have hmb : m ≤ 65535 := by omega
  have hcs : (byteCells bs).length = Nat.min k (m - a) * 1 := by
    have h1 := hKl.out
    have h2 : Nat.min k (m - a) = k := Nat.min_eq_left (by omega)
    rw [h2]; simp [byteCells]; omega
  clear hk hb ht htn
  have fin : ∀ (W w2 : World), Ext w W → Row w2 5 1 t (splice (byteCells b) (f + a) (byteCells bs)) → W.grownBy w2 t.blk → w2.heap.size = W.heap.size → StoTo w w2 p ρ { σ with texts := σ.texts.set r (splice b (f + a) bs) } := by
    intro W w2 hW h1 h2 h3
    rw [splice_bytes] at h1
    have s3 := (s.ext hW).setText hHt.out hHb.out (b' := splice b (f + a) bs) (length_splice b (f + a) bs (by have := hKl.out; omega)) h1 (fun g hg hne => h2.block g hg (fun e => hne e.symm)) (Nat.le_of_eq h3.symm)
    refine ⟨h, ρ, s3, Moves.ext_left hW ⟨h2.os, h2.tape, h2.output, h2.size, fun b hb hn => h2.block b hb (fun e => hn (by unfold Roles.own; rw [hon b e.symm]; simp)), fun _ hb => .inl hb⟩⟩
  have hFin := Lib.hid fin
  clear fin
  by_cases hk0 : k = 0
  · have hbs : (byteCells bs).length = 0 := by have h1 := hKl.out; simp only [byteCells, List.length_map]; omega
    have hBs := Lib.hid hbs
    have hk1 : k ≤ 0 := by omega
    clear hk0 hbs
    go_enter Try.func29, Try.ntmps29
    go_upto_region 1 with fail
    generalize hX : World.alloc w _ = X
    obtain ⟨hx, hcX, hfX, hzX, hbX⟩ := boxed hX
    clear hX hfX
    go_upto_region 5 with (go_at_call 61; refine (is_b (b := true) (s.ext hx) _ _ _ _ _ _ _ _ _ (isA_str hHb.out hfm)).mono ?_; rintro e w1 ⟨rfl, hx1⟩; have hc1 := (hbX.ext hx1).cell)
    have hxx := hx.trans_ hx1
    clear hcX
    go_wp2_with (first
      | (go_at_call 74; refine (text_c (s.ext hxx) 6 x ac n nm r f m t b hHt.out hHb.out hfm).mono ?_; rintro e w2 ⟨rfl, hx2⟩)
      | (refine wpList_copy_row (by rfl) _ _ _ _ (by rfl) 5 1 Try.underlying45 (by kernel_rfl) _ _ _ _ _ _ (by rfl) (by rfl) (hrow.ext (hxx.trans_ hx2)) (f + a) (byteCells bs) hcs (fun h0 => by have := hBs.out; omega) (fun h0 => by have := hBs.out; omega) (by rw [hrow.len, hBs.out]; have := hTn.out; omega) (byteCells_one bs) ?_; intro w3 hrow3 hg3 hz3))
    all_goals
      go_ret
      exact ⟨rfl, hFin.out _ _ (hxx.trans_ hx2) hrow3 hg3 hz3⟩
  · obtain ⟨g, hg1, hg2, hg3, hg4⟩ := hrow.cutA_ (f := f) (by have := hTn.out; omega)
    have hl : ∀ (W : World) (_ : Ext w W), Calls Try.prog 74 #[.pointer (some ⟨p, 0, none⟩), .agg #[.int .i64 6, .bool x, .int .i64 ac, .int .i64 n, .string nm, .int .i64 r, .int .i64 f, .int .i64 m]] W fun e w' => e = .returned (.slice (some ⟨g, f * 1, none⟩) m (t.c - f)) ∧ Ext W w' := by
      intro W hW
      have := text_c (s.ext hW) 6 x ac n nm r f m t b hHt.out hHb.out hfm
      rw [hg3] at this
      exact this
    have hL := Lib.hid hl
    obtain ⟨gs, os, hA, hgs, hj⟩ := hv.2 (by simp [byteCells]; have := hKl.out; omega)
    have hJ := Lib.hid hj
    have hA' := Lib.hid hA
    have hpos : 0 < k := by omega
    have ham : a < m := by omega
    have hac : ¬ (t.c - f = a) := by omega
    clear hl hg3 hj hA hk0
    go_enter Try.func29, Try.ntmps29
    go_upto_region 1 with fail
    generalize hX : World.alloc w _ = X
    obtain ⟨hx, hcX, hfX, hzX, hbX⟩ := boxed hX
    clear hX hfX
    go_upto_region 5 with (go_at_call 61; refine (is_b (b := true) (s.ext hx) _ _ _ _ _ _ _ _ _ (isA_str hHb.out hfm)).mono ?_; rintro e w1 ⟨rfl, hx1⟩; have hc1 := (hbX.ext hx1).cell)
    have hxx := hx.trans_ hx1
    clear hcX
    go_wp2_with (first
      | (go_at_call 74; refine (hL.out _ hxx).mono ?_; rintro e w2 ⟨rfl, hx2⟩)
      | (refine wpList_copy_row (by rfl) _ _ _ _ (by rfl) 5 1 Try.underlying45 (by kernel_rfl) _ _ _ _ _ _ (by rfl) (by rfl) (hrow.ext (hxx.trans_ hx2)) (f + a) (byteCells bs) hcs ?_ ?_ (by rw [hrow.len]; have := hTn.out; have := hKl.out; simp [byteCells]; omega) (byteCells_one bs) ?_
         · intro _
           exact ⟨g, hg2, by simp⟩
         · intro _
           exact ⟨gs, os, hA'.out, fun j u hu => ((hxx.trans_ hx2).cells hgs _).trans (hJ.out j u hu)⟩
         intro w3 hrow3 hg3 hz3))
    all_goals
      go_ret
      exact ⟨rfl, hFin.out _ _ (hxx.trans_ hx2) hrow3 hg3 hz3⟩
end
end Go.Proofs.Ythhckledkhcfeaa
namespace Go.Proofs.Ythhckledkhcfeaa
open Go.RowKit
section
variable {w w' : World} {p : Nat} {σ : St} {h : Hd} {ρ : Roles}
theorem write_no (s : Sto w p σ h ρ) (k : Int) (x : Bool) (ac n : Int) (nm : ByteArray) (rf fr ln : Int) (hno : σ.isA ⟨k, x, ac, n, nm, rf, fr, ln⟩ 6 = false) (a : Int) (A : Option Addr) (m c : Nat) :
    Calls Try.prog 29 #[.pointer (some ⟨p, 0, none⟩), .agg #[.int .i64 k, .bool x, .int .i64 ac, .int .i64 n, .string nm, .int .i64 rf, .int .i64 fr, .int .i64 ln], .int .i64 a, .slice A m c] w fun e w' => e = .returned (.int .i64 21) ∧ Ext w w' := by
  go_enter Try.func29, Try.ntmps29
  go_upto_region 1 with fail
  generalize hX : World.alloc w _ = X
  obtain ⟨hx, hcX, hfX, hzX, hbX⟩ := boxed hX
  clear hX hfX
  go_wp2_with (go_at_call 61; refine (is_b (b := false) (s.ext hx) _ _ _ _ _ _ _ _ _ hno).mono ?_; rintro e w1 ⟨rfl, hx1⟩)
  go_ret
  exact ⟨rfl, hx.trans_ hx1⟩
set_option maxHeartbeats 1000000 in
theorem write_range (s : Sto w p σ h ρ) (x : Bool) (ac n : Int) (nm : ByteArray) (r f m : Nat) (b : List UInt8) (hb : σ.texts[r]? = some b) (hfm : f + m ≤ b.length) (a : Int) (A : Option Addr) (q c : Nat) (hr : a < 0 ∨ (m : Int) < a ∨ (m : Int) - a < q) (hq : q ≤ 9223372036854775807) :
    Calls Try.prog 29 #[.pointer (some ⟨p, 0, none⟩), .agg #[.int .i64 6, .bool x, .int .i64 ac, .int .i64 n, .string nm, .int .i64 r, .int .i64 f, .int .i64 m], .int .i64 a, .slice A q c] w fun e w' => e = .returned (.int .i64 11) ∧ Ext w w' := by
  have hlen : b.length ≤ 65535 := s.ok.text b (List.mem_of_getElem? hb)
  have hmb : m ≤ 65535 := by omega
  have hHb := Lib.hid hb
  have hHr := Lib.hid hr
  clear hb hr
  by_cases h1 : a < 0
  · clear hHr
    go_enter Try.func29, Try.ntmps29
    go_upto_region 1 with fail
    generalize hX : World.alloc w _ = X
    obtain ⟨hx, hcX, hfX, hzX, hbX⟩ := boxed hX
    clear hX hfX
    go_wp2_with (go_at_call 61; refine (is_b (b := true) (s.ext hx) _ _ _ _ _ _ _ _ _ (isA_str hHb.out hfm)).mono ?_; rintro e w1 ⟨rfl, hx1⟩; have hc1 := (hbX.ext hx1).cell)
    go_ret
    exact ⟨rfl, hx.trans_ hx1⟩
  · by_cases h2 : (m : Int) < a
    · clear hHr
      go_enter Try.func29, Try.ntmps29
      go_upto_region 1 with fail
      generalize hX : World.alloc w _ = X
      obtain ⟨hx, hcX, hfX, hzX, hbX⟩ := boxed hX
      clear hX hfX
      go_wp2_with (go_at_call 61; refine (is_b (b := true) (s.ext hx) _ _ _ _ _ _ _ _ _ (isA_str hHb.out hfm)).mono ?_; rintro e w1 ⟨rfl, hx1⟩; have hc1 := (hbX.ext hx1).cell)
      go_ret
      exact ⟨rfl, hx.trans_ hx1⟩
    · have h3 : (m : Int) - a < q := by have := hHr.out; omega
      clear hHr
      go_enter Try.func29, Try.ntmps29
      go_upto_region 1 with fail
      generalize hX : World.alloc w _ = X
      obtain ⟨hx, hcX, hfX, hzX, hbX⟩ := boxed hX
      clear hX hfX
      go_wp2_with (go_at_call 61; refine (is_b (b := true) (s.ext hx) _ _ _ _ _ _ _ _ _ (isA_str hHb.out hfm)).mono ?_; rintro e w1 ⟨rfl, hx1⟩; have hc1 := (hbX.ext hx1).cell)
      go_ret
      exact ⟨rfl, hx.trans_ hx1⟩
theorem lock_no (s : Sto w p σ h ρ) (k : Int) (x : Bool) (ac n : Int) (nm : ByteArray) (rf fr ln : Int) (q : Int) (hno : σ.isA ⟨k, x, ac, n, nm, rf, fr, ln⟩ 8 = false ∨ q < 0 ∨ 3 < q) :
    Calls Try.prog 41 #[.pointer (some ⟨p, 0, none⟩), .agg #[.int .i64 k, .bool x, .int .i64 ac, .int .i64 n, .string nm, .int .i64 rf, .int .i64 fr, .int .i64 ln], .int .i64 q] w fun e w' => e = .returned (.int .i64 21) ∧ Ext w w' := by
  cases hb : σ.isA ⟨k, x, ac, n, nm, rf, fr, ln⟩ 8 with
  | false =>
    clear hno
    go_enter Try.func41, Try.ntmps41
    go_upto_region 1 with fail
    generalize hX : World.alloc w _ = X
    obtain ⟨hx, hcX, hfX, hzX, hbX⟩ := boxed hX
    clear hX hfX
    go_wp2_with (go_at_call 61; refine (is_b (b := false) (s.ext hx) _ _ _ _ _ _ _ _ _ hb).mono ?_; rintro e w1 ⟨rfl, hx1⟩)
    go_ret
    exact ⟨rfl, hx.trans_ hx1⟩
  | true =>
    have hq : q < 0 ∨ 3 < q := by rcases hno with h | h; rw [h] at hb; cases hb; exact h
    clear hno
    by_cases h1 : q < 0
    · clear hq
      go_enter Try.func41, Try.ntmps41
      go_upto_region 1 with fail
      generalize hX : World.alloc w _ = X
      obtain ⟨hx, hcX, hfX, hzX, hbX⟩ := boxed hX
      clear hX hfX
      go_wp2_with (go_at_call 61; refine (is_b (b := true) (s.ext hx) _ _ _ _ _ _ _ _ _ hb).mono ?_; rintro e w1 ⟨rfl, hx1⟩)
      go_ret
      exact ⟨rfl, hx.trans_ hx1⟩
    · have h2 : 3 < q := by omega
      clear hq
      go_enter Try.func41, Try.ntmps41
      go_upto_region 1 with fail
      generalize hX : World.alloc w _ = X
      obtain ⟨hx, hcX, hfX, hzX, hbX⟩ := boxed hX
      clear hX hfX
      go_wp2_with (go_at_call 61; refine (is_b (b := true) (s.ext hx) _ _ _ _ _ _ _ _ _ hb).mono ?_; rintro e w1 ⟨rfl, hx1⟩)
      go_ret
      exact ⟨rfl, hx.trans_ hx1⟩
theorem set_no (s : Sto w p σ h ρ) (k : Int) (x : Bool) (ac n : Int) (nm : ByteArray) (rf fr ln : Int) (k' : Int) (x' : Bool) (ac' n' : Int) (nm' : ByteArray) (rf' fr' ln' : Int) (kv : Int) (xv : Bool) (av nv : Int) (mv : ByteArray) (rv fv lv : Int)
    (hno : σ.isA ⟨k, x, ac, n, nm, rf, fr, ln⟩ 8 = false ∨ σ.valid ⟨kv, xv, av, nv, mv, rv, fv, lv⟩ = false) :
    Calls Try.prog 36 #[.pointer (some ⟨p, 0, none⟩), .agg #[.int .i64 k, .bool x, .int .i64 ac, .int .i64 n, .string nm, .int .i64 rf, .int .i64 fr, .int .i64 ln],
        .agg #[.int .i64 k', .bool x', .int .i64 ac', .int .i64 n', .string nm', .int .i64 rf', .int .i64 fr', .int .i64 ln'], .agg #[.int .i64 kv, .bool xv, .int .i64 av, .int .i64 nv, .string mv, .int .i64 rv, .int .i64 fv, .int .i64 lv]] w fun e w' => e = .returned (.int .i64 21) ∧ Ext w w' := by
  cases hb : σ.isA ⟨k, x, ac, n, nm, rf, fr, ln⟩ 8 with
  | false =>
    clear hno
    go_enter Try.func36, Try.ntmps36
    go_upto_region 1 with fail
    generalize hX : World.alloc (World.alloc (World.alloc w _) _) _ = X
    obtain ⟨hx, hBd, hBk, hBv⟩ := boxed3 hX
    clear hX
    have hc := hBd.cell
    go_wp2_with (go_at_call 61; refine (is_b (b := false) (s.ext hx) _ _ _ _ _ _ _ _ _ hb).mono ?_; rintro e w1 ⟨rfl, hx1⟩)
    go_ret
    exact ⟨rfl, hx.trans_ hx1⟩
  | true =>
    have hv : σ.valid ⟨kv, xv, av, nv, mv, rv, fv, lv⟩ = false := by rcases hno with h | h; rw [h] at hb; cases hb; exact h
    clear hno
    go_enter Try.func36, Try.ntmps36
    go_upto_region 1 with fail
    generalize hX : World.alloc (World.alloc (World.alloc w _) _) _ = X
    obtain ⟨hx, hBd, hBk, hBv⟩ := boxed3 hX
    clear hX
    have hc := hBd.cell
    go_wp2_with (first
      | (go_at_call 61; refine (is_b (b := true) (s.ext hx) _ _ _ _ _ _ _ _ _ hb).mono ?_; rintro e w1 ⟨rfl, hx1⟩; have hcv := (hBv.ext hx1).cell)
      | (go_at_call 46; refine (valid_b (b := false) (s.ext (hx.trans_ hx1)) _ _ _ _ _ _ _ _ hv).mono ?_; rintro e w2 ⟨rfl, hx2⟩))
    go_ret
    exact ⟨rfl, (hx.trans_ hx1).trans_ hx2⟩
set_option maxRecDepth 100000 in
set_option maxHeartbeats 2000000 in
theorem set_nokey (s : Sto w p σ h ρ) (x : Bool) (ac n : Int) (nm : ByteArray) (r : Nat) (fr ln : Int) {D : Dc} (hD : σ.dicts[r]? = some D)
    (k' : Int) (x' : Bool) (ac' n' : Int) (nm' : ByteArray) (rf' fr' ln' : Int) (hn' : I64 n') {k1 : Int} {x1 : Bool} {a1 n1 : Int} {m1 : ByteArray} {r1 f1 l1 e1 : Int} (hk : σ.key ⟨k', x', ac', n', nm', rf', fr', ln'⟩ = (⟨k1, x1, a1, n1, m1, r1, f1, l1⟩, e1)) (he : ¬ e1 = 0)
    (kv : Int) (xv : Bool) (av nv : Int) (mv : ByteArray) (rv fv lv : Int) (hv : σ.valid ⟨kv, xv, av, nv, mv, rv, fv, lv⟩ = true) :
    Calls Try.prog 36 #[.pointer (some ⟨p, 0, none⟩), .agg #[.int .i64 8, .bool x, .int .i64 ac, .int .i64 n, .string nm, .int .i64 r, .int .i64 fr, .int .i64 ln],
        .agg #[.int .i64 k', .bool x', .int .i64 ac', .int .i64 n', .string nm', .int .i64 rf', .int .i64 fr', .int .i64 ln'], .agg #[.int .i64 kv, .bool xv, .int .i64 av, .int .i64 nv, .string mv, .int .i64 rv, .int .i64 fv, .int .i64 lv]] w fun e w' => e = .returned (.int .i64 e1) ∧ Ext w w' := by
  have hrl := getElem?_lt hD
  have hK := Lib.hid hk
  have hV := Lib.hid hv
  have he2 : (e1 == 0) = false := by simpa using he
  clear hk hv hD
  go_enter Try.func36, Try.ntmps36
  go_upto_region 1 with fail
  generalize hX : World.alloc (World.alloc (World.alloc w _) _) _ = X
  obtain ⟨hx, hBd, hBk, hBv⟩ := boxed3 hX
  clear hX
  have hc := hBd.cell
  go_upto_region 3 with (first
    | (go_at_call 61; refine (is_b (b := true) (s.ext hx) _ _ _ _ _ _ _ _ _ (isA_dict hrl)).mono ?_; rintro e w1 ⟨rfl, hx1⟩; have hcv := (hBv.ext hx1).cell)
    | (go_at_call 46; refine (valid_b (b := true) (s.ext (hx.trans_ hx1)) _ _ _ _ _ _ _ _ hV.out).mono ?_; rintro e w2 ⟨rfl, hx2⟩))
  clear hc hcv
  have hx3 := (hx.trans_ hx1).trans_ hx2
  have hBk1 := (hBk.ext hx1).ext hx2
  have hc := hBk1.cell
  go_upto_region 4 with (go_at_call 86; refine (key_e (s.ext hx3) _ _ _ _ _ _ _ _ hn' hK.out).mono ?_; rintro e w3 ⟨rfl, hx4⟩; have hc2 := (hBk1.ext hx4).cell; have hf2 := (hBk1.ext hx4).frozen)
  clear hc hc2 hf2
  have ho := set8_only w3 (w.heap.size + 1) (.int .i64 k1) (.bool x1) (.int .i64 a1) (.int .i64 n1) (.string m1) (.int .i64 r1) (.int .i64 f1) (.int .i64 l1)
  have hZ := (hx3.trans_ hx4).only ho (by omega)
  unfold set8 at ho hZ
  generalize World.setCell _ ⟨w.heap.size + 1, 7, none⟩ (.int .i64 l1) = Z at ho hZ ⊢
  go_wp2
  go_ret
  exact ⟨rfl, hZ⟩
end
end Go.Proofs.Ythhckledkhcfeaa
