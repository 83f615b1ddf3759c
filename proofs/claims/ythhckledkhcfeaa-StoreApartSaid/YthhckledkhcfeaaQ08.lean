/- The store, part L: how a dictionary turns in memory. The store's functions, part M: Find, Access. The store's functions, part N: note once more (the headers that it leaves); Access, Lock. The store's functions: now, Mark, marked. -/
import Derived.Test.YthhckledkhcfeaaQ07
namespace Go.Proofs.Ythhckledkhcfeaa
open Go.RowKit
section
variable {w w' : World} {p : Nat} {σ : St} {h : Hd} {ρ : Roles}
/-- What a dictionary is, turned; its pairs may lie in another row. -/
theorem Sto.setDict (s : Sto w p σ h ρ) {r : Nat} {d : Nat × Sl} {x x' : Dc} (hd : h.ds[r]? = some d) (hx : σ.dicts[r]? = some x) (v : Sl)
    (hblk : Blk w' d.1 144 [.int .i64 x'.most, .int .i64 x'.access, .slice v.a v.n v.c]) (hrow : Row w' 122 16 v (x'.pairs.flatMap pairCells))
    (hvb : v.blk = d.2.blk ∨ ∃ g, v.blk = some g ∧ w.heap.size ≤ g) (hk : ∀ b, b < w.heap.size → b ≠ d.1 → d.2.blk ≠ some b → w'.heap[b]? = w.heap[b]?) (hsz : w.heap.size ≤ w'.heap.size)
    (hok : (x'.pairs.length : Int) ≤ x'.most ∧ x'.most ≤ 4096) :
    ∃ ρ' : Roles, Sto w' p { σ with dicts := σ.dicts.set r x' } { h with ds := h.ds.set r (d.1, v) } ρ' ∧ (∀ b, ρ'.own b → ρ.own b ∨ w.heap.size ≤ b) := by
  obtain ⟨hb0, hr0, hrow0, hon0⟩ := s.ds r d x hd hx
  have hlt := getElem?_lt hx
  have hlt2 := getElem?_lt hd
  let ρ' : Roles := ρ.puts v.blk (.pairs r)
  have u : Upd w w' ρ ρ' (fun q => q = .dict r ∨ q = .pairs r) := by
    refine ⟨fun b q hb hq => ?_, fun b hb => ?_⟩
    · have hbl := s.bound b (by rw [hb]; simp)
      have h1 : d.2.blk ≠ some b := fun e => by rw [hon0 b e] at hb; injection hb with hb; exact hq (.inr hb.symm)
      refine ⟨hk b hbl (fun e => by subst e; rw [hr0] at hb; injection hb with hb; exact hq (.inl hb.symm)) h1, ?_⟩
      show ρ.puts v.blk (.pairs r) b = some q
      unfold Roles.puts
      rw [if_neg, hb]
      intro e
      rcases hvb with h2 | ⟨g, h2, h3⟩
      · rw [h2] at e; exact h1 e
      · rw [h2] at e; injection e with e; omega
    · rcases Roles.puts_own hb with hb | hb
      · exact Nat.lt_of_lt_of_le (s.bound b hb) hsz
      · exact hrow.blk_lt hb
  have hd1 : ρ' d.1 = some (.dict r) := by
    show ρ.puts v.blk (.pairs r) d.1 = _
    unfold Roles.puts
    rw [if_neg, hr0]
    intro e
    rcases hvb with h2 | ⟨g, h2, h3⟩
    · rw [h2] at e; rw [hon0 _ e] at hr0; cases hr0
    · rw [h2] at e; injection e with e; have := hb0.lt; omega
  refine ⟨ρ', ?_, fun b hb => ?_⟩
  · exact {
      ok := ⟨s.ok.free0, by simpa using s.ok.room, s.ok.text, s.ok.list, fun y hy => by
        rcases List.mem_or_eq_of_mem_set hy with hy | hy
        · exact s.ok.dict y hy
        · rw [hy]; exact hok, s.ok.nchg, s.ok.nmark⟩
      main := u.blk s.main s.rmain (by simp)
      rmain := u.at_ s.rmain (by simp)
      texts := u.row s.texts s.rtexts (by simp)
      rtexts := u.on s.rtexts (by simp)
      lists := u.row s.lists s.rlists (by simp)
      rlists := u.on s.rlists (by simp)
      dicts := by
        have e : ptrVals (h.ds.set r (d.1, v)) = ptrVals h.ds := by
          unfold ptrVals
          rw [List.map_set]
          apply List.ext_getElem?
          intro q
          by_cases hq : q = r
          · subst hq
            rw [List.getElem?_set_self (by simpa using hlt2), List.getElem?_map, hd]
            rfl
          · rw [List.getElem?_set_ne (Ne.symm hq)]
        show Row w' 141 1 h.dicts (ptrVals (h.ds.set r (d.1, v)))
        rw [e]
        exact u.row s.dicts s.rdicts (by simp)
      rdicts := u.on s.rdicts (by simp)
      changes := u.row s.changes s.rchanges (by simp)
      rchanges := u.on s.rchanges (by simp)
      marks := u.row s.marks s.rmarks (by simp)
      rmarks := u.on s.rmarks (by simp)
      nts := s.nts
      nls := s.nls
      nds := by simpa using s.nds
      ts := fun i v b h1 h2 => have ⟨a, c⟩ := s.ts i v b h1 h2; ⟨u.row a c (by simp), u.on c (by simp)⟩
      ls := fun i v b h1 h2 => have ⟨a, c⟩ := s.ls i v b h1 h2; ⟨u.row a c (by simp), u.on c (by simp)⟩
      ds := fun i y z h1 h2 => by
        by_cases hi : i = r
        · subst hi
          simp only [List.getElem?_set_self hlt, List.getElem?_set_self hlt2, Option.some.injEq] at h1 h2
          subst h1
          subst h2
          exact ⟨hblk, hd1, hrow, Sl.on_puts _ _ _⟩
        · simp only [List.getElem?_set_ne (Ne.symm hi)] at h1 h2
          have ⟨a, c, d, e⟩ := s.ds i y z h1 h2
          exact ⟨u.blk a c (by simpa using hi), u.at_ c (by simpa using hi), u.row d e (by simpa using hi), u.on e (by simpa using hi)⟩
      bound := u.bound }
  · rcases Roles.puts_own hb with hb | hb
    · exact .inl hb
    · rcases hvb with h1 | ⟨g, h1, h2⟩
      · rw [h1] at hb; exact .inl (by unfold Roles.own; rw [hon0 b hb]; simp)
      · rw [h1] at hb; injection hb with hb; subst hb; exact .inr h2
end
end Go.Proofs.Ythhckledkhcfeaa
namespace Go.Proofs.Ythhckledkhcfeaa
open Go.RowKit
theorem boxed2 {w X : World} {A B : List Value} {t t2 : TypeId} (h : (w.alloc (.cells A.toArray t)).alloc (.cells B.toArray t2) = X) :
    Ext w X ∧ Blk X w.heap.size t A ∧ Blk X (w.heap.size + 1) t2 B := by
  subst h
  exact ⟨((Ext.rfl_ w).alloc_ _).alloc_ _, (Blk.new w t A).alloc _, Blk.new1 w _ t2 B⟩
theorem boxed3 {w X : World} {A B C : List Value} {t t2 t3 : TypeId} (h : ((w.alloc (.cells A.toArray t)).alloc (.cells B.toArray t2)).alloc (.cells C.toArray t3) = X) :
    Ext w X ∧ Blk X w.heap.size t A ∧ Blk X (w.heap.size + 1) t2 B ∧ Blk X (w.heap.size + 2) t3 C := by
  subst h
  refine ⟨(((Ext.rfl_ w).alloc_ _).alloc_ _).alloc_ _, ((Blk.new w t A).alloc _).alloc _, (Blk.new1 w _ t2 B).alloc _, ?_⟩
  have := Blk.new ((w.alloc (.cells A.toArray t)).alloc (.cells B.toArray t2)) t3 C
  simp only [World.size_alloc] at this
  exact this
theorem idxOf_find {α : Type} {f : α → Bool} {l : List α} {i : Nat} {u : α} (h : idxOf f l = i) (hu : l[i]? = some u) : l.find? f = some u := by
  unfold idxOf at h
  cases hq : l.findIdx? f with
  | none => rw [hq] at h; dsimp only at h; omega
  | some j =>
    rw [hq] at h
    dsimp only at h
    obtain rfl : j = i := by omega
    obtain ⟨hlt, he, hno⟩ := List.findIdx?_eq_some_iff_getElem.1 hq
    rw [List.find?_eq_some_iff_getElem]
    rw [List.getElem?_eq_getElem hlt] at hu
    injection hu with hu
    subst hu
    exact ⟨he, j, hlt, rfl, fun k hk => by have := hno k hk; simpa using this⟩
/-- The pairs of a dictionary. -/
def St.pairsOf (σ : St) (d : Ob) : List (Ob × Ob) := (σ.dicts.getD d.rf.toNat ⟨0, 0, []⟩).pairs
def St.find (σ : St) (d k : Ob) : Ob × Bool :=
  if σ.isA d 8 = true ∧ (σ.key k).2 = 0 then
    match (σ.pairsOf d).find? (isKey (σ.key k).1) with
    | some q => (q.2, true)
    | none => (Ob.null, false)
  else (Ob.null, false)
section
variable {w : World} {p : Nat} {σ : St} {h : Hd} {ρ : Roles}
theorem key_e (s : Sto w p σ h ρ) (k : Int) (x : Bool) (ac n : Int) (nm : ByteArray) (rf fr ln : Int) (hn : I64 n) {k1 : Int} {x1 : Bool} {a1 n1 : Int} {m1 : ByteArray} {r1 f1 l1 e1 : Int} (hk : σ.key ⟨k, x, ac, n, nm, rf, fr, ln⟩ = (⟨k1, x1, a1, n1, m1, r1, f1, l1⟩, e1)) :
    Calls Try.prog 86 #[.pointer (some ⟨p, 0, none⟩), .agg #[.int .i64 k, .bool x, .int .i64 ac, .int .i64 n, .string nm, .int .i64 rf, .int .i64 fr, .int .i64 ln]] w fun e w' =>
      e = .returned (.tuple #[.agg #[.int .i64 k1, .bool x1, .int .i64 a1, .int .i64 n1, .string m1, .int .i64 r1, .int .i64 f1, .int .i64 l1], .int .i64 e1]) ∧ Ext w w' := by
  have := key_any s k x ac n nm rf fr ln hn
  rw [hk] at this
  exact this
theorem cells_val {w : World} {t : Sl} {l : List (Ob × Ob)} (hr : Row w 122 16 t (l.flatMap pairCells)) {g i : Nat} {u : Ob × Ob} (ha : t.a = some ⟨g, 0, none⟩) (hu : l[i]? = some u) :
    ∀ q v, u.2.cells[q]? = some v → w.cell? ⟨g, i * 16 + 8 + q, none⟩ = some v := fun q v hv => by
  have hq8 : q < 8 := by have := (List.getElem?_eq_some_iff.1 hv).1; rw [Ob.cells_len] at this; exact this
  rw [Nat.add_assoc]
  refine (hr.item length_pair ha hu (show 8 + q < 16 by omega)).trans ?_
  unfold pairCells
  rw [List.getElem?_append_right (by rw [Ob.cells_len]; omega), Ob.cells_len, Nat.add_sub_cancel_left]
  exact hv
set_option maxRecDepth 100000 in
set_option maxHeartbeats 1000000 in
/-- (*Store).Find. -/
theorem find_c (s : Sto w p σ h ρ) (k : Int) (x : Bool) (ac n : Int) (nm : ByteArray) (rf fr ln : Int) (k' : Int) (x' : Bool) (ac' n' : Int) (nm' : ByteArray) (rf' fr' ln' : Int) (hn : I64 n') {q : Ob × Bool}
    (hq : σ.find ⟨k, x, ac, n, nm, rf, fr, ln⟩ ⟨k', x', ac', n', nm', rf', fr', ln'⟩ = q) :
    Calls Try.prog 55 #[.pointer (some ⟨p, 0, none⟩), .agg #[.int .i64 k, .bool x, .int .i64 ac, .int .i64 n, .string nm, .int .i64 rf, .int .i64 fr, .int .i64 ln],
        .agg #[.int .i64 k', .bool x', .int .i64 ac', .int .i64 n', .string nm', .int .i64 rf', .int .i64 fr', .int .i64 ln']] w fun e w' =>
      e = .returned (.tuple #[.agg q.1.cells.toArray, .bool q.2]) ∧ Ext w w' := by
  cases hd : σ.isA ⟨k, x, ac, n, nm, rf, fr, ln⟩ 8 with
  | false =>
    have e : q = (Ob.null, false) := by rw [← hq]; unfold St.find; rw [if_neg (by rw [hd]; simp)]
    subst e
    have hD := Lib.hid hd
    clear hd hq
    go_enter Try.func55, Try.ntmps55
    go_upto_region 1 with fail
    generalize hX : World.alloc (World.alloc (World.alloc w _) _) _ = X
    obtain ⟨hx, hBd, hBk, hBr⟩ := boxed3 hX
    clear hX
    have hc := hBd.cell
    go_upto_region 2 with (go_at_call 61; refine (is_b (b := false) (s.ext hx) _ _ _ _ _ _ _ _ _ hD.out).mono ?_; rintro e w1 ⟨rfl, hx1⟩)
    have hBr' := hBr.ext hx1
    have hc4 := hBr'.cell
    have hf4 := hBr'.frozen
    clear hc
    go_wp2
    refine bodyPost_ret (res_ct rfl rfl (set8_blk hBr' _ _ _ _ _ _ _ _) Try.underlying27 (by kernel_rfl)) rfl ⟨rfl, ?_⟩
    exact (hx.trans_ hx1).only (set8_only _ _ _ _ _ _ _ _ _ _) (by omega)
  | true =>
    obtain ⟨⟨⟨k1, x1, a1, n1, m1, r1, f1, l1⟩, e1⟩, hk⟩ : ∃ kp, σ.key ⟨k', x', ac', n', nm', rf', fr', ln'⟩ = kp := ⟨_, rfl⟩
    obtain ⟨r, D, rfl, hr, hD⟩ := isA_dict_inv hd
    dsimp only at hr
    subst hr
    have hrl := getElem?_lt hD
    have hDd := Lib.hid hd
    have hK := Lib.hid hk
    have hHq := Lib.hid hq
    have hrl2 : r < 1048576 := by have := s.ok.room; have := s.ok.free0; omega
    clear hd hk hq
    go_enter Try.func55, Try.ntmps55
    go_upto_region 1 with fail
    generalize hX : World.alloc (World.alloc (World.alloc w _) _) _ = X
    obtain ⟨hx, hBd, hBk, hBr⟩ := boxed3 hX
    clear hX
    have hc := hBd.cell
    go_upto_region 3 with (go_at_call 61; refine (is_b (b := true) (s.ext hx) _ _ _ _ _ _ _ _ _ hDd.out).mono ?_; rintro e w1 ⟨rfl, hx1⟩)
    clear hc
    have hBd1 := hBd.ext hx1
    have hBk1 := hBk.ext hx1
    have hBr1 := hBr.ext hx1
    have hc := hBk1.cell
    go_upto_region 4 with (go_at_call 86; refine (key_e (s.ext (hx.trans_ hx1)) _ _ _ _ _ _ _ _ hn hK.out).mono ?_; rintro e w2 ⟨rfl, hx2⟩; have hc2 := (hBk1.ext hx2).cell; have hf2 := (hBk1.ext hx2).frozen)
    clear hc hc2 hf2
    have ho := set8_only w2 (w.heap.size + 1) (.int .i64 k1) (.bool x1) (.int .i64 a1) (.int .i64 n1) (.string m1) (.int .i64 r1) (.int .i64 f1) (.int .i64 l1)
    have hZ := ((hx.trans_ hx1).trans_ hx2).only ho (by omega)
    have hBk2 := set8_blk (hBk1.ext hx2) (.int .i64 k1) (.bool x1) (.int .i64 a1) (.int .i64 n1) (.string m1) (.int .i64 r1) (.int .i64 f1) (.int .i64 l1)
    have hBd2 := (hBd1.ext hx2).keep (ho.block w.heap.size (by omega))
    have hBr2 := (hBr1.ext hx2).keep (ho.block (w.heap.size + 2) (by omega))
    unfold set8 at ho hZ hBk2 hBd2 hBr2
    generalize World.setCell _ ⟨w.heap.size + 1, 7, none⟩ (.int .i64 l1) = Z at ho hZ hBk2 hBd2 hBr2 ⊢
    clear ho hBk1 hBd1 hBr1 hBd hBk hBr hx1 hx2
    by_cases he : e1 = 0
    · subst he
      obtain ⟨g, d, D', ha, hds, hD', hcell, hblk, hrow, hro1, hro2, hglt, hdn, hok1, hok2⟩ := (s.ext hZ).dict_at hrl
      rw [hD] at hD'
      injection hD' with hD'
      subst hD'
      have hmain := (s.ext hZ).main
      rw [ha] at hmain
      have hrn : r < h.dicts.n := by rw [s.ndicts]; exact hrl
      have hHD := Lib.hid hD
      have hHn := Lib.hid hdn
      have hHs := Lib.hid hds
      clear hD hdn ha hds hok1 hok2
      go_upto_region 6 with fail
      have y1 := fun (E : ExtOf Z) i => (E.cells hmain.lt i).trans (hmain.cell i)
      have y2 := fun (E : ExtOf Z) i => (E.cells hBd2.lt i).trans (hBd2.cell i)
      have y3 : ∀ (E : ExtOf Z), E.w.cell? ⟨g, r, none⟩ = some (.pointer (some ⟨d.1, 0, none⟩)) := fun E => (E.cells hglt r).trans hcell
      clear hcell
      refine wp_region_ext (by kernel_rfl) (by kernel_rfl) ?_
      repeat (go_big_quiet_step (fail))
      refine wpQuiet_nil fun E => ?_
      clear y1 y2 y3
      have hcK := (hBk2.ext E.h).cell
      have hpairs : σ.pairsOf ⟨8, x, ac, n, nm, r, fr, ln⟩ = D.pairs := by unfold St.pairsOf; simp [List.getD, hHD.out]
      rcases idxOf_cases (isKey ⟨k1, x1, a1, n1, m1, r1, f1, l1⟩) D.pairs with ⟨hi1, hi2⟩ | ⟨i, u, hi1, hi2, hi3⟩
      · have e : q = (Ob.null, false) := by
          rw [← hHq.out]
          unfold St.find
          rw [if_pos ⟨hDd.out, by rw [hK.out]⟩, hK.out, hpairs, List.find?_eq_none.2 (fun u hu => by rw [hi2 u hu]; simp)]
        subst e
        have hI := Lib.hid hi1
        clear hi1 hi2 hpairs
        go_wp2_with (go_at_call 87; refine (dictAt_c (hblk.ext E.h) (hrow.ext E.h) hHn.out _ _ _ _ _ _ _ _).mono ?_; rintro e w3 ⟨rfl, hx3⟩; rw [hI.out]; have hc4 := ((hBr2.ext E.h).ext hx3).cell; have hf4 := ((hBr2.ext E.h).ext hx3).frozen)
        refine bodyPost_ret (res_ct rfl rfl (set8_blk ((hBr2.ext E.h).ext hx3) _ _ _ _ _ _ _ _) Try.underlying27 (by kernel_rfl)) rfl ⟨rfl, ?_⟩
        exact ((hZ.trans_ E.h).trans_ hx3).only (set8_only _ _ _ _ _ _ _ _ _ _) (by omega)
      · have e : q = (u.2, true) := by
          rw [← hHq.out]
          unfold St.find
          rw [if_pos ⟨hDd.out, by rw [hK.out]⟩, hK.out, hpairs, idxOf_find hi1 hi2]
        subst e
        have hI := Lib.hid hi1
        have hU := Lib.hid hi2
        have hil : i < D.pairs.length := getElem?_lt hi2
        have hin : i < d.2.n := by rw [hHn.out]; exact hil
        obtain ⟨g2, hg2, hg2b⟩ := hrow.pos (show 0 < d.2.n by omega)
        have hcap := hrow.cap_le
        simp only [maxLen] at hcap
        obtain ⟨u1, ⟨kv, xv, av, nv, mv, rv, fv, lv⟩⟩ := u
        obtain ⟨d1, ⟨da, dn, dc⟩⟩ := d
        dsimp only at hg2 hin hcap hblk hrow hHn hI hHs
        subst hg2
        clear hi1 hi2 hi3 hpairs hil
        go_wp2_with (first
          | (go_at_call 87; refine (dictAt_c (hblk.ext E.h) (hrow.ext E.h) hHn.out _ _ _ _ _ _ _ _).mono ?_; rintro e w3 ⟨rfl, hx3⟩; rw [hI.out]; have hc4 := ((hBr2.ext E.h).ext hx3).cell; have hf4 := ((hBr2.ext E.h).ext hx3).frozen; have hc5 := ((hblk.ext E.h).ext hx3).cell; have hcells := cells_val ((hrow.ext E.h).ext hx3) rfl hU.out)
          | (refine wpList_load_at (ty := 27) (cs := [.int .i64 kv, .bool xv, .int .i64 av, .int .i64 nv, .string mv, .int .i64 rv, .int .i64 fv, .int .i64 lv]) (by rfl) _ (by rfl) (by rfl) hcells Try.underlying27 (by kernel_rfl) ?_))
        refine bodyPost_ret (res_ct rfl rfl (set8_blk ((hBr2.ext E.h).ext hx3) _ _ _ _ _ _ _ _) Try.underlying27 (by kernel_rfl)) rfl ⟨rfl, ?_⟩
        exact ((hZ.trans_ E.h).trans_ hx3).only (set8_only _ _ _ _ _ _ _ _ _ _) (by omega)
    · have e : q = (Ob.null, false) := by rw [← hHq.out]; unfold St.find; rw [if_neg (by rw [hK.out]; simp [he])]
      subst e
      have he2 : (e1 != 0) = true := by simpa using he
      have hc4 := hBr2.cell
      have hf4 := hBr2.frozen
      clear he
      go_wp2
      refine bodyPost_ret (res_ct rfl rfl (set8_blk hBr2 _ _ _ _ _ _ _ _) Try.underlying27 (by kernel_rfl)) rfl ⟨rfl, ?_⟩
      exact hZ.only (set8_only _ _ _ _ _ _ _ _ _ _) (by omega)
end
end Go.Proofs.Ythhckledkhcfeaa
namespace Go.Proofs.Ythhckledkhcfeaa
open Go.RowKit
/-- Only the list of changes has another header. -/
def StoChg (w w' : World) (p : Nat) (ρ : Roles) (σ' : St) (h : Hd) : Prop := ∃ v ρ', Sto w' p σ' { h with changes := v } ρ' ∧ Moves w w' ρ.own ρ'.own
section
variable {w : World} {p : Nat} {σ : St} {h : Hd} {ρ : Roles}
theorem noted_dicts (σ : St) (c : Chg) : (σ.noted c).dicts = σ.dicts := by unfold St.noted; split <;> rfl
theorem noted_texts (σ : St) (c : Chg) : (σ.noted c).texts = σ.texts := by unfold St.noted; split <;> rfl
theorem noted_marks (σ : St) (c : Chg) : (σ.noted c).marks = σ.marks := by unfold St.noted; split <;> rfl
theorem noted_free (σ : St) (c : Chg) : (σ.noted c).free = σ.free := by unfold St.noted; split <;> rfl
set_option maxHeartbeats 800000 in
theorem note_some_h (s : Sto w p σ h ρ) (c : Chg) (hm : 0 < σ.marks.length) (hn : σ.changes.length + 1 ≤ 4294967296) :
    Calls Try.prog 62 #[.pointer (some ⟨p, 0, none⟩), .agg c.cells.toArray] w fun e w' => e = .returned (.tuple #[]) ∧ StoChg w w' p ρ { σ with changes := σ.changes ++ [c] } h := by
  obtain ⟨iL, hiL, hzL, hsL, hbL⟩ := info_parts info_chg
  have hmn : 0 < h.marks.n := by rw [s.nmarks]; exact hm
  have hmb : h.marks.n ≤ 4294967296 := by rw [s.nmarks]; exact s.ok.nmark
  have hcn : h.changes.n + 1 ≤ 4294967296 := by rw [s.nchanges]; exact hn
  have hps := s.lt
  have hc0 := s.main.cell
  obtain ⟨cs, hcs⟩ : ∃ cs, cs = c.cells := ⟨_, rfl⟩
  have hcl : c.cells.length = 19 := rfl
  obtain ⟨kind, ref, at_, ⟨kA, xA, aA, nA, mA, rA, fA, lA⟩, ⟨kB, xB, aB, nB, mB, rB, fB, lB⟩⟩ := c
  simp only [Chg.cells, pairCells, Ob.cells, List.cons_append, List.nil_append]
  go_enter Try.func62, Try.ntmps62
  go_wp2
  generalize hX : World.alloc w _ = X
  obtain ⟨hx, hcX, hfX, hzX, hbX⟩ := boxed hX
  clear hX
  have s1 := s.ext hx
  have hc := s1.main.cell
  have hpf := s1.main.frozen
  have hps1 := s1.lt
  clear hc0
  have f2 := fun (E : But X (fun b => h.changes.blk = some b)) i => (E.cells hps1 (fun hb => by have := s.rchanges _ hb; rw [s.rmain] at this; cases this) i).trans (hc i)
  clear hcX hfX hc
  refine wp_region_plan (C := fun w' => ∃ E : But X (fun b => h.changes.blk = some b), w' = E.w) [true, true, true, true, true, true, false, false, false, false, false] 7 1 (by kernel_rfl) (by kernel_rfl) (fun c a d v w h => by cases d <;> exact h) (InBut.of (Nat.le_refl _) fun _ _ _ => rfl) ?_
  simp only [pickQ, pickT]
  repeat (go_big_quiet_step (fail))
  go_big_quiet_want
  refine quiet_load_at _ (by rfl) (by rfl) (fun w' hw' => by obtain ⟨E, rfl⟩ := hw'; exact (E.blk hbX (fun hb => by have := s.changes.blk_lt hb; omega)).cells) Try.underlying124 (by kernel_rfl) ?_
  simp only [Act.put, List.setIfInBounds_toArray, List.set_cons_zero, List.set_cons_succ]
  go_big_quiet_on
  refine wpQuiet_nil ?_
  refine wpTail_cons (fun K hK => ?_)
  go_simp
  refine hK _ _ (InBut.of (by simp) fun b hb _ => Below.heap_alloc _ _ _ hb) ?_
  clear hK K
  refine wpTail_zero ?_
  go_wp2_with (
    at_builtin
    refine wpList_app (by rfl) _ _ _ (by rfl) 124 iL _ 19 168 Try.underlying113 hiL hzL hsL hbL rfl (by omega) h.changes (by rfl) (s1.changes.alloc _).drew (by rfl) (View.of_blk (n := 1) (Blk.new X _ _).drew rfl) ?_ ?_ ?_ ?_
    · intro u hu
      simp only [List.mem_cons, List.mem_nil_iff, or_false] at hu
      rcases hu with rfl | rfl | rfl | rfl | rfl | rfl | rfl | rfl | rfl | rfl | rfl | rfl | rfl | rfl | rfl | rfl | rfl | rfl | rfl <;> rfl
    · simp only [maxLen]; omega
    · omega
    intro v' w1 hrow hlen hgrow hat
    obtain ⟨hg1, hg2, hg3, hg4, hg5, hg6, hg7⟩ := s1.hdr_app (H := X.heap.size + 1) s1.rchanges (by simp) (((Ext.rfl_ X).alloc_ _).drew_) hgrow (by rcases hat with hat | hat; exact .inl hat; exact .inr (by rw [hat]; simp)) (by omega) hrow 4 (.slice v'.a v'.n v'.c) s1.main
    have k0 := hg1.cell
    have k1 := hg1.frozen)
  go_end0
  obtain ⟨ρ', hs', hr'⟩ := s1.addChange (c := ⟨kind, ref, at_, ⟨⟨kA, xA, aA, nA, mA, rA, fA, lA⟩, ⟨kB, xB, aB, nB, mB, rB, fB, lB⟩⟩⟩) hg6 hg4 hg5 hg2 (by rw [List.flatMap_append]; exact hg3) hn
  exact ⟨rfl, _, ρ', hs', Moves.ext_left hx (hg7 _ hr')⟩
theorem note_h (s : Sto w p σ h ρ) (c : Chg) (hn : σ.changes.length + 1 ≤ 4294967296) :
    Calls Try.prog 62 #[.pointer (some ⟨p, 0, none⟩), .agg c.cells.toArray] w fun e w' => e = .returned (.tuple #[]) ∧ StoChg w w' p ρ (σ.noted c) h := by
  unfold St.noted
  by_cases h0 : σ.marks.length = 0
  · rw [if_pos h0]
    exact (note_none s c (List.eq_nil_of_length_eq_zero h0)).mono fun e w' ⟨he, hx⟩ => ⟨he, h.changes, ρ, s.ext hx, Moves.of_ext hx _⟩
  · rw [if_neg h0]
    exact note_some_h s c (by omega) hn
theorem access_ok (s : Sto w p σ h ρ) (x : Bool) (ac n : Int) (nm : ByteArray) (r : Nat) (fr ln : Int) {D : Dc} (hD : σ.dicts[r]? = some D) :
    Calls Try.prog 56 #[.pointer (some ⟨p, 0, none⟩), .agg #[.int .i64 8, .bool x, .int .i64 ac, .int .i64 n, .string nm, .int .i64 r, .int .i64 fr, .int .i64 ln]] w fun e w' => e = .returned (.int .i64 D.access) ∧ Ext w w' := by
  have hrl := getElem?_lt hD
  have hrl2 : r < 1048576 := by have := s.ok.room; have := s.ok.free0; omega
  obtain ⟨g, d, D', ha, hds, hD', hcell, hblk, hrow, hro1, hro2, hglt, hdn, hok1, hok2⟩ := s.dict_at hrl
  rw [hD] at hD'
  injection hD' with hD'
  subst hD'
  have hmain := s.main
  rw [ha] at hmain
  have hrn : r < h.dicts.n := by rw [s.ndicts]; exact hrl
  have hHD := Lib.hid hD
  clear hD hds ha hdn hok1 hok2
  go_enter Try.func56, Try.ntmps56
  go_upto_region 1 with fail
  generalize hX : World.alloc w _ = X
  obtain ⟨hx, hcX, hfX, hzX, hbX⟩ := boxed hX
  clear hX hfX
  go_upto_region 3 with (go_at_call 61; refine (is_b (b := true) (s.ext hx) _ _ _ _ _ _ _ _ _ (isA_dict hrl)).mono ?_; rintro e w1 ⟨rfl, hx1⟩)
  clear hcX
  have hxx := hx.trans_ hx1
  have y1 := fun (E : ExtOf w1) i => (E.cells (hmain.ext hxx).lt i).trans ((hmain.ext hxx).cell i)
  have y2 := fun (E : ExtOf w1) i => (E.cells (hbX.ext hx1).lt i).trans ((hbX.ext hx1).cell i)
  have y3 : ∀ (E : ExtOf w1), E.w.cell? ⟨g, r, none⟩ = some (.pointer (some ⟨d.1, 0, none⟩)) := fun E => ((hxx.trans_ E.h).cells hglt r).trans hcell
  have y4 := fun (E : ExtOf w1) i => (E.cells (hblk.ext hxx).lt i).trans ((hblk.ext hxx).cell i)
  clear hcell
  refine wp_region_ext (by kernel_rfl) (by kernel_rfl) ?_
  repeat (go_big_quiet_step (fail))
  refine wpQuiet_nil fun E => ?_
  go_wp2
  go_ret
  exact ⟨rfl, hxx.trans_ E.h⟩
set_option maxHeartbeats 800000 in
/-- (*Store).Lock. -/
theorem lock_ok (s : Sto w p σ h ρ) (x : Bool) (ac n : Int) (nm : ByteArray) (r : Nat) (fr ln : Int) {D : Dc} (hD : σ.dicts[r]? = some D) (q : Int) (hq0 : 0 ≤ q) (hq3 : q ≤ 3) (hn : σ.changes.length + 1 ≤ 4294967296) :
    Calls Try.prog 41 #[.pointer (some ⟨p, 0, none⟩), .agg #[.int .i64 8, .bool x, .int .i64 ac, .int .i64 n, .string nm, .int .i64 r, .int .i64 fr, .int .i64 ln], .int .i64 q] w fun e w' => e = .returned (.int .i64 0) ∧
      StoTo w w' p ρ { σ.noted ⟨4, r, D.access, (Ob.null, Ob.null)⟩ with dicts := σ.dicts.set r { D with access := q } } := by
  have hrl := getElem?_lt hD
  have hrl2 : r < 1048576 := by have := s.ok.room; have := s.ok.free0; omega
  obtain ⟨g, d, D', ha, hds, hD', hcell, hblk, hrow, hro1, hro2, hglt, hdn, hok1, hok2⟩ := s.dict_at hrl
  rw [hD] at hD'
  injection hD' with hD'
  subst hD'
  have hmain := s.main
  rw [ha] at hmain
  have hrn : r < h.dicts.n := by rw [s.ndicts]; exact hrl
  have hHD := Lib.hid hD
  have hHs := Lib.hid hds
  clear hD hds ha hdn
  go_enter Try.func41, Try.ntmps41
  go_upto_region 1 with fail
  generalize hX : World.alloc w _ = X
  obtain ⟨hx, hcX, hfX, hzX, hbX⟩ := boxed hX
  clear hX hfX
  go_upto_region 3 with (go_at_call 61; refine (is_b (b := true) (s.ext hx) _ _ _ _ _ _ _ _ _ (isA_dict hrl)).mono ?_; rintro e w1 ⟨rfl, hx1⟩)
  clear hcX
  have hxx := hx.trans_ hx1
  have y1 := fun (E : ExtOf w1) i => (E.cells (hmain.ext hxx).lt i).trans ((hmain.ext hxx).cell i)
  have y2 := fun (E : ExtOf w1) i => (E.cells (hbX.ext hx1).lt i).trans ((hbX.ext hx1).cell i)
  have y3 : ∀ (E : ExtOf w1), E.w.cell? ⟨g, r, none⟩ = some (.pointer (some ⟨d.1, 0, none⟩)) := fun E => ((hxx.trans_ E.h).cells hglt r).trans hcell
  clear hcell
  refine wp_region_ext (by kernel_rfl) (by kernel_rfl) ?_
  repeat (go_big_quiet_step (fail))
  refine wpQuiet_nil fun E => ?_
  clear y1 y2 y3
  have hx2 := hxx.trans_ E.h
  have y2 := fun (F : ExtOf E.w) i => (F.cells ((hbX.ext hx1).ext E.h).lt i).trans (((hbX.ext hx1).ext E.h).cell i)
  have y4 := fun (F : ExtOf E.w) i => (F.cells (hblk.ext hx2).lt i).trans ((hblk.ext hx2).cell i)
  go_upto_region 4 with fail
  refine wp_region_ext_tail 8 (by kernel_rfl) (by kernel_rfl) ?_
  simp only [List.take_succ_cons, List.take_zero, List.drop_succ_cons, List.drop_zero]
  repeat (go_big_quiet_step (fail))
  refine wpQuiet_nil fun F => ?_
  clear y2 y4
  go_upto_region 5 with (
    go_at_call 62
    refine (note_h (s.ext (hx2.trans_ F.h)) ⟨4, r, D.access, (Ob.null, Ob.null)⟩ hn).mono ?_
    rintro e w3 ⟨rfl, v3, ρ3, s3, hm3⟩)
  have hD3 : (σ.noted ⟨4, r, D.access, (Ob.null, Ob.null)⟩).dicts[r]? = some D := by rw [noted_dicts]; exact hHD.out
  obtain ⟨hblk3, hro3, hrow3, hon3⟩ := s3.ds r d D hHs.out hD3
  have hc3 := hblk3.cell
  have hf3 := hblk3.frozen
  go_wp2
  go_ret
  refine ⟨rfl, ?_⟩
  have hne : d.2.blk ≠ some d.1 := fun e => by have := hon3 _ e; rw [hro3] at this; cases this
  obtain ⟨ρ4, s4, h4⟩ := s3.setDict (w' := w3.setCell ⟨d.1, 1, none⟩ (.int .i64 q)) (x' := { D with access := q }) hHs.out hD3 d.2 (hblk3.set_ 1 _) (hrow3.far hne _) (.inl rfl) (fun b _ hb _ => Below.heap_setCell _ _ _ _ hb) (by simp) ⟨hok1, hok2⟩
  rw [noted_dicts] at s4
  refine ⟨_, ρ4, s4, ?_⟩
  have hm4 : Moves w3 (w3.setCell ⟨d.1, 1, none⟩ (.int .i64 q)) ρ3.own ρ4.own := ⟨rfl, rfl, rfl, by simp, fun b _ hn => Below.heap_setCell _ _ _ _ (by rintro rfl; exact hn (by unfold Roles.own; rw [hro3]; simp)), h4⟩
  exact Moves.ext_left (hx2.trans_ F.h) (hm3.trans_ hm4)
end
end Go.Proofs.Ythhckledkhcfeaa
namespace Go.Proofs.Ythhckledkhcfeaa
open Go.RowKit
def St.sizes (σ : St) : Szs := ⟨σ.texts.length, σ.lists.length, σ.dicts.length, σ.free, σ.changes.length⟩
section
variable {w w' : World} {p : Nat} {σ : St} {h : Hd} {ρ : Roles}
theorem Sto.addMark (s : Sto w p σ h ρ) {v : Sl} {c : Szs} (hsz : w.heap.size ≤ w'.heap.size) (hvb : v.blk = h.marks.blk ∨ ∃ g, v.blk = some g ∧ w.heap.size ≤ g)
    (hrest : ∀ b r, ρ b = some r → r ≠ .main → r ≠ .marks → w'.heap[b]? = w.heap[b]?)
    (hm : Blk w' p 116 [.int .i64 σ.free, .slice h.texts.a h.texts.n h.texts.c, .slice h.lists.a h.lists.n h.lists.c, .slice h.dicts.a h.dicts.n h.dicts.c, .slice h.changes.a h.changes.n h.changes.c, .slice v.a v.n v.c])
    (hv : Row w' 140 5 v ((σ.marks ++ [c]).flatMap Szs.cells)) (hn : σ.marks.length + 1 ≤ 4294967296) :
    ∃ ρ' : Roles, Sto w' p { σ with marks := σ.marks ++ [c] } { h with marks := v } ρ' ∧ (∀ b, ρ'.own b → ρ.own b ∨ w.heap.size ≤ b) := by
  have g : Grew w w' ρ .marks h.marks v .nil p := ⟨hsz, hvb, fun g hg => by simp [Sl.blk] at hg, fun g hg => by simp [Sl.blk] at hg, hrest⟩
  obtain ⟨u, u1, u2, u3, u4⟩ := g.upd s (nrole := .marks) s.rmarks (fun b hb => hv.blk_lt hb) (fun b hb => by simp [Sl.blk] at hb)
  rw [if_neg (g.not_main s s.rmarks (by simp))] at u3
  refine ⟨_, ?_, u4⟩
  exact {
      ok := ⟨s.ok.free0, s.ok.room, s.ok.text, s.ok.list, s.ok.dict, s.ok.nchg, by simpa using hn⟩
      main := hm
      rmain := u3
      texts := u.row s.texts s.rtexts (by simp)
      rtexts := u.on s.rtexts (by simp)
      lists := u.row s.lists s.rlists (by simp)
      rlists := u.on s.rlists (by simp)
      dicts := u.row s.dicts s.rdicts (by simp)
      rdicts := u.on s.rdicts (by simp)
      changes := u.row s.changes s.rchanges (by simp)
      rchanges := u.on s.rchanges (by simp)
      marks := hv
      rmarks := u1
      nts := s.nts
      nls := s.nls
      nds := s.nds
      ts := fun i v b h1 h2 => have ⟨a, c⟩ := s.ts i v b h1 h2; ⟨u.row a c (by simp), u.on c (by simp)⟩
      ls := fun i v b h1 h2 => have ⟨a, c⟩ := s.ls i v b h1 h2; ⟨u.row a c (by simp), u.on c (by simp)⟩
      ds := fun i v b h1 h2 => have ⟨a, c, d, e⟩ := s.ds i v b h1 h2; ⟨u.blk a c (by simp), u.at_ c (by simp), u.row d e (by simp), u.on e (by simp)⟩
      bound := u.bound }
/-- (*Store).now. -/
theorem now_c (s : Sto w p σ h ρ) : Calls Try.prog 100 #[.pointer (some ⟨p, 0, none⟩)] w fun e w' => e = .returned (.agg σ.sizes.cells.toArray) ∧ Ext w w' := by
  have e1 : h.texts.n = σ.texts.length := s.ntexts
  have e2 : h.lists.n = σ.lists.length := s.nlists
  have e3 : h.dicts.n = σ.dicts.length := s.ndicts
  have e4 : h.changes.n = σ.changes.length := s.nchanges
  unfold St.sizes
  rw [← e1, ← e2, ← e3, ← e4]
  clear e1 e2 e3 e4
  simp only [Szs.cells]
  have hps := s.lt
  go_enter Try.func100, Try.ntmps100
  go_upto_region 1 with fail
  generalize hX : World.alloc w _ = X
  obtain ⟨hx, hcX, hfX, hzX, hbX⟩ := boxed hX
  clear hX
  have s1 := s.ext hx
  have hc := s1.main.cell
  have hps1 := s1.lt
  have f2 := fun (E : ExtOf X) i => (E.cells hps1 i).trans (hc i)
  clear hc
  refine wp_region_ext_tail 25 (by kernel_rfl) (by kernel_rfl) ?_
  simp only [List.take_succ_cons, List.take_zero, List.drop_succ_cons, List.drop_zero]
  repeat (go_big_quiet_step (fail))
  refine wpQuiet_nil fun E => ?_
  have hB := hbX.ext E.h
  have hcB := hB.cell
  have hfB := hB.frozen
  go_wp2
  refine bodyPost_ret (res_c rfl rfl (((((hB.set_ 0 (.int .i64 h.texts.n)).set_ 1 (.int .i64 h.lists.n)).set_ 2 (.int .i64 h.dicts.n)).set_ 3 (.int .i64 σ.free)).set_ 4 (.int .i64 h.changes.n)) Try.underlying140 (by kernel_rfl)) rfl ⟨rfl, ?_⟩
  have hl : w.heap.size ≤ w.heap.size := Nat.le_refl _
  exact Below.setCell (Below.setCell (Below.setCell (Below.setCell (Below.setCell (hx.trans_ E.h) (p := ⟨_, 0, none⟩) hl _) (p := ⟨_, 1, none⟩) hl _) (p := ⟨_, 2, none⟩) hl _) (p := ⟨_, 3, none⟩) hl _) (p := ⟨_, 4, none⟩) hl _
set_option maxRecDepth 100000 in
set_option maxHeartbeats 800000 in
theorem mark_c (s : Sto w p σ h ρ) (hn : σ.marks.length + 1 ≤ 4294967296) :
    Calls Try.prog 66 #[.pointer (some ⟨p, 0, none⟩)] w fun e w' => e = .returned (.int .i64 (σ.marks.length + 1)) ∧ StoTo w w' p ρ { σ with marks := σ.marks ++ [σ.sizes] } := by
  obtain ⟨iL, hiL, hzL, hsL, hbL⟩ := info_parts info_szs
  have hmb : h.marks.n + 1 ≤ 4294967296 := by rw [s.nmarks]; exact hn
  have hps := s.lt
  have hc0 := s.main.cell
  have hpf := s.main.frozen
  have f2 := fun (E : ExtOf w) i => (E.cells hps i).trans (hc0 i)
  have hnow := fun (E : ExtOf w) => now_c (s.ext E.h)
  simp only [Szs.cells, St.sizes] at hnow
  have hNow := Lib.hid hnow
  clear hc0 hnow
  go_enter Try.func66, Try.ntmps66
  go_upto_region 3 with fail
  refine wp_region_plan (C := fun w' => ∃ E : ExtOf w, w' = E.w) [true, true, true, true, true, true, false, false, false, false, false, false] 8 2 (by kernel_rfl) (by kernel_rfl) (fun c a d v w h => by cases d <;> exact h) ⟨⟨_, (Ext.rfl_ w).drew_⟩, rfl⟩ ?_
  simp only [pickQ, pickT]
  repeat (go_big_quiet_step (fail))
  refine wpQuiet_nil ?_
  refine wpTail_cons (fun K hK => ?_)
  go_simp
  go_wp2_with (go_at_call 100; refine (hNow.out ⟨_, (Ext.rfl_ w).drew_⟩).mono ?_; rintro e w1 ⟨rfl, hx1⟩)
  refine hK _ _ ⟨⟨_, (Ext.rfl_ w).drew_.trans_ hx1⟩, rfl⟩ ?_
  clear hK K
  refine wpTail_cons (fun K hK => ?_)
  go_simp
  refine hK _ _ ⟨⟨_, ((Ext.rfl_ w).drew_.trans_ hx1).alloc_ _⟩, rfl⟩ ?_
  clear hK K
  refine wpTail_zero ?_
  have hw1 : Ext w w1 := (Ext.rfl_ w).drew_.trans_ hx1
  have s1 := s.ext hw1
  have hc := s1.main.cell
  have hpf := s1.main.frozen
  have hps1 := s1.lt
  go_upto_region 4 with (
    at_builtin
    refine wpList_app (by rfl) _ _ _ (by rfl) 140 iL _ 5 40 Try.underlying114 hiL hzL hsL hbL rfl (by omega) h.marks (by rfl) (s1.marks.alloc _) (by rfl) (View.of_blk (n := 1) (Blk.new w1 _ _) rfl) ?_ ?_ ?_ ?_
    · intro u hu
      simp only [List.mem_cons, List.mem_nil_iff, or_false] at hu
      rcases hu with rfl | rfl | rfl | rfl | rfl <;> rfl
    · simp only [maxLen]; omega
    · omega
    intro v' w2 hrow hlen hgrow hat
    obtain ⟨hg1, hg2, hg3, hg4, hg5, hg6, hg7⟩ := s1.hdr_app (H := w1.heap.size + 1) s1.rmarks (by simp) (((Ext.rfl_ w1).alloc_ _)) hgrow (by rcases hat with hat | hat; exact .inl hat; exact .inr (by rw [hat]; simp)) (by omega) hrow 5 (.slice v'.a v'.n v'.c) s1.main
    have k0 := hg1.cell
    have k1 := hg1.frozen)
  have hc2 := hg2.cell
  clear k0 k1 hc hpf
  have hln : v'.n = h.marks.n + 1 := hlen
  have hHln := Lib.hid hln
  clear hln hlen
  go_wp2
  go_ret
  refine ⟨by rw [hHln.out, s.nmarks]; rfl, ?_⟩
  obtain ⟨ρ', hs', hr'⟩ := s1.addMark (c := σ.sizes) hg6 hg4 hg5 hg2 (by rw [List.flatMap_append]; exact hg3) hn
  exact ⟨_, ρ', hs', Moves.ext_left hw1 (hg7 _ hr')⟩
/-- marked. -/
theorem marked_c (s : Sto w p σ h ρ) {m : Int} {b : Bool} (hb : decide (1 ≤ m ∧ m ≤ σ.marks.length) = b) :
    Calls Try.prog 104 #[.pointer (some ⟨p, 0, none⟩), .int .i64 m] w fun e w' => e = .returned (.bool b) ∧ w = w' := by
  rw [← s.nmarks] at hb
  have hc := s.main.cell
  by_cases h1 : 1 ≤ m
  · by_cases h2 : m ≤ h.marks.n
    · have hb' : b = true := by rw [← hb]; simp [h1, h2]
      subst hb'
      clear hb
      go_enter Try.func104, Try.ntmps104
      go_wp2
      go_ret
      exact ⟨rfl, rfl⟩
    · have hb' : b = false := by rw [← hb]; simp [h2]
      subst hb'
      clear hb
      go_enter Try.func104, Try.ntmps104
      go_wp2
      go_ret
      exact ⟨rfl, rfl⟩
  · have hb' : b = false := by rw [← hb]; simp [h1]
    subst hb'
    clear hb
    go_enter Try.func104, Try.ntmps104
    go_wp2
    go_ret
    exact ⟨rfl, rfl⟩
end
end Go.Proofs.Ythhckledkhcfeaa
