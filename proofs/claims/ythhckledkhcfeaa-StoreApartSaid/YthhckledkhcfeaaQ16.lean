/- The saves: frames of a walk over them; the same bytes; lists of lists that were just built. law05.run: its acts, what it keeps. law05.run: its walk. What law05.render answers, as a function of the store's state; how long it may be. -/
import Derived.Deep.LoopGhost
import Derived.Test.YthhckledkhcfeaaQ14
import Derived.Test.YthhckledkhcfeaaQ15
namespace Go.Proofs.Ythhckledkhcfeaa
open Go.RowKit
/-- All that was there at the walk's start is as it was; what is owned by the store and the saves came since. -/
structure Fr (w W : World) (F : Nat → Prop) : Prop where
  ext : Ext w W
  low : ∀ b, F b → w.heap.size ≤ b
/-- A local of the walk: a block that is not the store's. -/
structure Loc (W : World) (F : Nat → Prop) (b : Nat) (t : TypeId) (cs : List Value) : Prop where
  blk : Blk W b t cs
  out : ¬ F b
section
variable {w W W' : World} {F F' : Nat → Prop} {b : Nat} {t : TypeId} {cs : List Value}
theorem Fr.moves (f : Fr w W F) (m : Moves W W' F F') : Fr w W' F' :=
  ⟨f.ext.trans (m.below f.low f.ext.size), fun b hb => (m.foot b hb).elim (f.low b) (fun h => Nat.le_trans f.ext.size h)⟩
theorem Fr.ext_ (f : Fr w W F) (x : Ext W W') : Fr w W' F := ⟨f.ext.trans (Below.mono x f.ext.size), f.low⟩
theorem Loc.moves (l : Loc W F b t cs) (m : Moves W W' F F') : Loc W' F' b t cs := ⟨l.blk.moves m l.out, m.apart l.out l.blk.lt⟩
theorem Loc.ext_ (l : Loc W F b t cs) (x : Ext W W') : Loc W' F b t cs := ⟨l.blk.ext x, l.out⟩
end
section
variable {w W w' : World} {v p : Nat} {σ σ' : St} {h : Hd} {ρ : Roles} {t : Sl} {l : List (Int × Int)} {last : Int}
theorem Sv.keep_ (s : Sv w v p σ h ρ t l last) (hk : ∀ b, svOwn v t ρ b → w'.heap[b]? = w.heap[b]?) (hs : w.heap.size ≤ w'.heap.size) : Sv w' v p σ h ρ t l last :=
  ⟨s.sto.keep (fun b hb => hk b (.inl hb)) hs, ⟨s.sav.blk.keep (hk v (.inr (.inl rfl))), s.sav.row.keep fun _ hg => hk _ (.inr (.inr hg))⟩, s.nv, s.nt, s.vt⟩
theorem Sv.lt_ (s : Sv w v p σ h ρ t l last) {b : Nat} (hb : svOwn v t ρ b) : b < w.heap.size := by
  rcases hb with hb | hb | hb
  · exact s.sto.bound b hb
  · rw [hb]; exact s.sav.blk.lt
  · exact s.sav.row.blk_lt hb
theorem Sv.loc (s : Sv w v p σ h ρ t l last) {T : TypeId} {cs : List Value} {X : World} (hX : w.alloc (.cells cs.toArray T) = X) : Loc X (svOwn v t ρ) w.heap.size T cs ∧ Ext w X := by
  subst hX
  exact ⟨⟨Blk.new w T cs, fun hb => by have := s.lt_ hb; omega⟩, (Ext.rfl_ w).alloc_ _⟩
/-- The store is in another state; the saves are as they were. -/
theorem Sv.sto_to (s : Sv w v p σ h ρ t l last) (hs : StoTo w w' p ρ σ') : SvTo w w' v p (svOwn v t ρ) σ' l last := by
  obtain ⟨h', ρ', s', m⟩ := hs
  have hv : ¬ ρ.own v := Roles.not_own s.nv
  have ht : ∀ g, t.blk = some g → ¬ ρ.own g := fun g hg => Roles.not_own (s.nt g hg)
  refine ⟨h', ρ', t, ⟨s', ⟨s.sav.blk.moves m hv, s.sav.row.moves m ht⟩, Roles.none_of (m.apart hv s.sav.blk.lt), fun g hg => Roles.none_of (m.apart (ht g hg) (s.sav.row.blk_lt hg)), s.vt⟩, ?_⟩
  exact m.frame (fun b hb => .inl hb) (fun b hb => by
    rcases hb with hb | hb | hb
    · exact .inl hb
    · exact .inr (.inl (.inr (.inl hb)))
    · exact .inr (.inl (.inr (.inr hb))))
theorem Lists.one {g q : Nat} {k : List Ob} {n : Nat} {cs : List Value} (hb : Blk w g 27 cs) (he : cs = obCells k) (hq : Blk w q 33 [.slice (some ⟨g, 0, none⟩) n n]) (hn : k.length = n) (hl : n ≤ 4294967296) :
    Lists w (some ⟨q, 0, none⟩) 1 [⟨some ⟨g, 0, none⟩, n, n⟩] [k] := by
  subst hn
  subst he
  refine ⟨View.of_blk (n := 1) hq rfl, rfl, fun i s l h1 h2 => ?_⟩
  have hi : i = 0 := by have := getElem?_lt h1; simp at this; omega
  subst hi
  simp at h1 h2
  subst h1
  subst h2
  exact ⟨View.of_blk (n := k.length) hb (length_obCells k), hl⟩
end
set_option maxHeartbeats 800000 in
/-- Two slices of the same bytes. -/
theorem same_c {w : World} {A B : Option Addr} {n c d : Nat} {l : List UInt8} (h1 : View w 1 A n (byteCells l)) (h2 : View w 1 B n (byteCells l)) (hn : n ≤ 4294967296) :
    Calls Try.prog 30 #[.slice A n c, .slice B n d] w fun e w' => e = .returned (.bool true) ∧ Ext w w' := by
  have hl : l.length = n := by have := h1.1; simp [byteCells] at this; exact this
  have hL := Lib.hid hl
  have hV1 := Lib.hid h1
  have hV2 := Lib.hid h2
  clear hl h1 h2
  go_enter Try.func30, Try.ntmps30
  go_wp2_with fail
  go_loopg [5] n (fun gk s5 wr => ∃ i : Nat, i ≤ n ∧ gk = n - i ∧ s5 = .int .i64 i ∧ Ext w wr)
  case atStart => exact ⟨0, Nat.zero_le _, rfl, rfl, Ext.rfl_ w⟩
  case round =>
    obtain ⟨i, hi, hk, hs5, hx⟩ := hrel
    subst hs5
    by_cases hlt : i < n
    · obtain ⟨b, hb⟩ : ∃ b, l[i]? = some b := ⟨_, List.getElem?_eq_getElem (by have := hL.out; omega)⟩
      obtain ⟨g1, o1, hA, hg1, hj1⟩ := hV1.out.2 (by simp only [byteCells, List.length_map, hL.out]; omega)
      obtain ⟨g2, o2, hB, hg2, hj2⟩ := hV2.out.2 (by simp only [byteCells, List.length_map, hL.out]; omega)
      have hc1 := hj1 i (.int .u8 b.toNat) (by simp only [byteCells, List.getElem?_map, hb, Option.map_some])
      have hc2 := hj2 i (.int .u8 b.toNat) (by simp only [byteCells, List.getElem?_map, hb, Option.map_some])
      subst hA
      subst hB
      clear hb hj1 hj2
      have hlt' : (i : Int) < n := by omega
      have y1 : ∀ (E : ExtOf wr), E.w.cell? ⟨g1, o1 + i, none⟩ = some (.int .u8 b.toNat) := fun E => ((hx.trans_ E.h).cells hg1 _).trans hc1
      have y2 : ∀ (E : ExtOf wr), E.w.cell? ⟨g2, o2 + i, none⟩ = some (.int .u8 b.toNat) := fun E => ((hx.trans_ E.h).cells hg2 _).trans hc2
      clear hc1 hc2
      go_upto_region 6 with fail
      refine wp_region_ext (by kernel_rfl) (by kernel_rfl) ?_
      repeat (go_big_quiet_step (fail))
      refine wpQuiet_nil fun E => ?_
      go_wp2
      go_roundg (n - (i + 1))
      case measure => omega
      case rel => exact ⟨i + 1, by omega, rfl, by simp, hx.trans_ E.h⟩
    · go_wp2_with fail
      go_ret
      exact ⟨rfl, hx⟩
end Go.Proofs.Ythhckledkhcfeaa
namespace Go.Proofs.Ythhckledkhcfeaa
open Go.RowKit
/-- An act of law05. -/
structure Ac where
  dO : Int
  a : Int
  c : Int
  k : Int
  n : Int
  m : Int
  bA : Option Addr
  bc : Nat
  b : List UInt8
def Ac.cells (q : Ac) : List Value := [.int .i64 q.dO, .int .i64 q.a, .int .i64 q.c, .int .i64 q.k, .int .i64 q.n, .int .i64 q.m, .slice q.bA q.b.length q.bc]
/-- An act that came in. -/
structure Ac.Ok (w : World) (q : Ac) : Prop where
  a : I64 q.a
  c : I64 q.c
  k : I64 q.k
  n : I64 q.n
  m : I64 q.m
  view : View w 1 q.bA q.b.length (byteCells q.b)
  len : q.b.length ≤ 9223372036854775807
/-- What belongs to the store, and the list that is made. -/
def RF (ρ : Roles) (made : Sl) (b : Nat) : Prop := ρ.own b ∨ made.blk = some b
structure RunI (w0 W : World) (p : Nat) (F0 : Nat → Prop) (σ : St) (h : Hd) (ρ : Roles) (made : Sl) (L : List Ob) : Prop where
  sto : Sto W p σ h ρ
  good : Good σ
  row : Row W 27 8 made (obCells L)
  obs : ∀ o ∈ L, Obg o
  own : ∀ g, made.blk = some g → ¬ ρ.own g
  mv : Moves w0 W F0 (RF ρ made)
theorem Moves.or {w w' : World} {F F' : Nat → Prop} (m : Moves w w' F F') (X : Nat → Prop) : Moves w w' (fun b => F b ∨ X b) (fun b => F' b ∨ X b) :=
  ⟨m.os, m.tape, m.output, m.size, fun b hb hn => m.block b hb (fun h => hn (.inl h)), fun b hb => by
    rcases hb with hb | hb
    · rcases m.foot b hb with h | h
      · exact .inl (.inl h)
      · exact .inr h
    · exact .inl (.inr hb)⟩
section
variable {w0 W W' : World} {p : Nat} {F0 : Nat → Prop} {σ σ' : St} {h : Hd} {ρ : Roles} {made : Sl} {L : List Ob}
theorem RunI.ext (I : RunI w0 W p F0 σ h ρ made L) (x : Ext W W') : RunI w0 W' p F0 σ h ρ made L :=
  ⟨I.sto.ext x, I.good, I.row.ext x, I.obs, I.own, I.mv.ext_right x⟩
theorem RunI.to (I : RunI w0 W p F0 σ h ρ made L) (hs : StoTo W W' p ρ σ') (hg : Good σ') : ∃ h' ρ', RunI w0 W' p F0 σ' h' ρ' made L ∧ Moves W W' (RF ρ made) (RF ρ' made) := by
  obtain ⟨h', ρ', s', m⟩ := hs
  have mo : Moves W W' (RF ρ made) (RF ρ' made) := m.or _
  exact ⟨h', ρ', ⟨s', hg, I.row.moves m (fun g hg => I.own g hg), I.obs, fun g hg => m.apart (I.own g hg) (I.row.blk_lt hg), I.mv.trans_ mo⟩, mo⟩
theorem RunI.only (I : RunI w0 W p F0 σ h ρ made L) {b : Nat} (k : Only W b W') (hb : ¬ RF ρ made b) (hb0 : w0.heap.size ≤ b ∨ F0 b) : RunI w0 W' p F0 σ h ρ made L := by
  have h1 : ρ b = none := Roles.none_of (fun h => hb (.inl h))
  exact ⟨I.sto.only k h1, I.good, I.row.keep fun g hg => k.block g (by rintro rfl; exact hb (.inr hg)), I.obs, I.own, I.mv.only k hb0⟩
theorem RunI.lt (I : RunI w0 W p F0 σ h ρ made L) {b : Nat} (hb : RF ρ made b) : b < W.heap.size := by
  rcases hb with hb | hb
  · exact I.sto.bound b hb
  · exact I.row.blk_lt hb
theorem RunI.fresh (I : RunI w0 W p F0 σ h ρ made L) {b : Nat} (hb : W.heap.size ≤ b) : ¬ RF ρ made b := fun h => by have := I.lt h; omega
theorem RunI.len (I : RunI w0 W p F0 σ h ρ made L) : L.length = made.n := by have := I.row.len; rw [length_obCells] at this; omega
theorem RunI.view (I : RunI w0 W p F0 σ h ρ made L) : View W 8 made.a made.n (obCells L) := View.of_row I.row
/-- One more is made. -/
theorem RunI.push (I : RunI w0 W p F0 σ h ρ made L) {o : Go.Obj} {made' : Sl} {P : Ob} (hr : Row W' 27 8 made' (obCells L ++ P.cells)) (hg : (W.alloc o).grownBy W' made.blk) (hat : made'.blk = made.blk ∨ made'.blk = some (W.alloc o).heap.size) (hP : Obg P) :
    RunI w0 W' p F0 σ h ρ made' (L ++ [P]) := by
  have hsz : W.heap.size ≤ W'.heap.size := Nat.le_trans (by simp) hg.size
  have hkb : ∀ b, b < W.heap.size → made.blk ≠ some b → W'.heap[b]? = W.heap[b]? := fun b hb hne => (hg.block b (Nat.lt_of_lt_of_le hb (by simp)) (fun e => hne e.symm)).trans (Below.heap_alloc _ _ _ hb)
  have hmv : Moves W W' (RF ρ made) (RF ρ made') := ⟨hg.os, hg.tape, hg.output, hsz, fun b hb hn => hkb b hb (fun e => hn (.inr e)), fun b hb => by
    rcases hb with hb | hb
    · exact .inl (.inl hb)
    · rcases hat with h4 | h4
      · exact .inl (.inr (by rw [← h4]; exact hb))
      · rw [h4] at hb
        injection hb with hb
        simp at hb
        exact .inr (by omega)⟩
  refine ⟨I.sto.keep (fun b hb => hkb b (I.sto.bound b hb) (fun e => I.own b e hb)) hsz, I.good, ?_, fun o ho => ?_, fun g hg => ?_, I.mv.trans_ hmv⟩
  · have e : obCells (L ++ [P]) = obCells L ++ P.cells := by simp [obCells]
    rw [e]
    exact hr
  · rcases List.mem_append.1 ho with h | h
    · exact I.obs o h
    · rw [List.mem_singleton.1 h]; exact hP
  · rcases hat with h4 | h4
    · rw [h4] at hg; exact I.own g hg
    · rw [h4] at hg
      injection hg with hg
      simp at hg
      exact fun ho => by have := I.sto.bound g ho; omega
/-- What came in is as it was. -/
theorem RunI.old (I : RunI w0 W p F0 σ h ρ made L) {wb : World} (hx : Ext wb w0) (hF : ∀ b, F0 b → wb.heap.size ≤ b) {b : Nat} (hb : b < wb.heap.size) : W.heap[b]? = wb.heap[b]? :=
  (I.mv.block b (Nat.lt_of_lt_of_le hb hx.size) (fun hf => by have := hF b hf; omega)).trans (hx.at_ hb)
theorem RunI.came (I : RunI w0 W p F0 σ h ρ made L) {wb : World} (hx : Ext wb w0) (hF : ∀ b, F0 b → wb.heap.size ≤ b) {sz n : Nat} {A : Option Addr} {xs : List Value} (hv : View wb sz A n xs) : View W sz A n xs :=
  hv.keep (Nat.le_trans hx.size I.mv.size) (fun g o _ hlt => I.old hx hF hlt)
end
/-- An append onto a new slice only makes memory. -/
theorem ext_made {w w' : World} {o : Go.Obj} {q : Option Nat} (h : (w.alloc o).grownBy w' q) (hq : ∀ b, q = some b → w.heap.size ≤ b) : Ext w w' :=
  ⟨h.os, h.tape, h.output, Nat.le_trans (by simp) h.size, fun b hb => (h.block b (by simp; omega) (fun e => by have := hq b e.symm; omega)).trans (Below.heap_alloc _ _ _ hb)⟩
/-- Behind an act: what it tells, and what it made. -/
def RunX (w0 : World) (p : Nat) (F0 : Nat → Prop) (made : Sl) (L : List Ob) (b18 : Nat) (v : Value) (wx : World) : Prop :=
  ∃ (e : Int) (P : Ob) (σ' : St) (h' : Hd) (ρ' : Roles), v = .int .i64 e ∧ Obg P ∧ Blk wx b18 27 P.cells ∧ ¬ RF ρ' made b18 ∧ RunI w0 wx p F0 σ' h' ρ' made L
section
variable {w0 W W' : World} {p : Nat} {F0 : Nat → Prop} {σ σ' : St} {h : Hd} {ρ ρ' : Roles} {made : Sl} {L : List Ob}
/-- A call that made something. -/
theorem RunX.some_ (I : RunI w0 W p F0 σ h ρ made L) {b : Nat} {cs : List Value} (l : Loc W (RF ρ made) b 27 cs) (h8 : cs.length = 8) (hb0 : w0.heap.size ≤ b) (e : Int) {k : Int} {x : Bool} {ac n : Int} {nm : ByteArray} {rf fr ln : Int} (hP : Obg ⟨k, x, ac, n, nm, rf, fr, ln⟩) :
    RunX w0 p F0 made L b (.int .i64 e) (set8 W b (.int .i64 k) (.bool x) (.int .i64 ac) (.int .i64 n) (.string nm) (.int .i64 rf) (.int .i64 fr) (.int .i64 ln)) := by
  have ho := set8_only W b (.int .i64 k) (.bool x) (.int .i64 ac) (.int .i64 n) (.string nm) (.int .i64 rf) (.int .i64 fr) (.int .i64 ln)
  match cs, h8, l with
  | [c0, c1, c2, c3, c4, c5, c6, c7], _, l =>
    exact ⟨e, ⟨k, x, ac, n, nm, rf, fr, ln⟩, σ, h, ρ, rfl, hP, set8_blk l.blk _ _ _ _ _ _ _ _, l.out, I.only ho l.out (.inl hb0)⟩
/-- A call that made nothing. -/
theorem RunX.none_ (I : RunI w0 W p F0 σ h ρ made L) {b : Nat} (l : Loc W (RF ρ made) b 27 Ob.null.cells) (e : Int) : RunX w0 p F0 made L b (.int .i64 e) W :=
  ⟨e, Ob.null, σ, h, ρ, rfl, Obg.null, l.blk, l.out, I⟩
end
end Go.Proofs.Ythhckledkhcfeaa
namespace Go.Proofs.Ythhckledkhcfeaa
open Go.RowKit
theorem acts_get {l : List Ac} {i j : Nat} {q : Ac} (h : l[i]? = some q) (hj : j < 7) : (l.flatMap Ac.cells)[i * 7 + j]? = q.cells[j]? := getElem?_flat Ac.cells 7 (fun _ => rfl) l i q j h hj
/-- What run answers. -/
def RunE (w0 : World) (p : Nat) (F0 : Nat → Prop) (most : Nat) (e : Ending) (w' : World) : Prop :=
  ∃ (made : Sl) (L : List Ob) (σ : St) (h : Hd) (ρ : Roles), e = .returned (.slice made.a made.n made.c) ∧ RunI w0 w' p F0 σ h ρ made L ∧ L.length ≤ most
set_option maxRecDepth 100000 in
set_option maxHeartbeats 8000000 in
theorem run_c {w0 : World} {p : Nat} {σ0 : St} {h0 : Hd} {ρ0 : Roles} {made0 : Sl} {L0 : List Ob} {F0 : Nat → Prop} (I0 : RunI w0 w0 p F0 σ0 h0 ρ0 made0 L0) (hL0 : L0.length ≤ 1000)
    {wb : World} (hx0 : Ext wb w0) (hF0 : ∀ b, F0 b → wb.heap.size ≤ b) {A : Option Addr} {acts : List Ac} {c : Nat} (hA : View wb 7 A acts.length (acts.flatMap Ac.cells)) (hq : ∀ q ∈ acts, q.Ok wb) (hal : acts.length ≤ 9223372036854775807) :
    Calls Try.prog 24 #[.pointer (some ⟨p, 0, none⟩), .slice made0.a made0.n made0.c, .slice A acts.length c, .int .i64 30] w0 (RunE w0 p F0 (L0.length + 30)) := by
  obtain ⟨iV, hiV, hzV, hsV, hbV⟩ := info_parts info_Val
  obtain ⟨iO, hiO, hzO, hsO, hbO⟩ := info_parts info_Obj
  obtain ⟨N, hN⟩ : ∃ N, acts.length = N := ⟨_, rfl⟩
  rw [hN] at hA hal ⊢
  have hHN := Lib.hid hN
  have hHA := Lib.hid hA
  have hHq := Lib.hid hq
  have hHF0 := Lib.hid hF0
  clear hN hA hq hF0
  go_enter Try.func24, Try.ntmps24
  go_wp2_with fail
  go_loopg [1, 9] (31 - 0) (fun gk s1 s9 wr => ∃ (i : Nat) (made : Sl) (L : List Ob) (σ : St) (h : Hd) (ρ : Roles), i ≤ 30 ∧ i ≤ N ∧ gk = 31 - i ∧ s9 = .int .i64 i ∧ s1 = .slice made.a made.n made.c ∧ L.length ≤ L0.length + i ∧ RunI w0 wr p F0 σ h ρ made L)
  case atStart => exact ⟨0, made0, L0, σ0, h0, ρ0, by omega, by omega, rfl, rfl, rfl, by omega, I0⟩
  case round =>
    obtain ⟨i, made, L, σ, h, ρ, hi30, hiN, hgk, hs9, hs1, hLi, I⟩ := hrel
    subst hs9
    subst hs1
    have hHLi := Lib.hid hLi
    have hlen := I.len
    have hmn : made.n ≤ 1040 := by omega
    have hHlen := Lib.hid hlen
    clear hLi hlen
    by_cases hlt : i < N ∧ i < 30
    · obtain ⟨hlt1, hlt2⟩ := hlt
      obtain ⟨⟨dO, qa, qc, qk, qn, qm, bA, bc, b⟩, hu⟩ : ∃ q, acts[i]? = some q := ⟨_, List.getElem?_eq_getElem (by have := hHN.out; omega)⟩
      have hqo := hHq.out _ (List.mem_of_getElem? hu)
      obtain ⟨ga, oa, rfl, hga, hca⟩ := View.at_ (f := Ac.cells) hHA.out (fun _ => rfl) (by omega) hu
      have hcells : ∀ j v, ([.int .i64 dO, .int .i64 qa, .int .i64 qc, .int .i64 qk, .int .i64 qn, .int .i64 qm, .slice bA b.length bc] : List Value)[j]? = some v → wr.cell? ⟨ga, oa + i * 7 + j, none⟩ = some v := fun j v hv =>
        (World.cell?_of_block (I.old hx0 hHF0.out hga)).trans (hca j v hv)
      obtain ⟨bl, hbl⟩ : ∃ bl, b.length = bl := ⟨_, rfl⟩
      have hHqo := Lib.hid hqo
      rw [hbl] at hcells
      have hHbl := Lib.hid hbl
      have hbl63 : bl ≤ 9223372036854775807 := by rw [← hbl]; exact hqo.len
      clear hu hca hqo hbl
      have hl1 : (i : Int) < N := by omega
      have hl2 : (i : Int) < 30 := by omega
      go_upto_region 5 with (
        refine wpList_load_at (ty := 64) (cs := [.int .i64 dO, .int .i64 qa, .int .i64 qc, .int .i64 qk, .int .i64 qn, .int .i64 qm, .slice bA bl bc]) (by rfl) _ (by rfl) (by rfl) hcells Try.underlying64 (by kernel_rfl) ?_)
      clear hcells
      generalize hX : World.alloc wr _ = X
      obtain ⟨hx, hcX, hfX, hzX, hbX⟩ := boxed hX
      clear hX hfX
      by_cases hbig : 500 < bl
      · have hbi : (500 : Int) < bl := by omega
        go_wp2_with fail
        go_roundg (31 - (i + 1))
        case measure => omega
        case rel => exact ⟨i + 1, made, L, σ, h, ρ, by omega, by omega, rfl, by simp, rfl, by have := hHLi.out; omega, I.ext hx⟩
      · have hbi : ¬ (500 : Int) < bl := by omega
        by_cases hnb : 300 < qn
        · go_wp2_with fail
          go_roundg (31 - (i + 1))
          case measure => omega
          case rel => exact ⟨i + 1, made, L, σ, h, ρ, by omega, by omega, rfl, by simp, rfl, by have := hHLi.out; omega, I.ext hx⟩
        · have hbl5 : bl ≤ 500 := by omega
          have hqn3 : qn ≤ 300 := by omega
          go_upto_region 6 with fail
          clear hbi hbig hnb
          have hmk := fun W => run_make_rowN (P := Try.prog) 62 69 iV _ Try.underlying62 hiV hzV .i64 .i64 made.n made.n (Nat.le_refl _) (by rw [hbV]; omega) (by omega) W
          rw [hsV] at hmk
          go_upto_region 7 with fail
          generalize hY : World.alloc X _ = Y
          have hY0 : Y.heap[X.heap.size]? = some (.cells (madeCells #[.int .i64 0, .bool false, .int .i64 0, .int .i64 0, .string ByteArray.empty, .pointer none, .pointer none, .pointer none, .int .i64 0, .int .i64 0] (made.n * 10)) 69 (0, 0)) := by
            rw [← hY]
            exact heap_at rfl
          have hVr := Row.made (w := Y) (e := 69) #[.int .i64 0, .bool false, .int .i64 0, .int .i64 0, .string ByteArray.empty, .pointer none, .pointer none, .pointer none, .int .i64 0, .int .i64 0] made.n (by simp) (by simp only [maxLen]; omega) (by simp) hY0
          have hVv := View.of_row hVr
          have hxY : Ext X Y := by rw [← hY]; exact (Ext.rfl_ X).alloc_ _
          rw [show (List.replicate made.n (#[Value.int .i64 0, .bool false, .int .i64 0, .int .i64 0, .string ByteArray.empty, .pointer none, .pointer none, .pointer none, .int .i64 0, .int .i64 0] : Array Value).toList).flatten = (List.replicate made.n Vl.zero).flatMap Vl.cells from vlCells_null made.n] at hVv
          clear hY hY0 hmk hVr
          have hIY := (I.ext hx).ext hxY
          have hl10 : Loc Y (RF ρ made) wr.heap.size 64 _ := (Loc.mk hbX (I.fresh (Nat.le_refl _))).ext_ hxY
          have hVV := Lib.hid hVv
          have hcr := hl10.blk.cell
          have hpk : ∀ (k : Int), I64 k → ∀ W, Ext Y W → Calls Try.prog 31 #[.slice made.a made.n made.c, .slice (some ⟨X.heap.size, 0, none⟩) made.n made.n, .int .i64 k] W fun e w' => e = .returned (.tuple #[.agg (pickF L (List.replicate made.n Vl.zero) k).1.cells.toArray, .agg (pickF L (List.replicate made.n Vl.zero) k).2.cells.toArray]) ∧ Ext W w' :=
            fun k hk W hx => pick_c (hIY.view.ext hx) (hVV.out.ext hx) (by omega) k hk
          have hpg : ∀ k, Obg (pickF L (List.replicate made.n Vl.zero) k).1 := fun k => Obg.pick I.obs _ k
          have hp1 := hpk qa hHqo.out.a
          have hp2 := hpk qc hHqo.out.c
          have hp3 := hpk qk hHqo.out.k
          have hg1 := hpg qa
          have hg2 := hpg qc
          have hg3 := hpg qk
          generalize pickF L (List.replicate made.n Vl.zero) qa = P1 at hp1 hg1
          generalize pickF L (List.replicate made.n Vl.zero) qc = P2 at hp2 hg2
          generalize pickF L (List.replicate made.n Vl.zero) qk = P3 at hp3 hg3
          obtain ⟨⟨k1, x1, a1, n1, m1, r1, f1, l1⟩, ⟨v11, v12, v13, v14, v15, v16, v17, v18, v19, v10⟩⟩ := P1
          obtain ⟨⟨k2, x2, a2, n2, m2, r2, f2, l2⟩, ⟨v21, v22, v23, v24, v25, v26, v27, v28, v29, v20⟩⟩ := P2
          obtain ⟨⟨k3, x3, a3, n3, m3, r3, f3, l3⟩, ⟨v31, v32, v33, v34, v35, v36, v37, v38, v39, v30⟩⟩ := P3
          simp only [Ob.cells, Vl.cells] at hp1 hp2 hp3 hg1 hg2 hg3
          have hHp1 := Lib.hid hp1
          have hHp2 := Lib.hid hp2
          have hHp3 := Lib.hid hp3
          have hHg1 := Lib.hid hg1
          have hHg2 := Lib.hid hg2
          have hHg3 := Lib.hid hg3
          clear hpk hpg hp1 hp2 hp3 hg1 hg2 hg3 hVv
          clear hcX
          go_upto_region 8 with (
            go_at_call 31
            refine (hHp1.out _ (Ext.rfl_ Y)).mono ?_
            rintro e w1 ⟨rfl, hx1⟩)
          generalize hZ : World.alloc (World.alloc w1 _) _ = Z1
          obtain ⟨hxz1, hB12, hB13⟩ := boxed2 hZ
          have hYZ1 := hx1.trans_ hxz1
          clear hZ hcr hB13
          have hcr := (hl10.blk.ext hYZ1).cell
          go_upto_region 9 with (
            go_at_call 31
            refine (hHp2.out _ hYZ1).mono ?_
            rintro e w2 ⟨rfl, hx2⟩)
          generalize hZ : World.alloc (World.alloc w2 _) _ = Z2
          obtain ⟨hxz2, hB14, hB15⟩ := boxed2 hZ
          have hYZ2 := (hYZ1.trans_ hx2).trans_ hxz2
          clear hZ hcr hB15
          have hcr := (hl10.blk.ext hYZ2).cell
          go_upto_region 10 with (
            go_at_call 31
            refine (hHp3.out _ hYZ2).mono ?_
            rintro e w3 ⟨rfl, hx3⟩)
          generalize hZ : World.alloc (World.alloc w3 _) _ = Z3
          obtain ⟨hxz3, hB16, hB17⟩ := boxed2 hZ
          have hYZ3 := (hYZ2.trans_ hx3).trans_ hxz3
          clear hZ hcr hB17
          go_upto_region 11 with fail
          generalize hZ : World.alloc Z3 _ = Z
          obtain ⟨hxz, hcZ, hfZ, hzZ, hB18⟩ := boxed hZ
          clear hZ hcZ hfZ
          have hYZ := hYZ3.trans_ hxz
          have hIZ := hIY.ext hYZ
          have l10 := hl10.ext_ hYZ
          have l12 : Loc Z (RF ρ made) w1.heap.size 27 [.int .i64 k1, .bool x1, .int .i64 a1, .int .i64 n1, .string m1, .int .i64 r1, .int .i64 f1, .int .i64 l1] := ⟨(((((hB12.ext hx2).ext hxz2).ext hx3).ext hxz3).ext hxz), hIY.fresh hx1.size⟩
          have l14 : Loc Z (RF ρ made) w2.heap.size 27 [.int .i64 k2, .bool x2, .int .i64 a2, .int .i64 n2, .string m2, .int .i64 r2, .int .i64 f2, .int .i64 l2] := ⟨((hB14.ext hx3).ext hxz3).ext hxz, hIY.fresh (hYZ1.trans_ hx2).size⟩
          have l16 : Loc Z (RF ρ made) w3.heap.size 27 [.int .i64 k3, .bool x3, .int .i64 a3, .int .i64 n3, .string m3, .int .i64 r3, .int .i64 f3, .int .i64 l3] := ⟨hB16.ext hxz, hIY.fresh (hYZ2.trans_ hx3).size⟩
          have l18 : Loc Z (RF ρ made) Z3.heap.size 27 Ob.null.cells := ⟨hB18, hIY.fresh hYZ3.size⟩
          have hz18 : w0.heap.size ≤ Z3.heap.size := Nat.le_trans hIY.mv.size hYZ3.size
          clear hxz hxz1 hxz2 hxz3 hx1 hx2 hx3 hB12 hB14 hB16 hB18 hYZ1 hYZ2 hYZ3
          have hcr := l10.blk.cell
          go_upto_block 2 with fail
          have hch : σ.changes.length + 1 ≤ 4294967296 := by rw [I.good.changes]; decide
          have hHch := Lib.hid hch
          have hVB : View Z 1 bA bl (byteCells b) := by rw [← hHbl.out]; exact hIZ.came hx0 hHF0.out hHqo.out.view
          have hHVB := Lib.hid hVB
          clear hch hVB
          go_cut [19] from 20 to 165 (fun s19 wx => RunX w0 p F0 made L Z3.heap.size s19 wx)
          case first =>
            have l18' : Loc Z (RF ρ made) Z3.heap.size 27 [.int .i64 0, .bool false, .int .i64 0, .int .i64 0, .string ByteArray.empty, .int .i64 0, .int .i64 0, .int .i64 0] := l18
            replace l18 := l18'
            clear l18'
            have hdo : dO = 1 ∨ dO = 2 ∨ dO = 3 ∨ dO = 4 ∨ dO = 5 ∨ dO = 6 ∨ dO = 7 ∨ dO = 8 ∨ dO = 9 ∨ dO = 10 ∨ (dO ≠ 1 ∧ dO ≠ 2 ∧ dO ≠ 3 ∧ dO ≠ 4 ∧ dO ≠ 5 ∧ dO ≠ 6 ∧ dO ≠ 7 ∧ dO ≠ 8 ∧ dO ≠ 9 ∧ dO ≠ 10) := by omega
            rcases hdo with rfl | rfl | rfl | rfl | rfl | rfl | rfl | rfl | rfl | rfl | ⟨d1, d2, d3, d4, d5, d6, d7, d8, d9, d10⟩
            · -- store.Store.String
              have hS := string_f hIZ.sto qn (by omega)
              have hGd := Good.stringF hIZ.good qn
              have hOb := Obg.stringF hIZ.sto.ok qn
              generalize σ.stringF qn = SF at hS hGd hOb
              obtain ⟨⟨⟨kk, kx, ka, kn, km, kr, kf, kl⟩, ke⟩, σ'⟩ := SF
              simp only [Ob.cells] at hS
              have hHS := Lib.hid hS
              have hHGd := Lib.hid hGd
              have hHOb := Lib.hid hOb
              clear hS hGd hOb
              go_wp2_with (
                go_at_call 72
                refine hHS.out.mono ?_
                rintro e' W1 ⟨rfl, hs⟩
                obtain ⟨h', ρ', I', m⟩ := hIZ.to hs hHGd.out
                have lp := l18.moves m
                have cp := lp.blk.cell
                have fp := lp.blk.frozen)
              go_meet
              case rel => exact RunX.some_ I' lp rfl hz18 _ hHOb.out
            · -- store.Store.Array
              have hS := array_f hIZ.sto qn (by omega)
              have hGd := Good.arrayF hIZ.good qn hqn3
              have hOb := Obg.arrayF hIZ.sto.ok qn
              generalize σ.arrayF qn = SF at hS hGd hOb
              obtain ⟨⟨⟨kk, kx, ka, kn, km, kr, kf, kl⟩, ke⟩, σ'⟩ := SF
              simp only [Ob.cells] at hS
              have hHS := Lib.hid hS
              have hHGd := Lib.hid hGd
              have hHOb := Lib.hid hOb
              clear hS hGd hOb
              go_wp2_with (
                go_at_call 13
                refine hHS.out.mono ?_
                rintro e' W1 ⟨rfl, hs⟩
                obtain ⟨h', ρ', I', m⟩ := hIZ.to hs hHGd.out
                have lp := l18.moves m
                have cp := lp.blk.cell
                have fp := lp.blk.frozen)
              go_meet
              case rel => exact RunX.some_ I' lp rfl hz18 _ hHOb.out
            · -- store.Store.Dict
              have hS := dict_f hIZ.sto qn hHqo.out.n
              have hGd := Good.dictF hIZ.good qn hqn3
              have hOb := Obg.dictF hIZ.sto.ok qn
              generalize σ.dictF qn = SF at hS hGd hOb
              obtain ⟨⟨⟨kk, kx, ka, kn, km, kr, kf, kl⟩, ke⟩, σ'⟩ := SF
              simp only [Ob.cells] at hS
              have hHS := Lib.hid hS
              have hHGd := Lib.hid hGd
              have hHOb := Lib.hid hOb
              clear hS hGd hOb
              go_wp2_with (
                go_at_call 53
                refine hHS.out.mono ?_
                rintro e' W1 ⟨rfl, hs⟩
                obtain ⟨h', ρ', I', m⟩ := hIZ.to hs hHGd.out
                have lp := l18.moves m
                have cp := lp.blk.cell
                have fp := lp.blk.frozen)
              go_meet
              case rel => exact RunX.some_ I' lp rfl hz18 _ hHOb.out
            · -- Text
              have hS : ∀ (W : World) (A : Option Addr) (c : Nat), Ext Z W → View W 1 A bl (byteCells b) → (∀ g o, A = some ⟨g, o, none⟩ → ρ g = none) →
                  Calls Try.prog 25 #[.pointer (some ⟨p, 0, none⟩), .slice A bl c] W fun e w' => e = .returned (.tuple #[.agg (σ.textF b).1.1.cells.toArray, .int .i64 (σ.textF b).1.2]) ∧ StoTo W w' p ρ (σ.textF b).2 := by
                intro W A c hx hv hap
                rw [← hHbl.out] at hv ⊢
                exact text_f (hIZ.sto.ext hx) hv hap (by have := hHbl.out; omega)
              have hGd := Good.textF hIZ.good b
              have hOb := Obg.textF hIZ.sto.ok b
              generalize σ.textF b = SF at hS hGd hOb
              obtain ⟨⟨⟨kk, kx, ka, kn, km, kr, kf, kl⟩, ke⟩, σ'⟩ := SF
              simp only [Ob.cells] at hS
              obtain ⟨iB, hiB, hzB, hsB, hbB⟩ := info_parts info_u8
              have hHS := Lib.hid hS
              have hHGd := Lib.hid hGd
              have hHOb := Lib.hid hOb
              clear hS hGd hOb
              have hlt10 : wr.heap.size < Z.heap.size := l10.blk.lt
              go_wp2_with (first
                | (go_at_call 25
                   refine (hHS.out _ _ _ hxA hvA hapA).mono ?_
                   rintro e' W1 ⟨rfl, hs⟩
                   obtain ⟨h', ρ', I', m⟩ := (hIZ.ext hxA).to hs hHGd.out
                   have lp := (l18.ext_ hxA).moves m
                   have cp := lp.blk.cell
                   have fp := lp.blk.frozen)
                | (at_builtin
                   refine wpList_app (by rfl) _ _ _ (by rfl) 5 iB _ 1 1 Try.underlying45 hiB hzB hsB hbB rfl (by omega) ⟨some ⟨Z.heap.size, 0, none⟩, 0, 0⟩ (by rfl) (Row.lit (cs := []) (n := 0) (Blk.new Z 5 []) rfl (by omega)) (by rfl) (hHVB.out.ext ((Ext.rfl_ _).alloc_ _)) (byteCells_one b) (by simp only [maxLen]; omega) (by dsimp only; omega) ?_
                   rintro ⟨va, vn, vc⟩ W4 hrow4 hlen4 hgrow4 hat4
                   have hvn : bl = vn := by have h5 := hrow4.len; simp [byteCells] at h5; rw [← hHbl.out]; exact h5
                   subst hvn
                   have hxA : Ext Z W4 := ext_made hgrow4 (fun b hb => by simp [Sl.blk] at hb; omega)
                   have hvA : View W4 1 va bl (byteCells b) := by simpa using View.of_row hrow4
                   have hapA : ∀ g o, va = some ⟨g, o, none⟩ → ρ g = none := fun g o hg => hIZ.sto.fresh (by
                     rcases hat4 with h4 | h4 <;> simp [Sl.blk, hg] at h4 <;> omega)
                   have hcr := (l10.ext_ hxA).blk.cell))
              go_meet
              case rel => exact RunX.some_ I' lp rfl hz18 _ hHOb.out
            · -- Write
              have hS : Calls Try.prog 29 #[.pointer (some ⟨p, 0, none⟩), .agg (Ob.cells ⟨k1, x1, a1, n1, m1, r1, f1, l1⟩).toArray, .int .i64 qn, .slice bA bl bc] Z fun e w' => e = .returned (.int .i64 (σ.writeF ⟨k1, x1, a1, n1, m1, r1, f1, l1⟩ qn b).2) ∧ StoTo Z w' p ρ (σ.writeF ⟨k1, x1, a1, n1, m1, r1, f1, l1⟩ qn b).1 := by
                have hv := hHVB.out
                rw [← hHbl.out] at hv ⊢
                exact write_f hIZ.sto ⟨k1, x1, a1, n1, m1, r1, f1, l1⟩ qn hv (by have := hHbl.out; omega)
              have hGd := Good.writeF hIZ.good ⟨k1, x1, a1, n1, m1, r1, f1, l1⟩ qn b
              simp only [Ob.cells] at hS
              have hHS := Lib.hid hS
              have hHGd := Lib.hid hGd
              clear hS hGd
              have c12 := l12.blk.cell
              go_wp2_with (
                go_at_call 29
                refine hHS.out.mono ?_
                rintro e' W1 ⟨rfl, hs⟩
                obtain ⟨h', ρ', I', m⟩ := hIZ.to hs hHGd.out)
              go_meet
              case rel => exact RunX.none_ I' (l18.moves m) 21
            · -- store.Store.Put
              have hS := put_f hIZ.sto hHch.out ⟨k1, x1, a1, n1, m1, r1, f1, l1⟩ qn ⟨k2, x2, a2, n2, m2, r2, f2, l2⟩
              have hGd := Good.putF hIZ.good hHg2.out ⟨k1, x1, a1, n1, m1, r1, f1, l1⟩ qn
              simp only [Ob.cells] at hS
              have hHS := Lib.hid hS
              have hHGd := Lib.hid hGd
              clear hS hGd
              have c12 := l12.blk.cell
              have c14 := l14.blk.cell
              have c16 := l16.blk.cell
              go_wp2_with (
                go_at_call 16
                refine hHS.out.mono ?_
                rintro e' W1 ⟨rfl, hs⟩
                obtain ⟨h', ρ', I', m⟩ := hIZ.to hs hHGd.out)
              go_meet
              case rel => exact RunX.none_ I' (l18.moves m) 21
            · -- Part
              have hS := part_f hIZ.sto ⟨k1, x1, a1, n1, m1, r1, f1, l1⟩ qn qm
              have hOb := Obg.partF hIZ.sto hHg1.out qn qm
              generalize σ.partF ⟨k1, x1, a1, n1, m1, r1, f1, l1⟩ qn qm = SF at hS hOb
              obtain ⟨⟨kk, kx, ka, kn, km, kr, kf, kl⟩, ke⟩ := SF
              simp only [Ob.cells] at hS
              have hHS := Lib.hid hS
              have hHOb := Lib.hid hOb
              clear hS hOb
              have c12 := l12.blk.cell
              go_wp2_with (
                go_at_call 15
                refine hHS.out.mono ?_
                rintro e' W1 ⟨rfl, hx⟩
                have lp := l18.ext_ hx
                have cp := lp.blk.cell
                have fp := lp.blk.frozen)
              go_meet
              case rel => exact RunX.some_ (hIZ.ext hx) lp rfl hz18 _ hHOb.out
            · -- store.Store.Set
              have hS := set_f hIZ.sto hHch.out ⟨k1, x1, a1, n1, m1, r1, f1, l1⟩ ⟨k3, x3, a3, n3, m3, r3, f3, l3⟩ ⟨k2, x2, a2, n2, m2, r2, f2, l2⟩ hHg3.out.wf.n
              have hGd := Good.setF hIZ.good ⟨k1, x1, a1, n1, m1, r1, f1, l1⟩ ⟨k3, x3, a3, n3, m3, r3, f3, l3⟩ ⟨k2, x2, a2, n2, m2, r2, f2, l2⟩ (Obg.key hHg3.out) hHg2.out
              simp only [Ob.cells] at hS
              have hHS := Lib.hid hS
              have hHGd := Lib.hid hGd
              clear hS hGd
              have c12 := l12.blk.cell
              have c14 := l14.blk.cell
              have c16 := l16.blk.cell
              go_wp2_with (
                go_at_call 36
                refine hHS.out.mono ?_
                rintro e' W1 ⟨rfl, hs⟩
                obtain ⟨h', ρ', I', m⟩ := hIZ.to hs hHGd.out)
              go_meet
              case rel => exact RunX.none_ I' (l18.moves m) 21
            · -- store.Store.Drop
              have hS := drop_f hIZ.sto hHch.out ⟨k1, x1, a1, n1, m1, r1, f1, l1⟩ ⟨k3, x3, a3, n3, m3, r3, f3, l3⟩ hHg3.out.wf.n
              have hGd := Good.dropF hIZ.good ⟨k1, x1, a1, n1, m1, r1, f1, l1⟩ ⟨k3, x3, a3, n3, m3, r3, f3, l3⟩
              simp only [Ob.cells] at hS
              have hHS := Lib.hid hS
              have hHGd := Lib.hid hGd
              clear hS hGd
              have c12 := l12.blk.cell
              have c14 := l14.blk.cell
              have c16 := l16.blk.cell
              go_wp2_with (
                go_at_call 38
                refine hHS.out.mono ?_
                rintro e' W1 ⟨rfl, hs⟩
                obtain ⟨h', ρ', I', m⟩ := hIZ.to hs hHGd.out)
              go_meet
              case rel => exact RunX.none_ I' (l18.moves m) 21
            · -- store.Store.Lock
              have hS := lock_f hIZ.sto hHch.out ⟨k1, x1, a1, n1, m1, r1, f1, l1⟩ qn
              have hGd := Good.lockF hIZ.good ⟨k1, x1, a1, n1, m1, r1, f1, l1⟩ qn
              simp only [Ob.cells] at hS
              have hHS := Lib.hid hS
              have hHGd := Lib.hid hGd
              clear hS hGd
              have c12 := l12.blk.cell
              have c14 := l14.blk.cell
              have c16 := l16.blk.cell
              go_wp2_with (
                go_at_call 41
                refine hHS.out.mono ?_
                rintro e' W1 ⟨rfl, hs⟩
                obtain ⟨h', ρ', I', m⟩ := hIZ.to hs hHGd.out)
              go_meet
              case rel => exact RunX.none_ I' (l18.moves m) 21
            · go_wp2_with fail
              go_meet
              case rel => exact RunX.none_ hIZ l18 21
          case rest =>
            obtain ⟨e, P, σ', h', ρ', hs19, hPg, hBP, hPo, I'⟩ := hcut
            subst hs19
            obtain ⟨kk, kx, ka, kn, km, kr, kf, kl⟩ := P
            have hHPg := Lib.hid hPg
            have hcP := hBP.cell
            simp only [Ob.cells] at hcP
            clear hPg hcr
            by_cases he : e = 0
            · subst he
              go_wp2_with (
                at_builtin
                refine wpList_app (by rfl) _ _ _ (by rfl) 27 iO _ 8 72 Try.underlying33 hiO hzO hsO hbO rfl (by omega) made (by rfl) (I'.row.alloc _) (by rfl) (View.of_blk (n := 1) (Blk.new wc _ _) rfl) ?_ ?_ ?_ ?_
                · intro u hu
                  simp only [List.mem_cons, List.mem_nil_iff, or_false] at hu
                  rcases hu with rfl | rfl | rfl | rfl | rfl | rfl | rfl | rfl <;> rfl
                · simp only [maxLen]; omega
                · omega
                intro made' w4 hrow4 hlen4 hgrow4 hat4)
              go_roundg (31 - (i + 1))
              case measure => omega
              case rel =>
                exact ⟨i + 1, made', L ++ [⟨kk, kx, ka, kn, km, kr, kf, kl⟩], σ', h', ρ', by omega, by omega, rfl, by simp, rfl, by have := hHLi.out; simp; omega, I'.push (P := ⟨kk, kx, ka, kn, km, kr, kf, kl⟩) hrow4 hgrow4 hat4 hHPg.out⟩
            · have hei : (e == 0) = false := by simp [he]
              go_wp2_with fail
              go_roundg (31 - (i + 1))
              case measure => omega
              case rel => exact ⟨i + 1, made, L, σ', h', ρ', by omega, by omega, rfl, by simp, rfl, by have := hHLi.out; omega, I'⟩
    · have hways : (¬ (i : Int) < N) ∨ ((i : Int) < N ∧ ¬ (i : Int) < 30) := by omega
      have hHL := hHLi.out
      clear hlt
      rcases hways with hw1 | ⟨hw1, hw2⟩
      all_goals
        go_wp2_with fail
        go_ret
        exact ⟨made, L, σ, h, ρ, rfl, I, by omega⟩
end Go.Proofs.Ythhckledkhcfeaa
namespace Go.Proofs.Ythhckledkhcfeaa
open Go.RowKit
def rndHead (o : Ob) : List UInt8 := decL o.k ++ if o.x then [120] else []
def St.pairsF (σ : St) (o : Ob) : List (Ob × Ob) := if σ.isA o 8 = false then [] else σ.pairsOf o
def rnd (σ : St) : Nat → Ob → List UInt8
  | 0, o =>
    if o.k = 6 then rndHead o ++ [46] ++ decL o.ac ++ [40] ++ (σ.bytesF o).1 ++ [41]
    else if o.k = 7 then rndHead o ++ [46] ++ decL o.ac ++ [91] ++ decL (σ.itemsF o).1.length ++ [93]
    else if o.k = 8 then rndHead o ++ [46] ++ decL (σ.accessF o) ++ [60] ++ decL (σ.sizeF o).1.1 ++ [47] ++ decL (σ.sizeF o).1.2 ++ [62]
    else rndHead o ++ [58] ++ decL o.n ++ o.nm.data.toList
  | d + 1, o =>
    if o.k = 6 then rndHead o ++ [46] ++ decL o.ac ++ [40] ++ (σ.bytesF o).1 ++ [41]
    else if o.k = 7 then rndHead o ++ [46] ++ decL o.ac ++ [91] ++ (σ.itemsF o).1.flatMap (fun x => rnd σ d x ++ [32]) ++ decL (σ.itemsF o).1.length ++ [93]
    else if o.k = 8 then rndHead o ++ [46] ++ decL (σ.accessF o) ++ [60] ++ (σ.pairsF o).flatMap (fun q => rnd σ d q.1 ++ [61] ++ rnd σ d q.2 ++ [32]) ++ decL (σ.sizeF o).1.1 ++ [47] ++ decL (σ.sizeF o).1.2 ++ [62]
    else rndHead o ++ [58] ++ decL o.n ++ o.nm.data.toList
def bnd : Nat → Nat
  | 0 => 66000
  | d + 1 => 300 * (2 * bnd d + 2) + 66000
theorem flatMap_bound {α : Type} {f : α → List UInt8} {c : Nat} : ∀ (l : List α), (∀ x ∈ l, (f x).length ≤ c) → (l.flatMap f).length ≤ l.length * c
  | [], _ => by simp
  | a :: l, h => by
    have h1 := h a (by simp)
    have h2 := flatMap_bound l (fun x hx => h x (List.mem_cons_of_mem _ hx))
    rw [List.flatMap_cons, List.length_append, List.length_cons, Nat.add_mul]
    omega
theorem rndHead_len (o : Ob) : (rndHead o).length ≤ 22 := by
  have := decL_len o.k
  unfold rndHead
  rw [List.length_append]
  split <;> simp <;> omega
section
variable {σ : St}
theorem bytesF_len (ok : σ.Ok) (o : Ob) : (σ.bytesF o).1.length ≤ 65535 := by
  unfold St.bytesF
  split
  · simp
  · have : (σ.texts.getD o.rf.toNat []).length ≤ 65535 := by
      rcases Nat.lt_or_ge o.rf.toNat σ.texts.length with h | h
      · rw [show σ.texts.getD o.rf.toNat [] = σ.texts[o.rf.toNat] by simp [List.getD, h]]
        exact ok.text _ (List.getElem_mem h)
      · rw [show σ.texts.getD o.rf.toNat [] = [] by simp [List.getD, h]]
        simp
    simp only [List.length_take, List.length_drop]
    omega
theorem itemsF_good (g : Good σ) (o : Ob) : (σ.itemsF o).1.length ≤ 300 ∧ ∀ x ∈ (σ.itemsF o).1, Obg x := by
  unfold St.itemsF
  split
  · exact ⟨by simp, fun x hx => by simp at hx⟩
  · rcases Nat.lt_or_ge o.rf.toNat σ.lists.length with h | h
    · rw [show σ.lists.getD o.rf.toNat [] = σ.lists[o.rf.toNat] by simp [List.getD, h]]
      obtain ⟨h1, h2⟩ := g.lists _ (List.getElem_mem h)
      exact ⟨by simp only [List.length_take, List.length_drop]; omega, fun x hx => h2 x (List.mem_of_mem_drop (List.mem_of_mem_take hx))⟩
    · rw [show σ.lists.getD o.rf.toNat [] = [] by simp [List.getD, h]]
      exact ⟨by simp, fun x hx => by simp at hx⟩
theorem pairsF_good (ok : σ.Ok) (g : Good σ) (o : Ob) : (σ.pairsF o).length ≤ 300 ∧ ∀ q ∈ σ.pairsF o, Obg q.1 ∧ Obg q.2 := by
  unfold St.pairsF
  split
  · exact ⟨by simp, fun x hx => by simp at hx⟩
  · unfold St.pairsOf
    rcases Nat.lt_or_ge o.rf.toNat σ.dicts.length with h | h
    · rw [show σ.dicts.getD o.rf.toNat ⟨0, 0, []⟩ = σ.dicts[o.rf.toNat] by simp [List.getD, h]]
      obtain ⟨h1, -, h3⟩ := g.dicts _ (List.getElem_mem h)
      obtain ⟨h4, -⟩ := ok.dict _ (List.getElem_mem h)
      exact ⟨by omega, h3⟩
    · rw [show σ.dicts.getD o.rf.toNat ⟨0, 0, []⟩ = ⟨0, 0, []⟩ by simp [List.getD, h]]
      exact ⟨by simp, fun x hx => by simp at hx⟩
theorem rnd_len (ok : σ.Ok) (g : Good σ) : ∀ (d : Nat) (o : Ob), Obg o → (rnd σ d o).length ≤ bnd d
  | 0, o, ho => by
    have h1 := rndHead_len o
    have h2 := decL_len o.ac
    have h3 := decL_len o.n
    have h4 := decL_len ((σ.itemsF o).1.length : Int)
    have h5 := decL_len (σ.accessF o)
    have h6 := decL_len (σ.sizeF o).1.1
    have h7 := decL_len (σ.sizeF o).1.2
    have h8 := bytesF_len ok o
    have h9 : o.nm.data.toList.length ≤ 200 := ho.nm
    unfold rnd bnd
    split
    · simp only [List.length_append, List.length_singleton]; omega
    · split
      · simp only [List.length_append, List.length_singleton]; omega
      · split
        · simp only [List.length_append, List.length_singleton]; omega
        · simp only [List.length_append, List.length_singleton]; omega
  | d + 1, o, ho => by
    have h1 := rndHead_len o
    have h2 := decL_len o.ac
    have h3 := decL_len o.n
    have h4 := decL_len ((σ.itemsF o).1.length : Int)
    have h5 := decL_len (σ.accessF o)
    have h6 := decL_len (σ.sizeF o).1.1
    have h7 := decL_len (σ.sizeF o).1.2
    have h8 := bytesF_len ok o
    have h9 : o.nm.data.toList.length ≤ 200 := ho.nm
    obtain ⟨i1, i2⟩ := itemsF_good g o
    obtain ⟨p1, p2⟩ := pairsF_good ok g o
    have b1 := flatMap_bound (f := fun x => rnd σ d x ++ [32]) (c := 2 * bnd d + 2) (σ.itemsF o).1 (fun x hx => by
      have := rnd_len ok g d x (i2 x hx)
      rw [List.length_append, List.length_singleton]; omega)
    have b2 := flatMap_bound (f := fun q => rnd σ d q.1 ++ [61] ++ rnd σ d q.2 ++ [32]) (c := 2 * bnd d + 2) (σ.pairsF o) (fun q hq => by
      have k1 := rnd_len ok g d q.1 (p2 q hq).1
      have k2 := rnd_len ok g d q.2 (p2 q hq).2
      simp only [List.length_append, List.length_singleton]; omega)
    have m1 : (σ.itemsF o).1.length * (2 * bnd d + 2) ≤ 300 * (2 * bnd d + 2) := Nat.mul_le_mul_right _ i1
    have m2 : (σ.pairsF o).length * (2 * bnd d + 2) ≤ 300 * (2 * bnd d + 2) := Nat.mul_le_mul_right _ p1
    have z : bnd (d + 1) = 300 * (2 * bnd d + 2) + 66000 := rfl
    rw [z]
    generalize 300 * (2 * bnd d + 2) = M at m1 m2 ⊢
    unfold rnd
    split
    · simp only [List.length_append, List.length_singleton]; omega
    · split
      · simp only [List.length_append, List.length_singleton]; omega
      · split
        · simp only [List.length_append, List.length_singleton]; omega
        · simp only [List.length_append, List.length_singleton]; omega
end
end Go.Proofs.Ythhckledkhcfeaa
