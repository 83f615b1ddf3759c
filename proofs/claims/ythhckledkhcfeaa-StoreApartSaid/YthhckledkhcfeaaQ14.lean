/- What StoreApart's acts keep: no marks, no changes, short lists and names. The saves: where Save, Restore, Alive refuse. Going back: what it makes of the store's data. (*Store).Back, over the undoing of each change. -/
import Derived.Deep.LoopGhost
import Derived.Test.YthhckledkhcfeaaQ08
import Derived.Test.YthhckledkhcfeaaQ09
import Derived.Test.YthhckledkhcfeaaQ11
import Derived.Test.YthhckledkhcfeaaQ12
import Derived.Test.YthhckledkhcfeaaQ13
namespace Go.Proofs.Ythhckledkhcfeaa
open Go.RowKit
theorem info_Val : (Try.prog.info? 69).map (fun i => (i.zero, i.size, i.bytes)) = some (some (.agg #[.int .i64 0, .bool false, .int .i64 0, .int .i64 0, .string ByteArray.empty, .pointer none, .pointer none, .pointer none, .int .i64 0, .int .i64 0]), 10, 88) := by kernel_rfl
abbrev Vl.zero : Vl := .plain 0 false 0 ByteArray.empty
theorem vlCells_null (n : Nat) : (List.replicate n Vl.zero.cells).flatten = (List.replicate n Vl.zero).flatMap Vl.cells := by
  induction n with
  | zero => rfl
  | succ n ih => simp only [List.replicate_succ, List.flatten_cons, ih, List.flatMap_cons]
structure Obg (o : Ob) : Prop where
  wf : o.Wf
  nm : o.nm.size ≤ 200
theorem i64_zero : I64 0 := ⟨by decide, by decide⟩
theorem Obg.null : Obg Ob.null := ⟨⟨i64_zero, i64_zero, i64_zero, i64_zero, i64_zero, i64_zero⟩, by decide⟩
structure Good (σ : St) : Prop where
  marks : σ.marks = []
  changes : σ.changes = []
  lists : ∀ l ∈ σ.lists, l.length ≤ 300 ∧ ∀ o ∈ l, Obg o
  dicts : ∀ d ∈ σ.dicts, d.most ≤ 300 ∧ I64 d.access ∧ ∀ q ∈ d.pairs, Obg q.1 ∧ Obg q.2
section
variable {σ : St}
theorem Good.noted (g : Good σ) (c : Chg) : σ.noted c = σ := by
  unfold St.noted
  rw [if_pos (by rw [g.marks]; rfl)]
theorem mem_set_ {α : Type} {l : List α} {i : Nat} {a b : α} (h : b ∈ l.set i a) : b ∈ l ∨ b = a := List.mem_or_eq_of_mem_set h
theorem Good.putF (g : Good σ) {x : Ob} (hx : Obg x) (o : Ob) (i : Int) : Good (σ.putF o i x).1 := by
  unfold St.putF
  split
  · exact g
  · split
    · exact g
    · rw [g.noted]
      refine ⟨g.marks, g.changes, fun l hl => ?_, g.dicts⟩
      rcases mem_set_ hl with h | rfl
      · exact g.lists l h
      · have hq : ∀ q : Nat, (σ.lists.getD q []).length ≤ 300 ∧ ∀ o ∈ σ.lists.getD q [], Obg o := fun q => by
          rcases Nat.lt_or_ge q σ.lists.length with h | h
          · rw [show σ.lists.getD q [] = σ.lists[q] by simp [List.getD, h]]
            exact g.lists _ (List.getElem_mem h)
          · rw [show σ.lists.getD q [] = [] by simp [List.getD, h]]
            exact ⟨by simp, fun o ho => by simp at ho⟩
        refine ⟨by rw [List.length_set]; exact (hq _).1, fun y hy => ?_⟩
        rcases mem_set_ hy with h | rfl
        · exact (hq _).2 y h
        · exact hx
theorem Good.writeF (g : Good σ) (o : Ob) (a : Int) (bs : List UInt8) : Good (σ.writeF o a bs).1 := by
  unfold St.writeF
  split
  · exact g
  · split
    · exact g
    · exact ⟨g.marks, g.changes, g.lists, g.dicts⟩
theorem Good.dict (g : Good σ) (q : Nat) : (σ.dicts.getD q ⟨0, 0, []⟩).most ≤ 300 ∧ I64 (σ.dicts.getD q ⟨0, 0, []⟩).access ∧ ∀ u ∈ (σ.dicts.getD q ⟨0, 0, []⟩).pairs, Obg u.1 ∧ Obg u.2 := by
  rcases Nat.lt_or_ge q σ.dicts.length with h | h
  · rw [show σ.dicts.getD q ⟨0, 0, []⟩ = σ.dicts[q] by simp [List.getD, h]]
    exact g.dicts _ (List.getElem_mem h)
  · rw [show σ.dicts.getD q ⟨0, 0, []⟩ = ⟨0, 0, []⟩ by simp [List.getD, h]]
    exact ⟨by decide, ⟨by decide, by decide⟩, fun u hu => by simp at hu⟩
theorem Good.setDict_ (g : Good σ) (r : Nat) {D : Dc} (h1 : D.most ≤ 300) (h2 : I64 D.access) (h3 : ∀ u ∈ D.pairs, Obg u.1 ∧ Obg u.2) : Good { σ with dicts := σ.dicts.set r D } :=
  ⟨g.marks, g.changes, g.lists, fun d hd => by
    rcases mem_set_ hd with h | rfl
    · exact g.dicts d h
    · exact ⟨h1, h2, h3⟩⟩
theorem Good.lockF (g : Good σ) (d : Ob) (q : Int) : Good (σ.lockF d q).1 := by
  unfold St.lockF
  split
  · exact g
  · rename_i h
    rw [g.noted]
    obtain ⟨h1, h2, h3⟩ := g.dict d.rf.toNat
    exact g.setDict_ _ h1 ⟨by dsimp only; omega, by dsimp only; omega⟩ h3
theorem Good.dropF (g : Good σ) (d k : Ob) : Good (σ.dropF d k).1 := by
  unfold St.dropF
  split
  · exact g
  · split
    · exact g
    · unfold St.dropD
      split
      · rw [g.noted]
        obtain ⟨h1, h2, h3⟩ := g.dict d.rf.toNat
        exact g.setDict_ _ h1 h2 fun u hu => h3 u (List.mem_of_mem_eraseIdx hu)
      · exact g
theorem Good.setF (g : Good σ) (d k x : Ob) (hk : Obg (σ.key k).1) (hx : Obg x) : Good (σ.setF d k x).1 := by
  unfold St.setF
  split
  · exact g
  · split
    · exact g
    · obtain ⟨h1, h2, h3⟩ := g.dict d.rf.toNat
      unfold St.setD
      split
      · rw [g.noted]
        refine g.setDict_ _ h1 h2 fun u hu => ?_
        rcases mem_set_ hu with h | rfl
        · exact h3 u h
        · refine ⟨?_, hx⟩
          generalize (idxOf (isKey (σ.key k).1) (σ.dicts.getD d.rf.toNat ⟨0, 0, []⟩).pairs).toNat = q
          generalize (σ.dicts.getD d.rf.toNat ⟨0, 0, []⟩).pairs = ps at h3 ⊢
          rcases Nat.lt_or_ge q ps.length with h | h
          · rw [show ps.getD q (Ob.null, Ob.null) = ps[q] by simp [List.getD, h]]
            exact (h3 _ (List.getElem_mem h)).1
          · rw [show ps.getD q (Ob.null, Ob.null) = (Ob.null, Ob.null) by simp [List.getD, h]]
            exact Obg.null
      · split
        · exact g
        · rw [g.noted]
          refine g.setDict_ _ h1 h2 fun u hu => ?_
          rcases List.mem_append.1 hu with h | h
          · exact h3 u h
          · rw [List.mem_singleton.1 h]; exact ⟨hk, hx⟩
theorem Good.stringF (g : Good σ) (n : Int) : Good (σ.stringF n).2 := by
  unfold St.stringF
  split
  · exact g
  · exact ⟨g.marks, g.changes, g.lists, g.dicts⟩
theorem Good.textF (g : Good σ) (bs : List UInt8) : Good (σ.textF bs).2 := by
  unfold St.textF
  split
  · exact g
  · exact ⟨g.marks, g.changes, g.lists, g.dicts⟩
theorem Good.arrayF (g : Good σ) (n : Int) (hn : n ≤ 300) : Good (σ.arrayF n).2 := by
  unfold St.arrayF
  split
  · exact g
  · refine ⟨g.marks, g.changes, fun l hl => ?_, g.dicts⟩
    rcases List.mem_append.1 hl with h | h
    · exact g.lists l h
    · rw [List.mem_singleton.1 h]
      exact ⟨by simp; omega, fun o ho => by rw [List.eq_of_mem_replicate ho]; exact Obg.null⟩
theorem Good.dictF (g : Good σ) (n : Int) (hn : n ≤ 300) : Good (σ.dictF n).2 := by
  unfold St.dictF
  split
  · exact g
  · refine ⟨g.marks, g.changes, g.lists, fun d hd => ?_⟩
    rcases List.mem_append.1 hd with h | h
    · exact g.dicts d h
    · rw [List.mem_singleton.1 h]
      exact ⟨hn, i64_zero, fun q hq => by simp at hq⟩
theorem Obg.key {k : Ob} (h : Obg k) : Obg (σ.key k).1 := by
  unfold St.key
  split
  · exact Obg.null
  · split
    · exact Obg.null
    · split
      · split
        · exact Obg.null
        · refine ⟨⟨show I64 5 from ⟨by decide, by decide⟩, i64_zero, i64_zero, i64_zero, i64_zero, i64_zero⟩, ?_⟩
          show ((σ.shows k).toArray.size) ≤ 200
          unfold St.shows
          simp
          omega
      · split
        · refine ⟨⟨show I64 1 from ⟨by decide, by decide⟩, i64_zero, ?_, i64_zero, i64_zero, i64_zero⟩, show ByteArray.empty.size ≤ 200 by decide⟩
          obtain ⟨h1, h2⟩ := h.wf.n
          show I64 (k.n.tdiv 65536)
          constructor
          · rcases Int.le_total 0 k.n with h0 | h0
            · have := Int.tdiv_nonneg h0 (show (0 : Int) ≤ 65536 by decide); omega
            · have e : k.n = -(-k.n) := by omega
              rw [e, Int.neg_tdiv, Int.tdiv_eq_ediv_of_nonneg (by omega)]; omega
          · rcases Int.le_total 0 k.n with h0 | h0
            · rw [Int.tdiv_eq_ediv_of_nonneg h0]; omega
            · have e : k.n = -(-k.n) := by omega
              rw [e, Int.neg_tdiv, Int.tdiv_eq_ediv_of_nonneg (by omega)]; omega
        · exact ⟨⟨h.wf.k, i64_zero, h.wf.n, h.wf.rf, h.wf.fr, h.wf.ln⟩, h.nm⟩
theorem St.Ok.bounds (ok : σ.Ok) : σ.texts.length ≤ 1048576 ∧ σ.lists.length ≤ 1048576 ∧ σ.dicts.length ≤ 1048576 := by
  have h1 := ok.room
  have h2 := ok.free0
  omega
theorem Obg.made (k rf ln : Int) (hk : I64 k) (hr : I64 rf) (hl : I64 ln) : Obg ⟨k, false, 0, 0, ByteArray.empty, rf, 0, ln⟩ :=
  ⟨⟨hk, i64_zero, i64_zero, hr, i64_zero, hl⟩, show ByteArray.empty.size ≤ 200 by decide⟩
theorem Obg.stringF (ok : σ.Ok) (n : Int) : Obg (σ.stringF n).1.1 := by
  obtain ⟨h1, h2, h3⟩ := ok.bounds
  unfold St.stringF
  split
  · exact Obg.null
  · exact Obg.made 6 _ _ ⟨by decide, by decide⟩ ⟨by omega, by omega⟩ ⟨by omega, by omega⟩
theorem Obg.arrayF (ok : σ.Ok) (n : Int) : Obg (σ.arrayF n).1.1 := by
  obtain ⟨h1, h2, h3⟩ := ok.bounds
  unfold St.arrayF
  split
  · exact Obg.null
  · exact Obg.made 7 _ _ ⟨by decide, by decide⟩ ⟨by omega, by omega⟩ ⟨by omega, by omega⟩
theorem Obg.dictF (ok : σ.Ok) (n : Int) : Obg (σ.dictF n).1.1 := by
  obtain ⟨h1, h2, h3⟩ := ok.bounds
  unfold St.dictF
  split
  · exact Obg.null
  · exact Obg.made 8 _ _ ⟨by decide, by decide⟩ ⟨by omega, by omega⟩ i64_zero
theorem Obg.textF (ok : σ.Ok) (bs : List UInt8) : Obg (σ.textF bs).1.1 := by
  obtain ⟨h1, h2, h3⟩ := ok.bounds
  unfold St.textF
  split
  · exact Obg.null
  · exact Obg.made 6 _ _ ⟨by decide, by decide⟩ ⟨by omega, by omega⟩ ⟨by omega, by omega⟩
theorem Obg.partF {w : World} {p : Nat} {h : Hd} {ρ : Roles} (s : Sto w p σ h ρ) {o : Ob} (ho : Obg o) (a m : Int) : Obg (σ.partF o a m).1 := by
  unfold St.partF
  split
  · exact Obg.null
  · rename_i h1
    split
    · exact Obg.null
    · rename_i h2
      have hk : o.k = 6 ∨ o.k = 7 := by
        rcases Decidable.em (o.k = 6) with q | q
        · exact .inl q
        · rcases Decidable.em (o.k = 7) with q2 | q2
          · exact .inr q2
          · exact absurd (.inl ⟨q, q2⟩) h1
      have hv : σ.valid o = true := by cases hq : σ.valid o with | true => rfl | false => exact absurd (.inr hq) h1
      obtain ⟨b1, b2, b3⟩ := valid_bounds s hk hv
      exact ⟨⟨ho.wf.k, ho.wf.ac, ho.wf.n, ho.wf.rf, ⟨by dsimp only; omega, by dsimp only; omega⟩, ⟨by dsimp only; omega, by dsimp only; omega⟩⟩, ho.nm⟩
theorem Obg.plain (n : Nat) (hn : n < 100) : Obg (plainF n).1 := by
  have mk := fun (k : Int) (x : Bool) (v : Int) (nm : ByteArray) (hk : I64 k) (hv : I64 v) (hs : nm.size ≤ 200) => (⟨⟨hk, i64_zero, hv, i64_zero, i64_zero, i64_zero⟩, hs⟩ : Obg ⟨k, x, 0, v, nm, 0, 0, 0⟩)
  have he : ByteArray.empty.size ≤ 200 := by decide
  unfold plainF
  split
  · exact Obg.null
  · split
    · exact mk 1 _ _ _ ⟨by decide, by decide⟩ ⟨by omega, by omega⟩ he
    · split
      · exact mk 2 _ _ _ ⟨by decide, by decide⟩ ⟨by omega, by omega⟩ he
      · split
        · refine mk 5 _ _ _ ⟨by decide, by decide⟩ i64_zero ?_
          have := decL_len (n : Int)
          show (110 :: decL n).toArray.size ≤ 200
          simp
          omega
        · split
          · exact mk 3 _ _ _ ⟨by decide, by decide⟩ ⟨by decide, by decide⟩ he
          · exact mk 4 _ _ _ ⟨by decide, by decide⟩ i64_zero he
theorem Obg.pick {L : List Ob} (hL : ∀ o ∈ L, Obg o) (V : List Vl) (k : Int) : Obg (pickF L V k).1 := by
  unfold pickF
  split
  · generalize natK k % L.length = q
    rcases Nat.lt_or_ge q L.length with h | h
    · rw [show L.getD q Ob.null = L[q] by simp [List.getD, h]]
      exact hL _ (List.getElem_mem h)
    · rw [show L.getD q Ob.null = Ob.null by simp [List.getD, h]]
      exact Obg.null
  · exact Obg.plain _ (Nat.mod_lt _ (by decide))
end
end Go.Proofs.Ythhckledkhcfeaa
namespace Go.Proofs.Ythhckledkhcfeaa
open Go.RowKit
section
variable {w w' : World} {v p : Nat} {σ : St} {h : Hd} {ρ : Roles} {t : Sl} {l : List (Int × Int)} {last : Int}
theorem save_nil (w : World) : Calls Try.prog 19 #[.pointer none] w fun e w' => e = .returned (.tuple #[zeroO, .int .i64 21]) ∧ Ext w w' := by
  go_enter Try.func19, Try.ntmps19
  go_wp2_with (go_at_call 65; refine (none_nil _).mono ?_; rintro e w1 ⟨rfl, rfl⟩)
  refine bodyPost_ret (res_ct rfl rfl (Blk.new w 27 _) Try.underlying27 (by kernel_rfl)) rfl ⟨rfl, (Ext.rfl_ w).alloc_ _⟩
theorem save_empty {v : Nat} {c1 c2 : Value} (h : Blk w v 128 [.pointer none, c1, c2]) : Calls Try.prog 19 #[.pointer (some ⟨v, 0, none⟩)] w fun e w' => e = .returned (.tuple #[zeroO, .int .i64 21]) ∧ Ext w w' := by
  go_enter Try.func19, Try.ntmps19
  go_wp2_with (go_at_call 65; refine (none_empty (h.alloc _)).mono ?_; rintro e w1 ⟨rfl, rfl⟩)
  refine bodyPost_ret (res_ct rfl rfl (Blk.new w 27 _) Try.underlying27 (by kernel_rfl)) rfl ⟨rfl, (Ext.rfl_ w).alloc_ _⟩
/-- Alive. -/
theorem alive_of {q : Option Addr} {i : Int} {k : Int} {x : Bool} {ac n : Int} {nm : ByteArray} {rf fr ln : Int} {b : Bool}
    (hat : Calls Try.prog 67 #[.pointer q, .agg #[.int .i64 k, .bool x, .int .i64 ac, .int .i64 n, .string nm, .int .i64 rf, .int .i64 fr, .int .i64 ln]] (w.alloc (.cells #[.int .i64 k, .bool x, .int .i64 ac, .int .i64 n, .string nm, .int .i64 rf, .int .i64 fr, .int .i64 ln] 27)) fun e w' => e = .returned (.int .i64 i) ∧ Ext (w.alloc (.cells #[.int .i64 k, .bool x, .int .i64 ac, .int .i64 n, .string nm, .int .i64 rf, .int .i64 fr, .int .i64 ln] 27)) w') (hb : decide (0 ≤ i) = b) :
    Calls Try.prog 23 #[.pointer q, .agg #[.int .i64 k, .bool x, .int .i64 ac, .int .i64 n, .string nm, .int .i64 rf, .int .i64 fr, .int .i64 ln]] w fun e w' => e = .returned (.bool b) ∧ Ext w w' := by
  subst hb
  go_enter Try.func23, Try.ntmps23
  go_wp2_with (go_at_call 67; refine hat.mono ?_; rintro e w1 ⟨rfl, hx1⟩)
  go_ret
  exact ⟨rfl, ((Ext.rfl_ w).alloc_ _).trans_ hx1⟩
/-- Restore, where there is nothing. -/
theorem restore_no {q : Option Addr} {i : Int} {k : Int} {x : Bool} {ac n : Int} {nm : ByteArray} {rf fr ln : Int} {b : Bool} {r : Int} (W : World)
    (hat : ∀ W', Ext W W' → Calls Try.prog 67 #[.pointer q, .agg #[.int .i64 k, .bool x, .int .i64 ac, .int .i64 n, .string nm, .int .i64 rf, .int .i64 fr, .int .i64 ln]] W' fun e w' => e = .returned (.int .i64 i) ∧ Ext W' w')
    (hno : ∀ W', Ext W W' → Calls Try.prog 65 #[.pointer q] W' fun e w' => e = .returned (.bool b) ∧ W' = w') (hr : (b = true ∧ r = 21) ∨ (b = false ∧ (k != 10) = true ∧ r = 16) ∨ (b = false ∧ (k != 10) = false ∧ i < 0 ∧ r = 8)) :
    Calls Try.prog 21 #[.pointer q, .agg #[.int .i64 k, .bool x, .int .i64 ac, .int .i64 n, .string nm, .int .i64 rf, .int .i64 fr, .int .i64 ln], .slice none 0 0] W fun e w' => e = .returned (.int .i64 r) ∧ Ext W w' := by
  have hAt := Lib.hid hat
  have hNo := Lib.hid hno
  clear hat hno
  rcases hr with ⟨rfl, rfl⟩ | ⟨rfl, h1, rfl⟩ | ⟨rfl, h1, h2, rfl⟩
  all_goals
    go_enter Try.func21, Try.ntmps21
    go_upto_region 1 with fail
    generalize hX : World.alloc (World.alloc W _) _ = X
    have hB3 := (Blk.new W 37 [.pointer q]).alloc (.cells #[.int .i64 k, .bool x, .int .i64 ac, .int .i64 n, .string nm, .int .i64 rf, .int .i64 fr, .int .i64 ln] 27)
    have hB4 := Blk.new1 W (.cells #[.pointer q] 37) 27 [.int .i64 k, .bool x, .int .i64 ac, .int .i64 n, .string nm, .int .i64 rf, .int .i64 fr, .int .i64 ln]
    have hx : Ext W X := by rw [← hX]; exact ((Ext.rfl_ W).alloc_ _).alloc_ _
    rw [hX] at hB3 hB4
    clear hX
    have hc3 := hB3.cell
    have hc4 := hB4.cell
    go_upto_region 2 with (go_at_call 67; refine (hAt.out X hx).mono ?_; rintro e w1 ⟨rfl, hx1⟩)
    have hc3' := (hB3.ext hx1).cell
    have hc4' := (hB4.ext hx1).cell
    clear hc3 hc4
    go_wp2_with (go_at_call 65; refine (hNo.out w1 (hx.trans_ hx1)).mono ?_; rintro e w2 ⟨rfl, rfl⟩)
    go_ret
    exact ⟨rfl, hx.trans_ hx1⟩
set_option maxRecDepth 100000 in
/-- The law layer answers() of the saves. -/
theorem answers6 (w : World) : Calls Try.prog 20 #[] w fun e w' => e = .returned (.bool true) ∧ Ext w w' := by
  go_enter Try.func20, Try.ntmps20
  go_upto_region 2 with (
    go_at_call 12
    refine (new_ok 50 w (by omega) (by omega)).mono ?_
    rintro e w1 ⟨rfl, s1, hx1⟩)
  go_upto_region 3 with (
    go_at_call 18
    refine (saveNew w1 _).mono ?_
    rintro e w2 ⟨rfl, b2, hx2⟩)
  have hv : Sv w2 w1.heap.size w.heap.size (.empty 50) .empty (.one w.heap.size) .nil [] 0 :=
    ⟨s1.ext hx2, Sav.new_ b2, s1.fresh (Nat.le_refl _), fun g hg => by simp [Sl.blk] at hg, by simp [Sl.blk]⟩
  go_upto_region 4 with (
    go_at_call 19
    refine (save_ok hv (by simp) (by simp [St.empty]) (by omega)).mono ?_
    rintro e w3 ⟨rfl, h3, ρ3, t3, s3, hm3⟩)
  have hw1 := hx1.size
  have hxw : Ext w w3 := (Moves.ext_left (hx1.trans_ hx2) hm3).below (B := w.heap.size) (fun b hb => by
    rcases hb with hb | hb | hb
    · rw [Roles.one_own hb]; exact Nat.le_refl _
    · rw [hb]; exact hw1
    · simp [Sl.blk] at hb) (Nat.le_refl _)
  have hHs := Lib.hid s3
  clear s3 hm3 hv b2
  go_wp2_with (first
    | (go_at_call 22; refine (depth_c (hHs.out.sav.ext ((Ext.rfl_ w3).alloc_ _))).mono ?_; rintro e w4 ⟨rfl, rfl⟩)
    | (go_at_call 23; refine (alive_of (b := true) (at_save (hHs.out.sav.ext (((Ext.rfl_ w3).alloc_ _).alloc_ _)) 10 false 0 1 ByteArray.empty 0 0 0 rfl) (by rfl)).mono ?_; rintro e w4 ⟨rfl, hx4⟩))
  go_ret
  exact ⟨rfl, (hxw.alloc_ _).trans_ hx4⟩
end
end Go.Proofs.Ythhckledkhcfeaa
namespace Go.Proofs.Ythhckledkhcfeaa
open Go.RowKit
theorem take_some {α : Type} {l : List α} {m i : Nat} {a : α} (h : (l.take m)[i]? = some a) : l[i]? = some a := by
  rw [List.getElem?_take] at h
  split at h
  · exact h
  · cases h
theorem take_flat {α β : Type} (f : α → List β) (k : Nat) (hf : ∀ a, (f a).length = k) (l : List α) (m : Nat) : (l.flatMap f).take (m * k) = (l.take m).flatMap f := by
  induction m generalizing l with
  | zero => simp
  | succ m ih =>
    cases l with
    | nil => simp
    | cons a l =>
      rw [List.take_succ_cons, List.flatMap_cons, List.flatMap_cons, show (m + 1) * k = k + m * k by rw [Nat.add_mul]; omega, List.take_add, List.take_append_of_le_length (by rw [hf]; exact Nat.le_refl _), List.take_of_length_le (by rw [hf]; exact Nat.le_refl _), List.drop_append_of_le_length (by rw [hf]; exact Nat.le_refl _), List.drop_of_length_le (by rw [hf]; exact Nat.le_refl _), List.nil_append, ih]
theorem Sto.cutTexts {w : World} {p : Nat} {σ : St} {h : Hd} {ρ : Roles} (s : Sto w p σ h ρ) {m : Nat} (hm : m ≤ σ.texts.length) :
    Sto (w.setCell ⟨p, 1, none⟩ (.slice h.texts.a m h.texts.c)) p { σ with texts := σ.texts.take m } { h with texts := ⟨h.texts.a, m, h.texts.c⟩, ts := h.ts.take m } ρ := by
  have hn : m ≤ h.texts.n := by rw [s.ntexts]; exact hm
  have u : Upd w (w.setCell ⟨p, 1, none⟩ (.slice h.texts.a m h.texts.c)) ρ ρ (fun r => r = .main) :=
    ⟨fun b r hb hr => ⟨Below.heap_setCell _ _ _ _ (by rintro rfl; rw [s.rmain] at hb; injection hb with hb; exact hr hb.symm), hb⟩, fun b hb => by simpa using s.bound b hb⟩
  exact {
    ok := ⟨s.ok.free0, by have := s.ok.room; simp only [List.length_take]; omega, fun t ht => s.ok.text t (List.mem_of_mem_take ht), s.ok.list, s.ok.dict, s.ok.nchg, s.ok.nmark⟩
    main := s.main.set_ 1 _
    rmain := s.rmain
    texts := by have := (u.row s.texts s.rtexts (by simp)).cut hn; rw [Nat.mul_one] at this; simpa [slVals, List.map_take] using this
    rtexts := fun g hg => s.rtexts g hg
    lists := u.row s.lists s.rlists (by simp)
    rlists := s.rlists
    dicts := u.row s.dicts s.rdicts (by simp)
    rdicts := s.rdicts
    changes := u.row s.changes s.rchanges (by simp)
    rchanges := s.rchanges
    marks := u.row s.marks s.rmarks (by simp)
    rmarks := s.rmarks
    nts := by have := s.nts; simp only [List.length_take]; omega
    nls := s.nls
    nds := s.nds
    ts := fun i v b h1 h2 => have ⟨a, c⟩ := s.ts i v b (take_some h1) (take_some h2); ⟨u.row a c (by simp), c⟩
    ls := fun i v b h1 h2 => have ⟨a, c⟩ := s.ls i v b h1 h2; ⟨u.row a c (by simp), c⟩
    ds := fun i v b h1 h2 => have ⟨a, c, d, e⟩ := s.ds i v b h1 h2; ⟨u.blk a c (by simp), c, u.row d e (by simp), e⟩
    bound := u.bound }
theorem Sto.cutLists {w : World} {p : Nat} {σ : St} {h : Hd} {ρ : Roles} (s : Sto w p σ h ρ) {m : Nat} (hm : m ≤ σ.lists.length) :
    Sto (w.setCell ⟨p, 2, none⟩ (.slice h.lists.a m h.lists.c)) p { σ with lists := σ.lists.take m } { h with lists := ⟨h.lists.a, m, h.lists.c⟩, ls := h.ls.take m } ρ := by
  have hn : m ≤ h.lists.n := by rw [s.nlists]; exact hm
  have u : Upd w (w.setCell ⟨p, 2, none⟩ (.slice h.lists.a m h.lists.c)) ρ ρ (fun r => r = .main) :=
    ⟨fun b r hb hr => ⟨Below.heap_setCell _ _ _ _ (by rintro rfl; rw [s.rmain] at hb; injection hb with hb; exact hr hb.symm), hb⟩, fun b hb => by simpa using s.bound b hb⟩
  exact {
    ok := ⟨s.ok.free0, by have := s.ok.room; simp only [List.length_take]; omega, s.ok.text, fun t ht => s.ok.list t (List.mem_of_mem_take ht), s.ok.dict, s.ok.nchg, s.ok.nmark⟩
    main := s.main.set_ 2 _
    rmain := s.rmain
    texts := u.row s.texts s.rtexts (by simp)
    rtexts := s.rtexts
    lists := by have := (u.row s.lists s.rlists (by simp)).cut hn; rw [Nat.mul_one] at this; simpa [slVals, List.map_take] using this
    rlists := fun g hg => s.rlists g hg
    dicts := u.row s.dicts s.rdicts (by simp)
    rdicts := s.rdicts
    changes := u.row s.changes s.rchanges (by simp)
    rchanges := s.rchanges
    marks := u.row s.marks s.rmarks (by simp)
    rmarks := s.rmarks
    nts := s.nts
    nls := by have := s.nls; simp only [List.length_take]; omega
    nds := s.nds
    ts := fun i v b h1 h2 => have ⟨a, c⟩ := s.ts i v b h1 h2; ⟨u.row a c (by simp), c⟩
    ls := fun i v b h1 h2 => have ⟨a, c⟩ := s.ls i v b (take_some h1) (take_some h2); ⟨u.row a c (by simp), c⟩
    ds := fun i v b h1 h2 => have ⟨a, c, d, e⟩ := s.ds i v b h1 h2; ⟨u.blk a c (by simp), c, u.row d e (by simp), e⟩
    bound := u.bound }
theorem Sto.cutDicts {w : World} {p : Nat} {σ : St} {h : Hd} {ρ : Roles} (s : Sto w p σ h ρ) {m : Nat} (hm : m ≤ σ.dicts.length) :
    Sto (w.setCell ⟨p, 3, none⟩ (.slice h.dicts.a m h.dicts.c)) p { σ with dicts := σ.dicts.take m } { h with dicts := ⟨h.dicts.a, m, h.dicts.c⟩, ds := h.ds.take m } ρ := by
  have hn : m ≤ h.dicts.n := by rw [s.ndicts]; exact hm
  have u : Upd w (w.setCell ⟨p, 3, none⟩ (.slice h.dicts.a m h.dicts.c)) ρ ρ (fun r => r = .main) :=
    ⟨fun b r hb hr => ⟨Below.heap_setCell _ _ _ _ (by rintro rfl; rw [s.rmain] at hb; injection hb with hb; exact hr hb.symm), hb⟩, fun b hb => by simpa using s.bound b hb⟩
  exact {
    ok := ⟨s.ok.free0, by have := s.ok.room; simp only [List.length_take]; omega, s.ok.text, s.ok.list, fun t ht => s.ok.dict t (List.mem_of_mem_take ht), s.ok.nchg, s.ok.nmark⟩
    main := s.main.set_ 3 _
    rmain := s.rmain
    texts := u.row s.texts s.rtexts (by simp)
    rtexts := s.rtexts
    lists := u.row s.lists s.rlists (by simp)
    rlists := s.rlists
    dicts := by have := (u.row s.dicts s.rdicts (by simp)).cut hn; rw [Nat.mul_one] at this; simpa [ptrVals, List.map_take] using this
    rdicts := fun g hg => s.rdicts g hg
    changes := u.row s.changes s.rchanges (by simp)
    rchanges := s.rchanges
    marks := u.row s.marks s.rmarks (by simp)
    rmarks := s.rmarks
    nts := s.nts
    nls := s.nls
    nds := by have := s.nds; simp only [List.length_take]; omega
    ts := fun i v b h1 h2 => have ⟨a, c⟩ := s.ts i v b h1 h2; ⟨u.row a c (by simp), c⟩
    ls := fun i v b h1 h2 => have ⟨a, c⟩ := s.ls i v b h1 h2; ⟨u.row a c (by simp), c⟩
    ds := fun i v b h1 h2 => have ⟨a, c, d, e⟩ := s.ds i v b (take_some h1) (take_some h2); ⟨u.blk a c (by simp), c, u.row d e (by simp), e⟩
    bound := u.bound }
theorem Sto.cutChanges {w : World} {p : Nat} {σ : St} {h : Hd} {ρ : Roles} (s : Sto w p σ h ρ) {m : Nat} (hm : m ≤ σ.changes.length) :
    Sto (w.setCell ⟨p, 4, none⟩ (.slice h.changes.a m h.changes.c)) p { σ with changes := σ.changes.take m } { h with changes := ⟨h.changes.a, m, h.changes.c⟩ } ρ := by
  have hn : m ≤ h.changes.n := by rw [s.nchanges]; exact hm
  have u : Upd w (w.setCell ⟨p, 4, none⟩ (.slice h.changes.a m h.changes.c)) ρ ρ (fun r => r = .main) :=
    ⟨fun b r hb hr => ⟨Below.heap_setCell _ _ _ _ (by rintro rfl; rw [s.rmain] at hb; injection hb with hb; exact hr hb.symm), hb⟩, fun b hb => by simpa using s.bound b hb⟩
  exact {
    ok := ⟨s.ok.free0, s.ok.room, s.ok.text, s.ok.list, s.ok.dict, by have := s.ok.nchg; simp only [List.length_take]; omega, s.ok.nmark⟩
    main := s.main.set_ 4 _
    rmain := s.rmain
    texts := u.row s.texts s.rtexts (by simp)
    rtexts := s.rtexts
    lists := u.row s.lists s.rlists (by simp)
    rlists := s.rlists
    dicts := u.row s.dicts s.rdicts (by simp)
    rdicts := s.rdicts
    changes := by have := (u.row s.changes s.rchanges (by simp)).cut hn; rw [take_flat _ 19 length_chg] at this; exact this
    rchanges := fun g hg => s.rchanges g hg
    marks := u.row s.marks s.rmarks (by simp)
    rmarks := s.rmarks
    nts := s.nts
    nls := s.nls
    nds := s.nds
    ts := fun i v b h1 h2 => have ⟨a, c⟩ := s.ts i v b h1 h2; ⟨u.row a c (by simp), c⟩
    ls := fun i v b h1 h2 => have ⟨a, c⟩ := s.ls i v b h1 h2; ⟨u.row a c (by simp), c⟩
    ds := fun i v b h1 h2 => have ⟨a, c, d, e⟩ := s.ds i v b h1 h2; ⟨u.blk a c (by simp), c, u.row d e (by simp), e⟩
    bound := u.bound }
theorem Sto.cutMarks {w : World} {p : Nat} {σ : St} {h : Hd} {ρ : Roles} (s : Sto w p σ h ρ) {m : Nat} (hm : m ≤ σ.marks.length) :
    Sto (w.setCell ⟨p, 5, none⟩ (.slice h.marks.a m h.marks.c)) p { σ with marks := σ.marks.take m } { h with marks := ⟨h.marks.a, m, h.marks.c⟩ } ρ := by
  have hn : m ≤ h.marks.n := by rw [s.nmarks]; exact hm
  have u : Upd w (w.setCell ⟨p, 5, none⟩ (.slice h.marks.a m h.marks.c)) ρ ρ (fun r => r = .main) :=
    ⟨fun b r hb hr => ⟨Below.heap_setCell _ _ _ _ (by rintro rfl; rw [s.rmain] at hb; injection hb with hb; exact hr hb.symm), hb⟩, fun b hb => by simpa using s.bound b hb⟩
  exact {
    ok := ⟨s.ok.free0, s.ok.room, s.ok.text, s.ok.list, s.ok.dict, s.ok.nchg, by have := s.ok.nmark; simp only [List.length_take]; omega⟩
    main := s.main.set_ 5 _
    rmain := s.rmain
    texts := u.row s.texts s.rtexts (by simp)
    rtexts := s.rtexts
    lists := u.row s.lists s.rlists (by simp)
    rlists := s.rlists
    dicts := u.row s.dicts s.rdicts (by simp)
    rdicts := s.rdicts
    changes := u.row s.changes s.rchanges (by simp)
    rchanges := s.rchanges
    marks := by have := (u.row s.marks s.rmarks (by simp)).cut hn; rw [take_flat _ 5 length_szs] at this; exact this
    rmarks := fun g hg => s.rmarks g hg
    nts := s.nts
    nls := s.nls
    nds := s.nds
    ts := fun i v b h1 h2 => have ⟨a, c⟩ := s.ts i v b h1 h2; ⟨u.row a c (by simp), c⟩
    ls := fun i v b h1 h2 => have ⟨a, c⟩ := s.ls i v b h1 h2; ⟨u.row a c (by simp), c⟩
    ds := fun i v b h1 h2 => have ⟨a, c, d, e⟩ := s.ds i v b h1 h2; ⟨u.blk a c (by simp), c, u.row d e (by simp), e⟩
    bound := u.bound }
theorem Sto.setFree {w : World} {p : Nat} {σ : St} {h : Hd} {ρ : Roles} (s : Sto w p σ h ρ) {f : Int} (h0 : 0 ≤ f) (h1 : (σ.texts.length : Int) + σ.lists.length + σ.dicts.length + f ≤ 1048576) :
    Sto (w.setCell ⟨p, 0, none⟩ (.int .i64 f)) p { σ with free := f } h ρ := by
  have u : Upd w (w.setCell ⟨p, 0, none⟩ (.int .i64 f)) ρ ρ (fun r => r = .main) :=
    ⟨fun b r hb hr => ⟨Below.heap_setCell _ _ _ _ (by rintro rfl; rw [s.rmain] at hb; injection hb with hb; exact hr hb.symm), hb⟩, fun b hb => by simpa using s.bound b hb⟩
  exact {
    ok := ⟨h0, h1, s.ok.text, s.ok.list, s.ok.dict, s.ok.nchg, s.ok.nmark⟩
    main := s.main.set_ 0 _
    rmain := s.rmain
    texts := u.row s.texts s.rtexts (by simp)
    rtexts := s.rtexts
    lists := u.row s.lists s.rlists (by simp)
    rlists := s.rlists
    dicts := u.row s.dicts s.rdicts (by simp)
    rdicts := s.rdicts
    changes := u.row s.changes s.rchanges (by simp)
    rchanges := s.rchanges
    marks := u.row s.marks s.rmarks (by simp)
    rmarks := s.rmarks
    nts := s.nts
    nls := s.nls
    nds := s.nds
    ts := fun i v b h1 h2 => have ⟨a, c⟩ := s.ts i v b h1 h2; ⟨u.row a c (by simp), c⟩
    ls := fun i v b h1 h2 => have ⟨a, c⟩ := s.ls i v b h1 h2; ⟨u.row a c (by simp), c⟩
    ds := fun i v b h1 h2 => have ⟨a, c, d, e⟩ := s.ds i v b h1 h2; ⟨u.blk a c (by simp), c, u.row d e (by simp), e⟩
    bound := u.bound }
/-- A slice cut off at its end. -/
theorem run_cut {P : Program} {w : World} {e T : TypeId} {sz : Nat} {s : Sl} {xs : List Value} (hr : Row w e sz s xs) (hT : P.underlying T = some (.slice e)) (hi : ∃ i, P.info? e = some i) {m : Nat} (hm : m ≤ s.n) (W : World) :
    (Instr.slice T (.slice s.a s.n s.c) none (some (.int .i64 m)) none).run P W = .ok (.slice s.a m s.c) W := by
  obtain ⟨i, hi⟩ := hi
  have hcap := hr.cap_le
  have he : P.elem T = e := by simp [Program.elem, hT]
  rw [run_slice_h (w := W) T s.a s.n s.c (by rw [he]; exact hT) .i64 m (by omega) (by omega), he, run_sizeOf W hi]
  simp only [Result.andThen, sliced]
  rcases hr.shape with ⟨h1, h2, h3, -⟩ | ⟨g, cur, h1, -⟩
  · simp [h1]
  · simp [h1, Addr.add]
end Go.Proofs.Ythhckledkhcfeaa
namespace Go.Proofs.Ythhckledkhcfeaa
open Go.RowKit
structure Keeps (F : World → Prop) where
  w : World
  h : F w
section
variable {w w' : World} {p : Nat} {σ : St} {h : Hd} {ρ : Roles}
theorem back_no (s : Sto w p σ h ρ) {m : Int} (hm : m < 1 ∨ (σ.marks.length : Int) < m) :
    Calls Try.prog 71 #[.pointer (some ⟨p, 0, none⟩), .int .i64 m] w fun e w' => e = .returned (.int .i64 21) ∧ w = w' := by
  have hd : decide (1 ≤ m ∧ m ≤ σ.marks.length) = false := by rw [decide_eq_false_iff_not]; omega
  have hD := Lib.hid hd
  clear hd hm
  go_enter Try.func71, Try.ntmps71
  go_wp2_with (go_at_call 104; refine (marked_c s hD.out).mono ?_; rintro e w1 ⟨rfl, rfl⟩)
  go_ret
  exact ⟨rfl, rfl⟩
/-- What is left when it is gone back to a mark. -/
def St.cut (σ : St) (mark a b c k : Nat) (fr : Int) : St := ⟨fr, σ.texts.take a, σ.lists.take b, σ.dicts.take c, σ.changes.take k, σ.marks.take mark⟩
set_option maxRecDepth 100000 in
set_option maxHeartbeats 2000000 in
theorem back_c (s : Sto w p σ h ρ) (mark a b c k : Nat) (fr : Int) (h1 : 1 ≤ mark) (hm : σ.marks[mark - 1]? = some ⟨a, b, c, fr, k⟩) (ha : a ≤ σ.texts.length) (hb : b ≤ σ.lists.length) (hc : c ≤ σ.dicts.length) (hk : k ≤ σ.changes.length)
    (hfr : 0 ≤ fr) (hroom : (a : Int) + b + c + fr ≤ 1048576) (S : Nat → St) (hS0 : S σ.changes.length = σ)
    (hS : ∀ i, (S i).changes = σ.changes ∧ (S i).marks = σ.marks ∧ (S i).texts.length = σ.texts.length ∧ (S i).lists.length = σ.lists.length ∧ (S i).dicts.length = σ.dicts.length)
    (hround : ∀ i (C : Chg), k ≤ i → σ.changes[i]? = some C → ∀ (W : World) (h' : Hd) (ρ' : Roles), Sto W p (S (i + 1)) h' ρ' →
      Calls Try.prog 105 #[.pointer (some ⟨p, 0, none⟩), .agg C.cells.toArray] W fun e w' => e = .returned (.tuple #[]) ∧ StoTo W w' p ρ' (S i)) :
    Calls Try.prog 71 #[.pointer (some ⟨p, 0, none⟩), .int .i64 mark] w fun e w' => e = .returned (.int .i64 0) ∧ StoTo w w' p ρ ((S k).cut mark a b c k fr) := by
  have hml : mark ≤ σ.marks.length := by have := (List.getElem?_eq_some_iff.1 hm).1; omega
  have hd : decide (1 ≤ (mark : Int) ∧ (mark : Int) ≤ σ.marks.length) = true := by rw [decide_eq_true_eq]; omega
  have hD := Lib.hid hd
  have hmk := s.ok.nmark
  have hnc := s.ok.nchg
  have hmn : mark ≤ h.marks.n := by rw [s.nmarks]; exact hml
  have hmn2 : h.marks.n ≤ 4294967296 := by rw [s.nmarks]; exact hmk
  obtain ⟨g, hga, hgb⟩ := s.marks.pos (show 0 < h.marks.n by omega)
  have q := fun j hj => s.marks.item (j := j) length_szs hga hm hj
  have q0 := q 0 (by omega)
  have q1 := q 1 (by omega)
  have q2 := q 2 (by omega)
  have q3 := q 3 (by omega)
  have q4 := q 4 (by omega)
  have hgl := s.marks.blk_lt hgb
  have hHm := Lib.hid hm
  have hHml := Lib.hid hml
  have hHk := Lib.hid hmk
  have hHc := Lib.hid hnc
  have hmain := s.main
  rw [hga] at hmain
  have hc0 := hmain.cell
  simp only [Szs.cells, Nat.add_zero] at q0 q1 q2 q3 q4
  clear hd hm q hml hmk hnc hmain
  go_enter Try.func71, Try.ntmps71
  go_upto_region 4 with (go_at_call 104; refine (marked_c s hD.out).mono ?_; rintro e w1 ⟨rfl, rfl⟩)
  generalize hX : World.alloc w _ = X
  obtain ⟨hx, hcX, hfX, hzX, hbX⟩ := boxed hX
  clear hX hcX hfX q0 q1 q2 q3 q4 hc0
  have s1 := s.ext hx
  have hc1 := s1.main.cell
  have hnch : h.changes.n = σ.changes.length := s.nchanges
  have hHn := Lib.hid hnch
  have hS0' := Lib.hid hS0
  have hSS := Lib.hid hS
  clear hnch hS0 hS
  go_wp2_with fail
  have hbx : ¬ ρ.own w.heap.size := Roles.not_own (s.fresh (Nat.le_refl _))
  go_loopg [6] (σ.changes.length - k) (fun gk s6 wr => ∃ i : Nat, k ≤ i ∧ i ≤ σ.changes.length ∧ gk = i - k ∧ s6 = .int .i64 ((i : Int) - 1) ∧ ∃ h' ρ', Sto wr p (S i) h' ρ' ∧ Moves X wr ρ.own ρ'.own)
  case atStart => exact ⟨σ.changes.length, hk, Nat.le_refl _, rfl, (by rw [hHn.out]; exact congrArg (Value.int .i64) (by have := hHc.out; unfold wrap64; omega)), h, ρ, by rw [hS0'.out]; exact s1, Moves.refl_ _ _⟩
  case round =>
    obtain ⟨i, hki, hin, hgk, hs6, h', ρ', s', hmv⟩ := hrel
    subst hs6
    have hbX' := hbX.moves hmv hbx
    have hcb := hbX'.cell
    obtain ⟨e1, e2, e3, e4, e5⟩ := hSS.out i
    rcases Nat.lt_or_ge k i with hlt | hge
    · obtain ⟨j, rfl⟩ : ∃ j, i = j + 1 := ⟨i - 1, by omega⟩
      obtain ⟨C, hC⟩ : ∃ C, σ.changes[j]? = some C := ⟨_, List.getElem?_eq_getElem (by omega)⟩
      have hrow := s'.changes
      rw [e1] at hrow
      have hn' : h'.changes.n = σ.changes.length := by rw [s'.nchanges, e1]
      obtain ⟨g2, hg2, hg2b⟩ := hrow.pos (show 0 < h'.changes.n by omega)
      have hcells : ∀ q u, C.cells[q]? = some u → wr.cell? ⟨g2, j * 19 + q, none⟩ = some u := fun q u hu => (hrow.item length_chg hg2 hC (by have := (List.getElem?_eq_some_iff.1 hu).1; rw [length_chg] at this; exact this)).trans hu
      have hmain := s'.main
      rw [hg2] at hmain
      have hcm := hmain.cell
      have hj1 : ((j + 1 : Nat) : Int) - 1 = j := by omega
      rw [hj1]
      have hkj : (k : Int) ≤ j := by omega
      have hjn : j < h'.changes.n := by omega
      have hHc' := Lib.hid hC
      have hHr := Lib.hid (hround j C (by omega) hC wr h' ρ' s')
      have hjb : j < 4294967296 := by have := hHc.out; omega
      clear hcb
      have hcb := hbX'.cell
      clear hC e1 e2 e3 e4 e5 hn'
      go_wp2_with (first
        | (go_at_call 105; refine hHr.out.mono ?_; rintro e w3 ⟨rfl, h3, ρ3, s3, hm3⟩)
        | (refine wpList_load_at (ty := 124) (cs := C.cells) (by rfl) _ (by rfl) (by rfl) hcells Try.underlying124 (by kernel_rfl) ?_))
      go_roundg (j - k)
      case measure => omega
      case rel => exact ⟨j, by omega, by omega, rfl, rfl, h3, ρ3, s3, hmv.trans_ hm3⟩
    · have hik : i = k := by omega
      subst hik
      have hii : ¬ ((i : Int) ≤ (i : Int) - 1) := by omega
      have hn' : i ≤ (S i).changes.length := by rw [e1]; exact hk
      obtain ⟨iC, hiC, -⟩ := info_parts info_chg
      obtain ⟨iT, hiT, -⟩ := info_parts info_u8s
      obtain ⟨iO, hiO, -⟩ := info_parts info_Objs
      obtain ⟨iD, hiD, -⟩ := info_parts info_dictp
      obtain ⟨iZ, hiZ, -⟩ := info_parts info_szs
      have hpw : p ≠ w.heap.size := by have := s.lt; omega
      have hx' : Ext w X := hx
      -- the changes
      have hcm := s'.main.cell
      have hpl := s'.lt
      have kC := run_cut s'.changes Try.underlying113 ⟨iC, hiC⟩ (m := i) (by rw [s'.nchanges]; exact hn')
      have hfm := fun (E : ExtOf wr) => (s'.main.ext E.h).frozen
      have f2 := fun (E : ExtOf wr) j => (E.cells hpl j).trans (hcm j)
      have f5 := fun (E : ExtOf wr) j => (E.cells hbX'.lt j).trans (hcb j)
      go_upto_region 8 with fail
      clear hcm hcb
      refine wp_region_ext_tail 10 (by kernel_rfl) (by kernel_rfl) ?_
      simp only [List.take_succ_cons, List.take_zero, List.drop_succ_cons, List.drop_zero]
      repeat (go_big_quiet_step (fail))
      refine wpQuiet_nil fun E => ?_
      have kf := hfm E
      have kc := f2 E
      go_upto_region 9 with fail
      have s2 := (s'.ext E.h).cutChanges hn'
      have hb2 := (hbX'.ext E.h).far (p := ⟨p, 4, none⟩) (fun e => hpw e.symm) (.slice h'.changes.a i h'.changes.c)
      have hm2 : Moves X (E.w.setCell ⟨p, 4, none⟩ (.slice h'.changes.a i h'.changes.c)) ρ.own ρ'.own := (hmv.ext_right E.h).trans_ (Moves.set_ (by unfold Roles.own; rw [s'.rmain]; simp) _)
      clear hfm f2 f5 kc kf kC
      generalize hY : E.w.setCell ⟨p, 4, none⟩ (.slice h'.changes.a i h'.changes.c) = Y at s2 hb2 hm2
      clear hY
      -- texts, lists, dicts
      have ha' : a ≤ (S i).texts.length := by rw [e3]; exact ha
      have hb' : b ≤ (S i).lists.length := by rw [e4]; exact hb
      have hc' : c ≤ (S i).dicts.length := by rw [e5]; exact hc
      have hml' : mark ≤ (S i).marks.length := by rw [e2]; exact hHml.out
      have kT := run_cut s2.texts Try.underlying110 ⟨iT, hiT⟩ (m := a) (by rw [s2.ntexts]; exact ha')
      have kL := run_cut s2.lists Try.underlying111 ⟨iO, hiO⟩ (m := b) (by rw [s2.nlists]; exact hb')
      have kD := run_cut s2.dicts Try.underlying112 ⟨iD, hiD⟩ (m := c) (by rw [s2.ndicts]; exact hc')
      have kM := run_cut s2.marks Try.underlying114 ⟨iZ, hiZ⟩ (m := mark) (by rw [s2.nmarks]; exact hml')
      have hpl2 := s2.lt
      let F1 : World → Prop := fun W => (W.cell? ⟨p, 1, none⟩ = some (.slice h'.texts.a h'.texts.n h'.texts.c)) ∧ ∀ j, W.cell? ⟨w.heap.size, j, none⟩ = [Value.int .i64 a, .int .i64 b, .int .i64 c, .int .i64 fr, .int .i64 i][j]?
      let F2 : World → Prop := fun W => (W.cell? ⟨p, 2, none⟩ = some (.slice h'.lists.a h'.lists.n h'.lists.c)) ∧ ∀ j, W.cell? ⟨w.heap.size, j, none⟩ = [Value.int .i64 a, .int .i64 b, .int .i64 c, .int .i64 fr, .int .i64 i][j]?
      let F3 : World → Prop := fun W => (W.cell? ⟨p, 3, none⟩ = some (.slice h'.dicts.a h'.dicts.n h'.dicts.c)) ∧ ∀ j, W.cell? ⟨w.heap.size, j, none⟩ = [Value.int .i64 a, .int .i64 b, .int .i64 c, .int .i64 fr, .int .i64 i][j]?
      have B0 : Blk Y.drew p _ _ := s2.main
      have D0 : Blk Y.drew w.heap.size _ _ := hb2
      have B1 := B0.set_ 1 (.slice h'.texts.a a h'.texts.c)
      have D1 := D0.far (p := ⟨p, 1, none⟩) (fun e => hpw e.symm) (.slice h'.texts.a a h'.texts.c)
      have B2 := B1.set_ 2 (.slice h'.lists.a b h'.lists.c)
      have D2 := D1.far (p := ⟨p, 2, none⟩) (fun e => hpw e.symm) (.slice h'.lists.a b h'.lists.c)
      have a01 : F1 Y.drew := ⟨B0.cell 1, D0.cell⟩
      have a02 : F2 Y.drew := ⟨B0.cell 2, D0.cell⟩
      have a03 : F3 Y.drew := ⟨B0.cell 3, D0.cell⟩
      have a12 : F2 _ := ⟨B1.cell 2, D1.cell⟩
      have a13 : F3 _ := ⟨B1.cell 3, D1.cell⟩
      have a23 : F3 _ := ⟨B2.cell 3, D2.cell⟩
      haveI : Nonempty (Keeps F1) := ⟨⟨_, a01⟩⟩
      haveI : Nonempty (Keeps F2) := ⟨⟨_, a02⟩⟩
      haveI : Nonempty (Keeps F3) := ⟨⟨_, a03⟩⟩
      have u1 := fun (E : Keeps F1) => E.h.1
      have v1 := fun (E : Keeps F1) => E.h.2
      have u2 := fun (E : Keeps F2) => E.h.1
      have v2 := fun (E : Keeps F2) => E.h.2
      have u3 := fun (E : Keeps F3) => E.h.1
      have v3 := fun (E : Keeps F3) => E.h.2
      have kf := s2.main.frozen
      refine wp_region_three 3 7 7 7 26 29 32 (fun w' => ∃ E : Keeps F1, w' = E.w) (fun w' => ∃ E : Keeps F2, w' = E.w) (fun w' => ∃ E : Keeps F3, w' = E.w) (by kernel_rfl) (by kernel_rfl) (fun c a d v w h => by cases d <;> exact h) ⟨⟨_, a01⟩, rfl⟩ ⟨⟨_, a02⟩, rfl⟩ ⟨⟨_, a03⟩, rfl⟩ ?_
      simp only [List.take_succ_cons, List.take_zero, List.drop_succ_cons, List.drop_zero]
      repeat (go_big_quiet_step (fail))
      refine wpQuiet_nil ?_
      repeat (go_big_quiet_step (fail))
      refine wpQuiet_nil ?_
      repeat (go_big_quiet_step (fail))
      refine wpQuiet_nil ?_
      repeat (go_big_quiet_step (fail))
      refine wpQuiet_nil ?_
      have hlow : ¬ (w.heap.size = p) := fun e => hpw e.symm
      have hlow2 : ¬ (p = w.heap.size) := hpw
      clear u1 u2 u3 v1 v2 v3
      have kc := s2.main.cell
      have kd := B0.cell
      have kg := B0.frozen
      have ke := B1.cell
      have kh := B1.frozen
      have k5 := hb2.cell
      refine wpTailH_cons (fun K hK => ?_)
      go_simp
      refine hK _ _ (by intro q hq hlt; simp only [List.mem_cons, List.mem_nil_iff, or_false] at hq; rcases hq with rfl | rfl | rfl; exact ⟨⟨_, a01⟩, rfl⟩; exact ⟨⟨_, a02⟩, rfl⟩; exact ⟨⟨_, a03⟩, rfl⟩) ?_
      clear hK K
      refine wpTailH_cons (fun K hK => ?_)
      go_simp
      refine hK _ _ (by intro q hq hlt; simp only [List.mem_cons, List.mem_nil_iff, or_false] at hq; rcases hq with rfl | rfl | rfl; exact ⟨⟨_, a01⟩, rfl⟩; exact ⟨⟨_, a02⟩, rfl⟩; exact ⟨⟨_, a03⟩, rfl⟩) ?_
      clear hK K
      refine wpTailH_cons (fun K hK => ?_)
      go_simp
      refine hK _ _ (by intro q hq hlt; simp only [List.mem_cons, List.mem_nil_iff, or_false] at hq; rcases hq with rfl | rfl | rfl; exact absurd hlt (by simp); exact ⟨⟨_, a12⟩, rfl⟩; exact ⟨⟨_, a13⟩, rfl⟩) ?_
      clear hK K
      refine wpTailH_cons (fun K hK => ?_)
      go_simp
      refine hK _ _ (by intro q hq hlt; simp only [List.mem_cons, List.mem_nil_iff, or_false] at hq; rcases hq with rfl | rfl | rfl; exact absurd hlt (by simp); exact ⟨⟨_, a12⟩, rfl⟩; exact ⟨⟨_, a13⟩, rfl⟩) ?_
      clear hK K
      refine wpTailH_cons (fun K hK => ?_)
      go_simp
      refine hK _ _ (by intro q hq hlt; simp only [List.mem_cons, List.mem_nil_iff, or_false] at hq; rcases hq with rfl | rfl | rfl; exact absurd hlt (by simp); exact ⟨⟨_, a12⟩, rfl⟩; exact ⟨⟨_, a13⟩, rfl⟩) ?_
      clear hK K
      refine wpTailH_cons (fun K hK => ?_)
      go_simp
      refine hK _ _ (by intro q hq hlt; simp only [List.mem_cons, List.mem_nil_iff, or_false] at hq; rcases hq with rfl | rfl | rfl; exact absurd hlt (by simp); exact absurd hlt (by simp); exact ⟨⟨_, a23⟩, rfl⟩) ?_
      clear hK K
      refine wpTailH_cons (fun K hK => ?_)
      go_simp
      refine hK _ _ (by intro q hq hlt; simp only [List.mem_cons, List.mem_nil_iff, or_false] at hq; rcases hq with rfl | rfl | rfl; exact absurd hlt (by simp); exact absurd hlt (by simp); exact ⟨⟨_, a23⟩, rfl⟩) ?_
      clear hK K
      refine wpTailH_cons (fun K hK => ?_)
      go_simp
      refine hK _ _ (by intro q hq hlt; simp only [List.mem_cons, List.mem_nil_iff, or_false] at hq; rcases hq with rfl | rfl | rfl; exact absurd hlt (by simp); exact absurd hlt (by simp); exact ⟨⟨_, a23⟩, rfl⟩) ?_
      clear hK K
      refine wpTailH_list (by intro q hq; simp only [List.mem_cons, List.mem_nil_iff, or_false] at hq; rcases hq with rfl | rfl | rfl <;> simp) ?_
      clear kd kg ke kh
      clear a01 a02 a03 a12 a13 a23 B0 B1 B2 D0 D1 D2
      go_wp2_with fail
      go_ret
      refine ⟨rfl, ?_⟩
      have s3 := s2.cutTexts ha'
      have s4 := s3.cutLists hb'
      have s5 := s4.cutDicts hc'
      have s6 := s5.setFree hfr (by simp only [List.length_take]; omega)
      have s7 := s6.cutMarks hml'
      have hown : ρ'.own p := by unfold Roles.own; rw [s'.rmain]; simp
      exact ⟨_, ρ', s7.ext ((Ext.rfl_ _).drew_), ((Moves.ext_left hx' (((((hm2.trans_ (Moves.set_ hown _)).trans_ (Moves.set_ hown _)).trans_ (Moves.set_ hown _)).trans_ (Moves.set_ hown _)).trans_ (Moves.set_ hown _))).ext_right ((Ext.rfl_ _).drew_))⟩
end
end Go.Proofs.Ythhckledkhcfeaa
