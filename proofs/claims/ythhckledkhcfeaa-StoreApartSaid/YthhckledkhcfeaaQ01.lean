/- Own words for memory: blocks known whole, slices' headers, footprints, and what a call may turn. The store of the program, as plain data, and how it lies in memory. The store's functions, part A: New, Free, take, within, Valid, is. -/
import Derived.WalkKit
import Derived.WalkSpells
import Derived.WalkLawsBesides
import Derived.Maps.AppendAt
import Derived.Deep.AppendLies
import Derived.Deep.RegionHeld3
import Derived.Deep.QuietTactic
import Derived.BigQuiet
import Derived.Lib.Hide
import Derived.IntWalk
import Derived.Laws.CopyOwn
import Derived.Deep.DeepCutAuto
import Derived.Deep.CutBlock
import Derived.Test.YthhckledkhcfeaaProg
namespace Go.Proofs.Ythhckledkhcfeaa
open Go.RowKit

/-- Block g is just the cells cs of type t, none frozen. -/
def Blk (w : World) (g : Nat) (t : TypeId) (cs : List Value) : Prop := w.heap[g]? = some (.cells cs.toArray t (0, 0))

theorem heap_lt {w : World} {g : Nat} {o : Go.Obj} (h : w.heap[g]? = some o) : g < w.heap.size := by
  rcases Nat.lt_or_ge g w.heap.size with hlt | hge
  · exact hlt
  · rw [Array.getElem?_eq_none hge] at h; cases h

section
variable {w w' : World} {g : Nat} {t : TypeId} {cs : List Value}
theorem Blk.lt (h : Blk w g t cs) : g < w.heap.size := heap_lt h
theorem Blk.cell (h : Blk w g t cs) (i : Nat) : w.cell? ⟨g, i, none⟩ = cs[i]? := by
  rw [cell_of_row w g i cs.toArray t (0, 0) h]; simp
theorem Blk.frozen (h : Blk w g t cs) (i : Nat) : w.frozen? ⟨g, i, none⟩ = false := by
  unfold Blk at h
  simp [World.frozen?, h]
theorem Blk.new (w : World) (t : TypeId) (cs : List Value) : Blk (w.alloc (.cells cs.toArray t)) w.heap.size t cs := heap_alloc_new w _
theorem Blk.new1 (w : World) (A : Go.Obj) (t : TypeId) (cs : List Value) : Blk ((w.alloc A).alloc (.cells cs.toArray t)) (w.heap.size + 1) t cs := by
  have h := heap_alloc_new (w.alloc A) (.cells cs.toArray t)
  rw [World.size_alloc] at h
  exact h
theorem Blk.keep (h : Blk w g t cs) (hk : w'.heap[g]? = w.heap[g]?) : Blk w' g t cs := hk.trans h
theorem Blk.drew (h : Blk w g t cs) : Blk w.drew g t cs := h
theorem Blk.drewN (h : Blk w g t cs) (n : Nat) : Blk (w.drewN n) g t cs := h
theorem Blk.alloc (h : Blk w g t cs) (o : Go.Obj) : Blk (w.alloc o) g t cs := (Below.heap_alloc w o g h.lt).trans h
theorem Blk.set_ (h : Blk w g t cs) (i : Nat) (u : Value) : Blk (w.setCell ⟨g, i, none⟩ u) g t (cs.set i u) := by
  unfold Blk at h ⊢
  simp [World.setCell, Array.getElem?_modify, h]
theorem Blk.far (h : Blk w g t cs) {p : Addr} (hp : g ≠ p.block) (u : Value) : Blk (w.setCell p u) g t cs := (Below.heap_setCell w p u g hp).trans h
end

/-- A slice's header. -/
structure Sl where
  a : Option Addr
  n : Nat
  c : Nat
abbrev Sl.val (s : Sl) : Value := .slice s.a s.n s.c
def Sl.blk (s : Sl) : Option Nat := s.a.map (·.block)
abbrev Sl.nil : Sl := ⟨none, 0, 0⟩

/-- The slice s, of elements of type e with sz cells each, has a row of its own that holds xs. -/
def Row (w : World) (e : TypeId) (sz : Nat) (s : Sl) (xs : List Value) : Prop := w.ownsRow 0 e sz (.slice s.a s.n s.c) s.n xs

section
variable {w w' : World} {e : TypeId} {sz : Nat} {s : Sl} {xs : List Value}
theorem Row.len (h : Row w e sz s xs) : xs.length = s.n * sz := h.1
theorem Row.cap_le (h : Row w e sz s xs) : s.n ≤ s.c ∧ s.c ≤ maxLen := by
  rcases h.2 with ⟨hv, h0⟩ | ⟨g, cap, cur, hv, _, _, hn, hc, _⟩
  · injection hv with _ h1 h2; simp only [maxLen]; omega
  · injection hv with _ _ h2; subst h2; exact ⟨hn, hc⟩
theorem Row.shape (h : Row w e sz s xs) : (s.a = none ∧ s.n = 0 ∧ s.c = 0 ∧ xs = []) ∨ ∃ g cur, s.a = some ⟨g, 0, none⟩ ∧ s.blk = some g ∧ w.heap[g]? = some (.cells cur e (0, 0)) ∧ cur.size = s.c * sz ∧ cur.toList.take (s.n * sz) = xs := by
  rcases h.2 with ⟨hv, h0⟩ | ⟨g, cap, cur, hv, _, hg, hn, hc, hs, ht⟩
  · injection hv with h1 h2 h3
    have hx := h.1
    rw [h0] at hx
    exact .inl ⟨h1, h0, h3, List.eq_nil_of_length_eq_zero (by simpa using hx)⟩
  · injection hv with h1 h2 h3
    subst h3
    exact .inr ⟨g, cur, h1, by simp [Sl.blk, h1], hg, hs, ht⟩
theorem Row.blk_lt (h : Row w e sz s xs) {g : Nat} (hg : s.blk = some g) : g < w.heap.size := by
  rcases h.shape with ⟨h1, _⟩ | ⟨g', cur, _, h2, h3, _⟩
  · simp [Sl.blk, h1] at hg
  · rw [h2] at hg; injection hg with hg; subst hg; exact heap_lt h3
/-- A row with an element: where it lies. -/
theorem Row.pos (h : Row w e sz s xs) (hn : 0 < s.n) : ∃ g, s.a = some ⟨g, 0, none⟩ ∧ s.blk = some g := by
  rcases h.shape with ⟨_, h1, _⟩ | ⟨g, cur, h1, h2, _⟩
  · omega
  · exact ⟨g, h1, h2⟩
theorem Row.cell (h : Row w e sz s xs) {g : Nat} (ha : s.a = some ⟨g, 0, none⟩) (j : Nat) (hj : j < s.n * sz) : w.cell? ⟨g, j, none⟩ = xs[j]? := by
  rcases h.shape with ⟨h1, _⟩ | ⟨g', cur, h1, _, hg, hs, ht⟩
  · rw [h1] at ha; cases ha
  · rw [h1] at ha; injection ha with ha; injection ha with ha; subst ha
    rw [cell_of_row w g' j cur e (0, 0) hg, ← ht, List.getElem?_take_of_lt hj]; simp
theorem Row.frozen (h : Row w e sz s xs) {g : Nat} (ha : s.a = some ⟨g, 0, none⟩) (j : Nat) : w.frozen? ⟨g, j, none⟩ = false := by
  rcases h.shape with ⟨h1, _⟩ | ⟨g', cur, h1, _, hg, hs, ht⟩
  · rw [h1] at ha; cases ha
  · rw [h1] at ha; injection ha with ha; injection ha with ha; subst ha
    simp [World.frozen?, hg]
theorem Row.keep (h : Row w e sz s xs) (hk : ∀ g, s.blk = some g → w'.heap[g]? = w.heap[g]?) : Row w' e sz s xs := by
  refine ⟨h.1, ?_⟩
  rcases h.2 with h0 | ⟨g, cap, cur, hv, h1, hg, r⟩
  · exact .inl h0
  · refine .inr ⟨g, cap, cur, hv, h1, ?_, r⟩
    injection hv with h1 h2 h3
    rw [hk g (by simp [Sl.blk, h1])]; exact hg
theorem Row.nil_ (w : World) (e : TypeId) (sz : Nat) : Row w e sz Sl.nil [] := World.ownsRow_nil w 0 e sz
/-- A cut to a shorter length. -/
theorem Row.cut (h : Row w e sz s xs) {m : Nat} (hm : m ≤ s.n) : Row w e sz ⟨s.a, m, s.c⟩ (xs.take (m * sz)) := by
  have hlen : m * sz ≤ s.n * sz := Nat.mul_le_mul_right _ hm
  refine ⟨by show (xs.take (m * sz)).length = m * sz; rw [List.length_take, h.len]; omega, ?_⟩
  rcases h.2 with ⟨hv, h0⟩ | ⟨g, cap, cur, hv, h1, hg, hn, hc, hs, ht⟩
  · injection hv with h1 h2 h3
    have hm0 : m = 0 := by omega
    subst hm0
    exact .inl ⟨by simp [h1, h3], rfl⟩
  · injection hv with h1' h2' h3'
    subst h3'
    refine .inr ⟨g, s.c, cur, by simp [h1'], h1, hg, Nat.le_trans hm hn, hc, hs, ?_⟩
    rw [← ht, List.take_take, Nat.min_eq_left hlen]
/-- One cell of the row is written. -/
theorem Row.set_ (h : Row w e sz s xs) {g : Nat} (ha : s.a = some ⟨g, 0, none⟩) (j : Nat) (u : Value) : Row (w.setCell ⟨g, j, none⟩ u) e sz s (xs.set j u) := by
  refine ⟨by simpa using h.1, ?_⟩
  rcases h.2 with ⟨hv, h0⟩ | ⟨g', cap, cur, hv, h1, hg, hn, hc, hs, ht⟩
  · injection hv with h1 _ _; rw [h1] at ha; cases ha
  · injection hv with h1' h2' h3'
    rw [h1'] at ha; injection ha with ha; injection ha with ha; subst ha
    refine .inr ⟨g', cap, cur.setIfInBounds j u, by rw [h1', h3'], h1, ?_, hn, hc, by simpa using hs, ?_⟩
    · simp [World.setCell, Array.getElem?_modify, hg]
    · rw [← ht, Array.toList_setIfInBounds, List.take_set]
theorem Row.far (h : Row w e sz s xs) {p : Addr} (hp : s.blk ≠ some p.block) (u : Value) : Row (w.setCell p u) e sz s xs :=
  h.keep fun g hg => Below.heap_setCell w p u g (by rintro rfl; exact hp hg)
theorem Row.alloc (h : Row w e sz s xs) (o : Go.Obj) : Row (w.alloc o) e sz s xs := h.keep fun g hg => Below.heap_alloc w o g (h.blk_lt hg)
theorem Row.drew (h : Row w e sz s xs) : Row w.drew e sz s xs := h
theorem Row.drewN (h : Row w e sz s xs) (n : Nat) : Row (w.drewN n) e sz s xs := h
end

/-- Where a cut 's[f:..]' of a slice begins. -/
def cutA (A : Option Addr) (c f sz : Nat) : Option Addr := if c = f then A else A.map (·.add (f * sz))
theorem Row.cutA_ {w : World} {e : TypeId} {sz : Nat} {s : Sl} {xs : List Value} (h : Row w e sz s xs) {f : Nat} (hf : f < s.n) :
    ∃ g, s.blk = some g ∧ s.a = some ⟨g, 0, none⟩ ∧ cutA s.a s.c f sz = some ⟨g, f * sz, none⟩ ∧ g < w.heap.size := by
  obtain ⟨g, h1, h2⟩ := h.pos (by omega)
  have h3 := h.cap_le
  refine ⟨g, h2, h1, ?_, h.blk_lt h2⟩
  unfold cutA
  rw [if_neg (by omega), h1]
  simp only [Option.map_some, Addr.add]
  by_cases h0 : f * sz = 0
  · rw [if_pos h0, h0]
  · rw [if_neg h0]; simp

/-- From w to w' only blocks of F have turned; F' is F and new blocks. -/
structure Moves (w w' : World) (F F' : Nat → Prop) : Prop where
  os : w'.os = w.os
  tape : w'.tape = w.tape
  output : w'.output = w.output
  size : w.heap.size ≤ w'.heap.size
  block : ∀ b, b < w.heap.size → ¬ F b → w'.heap[b]? = w.heap[b]?
  foot : ∀ b, F' b → F b ∨ w.heap.size ≤ b

/-- Nothing that was there has turned. -/
abbrev Ext (w w' : World) : Prop := Below w.heap.size w w'

section
variable {w w' w'' : World} {F F' F'' : Nat → Prop}
theorem Ext.rfl_ (w : World) : Ext w w := Below.refl _ _
theorem Ext.trans_ (h : Ext w w') (k : Ext w' w'') : Ext w w'' := Below.trans h (Below.mono k h.size)
theorem Ext.alloc_ (h : Ext w w') (o : Go.Obj) : Ext w (w'.alloc o) := Below.alloc h h.size o
theorem Ext.drew_ (h : Ext w w') : Ext w w'.drew := Below.drew h
theorem Ext.drewN_ (h : Ext w w') (n : Nat) : Ext w (w'.drewN n) := ⟨h.os, h.tape, h.output, h.size, h.block⟩
theorem Ext.set_ (h : Ext w w') {p : Addr} (hp : w.heap.size ≤ p.block) (u : Value) : Ext w (w'.setCell p u) := Below.setCell h hp u
theorem Ext.at_ (h : Ext w w') {b : Nat} (hb : b < w.heap.size) : w'.heap[b]? = w.heap[b]? := h.block b hb
theorem Blk.ext {g : Nat} {t : TypeId} {cs : List Value} (h : Blk w g t cs) (hx : Ext w w') : Blk w' g t cs := h.keep (hx.at_ h.lt)
theorem Row.ext {e : TypeId} {sz : Nat} {s : Sl} {xs : List Value} (h : Row w e sz s xs) (hx : Ext w w') : Row w' e sz s xs := h.keep fun _ hg => hx.at_ (h.blk_lt hg)
theorem Moves.refl_ (w : World) (F : Nat → Prop) : Moves w w F F := ⟨rfl, rfl, rfl, Nat.le_refl _, fun _ _ _ => rfl, fun _ h => .inl h⟩
theorem Moves.of_ext (h : Ext w w') (F : Nat → Prop) : Moves w w' F F := ⟨h.os, h.tape, h.output, h.size, fun _ hb _ => h.at_ hb, fun _ h => .inl h⟩
theorem Moves.trans_ (h : Moves w w' F F') (k : Moves w' w'' F' F'') : Moves w w'' F F'' :=
  ⟨k.os.trans h.os, k.tape.trans h.tape, k.output.trans h.output, Nat.le_trans h.size k.size,
    fun b hb hn => (k.block b (Nat.lt_of_lt_of_le hb h.size) (fun hf => (h.foot b hf).elim hn (fun h2 => by omega))).trans (h.block b hb hn),
    fun b hb => (k.foot b hb).elim (fun h1 => h.foot b h1) (fun h2 => .inr (Nat.le_trans h.size h2))⟩
theorem Moves.ext_left (h : Ext w w') (k : Moves w' w'' F F') : Moves w w'' F F' := (Moves.of_ext h F).trans_ k
theorem Moves.ext_right (h : Moves w w' F F') (k : Ext w' w'') : Moves w w'' F F' := h.trans_ (Moves.of_ext k F')
theorem Moves.below (h : Moves w w' F F') {B : Nat} (hB : ∀ b, F b → B ≤ b) (hs : B ≤ w.heap.size) : Below B w w' :=
  ⟨h.os, h.tape, h.output, h.size, fun k hk => h.block k (by omega) (fun hf => by have := hB k hf; omega)⟩
theorem Moves.set_ {p : Addr} (hF : F p.block) (u : Value) : Moves w (w.setCell p u) F F :=
  ⟨rfl, rfl, rfl, by simp, fun b _ hn => Below.heap_setCell w p u b (by rintro rfl; exact hn hF), fun _ h => .inl h⟩
theorem Blk.moves {g : Nat} {t : TypeId} {cs : List Value} (h : Blk w g t cs) (hm : Moves w w' F F') (hn : ¬ F g) : Blk w' g t cs := h.keep (hm.block g h.lt hn)
theorem Row.moves {e : TypeId} {sz : Nat} {s : Sl} {xs : List Value} (h : Row w e sz s xs) (hm : Moves w w' F F') (hn : ∀ g, s.blk = some g → ¬ F g) : Row w' e sz s xs :=
  h.keep fun g hg => hm.block g (h.blk_lt hg) (hn g hg)
/-- What lies apart from F lies apart from F'. -/
theorem Moves.apart (hm : Moves w w' F F') {g : Nat} (hn : ¬ F g) (hg : g < w.heap.size) : ¬ F' g := fun h => (hm.foot g h).elim hn (fun h2 => by omega)
end
theorem Ext.cells {w w' : World} (hx : Ext w w') {b : Nat} (hb : b < w.heap.size) (i : Nat) : w'.cell? ⟨b, i, none⟩ = w.cell? ⟨b, i, none⟩ :=
  World.cell?_of_block (hx.at_ hb)
theorem Ext.frz {w w' : World} (hx : Ext w w') {b : Nat} (hb : b < w.heap.size) (i : Nat) : w'.frozen? ⟨b, i, none⟩ = w.frozen? ⟨b, i, none⟩ :=
  World.frozen?_of_block (hx.at_ hb)

theorem run_make_rowN {P : Program} (t e : TypeId) (i : TypeInfo) (z : Value) (ht : P.underlying t = some (.slice e)) (hi : P.info? e = some i) (hz : i.zero = some z)
    (kl kc : IntKind) (n c : Nat) (hnc : n ≤ c) (hbytes : i.bytes * c ≤ 281474976710656) (h63 : c ≤ 9223372036854775807) (w : World) :
    (Instr.makeSlice t (.int kl (n : Int)) (.int kc (c : Int))).run P w = .ok (.slice (some ⟨w.heap.size, 0, none⟩) n c) (w.alloc (.cells (madeCells z.cells (c * i.size)) e)) := by
  have hb : (i.bytes : Int) * (c : Int) ≤ 281474976710656 := by
    have h : ((i.bytes * c : Nat) : Int) ≤ 281474976710656 := by omega
    rwa [Int.natCast_mul] at h
  have hr := run_make (P := P) w t e i z ht hi hz kl kc n c (by omega) (by omega) hb (by omega)
  simp only [Int.toNat_natCast] at hr
  exact hr
/-- The cells of 'make([]T, n)': n times T's zero. -/
theorem toList_made (z : Array Value) (n : Nat) (hz : 0 < z.size) : (madeCells z (n * z.size)).toList = (List.replicate n z.toList).flatten := by
  have h : (madeCells z (n * z.size)).toList = (List.range (n * z.size)).map (z[· % z.size]!) := by simp [madeCells, Array.toList_range]
  rw [h]
  clear h
  induction n with
  | zero => simp
  | succ n ih =>
    rw [Nat.add_mul, Nat.one_mul, List.range_add, List.map_append, ih, List.replicate_succ', List.flatten_append]
    congr 1
    simp only [List.map_map, List.flatten_cons, List.flatten_nil, List.append_nil]
    apply List.ext_getElem
    · simp
    · intro j h1 h2
      have hj : j < z.size := by simpa using h1
      simp [Nat.mod_eq_of_lt hj, hj]
theorem Row.made {w : World} {e : TypeId} (z : Array Value) (n : Nat) (hz : 0 < z.size) (hn : n ≤ maxLen) {b m : Nat} (hm : m = n * z.size) (hb : w.heap[b]? = some (.cells (madeCells z m) e (0, 0))) :
    Row w e z.size ⟨some ⟨b, 0, none⟩, n, n⟩ (List.replicate n z.toList).flatten := by
  subst hm
  refine ⟨?_, .inr ⟨b, n, _, rfl, Nat.zero_le _, hb, Nat.le_refl _, hn, size_madeCells _ _, ?_⟩⟩
  · rw [← toList_made z n hz]; simp [size_madeCells]
  · rw [← toList_made z n hz]
    exact List.take_of_length_le (by simp [size_madeCells])

/-- Only block b has turned. -/
structure Only (w : World) (b : Nat) (w' : World) : Prop where
  os : w'.os = w.os
  tape : w'.tape = w.tape
  output : w'.output = w.output
  size : w'.heap.size = w.heap.size
  block : ∀ k, k ≠ b → w'.heap[k]? = w.heap[k]?
theorem Only.refl_ (w : World) (b : Nat) : Only w b w := ⟨rfl, rfl, rfl, rfl, fun _ _ => rfl⟩
theorem Only.set_ {w w' : World} {b : Nat} (h : Only w b w') (i : Nat) (u : Value) : Only w b (w'.setCell ⟨b, i, none⟩ u) :=
  ⟨h.os, h.tape, h.output, by simpa using h.size, fun k hk => (Below.heap_setCell _ _ _ _ hk).trans (h.block k hk)⟩
theorem Only.drewN_ {w w' : World} {b : Nat} (h : Only w b w') (n : Nat) : Only w b (w'.drewN n) := ⟨h.os, h.tape, h.output, h.size, h.block⟩
theorem Moves.only {w w' w'' : World} {F F' : Nat → Prop} (h : Moves w w' F F') {b : Nat} (k : Only w' b w'') (hb : w.heap.size ≤ b ∨ F b) : Moves w w'' F F' :=
  ⟨k.os.trans h.os, k.tape.trans h.tape, k.output.trans h.output, by rw [k.size]; exact h.size,
    fun c hc hn => (k.block c (by rintro rfl; rcases hb with hb | hb; omega; exact hn hb)).trans (h.block c hc hn), h.foot⟩

/-! ### Results that lie in blocks -/
section
variable {P : Program} {fn : Func} {p q u u2 : Tmp} {ty ty' : TypeId} {tmps : Array Value} {w : World} {g g' : Nat} {t t' : TypeId} {cs cs' : List Value} {fs fs' : Array Field}
theorem load_blk (hb : Blk w g t cs) (hu : P.underlying ty = some (.struct fs)) (hi : (P.info? ty).map (·.size) = some cs.length) : (loadVar ty ⟨g, 0, none⟩).run P w = .ok (.agg cs.toArray) w :=
  run_loadVar_row w g t ty cs.toArray (0, 0) _ hb hu rfl (by simpa using hi)
theorem res_c (h : fn.results = #[.cell p ty]) (hp : tmps.getD p undef = .pointer (some ⟨g, 0, none⟩)) (hb : Blk w g t cs) (hu : P.underlying ty = some (.struct fs)) (hi : (P.info? ty).map (·.size) = some cs.length) :
    (results fn tmps).run P w = .ok (.agg cs.toArray) w := results_cell_row h tmps w g t cs.toArray (0, 0) _ hp hb hu rfl (by simpa using hi)
theorem res_ct (h : fn.results = #[.cell p ty, .tmp u]) (hp : tmps.getD p undef = .pointer (some ⟨g, 0, none⟩)) (hb : Blk w g t cs) (hu : P.underlying ty = some (.struct fs)) (hi : (P.info? ty).map (·.size) = some cs.length) :
    (results fn tmps).run P w = .ok (.tuple #[.agg cs.toArray, tmps.getD u undef]) w := by
  simp only [results, h]
  rw [show (#[ResultVar.cell p ty, .tmp u] : Array ResultVar) = [ResultVar.cell p ty, .tmp u].toArray from rfl]
  simp only [List.mapM_toArray, List.mapM_cons, List.mapM_nil, Sem.run_bind, hp, asAddr, Sem.run_pure, Result.andThen_ok, load_blk hb hu hi, Sem.run_map]
  simp
end

/-- A block of eight cells, written whole. -/
abbrev set8 (w : World) (b : Nat) (v0 v1 v2 v3 v4 v5 v6 v7 : Value) : World :=
  (((((((w.setCell ⟨b, 0, none⟩ v0).setCell ⟨b, 1, none⟩ v1).setCell ⟨b, 2, none⟩ v2).setCell ⟨b, 3, none⟩ v3).setCell ⟨b, 4, none⟩ v4).setCell ⟨b, 5, none⟩ v5).setCell ⟨b, 6, none⟩ v6).setCell ⟨b, 7, none⟩ v7
theorem set8_only (w : World) (b : Nat) (v0 v1 v2 v3 v4 v5 v6 v7 : Value) : Only w b (set8 w b v0 v1 v2 v3 v4 v5 v6 v7) :=
  ((((((((Only.refl_ w b).set_ 0 v0).set_ 1 v1).set_ 2 v2).set_ 3 v3).set_ 4 v4).set_ 5 v5).set_ 6 v6).set_ 7 v7
theorem set8_blk {w : World} {b : Nat} {t : TypeId} {c0 c1 c2 c3 c4 c5 c6 c7 : Value} (h : Blk w b t [c0, c1, c2, c3, c4, c5, c6, c7]) (v0 v1 v2 v3 v4 v5 v6 v7 : Value) :
    Blk (set8 w b v0 v1 v2 v3 v4 v5 v6 v7) b t [v0, v1, v2, v3, v4, v5, v6, v7] :=
  (((((((h.set_ 0 v0).set_ 1 v1).set_ 2 v2).set_ 3 v3).set_ 4 v4).set_ 5 v5).set_ 6 v6).set_ 7 v7
theorem Ext.only {w w' w'' : World} (h : Ext w w') {b : Nat} (k : Only w' b w'') (hb : w.heap.size ≤ b) : Ext w w'' :=
  ⟨k.os.trans h.os, k.tape.trans h.tape, k.output.trans h.output, by rw [k.size]; exact h.size, fun c hc => (k.block c (by omega)).trans (h.block c hc)⟩

/-- A parameter's block. -/
theorem boxed {w W : World} {cs : List Value} {t : TypeId} (h : w.alloc (.cells cs.toArray t) = W) :
    Ext w W ∧ (∀ i, W.cell? ⟨w.heap.size, i, none⟩ = cs[i]?) ∧ (∀ i, W.frozen? ⟨w.heap.size, i, none⟩ = false) ∧ w.heap.size < W.heap.size ∧ Blk W w.heap.size t cs := by
  subst h
  exact ⟨(Ext.rfl_ w).alloc_ _, (Blk.new w t cs).cell, (Blk.new w t cs).frozen, by simp, Blk.new w t cs⟩

/-! ### A region that draws, whose operations read and whose callees make blocks of their own at most -/
structure ExtOf (W : World) where
  w : World
  h : Ext W w
instance (W : World) : Nonempty (ExtOf W) := ⟨⟨W, Ext.rfl_ W⟩⟩
theorem wp_region_ext {P : Program} {id : Nat} {Q : Exit → Act → World → Prop} {a : Act} {W : World} {l : List Oper} (hm : P.follows .mixedOrders = true) (hB : Region.lexB .any l.toArray = true)
    (h : wpQuiet P l.toArray (fun w' => ∃ E : ExtOf W, w' = E.w) (fun a' => ∀ E : ExtOf W, Q .normal a' E.w) l a) : (Code.region id l.toArray true).wp P Q a W := by
  refine wp_region_quiet (C := fun w' => ∃ E : ExtOf W, w' = E.w) hm hB ⟨⟨_, (Ext.rfl_ W).drew_⟩, rfl⟩ ?_
  have e : (fun a' => ∀ w', (∃ E : ExtOf W, w' = E.w) → Q .normal a' w') = fun a' => ∀ E : ExtOf W, Q .normal a' E.w := by
    funext a'
    exact propext ⟨fun h E => h _ ⟨E, rfl⟩, fun h w' ⟨E, hE⟩ => hE ▸ h E⟩
  rw [e]
  simpa using h
theorem quiet_ext {P : Program} {f : FuncId} {args : Array Value} {W : World} {E : ExtOf W} {v : Value} (h : Calls P f args E.w fun e w' => e = .returned v ∧ Ext E.w w') :
    Calls P f args E.w fun e w' => e = .returned v ∧ ∃ E' : ExtOf W, w' = E'.w := h.mono fun _ _ ⟨he, hx⟩ => ⟨he, ⟨⟨_, E.h.trans_ hx⟩, rfl⟩⟩
theorem quiet_same {P : Program} {f : FuncId} {args : Array Value} {W : World} {E : ExtOf W} {v : Value} (h : Calls P f args E.w fun e w' => e = .returned v ∧ E.w = w') :
    Calls P f args E.w fun e w' => e = .returned v ∧ ∃ E' : ExtOf W, w' = E'.w := h.mono fun _ _ ⟨he, hx⟩ => ⟨he, ⟨E, hx.symm⟩⟩
theorem ExtOf.cells {W : World} (E : ExtOf W) {b : Nat} (hb : b < W.heap.size) (i : Nat) : E.w.cell? ⟨b, i, none⟩ = W.cell? ⟨b, i, none⟩ := E.h.cells hb i
end Go.Proofs.Ythhckledkhcfeaa
namespace Go.Proofs.Ythhckledkhcfeaa
open Go.RowKit

/-- An object: api.Obj. -/
structure Ob where
  k : Int
  x : Bool
  ac : Int
  n : Int
  nm : ByteArray
  rf : Int
  fr : Int
  ln : Int

abbrev ocs (k : Int) (x : Bool) (ac n : Int) (nm : ByteArray) (rf fr ln : Int) : List Value :=
  [.int .i64 k, .bool x, .int .i64 ac, .int .i64 n, .string nm, .int .i64 rf, .int .i64 fr, .int .i64 ln]
def Ob.cells (o : Ob) : List Value := ocs o.k o.x o.ac o.n o.nm o.rf o.fr o.ln
abbrev Ob.null : Ob := ⟨0, false, 0, 0, ByteArray.empty, 0, 0, 0⟩
def I64 (n : Int) : Prop := -9223372036854775808 ≤ n ∧ n ≤ 9223372036854775807
structure Ob.Wf (o : Ob) : Prop where
  k : I64 o.k
  ac : I64 o.ac
  n : I64 o.n
  rf : I64 o.rf
  fr : I64 o.fr
  ln : I64 o.ln

structure Dc where
  most : Int
  access : Int
  pairs : List (Ob × Ob)
def pairCells (p : Ob × Ob) : List Value := p.1.cells ++ p.2.cells
structure Chg where
  kind : Int
  ref : Int
  at_ : Int
  old : Ob × Ob
def Chg.cells (c : Chg) : List Value := [.int .i64 c.kind, .int .i64 c.ref, .int .i64 c.at_] ++ pairCells c.old
structure Szs where
  texts : Int
  lists : Int
  dicts : Int
  free : Int
  changes : Int
def Szs.cells (s : Szs) : List Value := [.int .i64 s.texts, .int .i64 s.lists, .int .i64 s.dicts, .int .i64 s.free, .int .i64 s.changes]

structure St where
  free : Int
  texts : List (List UInt8)
  lists : List (List Ob)
  dicts : List Dc
  changes : List Chg
  marks : List Szs

def byteCells (l : List UInt8) : List Value := l.map fun b => .int .u8 b.toNat
def obCells (l : List Ob) : List Value := l.flatMap Ob.cells

theorem byteCells_zero (n : Nat) : (List.replicate n [Value.int .u8 0]).flatten = byteCells (List.replicate n 0) := by
  induction n with
  | zero => rfl
  | succ n ih => simp only [List.replicate_succ, List.flatten_cons, ih, byteCells, List.map_cons]; rfl
theorem obCells_null (n : Nat) : (List.replicate n Ob.null.cells).flatten = obCells (List.replicate n Ob.null) := by
  induction n with
  | zero => rfl
  | succ n ih => simp only [List.replicate_succ, List.flatten_cons, ih, obCells, List.flatMap_cons]

/-- What is always so. -/
structure St.Ok (σ : St) : Prop where
  free0 : 0 ≤ σ.free
  room : (σ.texts.length : Int) + σ.lists.length + σ.dicts.length + σ.free ≤ 1048576
  text : ∀ t ∈ σ.texts, t.length ≤ 65535
  list : ∀ l ∈ σ.lists, l.length ≤ 65535
  dict : ∀ d ∈ σ.dicts, (d.pairs.length : Int) ≤ d.most ∧ d.most ≤ 4096
  nchg : σ.changes.length ≤ 4294967296
  nmark : σ.marks.length ≤ 4294967296

inductive Role where
  | main | texts | lists | dicts | changes | marks
  | text (i : Nat) | list (i : Nat) | dict (i : Nat) | pairs (i : Nat)
abbrev Roles := Nat → Option Role
def Roles.own (ρ : Roles) (b : Nat) : Prop := ρ b ≠ none
def Sl.on (s : Sl) (ρ : Roles) (r : Role) : Prop := ∀ g, s.blk = some g → ρ g = some r

/-- The headers. -/
structure Hd where
  texts : Sl
  lists : Sl
  dicts : Sl
  changes : Sl
  marks : Sl
  ts : List Sl
  ls : List Sl
  ds : List (Nat × Sl)

def slVals (l : List Sl) : List Value := l.map fun s => .slice s.a s.n s.c
def ptrVals (l : List (Nat × Sl)) : List Value := l.map fun d => .pointer (some ⟨d.1, 0, none⟩)

/-- At block p lies a store, in the state σ. -/
structure Sto (w : World) (p : Nat) (σ : St) (h : Hd) (ρ : Roles) : Prop where
  ok : σ.Ok
  main : Blk w p 116 [.int .i64 σ.free, .slice h.texts.a h.texts.n h.texts.c, .slice h.lists.a h.lists.n h.lists.c, .slice h.dicts.a h.dicts.n h.dicts.c,
    .slice h.changes.a h.changes.n h.changes.c, .slice h.marks.a h.marks.n h.marks.c]
  rmain : ρ p = some .main
  texts : Row w 45 1 h.texts (slVals h.ts)
  rtexts : h.texts.on ρ .texts
  lists : Row w 33 1 h.lists (slVals h.ls)
  rlists : h.lists.on ρ .lists
  dicts : Row w 141 1 h.dicts (ptrVals h.ds)
  rdicts : h.dicts.on ρ .dicts
  changes : Row w 124 19 h.changes (σ.changes.flatMap Chg.cells)
  rchanges : h.changes.on ρ .changes
  marks : Row w 140 5 h.marks (σ.marks.flatMap Szs.cells)
  rmarks : h.marks.on ρ .marks
  nts : h.ts.length = σ.texts.length
  nls : h.ls.length = σ.lists.length
  nds : h.ds.length = σ.dicts.length
  ts : ∀ i s b, h.ts[i]? = some s → σ.texts[i]? = some b → Row w 5 1 s (byteCells b) ∧ s.on ρ (.text i)
  ls : ∀ i s l, h.ls[i]? = some s → σ.lists[i]? = some l → Row w 27 8 s (obCells l) ∧ s.on ρ (.list i)
  ds : ∀ i d x, h.ds[i]? = some d → σ.dicts[i]? = some x → Blk w d.1 144 [.int .i64 x.most, .int .i64 x.access, .slice d.2.a d.2.n d.2.c] ∧ ρ d.1 = some (.dict i) ∧
    Row w 122 16 d.2 (x.pairs.flatMap pairCells) ∧ d.2.on ρ (.pairs i)
  bound : ∀ b, ρ b ≠ none → b < w.heap.size

section
variable {w w' : World} {p : Nat} {σ : St} {h : Hd} {ρ : Roles}
/-- What lies in the blocks of ρ alone. -/
theorem Sto.keep (s : Sto w p σ h ρ) (hk : ∀ b, ρ b ≠ none → w'.heap[b]? = w.heap[b]?) (hs : w.heap.size ≤ w'.heap.size) : Sto w' p σ h ρ where
  ok := s.ok
  main := s.main.keep (hk p (by rw [s.rmain]; simp))
  rmain := s.rmain
  texts := s.texts.keep fun g hg => hk g (by rw [s.rtexts g hg]; simp)
  rtexts := s.rtexts
  lists := s.lists.keep fun g hg => hk g (by rw [s.rlists g hg]; simp)
  rlists := s.rlists
  dicts := s.dicts.keep fun g hg => hk g (by rw [s.rdicts g hg]; simp)
  rdicts := s.rdicts
  changes := s.changes.keep fun g hg => hk g (by rw [s.rchanges g hg]; simp)
  rchanges := s.rchanges
  marks := s.marks.keep fun g hg => hk g (by rw [s.rmarks g hg]; simp)
  rmarks := s.rmarks
  nts := s.nts
  nls := s.nls
  nds := s.nds
  ts i t b h1 h2 := by
    obtain ⟨h3, h4⟩ := s.ts i t b h1 h2
    exact ⟨h3.keep fun g hg => hk g (by rw [h4 g hg]; simp), h4⟩
  ls i t b h1 h2 := by
    obtain ⟨h3, h4⟩ := s.ls i t b h1 h2
    exact ⟨h3.keep fun g hg => hk g (by rw [h4 g hg]; simp), h4⟩
  ds i t b h1 h2 := by
    obtain ⟨h3, h4, h5, h6⟩ := s.ds i t b h1 h2
    exact ⟨h3.keep (hk _ (by rw [h4]; simp)), h4, h5.keep fun g hg => hk g (by rw [h6 g hg]; simp), h6⟩
  bound b hb := Nat.lt_of_lt_of_le (s.bound b hb) hs
theorem Sto.ext (s : Sto w p σ h ρ) (hx : Ext w w') : Sto w' p σ h ρ := s.keep (fun b hb => hx.at_ (s.bound b hb)) hx.size
theorem Sto.only (s : Sto w p σ h ρ) {b : Nat} (k : Only w b w') (hb : ρ b = none) : Sto w' p σ h ρ := s.keep (fun c hc => k.block c (by rintro rfl; exact hc hb)) (Nat.le_of_eq k.size.symm)
theorem Sto.lt (s : Sto w p σ h ρ) : p < w.heap.size := s.main.lt
theorem Sto.fresh (s : Sto w p σ h ρ) {b : Nat} (hb : w.heap.size ≤ b) : ρ b = none := by
  cases hq : ρ b with
  | none => rfl
  | some r => have := s.bound b (by rw [hq]; simp); omega
theorem Roles.none_of {ρ : Roles} {b : Nat} (h : ¬ ρ.own b) : ρ b = none := by
  unfold Roles.own at h
  cases hq : ρ b with
  | none => rfl
  | some r => exact absurd (by rw [hq]; simp) h
theorem Roles.not_own {ρ : Roles} {b : Nat} (h : ρ b = none) : ¬ ρ.own b := fun k => k h
/-- The store is now in the state σ'; only its own blocks have turned. -/
def StoTo (w w' : World) (p : Nat) (ρ : Roles) (σ' : St) : Prop := ∃ h' ρ', Sto w' p σ' h' ρ' ∧ Moves w w' ρ.own ρ'.own
theorem Sto.to_ext (s : Sto w p σ h ρ) (hx : Ext w w') : StoTo w w' p ρ σ := ⟨h, ρ, s.ext hx, Moves.of_ext hx _⟩
end
end Go.Proofs.Ythhckledkhcfeaa
namespace Go.Proofs.Ythhckledkhcfeaa
open Go.RowKit

def St.empty (cells : Int) : St := ⟨cells, [], [], [], [], []⟩
def Hd.empty : Hd := ⟨.nil, .nil, .nil, .nil, .nil, [], [], []⟩
def Roles.one (p : Nat) : Roles := fun b => if b = p then some .main else none
theorem Roles.one_own {p b : Nat} (h : Roles.own (.one p) b) : b = p := by
  unfold Roles.own Roles.one at h; split at h
  · assumption
  · simp at h

theorem Sl.nil_on (ρ : Roles) (r : Role) : Sl.nil.on ρ r := fun g hg => by simp [Sl.blk] at hg

theorem Sto.new_ {w : World} {p : Nat} {cells : Int} (h0 : 1 ≤ cells) (h1 : cells ≤ 1048576)
    (hb : Blk w p 116 [.int .i64 cells, .slice none 0 0, .slice none 0 0, .slice none 0 0, .slice none 0 0, .slice none 0 0]) :
    Sto w p (.empty cells) .empty (.one p) where
  ok := ⟨by simp [St.empty]; omega, by simp [St.empty]; omega, by simp [St.empty], by simp [St.empty], by simp [St.empty], by simp [St.empty], by simp [St.empty]⟩
  main := hb
  rmain := by simp [Roles.one]
  texts := Row.nil_ _ _ _
  rtexts := Sl.nil_on _ _
  lists := Row.nil_ _ _ _
  rlists := Sl.nil_on _ _
  dicts := Row.nil_ _ _ _
  rdicts := Sl.nil_on _ _
  changes := Row.nil_ _ _ _
  rchanges := Sl.nil_on _ _
  marks := Row.nil_ _ _ _
  rmarks := Sl.nil_on _ _
  nts := rfl
  nls := rfl
  nds := rfl
  ts i s b h := by simp [Hd.empty] at h
  ls i s b h := by simp [Hd.empty] at h
  ds i s b h := by simp [Hd.empty] at h
  bound b hb' := by rw [Roles.one_own hb']; exact hb.lt

/-- store.New. -/
theorem new_ok (cells : Int) (w : World) (h0 : 1 ≤ cells) (h1 : cells ≤ 1048576) :
    Calls Try.prog 12 #[.int .i64 cells] w fun e w' => e = .returned (.tuple #[.pointer (some ⟨w.heap.size, 0, none⟩), .int .i64 0]) ∧
      Sto w' w.heap.size (.empty cells) .empty (.one w.heap.size) ∧ Ext w w' := by
  go_enter Try.func12, Try.ntmps12
  go_wp2
  go_ret2
  exact ⟨rfl, Sto.new_ h0 h1 (Blk.new w _ _), (Ext.rfl_ w).alloc_ _⟩
theorem new_no (cells : Int) (w : World) (h : cells < 1 ∨ 1048576 < cells) :
    Calls Try.prog 12 #[.int .i64 cells] w fun e w' => e = .returned (.tuple #[.pointer none, .int .i64 21]) ∧ w = w' := by
  by_cases h0 : cells < 1
  · go_enter Try.func12, Try.ntmps12
    go_wp2
    go_ret2
    exact ⟨rfl, rfl⟩
  · have h1 : 1048576 < cells := by omega
    go_enter Try.func12, Try.ntmps12
    go_wp2
    go_ret2
    exact ⟨rfl, rfl⟩

/-- (*Store).Free. -/
theorem free_c {w : World} {p : Nat} {σ : St} {h : Hd} {ρ : Roles} (s : Sto w p σ h ρ) :
    Calls Try.prog 42 #[.pointer (some ⟨p, 0, none⟩)] w fun e w' => e = .returned (.int .i64 σ.free) ∧ w = w' := by
  have hc := s.main.cell
  go_enter Try.func42, Try.ntmps42
  go_wp2
  go_ret
  exact ⟨rfl, rfl⟩
theorem free_nil (w : World) : Calls Try.prog 42 #[.pointer none] w fun e w' => e = .returned (.int .i64 0) ∧ w = w' := by
  go_enter Try.func42, Try.ntmps42
  go_wp2
  go_ret
  exact ⟨rfl, rfl⟩

/-- (*Store).take. -/
def takeE (free n most cells : Int) : Int := if n < 0 then 11 else if most < n then 9 else if free < cells then 20 else 0
theorem take_ok {p : Nat} {n most cells free : Int} {c1 c2 c3 c4 c5 : Value} {w : World}
    (h : Blk w p 116 [.int .i64 free, c1, c2, c3, c4, c5]) (h0 : 0 ≤ free) (h1 : free ≤ 1048576) (h2 : 0 ≤ n) (h3 : n ≤ most) (h4 : cells ≤ free) (h5 : 0 ≤ cells) :
    Calls Try.prog 60 #[.pointer (some ⟨p, 0, none⟩), .int .i64 n, .int .i64 most, .int .i64 cells] w fun e w' => e = .returned (.int .i64 0) ∧ w' = w.setCell ⟨p, 0, none⟩ (.int .i64 (free - cells)) := by
  have hc := h.cell
  have hf := h.frozen
  go_enter Try.func60, Try.ntmps60
  go_wp2
  go_ret
  exact ⟨rfl, rfl⟩
theorem take_no {p : Nat} {n most cells free : Int} {c1 c2 c3 c4 c5 : Value} {w : World}
    (h : Blk w p 116 [.int .i64 free, c1, c2, c3, c4, c5]) (hno : n < 0 ∨ most < n ∨ free < cells) :
    Calls Try.prog 60 #[.pointer (some ⟨p, 0, none⟩), .int .i64 n, .int .i64 most, .int .i64 cells] w fun e w' => e = .returned (.int .i64 (takeE free n most cells)) ∧ w = w' := by
  have hc := h.cell
  unfold takeE
  by_cases h1 : n < 0
  · rw [if_pos h1]
    go_enter Try.func60, Try.ntmps60
    go_wp2
    go_ret
    exact ⟨rfl, rfl⟩
  · by_cases h2 : most < n
    · rw [if_neg h1, if_pos h2]
      go_enter Try.func60, Try.ntmps60
      go_wp2
      go_ret
      exact ⟨rfl, rfl⟩
    · have h3 : free < cells := by omega
      rw [if_neg h1, if_neg h2, if_pos h3]
      go_enter Try.func60, Try.ntmps60
      go_wp2
      go_ret
      exact ⟨rfl, rfl⟩
theorem take_nil (n most cells : Int) (w : World) :
    Calls Try.prog 60 #[.pointer none, .int .i64 n, .int .i64 most, .int .i64 cells] w fun e w' => e = .returned (.int .i64 21) ∧ w = w' := by
  go_enter Try.func60, Try.ntmps60
  go_wp2
  go_ret
  exact ⟨rfl, rfl⟩

/-- within. -/
def withinB (fr ln n : Int) : Bool := decide (0 ≤ fr ∧ 0 ≤ ln ∧ fr ≤ n ∧ ln ≤ n - fr)
theorem ret_bool {a b : Bool} (h : a = b) : Ending.returned (.bool a) = .returned (.bool b) := by rw [h]
theorem within_c (k : Int) (x : Bool) (ac nn : Int) (nm : ByteArray) (rf fr ln n : Int) (w : World) (h0 : 0 ≤ n) (h1 : n ≤ 1048576) :
    Calls Try.prog 92 #[.agg #[.int .i64 k, .bool x, .int .i64 ac, .int .i64 nn, .string nm, .int .i64 rf, .int .i64 fr, .int .i64 ln], .int .i64 n] w fun e w' => e = .returned (.bool (withinB fr ln n)) ∧ Ext w w' := by
  go_enter Try.func92, Try.ntmps92
  go_wp2
  all_goals
    go_ret
    refine ⟨ret_bool ?_, (Ext.rfl_ w).alloc_ _⟩
    unfold withinB
    first
      | (rw [decide_eq_decide]; omega)
      | (symm; rw [decide_eq_false_iff_not]; omega)
      | (symm; rw [decide_eq_true_iff]; omega)
end Go.Proofs.Ythhckledkhcfeaa
