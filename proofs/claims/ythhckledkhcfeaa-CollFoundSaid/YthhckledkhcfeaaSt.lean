/- The store of the program, as plain data, and how it lies in memory. -/
import Derived.Test.YthhckledkhcfeaaSep
namespace Go.Proofs.Ythhckledkhcfeaa
open Go.RowKit

/-- An object: api.Obj. -/
structure Ob where
  k : Int
  x : Bool
  ac : Int
  n : Int
  nm : ByteArray
  rf : Int
  fr : Int
  ln : Int

abbrev ocs (k : Int) (x : Bool) (ac n : Int) (nm : ByteArray) (rf fr ln : Int) : List Value :=
  [.int .i64 k, .bool x, .int .i64 ac, .int .i64 n, .string nm, .int .i64 rf, .int .i64 fr, .int .i64 ln]
def Ob.cells (o : Ob) : List Value := ocs o.k o.x o.ac o.n o.nm o.rf o.fr o.ln
abbrev Ob.null : Ob := ⟨0, false, 0, 0, ByteArray.empty, 0, 0, 0⟩
def I64 (n : Int) : Prop := -9223372036854775808 ≤ n ∧ n ≤ 9223372036854775807
structure Ob.Wf (o : Ob) : Prop where
  k : I64 o.k
  ac : I64 o.ac
  n : I64 o.n
  rf : I64 o.rf
  fr : I64 o.fr
  ln : I64 o.ln

structure Dc where
  most : Int
  access : Int
  pairs : List (Ob × Ob)
def pairCells (p : Ob × Ob) : List Value := p.1.cells ++ p.2.cells
structure Chg where
  kind : Int
  ref : Int
  at_ : Int
  old : Ob × Ob
def Chg.cells (c : Chg) : List Value := [.int .i64 c.kind, .int .i64 c.ref, .int .i64 c.at_] ++ pairCells c.old
structure Szs where
  texts : Int
  lists : Int
  dicts : Int
  free : Int
  changes : Int
def Szs.cells (s : Szs) : List Value := [.int .i64 s.texts, .int .i64 s.lists, .int .i64 s.dicts, .int .i64 s.free, .int .i64 s.changes]

structure St where
  free : Int
  texts : List (List UInt8)
  lists : List (List Ob)
  dicts : List Dc
  changes : List Chg
  marks : List Szs

def byteCells (l : List UInt8) : List Value := l.map fun b => .int .u8 b.toNat
def obCells (l : List Ob) : List Value := l.flatMap Ob.cells

theorem byteCells_zero (n : Nat) : (List.replicate n [Value.int .u8 0]).flatten = byteCells (List.replicate n 0) := by
  induction n with
  | zero => rfl
  | succ n ih => simp only [List.replicate_succ, List.flatten_cons, ih, byteCells, List.map_cons]; rfl
theorem obCells_null (n : Nat) : (List.replicate n Ob.null.cells).flatten = obCells (List.replicate n Ob.null) := by
  induction n with
  | zero => rfl
  | succ n ih => simp only [List.replicate_succ, List.flatten_cons, ih, obCells, List.flatMap_cons]

/-- What is always so. -/
structure St.Ok (σ : St) : Prop where
  free0 : 0 ≤ σ.free
  room : (σ.texts.length : Int) + σ.lists.length + σ.dicts.length + σ.free ≤ 1048576
  text : ∀ t ∈ σ.texts, t.length ≤ 65535
  list : ∀ l ∈ σ.lists, l.length ≤ 65535
  dict : ∀ d ∈ σ.dicts, (d.pairs.length : Int) ≤ d.most ∧ d.most ≤ 4096
  nchg : σ.changes.length ≤ 4294967296
  nmark : σ.marks.length ≤ 4294967296

inductive Role where
  | main | texts | lists | dicts | changes | marks
  | text (i : Nat) | list (i : Nat) | dict (i : Nat) | pairs (i : Nat)
abbrev Roles := Nat → Option Role
def Roles.own (ρ : Roles) (b : Nat) : Prop := ρ b ≠ none
def Sl.on (s : Sl) (ρ : Roles) (r : Role) : Prop := ∀ g, s.blk = some g → ρ g = some r

/-- The headers. -/
structure Hd where
  texts : Sl
  lists : Sl
  dicts : Sl
  changes : Sl
  marks : Sl
  ts : List Sl
  ls : List Sl
  ds : List (Nat × Sl)

def slVals (l : List Sl) : List Value := l.map fun s => .slice s.a s.n s.c
def ptrVals (l : List (Nat × Sl)) : List Value := l.map fun d => .pointer (some ⟨d.1, 0, none⟩)

/-- At block p lies a store, in the state σ. -/
structure Sto (w : World) (p : Nat) (σ : St) (h : Hd) (ρ : Roles) : Prop where
  ok : σ.Ok
  main : Blk w p 116 [.int .i64 σ.free, .slice h.texts.a h.texts.n h.texts.c, .slice h.lists.a h.lists.n h.lists.c, .slice h.dicts.a h.dicts.n h.dicts.c,
    .slice h.changes.a h.changes.n h.changes.c, .slice h.marks.a h.marks.n h.marks.c]
  rmain : ρ p = some .main
  texts : Row w 45 1 h.texts (slVals h.ts)
  rtexts : h.texts.on ρ .texts
  lists : Row w 33 1 h.lists (slVals h.ls)
  rlists : h.lists.on ρ .lists
  dicts : Row w 141 1 h.dicts (ptrVals h.ds)
  rdicts : h.dicts.on ρ .dicts
  changes : Row w 124 19 h.changes (σ.changes.flatMap Chg.cells)
  rchanges : h.changes.on ρ .changes
  marks : Row w 140 5 h.marks (σ.marks.flatMap Szs.cells)
  rmarks : h.marks.on ρ .marks
  nts : h.ts.length = σ.texts.length
  nls : h.ls.length = σ.lists.length
  nds : h.ds.length = σ.dicts.length
  ts : ∀ i s b, h.ts[i]? = some s → σ.texts[i]? = some b → Row w 5 1 s (byteCells b) ∧ s.on ρ (.text i)
  ls : ∀ i s l, h.ls[i]? = some s → σ.lists[i]? = some l → Row w 27 8 s (obCells l) ∧ s.on ρ (.list i)
  ds : ∀ i d x, h.ds[i]? = some d → σ.dicts[i]? = some x → Blk w d.1 144 [.int .i64 x.most, .int .i64 x.access, .slice d.2.a d.2.n d.2.c] ∧ ρ d.1 = some (.dict i) ∧
    Row w 122 16 d.2 (x.pairs.flatMap pairCells) ∧ d.2.on ρ (.pairs i)
  bound : ∀ b, ρ b ≠ none → b < w.heap.size

section
variable {w w' : World} {p : Nat} {σ : St} {h : Hd} {ρ : Roles}
/-- What lies in the blocks of ρ alone. -/
theorem Sto.keep (s : Sto w p σ h ρ) (hk : ∀ b, ρ b ≠ none → w'.heap[b]? = w.heap[b]?) (hs : w.heap.size ≤ w'.heap.size) : Sto w' p σ h ρ where
  ok := s.ok
  main := s.main.keep (hk p (by rw [s.rmain]; simp))
  rmain := s.rmain
  texts := s.texts.keep fun g hg => hk g (by rw [s.rtexts g hg]; simp)
  rtexts := s.rtexts
  lists := s.lists.keep fun g hg => hk g (by rw [s.rlists g hg]; simp)
  rlists := s.rlists
  dicts := s.dicts.keep fun g hg => hk g (by rw [s.rdicts g hg]; simp)
  rdicts := s.rdicts
  changes := s.changes.keep fun g hg => hk g (by rw [s.rchanges g hg]; simp)
  rchanges := s.rchanges
  marks := s.marks.keep fun g hg => hk g (by rw [s.rmarks g hg]; simp)
  rmarks := s.rmarks
  nts := s.nts
  nls := s.nls
  nds := s.nds
  ts i t b h1 h2 := by
    obtain ⟨h3, h4⟩ := s.ts i t b h1 h2
    exact ⟨h3.keep fun g hg => hk g (by rw [h4 g hg]; simp), h4⟩
  ls i t b h1 h2 := by
    obtain ⟨h3, h4⟩ := s.ls i t b h1 h2
    exact ⟨h3.keep fun g hg => hk g (by rw [h4 g hg]; simp), h4⟩
  ds i t b h1 h2 := by
    obtain ⟨h3, h4, h5, h6⟩ := s.ds i t b h1 h2
    exact ⟨h3.keep (hk _ (by rw [h4]; simp)), h4, h5.keep fun g hg => hk g (by rw [h6 g hg]; simp), h6⟩
  bound b hb := Nat.lt_of_lt_of_le (s.bound b hb) hs
theorem Sto.ext (s : Sto w p σ h ρ) (hx : Ext w w') : Sto w' p σ h ρ := s.keep (fun b hb => hx.at_ (s.bound b hb)) hx.size
theorem Sto.only (s : Sto w p σ h ρ) {b : Nat} (k : Only w b w') (hb : ρ b = none) : Sto w' p σ h ρ := s.keep (fun c hc => k.block c (by rintro rfl; exact hc hb)) (Nat.le_of_eq k.size.symm)
theorem Sto.lt (s : Sto w p σ h ρ) : p < w.heap.size := s.main.lt
theorem Sto.fresh (s : Sto w p σ h ρ) {b : Nat} (hb : w.heap.size ≤ b) : ρ b = none := by
  cases hq : ρ b with
  | none => rfl
  | some r => have := s.bound b (by rw [hq]; simp); omega
theorem Roles.none_of {ρ : Roles} {b : Nat} (h : ¬ ρ.own b) : ρ b = none := by
  unfold Roles.own at h
  cases hq : ρ b with
  | none => rfl
  | some r => exact absurd (by rw [hq]; simp) h
theorem Roles.not_own {ρ : Roles} {b : Nat} (h : ρ b = none) : ¬ ρ.own b := fun k => k h
/-- The store is now in the state σ'; only its own blocks have turned. -/
def StoTo (w w' : World) (p : Nat) (ρ : Roles) (σ' : St) : Prop := ∃ h' ρ', Sto w' p σ' h' ρ' ∧ Moves w w' ρ.own ρ'.own
theorem Sto.to_ext (s : Sto w p σ h ρ) (hx : Ext w w') : StoTo w w' p ρ σ := ⟨h, ρ, s.ext hx, Moves.of_ext hx _⟩
end
end Go.Proofs.Ythhckledkhcfeaa
