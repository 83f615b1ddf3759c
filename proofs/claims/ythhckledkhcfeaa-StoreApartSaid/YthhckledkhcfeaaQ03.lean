/- How the store's data turn in memory: plain lemmas, no program. -/
import Derived.Test.YthhckledkhcfeaaQ02
namespace Go.Proofs.Ythhckledkhcfeaa
open Go.RowKit

/-- Of the blocks of ρ only those with a role in C have turned, or lost their role. -/
structure Upd (w w' : World) (ρ ρ' : Roles) (C : Role → Prop) : Prop where
  same : ∀ b r, ρ b = some r → ¬ C r → w'.heap[b]? = w.heap[b]? ∧ ρ' b = some r
  bound : ∀ b, ρ' b ≠ none → b < w'.heap.size

section
variable {w w' : World} {ρ ρ' : Roles} {C : Role → Prop} {r : Role}
theorem Upd.row (u : Upd w w' ρ ρ' C) {e : TypeId} {sz : Nat} {v : Sl} {xs : List Value} (h : Row w e sz v xs) (ho : v.on ρ r) (hr : ¬ C r) : Row w' e sz v xs :=
  h.keep fun g hg => (u.same g r (ho g hg) hr).1
theorem Upd.on (u : Upd w w' ρ ρ' C) {v : Sl} (ho : v.on ρ r) (hr : ¬ C r) : v.on ρ' r := fun g hg => (u.same g r (ho g hg) hr).2
theorem Upd.blk (u : Upd w w' ρ ρ' C) {g : Nat} {t : TypeId} {cs : List Value} (h : Blk w g t cs) (ho : ρ g = some r) (hr : ¬ C r) : Blk w' g t cs := h.keep (u.same g r ho hr).1
theorem Upd.at_ (u : Upd w w' ρ ρ' C) {g : Nat} (ho : ρ g = some r) (hr : ¬ C r) : ρ' g = some r := (u.same g r ho hr).2
end

/-- ρ with a role for one block more. -/
def Roles.put (ρ : Roles) (g : Nat) (r : Role) : Roles := fun b => if b = g then some r else ρ b
def Roles.puts (ρ : Roles) (g : Option Nat) (r : Role) : Roles := fun b => if g = some b then some r else ρ b
theorem Roles.puts_own {ρ : Roles} {g : Option Nat} {r : Role} {b : Nat} (h : Roles.own (ρ.puts g r) b) : ρ.own b ∨ g = some b := by
  unfold Roles.own Roles.puts at h
  split at h
  · exact .inr (by assumption)
  · exact .inl h
theorem Roles.put_own {ρ : Roles} {g : Nat} {r : Role} {b : Nat} (h : Roles.own (ρ.put g r) b) : ρ.own b ∨ b = g := by
  unfold Roles.own Roles.put at h
  split at h
  · exact .inr (by assumption)
  · exact .inl h
theorem Sl.on_puts (s : Sl) (ρ : Roles) (r : Role) : s.on (ρ.puts s.blk r) r := fun g hg => by simp [Roles.puts, hg]

/-- How many cells are left: another number. -/
theorem Sto.free_ {w : World} {p : Nat} {σ : St} {h : Hd} {ρ : Roles} (s : Sto w p σ h ρ) {f : Int} (h0 : 0 ≤ f) (h1 : f ≤ σ.free) :
    Sto (w.setCell ⟨p, 0, none⟩ (.int .i64 f)) p { σ with free := f } h ρ := by
  have u : Upd w (w.setCell ⟨p, 0, none⟩ (.int .i64 f)) ρ ρ (fun r => r = .main) :=
    ⟨fun b r hb hr => ⟨Below.heap_setCell _ _ _ _ (by rintro rfl; rw [s.rmain] at hb; injection hb with hb; exact hr hb.symm), hb⟩, fun b hb => by simpa using s.bound b hb⟩
  exact {
    ok := ⟨h0, by have := s.ok.room; simp only; omega, s.ok.text, s.ok.list, s.ok.dict, s.ok.nchg, s.ok.nmark⟩
    main := s.main.set_ 0 _
    rmain := s.rmain
    texts := u.row s.texts s.rtexts (by simp)
    rtexts := s.rtexts
    lists := u.row s.lists s.rlists (by simp)
    rlists := s.rlists
    dicts := u.row s.dicts s.rdicts (by simp)
    rdicts := s.rdicts
    changes := u.row s.changes s.rchanges (by simp)
    rchanges := s.rchanges
    marks := u.row s.marks s.rmarks (by simp)
    rmarks := s.rmarks
    nts := s.nts
    nls := s.nls
    nds := s.nds
    ts := fun i v b h1 h2 => have ⟨a, c⟩ := s.ts i v b h1 h2; ⟨u.row a c (by simp), c⟩
    ls := fun i v b h1 h2 => have ⟨a, c⟩ := s.ls i v b h1 h2; ⟨u.row a c (by simp), c⟩
    ds := fun i v b h1 h2 => have ⟨a, c, d, e⟩ := s.ds i v b h1 h2; ⟨u.blk a c (by simp), c, u.row d e (by simp), e⟩
    bound := u.bound }

theorem getElem?_snoc {α : Type} {l : List α} {a b : α} {i : Nat} (h : (l ++ [a])[i]? = some b) : l[i]? = some b ∨ (i = l.length ∧ b = a) := by
  rcases Nat.lt_trichotomy i l.length with hl | hl | hl
  · rw [List.getElem?_append_left hl] at h; exact .inl h
  · subst hl; rw [List.getElem?_append_right (Nat.le_refl _)] at h; simp at h; exact .inr ⟨rfl, h.symm⟩
  · rw [List.getElem?_append_right (by omega), List.getElem?_eq_none (by simp; omega)] at h; cases h
theorem getElem?_lt {α : Type} {l : List α} {b : α} {i : Nat} (h : l[i]? = some b) : i < l.length := (List.getElem?_eq_some_iff.1 h).1

/-- What a new thing in the store leaves: the header's row v, its cell in the store, and the new row t. -/
structure Grew (w w' : World) (ρ : Roles) (role : Role) (v0 v t : Sl) (p : Nat) : Prop where
  size : w.heap.size ≤ w'.heap.size
  vblk : v.blk = v0.blk ∨ ∃ g, v.blk = some g ∧ w.heap.size ≤ g
  tblk : ∀ g, t.blk = some g → w.heap.size ≤ g
  apart : ∀ g, t.blk = some g → v.blk ≠ some g
  rest : ∀ b r, ρ b = some r → r ≠ .main → r ≠ role → w'.heap[b]? = w.heap[b]?

theorem Grew.upd {w w' : World} {p : Nat} {σ : St} {h : Hd} {ρ : Roles} (s : Sto w p σ h ρ) {role nrole : Role} {v0 v t : Sl} (hr0 : v0.on ρ role) (g : Grew w w' ρ role v0 v t p)
    (hv : ∀ b, v.blk = some b → b < w'.heap.size) (ht : ∀ b, t.blk = some b → b < w'.heap.size) :
    Upd w w' ρ ((ρ.puts v.blk role).puts t.blk nrole) (fun r => r = .main ∨ r = role) ∧ v.on ((ρ.puts v.blk role).puts t.blk nrole) role ∧ t.on ((ρ.puts v.blk role).puts t.blk nrole) nrole ∧
      ((ρ.puts v.blk role).puts t.blk nrole) p = (if v.blk = some p then some role else some .main) ∧ ∀ b, Roles.own ((ρ.puts v.blk role).puts t.blk nrole) b → ρ.own b ∨ w.heap.size ≤ b := by
  have hlow : ∀ b, ρ b ≠ none → t.blk ≠ some b := fun b hb hg => by have := g.tblk b hg; have := s.bound b hb; omega
  refine ⟨⟨fun b r hb hr => ?_, fun b hb => ?_⟩, fun b hb => ?_, Sl.on_puts _ _ _, ?_, fun b hb => ?_⟩
  · have hr' : r ≠ .main ∧ r ≠ role := ⟨fun e => hr (.inl e), fun e => hr (.inr e)⟩
    refine ⟨g.rest b r hb hr'.1 hr'.2, ?_⟩
    unfold Roles.puts
    rw [if_neg (hlow b (by rw [hb]; simp)), if_neg, hb]
    intro hvb
    rcases g.vblk with h1 | ⟨g', h1, h2⟩
    · rw [h1] at hvb; rw [hr0 b hvb] at hb; injection hb with hb; exact hr'.2 hb.symm
    · rw [h1] at hvb; injection hvb with hvb; subst hvb; have := s.bound g' (by rw [hb]; simp); omega
  · rcases Roles.puts_own hb with hb | hb
    · rcases Roles.puts_own hb with hb | hb
      · exact Nat.lt_of_lt_of_le (s.bound b hb) g.size
      · exact hv b hb
    · exact ht b hb
  · unfold Roles.puts
    rw [if_neg (fun ht' => g.apart b ht' hb), if_pos hb]
  · unfold Roles.puts
    rw [if_neg (hlow p (by rw [s.rmain]; simp))]
    split
    · rfl
    · exact s.rmain
  · rcases Roles.puts_own hb with hb | hb
    · rcases Roles.puts_own hb with hb | hb
      · exact .inl hb
      · rcases g.vblk with h1 | ⟨g', h1, h2⟩
        · rw [h1] at hb; exact .inl (by unfold Roles.own; rw [hr0 b hb]; simp)
        · rw [h1] at hb; injection hb with hb; subst hb; exact .inr h2
    · exact .inr (g.tblk b hb)

theorem Grew.not_main {w w' : World} {p : Nat} {σ : St} {h : Hd} {ρ : Roles} (s : Sto w p σ h ρ) {role : Role} {v0 v t : Sl} (hr0 : v0.on ρ role) (hne : role ≠ .main) (g : Grew w w' ρ role v0 v t p) : v.blk ≠ some p := by
  intro hv
  rcases g.vblk with h1 | ⟨g', h1, h2⟩
  · rw [h1] at hv; have := hr0 p hv; rw [s.rmain] at this; injection this with this; exact hne this.symm
  · rw [h1] at hv; injection hv with hv; subst hv; have := s.lt; omega

theorem ownBlock_blk (s : Sl) : Value.ownBlock (.slice s.a s.n s.c) = s.blk := by obtain ⟨a, n, c⟩ := s; cases a <;> rfl
theorem heap_at2 (w : World) (A B : Go.Obj) : ((w.alloc A).alloc B).drew.heap[w.heap.size]? = some A := heap_alloc2_old w A B
theorem heap_at {w : World} {o : Go.Obj} {n : Nat} (hn : n = w.heap.size) : (w.alloc o).heap[n]? = some o := by subst hn; exact heap_alloc_new w o

/-- A header's row has grown by append, the new header is stored in the store's field i. -/
theorem Sto.hdr_append {w X w1 : World} {p : Nat} {σ : St} {h : Hd} {ρ : Roles} (s : Sto w p σ h ρ) {role : Role} {v0 : Sl} (hr0 : v0.on ρ role) (hne : role ≠ .main) (hX : Ext w X)
    (hgrow : X.grownBy w1 (Value.ownBlock (.slice v0.a v0.n v0.c))) {g cap H m : Nat} (hat : Value.ownBlock (.slice v0.a v0.n v0.c) = some g ∨ g = H) (hH : w.heap.size ≤ H)
    {e : TypeId} {sz : Nat} {ys : List Value} (hown : w1.ownsRow 0 e sz (.slice (some ⟨g, 0, none⟩) m cap) m ys)
    {t : Sl} {e' : TypeId} {sz' : Nat} {zs : List Value} (ht : Row X e' sz' t zs) (htf : ∀ b, t.blk = some b → w.heap.size ≤ b ∧ b ≠ H) (i : Nat) (u : Value) {T : TypeId} {cs : List Value} (hm : Blk w p T cs) :
    Blk w1 p T cs ∧ Grew w (w1.setCell ⟨p, i, none⟩ u) ρ role v0 ⟨some ⟨g, 0, none⟩, m, cap⟩ t p ∧ Blk (w1.setCell ⟨p, i, none⟩ u) p T (cs.set i u) ∧ Row (w1.setCell ⟨p, i, none⟩ u) e sz ⟨some ⟨g, 0, none⟩, m, cap⟩ ys ∧
      Row (w1.setCell ⟨p, i, none⟩ u) e' sz' t zs ∧ (∀ b, b < w.heap.size → b ≠ p → v0.blk ≠ some b → (w1.setCell ⟨p, i, none⟩ u).heap[b]? = w.heap[b]?) ∧
      (∀ F' : Nat → Prop, (∀ b, F' b → ρ.own b ∨ w.heap.size ≤ b) → Moves w (w1.setCell ⟨p, i, none⟩ u) ρ.own F') := by
  rw [ownBlock_blk] at hgrow hat
  have hplt := s.lt
  have hv0p : v0.blk ≠ some p := fun hb => by have := hr0 p hb; rw [s.rmain] at this; injection this with this; exact hne this.symm
  have hv0lt : ∀ b, v0.blk = some b → b < w.heap.size := fun b hb => s.bound b (by rw [hr0 b hb]; simp)
  have hw1 : ∀ b, b < w.heap.size → v0.blk ≠ some b → w1.heap[b]? = w.heap[b]? := fun b hb hn => (hgrow.block b (Nat.lt_of_lt_of_le hb hX.size) (fun e => hn e.symm)).trans (hX.at_ hb)
  have hrest : ∀ b, b < w.heap.size → b ≠ p → v0.blk ≠ some b → (w1.setCell ⟨p, i, none⟩ u).heap[b]? = w.heap[b]? := fun b hb hp hn => (Below.heap_setCell _ _ _ _ hp).trans (hw1 b hb hn)
  have hsize : w.heap.size ≤ w1.heap.size := Nat.le_trans hX.size hgrow.size
  have hgp : g ≠ p := by
    rintro rfl
    rcases hat with h1 | h1
    · exact hv0p h1
    · omega
  refine ⟨hm.keep (hw1 p hplt hv0p), ⟨by simpa using hsize, ?_, fun b hb => (htf b hb).1, fun b hb hv => ?_, fun b r hb h1 h2 => hrest b (s.bound b (by rw [hb]; simp)) (by rintro rfl; rw [s.rmain] at hb; injection hb with hb; exact h1 hb.symm)
    (fun hv => by rw [hr0 b hv] at hb; injection hb with hb; exact h2 hb.symm)⟩, ?_, ?_, ?_, hrest, fun F' hF => ?_⟩
  · rcases hat with h1 | h1
    · exact .inl (by rw [h1]; rfl)
    · exact .inr ⟨g, rfl, by omega⟩
  · have hbg : b = g := by simpa [Sl.blk] using hv.symm
    obtain ⟨h1, h2⟩ := htf b hb
    rcases hat with h3 | h3
    · have := hv0lt g h3; omega
    · omega
  · exact (hm.keep (hw1 p hplt hv0p)).set_ i u
  · exact Row.far (show Row w1 e sz ⟨some ⟨g, 0, none⟩, m, cap⟩ ys from hown) (by simp [Sl.blk]; exact hgp) u
  · refine Row.far (ht.keep fun b hb => hgrow.block b (ht.blk_lt hb) (fun e => ?_)) (fun hb => ?_) u
    · have := hv0lt b e.symm; have := (htf b hb).1; omega
    · have := (htf _ hb).1; simp at this; omega
  · exact ⟨hgrow.os.trans hX.os, hgrow.tape.trans hX.tape, hgrow.output.trans hX.output, by simpa using hsize,
      fun b hb hn => hrest b hb (by rintro rfl; exact hn (by unfold Roles.own; rw [s.rmain]; simp)) (fun hv => hn (by unfold Roles.own; rw [hr0 b hv]; simp)), hF⟩

/-- The same, for the law of append that speaks of headers. -/
theorem Sto.hdr_app {w X w1 : World} {p : Nat} {σ : St} {h : Hd} {ρ : Roles} (s : Sto w p σ h ρ) {role : Role} {v0 v' : Sl} (hr0 : v0.on ρ role) (hne : role ≠ .main) (hX : Ext w X)
    (hgrow : X.grownBy w1 v0.blk) {H : Nat} (hat : v'.blk = v0.blk ∨ v'.blk = some H) (hH : w.heap.size ≤ H)
    {e : TypeId} {sz : Nat} {ys : List Value} (hrow : Row w1 e sz v' ys) (i : Nat) (u : Value) {T : TypeId} {cs : List Value} (hm : Blk w p T cs) :
    Blk w1 p T cs ∧ Blk (w1.setCell ⟨p, i, none⟩ u) p T (cs.set i u) ∧ Row (w1.setCell ⟨p, i, none⟩ u) e sz v' ys ∧ (v'.blk = v0.blk ∨ ∃ g, v'.blk = some g ∧ w.heap.size ≤ g) ∧
      (∀ b r, ρ b = some r → r ≠ .main → r ≠ role → (w1.setCell ⟨p, i, none⟩ u).heap[b]? = w.heap[b]?) ∧ w.heap.size ≤ (w1.setCell ⟨p, i, none⟩ u).heap.size ∧
      (∀ F' : Nat → Prop, (∀ b, F' b → ρ.own b ∨ w.heap.size ≤ b) → Moves w (w1.setCell ⟨p, i, none⟩ u) ρ.own F') := by
  have hplt := s.lt
  have hv0p : v0.blk ≠ some p := fun hb => by have := hr0 p hb; rw [s.rmain] at this; injection this with this; exact hne this.symm
  have hw1 : ∀ b, b < w.heap.size → v0.blk ≠ some b → w1.heap[b]? = w.heap[b]? := fun b hb hn => (hgrow.block b (Nat.lt_of_lt_of_le hb hX.size) (fun e => hn e.symm)).trans (hX.at_ hb)
  have hrest : ∀ b, b < w.heap.size → b ≠ p → v0.blk ≠ some b → (w1.setCell ⟨p, i, none⟩ u).heap[b]? = w.heap[b]? := fun b hb hp hn => (Below.heap_setCell _ _ _ _ hp).trans (hw1 b hb hn)
  have hsize : w.heap.size ≤ w1.heap.size := Nat.le_trans hX.size hgrow.size
  have hgp : v'.blk ≠ some p := by
    rcases hat with h1 | h1
    · rw [h1]; exact hv0p
    · rw [h1]; intro e; injection e with e; omega
  refine ⟨hm.keep (hw1 p hplt hv0p), (hm.keep (hw1 p hplt hv0p)).set_ i u, hrow.far hgp u, ?_, fun b r hb h1 h2 => hrest b (s.bound b (by rw [hb]; simp)) (by rintro rfl; rw [s.rmain] at hb; injection hb with hb; exact h1 hb.symm)
    (fun hv => by rw [hr0 b hv] at hb; injection hb with hb; exact h2 hb.symm), by simpa using hsize, fun F' hF => ?_⟩
  · rcases hat with h1 | h1
    · exact .inl h1
    · exact .inr ⟨H, h1, hH⟩
  · exact ⟨hgrow.os.trans hX.os, hgrow.tape.trans hX.tape, hgrow.output.trans hX.output, by simpa using hsize,
      fun b hb hn => hrest b hb (by rintro rfl; exact hn (by unfold Roles.own; rw [s.rmain]; simp)) (fun hv => hn (by unfold Roles.own; rw [hr0 b hv]; simp)), hF⟩

section
variable {w w' : World} {p : Nat} {σ : St} {h : Hd} {ρ : Roles}
/-- A new list. -/
theorem Sto.addList (s : Sto w p σ h ρ) {v t : Sl} {l : List Ob} (g : Grew w w' ρ .lists h.lists v t p)
    (hm : Blk w' p 116 [.int .i64 σ.free, .slice h.texts.a h.texts.n h.texts.c, .slice v.a v.n v.c, .slice h.dicts.a h.dicts.n h.dicts.c, .slice h.changes.a h.changes.n h.changes.c, .slice h.marks.a h.marks.n h.marks.c])
    (hv : Row w' 33 1 v (slVals h.ls ++ [.slice t.a t.n t.c])) (ht : Row w' 27 8 t (obCells l)) (hl : l.length ≤ 65535)
    (hroom : (σ.texts.length : Int) + (σ.lists.length + 1) + σ.dicts.length + σ.free ≤ 1048576) :
    ∃ ρ' : Roles, Sto w' p { σ with lists := σ.lists ++ [l] } { h with lists := v, ls := h.ls ++ [t] } ρ' ∧ ∀ b, ρ'.own b → ρ.own b ∨ w.heap.size ≤ b := by
  obtain ⟨u, u1, u2, u3, u4⟩ := g.upd s (nrole := .list σ.lists.length) s.rlists (fun b hb => hv.blk_lt hb) (fun b hb => ht.blk_lt hb)
  rw [if_neg (g.not_main s s.rlists (by simp))] at u3
  refine ⟨_, ?_, u4⟩
  exact {
    ok := ⟨s.ok.free0, by simp only [List.length_append, List.length_singleton]; omega, s.ok.text, fun x hx => by
      rcases List.mem_append.1 hx with hx | hx
      · exact s.ok.list x hx
      · rw [List.mem_singleton.1 hx]; exact hl, s.ok.dict, s.ok.nchg, s.ok.nmark⟩
    main := hm
    rmain := u3
    texts := u.row s.texts s.rtexts (by simp)
    rtexts := u.on s.rtexts (by simp)
    lists := by simpa [slVals] using hv
    rlists := u1
    dicts := u.row s.dicts s.rdicts (by simp)
    rdicts := u.on s.rdicts (by simp)
    changes := u.row s.changes s.rchanges (by simp)
    rchanges := u.on s.rchanges (by simp)
    marks := u.row s.marks s.rmarks (by simp)
    rmarks := u.on s.rmarks (by simp)
    nts := s.nts
    nls := by simp [s.nls]
    nds := s.nds
    ts := fun i v b h1 h2 => have ⟨a, c⟩ := s.ts i v b h1 h2; ⟨u.row a c (by simp), u.on c (by simp)⟩
    ls := fun i v b h1 h2 => by
      rcases getElem?_snoc h1 with h1 | ⟨hi1, rfl⟩
      · rcases getElem?_snoc h2 with h2 | ⟨hi2, rfl⟩
        · have ⟨a, c⟩ := s.ls i v b h1 h2
          exact ⟨u.row a c (by simp), u.on c (by simp)⟩
        · have := getElem?_lt h1; have := s.nls; omega
      · rcases getElem?_snoc h2 with h2 | ⟨hi2, rfl⟩
        · have := getElem?_lt h2; have := s.nls; omega
        · rw [hi2]; exact ⟨ht, u2⟩
    ds := fun i v b h1 h2 => have ⟨a, c, d, e⟩ := s.ds i v b h1 h2; ⟨u.blk a c (by simp), u.at_ c (by simp), u.row d e (by simp), u.on e (by simp)⟩
    bound := u.bound }
/-- A new string. -/
theorem Sto.addText (s : Sto w p σ h ρ) {v t : Sl} {l : List UInt8} (g : Grew w w' ρ .texts h.texts v t p)
    (hm : Blk w' p 116 [.int .i64 σ.free, .slice v.a v.n v.c, .slice h.lists.a h.lists.n h.lists.c, .slice h.dicts.a h.dicts.n h.dicts.c, .slice h.changes.a h.changes.n h.changes.c, .slice h.marks.a h.marks.n h.marks.c])
    (hv : Row w' 45 1 v (slVals h.ts ++ [.slice t.a t.n t.c])) (ht : Row w' 5 1 t (byteCells l)) (hl : l.length ≤ 65535)
    (hroom : (σ.texts.length + 1 : Int) + σ.lists.length + σ.dicts.length + σ.free ≤ 1048576) :
    ∃ ρ' : Roles, Sto w' p { σ with texts := σ.texts ++ [l] } { h with texts := v, ts := h.ts ++ [t] } ρ' ∧ (∀ b, ρ'.own b → ρ.own b ∨ w.heap.size ≤ b) ∧ t.on ρ' (.text σ.texts.length) := by
  obtain ⟨u, u1, u2, u3, u4⟩ := g.upd s (nrole := .text σ.texts.length) s.rtexts (fun b hb => hv.blk_lt hb) (fun b hb => ht.blk_lt hb)
  rw [if_neg (g.not_main s s.rtexts (by simp))] at u3
  refine ⟨_, ?_, u4, u2⟩
  exact {
    ok := ⟨s.ok.free0, by simp only [List.length_append, List.length_singleton]; omega, fun x hx => by
      rcases List.mem_append.1 hx with hx | hx
      · exact s.ok.text x hx
      · rw [List.mem_singleton.1 hx]; exact hl, s.ok.list, s.ok.dict, s.ok.nchg, s.ok.nmark⟩
    main := hm
    rmain := u3
    texts := by simpa [slVals] using hv
    rtexts := u1
    lists := u.row s.lists s.rlists (by simp)
    rlists := u.on s.rlists (by simp)
    dicts := u.row s.dicts s.rdicts (by simp)
    rdicts := u.on s.rdicts (by simp)
    changes := u.row s.changes s.rchanges (by simp)
    rchanges := u.on s.rchanges (by simp)
    marks := u.row s.marks s.rmarks (by simp)
    rmarks := u.on s.rmarks (by simp)
    nts := by simp [s.nts]
    nls := s.nls
    nds := s.nds
    ts := fun i v b h1 h2 => by
      rcases getElem?_snoc h1 with h1 | ⟨hi1, rfl⟩
      · rcases getElem?_snoc h2 with h2 | ⟨hi2, rfl⟩
        · have ⟨a, c⟩ := s.ts i v b h1 h2
          exact ⟨u.row a c (by simp), u.on c (by simp)⟩
        · have := getElem?_lt h1; have := s.nts; omega
      · rcases getElem?_snoc h2 with h2 | ⟨hi2, rfl⟩
        · have := getElem?_lt h2; have := s.nts; omega
        · rw [hi2]; exact ⟨ht, u2⟩
    ls := fun i v b h1 h2 => have ⟨a, c⟩ := s.ls i v b h1 h2; ⟨u.row a c (by simp), u.on c (by simp)⟩
    ds := fun i v b h1 h2 => have ⟨a, c, d, e⟩ := s.ds i v b h1 h2; ⟨u.blk a c (by simp), u.at_ c (by simp), u.row d e (by simp), u.on e (by simp)⟩
    bound := u.bound }
/-- A new dictionary: d its block. -/
theorem Sto.addDict (s : Sto w p σ h ρ) {v : Sl} {d : Nat} {most : Int} (g : Grew w w' ρ .dicts h.dicts v ⟨some ⟨d, 0, none⟩, 1, 1⟩ p)
    (hm : Blk w' p 116 [.int .i64 σ.free, .slice h.texts.a h.texts.n h.texts.c, .slice h.lists.a h.lists.n h.lists.c, .slice v.a v.n v.c, .slice h.changes.a h.changes.n h.changes.c, .slice h.marks.a h.marks.n h.marks.c])
    (hv : Row w' 141 1 v (ptrVals h.ds ++ [.pointer (some ⟨d, 0, none⟩)])) (ht : Blk w' d 144 [.int .i64 most, .int .i64 0, .slice none 0 0]) (h0 : 0 ≤ most) (hl : most ≤ 4096)
    (hroom : (σ.texts.length : Int) + σ.lists.length + (σ.dicts.length + 1) + σ.free ≤ 1048576) :
    ∃ ρ' : Roles, Sto w' p { σ with dicts := σ.dicts ++ [⟨most, 0, []⟩] } { h with dicts := v, ds := h.ds ++ [(d, .nil)] } ρ' ∧ ∀ b, ρ'.own b → ρ.own b ∨ w.heap.size ≤ b := by
  obtain ⟨u, u1, u2, u3, u4⟩ := g.upd s (nrole := .dict σ.dicts.length) s.rdicts (fun b hb => hv.blk_lt hb) (fun b hb => by simp [Sl.blk] at hb; subst hb; exact ht.lt)
  rw [if_neg (g.not_main s s.rdicts (by simp))] at u3
  refine ⟨_, ?_, u4⟩
  exact {
    ok := ⟨s.ok.free0, by simp only [List.length_append, List.length_singleton]; omega, s.ok.text, s.ok.list, fun x hx => by
      rcases List.mem_append.1 hx with hx | hx
      · exact s.ok.dict x hx
      · rw [List.mem_singleton.1 hx]; exact ⟨by simpa using h0, hl⟩, s.ok.nchg, s.ok.nmark⟩
    main := hm
    rmain := u3
    texts := u.row s.texts s.rtexts (by simp)
    rtexts := u.on s.rtexts (by simp)
    lists := u.row s.lists s.rlists (by simp)
    rlists := u.on s.rlists (by simp)
    dicts := by simpa [ptrVals] using hv
    rdicts := u1
    changes := u.row s.changes s.rchanges (by simp)
    rchanges := u.on s.rchanges (by simp)
    marks := u.row s.marks s.rmarks (by simp)
    rmarks := u.on s.rmarks (by simp)
    nts := s.nts
    nls := s.nls
    nds := by simp [s.nds]
    ts := fun i v b h1 h2 => have ⟨a, c⟩ := s.ts i v b h1 h2; ⟨u.row a c (by simp), u.on c (by simp)⟩
    ls := fun i v b h1 h2 => have ⟨a, c⟩ := s.ls i v b h1 h2; ⟨u.row a c (by simp), u.on c (by simp)⟩
    ds := fun i v b h1 h2 => by
      rcases getElem?_snoc h1 with h1 | ⟨hi1, rfl⟩
      · rcases getElem?_snoc h2 with h2 | ⟨hi2, rfl⟩
        · have ⟨a, c, d, e⟩ := s.ds i v b h1 h2
          exact ⟨u.blk a c (by simp), u.at_ c (by simp), u.row d e (by simp), u.on e (by simp)⟩
        · have := getElem?_lt h1; have := s.nds; omega
      · rcases getElem?_snoc h2 with h2 | ⟨hi2, rfl⟩
        · have := getElem?_lt h2; have := s.nds; omega
        · rw [hi2]; exact ⟨ht, u2 d rfl, Row.nil_ _ _ _, Sl.nil_on _ _⟩
    bound := u.bound }

/-- What a string holds, turned; its length is as it was. -/
theorem Sto.setText (s : Sto w p σ h ρ) {r : Nat} {t : Sl} {b b' : List UInt8} (ht : h.ts[r]? = some t) (hb : σ.texts[r]? = some b) (hl : b'.length = b.length)
    (hrow : Row w' 5 1 t (byteCells b')) (hg : ∀ g, g < w.heap.size → t.blk ≠ some g → w'.heap[g]? = w.heap[g]?) (hs : w.heap.size ≤ w'.heap.size) : Sto w' p { σ with texts := σ.texts.set r b' } h ρ := by
  have hon := (s.ts r t b ht hb).2
  have u : Upd w w' ρ ρ (fun x => x = .text r) := ⟨fun c x hc hx => ⟨hg c (s.bound c (by rw [hc]; simp)) (fun hv => by rw [hon c hv] at hc; injection hc with hc; exact hx hc.symm), hc⟩,
    fun c hc => Nat.lt_of_lt_of_le (s.bound c hc) hs⟩
  exact {
    ok := ⟨s.ok.free0, by simpa using s.ok.room, fun x hx => by
      rcases List.mem_or_eq_of_mem_set hx with hx | hx
      · exact s.ok.text x hx
      · rw [hx, hl]; exact s.ok.text b (List.mem_of_getElem? hb), s.ok.list, s.ok.dict, s.ok.nchg, s.ok.nmark⟩
    main := u.blk s.main s.rmain (by simp)
    rmain := s.rmain
    texts := u.row s.texts s.rtexts (by simp)
    rtexts := s.rtexts
    lists := u.row s.lists s.rlists (by simp)
    rlists := s.rlists
    dicts := u.row s.dicts s.rdicts (by simp)
    rdicts := s.rdicts
    changes := u.row s.changes s.rchanges (by simp)
    rchanges := s.rchanges
    marks := u.row s.marks s.rmarks (by simp)
    rmarks := s.rmarks
    nts := by simpa using s.nts
    nls := s.nls
    nds := s.nds
    ts := fun i v c h1 h2 => by
      by_cases hi : i = r
      · subst hi
        rw [ht] at h1; injection h1 with h1; subst h1
        have : i < σ.texts.length := getElem?_lt hb
        simp [List.getElem?_set, this] at h2
        subst h2
        exact ⟨hrow, hon⟩
      · simp only [List.getElem?_set_ne (Ne.symm hi)] at h2
        have ⟨a, c⟩ := s.ts i v c h1 h2
        exact ⟨u.row a c (by simpa using hi), c⟩
    ls := fun i v b h1 h2 => have ⟨a, c⟩ := s.ls i v b h1 h2; ⟨u.row a c (by simp), c⟩
    ds := fun i v b h1 h2 => have ⟨a, c, d, e⟩ := s.ds i v b h1 h2; ⟨u.blk a c (by simp), c, u.row d e (by simp), e⟩
    bound := u.bound }
/-- What an array holds, turned; its length is as it was. -/
theorem Sto.setList (s : Sto w p σ h ρ) {r : Nat} {t : Sl} {b b' : List Ob} (ht : h.ls[r]? = some t) (hb : σ.lists[r]? = some b) (hl : b'.length = b.length)
    (hrow : Row w' 27 8 t (obCells b')) (hg : ∀ g, g < w.heap.size → t.blk ≠ some g → w'.heap[g]? = w.heap[g]?) (hs : w.heap.size ≤ w'.heap.size) : Sto w' p { σ with lists := σ.lists.set r b' } h ρ := by
  have hon := (s.ls r t b ht hb).2
  have u : Upd w w' ρ ρ (fun x => x = .list r) := ⟨fun c x hc hx => ⟨hg c (s.bound c (by rw [hc]; simp)) (fun hv => by rw [hon c hv] at hc; injection hc with hc; exact hx hc.symm), hc⟩,
    fun c hc => Nat.lt_of_lt_of_le (s.bound c hc) hs⟩
  exact {
    ok := ⟨s.ok.free0, by simpa using s.ok.room, s.ok.text, fun x hx => by
      rcases List.mem_or_eq_of_mem_set hx with hx | hx
      · exact s.ok.list x hx
      · rw [hx, hl]; exact s.ok.list b (List.mem_of_getElem? hb), s.ok.dict, s.ok.nchg, s.ok.nmark⟩
    main := u.blk s.main s.rmain (by simp)
    rmain := s.rmain
    texts := u.row s.texts s.rtexts (by simp)
    rtexts := s.rtexts
    lists := u.row s.lists s.rlists (by simp)
    rlists := s.rlists
    dicts := u.row s.dicts s.rdicts (by simp)
    rdicts := s.rdicts
    changes := u.row s.changes s.rchanges (by simp)
    rchanges := s.rchanges
    marks := u.row s.marks s.rmarks (by simp)
    rmarks := s.rmarks
    nts := s.nts
    nls := by simpa using s.nls
    nds := s.nds
    ts := fun i v b h1 h2 => have ⟨a, c⟩ := s.ts i v b h1 h2; ⟨u.row a c (by simp), c⟩
    ls := fun i v c h1 h2 => by
      by_cases hi : i = r
      · subst hi
        rw [ht] at h1; injection h1 with h1; subst h1
        have : i < σ.lists.length := getElem?_lt hb
        simp [List.getElem?_set, this] at h2
        subst h2
        exact ⟨hrow, hon⟩
      · simp only [List.getElem?_set_ne (Ne.symm hi)] at h2
        have ⟨a, c⟩ := s.ls i v c h1 h2
        exact ⟨u.row a c (by simpa using hi), c⟩
    ds := fun i v b h1 h2 => have ⟨a, c, d, e⟩ := s.ds i v b h1 h2; ⟨u.blk a c (by simp), c, u.row d e (by simp), e⟩
    bound := u.bound }

/-- One change more. -/
theorem Sto.addChange (s : Sto w p σ h ρ) {v : Sl} {c : Chg} (hsz : w.heap.size ≤ w'.heap.size) (hvb : v.blk = h.changes.blk ∨ ∃ g, v.blk = some g ∧ w.heap.size ≤ g)
    (hrest : ∀ b r, ρ b = some r → r ≠ .main → r ≠ .changes → w'.heap[b]? = w.heap[b]?)
    (hm : Blk w' p 116 [.int .i64 σ.free, .slice h.texts.a h.texts.n h.texts.c, .slice h.lists.a h.lists.n h.lists.c, .slice h.dicts.a h.dicts.n h.dicts.c, .slice v.a v.n v.c, .slice h.marks.a h.marks.n h.marks.c])
    (hv : Row w' 124 19 v ((σ.changes ++ [c]).flatMap Chg.cells)) (hn : σ.changes.length + 1 ≤ 4294967296) :
    ∃ ρ' : Roles, Sto w' p { σ with changes := σ.changes ++ [c] } { h with changes := v } ρ' ∧ (∀ b, ρ'.own b → ρ.own b ∨ w.heap.size ≤ b) := by
  have g : Grew w w' ρ .changes h.changes v .nil p := ⟨hsz, hvb, fun g hg => by simp [Sl.blk] at hg, fun g hg => by simp [Sl.blk] at hg, hrest⟩
  obtain ⟨u, u1, u2, u3, u4⟩ := g.upd s (nrole := .changes) s.rchanges (fun b hb => hv.blk_lt hb) (fun b hb => by simp [Sl.blk] at hb)
  rw [if_neg (g.not_main s s.rchanges (by simp))] at u3
  refine ⟨_, ?_, u4⟩
  exact {
      ok := ⟨s.ok.free0, s.ok.room, s.ok.text, s.ok.list, s.ok.dict, by simpa using hn, s.ok.nmark⟩
      main := hm
      rmain := u3
      texts := u.row s.texts s.rtexts (by simp)
      rtexts := u.on s.rtexts (by simp)
      lists := u.row s.lists s.rlists (by simp)
      rlists := u.on s.rlists (by simp)
      dicts := u.row s.dicts s.rdicts (by simp)
      rdicts := u.on s.rdicts (by simp)
      changes := hv
      rchanges := u1
      marks := u.row s.marks s.rmarks (by simp)
      rmarks := u.on s.rmarks (by simp)
      nts := s.nts
      nls := s.nls
      nds := s.nds
      ts := fun i v b h1 h2 => have ⟨a, c⟩ := s.ts i v b h1 h2; ⟨u.row a c (by simp), u.on c (by simp)⟩
      ls := fun i v b h1 h2 => have ⟨a, c⟩ := s.ls i v b h1 h2; ⟨u.row a c (by simp), u.on c (by simp)⟩
      ds := fun i v b h1 h2 => have ⟨a, c, d, e⟩ := s.ds i v b h1 h2; ⟨u.blk a c (by simp), u.at_ c (by simp), u.row d e (by simp), u.on e (by simp)⟩
      bound := u.bound }
end
end Go.Proofs.Ythhckledkhcfeaa
