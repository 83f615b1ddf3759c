/- Going back: what it makes of the store's data. -/
import Derived.Test.YthhckledkhcfeaaMk
namespace Go.Proofs.Ythhckledkhcfeaa
open Go.RowKit
theorem take_some {α : Type} {l : List α} {m i : Nat} {a : α} (h : (l.take m)[i]? = some a) : l[i]? = some a := by
  rw [List.getElem?_take] at h
  split at h
  · exact h
  · cases h
theorem take_flat {α β : Type} (f : α → List β) (k : Nat) (hf : ∀ a, (f a).length = k) (l : List α) (m : Nat) : (l.flatMap f).take (m * k) = (l.take m).flatMap f := by
  induction m generalizing l with
  | zero => simp
  | succ m ih =>
    cases l with
    | nil => simp
    | cons a l =>
      rw [List.take_succ_cons, List.flatMap_cons, List.flatMap_cons, show (m + 1) * k = k + m * k by rw [Nat.add_mul]; omega, List.take_add, List.take_append_of_le_length (by rw [hf]; exact Nat.le_refl _), List.take_of_length_le (by rw [hf]; exact Nat.le_refl _), List.drop_append_of_le_length (by rw [hf]; exact Nat.le_refl _), List.drop_of_length_le (by rw [hf]; exact Nat.le_refl _), List.nil_append, ih]
theorem Sto.cutTexts {w : World} {p : Nat} {σ : St} {h : Hd} {ρ : Roles} (s : Sto w p σ h ρ) {m : Nat} (hm : m ≤ σ.texts.length) :
    Sto (w.setCell ⟨p, 1, none⟩ (.slice h.texts.a m h.texts.c)) p { σ with texts := σ.texts.take m } { h with texts := ⟨h.texts.a, m, h.texts.c⟩, ts := h.ts.take m } ρ := by
  have hn : m ≤ h.texts.n := by rw [s.ntexts]; exact hm
  have u : Upd w (w.setCell ⟨p, 1, none⟩ (.slice h.texts.a m h.texts.c)) ρ ρ (fun r => r = .main) :=
    ⟨fun b r hb hr => ⟨Below.heap_setCell _ _ _ _ (by rintro rfl; rw [s.rmain] at hb; injection hb with hb; exact hr hb.symm), hb⟩, fun b hb => by simpa using s.bound b hb⟩
  exact {
    ok := ⟨s.ok.free0, by have := s.ok.room; simp only [List.length_take]; omega, fun t ht => s.ok.text t (List.mem_of_mem_take ht), s.ok.list, s.ok.dict, s.ok.nchg, s.ok.nmark⟩
    main := s.main.set_ 1 _
    rmain := s.rmain
    texts := by have := (u.row s.texts s.rtexts (by simp)).cut hn; rw [Nat.mul_one] at this; simpa [slVals, List.map_take] using this
    rtexts := fun g hg => s.rtexts g hg
    lists := u.row s.lists s.rlists (by simp)
    rlists := s.rlists
    dicts := u.row s.dicts s.rdicts (by simp)
    rdicts := s.rdicts
    changes := u.row s.changes s.rchanges (by simp)
    rchanges := s.rchanges
    marks := u.row s.marks s.rmarks (by simp)
    rmarks := s.rmarks
    nts := by have := s.nts; simp only [List.length_take]; omega
    nls := s.nls
    nds := s.nds
    ts := fun i v b h1 h2 => have ⟨a, c⟩ := s.ts i v b (take_some h1) (take_some h2); ⟨u.row a c (by simp), c⟩
    ls := fun i v b h1 h2 => have ⟨a, c⟩ := s.ls i v b h1 h2; ⟨u.row a c (by simp), c⟩
    ds := fun i v b h1 h2 => have ⟨a, c, d, e⟩ := s.ds i v b h1 h2; ⟨u.blk a c (by simp), c, u.row d e (by simp), e⟩
    bound := u.bound }
theorem Sto.cutLists {w : World} {p : Nat} {σ : St} {h : Hd} {ρ : Roles} (s : Sto w p σ h ρ) {m : Nat} (hm : m ≤ σ.lists.length) :
    Sto (w.setCell ⟨p, 2, none⟩ (.slice h.lists.a m h.lists.c)) p { σ with lists := σ.lists.take m } { h with lists := ⟨h.lists.a, m, h.lists.c⟩, ls := h.ls.take m } ρ := by
  have hn : m ≤ h.lists.n := by rw [s.nlists]; exact hm
  have u : Upd w (w.setCell ⟨p, 2, none⟩ (.slice h.lists.a m h.lists.c)) ρ ρ (fun r => r = .main) :=
    ⟨fun b r hb hr => ⟨Below.heap_setCell _ _ _ _ (by rintro rfl; rw [s.rmain] at hb; injection hb with hb; exact hr hb.symm), hb⟩, fun b hb => by simpa using s.bound b hb⟩
  exact {
    ok := ⟨s.ok.free0, by have := s.ok.room; simp only [List.length_take]; omega, s.ok.text, fun t ht => s.ok.list t (List.mem_of_mem_take ht), s.ok.dict, s.ok.nchg, s.ok.nmark⟩
    main := s.main.set_ 2 _
    rmain := s.rmain
    texts := u.row s.texts s.rtexts (by simp)
    rtexts := s.rtexts
    lists := by have := (u.row s.lists s.rlists (by simp)).cut hn; rw [Nat.mul_one] at this; simpa [slVals, List.map_take] using this
    rlists := fun g hg => s.rlists g hg
    dicts := u.row s.dicts s.rdicts (by simp)
    rdicts := s.rdicts
    changes := u.row s.changes s.rchanges (by simp)
    rchanges := s.rchanges
    marks := u.row s.marks s.rmarks (by simp)
    rmarks := s.rmarks
    nts := s.nts
    nls := by have := s.nls; simp only [List.length_take]; omega
    nds := s.nds
    ts := fun i v b h1 h2 => have ⟨a, c⟩ := s.ts i v b h1 h2; ⟨u.row a c (by simp), c⟩
    ls := fun i v b h1 h2 => have ⟨a, c⟩ := s.ls i v b (take_some h1) (take_some h2); ⟨u.row a c (by simp), c⟩
    ds := fun i v b h1 h2 => have ⟨a, c, d, e⟩ := s.ds i v b h1 h2; ⟨u.blk a c (by simp), c, u.row d e (by simp), e⟩
    bound := u.bound }
theorem Sto.cutDicts {w : World} {p : Nat} {σ : St} {h : Hd} {ρ : Roles} (s : Sto w p σ h ρ) {m : Nat} (hm : m ≤ σ.dicts.length) :
    Sto (w.setCell ⟨p, 3, none⟩ (.slice h.dicts.a m h.dicts.c)) p { σ with dicts := σ.dicts.take m } { h with dicts := ⟨h.dicts.a, m, h.dicts.c⟩, ds := h.ds.take m } ρ := by
  have hn : m ≤ h.dicts.n := by rw [s.ndicts]; exact hm
  have u : Upd w (w.setCell ⟨p, 3, none⟩ (.slice h.dicts.a m h.dicts.c)) ρ ρ (fun r => r = .main) :=
    ⟨fun b r hb hr => ⟨Below.heap_setCell _ _ _ _ (by rintro rfl; rw [s.rmain] at hb; injection hb with hb; exact hr hb.symm), hb⟩, fun b hb => by simpa using s.bound b hb⟩
  exact {
    ok := ⟨s.ok.free0, by have := s.ok.room; simp only [List.length_take]; omega, s.ok.text, s.ok.list, fun t ht => s.ok.dict t (List.mem_of_mem_take ht), s.ok.nchg, s.ok.nmark⟩
    main := s.main.set_ 3 _
    rmain := s.rmain
    texts := u.row s.texts s.rtexts (by simp)
    rtexts := s.rtexts
    lists := u.row s.lists s.rlists (by simp)
    rlists := s.rlists
    dicts := by have := (u.row s.dicts s.rdicts (by simp)).cut hn; rw [Nat.mul_one] at this; simpa [ptrVals, List.map_take] using this
    rdicts := fun g hg => s.rdicts g hg
    changes := u.row s.changes s.rchanges (by simp)
    rchanges := s.rchanges
    marks := u.row s.marks s.rmarks (by simp)
    rmarks := s.rmarks
    nts := s.nts
    nls := s.nls
    nds := by have := s.nds; simp only [List.length_take]; omega
    ts := fun i v b h1 h2 => have ⟨a, c⟩ := s.ts i v b h1 h2; ⟨u.row a c (by simp), c⟩
    ls := fun i v b h1 h2 => have ⟨a, c⟩ := s.ls i v b h1 h2; ⟨u.row a c (by simp), c⟩
    ds := fun i v b h1 h2 => have ⟨a, c, d, e⟩ := s.ds i v b (take_some h1) (take_some h2); ⟨u.blk a c (by simp), c, u.row d e (by simp), e⟩
    bound := u.bound }
theorem Sto.cutChanges {w : World} {p : Nat} {σ : St} {h : Hd} {ρ : Roles} (s : Sto w p σ h ρ) {m : Nat} (hm : m ≤ σ.changes.length) :
    Sto (w.setCell ⟨p, 4, none⟩ (.slice h.changes.a m h.changes.c)) p { σ with changes := σ.changes.take m } { h with changes := ⟨h.changes.a, m, h.changes.c⟩ } ρ := by
  have hn : m ≤ h.changes.n := by rw [s.nchanges]; exact hm
  have u : Upd w (w.setCell ⟨p, 4, none⟩ (.slice h.changes.a m h.changes.c)) ρ ρ (fun r => r = .main) :=
    ⟨fun b r hb hr => ⟨Below.heap_setCell _ _ _ _ (by rintro rfl; rw [s.rmain] at hb; injection hb with hb; exact hr hb.symm), hb⟩, fun b hb => by simpa using s.bound b hb⟩
  exact {
    ok := ⟨s.ok.free0, s.ok.room, s.ok.text, s.ok.list, s.ok.dict, by have := s.ok.nchg; simp only [List.length_take]; omega, s.ok.nmark⟩
    main := s.main.set_ 4 _
    rmain := s.rmain
    texts := u.row s.texts s.rtexts (by simp)
    rtexts := s.rtexts
    lists := u.row s.lists s.rlists (by simp)
    rlists := s.rlists
    dicts := u.row s.dicts s.rdicts (by simp)
    rdicts := s.rdicts
    changes := by have := (u.row s.changes s.rchanges (by simp)).cut hn; rw [take_flat _ 19 length_chg] at this; exact this
    rchanges := fun g hg => s.rchanges g hg
    marks := u.row s.marks s.rmarks (by simp)
    rmarks := s.rmarks
    nts := s.nts
    nls := s.nls
    nds := s.nds
    ts := fun i v b h1 h2 => have ⟨a, c⟩ := s.ts i v b h1 h2; ⟨u.row a c (by simp), c⟩
    ls := fun i v b h1 h2 => have ⟨a, c⟩ := s.ls i v b h1 h2; ⟨u.row a c (by simp), c⟩
    ds := fun i v b h1 h2 => have ⟨a, c, d, e⟩ := s.ds i v b h1 h2; ⟨u.blk a c (by simp), c, u.row d e (by simp), e⟩
    bound := u.bound }
theorem Sto.cutMarks {w : World} {p : Nat} {σ : St} {h : Hd} {ρ : Roles} (s : Sto w p σ h ρ) {m : Nat} (hm : m ≤ σ.marks.length) :
    Sto (w.setCell ⟨p, 5, none⟩ (.slice h.marks.a m h.marks.c)) p { σ with marks := σ.marks.take m } { h with marks := ⟨h.marks.a, m, h.marks.c⟩ } ρ := by
  have hn : m ≤ h.marks.n := by rw [s.nmarks]; exact hm
  have u : Upd w (w.setCell ⟨p, 5, none⟩ (.slice h.marks.a m h.marks.c)) ρ ρ (fun r => r = .main) :=
    ⟨fun b r hb hr => ⟨Below.heap_setCell _ _ _ _ (by rintro rfl; rw [s.rmain] at hb; injection hb with hb; exact hr hb.symm), hb⟩, fun b hb => by simpa using s.bound b hb⟩
  exact {
    ok := ⟨s.ok.free0, s.ok.room, s.ok.text, s.ok.list, s.ok.dict, s.ok.nchg, by have := s.ok.nmark; simp only [List.length_take]; omega⟩
    main := s.main.set_ 5 _
    rmain := s.rmain
    texts := u.row s.texts s.rtexts (by simp)
    rtexts := s.rtexts
    lists := u.row s.lists s.rlists (by simp)
    rlists := s.rlists
    dicts := u.row s.dicts s.rdicts (by simp)
    rdicts := s.rdicts
    changes := u.row s.changes s.rchanges (by simp)
    rchanges := s.rchanges
    marks := by have := (u.row s.marks s.rmarks (by simp)).cut hn; rw [take_flat _ 5 length_szs] at this; exact this
    rmarks := fun g hg => s.rmarks g hg
    nts := s.nts
    nls := s.nls
    nds := s.nds
    ts := fun i v b h1 h2 => have ⟨a, c⟩ := s.ts i v b h1 h2; ⟨u.row a c (by simp), c⟩
    ls := fun i v b h1 h2 => have ⟨a, c⟩ := s.ls i v b h1 h2; ⟨u.row a c (by simp), c⟩
    ds := fun i v b h1 h2 => have ⟨a, c, d, e⟩ := s.ds i v b h1 h2; ⟨u.blk a c (by simp), c, u.row d e (by simp), e⟩
    bound := u.bound }
theorem Sto.setFree {w : World} {p : Nat} {σ : St} {h : Hd} {ρ : Roles} (s : Sto w p σ h ρ) {f : Int} (h0 : 0 ≤ f) (h1 : (σ.texts.length : Int) + σ.lists.length + σ.dicts.length + f ≤ 1048576) :
    Sto (w.setCell ⟨p, 0, none⟩ (.int .i64 f)) p { σ with free := f } h ρ := by
  have u : Upd w (w.setCell ⟨p, 0, none⟩ (.int .i64 f)) ρ ρ (fun r => r = .main) :=
    ⟨fun b r hb hr => ⟨Below.heap_setCell _ _ _ _ (by rintro rfl; rw [s.rmain] at hb; injection hb with hb; exact hr hb.symm), hb⟩, fun b hb => by simpa using s.bound b hb⟩
  exact {
    ok := ⟨h0, h1, s.ok.text, s.ok.list, s.ok.dict, s.ok.nchg, s.ok.nmark⟩
    main := s.main.set_ 0 _
    rmain := s.rmain
    texts := u.row s.texts s.rtexts (by simp)
    rtexts := s.rtexts
    lists := u.row s.lists s.rlists (by simp)
    rlists := s.rlists
    dicts := u.row s.dicts s.rdicts (by simp)
    rdicts := s.rdicts
    changes := u.row s.changes s.rchanges (by simp)
    rchanges := s.rchanges
    marks := u.row s.marks s.rmarks (by simp)
    rmarks := s.rmarks
    nts := s.nts
    nls := s.nls
    nds := s.nds
    ts := fun i v b h1 h2 => have ⟨a, c⟩ := s.ts i v b h1 h2; ⟨u.row a c (by simp), c⟩
    ls := fun i v b h1 h2 => have ⟨a, c⟩ := s.ls i v b h1 h2; ⟨u.row a c (by simp), c⟩
    ds := fun i v b h1 h2 => have ⟨a, c, d, e⟩ := s.ds i v b h1 h2; ⟨u.blk a c (by simp), c, u.row d e (by simp), e⟩
    bound := u.bound }
/-- A slice cut off at its end. -/
theorem run_cut {P : Program} {w : World} {e T : TypeId} {sz : Nat} {s : Sl} {xs : List Value} (hr : Row w e sz s xs) (hT : P.underlying T = some (.slice e)) (hi : ∃ i, P.info? e = some i) {m : Nat} (hm : m ≤ s.n) (W : World) :
    (Instr.slice T (.slice s.a s.n s.c) none (some (.int .i64 m)) none).run P W = .ok (.slice s.a m s.c) W := by
  obtain ⟨i, hi⟩ := hi
  have hcap := hr.cap_le
  have he : P.elem T = e := by simp [Program.elem, hT]
  rw [run_slice_h (w := W) T s.a s.n s.c (by rw [he]; exact hT) .i64 m (by omega) (by omega), he, run_sizeOf W hi]
  simp only [Result.andThen, sliced]
  rcases hr.shape with ⟨h1, h2, h3, -⟩ | ⟨g, cur, h1, -⟩
  · simp [h1]
  · simp [h1, Addr.add]
end Go.Proofs.Ythhckledkhcfeaa
