/- The store, part L: how a dictionary turns in memory. -/
import Derived.Test.YthhckledkhcfeaaStK
namespace Go.Proofs.Ythhckledkhcfeaa
open Go.RowKit
section
variable {w w' : World} {p : Nat} {σ : St} {h : Hd} {ρ : Roles}
/-- What a dictionary is, turned; its pairs may lie in another row. -/
theorem Sto.setDict (s : Sto w p σ h ρ) {r : Nat} {d : Nat × Sl} {x x' : Dc} (hd : h.ds[r]? = some d) (hx : σ.dicts[r]? = some x) (v : Sl)
    (hblk : Blk w' d.1 144 [.int .i64 x'.most, .int .i64 x'.access, .slice v.a v.n v.c]) (hrow : Row w' 122 16 v (x'.pairs.flatMap pairCells))
    (hvb : v.blk = d.2.blk ∨ ∃ g, v.blk = some g ∧ w.heap.size ≤ g) (hk : ∀ b, b < w.heap.size → b ≠ d.1 → d.2.blk ≠ some b → w'.heap[b]? = w.heap[b]?) (hsz : w.heap.size ≤ w'.heap.size)
    (hok : (x'.pairs.length : Int) ≤ x'.most ∧ x'.most ≤ 4096) :
    ∃ ρ' : Roles, Sto w' p { σ with dicts := σ.dicts.set r x' } { h with ds := h.ds.set r (d.1, v) } ρ' ∧ (∀ b, ρ'.own b → ρ.own b ∨ w.heap.size ≤ b) := by
  obtain ⟨hb0, hr0, hrow0, hon0⟩ := s.ds r d x hd hx
  have hlt := getElem?_lt hx
  have hlt2 := getElem?_lt hd
  let ρ' : Roles := ρ.puts v.blk (.pairs r)
  have u : Upd w w' ρ ρ' (fun q => q = .dict r ∨ q = .pairs r) := by
    refine ⟨fun b q hb hq => ?_, fun b hb => ?_⟩
    · have hbl := s.bound b (by rw [hb]; simp)
      have h1 : d.2.blk ≠ some b := fun e => by rw [hon0 b e] at hb; injection hb with hb; exact hq (.inr hb.symm)
      refine ⟨hk b hbl (fun e => by subst e; rw [hr0] at hb; injection hb with hb; exact hq (.inl hb.symm)) h1, ?_⟩
      show ρ.puts v.blk (.pairs r) b = some q
      unfold Roles.puts
      rw [if_neg, hb]
      intro e
      rcases hvb with h2 | ⟨g, h2, h3⟩
      · rw [h2] at e; exact h1 e
      · rw [h2] at e; injection e with e; omega
    · rcases Roles.puts_own hb with hb | hb
      · exact Nat.lt_of_lt_of_le (s.bound b hb) hsz
      · exact hrow.blk_lt hb
  have hd1 : ρ' d.1 = some (.dict r) := by
    show ρ.puts v.blk (.pairs r) d.1 = _
    unfold Roles.puts
    rw [if_neg, hr0]
    intro e
    rcases hvb with h2 | ⟨g, h2, h3⟩
    · rw [h2] at e; rw [hon0 _ e] at hr0; cases hr0
    · rw [h2] at e; injection e with e; have := hb0.lt; omega
  refine ⟨ρ', ?_, fun b hb => ?_⟩
  · exact {
      ok := ⟨s.ok.free0, by simpa using s.ok.room, s.ok.text, s.ok.list, fun y hy => by
        rcases List.mem_or_eq_of_mem_set hy with hy | hy
        · exact s.ok.dict y hy
        · rw [hy]; exact hok, s.ok.nchg, s.ok.nmark⟩
      main := u.blk s.main s.rmain (by simp)
      rmain := u.at_ s.rmain (by simp)
      texts := u.row s.texts s.rtexts (by simp)
      rtexts := u.on s.rtexts (by simp)
      lists := u.row s.lists s.rlists (by simp)
      rlists := u.on s.rlists (by simp)
      dicts := by
        have e : ptrVals (h.ds.set r (d.1, v)) = ptrVals h.ds := by
          unfold ptrVals
          rw [List.map_set]
          apply List.ext_getElem?
          intro q
          by_cases hq : q = r
          · subst hq
            rw [List.getElem?_set_self (by simpa using hlt2), List.getElem?_map, hd]
            rfl
          · rw [List.getElem?_set_ne (Ne.symm hq)]
        show Row w' 141 1 h.dicts (ptrVals (h.ds.set r (d.1, v)))
        rw [e]
        exact u.row s.dicts s.rdicts (by simp)
      rdicts := u.on s.rdicts (by simp)
      changes := u.row s.changes s.rchanges (by simp)
      rchanges := u.on s.rchanges (by simp)
      marks := u.row s.marks s.rmarks (by simp)
      rmarks := u.on s.rmarks (by simp)
      nts := s.nts
      nls := s.nls
      nds := by simpa using s.nds
      ts := fun i v b h1 h2 => have ⟨a, c⟩ := s.ts i v b h1 h2; ⟨u.row a c (by simp), u.on c (by simp)⟩
      ls := fun i v b h1 h2 => have ⟨a, c⟩ := s.ls i v b h1 h2; ⟨u.row a c (by simp), u.on c (by simp)⟩
      ds := fun i y z h1 h2 => by
        by_cases hi : i = r
        · subst hi
          simp only [List.getElem?_set_self hlt, List.getElem?_set_self hlt2, Option.some.injEq] at h1 h2
          subst h1
          subst h2
          exact ⟨hblk, hd1, hrow, Sl.on_puts _ _ _⟩
        · simp only [List.getElem?_set_ne (Ne.symm hi)] at h1 h2
          have ⟨a, c, d, e⟩ := s.ds i y z h1 h2
          exact ⟨u.blk a c (by simpa using hi), u.at_ c (by simpa using hi), u.row d e (by simpa using hi), u.on e (by simpa using hi)⟩
      bound := u.bound }
  · rcases Roles.puts_own hb with hb | hb
    · exact .inl hb
    · rcases hvb with h1 | ⟨g, h1, h2⟩
      · rw [h1] at hb; exact .inl (by unfold Roles.own; rw [hon0 b hb]; simp)
      · rw [h1] at hb; injection hb with hb; subst hb; exact .inr h2
end
end Go.Proofs.Ythhckledkhcfeaa
