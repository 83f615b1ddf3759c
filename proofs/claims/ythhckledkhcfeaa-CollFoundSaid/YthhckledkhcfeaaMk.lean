/- The store's functions: now, Mark, marked. -/
import Derived.Test.YthhckledkhcfeaaStI
namespace Go.Proofs.Ythhckledkhcfeaa
open Go.RowKit
def St.sizes (σ : St) : Szs := ⟨σ.texts.length, σ.lists.length, σ.dicts.length, σ.free, σ.changes.length⟩
section
variable {w w' : World} {p : Nat} {σ : St} {h : Hd} {ρ : Roles}
theorem Sto.addMark (s : Sto w p σ h ρ) {v : Sl} {c : Szs} (hsz : w.heap.size ≤ w'.heap.size) (hvb : v.blk = h.marks.blk ∨ ∃ g, v.blk = some g ∧ w.heap.size ≤ g)
    (hrest : ∀ b r, ρ b = some r → r ≠ .main → r ≠ .marks → w'.heap[b]? = w.heap[b]?)
    (hm : Blk w' p 116 [.int .i64 σ.free, .slice h.texts.a h.texts.n h.texts.c, .slice h.lists.a h.lists.n h.lists.c, .slice h.dicts.a h.dicts.n h.dicts.c, .slice h.changes.a h.changes.n h.changes.c, .slice v.a v.n v.c])
    (hv : Row w' 140 5 v ((σ.marks ++ [c]).flatMap Szs.cells)) (hn : σ.marks.length + 1 ≤ 4294967296) :
    ∃ ρ' : Roles, Sto w' p { σ with marks := σ.marks ++ [c] } { h with marks := v } ρ' ∧ (∀ b, ρ'.own b → ρ.own b ∨ w.heap.size ≤ b) := by
  have g : Grew w w' ρ .marks h.marks v .nil p := ⟨hsz, hvb, fun g hg => by simp [Sl.blk] at hg, fun g hg => by simp [Sl.blk] at hg, hrest⟩
  obtain ⟨u, u1, u2, u3, u4⟩ := g.upd s (nrole := .marks) s.rmarks (fun b hb => hv.blk_lt hb) (fun b hb => by simp [Sl.blk] at hb)
  rw [if_neg (g.not_main s s.rmarks (by simp))] at u3
  refine ⟨_, ?_, u4⟩
  exact {
      ok := ⟨s.ok.free0, s.ok.room, s.ok.text, s.ok.list, s.ok.dict, s.ok.nchg, by simpa using hn⟩
      main := hm
      rmain := u3
      texts := u.row s.texts s.rtexts (by simp)
      rtexts := u.on s.rtexts (by simp)
      lists := u.row s.lists s.rlists (by simp)
      rlists := u.on s.rlists (by simp)
      dicts := u.row s.dicts s.rdicts (by simp)
      rdicts := u.on s.rdicts (by simp)
      changes := u.row s.changes s.rchanges (by simp)
      rchanges := u.on s.rchanges (by simp)
      marks := hv
      rmarks := u1
      nts := s.nts
      nls := s.nls
      nds := s.nds
      ts := fun i v b h1 h2 => have ⟨a, c⟩ := s.ts i v b h1 h2; ⟨u.row a c (by simp), u.on c (by simp)⟩
      ls := fun i v b h1 h2 => have ⟨a, c⟩ := s.ls i v b h1 h2; ⟨u.row a c (by simp), u.on c (by simp)⟩
      ds := fun i v b h1 h2 => have ⟨a, c, d, e⟩ := s.ds i v b h1 h2; ⟨u.blk a c (by simp), u.at_ c (by simp), u.row d e (by simp), u.on e (by simp)⟩
      bound := u.bound }
/-- (*Store).now. -/
theorem now_c (s : Sto w p σ h ρ) : Calls Try.prog 100 #[.pointer (some ⟨p, 0, none⟩)] w fun e w' => e = .returned (.agg σ.sizes.cells.toArray) ∧ Ext w w' := by
  have e1 : h.texts.n = σ.texts.length := s.ntexts
  have e2 : h.lists.n = σ.lists.length := s.nlists
  have e3 : h.dicts.n = σ.dicts.length := s.ndicts
  have e4 : h.changes.n = σ.changes.length := s.nchanges
  unfold St.sizes
  rw [← e1, ← e2, ← e3, ← e4]
  clear e1 e2 e3 e4
  simp only [Szs.cells]
  have hps := s.lt
  go_enter Try.func100, Try.ntmps100
  go_upto_region 1 with fail
  generalize hX : World.alloc w _ = X
  obtain ⟨hx, hcX, hfX, hzX, hbX⟩ := boxed hX
  clear hX
  have s1 := s.ext hx
  have hc := s1.main.cell
  have hps1 := s1.lt
  have f2 := fun (E : ExtOf X) i => (E.cells hps1 i).trans (hc i)
  clear hc
  refine wp_region_ext_tail 25 (by kernel_rfl) (by kernel_rfl) ?_
  simp only [List.take_succ_cons, List.take_zero, List.drop_succ_cons, List.drop_zero]
  repeat (go_big_quiet_step (fail))
  refine wpQuiet_nil fun E => ?_
  have hB := hbX.ext E.h
  have hcB := hB.cell
  have hfB := hB.frozen
  go_wp2
  refine bodyPost_ret (res_c rfl rfl (((((hB.set_ 0 (.int .i64 h.texts.n)).set_ 1 (.int .i64 h.lists.n)).set_ 2 (.int .i64 h.dicts.n)).set_ 3 (.int .i64 σ.free)).set_ 4 (.int .i64 h.changes.n)) Try.underlying140 (by kernel_rfl)) rfl ⟨rfl, ?_⟩
  have hl : w.heap.size ≤ w.heap.size := Nat.le_refl _
  exact Below.setCell (Below.setCell (Below.setCell (Below.setCell (Below.setCell (hx.trans_ E.h) (p := ⟨_, 0, none⟩) hl _) (p := ⟨_, 1, none⟩) hl _) (p := ⟨_, 2, none⟩) hl _) (p := ⟨_, 3, none⟩) hl _) (p := ⟨_, 4, none⟩) hl _
set_option maxRecDepth 100000 in
set_option maxHeartbeats 800000 in
theorem mark_c (s : Sto w p σ h ρ) (hn : σ.marks.length + 1 ≤ 4294967296) :
    Calls Try.prog 66 #[.pointer (some ⟨p, 0, none⟩)] w fun e w' => e = .returned (.int .i64 (σ.marks.length + 1)) ∧ StoTo w w' p ρ { σ with marks := σ.marks ++ [σ.sizes] } := by
  obtain ⟨iL, hiL, hzL, hsL, hbL⟩ := info_parts info_szs
  have hmb : h.marks.n + 1 ≤ 4294967296 := by rw [s.nmarks]; exact hn
  have hps := s.lt
  have hc0 := s.main.cell
  have hpf := s.main.frozen
  have f2 := fun (E : ExtOf w) i => (E.cells hps i).trans (hc0 i)
  have hnow := fun (E : ExtOf w) => now_c (s.ext E.h)
  simp only [Szs.cells, St.sizes] at hnow
  have hNow := Lib.hid hnow
  clear hc0 hnow
  go_enter Try.func66, Try.ntmps66
  go_upto_region 3 with fail
  refine wp_region_plan (C := fun w' => ∃ E : ExtOf w, w' = E.w) [true, true, true, true, true, true, false, false, false, false, false, false] 8 2 (by kernel_rfl) (by kernel_rfl) (fun c a d v w h => by cases d <;> exact h) ⟨⟨_, (Ext.rfl_ w).drew_⟩, rfl⟩ ?_
  simp only [pickQ, pickT]
  repeat (go_big_quiet_step (fail))
  refine wpQuiet_nil ?_
  refine wpTail_cons (fun K hK => ?_)
  go_simp
  go_wp2_with (go_at_call 100; refine (hNow.out ⟨_, (Ext.rfl_ w).drew_⟩).mono ?_; rintro e w1 ⟨rfl, hx1⟩)
  refine hK _ _ ⟨⟨_, (Ext.rfl_ w).drew_.trans_ hx1⟩, rfl⟩ ?_
  clear hK K
  refine wpTail_cons (fun K hK => ?_)
  go_simp
  refine hK _ _ ⟨⟨_, ((Ext.rfl_ w).drew_.trans_ hx1).alloc_ _⟩, rfl⟩ ?_
  clear hK K
  refine wpTail_zero ?_
  have hw1 : Ext w w1 := (Ext.rfl_ w).drew_.trans_ hx1
  have s1 := s.ext hw1
  have hc := s1.main.cell
  have hpf := s1.main.frozen
  have hps1 := s1.lt
  go_upto_region 4 with (
    at_builtin
    refine wpList_app (by rfl) _ _ _ (by rfl) 140 iL _ 5 40 Try.underlying114 hiL hzL hsL hbL rfl (by omega) h.marks (by rfl) (s1.marks.alloc _) (by rfl) (View.of_blk (n := 1) (Blk.new w1 _ _) rfl) ?_ ?_ ?_ ?_
    · intro u hu
      simp only [List.mem_cons, List.mem_nil_iff, or_false] at hu
      rcases hu with rfl | rfl | rfl | rfl | rfl <;> rfl
    · simp only [maxLen]; omega
    · omega
    intro v' w2 hrow hlen hgrow hat
    obtain ⟨hg1, hg2, hg3, hg4, hg5, hg6, hg7⟩ := s1.hdr_app (H := w1.heap.size + 1) s1.rmarks (by simp) (((Ext.rfl_ w1).alloc_ _)) hgrow (by rcases hat with hat | hat; exact .inl hat; exact .inr (by rw [hat]; simp)) (by omega) hrow 5 (.slice v'.a v'.n v'.c) s1.main
    have k0 := hg1.cell
    have k1 := hg1.frozen)
  have hc2 := hg2.cell
  clear k0 k1 hc hpf
  have hln : v'.n = h.marks.n + 1 := hlen
  have hHln := Lib.hid hln
  clear hln hlen
  go_wp2
  go_ret
  refine ⟨by rw [hHln.out, s.nmarks]; rfl, ?_⟩
  obtain ⟨ρ', hs', hr'⟩ := s1.addMark (c := σ.sizes) hg6 hg4 hg5 hg2 (by rw [List.flatMap_append]; exact hg3) hn
  exact ⟨_, ρ', hs', Moves.ext_left hw1 (hg7 _ hr')⟩
/-- marked. -/
theorem marked_c (s : Sto w p σ h ρ) {m : Int} {b : Bool} (hb : decide (1 ≤ m ∧ m ≤ σ.marks.length) = b) :
    Calls Try.prog 104 #[.pointer (some ⟨p, 0, none⟩), .int .i64 m] w fun e w' => e = .returned (.bool b) ∧ w = w' := by
  rw [← s.nmarks] at hb
  have hc := s.main.cell
  by_cases h1 : 1 ≤ m
  · by_cases h2 : m ≤ h.marks.n
    · have hb' : b = true := by rw [← hb]; simp [h1, h2]
      subst hb'
      clear hb
      go_enter Try.func104, Try.ntmps104
      go_wp2
      go_ret
      exact ⟨rfl, rfl⟩
    · have hb' : b = false := by rw [← hb]; simp [h2]
      subst hb'
      clear hb
      go_enter Try.func104, Try.ntmps104
      go_wp2
      go_ret
      exact ⟨rfl, rfl⟩
  · have hb' : b = false := by rw [← hb]; simp [h1]
    subst hb'
    clear hb
    go_enter Try.func104, Try.ntmps104
    go_wp2
    go_ret
    exact ⟨rfl, rfl⟩
end
end Go.Proofs.Ythhckledkhcfeaa
