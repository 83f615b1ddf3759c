/- The store's functions, part E: Array, String, Dict. -/
import Derived.Test.YthhckledkhcfeaaStD
namespace Go.Proofs.Ythhckledkhcfeaa
open Go.RowKit

theorem info_u8 : (Try.prog.info? 5).map (fun i => (i.zero, i.size, i.bytes)) = some (some (.int .u8 0), 1, 1) := by kernel_rfl
theorem info_u8s : (Try.prog.info? 45).map (fun i => (i.zero, i.size, i.bytes)) = some (some (.slice none 0 0), 1, 24) := by kernel_rfl
theorem info_dictp : (Try.prog.info? 141).map (fun i => (i.zero, i.size, i.bytes)) = some (some (.pointer none), 1, 8) := by kernel_rfl
theorem info_Obj : (Try.prog.info? 27).map (fun i => (i.zero, i.size, i.bytes)) = some (some (.agg #[.int .i64 0, .bool false, .int .i64 0, .int .i64 0, .string ByteArray.empty, .int .i64 0, .int .i64 0, .int .i64 0]), 8, 72) := by kernel_rfl
theorem info_Objs : (Try.prog.info? 33).map (fun i => (i.zero, i.size, i.bytes)) = some (some (.slice none 0 0), 1, 24) := by kernel_rfl

section
variable {w : World} {p : Nat} {σ : St} {h : Hd} {ρ : Roles}
theorem array_ok (s : Sto w p σ h ρ) (n : Nat) (h1 : n ≤ 65535) (h2 : 1 + (n : Int) ≤ σ.free) :
    Calls Try.prog 13 #[.pointer (some ⟨p, 0, none⟩), .int .i64 n] w fun e w' =>
      e = .returned (.tuple #[.agg #[.int .i64 7, .bool false, .int .i64 0, .int .i64 0, .string ByteArray.empty, .int .i64 σ.lists.length, .int .i64 0, .int .i64 n], .int .i64 0]) ∧ StoTo w w' p ρ { σ with free := σ.free - (1 + n), lists := σ.lists ++ [List.replicate n Ob.null] } := by
  obtain ⟨iO, hiO, hzO, hsO, hbO⟩ := info_parts info_Obj
  obtain ⟨iL, hiL, hzL, hsL, hbL⟩ := info_parts info_Objs
  have hf := s.ok.free0
  have hf' : σ.free ≤ 1048576 := by have := s.ok.room; omega
  have hln : h.lists.n ≤ 1048576 := by have := s.ok.room; have := s.nlists; omega
  have hnl := Lib.hid s.nlists
  go_enter Try.func13, Try.ntmps13
  go_wp2_with (go_at_call 60; refine (take_ok (s.ext ((Ext.rfl_ w).alloc_ _)).main hf hf' (by omega) (by omega) (by omega) (by omega)).mono ?_; rintro e w1 ⟨rfl, rfl⟩)
  generalize hX : World.alloc w _ = X
  obtain ⟨hx, hcX, hfX, hzX, hbX⟩ := boxed hX
  clear hX
  have s1 := (s.ext hx).free_ (f := σ.free - (1 + (n : Int))) (by omega) (by omega)
  have hx1 : Blk (X.setCell ⟨p, 0, none⟩ (.int .i64 (σ.free - (1 + (n : Int))))) w.heap.size 27 _ := hbX.far (p := ⟨p, 0, none⟩) (by have := s.lt; simp; omega) _
  have hW1 : Moves X (X.setCell ⟨p, 0, none⟩ (.int .i64 (σ.free - (1 + (n : Int))))) ρ.own ρ.own := Moves.set_ (by unfold Roles.own; rw [s.rmain]; simp) _
  have hbox0 : ¬ ρ.own w.heap.size := Roles.not_own (s.fresh (Nat.le_refl _))
  have hroom := s.ok.room
  have hzW : w.heap.size < (X.setCell ⟨p, 0, none⟩ (.int .i64 (σ.free - (1 + (n : Int))))).heap.size := by simpa using hzX
  generalize hW : X.setCell ⟨p, 0, none⟩ (.int .i64 (σ.free - (1 + (n : Int)))) = W at s1 hx1 hW1 hzW
  clear hW
  have hc := s1.main.cell
  have hpf := s1.main.frozen
  have hps := s1.lt
  have hmk := fun W => run_make_rowN (P := Try.prog) 33 27 iO _ Try.underlying33 hiO hzO .i64 .i64 n n (Nat.le_refl _) (by rw [hbO]; omega) (by omega) W
  rw [hsO] at hmk
  go_region_law ((
    refine step_append_lies _ (by rfl) _ _ _ (by rfl) 0 33 iL _ 1 24 Try.underlying111 hiL hzL hsL hbL rfl (by omega) (.slice h.lists.a h.lists.n h.lists.c) h.lists.n (slVals h.ls) (by rfl) ((s1.lists.alloc _).alloc _).drew
      ⟨W.heap.size + 1, 0, none⟩ 1 1 [.slice (some ⟨W.heap.size, 0, none⟩) n n] (by rfl) (by rfl) (World.news_of_block (cs := #[.slice (some ⟨W.heap.size, 0, none⟩) n n]) (t := 33) (fr := (0, 0)) (heap_at (by simp))) (by simp [Value.oneCell'])
      (by omega) (by simp only [maxLen]; omega) (by omega) (by omega) (W.heap.size + 2) (by simp) ?_
    intro g cap w1 hown1 hgrow hat hlt
    obtain ⟨hg0, hg1, hg2, hg3, hg4, hg5, hg6⟩ := s1.hdr_append s1.rlists (by simp) ((((Ext.rfl_ W).alloc_ _).alloc_ _).drew_) hgrow hat (by omega) hown1 (t := ⟨some ⟨W.heap.size, 0, none⟩, n, n⟩) (sz' := 8) (zs := obCells (List.replicate n Ob.null)) (e' := 27)
      (by rw [← obCells_null]; exact Row.made #[.int .i64 0, .bool false, .int .i64 0, .int .i64 0, .string ByteArray.empty, .int .i64 0, .int .i64 0, .int .i64 0] n (by simp) (by simp only [maxLen]; omega) (by simp) (heap_at2 _ _ _)) (fun b hb => by simp [Sl.blk] at hb; omega) 2 (.slice (some ⟨g, 0, none⟩) (h.lists.n + 1) cap) s1.main
    have k0 := hg0.cell
    have k1 := hg0.frozen))
  all_goals
    clear hc hpf hmk hown1 hgrow hat hg0 k0 k1
    have hB : Blk (w1.setCell ⟨p, 2, none⟩ (.slice (some ⟨g, 0, none⟩) (h.lists.n + 1) cap)) w.heap.size 27 _ := hx1.keep (hg5 _ hx1.lt (by have := s.lt; omega) (fun hv => by have := s.lists.blk_lt hv; omega))
    generalize w1.setCell ⟨p, 2, none⟩ (.slice (some ⟨g, 0, none⟩) (h.lists.n + 1) cap) = W2 at *
    have hc2 := hg2.cell
    have hcB := hB.cell
    have hfB := hB.frozen
    go_wp2
    have hB3 := ((((((((hB.set_ 0 (.int .i64 7)).set_ 1 (.bool false)).set_ 2 (.int .i64 0)).set_ 3 (.int .i64 0)).set_ 4 (.string ByteArray.empty)).set_ 5 (.int .i64 h.lists.n)).set_ 6 (.int .i64 0)).set_ 7 (.int .i64 n))
    refine bodyPost_ret (res_ct rfl rfl hB3 Try.underlying27 (by kernel_rfl)) rfl ⟨by rw [hnl.out]; rfl, ?_⟩
    have ho : Only W2 w.heap.size _ := (((((((((Only.refl_ W2 w.heap.size).set_ 0 (.int .i64 7)).set_ 1 (.bool false)).set_ 2 (.int .i64 0)).set_ 3 (.int .i64 0)).set_ 4 (.string ByteArray.empty)).set_ 5 (.int .i64 h.lists.n)).set_ 6 (.int .i64 0)).set_ 7 (.int .i64 n))
    obtain ⟨ρ', hs', hr'⟩ := s1.addList hg1 hg2 hg3 hg4 (by simpa using h1) (by simp only; omega)
    exact ⟨_, ρ', hs'.only ho (Roles.none_of fun hb => by rcases hr' _ hb with hb | hb; exact hbox0 hb; omega), ((Moves.ext_left hx (hW1.trans_ (hg6 _ hr'))).only ho (.inl (Nat.le_refl _)))⟩
theorem string_ok (s : Sto w p σ h ρ) (n : Nat) (h1 : n ≤ 65535) (h2 : 1 + ((n : Int) + 7) / 8 ≤ σ.free) :
    Calls Try.prog 72 #[.pointer (some ⟨p, 0, none⟩), .int .i64 n] w fun e w' =>
      e = .returned (.tuple #[.agg #[.int .i64 6, .bool false, .int .i64 0, .int .i64 0, .string ByteArray.empty, .int .i64 σ.texts.length, .int .i64 0, .int .i64 n], .int .i64 0]) ∧ StoTo w w' p ρ { σ with free := σ.free - (1 + ((n : Int) + 7) / 8), texts := σ.texts ++ [List.replicate n 0] } := by
  obtain ⟨iO, hiO, hzO, hsO, hbO⟩ := info_parts info_u8
  obtain ⟨iL, hiL, hzL, hsL, hbL⟩ := info_parts info_u8s
  have hf := s.ok.free0
  have hf' : σ.free ≤ 1048576 := by have := s.ok.room; omega
  have hln : h.texts.n ≤ 1048576 := by have := s.ok.room; have := s.ntexts; omega
  have hnl := Lib.hid s.ntexts
  go_enter Try.func72, Try.ntmps72
  go_wp2_with (go_at_call 60; refine (take_ok (s.ext ((Ext.rfl_ w).alloc_ _)).main hf hf' (by omega) (by omega) (by omega) (by omega)).mono ?_; rintro e w1 ⟨rfl, rfl⟩)
  generalize hX : World.alloc w _ = X
  obtain ⟨hx, hcX, hfX, hzX, hbX⟩ := boxed hX
  clear hX
  have s1 := (s.ext hx).free_ (f := σ.free - (1 + ((n : Int) + 7) / 8)) (by omega) (by omega)
  have hx1 : Blk (X.setCell ⟨p, 0, none⟩ (.int .i64 (σ.free - (1 + ((n : Int) + 7) / 8)))) w.heap.size 27 _ := hbX.far (p := ⟨p, 0, none⟩) (by have := s.lt; simp; omega) _
  have hW1 : Moves X (X.setCell ⟨p, 0, none⟩ (.int .i64 (σ.free - (1 + ((n : Int) + 7) / 8)))) ρ.own ρ.own := Moves.set_ (by unfold Roles.own; rw [s.rmain]; simp) _
  have hbox0 : ¬ ρ.own w.heap.size := Roles.not_own (s.fresh (Nat.le_refl _))
  have hroom := s.ok.room
  have hzW : w.heap.size < (X.setCell ⟨p, 0, none⟩ (.int .i64 (σ.free - (1 + ((n : Int) + 7) / 8)))).heap.size := by simpa using hzX
  generalize hW : X.setCell ⟨p, 0, none⟩ (.int .i64 (σ.free - (1 + ((n : Int) + 7) / 8))) = W at s1 hx1 hW1 hzW
  clear hW
  have hc := s1.main.cell
  have hpf := s1.main.frozen
  have hps := s1.lt
  have hmk := fun W => run_make_rowN (P := Try.prog) 45 5 iO _ Try.underlying45 hiO hzO .i64 .i64 n n (Nat.le_refl _) (by rw [hbO]; omega) (by omega) W
  rw [hsO] at hmk
  go_region_law ((
    refine step_append_lies _ (by rfl) _ _ _ (by rfl) 0 45 iL _ 1 24 Try.underlying110 hiL hzL hsL hbL rfl (by omega) (.slice h.texts.a h.texts.n h.texts.c) h.texts.n (slVals h.ts) (by rfl) ((s1.texts.alloc _).alloc _).drew
      ⟨W.heap.size + 1, 0, none⟩ 1 1 [.slice (some ⟨W.heap.size, 0, none⟩) n n] (by rfl) (by rfl) (World.news_of_block (cs := #[.slice (some ⟨W.heap.size, 0, none⟩) n n]) (t := 45) (fr := (0, 0)) (heap_at (by simp))) (by simp [Value.oneCell'])
      (by omega) (by simp only [maxLen]; omega) (by omega) (by omega) (W.heap.size + 2) (by simp) ?_
    intro g cap w1 hown1 hgrow hat hlt
    obtain ⟨hg0, hg1, hg2, hg3, hg4, hg5, hg6⟩ := s1.hdr_append s1.rtexts (by simp) ((((Ext.rfl_ W).alloc_ _).alloc_ _).drew_) hgrow hat (by omega) hown1 (t := ⟨some ⟨W.heap.size, 0, none⟩, n, n⟩) (sz' := 1) (zs := byteCells (List.replicate n 0)) (e' := 5)
      (by rw [← byteCells_zero]; exact Row.made #[.int .u8 0] n (by simp) (by simp only [maxLen]; omega) (by simp) (heap_at2 _ _ _)) (fun b hb => by simp [Sl.blk] at hb; omega) 1 (.slice (some ⟨g, 0, none⟩) (h.texts.n + 1) cap) s1.main
    have k0 := hg0.cell
    have k1 := hg0.frozen))
  all_goals
    clear hc hpf hmk hown1 hgrow hat hg0 k0 k1
    have hB : Blk (w1.setCell ⟨p, 1, none⟩ (.slice (some ⟨g, 0, none⟩) (h.texts.n + 1) cap)) w.heap.size 27 _ := hx1.keep (hg5 _ hx1.lt (by have := s.lt; omega) (fun hv => by have := s.texts.blk_lt hv; omega))
    generalize w1.setCell ⟨p, 1, none⟩ (.slice (some ⟨g, 0, none⟩) (h.texts.n + 1) cap) = W2 at *
    have hc2 := hg2.cell
    have hcB := hB.cell
    have hfB := hB.frozen
    go_wp2
    have hB3 := ((((((((hB.set_ 0 (.int .i64 6)).set_ 1 (.bool false)).set_ 2 (.int .i64 0)).set_ 3 (.int .i64 0)).set_ 4 (.string ByteArray.empty)).set_ 5 (.int .i64 h.texts.n)).set_ 6 (.int .i64 0)).set_ 7 (.int .i64 n))
    refine bodyPost_ret (res_ct rfl rfl hB3 Try.underlying27 (by kernel_rfl)) rfl ⟨by rw [hnl.out]; rfl, ?_⟩
    have ho : Only W2 w.heap.size _ := (((((((((Only.refl_ W2 w.heap.size).set_ 0 (.int .i64 6)).set_ 1 (.bool false)).set_ 2 (.int .i64 0)).set_ 3 (.int .i64 0)).set_ 4 (.string ByteArray.empty)).set_ 5 (.int .i64 h.texts.n)).set_ 6 (.int .i64 0)).set_ 7 (.int .i64 n))
    obtain ⟨ρ', hs', hr', -⟩ := s1.addText hg1 hg2 hg3 hg4 (by simpa using h1) (by simp only; omega)
    exact ⟨_, ρ', hs'.only ho (Roles.none_of fun hb => by rcases hr' _ hb with hb | hb; exact hbox0 hb; omega), ((Moves.ext_left hx (hW1.trans_ (hg6 _ hr'))).only ho (.inl (Nat.le_refl _)))⟩
set_option maxRecDepth 100000 in
set_option maxHeartbeats 400000 in
theorem dict_ok (s : Sto w p σ h ρ) (n : Nat) (h1 : n ≤ 4096) (h2 : 1 + 2 * (n : Int) ≤ σ.free) :
    Calls Try.prog 53 #[.pointer (some ⟨p, 0, none⟩), .int .i64 n] w fun e w' =>
      e = .returned (.tuple #[.agg #[.int .i64 8, .bool false, .int .i64 0, .int .i64 0, .string ByteArray.empty, .int .i64 σ.dicts.length, .int .i64 0, .int .i64 0], .int .i64 0]) ∧ StoTo w w' p ρ { σ with free := σ.free - (1 + 2 * n), dicts := σ.dicts ++ [⟨n, 0, []⟩] } := by
  obtain ⟨iL, hiL, hzL, hsL, hbL⟩ := info_parts info_dictp
  have hf := s.ok.free0
  have hf' : σ.free ≤ 1048576 := by have := s.ok.room; omega
  have hln : h.dicts.n ≤ 1048576 := by have := s.ok.room; have := s.ndicts; omega
  have hnl := Lib.hid s.ndicts
  go_enter Try.func53, Try.ntmps53
  go_upto_region 4 with (go_at_call 60; refine (take_ok (s.ext ((Ext.rfl_ w).alloc_ _)).main hf hf' (by omega) (by omega) (by omega) (by omega)).mono ?_; rintro e w1 ⟨rfl, rfl⟩)
  generalize hX : World.alloc w _ = X
  obtain ⟨hx, hcX, hfX, hzX, hbX⟩ := boxed hX
  clear hX
  have s1 := (s.ext hx).free_ (f := σ.free - (1 + 2 * (n : Int))) (by omega) (by omega)
  have hx1 : Blk (X.setCell ⟨p, 0, none⟩ (.int .i64 (σ.free - (1 + 2 * (n : Int))))) w.heap.size 27 _ := hbX.far (p := ⟨p, 0, none⟩) (by have := s.lt; simp; omega) _
  have hW1 : Moves X (X.setCell ⟨p, 0, none⟩ (.int .i64 (σ.free - (1 + 2 * (n : Int))))) ρ.own ρ.own := Moves.set_ (by unfold Roles.own; rw [s.rmain]; simp) _
  have hbox0 : ¬ ρ.own w.heap.size := Roles.not_own (s.fresh (Nat.le_refl _))
  have hroom := s.ok.room
  have hzW : w.heap.size < (X.setCell ⟨p, 0, none⟩ (.int .i64 (σ.free - (1 + 2 * (n : Int))))).heap.size := by simpa using hzX
  generalize hW : X.setCell ⟨p, 0, none⟩ (.int .i64 (σ.free - (1 + 2 * (n : Int)))) = W at s1 hx1 hW1 hzW
  clear hW
  have hc := s1.main.cell
  have hpf := s1.main.frozen
  have hps := s1.lt
  go_upto_region 5 with (
               at_builtin
               refine wpList_append_lies _ (by rfl) _ _ _ (by rfl) 0 141 iL _ 1 8 Try.underlying112 hiL hzL hsL hbL rfl (by omega) (.slice h.dicts.a h.dicts.n h.dicts.c) h.dicts.n (ptrVals h.ds) (by rfl) ((s1.dicts.alloc _).alloc _) ⟨W.heap.size + 1, 0, none⟩ 1 1 [.pointer (some ⟨W.heap.size, 0, none⟩)] (by rfl) (by rfl) (World.news_of_block (cs := #[.pointer (some ⟨W.heap.size, 0, none⟩)]) (t := 141) (fr := (0, 0)) (heap_at (by simp))) (by simp [Value.oneCell']) (by omega) (by simp only [maxLen]; omega) (by omega) (by omega) (W.heap.size + 2) (by simp) ?_
               intro g cap w1 hown1 hgrow hat hlt
               obtain ⟨hg0, hg1, hg2, hg3, hg4, hg5, hg6⟩ := s1.hdr_append s1.rdicts (by simp) ((((Ext.rfl_ W).alloc_ _).alloc_ _)) hgrow hat (by omega) hown1 (t := ⟨some ⟨W.heap.size, 0, none⟩, 1, 1⟩) (sz' := 3) (zs := [.int .i64 n, .int .i64 0, .slice none 0 0]) (e' := 144) ⟨by simp, .inr ⟨W.heap.size, 1, #[.int .i64 n, .int .i64 0, .slice none 0 0], rfl, Nat.zero_le _, heap_alloc2_old _ _ _, Nat.le_refl _, by decide, rfl, rfl⟩⟩ (fun b hb => by simp [Sl.blk] at hb; omega) 3 (.slice (some ⟨g, 0, none⟩) (h.dicts.n + 1) cap) s1.main
               have k0 := hg0.cell
               have k1 := hg0.frozen)
  clear hc hpf hown1 hgrow hat hg0 k0 k1
  have hB : Blk (w1.setCell ⟨p, 3, none⟩ (.slice (some ⟨g, 0, none⟩) (h.dicts.n + 1) cap)) w.heap.size 27 _ := hx1.keep (hg5 _ hx1.lt (by have := s.lt; omega) (fun hv => by have := s.dicts.blk_lt hv; omega))
  have hD : Blk (w1.setCell ⟨p, 3, none⟩ (.slice (some ⟨g, 0, none⟩) (h.dicts.n + 1) cap)) W.heap.size 144 [.int .i64 n, .int .i64 0, .slice none 0 0] := by
    rcases hg4.shape with ⟨hh, _⟩ | ⟨gd, cur, hh1, _, hh2, hh3, hh4⟩
    · cases hh
    · injection hh1 with hh1; injection hh1 with hh1; subst hh1
      unfold Blk
      rw [hh2, ← hh4, List.take_of_length_le (by show cur.toList.length ≤ 1 * 3; simpa using Nat.le_of_eq hh3)]
  generalize w1.setCell ⟨p, 3, none⟩ (.slice (some ⟨g, 0, none⟩) (h.dicts.n + 1) cap) = W2 at *
  have hc2 := hg2.cell
  have hcB := hB.cell
  have hfB := hB.frozen
  go_wp2
  have hB3 := ((((((((hB.set_ 0 (.int .i64 8)).set_ 1 (.bool false)).set_ 2 (.int .i64 0)).set_ 3 (.int .i64 0)).set_ 4 (.string ByteArray.empty)).set_ 5 (.int .i64 h.dicts.n)).set_ 6 (.int .i64 0)).set_ 7 (.int .i64 0))
  refine bodyPost_ret (res_ct rfl rfl hB3 Try.underlying27 (by kernel_rfl)) rfl ⟨by rw [hnl.out]; rfl, ?_⟩
  have ho : Only W2 w.heap.size _ := (((((((((Only.refl_ W2 w.heap.size).set_ 0 (.int .i64 8)).set_ 1 (.bool false)).set_ 2 (.int .i64 0)).set_ 3 (.int .i64 0)).set_ 4 (.string ByteArray.empty)).set_ 5 (.int .i64 h.dicts.n)).set_ 6 (.int .i64 0)).set_ 7 (.int .i64 0))
  obtain ⟨ρ', hs', hr'⟩ := s1.addDict hg1 hg2 hg3 hD (by omega) (by omega) (by simp only; omega)
  exact ⟨_, ρ', hs'.only ho (Roles.none_of fun hb => by rcases hr' _ hb with hb | hb; exact hbox0 hb; omega), ((Moves.ext_left hx (hW1.trans_ (hg6 _ hr'))).only ho (.inl (Nat.le_refl _)))⟩
abbrev zeroO : Value := .agg #[.int .i64 0, .bool false, .int .i64 0, .int .i64 0, .string ByteArray.empty, .int .i64 0, .int .i64 0, .int .i64 0]

theorem array_no (s : Sto w p σ h ρ) (n : Int) (hno : n < 0 ∨ 65535 < n ∨ σ.free < 1 + n) (hi : n ≤ 9223372036854775806) :
    Calls Try.prog 13 #[.pointer (some ⟨p, 0, none⟩), .int .i64 n] w fun e w' =>
      e = .returned (.tuple #[zeroO, .int .i64 (takeE σ.free n 65535 (1 + n))]) ∧ Ext w w' := by
  have s1 := (s.ext ((Ext.rfl_ w).alloc_ (.cells #[.int .i64 0, .bool false, .int .i64 0, .int .i64 0, .string ByteArray.empty, .int .i64 0, .int .i64 0, .int .i64 0] 27)))
  by_cases h0 : n < 0
  · have e1 : takeE σ.free n 65535 (1 + n) = 11 := by unfold takeE; rw [if_pos h0]
    have e2 : ∀ c, takeE σ.free n 65535 c = 11 := fun c => by unfold takeE; rw [if_pos h0]
    rw [e1]
    clear e1
    go_enter Try.func13, Try.ntmps13
    go_wp2_with (go_at_call 60; refine (take_no s1.main (by omega)).mono ?_; rintro e w1 ⟨rfl, rfl⟩)
    refine bodyPost_ret (res_ct rfl rfl (Blk.new w 27 _) Try.underlying27 (by kernel_rfl)) rfl ⟨rfl, (Ext.rfl_ w).alloc_ _⟩
  · have h0' : 0 ≤ n := by omega
    have he : (takeE σ.free n 65535 (1 + n) == 0) = false := by unfold takeE; rw [if_neg h0]; split; rfl; split; rfl; omega
    go_enter Try.func13, Try.ntmps13
    go_wp2_with (go_at_call 60; refine (take_no s1.main (by omega)).mono ?_; rintro e w1 ⟨rfl, rfl⟩)
    refine bodyPost_ret (res_ct rfl rfl (Blk.new w 27 _) Try.underlying27 (by kernel_rfl)) rfl ⟨rfl, (Ext.rfl_ w).alloc_ _⟩

theorem string_no (s : Sto w p σ h ρ) (n : Int) (hno : n < 0 ∨ 65535 < n ∨ σ.free < 1 + (n + 7) / 8) (hi : n ≤ 9223372036854775800) :
    Calls Try.prog 72 #[.pointer (some ⟨p, 0, none⟩), .int .i64 n] w fun e w' =>
      e = .returned (.tuple #[zeroO, .int .i64 (takeE σ.free n 65535 (1 + (n + 7) / 8))]) ∧ Ext w w' := by
  have s1 := (s.ext ((Ext.rfl_ w).alloc_ (.cells #[.int .i64 0, .bool false, .int .i64 0, .int .i64 0, .string ByteArray.empty, .int .i64 0, .int .i64 0, .int .i64 0] 27)))
  by_cases h0 : n < 0
  · have e1 : takeE σ.free n 65535 (1 + (n + 7) / 8) = 11 := by unfold takeE; rw [if_pos h0]
    have e2 : ∀ c, takeE σ.free n 65535 c = 11 := fun c => by unfold takeE; rw [if_pos h0]
    rw [e1]
    clear e1
    go_enter Try.func72, Try.ntmps72
    go_wp2_with (go_at_call 60; refine (take_no s1.main (by omega)).mono ?_; rintro e w1 ⟨rfl, rfl⟩)
    refine bodyPost_ret (res_ct rfl rfl (Blk.new w 27 _) Try.underlying27 (by kernel_rfl)) rfl ⟨rfl, (Ext.rfl_ w).alloc_ _⟩
  · have h0' : 0 ≤ n := by omega
    have he : (takeE σ.free n 65535 (1 + (n + 7) / 8) == 0) = false := by unfold takeE; rw [if_neg h0]; split; rfl; split; rfl; omega
    go_enter Try.func72, Try.ntmps72
    go_wp2_with (go_at_call 60; refine (take_no s1.main (by omega)).mono ?_; rintro e w1 ⟨rfl, rfl⟩)
    refine bodyPost_ret (res_ct rfl rfl (Blk.new w 27 _) Try.underlying27 (by kernel_rfl)) rfl ⟨rfl, (Ext.rfl_ w).alloc_ _⟩

theorem dict_no (s : Sto w p σ h ρ) (n : Int) (hno : n < 0 ∨ 4096 < n ∨ σ.free < 1 + 2 * n) (hi0 : -9223372036854775808 ≤ n) (hi : n ≤ 9223372036854775807) :
    Calls Try.prog 53 #[.pointer (some ⟨p, 0, none⟩), .int .i64 n] w fun e w' =>
      e = .returned (.tuple #[zeroO, .int .i64 (takeE σ.free n 4096 (1 + 2 * n))]) ∧ Ext w w' := by
  have s1 := (s.ext ((Ext.rfl_ w).alloc_ (.cells #[.int .i64 0, .bool false, .int .i64 0, .int .i64 0, .string ByteArray.empty, .int .i64 0, .int .i64 0, .int .i64 0] 27)))
  by_cases h0 : n < 0
  · have e1 : takeE σ.free n 4096 (1 + 2 * n) = 11 := by unfold takeE; rw [if_pos h0]
    have e2 : ∀ c, takeE σ.free n 4096 c = 11 := fun c => by unfold takeE; rw [if_pos h0]
    rw [e1]
    clear e1
    have h4 : n ≤ 4096 := by omega
    go_enter Try.func53, Try.ntmps53
    go_wp2_with (go_at_call 60; refine (take_no s1.main (by omega)).mono ?_; rintro e w1 ⟨rfl, rfl⟩)
    refine bodyPost_ret (res_ct rfl rfl (Blk.new w 27 _) Try.underlying27 (by kernel_rfl)) rfl ⟨rfl, (Ext.rfl_ w).alloc_ _⟩
  · have h0' : 0 ≤ n := by omega
    by_cases h4 : 4096 < n
    · have e1 : takeE σ.free n 4096 (1 + 2 * n) = 9 := by unfold takeE; rw [if_neg h0, if_pos h4]
      have e2 : ∀ c, takeE σ.free n 4096 c = 9 := fun c => by unfold takeE; rw [if_neg h0, if_pos h4]
      rw [e1]
      clear e1
      have h4' : 4096 ≤ n := by omega
      go_enter Try.func53, Try.ntmps53
      go_wp2_with (go_at_call 60; refine (take_no s1.main (by omega)).mono ?_; rintro e w1 ⟨rfl, rfl⟩)
      refine bodyPost_ret (res_ct rfl rfl (Blk.new w 27 _) Try.underlying27 (by kernel_rfl)) rfl ⟨rfl, (Ext.rfl_ w).alloc_ _⟩
    · have he : (takeE σ.free n 4096 (1 + 2 * n) == 0) = false := by unfold takeE; rw [if_neg h0]; split; rfl; split; rfl; omega
      have h4' : n ≤ 4096 := by omega
      go_enter Try.func53, Try.ntmps53
      go_wp2_with (go_at_call 60; refine (take_no s1.main (by omega)).mono ?_; rintro e w1 ⟨rfl, rfl⟩)
      refine bodyPost_ret (res_ct rfl rfl (Blk.new w 27 _) Try.underlying27 (by kernel_rfl)) rfl ⟨rfl, (Ext.rfl_ w).alloc_ _⟩
end
end Go.Proofs.Ythhckledkhcfeaa
