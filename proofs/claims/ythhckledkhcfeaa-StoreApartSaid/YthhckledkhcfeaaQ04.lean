/- The store's functions, part E: Array, String, Dict. The store's functions, part F: Text. The builtin append onto a row of one's own, from whatever a slice shows. -/
import Derived.Test.YthhckledkhcfeaaQ02
import Derived.Test.YthhckledkhcfeaaQ03
namespace Go.Proofs.Ythhckledkhcfeaa
open Go.RowKit

theorem info_u8 : (Try.prog.info? 5).map (fun i => (i.zero, i.size, i.bytes)) = some (some (.int .u8 0), 1, 1) := by kernel_rfl
theorem info_u8s : (Try.prog.info? 45).map (fun i => (i.zero, i.size, i.bytes)) = some (some (.slice none 0 0), 1, 24) := by kernel_rfl
theorem info_dictp : (Try.prog.info? 141).map (fun i => (i.zero, i.size, i.bytes)) = some (some (.pointer none), 1, 8) := by kernel_rfl
theorem info_Obj : (Try.prog.info? 27).map (fun i => (i.zero, i.size, i.bytes)) = some (some (.agg #[.int .i64 0, .bool false, .int .i64 0, .int .i64 0, .string ByteArray.empty, .int .i64 0, .int .i64 0, .int .i64 0]), 8, 72) := by kernel_rfl
theorem info_Objs : (Try.prog.info? 33).map (fun i => (i.zero, i.size, i.bytes)) = some (some (.slice none 0 0), 1, 24) := by kernel_rfl

section
variable {w : World} {p : Nat} {σ : St} {h : Hd} {ρ : Roles}
theorem array_ok (s : Sto w p σ h ρ) (n : Nat) (h1 : n ≤ 65535) (h2 : 1 + (n : Int) ≤ σ.free) :
    Calls Try.prog 13 #[.pointer (some ⟨p, 0, none⟩), .int .i64 n] w fun e w' =>
      e = .returned (.tuple #[.agg #[.int .i64 7, .bool false, .int .i64 0, .int .i64 0, .string ByteArray.empty, .int .i64 σ.lists.length, .int .i64 0, .int .i64 n], .int .i64 0]) ∧ StoTo w w' p ρ { σ with free := σ.free - (1 + n), lists := σ.lists ++ [List.replicate n Ob.null] } := by
  obtain ⟨iO, hiO, hzO, hsO, hbO⟩ := info_parts info_Obj
  obtain ⟨iL, hiL, hzL, hsL, hbL⟩ := info_parts info_Objs
  have hf := s.ok.free0
  have hf' : σ.free ≤ 1048576 := by have := s.ok.room; omega
  have hln : h.lists.n ≤ 1048576 := by have := s.ok.room; have := s.nlists; omega
  have hnl := Lib.hid s.nlists
  go_enter Try.func13, Try.ntmps13
  go_wp2_with (go_at_call 60; refine (take_ok (s.ext ((Ext.rfl_ w).alloc_ _)).main hf hf' (by omega) (by omega) (by omega) (by omega)).mono ?_; rintro e w1 ⟨rfl, rfl⟩)
  generalize hX : World.alloc w _ = X
  obtain ⟨hx, hcX, hfX, hzX, hbX⟩ := boxed hX
  clear hX
  have s1 := (s.ext hx).free_ (f := σ.free - (1 + (n : Int))) (by omega) (by omega)
  have hx1 : Blk (X.setCell ⟨p, 0, none⟩ (.int .i64 (σ.free - (1 + (n : Int))))) w.heap.size 27 _ := hbX.far (p := ⟨p, 0, none⟩) (by have := s.lt; simp; omega) _
  have hW1 : Moves X (X.setCell ⟨p, 0, none⟩ (.int .i64 (σ.free - (1 + (n : Int))))) ρ.own ρ.own := Moves.set_ (by unfold Roles.own; rw [s.rmain]; simp) _
  have hbox0 : ¬ ρ.own w.heap.size := Roles.not_own (s.fresh (Nat.le_refl _))
  have hroom := s.ok.room
  have hzW : w.heap.size < (X.setCell ⟨p, 0, none⟩ (.int .i64 (σ.free - (1 + (n : Int))))).heap.size := by simpa using hzX
  generalize hW : X.setCell ⟨p, 0, none⟩ (.int .i64 (σ.free - (1 + (n : Int)))) = W at s1 hx1 hW1 hzW
  clear hW
  have hc := s1.main.cell
  have hpf := s1.main.frozen
  have hps := s1.lt
  have hmk := fun W => run_make_rowN (P := Try.prog) 33 27 iO _ Try.underlying33 hiO hzO .i64 .i64 n n (Nat.le_refl _) (by rw [hbO]; omega) (by omega) W
  rw [hsO] at hmk
  go_region_law ((
    refine step_append_lies _ (by rfl) _ _ _ (by rfl) 0 33 iL _ 1 24 Try.underlying111 hiL hzL hsL hbL rfl (by omega) (.slice h.lists.a h.lists.n h.lists.c) h.lists.n (slVals h.ls) (by rfl) ((s1.lists.alloc _).alloc _).drew
      ⟨W.heap.size + 1, 0, none⟩ 1 1 [.slice (some ⟨W.heap.size, 0, none⟩) n n] (by rfl) (by rfl) (World.news_of_block (cs := #[.slice (some ⟨W.heap.size, 0, none⟩) n n]) (t := 33) (fr := (0, 0)) (heap_at (by simp))) (by simp [Value.oneCell'])
      (by omega) (by simp only [maxLen]; omega) (by omega) (by omega) (W.heap.size + 2) (by simp) ?_
    intro g cap w1 hown1 hgrow hat hlt
    obtain ⟨hg0, hg1, hg2, hg3, hg4, hg5, hg6⟩ := s1.hdr_append s1.rlists (by simp) ((((Ext.rfl_ W).alloc_ _).alloc_ _).drew_) hgrow hat (by omega) hown1 (t := ⟨some ⟨W.heap.size, 0, none⟩, n, n⟩) (sz' := 8) (zs := obCells (List.replicate n Ob.null)) (e' := 27)
      (by rw [← obCells_null]; exact Row.made #[.int .i64 0, .bool false, .int .i64 0, .int .i64 0, .string ByteArray.empty, .int .i64 0, .int .i64 0, .int .i64 0] n (by simp) (by simp only [maxLen]; omega) (by simp) (heap_at2 _ _ _)) (fun b hb => by simp [Sl.blk] at hb; omega) 2 (.slice (some ⟨g, 0, none⟩) (h.lists.n + 1) cap) s1.main
    have k0 := hg0.cell
    have k1 := hg0.frozen))
  all_goals
    clear hc hpf hmk hown1 hgrow hat hg0 k0 k1
    have hB : Blk (w1.setCell ⟨p, 2, none⟩ (.slice (some ⟨g, 0, none⟩) (h.lists.n + 1) cap)) w.heap.size 27 _ := hx1.keep (hg5 _ hx1.lt (by have := s.lt; omega) (fun hv => by have := s.lists.blk_lt hv; omega))
    generalize w1.setCell ⟨p, 2, none⟩ (.slice (some ⟨g, 0, none⟩) (h.lists.n + 1) cap) = W2 at *
    have hc2 := hg2.cell
    have hcB := hB.cell
    have hfB := hB.frozen
    go_wp2
    have hB3 := ((((((((hB.set_ 0 (.int .i64 7)).set_ 1 (.bool false)).set_ 2 (.int .i64 0)).set_ 3 (.int .i64 0)).set_ 4 (.string ByteArray.empty)).set_ 5 (.int .i64 h.lists.n)).set_ 6 (.int .i64 0)).set_ 7 (.int .i64 n))
    refine bodyPost_ret (res_ct rfl rfl hB3 Try.underlying27 (by kernel_rfl)) rfl ⟨by rw [hnl.out]; rfl, ?_⟩
    have ho : Only W2 w.heap.size _ := (((((((((Only.refl_ W2 w.heap.size).set_ 0 (.int .i64 7)).set_ 1 (.bool false)).set_ 2 (.int .i64 0)).set_ 3 (.int .i64 0)).set_ 4 (.string ByteArray.empty)).set_ 5 (.int .i64 h.lists.n)).set_ 6 (.int .i64 0)).set_ 7 (.int .i64 n))
    obtain ⟨ρ', hs', hr'⟩ := s1.addList hg1 hg2 hg3 hg4 (by simpa using h1) (by simp only; omega)
    exact ⟨_, ρ', hs'.only ho (Roles.none_of fun hb => by rcases hr' _ hb with hb | hb; exact hbox0 hb; omega), ((Moves.ext_left hx (hW1.trans_ (hg6 _ hr'))).only ho (.inl (Nat.le_refl _)))⟩
theorem string_ok (s : Sto w p σ h ρ) (n : Nat) (h1 : n ≤ 65535) (h2 : 1 + ((n : Int) + 7) / 8 ≤ σ.free) :
    Calls Try.prog 72 #[.pointer (some ⟨p, 0, none⟩), .int .i64 n] w fun e w' =>
      e = .returned (.tuple #[.agg #[.int .i64 6, .bool false, .int .i64 0, .int .i64 0, .string ByteArray.empty, .int .i64 σ.texts.length, .int .i64 0, .int .i64 n], .int .i64 0]) ∧ StoTo w w' p ρ { σ with free := σ.free - (1 + ((n : Int) + 7) / 8), texts := σ.texts ++ [List.replicate n 0] } := by
  obtain ⟨iO, hiO, hzO, hsO, hbO⟩ := info_parts info_u8
  obtain ⟨iL, hiL, hzL, hsL, hbL⟩ := info_parts info_u8s
  have hf := s.ok.free0
  have hf' : σ.free ≤ 1048576 := by have := s.ok.room; omega
  have hln : h.texts.n ≤ 1048576 := by have := s.ok.room; have := s.ntexts; omega
  have hnl := Lib.hid s.ntexts
  go_enter Try.func72, Try.ntmps72
  go_wp2_with (go_at_call 60; refine (take_ok (s.ext ((Ext.rfl_ w).alloc_ _)).main hf hf' (by omega) (by omega) (by omega) (by omega)).mono ?_; rintro e w1 ⟨rfl, rfl⟩)
  generalize hX : World.alloc w _ = X
  obtain ⟨hx, hcX, hfX, hzX, hbX⟩ := boxed hX
  clear hX
  have s1 := (s.ext hx).free_ (f := σ.free - (1 + ((n : Int) + 7) / 8)) (by omega) (by omega)
  have hx1 : Blk (X.setCell ⟨p, 0, none⟩ (.int .i64 (σ.free - (1 + ((n : Int) + 7) / 8)))) w.heap.size 27 _ := hbX.far (p := ⟨p, 0, none⟩) (by have := s.lt; simp; omega) _
  have hW1 : Moves X (X.setCell ⟨p, 0, none⟩ (.int .i64 (σ.free - (1 + ((n : Int) + 7) / 8)))) ρ.own ρ.own := Moves.set_ (by unfold Roles.own; rw [s.rmain]; simp) _
  have hbox0 : ¬ ρ.own w.heap.size := Roles.not_own (s.fresh (Nat.le_refl _))
  have hroom := s.ok.room
  have hzW : w.heap.size < (X.setCell ⟨p, 0, none⟩ (.int .i64 (σ.free - (1 + ((n : Int) + 7) / 8)))).heap.size := by simpa using hzX
  generalize hW : X.setCell ⟨p, 0, none⟩ (.int .i64 (σ.free - (1 + ((n : Int) + 7) / 8))) = W at s1 hx1 hW1 hzW
  clear hW
  have hc := s1.main.cell
  have hpf := s1.main.frozen
  have hps := s1.lt
  have hmk := fun W => run_make_rowN (P := Try.prog) 45 5 iO _ Try.underlying45 hiO hzO .i64 .i64 n n (Nat.le_refl _) (by rw [hbO]; omega) (by omega) W
  rw [hsO] at hmk
  go_region_law ((
    refine step_append_lies _ (by rfl) _ _ _ (by rfl) 0 45 iL _ 1 24 Try.underlying110 hiL hzL hsL hbL rfl (by omega) (.slice h.texts.a h.texts.n h.texts.c) h.texts.n (slVals h.ts) (by rfl) ((s1.texts.alloc _).alloc _).drew
      ⟨W.heap.size + 1, 0, none⟩ 1 1 [.slice (some ⟨W.heap.size, 0, none⟩) n n] (by rfl) (by rfl) (World.news_of_block (cs := #[.slice (some ⟨W.heap.size, 0, none⟩) n n]) (t := 45) (fr := (0, 0)) (heap_at (by simp))) (by simp [Value.oneCell'])
      (by omega) (by simp only [maxLen]; omega) (by omega) (by omega) (W.heap.size + 2) (by simp) ?_
    intro g cap w1 hown1 hgrow hat hlt
    obtain ⟨hg0, hg1, hg2, hg3, hg4, hg5, hg6⟩ := s1.hdr_append s1.rtexts (by simp) ((((Ext.rfl_ W).alloc_ _).alloc_ _).drew_) hgrow hat (by omega) hown1 (t := ⟨some ⟨W.heap.size, 0, none⟩, n, n⟩) (sz' := 1) (zs := byteCells (List.replicate n 0)) (e' := 5)
      (by rw [← byteCells_zero]; exact Row.made #[.int .u8 0] n (by simp) (by simp only [maxLen]; omega) (by simp) (heap_at2 _ _ _)) (fun b hb => by simp [Sl.blk] at hb; omega) 1 (.slice (some ⟨g, 0, none⟩) (h.texts.n + 1) cap) s1.main
    have k0 := hg0.cell
    have k1 := hg0.frozen))
  all_goals
    clear hc hpf hmk hown1 hgrow hat hg0 k0 k1
    have hB : Blk (w1.setCell ⟨p, 1, none⟩ (.slice (some ⟨g, 0, none⟩) (h.texts.n + 1) cap)) w.heap.size 27 _ := hx1.keep (hg5 _ hx1.lt (by have := s.lt; omega) (fun hv => by have := s.texts.blk_lt hv; omega))
    generalize w1.setCell ⟨p, 1, none⟩ (.slice (some ⟨g, 0, none⟩) (h.texts.n + 1) cap) = W2 at *
    have hc2 := hg2.cell
    have hcB := hB.cell
    have hfB := hB.frozen
    go_wp2
    have hB3 := ((((((((hB.set_ 0 (.int .i64 6)).set_ 1 (.bool false)).set_ 2 (.int .i64 0)).set_ 3 (.int .i64 0)).set_ 4 (.string ByteArray.empty)).set_ 5 (.int .i64 h.texts.n)).set_ 6 (.int .i64 0)).set_ 7 (.int .i64 n))
    refine bodyPost_ret (res_ct rfl rfl hB3 Try.underlying27 (by kernel_rfl)) rfl ⟨by rw [hnl.out]; rfl, ?_⟩
    have ho : Only W2 w.heap.size _ := (((((((((Only.refl_ W2 w.heap.size).set_ 0 (.int .i64 6)).set_ 1 (.bool false)).set_ 2 (.int .i64 0)).set_ 3 (.int .i64 0)).set_ 4 (.string ByteArray.empty)).set_ 5 (.int .i64 h.texts.n)).set_ 6 (.int .i64 0)).set_ 7 (.int .i64 n))
    obtain ⟨ρ', hs', hr', -⟩ := s1.addText hg1 hg2 hg3 hg4 (by simpa using h1) (by simp only; omega)
    exact ⟨_, ρ', hs'.only ho (Roles.none_of fun hb => by rcases hr' _ hb with hb | hb; exact hbox0 hb; omega), ((Moves.ext_left hx (hW1.trans_ (hg6 _ hr'))).only ho (.inl (Nat.le_refl _)))⟩
set_option maxRecDepth 100000 in
set_option maxHeartbeats 400000 in
theorem dict_ok (s : Sto w p σ h ρ) (n : Nat) (h1 : n ≤ 4096) (h2 : 1 + 2 * (n : Int) ≤ σ.free) :
    Calls Try.prog 53 #[.pointer (some ⟨p, 0, none⟩), .int .i64 n] w fun e w' =>
      e = .returned (.tuple #[.agg #[.int .i64 8, .bool false, .int .i64 0, .int .i64 0, .string ByteArray.empty, .int .i64 σ.dicts.length, .int .i64 0, .int .i64 0], .int .i64 0]) ∧ StoTo w w' p ρ { σ with free := σ.free - (1 + 2 * n), dicts := σ.dicts ++ [⟨n, 0, []⟩] } := by
  obtain ⟨iL, hiL, hzL, hsL, hbL⟩ := info_parts info_dictp
  have hf := s.ok.free0
  have hf' : σ.free ≤ 1048576 := by have := s.ok.room; omega
  have hln : h.dicts.n ≤ 1048576 := by have := s.ok.room; have := s.ndicts; omega
  have hnl := Lib.hid s.ndicts
  go_enter Try.func53, Try.ntmps53
  go_upto_region 4 with (go_at_call 60; refine (take_ok (s.ext ((Ext.rfl_ w).alloc_ _)).main hf hf' (by omega) (by omega) (by omega) (by omega)).mono ?_; rintro e w1 ⟨rfl, rfl⟩)
  generalize hX : World.alloc w _ = X
  obtain ⟨hx, hcX, hfX, hzX, hbX⟩ := boxed hX
  clear hX
  have s1 := (s.ext hx).free_ (f := σ.free - (1 + 2 * (n : Int))) (by omega) (by omega)
  have hx1 : Blk (X.setCell ⟨p, 0, none⟩ (.int .i64 (σ.free - (1 + 2 * (n : Int))))) w.heap.size 27 _ := hbX.far (p := ⟨p, 0, none⟩) (by have := s.lt; simp; omega) _
  have hW1 : Moves X (X.setCell ⟨p, 0, none⟩ (.int .i64 (σ.free - (1 + 2 * (n : Int))))) ρ.own ρ.own := Moves.set_ (by unfold Roles.own; rw [s.rmain]; simp) _
  have hbox0 : ¬ ρ.own w.heap.size := Roles.not_own (s.fresh (Nat.le_refl _))
  have hroom := s.ok.room
  have hzW : w.heap.size < (X.setCell ⟨p, 0, none⟩ (.int .i64 (σ.free - (1 + 2 * (n : Int))))).heap.size := by simpa using hzX
  generalize hW : X.setCell ⟨p, 0, none⟩ (.int .i64 (σ.free - (1 + 2 * (n : Int)))) = W at s1 hx1 hW1 hzW
  clear hW
  have hc := s1.main.cell
  have hpf := s1.main.frozen
  have hps := s1.lt
  go_upto_region 5 with (
               at_builtin
               refine wpList_append_lies _ (by rfl) _ _ _ (by rfl) 0 141 iL _ 1 8 Try.underlying112 hiL hzL hsL hbL rfl (by omega) (.slice h.dicts.a h.dicts.n h.dicts.c) h.dicts.n (ptrVals h.ds) (by rfl) ((s1.dicts.alloc _).alloc _) ⟨W.heap.size + 1, 0, none⟩ 1 1 [.pointer (some ⟨W.heap.size, 0, none⟩)] (by rfl) (by rfl) (World.news_of_block (cs := #[.pointer (some ⟨W.heap.size, 0, none⟩)]) (t := 141) (fr := (0, 0)) (heap_at (by simp))) (by simp [Value.oneCell']) (by omega) (by simp only [maxLen]; omega) (by omega) (by omega) (W.heap.size + 2) (by simp) ?_
               intro g cap w1 hown1 hgrow hat hlt
               obtain ⟨hg0, hg1, hg2, hg3, hg4, hg5, hg6⟩ := s1.hdr_append s1.rdicts (by simp) ((((Ext.rfl_ W).alloc_ _).alloc_ _)) hgrow hat (by omega) hown1 (t := ⟨some ⟨W.heap.size, 0, none⟩, 1, 1⟩) (sz' := 3) (zs := [.int .i64 n, .int .i64 0, .slice none 0 0]) (e' := 144) ⟨by simp, .inr ⟨W.heap.size, 1, #[.int .i64 n, .int .i64 0, .slice none 0 0], rfl, Nat.zero_le _, heap_alloc2_old _ _ _, Nat.le_refl _, by decide, rfl, rfl⟩⟩ (fun b hb => by simp [Sl.blk] at hb; omega) 3 (.slice (some ⟨g, 0, none⟩) (h.dicts.n + 1) cap) s1.main
               have k0 := hg0.cell
               have k1 := hg0.frozen)
  clear hc hpf hown1 hgrow hat hg0 k0 k1
  have hB : Blk (w1.setCell ⟨p, 3, none⟩ (.slice (some ⟨g, 0, none⟩) (h.dicts.n + 1) cap)) w.heap.size 27 _ := hx1.keep (hg5 _ hx1.lt (by have := s.lt; omega) (fun hv => by have := s.dicts.blk_lt hv; omega))
  have hD : Blk (w1.setCell ⟨p, 3, none⟩ (.slice (some ⟨g, 0, none⟩) (h.dicts.n + 1) cap)) W.heap.size 144 [.int .i64 n, .int .i64 0, .slice none 0 0] := by
    rcases hg4.shape with ⟨hh, _⟩ | ⟨gd, cur, hh1, _, hh2, hh3, hh4⟩
    · cases hh
    · injection hh1 with hh1; injection hh1 with hh1; subst hh1
      unfold Blk
      rw [hh2, ← hh4, List.take_of_length_le (by show cur.toList.length ≤ 1 * 3; simpa using Nat.le_of_eq hh3)]
  generalize w1.setCell ⟨p, 3, none⟩ (.slice (some ⟨g, 0, none⟩) (h.dicts.n + 1) cap) = W2 at *
  have hc2 := hg2.cell
  have hcB := hB.cell
  have hfB := hB.frozen
  go_wp2
  have hB3 := ((((((((hB.set_ 0 (.int .i64 8)).set_ 1 (.bool false)).set_ 2 (.int .i64 0)).set_ 3 (.int .i64 0)).set_ 4 (.string ByteArray.empty)).set_ 5 (.int .i64 h.dicts.n)).set_ 6 (.int .i64 0)).set_ 7 (.int .i64 0))
  refine bodyPost_ret (res_ct rfl rfl hB3 Try.underlying27 (by kernel_rfl)) rfl ⟨by rw [hnl.out]; rfl, ?_⟩
  have ho : Only W2 w.heap.size _ := (((((((((Only.refl_ W2 w.heap.size).set_ 0 (.int .i64 8)).set_ 1 (.bool false)).set_ 2 (.int .i64 0)).set_ 3 (.int .i64 0)).set_ 4 (.string ByteArray.empty)).set_ 5 (.int .i64 h.dicts.n)).set_ 6 (.int .i64 0)).set_ 7 (.int .i64 0))
  obtain ⟨ρ', hs', hr'⟩ := s1.addDict hg1 hg2 hg3 hD (by omega) (by omega) (by simp only; omega)
  exact ⟨_, ρ', hs'.only ho (Roles.none_of fun hb => by rcases hr' _ hb with hb | hb; exact hbox0 hb; omega), ((Moves.ext_left hx (hW1.trans_ (hg6 _ hr'))).only ho (.inl (Nat.le_refl _)))⟩
abbrev zeroO : Value := .agg #[.int .i64 0, .bool false, .int .i64 0, .int .i64 0, .string ByteArray.empty, .int .i64 0, .int .i64 0, .int .i64 0]

theorem array_no (s : Sto w p σ h ρ) (n : Int) (hno : n < 0 ∨ 65535 < n ∨ σ.free < 1 + n) (hi : n ≤ 9223372036854775806) :
    Calls Try.prog 13 #[.pointer (some ⟨p, 0, none⟩), .int .i64 n] w fun e w' =>
      e = .returned (.tuple #[zeroO, .int .i64 (takeE σ.free n 65535 (1 + n))]) ∧ Ext w w' := by
  have s1 := (s.ext ((Ext.rfl_ w).alloc_ (.cells #[.int .i64 0, .bool false, .int .i64 0, .int .i64 0, .string ByteArray.empty, .int .i64 0, .int .i64 0, .int .i64 0] 27)))
  by_cases h0 : n < 0
  · have e1 : takeE σ.free n 65535 (1 + n) = 11 := by unfold takeE; rw [if_pos h0]
    have e2 : ∀ c, takeE σ.free n 65535 c = 11 := fun c => by unfold takeE; rw [if_pos h0]
    rw [e1]
    clear e1
    go_enter Try.func13, Try.ntmps13
    go_wp2_with (go_at_call 60; refine (take_no s1.main (by omega)).mono ?_; rintro e w1 ⟨rfl, rfl⟩)
    refine bodyPost_ret (res_ct rfl rfl (Blk.new w 27 _) Try.underlying27 (by kernel_rfl)) rfl ⟨rfl, (Ext.rfl_ w).alloc_ _⟩
  · have h0' : 0 ≤ n := by omega
    have he : (takeE σ.free n 65535 (1 + n) == 0) = false := by unfold takeE; rw [if_neg h0]; split; rfl; split; rfl; omega
    go_enter Try.func13, Try.ntmps13
    go_wp2_with (go_at_call 60; refine (take_no s1.main (by omega)).mono ?_; rintro e w1 ⟨rfl, rfl⟩)
    refine bodyPost_ret (res_ct rfl rfl (Blk.new w 27 _) Try.underlying27 (by kernel_rfl)) rfl ⟨rfl, (Ext.rfl_ w).alloc_ _⟩

theorem string_no (s : Sto w p σ h ρ) (n : Int) (hno : n < 0 ∨ 65535 < n ∨ σ.free < 1 + (n + 7) / 8) (hi : n ≤ 9223372036854775800) :
    Calls Try.prog 72 #[.pointer (some ⟨p, 0, none⟩), .int .i64 n] w fun e w' =>
      e = .returned (.tuple #[zeroO, .int .i64 (takeE σ.free n 65535 (1 + (n + 7) / 8))]) ∧ Ext w w' := by
  have s1 := (s.ext ((Ext.rfl_ w).alloc_ (.cells #[.int .i64 0, .bool false, .int .i64 0, .int .i64 0, .string ByteArray.empty, .int .i64 0, .int .i64 0, .int .i64 0] 27)))
  by_cases h0 : n < 0
  · have e1 : takeE σ.free n 65535 (1 + (n + 7) / 8) = 11 := by unfold takeE; rw [if_pos h0]
    have e2 : ∀ c, takeE σ.free n 65535 c = 11 := fun c => by unfold takeE; rw [if_pos h0]
    rw [e1]
    clear e1
    go_enter Try.func72, Try.ntmps72
    go_wp2_with (go_at_call 60; refine (take_no s1.main (by omega)).mono ?_; rintro e w1 ⟨rfl, rfl⟩)
    refine bodyPost_ret (res_ct rfl rfl (Blk.new w 27 _) Try.underlying27 (by kernel_rfl)) rfl ⟨rfl, (Ext.rfl_ w).alloc_ _⟩
  · have h0' : 0 ≤ n := by omega
    have he : (takeE σ.free n 65535 (1 + (n + 7) / 8) == 0) = false := by unfold takeE; rw [if_neg h0]; split; rfl; split; rfl; omega
    go_enter Try.func72, Try.ntmps72
    go_wp2_with (go_at_call 60; refine (take_no s1.main (by omega)).mono ?_; rintro e w1 ⟨rfl, rfl⟩)
    refine bodyPost_ret (res_ct rfl rfl (Blk.new w 27 _) Try.underlying27 (by kernel_rfl)) rfl ⟨rfl, (Ext.rfl_ w).alloc_ _⟩

theorem dict_no (s : Sto w p σ h ρ) (n : Int) (hno : n < 0 ∨ 4096 < n ∨ σ.free < 1 + 2 * n) (hi0 : -9223372036854775808 ≤ n) (hi : n ≤ 9223372036854775807) :
    Calls Try.prog 53 #[.pointer (some ⟨p, 0, none⟩), .int .i64 n] w fun e w' =>
      e = .returned (.tuple #[zeroO, .int .i64 (takeE σ.free n 4096 (1 + 2 * n))]) ∧ Ext w w' := by
  have s1 := (s.ext ((Ext.rfl_ w).alloc_ (.cells #[.int .i64 0, .bool false, .int .i64 0, .int .i64 0, .string ByteArray.empty, .int .i64 0, .int .i64 0, .int .i64 0] 27)))
  by_cases h0 : n < 0
  · have e1 : takeE σ.free n 4096 (1 + 2 * n) = 11 := by unfold takeE; rw [if_pos h0]
    have e2 : ∀ c, takeE σ.free n 4096 c = 11 := fun c => by unfold takeE; rw [if_pos h0]
    rw [e1]
    clear e1
    have h4 : n ≤ 4096 := by omega
    go_enter Try.func53, Try.ntmps53
    go_wp2_with (go_at_call 60; refine (take_no s1.main (by omega)).mono ?_; rintro e w1 ⟨rfl, rfl⟩)
    refine bodyPost_ret (res_ct rfl rfl (Blk.new w 27 _) Try.underlying27 (by kernel_rfl)) rfl ⟨rfl, (Ext.rfl_ w).alloc_ _⟩
  · have h0' : 0 ≤ n := by omega
    by_cases h4 : 4096 < n
    · have e1 : takeE σ.free n 4096 (1 + 2 * n) = 9 := by unfold takeE; rw [if_neg h0, if_pos h4]
      have e2 : ∀ c, takeE σ.free n 4096 c = 9 := fun c => by unfold takeE; rw [if_neg h0, if_pos h4]
      rw [e1]
      clear e1
      have h4' : 4096 ≤ n := by omega
      go_enter Try.func53, Try.ntmps53
      go_wp2_with (go_at_call 60; refine (take_no s1.main (by omega)).mono ?_; rintro e w1 ⟨rfl, rfl⟩)
      refine bodyPost_ret (res_ct rfl rfl (Blk.new w 27 _) Try.underlying27 (by kernel_rfl)) rfl ⟨rfl, (Ext.rfl_ w).alloc_ _⟩
    · have he : (takeE σ.free n 4096 (1 + 2 * n) == 0) = false := by unfold takeE; rw [if_neg h0]; split; rfl; split; rfl; omega
      have h4' : n ≤ 4096 := by omega
      go_enter Try.func53, Try.ntmps53
      go_wp2_with (go_at_call 60; refine (take_no s1.main (by omega)).mono ?_; rintro e w1 ⟨rfl, rfl⟩)
      refine bodyPost_ret (res_ct rfl rfl (Blk.new w 27 _) Try.underlying27 (by kernel_rfl)) rfl ⟨rfl, (Ext.rfl_ w).alloc_ _⟩
end
end Go.Proofs.Ythhckledkhcfeaa
namespace Go.Proofs.Ythhckledkhcfeaa
open Go.RowKit
section
variable {w : World} {p : Nat} {σ : St} {h : Hd} {ρ : Roles}
theorem byteCells_one (l : List UInt8) : ∀ u ∈ byteCells l, u.oneCell' = true := by
  intro u hu
  obtain ⟨b, -, rfl⟩ := List.mem_map.1 hu
  rfl
set_option maxHeartbeats 400000 in
theorem Text_ok (s : Sto w p σ h ρ) {A : Option Addr} {c : Nat} {bs : List UInt8} (hv : View w 1 A bs.length (byteCells bs)) (hap : ∀ g o, A = some ⟨g, o, none⟩ → ρ g = none) (h1 : bs.length ≤ 65535) (h2 : 1 + ((bs.length : Int) + 7) / 8 ≤ σ.free) :
    Calls Try.prog 25 #[.pointer (some ⟨p, 0, none⟩), .slice A bs.length c] w fun e w' =>
      e = .returned (.tuple #[.agg #[.int .i64 6, .bool false, .int .i64 0, .int .i64 0, .string ByteArray.empty, .int .i64 σ.texts.length, .int .i64 0, .int .i64 bs.length], .int .i64 0]) ∧
        StoTo w w' p ρ { σ with free := σ.free - (1 + ((bs.length : Int) + 7) / 8), texts := σ.texts ++ [bs] } := by
  obtain ⟨n, hn⟩ : ∃ n, n = bs.length := ⟨_, rfl⟩
  rw [← hn] at hv h1 h2 ⊢
  have hN := Lib.hid hn
  clear hn
  have hv0 : ∀ (w1 : World) (ρ' : Roles), Moves (w.alloc (.cells #[.int .i64 0, .bool false, .int .i64 0, .int .i64 0, .string ByteArray.empty, .int .i64 0, .int .i64 0, .int .i64 0] 27)) w1 ρ.own ρ'.own → View w1 1 A n (byteCells bs) := fun w1 ρ' hm =>
    hv.keep (Nat.le_trans (by simp) hm.size) fun g o hA hg => (hm.block g (by simp; omega) (Roles.not_own (hap g o hA))).trans (Below.heap_alloc _ _ _ hg)
  go_enter Try.func25, Try.ntmps25
  go_upto_region 3 with (
    go_at_call 72
    refine (string_ok (s.ext ((Ext.rfl_ w).alloc_ _)) n h1 h2).mono ?_
    rintro e w1 ⟨rfl, h', ρ', s', hm⟩)
  have hB0 : Blk w1 w.heap.size 27 [.int .i64 0, .bool false, .int .i64 0, .int .i64 0, .string ByteArray.empty, .int .i64 0, .int .i64 0, .int .i64 0] := (Blk.new w _ _).moves hm (Roles.not_own (s.fresh (Nat.le_refl _)))
  have hn1 : ¬ ρ'.own w.heap.size := hm.apart (Roles.not_own (s.fresh (Nat.le_refl _))) (by simp)
  have hv1 : View w1 1 A n (byteCells bs) := hv0 w1 ρ' hm
  generalize hY : World.alloc w1 _ = Y
  obtain ⟨hy, hcY, hfY, hzY, hbY⟩ := boxed hY
  clear hY
  have s2 := s'.ext hy
  obtain ⟨g, t, b, ha, ht1, ht2, hcell, hrow, hon, hg, hglt, htn, hb⟩ := s2.text_at (r := σ.texts.length) (by simp)
  have hbn : b.length = n := by simp at ht2; rw [← ht2]; simp
  have htn' : t.n = n := htn.trans hbn
  have hmain := s2.main
  rw [ha] at hmain
  have hc := hmain.cell
  have hps := s2.lt
  have hrn : σ.texts.length < h'.texts.n := by rw [s2.ntexts]; simp
  have hcs : (byteCells bs).length = Nat.min n t.n * 1 := by rw [htn', hv.1]; simp
  have hcb := Lib.hid hbn
  have hHt' := Lib.hid htn'
  have hHt := Lib.hid htn
  have hHt2 := Lib.hid ht2
  have hHt1 := Lib.hid ht1
  have hHa := Lib.hid ha
  clear hbn htn' htn ht2 ht1 ha
  go_region_law ((
    refine step_copy_row (by rfl) _ _ _ _ (by rfl) 5 1 Try.underlying45 (by kernel_rfl) _ _ _ _ _ _ (by rfl) (by rfl) hrow.drew 0 (byteCells bs) hcs ?_ ?_ ?_ ?_ ?_
    · intro h0
      obtain ⟨gt, hgt, -⟩ := hrow.pos (by rw [hHt'.out]; rw [hv.1] at h0; omega)
      exact ⟨gt, hgt, hgt⟩
    · intro h0
      obtain ⟨gv, ov, hA, -, hj⟩ := (hv1.ext hy).2 h0
      exact ⟨gv, ov, hA, hj⟩
    · rw [hv.1, hrow.len, hHt'.out]; omega
    · exact byteCells_one bs
    intro w2 hrow2 hg2 hz2))
  all_goals
    have s3 := (s2.keep (w' := Y.drew) (fun _ _ => rfl) (Nat.le_refl _)).setText hHt1.out hHt2.out (b' := bs) (by have := hN.out; have := hcb.out; omega) (w' := w2)
      (by have e : splice (byteCells b) 0 (byteCells bs) = byteCells bs := by { unfold splice; have h1 := hN.out; have h2 := hcb.out; simp [byteCells]; omega }
          rw [e] at hrow2; exact hrow2) (fun c hc hne => hg2.block c hc (fun e => hne e.symm)) hg2.size
    have hne : ∀ c, ¬ ρ'.own c → t.blk ≠ some c := fun c hc hb => hc (by unfold Roles.own; rw [hon c hb]; simp)
    have hB6 : Blk w2 w1.heap.size 27 _ := hbY.keep (hg2.block _ hbY.lt (fun e => hne _ (Roles.not_own (s'.fresh (Nat.le_refl _))) e.symm))
    have hB4 : Blk w2 w.heap.size 27 _ := (hB0.ext hy).keep (hg2.block _ (hB0.ext hy).lt (fun e => hne _ hn1 e.symm))
    have hne46 : w.heap.size < w1.heap.size := hB0.lt
    have hc6 := hB6.cell
    have hc4 := hB4.cell
    have hf4 := hB4.frozen
    have hm2 : Moves Y w2 ρ'.own ρ'.own := ⟨hg2.os, hg2.tape, hg2.output, hg2.size, fun c hc hn => hg2.block c hc (fun e => hne _ hn e.symm), fun _ h => .inl h⟩
    clear hc hps hcY hfY hg2 hrow2
    go_wp2
    have hB3 := ((((((((hB4.set_ 0 (.int .i64 6)).set_ 1 (.bool false)).set_ 2 (.int .i64 0)).set_ 3 (.int .i64 0)).set_ 4 (.string ByteArray.empty)).set_ 5 (.int .i64 σ.texts.length)).set_ 6 (.int .i64 0)).set_ 7 (.int .i64 n))
    refine bodyPost_ret (res_ct rfl rfl hB3 Try.underlying27 (by kernel_rfl)) rfl ⟨rfl, ?_⟩
    have ho : Only w2 w.heap.size _ := (((((((((Only.refl_ w2 w.heap.size).set_ 0 (.int .i64 6)).set_ 1 (.bool false)).set_ 2 (.int .i64 0)).set_ 3 (.int .i64 0)).set_ 4 (.string ByteArray.empty)).set_ 5 (.int .i64 σ.texts.length)).set_ 6 (.int .i64 0)).set_ 7 (.int .i64 n))
    have e2 : (σ.texts ++ [List.replicate n (0 : UInt8)]).set σ.texts.length bs = σ.texts ++ [bs] := by simp
    have s4 := s3.only ho (Roles.none_of hn1)
    simp only [e2] at s4
    exact ⟨_, ρ', s4, (((Moves.ext_left ((Ext.rfl_ w).alloc_ _) hm).ext_right hy).trans_ hm2).only ho (.inl (Nat.le_refl _))⟩

theorem Text_no (s : Sto w p σ h ρ) {A : Option Addr} {c n : Nat} (hno : 65535 < n ∨ σ.free < 1 + ((n : Int) + 7) / 8) (hmax : n ≤ 140737488351232) :
    Calls Try.prog 25 #[.pointer (some ⟨p, 0, none⟩), .slice A n c] w fun e w' =>
      e = .returned (.tuple #[zeroO, .int .i64 (takeE σ.free n 65535 (1 + ((n : Int) + 7) / 8))]) ∧ Ext w w' := by
  have he : (takeE σ.free n 65535 (1 + ((n : Int) + 7) / 8) == 0) = false := by unfold takeE; rw [if_neg (by omega)]; split; rfl; split; rfl; omega
  have hne : ¬ takeE σ.free n 65535 (1 + ((n : Int) + 7) / 8) = 0 := by simpa using he
  go_enter Try.func25, Try.ntmps25
  go_upto_region 4 with (
    go_at_call 72
    refine (string_no (s.ext ((Ext.rfl_ w).alloc_ _)) n (by omega) (by omega)).mono ?_
    rintro e w1 ⟨rfl, hx1⟩)
  have hB0 : Blk w1 w.heap.size 27 [.int .i64 0, .bool false, .int .i64 0, .int .i64 0, .string ByteArray.empty, .int .i64 0, .int .i64 0, .int .i64 0] := (Blk.new w _ _).ext hx1
  generalize hY : World.alloc w1 _ = Y
  obtain ⟨hy, hcY, hfY, hzY, hbY⟩ := boxed hY
  clear hY
  have hB4 := hB0.ext hy
  have hc4 := hB4.cell
  have hf4 := hB4.frozen
  have hne46 : w.heap.size < w1.heap.size := hB0.lt
  go_wp2
  have hB3 := ((((((((hB4.set_ 0 (.int .i64 0)).set_ 1 (.bool false)).set_ 2 (.int .i64 0)).set_ 3 (.int .i64 0)).set_ 4 (.string ByteArray.empty)).set_ 5 (.int .i64 0)).set_ 6 (.int .i64 0)).set_ 7 (.int .i64 0))
  refine bodyPost_ret (res_ct rfl rfl hB3 Try.underlying27 (by kernel_rfl)) rfl ⟨rfl, ?_⟩
  have hx : Ext w Y := (((Ext.rfl_ w).alloc_ _).trans_ hx1).trans_ hy
  exact ((((((((hx.set_ (p := ⟨w.heap.size, 0, none⟩) (Nat.le_refl _) _).set_ (p := ⟨w.heap.size, 1, none⟩) (Nat.le_refl _) _).set_ (p := ⟨w.heap.size, 2, none⟩) (Nat.le_refl _) _).set_ (p := ⟨w.heap.size, 3, none⟩) (Nat.le_refl _) _).set_ (p := ⟨w.heap.size, 4, none⟩) (Nat.le_refl _) _).set_ (p := ⟨w.heap.size, 5, none⟩) (Nat.le_refl _) _).set_ (p := ⟨w.heap.size, 6, none⟩) (Nat.le_refl _) _).set_ (p := ⟨w.heap.size, 7, none⟩) (Nat.le_refl _) _)
end
end Go.Proofs.Ythhckledkhcfeaa
namespace Go.Proofs.Ythhckledkhcfeaa
open Go.RowKit

section
variable {P : Program} {w : World}
theorem run_app (t ty e : TypeId) (i : TypeInfo) (z : Value) (sz bytes : Nat) (ht : P.underlying t = some (.slice e)) (hi : P.info? e = some i) (hz : i.zero = some z)
    (hsize : i.size = sz) (hby : i.bytes = bytes) (hzs : z.cells.size = sz) (hsz : 0 < sz) {v : Sl} {xs : List Value} (hrow : Row w e sz v xs)
    {A : Option Addr} {n : Nat} (c : Nat) {news : List Value} (hv : View w sz A n news) (h1 : ∀ u ∈ news, u.oneCell' = true) (h63 : v.n + n ≤ maxLen) (hbytes : (v.n + n) * bytes ≤ 140737488355328) :
    ∃ (v' : Sl) (w' : World), (Builtin.append_ #[t, t] ty #[.slice v.a v.n v.c, .slice A n c]).run P w = .ok (.slice v'.a v'.n v'.c) w' ∧ Row w' e sz v' (xs ++ news) ∧ v'.n = v.n + n ∧ w.grownBy w' v.blk ∧ (v'.blk = v.blk ∨ v'.blk = some w.heap.size) := by
  cases A with
  | none =>
    have hn : news = [] := by
      cases hq : news with
      | nil => rfl
      | cons a l => obtain ⟨_, _, h, _⟩ := hv.2 (by rw [hq]; simp); cases h
    have hn0 : n = 0 := by
      have := hv.1
      rw [hn] at this
      rcases Nat.eq_zero_or_pos n with h | h
      · exact h
      · have := Nat.mul_pos h hsz; simp at *; omega
    subst hn; subst hn0
    refine ⟨v, w, ?_, by simpa using hrow, rfl, World.grownBy.refl _ _, .inl rfl⟩
    rcases hrow.2 with ⟨hq, h0⟩ | ⟨g, cap, cur, hq, _, _, hnc, _⟩
    · injection hq with q1 q2 q3
      rw [q1, q2, q3]
      simp [Builtin.append_, run_underlying ht, sizeOf, typeInfo, hi, Builtin.lenOf, Builtin.firstCells]
    · injection hq with q1 q2 q3
      rw [q1, q3]
      simp [Builtin.append_, run_underlying ht, sizeOf, typeInfo, hi, Builtin.lenOf, Builtin.firstCells, hnc, storeCells]
  | some ad =>
    have hcells : ∀ j u, news[j]? = some u → w.cell? (ad.add j) = some u := by
      intro j u hu
      obtain ⟨g, o, h, _, hc⟩ := hv.2 (by have := getElem?_lt' hu; omega)
      injection h with h
      subst h
      rw [Addr.add_lit]
      exact hc j u hu
    obtain ⟨v', w', hrun, h2, h3, _, h5⟩ := run_append_own_at (P := P) w 0 t ty e i z sz bytes ht hi hz hsize hby hzs hsz _ v.n xs hrow ad n c news hv.1 hcells h1 h63 hbytes (Nat.zero_le _)
    have hblk : Value.ownBlock (.slice v.a v.n v.c) = v.blk := by obtain ⟨a, _, _⟩ := v; cases a <;> rfl
    rw [hblk] at h3 h5
    rcases h2.2 with ⟨rfl, h0⟩ | ⟨g, cap, cur, rfl, _⟩
    · exact ⟨⟨none, 0, 0⟩, w', hrun, by rw [h0] at h2; exact h2, h0.symm, h3, h5⟩
    · exact ⟨⟨some ⟨g, 0, none⟩, v.n + n, cap⟩, w', hrun, h2, rfl, h3, h5⟩
where
  getElem?_lt' {α : Type} {l : List α} {b : α} {i : Nat} (h : l[i]? = some b) : i < l.length := (List.getElem?_eq_some_iff.1 h).1

theorem wp_app {o : Oper} {a : Act} {K : Act → World → Prop} {Q : Exit → Act → World → Prop} (s x : Operand) (t : TypeId) (ho : o.op = .call { callee := .builtin .append, args := #[s, x], argTypes := #[t, t] })
    (e : TypeId) (i : TypeInfo) (z : Value) (sz bytes : Nat) (ht : P.underlying t = some (.slice e)) (hi : P.info? e = some i) (hz : i.zero = some z)
    (hsize : i.size = sz) (hby : i.bytes = bytes) (hzs : z.cells.size = sz) (hsz : 0 < sz) (v : Sl) (hs : a.eval s = .slice v.a v.n v.c) {xs : List Value} (hrow : Row w e sz v xs)
    {A : Option Addr} {n c : Nat} (hx : a.eval x = .slice A n c) {news : List Value} (hv : View w sz A n news) (h1 : ∀ u ∈ news, u.oneCell' = true) (h63 : v.n + n ≤ maxLen) (hbytes : (v.n + n) * bytes ≤ 140737488355328)
    (h : ∀ (v' : Sl) (w' : World), Row w' e sz v' (xs ++ news) → Hid (v'.n = v.n + n) → w.grownBy w' v.blk → (v'.blk = v.blk ∨ v'.blk = some w.heap.size) → K (a.put o.dst (.slice v'.a v'.n v'.c)) w') : o.wp P a w K Q := by
  obtain ⟨v', w', hr, h2, h3, h4, h5⟩ := run_app (P := P) t o.type e i z sz bytes ht hi hz hsize hby hzs hsz hrow c hv h1 h63 hbytes
  unfold Oper.wp execOp
  simp only [ho, resolve, invoke, builtin, Sem.run_bind, Sem.run_pure, Result.andThen_ok, List.map_toArray, List.map_cons, List.map_nil, hs, hx, hr]
  exact h v' w' h2 h3 h4 h5
theorem wpList_app {ops : Array Oper} {rest : List Oper} {o : Oper} {a : Act} {Q : Exit → Act → World → Prop} (hgd : o.guard = none) (s x : Operand) (t : TypeId) (ho : o.op = .call { callee := .builtin .append, args := #[s, x], argTypes := #[t, t] })
    (e : TypeId) (i : TypeInfo) (z : Value) (sz bytes : Nat) (ht : P.underlying t = some (.slice e)) (hi : P.info? e = some i) (hz : i.zero = some z)
    (hsize : i.size = sz) (hby : i.bytes = bytes) (hzs : z.cells.size = sz) (hsz : 0 < sz) (v : Sl) (hs : a.eval s = .slice v.a v.n v.c) {xs : List Value} (hrow : Row w e sz v xs)
    {A : Option Addr} {n c : Nat} (hx : a.eval x = .slice A n c) {news : List Value} (hv : View w sz A n news) (h1 : ∀ u ∈ news, u.oneCell' = true) (h63 : v.n + n ≤ maxLen) (hbytes : (v.n + n) * bytes ≤ 140737488355328)
    (h : ∀ (v' : Sl) (w' : World), Row w' e sz v' (xs ++ news) → Hid (v'.n = v.n + n) → w.grownBy w' v.blk → (v'.blk = v.blk ∨ v'.blk = some w.heap.size) → wpList P ops Q rest (a.put o.dst (.slice v'.a v'.n v'.c)) w') : wpList P ops Q (o :: rest) a w :=
  wpList_plain hgd fun _ hK => wp_app s x t ho e i z sz bytes ht hi hz hsize hby hzs hsz v hs hrow hx hv h1 h63 hbytes fun v' w' h2 h3 h4 h5 => hK _ _ (h v' w' h2 h3 h4 h5)
theorem step_app {ops : Array Oper} {E : Prop} {o : Oper} {a : Act} {K : Act → World → Prop} {Q : Exit → Act → World → Prop} (hgd : o.guard = none) (s x : Operand) (t : TypeId) (ho : o.op = .call { callee := .builtin .append, args := #[s, x], argTypes := #[t, t] })
    (e : TypeId) (i : TypeInfo) (z : Value) (sz bytes : Nat) (ht : P.underlying t = some (.slice e)) (hi : P.info? e = some i) (hz : i.zero = some z)
    (hsize : i.size = sz) (hby : i.bytes = bytes) (hzs : z.cells.size = sz) (hsz : 0 < sz) (v : Sl) (hs : a.eval s = .slice v.a v.n v.c) {xs : List Value} (hrow : Row w e sz v xs)
    {A : Option Addr} {n c : Nat} (hx : a.eval x = .slice A n c) {news : List Value} (hv : View w sz A n news) (h1 : ∀ u ∈ news, u.oneCell' = true) (h63 : v.n + n ≤ maxLen) (hbytes : (v.n + n) * bytes ≤ 140737488355328)
    (h : ∀ (v' : Sl) (w' : World), Row w' e sz v' (xs ++ news) → Hid (v'.n = v.n + n) → w.grownBy w' v.blk → (v'.blk = v.blk ∨ v'.blk = some w.heap.size) → K (a.put o.dst (.slice v'.a v'.n v'.c)) w') :
    if Region.wanted o (yielded ops a.tmps) = true then Oper.wp P o a w K Q else E := by
  rw [if_pos (by simp [Region.wanted, hgd])]
  exact wp_app s x t ho e i z sz bytes ht hi hz hsize hby hzs hsz v hs hrow hx hv h1 h63 hbytes h
end

/-! ### A struct of many cells, loaded whole -/
section
variable {P : Program} {w : World} {o : Oper} {a : Act} {g off : Nat} {ty : TypeId} {cs : List Value} {fs : Array Field}
theorem run_load_at (hc : ∀ j u, cs[j]? = some u → w.cell? ⟨g, off + j, none⟩ = some u) (hu : P.underlying ty = some (.struct fs)) (hi : (P.info? ty).map (·.size) = some cs.length) :
    (loadVar ty ⟨g, off, none⟩).run P w = .ok (.agg cs.toArray) w := by
  have hl : (loadCells ⟨g, off, none⟩ cs.length).run P w = .ok cs.toArray w :=
    run_loadCells_list (P := P) w ⟨g, off, none⟩ cs (fun j v hv => by rw [Addr.add_lit]; exact hc j v hv)
  cases hq : P.info? ty with
  | none => simp [hq] at hi
  | some i =>
    have hs : i.size = cs.length := by simpa [hq] using hi
    have hagg : (isAgg ty).run P w = .ok true w := by
      unfold isAgg
      rw [Sem.run_bind, run_underlying hu w]
      simp
    simp [loadVar, Sem.run_bind, hagg, sizeOf, typeInfo, hq, hs, hl]
theorem exec_load_at (x : Operand) (ho : o.op = .load ty x) (hx : a.eval x = .pointer (some ⟨g, off, none⟩)) (hc : ∀ j u, cs[j]? = some u → w.cell? ⟨g, off + j, none⟩ = some u)
    (hu : P.underlying ty = some (.struct fs)) (hi : (P.info? ty).map (·.size) = some cs.length) : (execOp a.eval o).run P w = .ok (.value (.agg cs.toArray)) w := by
  unfold execOp
  simp only [ho, hx, Instr.loadAt, Instr.sureAddr, Sem.run_bind, Sem.run_pure, Result.andThen_ok, run_load_at hc hu hi]
theorem wpList_load_at {ops : Array Oper} {rest : List Oper} {Q : Exit → Act → World → Prop} (hgd : o.guard = none) (x : Operand) (ho : o.op = .load ty x) (hx : a.eval x = .pointer (some ⟨g, off, none⟩))
    (hc : ∀ j u, cs[j]? = some u → w.cell? ⟨g, off + j, none⟩ = some u) (hu : P.underlying ty = some (.struct fs)) (hi : (P.info? ty).map (·.size) = some cs.length)
    (h : wpList P ops Q rest (a.put o.dst (.agg cs.toArray)) w) : wpList P ops Q (o :: rest) a w :=
  wpList_plain hgd fun K hK => by
    unfold Oper.wp
    rw [exec_load_at x ho hx hc hu hi]
    exact hK _ _ h
theorem quiet_load_at {C : World → Prop} {K : Act → Prop} (x : Operand) (ho : o.op = .load ty x) (hx : a.eval x = .pointer (some ⟨g, off, none⟩))
    (hc : ∀ w, C w → ∀ j u, cs[j]? = some u → w.cell? ⟨g, off + j, none⟩ = some u) (hu : P.underlying ty = some (.struct fs)) (hi : (P.info? ty).map (·.size) = some cs.length)
    (h : K (a.put o.dst (.agg cs.toArray))) : o.quiet P a C K :=
  ⟨_, fun w hw => by unfold Oper.quietAt; rw [exec_load_at x ho hx (hc w hw) hu hi]; exact ⟨rfl, rfl⟩, h⟩
end
theorem Blk.cells {w : World} {g : Nat} {t : TypeId} {cs : List Value} (h : Blk w g t cs) : ∀ j u, cs[j]? = some u → w.cell? ⟨g, 0 + j, none⟩ = some u := fun j u hu => by rw [Nat.zero_add, h.cell j]; exact hu

/-- The cells of a block, as what a slice over it shows. -/
theorem View.of_blk {w : World} {g : Nat} {t : TypeId} {cs : List Value} {sz n : Nat} (hb : Blk w g t cs) (hl : cs.length = n * sz) : View w sz (some ⟨g, 0, none⟩) n cs :=
  ⟨hl, fun _ => ⟨g, 0, rfl, hb.lt, fun j u hu => by rw [Nat.zero_add, hb.cell j]; exact hu⟩⟩
/-- A literal: '[]T{..}'. -/
theorem Row.lit {w : World} {g : Nat} {e : TypeId} {cs : List Value} {sz n : Nat} (hb : Blk w g e cs) (hl : cs.length = n * sz) (hn : n ≤ maxLen) : Row w e sz ⟨some ⟨g, 0, none⟩, n, n⟩ cs :=
  ⟨hl, .inr ⟨g, n, cs.toArray, rfl, Nat.zero_le _, hb, Nat.le_refl _, hn, by simpa using hl, by simpa using List.take_of_length_le (Nat.le_of_eq hl)⟩⟩
/-- A new row, all of it new memory. -/
def Fresh (w w' : World) (e : TypeId) (sz : Nat) (s : Sl) (xs : List Value) : Prop := Row w' e sz s xs ∧ (∀ g, s.blk = some g → w.heap.size ≤ g) ∧ Ext w w'
end Go.Proofs.Ythhckledkhcfeaa
