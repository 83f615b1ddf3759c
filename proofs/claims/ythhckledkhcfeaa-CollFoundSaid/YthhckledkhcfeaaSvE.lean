/- The saves: Restore, nothing being held. -/
import Derived.Test.YthhckledkhcfeaaSvC
import Derived.Test.YthhckledkhcfeaaBkA
namespace Go.Proofs.Ythhckledkhcfeaa
open Go.RowKit
section
variable {w w' : World} {v p : Nat} {σ σ' : St} {h : Hd} {ρ : Roles} {t : Sl} {l : List (Int × Int)} {last : Int}
set_option maxRecDepth 100000 in
set_option maxHeartbeats 1000000 in
theorem restore_ok (s : Sv w v p σ h ρ t l last) {i : Nat} {n mark : Int} (hi : l[i]? = some (n, mark)) (hp : placeOf l n = i) (x : Bool) (ac : Int) (nm : ByteArray) (rf fr ln : Int)
    (hback : ∀ (W : World) (h' : Hd) (ρ' : Roles), Sto W p σ h' ρ' → Calls Try.prog 71 #[.pointer (some ⟨p, 0, none⟩), .int .i64 mark] W fun e w' => e = .returned (.int .i64 0) ∧ StoTo W w' p ρ' σ') :
    Calls Try.prog 21 #[.pointer (some ⟨v, 0, none⟩), .agg #[.int .i64 10, .bool x, .int .i64 ac, .int .i64 n, .string nm, .int .i64 rf, .int .i64 fr, .int .i64 ln], .slice none 0 0] w fun e w' =>
      e = .returned (.int .i64 0) ∧ SvTo w w' v p (svOwn v t ρ) σ' (l.take i) last := by
  obtain ⟨iL, hiL, -⟩ := info_parts info_state
  have hil := (List.getElem?_eq_some_iff.1 hi).1
  have hBk := Lib.hid hback
  have hHi := Lib.hid hi
  have hHp := Lib.hid hp
  have htn := s.sav.n
  have hlb : i < t.n := by rw [htn]; exact hil
  have hHl := Lib.hid hil
  have hHt := Lib.hid htn
  have hcap := s.sav.row.cap_le
  simp only [maxLen] at hcap
  clear hback hi hp hil htn
  go_enter Try.func21, Try.ntmps21
  go_upto_region 1 with fail
  generalize hX : World.alloc (World.alloc w _) _ = X
  have hB3 := (Blk.new w 37 [.pointer (some ⟨v, 0, none⟩)]).alloc (.cells #[.int .i64 10, .bool x, .int .i64 ac, .int .i64 n, .string nm, .int .i64 rf, .int .i64 fr, .int .i64 ln] 27)
  have hB4 := Blk.new1 w (.cells #[.pointer (some ⟨v, 0, none⟩)] 37) 27 [.int .i64 10, .bool x, .int .i64 ac, .int .i64 n, .string nm, .int .i64 rf, .int .i64 fr, .int .i64 ln]
  have hx : Ext w X := by rw [← hX]; exact ((Ext.rfl_ w).alloc_ _).alloc_ _
  rw [hX] at hB3 hB4
  clear hX
  have hc3 := hB3.cell
  have hc4 := hB4.cell
  have s1 := s.ext hx
  go_upto_region 2 with (go_at_call 67; refine (at_save s1.sav 10 x ac n nm rf fr ln rfl).mono ?_; rintro e w1 ⟨rfl, hx1⟩)
  rw [hHp.out]
  have s2 := s1.ext hx1
  have hC3 := hB3.ext hx1
  have hC4 := hB4.ext hx1
  have hc3' := hC3.cell
  have hc4' := hC4.cell
  clear hc3 hc4
  obtain ⟨g, hga, hgb⟩ := s2.sav.row.pos (show 0 < t.n by omega)
  have c1 : w1.cell? ⟨g, i * 2 + 1, none⟩ = some (.int .i64 mark) := by
    have := s2.sav.row.item length_sv hga hHi.out (show 1 < 2 by omega)
    simpa [svCells] using this
  have hmain := s2.sav.blk
  rw [hga] at hmain
  have hcv := hmain.cell
  go_wp2_with (go_at_call 65; refine (none_c s2.sav).mono ?_; rintro e w2 ⟨rfl, rfl⟩)
  generalize hY : World.alloc w1 _ = Y
  obtain ⟨hy, hcY, hfY, hzY, hbY⟩ := boxed hY
  clear hY hcY hfY hcv hmain c1 hc3' hc4' hga hgb
  have s3 := s2.ext hy
  have hD3 := hC3.ext hy
  go_loopg [34] 0 (fun k s34 wr => wr = Y ∧ s34 = .int .i64 0)
  case atStart => exact ⟨rfl, rfl⟩
  case round =>
    obtain ⟨hwr, hs34⟩ := hrel
    subst hwr
    subst hs34
    have hcv := s3.sav.blk.cell
    have hc3 := hD3.cell
    have hcm := hbY.cell
    have hvl := s3.sav.blk.lt
    have hl3 := hD3.lt
    have f3 := fun (E : ExtOf wr) j => (E.cells hl3 j).trans (hc3 j)
    have fv := fun (E : ExtOf wr) j => (E.cells hvl j).trans (hcv j)
    have fz := fun (E : ExtOf wr) => (s3.sav.blk.ext E.h).frozen
    have kC := run_cut s3.sav.row Try.underlying126 ⟨iL, hiL⟩ (m := i) (by omega)
    go_upto_region 15 with fail
    clear hcv hc3 hcm
    refine wp_region_ext_tail 9 (by kernel_rfl) (by kernel_rfl) ?_
    simp only [List.take_succ_cons, List.take_zero, List.drop_succ_cons, List.drop_zero]
    repeat (go_big_quiet_step (fail))
    refine wpQuiet_nil fun E => ?_
    have kf := fz E
    have kc := fv E
    go_upto_region 16 with fail
    have hvw : v < w.heap.size := s.sav.blk.lt
    have hww := (hx.trans_ hx1).size
    have hV := (s3.sav.blk.ext E.h).set_ 1 (.slice t.a i t.c)
    have hR := ((s3.sav.row.ext E.h).cut (m := i) (by omega)).far (p := ⟨v, 1, none⟩) (fun hb => s.vt hb) (.slice t.a i t.c)
    have hS := (s3.sto.ext E.h).only ((Only.refl_ E.w v).set_ 1 (.slice t.a i t.c)) s.nv
    have hE3 := (hD3.ext E.h).far (p := ⟨v, 1, none⟩) (by show w.heap.size ≠ v; omega) (.slice t.a i t.c)
    have hEm := (hbY.ext E.h).far (p := ⟨v, 1, none⟩) (by show w1.heap.size ≠ v; omega) (.slice t.a i t.c)
    have hm1 : Moves w (E.w.setCell ⟨v, 1, none⟩ (.slice t.a i t.c)) (svOwn v t ρ) (svOwn v t ρ) := Moves.ext_left (((hx.trans_ hx1).trans_ hy).trans_ E.h) (Moves.set_ (.inr (.inl rfl)) _)
    clear f3 fv fz kf kc kC
    generalize E.w.setCell ⟨v, 1, none⟩ (.slice t.a i t.c) = Z at hV hR hS hE3 hEm hm1
    have g3 := fun (E : ExtOf Z) j => (E.cells hE3.lt j).trans (hE3.cell j)
    have gv := fun (E : ExtOf Z) j => (E.cells hV.lt j).trans (hV.cell j)
    have gm := fun (E : ExtOf Z) j => (E.cells hEm.lt j).trans (hEm.cell j)
    refine wp_region_ext_tail 5 (by kernel_rfl) (by kernel_rfl) ?_
    simp only [List.take_succ_cons, List.take_zero, List.drop_succ_cons, List.drop_zero]
    repeat (go_big_quiet_step (fail))
    refine wpQuiet_nil fun E2 => ?_
    go_wp2_with (go_at_call 71; refine (hBk.out _ _ _ (hS.ext E2.h)).mono ?_; rintro e w3 ⟨rfl, h3, ρ3, s4, hm4⟩)
    go_ret
    refine ⟨rfl, h3, ρ3, ⟨t.a, i, t.c⟩, ⟨s4, ⟨?_, ?_⟩, ?_, ?_, s.vt⟩, ?_⟩
    · exact (hV.ext E2.h).moves hm4 (Roles.not_own s.nv)
    · have := (hR.ext E2.h).moves hm4 (fun g hg => Roles.not_own (s.nt g hg))
      rw [take_flat _ 2 length_sv] at this
      exact this
    · exact Roles.none_of (hm4.apart (Roles.not_own s.nv) (hV.ext E2.h).lt)
    · intro g hg
      exact Roles.none_of (hm4.apart (Roles.not_own (s.nt g hg)) ((hR.ext E2.h).blk_lt hg))
    · have m1 : Moves Z w3 (svOwn v t ρ) (svOwn v ⟨t.a, i, t.c⟩ ρ3) := (Moves.ext_left E2.h hm4).frame (fun b hb => .inl hb) (fun b hb => by
        rcases hb with hb | hb | hb
        · exact .inl hb
        · exact .inr (.inl (.inr (.inl hb)))
        · exact .inr (.inl (.inr (.inr hb))))
      exact hm1.trans_ m1
end
end Go.Proofs.Ythhckledkhcfeaa
