/- The store's functions, part K: Key. -/
import Derived.Test.YthhckledkhcfeaaStJ
namespace Go.Proofs.Ythhckledkhcfeaa
open Go.RowKit
theorem run_string {w : World} {A : Option Addr} {n : Nat} (c : Nat) {bs : List UInt8} (hv : View w 1 A n (byteCells bs)) :
    (convert 45 9 (.slice A n c)).run Try.prog w = .ok (.string ⟨bs.toArray⟩) w := by
  have hl : bs.length = n := by have := hv.1; simp [byteCells] at this; omega
  subst hl
  rcases Nat.eq_zero_or_pos bs.length with h0 | h0
  · have hb : bs = [] := List.eq_nil_of_length_eq_zero h0
    subst hb
    rw [run_convert_bytes_string w 45 9 5 _ _ c Try.underlying45 Try.underlying5 Try.underlying9]
    cases A <;> simp [Conv.bytesToString, loadCells]
    all_goals rfl
  · obtain ⟨g, o, rfl, -, hj⟩ := hv.2 (by simp [byteCells]; omega)
    refine run_convert_bytes_back (P := Try.prog) w 45 9 5 ⟨g, o, none⟩ c bs Try.underlying45 Try.underlying5 Try.underlying9 (fun j hjl => ?_)
    have := hj j (.int .u8 (bs[j].toNat : Int)) (by simp [byteCells, hjl])
    rw [Addr.add_lit]
    exact this
def Ob.bare (k : Ob) : Ob := { k with x := false, ac := 0 }
/-- The bytes that a string's part shows. -/
def St.shows (σ : St) (o : Ob) : List UInt8 := ((σ.texts.getD o.rf.toNat []).drop o.fr.toNat).take o.ln.toNat
/-- What stands for an object as a key, and the error. -/
def St.key (σ : St) (k : Ob) : Ob × Int :=
  if σ.valid k = false then (Ob.null, 21) else if k.k = 0 then (Ob.null, 16)
  else if k.k = 6 then (if 127 < k.ln then (Ob.null, 9) else (⟨5, false, 0, 0, ⟨(σ.shows k).toArray⟩, 0, 0, 0⟩, 0))
  else if k.k = 2 ∧ k.n.tmod 65536 = 0 then (⟨1, false, 0, k.n.tdiv 65536, ByteArray.empty, 0, 0, 0⟩, 0)
  else (k.bare, 0)
section
variable {w : World} {p : Nat} {σ : St} {h : Hd} {ρ : Roles}
theorem key_any (s : Sto w p σ h ρ) (k : Int) (x : Bool) (ac n : Int) (nm : ByteArray) (rf fr ln : Int) (hn : I64 n) :
    Calls Try.prog 86 #[.pointer (some ⟨p, 0, none⟩), .agg #[.int .i64 k, .bool x, .int .i64 ac, .int .i64 n, .string nm, .int .i64 rf, .int .i64 fr, .int .i64 ln]] w fun e w' =>
      e = .returned (.tuple #[.agg (σ.key ⟨k, x, ac, n, nm, rf, fr, ln⟩).1.cells.toArray, .int .i64 (σ.key ⟨k, x, ac, n, nm, rf, fr, ln⟩).2]) ∧ Ext w w' := by
  obtain ⟨hn1, hn2⟩ := hn
  have hk0 := fun b hb => valid_b s (b := b) k x ac n nm rf fr ln hb
  cases hv : σ.valid ⟨k, x, ac, n, nm, rf, fr, ln⟩ with
  | false =>
    have e : σ.key ⟨k, x, ac, n, nm, rf, fr, ln⟩ = (Ob.null, 21) := by unfold St.key; rw [if_pos hv]
    rw [e]
    have hV := Lib.hid hv
    clear e hv hk0
    go_enter Try.func86, Try.ntmps86
    go_upto_region 1 with fail
    generalize hX : World.alloc (World.alloc w _) _ = X
    have hB3 : Blk X w.heap.size 27 [.int .i64 k, .bool x, .int .i64 ac, .int .i64 n, .string nm, .int .i64 rf, .int .i64 fr, .int .i64 ln] := by rw [← hX]; exact (Blk.new w 27 _).alloc _
    have hB4 : Blk X (w.heap.size + 1) 27 [.int .i64 0, .bool false, .int .i64 0, .int .i64 0, .string ByteArray.empty, .int .i64 0, .int .i64 0, .int .i64 0] := by rw [← hX]; exact Blk.new1 w _ 27 _
    have hx : Ext w X := by rw [← hX]; exact ((Ext.rfl_ w).alloc_ _).alloc_ _
    clear hX
    have hc3 := hB3.cell
    go_upto_region 2 with (go_at_call 46; refine (valid_b (b := false) (s.ext hx) _ _ _ _ _ _ _ _ hV.out).mono ?_; rintro e w1 ⟨rfl, hx1⟩)
    have hB4' := hB4.ext hx1
    have hc4 := hB4'.cell
    have hf4 := hB4'.frozen
    clear hc3
    go_wp2
    refine bodyPost_ret (res_ct rfl rfl (set8_blk hB4' _ _ _ _ _ _ _ _) Try.underlying27 (by kernel_rfl)) rfl ⟨rfl, ?_⟩
    exact (hx.trans_ hx1).only (set8_only _ _ _ _ _ _ _ _ _ _) (by omega)
  | true =>
    have hV := Lib.hid hv
    clear hk0
    go_enter Try.func86, Try.ntmps86
    go_upto_region 1 with fail
    generalize hX : World.alloc (World.alloc w _) _ = X
    have hB3 : Blk X w.heap.size 27 [.int .i64 k, .bool x, .int .i64 ac, .int .i64 n, .string nm, .int .i64 rf, .int .i64 fr, .int .i64 ln] := by rw [← hX]; exact (Blk.new w 27 _).alloc _
    have hB4 : Blk X (w.heap.size + 1) 27 [.int .i64 0, .bool false, .int .i64 0, .int .i64 0, .string ByteArray.empty, .int .i64 0, .int .i64 0, .int .i64 0] := by rw [← hX]; exact Blk.new1 w _ 27 _
    have hx : Ext w X := by rw [← hX]; exact ((Ext.rfl_ w).alloc_ _).alloc_ _
    clear hX
    have hc3 := hB3.cell
    clear hv
    go_upto_region 3 with (go_at_call 46; refine (valid_b (b := true) (s.ext hx) _ _ _ _ _ _ _ _ hV.out).mono ?_; rintro e w1 ⟨rfl, hx1⟩)
    clear hc3
    have hc3 := (hB3.ext hx1).cell
    have hf3 := (hB3.ext hx1).frozen
    go_upto_region 4 with fail
    have hB3z := ((hB3.ext hx1).set_ 1 (.bool false)).set_ 2 (.int .i64 0)
    have hB4z := ((hB4.ext hx1).far (p := ⟨w.heap.size, 1, none⟩) (by show w.heap.size + 1 ≠ w.heap.size; omega) (.bool false)).far (p := ⟨w.heap.size, 2, none⟩) (by show w.heap.size + 1 ≠ w.heap.size; omega) (.int .i64 0)
    have hZ : Ext w ((w1.setCell ⟨w.heap.size, 1, none⟩ (.bool false)).setCell ⟨w.heap.size, 2, none⟩ (.int .i64 0)) := ((hx.trans_ hx1).set_ (p := ⟨w.heap.size, 1, none⟩) (Nat.le_refl _) _).set_ (p := ⟨w.heap.size, 2, none⟩) (Nat.le_refl _) _
    clear hc3 hf3
    generalize World.setCell _ _ _ = Z at hB3z hB4z hZ
    simp only [List.set_cons_succ, List.set_cons_zero] at hB3z
    have hc := hB3z.cell
    have hd := hB4z.cell
    have hf := hB4z.frozen
    by_cases k0 : k = 0
    · subst k0
      have e : σ.key ⟨0, x, ac, n, nm, rf, fr, ln⟩ = (Ob.null, 16) := by unfold St.key; rw [if_neg (by rw [hV.out]; simp), if_pos rfl]
      have hE := Lib.hid e
      clear e
      go_wp2
      refine bodyPost_ret (res_ct rfl rfl (set8_blk hB4z _ _ _ _ _ _ _ _) Try.underlying27 (by kernel_rfl)) rfl ⟨by rw [hE.out]; rfl, ?_⟩
      exact hZ.only (set8_only _ _ _ _ _ _ _ _ _ _) (by omega)
    · by_cases k6 : k = 6
      · subst k6
        obtain ⟨r, f, m, b, -, hr, hfr, hm, hb, hfm⟩ := isA_str_inv (show σ.isA ⟨6, x, ac, n, nm, rf, fr, ln⟩ 6 = true by unfold St.isA; rw [hV.out]; rfl)
        dsimp only at hr hfr hm
        subst hr
        subst hfr
        subst hm
        by_cases hl : 127 < (m : Int)
        · have e : σ.key ⟨6, x, ac, n, nm, r, f, m⟩ = (Ob.null, 9) := by unfold St.key; rw [if_neg (by rw [hV.out]; simp), if_neg (by simp), if_pos rfl, if_pos hl]
          have hE := Lib.hid e
          clear e
          go_wp2
          refine bodyPost_ret (res_ct rfl rfl (set8_blk hB4z _ _ _ _ _ _ _ _) Try.underlying27 (by kernel_rfl)) rfl ⟨by rw [hE.out]; rfl, ?_⟩
          exact hZ.only (set8_only _ _ _ _ _ _ _ _ _ _) (by omega)
        · have hsh : σ.shows ⟨6, x, ac, n, nm, r, f, m⟩ = (b.drop f).take m := by unfold St.shows; simp [List.getD, hb]
          have e : σ.key ⟨6, x, ac, n, nm, r, f, m⟩ = (⟨5, false, 0, 0, ⟨((b.drop f).take m).toArray⟩, 0, 0, 0⟩, 0) := by unfold St.key; rw [if_neg (by rw [hV.out]; simp), if_neg (by simp), if_pos rfl, if_neg hl, hsh]
          have hE := Lib.hid e
          obtain ⟨t, ht⟩ : ∃ t, h.ts[r]? = some t := ⟨_, List.getElem?_eq_getElem (by have := s.nts; have := getElem?_lt hb; omega)⟩
          have htn : t.n = b.length := by have := (s.ts r t b ht hb).1.len; simp [byteCells] at this; omega
          have hvw := View.part (f := f) (m := m) (s.ts r t b ht hb).1 (by omega)
          rw [part_bytes] at hvw
          have hHb := Lib.hid hb
          have hHt := Lib.hid ht
          have hHv := Lib.hid hvw
          have hlf : (m : Int) ≤ 127 := by omega
          clear e hsh hb ht hvw hl htn
          go_upto_region 10 with fail
          have kb : ∀ W, Ext w W → (convert 45 9 (.slice (cutA t.a t.c f 1) m (t.c - f))).run Try.prog W = .ok (.string ⟨((b.drop f).take m).toArray⟩) W := fun W hW => run_string _ (hHv.out.ext hW)
          have hKb := Lib.hid kb
          clear kb hd hf
          go_wp2_with (go_at_call 74; refine (text_c (s.ext hZ) 6 false 0 n nm r f m t b hHt.out hHb.out hfm).mono ?_; rintro e w2 ⟨rfl, hx2⟩; have kb2 := hKb.out w2 (hZ.trans_ hx2); have hd := (hB4z.ext hx2).cell; have hf := (hB4z.ext hx2).frozen)
          refine bodyPost_ret (res_ct rfl rfl (set8_blk (hB4z.ext hx2) _ _ _ _ _ _ _ _) Try.underlying27 (by kernel_rfl)) rfl ⟨by rw [hE.out]; rfl, ?_⟩
          exact (hZ.trans_ hx2).only (set8_only _ _ _ _ _ _ _ _ _ _) (by omega)
      · by_cases hdv : k = 2 ∧ n.tmod 65536 = 0
        · obtain ⟨rfl, hmod⟩ := hdv
          have e : σ.key ⟨2, x, ac, n, nm, rf, fr, ln⟩ = (⟨1, false, 0, n.tdiv 65536, ByteArray.empty, 0, 0, 0⟩, 0) := by unfold St.key; rw [if_neg (by rw [hV.out]; simp), if_neg (by simp), if_neg (by simp), if_pos ⟨rfl, hmod⟩]
          have hE := Lib.hid e
          clear e k0 k6
          have hm2 : (n.tmod 65536 == 0) = true := by simp [hmod]
          clear hmod
          go_wp2
          refine bodyPost_ret (res_ct rfl rfl (set8_blk hB4z _ _ _ _ _ _ _ _) Try.underlying27 (by kernel_rfl)) rfl ⟨by rw [hE.out]; rfl, ?_⟩
          exact hZ.only (set8_only _ _ _ _ _ _ _ _ _ _) (by omega)
        · have e : σ.key ⟨k, x, ac, n, nm, rf, fr, ln⟩ = (⟨k, false, 0, n, nm, rf, fr, ln⟩, 0) := by unfold St.key; rw [if_neg (by rw [hV.out]; simp), if_neg k0, if_neg k6, if_neg hdv]; rfl
          have hE := Lib.hid e
          have h0 : (k == 0) = false := by simpa using k0
          have h6 : (k == 6) = false := by simpa using k6
          clear e k0 k6
          by_cases k2 : k = 2
          · subst k2
            have hm2 : (n.tmod 65536 == 0) = false := by simpa using hdv
            clear hdv h0 h6
            go_wp2
            refine bodyPost_ret (res_ct rfl rfl (set8_blk hB4z _ _ _ _ _ _ _ _) Try.underlying27 (by kernel_rfl)) rfl ⟨by rw [hE.out]; rfl, ?_⟩
            exact hZ.only (set8_only _ _ _ _ _ _ _ _ _ _) (by omega)
          · have h2 : (k == 2) = false := by simpa using k2
            clear hdv k2
            go_wp2
            refine bodyPost_ret (res_ct rfl rfl (set8_blk hB4z _ _ _ _ _ _ _ _) Try.underlying27 (by kernel_rfl)) rfl ⟨by rw [hE.out]; rfl, ?_⟩
            exact hZ.only (set8_only _ _ _ _ _ _ _ _ _ _) (by omega)
end
end Go.Proofs.Ythhckledkhcfeaa
