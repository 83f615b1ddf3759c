/- The operators on collections: their small functions, and what gives up. -/
import Derived.Test.YthhckledkhcfeaaStN
import Derived.Defers
import Derived.Recover
import Derived.Deep.LoopGhost
namespace Go.Proofs.Ythhckledkhcfeaa
open Go.RowKit
abbrev gaveUp (n : Int) : Ending := .panicked [{ v := .iface 23 (.int .i64 n), recovered := false }]
theorem fail_c (n : Int) (w : World) : Calls Try.prog 148 #[.int .i64 n] w fun e w' => e = gaveUp n ∧ w = w' := by
  go_enter Try.func148, Try.ntmps148
  go_wp2
  exact ⟨rfl, rfl, rfl⟩
theorem must_ok (w : World) : Calls Try.prog 146 #[.int .i64 0] w fun e w' => e = .returned (.tuple #[]) ∧ w = w' := by
  go_enter Try.func146, Try.ntmps146
  go_wp2
  go_end0
  exact ⟨rfl, rfl⟩
theorem must_no (n : Int) (hn : (n != 0) = true) (w : World) : Calls Try.prog 146 #[.int .i64 n] w fun e w' => e = gaveUp n ∧ w = w' := by
  go_enter Try.func146, Try.ntmps146
  go_wp2_with (go_at_call 148; refine (fail_c n w).mono ?_; rintro e w1 ⟨rfl, rfl⟩)
  exact ⟨rfl, rfl, rfl⟩
theorem whole_c (n : Int) (w : World) : Calls Try.prog 147 #[.int .i64 n] w fun e w' => e = .returned (.agg #[.int .i64 1, .bool false, .int .i64 0, .int .i64 n, .string ByteArray.empty, .int .i64 0, .int .i64 0, .int .i64 0]) ∧ Ext w w' := by
  go_enter Try.func147, Try.ntmps147
  go_wp2
  refine bodyPost_ret (res_c rfl rfl (Blk.new w 27 _) Try.underlying27 (by kernel_rfl)) rfl ⟨rfl, (Ext.rfl_ w).alloc_ _⟩
/-- At block c lies an operator at work, over the store at p, with the operands l. -/
structure Cal (w : World) (c p : Nat) (t : Sl) (l : List Ob) : Prop where
  blk : Blk w c 172 [.pointer (some ⟨p, 0, none⟩), .slice t.a t.n t.c]
  row : Row w 27 8 t (obCells l)
section
variable {w w' : World} {c p : Nat} {t : Sl} {l : List Ob} {σ : St} {h : Hd} {ρ : Roles}
theorem Cal.ext (s : Cal w c p t l) (hx : Ext w w') : Cal w' c p t l := ⟨s.blk.ext hx, s.row.ext hx⟩
theorem Cal.n (s : Cal w c p t l) : t.n = l.length := by have := s.row.len; rw [length_obCells] at this; omega
set_option maxHeartbeats 800000 in
theorem kinds_ok (s : Cal w c p t l) {A : Option Addr} {n cc : Nat} (ks : List Int) (hv : View w 1 A n (ks.map (Value.int .i64))) (hnb : n ≤ 1000) (hk : ∀ (i : Nat) (k : Int), ks[i]? = some k → k < 0 ∨ 0 ≤ k ∧ ∃ o, l[i]? = some o ∧ o.k = k) :
    Calls Try.prog 145 #[.pointer (some ⟨c, 0, none⟩), .slice A n cc] w fun e w' => e = .returned (.tuple #[]) ∧ w = w' := by
  have hn : ks.length = n := by have := hv.1; simp at this; exact this
  have hN := Lib.hid hn
  have hK := Lib.hid hk
  have hV := Lib.hid hv
  have hcap := s.row.cap_le
  simp only [maxLen] at hcap
  have htn := Lib.hid s.n
  clear hn hk hv
  go_enter Try.func145, Try.ntmps145
  go_wp2_with fail
  go_loopg [8] n (fun gk s8 wr => wr = w ∧ ∃ i : Nat, i ≤ n ∧ gk = n - i ∧ s8 = .int .i64 i)
  case atStart => exact ⟨rfl, 0, Nat.zero_le _, rfl, rfl⟩
  case round =>
    obtain ⟨hwr, i, hi, hgk, hs8⟩ := hrel
    subst hwr
    subst hs8
    by_cases hlt : i < n
    · obtain ⟨k, hk⟩ : ∃ k, ks[i]? = some k := ⟨_, List.getElem?_eq_getElem (by have := hN.out; omega)⟩
      obtain ⟨g, o, hA, hg, hj⟩ := hV.out.2 (by rw [List.length_map, hN.out]; omega)
      have hc := hj i (.int .i64 k) (by rw [List.getElem?_map, hk]; rfl)
      subst hA
      have hkk := hK.out i k hk
      clear hk hj
      rcases hkk with hneg | ⟨hpos, ob, hob, hko⟩
      · go_wp2_with fail
        go_roundg (n - (i + 1))
        case measure => omega
        case rel => exact ⟨rfl, i + 1, by omega, rfl, by simp⟩
      · have hil : i < t.n := by rw [htn.out]; exact getElem?_lt hob
        obtain ⟨g2, hg2, hg2b⟩ := s.row.pos (show 0 < t.n by omega)
        obtain ⟨c0, -⟩ := s.row.ob (off := i * 8) hg2 hob rfl
        rw [hko] at c0
        have hblk := s.blk
        rw [hg2] at hblk
        have hcb := hblk.cell
        clear hko hob
        go_wp2_with fail
        go_roundg (n - (i + 1))
        case measure => omega
        case rel => exact ⟨rfl, i + 1, by omega, rfl, by simp⟩
    · go_wp2_with fail
      go_end0
      exact ⟨rfl, rfl⟩
theorem access_plain (k : Int) (x : Bool) (ac n : Int) (nm : ByteArray) (rf fr ln : Int) (hk : (k == 8) = false) (q : Value) (w : World) :
    Calls Try.prog 163 #[q, .agg #[.int .i64 k, .bool x, .int .i64 ac, .int .i64 n, .string nm, .int .i64 rf, .int .i64 fr, .int .i64 ln]] w fun e w' => e = .returned (.int .i64 ac) ∧ Ext w w' := by
  go_enter Try.func163, Try.ntmps163
  go_wp2
  go_ret
  exact ⟨rfl, (Ext.rfl_ w).alloc_ _⟩
theorem write_ok_ (k : Int) (x : Bool) (n : Int) (nm : ByteArray) (rf fr ln : Int) (hk : (k == 8) = false) (q : Value) (w : World) :
    Calls Try.prog 152 #[q, .agg #[.int .i64 k, .bool x, .int .i64 0, .int .i64 n, .string nm, .int .i64 rf, .int .i64 fr, .int .i64 ln]] w fun e w' => e = .returned (.tuple #[]) ∧ Ext w w' := by
  go_enter Try.func152, Try.ntmps152
  go_wp2_with (go_at_call 163; refine (access_plain k x 0 n nm rf fr ln hk q _).mono ?_; rintro e w1 ⟨rfl, hx1⟩)
  go_end0
  exact ⟨rfl, ((Ext.rfl_ w).alloc_ _).trans_ hx1⟩
/-- An object that may be read: no dictionary; readable. -/
def Rd (o : Ob) : Prop := (o.k == 8) = false ∧ (o.ac = 0 ∨ o.ac = 1)
theorem read_ok {A : Option Addr} {n cc : Nat} (hv : View w 8 A n (obCells l)) (hnb : n ≤ 4294967296) (hr : ∀ o ∈ l, Rd o) (q : Value) :
    Calls Try.prog 149 #[q, .slice A n cc] w fun e w' => e = .returned (.tuple #[]) ∧ Ext w w' := by
  have hn : l.length = n := by have := hv.1; rw [length_obCells] at this; omega
  have hN := Lib.hid hn
  have hR := Lib.hid hr
  have hV := Lib.hid hv
  clear hn hr hv
  go_enter Try.func149, Try.ntmps149
  go_wp2_with fail
  go_loopg [9] n (fun gk s9 wr => ∃ i : Nat, i ≤ n ∧ gk = n - i ∧ s9 = .int .i64 i ∧ Ext w wr)
  case atStart => exact ⟨0, Nat.zero_le _, rfl, rfl, Ext.rfl_ _⟩
  case round =>
    obtain ⟨i, hi, hgk, hs9, hx⟩ := hrel
    subst hs9
    by_cases hlt : i < n
    · obtain ⟨⟨k, x, ac, nn, nm, rf, fr, ln⟩, ho⟩ : ∃ o, l[i]? = some o := ⟨_, List.getElem?_eq_getElem (by have := hN.out; omega)⟩
      obtain ⟨g, o, hA, hg, hj⟩ := hV.out.2 (by rw [length_obCells, hN.out]; omega)
      subst hA
      obtain ⟨hk, hac⟩ := hR.out _ (List.mem_of_getElem? ho)
      dsimp only at hk hac
      have hcells : ∀ q v, [Value.int .i64 k, .bool x, .int .i64 ac, .int .i64 nn, .string nm, .int .i64 rf, .int .i64 fr, .int .i64 ln][q]? = some v → wr.cell? ⟨g, o + i * 8 + q, none⟩ = some v := fun q v hv => (hx.cells hg _).trans (by
        have hq8 : q < 8 := by have := (List.getElem?_eq_some_iff.1 hv).1; exact this
        rw [Nat.add_assoc]
        exact hj _ _ ((getElem?_flat Ob.cells 8 Ob.cells_len l i _ q ho hq8).trans hv))
      clear ho hj
      rcases hac with rfl | rfl
      all_goals
        go_wp2_with (first
          | (go_at_call 163; refine (access_plain k x _ nn nm rf fr ln hk q _).mono ?_; rintro e w1 ⟨rfl, hx1⟩)
          | (refine wpList_load_at (ty := 27) (cs := [Value.int .i64 k, .bool x, .int .i64 _, .int .i64 nn, .string nm, .int .i64 rf, .int .i64 fr, .int .i64 ln]) (by rfl) _ (by rfl) (by rfl) hcells Try.underlying27 (by kernel_rfl) ?_))
        go_roundg (n - (i + 1))
        case measure => omega
        case rel => exact ⟨i + 1, by omega, rfl, by simp, (hx.alloc_ _).trans_ hx1⟩
    · go_wp2_with fail
      go_end0
      exact ⟨rfl, hx⟩
theorem sequence0_ok (s : Cal w c p t l) {o : Ob} (ho : l[0]? = some o) (hk : o.k = 7) :
    Calls Try.prog 153 #[.pointer (some ⟨c, 0, none⟩), .int .i64 0] w fun e w' => e = .returned (.tuple #[]) ∧ w = w' := by
  have htn : 0 < t.n := by rw [s.n]; exact getElem?_lt ho
  obtain ⟨g2, hg2, hg2b⟩ := s.row.pos htn
  obtain ⟨c0, -⟩ := s.row.ob (off := 0) hg2 ho rfl
  rw [hk] at c0
  have hblk := s.blk
  rw [hg2] at hblk
  have hcb := hblk.cell
  have hcap := s.row.cap_le
  simp only [maxLen] at hcap
  clear hk ho
  go_enter Try.func153, Try.ntmps153
  go_wp2
  go_end0
  exact ⟨rfl, rfl⟩
end
end Go.Proofs.Ythhckledkhcfeaa
