/- The law StoreApart: its walk. An argument of bytes, opened. An argument of acts, opened. -/
import Derived.Lib.SmallJoins
import Derived.Deep.Slices
import Derived.Deep.Fields
import Derived.ChangeSame
import Derived.Test.YthhckledkhcfeaaQ07
import Derived.Test.YthhckledkhcfeaaQ16
import Derived.Test.YthhckledkhcfeaaQ17
import Derived.Test.YthhckledkhcfeaaQ19
namespace Go.Proofs.Ythhckledkhcfeaa
open Go.RowKit
theorem empty_good (n : Int) : Good (.empty n) := ⟨rfl, rfl, fun l hl => by simp [St.empty] at hl, fun d hd => by simp [St.empty] at hd⟩
def BytesLike (n : Nat) (xs : List Value) : Prop := xs.length = n ∧ ∀ j, j < n → ∃ v : UInt8, xs[j]? = some (.int .u8 v.toNat)
theorem BytesLike.of (l : List UInt8) : BytesLike l.length (byteCells l) := by
  refine ⟨by simp [byteCells], fun j hj => ⟨l[j], ?_⟩⟩
  simp [byteCells, hj]
theorem BytesLike.set {n : Nat} {xs : List Value} (h : BytesLike n xs) (i : Nat) (v : UInt8) : BytesLike n (xs.set i (.int .u8 v.toNat)) := by
  refine ⟨by simpa using h.1, fun j hj => ?_⟩
  by_cases hij : i = j
  · subst hij
    exact ⟨v, by rw [List.getElem?_set_self (by rw [h.1]; exact hj)]⟩
  · rw [List.getElem?_set_ne hij]
    exact h.2 j hj
theorem info_str : (Try.prog.info? 9).map (fun i => (i.zero, i.size, i.bytes)) = some (some (.string ByteArray.empty), 1, 16) := by kernel_rfl
theorem RunI.apart {w0 W W' : World} {p : Nat} {F0 F F' : Nat → Prop} {σ : St} {h : Hd} {ρ : Roles} {made : Sl} {L : List Ob} (I : RunI w0 W p F0 σ h ρ made L) (m : Moves W W' F F') (hF : ∀ b, F b → ¬ RF ρ made b ∧ w0.heap.size ≤ b) : RunI w0 W' p F0 σ h ρ made L :=
  ⟨I.sto.keep (fun b hb => m.block b (I.sto.bound b hb) (fun hf => (hF b hf).1 (.inl hb))) m.size, I.good, I.row.keep (fun g hg => m.block g (I.row.blk_lt hg) (fun hf => (hF g hf).1 (.inr hg))), I.obs, I.own,
    ⟨m.os.trans I.mv.os, m.tape.trans I.mv.tape, m.output.trans I.mv.output, Nat.le_trans I.mv.size m.size, fun b hb hn => (m.block b (Nat.lt_of_lt_of_le hb I.mv.size) (fun hf => by have := (hF b hf).2; omega)).trans (I.mv.block b hb hn), I.mv.foot⟩⟩
/-- The walk's own frame: all that was there at its start is as it was. -/
theorem RunI.base {w w2 W : World} {p : Nat} {F0 : Nat → Prop} {σ : St} {h : Hd} {ρ : Roles} {made : Sl} {L : List Ob} (I : RunI w2 W p F0 σ h ρ made L) (hx : Ext w w2) (hF : ∀ b, F0 b → w.heap.size ≤ b) : RunI w W p (fun _ => False) σ h ρ made L :=
  have hx3 : Ext w W := hx.trans (I.mv.below hF hx.size)
  ⟨I.sto, I.good, I.row, I.obs, I.own, ⟨hx3.os, hx3.tape, hx3.output, hx3.size, fun b hb _ => hx3.at_ hb, fun b hb => .inr ((I.mv.foot b hb).elim (hF b) (fun h => Nat.le_trans hx.size h))⟩⟩
theorem RunI.extw {w W : World} {p : Nat} {σ : St} {h : Hd} {ρ : Roles} {made : Sl} {L : List Ob} (I : RunI w W p (fun _ => False) σ h ρ made L) : Ext w W := I.mv.below (fun _ hb => hb.elim) (Nat.le_refl _)
theorem RunI.low {w W : World} {p : Nat} {σ : St} {h : Hd} {ρ : Roles} {made : Sl} {L : List Ob} (I : RunI w W p (fun _ => False) σ h ρ made L) {b : Nat} (hb : RF ρ made b) : w.heap.size ≤ b := (I.mv.foot b hb).elim (fun h => h.elim) id
theorem textF_no {σ : St} {b : List UInt8} (h1 : b.length ≤ 65535) (h2 : σ.free < 1 + ((b.length : Int) + 7) / 8) : σ.textF b = ((Ob.null, 20), σ) := by
  unfold St.textF
  rw [if_pos (.inr h2), takeE, if_neg (by omega), if_neg (by omega), if_pos h2]
theorem textF_yes {σ : St} {b : List UInt8} (h1 : b.length ≤ 65535) (h2 : ¬ σ.free < 1 + ((b.length : Int) + 7) / 8) : ∃ σ', σ.textF b = ((⟨6, false, 0, 0, ByteArray.empty, σ.texts.length, 0, b.length⟩, 0), σ') ∧ σ'.bytesF ⟨6, false, 0, 0, ByteArray.empty, σ.texts.length, 0, b.length⟩ = (b, 0) := by
  unfold St.textF
  rw [if_neg (by omega)]
  refine ⟨_, rfl, ?_⟩
  unfold St.bytesF
  rw [if_neg]
  · simp [List.getD]
  · simp [St.isA, St.valid, withinB, List.getD]
    omega
theorem u8_succ (v : UInt8) : ((v.toNat : Int) + 1) % 256 = ((v + 1).toNat : Int) := by
  rw [UInt8.toNat_add]
  simp
theorem ext_own {w w1 w3 : World} (h : Ext w w1) {o : Go.Obj} {q : Option Nat} (hg : (w1.alloc o).grownBy w3 q) (hq : ∀ b, q = some b → w.heap.size ≤ b) : Ext w w3 :=
  ⟨hg.os.trans h.os, hg.tape.trans h.tape, hg.output.trans h.output, Nat.le_trans h.size (Nat.le_trans (by simp) hg.size),
    fun b hb => (hg.block b (Nat.lt_of_lt_of_le hb (Nat.le_trans h.size (by simp))) (fun e => by have := hq b e.symm; omega)).trans ((Below.heap_alloc _ _ _ (Nat.lt_of_lt_of_le hb h.size)).trans (h.at_ hb))⟩
theorem RunI.again {w W W' : World} {p : Nat} {σ : St} {h : Hd} {ρ : Roles} {made : Sl} {L : List Ob} (I : RunI w W p (fun _ => False) σ h ρ made L) (hx : Ext w W') (hs : W.heap.size ≤ W'.heap.size) (hk : ∀ b, RF ρ made b → W'.heap[b]? = W.heap[b]?) : RunI w W' p (fun _ => False) σ h ρ made L :=
  ⟨I.sto.keep (fun b hb => hk b (.inl hb)) hs, I.good, I.row.keep (fun g hg => hk g (.inr hg)), I.obs, I.own, ⟨hx.os, hx.tape, hx.output, hx.size, fun b hb _ => hx.at_ hb, I.mv.foot⟩⟩
/-- The texts of things. -/
def Txt (σ : St) (l : List Ob) : List Value := l.map fun o => .string (Bs (rnd σ 3 o))
theorem Txt_take {σ : St} {l : List Ob} {j : Nat} {o : Ob} (h : l[j]? = some o) : Txt σ (l.take (j + 1)) = Txt σ (l.take j) ++ [.string (Bs (rnd σ 3 o))] := by
  unfold Txt
  rw [List.take_add_one, h, List.map_append]
  simp
/-- run's contract for the acts of one argument. -/
def RunsC (w : World) (A : Option Addr) (n c : Nat) : Prop := ∀ (w0 : World) (p : Nat) (σ0 : St) (h0 : Hd) (ρ0 : Roles) (made0 : Sl) (L0 : List Ob) (F0 : Nat → Prop), RunI w0 w0 p F0 σ0 h0 ρ0 made0 L0 → L0.length ≤ 1000 → Ext w w0 → (∀ b, F0 b → w.heap.size ≤ b) →
  Calls Try.prog 24 #[.pointer (some ⟨p, 0, none⟩), .slice made0.a made0.n made0.c, .slice A n c, .int .i64 30] w0 (RunE w0 p F0 (L0.length + 30))
theorem runs_c {w : World} {A : Option Addr} {acts : List Ac} {c : Nat} (hA : View w 7 A acts.length (acts.flatMap Ac.cells)) (hq : ∀ q ∈ acts, q.Ok w) (hal : acts.length ≤ 9223372036854775807) : RunsC w A acts.length c :=
  fun _ _ _ _ _ _ _ _ I0 hL0 hx0 hF0 => run_c I0 hL0 hx0 hF0 hA hq hal
set_option maxRecDepth 100000 in
set_option maxHeartbeats 8000000 in
theorem StoreApart_walk {w : World} {A B C : Option Addr} {acts later : List Ac} {b : List UInt8} {ca cl cb : Nat} (hA : View w 7 A acts.length (acts.flatMap Ac.cells)) (hqA : ∀ q ∈ acts, q.Ok w) (hal : acts.length ≤ 9223372036854775807)
    (hB : View w 7 B later.length (later.flatMap Ac.cells)) (hqB : ∀ q ∈ later, q.Ok w) (hbl : later.length ≤ 9223372036854775807) (hC : View w 1 C b.length (byteCells b)) (hcl : b.length ≤ 9223372036854775807) :
    Calls Try.prog 6 #[.slice A acts.length ca, .slice B later.length cl, .slice C b.length cb] w fun e w' => e = .returned (.bool true) ∧ Ext w w' := by
  obtain ⟨iO, hiO, hzO, hsO, hbO⟩ := info_parts info_Obj
  obtain ⟨iB, hiB, hzB, hsB, hbB⟩ := info_parts info_u8
  obtain ⟨iS, hiS, hzS, hsS, hbS⟩ := info_parts info_str
  have hrA := runs_c (c := ca) hA hqA hal
  have hrB := runs_c (c := cl) hB hqB hbl
  obtain ⟨n, hn⟩ : ∃ n, b.length = n := ⟨_, rfl⟩
  rw [hn] at hC hcl ⊢
  have hHn := Lib.hid hn
  have hHC := Lib.hid hC
  clear hn hC hA hB hqA hqB
  go_enter Try.func6, Try.ntmps6
  go_upto_region 2 with (
    go_at_call 12
    refine (new_ok 5000 w (by omega) (by omega)).mono ?_
    rintro e w1 ⟨rfl, s1, hx1⟩)
  by_cases hbig : 1000 < n
  · have hbi : (1000 : Int) < n := by omega
    go_upto_region 3 with (go_at_call 14; refine (answers_c _).mono ?_; rintro e w2 ⟨rfl, hx2⟩)
    go_wp2_with (go_at_call 14; refine (answers_c _).mono ?_; rintro e w3 ⟨rfl, hx3⟩)
    go_ret
    exact ⟨rfl, (hx1.trans_ hx2).trans_ hx3⟩
  · have hbi : ¬ (1000 : Int) < n := by omega
    have hn1000 : n ≤ 1000 := by omega
    have hbd : decide ((1000 : Int) < n) = false := by simp; omega
    clear hbig
    go_upto_region 4 with (go_at_call 14; refine (answers_c _).mono ?_; rintro e w2 ⟨rfl, hx2⟩)
    have s2 := s1.ext hx2
    have hx12 := hx1.trans_ hx2
    have I0 : RunI w2 w2 w.heap.size (RF (.one w.heap.size) Sl.nil) (.empty 5000) .empty (.one w.heap.size) Sl.nil [] :=
      ⟨s2, empty_good _, Row.nil_ _ _ _, fun o ho => by simp at ho, fun g hg => by simp [Sl.blk] at hg, Moves.refl_ _ _⟩
    have hF0 : ∀ b, RF (.one w.heap.size) Sl.nil b → w.heap.size ≤ b := fun b hb => by
      rcases hb with hb | hb
      · rw [Roles.one_own hb]; exact Nat.le_refl _
      · simp [Sl.blk] at hb
    have hC1 := hrA _ _ _ _ _ _ _ _ I0 (by simp) hx12 hF0
    have hHC1 := Lib.hid hC1
    have hHF0 := Lib.hid hF0
    clear hC1 hF0 s1 hx1 hx2 s2 I0
    go_upto_region 5 with (
      go_at_call 24
      refine hHC1.out.mono ?_
      rintro e w3 ⟨made, L, σ, h, ρ, rfl, I, hL⟩)
    replace I := I.base hx12 hHF0.out
    have hx3 := I.extw
    have hL30 : L.length ≤ 30 := by simpa using hL
    have hmn := I.len
    have hmn30 : made.n ≤ 30 := by omega
    have hHmn := Lib.hid hmn
    clear hmn hL
    go_upto_region 6 with (
      at_builtin
      refine wpList_app (by rfl) _ _ _ (by rfl) 5 iB _ 1 1 Try.underlying45 hiB hzB hsB hbB rfl (by omega) ⟨some ⟨w3.heap.size, 0, none⟩, 0, 0⟩ (by rfl) (Row.lit (cs := []) (n := 0) (Blk.new w3 5 []) rfl (by omega)) (by rfl) ((hHC.out.ext hx3).ext ((Ext.rfl_ _).alloc_ _)) (byteCells_one b) (by simp only [maxLen]; omega) (by dsimp only; omega) ?_
      rintro ⟨va, vn, vc⟩ w4 hrow4 hlen4 hgrow4 hat4)
    have hvn : n = vn := by have h5 := hrow4.len; simp [byteCells] at h5; rw [← hHn.out]; exact h5
    subst hvn
    have hxA : Ext w3 w4 := ext_made hgrow4 (fun b hb => by simp [Sl.blk] at hb; omega)
    have hbk4 : ∀ g, Sl.blk ⟨va, n, vc⟩ = some g → w3.heap.size ≤ g := fun g hg => by
      rcases hat4 with h4 | h4
      · rw [h4] at hg; simp [Sl.blk] at hg; omega
      · rw [h4] at hg; simp at hg; omega
    have hR4 : Row w4 5 1 ⟨va, n, vc⟩ (byteCells b) := by simpa using hrow4
    have I4 := I.ext hxA
    clear hrow4 hlen4 hgrow4 hat4
    have hap4 : ∀ g, Sl.blk ⟨va, n, vc⟩ = some g → ¬ RF ρ made g := fun g hg => I.fresh (hbk4 g hg)
    have htx := text_f I4.sto (A := va) (c := vc) (bs := b) (by rw [hHn.out]; exact View.of_row hR4) (fun g o hg => Roles.none_of (fun ho => hap4 g (by simp [Sl.blk, hg]) (.inl ho))) (by rw [hHn.out]; omega)
    rw [hHn.out] at htx
    by_cases hfit : σ.free < 1 + ((n : Int) + 7) / 8
    · rw [textF_no (by rw [hHn.out]; omega) (by rw [hHn.out]; exact hfit)] at htx
      dsimp only [Ob.cells] at htx
      have hHtx := Lib.hid htx
      clear htx hfit hbi
      go_wp2_with (
        go_at_call 25
        refine hHtx.out.mono ?_
        rintro e w5 ⟨rfl, h5, ρ5, s5, m5⟩)
      go_ret
      exact ⟨rfl, (I4.extw.trans (m5.below (fun b hb => I4.low (.inl hb)) I4.extw.size)).alloc (I4.extw.trans (m5.below (fun b hb => I4.low (.inl hb)) I4.extw.size)).size _⟩
    · obtain ⟨σ5, htf, hbT⟩ := textF_yes (σ := σ) (b := b) (by rw [hHn.out]; omega) (by rw [hHn.out]; exact hfit)
      have hg5 := Good.textF I.good b
      rw [htf] at htx hg5
      rw [hHn.out] at htx hbT
      dsimp only [Ob.cells] at htx hg5
      have hrt := I.sto.ok.bounds.1
      obtain ⟨rT, hrT⟩ : ∃ rT, σ.texts.length = rT := ⟨_, rfl⟩
      rw [hrT] at htx hbT hrt
      have hHtx := Lib.hid htx
      have hHbT := Lib.hid hbT
      have hHg5 := Lib.hid hg5
      clear htx hfit hbT hg5 htf hrT
      go_upto_region 7 with (
        go_at_call 25
        refine hHtx.out.mono ?_
        rintro e w5 ⟨rfl, hs5⟩)
      obtain ⟨h5, ρ5, I5', m5⟩ := I4.to hs5 hHg5.out
      generalize hX : World.alloc w5 _ = X
      obtain ⟨hxX, hcX, hfX, hzX, hbX⟩ := boxed hX
      have l11 : Loc X (RF ρ5 made) w5.heap.size 27 [.int .i64 6, .bool false, .int .i64 0, .int .i64 0, .string ByteArray.empty, .int .i64 rT, .int .i64 0, .int .i64 n] := ⟨hbX, I5'.fresh (Nat.le_refl _)⟩
      have I5 := I5'.ext hxX
      have hR5 : Row X 5 1 ⟨va, n, vc⟩ (byteCells b) := (hR4.moves m5 (fun g hg => hap4 g hg)).ext hxX
      have hap5 : ∀ g, Sl.blk ⟨va, n, vc⟩ = some g → ¬ RF ρ5 made g ∧ g ≠ w5.heap.size := fun g hg => ⟨m5.apart (hap4 g hg) (hR4.blk_lt hg), fun e => by have := hR4.blk_lt hg; have := m5.size; omega⟩
      have hbw5 : w.heap.size ≤ w5.heap.size := I5'.extw.size
      have hbl5 : ∀ g, Sl.blk ⟨va, n, vc⟩ = some g → w.heap.size ≤ g := fun g hg => Nat.le_trans hx3.size (hbk4 g hg)
      have hBL := BytesLike.of b
      rw [hHn.out] at hBL
      have hHBL := Lib.hid hBL
      clear hX hcX hfX hbX I5' hs5 m5 hR4 hap4 hbk4 hBL I4 hxA I hHtx hbi
      go_upto_region 9 with fail
      go_wp2_with fail
      go_loopg [13] n (fun gk s13 wr => ∃ (i : Nat) (xs : List Value), i ≤ n ∧ gk = n - i ∧ s13 = .int .i64 i ∧ BytesLike n xs ∧ Row wr 5 1 ⟨va, n, vc⟩ xs ∧ RunI w wr w.heap.size (fun _ => False) σ5 h5 ρ5 made L ∧
        Loc wr (RF ρ5 made) w5.heap.size 27 [.int .i64 6, .bool false, .int .i64 0, .int .i64 0, .string ByteArray.empty, .int .i64 rT, .int .i64 0, .int .i64 n])
      case atStart => exact ⟨0, _, by omega, by omega, rfl, hHBL.out, hR5, I5, l11⟩
      case round =>
        obtain ⟨i, xs, hi, hgk, hs13, hxs, hR, I, l⟩ := hrel
        subst hs13
        have hHxs := Lib.hid hxs
        clear hxs
        by_cases hlt : i < n
        · obtain ⟨g, ha, hg⟩ := hR.pos (show 0 < n by omega)
          dsimp only at ha
          subst ha
          obtain ⟨v, hv⟩ := hHxs.out.2 i hlt
          have hcg : wr.cell? ⟨g, i, none⟩ = some (.int .u8 v.toNat) := (hR.cell rfl i (show i < n * 1 by omega)).trans hv
          have hfg := hR.frozen rfl i
          have hlti : (i : Int) < n := by omega
          clear hv
          go_wp2_with fail
          rw [u8_succ]
          have ho := (Only.refl_ wr g).set_ i (.int .u8 ((v + 1).toNat : Int))
          go_roundg (n - (i + 1))
          case measure => omega
          case rel => exact ⟨i + 1, _, by omega, rfl, by simp, hHxs.out.set i (v + 1), hR.set_ rfl i _, I.only ho (hap5 g hg).1 (.inl (hbl5 g hg)), ⟨l.blk.keep (ho.block _ (fun e => (hap5 g hg).2 e.symm)), l.out⟩⟩
        · obtain rfl : i = n := by omega
          have hcl := l.blk.cell
          have hby := bytes_f I.sto ⟨6, false, 0, 0, ByteArray.empty, rT, 0, i⟩
          rw [hHbT.out] at hby
          dsimp only [Ob.cells] at hby
          rw [hHn.out] at hby
          have hHby := Lib.hid hby
          clear hby hap5 hbl5 hR hR5 I5 l11
          go_upto_region 14 with (
            go_at_call 26
            refine hHby.out.mono ?_
            rintro e w6 ⟨⟨oa, on, oc⟩, rfl, hon, hfr⟩
            dsimp only at hon
            subst hon)
          have I6 := I.ext hfr.2.2
          have l6 := l.ext_ hfr.2.2
          have hap6 : ∀ g, Sl.blk ⟨oa, on, oc⟩ = some g → ¬ RF ρ5 made g ∧ g ≠ w5.heap.size ∧ w.heap.size ≤ g := fun g hg =>
            ⟨I.fresh (hfr.2.1 g hg), fun e => by have := hfr.2.1 g hg; have := l.blk.lt; omega, Nat.le_trans I.extw.size (hfr.2.1 g hg)⟩
          have hR6 := hfr.1
          clear hfr I l hcl hHby
          go_wp2_with fail
          go_loopg [16] on (fun gk s16 wr => ∃ (i : Nat) (xs : List Value), i ≤ on ∧ gk = on - i ∧ s16 = .int .i64 i ∧ BytesLike on xs ∧ Row wr 5 1 ⟨oa, on, oc⟩ xs ∧ RunI w wr w.heap.size (fun _ => False) σ5 h5 ρ5 made L ∧
            Loc wr (RF ρ5 made) w5.heap.size 27 [.int .i64 6, .bool false, .int .i64 0, .int .i64 0, .string ByteArray.empty, .int .i64 rT, .int .i64 0, .int .i64 on])
          case atStart => exact ⟨0, _, by omega, by omega, rfl, hHBL.out, hR6, I6, l6⟩
          case round =>
            obtain ⟨i, xs, hi, hgk, hs16, hxs, hR, I, l⟩ := hrel
            subst hs16
            have hHxs := Lib.hid hxs
            clear hxs
            by_cases hlt : i < on
            · obtain ⟨g, ha, hg⟩ := hR.pos (show 0 < on by omega)
              dsimp only at ha
              subst ha
              obtain ⟨v, hv⟩ := hHxs.out.2 i hlt
              have hcg : wr.cell? ⟨g, i, none⟩ = some (.int .u8 v.toNat) := (hR.cell rfl i (show i < on * 1 by omega)).trans hv
              have hfg := hR.frozen rfl i
              have hlti : (i : Int) < on := by omega
              clear hv
              go_wp2_with fail
              rw [u8_succ]
              have ho := (Only.refl_ wr g).set_ i (.int .u8 ((v + 1).toNat : Int))
              go_roundg (on - (i + 1))
              case measure => omega
              case rel => exact ⟨i + 1, _, by omega, rfl, by simp, hHxs.out.set i (v + 1), hR.set_ rfl i _, I.only ho (hap6 g hg).1 (.inl (hap6 g hg).2.2), ⟨l.blk.keep (ho.block _ (fun e => (hap6 g hg).2.1 e.symm)), l.out⟩⟩
            · obtain rfl : i = on := by omega
              have hHcp := Lib.hid (copy_ok I.sto)
              clear hap6 hR hR6 I6 l6
              go_upto_region 19 with (
                go_at_call 27
                refine hHcp.out.mono ?_
                rintro e w7 ⟨q, hq, ρq, rfl, sq, hqlow, hx7⟩)
              have I7 := I.ext hx7
              have l7 := l.ext_ hx7
              obtain ⟨S6, hS6⟩ : ∃ S, wr.heap.size = S := ⟨_, rfl⟩
              rw [hS6] at hqlow
              have hs6 : ∀ b, RF ρ5 made b → b < S6 := fun b hb => by rw [← hS6]; exact I.lt hb
              have hb11 : w5.heap.size < S6 := by rw [← hS6]; exact l.blk.lt
              have hS67 : S6 ≤ w7.heap.size := by rw [← hS6]; exact hx7.size
              have hwS6 : w.heap.size ≤ S6 := by rw [← hS6]; exact I.extw.size
              have hHq := Lib.hid hqlow
              have hHs6 := Lib.hid hs6
              clear hS6 hqlow hs6 hx7 I l hHcp
              go_upto_region 20 with fail
              go_wp2_with fail
              go_loopg [18, 19] made.n (fun gk s18 s19 wr => ∃ (j : Nat) (t : Sl), j ≤ made.n ∧ gk = made.n - j ∧ s19 = .int .i64 j ∧ s18 = .slice t.a t.n t.c ∧ Row wr 9 1 t (Txt σ5 (L.take j)) ∧ (∀ g, t.blk = some g → w7.heap.size ≤ g) ∧ Ext w7 wr)
              case atStart => exact ⟨0, Sl.nil, by omega, by omega, rfl, rfl, Row.nil_ _ _ _, fun g hg => by simp [Sl.blk] at hg, Ext.rfl_ _⟩
              case round =>
                obtain ⟨j, t, hj, hgk, hs19, hs18, hRt, htb, hxr⟩ := hrel
                subst hs19
                subst hs18
                have hHtb := Lib.hid htb
                clear htb
                have htn : t.n = j := by
                  have := hRt.len
                  have := hHmn.out
                  simp [Txt] at *
                  omega
                have ht30 : t.n ≤ 30 := by omega
                by_cases hlt : j < made.n
                · obtain ⟨o, ho⟩ : ∃ o, L[j]? = some o := ⟨_, List.getElem?_eq_getElem (by have := hHmn.out; omega)⟩
                  have hrow := I7.row
                  obtain ⟨g, ha, hg⟩ := hrow.pos (show 0 < made.n by omega)
                  have hcells : ∀ q v, o.cells[q]? = some v → wr.cell? ⟨g, j * 8 + q, none⟩ = some v := fun q v hv => (hxr.cells (hrow.blk_lt hg) _).trans (by
                    have hq8 : q < 8 := by have := (List.getElem?_eq_some_iff.1 hv).1; rw [Ob.cells_len] at this; exact this
                    rw [hrow.cell ha (j * 8 + q) (by omega)]
                    exact (getElem?_flat Ob.cells 8 Ob.cells_len L j o q ho hq8).trans hv)
                  have hrd := render3 (I7.sto.ext hxr) I7.good o (I7.obs o (List.mem_of_getElem? ho))
                  have hT := Txt_take (σ := σ5) ho
                  generalize Bs (rnd σ5 3 o) = SR at hrd hT
                  have hHrd := Lib.hid hrd
                  have hHT := Lib.hid hT
                  have hHtn := Lib.hid htn
                  have hHa := Lib.hid ha
                  obtain ⟨mA, mN, mC⟩ := made
                  dsimp only at *
                  subst ha
                  have hltj : (j : Int) < mN := by omega
                  clear hrd hT ho htn
                  go_wp2_with (first
                    | (go_at_call 28; refine hHrd.out.mono ?_; rintro e w8 ⟨rfl, hx8⟩)
                    | (at_builtin
                       refine wpList_app (by rfl) _ _ _ (by rfl) 9 iS _ 1 16 Try.underlying51 hiS hzS hsS hbS rfl (by omega) t (by rfl) ((hRt.ext hx8).alloc _) (by rfl) (View.of_blk (n := 1) (Blk.new w8 _ [.string SR]) rfl) (by simp [Value.oneCell']) (by simp only [maxLen]; omega) (by omega) ?_
                       intro t' w9 hrow9 hlen9 hgrow9 hat9)
                    | (refine wpList_load_at (ty := 27) (cs := o.cells) (by rfl) _ (by rfl) (by rfl) hcells Try.underlying27 (by kernel_rfl) ?_))
                  have hx78 := hxr.trans_ hx8
                  go_roundg (mN - (j + 1))
                  case measure => omega
                  case rel =>
                    refine ⟨j + 1, t', by omega, rfl, by simp, rfl, by rw [hHT.out]; exact hrow9, fun g hg => ?_, ext_own hx78 hgrow9 hHtb.out⟩
                    rcases hat9 with h9 | h9
                    · rw [h9] at hg; exact hHtb.out g hg
                    · rw [h9] at hg; injection hg with hg; simp at hg; have := hx78.size; omega
                · obtain rfl : j = made.n := by omega
                  obtain ⟨wo, rfl⟩ : ∃ wo : World, wo = wr := ⟨_, rfl⟩
                  rw [List.take_of_length_le (by have := hHmn.out; omega)] at hRt
                  have Io := I7.ext hxr
                  have lo := l7.ext_ hxr
                  have sqo := sq.ext hxr
                  have hso := hxr.size
                  have hqb := fun b (hb : ρq.own b) => sq.bound b hb
                  have hHqb := Lib.hid hqb
                  have hHtn := Lib.hid htn
                  clear htn hqb
                  go_upto_region 25 with (first
                    | (go_at_call 24
                       refine (hrB wA q σ5 hq ρq ⟨ma, mn, mc⟩ L (RF ρq ⟨ma, mn, mc⟩) ⟨sqo.ext hxA, Io.good, hRm, Io.obs, (fun g hg ho => by have := hHqb.out g ho; have := hbm g hg; omega), Moves.refl_ _ _⟩ (by omega) (Io.extw.trans_ hxA) (fun b hb => by
                         rcases hb with hb | hb
                         · exact Nat.le_trans hwS6 (hHq.out b hb)
                         · exact Nat.le_trans Io.extw.size (hbm b hb))).mono ?_
                       rintro e w9 ⟨made3, L3, σ3, h3, ρ3, rfl, I3, -⟩)
                    | (at_builtin
                       refine wpList_app (by rfl) _ _ _ (by rfl) 27 iO _ 8 72 Try.underlying33 hiO hzO hsO hbO rfl (by omega) ⟨some ⟨wo.heap.size, 0, none⟩, 0, 0⟩ (by rfl) (Row.lit (cs := []) (n := 0) (Blk.new wo 27 []) rfl (by omega)) (by rfl) (Io.view.ext ((Ext.rfl_ _).alloc_ _)) (obCells_one L) (by simp only [maxLen]; omega) (by dsimp only; omega) ?_
                       rintro ⟨ma, mn, mc⟩ wA hrowA hlenA hgrowA hatA
                       have hxA : Ext wo wA := ext_made hgrowA (fun b hb => by simp [Sl.blk] at hb; omega)
                       have hRm : Row wA 27 8 ⟨ma, mn, mc⟩ (obCells L) := by simpa using hrowA
                       have hbm : ∀ g, Sl.blk ⟨ma, mn, mc⟩ = some g → wo.heap.size ≤ g := fun g hg => by
                         rcases hatA with h4 | h4
                         · rw [h4] at hg; simp [Sl.blk] at hg; omega
                         · rw [h4] at hg; simp at hg; omega))
                  have hlq : ∀ b, RF ρq ⟨ma, mn, mc⟩ b → w.heap.size ≤ b := fun b hb => by
                    rcases hb with hb | hb
                    · exact Nat.le_trans hwS6 (hHq.out b hb)
                    · exact Nat.le_trans Io.extw.size (hbm b hb)
                  have hxwA := Io.extw.trans_ hxA
                  have hxw9 : Ext w w9 := hxwA.trans (I3.mv.below hlq hxwA.size)
                  have hz9 : wo.heap.size ≤ w9.heap.size := Nat.le_trans hxA.size I3.mv.size
                  have hk9 : ∀ b, b < wo.heap.size → ¬ ρq.own b → w9.heap[b]? = wo.heap[b]? := fun b hb hn =>
                    (I3.mv.block b (Nat.lt_of_lt_of_le hb hxA.size) (fun hf => hf.elim hn (fun h2 => by have := hbm b h2; omega))).trans (hxA.at_ hb)
                  have hf3 : ∀ b, b < wo.heap.size → ¬ ρq.own b → ¬ ρ3.own b := fun b hb hn ho => by
                    rcases I3.mv.foot b (.inl ho) with hf | hf
                    · exact hf.elim hn (fun h2 => by have := hbm b h2; omega)
                    · have := hxA.size; omega
                  have hl3 : ∀ b, ρ3.own b → w.heap.size ≤ b := fun b ho => (I3.mv.foot b (.inl ho)).elim (hlq b) (fun h => Nat.le_trans hxwA.size h)
                  have hb9 : Blk w9 w5.heap.size 27 _ := lo.blk.keep (hk9 _ lo.blk.lt (fun ho => by have := hHq.out _ ho; omega))
                  have hHk9 := Lib.hid hk9
                  have hHf3 := Lib.hid hf3
                  have hHl3 := Lib.hid hl3
                  clear hk9 hf3 hl3 hlq hbm hRm hxA hxwA
                  have ye := fun (E : ExtOf w9) i => (E.cells hb9.lt i).trans (hb9.cell i)
                  have hmk := fun W => run_make_rowN (P := Try.prog) 45 5 iB _ Try.underlying45 hiB hzB .i64 .i64 i i (Nat.le_refl _) (by rw [hbB]; omega) (by omega) W
                  rw [hsB] at hmk
                  refine wp_region_plan (C := fun w' => ∃ E : ExtOf w9, w' = E.w) [true, true, true, true, false, false] 5 1 (by kernel_rfl) (by kernel_rfl) (fun c a d v w h => by cases d <;> exact h) ⟨⟨_, (Ext.rfl_ w9).drew_⟩, rfl⟩ ?_
                  simp only [pickQ, pickT]
                  repeat (go_big_quiet_step (fail))
                  refine wpQuiet_nil ?_
                  clear ye
                  refine wpTail_cons (fun K hK => ?_)
                  go_simp
                  refine hK _ _ ⟨⟨_, (Ext.rfl_ w9).drew_.alloc_ _⟩, rfl⟩ ?_
                  clear hK K
                  refine wpTail_zero ?_
                  generalize hZ : World.drew (World.alloc w9 _) = Z
                  have hxZ : Ext w9 Z := by rw [← hZ]; exact ((Ext.rfl_ w9).alloc_ _).drew_
                  have hZ0 : Z.heap[w9.heap.size]? = some (.cells (madeCells #[.int .u8 0] i) 5 (0, 0)) := by
                    rw [← hZ]
                    exact heap_at rfl
                  have hVz := View.of_row (Row.made (w := Z) (e := 5) #[.int .u8 0] i (by simp) (by simp only [maxLen]; omega) (by simp) hZ0)
                  rw [show (List.replicate i (#[Value.int .u8 0] : Array Value).toList).flatten = byteCells (List.replicate i 0) from byteCells_zero i] at hVz
                  have hwr := write_f (I3.sto.ext hxZ) ⟨6, false, 0, 0, ByteArray.empty, rT, 0, i⟩ 0 (bs := List.replicate i 0) (c := i) (by rw [List.length_replicate]; exact hVz) (by simp; omega)
                  rw [List.length_replicate] at hwr
                  dsimp only [Ob.cells] at hwr
                  have hHw := Lib.hid hwr
                  clear hZ hZ0 hVz hwr hmk
                  go_upto_region 26 with (
                    go_at_call 29
                    refine hHw.out.mono ?_
                    rintro e wB ⟨rfl, hB4, ρB, sB, mB⟩)
                  have hkB : ∀ b, b < wo.heap.size → ¬ ρq.own b → wB.heap[b]? = wo.heap[b]? := fun b hb hn =>
                    (mB.block b (Nat.lt_of_lt_of_le hb (Nat.le_trans hz9 hxZ.size)) (hHf3.out b hb hn)).trans ((hxZ.at_ (Nat.lt_of_lt_of_le hb hz9)).trans (hHk9.out b hb hn))
                  have hzB : wo.heap.size ≤ wB.heap.size := Nat.le_trans hz9 (Nat.le_trans hxZ.size mB.size)
                  have hxwB : Ext w wB := (hxw9.trans_ hxZ).trans (mB.below hHl3.out (hxw9.trans_ hxZ).size)
                  have IB : RunI w wB w.heap.size (fun _ => False) σ5 h5 ρ5 made L := Io.again hxwB hzB (fun b hb => hkB b (Io.lt hb) (fun ho => by have := hHq.out b ho; have := hHs6.out b hb; omega))
                  have bB : Blk wB w5.heap.size 27 [.int .i64 6, .bool false, .int .i64 0, .int .i64 0, .string ByteArray.empty, .int .i64 rT, .int .i64 0, .int .i64 i] := lo.blk.keep (hkB _ lo.blk.lt (fun ho => by have := hHq.out _ ho; omega))
                  have hRtB : Row wB 9 1 t (Txt σ5 L) := hRt.keep (fun g hg => hkB g (hRt.blk_lt hg) (fun ho => by have := hHqb.out g ho; have := hHtb.out g hg; omega))
                  clear hkB hHw sB mB hHk9 hHf3 hHl3 I3 hxZ hxw9 hz9 hRt Io lo sqo
                  go_wp2_with fail
                  go_loopg [20] made.n (fun gk s20 wr => ∃ (j : Nat), j ≤ made.n ∧ gk = made.n - j ∧ s20 = .int .i64 j ∧ Ext wB wr)
                  case atStart => exact ⟨0, by omega, by omega, rfl, Ext.rfl_ _⟩
                  case round =>
                    obtain ⟨j, hj, hgk, hs20, hxr⟩ := hrel
                    subst hs20
                    by_cases hlt : j < made.n
                    · obtain ⟨⟨k1, x1, a1, n1, m1, r1, f1, l1⟩, ho⟩ : ∃ o, L[j]? = some o := ⟨_, List.getElem?_eq_getElem (by have := hHmn.out; omega)⟩
                      have hrow := IB.row
                      obtain ⟨g, ha, hg⟩ := hrow.pos (show 0 < made.n by omega)
                      have htn := hHtn.out
                      obtain ⟨g2, ha2, hg2⟩ := hRtB.pos (show 0 < t.n by omega)
                      have hrd := fun (E : ExtOf wr) => render3 (IB.sto.ext (hxr.trans_ E.h)) IB.good _ (IB.obs _ (List.mem_of_getElem? ho))
                      have hcs : (Txt σ5 L)[j]? = some (.string (Bs (rnd σ5 3 ⟨k1, x1, a1, n1, m1, r1, f1, l1⟩))) := by
                        unfold Txt
                        rw [List.getElem?_map, ho]
                        rfl
                      generalize Bs (rnd σ5 3 ⟨k1, x1, a1, n1, m1, r1, f1, l1⟩) = SR at hrd hcs
                      dsimp only [Ob.cells] at hrd
                      have fo : ∀ (E : ExtOf wr), E.w.cell? ⟨g, j * 8, none⟩ = some (.int .i64 k1) ∧ E.w.cell? ⟨g, j * 8 + 1, none⟩ = some (.bool x1) ∧ E.w.cell? ⟨g, j * 8 + 2, none⟩ = some (.int .i64 a1) ∧ E.w.cell? ⟨g, j * 8 + 3, none⟩ = some (.int .i64 n1) ∧
                          E.w.cell? ⟨g, j * 8 + 4, none⟩ = some (.string m1) ∧ E.w.cell? ⟨g, j * 8 + 5, none⟩ = some (.int .i64 r1) ∧ E.w.cell? ⟨g, j * 8 + 6, none⟩ = some (.int .i64 f1) ∧ E.w.cell? ⟨g, j * 8 + 7, none⟩ = some (.int .i64 l1) :=
                        fun E => (hrow.ext (hxr.trans_ E.h)).ob (off := j * 8) ha ho rfl
                      have ft : ∀ (E : ExtOf wr), E.w.cell? ⟨g2, j, none⟩ = some (.string SR) := fun E => ((hRtB.ext (hxr.trans_ E.h)).cell ha2 j (by omega)).trans hcs
                      have hHrd := Lib.hid hrd
                      have hHtn2 := Lib.hid htn
                      obtain ⟨mA, mN, mC⟩ := made
                      obtain ⟨tA, tN, tC⟩ := t
                      dsimp only at *
                      subst ha
                      subst ha2
                      have hltj : (j : Int) < mN := by omega
                      have hltt : (j : Int) < tN := by omega
                      clear hrd hcs ho htn
                      go_upto_region 29 with fail
                      refine wp_region_ext (by kernel_rfl) (by kernel_rfl) ?_
                      repeat (go_big_quiet_step ((go_at_call 28; exact quiet_ext (hHrd.out _))))
                      refine wpQuiet_nil fun E => ?_
                      go_wp2_with fail
                      go_roundg (mN - (j + 1))
                      case measure => omega
                      case rel => exact ⟨j + 1, by omega, rfl, by simp, hxr.trans_ E.h⟩
                    · obtain rfl : j = made.n := by omega
                      have hby := bytes_f (IB.sto.ext hxr) ⟨6, false, 0, 0, ByteArray.empty, rT, 0, i⟩
                      rw [hHbT.out] at hby
                      dsimp only [Ob.cells] at hby
                      rw [hHn.out] at hby
                      have hHby := Lib.hid hby
                      have hcB := (bB.ext hxr).cell
                      clear hby
                      go_wp2_with (first
                        | (go_at_call 30
                           refine (same_c (View.of_row hfr.1) (hHC.out.ext ((hxwB.trans_ hxr).trans_ hfr.2.2)) (by dsimp only; omega)).mono ?_
                           rintro e wD ⟨rfl, hxD⟩)
                        | (go_at_call 26
                           refine hHby.out.mono ?_
                           rintro e wC ⟨⟨na, nn, nc⟩, rfl, hnn, hfr⟩
                           dsimp only at hnn
                           subst hnn))
                      go_ret
                      exact ⟨rfl, ((hxwB.trans_ hxr).trans_ hfr.2.2).trans_ hxD⟩
end Go.Proofs.Ythhckledkhcfeaa
namespace Go.Proofs.Ythhckledkhcfeaa
open Go.RowKit Go.ChangeShapes Go.WideShapes Go.ChangeAt
set_option maxRecDepth 100000 in
theorem bytes_open {H : Type} {enc : TypeId × Value → H} {w : World} {base : Nat} {held : Bool} {r : Reach} {b0 : Nat} {v : Value} {d : DataW H} {p : List MemPlace}
    (hv : Value.okWide Try.prog w r b0 45 v) (h : DataW.Trod enc Try.prog w base (fun _ => true) held 45 v d p) :
    ∃ (A : Option Addr) (T : List UInt8) (c : Nat), v = .slice A T.length c ∧ View w 1 A T.length (byteCells T) ∧ T.length ≤ c ∧ c ≤ maxLen := by
  obtain ⟨A, n, c, rfl⟩ := okWide_slice Try.underlying45 hv
  obtain ⟨fuel, hf⟩ := h
  rcases open_ints Try.underlying45 Try.underlying5 (by kernel_rfl) hf with ⟨hcs, hx⟩ | ⟨a, len', cap', zs, hcs, _, hl, hm, hz, hx, hcell, hwz⟩
  · simp [Value.cells] at hcs
    obtain ⟨rfl, rfl, rfl⟩ := hcs
    exact ⟨none, [], 0, rfl, ⟨rfl, fun h0 => by simp [byteCells] at h0⟩, Nat.le_refl _, Nat.zero_le _⟩
  · simp [Value.cells] at hcs
    obtain ⟨rfl, rfl, rfl⟩ := hcs
    simp only [if_true] at hz

    refine ⟨some a, ((zs.take n).map fun z => UInt8.ofNat z.toNat), c, by simp; omega, ⟨by simp [byteCells], fun h0 => ?_⟩, by simp; omega, hm⟩
    have hn : 0 < n := by simp [byteCells] at h0; omega
    obtain ⟨b, o, s⟩ := a
    obtain rfl : s = none := by simpa [Addr.add] using World.cell?_spot (hcell 0 (by omega))
    have hc0 := hcell 0 (by omega)
    refine ⟨b, o, rfl, ?_, fun j u hu => ?_⟩
    · rcases Nat.lt_or_ge b w.heap.size with h1 | h1
      · exact h1
      · rw [Addr.add_lit] at hc0
        simp [World.cell?, Array.getElem?_eq_none h1] at hc0
    · have hj : j < n := by have := (List.getElem?_eq_some_iff.1 hu).1; simp [byteCells] at this; omega
      have h1 := hcell j (by omega)
      rw [Addr.add_lit] at h1
      rw [h1]
      have hzj : zs[j]? = some (zs.getD j 0) := by
        rw [List.getD_eq_getElem?_getD, List.getElem?_eq_getElem (by omega)]; rfl
      have hw := hwz _ (List.mem_of_getElem? hzj)
      simp only [Lit.wf, Bool.and_eq_true, decide_eq_true_eq, show IntKind.u8.min = 0 from rfl, show IntKind.u8.max = 255 from rfl] at hw
      simp only [byteCells, List.getElem?_map, List.getElem?_take_of_lt hj, hzj, Option.map_some, Option.some.injEq] at hu
      rw [← hu]
      congr 2
      rw [UInt8.toNat_ofNat']
      omega
end Go.Proofs.Ythhckledkhcfeaa
namespace Go.Proofs.Ythhckledkhcfeaa
open Go.RowKit Go.ChangeShapes Go.WideShapes Go.ChangeAt Go.Deep
section
variable {H : Type} {enc : TypeId × Value → H} {w : World} {base : Nat} {held : Bool}
set_option maxRecDepth 100000 in
theorem bytes_trod {fuel : Nat} {v : Value} {y : DataW H × List MemPlace} (hf : DataW.trod enc Try.prog w base (fun _ => true) held fuel 45 [v] = some y) :
    ∃ (A : Option Addr) (T : List UInt8) (c : Nat), v = .slice A T.length c ∧ View w 1 A T.length (byteCells T) ∧ T.length ≤ c ∧ c ≤ maxLen := by
  rcases open_ints Try.underlying45 Try.underlying5 (by kernel_rfl) hf with ⟨hcs, hx⟩ | ⟨a, n, c, zs, hcs, _, hl, hm, hz, hx, hcell, hwz⟩
  · simp at hcs
    exact ⟨none, [], 0, hcs, ⟨rfl, fun h0 => by simp [byteCells] at h0⟩, Nat.le_refl _, Nat.zero_le _⟩
  · simp at hcs
    subst hcs
    simp only [if_true] at hz
    refine ⟨some a, ((zs.take n).map fun z => UInt8.ofNat z.toNat), c, by simp; omega, ⟨by simp [byteCells], fun h0 => ?_⟩, by simp; omega, hm⟩
    have hn : 0 < n := by simp [byteCells] at h0; omega
    obtain ⟨b, o, s⟩ := a
    obtain rfl : s = none := by simpa [Addr.add] using World.cell?_spot (hcell 0 (by omega))
    have hc0 := hcell 0 (by omega)
    refine ⟨b, o, rfl, ?_, fun j u hu => ?_⟩
    · rcases Nat.lt_or_ge b w.heap.size with h1 | h1
      · exact h1
      · rw [Addr.add_lit] at hc0
        simp [World.cell?, Array.getElem?_eq_none h1] at hc0
    · have hj : j < n := by have := (List.getElem?_eq_some_iff.1 hu).1; simp [byteCells] at this; omega
      have h1 := hcell j (by omega)
      rw [Addr.add_lit] at h1
      rw [h1]
      have hzj : zs[j]? = some (zs.getD j 0) := by
        rw [List.getD_eq_getElem?_getD, List.getElem?_eq_getElem (by omega)]; rfl
      have hw := hwz _ (List.mem_of_getElem? hzj)
      simp only [Lit.wf, Bool.and_eq_true, decide_eq_true_eq, show IntKind.u8.min = 0 from rfl, show IntKind.u8.max = 255 from rfl] at hw
      simp only [byteCells, List.getElem?_map, List.getElem?_take_of_lt hj, hzj, Option.map_some, Option.some.injEq] at hu
      rw [← hu]
      congr 2
      rw [UInt8.toNat_ofNat']
      omega
theorem i64_of_wf {a : Int} (h : (Lit.int .i64 a).wf = true) : I64 a := by
  simp only [Lit.wf, Bool.and_eq_true, decide_eq_true_eq, show IntKind.i64.min = -9223372036854775808 from rfl, show IntKind.i64.max = 9223372036854775807 from rfl] at h
  exact h
set_option maxRecDepth 100000 in
theorem act_trod {fuel : Nat} {cs : List Value} {y : DataW H × List MemPlace} (hf : DataW.trod enc Try.prog w base (fun _ => true) held fuel 64 cs = some y) : ∃ q : Ac, cs = q.cells ∧ q.Ok w := by
  have hC : Try.prog.cellsOf 64 = 7 := by kernel_rfl
  have c3 : Try.prog.cellsOf 3 = 1 := by kernel_rfl
  have c45 : Try.prog.cellsOf 45 = 1 := by kernel_rfl
  obtain ⟨xs, m, _, hx, hcl, hlen, hg⟩ := DataW.trod_struct Try.underlying64 hf
  rw [hC] at hcl
  match cs, hcl with
  | [u0, u1, u2, u3, u4, u5, u6], _ =>
    match xs, hlen with
    | [y0, y1, y2, y3, y4, y5, y6], _ =>
      have g0 := hg 0 _ rfl
      have g1 := hg 1 _ rfl
      have g2 := hg 2 _ rfl
      have g3 := hg 3 _ rfl
      have g4 := hg 4 _ rfl
      have g5 := hg 5 _ rfl
      have g6 := hg 6 _ rfl
      simp [c3, c45] at g0 g1 g2 g3 g4 g5 g6
      obtain ⟨dO, e0, -, w0⟩ := DataW.trod_int Try.underlying3 g0
      obtain ⟨a, e1, -, w1⟩ := DataW.trod_int Try.underlying3 g1
      obtain ⟨c, e2, -, w2⟩ := DataW.trod_int Try.underlying3 g2
      obtain ⟨k, e3, -, w3⟩ := DataW.trod_int Try.underlying3 g3
      obtain ⟨n, e4, -, w4⟩ := DataW.trod_int Try.underlying3 g4
      obtain ⟨m, e5, -, w5⟩ := DataW.trod_int Try.underlying3 g5
      obtain ⟨A, T, cc, e6, hv, hl, hm⟩ := bytes_trod g6
      simp only [List.cons.injEq, and_true] at e0 e1 e2 e3 e4 e5
      exact ⟨⟨dO, a, c, k, n, m, A, cc, T⟩, by rw [e0, e1, e2, e3, e4, e5, e6]; rfl, ⟨i64_of_wf w1, i64_of_wf w2, i64_of_wf w3, i64_of_wf w4, i64_of_wf w5, hv, Nat.le_trans hl hm⟩⟩
set_option maxRecDepth 100000 in
theorem acts_open {r : Reach} {b0 : Nat} {v : Value} {d : DataW H} {p : List MemPlace} (hv : Value.okWide Try.prog w r b0 44 v) (h : DataW.Trod enc Try.prog w base (fun _ => true) held 44 v d p) :
    ∃ (A : Option Addr) (acts : List Ac) (c : Nat), v = .slice A acts.length c ∧ View w 7 A acts.length (acts.flatMap Ac.cells) ∧ (∀ q ∈ acts, q.Ok w) ∧ acts.length ≤ 9223372036854775807 := by
  have hC : Try.prog.cellsOf 64 = 7 := by kernel_rfl
  obtain ⟨A, len, c, rfl⟩ := okWide_slice Try.underlying44 hv
  obtain ⟨fuel, hf⟩ := h
  rcases open_slice Try.underlying44 hf with ⟨hcs, -⟩ | ⟨a, len', cap, m, n, D, Pl, hcs, -, hl, hm, hmm, -, hi⟩
  · simp [Value.cells] at hcs
    obtain ⟨rfl, rfl, rfl⟩ := hcs
    exact ⟨none, [], 0, rfl, ⟨rfl, fun h0 => by simp at h0⟩, fun q hq => by simp at hq, Nat.zero_le _⟩
  · simp [Value.cells] at hcs
    obtain ⟨rfl, rfl, rfl⟩ := hcs
    simp only [if_true] at hmm
    subst hmm
    have hq : ∀ i, i < len → ∃ q : Ac, q.Ok w ∧ ∀ j u, q.cells[j]? = some u → w.cell? ((a.add (i * 7)).add j) = some u := fun i hil => by
      obtain ⟨cs', hc, ht⟩ := hi i (by omega)
      rw [hC] at hc
      obtain ⟨q, rfl, hqo⟩ := act_trod ht
      obtain ⟨_, hcl, hat⟩ := World.cells?_some hc
      refine ⟨q, hqo, fun j u hu => ?_⟩
      rw [← hu]
      exact hat j (by rw [← hcl]; exact (List.getElem?_eq_some_iff.1 hu).1)
    obtain ⟨f, hfq⟩ : ∃ f : Nat → Ac, ∀ i, i < len → (f i).Ok w ∧ ∀ j u, (f i).cells[j]? = some u → w.cell? ((a.add (i * 7)).add j) = some u :=
      ⟨fun i => if h : i < len then (hq i h).choose else ⟨0, 0, 0, 0, 0, 0, none, 0, []⟩, fun i h => by simp only [h, dif_pos]; exact (hq i h).choose_spec⟩
    have hll : ((List.range len).map f).length = len := by simp
    refine ⟨some a, (List.range len).map f, _, by rw [hll], ⟨by rw [length_flat Ac.cells 7 (fun _ => rfl)], fun h0 => ?_⟩, fun q hq => ?_, by rw [hll]; exact Nat.le_trans hl hm⟩
    · have hn : 0 < len := by rw [length_flat Ac.cells 7 (fun _ => rfl), hll] at h0; omega
      obtain ⟨b, o, s⟩ := a
      have hc0 := (hfq 0 hn).2 0 _ rfl
      obtain rfl : s = none := by simpa [Addr.add] using World.cell?_spot hc0
      rw [Addr.add_lit, Addr.add_lit] at hc0
      refine ⟨b, o, rfl, ?_, fun k u hu => ?_⟩
      · rcases Nat.lt_or_ge b w.heap.size with h1 | h1
        · exact h1
        · simp [World.cell?, Array.getElem?_eq_none h1] at hc0
      · have hk : k < len * 7 := by
          have := (List.getElem?_eq_some_iff.1 hu).1
          rw [length_flat Ac.cells 7 (fun _ => rfl), hll] at this
          exact this
        have hik : k / 7 < len := by omega
        have hkk : k = k / 7 * 7 + k % 7 := by omega
        rw [hkk, getElem?_flat Ac.cells 7 (fun _ => rfl) _ (k / 7) (f (k / 7)) (k % 7) (by simp [hik]) (Nat.mod_lt _ (by decide))] at hu
        have := (hfq (k / 7) hik).2 (k % 7) u hu
        rw [Addr.add_lit, Addr.add_lit] at this
        rw [show o + k = o + k / 7 * 7 + k % 7 by omega]
        exact this
    · obtain ⟨i, hi, rfl⟩ := List.mem_map.1 hq
      exact (hfq i (by simpa using hi)).1
end
end Go.Proofs.Ythhckledkhcfeaa
