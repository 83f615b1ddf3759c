/- SaveStrings: its walk. The store's copy: clones. -/
import Derived.Test.YthhckledkhcfeaaQ05
import Derived.Test.YthhckledkhcfeaaQ11
import Derived.Test.YthhckledkhcfeaaQ16
namespace Go.Proofs.Ythhckledkhcfeaa
open Go.RowKit
abbrev nmK : ByteArray := ⟨#[107]⟩
abbrev obK : Ob := ⟨5, false, 0, 0, nmK, 0, 0, 0⟩
abbrev obI (n : Int) : Ob := ⟨1, false, 0, n, ByteArray.empty, 0, 0, 0⟩
def ss (T : List UInt8) (l : List Ob) (D : Dc) (fr : Int) (cs : List Chg) (ms : List Szs) : St := ⟨fr, [T], [l], [D], cs, ms⟩
theorem key_K (σ : St) : σ.key obK = (obK, 0) := by
  simp [St.key, St.valid, Ob.bare]
abbrev smk (f : Int) : Szs := ⟨1, 1, 1, f, 0⟩
abbrev ch1 : Chg := ⟨0, 0, 0, (Ob.null, Ob.null)⟩
abbrev ch2 : Chg := ⟨1, 0, 0, (obK, obI 1)⟩
abbrev ch3 : Chg := ⟨4, 0, 0, (Ob.null, Ob.null)⟩
theorem setD_new (T : List UInt8) (l : List Ob) (f : Int) : (ss T l ⟨3, 0, []⟩ f [] []).setD 0 ⟨3, 0, []⟩ obK (obI 1) = (ss T l ⟨3, 0, [(obK, obI 1)]⟩ f [] [], 0) := by
  simp [St.setD, idxOf, St.noted, ss]
theorem setD_old (T : List UInt8) (l : List Ob) (f : Int) : (ss T l ⟨3, 0, [(obK, obI 1)]⟩ f [ch1] [smk f]).setD 0 ⟨3, 0, [(obK, obI 1)]⟩ obK (obI 2) = (ss T l ⟨3, 0, [(obK, obI 2)]⟩ f [ch1, ch2] [smk f], 0) := by
  simp [St.setD, idxOf, St.noted, ss, isKey, obEq_self]
theorem ss_write (T T' : List UInt8) (l : List Ob) (D : Dc) (f : Int) (cs : List Chg) (ms : List Szs) : ({ ss T l D f cs ms with texts := (ss T l D f cs ms).texts.set 0 T' } : St) = ss T' l D f cs ms := rfl
theorem ss_put (T : List UInt8) (l l' : List Ob) (D : Dc) (f : Int) (cs : List Chg) (m : Szs) (c : Chg) : ({ (ss T l D f cs [m]).noted c with lists := (ss T l D f cs [m]).lists.set 0 l' } : St) = ss T l' D f (cs ++ [c]) [m] := rfl
theorem ss_lock (T : List UInt8) (l : List Ob) (D D' : Dc) (f : Int) (cs : List Chg) (m : Szs) (c : Chg) : ({ (ss T l D f cs [m]).noted c with dicts := (ss T l D f cs [m]).dicts.set 0 D' } : St) = ss T l D' f (cs ++ [c]) [m] := rfl
theorem set_back {k : Nat} : ((List.replicate k Ob.null).set 0 (obI 5)).set 0 Ob.null = List.replicate k Ob.null := by
  cases k <;> simp [List.replicate_succ]
def ssB (T : List UInt8) (k : Nat) (f : Int) : Nat → St
  | 0 => ss T (List.replicate k Ob.null) ⟨3, 0, [(obK, obI 1)]⟩ f [ch1, ch2, ch3] [smk f]
  | 1 => ss T ((List.replicate k Ob.null).set 0 (obI 5)) ⟨3, 0, [(obK, obI 1)]⟩ f [ch1, ch2, ch3] [smk f]
  | 2 => ss T ((List.replicate k Ob.null).set 0 (obI 5)) ⟨3, 0, [(obK, obI 2)]⟩ f [ch1, ch2, ch3] [smk f]
  | _ => ss T ((List.replicate k Ob.null).set 0 (obI 5)) ⟨3, 3, [(obK, obI 2)]⟩ f [ch1, ch2, ch3] [smk f]
theorem back_ss {p : Nat} {T : List UInt8} {k : Nat} {f : Int} (hk : 1 ≤ k) (hf : 0 ≤ f) (hf2 : f ≤ 3000) (W : World) (h' : Hd) (ρ' : Roles) (s : Sto W p (ss T ((List.replicate k Ob.null).set 0 (obI 5)) ⟨3, 3, [(obK, obI 2)]⟩ f [ch1, ch2, ch3] [smk f]) h' ρ') :
    Calls Try.prog 71 #[.pointer (some ⟨p, 0, none⟩), .int .i64 ((1 : Nat) : Int)] W fun e w' => e = .returned (.int .i64 0) ∧ StoTo W w' p ρ' (ss T (List.replicate k Ob.null) ⟨3, 0, [(obK, obI 1)]⟩ f [] [smk f]) := by
  have := back_c s 1 1 1 1 0 f (by omega) rfl (by simp [ss]) (by simp [ss]) (by simp [ss]) (by simp [ss]) hf (by omega) (ssB T k f) rfl (fun i => by
    match i with
    | 0 => exact ⟨rfl, rfl, rfl, rfl, rfl⟩
    | 1 => exact ⟨rfl, rfl, rfl, rfl, rfl⟩
    | 2 => exact ⟨rfl, rfl, rfl, rfl, rfl⟩
    | _ + 3 => exact ⟨rfl, rfl, rfl, rfl, rfl⟩) (fun i C _ hC W h' ρ' s' => by
    match i, hC with
    | 0, hC =>
      have hC : ch1 = C := by simpa [ss] using hC
      subst hC
      have := undo_put s' 0 0 (Ob.null, Ob.null) (l := (List.replicate k Ob.null).set 0 (obI 5)) rfl (by simp; omega)
      rw [set_back] at this
      exact this
    | 1, hC =>
      have hC : ch2 = C := by simpa [ss] using hC
      subst hC
      exact undo_set s' 0 0 (obK, obI 1) (D := ⟨3, 0, [(obK, obI 2)]⟩) rfl (by simp)
    | 2, hC =>
      have hC : ch3 = C := by simpa [ss] using hC
      subst hC
      exact undo_lock s' 0 0 (Ob.null, Ob.null) (D := ⟨3, 3, [(obK, obI 2)]⟩) rfl
    | _ + 3, hC => simp [ss] at hC)
  exact this
/-- The rest 's[lo:]' of a slice of bytes. -/
def restA (A : Option Addr) (c lo : Nat) : Option Addr := if c = lo then A else A.map (·.add (lo * 1))
theorem View.rest {w : World} {A : Option Addr} {n c lo : Nat} {l : List UInt8} (h : View w 1 A n (byteCells l)) (hlo : lo ≤ n) (hc : n ≤ c) : View w 1 (restA A c lo) (n - lo) (byteCells (l.drop lo)) := by
  have hl : l.length = n := by have := h.1; simp [byteCells] at this; exact this
  refine ⟨by simp [byteCells]; omega, fun h0 => ?_⟩
  have h1 : lo < n := by simp [byteCells] at h0; omega
  obtain ⟨g, o, rfl, hg, hj⟩ := h.2 (by simp [byteCells]; omega)
  refine ⟨g, o + lo, ?_, hg, fun j u hu => ?_⟩
  · unfold restA
    rw [if_neg (by omega), Option.map_some, Addr.add_lit, Nat.mul_one]
  · rw [Nat.add_assoc]
    refine hj _ _ ?_
    simp only [byteCells, List.getElem?_map, List.getElem?_drop] at hu ⊢
    exact hu
theorem run_rest {A : Option Addr} {n c lo : Nat} (hlo : lo ≤ n) (W : World) : (Instr.slice 45 (.slice A n c) (some (.int .i64 lo)) none none).run Try.prog W = .ok (.slice (restA A c lo) (n - lo) (c - lo)) W := by
  obtain ⟨i, hi, -, hs, -⟩ := info_parts info_u8
  have he : Try.prog.elem 45 = 5 := by simp [Program.elem, Try.underlying45]
  rw [run_slice_l (w := W) 45 A n c (by rw [he]; exact Try.underlying45) .i64 lo (by omega) (by omega), he, run_sizeOf W hi]
  have c5 : Try.prog.cellsOf 5 = 1 := by kernel_rfl
  simp [Result.andThen, sliced, restA, c5]
theorem hold_ss {T : List UInt8} {n k : Nat} {D : Dc} {l : List Ob} {f : Int} {cs : List Chg} {ms : List Szs} (hT : T.length = n) (hl : l.length = k) :
    ∀ q ∈ [[(⟨6, false, 0, 0, ByteArray.empty, 0, 0, n⟩ : Ob), ⟨7, false, 0, 0, ByteArray.empty, 0, 0, k⟩, ⟨8, false, 0, 0, ByteArray.empty, 0, 0, 0⟩]], ∀ o ∈ q, (ss T l D f cs ms).elder (smk f) o = true := by
  intro q hq o ho
  simp only [List.mem_cons, List.mem_nil_iff, or_false] at hq
  subst hq
  simp only [List.mem_cons, List.mem_nil_iff, or_false] at ho
  rcases ho with rfl | rfl | rfl <;> simp [St.elder, St.valid, ss, withinB, hT, hl]
theorem find_ss (T : List UInt8) (l : List Ob) (f : Int) (ms : List Szs) : (ss T l ⟨3, 0, [(obK, obI 1)]⟩ f [] ms).find ⟨8, false, 0, 0, ByteArray.empty, 0, 0, 0⟩ obK = (obI 1, true) := by
  unfold St.find
  rw [key_K]
  simp [St.isA, St.valid, ss, St.pairsOf, isKey, obEq_self]
/-- An append onto a new slice only makes memory. -/
theorem ext_app {w w' : World} {o : Go.Obj} {q : Option Nat} (h : (w.alloc o).grownBy w' q) (hq : ∀ b, q = some b → w.heap.size ≤ b) : Ext w w' :=
  ⟨h.os, h.tape, h.output, Nat.le_trans (by simp) h.size, fun b hb => (h.block b (by simp; omega) (fun e => by have := hq b e.symm; omega)).trans (Below.heap_alloc _ _ _ hb)⟩
theorem ext_app_d {w w' : World} {o : Go.Obj} {q : Option Nat} (h : ((w.alloc o).drew).grownBy w' q) (hq : ∀ b, q = some b → w.heap.size ≤ b) : Ext w w' :=
  ⟨h.os, h.tape, h.output, Nat.le_trans (by simp) h.size, fun b hb => (h.block b (by simp; omega) (fun e => by have := hq b e.symm; omega)).trans (Below.heap_alloc _ _ _ hb)⟩
theorem ext_grown {w w' w'' : World} {q : Option Nat} (hx : Ext w w') (h : w'.grownBy w'' q) (hq : ∀ b, q = some b → w.heap.size ≤ b) : Ext w w'' :=
  ⟨h.os.trans hx.os, h.tape.trans hx.tape, h.output.trans hx.output, Nat.le_trans hx.size h.size, fun b hb => (h.block b (Nat.lt_of_lt_of_le hb hx.size) (fun e => by have := hq b e.symm; omega)).trans (hx.at_ hb)⟩
set_option maxRecDepth 100000 in
set_option maxHeartbeats 4000000 in
theorem SaveStrings_walk {A B : Option Addr} {c d : Nat} {T U : List UInt8} (n k : Nat) (hk : (n : Int) % 20 + 1 = (k : Int)) (hn : n ≤ 255) (w : World) (hT : View w 1 A T.length (byteCells T)) (hU : View w 1 B U.length (byteCells U))
    (hTl : T.length ≤ 9223372036854775807) (hUl : U.length ≤ 9223372036854775807) (hTc : T.length ≤ c) (hTc2 : c ≤ 9223372036854775807) :
    Calls Try.prog 9 #[.slice A T.length c, .slice B U.length d, .int .u8 n] w fun e w' => e = .returned (.bool true) ∧ Ext w w' := by
  obtain ⟨iB, hiB, hzB, hsB, hbB⟩ := info_parts info_u8
  have hk1 : 1 ≤ k := by omega
  have hk20 : k ≤ 20 := by omega
  obtain ⟨tn, htn⟩ : ∃ q, q = T.length := ⟨_, rfl⟩
  obtain ⟨un, hun⟩ : ∃ q, q = U.length := ⟨_, rfl⟩
  rw [← htn] at hT hTl hTc ⊢
  rw [← hun] at hU hUl ⊢
  have hHt := Lib.hid htn
  have hHu := Lib.hid hun
  have hVT := Lib.hid hT
  have hVU := Lib.hid hU
  clear htn hun hT hU
  go_enter Try.func9, Try.ntmps9
  go_upto_region 2 with (
    go_at_call 12
    refine (new_ok 3000 w (by omega) (by omega)).mono ?_
    rintro e w1 ⟨rfl, s1, hx1⟩)
  go_upto_region 3 with (
    go_at_call 18
    refine (saveNew w1 _).mono ?_
    rintro e w2 ⟨rfl, b2, hx2⟩)
  have hv2 : Sv w2 w1.heap.size w.heap.size (.empty 3000) .empty (.one w.heap.size) .nil [] 0 :=
    ⟨s1.ext hx2, Sav.new_ b2, s1.fresh (Nat.le_refl _), fun g hg => by simp [Sl.blk] at hg, by simp [Sl.blk]⟩
  have hf2 : Fr w w2 (svOwn w1.heap.size .nil (.one w.heap.size)) := ⟨hx1.trans_ hx2, fun b hb => by
    rcases hb with hb | hb | hb
    · rw [Roles.one_own hb]; exact Nat.le_refl _
    · rw [hb]; exact hx1.size
    · simp [Sl.blk] at hb⟩
  clear b2 s1 hx2
  generalize hV : w1.heap.size = V at hv2 hf2 ⊢
  clear hV hx1
  by_cases hbig : 500 < tn
  · have hbigi : (500 : Int) < tn := by omega
    go_upto_region 4 with (go_at_call 20; refine (answers6 _).mono ?_; rintro e w3 ⟨rfl, hq3⟩)
    go_wp2_with (go_at_call 20; refine (answers6 _).mono ?_; rintro e w4 ⟨rfl, hq4⟩)
    go_ret
    exact ⟨rfl, (hf2.ext_ (hq3.trans_ hq4)).ext⟩
  · by_cases hbig2 : tn < un
    · have hbigi : ¬ (500 : Int) < tn := by omega
      have hbigj : (tn : Int) < un := by omega
      go_upto_region 4 with (go_at_call 20; refine (answers6 _).mono ?_; rintro e w3 ⟨rfl, hq3⟩)
      go_wp2_with (go_at_call 20; refine (answers6 _).mono ?_; rintro e w4 ⟨rfl, hq4⟩)
      go_ret
      exact ⟨rfl, (hf2.ext_ (hq3.trans_ hq4)).ext⟩
    · have ht5 : tn ≤ 500 := by omega
      have hut : un ≤ tn := by omega
      clear hbig hbig2
      go_upto_region 5 with (go_at_call 20; refine (answers6 _).mono ?_; rintro e w3 ⟨rfl, hq3⟩)
      have hv3 := hv2.ext hq3
      have hf3 := hf2.ext_ hq3
      clear hv2 hf2 hq3
      -- the string
      go_upto_region 6 with (first
        | (go_at_call 25
           refine (Text_ok (bs := T) (hv3.sto.ext hxA) hvA hapA (by have := hHt.out; omega) (by have := hHt.out; simp only [St.empty]; omega)).mono ?_
           rintro e w5 ⟨rfl, hs5⟩)
        | (at_builtin
           refine wpList_app (by rfl) _ _ _ (by rfl) 5 iB _ 1 1 Try.underlying45 hiB hzB hsB hbB rfl (by omega) ⟨some ⟨w3.heap.size, 0, none⟩, 0, 0⟩ (by rfl) (Row.lit (cs := []) (n := 0) (Blk.new w3 5 []) rfl (by omega)) (by rfl) ((hVT.out.ext hf3.ext).ext ((Ext.rfl_ _).alloc_ _)) (byteCells_one T) (by simp only [maxLen]; omega) (by dsimp only; omega) ?_
           rintro ⟨va, vn, vc⟩ w4 hrow4 hlen4 hgrow4 hat4
           have hvn : vn = T.length := by have h5 := hrow4.len; simp [byteCells] at h5; exact h5.symm
           subst hvn
           have hxA : Ext w3 w4 := ext_app hgrow4 (fun b hb => by simp [Sl.blk] at hb; omega)
           have hvA : View w4 1 va T.length (byteCells T) := by simpa using View.of_row hrow4
           have hapA : ∀ g o, va = some ⟨g, o, none⟩ → Roles.one w.heap.size g = none := fun g o hg => hv3.sto.fresh (by
             rcases hat4 with h4 | h4 <;> simp [Sl.blk, hg] at h4 <;> omega)))
      obtain ⟨h5, ρ5, t5, hv5', m5⟩ := (hv3.ext hxA).sto_to hs5
      have hf5' := (hf3.ext_ hxA).moves m5
      generalize hX5 : World.alloc w5 _ = X5
      obtain ⟨lo, hxo⟩ := hv5'.loc hX5
      have hv5 := hv5'.ext hxo
      have hf5 := hf5'.ext_ hxo
      clear hX5 hv5' hf5' hxo hv3 hf3 hxA hvA hapA hs5 m5
      obtain ⟨fr, hfr⟩ : ∃ fr : Int, fr = 3000 - (1 + ((T.length : Int) + 7) / 8) := ⟨_, rfl⟩
      have hfr1 : 2000 ≤ fr ∧ fr ≤ 3000 := by have := hHt.out; omega
      have hσ5 : ({ St.empty 3000 with free := (St.empty 3000).free - (1 + ((T.length : Int) + 7) / 8), texts := (St.empty 3000).texts ++ [T] } : St) = ⟨fr, [T], [], [], [], []⟩ := by rw [hfr]; rfl
      rw [hσ5] at hv5
      clear hfr hσ5
      -- the array
      go_upto_region 7 with (
        go_at_call 13
        refine (array_ok hv5.sto k (by omega) (by show 1 + (k : Int) ≤ fr; omega)).mono ?_
        rintro e w6 ⟨rfl, hs6⟩)
      obtain ⟨h6, ρ6, t6, hv6', m6⟩ := hv5.sto_to hs6
      have hf6' := hf5.moves m6
      have lo6 := lo.moves m6
      generalize hX6 : World.alloc w6 _ = X6
      obtain ⟨la, hxa⟩ := hv6'.loc hX6
      have hv6 := hv6'.ext hxa
      have hf6 := hf6'.ext_ hxa
      have lo6' := lo6.ext_ hxa
      clear hX6 hv6' hf6' hxa hv5 hf5 lo lo6 hs6 m6
      -- the dictionary
      go_upto_region 8 with (
        go_at_call 53
        refine (dict_ok hv6.sto 3 (by omega) (by show 1 + 2 * 3 ≤ fr - (1 + (k : Int)); omega)).mono ?_
        rintro e w7 ⟨rfl, hs7⟩)
      obtain ⟨h7, ρ7, t7, hv7', m7⟩ := hv6.sto_to hs7
      have hf7' := hf6.moves m7
      have lo7 := lo6'.moves m7
      have la7 := la.moves m7
      generalize hX7 : World.alloc w7 _ = X7
      obtain ⟨ld, hxd⟩ := hv7'.loc hX7
      have hv7 := hv7'.ext hxd
      have hf7 := hf7'.ext_ hxd
      have lo7' := lo7.ext_ hxd
      have la7' := la7.ext_ hxd
      clear hX7 hv7' hf7' hxd hv6 hf6 lo6' la lo7 la7 hs7 m7
      obtain ⟨f2, hf2⟩ : ∃ f2 : Int, f2 = fr - (1 + (k : Int)) - (1 + 2 * 3) := ⟨_, rfl⟩
      have hf21 : 0 ≤ f2 ∧ f2 ≤ 3000 := by omega
      have hv8 : Sv X7 V w.heap.size (ss T (List.replicate k Ob.null) ⟨3, 0, []⟩ f2 [] []) h7 ρ7 t7 [] 0 := by rw [hf2]; exact hv7
      clear hv7 hf2 hfr1
      go_upto_region 11 with fail
      generalize hX8 : World.alloc X7 _ = X8
      obtain ⟨lk, hxk⟩ := hv8.loc hX8
      have hv9 := hv8.ext hxk
      have hf9 := hf7.ext_ hxk
      have lo9 := lo7'.ext_ hxk
      have la9 := la7'.ext_ hxk
      have ld9 := ld.ext_ hxk
      clear hX8 hv8 hxk hf7 lo7' la7' ld
      have hcd := ld9.blk.cell
      have hck := lk.blk.cell
      -- Set
      go_upto_region 12 with (
        go_at_call 36
        refine (set_c hv9.sto false 0 0 ByteArray.empty 0 0 0 (D := ⟨3, 0, []⟩) rfl 5 false 0 0 nmK 0 0 0 ⟨by omega, by omega⟩ (key_K _) 1 false 0 1 ByteArray.empty 0 0 0 (by rfl) (by simp [ss]) (setD_new _ _ _)).mono ?_
        rintro e w9 ⟨rfl, hs9⟩)
      obtain ⟨h9, ρ9, t9, hv10, m9⟩ := hv9.sto_to hs9
      have hf10 := hf9.moves m9
      have lo10 := lo9.moves m9
      have la10 := la9.moves m9
      have ld10 := ld9.moves m9
      have lk10 := lk.moves m9
      clear hv9 hf9 lo9 la9 ld9 lk hs9 m9 hcd hck
      -- Save
      go_upto_region 13 with (
        go_at_call 19
        refine (save_ok hv10 (by simp) (by simp [ss]) (by omega)).mono ?_
        rintro e w10 ⟨rfl, h11, ρ11, t11, hv11', m11⟩)
      generalize hX11 : World.alloc w10 _ = X11
      obtain ⟨lx, hxx⟩ := hv11'.loc hX11
      have hv11 : Sv X11 V w.heap.size (ss T (List.replicate k Ob.null) ⟨3, 0, [(obK, obI 1)]⟩ f2 [] [smk f2]) h11 ρ11 t11 [(1, ((1 : Nat) : Int))] 1 := hv11'.ext hxx
      have hf11 := (hf10.moves m11).ext_ hxx
      have lo11 := (lo10.moves m11).ext_ hxx
      have la11 := (la10.moves m11).ext_ hxx
      have ld11 := (ld10.moves m11).ext_ hxx
      have lk11 := (lk10.moves m11).ext_ hxx
      clear hX11 hv11' hxx hv10 hf10 lo10 la10 ld10 lk10 m11
      -- Write
      have hco := lo11.blk.cell
      have hw := write_ok hv11.sto false 0 0 ByteArray.empty 0 0 T.length T rfl (by simp) 0 (bs := U) (c := d) (by rw [← hHu.out]; exact hVU.out.ext hf11.ext) (by have := hHt.out; have := hHu.out; omega)
      rw [← hHu.out] at hw
      have hW := Lib.hid hw
      clear hw
      go_upto_region 14 with (
        go_at_call 29
        refine hW.out.mono ?_
        rintro e w12 ⟨rfl, hs12⟩)
      clear hW hco
      obtain ⟨T', hT'⟩ : ∃ T', T' = splice T (0 + 0) U := ⟨_, rfl⟩
      rw [ss_write, ← hT'] at hs12
      obtain ⟨h12, ρ12, t12, hv12, m12⟩ := hv11.sto_to hs12
      have hf12 := hf11.moves m12
      have lo12 := lo11.moves m12
      have la12 := la11.moves m12
      have ld12 := ld11.moves m12
      have lk12 := lk11.moves m12
      have lx12 := lx.moves m12
      have hHT' := Lib.hid hT'
      clear hv11 hf11 lo11 la11 ld11 lk11 lx hs12 m12 hT'
      -- Put
      have hca := la12.blk.cell
      have hrep0 : (List.replicate k Ob.null)[0 + 0]? = some Ob.null := by rw [List.getElem?_replicate, if_pos (by omega)]
      have hrep := Lib.hid hrep0
      clear hrep0
      go_upto_region 15 with (
        go_at_call 16
        refine (put_ok hv12.sto false 0 0 ByteArray.empty 0 0 k 0 (List.replicate k Ob.null) Ob.null rfl (by simp) (by omega) hrep.out 1 false 0 5 ByteArray.empty 0 0 0 (by rfl) (by simp [ss])).mono ?_
        rintro e w13 ⟨rfl, hs13⟩)
      rw [ss_put] at hs13
      obtain ⟨h13, ρ13, t13, hv13', m13⟩ := hv12.sto_to hs13
      have hv13 : Sv w13 V w.heap.size (ss T' ((List.replicate k Ob.null).set 0 (obI 5)) ⟨3, 0, [(obK, obI 1)]⟩ f2 [ch1] [smk f2]) h13 ρ13 t13 [(1, ((1 : Nat) : Int))] 1 := hv13'
      have hf13 := hf12.moves m13
      have lo13 := lo12.moves m13
      have la13 := la12.moves m13
      have ld13 := ld12.moves m13
      have lk13 := lk12.moves m13
      have lx13 := lx12.moves m13
      clear hv12 hv13' hf12 lo12 la12 ld12 lk12 lx12 hs13 m13 hca
      -- Set
      have hcd := ld13.blk.cell
      have hck := lk13.blk.cell
      go_upto_region 16 with (
        go_at_call 36
        refine (set_c hv13.sto false 0 0 ByteArray.empty 0 0 0 (D := ⟨3, 0, [(obK, obI 1)]⟩) rfl 5 false 0 0 nmK 0 0 0 ⟨by omega, by omega⟩ (key_K _) 1 false 0 2 ByteArray.empty 0 0 0 (by rfl) (by simp [ss]) (setD_old _ _ _)).mono ?_
        rintro e w14 ⟨rfl, hs14⟩)
      obtain ⟨h14, ρ14, t14, hv14, m14⟩ := hv13.sto_to hs14
      have hf14 := hf13.moves m14
      have lo14 := lo13.moves m14
      have la14 := la13.moves m14
      have ld14 := ld13.moves m14
      have lk14 := lk13.moves m14
      have lx14 := lx13.moves m14
      clear hv13 hf13 lo13 la13 ld13 lk13 lx13 hs14 m14 hcd hck
      -- Lock
      have hcd := ld14.blk.cell
      go_upto_region 17 with (
        go_at_call 41
        refine (lock_ok hv14.sto false 0 0 ByteArray.empty 0 0 0 (D := ⟨3, 0, [(obK, obI 2)]⟩) rfl 3 (by omega) (by omega) (by simp [ss])).mono ?_
        rintro e w15 ⟨rfl, hs15⟩)
      rw [ss_lock] at hs15
      obtain ⟨h15, ρ15, t15, hv15', m15⟩ := hv14.sto_to hs15
      have hv15 : Sv w15 V w.heap.size (ss T' ((List.replicate k Ob.null).set 0 (obI 5)) ⟨3, 3, [(obK, obI 2)]⟩ f2 [ch1, ch2, ch3] [smk f2]) h15 ρ15 t15 [(1, ((1 : Nat) : Int))] 1 := hv15'
      have hf15 := hf14.moves m15
      have lo15 := lo14.moves m15
      have la15 := la14.moves m15
      have ld15 := ld14.moves m15
      have lk15 := lk14.moves m15
      have lx15 := lx14.moves m15
      clear hv14 hv15' hf14 lo14 la14 ld14 lk14 lx14 hs15 m15 hcd
      have hco := lo15.blk.cell
      have hca := la15.blk.cell
      have hcd := ld15.blk.cell
      have hcx := lx15.blk.cell
      have hTlen : T'.length = T.length := by
        rw [hHT'.out]
        exact length_splice _ _ _ (by have := hHt.out; have := hHu.out; omega)
      have hLn := Lib.hid hTlen
      clear hTlen
      go_upto_region 19 with (
        go_at_call 21
        refine (restore_held (hv15.ext (((Ext.rfl_ _).alloc_ _).alloc_ _)) (i := 0) rfl (by rfl) false 0 ByteArray.empty 0 0 0 (back_ss hk1 (by omega) (by omega))
          (Lists.one (k := [(⟨6, false, 0, 0, ByteArray.empty, 0, 0, T.length⟩ : Ob), ⟨7, false, 0, 0, ByteArray.empty, 0, 0, k⟩, ⟨8, false, 0, 0, ByteArray.empty, 0, 0, 0⟩]) ((Blk.new _ 27 _).alloc _) rfl (Blk.new1 _ _ 33 _) (n := 3) rfl (by omega)) (by omega) (smk f2) (by omega) rfl (hold_ss hLn.out (by simp))).mono ?_
        rintro e w16 ⟨rfl, h16, ρ16, t16, hv16', m16⟩)
      have hxb := ((Ext.rfl_ w15).alloc_ (.cells #[.int .i64 6, .bool false, .int .i64 0, .int .i64 0, .string ByteArray.empty, .int .i64 0, .int .i64 0, .int .i64 T.length, .int .i64 7, .bool false, .int .i64 0, .int .i64 0, .string ByteArray.empty, .int .i64 0, .int .i64 0, .int .i64 k, .int .i64 8, .bool false, .int .i64 0, .int .i64 0, .string ByteArray.empty, .int .i64 0, .int .i64 0, .int .i64 0] 27)).alloc_ (.cells #[.slice (some ⟨w15.heap.size, 0, none⟩) 3 3] 33)
      have hv16 : Sv w16 V w.heap.size (ss T' (List.replicate k Ob.null) ⟨3, 0, [(obK, obI 1)]⟩ f2 [] [smk f2]) h16 ρ16 t16 [] 1 := hv16'
      have hf16 := (hf15.ext_ hxb).moves m16
      have lo16 := (lo15.ext_ hxb).moves m16
      have la16 := (la15.ext_ hxb).moves m16
      have ld16 := (ld15.ext_ hxb).moves m16
      have lk16 := (lk15.ext_ hxb).moves m16
      clear hv15 hv16' hf15 lo15 la15 ld15 lk15 lx15 m16 hco hca hcd hcx hxb
      -- Bytes
      have hco := lo16.blk.cell
      go_upto_region 20 with (
        go_at_call 26
        refine (bytes_ok hv16.sto false 0 0 ByteArray.empty 0 0 T.length T' rfl (by rw [hLn.out]; omega)).mono ?_
        rintro e w17 ⟨⟨ba, bn, bc⟩, rfl, hvn, hfr17⟩
        dsimp only at hvn
        subst hvn)
      have hx17 : Ext w16 w17 := hfr17.2.2
      -- At
      have hca := (la16.ext_ hx17).blk.cell
      clear hco
      have hrep0 : (List.replicate k Ob.null)[0 + 0]? = some Ob.null := by rw [List.getElem?_replicate, if_pos (by omega)]
      have hrep := Lib.hid hrep0
      clear hrep0
      go_upto_region 21 with (
        go_at_call 54
        refine (at_ok (hv16.sto.ext hx17) false 0 0 ByteArray.empty 0 0 k 0 (List.replicate k Ob.null) Ob.null rfl (by simp) (by omega) hrep.out).mono ?_
        rintro e w18 ⟨rfl, hx18⟩)
      generalize hX18 : World.alloc w18 _ = X18
      obtain ⟨hxX18, hc21, -, hz21, hb21⟩ := boxed hX18
      clear hX18
      have hx18' : Ext w16 X18 := (hx17.trans_ hx18).trans_ hxX18
      clear hca
      -- Find
      have hcd := (ld16.ext_ hx18').blk.cell
      have hck := (lk16.ext_ hx18').blk.cell
      clear hc21
      have hF : Calls Try.prog 55 #[.pointer (some ⟨w.heap.size, 0, none⟩), .agg #[.int .i64 8, .bool false, .int .i64 0, .int .i64 0, .string ByteArray.empty, .int .i64 0, .int .i64 0, .int .i64 0], .agg #[.int .i64 5, .bool false, .int .i64 0, .int .i64 0, .string nmK, .int .i64 0, .int .i64 0, .int .i64 0]] X18 fun e w' =>
          e = .returned (.tuple #[.agg #[.int .i64 1, .bool false, .int .i64 0, .int .i64 1, .string ByteArray.empty, .int .i64 0, .int .i64 0, .int .i64 0], .bool true]) ∧ Ext X18 w' :=
        find_c (hv16.sto.ext hx18') 8 false 0 0 ByteArray.empty 0 0 0 5 false 0 0 nmK 0 0 0 ⟨by omega, by omega⟩ (find_ss _ _ _ _)
      have hHF := Lib.hid hF
      clear hF
      go_upto_region 22 with (
        go_at_call 55
        refine hHF.out.mono ?_
        rintro e w19 ⟨rfl, hx19⟩)
      generalize hX19 : World.alloc w19 _ = X19
      obtain ⟨hxX19, hc23, -, hz23, hb23⟩ := boxed hX19
      clear hX19 hc23 hcd hck
      have hxA : Ext X18 X19 := hx19.trans_ hxX19
      have hx19' : Ext w16 X19 := hx18'.trans_ hxA
      have hf19 := hf16.ext_ hx19'
      -- want
      have kR : ∀ W, (Instr.slice 45 (.slice A tn c) (some (.int .i64 un)) none none).run Try.prog W = .ok (.slice (restA A c un) (tn - un) (c - un)) W := run_rest hut
      obtain ⟨R, hR⟩ : ∃ R, restA A c un = R := ⟨_, rfl⟩
      rw [hR] at kR
      have hVR := ((hVT.out.ext hf19.ext).rest hut hTc)
      rw [hR] at hVR
      have hHR := Lib.hid hVR
      clear hR hVR
      refine wp_region_plan (C := fun w' => ∃ E : ExtOf X19, w' = E.w) [false, true, false, true, true, true, true, false, false] 7 2 (by kernel_rfl) (by kernel_rfl) (fun c a d v w h => by cases d <;> exact h) ⟨⟨_, (Ext.rfl_ X19).drew_⟩, rfl⟩ ?_
      simp only [pickQ, pickT]
      repeat (go_big_quiet_step (fail))
      refine wpQuiet_nil ?_
      refine wpTail_cons (fun K hK => ?_)
      go_simp
      refine hK _ _ ⟨⟨_, ((Ext.rfl_ X19).alloc_ _).drew_⟩, rfl⟩ ?_
      clear hK K
      refine wpTail_cons (fun K hK => ?_)
      refine step_app (by rfl) _ _ 45 (by rfl) 5 iB _ 1 1 Try.underlying45 hiB hzB hsB hbB rfl (by omega) ⟨some ⟨X19.heap.size, 0, none⟩, 0, 0⟩ (by rfl) (Row.lit (cs := []) (n := 0) (Blk.new X19 5 []).drew rfl (by omega)) (by rfl) ((hVU.out.ext hf19.ext).ext (((Ext.rfl_ _).alloc_ _).drew_)) (byteCells_one U) (by simp only [maxLen]; omega) (by dsimp only; omega) ?_
      rintro ⟨wa, wn, wc⟩ w20 hrow20 hlen20 hgrow20 hat20
      have hwn : wn = un := by have h5 := hlen20.out; dsimp only at h5; omega
      subst hwn
      have hx20 : Ext X19 w20 := ext_app_d hgrow20 (fun b hb => by simp [Sl.blk] at hb; omega)
      refine hK _ _ ⟨⟨_, hx20⟩, rfl⟩ ?_
      clear hK K
      refine wpTail_zero ?_
      have hb21' : Blk w20 w18.heap.size 27 _ := (hb21.ext hxA).ext hx20
      have hb23' := hb23.ext hx20
      have hd20 := ((ld16.ext_ hx19').ext_ hx20).blk
      have hHl := Lib.hid (show T.length = tn from hHt.out.symm)
      go_upto_region 23 with (
        at_builtin
        refine wpList_app (by rfl) _ _ _ (by rfl) 5 iB _ 1 1 Try.underlying45 hiB hzB hsB hbB rfl (by omega) ⟨wa, wn, wc⟩ (by rfl) hrow20 (by rfl) (hHR.out.ext hx20) (byteCells_one _) (by simp only [maxLen]; omega) (by dsimp only; omega) ?_
        rintro ⟨za, zn, zc⟩ w21 hrow21 hlen21 hgrow21 hat21
        have hzn : zn = T.length := by have h5 := hlen21.out; have h6 := hHl.out; dsimp only at h5; omega
        subst hzn)
      have hblkw : ∀ b, Sl.blk ⟨wa, wn, wc⟩ = some b → X19.heap.size ≤ b := fun b hb => by
        rcases hat20 with h4 | h4 <;> rw [hb] at h4 <;> simp [Sl.blk] at h4 <;> omega
      have hx21 : Ext X19 w21 := ext_grown hx20 hgrow21 hblkw
      have hv1 : View w21 1 ba T.length (byteCells (U ++ T.drop U.length)) := by
        have h1 := (View.of_row hfr17.1).ext (((hx18.trans_ hxX18).trans_ hxA).trans_ hx21)
        have e : (T'.drop 0).take T.length = U ++ T.drop U.length := by
          rw [List.drop_zero, List.take_of_length_le (by rw [hLn.out]; omega), hHT'.out]
          simp [splice]
        rw [e] at h1
        exact h1
      have hv2 : View w21 1 za T.length (byteCells (U ++ T.drop U.length)) := by
        have h1 := View.of_row hrow21
        have e : [] ++ byteCells U ++ byteCells (List.drop wn T) = byteCells (U ++ T.drop U.length) := by
          rw [hHu.out]; simp [byteCells]
        rw [e] at h1
        exact h1
      have hHv1 := Lib.hid hv1
      have hHv2 := Lib.hid hv2
      have hgr : ∀ b, b < X19.heap.size → w21.heap[b]? = X19.heap[b]? := fun b hb => hx21.at_ hb
      have hb21x : Blk w21 w18.heap.size 27 _ := (hb21.ext hxA).ext hx21
      have hb23x := hb23.ext hx21
      have hd21 := ((ld16.ext_ hx19').ext_ hx21).blk
      have hx21' : Ext w16 w21 := hx19'.trans_ hx21
      clear hv1 hv2 hgr hb21' hb23' hd20
      have htl : T.length ≤ 4294967296 := by have := hHt.out; omega
      go_wp2_with (first
        | (go_at_call 30; refine (same_c hHv1.out hHv2.out htl).mono ?_; rintro e w22 ⟨rfl, hx22⟩; have hc21 := (hb21x.ext hx22).cell; have hc23 := (hb23x.ext hx22).cell; have hcd := (hd21.ext hx22).cell)
        | (go_at_call 56; refine (access_ok (hv16.sto.ext (hx21'.trans_ hx22)) false 0 0 ByteArray.empty 0 0 0 (D := ⟨3, 0, [(obK, obI 1)]⟩) rfl).mono ?_; rintro e w23 ⟨rfl, hx23⟩))
      go_ret
      exact ⟨rfl, (hf16.ext_ ((hx21'.trans_ hx22).trans_ hx23)).ext⟩
end Go.Proofs.Ythhckledkhcfeaa
namespace Go.Proofs.Ythhckledkhcfeaa
open Go.RowKit
/-- Slices that were cloned, and the slice of them; all of it new, each in a block of its own. -/
structure Cln {β : Type} (w0 w : World) (et e : TypeId) (sz : Nat) (f : β → List Value) (out : Sl) (ts : List Sl) (bs : List β) : Prop where
  ext : Ext w0 w
  row : Row w et 1 out (slVals ts)
  len : ts.length = bs.length
  rows : ∀ (i : Nat) (t : Sl) (b : β), ts[i]? = some t → bs[i]? = some b → Row w e sz t (f b)
  low : ∀ (i : Nat) (t : Sl) (g : Nat), ts[i]? = some t → t.blk = some g → w0.heap.size ≤ g ∧ out.blk ≠ some g
  lt : ∀ (i : Nat) (t : Sl) (g : Nat), ts[i]? = some t → t.blk = some g → g < w.heap.size
  olow : ∀ g, out.blk = some g → w0.heap.size ≤ g
  inj : ∀ (i j : Nat) (t u : Sl) (g : Nat), ts[i]? = some t → ts[j]? = some u → t.blk = some g → u.blk = some g → i = j
section
variable {β : Type} {w0 w w1 w2 : World} {et e : TypeId} {sz : Nat} {f : β → List Value} {out out' t : Sl} {ts : List Sl} {bs : List β} {b : β}
theorem Cln.nil_ (w : World) (et e : TypeId) (sz : Nat) (f : β → List Value) : Cln w w et e sz f Sl.nil [] [] :=
  ⟨Ext.rfl_ w, Row.nil_ _ _ _, rfl, fun i t b h => by simp at h, fun i t g h => by simp at h, fun i t g h => by simp at h, fun g hg => by simp [Sl.blk] at hg, fun i j t u g h => by simp at h⟩
theorem Cln.step (c : Cln w0 w et e sz f out ts bs) (hf : Fresh w w1 e sz t (f b)) (o : Go.Obj) (hrow : Row w2 et 1 out' (slVals ts ++ [.slice t.a t.n t.c])) (hg : (w1.alloc o).grownBy w2 out.blk) (hat : out'.blk = out.blk ∨ out'.blk = some (w1.alloc o).heap.size) :
    Cln w0 w2 et e sz f out' (ts ++ [t]) (bs ++ [b]) := by
  obtain ⟨hr1, hlow1, hx1⟩ := hf
  have hX : (w1.alloc o).heap.size = w1.heap.size + 1 := by simp
  have hol : ∀ g, out.blk = some g → g < w.heap.size := fun g hg => c.row.blk_lt hg
  have hk1 : ∀ g, g < w1.heap.size → out.blk ≠ some g → w2.heap[g]? = w1.heap[g]? := fun g hg1 hn => (hg.block g (by omega) (fun e => hn e.symm)).trans (Below.heap_alloc _ _ _ hg1)
  have hs2 : w1.heap.size + 1 ≤ w2.heap.size := by rw [← hX]; exact hg.size
  have ht1 : ∀ g, t.blk = some g → g < w1.heap.size := fun g hg => hr1.blk_lt hg
  have hto : ∀ g, t.blk = some g → out.blk ≠ some g := fun g hg ho => by have := hol g ho; have := hlow1 g hg; omega
  refine ⟨ext_grown ((c.ext.trans_ hx1).alloc_ o) hg c.olow, by simpa [slVals] using hrow, by simp [c.len], ?_, ?_, ?_, ?_, ?_⟩
  · intro i u v hu hv
    rcases getElem?_snoc hu with h | ⟨h, rfl⟩
    · have hvi : bs[i]? = some v := by
        have hil := getElem?_lt h
        rw [List.getElem?_append_left (by rw [← c.len]; exact hil)] at hv
        exact hv
      exact (c.rows i u v h hvi).keep fun g hgu => (hk1 g (Nat.lt_of_lt_of_le ((c.rows i u v h hvi).blk_lt hgu) hx1.size) (c.low i u g h hgu).2).trans (hx1.at_ ((c.rows i u v h hvi).blk_lt hgu))
    · subst h
      have hvb : v = b := by
        rw [c.len, List.getElem?_append_right (Nat.le_refl _)] at hv
        simpa using hv.symm
      subst hvb
      exact hr1.keep fun g hgu => hk1 g (ht1 g hgu) (hto g hgu)
  · intro i u g hu hgu
    rcases getElem?_snoc hu with h | ⟨h, rfl⟩
    · refine ⟨(c.low i u g h hgu).1, ?_⟩
      rcases hat with h2 | h2
      · rw [h2]; exact (c.low i u g h hgu).2
      · rw [h2]; intro e; injection e with e; have := c.lt i u g h hgu; have := hx1.size; omega
    · refine ⟨Nat.le_trans c.ext.size (hlow1 g hgu), ?_⟩
      rcases hat with h2 | h2
      · rw [h2]; exact hto g hgu
      · rw [h2]; intro e; injection e with e; have := ht1 g hgu; omega
  · intro i u g hu hgu
    rcases getElem?_snoc hu with h | ⟨h, rfl⟩
    · have := c.lt i u g h hgu; have := hx1.size; omega
    · have := ht1 g hgu; omega
  · intro g hg'
    rcases hat with h2 | h2
    · rw [h2] at hg'; exact c.olow g hg'
    · rw [h2] at hg'; injection hg' with hg'; have := c.ext.size; have := hx1.size; omega
  · intro i j u v g hu hv hgu hgv
    rcases getElem?_snoc hu with h | ⟨h, rfl⟩
    · rcases getElem?_snoc hv with k | ⟨k, rfl⟩
      · exact c.inj i j u v g h k hgu hgv
      · have := c.lt i u g h hgu; have := hlow1 g hgv; omega
    · rcases getElem?_snoc hv with k | ⟨k, rfl⟩
      · have := c.lt j v g k hgv; have := hlow1 g hgu; omega
      · omega
end
set_option maxRecDepth 100000 in
set_option maxHeartbeats 2000000 in
theorem clonesT {w : World} {hd : Sl} {ts : List Sl} {bs : List (List UInt8)} (hr : Row w 45 1 hd (slVals ts)) (hl : ts.length = bs.length) (ht : ∀ (i : Nat) (t : Sl) (b : List UInt8), ts[i]? = some t → bs[i]? = some b → Row w 5 1 t (byteCells b)) (hb : ∀ b ∈ bs, b.length ≤ 65535) (hn : hd.n ≤ 1048576) :
    Calls Try.prog 75 #[.slice hd.a hd.n hd.c] w fun e w' => ∃ (v : Sl) (ts' : List Sl), e = .returned (.slice v.a v.n v.c) ∧ Cln w w' 45 5 1 byteCells v ts' bs := by
  obtain ⟨iS, hiS, hzS, hsS, hbS⟩ := info_parts info_u8s
  have hdn : ts.length = hd.n := by have := hr.len; simp [slVals] at this; omega
  obtain ⟨k, hk⟩ : ∃ k, k = hd.n := ⟨_, rfl⟩
  have hHr := Lib.hid hr
  have hHt := Lib.hid ht
  have hHb := Lib.hid hb
  have hHl := Lib.hid hl
  have hHd := Lib.hid hdn
  obtain ⟨A, n, c⟩ := hd
  dsimp only at hk hn ⊢
  subst hk
  clear hr ht hb hl hdn
  go_enter Try.func75, Try.ntmps75
  go_upto_region 3 with fail
  go_loopg [3, 8] k (fun gk s3 s8 wr => ∃ (i : Nat) (out : Sl) (ts' : List Sl), i ≤ k ∧ gk = k - i ∧ s8 = .int .i64 i ∧ s3 = .slice out.a out.n out.c ∧ Cln w wr 45 5 1 byteCells out ts' (bs.take i))
  case atStart => exact ⟨0, Sl.nil, [], Nat.zero_le _, rfl, rfl, rfl, by simpa using Cln.nil_ w 45 5 1 byteCells⟩
  case round =>
    obtain ⟨i, out, ts', hi, hgk, hs8, hs3, hc⟩ := hrel
    subst hs8
    subst hs3
    have hCl := Lib.hid hc
    by_cases hlt : i < k
    · have hlti : (i : Int) < k := by omega
      obtain ⟨t, ht⟩ : ∃ t, ts[i]? = some t := ⟨_, List.getElem?_eq_getElem (by have := hHd.out; omega)⟩
      obtain ⟨b, hb⟩ : ∃ b, bs[i]? = some b := ⟨_, List.getElem?_eq_getElem (by have := hHd.out; have := hHl.out; omega)⟩
      obtain ⟨g, hga, hgb⟩ := hHr.out.pos (show 0 < k by omega)
      dsimp only at hga
      subst hga
      have hcell : wr.cell? ⟨g, i, none⟩ = some (.slice t.a t.n t.c) := by
        rw [hc.ext.cells (hHr.out.blk_lt hgb) i, hHr.out.cell rfl i (by dsimp only; omega)]
        simp [slVals, ht]
      have hrt := (hHt.out i t b ht hb).ext hc.ext
      have hbl := hHb.out b (List.mem_of_getElem? hb)
      have htn : t.n = b.length := by have := hrt.len; simp [byteCells] at this; omega
      have hVt := Lib.hid (View.of_row hrt)
      have htb : t.n ≤ 4294967296 := by omega
      have hHtb := Lib.hid hb
      have hon : out.n = i := by
        have h1 := hc.row.len
        have h2 := hc.len
        have h3 := getElem?_lt hb
        simp [slVals] at h1 h2
        omega
      have hHon := Lib.hid hon
      have hob : out.n ≤ 1048576 := by omega
      clear ht hb hrt htn hc hon hbl
      obtain ⟨ta, tn, tc⟩ := t
      dsimp only at hcell htb hVt
      go_wp2_with (first
        | (go_at_call 106; refine (cloneByte _ hVt.out (byteCells_one b) htb).mono ?_; rintro e w1 ⟨v, rfl, hvn, hfr⟩; have hFr := Lib.hid hfr; have hx1 := hfr.2.2; clear hvn hfr)
        | (at_builtin
           refine wpList_app (by rfl) _ _ _ (by rfl) 45 iS _ 1 24 Try.underlying110 hiS hzS hsS hbS rfl (by omega) out (by rfl) ((hCl.out.row.ext hx1).alloc _) (by rfl) (View.of_blk (n := 1) (Blk.new w1 _ [.slice v.a v.n v.c]) rfl) ?_ ?_ ?_ ?_
           · intro u hu
             simp only [List.mem_cons, List.mem_nil_iff, or_false] at hu
             subst hu
             rfl
           · simp only [maxLen]; omega
           · omega
           intro o' w4 hrow4 hlen4 hgrow4 hat4))
      go_roundg (k - (i + 1))
      case measure => omega
      case rel =>
        refine ⟨i + 1, o', ts' ++ [v], by omega, rfl, by simp, rfl, ?_⟩
        rw [List.take_add_one, hHtb.out]
        exact hCl.out.step hFr.out _ hrow4 hgrow4 hat4
    · obtain rfl : i = k := by omega
      have hki : ¬ (i : Int) < i := by omega
      go_wp2
      go_ret
      rw [List.take_of_length_le (by have := hHl.out; have := hHd.out; omega)] at hc
      exact ⟨out, rfl, ts', hc⟩
set_option maxRecDepth 100000 in
set_option maxHeartbeats 2000000 in
theorem clonesL {w : World} {hd : Sl} {ts : List Sl} {bs : List (List Ob)} (hr : Row w 33 1 hd (slVals ts)) (hl : ts.length = bs.length) (ht : ∀ (i : Nat) (t : Sl) (b : List Ob), ts[i]? = some t → bs[i]? = some b → Row w 27 8 t (obCells b)) (hb : ∀ b ∈ bs, b.length ≤ 65535) (hn : hd.n ≤ 1048576) :
    Calls Try.prog 76 #[.slice hd.a hd.n hd.c] w fun e w' => ∃ (v : Sl) (ts' : List Sl), e = .returned (.slice v.a v.n v.c) ∧ Cln w w' 33 27 8 obCells v ts' bs := by
  obtain ⟨iS, hiS, hzS, hsS, hbS⟩ := info_parts info_Objs
  have hdn : ts.length = hd.n := by have := hr.len; simp [slVals] at this; omega
  obtain ⟨k, hk⟩ : ∃ k, k = hd.n := ⟨_, rfl⟩
  have hHr := Lib.hid hr
  have hHt := Lib.hid ht
  have hHb := Lib.hid hb
  have hHl := Lib.hid hl
  have hHd := Lib.hid hdn
  obtain ⟨A, n, c⟩ := hd
  dsimp only at hk hn ⊢
  subst hk
  clear hr ht hb hl hdn
  go_enter Try.func76, Try.ntmps76
  go_upto_region 3 with fail
  go_loopg [3, 8] k (fun gk s3 s8 wr => ∃ (i : Nat) (out : Sl) (ts' : List Sl), i ≤ k ∧ gk = k - i ∧ s8 = .int .i64 i ∧ s3 = .slice out.a out.n out.c ∧ Cln w wr 33 27 8 obCells out ts' (bs.take i))
  case atStart => exact ⟨0, Sl.nil, [], Nat.zero_le _, rfl, rfl, rfl, by simpa using Cln.nil_ w 33 27 8 obCells⟩
  case round =>
    obtain ⟨i, out, ts', hi, hgk, hs8, hs3, hc⟩ := hrel
    subst hs8
    subst hs3
    have hCl := Lib.hid hc
    by_cases hlt : i < k
    · have hlti : (i : Int) < k := by omega
      obtain ⟨t, ht⟩ : ∃ t, ts[i]? = some t := ⟨_, List.getElem?_eq_getElem (by have := hHd.out; omega)⟩
      obtain ⟨b, hb⟩ : ∃ b, bs[i]? = some b := ⟨_, List.getElem?_eq_getElem (by have := hHd.out; have := hHl.out; omega)⟩
      obtain ⟨g, hga, hgb⟩ := hHr.out.pos (show 0 < k by omega)
      dsimp only at hga
      subst hga
      have hcell : wr.cell? ⟨g, i, none⟩ = some (.slice t.a t.n t.c) := by
        rw [hc.ext.cells (hHr.out.blk_lt hgb) i, hHr.out.cell rfl i (by dsimp only; omega)]
        simp [slVals, ht]
      have hrt := (hHt.out i t b ht hb).ext hc.ext
      have hbl := hHb.out b (List.mem_of_getElem? hb)
      have htn : t.n = b.length := by have := hrt.len; rw [length_obCells] at this; omega
      have hVt := Lib.hid (View.of_row hrt)
      have htb : t.n ≤ 4294967296 := by omega
      have hHtb := Lib.hid hb
      have hon : out.n = i := by
        have h1 := hc.row.len
        have h2 := hc.len
        have h3 := getElem?_lt hb
        simp [slVals] at h1 h2
        omega
      have hHon := Lib.hid hon
      have hob : out.n ≤ 1048576 := by omega
      clear ht hb hrt htn hc hon hbl
      obtain ⟨ta, tn, tc⟩ := t
      dsimp only at hcell htb hVt
      go_wp2_with (first
        | (go_at_call 64; refine (cloneObs _ hVt.out (obCells_one b) htb).mono ?_; rintro e w1 ⟨v, rfl, hvn, hfr⟩; have hFr := Lib.hid hfr; have hx1 := hfr.2.2; clear hvn hfr)
        | (at_builtin
           refine wpList_app (by rfl) _ _ _ (by rfl) 33 iS _ 1 24 Try.underlying111 hiS hzS hsS hbS rfl (by omega) out (by rfl) ((hCl.out.row.ext hx1).alloc _) (by rfl) (View.of_blk (n := 1) (Blk.new w1 _ [.slice v.a v.n v.c]) rfl) ?_ ?_ ?_ ?_
           · intro u hu
             simp only [List.mem_cons, List.mem_nil_iff, or_false] at hu
             subst hu
             rfl
           · simp only [maxLen]; omega
           · omega
           intro o' w4 hrow4 hlen4 hgrow4 hat4))
      go_roundg (k - (i + 1))
      case measure => omega
      case rel =>
        refine ⟨i + 1, o', ts' ++ [v], by omega, rfl, by simp, rfl, ?_⟩
        rw [List.take_add_one, hHtb.out]
        exact hCl.out.step hFr.out _ hrow4 hgrow4 hat4
    · obtain rfl : i = k := by omega
      have hki : ¬ (i : Int) < i := by omega
      go_wp2
      go_ret
      rw [List.take_of_length_le (by have := hHl.out; have := hHd.out; omega)] at hc
      exact ⟨out, rfl, ts', hc⟩
end Go.Proofs.Ythhckledkhcfeaa
