/- The saves: frames of a walk over them; the same bytes; lists of lists that were just built. -/
import Derived.Test.YthhckledkhcfeaaSvI
namespace Go.Proofs.Ythhckledkhcfeaa
open Go.RowKit
/-- All that was there at the walk's start is as it was; what is owned by the store and the saves came since. -/
structure Fr (w W : World) (F : Nat → Prop) : Prop where
  ext : Ext w W
  low : ∀ b, F b → w.heap.size ≤ b
/-- A local of the walk: a block that is not the store's. -/
structure Loc (W : World) (F : Nat → Prop) (b : Nat) (t : TypeId) (cs : List Value) : Prop where
  blk : Blk W b t cs
  out : ¬ F b
section
variable {w W W' : World} {F F' : Nat → Prop} {b : Nat} {t : TypeId} {cs : List Value}
theorem Fr.moves (f : Fr w W F) (m : Moves W W' F F') : Fr w W' F' :=
  ⟨f.ext.trans (m.below f.low f.ext.size), fun b hb => (m.foot b hb).elim (f.low b) (fun h => Nat.le_trans f.ext.size h)⟩
theorem Fr.ext_ (f : Fr w W F) (x : Ext W W') : Fr w W' F := ⟨f.ext.trans (Below.mono x f.ext.size), f.low⟩
theorem Loc.moves (l : Loc W F b t cs) (m : Moves W W' F F') : Loc W' F' b t cs := ⟨l.blk.moves m l.out, m.apart l.out l.blk.lt⟩
theorem Loc.ext_ (l : Loc W F b t cs) (x : Ext W W') : Loc W' F b t cs := ⟨l.blk.ext x, l.out⟩
end
section
variable {w W w' : World} {v p : Nat} {σ σ' : St} {h : Hd} {ρ : Roles} {t : Sl} {l : List (Int × Int)} {last : Int}
theorem Sv.keep_ (s : Sv w v p σ h ρ t l last) (hk : ∀ b, svOwn v t ρ b → w'.heap[b]? = w.heap[b]?) (hs : w.heap.size ≤ w'.heap.size) : Sv w' v p σ h ρ t l last :=
  ⟨s.sto.keep (fun b hb => hk b (.inl hb)) hs, ⟨s.sav.blk.keep (hk v (.inr (.inl rfl))), s.sav.row.keep fun _ hg => hk _ (.inr (.inr hg))⟩, s.nv, s.nt, s.vt⟩
theorem Sv.lt_ (s : Sv w v p σ h ρ t l last) {b : Nat} (hb : svOwn v t ρ b) : b < w.heap.size := by
  rcases hb with hb | hb | hb
  · exact s.sto.bound b hb
  · rw [hb]; exact s.sav.blk.lt
  · exact s.sav.row.blk_lt hb
theorem Sv.loc (s : Sv w v p σ h ρ t l last) {T : TypeId} {cs : List Value} {X : World} (hX : w.alloc (.cells cs.toArray T) = X) : Loc X (svOwn v t ρ) w.heap.size T cs ∧ Ext w X := by
  subst hX
  exact ⟨⟨Blk.new w T cs, fun hb => by have := s.lt_ hb; omega⟩, (Ext.rfl_ w).alloc_ _⟩
/-- The store is in another state; the saves are as they were. -/
theorem Sv.sto_to (s : Sv w v p σ h ρ t l last) (hs : StoTo w w' p ρ σ') : SvTo w w' v p (svOwn v t ρ) σ' l last := by
  obtain ⟨h', ρ', s', m⟩ := hs
  have hv : ¬ ρ.own v := Roles.not_own s.nv
  have ht : ∀ g, t.blk = some g → ¬ ρ.own g := fun g hg => Roles.not_own (s.nt g hg)
  refine ⟨h', ρ', t, ⟨s', ⟨s.sav.blk.moves m hv, s.sav.row.moves m ht⟩, Roles.none_of (m.apart hv s.sav.blk.lt), fun g hg => Roles.none_of (m.apart (ht g hg) (s.sav.row.blk_lt hg)), s.vt⟩, ?_⟩
  exact m.frame (fun b hb => .inl hb) (fun b hb => by
    rcases hb with hb | hb | hb
    · exact .inl hb
    · exact .inr (.inl (.inr (.inl hb)))
    · exact .inr (.inl (.inr (.inr hb))))
theorem Lists.one {g q : Nat} {k : List Ob} {n : Nat} {cs : List Value} (hb : Blk w g 27 cs) (he : cs = obCells k) (hq : Blk w q 33 [.slice (some ⟨g, 0, none⟩) n n]) (hn : k.length = n) (hl : n ≤ 4294967296) :
    Lists w (some ⟨q, 0, none⟩) 1 [⟨some ⟨g, 0, none⟩, n, n⟩] [k] := by
  subst hn
  subst he
  refine ⟨View.of_blk (n := 1) hq rfl, rfl, fun i s l h1 h2 => ?_⟩
  have hi : i = 0 := by have := getElem?_lt h1; simp at this; omega
  subst hi
  simp at h1 h2
  subst h1
  subst h2
  exact ⟨View.of_blk (n := k.length) hb (length_obCells k), hl⟩
end
set_option maxHeartbeats 800000 in
/-- Two slices of the same bytes. -/
theorem same_c {w : World} {A B : Option Addr} {n c d : Nat} {l : List UInt8} (h1 : View w 1 A n (byteCells l)) (h2 : View w 1 B n (byteCells l)) (hn : n ≤ 4294967296) :
    Calls Try.prog 30 #[.slice A n c, .slice B n d] w fun e w' => e = .returned (.bool true) ∧ Ext w w' := by
  have hl : l.length = n := by have := h1.1; simp [byteCells] at this; exact this
  have hL := Lib.hid hl
  have hV1 := Lib.hid h1
  have hV2 := Lib.hid h2
  clear hl h1 h2
  go_enter Try.func30, Try.ntmps30
  go_wp2_with fail
  go_loopg [5] n (fun gk s5 wr => ∃ i : Nat, i ≤ n ∧ gk = n - i ∧ s5 = .int .i64 i ∧ Ext w wr)
  case atStart => exact ⟨0, Nat.zero_le _, rfl, rfl, Ext.rfl_ w⟩
  case round =>
    obtain ⟨i, hi, hk, hs5, hx⟩ := hrel
    subst hs5
    by_cases hlt : i < n
    · obtain ⟨b, hb⟩ : ∃ b, l[i]? = some b := ⟨_, List.getElem?_eq_getElem (by have := hL.out; omega)⟩
      obtain ⟨g1, o1, hA, hg1, hj1⟩ := hV1.out.2 (by simp only [byteCells, List.length_map, hL.out]; omega)
      obtain ⟨g2, o2, hB, hg2, hj2⟩ := hV2.out.2 (by simp only [byteCells, List.length_map, hL.out]; omega)
      have hc1 := hj1 i (.int .u8 b.toNat) (by simp only [byteCells, List.getElem?_map, hb, Option.map_some])
      have hc2 := hj2 i (.int .u8 b.toNat) (by simp only [byteCells, List.getElem?_map, hb, Option.map_some])
      subst hA
      subst hB
      clear hb hj1 hj2
      have hlt' : (i : Int) < n := by omega
      have y1 : ∀ (E : ExtOf wr), E.w.cell? ⟨g1, o1 + i, none⟩ = some (.int .u8 b.toNat) := fun E => ((hx.trans_ E.h).cells hg1 _).trans hc1
      have y2 : ∀ (E : ExtOf wr), E.w.cell? ⟨g2, o2 + i, none⟩ = some (.int .u8 b.toNat) := fun E => ((hx.trans_ E.h).cells hg2 _).trans hc2
      clear hc1 hc2
      go_upto_region 6 with fail
      refine wp_region_ext (by kernel_rfl) (by kernel_rfl) ?_
      repeat (go_big_quiet_step (fail))
      refine wpQuiet_nil fun E => ?_
      go_wp2
      go_roundg (n - (i + 1))
      case measure => omega
      case rel => exact ⟨i + 1, by omega, rfl, by simp, hx.trans_ E.h⟩
    · go_wp2_with fail
      go_ret
      exact ⟨rfl, hx⟩
end Go.Proofs.Ythhckledkhcfeaa
