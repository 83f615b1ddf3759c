/- The store's functions, part C: text, list: the parts themselves. -/
import Derived.Test.YthhckledkhcfeaaStB
namespace Go.Proofs.Ythhckledkhcfeaa
open Go.RowKit
section
variable {w : World} {p : Nat} {σ : St} {h : Hd} {ρ : Roles}
theorem ret_slice {A B : Option Addr} {m c : Nat} (h : A = B) : Ending.returned (.slice A m c) = .returned (.slice B m c) := by rw [h]
theorem list_c (s : Sto w p σ h ρ) (k : Int) (x : Bool) (ac n : Int) (nm : ByteArray) (r f m : Nat) (t : Sl) (l : List Ob) (ht : h.ls[r]? = some t) (hl : σ.lists[r]? = some l) (hfm : f + m ≤ l.length) :
    Calls Try.prog 63 #[.pointer (some ⟨p, 0, none⟩), .agg #[.int .i64 k, .bool x, .int .i64 ac, .int .i64 n, .string nm, .int .i64 r, .int .i64 f, .int .i64 m]] w fun e w' =>
      e = .returned (.slice (cutA t.a t.c f 8) m (t.c - f)) ∧ Ext w w' := by
  have hr : r < σ.lists.length := (List.getElem?_eq_some_iff.1 hl).1
  obtain ⟨g, t', b, ha, h1, h2, hcell, hrow, hon, hg, hglt, htn, hb⟩ := s.list_at hr
  rw [ht] at h1; rw [hl] at h2
  injection h1 with h1; injection h2 with h2; subst h1; subst h2
  rw [← htn] at hb hfm
  have hmain := s.main
  rw [ha] at hmain
  have hc := hmain.cell
  have hp := hmain.lt
  have hrn : r < h.lists.n := by rw [s.nlists]; exact hr
  have hcap := hrow.cap_le
  clear htn ha hmain s hrow hon hg ht hl
  go_enter Try.func63, Try.ntmps63
  go_wp2_with fail
  generalize hW : World.alloc w _ = W
  obtain ⟨hx, hcW, -, hzW, -⟩ := boxed hW
  clear hW
  have f1 := fun (E : ExtOf W) i => (E.cells hzW i).trans (hcW i)
  have f2 : ∀ (E : ExtOf W), E.w.cell? ⟨g, r, none⟩ = some (.slice t.a t.n t.c) := fun E => ((hx.trans_ E.h).cells hglt r).trans hcell
  have f3 := fun (E : ExtOf W) i => ((hx.trans_ E.h).cells hp i).trans (hc i)
  clear hc hcell hcW
  refine wp_region_ext (by kernel_rfl) (by kernel_rfl) ?_
  repeat (go_big_quiet_step (fail))
  refine wpQuiet_nil fun E => ?_
  go_wp2
  all_goals
    go_ret
    exact ⟨ret_slice (by simp [cutA, *]), hx.trans_ E.h⟩
theorem text_c (s : Sto w p σ h ρ) (k : Int) (x : Bool) (ac n : Int) (nm : ByteArray) (r f m : Nat) (t : Sl) (l : List UInt8) (ht : h.ts[r]? = some t) (hl : σ.texts[r]? = some l) (hfm : f + m ≤ l.length) :
    Calls Try.prog 74 #[.pointer (some ⟨p, 0, none⟩), .agg #[.int .i64 k, .bool x, .int .i64 ac, .int .i64 n, .string nm, .int .i64 r, .int .i64 f, .int .i64 m]] w fun e w' =>
      e = .returned (.slice (cutA t.a t.c f 1) m (t.c - f)) ∧ Ext w w' := by
  have hr : r < σ.texts.length := (List.getElem?_eq_some_iff.1 hl).1
  obtain ⟨g, t', b, ha, h1, h2, hcell, hrow, hon, hg, hglt, htn, hb⟩ := s.text_at hr
  rw [ht] at h1; rw [hl] at h2
  injection h1 with h1; injection h2 with h2; subst h1; subst h2
  rw [← htn] at hb hfm
  have hmain := s.main
  rw [ha] at hmain
  have hc := hmain.cell
  have hp := hmain.lt
  have hrn : r < h.texts.n := by rw [s.ntexts]; exact hr
  have hcap := hrow.cap_le
  clear htn ha hmain s hrow hon hg ht hl
  go_enter Try.func74, Try.ntmps74
  go_wp2_with fail
  generalize hW : World.alloc w _ = W
  obtain ⟨hx, hcW, -, hzW, -⟩ := boxed hW
  clear hW
  have f1 := fun (E : ExtOf W) i => (E.cells hzW i).trans (hcW i)
  have f2 : ∀ (E : ExtOf W), E.w.cell? ⟨g, r, none⟩ = some (.slice t.a t.n t.c) := fun E => ((hx.trans_ E.h).cells hglt r).trans hcell
  have f3 := fun (E : ExtOf W) i => ((hx.trans_ E.h).cells hp i).trans (hc i)
  clear hc hcell hcW
  refine wp_region_ext (by kernel_rfl) (by kernel_rfl) ?_
  repeat (go_big_quiet_step (fail))
  refine wpQuiet_nil fun E => ?_
  go_wp2
  all_goals
    go_ret
    exact ⟨ret_slice (by simp [cutA, *]), hx.trans_ E.h⟩
end
end Go.Proofs.Ythhckledkhcfeaa
