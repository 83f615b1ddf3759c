/- The store's calls of any arguments, as functions of its state. The store's makers and questions, of any arguments, as functions of its state. Numbers in decimal: ref01.Dec. -/
import Derived.Test.YthhckledkhcfeaaQ07
import Derived.Test.YthhckledkhcfeaaQ10
namespace Go.Proofs.Ythhckledkhcfeaa
open Go.RowKit
def St.putF (σ : St) (o : Ob) (i : Int) (x : Ob) : St × Int :=
  if σ.isA o 7 = false ∨ σ.valid x = false then (σ, 21) else if i < 0 ∨ o.ln ≤ i then (σ, 11)
  else ({ σ.noted ⟨0, o.rf, o.fr + i, (Ob.null, (σ.lists.getD o.rf.toNat []).getD (o.fr + i).toNat Ob.null)⟩ with lists := σ.lists.set o.rf.toNat ((σ.lists.getD o.rf.toNat []).set (o.fr + i).toNat x) }, 0)
def St.writeF (σ : St) (o : Ob) (a : Int) (bs : List UInt8) : St × Int :=
  if σ.isA o 6 = false then (σ, 21) else if a < 0 ∨ o.ln < a ∨ o.ln - a < bs.length then (σ, 11)
  else ({ σ with texts := σ.texts.set o.rf.toNat (splice (σ.texts.getD o.rf.toNat []) (o.fr + a).toNat bs) }, 0)
def St.partF (σ : St) (o : Ob) (a m : Int) : Ob × Int :=
  if (o.k ≠ 6 ∧ o.k ≠ 7) ∨ σ.valid o = false then (Ob.null, 21) else if a < 0 ∨ m < 0 ∨ o.ln < a ∨ o.ln - a < m then (Ob.null, 11)
  else ({ o with fr := o.fr + a, ln := m }, 0)
def St.setF (σ : St) (d k x : Ob) : St × Int :=
  if σ.isA d 8 = false ∨ σ.valid x = false then (σ, 21) else if (σ.key k).2 ≠ 0 then (σ, (σ.key k).2)
  else σ.setD d.rf.toNat (σ.dicts.getD d.rf.toNat ⟨0, 0, []⟩) (σ.key k).1 x
def St.dropF (σ : St) (d k : Ob) : St × Int :=
  if σ.isA d 8 = false then (σ, 21) else if (σ.key k).2 ≠ 0 then (σ, (σ.key k).2)
  else σ.dropD d.rf.toNat (σ.dicts.getD d.rf.toNat ⟨0, 0, []⟩) (σ.key k).1
def St.lockF (σ : St) (d : Ob) (q : Int) : St × Int :=
  if σ.isA d 8 = false ∨ q < 0 ∨ 3 < q then (σ, 21)
  else ({ σ.noted ⟨4, d.rf, (σ.dicts.getD d.rf.toNat ⟨0, 0, []⟩).access, (Ob.null, Ob.null)⟩ with dicts := σ.dicts.set d.rf.toNat { σ.dicts.getD d.rf.toNat ⟨0, 0, []⟩ with access := q } }, 0)
section
variable {w w' : World} {p : Nat} {σ : St} {h : Hd} {ρ : Roles}
theorem put_f (s : Sto w p σ h ρ) (hn : σ.changes.length + 1 ≤ 4294967296) (o : Ob) (i : Int) (x : Ob) :
    Calls Try.prog 16 #[.pointer (some ⟨p, 0, none⟩), .agg o.cells.toArray, .int .i64 i, .agg x.cells.toArray] w fun e w' => e = .returned (.int .i64 (σ.putF o i x).2) ∧ StoTo w w' p ρ (σ.putF o i x).1 := by
  obtain ⟨k, b, ac, n, nm, rf, fr, ln⟩ := o
  obtain ⟨k', b', ac', n', nm', rf', fr', ln'⟩ := x
  by_cases h1 : σ.isA ⟨k, b, ac, n, nm, rf, fr, ln⟩ 7 = false ∨ σ.valid ⟨k', b', ac', n', nm', rf', fr', ln'⟩ = false
  · rw [show σ.putF ⟨k, b, ac, n, nm, rf, fr, ln⟩ i ⟨k', b', ac', n', nm', rf', fr', ln'⟩ = (σ, 21) by unfold St.putF; rw [if_pos h1]]
    exact (put_no s k b ac n nm rf fr ln i k' b' ac' n' nm' rf' fr' ln' h1).mono fun e w' ⟨he, hx⟩ => ⟨he, s.to_ext hx⟩
  · have ha : σ.isA ⟨k, b, ac, n, nm, rf, fr, ln⟩ 7 = true := by cases hq : σ.isA ⟨k, b, ac, n, nm, rf, fr, ln⟩ 7 with | true => rfl | false => exact absurd (.inl hq) h1
    have hv : σ.valid ⟨k', b', ac', n', nm', rf', fr', ln'⟩ = true := by cases hq : σ.valid ⟨k', b', ac', n', nm', rf', fr', ln'⟩ with | true => rfl | false => exact absurd (.inr hq) h1
    obtain ⟨r, f, m, l, hk, hr, hf, hm, hl, hfm⟩ := isA_arr_inv ha
    dsimp only at hk hr hf hm
    subst hk hr hf hm
    by_cases h2 : i < 0 ∨ (m : Int) ≤ i
    · rw [show σ.putF ⟨7, b, ac, n, nm, r, f, m⟩ i ⟨k', b', ac', n', nm', rf', fr', ln'⟩ = (σ, 11) by unfold St.putF; rw [if_neg h1, if_pos h2]]
      exact (put_range s b ac n nm r f m i l hl hfm h2 k' b' ac' n' nm' rf' fr' ln' hv).mono fun e w' ⟨he, hx⟩ => ⟨he, s.to_ext hx⟩
    · obtain ⟨j, rfl⟩ : ∃ j : Nat, i = j := ⟨i.toNat, by omega⟩
      obtain ⟨old, hold⟩ : ∃ old, l[f + j]? = some old := ⟨_, List.getElem?_eq_getElem (by omega)⟩
      have e1 : σ.lists.getD ((r : Int)).toNat [] = l := by simp [List.getD, hl]
      have e2 : ((f : Int) + (j : Int)).toNat = f + j := by omega
      rw [show σ.putF ⟨7, b, ac, n, nm, r, f, m⟩ j ⟨k', b', ac', n', nm', rf', fr', ln'⟩ = ({ σ.noted ⟨0, r, f + j, (Ob.null, old)⟩ with lists := σ.lists.set r (l.set (f + j) ⟨k', b', ac', n', nm', rf', fr', ln'⟩) }, 0) by
        unfold St.putF
        rw [if_neg h1, if_neg h2]
        dsimp only
        rw [e1, e2, show l.getD (f + j) Ob.null = old by simp [List.getD, hold], Int.toNat_natCast]]
      exact put_ok s b ac n nm r f m j l old hl hfm (by omega) hold k' b' ac' n' nm' rf' fr' ln' hv hn
theorem write_f (s : Sto w p σ h ρ) (o : Ob) (a : Int) {A : Option Addr} {c : Nat} {bs : List UInt8} (hv : View w 1 A bs.length (byteCells bs)) (hb : bs.length ≤ 9223372036854775807) :
    Calls Try.prog 29 #[.pointer (some ⟨p, 0, none⟩), .agg o.cells.toArray, .int .i64 a, .slice A bs.length c] w fun e w' => e = .returned (.int .i64 (σ.writeF o a bs).2) ∧ StoTo w w' p ρ (σ.writeF o a bs).1 := by
  obtain ⟨k, b, ac, n, nm, rf, fr, ln⟩ := o
  cases ha : σ.isA ⟨k, b, ac, n, nm, rf, fr, ln⟩ 6 with
  | false =>
    rw [show σ.writeF ⟨k, b, ac, n, nm, rf, fr, ln⟩ a bs = (σ, 21) by unfold St.writeF; rw [if_pos ha]]
    exact (write_no s k b ac n nm rf fr ln ha a A bs.length c).mono fun e w' ⟨he, hx⟩ => ⟨he, s.to_ext hx⟩
  | true =>
    obtain ⟨r, f, m, l, hk, hr, hf, hm, hl, hfm⟩ := isA_str_inv ha
    dsimp only at hk hr hf hm
    subst hk hr hf hm
    by_cases h2 : a < 0 ∨ (m : Int) < a ∨ (m : Int) - a < bs.length
    · rw [show σ.writeF ⟨6, b, ac, n, nm, r, f, m⟩ a bs = (σ, 11) by unfold St.writeF; rw [if_neg (by rw [ha]; decide), if_pos h2]]
      exact (write_range s b ac n nm r f m l hl hfm a A bs.length c h2 hb).mono fun e w' ⟨he, hx⟩ => ⟨he, s.to_ext hx⟩
    · obtain ⟨j, rfl⟩ : ∃ j : Nat, a = j := ⟨a.toNat, by omega⟩
      have e1 : σ.texts.getD ((r : Int)).toNat [] = l := by simp [List.getD, hl]
      have e2 : ((f : Int) + (j : Int)).toNat = f + j := by omega
      rw [show σ.writeF ⟨6, b, ac, n, nm, r, f, m⟩ j bs = ({ σ with texts := σ.texts.set r (splice l (f + j) bs) }, 0) by
        unfold St.writeF
        rw [if_neg (by rw [ha]; decide), if_neg h2]
        dsimp only
        rw [e1, e2, Int.toNat_natCast]]
      exact write_ok s b ac n nm r f m l hl hfm j hv (by omega)
theorem part_f (s : Sto w p σ h ρ) (o : Ob) (a m : Int) :
    Calls Try.prog 15 #[.pointer (some ⟨p, 0, none⟩), .agg o.cells.toArray, .int .i64 a, .int .i64 m] w fun e w' => e = .returned (.tuple #[.agg (σ.partF o a m).1.cells.toArray, .int .i64 (σ.partF o a m).2]) ∧ Ext w w' := by
  obtain ⟨k, b, ac, n, nm, rf, fr, ln⟩ := o
  by_cases h1 : (k ≠ 6 ∧ k ≠ 7) ∨ σ.valid ⟨k, b, ac, n, nm, rf, fr, ln⟩ = false
  · rw [show σ.partF ⟨k, b, ac, n, nm, rf, fr, ln⟩ a m = (Ob.null, 21) by unfold St.partF; rw [if_pos h1]]
    exact part_no s k b ac n nm rf fr ln a m h1
  · have hk : k = 6 ∨ k = 7 := by
      rcases Decidable.em (k = 6) with q | q
      · exact .inl q
      · rcases Decidable.em (k = 7) with q2 | q2
        · exact .inr q2
        · exact absurd (.inl ⟨q, q2⟩) h1
    have hv : σ.valid ⟨k, b, ac, n, nm, rf, fr, ln⟩ = true := by cases hq : σ.valid ⟨k, b, ac, n, nm, rf, fr, ln⟩ with | true => rfl | false => exact absurd (.inr hq) h1
    by_cases h2 : a < 0 ∨ m < 0 ∨ ln < a ∨ ln - a < m
    · rw [show σ.partF ⟨k, b, ac, n, nm, rf, fr, ln⟩ a m = (Ob.null, 11) by unfold St.partF; rw [if_neg h1, if_pos h2]]
      exact part_range s k b ac n nm rf fr ln a m hk hv h2
    · rw [show σ.partF ⟨k, b, ac, n, nm, rf, fr, ln⟩ a m = (⟨k, b, ac, n, nm, rf, fr + a, m⟩, 0) by unfold St.partF; rw [if_neg h1, if_neg h2]]
      exact part_ok s k b ac n nm rf fr ln a m hk hv (by omega) (by omega) (by omega) (by omega)
theorem set_f (s : Sto w p σ h ρ) (hn : σ.changes.length + 1 ≤ 4294967296) (d k x : Ob) (hk : I64 k.n) :
    Calls Try.prog 36 #[.pointer (some ⟨p, 0, none⟩), .agg d.cells.toArray, .agg k.cells.toArray, .agg x.cells.toArray] w fun e w' => e = .returned (.int .i64 (σ.setF d k x).2) ∧ StoTo w w' p ρ (σ.setF d k x).1 := by
  obtain ⟨kd, bd, ad, nd, md, rd, fd, ld⟩ := d
  obtain ⟨k', b', ac', n', nm', rf', fr', ln'⟩ := k
  obtain ⟨kv, bv, av, nv, mv, rv, fv, lv⟩ := x
  by_cases h1 : σ.isA ⟨kd, bd, ad, nd, md, rd, fd, ld⟩ 8 = false ∨ σ.valid ⟨kv, bv, av, nv, mv, rv, fv, lv⟩ = false
  · rw [show σ.setF ⟨kd, bd, ad, nd, md, rd, fd, ld⟩ ⟨k', b', ac', n', nm', rf', fr', ln'⟩ ⟨kv, bv, av, nv, mv, rv, fv, lv⟩ = (σ, 21) by unfold St.setF; rw [if_pos h1]]
    exact (set_no s kd bd ad nd md rd fd ld k' b' ac' n' nm' rf' fr' ln' kv bv av nv mv rv fv lv h1).mono fun e w' ⟨he, hx⟩ => ⟨he, s.to_ext hx⟩
  · have ha : σ.isA ⟨kd, bd, ad, nd, md, rd, fd, ld⟩ 8 = true := by cases hq : σ.isA ⟨kd, bd, ad, nd, md, rd, fd, ld⟩ 8 with | true => rfl | false => exact absurd (.inl hq) h1
    have hv : σ.valid ⟨kv, bv, av, nv, mv, rv, fv, lv⟩ = true := by cases hq : σ.valid ⟨kv, bv, av, nv, mv, rv, fv, lv⟩ with | true => rfl | false => exact absurd (.inr hq) h1
    obtain ⟨r, D, hkd, hr, hD⟩ := isA_dict_inv ha
    dsimp only at hkd hr
    subst hkd hr
    rcases hq : σ.key ⟨k', b', ac', n', nm', rf', fr', ln'⟩ with ⟨⟨k1, x1, a1, n1, m1, r1, f1, l1⟩, e1⟩
    by_cases h2 : e1 = 0
    · subst h2
      rw [show σ.setF ⟨8, bd, ad, nd, md, r, fd, ld⟩ ⟨k', b', ac', n', nm', rf', fr', ln'⟩ ⟨kv, bv, av, nv, mv, rv, fv, lv⟩ = σ.setD r D ⟨k1, x1, a1, n1, m1, r1, f1, l1⟩ ⟨kv, bv, av, nv, mv, rv, fv, lv⟩ by
        unfold St.setF
        rw [if_neg h1, hq, if_neg (by simp)]
        simp [List.getD, hD]]
      exact set_c s bd ad nd md r fd ld hD k' b' ac' n' nm' rf' fr' ln' hk hq kv bv av nv mv rv fv lv hv hn rfl
    · rw [show σ.setF ⟨8, bd, ad, nd, md, r, fd, ld⟩ ⟨k', b', ac', n', nm', rf', fr', ln'⟩ ⟨kv, bv, av, nv, mv, rv, fv, lv⟩ = (σ, e1) by
        unfold St.setF
        rw [if_neg h1, hq, if_pos h2]]
      exact (set_nokey s bd ad nd md r fd ld hD k' b' ac' n' nm' rf' fr' ln' hk hq h2 kv bv av nv mv rv fv lv hv).mono fun e w' ⟨he, hx⟩ => ⟨he, s.to_ext hx⟩
theorem drop_f (s : Sto w p σ h ρ) (hn : σ.changes.length + 1 ≤ 4294967296) (d k : Ob) (hk : I64 k.n) :
    Calls Try.prog 38 #[.pointer (some ⟨p, 0, none⟩), .agg d.cells.toArray, .agg k.cells.toArray] w fun e w' => e = .returned (.int .i64 (σ.dropF d k).2) ∧ StoTo w w' p ρ (σ.dropF d k).1 := by
  obtain ⟨kd, bd, ad, nd, md, rd, fd, ld⟩ := d
  obtain ⟨k', b', ac', n', nm', rf', fr', ln'⟩ := k
  cases ha : σ.isA ⟨kd, bd, ad, nd, md, rd, fd, ld⟩ 8 with
  | false =>
    rw [show σ.dropF ⟨kd, bd, ad, nd, md, rd, fd, ld⟩ ⟨k', b', ac', n', nm', rf', fr', ln'⟩ = (σ, 21) by unfold St.dropF; rw [if_pos ha]]
    exact (drop_no s kd bd ad nd md rd fd ld ha k' b' ac' n' nm' rf' fr' ln').mono fun e w' ⟨he, hx⟩ => ⟨he, s.to_ext hx⟩
  | true =>
    obtain ⟨r, D, hkd, hr, hD⟩ := isA_dict_inv ha
    dsimp only at hkd hr
    subst hkd hr
    rcases hq : σ.key ⟨k', b', ac', n', nm', rf', fr', ln'⟩ with ⟨⟨k1, x1, a1, n1, m1, r1, f1, l1⟩, e1⟩
    by_cases h2 : e1 = 0
    · subst h2
      rw [show σ.dropF ⟨8, bd, ad, nd, md, r, fd, ld⟩ ⟨k', b', ac', n', nm', rf', fr', ln'⟩ = σ.dropD r D ⟨k1, x1, a1, n1, m1, r1, f1, l1⟩ by
        unfold St.dropF
        rw [if_neg (by rw [ha]; decide), hq, if_neg (by simp)]
        simp [List.getD, hD]]
      exact drop_c s bd ad nd md r fd ld hD k' b' ac' n' nm' rf' fr' ln' hk hq hn rfl
    · rw [show σ.dropF ⟨8, bd, ad, nd, md, r, fd, ld⟩ ⟨k', b', ac', n', nm', rf', fr', ln'⟩ = (σ, e1) by
        unfold St.dropF
        rw [if_neg (by rw [ha]; decide), hq, if_pos h2]]
      exact (drop_nokey s bd ad nd md r fd ld hD k' b' ac' n' nm' rf' fr' ln' hk hq h2).mono fun e w' ⟨he, hx⟩ => ⟨he, s.to_ext hx⟩
theorem lock_f (s : Sto w p σ h ρ) (hn : σ.changes.length + 1 ≤ 4294967296) (d : Ob) (q : Int) :
    Calls Try.prog 41 #[.pointer (some ⟨p, 0, none⟩), .agg d.cells.toArray, .int .i64 q] w fun e w' => e = .returned (.int .i64 (σ.lockF d q).2) ∧ StoTo w w' p ρ (σ.lockF d q).1 := by
  obtain ⟨kd, bd, ad, nd, md, rd, fd, ld⟩ := d
  by_cases h1 : σ.isA ⟨kd, bd, ad, nd, md, rd, fd, ld⟩ 8 = false ∨ q < 0 ∨ 3 < q
  · rw [show σ.lockF ⟨kd, bd, ad, nd, md, rd, fd, ld⟩ q = (σ, 21) by unfold St.lockF; rw [if_pos h1]]
    exact (lock_no s kd bd ad nd md rd fd ld q h1).mono fun e w' ⟨he, hx⟩ => ⟨he, s.to_ext hx⟩
  · have ha : σ.isA ⟨kd, bd, ad, nd, md, rd, fd, ld⟩ 8 = true := by cases hq : σ.isA ⟨kd, bd, ad, nd, md, rd, fd, ld⟩ 8 with | true => rfl | false => exact absurd (.inl hq) h1
    obtain ⟨r, D, hkd, hr, hD⟩ := isA_dict_inv ha
    dsimp only at hkd hr
    subst hkd hr
    rw [show σ.lockF ⟨8, bd, ad, nd, md, r, fd, ld⟩ q = ({ σ.noted ⟨4, r, D.access, (Ob.null, Ob.null)⟩ with dicts := σ.dicts.set r { D with access := q } }, 0) by
      unfold St.lockF
      rw [if_neg h1]
      simp [List.getD, hD]]
    exact lock_ok s bd ad nd md r fd ld hD q (by omega) (by omega) hn
end
end Go.Proofs.Ythhckledkhcfeaa
namespace Go.Proofs.Ythhckledkhcfeaa
open Go.RowKit
def St.stringF (σ : St) (n : Int) : (Ob × Int) × St :=
  if n < 0 ∨ 65535 < n ∨ σ.free < 1 + (n + 7) / 8 then ((Ob.null, takeE σ.free n 65535 (1 + (n + 7) / 8)), σ)
  else ((⟨6, false, 0, 0, ByteArray.empty, σ.texts.length, 0, n⟩, 0), { σ with free := σ.free - (1 + (n + 7) / 8), texts := σ.texts ++ [List.replicate n.toNat 0] })
def St.arrayF (σ : St) (n : Int) : (Ob × Int) × St :=
  if n < 0 ∨ 65535 < n ∨ σ.free < 1 + n then ((Ob.null, takeE σ.free n 65535 (1 + n)), σ)
  else ((⟨7, false, 0, 0, ByteArray.empty, σ.lists.length, 0, n⟩, 0), { σ with free := σ.free - (1 + n), lists := σ.lists ++ [List.replicate n.toNat Ob.null] })
def St.dictF (σ : St) (n : Int) : (Ob × Int) × St :=
  if n < 0 ∨ 4096 < n ∨ σ.free < 1 + 2 * n then ((Ob.null, takeE σ.free n 4096 (1 + 2 * n)), σ)
  else ((⟨8, false, 0, 0, ByteArray.empty, σ.dicts.length, 0, 0⟩, 0), { σ with free := σ.free - (1 + 2 * n), dicts := σ.dicts ++ [⟨n, 0, []⟩] })
def St.textF (σ : St) (bs : List UInt8) : (Ob × Int) × St :=
  if 65535 < bs.length ∨ σ.free < 1 + ((bs.length : Int) + 7) / 8 then ((Ob.null, takeE σ.free bs.length 65535 (1 + ((bs.length : Int) + 7) / 8)), σ)
  else ((⟨6, false, 0, 0, ByteArray.empty, σ.texts.length, 0, bs.length⟩, 0), { σ with free := σ.free - (1 + ((bs.length : Int) + 7) / 8), texts := σ.texts ++ [bs] })
def St.bytesF (σ : St) (o : Ob) : List UInt8 × Int := if σ.isA o 6 = false then ([], 21) else (((σ.texts.getD o.rf.toNat []).drop o.fr.toNat).take o.ln.toNat, 0)
def St.itemsF (σ : St) (o : Ob) : List Ob × Int := if σ.isA o 7 = false then ([], 21) else (((σ.lists.getD o.rf.toNat []).drop o.fr.toNat).take o.ln.toNat, 0)
def St.accessF (σ : St) (o : Ob) : Int := if σ.isA o 8 = false then 0 else (σ.dicts.getD o.rf.toNat ⟨0, 0, []⟩).access
def St.sizeF (σ : St) (o : Ob) : (Int × Int) × Int := if σ.isA o 8 = false then ((0, 0), 21) else (((σ.dicts.getD o.rf.toNat ⟨0, 0, []⟩).pairs.length, (σ.dicts.getD o.rf.toNat ⟨0, 0, []⟩).most), 0)
def St.atF (σ : St) (o : Ob) (i : Int) : Ob × Int :=
  if σ.isA o 7 = false then (Ob.null, 21) else if i < 0 ∨ o.ln ≤ i then (Ob.null, 11) else ((σ.lists.getD o.rf.toNat []).getD (o.fr + i).toNat Ob.null, 0)
section
variable {w w' : World} {p : Nat} {σ : St} {h : Hd} {ρ : Roles}
theorem string_f (s : Sto w p σ h ρ) (n : Int) (hi : n ≤ 9223372036854775800) :
    Calls Try.prog 72 #[.pointer (some ⟨p, 0, none⟩), .int .i64 n] w fun e w' => e = .returned (.tuple #[.agg (σ.stringF n).1.1.cells.toArray, .int .i64 (σ.stringF n).1.2]) ∧ StoTo w w' p ρ (σ.stringF n).2 := by
  by_cases h1 : n < 0 ∨ 65535 < n ∨ σ.free < 1 + (n + 7) / 8
  · rw [show σ.stringF n = ((Ob.null, takeE σ.free n 65535 (1 + (n + 7) / 8)), σ) by unfold St.stringF; rw [if_pos h1]]
    exact (string_no s n h1 hi).mono fun e w' ⟨he, hx⟩ => ⟨he, s.to_ext hx⟩
  · obtain ⟨m, rfl⟩ : ∃ m : Nat, n = m := ⟨n.toNat, by omega⟩
    rw [show σ.stringF m = ((⟨6, false, 0, 0, ByteArray.empty, σ.texts.length, 0, m⟩, 0), { σ with free := σ.free - (1 + ((m : Int) + 7) / 8), texts := σ.texts ++ [List.replicate m 0] }) by unfold St.stringF; rw [if_neg h1, Int.toNat_natCast]]
    exact string_ok s m (by omega) (by omega)
theorem array_f (s : Sto w p σ h ρ) (n : Int) (hi : n ≤ 9223372036854775800) :
    Calls Try.prog 13 #[.pointer (some ⟨p, 0, none⟩), .int .i64 n] w fun e w' => e = .returned (.tuple #[.agg (σ.arrayF n).1.1.cells.toArray, .int .i64 (σ.arrayF n).1.2]) ∧ StoTo w w' p ρ (σ.arrayF n).2 := by
  by_cases h1 : n < 0 ∨ 65535 < n ∨ σ.free < 1 + n
  · rw [show σ.arrayF n = ((Ob.null, takeE σ.free n 65535 (1 + n)), σ) by unfold St.arrayF; rw [if_pos h1]]
    exact (array_no s n h1 (by omega)).mono fun e w' ⟨he, hx⟩ => ⟨he, s.to_ext hx⟩
  · obtain ⟨m, rfl⟩ : ∃ m : Nat, n = m := ⟨n.toNat, by omega⟩
    rw [show σ.arrayF m = ((⟨7, false, 0, 0, ByteArray.empty, σ.lists.length, 0, m⟩, 0), { σ with free := σ.free - (1 + m), lists := σ.lists ++ [List.replicate m Ob.null] }) by unfold St.arrayF; rw [if_neg h1, Int.toNat_natCast]]
    exact array_ok s m (by omega) (by omega)
theorem dict_f (s : Sto w p σ h ρ) (n : Int) (hi : I64 n) :
    Calls Try.prog 53 #[.pointer (some ⟨p, 0, none⟩), .int .i64 n] w fun e w' => e = .returned (.tuple #[.agg (σ.dictF n).1.1.cells.toArray, .int .i64 (σ.dictF n).1.2]) ∧ StoTo w w' p ρ (σ.dictF n).2 := by
  by_cases h1 : n < 0 ∨ 4096 < n ∨ σ.free < 1 + 2 * n
  · rw [show σ.dictF n = ((Ob.null, takeE σ.free n 4096 (1 + 2 * n)), σ) by unfold St.dictF; rw [if_pos h1]]
    exact (dict_no s n h1 hi.1 hi.2).mono fun e w' ⟨he, hx⟩ => ⟨he, s.to_ext hx⟩
  · obtain ⟨m, rfl⟩ : ∃ m : Nat, n = m := ⟨n.toNat, by omega⟩
    rw [show σ.dictF m = ((⟨8, false, 0, 0, ByteArray.empty, σ.dicts.length, 0, 0⟩, 0), { σ with free := σ.free - (1 + 2 * m), dicts := σ.dicts ++ [⟨m, 0, []⟩] }) by unfold St.dictF; rw [if_neg h1]]
    exact dict_ok s m (by omega) (by omega)
theorem text_f (s : Sto w p σ h ρ) {A : Option Addr} {c : Nat} {bs : List UInt8} (hv : View w 1 A bs.length (byteCells bs)) (hap : ∀ g o, A = some ⟨g, o, none⟩ → ρ g = none) (hm : bs.length ≤ 140737488351232) :
    Calls Try.prog 25 #[.pointer (some ⟨p, 0, none⟩), .slice A bs.length c] w fun e w' => e = .returned (.tuple #[.agg (σ.textF bs).1.1.cells.toArray, .int .i64 (σ.textF bs).1.2]) ∧ StoTo w w' p ρ (σ.textF bs).2 := by
  by_cases h1 : 65535 < bs.length ∨ σ.free < 1 + ((bs.length : Int) + 7) / 8
  · rw [show σ.textF bs = ((Ob.null, takeE σ.free bs.length 65535 (1 + ((bs.length : Int) + 7) / 8)), σ) by unfold St.textF; rw [if_pos h1]]
    exact (Text_no s h1 hm).mono fun e w' ⟨he, hx⟩ => ⟨he, s.to_ext hx⟩
  · rw [show σ.textF bs = ((⟨6, false, 0, 0, ByteArray.empty, σ.texts.length, 0, bs.length⟩, 0), { σ with free := σ.free - (1 + ((bs.length : Int) + 7) / 8), texts := σ.texts ++ [bs] }) by unfold St.textF; rw [if_neg h1]]
    exact Text_ok s hv hap (by omega) (by omega)
theorem bytes_f (s : Sto w p σ h ρ) (o : Ob) :
    Calls Try.prog 26 #[.pointer (some ⟨p, 0, none⟩), .agg o.cells.toArray] w fun e w' => ∃ v : Sl, e = .returned (.tuple #[.slice v.a v.n v.c, .int .i64 (σ.bytesF o).2]) ∧ v.n = (σ.bytesF o).1.length ∧ Fresh w w' 5 1 v (byteCells (σ.bytesF o).1) := by
  obtain ⟨k, b, ac, n, nm, rf, fr, ln⟩ := o
  cases ha : σ.isA ⟨k, b, ac, n, nm, rf, fr, ln⟩ 6 with
  | false =>
    rw [show σ.bytesF ⟨k, b, ac, n, nm, rf, fr, ln⟩ = ([], 21) by unfold St.bytesF; rw [if_pos ha]]
    exact (bytes_no s k b ac n nm rf fr ln ha).mono fun e w' ⟨he, hx⟩ => ⟨Sl.nil, he, rfl, Row.nil_ _ _ _, fun g hg => by simp [Sl.blk] at hg, hx⟩
  | true =>
    obtain ⟨r, f, m, l, hk, hr, hf, hm, hl, hfm⟩ := isA_str_inv ha
    dsimp only at hk hr hf hm
    subst hk hr hf hm
    rw [show σ.bytesF ⟨6, b, ac, n, nm, r, f, m⟩ = ((l.drop f).take m, 0) by
      unfold St.bytesF
      rw [if_neg (by rw [ha]; decide)]
      simp [List.getD, hl]]
    exact (bytes_ok s b ac n nm r f m l hl hfm).mono fun e w' ⟨v, he, hvn, hfr⟩ => ⟨v, he, by rw [hvn, List.length_take, List.length_drop]; omega, hfr⟩
theorem items_f (s : Sto w p σ h ρ) (o : Ob) :
    Calls Try.prog 17 #[.pointer (some ⟨p, 0, none⟩), .agg o.cells.toArray] w fun e w' => ∃ v : Sl, e = .returned (.tuple #[.slice v.a v.n v.c, .int .i64 (σ.itemsF o).2]) ∧ v.n = (σ.itemsF o).1.length ∧ Fresh w w' 27 8 v (obCells (σ.itemsF o).1) := by
  obtain ⟨k, b, ac, n, nm, rf, fr, ln⟩ := o
  cases ha : σ.isA ⟨k, b, ac, n, nm, rf, fr, ln⟩ 7 with
  | false =>
    rw [show σ.itemsF ⟨k, b, ac, n, nm, rf, fr, ln⟩ = ([], 21) by unfold St.itemsF; rw [if_pos ha]]
    exact (items_no s k b ac n nm rf fr ln ha).mono fun e w' ⟨he, hx⟩ => ⟨Sl.nil, he, rfl, Row.nil_ _ _ _, fun g hg => by simp [Sl.blk] at hg, hx⟩
  | true =>
    obtain ⟨r, f, m, l, hk, hr, hf, hm, hl, hfm⟩ := isA_arr_inv ha
    dsimp only at hk hr hf hm
    subst hk hr hf hm
    rw [show σ.itemsF ⟨7, b, ac, n, nm, r, f, m⟩ = ((l.drop f).take m, 0) by
      unfold St.itemsF
      rw [if_neg (by rw [ha]; decide)]
      simp [List.getD, hl]]
    exact (items_ok s b ac n nm r f m l hl hfm).mono fun e w' ⟨v, he, hvn, hfr⟩ => ⟨v, he, by rw [hvn, List.length_take, List.length_drop]; omega, hfr⟩
theorem access_f (s : Sto w p σ h ρ) (o : Ob) :
    Calls Try.prog 56 #[.pointer (some ⟨p, 0, none⟩), .agg o.cells.toArray] w fun e w' => e = .returned (.int .i64 (σ.accessF o)) ∧ Ext w w' := by
  obtain ⟨k, b, ac, n, nm, rf, fr, ln⟩ := o
  cases ha : σ.isA ⟨k, b, ac, n, nm, rf, fr, ln⟩ 8 with
  | false =>
    rw [show σ.accessF ⟨k, b, ac, n, nm, rf, fr, ln⟩ = 0 by unfold St.accessF; rw [if_pos ha]]
    exact access_no s k b ac n nm rf fr ln ha
  | true =>
    obtain ⟨r, D, hk, hr, hD⟩ := isA_dict_inv ha
    dsimp only at hk hr
    subst hk hr
    rw [show σ.accessF ⟨8, b, ac, n, nm, r, fr, ln⟩ = D.access by
      unfold St.accessF
      rw [if_neg (by rw [ha]; decide)]
      simp [List.getD, hD]]
    exact access_ok s b ac n nm r fr ln hD
theorem size_f (s : Sto w p σ h ρ) (o : Ob) :
    Calls Try.prog 81 #[.pointer (some ⟨p, 0, none⟩), .agg o.cells.toArray] w fun e w' => e = .returned (.tuple #[.int .i64 (σ.sizeF o).1.1, .int .i64 (σ.sizeF o).1.2, .int .i64 (σ.sizeF o).2]) ∧ Ext w w' := by
  obtain ⟨k, b, ac, n, nm, rf, fr, ln⟩ := o
  cases ha : σ.isA ⟨k, b, ac, n, nm, rf, fr, ln⟩ 8 with
  | false =>
    rw [show σ.sizeF ⟨k, b, ac, n, nm, rf, fr, ln⟩ = ((0, 0), 21) by unfold St.sizeF; rw [if_pos ha]]
    exact size_no s k b ac n nm rf fr ln ha
  | true =>
    obtain ⟨r, D, hk, hr, hD⟩ := isA_dict_inv ha
    dsimp only at hk hr
    subst hk hr
    rw [show σ.sizeF ⟨8, b, ac, n, nm, r, fr, ln⟩ = (((D.pairs.length : Int), D.most), 0) by
      unfold St.sizeF
      rw [if_neg (by rw [ha]; decide)]
      simp [List.getD, hD]]
    exact size_ok s b ac n nm r fr ln hD
theorem at_f (s : Sto w p σ h ρ) (o : Ob) (i : Int) :
    Calls Try.prog 54 #[.pointer (some ⟨p, 0, none⟩), .agg o.cells.toArray, .int .i64 i] w fun e w' => e = .returned (.tuple #[.agg (σ.atF o i).1.cells.toArray, .int .i64 (σ.atF o i).2]) ∧ Ext w w' := by
  obtain ⟨k, b, ac, n, nm, rf, fr, ln⟩ := o
  cases ha : σ.isA ⟨k, b, ac, n, nm, rf, fr, ln⟩ 7 with
  | false =>
    rw [show σ.atF ⟨k, b, ac, n, nm, rf, fr, ln⟩ i = (Ob.null, 21) by unfold St.atF; rw [if_pos ha]]
    exact at_no s k b ac n nm rf fr ln i ha
  | true =>
    obtain ⟨r, f, m, l, hk, hr, hf, hm, hl, hfm⟩ := isA_arr_inv ha
    dsimp only at hk hr hf hm
    subst hk hr hf hm
    by_cases h2 : i < 0 ∨ (m : Int) ≤ i
    · rw [show σ.atF ⟨7, b, ac, n, nm, r, f, m⟩ i = (Ob.null, 11) by unfold St.atF; rw [if_neg (by rw [ha]; decide), if_pos h2]]
      exact at_range s b ac n nm r f m i l hl hfm h2
    · obtain ⟨j, rfl⟩ : ∃ j : Nat, i = j := ⟨i.toNat, by omega⟩
      obtain ⟨old, hold⟩ : ∃ old, l[f + j]? = some old := ⟨_, List.getElem?_eq_getElem (by omega)⟩
      have e2 : ((f : Int) + (j : Int)).toNat = f + j := by omega
      rw [show σ.atF ⟨7, b, ac, n, nm, r, f, m⟩ j = (old, 0) by
        unfold St.atF
        rw [if_neg (by rw [ha]; decide), if_neg h2]
        simp [List.getD, hl, e2, hold]]
      exact at_ok s b ac n nm r f m j l old hl hfm (by omega) hold
end
end Go.Proofs.Ythhckledkhcfeaa
namespace Go.Proofs.Ythhckledkhcfeaa
open Go.RowKit
def dig (u : Nat) : UInt8 := UInt8.ofNat (48 + u % 10)
def udecL : Nat → Nat → List UInt8 → List UInt8
  | 0, _, acc => acc
  | f + 1, u, acc => if u / 10 = 0 then dig u :: acc else udecL f (u / 10) (dig u :: acc)
theorem udecL_len : ∀ (f u : Nat) (acc : List UInt8), (udecL f u acc).length ≤ f + acc.length
  | 0, _, acc => by simp [udecL]
  | f + 1, u, acc => by
    unfold udecL
    split
    · simp; omega
    · have := udecL_len f (u / 10) (dig u :: acc)
      simp at this
      omega
def decL (n : Int) : List UInt8 := if n < 0 then 45 :: udecL 20 n.natAbs [] else udecL 20 n.natAbs []
theorem decL_len (n : Int) : (decL n).length ≤ 21 := by
  have := udecL_len 20 n.natAbs []
  simp at this
  unfold decL
  split
  · simp; omega
  · omega
theorem str_cons (d : UInt8) (l : List UInt8) : (⟨#[d]⟩ : ByteArray) ++ ⟨l.toArray⟩ = ⟨(d :: l).toArray⟩ := by
  apply ByteArray.ext
  simp [ByteArray.data_append]
set_option maxRecDepth 100000 in
set_option maxHeartbeats 1000000 in
theorem udec_c (u : Nat) (hu : u < 18446744073709551616) (w : World) : Calls Try.prog 107 #[.int .u64 u] w fun e w' => e = .returned (.string ⟨(udecL 20 u []).toArray⟩) ∧ Ext w w' := by
  go_enter Try.func107, Try.ntmps107
  go_upto_region 2 with fail
  go_loopg [0, 3] 20 (fun gk s0 s3 wr => ∃ (v : Nat) (acc : List UInt8), s0 = .int .u64 v ∧ s3 = .string ⟨acc.toArray⟩ ∧ v < 18446744073709551616 ∧ 1 ≤ gk ∧ v < 10 ^ gk ∧ acc.length + gk ≤ 20 ∧ udecL gk v acc = udecL 20 u [] ∧ Ext w wr)
  case atStart => exact ⟨u, [], rfl, rfl, hu, by omega, by omega, by simp, rfl, Ext.rfl_ w⟩
  case round =>
    obtain ⟨v, acc, hs0, hs3, hv, hg1, hv10, hal, he, hx⟩ := hrel
    subst hs0
    subst hs3
    obtain ⟨r, hr⟩ : ∃ r, v % 10 = r := ⟨_, rfl⟩
    obtain ⟨q, hq⟩ : ∃ q, v / 10 = q := ⟨_, rfl⟩
    have hr10 : r < 10 := by omega
    have hqb : q < 18446744073709551616 := by omega
    have t1 : (v : Int).tmod 10 = r := by rw [Int.tmod_eq_emod_of_nonneg (by omega)]; omega
    have t2 : (v : Int).tdiv 10 = q := by rw [Int.tdiv_eq_ediv_of_nonneg (by omega)]; omega
    have hHr := Lib.hid hr
    have hHq := Lib.hid hq
    have hH10 := Lib.hid hv10
    have hHe := Lib.hid he
    have hHv := Lib.hid hv
    have hHal := Lib.hid hal
    have hd : ((dig v).toNat : Int) = 48 + r := by
      rw [← hr]
      unfold dig
      simp
      omega
    have kb : (convert 45 9 (.slice (some ⟨wr.heap.size, 0, none⟩) 1 1)).run Try.prog (wr.alloc (.cells #[.int .u8 (48 + (r : Int))] 5)) = .ok (.string ⟨#[dig v]⟩) (wr.alloc (.cells #[.int .u8 (48 + (r : Int))] 5)) :=
      run_string (bs := [dig v]) 1 (View.of_blk (n := 1) (by have := Blk.new wr 5 [.int .u8 (48 + (r : Int))]; rw [← hd] at this ⊢; exact this) rfl)
    clear hr hq hv10 he hal hd
    obtain ⟨SN, hSN⟩ : ∃ SN : ByteArray, SN = ⟨(dig v :: acc).toArray⟩ := ⟨_, rfl⟩
    have hcat : (⟨#[dig v]⟩ : ByteArray) ++ ⟨acc.toArray⟩ = SN := by rw [hSN, str_cons]
    have hsz : (⟨#[dig v]⟩ : ByteArray).size + (⟨acc.toArray⟩ : ByteArray).size ≤ 9223372036854775807 := by
      have := hHal.out
      show 1 + acc.length ≤ _
      omega
    generalize hS0 : (⟨acc.toArray⟩ : ByteArray) = SA at hcat hsz ⊢
    generalize hS1 : (⟨#[dig v]⟩ : ByteArray) = SD at hcat hsz kb
    have hHSN := Lib.hid hSN
    clear hS0 hS1 hSN
    have hx' := hx.alloc_ (.cells #[.int .u8 (48 + (r : Int))] 5)
    by_cases hq0 : q = 0
    · have hqi : (q : Int) = 0 := by omega
      go_wp2
      go_ret
      refine ⟨?_, hx'⟩
      rw [hHSN.out, ← hHe.out]
      cases gk with
      | zero => omega
      | succ gk =>
        rw [udecL, if_pos (by rw [hHq.out]; exact hq0)]
        rfl
    · have hqi : ¬ (q : Int) = 0 := by omega
      go_wp2
      go_roundg (gk - 1)
      case measure => omega
      case rel =>
        have h10 := hH10.out
        cases gk with
        | zero => omega
        | succ gk =>
          have hq10 : q < 10 ^ gk := by have := hHq.out; rw [Nat.pow_succ] at h10; omega
          refine ⟨q, dig v :: acc, rfl, by rw [hHSN.out], hqb, ?_, hq10, by have := hHal.out; simp; omega, ?_, hx'⟩
          · show 1 ≤ gk
            cases gk with
            | zero => simp at hq10; omega
            | succ gk => omega
          · rw [← hHe.out]
            show _ = udecL (gk + 1) v acc
            rw [udecL, if_neg (by rw [hHq.out]; exact hq0), hHq.out]
            rfl
set_option maxRecDepth 100000 in
set_option maxHeartbeats 1000000 in
theorem dec_c (n : Int) (hn : I64 n) (w : World) : Calls Try.prog 80 #[.int .i64 n] w fun e w' => e = .returned (.string ⟨(decL n).toArray⟩) ∧ Ext w w' := by
  obtain ⟨hn1, hn2⟩ := hn
  by_cases h0 : n < 0
  · obtain ⟨m, hm⟩ : ∃ m : Nat, n = -((m : Int) + 1) := ⟨(-n - 1).toNat, by omega⟩
    subst hm
    have hmb : m ≤ 9223372036854775807 := by omega
    have e : decL (-((m : Int) + 1)) = 45 :: udecL 20 (m + 1) [] := by
      unfold decL
      rw [if_pos h0, show (-((m : Int) + 1)).natAbs = m + 1 by omega]
    rw [e]
    have hl := udecL_len 20 (m + 1) []
    have hu := fun w => udec_c (m + 1) (by omega) w
    have ea : -((m : Int) + 1) + 1 = -(m : Int) := by omega
    generalize udecL 20 (m + 1) [] = L at hl hu ⊢
    simp only [List.length_nil] at hl
    have hs : (⟨#[45]⟩ : ByteArray).size + (⟨L.toArray⟩ : ByteArray).size ≤ 9223372036854775807 := by
      show 1 + L.length ≤ _
      omega
    have hc : (⟨#[45]⟩ : ByteArray) ++ ⟨L.toArray⟩ = ⟨(45 :: L).toArray⟩ := str_cons 45 L
    have hU := Lib.hid hu
    have hC := Lib.hid hc
    obtain ⟨SN, hSN⟩ : ∃ SN : ByteArray, SN = ⟨(45 :: L).toArray⟩ := ⟨_, rfl⟩
    rw [← hSN] at hc ⊢
    clear hu e hl hSN
    generalize hS0 : (⟨L.toArray⟩ : ByteArray) = SL at hs hc
    go_enter Try.func80, Try.ntmps80
    go_wp2_with (
      go_at_call 107
      refine (hU.out _).mono ?_
      rintro e w1 ⟨rfl, hx1⟩)
    go_ret
    exact ⟨rfl, hx1⟩
  · obtain ⟨m, rfl⟩ : ∃ m : Nat, n = m := ⟨n.toNat, by omega⟩
    have e : decL (m : Int) = udecL 20 m [] := by
      unfold decL
      rw [if_neg h0, Int.natAbs_natCast]
    rw [e]
    have hU := Lib.hid (fun w => udec_c m (by omega) w)
    go_enter Try.func80, Try.ntmps80
    go_wp2_with (
      go_at_call 107
      refine (hU.out _).mono ?_
      rintro e w1 ⟨rfl, hx1⟩)
    go_ret
    exact ⟨rfl, hx1⟩
end Go.Proofs.Ythhckledkhcfeaa
