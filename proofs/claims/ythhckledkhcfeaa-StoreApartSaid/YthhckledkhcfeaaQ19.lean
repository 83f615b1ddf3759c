/- The store's copy: a dictionary with its pairs comes to a store. The store's copy: Copy. -/
import Derived.Test.YthhckledkhcfeaaQ08
import Derived.Test.YthhckledkhcfeaaQ10
import Derived.Test.YthhckledkhcfeaaQ16
import Derived.Test.YthhckledkhcfeaaQ18
namespace Go.Proofs.Ythhckledkhcfeaa
open Go.RowKit
section
variable {w w' : World} {p : Nat} {σ : St} {h : Hd} {ρ : Roles}
theorem Sto.addDictX (s : Sto w p σ h ρ) {v t : Sl} {d : Nat} {x : Dc} (g : Grew w w' ρ .dicts h.dicts v ⟨some ⟨d, 0, none⟩, 1, 1⟩ p)
    (hm : Blk w' p 116 [.int .i64 σ.free, .slice h.texts.a h.texts.n h.texts.c, .slice h.lists.a h.lists.n h.lists.c, .slice v.a v.n v.c, .slice h.changes.a h.changes.n h.changes.c, .slice h.marks.a h.marks.n h.marks.c])
    (hv : Row w' 141 1 v (ptrVals h.ds ++ [.pointer (some ⟨d, 0, none⟩)])) (ht : Blk w' d 144 [.int .i64 x.most, .int .i64 x.access, .slice t.a t.n t.c]) (hx : (x.pairs.length : Int) ≤ x.most ∧ x.most ≤ 4096)
    (hr : Row w' 122 16 t (x.pairs.flatMap pairCells)) (htb : ∀ b, t.blk = some b → w.heap.size ≤ b ∧ b ≠ d ∧ v.blk ≠ some b)
    (hroom : (σ.texts.length : Int) + σ.lists.length + (σ.dicts.length + 1) + σ.free ≤ 1048576) :
    ∃ ρ' : Roles, Sto w' p { σ with dicts := σ.dicts ++ [x] } { h with dicts := v, ds := h.ds ++ [(d, t)] } ρ' ∧ ∀ b, ρ'.own b → ρ.own b ∨ w.heap.size ≤ b := by
  obtain ⟨u0, v1, v2, v3, v4⟩ := g.upd s (nrole := .dict σ.dicts.length) s.rdicts (fun b hb => hv.blk_lt hb) (fun b hb => by simp [Sl.blk] at hb; subst hb; exact ht.lt)
  rw [if_neg (g.not_main s s.rdicts (by simp))] at v3
  generalize (ρ.puts v.blk Role.dicts).puts _ _ = ρ1 at u0 v1 v2 v3 v4
  have hne : ∀ b, b < w.heap.size → t.blk ≠ some b := fun b hb e => by have := (htb b e).1; omega
  have u : Upd w w' ρ (ρ1.puts t.blk (.pairs σ.dicts.length)) (fun r => r = .main ∨ r = .dicts) := ⟨fun b r hb hr => by
    have hbl := s.bound b (by rw [hb]; simp)
    refine ⟨(u0.same b r hb hr).1, ?_⟩
    unfold Roles.puts
    rw [if_neg (hne b hbl)]
    exact (u0.same b r hb hr).2, fun b hb => by
    rcases Roles.puts_own hb with h1 | h1
    · exact u0.bound b h1
    · exact hr.blk_lt h1⟩
  have u1 : v.on (ρ1.puts t.blk (.pairs σ.dicts.length)) .dicts := fun b hb => by
    unfold Roles.puts
    rw [if_neg (fun e => (htb b e).2.2 hb)]
    exact v1 b hb
  have u3 : (ρ1.puts t.blk (.pairs σ.dicts.length)) p = some .main := by
    unfold Roles.puts
    rw [if_neg (hne p s.lt)]
    exact v3
  have ud : (ρ1.puts t.blk (.pairs σ.dicts.length)) d = some (.dict σ.dicts.length) := by
    unfold Roles.puts
    rw [if_neg (fun e => (htb d e).2.1 rfl)]
    exact v2 d rfl
  refine ⟨ρ1.puts t.blk (.pairs σ.dicts.length), ?_, fun b hb => by
    rcases Roles.puts_own hb with h1 | h1
    · exact v4 b h1
    · exact .inr (htb b h1).1⟩
  exact {
    ok := ⟨s.ok.free0, by simp only [List.length_append, List.length_singleton]; omega, s.ok.text, s.ok.list, fun y hy => by
      rcases List.mem_append.1 hy with hy | hy
      · exact s.ok.dict y hy
      · rw [List.mem_singleton.1 hy]; exact hx, s.ok.nchg, s.ok.nmark⟩
    main := hm
    rmain := u3
    texts := u.row s.texts s.rtexts (by simp)
    rtexts := u.on s.rtexts (by simp)
    lists := u.row s.lists s.rlists (by simp)
    rlists := u.on s.rlists (by simp)
    dicts := by simpa [ptrVals] using hv
    rdicts := u1
    changes := u.row s.changes s.rchanges (by simp)
    rchanges := u.on s.rchanges (by simp)
    marks := u.row s.marks s.rmarks (by simp)
    rmarks := u.on s.rmarks (by simp)
    nts := s.nts
    nls := s.nls
    nds := by simp [s.nds]
    ts := fun i v b h1 h2 => have ⟨a, c⟩ := s.ts i v b h1 h2; ⟨u.row a c (by simp), u.on c (by simp)⟩
    ls := fun i v b h1 h2 => have ⟨a, c⟩ := s.ls i v b h1 h2; ⟨u.row a c (by simp), u.on c (by simp)⟩
    ds := fun i v b h1 h2 => by
      rcases getElem?_snoc h1 with h1 | ⟨hi1, rfl⟩
      · rcases getElem?_snoc h2 with h2 | ⟨hi2, rfl⟩
        · have ⟨a, c, d, e⟩ := s.ds i v b h1 h2
          exact ⟨u.blk a c (by simp), u.at_ c (by simp), u.row d e (by simp), u.on e (by simp)⟩
        · have := getElem?_lt h1; have := s.nds; omega
      · rcases getElem?_snoc h2 with h2 | ⟨hi2, rfl⟩
        · have := getElem?_lt h2; have := s.nds; omega
        · rw [hi2]; exact ⟨ht, ud, hr, Sl.on_puts _ _ _⟩
    bound := u.bound }
end
end Go.Proofs.Ythhckledkhcfeaa
namespace Go.Proofs.Ythhckledkhcfeaa
open Go.RowKit
theorem chgs_one (l : List Chg) : ∀ u ∈ l.flatMap Chg.cells, u.oneCell' = true := by
  intro u hu
  obtain ⟨⟨a, b, c, ⟨d, e⟩⟩, -, ho⟩ := List.mem_flatMap.1 hu
  simp only [Chg.cells, pairCells, Ob.cells, List.mem_append, List.mem_cons, List.mem_nil_iff, or_false] at ho
  rcases ho with (rfl | rfl | rfl) | (rfl | rfl | rfl | rfl | rfl | rfl | rfl | rfl) | (rfl | rfl | rfl | rfl | rfl | rfl | rfl | rfl) <;> rfl
theorem szs_one (l : List Szs) : ∀ u ∈ l.flatMap Szs.cells, u.oneCell' = true := by
  intro u hu
  obtain ⟨⟨a, b, c, d, e⟩, -, ho⟩ := List.mem_flatMap.1 hu
  simp only [Szs.cells, List.mem_cons, List.mem_nil_iff, or_false] at ho
  rcases ho with rfl | rfl | rfl | rfl | rfl <;> rfl
section
open Classical
noncomputable def baseR (w0 w1 w2 w3 w4 : World) (vt vl vc vm : Sl) (ts ls : List Sl) : Roles := fun b =>
  if b = w4.heap.size then some .main
  else if w3.heap.size ≤ b then (if vm.blk = some b then some .marks else none)
  else if w2.heap.size ≤ b then (if vc.blk = some b then some .changes else none)
  else if w1.heap.size ≤ b then (if vl.blk = some b then some .lists else if h : ∃ (i : Nat) (t : Sl), ls[i]? = some t ∧ t.blk = some b then some (.list h.choose) else none)
  else if w0.heap.size ≤ b then (if vt.blk = some b then some .texts else if h : ∃ (i : Nat) (t : Sl), ts[i]? = some t ∧ t.blk = some b then some (.text h.choose) else none)
  else none
theorem Sto.base {w0 w1 w2 w3 w4 : World} {σ : St} {vt vl vc vm : Sl} {ts ls : List Sl} (ok : σ.Ok) (ct : Cln w0 w1 45 5 1 byteCells vt ts σ.texts) (cl : Cln w1 w2 33 27 8 obCells vl ls σ.lists)
    (cc : Fresh w2 w3 124 19 vc (σ.changes.flatMap Chg.cells)) (cm : Fresh w3 w4 140 5 vm (σ.marks.flatMap Szs.cells)) :
    ∃ ρ : Roles, Sto (w4.alloc (.cells #[.int .i64 σ.free, .slice vt.a vt.n vt.c, .slice vl.a vl.n vl.c, .slice none 0 0, .slice vc.a vc.n vc.c, .slice vm.a vm.n vm.c] 116)) w4.heap.size { σ with dicts := [] } ⟨vt, vl, Sl.nil, vc, vm, ts, ls, []⟩ ρ ∧
      ∀ b, ρ.own b → w0.heap.size ≤ b := by
  obtain ⟨rc, lc, xc⟩ := cc
  obtain ⟨rm, lm, xm⟩ := cm
  have z1 := ct.ext.size
  have z2 := cl.ext.size
  have z3 := xc.size
  have z4 := xm.size
  have x24 := cl.ext.trans_ (xc.trans_ xm)
  have x34 := xc.trans_ xm
  refine ⟨baseR w0 w1 w2 w3 w4 vt vl vc vm ts ls, ⟨?_, Blk.new w4 116 _, ?_, (ct.row.ext x24).alloc _, ?_, (cl.row.ext x34).alloc _, ?_, Row.nil_ _ _ _, Sl.nil_on _ _, (rc.ext xm).alloc _, ?_, rm.alloc _, ?_, ct.len, cl.len, rfl, ?_, ?_, ?_, ?_⟩, ?_⟩
  · exact ⟨ok.free0, by have := ok.room; simp; omega, ok.text, ok.list, fun d hd => by simp at hd, ok.nchg, ok.nmark⟩
  · simp [baseR]
  · intro g hg
    have h1 := ct.row.blk_lt hg
    have h2 := ct.olow g hg
    unfold baseR
    rw [if_neg (by omega), if_neg (by omega), if_neg (by omega), if_neg (by omega), if_pos h2, if_pos hg]
  · intro g hg
    have h1 := cl.row.blk_lt hg
    have h2 := cl.olow g hg
    unfold baseR
    rw [if_neg (by omega), if_neg (by omega), if_neg (by omega), if_pos h2, if_pos hg]
  · intro g hg
    have h1 := rc.blk_lt hg
    have h2 := lc g hg
    unfold baseR
    rw [if_neg (by omega), if_neg (by omega), if_pos h2, if_pos hg]
  · intro g hg
    have h1 := rm.blk_lt hg
    have h2 := lm g hg
    unfold baseR
    rw [if_neg (by omega), if_pos h2, if_pos hg]
  · intro i t b h1 h2
    refine ⟨((ct.rows i t b h1 h2).ext x24).alloc _, fun g hg => ?_⟩
    have h3 := ct.lt i t g h1 hg
    obtain ⟨h4, h5⟩ := ct.low i t g h1 hg
    have he : ∃ (i : Nat) (t : Sl), ts[i]? = some t ∧ t.blk = some g := ⟨i, t, h1, hg⟩
    unfold baseR
    rw [if_neg (by omega), if_neg (by omega), if_neg (by omega), if_neg (by omega), if_pos h4, if_neg h5, dif_pos he]
    obtain ⟨u, hu, hgu⟩ := he.choose_spec
    rw [ct.inj _ _ u t g hu h1 hgu hg]
  · intro i t b h1 h2
    refine ⟨((cl.rows i t b h1 h2).ext x34).alloc _, fun g hg => ?_⟩
    have h3 := cl.lt i t g h1 hg
    obtain ⟨h4, h5⟩ := cl.low i t g h1 hg
    have he : ∃ (i : Nat) (t : Sl), ls[i]? = some t ∧ t.blk = some g := ⟨i, t, h1, hg⟩
    unfold baseR
    rw [if_neg (by omega), if_neg (by omega), if_neg (by omega), if_pos h4, if_neg h5, dif_pos he]
    obtain ⟨u, hu, hgu⟩ := he.choose_spec
    rw [cl.inj _ _ u t g hu h1 hgu hg]
  · intro i d x h1
    simp at h1
  · intro b hb
    rw [World.size_alloc]
    rcases Nat.lt_or_ge b (w4.heap.size + 1) with hlt | hlt
    · exact hlt
    · exfalso
      apply hb
      unfold baseR
      rw [if_neg (by omega), if_pos (by omega), if_neg (fun h => by have := rm.blk_lt h; omega)]
  · intro b hb
    rcases Nat.lt_or_ge b w0.heap.size with hlt | hlt
    · exfalso
      apply hb
      unfold baseR
      rw [if_neg (by omega), if_neg (by omega), if_neg (by omega), if_neg (by omega), if_neg (by omega)]
    · exact hlt
end
section
variable {w w' : World} {p : Nat} {σ : St} {h : Hd} {ρ : Roles}
set_option maxRecDepth 100000 in
set_option maxHeartbeats 4000000 in
theorem copy_ok (s : Sto w p σ h ρ) :
    Calls Try.prog 27 #[.pointer (some ⟨p, 0, none⟩)] w fun e w' => ∃ (q : Nat) (h' : Hd) (ρ' : Roles), e = .returned (.pointer (some ⟨q, 0, none⟩)) ∧ Sto w' q σ h' ρ' ∧ (∀ b, ρ'.own b → w.heap.size ≤ b) ∧ Ext w w' := by
  have hr := s.ok.room
  have hf0 := s.ok.free0
  have n1 := s.ntexts
  have n2 := s.nlists
  have n3 := s.ndicts
  have n4 := s.nchanges
  have n5 := s.nmarks
  have b4 := s.ok.nchg
  have b5 := s.ok.nmark
  have hT := fun (W : World) (hW : Ext w W) => clonesT (hd := h.texts) (ts := h.ts) (bs := σ.texts) (s.texts.ext hW) s.nts (fun i t b h1 h2 => (s.ts i t b h1 h2).1.ext hW) s.ok.text (by omega)
  have hL := fun (W : World) (hW : Ext w W) => clonesL (hd := h.lists) (ts := h.ls) (bs := σ.lists) (s.lists.ext hW) s.nls (fun i t b h1 h2 => (s.ls i t b h1 h2).1.ext hW) s.ok.list (by omega)
  have hC := fun (W : World) (hW : Ext w W) => cloneChg h.changes.c (View.of_row (s.changes.ext hW)) (chgs_one _) (by omega)
  have hM := fun (W : World) (hW : Ext w W) => cloneSzs h.marks.c (View.of_row (s.marks.ext hW)) (szs_one _) (by omega)
  have hHT := Lib.hid hT
  have hHL := Lib.hid hL
  have hHC := Lib.hid hC
  have hHM := Lib.hid hM
  clear hT hL hC hM n1 n2 n3 n4 n5 b4 b5 hr hf0
  have hmain := s.main
  obtain ⟨iP, hiP, hzP, hsP, hbP⟩ := info_parts info_dictp
  go_enter Try.func27, Try.ntmps27
  go_upto_region 3 with fail
  have y1 := fun (E : ExtOf w) i => (E.cells hmain.lt i).trans (hmain.cell i)
  refine wp_region_plan (C := fun w' => ∃ E : ExtOf w, w' = E.w) [true, true, true, true, true, true, true, true, false, true, true, true, true, false, true, true, true, true, false, true, true, true, true, false, false, false, false] 24 4 (by kernel_rfl) (by kernel_rfl) (fun c a d v w h => by cases d <;> exact h) ⟨⟨_, (Ext.rfl_ w).drew_⟩, rfl⟩ ?_
  simp only [pickQ, pickT]
  repeat (go_big_quiet_step (fail))
  refine wpQuiet_nil ?_
  clear y1
  refine wpTail_cons (fun K hK => ?_)
  go_simp
  refine (hHT.out w.drew (Ext.rfl_ w).drew_).mono ?_
  rintro e w1 ⟨vt, ts', rfl, ct⟩
  have hx1 := (Ext.rfl_ w).drew_.trans_ ct.ext
  refine hK _ _ ⟨⟨_, hx1⟩, rfl⟩ ?_
  clear hK K
  refine wpTail_cons (fun K hK => ?_)
  go_simp
  refine (hHL.out w1 hx1).mono ?_
  rintro e w2 ⟨vl, ls', rfl, cl⟩
  have hx2 := hx1.trans_ cl.ext
  refine hK _ _ ⟨⟨_, hx2⟩, rfl⟩ ?_
  clear hK K
  refine wpTail_cons (fun K hK => ?_)
  go_simp
  refine (hHC.out w2 hx2).mono ?_
  rintro e w3 ⟨⟨ca, cn, cc⟩, rfl, hcn, hcf⟩
  dsimp only at hcn
  subst hcn
  have hx3 := hx2.trans_ hcf.2.2
  refine hK _ _ ⟨⟨_, hx3⟩, rfl⟩ ?_
  clear hK K
  refine wpTail_cons (fun K hK => ?_)
  go_simp
  refine (hHM.out w3 hx3).mono ?_
  rintro e w4 ⟨⟨ma, mn, mc⟩, rfl, hmn, hmf⟩
  dsimp only at hmn
  subst hmn
  have hx4 := hx3.trans_ hmf.2.2
  refine hK _ _ ⟨⟨_, hx4⟩, rfl⟩ ?_
  clear hK K
  refine wpTail_zero ?_
  obtain ⟨ρ0, s0, ho0⟩ := Sto.base s.ok ct cl hcf hmf
  have hS0 := Lib.hid s0
  have hO0 := Lib.hid ho0
  clear ct cl hcf hmf s0 ho0
  go_upto_region 4 with fail
  have s0 := hS0.out
  have hx5 := hx4.alloc_ (.cells #[.int .i64 σ.free, .slice vt.a vt.n vt.c, .slice vl.a vl.n vl.c, .slice none 0 0, .slice ca h.changes.n cc, .slice ma h.marks.n mc] 116)
  generalize World.alloc w4 _ = X at s0 hx5 ⊢
  generalize w4.heap.size = C at s0 ⊢
  clear hS0
  obtain ⟨k, hk⟩ : ∃ k, k = h.dicts.n := ⟨_, rfl⟩
  have hkn : σ.dicts.length = k := by rw [hk]; exact s.ndicts.symm
  have hkb : k ≤ 1048576 := by have := s.ok.room; have := s.ok.free0; omega
  rw [← hk] at hmain
  have cm := (hmain.ext hx5).cell
  have hHk := Lib.hid hk
  have hHkn := Lib.hid hkn
  have hS0 := Lib.hid s0
  clear hk hkn s0
  go_upto_region 5 with fail
  clear cm
  have hX5 := Lib.hid hx5
  clear hx5 hx1 hx2 hx3 hx4
  go_loopg [40] k (fun gk s40 wr => ∃ (i : Nat) (Dv : Sl) (ds' : List (Nat × Sl)) (ρ' : Roles), i ≤ k ∧ gk = k - i ∧ s40 = .int .i64 i ∧ Sto wr C { σ with dicts := σ.dicts.take i } ⟨vt, vl, Dv, ⟨ca, h.changes.n, cc⟩, ⟨ma, h.marks.n, mc⟩, ts', ls', ds'⟩ ρ' ∧ (∀ b, ρ'.own b → w.heap.size ≤ b) ∧ Ext w wr)
  case atStart => exact ⟨0, Sl.nil, [], ρ0, Nat.zero_le _, rfl, rfl, hS0.out, hO0.out, hX5.out⟩
  case round =>
    obtain ⟨i, Dv, ds', ρ', hi, hgk, hs40, sr, hor, hxr⟩ := hrel
    subst hs40
    by_cases hlt : i < k
    · have hlti : (i : Int) < k := by omega
      obtain ⟨g, hga, hgb⟩ := s.dicts.pos (by rw [← hHk.out]; omega)
      have hgl := s.dicts.blk_lt hgb
      obtain ⟨d, hd⟩ : ∃ d, h.ds[i]? = some d := ⟨_, List.getElem?_eq_getElem (by have h1 := s.nds; have h2 := hHkn.out; omega)⟩
      obtain ⟨D, hD⟩ : ∃ D, σ.dicts[i]? = some D := ⟨_, List.getElem?_eq_getElem (by have h2 := hHkn.out; omega)⟩
      have hcell : wr.cell? ⟨g, i, none⟩ = some (.pointer (some ⟨d.1, 0, none⟩)) := by
        rw [hxr.cells hgl i, s.dicts.cell hga i (by rw [← hHk.out]; omega)]
        simp [ptrVals, hd]
      obtain ⟨hbd, -, hrd, -⟩ := s.ds i d D hd hD
      have hbd' := hbd.ext hxr
      have hrd' := hrd.ext hxr
      have hok := s.ok.dict D (List.mem_of_getElem? hD)
      have hdn : d.2.n = D.pairs.length := by have := hrd.len; rw [length_flat pairCells 16 length_pair] at this; omega
      have hnp : d.2.n ≤ 4294967296 := by omega
      have hHD := Lib.hid hD
      have hHok := Lib.hid hok
      have hHdn := Lib.hid hdn
      rw [hga]
      clear hd hD hbd hrd hok hdn
      have cd := hbd'.cell
      go_upto_region 8 with fail
      generalize hN : World.alloc wr _ = W1
      obtain ⟨hx1, -, -, hz1, hb1⟩ := boxed hN
      have hW1 : W1.heap.size = wr.heap.size + 1 := by rw [← hN]; simp
      clear hN cd
      have cd1 := (hbd'.ext hx1).cell
      go_upto_region 9 with (
        go_at_call 79
        refine (clonePair _ (View.of_row (hrd'.ext hx1)) (pairs_one _) hnp).mono ?_
        rintro e w2 ⟨⟨va, vn, vc2⟩, rfl, hvn, hfr⟩
        have hFr := Lib.hid hfr
        have hVn := Lib.hid hvn
        have cb := (hb1.ext hfr.2.2).cell
        have fb := (hb1.ext hfr.2.2).frozen
        clear hvn hfr)
      clear cd1 cb fb
      have hb2 := (hb1.ext hFr.out.2.2).set_ 2 (.slice va vn vc2)
      have o2 := (Only.refl_ w2 wr.heap.size).set_ 2 (.slice va vn vc2)
      have hx2 := (hx1.trans_ hFr.out.2.2).only o2 (Nat.le_refl _)
      have hrt := hFr.out.1.far (p := ⟨wr.heap.size, 2, none⟩) (fun e => by have := hFr.out.2.1 _ e; dsimp only at this; omega) (.slice va vn vc2)
      have hrl : ∀ b, Sl.blk ⟨va, vn, vc2⟩ = some b → wr.heap.size + 1 ≤ b := fun b hb => by have := hFr.out.2.1 b hb; omega
      clear hb1 hFr o2
      generalize World.setCell w2 ⟨wr.heap.size, 2, none⟩ (.slice va vn vc2) = W2 at hb2 hx2 hrt ⊢
      have cm := (sr.ext hx2).main.cell
      have fm := (sr.ext hx2).main.frozen
      have hDn := sr.ndicts
      have hdb : Dv.n ≤ 1048576 := by
        have h1 : Dv.n = (σ.dicts.take i).length := hDn
        rw [List.length_take] at h1
        omega
      have hSr := Lib.hid sr
      have hOr := Lib.hid hor
      have hXr := Lib.hid hxr
      clear hDn sr hor hxr hbd' hrd' hcell
      go_wp2_with (
        at_builtin
        refine wpList_app (by rfl) _ _ _ (by rfl) 141 iP _ 1 8 Try.underlying112 hiP hzP hsP hbP rfl (by omega) Dv (by rfl) ((hSr.out.dicts.ext hx2).alloc _) (by rfl) (View.of_blk (n := 1) (Blk.new W2 _ [.pointer (some ⟨wr.heap.size, 0, none⟩)]) rfl) ?_ ?_ ?_ ?_
        · intro u hu
          simp only [List.mem_cons, List.mem_nil_iff, or_false] at hu
          subst hu
          rfl
        · simp only [maxLen]; omega
        · omega
        intro v6 w6 hrow6 hlen6 hgrow6 hat6
        obtain ⟨hg0, hg1, hg2, hg3, hg4, hg5, hg6⟩ := hSr.out.hdr_app hSr.out.rdicts (by simp) (hx2.alloc_ _) hgrow6 hat6 (by have := hx2.size; simp; omega) hrow6 3 (.slice v6.a v6.n v6.c) hSr.out.main
        have k0 := hg0.cell
        have k1 := hg0.frozen)
      have sr := hSr.out
      have hDl : ∀ b, Dv.blk = some b → b < wr.heap.size := fun b hb => sr.dicts.blk_lt hb
      have hCl : C < wr.heap.size := sr.lt
      have hz2 : wr.heap.size < W2.heap.size := hb2.lt
      have hsA : (World.alloc W2 (.cells #[.pointer (some ⟨wr.heap.size, 0, none⟩)] 141)).heap.size = W2.heap.size + 1 := by simp
      have hkeep : ∀ b, wr.heap.size ≤ b → b < W2.heap.size → (w6.setCell ⟨C, 3, none⟩ (.slice v6.a v6.n v6.c)).heap[b]? = W2.heap[b]? := fun b h1 h2 =>
        (Below.heap_setCell _ _ _ _ (by simp; omega)).trans ((hgrow6.block b (by rw [hsA]; omega) (fun e => by have := hDl b e.symm; omega)).trans (Below.heap_alloc _ _ _ h2))
      have hv6 : ∀ b, wr.heap.size ≤ b → b < W2.heap.size → v6.blk ≠ some b := fun b h1 h2 e => by
        rcases hat6 with h3 | h3
        · rw [h3] at e; have := hDl b e; omega
        · rw [h3] at e; injection e with e; omega
      have hgw : Grew wr (w6.setCell ⟨C, 3, none⟩ (.slice v6.a v6.n v6.c)) ρ' .dicts Dv v6 ⟨some ⟨wr.heap.size, 0, none⟩, 1, 1⟩ C :=
        ⟨hg5, hg3, fun b hb => by simp [Sl.blk] at hb; omega, fun b hb => by simp [Sl.blk] at hb; subst hb; exact hv6 _ (Nat.le_refl _) hz2, hg4⟩
      have hDrow := hHD.out
      have hlD : i < σ.dicts.length := getElem?_lt hDrow
      obtain ⟨ρ2, s2, h2⟩ := sr.addDictX (t := ⟨va, vn, vc2⟩) (x := D) hgw hg1 hg2 (hb2.keep (hkeep _ (Nat.le_refl _) hz2)) hHok.out (hrt.keep fun b hb => hkeep b (by have := hrl b hb; omega) (hrt.blk_lt hb))
        (fun b hb => ⟨by have := hrl b hb; omega, fun e => by have := hrl b hb; omega, hv6 b (by have := hrl b hb; omega) (hrt.blk_lt hb)⟩)
        (by have := s.ok.room; show (σ.texts.length : Int) + σ.lists.length + ((σ.dicts.take i).length + 1) + σ.free ≤ 1048576; rw [List.length_take]; omega)
      have hfin := (⟨hXr.out, hOr.out⟩ : Fr w wr ρ'.own).moves (hg6 ρ2.own h2)
      rw [← hga]
      go_roundg (k - (i + 1))
      case measure => omega
      case rel =>
        refine ⟨i + 1, v6, ds' ++ [(wr.heap.size, ⟨va, vn, vc2⟩)], ρ2, by omega, rfl, by simp, ?_, hfin.low, hfin.ext⟩
        rw [List.take_add_one, hDrow]
        exact s2
    · obtain rfl : i = k := by omega
      have hki : ¬ (i : Int) < i := by omega
      go_wp2
      go_ret
      have e : σ.dicts.take i = σ.dicts := List.take_of_length_le (by rw [hHkn.out]; exact Nat.le_refl _)
      rw [e] at sr
      exact ⟨C, rfl, _, ρ', sr, hor, hxr⟩
end
end Go.Proofs.Ythhckledkhcfeaa
