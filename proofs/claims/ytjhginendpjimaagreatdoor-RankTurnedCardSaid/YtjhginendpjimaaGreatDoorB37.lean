import Derived.Test.YtjhginendpjimaaGreatDoorB33
import Derived.Test.YtjhginendpjimaaGreatDoorB36
import Derived.Test.YtjhginendpjimaaGreatDoorB22
set_option linter.unusedSimpArgs false
set_option linter.unusedVariables false
set_option maxRecDepth 200000
set_option maxHeartbeats 8000000
namespace Go.Proofs.YtjhginendpjimaaGreatDoor
section
open Go Go.RowKit Go.OpenShut
def ascB : ByteArray := ⟨#[105, 115, 65, 115, 99, 101, 110, 100, 105, 110, 103]⟩
def prpB : ByteArray := ⟨#[112, 114, 111, 112, 101, 114, 116, 121]⟩
def downJ (tc : JV) : Bool := match tc.get ascB with | some x => decide (x.n = 0) | none => false
theorem TreeOf.nn {w : World} {B : Nat} {t : JV} {r : RV} (h : TreeOf w B t r) : r.n = t.n := by cases h; rfl
theorem headD_snoc (L : List ByteArray) : (L ++ [(⟨#[]⟩ : ByteArray)])[0]? = some (L.headD ⟨#[]⟩) := by cases L <;> rfl
theorem partsJ_len {t : JV} (h : t.Ok) (k : ByteArray) : (partsJ (nameV t) k).length <= 1759218604390 := by
 rw [partsJ_of]
 exact Nat.le_trans (partsL_len _ _) (inJ_ok (nameV_ok h)).1
theorem keyK_small {t : JV} (h : t.Ok) (p : ByteArray) : (keyK t p).size <= 140737488351232 := by
 have hT : ∀ (u : JV) (ou : u.Ok) (name x : ByteArray), x ∈ textM u name -> x.size <= 140737488351232 := fun u ou name x hx => by
  unfold textM at hx
  cases hg : u.get name with
  | none => rw [hg] at hx; cases hx
  | some v =>
    rw [hg] at hx
    dsimp only at hx
    split at hx
    ·rw [List.mem_singleton] at hx; subst hx; exact (ou.get hg).s_le.1
    ·cases hx
 have hH : ∀ (l : List ByteArray), (∀ x ∈ l, x.size <= 140737488351232) -> (l.headD ⟨#[]⟩).size <= 140737488351232 := fun l hl => by
  cases l with
  | nil => exact Nat.zero_le _
  | cons a r => exact hl a (List.mem_cons_self ..)
 unfold keyK
 split
 ·exact hH _ (fun x hx => hT t h _ x hx)
 ·refine hH _ (fun x hx => ?_)
  have hx : x ∈ partsJ (nameV t) (p.extract 5 p.size) := hx
  rw [partsJ_of] at hx
  unfold partsL at hx
  obtain ⟨c, hc, hxc⟩ := List.mem_flatMap.1 hx
  obtain ⟨i, hi⟩ := List.mem_iff_getElem?.1 (List.mem_filter.1 hc).1
  exact hT c ((inJ_ok (nameV_ok h)).2 i c hi) _ x hxc
theorem rkey_any (tc t u vp : JV) (rc r q : RV) (p : ByteArray) (hp : PropOk p) (hgp : tc.get prpB = some vp) (hvp : vp.s = p) (w : World) (B : Nat) (hBw : B <= w.heap.size) (hc : TreeOf w B tc rc) (oc : tc.Ok) (ht : TreeOf w B t r) (ot : t.Ok) (hu : TreeOf w B u q) (ou : u.Ok) :
 Calls Tryz.prog 36 #[rc.val, r.val, q.val] w fun e w' => e = .returned (.int .i64 (cmpK ⟨p, downJ tc⟩ t u)) /\ Below w.heap.size w w' := by
 obtain ⟨W0, hW0⟩ : ∃ W0, ((w.alloc rc.obj).alloc r.obj).alloc q.obj = W0 := ⟨_, rfl⟩
 have hC0 : VAt W0 w.heap.size rc := by rw [<- hW0]; exact heap_alloc_lt (by simp; omega) (heap_alloc_lt (by simp) (heap_alloc_at rfl))
 have hA0 : VAt W0 (w.heap.size + 1) r := by rw [<- hW0]; exact heap_alloc_lt (by simp) (heap_alloc_at (by simp))
 have hQ0 : VAt W0 (w.heap.size + 2) q := by rw [<- hW0]; exact heap_alloc_at (by simp)
 have hB0 : Below w.heap.size w W0 := by rw [<- hW0]; exact (below2 w _ _).alloc (by simp; omega) _
 have hl0 := hQ0.lt
 have hw0 := hB0.size
 have HG1 : Hid (Calls Tryz.prog 56 #[rc.val, .string prpB] W0 (GetRetB W0 B (some vp))) := by
  have h := refGetB_any tc rc prpB W0 B (Nat.le_trans hBw hw0) (hc.under (hB0.mono hBw) (Nat.le_refl _)) oc
  rw [hgp] at h
  exact h
 have HG2 : Hid (∀ W, Below W0.heap.size W0 W -> Calls Tryz.prog 56 #[rc.val, .string ascB] W (GetRetB W B (tc.get ascB))) := fun W hW => refGetB_any tc rc ascB W B (Nat.le_trans (Nat.le_trans hBw hw0) hW.size) (hc.under ((hB0.trans (hW.mono hw0)).mono hBw) (Nat.le_refl _)) oc
 have HGA : Hid (∀ W, Below W0.heap.size W0 W -> Calls Tryz.prog 56 #[r.val, .string p] W (GetRetB W B (t.get p))) := fun W hW => refGetB_any t r p W B (Nat.le_trans (Nat.le_trans hBw hw0) hW.size) (ht.under ((hB0.trans (hW.mono hw0)).mono hBw) (Nat.le_refl _)) ot
 have HGB : Hid (∀ W, Below W0.heap.size W0 W -> Calls Tryz.prog 56 #[q.val, .string p] W (GetRetB W B (u.get p))) := fun W hW => refGetB_any u q p W B (Nat.le_trans (Nat.le_trans hBw hw0) hW.size) (hu.under ((hB0.trans (hW.mono hw0)).mono hBw) (Nat.le_refl _)) ou
 have HTA : Hid (datedB p = false -> ∀ W, Below W0.heap.size W0 W -> Calls Tryz.prog 59 #[r.val, .string p] W (OwnRet W 9 encS 1 (partsJ (nameV t) (p.extract 5 p.size)))) := fun hd W hW => rntexts_any t r p (by rcases hp with h | h | h | h <;> first | (rw [hd] at h; cases h) | simp [h]) W B (Nat.le_trans (Nat.le_trans hBw hw0) hW.size) (ht.under ((hB0.trans (hW.mono hw0)).mono hBw) (Nat.le_refl _)) ot
 have HTB : Hid (datedB p = false -> ∀ W, Below W0.heap.size W0 W -> Calls Tryz.prog 59 #[q.val, .string p] W (OwnRet W 9 encS 1 (partsJ (nameV u) (p.extract 5 p.size)))) := fun hd W hW => rntexts_any u q p (by rcases hp with h | h | h | h <;> first | (rw [hd] at h; cases h) | simp [h]) W B (Nat.le_trans (Nat.le_trans hBw hw0) hW.size) (hu.under ((hB0.trans (hW.mono hw0)).mono hBw) (Nat.le_refl _)) ou
 have HS : Hid (∀ W, Calls Tryz.prog 23 #[.string (keyK t p), .string (keyK u p)] W fun e w' => e = .returned (.int .i64 (cmpS (keyK t p).data.toList (keyK u p).data.toList)) /\ W = w') := fun W => rscomp_any _ _ W (keyK_le ot p) (keyK_le ou p)
 have HF : Hid (∀ W, Calls Tryz.prog 60 #[.string (keyK t p), .string (keyK u p)] W fun e w' => e = .returned (.int .i64 (Go.Lib.compareBytes (foldL (keyK t p).data.toList) (foldL (keyK u p).data.toList))) /\ Below W.heap.size W w') := fun W => rfcomp_any _ _ W (keyK_small ot p) (keyK_small ou p)
 have HKA : Hid (datedB p = true -> keyK t p = if ((t.get p).getD JV.zero).k = 4 then ((t.get p).getD JV.zero).s else ⟨#[]⟩) := fun hd => by unfold keyK; rw [if_pos hd, stampK_of]
 have HKB : Hid (datedB p = true -> keyK u p = if ((u.get p).getD JV.zero).k = 4 then ((u.get p).getD JV.zero).s else ⟨#[]⟩) := fun hd => by unfold keyK; rw [if_pos hd, stampK_of]
 have HLA : Hid (datedB p = false -> keyK t p = (partsJ (nameV t) (p.extract 5 p.size)).headD ⟨#[]⟩ /\ (partsJ (nameV t) (p.extract 5 p.size)).length <= 1759218604390) := fun hd => ⟨by unfold keyK; rw [if_neg (by rw [hd]; decide)]; rfl, partsJ_len ot _⟩
 have HLB : Hid (datedB p = false -> keyK u p = (partsJ (nameV u) (p.extract 5 p.size)).headD ⟨#[]⟩ /\ (partsJ (nameV u) (p.extract 5 p.size)).length <= 1759218604390) := fun hd => ⟨by unfold keyK; rw [if_neg (by rw [hd]; decide)]; rfl, partsJ_len ou _⟩
 obtain ⟨nn, hnn⟩ : ∃ n, (if datedB p then cmpS (keyK t p).data.toList (keyK u p).data.toList else Go.Lib.compareBytes (foldL (keyK t p).data.toList) (foldL (keyK u p).data.toList)) = n := ⟨_, rfl⟩
 have hnb : -1 <= nn /\ nn <= 1 := by
  rw [<- hnn]
  split
  ·exact cmpS_bound _ _
  ·exact cmpB_bound _ _
 have HK : Hid (cmpK ⟨p, downJ tc⟩ t u = if downJ tc then -nn else nn) := by
  unfold Hid cmpK
  rw [<- hnn]
  unfold keyK
  cases datedB p <;> rfl
 have HDN : Hid (downJ tc = match tc.get ascB with | some x => decide (x.n = 0) | none => false) := rfl
 obtain ⟨R, hR⟩ : ∃ R, cmpK ⟨p, downJ tc⟩ t u = R := ⟨_, rfl⟩
 rw [hR] at HK
 rw [hR]
 obtain ⟨dn, hdn⟩ : ∃ d, downJ tc = d := ⟨_, rfl⟩
 rw [hdn] at HK HDN
 obtain ⟨oa, hoa⟩ : ∃ o, tc.get ascB = o := ⟨_, rfl⟩
 rw [hoa] at HDN HG2
 obtain ⟨X, hX⟩ : ∃ X, keyK t p = X := ⟨_, rfl⟩
 obtain ⟨Y, hY⟩ : ∃ X, keyK u p = X := ⟨_, rfl⟩
 rw [hX] at HS HF hnn HKA HLA
 rw [hY] at HS HF hnn HKB HLB
 obtain ⟨LA, hLA⟩ : ∃ X, partsJ (nameV t) (p.extract 5 p.size) = X := ⟨_, rfl⟩
 obtain ⟨LB, hLB⟩ : ∃ X, partsJ (nameV u) (p.extract 5 p.size) = X := ⟨_, rfl⟩
 rw [hLA] at HTA HLA
 rw [hLB] at HTB HLB
 obtain ⟨ga, hga⟩ : ∃ o, t.get p = o := ⟨_, rfl⟩
 obtain ⟨gb, hgb⟩ : ∃ o, u.get p = o := ⟨_, rfl⟩
 rw [hga] at HGA HKA
 rw [hgb] at HGB HKB
 obtain ⟨ck, cn, cs, cpl, cnl, ccl, cpm, cnm, ccm⟩ := rc
 obtain ⟨k, n, s, pl, nl, cl, pm, nm, cm⟩ := r
 obtain ⟨qk, qn, qs, qpl, qnl, qcl, qpm, qnm, qcm⟩ := q
 dsimp only [RV.val, RV.obj] at *
 have HW := Lib.hid hW0
 have HB0 := Lib.hid hB0
 obtain ⟨n0, n1⟩ := hnb
 obtain ⟨e1, he1⟩ : ∃ b, (p.toList == [99, 114, 101, 97, 116, 101, 100]) = b := ⟨_, rfl⟩
 obtain ⟨e2, he2⟩ : ∃ b, (p.toList == [117, 112, 100, 97, 116, 101, 100]) = b := ⟨_, rfl⟩
 have HDT : Hid (datedB p = (e1 || e2)) := by
  unfold Hid datedB
  have h1 : decide (p = createdN) = e1 := by
   rw [<- he1, ByteArray.toList_eq]
   by_cases h : p = createdN
   ·rw [decide_eq_true h, h]; rfl
   ·rw [decide_eq_false h]
    have h2 : p.data.toList ≠ [99, 114, 101, 97, 116, 101, 100] := fun e => h (ByteArray.ext (Array.toList_inj.1 e))
    simpa using h2
  have h2 : decide (p = updatedN) = e2 := by
   rw [<- he2, ByteArray.toList_eq]
   by_cases h : p = updatedN
   ·rw [decide_eq_true h, h]; rfl
   ·rw [decide_eq_false h]
    have h2 : p.data.toList ≠ [117, 112, 100, 97, 116, 101, 100] := fun e => h (ByteArray.ext (Array.toList_inj.1 e))
    simpa using h2
  rw [h1, h2]
 obtain ⟨dd, hdd⟩ : ∃ b, datedB p = b := ⟨_, rfl⟩
 rw [hdd] at HDT HTA HTB HKA HKB HLA HLB hnn
 have HVP := Lib.hid hvp
 unfold prpB at HG1
 unfold ascB at HG2
 clear hW0 hB0 ht ot hu ou hc oc hR hp hX hY hLA hLB hga hgb hdn hoa hgp hvp hdd
 have h00 : w.heap.size < W0.heap.size := by omega
 have h01 : w.heap.size + 1 < W0.heap.size := by omega
 go_enter Tryz.func36, Tryz.ntmps36
 go_upto_region 1 with fail
 rw [HW.out]
 clear HW
 obtain ⟨c0, c1, c2, c3, c4⟩ := hC0.cells5
 go_upto_region 2 with (go_at_call 56; (with_reducible refine HG1.out.mono ?_); rintro e w1 ⟨rv, bb, rfl, hbb, ht1, hb1⟩; obtain ⟨rk, rn, rS, rpl, rnl, rcl, rpm, rnm, rcm⟩ := rv)
 obtain rfl : bb = true := hbb
 obtain ⟨hkk, hss⟩ := ht1.kk
 dsimp only at hkk hss
 have hrS : rS = p := hss.trans HVP.out
 subst hrS
 have hb2 : Below W0.heap.size W0 (w1.alloc (.cells #[.int .i64 rk, .int .i64 rn, .string rS, .slice rpl rnl rcl, .slice rpm rnm rcm] 25)) := hb1.alloc hb1.size _
 have hv2 : VAt (w1.alloc (.cells #[.int .i64 rk, .int .i64 rn, .string rS, .slice rpl rnl rcl, .slice rpm rnm rcm] 25)) w1.heap.size ⟨rk, rn, rS, rpl, rnl, rcl, rpm, rnm, rcm⟩ := heap_alloc_at rfl
 obtain ⟨g7, hg7⟩ : ∃ g, w1.heap.size = g := ⟨_, rfl⟩
 obtain ⟨W2, hW2⟩ : ∃ W, w1.alloc (.cells #[.int .i64 rk, .int .i64 rn, .string rS, .slice rpl rnl rcl, .slice rpm rnm rcm] 25) = W := ⟨_, rfl⟩
 rw [hW2] at hb2 hv2
 rw [hg7] at hv2
 try rw [hW2]
 try rw [hg7]
 have hC2 := hC0.under hb2 h00
 have hA2 := hA0.under hb2 h01
 have hQ2 := hQ0.under hb2 hl0
 have hz2 := hb2.size
 clear hW2 hg7 hb1 ht1 hkk hss c0 c1 c2 c3 c4 hC0 hA0 hQ0 HG1
 obtain ⟨c0, c1, c2, c3, c4⟩ := hC2.cells5
 have HG3 := Lib.hid (HG2.out W2 hb2)
 go_upto_region 3 with (go_at_call 56; (with_reducible refine HG3.out.mono ?_); rintro e w3 ⟨rv, bb, rfl, hbb, ht3, hb3⟩; obtain ⟨ak, an, aS, apl, anl, acl, apm, anm, acm⟩ := rv; (have HBB := Lib.hid hbb); clear hbb)
 have han := ht3.nn
 dsimp only at han
 have hb4 : Below W2.heap.size W2 (w3.alloc (.cells #[.int .i64 ak, .int .i64 an, .string aS, .slice apl anl acl, .slice apm anm acm] 25)) := hb3.alloc hb3.size _
 have hv4 : VAt (w3.alloc (.cells #[.int .i64 ak, .int .i64 an, .string aS, .slice apl anl acl, .slice apm anm acm] 25)) w3.heap.size ⟨ak, an, aS, apl, anl, acl, apm, anm, acm⟩ := heap_alloc_at rfl
 obtain ⟨g9, hg9⟩ : ∃ g, w3.heap.size = g := ⟨_, rfl⟩
 obtain ⟨W4, hW4⟩ : ∃ W, w3.alloc (.cells #[.int .i64 ak, .int .i64 an, .string aS, .slice apl anl acl, .slice apm anm acm] 25) = W := ⟨_, rfl⟩
 rw [hW4] at hb4 hv4
 rw [hg9] at hv4
 try rw [hW4]
 try rw [hg9]
 have hA4 := hA2.under hb4 hA2.lt
 have hQ4 := hQ2.under hb4 hQ2.lt
 have hP4 := hv2.under hb4 hv2.lt
 have hb04 : Below W0.heap.size W0 W4 := hb2.trans (hb4.mono hz2)
 have hz4 := hb04.size
 have HDD : Hid (dn = (bb && decide (an = 0))) := by
  unfold Hid
  rw [HDN.out, HBB.out, han]
  cases oa <;> rfl
 clear hW4 hg9 hb3 ht3 han HBB c0 c1 c2 c3 c4 hC2 hA2 hQ2 hv2 HG2 HG3 HDN
 have x1 := hv4.cell 1 rfl
 dsimp only at x1
 obtain ⟨a0, a1, a2, a3, a4⟩ := hA4.cells5
 obtain ⟨b0, b1, b2, b3, b4⟩ := hQ4.cells5
 have y2 := hP4.cell 2 rfl
 dsimp only at y2
 have l9 := hv4.lt
 obtain ⟨z, hz⟩ : ∃ b, (an == 0) = b := ⟨_, rfl⟩
 have HZ : Hid (dn = (bb && z)) := by
  unfold Hid
  rw [HDD.out, <- hz]
  congr 1
 go_upto_region 4 with fail
 go_cut [37] from 30 to 37 (fun v wq => v = .bool dd /\ wq = W4)
 case first =>
  cases e1 <;> cases e2
  all_goals
   go_wp2_with fail
   go_meet
   exact ⟨by rw [HDT.out]; rfl, rfl⟩
 case rest =>
 obtain ⟨rfl, hwc⟩ := hcut
 obtain rfl : W4 = wc := hwc.symm
 clear he1 he2 HDT
 cases dd with
 | true =>
   rw [if_pos rfl] at hnn
   rw [hnn] at HS
   have HKX := Lib.hid (HKA.out rfl)
   have HKY := Lib.hid (HKB.out rfl)
   have HGA1 := Lib.hid (HGA.out W4 hb04)
   clear HF HTA HTB HLA HLB HKA HKB HGA hnn
   go_upto_region 6 with (go_at_call 56; (with_reducible refine HGA1.out.mono ?_); rintro e w5 ⟨rv, b5, rfl, hbb5, ht5, hb5⟩; obtain ⟨xk, xn, xS, xpl, xnl, xcl, xpm, xnm, xcm⟩ := rv)
   obtain ⟨hk5, hs5⟩ := ht5.kk
   dsimp only at hk5 hs5
   rw [<- hk5, <- hs5] at HKX
   have hb6 : Below W4.heap.size W4 (w5.alloc (.cells #[.int .i64 xk, .int .i64 xn, .string xS, .slice xpl xnl xcl, .slice xpm xnm xcm] 25)) := hb5.alloc hb5.size _
   have hv6 : VAt (w5.alloc (.cells #[.int .i64 xk, .int .i64 xn, .string xS, .slice xpl xnl xcl, .slice xpm xnm xcm] 25)) w5.heap.size ⟨xk, xn, xS, xpl, xnl, xcl, xpm, xnm, xcm⟩ := heap_alloc_at rfl
   obtain ⟨g12, hg12⟩ : ∃ g, w5.heap.size = g := ⟨_, rfl⟩
   obtain ⟨W6, hW6⟩ : ∃ W, w5.alloc (.cells #[.int .i64 xk, .int .i64 xn, .string xS, .slice xpl xnl xcl, .slice xpm xnm xcm] 25) = W := ⟨_, rfl⟩
   rw [hW6] at hb6 hv6
   rw [hg12] at hv6
   try rw [hW6]
   try rw [hg12]
   have hQ6 := hQ4.under hb6 hQ4.lt
   have hP6 := hP4.under hb6 hP4.lt
   have hz6 := hb6.size
   have HGB1 := Lib.hid (HGB.out W6 (hb04.trans (hb6.mono hz4)))
   clear hW6 hg12 hb5 ht5 hk5 hs5 hbb5 a0 a1 a2 a3 a4 b0 b1 b2 b3 b4 y2 hQ4 HGA1 HGB
   obtain ⟨b0, b1, b2, b3, b4⟩ := hQ6.cells5
   have y2 := hP6.cell 2 rfl
   dsimp only at y2
   go_upto_region 7 with (go_at_call 56; (with_reducible refine HGB1.out.mono ?_); rintro e w7 ⟨rv, b7, rfl, hbb7, ht7, hb7⟩; obtain ⟨zk, zn, zS, zpl, znl, zcl, zpm, znm, zcm⟩ := rv)
   obtain ⟨hk7, hs7⟩ := ht7.kk
   dsimp only at hk7 hs7
   rw [<- hk7, <- hs7] at HKY
   have hb8 : Below W6.heap.size W6 (w7.alloc (.cells #[.int .i64 zk, .int .i64 zn, .string zS, .slice zpl znl zcl, .slice zpm znm zcm] 25)) := hb7.alloc hb7.size _
   have hv8 : VAt (w7.alloc (.cells #[.int .i64 zk, .int .i64 zn, .string zS, .slice zpl znl zcl, .slice zpm znm zcm] 25)) w7.heap.size ⟨zk, zn, zS, zpl, znl, zcl, zpm, znm, zcm⟩ := heap_alloc_at rfl
   obtain ⟨g14, hg14⟩ : ∃ g, w7.heap.size = g := ⟨_, rfl⟩
   obtain ⟨W8, hW8⟩ : ∃ W, w7.alloc (.cells #[.int .i64 zk, .int .i64 zn, .string zS, .slice zpl znl zcl, .slice zpm znm zcm] 25) = W := ⟨_, rfl⟩
   rw [hW8] at hb8 hv8
   rw [hg14] at hv8
   try rw [hW8]
   try rw [hg14]
   have hX8 := hv6.under hb8 hv6.lt
   have hb48 : Below W4.heap.size W4 W8 := hb6.trans (hb8.mono hz6)
   clear hW8 hg14 hb7 ht7 hk7 hs7 hbb7 b0 b1 b2 b3 b4 y2 hQ6 HGB1 hv6
   have u0 := hX8.cell 0 rfl
   have u2 := hX8.cell 2 rfl
   have v0 := hv8.cell 0 rfl
   have v2 := hv8.cell 2 rfl
   dsimp only at u0 u2 v0 v2
   obtain ⟨f1, hf1⟩ : ∃ b, (xk == 4) = b := ⟨_, rfl⟩
   obtain ⟨f2, hf2⟩ : ∃ b, (zk == 4) = b := ⟨_, rfl⟩
   have HX1 : Hid (X = if f1 then xS else ⟨#[]⟩) := by
    unfold Hid
    rw [HKX.out, <- hf1]
    by_cases h : xk = 4
    ·rw [if_pos h, h]; rfl
    ·rw [if_neg h]; simp [h]
   have HY1 : Hid (Y = if f2 then zS else ⟨#[]⟩) := by
    unfold Hid
    rw [HKY.out, <- hf2]
    by_cases h : zk = 4
    ·rw [if_pos h, h]; rfl
    ·rw [if_neg h]; simp [h]
   clear HKX HKY
   cases f1 <;> cases f2
   all_goals
    have hX2 := HX1.out
    have hY2 := HY1.out
    simp only [Bool.false_eq_true, if_false, if_true] at hX2 hY2
    subst hX2
    subst hY2
    have h4a : (xk == 4) = _ := hf1
    have x8 := bcs hb48 l9 x1
    cases bb <;> cases z
    all_goals
     go_wp2_with (first | (go_at_call 23; (with_reducible refine (HS.out _).mono ?_); rintro e w9 ⟨rfl, rfl⟩) | fail)
     go_ret
     exact ⟨ret_intS (by rw [HK.out, HZ.out]; simp), HB0.out.trans ((hb04.trans (hb48.mono hz4)).mono hw0)⟩
 | false =>
   rw [if_neg (by decide)] at hnn
   rw [hnn] at HF
   have HLX := Lib.hid (HLA.out rfl)
   have HLY := Lib.hid (HLB.out rfl)
   have HTA1 := Lib.hid (HTA.out rfl W4 hb04)
   clear HS HGA HGB HKA HKB HLA HLB HTA hnn
   have HLN1 : Hid (LA.length + [(⟨#[]⟩ : ByteArray)].length <= maxLen /\ (LA.length + [(⟨#[]⟩ : ByteArray)].length) * 16 <= 140737488355328) := by
    have := HLX.out.2
    simp only [List.length_singleton]
    exact ⟨by unfold maxLen; omega, by omega⟩
   have HLN2 : Hid (LB.length + [(⟨#[]⟩ : ByteArray)].length <= maxLen /\ (LB.length + [(⟨#[]⟩ : ByteArray)].length) * 16 <= 140737488355328) := by
    have := HLY.out.2
    simp only [List.length_singleton]
    exact ⟨by unfold maxLen; omega, by omega⟩
   have hz44 : W4.heap.size <= W4.heap.size := Nat.le_refl _
   go_upto_region 15 with (first
    | (go_at_call 59; (with_reducible refine HTA1.out.mono ?_); rintro e w5 ⟨u5, rfl, ho5, hb5⟩; (have HO5 := Lib.hid (ho5.alloc (.cells #[.string ⟨#[]⟩] 9))); (have HR5 : Hid (Rd (w5.alloc (.cells #[.string ⟨#[]⟩] 9)) (w5.heap.size + 1) encS 1 (.slice (some ⟨w5.heap.size, 0, none⟩) 1 1) [(⟨#[]⟩ : ByteArray)]) := Rd.one codecS (heap_alloc_at rfl) rfl (by omega)); (have hs5 := hb5.size))
    | (at_builtin; refine wpList_append_rd slS codecS (w5.alloc (.cells #[.string ⟨#[]⟩] 9)) rfl (.tmp 68) (.tmp 69) rfl (v := u5) rfl rfl HO5.out HR5.out HLN1.out.1 HLN1.out.2 (by simp; omega) ?_; intro v6 w6 ho6 hg6 hat6)
    | fail)
   have hb6 : Below W4.heap.size W4 w6 := Below.appended (hb5.alloc hs5 _) hg6 HO5.out (by simp; omega)
   have hQ6 := hQ4.under hb6 hQ4.lt
   have hP6 := hP4.under hb6 hP4.lt
   have hz6 := hb6.size
   have HTB1 := Lib.hid (HTB.out (by first | rfl | trivial) w6 (hb04.trans (hb6.mono hz4)))
   have HO6 := Lib.hid ho6
   have HB6 := Lib.hid hb6
   obtain ⟨p6, c6, hv6, hc6⟩ := ho6.len
   subst hv6
   clear a0 a1 a2 a3 a4 b0 b1 b2 b3 b4 y2 hQ4 HTA1 HTB HO5 HR5 hb5 hg6 hat6 hb6 ho6 hs5
   obtain ⟨b0, b1, b2, b3, b4⟩ := hQ6.cells5
   have y2 := hP6.cell 2 rfl
   dsimp only at y2
   go_upto_region 16 with (first
    | (go_at_call 59; (with_reducible refine HTB1.out.mono ?_); rintro e w7 ⟨u7, rfl, ho7, hb7⟩; (have HO7 := Lib.hid (ho7.alloc (.cells #[.string ⟨#[]⟩] 9))); (have HR7 : Hid (Rd (w7.alloc (.cells #[.string ⟨#[]⟩] 9)) (w7.heap.size + 1) encS 1 (.slice (some ⟨w7.heap.size, 0, none⟩) 1 1) [(⟨#[]⟩ : ByteArray)]) := Rd.one codecS (heap_alloc_at rfl) rfl (by omega)); (have hs7 := hb7.size))
    | (at_builtin; refine wpList_append_rd slS codecS (w7.alloc (.cells #[.string ⟨#[]⟩] 9)) rfl (.tmp 74) (.tmp 75) rfl (v := u7) rfl rfl HO7.out HR7.out HLN2.out.1 HLN2.out.2 (by simp; omega) ?_; intro v8 w8 ho8 hg8 hat8)
    | fail)
   have hb8 : Below w6.heap.size w6 w8 := Below.appended (hb7.alloc hs7 _) hg8 HO7.out (by simp; omega)
   obtain ⟨p8, c8, hv8, hc8⟩ := ho8.len
   subst hv8
   have ho68 := HO6.out.below hb8 (Nat.le_refl _)
   obtain ⟨ga, hpa, _, hga1, hga2, hca, _⟩ := Own.at codecS ho68 (headD_snoc LA)
   obtain ⟨gb, hpb, _, hgb1, hgb2, hcb, _⟩ := Own.at codecS ho8 (headD_snoc LB)
   subst hpa
   subst hpb
   have m0 := hca 0 _ rfl
   have m1 := hcb 0 _ rfl
   rw [<- HLX.out.1] at m0
   rw [<- HLY.out.1] at m1
   have k1 : (LA ++ [(⟨#[]⟩ : ByteArray)]).length = LA.length + 1 := by simp
   have k2 : (LB ++ [(⟨#[]⟩ : ByteArray)]).length = LB.length + 1 := by simp
   have hbz : Below W4.heap.size W4 w8 := HB6.out.trans (hb8.mono hz6)
   have hz8 := hbz.size
   have HBZ := Lib.hid hbz
   clear HO6 HB6 HO7 HR7 hb7 hg8 hat8 hb8 ho8 ho68 hca hcb b0 b1 b2 b3 b4 y2 hQ6 HTB1 hs7
   simp only [Nat.zero_mul, Nat.zero_add] at m0 m1
   cases bb <;> cases z
   all_goals
    go_region_with (first
     | (go_at_call 60; (with_reducible refine (HF.out _).mono ?_); rintro e w9 ⟨rfl, hb9⟩; (have hbw := HBZ.out.drew.trans (hb9.mono hz8)); (have x9 := bcs hbw l9 x1))
     | fail)
    all_goals
     go_wp2_with fail
     go_ret
     exact ⟨ret_intS (by rw [HK.out, HZ.out]; simp), HB0.out.trans ((hb04.trans (hbw.mono hz4)).mono hw0)⟩
end
end Go.Proofs.YtjhginendpjimaaGreatDoor
