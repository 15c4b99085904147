import Derived.Test.YtjhginendpjimaaGreatDoorB27
import Derived.Test.YtjhginendpjimaaGreatDoorB37
set_option linter.unusedSimpArgs false
set_option linter.unusedVariables false
set_option maxRecDepth 200000
set_option maxHeartbeats 8000000
namespace Go.Proofs.YtjhginendpjimaaGreatDoor
section
open Go Go.RowKit Go.OpenShut
theorem find_bind {α β : Type} (f : α -> Bool) (g : α -> β) : ∀ l : List α, ((l.findIdx? f).bind fun i => l[i]?.map g) = (l.find? f).map g
 | [] => rfl
 | x :: l => by
   have ih := find_bind f g l
   rw [List.findIdx?_cons, List.find?_cons]
   cases h : f x with
   | true => rfl
   | false =>
     rw [<- ih]
     cases l.findIdx? f <;> rfl
theorem get_mOf {t : JV} (h : t.k = 6) (n : ByteArray) : t.get n = mOf t.m n := by
 have hm : t.mem = t.m := by cases t; exact if_pos h
 unfold JV.get JV.place mOf
 rw [hm]
 exact find_bind _ _ _
theorem get_not {t : JV} (h : t.k ≠ 6) (n : ByteArray) : t.get n = none := by
 have hm : t.mem = [] := by cases t; exact if_neg h
 unfold JV.get JV.place
 rw [hm]
 rfl
theorem rhas_any (t : JV) (r : RV) (name : ByteArray) (w : World) (B : Nat) (hBw : B <= w.heap.size) (ht : TreeOf w B t r) (ot : t.Ok) :
 Calls Tryz.prog 55 #[r.val, .string name] w fun e w' => e = .returned (.bool (t.get name).isSome) /\ Below w.heap.size w w' := by
 obtain ⟨W0, hW0⟩ : ∃ W0, w.alloc r.obj = W0 := ⟨_, rfl⟩
 have hA0 : VAt W0 w.heap.size r := by rw [<- hW0]; exact heap_alloc_at rfl
 have hB0 : Below w.heap.size w W0 := by rw [<- hW0]; exact (Below.refl _ _).alloc (Nat.le_refl _) _
 have hw0 := hB0.size
 have HC := Lib.hid (refGetB_any t r name W0 B (Nat.le_trans hBw hw0) (ht.under (hB0.mono hBw) (Nat.le_refl _)) ot)
 obtain ⟨o, ho⟩ : ∃ o, t.get name = o := ⟨_, rfl⟩
 rw [ho] at HC
 rw [ho]
 obtain ⟨k, n, s, pl, nl, cl, pm, nm, cm⟩ := r
 dsimp only [RV.val, RV.obj] at *
 have HW := Lib.hid hW0
 have HB0 := Lib.hid hB0
 clear hW0 hB0 ht ot ho
 go_enter Tryz.func55, Tryz.ntmps55
 go_upto_region 1 with fail
 rw [HW.out]
 clear HW
 obtain ⟨a0, a1, a2, a3, a4⟩ := hA0.cells5
 go_wp2_with (go_at_call 56; (with_reducible refine HC.out.mono ?_); rintro e w1 ⟨rv, bb, rfl, hbb, ht1, hb1⟩; (have HBB := Lib.hid hbb); clear hbb; obtain ⟨rk, rn, rS, rpl, rnl, rcl, rpm, rnm, rcm⟩ := rv)
 go_ret
 exact ⟨by rw [<- HBB.out]; rfl, HB0.out.trans ((hb1.alloc hb1.size _).mono hw0)⟩
def wantC (n : ByteArray) : Int := if n = ascN then 2 else if n = propN \/ n = collN then 4 else 0
theorem memC_want (x : ByteArray × JV) : memC x = (decide (x.2.k = wantC x.1) && decide (wantC x.1 ≠ 0)) := by
 unfold wantC
 by_cases h1 : x.1 = propN
 ·rw [memC_prop h1, if_neg (by rw [h1]; exact pa_ne), if_pos (.inl h1)]
  simp
 ·by_cases h2 : x.1 = ascN
  ·rw [memC_asc h2, if_pos h2]
   simp
  ·by_cases h3 : x.1 = collN
   ·rw [memC_coll h3, if_neg h2, if_pos (.inr h3)]
    simp
   ·rw [memC_else h1 h2 h3, if_neg h2, if_neg (by simp [h1, h3])]
    simp
theorem oneE_has {v : JV} (hk : v.k = 6) (h : (mOf v.m propN).isSome = false) : oneE v = 1 := by
 unfold oneE
 rw [if_neg (by simp [hk])]
 split
 ·rfl
 ·rw [Option.isSome_eq_false_iff, Option.isNone_iff_eq_none] at h
  rw [h]
theorem oneE_end {v : JV} (hk : v.k = 6) (hb : firstBad v.m [] = false) {p : JV} (hp : mOf v.m propN = some p) : oneE v = if ((mOf v.m collN).isSome && !decide (((mOf v.m collN).getD JV.zero).s = asciiN)) || !propOk p.s then 210 else 0 := by
 unfold oneE
 rw [if_neg (by simp [hk]), hb, if_neg (by decide), hp]
 dsimp only
 cases mOf v.m collN with
 | none => rfl
 | some c =>
   by_cases h : c.s = asciiN <;> simp [h]
theorem sel5p : ∀ a b c d e : Bool, (a = true \/ (a = false /\ b = true) \/ (a = false /\ b = false /\ c = true)) \/ ((a = false /\ b = false /\ c = false /\ d = true) \/ (a = false /\ b = false /\ c = false /\ d = false /\ e = true) \/ (a = false /\ b = false /\ c = false /\ d = false /\ e = false)) := sel5
theorem rone_any (t : JV) (r : RV) (w : World) (B : Nat) (hBw : B <= w.heap.size) (ht : TreeOf w B t r) (ot : t.Ok) :
 Calls Tryz.prog 33 #[r.val] w fun e w' => e = .returned (.int .i64 (oneE t)) /\ Below w.heap.size w w' := by
 obtain ⟨W0, hW0⟩ : ∃ W0, w.alloc r.obj = W0 := ⟨_, rfl⟩
 have hA0 : VAt W0 w.heap.size r := by rw [<- hW0]; exact heap_alloc_at rfl
 have hB0 : Below w.heap.size w W0 := by rw [<- hW0]; exact (Below.refl _ _).alloc (Nat.le_refl _) _
 have hw0 := hB0.size
 have hkk := ht.kk.1
 have HH := Lib.hid (rhas_any t r propN W0 B (Nat.le_trans hBw hw0) (ht.under (hB0.mono hBw) (Nat.le_refl _)) ot)
 have HGP : Hid (∀ W, Below W0.heap.size W0 W -> Calls Tryz.prog 56 #[r.val, .string propN] W (GetRetB W B (t.get propN))) := fun W hW => refGetB_any t r propN W B (Nat.le_trans (Nat.le_trans hBw hw0) hW.size) (ht.under ((hB0.trans (hW.mono hw0)).mono hBw) (Nat.le_refl _)) ot
 have HGC : Hid (∀ W, Below W0.heap.size W0 W -> Calls Tryz.prog 56 #[r.val, .string collN] W (GetRetB W B (t.get collN))) := fun W hW => refGetB_any t r collN W B (Nat.le_trans (Nat.le_trans hBw hw0) hW.size) (ht.under ((hB0.trans (hW.mono hw0)).mono hBw) (Nat.le_refl _)) ot
 have HT := Lib.hid ht
 obtain ⟨E, hE⟩ : ∃ E, oneE t = E := ⟨_, rfl⟩
 have HE := Lib.hid hE
 rw [hE]
 obtain ⟨k, n, s, pl, nl, cl, pm, nm, cm⟩ := r
 dsimp only [RV.val, RV.obj] at *
 have HW := Lib.hid hW0
 have HB0 := Lib.hid hB0
 unfold propN at HH HGP
 unfold collN at HGC
 clear hW0 hB0 hE
 by_cases hk6 : k = 6
 case neg =>
  have q1 : (k == 6) = false := by simpa using hk6
  have q2 : (k != 6) = true := by simpa using hk6
  have HE1 : Hid (E = 1) := HE.out.symm.trans (oneE_kind (by rw [<- hkk]; exact hk6))
  clear hkk hk6 ht ot
  go_enter Tryz.func33, Tryz.ntmps33
  go_upto_region 1 with fail
  rw [HW.out]
  clear HW
  obtain ⟨a0, a1, a2, a3, a4⟩ := hA0.cells5
  go_wp2_with fail
  rw [HE1.out]
  go_ret
  exact ⟨rfl, HB0.out⟩
 case pos =>
  subst hk6
  have htk : t.k = 6 := hkk.symm
  have HTK := Lib.hid htk
  have HGM : Hid (∀ nme, t.get nme = mOf t.m nme) := fun nme => get_mOf htk nme
  obtain ⟨hp, hhp⟩ : ∃ o, t.get propN = o := ⟨_, rfl⟩
  unfold propN at hhp
  rw [hhp] at HH HGP
  have HHP : Hid (mOf t.m propN = hp) := (HGM.out propN).symm.trans hhp
  cases hp with
  | none =>
    have HE1 : Hid (E = 1) := HE.out.symm.trans (oneE_has htk (by rw [HHP.out]; rfl))
    clear hkk ht ot htk hhp
    go_enter Tryz.func33, Tryz.ntmps33
    go_upto_region 1 with fail
    rw [HW.out]
    clear HW
    obtain ⟨a0, a1, a2, a3, a4⟩ := hA0.cells5
    go_wp2_with (go_at_call 55; (with_reducible refine HH.out.mono ?_); rintro e w1 ⟨rfl, hb1⟩)
    rw [HE1.out]
    go_ret
    exact ⟨rfl, HB0.out.trans (hb1.mono hw0)⟩
  | some vp =>
    have hHT := HT.out
    generalize hr : (⟨6, n, s, pl, nl, cl, pm, nm, cm⟩ : RV) = r at hHT
    cases hHT with
    | @mk _ l m rs rms hl el hcl hm em hcn hcm =>
    subst hr
    have HM := Lib.hid hm
    have hnm := rd_nlen hm
    dsimp only at hnm
    have HCN := Lib.hid hcn
    have HKT : Hid (∀ (i : Nat) (p : ByteArray × JV) (q : RM), m[i]? = some p -> rms[i]? = some q -> q.v.k = p.2.k) := fun i p q h1 h2 => (hcm i p q h1 h2).kk.1
    have hml : m.length = nm := by omega
    have HML := Lib.hid hml
    have hnmb : nm <= 1466015503658 := by
     cases ot with
     | mk _ _ _ _ hm9 _ _ _ => omega
    have nb : (nm : Int) <= 1466015503658 := by omega
    have n0 : (0 : Int) <= (nm : Int) := Int.natCast_nonneg _
    have HEB : Hid (firstBad m [] = true -> E = 1) := fun h => HE.out.symm.trans (oneE_bad (v := JV.mk 6 n s l m) h)
    have HEE : Hid (firstBad m [] = false -> E = if (((JV.mk 6 n s l m).get collN).isSome && !decide ((((JV.mk 6 n s l m).get collN).getD JV.zero).s = asciiN)) || !propOk vp.s then 210 else 0) := fun h => by
     rw [HGM.out]
     exact HE.out.symm.trans (oneE_end (v := JV.mk 6 n s l m) HTK.out h HHP.out)
    obtain ⟨oc, hoc⟩ : ∃ o, (JV.mk 6 n s l m).get collN = o := ⟨_, rfl⟩
    rw [hoc] at HEE
    unfold collN at hoc
    rw [hoc] at HGC
    clear hkk ht ot htk hhp hl el hcl hm em hcn hcm hoc hml hnm HGM HT
    go_enter Tryz.func33, Tryz.ntmps33
    go_upto_region 1 with fail
    rw [HW.out]
    clear HW
    obtain ⟨a0, a1, a2, a3, a4⟩ := hA0.cells5
    go_upto_region 3 with (go_at_call 55; (with_reducible refine HH.out.mono ?_); rintro e w1 ⟨rfl, hb1⟩)
    have hA1 := hA0.under hb1 hA0.lt
    clear a0 a1 a2 a3 a4 hA0 HH
    obtain ⟨a0, a1, a2, a3, a4⟩ := hA1.cells5
    have HB1 := Lib.hid hb1
    have hA1l := hA1.lt
    have hz1 := hb1.size
    clear hb1
    go_wp2_with fail
    go_loopw [3] (fun i wr => ∃ j : Nat, j <= nm /\ i = .int .i64 (j : Int) /\ Hid (firstBad (m.take j) [] = false /\ Below w1.heap.size w1 wr)) (fun i _ => nm - (intOf i).toNat)
    case atStart => exact ⟨0, by omega, rfl, rfl, Below.refl _ _⟩
    case round =>
     obtain ⟨j, hj, rfl, hS⟩ := hrel
     have hj0 : (0 : Int) <= (j : Int) := Int.natCast_nonneg _
     have hbr := hS.out.2
     have hAr := hA1.under hbr hA1l
     have HBR := Lib.hid hbr
     have HOK := Lib.hid hS.out.1
     obtain ⟨c0, c1, c2, c3, c4⟩ := hAr.cells5
     dsimp only at c0 c1 c2 c3 c4
     by_cases hlt : j < nm
     ·have hj1 : (j : Int) < (nm : Int) := by omega
      obtain ⟨x, hx⟩ : ∃ x, m[j]? = some x := ⟨_, List.getElem?_eq_getElem (by have := HML.out; omega)⟩
      have hmr := HM.out.below ((HB0.out.trans ((HB1.out.trans (hbr.mono hz1)).mono hw0)).mono hBw) (Nat.le_refl _)
      obtain ⟨q, hq⟩ : ∃ q, rms[j]? = some q := ⟨_, List.getElem?_eq_getElem (by have := rd_nlen hmr; omega)⟩
      obtain ⟨b1, o1, rfl, hb1, hc1⟩ := rd_at' hmr hq
      have hname := HCN.out j x q hx hq
      have hk1 := HKT.out j x q hx hq
      have HRD := Lib.hid hmr
      obtain ⟨nq, ⟨vk, vn, vs, vpl, vnl, vcl, vpm, vnm, vcm⟩⟩ := q
      dsimp only at hname hk1
      have f0 := hc1 0 _ rfl
      have f1 := hc1 1 _ rfl
      have f2 := hc1 2 _ rfl
      have f3 := hc1 3 _ rfl
      have f4 := hc1 4 _ rfl
      have f5 := hc1 5 _ rfl
      rw [Nat.add_zero] at f0
      dsimp only at f0 f1 f2 f3 f4 f5
      have HX := Lib.hid hx
      have HNM := Lib.hid hname
      have HVK := Lib.hid hk1
      have hmt : (wr.alloc (.cells #[.string nq, .int .i64 vk, .int .i64 vn, .string vs, .slice vpl vnl vcl, .slice vpm vnm vcm] 46)).heap[wr.heap.size]? = some (.cells #[.string nq, .int .i64 vk, .int .i64 vn, .string vs, .slice vpl vnl vcl, .slice vpm vnm vcm] 46) := heap_alloc_at rfl
      have hwa : Below wr.heap.size wr (wr.alloc (.cells #[.string nq, .int .i64 vk, .int .i64 vn, .string vs, .slice vpl vnl vcl, .slice vpm vnm vcm] 46)) := (Below.refl _ _).alloc (Nat.le_refl _) _
      have hAa := hAr.under hwa hAr.lt
      have hrda := hmr.below (hwa.mono (Nat.le_trans hBw (Nat.le_trans hw0 (Nat.le_trans hz1 hbr.size)))) (Nat.le_refl _)
      have hb1a := hbr.trans (hwa.mono hbr.size)
      obtain ⟨g4, hg4⟩ : ∃ g, wr.heap.size = g := ⟨_, rfl⟩
      obtain ⟨e1, he1⟩ : ∃ b, (nq.toList == [112, 114, 111, 112, 101, 114, 116, 121]) = b := ⟨_, rfl⟩
      obtain ⟨e2, he2⟩ : ∃ b, (nq.toList == [105, 115, 65, 115, 99, 101, 110, 100, 105, 110, 103]) = b := ⟨_, rfl⟩
      obtain ⟨e3, he3⟩ : ∃ b, (nq.toList == [99, 111, 108, 108, 97, 116, 105, 111, 110]) = b := ⟨_, rfl⟩
      obtain ⟨Wn, hWn⟩ : ∃ n, wantC x.1 = n := ⟨_, rfl⟩
      have HWE : Hid (Wn = if e2 then 2 else if (e1 || e3) then 4 else 0) := by
       unfold Hid
       rw [<- hWn]
       unfold wantC
       have h1 : decide (x.1 = propN) = e1 := by rw [hname]; exact eq_lit he1
       have h2 : decide (x.1 = ascN) = e2 := by rw [hname]; exact eq_lit he2
       have h3 : decide (x.1 = collN) = e3 := by rw [hname]; exact eq_lit he3
       rw [<- h1, <- h2, <- h3]
       by_cases k1 : x.1 = propN <;> by_cases k2 : x.1 = ascN <;> by_cases k3 : x.1 = collN <;> simp [k1, k2, k3]
      obtain ⟨f, hf⟩ : ∃ b, (vk != Wn) = b := ⟨_, rfl⟩
      have hf' : (vk == Wn) = !f := by rw [<- hf]; unfold bne; simp
      obtain ⟨g0, hg0⟩ : ∃ b, (Wn == 0) = b := ⟨_, rfl⟩
      have HMC : Hid (memC x = (!f && !g0)) := by
       unfold Hid
       rw [memC_want, hWn, <- hk1, <- hg0, <- hf']
       by_cases k1 : vk = Wn <;> by_cases k2 : Wn = 0 <;> simp [k1, k2]
      clear hname hk1 hx hq hc1 hmr hb1 hS hWn
      go_upto_region 7 with fail
      obtain ⟨W3, hW3⟩ : ∃ W, wr.alloc (.cells #[.string nq, .int .i64 vk, .int .i64 vn, .string vs, .slice vpl vnl vcl, .slice vpm vnm vcm] 46) = W := ⟨_, rfl⟩
      rw [hg4] at hmt
      rw [hW3] at hmt hAa hrda hb1a
      try rw [hW3]
      try rw [hg4]
      have HRD3 := Lib.hid hrda
      have HA3 := Lib.hid hAa
      have HB3 := Lib.hid hb1a
      have HMT := Lib.hid hmt
      have m0 : W3.cell? ⟨g4, 0, none⟩ = some (.string nq) := (cell_of_row _ g4 0 _ _ _ hmt).trans rfl
      have m1 : W3.cell? ⟨g4, 1, none⟩ = some (.int .i64 vk) := (cell_of_row _ g4 1 _ _ _ hmt).trans rfl
      have hg4l : g4 < W3.heap.size := (Array.getElem?_eq_some_iff.1 hmt).1
      have hgvl : w.heap.size < W3.heap.size := hAa.lt
      clear hW3 hg4 hmt hAa hrda hb1a hAr hbr f0 f1 f2 f3 f4 f5 c0 c1 c2 c3 c4 hwa HRD
      cases e2 <;> cases e1 <;> cases e3
      case false.false.false =>
       have hw := HWE.out
       simp only [Bool.or_self, Bool.false_eq_true, if_false] at hw
       subst hw
       have hg1 : g0 = true := by rw [<- hg0]; rfl
       subst hg1
       have HE1 : Hid (E = 1) := HEB.out (bad_whole HX.out (.inl (by rw [HMC.out]; simp)))
       cases f
       all_goals
        simp only [Bool.not_false, Bool.not_true] at hf'
        go_wp2_with fail
        rw [HE1.out]
        go_ret
        exact ⟨rfl, HB0.out.trans ((HB1.out.trans (HB3.out.mono hz1)).mono hw0)⟩
      all_goals
       have hw := HWE.out
       simp only [Bool.or_self, Bool.or_true, Bool.true_or, Bool.or_false, Bool.false_or, Bool.false_eq_true, if_true, if_false] at hw
       subst hw
       by_cases hgood : f = false /\ g0 = false
       ·obtain ⟨rfl, rfl⟩ := hgood
        have HMT2 : Hid (memC x = true) := HMC.out
        simp only [Bool.not_false] at hf'
        go_wp2_with fail
        go_loopw [6] (fun i2 w3 => ∃ k2 : Nat, k2 <= j /\ i2 = .int .i64 (k2 : Int) /\ Hid ((∀ (i : Nat) y, i < k2 -> m[i]? = some y -> y.1 ≠ x.1) /\ Below W3.heap.size W3 w3)) (fun i2 _ => j - (intOf i2).toNat)
        case atStart => exact ⟨0, by omega, rfl, fun i y h => by omega, Below.refl _ _⟩
        case round =>
         obtain ⟨k2, hk2, rfl, hS2⟩ := hrel
         have hk0 : (0 : Int) <= (k2 : Int) := Int.natCast_nonneg _
         have HNE := Lib.hid hS2.out.1
         have HB5 := Lib.hid hS2.out.2
         have hbx := hS2.out.2
         by_cases hlt2 : k2 < j
         ·have hkj : (k2 : Int) < (j : Int) := by omega
          have hkn : (k2 : Int) < (nm : Int) := by omega
          obtain ⟨y, hy⟩ : ∃ y, m[k2]? = some y := ⟨_, List.getElem?_eq_getElem (by have := HML.out; omega)⟩
          have hrd5 := HRD3.out.below (hbx.mono (Nat.le_trans hBw (Nat.le_of_lt hgvl))) (Nat.le_refl _)
          obtain ⟨q2, hq2⟩ : ∃ q, rms[k2]? = some q := ⟨_, List.getElem?_eq_getElem (by have := rd_nlen hrd5; omega)⟩
          obtain ⟨b2, o2, hbo, hb2, hc2⟩ := rd_at' hrd5 hq2
          injection hbo with hbo
          injection hbo with hbo1 hbo2
          subst hbo1
          subst hbo2
          have hn2 := HCN.out k2 y q2 hy hq2
          have h0 := hc2 0 _ rfl
          rw [Nat.add_zero] at h0
          obtain ⟨n2, hn2'⟩ : ∃ n, q2.name = n := ⟨_, rfl⟩
          rw [hn2'] at h0 hn2
          have HN2 := Lib.hid hn2
          have HY := Lib.hid hy
          have m0' := bcs hbx hg4l m0
          have hA5 := HA3.out.under hbx hgvl
          have c4 := hA5.cell 4 rfl
          dsimp only at c4
          obtain ⟨z, hz⟩ : ∃ b, (n2.toList == nq.toList) = b := ⟨_, rfl⟩
          have HZ : Hid (decide (y.1 = x.1) = z) := by
           unfold Hid
           rw [hn2, HNM.out, <- hz, ByteArray.toList_eq, ByteArray.toList_eq]
           by_cases h : n2 = nq
           ·rw [decide_eq_true h, h]; simp
           ·rw [decide_eq_false h]
            have h2 : n2.data.toList ≠ nq.data.toList := fun e => h (ByteArray.ext (Array.toList_inj.1 e))
            simpa using h2
          have hwl : g4 < wr.heap.size := by have := hbx.size; omega
          have hvl : w.heap.size < wr.heap.size := by have := hbx.size; omega
          clear hc2 hq2 hn2' hn2 hy hrd5 hb2 hA5 hS2
          cases z with
          | true =>
            have HE1 : Hid (E = 1) := HEB.out (bad_whole HX.out (.inr (by
             have := of_decide_eq_true HZ.out
             exact List.mem_map.2 ⟨y, List.mem_of_getElem? (i := k2) (by rw [List.getElem?_take, if_pos hlt2]; exact HY.out), this⟩)))
            go_wp2_with fail
            go_quiet (fail)
            go_wp2_with fail
            rw [HE1.out]
            go_ret
            exact ⟨rfl, HB0.out.trans ((HB1.out.trans ((HB3.out.trans ((bdn HB5.out _).mono HB3.out.size)).mono hz1)).mono hw0)⟩
          | false =>
            have HNE2 : Hid (∀ (i : Nat) y, i < k2 + 1 -> m[i]? = some y -> y.1 ≠ x.1) := fun i y' hi hy' => by
             by_cases h : i = k2
             ·subst h
              rw [HY.out] at hy'
              cases hy'
              exact of_decide_eq_false HZ.out
             ·exact HNE.out i y' (by omega) hy'
            go_wp2_with fail
            go_quiet (fail)
            go_wp2_with fail
            go_roundw
            case rel => exact ⟨k2 + 1, by omega, by go_num, HNE2.out, bdn HB5.out _⟩
            case measure => simp [intOf]; omega
         ·obtain rfl : k2 = j := by omega
          have HOK2 : Hid (firstBad (m.take (k2 + 1)) [] = false) := by
           unfold Hid
           rw [take_snoc HX.out, firstBad_snoc, HOK.out, HMT2.out]
           have : inS ((m.take k2).map (·.1)) x.1 = false := inS_no.2 (fun h => by
            obtain ⟨y, hy, he⟩ := List.mem_map.1 h
            obtain ⟨i, hi⟩ := List.mem_iff_getElem?.1 hy
            rw [List.getElem?_take] at hi
            split at hi
            ·exact HNE.out i y (by assumption) hi he
            ·cases hi)
           rw [this]
           rfl
          clear hS2
          go_wp2_with fail
          go_roundw
          case rel => exact ⟨k2 + 1, by omega, by go_num, HOK2.out, HB3.out.trans (HB5.out.mono (by have := HB3.out.size; omega))⟩
          case measure => simp [intOf]; omega
       ·have HE1 : Hid (E = 1) := HEB.out (bad_whole HX.out (.inl (by rw [HMC.out]; revert hgood; cases f <;> cases g0 <;> simp)))
        cases f <;> cases g0
        all_goals
         simp only [Bool.not_false, Bool.not_true] at hf'
         first
          | (exfalso; exact hgood ⟨rfl, rfl⟩)
          | (exfalso; revert hg0; decide)
          | (go_wp2_with fail
             rw [HE1.out]
             go_ret
             exact ⟨rfl, HB0.out.trans ((HB1.out.trans (HB3.out.mono hz1)).mono hw0)⟩)
     ·obtain rfl : j = nm := by omega
      have HEQ : Hid (E = if ((oc.isSome && !decide ((oc.getD JV.zero).s = asciiN)) || !propOk vp.s) then 210 else 0) := HEE.out (by have h := HOK.out; rw [List.take_of_length_le (by have := HML.out; omega)] at h; exact h)
      have hb1w : Below W0.heap.size W0 wr := HB1.out.trans (hbr.mono hz1)
      have HG1 := Lib.hid (HGP.out wr hb1w)
      have HBW := Lib.hid hb1w
      have hzw := hb1w.size
      clear HEE HEB hS hbr hb1w
      go_upto_region 20 with (go_at_call 56; (with_reducible refine HG1.out.mono ?_); rintro e w2 ⟨rv, bb, rfl, hbb, ht2, hb2⟩; obtain ⟨rk, rn, rS, rpl, rnl, rcl, rpm, rnm, rcm⟩ := rv)
      have hss := ht2.kk.2
      dsimp only at hss
      have hb3 : Below wr.heap.size wr (w2.alloc (.cells #[.int .i64 rk, .int .i64 rn, .string rS, .slice rpl rnl rcl, .slice rpm rnm rcm] 25)) := hb2.alloc hb2.size _
      have hv3 : VAt (w2.alloc (.cells #[.int .i64 rk, .int .i64 rn, .string rS, .slice rpl rnl rcl, .slice rpm rnm rcm] 25)) w2.heap.size ⟨rk, rn, rS, rpl, rnl, rcl, rpm, rnm, rcm⟩ := heap_alloc_at rfl
      obtain ⟨g7, hg7⟩ : ∃ g, w2.heap.size = g := ⟨_, rfl⟩
      obtain ⟨W3, hW3⟩ : ∃ W, w2.alloc (.cells #[.int .i64 rk, .int .i64 rn, .string rS, .slice rpl rnl rcl, .slice rpm rnm rcm] 25) = W := ⟨_, rfl⟩
      rw [hW3] at hb3 hv3
      rw [hg7] at hv3
      try rw [hW3]
      try rw [hg7]
      have hA3 := hAr.under hb3 hAr.lt
      have HB3 := Lib.hid (HBW.out.trans (hb3.mono hzw))
      have HG2 := Lib.hid (HGC.out W3 HB3.out)
      have HSS : Hid (rS = vp.s) := hss
      clear hW3 hg7 hb2 ht2 hss c0 c1 c2 c3 c4 hb3 hbb hAr HG1
      obtain ⟨c0, c1, c2, c3, c4⟩ := hA3.cells5
      dsimp only at c0 c1 c2 c3 c4
      go_upto_region 21 with (go_at_call 56; (with_reducible refine HG2.out.mono ?_); rintro e w4 ⟨rv, b4, rfl, hbb, ht4, hb4⟩; (have HBB := Lib.hid hbb); clear hbb; obtain ⟨ak, an, aS, apl, anl, acl, apm, anm, acm⟩ := rv)
      have hs4 := ht4.kk.2
      dsimp only at hs4
      have hb5 : Below W3.heap.size W3 (w4.alloc (.cells #[.int .i64 ak, .int .i64 an, .string aS, .slice apl anl acl, .slice apm anm acm] 25)) := hb4.alloc hb4.size _
      have hv5 : VAt (w4.alloc (.cells #[.int .i64 ak, .int .i64 an, .string aS, .slice apl anl acl, .slice apm anm acm] 25)) w4.heap.size ⟨ak, an, aS, apl, anl, acl, apm, anm, acm⟩ := heap_alloc_at rfl
      obtain ⟨g9, hg9⟩ : ∃ g, w4.heap.size = g := ⟨_, rfl⟩
      obtain ⟨W5, hW5⟩ : ∃ W, w4.alloc (.cells #[.int .i64 ak, .int .i64 an, .string aS, .slice apl anl acl, .slice apm anm acm] 25) = W := ⟨_, rfl⟩
      rw [hW5] at hb5 hv5
      rw [hg9] at hv5
      try rw [hW5]
      try rw [hg9]
      have hP5 := hv3.under hb5 hv3.lt
      have HB5 := Lib.hid (HB3.out.trans (hb5.mono HB3.out.size))
      have y2 := hP5.cell 2 rfl
      have z2 := hv5.cell 2 rfl
      dsimp only at y2 z2
      have HS4 : Hid (aS = (oc.getD JV.zero).s) := hs4
      clear hW5 hg9 hb4 ht4 hs4 c0 c1 c2 c3 c4 hb5 hA3 HG2 hP5 hv3 hv5
      obtain ⟨s1, hs1⟩ : ∃ b, (aS.toList == [105, 59, 97, 115, 99, 105, 105, 45, 99, 97, 115, 101, 109, 97, 112]) = b := ⟨_, rfl⟩
      obtain ⟨p1, hp1⟩ : ∃ b, (rS.toList == [99, 114, 101, 97, 116, 101, 100]) = b := ⟨_, rfl⟩
      obtain ⟨p2, hp2⟩ : ∃ b, (rS.toList == [117, 112, 100, 97, 116, 101, 100]) = b := ⟨_, rfl⟩
      obtain ⟨p3, hp3⟩ : ∃ b, (rS.toList == [110, 97, 109, 101, 47, 103, 105, 118, 101, 110]) = b := ⟨_, rfl⟩
      obtain ⟨p4, hp4⟩ : ∃ b, (rS.toList == [110, 97, 109, 101, 47, 115, 117, 114, 110, 97, 109, 101]) = b := ⟨_, rfl⟩
      obtain ⟨p5, hp5⟩ : ∃ b, (rS.toList == [110, 97, 109, 101, 47, 115, 117, 114, 110, 97, 109, 101, 50]) = b := ⟨_, rfl⟩
      have HBAD : Hid (E = if ((b4 && !s1) || !(p1 || (p2 || (p3 || (p4 || p5))))) then 210 else 0) := by
       unfold Hid
       rw [HEQ.out, <- HS4.out, <- HSS.out, HBB.out]
       have h1 : decide (aS = asciiN) = s1 := eq_lit hs1
       unfold propOk
       have k1 : decide (rS = createdN) = p1 := eq_lit hp1
       have k2 : decide (rS = updatedN) = p2 := eq_lit hp2
       have k3 : decide (rS = givenN) = p3 := eq_lit hp3
       have k4 : decide (rS = surN) = p4 := eq_lit hp4
       have k5 : decide (rS = sur2N) = p5 := eq_lit hp5
       rw [h1, k1, k2, k3, k4, k5]
      obtain ⟨bad, hbad⟩ : ∃ b, ((b4 && !s1) || !(p1 || (p2 || (p3 || (p4 || p5))))) = b := ⟨_, rfl⟩
      rw [hbad] at HBAD
      have HBD := Lib.hid hbad
      clear hbad HEQ
      go_cut [105] from 75 to 105 (fun v wq => v = .bool bad /\ wq = W5)
      case first =>
       cases b4 <;> cases s1
       case true.false =>
        go_wp2_with fail
        go_meet
        exact ⟨by rw [<- HBD.out]; rfl, rfl⟩
       all_goals
        rcases sel5 p1 p2 p3 p4 p5 with (rfl | ⟨rfl, rfl⟩ | ⟨rfl, rfl, rfl⟩) | (⟨rfl, rfl, rfl, rfl⟩ | ⟨rfl, rfl, rfl, rfl, rfl⟩ | ⟨rfl, rfl, rfl, rfl, rfl⟩)
        all_goals
         go_wp2_with fail
         go_meet
         exact ⟨by rw [<- HBD.out]; rfl, rfl⟩
      case rest =>
      obtain ⟨rfl, hwc⟩ := hcut
      obtain rfl : W5 = wc := hwc.symm
      clear hs1 hp1 hp2 hp3 hp4 hp5
      cases bad with
      | true =>
        have HE1 : Hid (E = 210) := HBAD.out
        go_wp2_with fail
        rw [HE1.out]
        go_ret
        exact ⟨rfl, HB0.out.trans (HB5.out.mono hw0)⟩
      | false =>
        have HE1 : Hid (E = 0) := HBAD.out
        go_wp2_with fail
        rw [HE1.out]
        go_ret
        exact ⟨rfl, HB0.out.trans (HB5.out.mono hw0)⟩
end
end Go.Proofs.YtjhginendpjimaaGreatDoor
