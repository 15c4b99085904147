import Derived.Test.YtjhginendpjimaaGreatDoorB41
import Derived.Test.YtjhginendpjimaaGreatDoorB43
import Derived.Test.YtjhginendpjimaaGreatDoorB22
import Derived.Test.YtjhginendpjimaaGreatDoorB16
import Derived.Test.YtjhginendpjimaaGreatDoorB00
set_option linter.unusedSimpArgs false
set_option linter.unusedVariables false
set_option maxRecDepth 200000
set_option maxHeartbeats 8000000
namespace Go.Proofs.YtjhginendpjimaaGreatDoor
section
open Go Go.RowKit Go.OpenShut
def encI (x : Int) : List Value := [.int .i64 x]
theorem codecI : Codec encI 1 := ⟨fun _ => rfl, fun x u hu => by
 simp only [encI, List.mem_cons, List.not_mem_nil, or_false] at hu
 rw [hu]; rfl, by decide⟩
theorem turn_a (k no : Nat) (h : 0 < no) : ∃ a : Nat, (k : Int) % (no : Int) = (a : Int) /\ a < no := ⟨k % no, by omega, Nat.mod_lt _ h⟩
theorem turn_b (z : Int) (no : Nat) (h : 0 < no) (hn : no <= 40) : ∃ b : Nat, wrap64 ((IntKind.u64.wrap z).tmod (no : Int)) = (b : Int) /\ b < no := by
 have h1 : 0 <= IntKind.u64.wrap z := by rw [show IntKind.u64.wrap z = z % 18446744073709551616 by simp [IntKind.wrap, IntKind.bits, IntKind.signed]]; omega
 obtain ⟨m, hm⟩ : ∃ m : Nat, IntKind.u64.wrap z = (m : Int) := ⟨(IntKind.u64.wrap z).toNat, by omega⟩
 refine ⟨m % no, ?_, Nat.mod_lt _ h⟩
 rw [hm, <- Int.ofNat_tmod]
 have h2 := Nat.mod_lt m h
 unfold wrap64
 omega
theorem slObT : SlT Tryz.prog 32 36 6 96 := SlT.mk (z := .agg #[.string ByteArray.empty, .int .i64 0, .int .i64 0, .string ByteArray.empty, .slice none 0 0, .slice none 0 0]) Tryz.underlying32 (by kernel_rfl) rfl
theorem rankTurned_any (t : JV) (r : RV) (os : List (ByteArray × JV)) (rs : List RM) (p : Option Addr) (no co : Nat) (w : World) (ht : TreeOf w w.heap.size t r) (ot : t.Ok) (hl : ObjL w w.heap.size os rs (.slice p no co)) (po : Option Addr) (ni ci : Nat) (is : List Int) (hi : Rd w w.heap.size encI 1 (.slice po ni ci) is) :
 Calls Tryz.prog 6 #[r.val, .slice p no co, .slice po ni ci] w fun e w' => e = .returned (.bool true) /\ Below w.heap.size w w' := by
 have hnr : no = rs.length := rd_nlen hl.rd
 have hro := hl.len
 have HN : Hid (no = rs.length /\ no = os.length) := ⟨hnr, by omega⟩
 have HF : Hid (∀ W, Below w.heap.size w W -> Calls Tryz.prog 13 #[r.val, .slice p no co] W (Few21R W t os)) := fun W hb => few21_any t r os rs p no co W (ht.under hb hb.size) ot (hl.under hb hb.size)
 have HRD := Lib.hid hl.rd
 have HO : Hid (∀ W, Below w.heap.size w W -> os.length <= 40 -> Calls Tryz.prog 17 #[r.val, .slice p no co] W fun e w' => ∃ u, e = .returned u /\ Own w' W.heap.size 9 encS 1 u ((ordQ (sortC t) os).map (fun i => (os.getD i dO).1)) /\ Below W.heap.size W w') := fun W hb hn => rkorder_any t r os rs p no co W w.heap.size hb.size (ht.under hb (Nat.le_refl _)) ot (hl.under hb (Nat.le_refl _)) (by omega)
 have HUN : Hid (∀ W, Below w.heap.size w W -> Calls Tryz.prog 19 #[.slice p no co] W fun e w' => ∃ b : Bool, e = .returned (.bool b) /\ Hid (b = true -> Unl os) /\ Below W.heap.size W w') := fun W hb => unlike_any os rs p no co W (hl.under hb hb.size)
 have HRI := Lib.hid hi
 have HIN : Hid (ni = is.length) := rd_nlen hi
 have HOL : Hid (ObjL w w.heap.size os rs (.slice p no co)) := hl
 have hA0 : VAt (w.alloc r.obj) w.heap.size r := heap_alloc_at rfl
 have hB0 : Below w.heap.size w (w.alloc r.obj) := (Below.refl _ _).alloc (Nat.le_refl _) _
 obtain ⟨RT, hRT⟩ : ∃ R, r = R := ⟨_, rfl⟩
 have HTT : Hid (TreeOf w w.heap.size t RT /\ t.Ok) := ⟨hRT ▸ ht, ot⟩
 have HRT : Hid (RT.val = r.val) := by unfold Hid; rw [hRT]
 clear hRT
 obtain ⟨k, n, s, pl, nl, cl, pm, nm, cm⟩ := r
 dsimp only [RV.val, RV.obj] at *
 obtain ⟨W0, hW0⟩ : ∃ W, w.alloc (.cells #[.int .i64 k, .int .i64 n, .string s, .slice pl nl cl, .slice pm nm cm] 25) = W := ⟨_, rfl⟩
 rw [hW0] at hB0 hA0
 obtain ⟨cs, hcs⟩ : ∃ C, sortC t = C := ⟨_, rfl⟩
 rw [hcs] at HO
 have HCS := Lib.hid hcs
 clear ht ot hl hro hnr hi
 go_enter Tryz.func6, Tryz.ntmps6
 go_upto_region 1 with fail
 try rw [hW0]
 clear hW0
 have hz := hA0.lt
 obtain ⟨c0, c1, c2, c3, c4⟩ := hA0.cells5
 clear hA0
 have HAW : Hid (∀ W, Below W0.heap.size W0 W -> Calls Tryz.prog 9 #[] W fun e w' => e = .returned (.bool true) /\ Below W0.heap.size W0 w') := fun W hb => (awake21_any W).mono fun e w' h => ⟨h.1, hb.trans (h.2.mono hb.size)⟩
 have HFE : Hid (∀ W, Below W0.heap.size W0 W -> Calls Tryz.prog 13 #[.agg #[.int .i64 k, .int .i64 n, .string s, .slice pl nl cl, .slice pm nm cm], .slice p no co] W fun e w' => ∃ b : Bool, e = .returned (.bool b) /\ Hid (b = true -> OwnM t /\ os.length <= 40) /\ Below W0.heap.size W0 w') := fun W hb => (HF.out W (hB0.trans (hb.mono hB0.size))).mono fun e w' h => by
  obtain ⟨b, h1, h2, h3⟩ := h
  exact ⟨b, h1, h2, hb.trans (h3.mono hb.size)⟩
 have HUE : Hid (∀ W, Below W0.heap.size W0 W -> Calls Tryz.prog 19 #[.slice p no co] W fun e w' => ∃ b : Bool, e = .returned (.bool b) /\ Hid (b = true -> Unl os) /\ Below W0.heap.size W0 w') := fun W hb => (HUN.out W (hB0.trans (hb.mono hB0.size))).mono fun e w' h => by
  obtain ⟨b, h1, h2, h3⟩ := h
  exact ⟨b, h1, h2, hb.trans (h3.mono hb.size)⟩
 have HB0 := Lib.hid hB0
 have hbO : Below W0.heap.size W0 W0 := Below.refl _ _
 clear HF HUN hB0
 by_cases h1 : 200 < ni
 ·have d1 : decide ((200 : Int) < (ni : Int)) = true := by simp; omega
  clear h1
  go_wp2_with (first
   | (go_at_call 9; (with_reducible refine (HAW.out _ (by first | exact hbC | exact hbB | exact hbA | exact hbO)).mono ?_); rintro e w1 ⟨rfl, hbA⟩; (have d0 := bcs hbA hz c0); (have d1 := bcs hbA hz c1); (have d2 := bcs hbA hz c2); (have d3 := bcs hbA hz c3); (have d4 := bcs hbA hz c4))
   | (go_at_call 13; (with_reducible refine (HFE.out _ (by first | exact hbA)).mono ?_); rintro e w2 ⟨b, rfl, hL, hbB⟩; cases b)
   | (go_at_call 19; (with_reducible refine (HUE.out _ (by first | exact hbB)).mono ?_); rintro e w3 ⟨b, rfl, hU, hbC⟩; cases b))
  all_goals go_ret
  all_goals exact ⟨rfl, HB0.out.trans (hbA.mono HB0.out.size)⟩
 have d1 : decide ((200 : Int) < (ni : Int)) = false := by simp; omega
 have hni : ni <= 200 := by omega
 clear h1
 go_wp2_with (first
  | (go_at_call 9; (with_reducible refine (HAW.out _ (by first | exact hbC | exact hbB | exact hbA | exact hbO)).mono ?_); rintro e w1 ⟨rfl, hbA⟩; (have d0 := bcs hbA hz c0); (have d1 := bcs hbA hz c1); (have d2 := bcs hbA hz c2); (have d3 := bcs hbA hz c3); (have d4 := bcs hbA hz c4))
  | (go_at_call 13; (with_reducible refine (HFE.out _ (by first | exact hbA)).mono ?_); rintro e w2 ⟨b, rfl, hL, hbB⟩; cases b)
  | (go_at_call 19; (with_reducible refine (HUE.out _ (by first | exact hbB)).mono ?_); rintro e w3 ⟨b, rfl, hU, hbC⟩; (have e0 := bcs hbC hz c0); (have e1 := bcs hbC hz c1); (have e2 := bcs hbC hz c2); (have e3 := bcs hbC hz c3); (have e4 := bcs hbC hz c4); cases b)
  | (at_builtin; refine wpList_append_rd slObT codecM _ rfl _ _ rfl (v := .slice none 0 0) rfl rfl (Own.nil _ w3.heap.size _) ((HOL.out.rd).below (HB0.out.trans (hbC.mono HB0.out.size)) (Nat.le_refl _)) (by have h1 := (hL.out trivial).2; have h2 := HN.out; simp only [List.length_nil]; unfold maxLen; omega) (by have h1 := (hL.out trivial).2; have h2 := HN.out; simp only [List.length_nil]; omega) (Nat.le_refl _) ?_; intro v4 w4 ho4 hg4 hat4))
 ·go_ret
  exact ⟨rfl, HB0.out.trans (hbA.mono HB0.out.size)⟩
 ·go_ret
  exact ⟨rfl, HB0.out.trans (hbA.mono HB0.out.size)⟩
 have HUU : Hid (Unl os) := hU.out trivial
 have HOS : Hid (os.length <= 40) := (hL.out trivial).2
 have HB3 : Hid (Below w.heap.size w w3) := HB0.out.trans (hbC.mono HB0.out.size)
 rw [List.nil_append] at ho4
 have hno : no <= 40 := by have := HOS.out; have := HN.out; omega
 obtain ⟨pq, cq, hv4, hcq, _⟩ := ho4.len
 rw [<- HN.out.1] at hcq
 rw [<- HN.out.1] at hv4
 subst hv4
 have HB34 : Hid (Below w3.heap.size w3 w4) := Below.appended (Below.refl _ _) hg4 (Own.nil _ w3.heap.size _ : Own w3 w3.heap.size 36 encM 6 (.slice none 0 0) []) (Nat.le_refl _)
 have HOW : Hid (Own w4 w3.heap.size 36 encM 6 (.slice pq no cq) ((List.range no).map (rsA rs))) := by unfold Hid; rw [HN.out.1, rs_range, <- HN.out.1]; exact ho4
 have hz3 := Nat.lt_of_lt_of_le hz hbC.size
 clear hL hU hbA hbB hbC hbO HAW HFE HUE HB0 c0 c1 c2 c3 c4 hz d0 d1 d2 d3 d4 ho4 hg4 hat4
 go_loopw [8] (fun i wr => ∃ (k : Nat) (js : List Nat), k <= ni /\ i = .int .i64 (k : Int) /\ Hid (js.Perm (List.range no) /\ Own wr w3.heap.size 36 encM 6 (.slice pq no cq) (js.map (rsA rs)) /\ Below w3.heap.size w3 wr)) (fun i _ => ni - (intOf i).toNat)
 case atStart => exact ⟨0, _, Nat.zero_le _, rfl, List.Perm.refl _, HOW.out, HB34.out⟩
 case round =>
  obtain ⟨k, js, hk, rfl, HJ⟩ := hrel
  have hk0 : (0 : Int) <= (k : Int) := Int.natCast_nonneg _
  by_cases hgo : k < ni /\ 0 < no
  ·obtain ⟨hlt, hn0⟩ := hgo
   have hk1 : (k : Int) < (ni : Int) := by omega
   have hn1 : (0 : Int) < (no : Int) := by omega
   have hn2 : (no : Int) ≠ 0 := by omega
   obtain ⟨z, hz1⟩ : ∃ z, is[k]? = some z := ⟨_, List.getElem?_eq_getElem (by have := HIN.out; omega)⟩
   obtain ⟨b1, o1, hp1, hb1, hc1⟩ := rd_at' (HRI.out.below ((HB3.out.trans (HJ.out.2.2.mono HB3.out.size))) (Nat.le_refl _)) hz1
   obtain rfl := hp1
   have f0 := hc1 0 _ rfl
   rw [Nat.add_zero, Nat.mul_one] at f0
   clear hc1 hz1
   go_upto_region 9 with fail
   go_upto_region 10 with fail
   obtain ⟨a, ha, hal⟩ := turn_a k no hn0
   obtain ⟨b, hb, hbl⟩ := turn_b z no hn0 hno
   rw [ha, hb]
   obtain ⟨hjp, hjo, hjb⟩ := HJ.out
   have hjl : js.length = no := by have h := hjp.length_eq; simpa using h
   obtain ⟨x, hx⟩ : ∃ x, js[a]? = some x := ⟨_, List.getElem?_eq_getElem (by omega)⟩
   obtain ⟨y, hy⟩ : ∃ x, js[b]? = some x := ⟨_, List.getElem?_eq_getElem (by omega)⟩
   have hxx : (js.map (rsA rs))[a]? = some (rsA rs x) := by rw [List.getElem?_map, hx]; rfl
   have hyy : (js.map (rsA rs))[b]? = some (rsA rs y) := by rw [List.getElem?_map, hy]; rfl
   obtain ⟨g, hpq, hq1, hg1, hq2, hq3, hq4⟩ := Own.at codecM hjo hxx
   clear hq1 hq2 hq3 hq4
   subst hpq
   obtain ⟨q, hq⟩ : ∃ q, 6 = q := ⟨_, rfl⟩
   have CC : Codec encM q := hq ▸ codecM
   have hjq : Own wr w3.heap.size 36 encM q (.slice (some ⟨g, 0, none⟩) no cq) (js.map (rsA rs)) := hq ▸ hjo
   obtain ⟨s1, s2, o2, g2⟩ := Own.swapped CC Tryz.prog hjq.drewO hxx hyy
   have l1 := Own.loadRow CC Tryz.prog hjq.drewO hxx
   have l2 := Own.loadRow CC Tryz.prog hjq.drewO hyy
   have n1 : (encM (rsA rs x)).length = q := CC.len _
   have n2 : (encM (rsA rs y)).length = q := CC.len _
   have zE : ∀ w, (Go.sizeOf 36).run Tryz.prog w = .ok q w := hq ▸ Tryz.sizeOf36
   have aE := Tryz.isAgg36
   have t3 := Tryz.underlying3
   have a3 := Tryz.isAgg3
   have z3 := Tryz.sizeOf3
   have v3 := Tryz.zeroValue3
   have tS := Tryz.underlying32
   have aS := Tryz.isAgg32
   have zS := Tryz.sizeOf32
   have vS := Tryz.zeroValue32
   have t0 := Tryz.underlying0
   have a0 := Tryz.isAgg0
   have z0 := Tryz.sizeOf0
   have v0 := Tryz.zeroValue0
   have mixed : Tryz.prog.follows .mixedOrders = true := by kernel_rfl
   have hj2 : ((js.set a y).set b x).Perm js := by
    have ea : js[a]'(by omega) = x := (List.getElem?_eq_some_iff.1 hx).2
    have eb : js[b]'(by omega) = y := (List.getElem?_eq_some_iff.1 hy).2
    have haj : a < js.length := by omega
    have hbj : b < js.length := by omega
    have h := List.set_set_perm haj hbj
    rw [ea, eb] at h
    exact h
   have HP : Hid (((js.set a y).set b x).Perm (List.range no) /\ Own ((wr.drew.setCells g (a * q) (encM (rsA rs y))).setCells g (b * q) (encM (rsA rs x))) w3.heap.size 36 encM q (.slice (some ⟨g, 0, none⟩) no cq) (((js.set a y).set b x).map (rsA rs)) /\ Below w3.heap.size w3 ((wr.drew.setCells g (a * q) (encM (rsA rs y))).setCells g (b * q) (encM (rsA rs x)))) :=
    ⟨hj2.trans hjp, by rw [List.map_set, List.map_set]; exact o2, hjb.drew.grown g2 hjb.size (fun k e => by cases e; exact hg1)⟩
   have HQ : Hid (6 = q) := hq
   have HR : Hid (Tryz.prog = Tryz.prog) := rfl
   clear o2 g2 hjq hjo hjp hjb hjl hx hy hxx hyy hq hg1 hj2 ha hb HJ CC
   generalize encM (rsA rs x) = cx at *
   generalize encM (rsA rs y) = cy at *
   have i0 : (0 : Int) <= (a : Int) := Int.natCast_nonneg _
   have j0 : (0 : Int) <= (b : Int) := Int.natCast_nonneg _
   have i1 : (a : Int) < (no : Int) := by omega
   have j1 : (b : Int) < (no : Int) := by omega
   have ti : ((a : Int)).toNat = a := by omega
   have tj : ((b : Int)).toNat = b := by omega
   generalize hP : Tryz.prog = P at s1 s2 l1 l2 zE aE t3 a3 z3 v3 tS aS zS vS t0 a0 z0 v0 mixed ⊢
   go_big_region_o
   subst hP
   obtain ⟨W5, hW5⟩ : ∃ W5, (wr.drew.setCells g (a * q) cy).setCells g (b * q) cx = W5 := ⟨_, rfl⟩
   rw [hW5] at HP
   rw [hW5]
   clear hW5 s1 s2 l1 l2 zE aE t3 a3 z3 v3 tS aS zS vS t0 a0 z0 v0 mixed n1 n2
   have HP2 : Hid (((js.set a y).set b x).Perm (List.range no) /\ Own W5 w3.heap.size 36 encM 6 (.slice (some ⟨g, 0, none⟩) no cq) (((js.set a y).set b x).map (rsA rs)) /\ Below w3.heap.size w3 W5) := by
    have h := HP.out
    rw [<- HQ.out] at h
    exact h
   clear HP HQ HR
   go_wp2_with fail
   go_roundw
   case rel => exact ⟨k + 1, _, by omega, by go_num, HP2.out⟩
   case measure => simp [intOf]; omega
  ·obtain ⟨hjp, hjo, hjb⟩ := HJ.out
   have hbw : Below w.heap.size w wr := HB3.out.trans (hjb.mono HB3.out.size)
   have hps : (js.map (fun i => os.getD i dO)).Perm os := by
    have h := hjp.map (fun i => os.getD i dO)
    rw [HN.out.2, range_getD] at h
    exact h
   have hol2 : ObjL wr wr.heap.size (js.map (fun i => os.getD i dO)) (js.map (rsA rs)) (.slice pq no cq) := by
    refine ⟨hjo.rd codecM, by simp, fun i hi => ?_, fun o ho => HOL.out.ids o (hps.mem_iff.1 ho)⟩
    rw [List.length_map] at hi
    obtain ⟨x, hx⟩ : ∃ x, js[i]? = some x := ⟨_, List.getElem?_eq_getElem hi⟩
    have hxl : x < rs.length := by
     have h := hjp.mem_iff.1 (List.mem_of_getElem? hx)
     rw [List.mem_range] at h
     have := HN.out; omega
    have e1 : (js.map (rsA rs)).getD i dRM = rs.getD x dRM := getD_at (by rw [List.getElem?_map, hx]; rfl)
    have e2 : (js.map (fun i => os.getD i dO)).getD i dO = os.getD x dO := getD_at (by rw [List.getElem?_map, hx]; rfl)
    rw [e1, e2]
    obtain ⟨h1, h2, h3⟩ := HOL.out.obj x hxl
    exact ⟨h1, h2.under hbw hbw.size, h3⟩
   have hpl : (js.map (fun i => os.getD i dO)).length <= 1000000 := by rw [hps.length_eq]; have := HOS.out; omega
   have HO2 : Hid (∀ W, Below wr.heap.size wr W -> Calls Tryz.prog 17 #[RT.val, .slice pq no cq] W fun e w' => ∃ u, e = .returned u /\ Own w' W.heap.size 9 encS 1 u ((ordQ cs os).map (fun i => (os.getD i dO).1)) /\ Below W.heap.size W w') := fun W hb => by
    have h := rkorder_any t RT (js.map (fun i => os.getD i dO)) (js.map (rsA rs)) pq no cq W wr.heap.size hb.size (HTT.out.1.under (hbw.trans (hb.mono hbw.size)) hbw.size) HTT.out.2 (hol2.under hb (Nat.le_refl _)) hpl
    rw [HCS.out, <- ordQ_turned HUU.out (HUU.out.perm hps) hps] at h
    exact h
   have c0 := bcs hjb hz3 e0
   have c1 := bcs hjb hz3 e1
   have c2 := bcs hjb hz3 e2
   have c3 := bcs hjb hz3 e3
   have c4 := bcs hjb hz3 e4
   have hz5 := Nat.lt_of_lt_of_le hz3 hjb.size
   have HBR := Lib.hid hbw
   clear HJ hjp hjo hjb hbw hps hol2 hpl e0 e1 e2 e3 e4 hz3
   by_cases p1 : k < ni
   all_goals (try (have hno0 : ¬ ((0 : Int) < (no : Int)) := by omega))
   all_goals clear hgo
   all_goals go_wp2_with fail
   all_goals dsimp only [RV.val] at HO2
   all_goals rw [HRT.out] at HO2
   all_goals (
    go_region_held3 (fun w' => Below wr.heap.size wr w' /\ ∀ b o, b < wr.heap.size -> w'.cell? ⟨b, o, none⟩ = wr.cell? ⟨b, o, none⟩)
     (first | with_reducible exact kt_drew wr | with_reducible exact kt_same hbk)
     (first
      | (go_at_call 17; (with_reducible refine (HO2.out _ (KB.fin hbk (Below.refl _ _) (Nat.le_refl _))).mono ?_); rintro e w5 ⟨v, rfl, ho5, hb5⟩; (have hbk := KB.step (W := wr) hbk hb5); (have HV := Lib.hid (ho5.rd codecS)); (have HU := Lib.hid (HU.out.below hb5 hb5.size)); clear ho5)
      | (go_at_call 17; (with_reducible refine (HO.out _ (HBR.out.trans ((Below.refl _ _).drew.mono HBR.out.size)) HOS.out).mono ?_); rintro e w4 ⟨u, rfl, ho4, hb4⟩; (have hbk := KB.step (W := wr) (KB.drew wr) hb4); (have HU := Lib.hid (ho4.rd codecS)); clear ho4)
      | (go_at_call 16; (with_reducible refine (sameP_yes _ _ _ _ _ HU.out HV.out).mono ?_); rintro e w6 ⟨rfl, nd, rfl⟩; (have hbk := kb_drewN hbk nd)))
    all_goals go_wp2_with fail
    all_goals go_ret
    all_goals exact ⟨rfl, HBR.out.trans ((show _ /\ _ from hbk).1.mono HBR.out.size)⟩)
end
section
open Go Go.RowKit Go.ChangeShapes Go.WideShapes Go.Deep
theorem cellsIntO : Tryz.prog.cellsOf 3 = 1 := by kernel_rfl
section
variable {H : Type} {enc : TypeId × Value -> H} {W : World} {base b0 : Nat} {spare : Nat -> Bool} {held : Bool}
theorem open_intsC {v : Value} {d : DataW H} {p : List MemPlace} (hval : Value.okWide Tryz.prog W .any b0 42 v) (h : DataW.Trod enc Tryz.prog W base spare held 42 v d p) :
 ∃ q n c l, v = .slice q n c /\ Rd W W.heap.size encI 1 (.slice q n c) l := by
 obtain ⟨fuel, hf⟩ := h
 obtain ⟨a, len, cap, rfl⟩ := okWide_slice Tryz.underlying42 hval
 obtain ⟨q, n, c, l, e, hr, hd⟩ := open_list (Q := fun (s : Int) (d : DataW H) => True) Tryz.underlying42 cellsIntO codecI hf (fun m _ cs y hy => by
  obtain ⟨s, e0, f0, w0⟩ := DataW.trod_int Tryz.underlying3 hy
  exact ⟨s, e0, trivial⟩)
 have hcs : (Value.slice a len cap).cells.toList = [.slice a len cap] := rfl
 rw [hcs] at e
 simp only [List.cons.injEq, Value.slice.injEq, and_true] at e
 obtain ⟨rfl, rfl, rfl⟩ := e
 exact ⟨_, _, _, l, rfl, hr⟩
end
end
end Go.Proofs.YtjhginendpjimaaGreatDoor
