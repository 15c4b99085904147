import Derived.Test.YtjhginendpjimaaGreatDoorB29
import Derived.Test.YtjhginendpjimaaGreatDoorB33
import Derived.Test.YtjhginendpjimaaGreatDoorB27
import Derived.Test.YtjhginendpjimaaGreatDoorB39
import Derived.Test.YtjhginendpjimaaGreatDoorB40
import Derived.Test.YtjhginendpjimaaGreatDoorB16
import Derived.Test.YtjhginendpjimaaGreatDoorB00
set_option linter.unusedSimpArgs false
set_option linter.unusedVariables false
set_option maxRecDepth 200000
set_option maxHeartbeats 8000000
namespace Go.Proofs.YtjhginendpjimaaGreatDoor
section
open Go Go.RowKit Go.OpenShut
theorem kb_drewN {W w : World} (h : KB W.heap.size W w) (n : Nat) : KB W.heap.size W (w.drewN n) := KB.step h (bdn (Below.refl _ _) n)
theorem rankOrders_any (t : JV) (r : RV) (os : List (ByteArray × JV)) (rs : List RM) (p : Option Addr) (no co : Nat) (w : World) (ht : TreeOf w w.heap.size t r) (ot : t.Ok) (hl : ObjL w w.heap.size os rs (.slice p no co)) :
 Calls Tryz.prog 4 #[r.val, .slice p no co] w fun e w' => e = .returned (.bool true) /\ Below w.heap.size w w' := by
 have hnr : no = rs.length := rd_nlen hl.rd
 have hro := hl.len
 have HN : Hid (no = rs.length /\ no = os.length) := ⟨hnr, by omega⟩
 have HF : Hid (∀ W, Below w.heap.size w W -> Calls Tryz.prog 13 #[r.val, .slice p no co] W (Few21R W t os)) := fun W hb => few21_any t r os rs p no co W (ht.under hb hb.size) ot (hl.under hb hb.size)
 have HRD := Lib.hid hl.rd
 have HO : Hid (∀ W, Below w.heap.size w W -> os.length <= 40 -> Calls Tryz.prog 17 #[r.val, .slice p no co] W fun e w' => ∃ u, e = .returned u /\ Own w' W.heap.size 9 encS 1 u ((ordQ (sortC t) os).map (fun i => (os.getD i dO).1)) /\ Below W.heap.size W w') := fun W hb hn => rkorder_any t r os rs p no co W w.heap.size hb.size (ht.under hb (Nat.le_refl _)) ot (hl.under hb (Nat.le_refl _)) (by omega)
 have HP : Hid (∀ W, Below w.heap.size w W -> os.length <= 40 -> (t.k ≠ 5 -> t.l = []) -> Calls Tryz.prog 18 #[r.val, .slice p no co] W fun e w' => ∃ u, e = .returned u /\ Own w' W.heap.size 9 encS 1 u ((ordQ (sortC t) os).map (fun i => (os.getD i dO).1)) /\ Below W.heap.size W w') := fun W hb hn hown => rOrder_any t r os rs p no co W w.heap.size hb.size (ht.under hb (Nat.le_refl _)) ot hown (hl.under hb (Nat.le_refl _)) (by omega)
 have HA : Hid (∀ i k, i < no -> k < no -> ∀ W, Below w.heap.size w W -> Calls Tryz.prog 14 #[r.val, (rs.getD i dRM).val, (rs.getD k dRM).val] W fun e w' => e = .returned (.bool (aheadJ (sortC t) (os.getD i dO) (os.getD k dO))) /\ Below W.heap.size W w') := fun i k hi hk W hb => by
  have h1 := hl.obj i (by omega)
  have h2 := hl.obj k (by omega)
  exact rkAhead_any t r _ _ _ _ W w.heap.size hb.size (ht.under hb (Nat.le_refl _)) ot ⟨h1.1, h1.2.1.under hb (Nat.le_refl _)⟩ h1.2.2 ⟨h2.1, h2.2.1.under hb (Nat.le_refl _)⟩ h2.2.2
 have HE : Hid (∀ i k, i < no -> k < no -> (t.k ≠ 5 -> t.l = []) -> ∀ W, Below w.heap.size w W -> Calls Tryz.prog 15 #[r.val, (rs.getD i dRM).val, (rs.getD k dRM).val] W fun e w' => e = .returned (.bool (aheadJ (sortC t) (os.getD i dO) (os.getD k dO))) /\ Below W.heap.size W w') := fun i k hi hk hown W hb => by
  have h1 := hl.obj i (by omega)
  have h2 := hl.obj k (by omega)
  exact rAhead_any t r _ _ _ _ W w.heap.size hb.size (ht.under hb (Nat.le_refl _)) ot hown ⟨h1.1, h1.2.1.under hb (Nat.le_refl _)⟩ h1.2.2 ⟨h2.1, h2.2.1.under hb (Nat.le_refl _)⟩ h2.2.2
 have hA0 : VAt (w.alloc r.obj) w.heap.size r := heap_alloc_at rfl
 have hB0 : Below w.heap.size w (w.alloc r.obj) := (Below.refl _ _).alloc (Nat.le_refl _) _
 obtain ⟨k, n, s, pl, nl, cl, pm, nm, cm⟩ := r
 dsimp only [RV.val, RV.obj] at *
 obtain ⟨W0, hW0⟩ : ∃ W, w.alloc (.cells #[.int .i64 k, .int .i64 n, .string s, .slice pl nl cl, .slice pm nm cm] 25) = W := ⟨_, rfl⟩
 rw [hW0] at hB0 hA0
 obtain ⟨cs, hcs⟩ : ∃ C, sortC t = C := ⟨_, rfl⟩
 rw [hcs] at HO HP HA HE
 clear ht ot hl hro hnr hcs
 go_enter Tryz.func4, Tryz.ntmps4
 go_upto_region 1 with fail
 try rw [hW0]
 clear hW0
 have hz := hA0.lt
 obtain ⟨c0, c1, c2, c3, c4⟩ := hA0.cells5
 clear hA0
 go_wp2_with (first
  | (go_at_call 9; refine (awake21_any _).mono ?_; rintro e w1 ⟨rfl, hbA⟩; first | ((have hb3 := hb2.trans (hbA.mono hb2.size))) | (have hb1 := hB0.trans (hbA.mono hB0.size); (have d0 := bcs hbA hz c0); (have d1 := bcs hbA hz c1); (have d2 := bcs hbA hz c2); (have d3 := bcs hbA hz c3); (have d4 := bcs hbA hz c4)))
  | (go_at_call 13; refine (HF.out _ hb1).mono ?_; rintro e w2 ⟨b1, rfl, hL, hbB⟩; (have hb2 := hb1.trans (hbB.mono hb1.size)); (have hz1 := Nat.lt_of_lt_of_le hz hbA.size); (have e0 := bcs hbB hz1 d0); (have e1 := bcs hbB hz1 d1); (have e2 := bcs hbB hz1 d2); (have e3 := bcs hbB hz1 d3); (have e4 := bcs hbB hz1 d4); cases b1))
 ·go_ret
  exact ⟨rfl, hb3⟩
 have HOW : Hid (t.k ≠ 5 -> t.l = []) := (hL.out trivial).1.1
 have hos : os.length <= 40 := (hL.out trivial).2
 have hno : no <= 40 := by have := HN.out; omega
 have HOS := Lib.hid hos
 have HB2 := Lib.hid hb2
 have hz2 := Nat.lt_of_lt_of_le hz1 hbB.size
 clear hos hL hbB hbA hb2 hb1 hB0 c0 c1 c2 c3 c4 d0 d1 d2 d3 d4 hz hz1 HF
 go_wp2_with fail
 go_loopw [5] (fun i wr => ∃ k : Nat, 1 <= k /\ (k <= no \/ k = 1) /\ i = .int .i64 (k : Int) /\ Below w2.heap.size w2 wr) (fun i _ => 41 - (intOf i).toNat)
 case atStart => exact ⟨1, by omega, .inr rfl, rfl, Below.refl _ _⟩
 case round =>
  obtain ⟨k, hk1, hk, rfl, hbr⟩ := hrel
  have c0 := bcs hbr hz2 e0
  have c1 := bcs hbr hz2 e1
  have c2 := bcs hbr hz2 e2
  have c3 := bcs hbr hz2 e3
  have c4 := bcs hbr hz2 e4
  have hb3 := HB2.out.trans (hbr.mono HB2.out.size)
  have hzr := Nat.lt_of_lt_of_le hz2 hbr.size
  by_cases hlt : k < no
  ·obtain ⟨j, hj⟩ : ∃ j, k = j + 1 := ⟨k - 1, by omega⟩
   have hsub : (k : Int) - 1 = (j : Int) := by omega
   have hjn : j < no := by omega
   have hwr : IntKind.i64.wrap ((k : Int) - 1) = (j : Int) := by rw [IntKind.wrap_i64] <;> omega
   clear hsub
   obtain ⟨x, hx⟩ : ∃ x, rs[j]? = some x := ⟨_, List.getElem?_eq_getElem (by have := HN.out; omega)⟩
   obtain ⟨y, hy⟩ : ∃ x, rs[k]? = some x := ⟨_, List.getElem?_eq_getElem (by have := HN.out; omega)⟩
   have HC := Lib.hid (HA.out j k hjn hlt)
   have HD := Lib.hid (HE.out j k hjn hlt HOW.out)
   rw [getD_at (d := dRM) hx, getD_at (d := dRM) hy] at HC HD
   obtain ⟨A, hA⟩ : ∃ A, aheadJ cs (os.getD j dO) (os.getD k dO) = A := ⟨_, rfl⟩
   rw [hA] at HC HD
   obtain ⟨b1, o1, hp1, hb1, hc1⟩ := rd_at' (HRD.out.below hb3 (Nat.le_refl _)) hx
   obtain ⟨b2, o2, hp2, hb2', hc2⟩ := rd_at' (HRD.out.below hb3 (Nat.le_refl _)) hy
   obtain rfl := hp1
   cases hp2
   have f0 := hc1 0 _ rfl
   have f1 := hc1 1 _ rfl
   have f2 := hc1 2 _ rfl
   have f3 := hc1 3 _ rfl
   have f4 := hc1 4 _ rfl
   have f5 := hc1 5 _ rfl
   have g0 := hc2 0 _ rfl
   have g1 := hc2 1 _ rfl
   have g2 := hc2 2 _ rfl
   have g3 := hc2 3 _ rfl
   have g4 := hc2 4 _ rfl
   have g5 := hc2 5 _ rfl
   rw [Nat.add_zero] at f0 g0
   have hbl : b1 < wr.heap.size := by omega
   have hj0 : (0 : Int) <= (j : Int) := Int.natCast_nonneg _
   have hj1 : (j : Int) < (no : Int) := by omega
   have hk0 : (0 : Int) <= (k : Int) := Int.natCast_nonneg _
   have hk2 : (k : Int) < (no : Int) := by omega
   obtain ⟨xn, xk, xm, xs, xpl, xnl, xcl, xpm, xnm, xcm⟩ := x
   obtain ⟨yn, yk, ym, ys, ypl, ynl, ycl, ypm, ynm, ycm⟩ := y
   dsimp only [RM.val] at f0 f1 f2 f3 f4 f5 g0 g1 g2 g3 g4 g5 HC HD
   have HHB := Lib.hid hb3
   have HBR := Lib.hid hbr
   have HJ := Lib.hid (And.intro hk1 hj)
   clear hx hy hA hc1 hc2 hb3 hbr hk1 hj hb1 hb2' e0 e1 e2 e3 e4
   go_upto_region 6 with fail
   go_region_held3 (fun w' => Below wr.heap.size wr w' /\ ∀ b o, b < wr.heap.size -> w'.cell? ⟨b, o, none⟩ = wr.cell? ⟨b, o, none⟩)
    (first | with_reducible exact kt_drew wr | with_reducible exact kt_same hbk)
    (first
     | (go_at_call 14; (with_reducible refine (HC.out _ (HHB.out.trans ((Below.refl _ _).drew.mono HHB.out.size))).mono ?_); rintro e w4 ⟨rfl, hb4⟩; (have hbk := KB.step (W := wr) (KB.drew wr) hb4))
     | (go_at_call 15; (with_reducible refine (HD.out _ (KB.fin hbk HHB.out HHB.out.size)).mono ?_); rintro e w5 ⟨rfl, hb5⟩; (have hbk := KB.step (W := wr) hbk hb5)))
   all_goals go_wp2_with fail
   all_goals go_roundw
   case rel => exact ⟨k + 1, by omega, .inl (by omega), by go_num, HBR.out.trans ((show _ /\ _ from hbk).1.mono HBR.out.size)⟩
   case measure => simp [intOf]; omega
  ·have HBR := Lib.hid (And.intro hb3 hbr)
   clear hb3 hbr e0 e1 e2 e3 e4
   go_upto_region 8 with fail
   go_region_held3 (fun w' => Below wr.heap.size wr w' /\ ∀ b o, b < wr.heap.size -> w'.cell? ⟨b, o, none⟩ = wr.cell? ⟨b, o, none⟩)
    (first | with_reducible exact kt_drew wr | with_reducible exact kt_same hbk)
    (first
     | (go_at_call 17; (with_reducible refine (HO.out _ (HBR.out.1.trans ((Below.refl _ _).drew.mono HBR.out.1.size)) HOS.out).mono ?_); rintro e w4 ⟨u, rfl, ho4, hb4⟩; (have hbk := KB.step (W := wr) (KB.drew wr) hb4); (have HU := Lib.hid (ho4.rd codecS)); clear ho4)
     | (go_at_call 18; (with_reducible refine (HP.out _ (KB.fin hbk HBR.out.1 HBR.out.1.size) HOS.out HOW.out).mono ?_); rintro e w5 ⟨v, rfl, ho5, hb5⟩; (have hbk := KB.step (W := wr) hbk hb5); (have HV := Lib.hid (ho5.rd codecS)); (have HU := Lib.hid (HU.out.below hb5 hb5.size)); clear ho5)
     | (go_at_call 16; (with_reducible refine (sameP_yes _ _ _ _ _ HU.out HV.out).mono ?_); rintro e w6 ⟨rfl, nd, rfl⟩; (have hbk := kb_drewN hbk nd)))
   all_goals go_wp2_with fail
   all_goals go_ret
   all_goals exact ⟨rfl, HBR.out.1.trans ((show _ /\ _ from hbk).1.mono HBR.out.1.size)⟩
end
section
open Go Go.RowKit Go.ChangeShapes Go.WideShapes Go.Deep
theorem cellsObO : Tryz.prog.cellsOf 36 = 6 := by kernel_rfl
theorem celStO : Tryz.prog.cellsOf 9 = 1 := by kernel_rfl
section
variable {H : Type} {enc : TypeId × Value -> H} {W : World} {base b0 : Nat} {spare : Nat -> Bool} {held : Bool}
theorem open_objL {v : Value} {d : DataW H} {p : List MemPlace} (hval : Value.okWide Tryz.prog W .any b0 32 v) (h : DataW.Trod enc Tryz.prog W base spare held 32 v d p) :
 ∃ q n c os rs, v = .slice q n c /\ ((∀ n ∈ d.weights Tryz.prog 32, n <= 140737488351232) -> ObjL W W.heap.size os rs (.slice q n c)) := by
 obtain ⟨fuel, hf⟩ := h
 obtain ⟨a, len, cap, rfl⟩ := okWide_slice Tryz.underlying32 hval
 obtain ⟨pm, nm, cm, rms, e4, hr4, hd4⟩ := open_list (Q := fun (r : RM) (d : DataW H) => ∃ t, TreeOf W W.heap.size t r.v /\ ((∀ n ∈ d.weights Tryz.prog 36, n <= 140737488351232) -> r.name.size <= 140737488351232 /\ t.Ok)) Tryz.underlying32 cellsObO codecM hf
  (fun m hm cs y hy => by
   obtain ⟨z0, z1, j, rfl, hy1, hlen, u0, u1⟩ := trodF2 Tryz.underlying36 hy
   rw [cellsObO] at hlen
   obtain ⟨a0, a1, a2, a3, a4, a5, rfl⟩ : ∃ a0 a1 a2 a3 a4 a5, cs = [a0, a1, a2, a3, a4, a5] := by
    match cs, hlen with
    | [a, b, c, d, e, f], _ => exact ⟨a, b, c, d, e, f, rfl⟩
   rw [hy1]
   dsimp only at u0 u1
   rw [celStO] at u0
   rw [cellsV] at u1
   simp only [List.drop_zero, List.drop_succ_cons, List.take_succ_cons, List.take_zero] at u0 u1
   obtain ⟨nm, g0, g1, g2⟩ := DataW.trod_string Tryz.underlying9 u0
   simp only [List.cons.injEq, and_true] at g0
   subst g0 g1
   obtain ⟨r, t, h1, h2, h3⟩ := open_val j _ _ u1
   refine ⟨⟨nm, r⟩, by rw [h1]; rfl, t, h2, fun hw => ⟨weights_string (weights_struct Tryz.underlying36 hw (i := 0) rfl rfl), h3 (weights_struct Tryz.underlying36 hw (i := 1) rfl rfl)⟩⟩)
 have hcs : (Value.slice a len cap).cells.toList = [.slice a len cap] := rfl
 rw [hcs] at e4
 simp only [List.cons.injEq, Value.slice.injEq, and_true] at e4
 obtain ⟨rfl, rfl, rfl⟩ := e4
 have hM : ∀ i, i < rms.length -> ∃ p : ByteArray × JV, ∀ q, rms[i]? = some q -> q.name = p.1 /\ TreeOf W W.heap.size p.2 q.v /\ ((∀ n ∈ d.weights Tryz.prog 32, n <= 140737488351232) -> p.1.size <= 140737488351232 /\ p.2.Ok) := by
  intro i hi
  obtain ⟨q, hq⟩ : ∃ q, rms[i]? = some q := ⟨_, List.getElem?_eq_getElem hi⟩
  rcases hd4 with ⟨rfl, _⟩ | ⟨es, sp, h1, h2, h3⟩
  ·simp at hi
  ·obtain ⟨d', hd, t, ht1, ht2⟩ := h3 i q hq
   refine ⟨(q.name, t), fun q' hq' => ?_⟩
   rw [hq] at hq'
   cases hq'
   refine ⟨rfl, ht1, fun hw => ht2 ?_⟩
   dsimp only at h1
   rw [h1] at hw
   exact (weights_slice Tryz.underlying32 hw).2 d' (List.mem_of_getElem? hd)
 obtain ⟨ps, hps, hps2⟩ := list_of rms.length hM
 refine ⟨a, len, cap, ps, rms, rfl, fun hw => ⟨hr4, hps.symm, fun i hi => ?_, fun o ho => ?_⟩⟩
 ·obtain ⟨q, hq⟩ : ∃ q, rms[i]? = some q := ⟨_, List.getElem?_eq_getElem hi⟩
  obtain ⟨x, hx⟩ : ∃ q, ps[i]? = some q := ⟨_, List.getElem?_eq_getElem (by omega)⟩
  obtain ⟨h1, h2, h3⟩ := hps2 i x hx q hq
  rw [getD_at (d := dRM) hq, getD_at (d := dO) hx]
  exact ⟨h1, h2, (h3 hw).2⟩
 ·obtain ⟨i, hi⟩ := List.getElem?_of_mem ho
  obtain ⟨q, hq⟩ : ∃ q, rms[i]? = some q := ⟨_, List.getElem?_eq_getElem (by have := (List.getElem?_eq_some_iff.1 hi).1; omega)⟩
  exact ((hps2 i o hi q hq).2.2 hw).1
end
end
end Go.Proofs.YtjhginendpjimaaGreatDoor
