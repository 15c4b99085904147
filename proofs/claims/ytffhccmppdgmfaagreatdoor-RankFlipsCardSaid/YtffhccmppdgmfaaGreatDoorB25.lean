import Derived.Test.YtffhccmppdgmfaaGreatDoorB24
import Derived.Test.YtffhccmppdgmfaaGreatDoorB21
import Derived.Test.YtffhccmppdgmfaaGreatDoorB16
import Derived.Test.YtffhccmppdgmfaaGreatDoorB10
import Derived.Test.YtffhccmppdgmfaaGreatDoorB09
set_option linter.unusedSimpArgs false
set_option linter.unusedVariables false
set_option maxRecDepth 200000
set_option maxHeartbeats 8000000
namespace Go.Proofs.YtffhccmppdgmfaaGreatDoor
section
open Go.RowKit Go.OpenShut
def SomeM (t : JV) (n : Nat) (w : World) (e : Ending) (w' : World) : Prop := ∃ b : Bool, e = .returned (.bool b) /\ Hid (b = true -> n <= 10000 /\ OwnM t) /\ Below w.heap.size w w'
def FewBm (w : World) (b : BoxD) (e : Ending) (w' : World) : Prop := ∃ y : Bool, e = .returned (.bool y) /\ Hid (y = true -> (b.objs.length <= 100 /\ b.trail.length <= 300) /\ ∀ p ∈ b.objs, p.2.m.length <= 10000) /\ Below w.heap.size w w'
theorem few7m_any (t : JV) (r : RV) (most : Int) (w : World) (ht : TreeOf w w.heap.size t r) (ot : t.Ok) :
 Calls Tryz.prog 18 #[r.val, .int .i64 most] w (SomeM t r.nm w) := by
 have HT := Lib.hid ht
 have hA0 : VAt (w.alloc (.cells #[.int .i64 r.k, .int .i64 r.n, .string r.s, .slice r.pl r.nl r.cl, .slice r.pm r.nm r.cm] 25)) w.heap.size r := heap_alloc_at rfl
 have hB0 : Below w.heap.size w (w.alloc (.cells #[.int .i64 r.k, .int .i64 r.n, .string r.s, .slice r.pl r.nl r.cl, .slice r.pm r.nm r.cm] 25)) := (Below.refl _ _).alloc (Nat.le_refl _) _
 clear ht
 go_enter Tryz.func18, Tryz.ntmps18
 go_upto_region 1 with fail
 obtain ⟨W0, hW0⟩ : ∃ W0, (w.alloc (.cells #[.int .i64 r.k, .int .i64 r.n, .string r.s, .slice r.pl r.nl r.cl, .slice r.pm r.nm r.cm] 25)) = W0 := ⟨_, rfl⟩
 rw [hW0] at hA0 hB0 ⊢
 clear hW0
 have hz := hA0.lt
 obtain ⟨c0, c1, c2, c3, c4⟩ := hA0.cells5
 clear hA0
 have HD : Hid (∀ W, Below w.heap.size w W -> Calls Tryz.prog 47 #[r.val, .int .i64 100] W (SomeF r.nm W)) := fun W hb => deep7_any t r W (HT.out.under hb hb.size) ot
 have HN : Hid (∀ W, Below w.heap.size w W -> Calls Tryz.prog 48 #[r.val, .int .i64 most] W (SomeI W)) := fun W hb => count7_any _ t r most W (Nat.le_refl _) (HT.out.under hb hb.size) ot
 have HO : Hid (∀ W, Below w.heap.size w W -> Calls Tryz.prog 49 #[r.val] W (OwnRet7 W t)) := fun W hb => own7m_any _ t r W (Nat.le_refl _) (HT.out.under hb hb.size) ot
 go_wp2_with (first
  | (go_at_call 47; refine (HD.out _ hB0).mono ?_; rintro e w1 ⟨b1, rfl, hbL, hbA⟩; (have hb1 := hB0.trans (hbA.mono hB0.size)); (have d0 := bcs hbA hz c0); (have d1 := bcs hbA hz c1); (have d2 := bcs hbA hz c2); (have d3 := bcs hbA hz c3); (have d4 := bcs hbA hz c4); cases b1)
  | (go_at_call 48; refine (HN.out _ hb1).mono ?_; rintro e w2 ⟨d, rfl, hbB⟩; (have hb2 := hb1.trans (hbB.mono hb1.size)); (have hz1 := Nat.lt_of_lt_of_le hz hbA.size); (have e0 := bcs hbB hz1 d0); (have e1 := bcs hbB hz1 d1); (have e2 := bcs hbB hz1 d2); (have e3 := bcs hbB hz1 d3); (have e4 := bcs hbB hz1 d4); (by_cases hd : d <= most))
  | (go_at_call 49; refine (HO.out _ hb2).mono ?_; rintro e w3 ⟨b3, rfl, hM, hbC⟩; (have hb3 := hb2.trans (hbC.mono hb2.size))))
 all_goals go_ret
 all_goals first | (refine ⟨b3, rfl, ?_, hb3⟩; have h := hbL.out; exact fun hb => ⟨h trivial, hM.out hb⟩) | exact ⟨false, rfl, (fun h => by cases h), hb2⟩ | exact ⟨false, rfl, (fun h => by cases h), hb1⟩
end
section
open Go Go.RowKit Go.OpenShut
def Few21R (w : World) (t : JV) (os : List (ByteArray × JV)) (e : Ending) (w' : World) : Prop := ∃ b : Bool, e = .returned (.bool b) /\ Hid (b = true -> OwnM t /\ os.length <= 40) /\ Below w.heap.size w w'
theorem few21_any (t : JV) (r : RV) (os : List (ByteArray × JV)) (rs : List RM) (p : Option Addr) (no co : Nat) (w : World) (ht : TreeOf w w.heap.size t r) (ot : t.Ok) (hl : ObjL w w.heap.size os rs (.slice p no co)) :
 Calls Tryz.prog 12 #[r.val, .slice p no co] w (Few21R w t os) := by
 have hA0 : VAt (w.alloc (.cells #[.int .i64 r.k, .int .i64 r.n, .string r.s, .slice r.pl r.nl r.cl, .slice r.pm r.nm r.cm] 25)) w.heap.size r := heap_alloc_at rfl
 have hB0 : Below w.heap.size w (w.alloc (.cells #[.int .i64 r.k, .int .i64 r.n, .string r.s, .slice r.pl r.nl r.cl, .slice r.pm r.nm r.cm] 25)) := (Below.refl _ _).alloc (Nat.le_refl _) _
 have HF : Hid (∀ W, Below w.heap.size w W -> Calls Tryz.prog 18 #[r.val, .int .i64 60] W (SomeM t r.nm W)) := fun W hb => few7m_any t r _ W (ht.under hb hb.size) ot
 have hnr : no = rs.length := rd_nlen hl.rd
 have hro := hl.len
 have HN : Hid (no = rs.length /\ no = os.length) := ⟨hnr, by omega⟩
 have HV : Hid (∀ k, k < no -> ∀ W, Below w.heap.size w W -> Calls Tryz.prog 18 #[(rs.getD k dRM).v.val, .int .i64 300] W (SomeM (os.getD k dO).2 (rs.getD k dRM).v.nm W)) := fun k hk W hb => few7m_any _ _ _ W ((hl.obj k (by omega)).2.1.under hb hb.size) (hl.obj k (by omega)).2.2
 have HG : Hid (∀ k, k < no -> ∀ W, Below w.heap.size w W -> Calls Tryz.prog 41 #[(rs.getD k dRM).v.val] W (SomeB W)) := fun k hk W hb => light_any _ _ W ((hl.obj k (by omega)).2.1.under hb hb.size) (hl.obj k (by omega)).2.2
 have HRD := Lib.hid hl.rd
 clear ht ot hl hnr hro
 go_enter Tryz.func12, Tryz.ntmps12
 go_upto_region 1 with fail
 obtain ⟨W0, hW0⟩ : ∃ W0, (w.alloc (.cells #[.int .i64 r.k, .int .i64 r.n, .string r.s, .slice r.pl r.nl r.cl, .slice r.pm r.nm r.cm] 25)) = W0 := ⟨_, rfl⟩
 try rw [hW0]
 rw [hW0] at hA0 hB0
 clear hW0
 have hz := hA0.lt
 obtain ⟨c0, c1, c2, c3, c4⟩ := hA0.cells5
 clear hA0
 by_cases h1 : 40 < no
 ·have d1 : decide ((40 : Int) < (no : Int)) = true := by simp; omega
  clear h1
  go_wp2_with (go_at_call 18; refine (HF.out _ hB0).mono ?_; rintro e w1 ⟨b, rfl, _, hb1⟩; (have hb2 := hB0.trans (hb1.mono hB0.size)); cases b)
  all_goals go_ret
  all_goals exact ⟨false, rfl, (fun h => by cases h), hb2⟩
 have d1 : decide ((40 : Int) < (no : Int)) = false := by simp; omega
 have hno : no <= 40 := by omega
 clear h1
 go_wp2_with (go_at_call 18; refine (HF.out _ hB0).mono ?_; rintro e w1 ⟨b, rfl, hM, hb1⟩; (have hb2 := hB0.trans (hb1.mono hB0.size)); cases b)
 ·go_ret
  exact ⟨false, rfl, (fun h => by cases h), hb2⟩
 have HB2 := Lib.hid hb2
 clear hb1 hb2 hB0 c0 c1 c2 c3 c4 hz HF
 go_wp2_with fail
 go_loopw [5] (fun i wr => ∃ k : Nat, k <= no /\ i = .int .i64 k /\ Below w.heap.size w wr) (fun i _ => no - (intOf i).toNat)
 case atStart => exact ⟨0, Nat.zero_le _, rfl, HB2.out⟩
 case round =>
  obtain ⟨k, hk, rfl, hbr⟩ := hrel
  by_cases hlt : k < no
  ·obtain ⟨x, hx⟩ : ∃ x, rs[k]? = some x := ⟨_, List.getElem?_eq_getElem (by have := HN.out; omega)⟩
   have hgx := getD_at (d := dRM) hx
   have HC := Lib.hid (HV.out k hlt)
   have HL := Lib.hid (HG.out k hlt)
   rw [hgx] at HC HL
   obtain ⟨b1, o1, rfl, hb1, hc1⟩ := rd_at' (HRD.out.below hbr (Nat.le_refl _)) hx
   have f0 := hc1 0 _ rfl
   have f1 := hc1 1 _ rfl
   have f2 := hc1 2 _ rfl
   have f3 := hc1 3 _ rfl
   have f4 := hc1 4 _ rfl
   have f5 := hc1 5 _ rfl
   have hk0 : (0 : Int) <= (k : Int) := Int.natCast_nonneg _
   have hk1 : (k : Int) < (no : Int) := by omega
   have hc5 := hc1
   go_wp2_with (first
    | (go_at_call 18; refine (HC.out _ hbr).mono ?_; rintro e w2 ⟨y, rfl, _, hb2⟩; (have hb3 := hbr.trans (hb2.mono hbr.size)); (obtain ⟨b3, o3, hq3, hb3', hc3⟩ := rd_at' (HRD.out.below hb3 (Nat.le_refl _)) hx); cases hq3; (have g0 := hc3 0 _ rfl); (have g1 := hc3 1 _ rfl); (have g2 := hc3 2 _ rfl); (have g3 := hc3 3 _ rfl); (have g4 := hc3 4 _ rfl); (have g5 := hc3 5 _ rfl); cases y)
    | (go_at_call 41; refine (HL.out _ hb3).mono ?_; rintro e w3 ⟨y, rfl, hb4⟩; (have hb5 := hb3.trans (hb4.mono hb3.size)); cases y))
   ·go_ret
    exact ⟨false, rfl, (fun h => by cases h), hb3⟩
   ·go_ret
    exact ⟨false, rfl, (fun h => by cases h), hb5⟩
   ·go_roundw
    case rel => exact ⟨k + 1, by omega, by go_num, hb5⟩
    case measure => simp [intOf]; omega
  ·obtain rfl : k = no := by omega
   go_wp2_with fail
   go_ret
   exact ⟨true, rfl, fun _ => ⟨(hM.out trivial).2, by have := HN.out; omega⟩, hbr⟩
theorem radd_any (t : JV) (r : RV) (name : ByteArray) (u : Value) (L : List ByteArray) (w : World) (B base : Nat) (hBw : B <= base) (hbw : base <= w.heap.size) (ht : TreeOf w B t r) (ot : t.Ok) (hO : Own w base 9 encS 1 u L) (hL : L.length <= 2000000000000) :
 Calls Tryz.prog 63 #[u, r.val, .string name] w fun e w' => ∃ v, e = .returned v /\ Own w' base 9 encS 1 v (L ++ textM t name) /\ Below base w w' := by
 obtain ⟨W0, hW0⟩ : ∃ W0, w.alloc r.obj = W0 := ⟨_, rfl⟩
 have hA0 : VAt W0 w.heap.size r := by rw [<- hW0]; exact heap_alloc_at rfl
 have hB0 : Below w.heap.size w W0 := by rw [<- hW0]; exact (Below.refl _ _).alloc (Nat.le_refl _) _
 have hO0 : Own W0 base 9 encS 1 u L := by rw [<- hW0]; exact hO.alloc _
 have HC : Hid (Calls Tryz.prog 61 #[r.val, .string name] W0 (GetRetB W0 B (t.get name))) := refGetB_any t r name W0 B (Nat.le_trans (Nat.le_trans hBw hbw) hB0.size) (ht.under (hB0.mono (Nat.le_trans hBw hbw)) (Nat.le_refl _)) ot
 have HTX := Lib.hid (textM_of t name)
 obtain ⟨R, hR⟩ : ∃ R, textM t name = R := ⟨_, rfl⟩
 rw [hR] at HTX
 rw [hR]
 obtain ⟨o, ho⟩ : ∃ o, t.get name = o := ⟨_, rfl⟩
 rw [ho] at HC HTX
 obtain ⟨k, n, s, pl, nl, cl, pm, nm, cm⟩ := r
 dsimp only [RV.val, RV.obj] at *
 have HW := Lib.hid hW0
 have HB0 := Lib.hid hB0
 have HO0 := Lib.hid hO0
 have hw0 := hB0.size
 have HLN : Hid (L.length + [(o.getD JV.zero).s].length <= maxLen /\ (L.length + [(o.getD JV.zero).s].length) * 16 <= 140737488355328) := by
  simp only [List.length_singleton]
  exact ⟨by unfold maxLen; omega, by omega⟩
 clear hW0 hB0 ht ot hR ho hO hO0 hL
 go_enter Tryz.func63, Tryz.ntmps63
 go_upto_region 1 with fail
 rw [HW.out]
 clear HW
 obtain ⟨a0, a1, a2, a3, a4⟩ := hA0.cells5
 go_upto_region 2 with (go_at_call 61; refine HC.out.mono ?_; rintro e w1 ⟨rv, bb, rfl, hbb, ht1, hb1⟩; obtain ⟨rk, rn, rS, rpl, rnl, rcl, rpm, rnm, rcm⟩ := rv)
 obtain ⟨hkk, hss⟩ := ht1.kk
 dsimp only at hkk hss
 have hz1 := hb1.size
 have hb2 : Below W0.heap.size W0 (w1.alloc (.cells #[.int .i64 rk, .int .i64 rn, .string rS, .slice rpl rnl rcl, .slice rpm rnm rcm] 25)) := hb1.alloc hz1 _
 have hv2 : VAt (w1.alloc (.cells #[.int .i64 rk, .int .i64 rn, .string rS, .slice rpl rnl rcl, .slice rpm rnm rcm] 25)) w1.heap.size ⟨rk, rn, rS, rpl, rnl, rcl, rpm, rnm, rcm⟩ := heap_alloc_at rfl
 have hO2 := HO0.out.below hb2 (Nat.le_refl _)
 obtain ⟨g, hg⟩ : ∃ g, w1.heap.size = g := ⟨_, rfl⟩
 obtain ⟨W2, hW2⟩ : ∃ W, w1.alloc (.cells #[.int .i64 rk, .int .i64 rn, .string rS, .slice rpl rnl rcl, .slice rpm rnm rcm] 25) = W := ⟨_, rfl⟩
 rw [hW2] at hb2 hv2 hO2
 rw [hg] at hv2
 try rw [hW2]
 try rw [hg]
 obtain ⟨v0, v1, v2, v3, v4⟩ := hv2.cells5
 dsimp only at v0 v1 v2 v3 v4
 have hbw2 := (HB0.out.trans (hb2.mono hw0)).mono hbw
 have HX := Lib.hid hbw2
 have HO2 := Lib.hid hO2
 have hz2 : base <= W2.heap.size := Nat.le_trans hbw (HB0.out.trans (hb2.mono hw0)).size
 clear hW2 hg hb1 ht1 hb2 hv2 hz1 hbw2 hO2
 cases o with
 | none =>
   obtain rfl : bb = false := hbb
   have HR : Hid (R = []) := by unfold Hid; rw [HTX.out]; exact if_neg (by decide)
   clear hkk hss
   go_wp2_with fail
   rw [HR.out]
   go_ret
   exact ⟨_, rfl, by rw [List.append_nil]; exact HO2.out, HX.out⟩
 | some x =>
   obtain rfl : bb = true := hbb
   by_cases hk4 : rk = 4
   ·subst hk4
    have HR : Hid (R = [rS]) := by unfold Hid; rw [HTX.out, <- hkk, if_pos rfl, hss]
    have HR1 : Hid (Rd (W2.alloc (.cells #[.string rS] 9)) (W2.heap.size + 1) encS 1 (.slice (some ⟨W2.heap.size, 0, none⟩) 1 1) [rS]) := Rd.one codecS (heap_alloc_at rfl) rfl (by omega)
    have HO3 := Lib.hid (HO2.out.alloc (.cells #[.string rS] 9))
    clear hkk hss
    go_wp2_with (at_builtin; refine wpList_append_rd slS codecS (W2.alloc (.cells #[.string rS] 9)) rfl (.tmp 21) (.tmp 24) rfl (v := u) rfl rfl HO3.out HR1.out HLN.out.1 HLN.out.2 (by simp; omega) ?_; intro v8 w8 ho8 hg8 hat8)
    rw [HR.out]
    go_ret
    exact ⟨_, rfl, ho8, Below.appended (HX.out.alloc hz2 _) hg8 HO3.out (by simp; omega)⟩
   ·have q1 : (rk == 4) = false := by simpa using hk4
    have HR : Hid (R = []) := by unfold Hid; rw [HTX.out, <- hkk, if_neg hk4]
    clear hkk hss
    go_wp2_with fail
    rw [HR.out]
    go_ret
    exact ⟨_, rfl, by rw [List.append_nil]; exact HO2.out, HX.out⟩
theorem partOk_of (kind : ByteArray) (y : JV) : partOk kind y = (decide (kind.size = 0) || (decide (((y.get kindN).getD JV.zero).k = 4) && decide (((y.get kindN).getD JV.zero).s = kind))) := by
 unfold partOk
 rw [textM_of]
 congr 1
 split
 ·rename_i h
  rw [decide_eq_true h, Bool.true_and]
  simp
 ·rename_i h
  rw [decide_eq_false h]
  simp
theorem raddEach_any (t : JV) (r : RV) (kind : ByteArray) (w : World) (B : Nat) (hBw : B <= w.heap.size) (ht : TreeOf w B t r) (ot : t.Ok) :
 Calls Tryz.prog 62 #[.slice none 0 0, r.val, .string compN, .string valueN, .string kind] w (OwnRet w 9 encS 1 (partsJ t kind)) := by
 rw [partsJ_of]
 obtain ⟨W0, hW0⟩ : ∃ W0, w.alloc r.obj = W0 := ⟨_, rfl⟩
 have hA0 : VAt W0 w.heap.size r := by rw [<- hW0]; exact heap_alloc_at rfl
 have hB0 : Below w.heap.size w W0 := by rw [<- hW0]; exact (Below.refl _ _).alloc (Nat.le_refl _) _
 have HC : Hid (Calls Tryz.prog 61 #[r.val, .string compN] W0 (GetRetB W0 B (t.get compN))) := refGetB_any t r compN W0 B (Nat.le_trans hBw hB0.size) (ht.under (hB0.mono hBw) (Nat.le_refl _)) ot
 have HIN := Lib.hid (inJ_of t compN)
 have HIO := Lib.hid (inJ_ok (name := compN) ot)
 obtain ⟨cs, hcs⟩ : ∃ cs, inJ t compN = cs := ⟨_, rfl⟩
 rw [hcs] at HIN HIO
 rw [hcs]
 obtain ⟨k, n, s, pl, nl, cl, pm, nm, cm⟩ := r
 dsimp only [RV.val, RV.obj] at *
 have HW := Lib.hid hW0
 have HB0 := Lib.hid hB0
 have hw0 := hB0.size
 obtain ⟨X, hX⟩ : ∃ X, t.get compN = X := ⟨_, rfl⟩
 rw [hX] at HC HIN
 unfold compN at HC
 unfold compN valueN
 clear hW0 hB0 ht ot hcs hX
 go_enter Tryz.func62, Tryz.ntmps62
 go_upto_region 1 with fail
 rw [HW.out]
 clear HW
 obtain ⟨a0, a1, a2, a3, a4⟩ := hA0.cells5
 go_upto_region 3 with (go_at_call 61; refine HC.out.mono ?_; rintro e w1 ⟨rv, bb, rfl, hbb, ht1, hb1⟩; obtain ⟨rk, rn, rS, rpl, rnl, rcl, rpm, rnm, rcm⟩ := rv)
 obtain ⟨hkk, hss⟩ := ht1.kk
 dsimp only at hkk hss
 have hz1 := hb1.size
 have hb2 : Below W0.heap.size W0 (w1.alloc (.cells #[.int .i64 rk, .int .i64 rn, .string rS, .slice rpl rnl rcl, .slice rpm rnm rcm] 25)) := hb1.alloc hz1 _
 have hv2 : VAt (w1.alloc (.cells #[.int .i64 rk, .int .i64 rn, .string rS, .slice rpl rnl rcl, .slice rpm rnm rcm] 25)) w1.heap.size ⟨rk, rn, rS, rpl, rnl, rcl, rpm, rnm, rcm⟩ := heap_alloc_at rfl
 have ht2 := (ht1.tl).under ((Below.refl B w1).alloc (Nat.le_trans (Nat.le_trans hBw hw0) hz1) (.cells #[.int .i64 rk, .int .i64 rn, .string rS, .slice rpl rnl rcl, .slice rpm rnm rcm] 25)) (Nat.le_refl _)
 dsimp only at ht2
 obtain ⟨g, hg⟩ : ∃ g, w1.heap.size = g := ⟨_, rfl⟩
 obtain ⟨W2, hW2⟩ : ∃ W, w1.alloc (.cells #[.int .i64 rk, .int .i64 rn, .string rS, .slice rpl rnl rcl, .slice rpm rnm rcm] 25) = W := ⟨_, rfl⟩
 rw [hW2] at hb2 hv2 ht2
 rw [hg] at hv2
 try rw [hW2]
 try rw [hg]
 obtain ⟨v0, v1, v2, v3, v4⟩ := hv2.cells5
 dsimp only at v0 v1 v2 v3 v4
 have hbw2 := HB0.out.trans (hb2.mono hw0)
 have HX := Lib.hid hbw2
 have HV2 := Lib.hid hv2
 have hgl := hv2.lt
 have hz2 : w.heap.size <= W2.heap.size := hbw2.size
 have HTL := Lib.hid ht2
 clear hW2 hg hb1 ht1 hb2 hv2 hz1 hbw2 ht2
 by_cases hk5 : rk = 5
 ·subst hk5
  have HCS : Hid (cs = (X.getD JV.zero).l) := by unfold Hid; rw [HIN.out, <- hkk, if_pos rfl]
  obtain ⟨rs, hr, hlen, htl⟩ := HTL.out
  rw [<- HCS.out] at hlen htl
  have hrl : rs.length = rnl := (rd_nlen hr).symm
  have HN : Hid (cs.length = rnl) := by unfold Hid; omega
  have hno : rnl <= 1759218604390 := by have := HIO.out.1; omega
  have HTT := Lib.hid htl
  have HRD := Lib.hid hr
  have hBw2 : B <= W2.heap.size := Nat.le_trans hBw hz2
  clear hr hlen htl hkk hss HTL HCS v0 v1 v2 v3 v4
  go_loopw [0, 13] (fun u i wr => ∃ j : Nat, j <= rnl /\ i = .int .i64 (j : Int) /\ Hid (Own wr W2.heap.size 9 encS 1 u (partsL (cs.take j) kind) /\ Below W2.heap.size W2 wr)) (fun _ i _ => rnl - (intOf i).toNat)
  case atStart => exact ⟨0, by omega, rfl, by rw [List.take_zero]; exact Own.nil _ _ _, Below.refl _ _⟩
  case round =>
   obtain ⟨j, hj, rfl, hH⟩ := hrel
   obtain ⟨hO, hbr⟩ := hH.out
   clear hH
   have hvr := HV2.out.under hbr hgl
   obtain ⟨v0, v1, v2, v3, v4⟩ := hvr.cells5
   dsimp only at v0 v1 v2 v3 v4
   have hj0 : (0 : Int) <= (j : Int) := Int.natCast_nonneg _
   by_cases hlt : j < rnl
   ·obtain ⟨y, hy⟩ : ∃ y, cs[j]? = some y := ⟨_, List.getElem?_eq_getElem (by have := HN.out; omega)⟩
    obtain ⟨⟨xk, xn, xs, xpl, xnl, xcl, xpm, xnm, xcm⟩, hx⟩ : ∃ x, rs[j]? = some x := ⟨_, List.getElem?_eq_getElem (by omega)⟩
    have hyok := HIO.out.2 j y hy
    have hty := HTT.out j y _ hy hx
    have HPS := Lib.hid (partsL_succ (kind := kind) hy)
    have hpl : (partsL (cs.take j) kind).length <= j := Nat.le_trans (partsL_len _ _) (List.length_take_le _ _)
    have hBwr : B <= wr.heap.size := Nat.le_trans hBw2 hbr.size
    obtain ⟨b1, o1, rfl, hb1, hc1⟩ := rd_at' (HRD.out.below (hbr.mono hBw2) (Nat.le_refl _)) hx
    have f0 := hc1 0 _ rfl
    have f1 := hc1 1 _ rfl
    have f2 := hc1 2 _ rfl
    have f3 := hc1 3 _ rfl
    have f4 := hc1 4 _ rfl
    rw [Nat.add_zero] at f0
    dsimp only at f0 f1 f2 f3 f4
    have hj1 : (j : Int) < (rnl : Int) := by omega
    have HGK := Lib.hid (refGetB_any y ⟨xk, xn, xs, xpl, xnl, xcl, xpm, xnm, xcm⟩ kindN wr B hBwr (hty.under (hbr.mono hBw2) (Nat.le_refl _)) hyok)
    dsimp only [RV.val] at HGK
    have hpo := partOk_of kind y
    obtain ⟨Z, hZ⟩ : ∃ Z, y.get kindN = Z := ⟨_, rfl⟩
    rw [hZ] at HGK hpo
    unfold kindN at HGK
    have hq1 : (5 == 5) = true := rfl
    clear hx hy hZ
    go_upto_region 6 with (go_at_call 61; refine HGK.out.mono ?_; rintro e w3 ⟨rv2, bb2, rfl, hbb2, ht3, hb3⟩; obtain ⟨yk, yn, ys, ypl, ynl, ycl, ypm, ynm, ycm⟩ := rv2)
    obtain ⟨hkk2, hss2⟩ := ht3.kk
    dsimp only at hkk2 hss2
    have hb4 : Below wr.heap.size wr (w3.alloc (.cells #[.int .i64 yk, .int .i64 yn, .string ys, .slice ypl ynl ycl, .slice ypm ynm ycm] 25)) := hb3.alloc hb3.size _
    have hb5 : Below W2.heap.size W2 (w3.alloc (.cells #[.int .i64 yk, .int .i64 yn, .string ys, .slice ypl ynl ycl, .slice ypm ynm ycm] 25)) := hbr.trans (hb4.mono hbr.size)
    have hv4 : VAt (w3.alloc (.cells #[.int .i64 yk, .int .i64 yn, .string ys, .slice ypl ynl ycl, .slice ypm ynm ycm] 25)) w3.heap.size ⟨yk, yn, ys, ypl, ynl, ycl, ypm, ynm, ycm⟩ := heap_alloc_at rfl
    have hvw := HV2.out.under hb5 hgl
    have hO4 := hO.below hb4 (Nat.le_refl _)
    have h0 := bcs hb4 (by omega) f0
    have h1 := bcs hb4 (by omega) f1
    have h2 := bcs hb4 (by omega) f2
    have h3 := bcs hb4 (by omega) f3
    have h4 := bcs hb4 (by omega) f4
    have HAD := Lib.hid (radd_any y ⟨xk, xn, xs, xpl, xnl, xcl, xpm, xnm, xcm⟩ valueN _ _ (w3.alloc (.cells #[.int .i64 yk, .int .i64 yn, .string ys, .slice ypl ynl ycl, .slice ypm ynm ycm] 25)) B W2.heap.size hBw2 hb5.size (hty.under (hb5.mono hBw2) (Nat.le_refl _)) hyok hO4 (by omega))
    dsimp only [RV.val] at HAD
    obtain ⟨g4, hg4⟩ : ∃ g, w3.heap.size = g := ⟨_, rfl⟩
    obtain ⟨W4, hW4⟩ : ∃ W, w3.alloc (.cells #[.int .i64 yk, .int .i64 yn, .string ys, .slice ypl ynl ycl, .slice ypm ynm ycm] 25) = W := ⟨_, rfl⟩
    rw [hW4] at hb4 hb5 hv4 hvw hO4 h0 h1 h2 h3 h4 HAD
    rw [hg4] at hv4
    try rw [hW4]
    try rw [hg4]
    obtain ⟨e0, e1, e2, e3, e4⟩ := hv4.cells5
    obtain ⟨p0, p1, p2, p3, p4⟩ := hvw.cells5
    dsimp only at e0 e1 e2 e3 e4 p0 p1 p2 p3 p4
    obtain ⟨LV, hLV⟩ : ∃ L, textM y valueN = L := ⟨_, rfl⟩
    rw [hLV] at HAD HPS
    unfold valueN at HAD
    rw [<- hkk2, <- hss2] at hpo
    obtain ⟨d, hd⟩ : ∃ d, partOk kind y = d := ⟨_, rfl⟩
    rw [hd] at HPS hpo
    clear hd hLV hkk2 hss2 hg4 hW4 ht3 hb3 hv4 hvw f0 f1 f2 f3 f4 v0 v1 v2 v3 v4 hc1 hty hyok HGK
    have HO4 := Lib.hid hO4
    have HB5 := Lib.hid hb5
    have HPO := Lib.hid hpo
    have hz4 := hb5.size
    clear hpo hO4 hb5 hb4 hO hbr hq1
    go_cut [55] from 43 to 55 (fun v wq => v = .bool d /\ wq = W4)
    case first =>
     obtain ⟨kz, hkz⟩ : ∃ b, (kind.toList == []) = b := ⟨_, rfl⟩
     obtain ⟨zs, hzs⟩ : ∃ b, (ys.toList == kind.toList) = b := ⟨_, rfl⟩
     have HKZ : Hid (decide (kind.size = 0) = kz) := by
      unfold Hid
      rw [<- hkz, ByteArray.toList_eq, <- str_len]
      cases kind.data.toList with
      | nil => rfl
      | cons a r => rfl
     have HZS : Hid (decide (ys = kind) = zs) := by
      unfold Hid
      rw [<- hzs, ByteArray.toList_eq, ByteArray.toList_eq]
      by_cases h : ys = kind
      ·rw [decide_eq_true h, h]; simp
      ·rw [decide_eq_false h]
       have h2 : ys.data.toList ≠ kind.data.toList := fun e => h (ByteArray.ext (Array.toList_inj.1 e))
       simpa using h2
     have HD : Hid (d = (kz || (decide (yk = 4) && zs))) := by
      unfold Hid
      rw [HPO.out, HKZ.out, HZS.out]
     by_cases hk4 : yk = 4
     ·subst hk4
      cases kz <;> cases zs
      all_goals
       go_wp2_with fail
       go_meet
       exact ⟨by rw [HD.out]; rfl, rfl⟩
     ·have q1 : (yk == 4) = false := by simpa using hk4
      have HD2 : Hid (d = kz) := by unfold Hid; rw [HD.out, decide_eq_false hk4]; simp
      cases kz
      all_goals
       go_wp2_with fail
       go_meet
       exact ⟨by rw [HD2.out], rfl⟩
    case rest =>
    obtain ⟨rfl, hwc⟩ := hcut
    obtain rfl : W4 = wc := hwc.symm
    cases d with
    | true =>
      go_wp2_with (go_at_call 63; (with_reducible refine HAD.out.mono ?_); rintro e w8 ⟨u8, rfl, ho8, hb8⟩)
      go_roundw
      case rel =>
       refine ⟨j + 1, by omega, by go_num, ?_, HB5.out.trans hb8⟩
       rw [HPS.out]
       exact ho8
      case measure => simp [intOf]; omega
    | false =>
      go_wp2_with fail
      go_roundw
      case rel =>
       refine ⟨j + 1, by omega, by go_num, ?_, HB5.out⟩
       rw [HPS.out]
       exact (List.append_nil (partsL (cs.take j) kind)).symm ▸ HO4.out
      case measure => simp [intOf]; omega
   ·obtain rfl : j = rnl := by omega
    have hta : cs.take j = cs := List.take_of_length_le (by have := HN.out; omega)
    rw [hta] at hO
    have HY := Lib.hid (And.intro (hO.mono hz2) (HX.out.trans (hbr.mono hz2)))
    clear hO hbr hta
    go_wp2_with fail
    go_ret
    exact ⟨_, rfl, HY.out.1, HY.out.2⟩
 ·have q1 : (rk == 5) = false := by simpa using hk5
  have HR : Hid (cs = []) := by unfold Hid; rw [HIN.out, <- hkk, if_neg hk5]
  obtain ⟨z, hz⟩ : ∃ b, decide ((0 : Int) < (rnl : Int)) = b := ⟨_, rfl⟩
  clear hkk hss
  go_loopw [0, 13] (fun u i wr => u = .slice none 0 0 /\ i = .int .i64 0 /\ W2 = wr) (fun _ i _ => 0)
  case atStart => exact ⟨rfl, rfl, rfl⟩
  case round =>
   obtain ⟨rfl, rfl, rfl⟩ := hrel
   clear hz z
   go_wp2_with fail
   all_goals go_ret
   all_goals exact ⟨_, rfl, by rw [HR.out]; exact Own.nil _ _ _, HX.out⟩
theorem rntexts_any (t : JV) (r : RV) (p : ByteArray) (hp : p = givenN \/ p = surN \/ p = sur2N) (w : World) (B : Nat) (hBw : B <= w.heap.size) (ht : TreeOf w B t r) (ot : t.Ok) :
 Calls Tryz.prog 27 #[r.val, .string p] w (OwnRet w 9 encS 1 (partsJ (nameV t) (p.extract 5 p.size))) := by
 obtain ⟨W0, hW0⟩ : ∃ W0, w.alloc r.obj = W0 := ⟨_, rfl⟩
 have hA0 : VAt W0 w.heap.size r := by rw [<- hW0]; exact heap_alloc_at rfl
 have hB0 : Below w.heap.size w W0 := by rw [<- hW0]; exact (Below.refl _ _).alloc (Nat.le_refl _) _
 have HC : Hid (Calls Tryz.prog 61 #[r.val, .string nameN] W0 (GetRetB W0 B (t.get nameN))) := refGetB_any t r nameN W0 B (Nat.le_trans hBw hB0.size) (ht.under (hB0.mono hBw) (Nat.le_refl _)) ot
 have hno : (nameV t).Ok := nameV_ok ot
 obtain ⟨L, hL⟩ : ∃ L, partsJ (nameV t) (p.extract 5 p.size) = L := ⟨_, rfl⟩
 have HP : Hid (∀ (q : RV) (W : World), B <= W.heap.size -> TreeOf W B (nameV t) q -> Calls Tryz.prog 62 #[.slice none 0 0, q.val, .string compN, .string valueN, .string (p.extract 5 p.size)] W (OwnRet W 9 encS 1 L)) := fun q W hB hq => by
  rw [<- hL]
  exact raddEach_any (nameV t) q _ W B hB hq hno
 rw [hL]
 obtain ⟨k, n, s, pl, nl, cl, pm, nm, cm⟩ := r
 dsimp only [RV.val, RV.obj] at *
 have HW := Lib.hid hW0
 have HB0 := Lib.hid hB0
 have hw0 := hB0.size
 unfold nameN at HC
 unfold compN valueN at HP
 clear hW0 hB0 ht ot hL hno
 rcases hp with rfl | rfl | rfl
 all_goals
  try unfold givenN at *
  try unfold surN at *
  try unfold sur2N at *
  go_enter Tryz.func27, Tryz.ntmps27
  go_upto_region 1 with fail
  rw [HW.out]
  clear HW
  obtain ⟨a0, a1, a2, a3, a4⟩ := hA0.cells5
  go_upto_region 3 with (go_at_call 61; refine HC.out.mono ?_; rintro e w1 ⟨rv, bb, rfl, hbb, ht1, hb1⟩; obtain ⟨rk, rn, rS, rpl, rnl, rcl, rpm, rnm, rcm⟩ := rv)
  have hz1 := hb1.size
  have hb2 : Below W0.heap.size W0 (w1.alloc (.cells #[.int .i64 rk, .int .i64 rn, .string rS, .slice rpl rnl rcl, .slice rpm rnm rcm] 25)) := hb1.alloc hz1 _
  have hv2 : VAt (w1.alloc (.cells #[.int .i64 rk, .int .i64 rn, .string rS, .slice rpl rnl rcl, .slice rpm rnm rcm] 25)) w1.heap.size ⟨rk, rn, rS, rpl, rnl, rcl, rpm, rnm, rcm⟩ := heap_alloc_at rfl
  have ht2 := ht1.under ((Below.refl B w1).alloc (Nat.le_trans (Nat.le_trans hBw hw0) hz1) (.cells #[.int .i64 rk, .int .i64 rn, .string rS, .slice rpl rnl rcl, .slice rpm rnm rcm] 25)) (Nat.le_refl _)
  obtain ⟨g, hg⟩ : ∃ g, w1.heap.size = g := ⟨_, rfl⟩
  obtain ⟨W2, hW2⟩ : ∃ W, w1.alloc (.cells #[.int .i64 rk, .int .i64 rn, .string rS, .slice rpl rnl rcl, .slice rpm rnm rcm] 25) = W := ⟨_, rfl⟩
  rw [hW2] at hb2 hv2 ht2
  rw [hg] at hv2
  try rw [hW2]
  try rw [hg]
  obtain ⟨v0, v1, v2, v3, v4⟩ := hv2.cells5
  dsimp only at v0 v1 v2 v3 v4
  have hbw := HB0.out.trans (hb2.mono hw0)
  have HX := Lib.hid hbw
  have hw2 := hbw.size
  have HP1 : Hid (∀ W : World, Below W2.heap.size W2 W -> Calls Tryz.prog 62 _ W (OwnRet W 9 encS 1 L)) := fun W hW => HP.out ⟨rk, rn, rS, rpl, rnl, rcl, rpm, rnm, rcm⟩ W (Nat.le_trans (Nat.le_trans hBw hw2) hW.size) (ht2.under (hW.mono (Nat.le_trans hBw hw2)) (Nat.le_refl _))
  dsimp only [RV.val] at HP1
  clear hW2 hg hb1 ht1 hb2 hv2 hz1 hbw ht2 HP
  go_upto_region 6 with fail
  go_region_with (first
   | (go_at_call 62; refine (HP1.out _ (by first | exact Below.refl _ _ | exact (Below.refl _ _).drew | exact bdn (Below.refl _ _) _)).mono ?_; rintro e w3 ⟨u3, rfl, ho3, hb3⟩)
   | fail)
  all_goals
   first
    | go_ret
    | (go_wp2_with fail; go_ret)
   first
    | exact ⟨u3, rfl, ho3.mono hw2, HX.out.drew.trans (hb3.mono hw2)⟩
    | exact ⟨u3, rfl, ho3.mono hw2, HX.out.trans (hb3.mono hw2)⟩
    | exact ⟨u3, rfl, ho3.mono hw2, (bdn HX.out _).trans (hb3.mono hw2)⟩
theorem rlong_any (y m : Int) (w : World) (h0 : 0 <= y) (h1 : y <= 10000) (m0 : 1 <= m) (m1 : m <= 12) : Calls Tryz.prog 113 #[.int .i64 y, .int .i64 m] w fun e w' => e = .returned (.int .i64 (monthF y m)) /\ w = w' := by
 have HM : Hid (monthF y m = if m = 4 \/ m = 6 \/ m = 9 \/ m = 11 then 30 else if m = 2 then (if leapB y then 29 else 28) else 31) := rfl
 obtain ⟨a, ha⟩ : ∃ a, (y % 4 == 0) = a := ⟨_, rfl⟩
 obtain ⟨b, hb⟩ : ∃ a, (y % 100 == 0) = a := ⟨_, rfl⟩
 obtain ⟨c, hc⟩ : ∃ a, (y % 400 == 0) = a := ⟨_, rfl⟩
 have hb2 : (y % 100 != 0) = !b := by unfold bne; rw [hb]
 have HL : Hid (leapB y = ((a && !b) || c)) := by
  unfold Hid leapB
  rw [<- ha, <- hb, <- hc]
  have h : ∀ n : Int, (n == 0) = decide (n = 0) := fun n => by by_cases h : n = 0 <;> simp [h]
  rw [h, h, h]
  simp
 rw [HL.out] at HM
 clear HL
 obtain ⟨R, hR⟩ : ∃ R, monthF y m = R := ⟨_, rfl⟩
 rw [hR] at HM
 rw [hR]
 clear hR
 rcases (show m = 1 \/ m = 3 \/ m = 4 \/ m = 5 \/ m = 6 \/ m = 7 \/ m = 8 \/ m = 9 \/ m = 10 \/ m = 11 \/ m = 12 \/ m = 2 by omega) with rfl | rfl | rfl | rfl | rfl | rfl | rfl | rfl | rfl | rfl | rfl | rfl
 case inr.inr.inr.inr.inr.inr.inr.inr.inr.inr.inr =>
  cases a <;> cases b <;> cases c
  all_goals
   simp only [Bool.not_false, Bool.not_true] at hb2
   go_enter Tryz.func113, Tryz.ntmps113
   go_wp2_with fail
   go_ret
   exact ⟨ret_intS (by rw [HM.out]; decide), rfl⟩
 all_goals
  clear ha hb hc hb2
  go_enter Tryz.func113, Tryz.ntmps113
  go_wp2_with fail
  go_ret
  exact ⟨ret_intS (by rw [HM.out]; rfl), rfl⟩
theorem numAt_succ {l : List UInt8} {i k : Nat} {c : UInt8} (h : l[i + k]? = some c) : (l.drop i).take (k + 1) = (l.drop i).take k ++ [c] := by
 rw [List.take_add_one, List.getElem?_drop, h]
 rfl
theorem rnumber_any (s : ByteArray) (i n : Nat) (w : World) (hs : s.size <= maxLen) (hin : i + n <= s.size) (hn9 : n <= 9) : Calls Tryz.prog 84 #[.string s, .int .i64 (i : Int), .int .i64 (n : Int)] w fun e w' => e = .returned (.int .i64 (numR s.data.toList i n)) /\ w = w' := by
 have HGE : Hid (∀ k, (h : k < s.size) -> s.data.toList[k]? = some s[k]) := fun k h => get_optS h
 unfold maxLen at hs
 have i0 : (0 : Int) <= (i : Int) := Int.natCast_nonneg _
 have n0 : (0 : Int) <= (n : Int) := Int.natCast_nonneg _
 have hin' : (i : Int) + (n : Int) <= (s.size : Int) := by omega
 have hss : (s.size : Int) <= 9223372036854775807 := by omega
 obtain ⟨E, hE⟩ : ∃ E : Nat, i + n = E := ⟨_, rfl⟩
 have hE' : (i : Int) + (n : Int) = (E : Int) := by omega
 go_enter Tryz.func84, Tryz.ntmps84
 go_wp2_with fail
 go_loopw [7, 8] (fun v x wr => ∃ j : Nat, i <= j /\ j <= E /\ x = .int .i64 (j : Int) /\ v = .int .i64 (numAt s.data.toList i (j - i)) /\ w = wr /\ Hid (((s.data.toList.drop i).take (j - i)).all digU = true)) (fun _ x _ => E - (intOf x).toNat)
 case atStart => exact ⟨i, Nat.le_refl _, by omega, rfl, by rw [Nat.sub_self]; rfl, rfl, by rw [Nat.sub_self]; rfl⟩
 case round =>
  obtain ⟨j, hij, hjE, rfl, rfl, rfl, hD⟩ := hrel
  have j0 : (0 : Int) <= (j : Int) := Int.natCast_nonneg _
  obtain ⟨t0, t1⟩ := numAt_lt hD.out
  have t2 : (10 : Int) ^ (j - i) <= 10 ^ 9 := by
   have h3 : (10 : Nat) ^ (j - i) <= 10 ^ 9 := Nat.pow_le_pow_right (by decide) (by omega)
   have h4 : (((10 : Nat) ^ (j - i) : Nat) : Int) <= ((10 ^ 9 : Nat) : Int) := by omega
   simpa using h4
  have t3 : numAt s.data.toList i (j - i) < 1000000000 := Int.lt_of_lt_of_le t1 (Int.le_trans t2 (by decide))
  obtain ⟨T, hT⟩ : ∃ T, numAt s.data.toList i (j - i) = T := ⟨_, rfl⟩
  rw [hT] at t0 t3
  rw [hT]
  have HT := Lib.hid hT
  clear t1 t2 hT
  by_cases hlt : j < E
  ·have hjs : j < s.size := by omega
   have hjs' : (j : Int) < (s.size : Int) := by omega
   have hjE' : (j : Int) < (E : Int) := by omega
   have q1 : decide ((j : Int) < (E : Int)) = true := decide_eq_true hjE'
   have q1' : decide ((j : Int) < (i : Int) + (n : Int)) = true := decide_eq_true (by omega)
   have hg := HGE.out j hjs
   obtain ⟨c, hc⟩ : ∃ c, s[j] = c := ⟨_, rfl⟩
   rw [hc] at hg
   have hsu := numAt_succ (l := s.data.toList) (i := i) (k := j - i) (c := c) (by rw [show i + (j - i) = j by omega]; exact hg)
   have HSU := Lib.hid hsu
   have HG := Lib.hid hg
   have hcl := c.toNat_lt
   have c0 : (0 : Int) <= ((c.toNat : Nat) : Int) := Int.natCast_nonneg _
   have c256 : ((c.toNat : Nat) : Int) < 256 := by omega
   obtain ⟨x, hx⟩ : ∃ b, decide (((c.toNat : Nat) : Int) < 48) = b := ⟨_, rfl⟩
   obtain ⟨y, hy⟩ : ∃ b, decide ((57 : Int) < ((c.toNat : Nat) : Int)) = b := ⟨_, rfl⟩
   have HDG : Hid (digU c = !(x || y)) := by
    unfold Hid digU
    rw [<- hx, <- hy]
    by_cases h1 : c.toNat < 48
    ·rw [decide_eq_true (p := ((c.toNat : Nat) : Int) < 48) (by omega), decide_eq_false (p := 48 <= c.toNat) (by omega)]; rfl
    ·rw [decide_eq_false (p := ((c.toNat : Nat) : Int) < 48) (by omega), decide_eq_true (p := 48 <= c.toNat) (by omega)]
     by_cases h2 : 57 < c.toNat
     ·rw [decide_eq_true (p := (57 : Int) < ((c.toNat : Nat) : Int)) (by omega), decide_eq_false (p := c.toNat <= 57) (by omega)]; rfl
     ·rw [decide_eq_false (p := (57 : Int) < ((c.toNat : Nat) : Int)) (by omega), decide_eq_true (p := c.toNat <= 57) (by omega)]; rfl
   have HNO : Hid (digU c = false -> numR s.data.toList i n = -1) := fun hd => by
    refine numR_no ?_
    cases ha : ((s.data.toList.drop i).take n).all digU with
    | false => rfl
    | true =>
      have hm : ((s.data.toList.drop i).take n)[j - i]? = some c := by
       rw [List.getElem?_take, if_pos (by omega), List.getElem?_drop, show i + (j - i) = j by omega]
       exact HG.out
      have := List.all_eq_true.1 ha c (List.mem_of_getElem? hm)
      rw [hd] at this
      cases this
   clear hg hsu
   cases x <;> cases y
   case false.false =>
    have hx2 := of_decide_eq_false hx
    have hy2 := of_decide_eq_false hy
    go_wp2_with fail
    go_roundw
    case rel =>
     refine ⟨j + 1, by omega, by omega, by go_num, ?_, by trivial, ?_⟩
     ·unfold numAt
      rw [show j + 1 - i = (j - i) + 1 by omega, HSU.out, valD_snoc]
      have h2 := HT.out
      unfold numAt at h2
      rw [h2]
      unfold stepD
      congr 1
      omega
     ·unfold Hid
      rw [show j + 1 - i = (j - i) + 1 by omega, HSU.out, List.all_append, hD.out]
      simpa using HDG.out
    case measure => simp [intOf]; omega
   all_goals
    have HR := Lib.hid (HNO.out (by rw [HDG.out]; rfl))
    go_wp2_with fail
    rw [HR.out]
    go_ret
    exact ⟨rfl, rfl⟩
  ·obtain rfl : j = E := by omega
   have q1 : decide ((j : Int) < (j : Int)) = false := decide_eq_false (by omega)
   have q1' : decide ((j : Int) < (i : Int) + (n : Int)) = false := decide_eq_false (by omega)
   have HR : Hid (numR s.data.toList i n = T) := by
    unfold Hid
    have h1 := hD.out
    have h2 := HT.out
    rw [show j - i = n by omega] at h1 h2
    rw [numR_yes h1, h2]
   go_wp2_with fail
   rw [HR.out]
   go_ret
   exact ⟨rfl, rfl⟩
theorem rdays_any (y m d : Int) (w : World) (y0 : -1 <= y) (y1 : y <= 9999) (m0 : -1 <= m) (m1 : m <= 99) (d0 : -1 <= d) (d1 : d <= 99) : Calls Tryz.prog 85 #[.int .i64 y, .int .i64 m, .int .i64 d] w fun e w' => e = .returned (dayRet (daysF y m d)) /\ w = w' := by
 have HDF : Hid (daysF y m d = if 0 <= y /\ y <= 9999 /\ 1 <= m /\ m <= 12 /\ 1 <= d /\ d <= monthF y m then some (aheadF y - aheadF 1970 + monthsF y (m.toNat - 1) + d - 1) else none) := rfl
 obtain ⟨R, hR⟩ : ∃ R, daysF y m d = R := ⟨_, rfl⟩
 rw [hR] at HDF
 rw [hR]
 clear hR
 have q2 : decide ((9999 : Int) < y) = false := decide_eq_false (by omega)
 by_cases hg : 0 <= y /\ 1 <= m /\ m <= 12 /\ 1 <= d
 ·obtain ⟨g0, g1, g2, g3⟩ := hg
  have q1 : decide (y < 0) = false := decide_eq_false (by omega)
  have q3 : decide (m < 1) = false := decide_eq_false (by omega)
  have q4 : decide ((12 : Int) < m) = false := decide_eq_false (by omega)
  have q5 : decide (d < 1) = false := decide_eq_false (by omega)
  have HLG : Hid (∀ v k W, 0 <= v -> v <= 10000 -> 1 <= k -> k <= 12 -> Calls Tryz.prog 113 #[.int .i64 v, .int .i64 k] W fun e w' => e = .returned (.int .i64 (monthF v k)) /\ W = w') := fun v k W a b c e => rlong_any v k W a b c e
  have HL1 := Lib.hid (fun W => HLG.out y m W g0 (by omega) g1 g2)
  obtain ⟨M, hM⟩ : ∃ M, monthF y m = M := ⟨_, rfl⟩
  rw [hM] at HL1 HDF
  obtain ⟨p, hp⟩ : ∃ p, decide (M < d) = p := ⟨_, rfl⟩
  cases p with
  | true =>
    have hMd := of_decide_eq_true hp
    have HR : Hid (R = none) := by unfold Hid; rw [HDF.out, if_neg (by omega)]
    clear hM
    go_enter Tryz.func85, Tryz.ntmps85
    go_wp2_with (first | (go_at_call 113; (with_reducible refine (HL1.out _).mono ?_); rintro e w1 ⟨rfl, rfl⟩) | fail)
    rw [HR.out]
    refine bodyPost_ret (v := .tuple #[.int .i64 0, .bool false]) (by simp [results, Tryz.results85, go_sem]) rfl ⟨rfl, rfl⟩
  | false =>
    have hMd := of_decide_eq_false hp
    have HR : Hid (R = some (aheadF y - aheadF 1970 + monthsF y (m.toNat - 1) + d - 1)) := by unfold Hid; rw [HDF.out, if_pos (by omega)]
    clear hM HDF
    go_enter Tryz.func85, Tryz.ntmps85
    go_upto_region 5 with (first | (go_at_call 113; (with_reducible refine (HL1.out _).mono ?_); rintro e w1 ⟨rfl, rfl⟩) | fail)
    go_loopw [8, 9] (fun t v wr => ∃ u : Int, 1970 <= u /\ (u = 1970 \/ u <= y) /\ v = .int .i64 u /\ t = .int .i64 (aheadF u - aheadF 1970) /\ w = wr) (fun _ v _ => (y - intOf v).toNat)
    case atStart => exact ⟨1970, by omega, .inl rfl, rfl, by rw [Int.sub_self], rfl⟩
    case round =>
     obtain ⟨u, u0, u1, rfl, rfl, rfl⟩ := hrel
     have hub : u <= 10000 := by omega
     obtain ⟨b0, b1⟩ := aheadF_bound (y := u) (by omega) hub
     have e7 : aheadF 1970 = 719528 := by decide
     by_cases hlt : u < y
     ·have r1 : decide (u < y) = true := decide_eq_true hlt
      have HLU := Lib.hid (fun W => HLG.out u 2 W (by omega) hub (by decide) (by decide))
      have HST := Lib.hid (ahead_step (y := u) (by omega))
      have hmp := month_pos u 2
      obtain ⟨a, ha⟩ : ∃ a, aheadF u = a := ⟨_, rfl⟩
      obtain ⟨l, hl⟩ : ∃ l, monthF u 2 = l := ⟨_, rfl⟩
      rw [ha] at HST b0 b1
      rw [hl] at HST hmp HLU
      rw [e7, ha]
      have HE := Lib.hid e7
      clear ha hl e7
      go_wp2_with (first | (go_at_call 113; (with_reducible refine (HLU.out _).mono ?_); rintro e w1 ⟨rfl, rfl⟩) | fail)
      go_roundw
      case rel => exact ⟨u + 1, by omega, .inr (by omega), by go_num, by rw [HST.out]; (try rw [HE.out]); congr 1; omega, by trivial⟩
      case measure => simp [intOf]; omega
     ·have r1 : decide (u < y) = false := decide_eq_false hlt
      obtain ⟨V, hV⟩ : ∃ V, aheadF u - aheadF 1970 = V := ⟨_, rfl⟩
      rw [hV]
      have HV := Lib.hid hV
      have HE := Lib.hid e7
      clear hV e7
      go_upto_region 9 with fail
      go_loopw [8, 10] (fun t v wr => ∃ u2 : Int, y <= u2 /\ u2 <= u /\ v = .int .i64 u2 /\ t = .int .i64 (V - (aheadF u2 - aheadF y)) /\ w = wr) (fun _ v _ => (1970 - intOf v).toNat)
      case atStart => exact ⟨y, by omega, by omega, rfl, by rw [Int.sub_self, Int.sub_zero], rfl⟩
      case round =>
       obtain ⟨u2, v0, v1, rfl, rfl, rfl⟩ := hrel
       obtain ⟨c0, c1⟩ := aheadF_bound (y := u2) (by omega) (by omega)
       obtain ⟨d3, d4⟩ := aheadF_bound (y := y) g0 (by omega)
       have hVV := HV.out
       rw [HE.out] at hVV
       by_cases hlt2 : u2 < 1970
       ·have r2 : decide (u2 < 1970) = true := decide_eq_true hlt2
        have HLU := Lib.hid (fun W => HLG.out u2 2 W (by omega) (by omega) (by decide) (by decide))
        have HST := Lib.hid (ahead_step (y := u2) (by omega))
        have hmp := month_pos u2 2
        obtain ⟨a, ha⟩ : ∃ a, aheadF u2 = a := ⟨_, rfl⟩
        obtain ⟨z, hz⟩ : ∃ a, aheadF y = a := ⟨_, rfl⟩
        obtain ⟨l, hl⟩ : ∃ l, monthF u2 2 = l := ⟨_, rfl⟩
        rw [ha] at HST c0 c1
        rw [hl] at HST hmp HLU
        rw [hz] at d3 d4
        rw [ha, hz]
        have HZ := Lib.hid hz
        have bV : -800000 <= V /\ V <= 4000000 := by omega
        obtain ⟨bV0, bV1⟩ := bV
        clear ha hl hz hVV
        go_wp2_with (first | (go_at_call 113; (with_reducible refine (HLU.out _).mono ?_); rintro e w1 ⟨rfl, rfl⟩) | fail)
        go_roundw
        case rel => exact ⟨u2 + 1, by omega, by omega, by go_num, by rw [HST.out]; (try rw [HZ.out]); congr 1; omega, by trivial⟩
        case measure => simp [intOf]; omega
       ·have r2 : decide (u2 < 1970) = false := decide_eq_false hlt2
        have hS : V - (aheadF u2 - aheadF y) = aheadF y - aheadF 1970 := by
         rcases u1 with h | h
         ·have : u2 = 1970 := by omega
          subst this
          rw [<- HV.out, h]
          omega
         ·have h5 : u2 = y := by omega
          have h6 : u = y := by omega
          rw [<- HV.out, h5, h6]
          omega
        rw [hS, HE.out]
        obtain ⟨z, hz⟩ : ∃ a, aheadF y = a := ⟨_, rfl⟩
        rw [hz] at d3 d4 HR
        rw [hz]
        clear hz hS hVV
        go_upto_region 13 with fail
        go_loopw [8, 11] (fun t v wr => ∃ j : Int, 1 <= j /\ j <= m /\ v = .int .i64 j /\ t = .int .i64 (z - 719528 + monthsF y (j.toNat - 1)) /\ w = wr) (fun _ v _ => (m - intOf v).toNat)
        case atStart => exact ⟨1, by omega, by omega, rfl, by show _ = Value.int .i64 (z - 719528 + 0); rw [Int.add_zero], rfl⟩
        case round =>
         obtain ⟨j, j0, j1, rfl, rfl, rfl⟩ := hrel
         obtain ⟨k, hk⟩ : ∃ k : Nat, j.toNat - 1 = k := ⟨_, rfl⟩
         have hjk : ((k + 1 : Nat) : Int) = j := by omega
         have hkb : k <= 12 := by omega
         obtain ⟨s0, s1⟩ := monthsF_bound y k
         have hsb : monthsF y k <= 400 := by omega
         rw [hk]
         by_cases hlt3 : j < m
         ·have r3 : decide (j < m) = true := decide_eq_true hlt3
          have HLU := Lib.hid (fun W => HLG.out y j W g0 (by omega) j0 (by omega))
          have hmp := month_pos y j
          have HST : Hid (monthsF y ((j + 1).toNat - 1) = monthsF y k + monthF y j) := by
           unfold Hid
           rw [show (j + 1).toNat - 1 = k + 1 by omega, <- hjk]
           rfl
          obtain ⟨a, ha⟩ : ∃ a, monthsF y k = a := ⟨_, rfl⟩
          obtain ⟨l, hl⟩ : ∃ l, monthF y j = l := ⟨_, rfl⟩
          rw [ha] at HST s0 hsb
          rw [hl] at HST hmp HLU
          rw [ha]
          clear ha hl s1 hjk hk
          go_wp2_with (first | (go_at_call 113; (with_reducible refine (HLU.out _).mono ?_); rintro e w1 ⟨rfl, rfl⟩) | fail)
          go_roundw
          case rel => exact ⟨j + 1, by omega, by omega, by go_num, by rw [HST.out]; congr 1; omega, by trivial⟩
          case measure => simp [intOf]; omega
         ·obtain rfl : j = m := by omega
          have r3 : decide (j < j) = false := decide_eq_false (by omega)
          rw [hk] at HR
          obtain ⟨a, ha⟩ : ∃ a, monthsF y k = a := ⟨_, rfl⟩
          rw [ha] at s0 hsb HR
          rw [ha]
          have HR2 : Hid (R = some (z - 719528 + a + d - 1)) := by unfold Hid; rw [HR.out, HE.out]
          clear ha s1 hjk hk
          go_wp2_with fail
          rw [HR2.out]
          refine bodyPost_ret (v := .tuple #[.int .i64 (z - 719528 + a + d - 1), .bool true]) (by simp [results, Tryz.results85, go_sem]) rfl ⟨rfl, rfl⟩
 ·have HR : Hid (R = none) := by unfold Hid; rw [HDF.out, if_neg (fun e => hg ⟨e.1, e.2.2.1, e.2.2.2.1, e.2.2.2.2.1⟩)]
  obtain ⟨p1, hp1⟩ : ∃ p, decide (y < 0) = p := ⟨_, rfl⟩
  obtain ⟨p3, hp3⟩ : ∃ p, decide (m < 1) = p := ⟨_, rfl⟩
  obtain ⟨p4, hp4⟩ : ∃ p, decide ((12 : Int) < m) = p := ⟨_, rfl⟩
  obtain ⟨p5, hp5⟩ : ∃ p, decide (d < 1) = p := ⟨_, rfl⟩
  cases p1 <;> cases p3 <;> cases p4 <;> cases p5
  case false.false.false.false =>
   have := of_decide_eq_false hp1
   have := of_decide_eq_false hp3
   have := of_decide_eq_false hp4
   have := of_decide_eq_false hp5
   exact absurd ⟨by omega, by omega, by omega, by omega⟩ hg
  all_goals
   clear hg HDF
   go_enter Tryz.func85, Tryz.ntmps85
   go_wp2_with fail
   rw [HR.out]
   refine bodyPost_ret (v := .tuple #[.int .i64 0, .bool false]) (by simp [results, Tryz.results85, go_sem]) rfl ⟨rfl, rfl⟩
end
end Go.Proofs.YtffhccmppdgmfaaGreatDoor
