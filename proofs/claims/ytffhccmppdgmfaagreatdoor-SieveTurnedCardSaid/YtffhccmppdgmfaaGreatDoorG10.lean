import Derived.Test.YtffhccmppdgmfaaGreatDoorG09
import Derived.Test.YtffhccmppdgmfaaGreatDoorG02
import Derived.Test.YtffhccmppdgmfaaGreatDoorG06
import Derived.Test.YtffhccmppdgmfaaGreatDoorG03
import Derived.Test.YtffhccmppdgmfaaGreatDoorG08
set_option linter.unusedSimpArgs false
set_option linter.unusedVariables false
set_option maxRecDepth 200000
set_option maxHeartbeats 8000000
namespace Go.Proofs.YtffhccmppdgmfaaGreatDoor
section
open Go Go.RowKit Go.OpenShut
def MaxAt (w : World) : Prop := ∃ m : Int, w.cell? ⟨1, 0, none⟩ = some (.int .i64 m)
theorem MaxAt.below {w w' : World} (h : MaxAt w) (hb : Below w.heap.size w w') : MaxAt w' := by
 obtain ⟨m, h⟩ := h
 exact ⟨m, bcs hb (cell_some h).2 h⟩
theorem foldHas_any (s t : ByteArray) (w : World) (hs : s.size <= 4000000000) (ht : t.size <= maxLen) (hm : MaxAt w) :
 Calls Tryz.prog 67 #[.string s, .string t] w fun e w' => e = .returned (.bool (hasF s.data.toList t.data.toList)) /\ Below w.heap.size w w' := by
 have HS : Hid (∀ W, Calls Tryz.prog 100 #[.string s] W fun e w' => e = .returned (.string (toB (foldL s.data.toList))) /\ Below W.heap.size W w') := fun W => fold_any s W (by unfold maxLen; omega)
 have HT : Hid (∀ W, Calls Tryz.prog 100 #[.string t] W fun e w' => e = .returned (.string (toB (foldL t.data.toList))) /\ Below W.heap.size W w') := fun W => fold_any t W ht
 have hl : (foldL s.data.toList).length = s.size := by
  unfold foldL
  rw [List.length_map, Array.length_toList]
  rfl
 have HC : Hid (∀ W, MaxAt W -> Calls Tryz.prog 99 #[.string (toB (foldL s.data.toList)), .string (toB (foldL t.data.toList))] W fun e w' => e = .returned (.bool (hasF s.data.toList t.data.toList)) /\ w' = W) := by
  rintro W ⟨m, hW⟩
  have := strings_Contains (toB (foldL s.data.toList)) (toB (foldL t.data.toList)) m W (by rw [toB_size, hl]; omega) hW
  rw [toB_list, toB_list] at this
  exact this
 have HM := Lib.hid hm
 clear hm hl
 obtain ⟨R, hR⟩ : ∃ R, hasF s.data.toList t.data.toList = R := ⟨_, rfl⟩
 rw [hR] at HC ⊢
 clear hR
 go_enter Tryz.func67, Tryz.ntmps67
 go_wp2_with (first
  | (go_at_call 100; (with_reducible refine (HS.out _).mono ?_); rintro e w1 ⟨rfl, hb1⟩)
  | (go_at_call 100; (with_reducible refine (HT.out _).mono ?_); rintro e w2 ⟨rfl, hb2⟩)
  | (go_at_call 99; (with_reducible refine (HC.out _ ((HM.out.below hb1).below hb2)).mono ?_); rintro e w3 ⟨rfl, rfl⟩))
 go_ret
 exact ⟨rfl, hb1.trans (hb2.mono hb1.size)⟩
theorem match1_any (x t : ByteArray) (g : Nat) (w : World) (hg : w.cell? ⟨g, 0, none⟩ = some (.string t)) (hs : x.size <= 4000000000) (ht : t.size <= maxLen) (hm : MaxAt w) :
 Calls Tryz.prog 66 #[.string x, .pointer (some ⟨g, 0, none⟩)] w fun e w' => e = .returned (.bool (hasF x.data.toList t.data.toList)) /\ Below w.heap.size w w' := by
 have HC := Lib.hid (foldHas_any x t w hs ht hm)
 clear hm
 go_enter Tryz.func66, Tryz.ntmps66
 go_wp2_with (go_at_call 67; (with_reducible refine HC.out.mono ?_); rintro e w1 ⟨rfl, hb1⟩)
 go_ret
 exact ⟨rfl, hb1⟩
def anyS (pb : ByteArray -> Bool) (rs : List ByteArray) : Bool := rs.any pb
theorem anyS_idx (pb : ByteArray -> Bool) (rs : List ByteArray) : anyS pb rs = (rs.findIdx? pb).isSome := by
 unfold anyS
 rw [List.findIdx?_isSome]
theorem indexS_any (w : World) (p : Option Addr) (n c g : Nat) (rs : List ByteArray) (pb : ByteArray -> Bool) (hv : Rd w w.heap.size encS 1 (.slice p n c) rs) (hlen : rs.length <= 1759218604390)
 (HP : ∀ (i : Nat) x, rs[i]? = some x -> ∀ W, Below w.heap.size w W -> Calls Tryz.prog 66 #[.string x, .pointer (some ⟨g, 0, none⟩)] W fun e w' => e = .returned (.bool (pb x)) /\ Below W.heap.size W w') :
 Calls Tryz.prog 98 #[.slice p n c, .func (.func 66) #[] #[.pointer (some ⟨g, 0, none⟩)]] w fun e w' => e = .returned (.int .i64 (placeI (rs.findIdx? pb))) /\ Below w.heap.size w w' := by
 have hn := rd_nlen hv
 subst hn
 have HV := Lib.hid hv
 have HPB := Lib.hid HP
 clear hv HP
 go_enter Tryz.func98, Tryz.ntmps98
 go_wp2_with fail
 go_loopw [8] (fun i wr => ∃ k : Nat, k <= rs.length /\ i = .int .i64 k /\ Hid (∀ (j : Nat) y, j < k -> rs[j]? = some y -> pb y = false) /\ Below w.heap.size w wr) (fun i _ => rs.length - (intOf i).toNat)
 case atStart => exact ⟨0, Nat.zero_le _, rfl, fun j y h => by omega, Below.refl _ _⟩
 case round =>
  obtain ⟨k, hk, rfl, hno, hbr⟩ := hrel
  by_cases hlt : k < rs.length
  ·obtain ⟨x, hx⟩ : ∃ x, rs[k]? = some x := ⟨_, List.getElem?_eq_getElem hlt⟩
   obtain ⟨b1, o1, rfl, hb1, hc1⟩ := rd_at' (HV.out.below hbr (Nat.le_refl _)) hx
   have f0 := hc1 0 _ rfl
   rw [Nat.add_zero] at f0
   try rw [Nat.mul_one] at f0
   have HX := Lib.hid hx
   have HBR := Lib.hid hbr
   have HQ : Hid (∀ W, Below w.heap.size w W -> Calls Tryz.prog 66 #[.string x, .pointer (some ⟨g, 0, none⟩)] W fun e w' => e = .returned (.bool (pb x)) /\ Below W.heap.size W w') := HPB.out k x hx
   cases hnb : pb x
   all_goals
    rw [hnb] at HQ
    have HNB := Lib.hid hnb
    have HNO := Lib.hid hno.out
    clear hx hc1 hbr hnb hno
    go_wp2_with (go_at_call 66; refine (HQ.out _ HBR.out).mono ?_; rintro e w1 ⟨rfl, hb1'⟩)
    first
     | (go_roundw
        case rel =>
         refine ⟨k + 1, by omega, by go_num, ?_, HBR.out.trans (hb1'.mono HBR.out.size)⟩
         intro j y hj hy
         by_cases e : j = k
         ·subst e
          have h2 := HX.out
          rw [hy] at h2
          cases h2
          exact HNB.out
         ·exact HNO.out j y (by omega) hy
        case measure => simp [intOf]; omega)
     | (go_ret
        have HF := find_at HX.out HNB.out HNO.out
        exact ⟨ret_int (by rw [HF]; rfl), HBR.out.trans (hb1'.mono HBR.out.size)⟩)
  ·obtain rfl : k = rs.length := by omega
   have HF := Lib.hid (find_not (p := pb) (l := rs) (fun j y hy => hno.out j y (List.getElem?_eq_some_iff.1 hy).1 hy))
   go_wp2_with fail
   go_ret
   exact ⟨ret_int (by rw [HF.out]; rfl), hbr⟩
theorem containsS_any (w : World) (p : Option Addr) (n c g : Nat) (rs : List ByteArray) (pb : ByteArray -> Bool) (hv : Rd w w.heap.size encS 1 (.slice p n c) rs) (hlen : rs.length <= 1759218604390)
 (HP : ∀ (i : Nat) x, rs[i]? = some x -> ∀ W, Below w.heap.size w W -> Calls Tryz.prog 66 #[.string x, .pointer (some ⟨g, 0, none⟩)] W fun e w' => e = .returned (.bool (pb x)) /\ Below W.heap.size W w') :
 Calls Tryz.prog 65 #[.slice p n c, .func (.func 66) #[] #[.pointer (some ⟨g, 0, none⟩)]] w fun e w' => e = .returned (.bool (anyS pb rs)) /\ Below w.heap.size w w' := by
 have HC := Lib.hid (indexS_any w p n c g rs pb hv hlen HP)
 have HT := Lib.hid (anyS_idx pb rs)
 clear hv HP hlen
 generalize rs.findIdx? pb = o at HC HT
 cases o with
 | none =>
   have hd : decide ((0 : Int) <= placeI none) = false := by decide
   go_enter Tryz.func65, Tryz.ntmps65
   go_wp2_with (go_at_call 98; refine HC.out.mono ?_; rintro e w1 ⟨rfl, hb1⟩)
   go_ret
   exact ⟨ret_boolI (by rw [HT.out]; rfl), hb1⟩
 | some i =>
   have hd : decide ((0 : Int) <= placeI (some i)) = true := by simp [placeI]
   go_enter Tryz.func65, Tryz.ntmps65
   go_wp2_with (go_at_call 98; refine HC.out.mono ?_; rintro e w1 ⟨rfl, hb1⟩)
   go_ret
   exact ⟨ret_boolI (by rw [HT.out]; simp), hb1⟩
theorem matchF_all (q : List UInt8) (ts : List ByteArray) : matchF q ts = ((termsF q).map toB).all (fun t => anyS (fun s => hasF s.data.toList t.data.toList) ts) := by
 unfold matchF anyS
 rw [List.all_map]
 congr 1
 try (funext t; simp only [Function.comp_apply, toB_list])
theorem all_yes {α : Type} {p : α -> Bool} {l : List α} (h : ∀ (j : Nat) y, l[j]? = some y -> p y = true) : l.all p = true := by
 rw [List.all_eq_true]
 intro x hx
 obtain ⟨j, hj, rfl⟩ := List.mem_iff_getElem.1 hx
 exact h j _ (List.getElem?_eq_getElem hj)
theorem all_no {α : Type} {p : α -> Bool} {l : List α} {k : Nat} {x : α} (hx : l[k]? = some x) (hp : p x = false) : l.all p = false := by
 cases h : l.all p with
 | false => rfl
 | true =>
   rw [List.all_eq_true] at h
   have := h x (List.mem_of_getElem? hx)
   rw [hp] at this
   cases this
theorem match_any (w : World) (q : ByteArray) (p : Option Addr) (n c : Nat) (ts : List ByteArray) (hq : q.size <= 1000000) (hv : Rd w w.heap.size encS 1 (.slice p n c) ts) (hlen : ts.length <= 1759218604390)
 (hts : ∀ t ∈ ts, t.size <= 4000000000) (hm : MaxAt w) :
 Calls Tryz.prog 32 #[.string q, .slice p n c] w fun e w' => e = .returned (.bool (matchF q.data.toList ts)) /\ Below w.heap.size w w' := by
 have HT : Hid (Calls Tryz.prog 64 #[.string q] w fun e w' => ∃ p1 c1, e = .returned (.slice p1 ((termsF q.data.toList).map toB).length c1) /\ Rd w' w'.heap.size encS 1 (.slice p1 ((termsF q.data.toList).map toB).length c1) ((termsF q.data.toList).map toB) /\ Below w.heap.size w w') := by
  refine (terms_any w q hq).mono ?_
  rintro e w1 ⟨v, rfl, ho, hb⟩
  obtain ⟨a, cap, rfl, _⟩ := ho.len
  exact ⟨_, _, rfl, (ho.rd codecS), hb⟩
 have hT1 : ((termsF q.data.toList).map toB).length <= 1000000 := by
  rw [List.length_map]
  have h1 := termsF_len q.data.toList
  have h2 : q.data.toList.length = q.size := by rw [Array.length_toList]; rfl
  omega
 have hT2 : Hid (∀ t ∈ (termsF q.data.toList).map toB, t.size <= maxLen) := by
  intro t ht
  obtain ⟨u, hu, rfl⟩ := List.mem_map.1 ht
  have h1 := termsF_each hu
  have h2 : q.data.toList.length = q.size := by rw [Array.length_toList]; rfl
  rw [toB_size]
  unfold maxLen
  omega
 rw [matchF_all]
 obtain ⟨T, hTT⟩ : ∃ T, (termsF q.data.toList).map toB = T := ⟨_, rfl⟩
 rw [hTT] at HT hT1 hT2 ⊢
 clear hTT
 have HV := Lib.hid hv
 have HM := Lib.hid hm
 have HTS := Lib.hid hts
 clear hv hm hts
 go_enter Tryz.func32, Tryz.ntmps32
 go_wp2_with (go_at_call 64; (with_reducible refine HT.out.mono ?_); rintro e w1 ⟨p1, c1, rfl, hr1, hb1⟩)
 have HR := Lib.hid hr1
 clear hr1
 go_loopw [10] (fun i wr => ∃ k : Nat, k <= T.length /\ i = .int .i64 k /\ Hid (∀ (j : Nat) y, j < k -> T[j]? = some y -> anyS (fun s => hasF s.data.toList y.data.toList) ts = true) /\ Below w1.heap.size w1 wr) (fun i _ => T.length - (intOf i).toNat)
 case atStart => exact ⟨0, Nat.zero_le _, rfl, fun j y h => by omega, Below.refl _ _⟩
 case round =>
  obtain ⟨k, hk, rfl, hyes, hbr⟩ := hrel
  by_cases hlt : k < T.length
  ·obtain ⟨x, hx⟩ : ∃ x, T[k]? = some x := ⟨_, List.getElem?_eq_getElem hlt⟩
   obtain ⟨b1, o1, rfl, hb1', hc1⟩ := rd_at' (HR.out.below hbr (Nat.le_refl _)) hx
   have f0 := hc1 0 _ rfl
   rw [Nat.add_zero] at f0
   try rw [Nat.mul_one] at f0
   have HX := Lib.hid hx
   have hbw : Below w.heap.size w wr := hb1.trans (hbr.mono hb1.size)
   have hbn : Below w.heap.size w (wr.alloc (.cells #[.string x] 9)) := hbw.alloc hbw.size _
   have HBN := Lib.hid hbn
   have HBR := Lib.hid hbr
   have HC : Hid (Calls Tryz.prog 65 #[.slice p n c, .func (.func 66) #[] #[.pointer (some ⟨wr.heap.size, 0, none⟩)]] (wr.alloc (.cells #[.string x] 9)) fun e w' => e = .returned (.bool (anyS (fun s => hasF s.data.toList x.data.toList) ts)) /\ Below (wr.alloc (.cells #[.string x] 9)).heap.size (wr.alloc (.cells #[.string x] 9)) w') := by
    refine containsS_any _ p n c wr.heap.size ts _ ((HV.out.below hbn (Nat.le_refl _)).mono hbn.size) hlen ?_
    intro i s hs W hW
    refine match1_any s x wr.heap.size W (bcs hW (by simp) (Boxed.new wr 9 (.string x)).cell) (HTS.out s (List.mem_of_getElem? hs)) (hT2.out x (List.mem_of_getElem? hx)) ((HM.out.below hbn).below hW)
   cases hnb : anyS (fun s => hasF s.data.toList x.data.toList) ts
   all_goals
    rw [hnb] at HC
    have HNB := Lib.hid hnb
    have HYES := Lib.hid hyes.out
    clear hx hc1 hbr hnb hyes hbn hbw
    go_wp2_with (go_at_call 65; (with_reducible refine HC.out.mono ?_); rintro e w2 ⟨rfl, hb2⟩)
    first
     | (go_roundw
        case rel =>
         refine ⟨k + 1, by omega, by go_num, ?_, (HBR.out.alloc HBR.out.size _).trans (hb2.mono (by have := HBR.out.size; simp; omega))⟩
         intro j y hj hy
         by_cases e : j = k
         ·subst e
          have h2 := HX.out
          rw [hy] at h2
          cases h2
          exact HNB.out
         ·exact HYES.out j y (by omega) hy
        case measure => simp [intOf]; omega)
     | (go_ret
        exact ⟨ret_boolI (all_no HX.out HNB.out).symm, HBN.out.trans (hb2.mono HBN.out.size)⟩)
  ·obtain rfl : k = T.length := by omega
   have HF := Lib.hid (all_yes (p := fun t => anyS (fun s => hasF s.data.toList t.data.toList) ts) (l := T) (fun j y hy => hyes.out j y (List.getElem?_eq_some_iff.1 hy).1 hy))
   go_wp2_with fail
   go_ret
   exact ⟨ret_boolI HF.out.symm, hb1.trans (hbr.mono hb1.size)⟩
theorem named_any (t : JV) (r : RV) (nm : ByteArray) (fs : List ByteArray) (pf : Option Addr) (nf cf : Nat) (w : World) (B : Nat) (hBw : B <= w.heap.size) (ht : TreeOf w B t r) (ot : t.Ok) (hct : countT t <= 100000) (hf : Rd w w.heap.size encS 1 (.slice pf nf cf) fs) (hfn : fs.length <= 3) :
 Calls Tryz.prog 57 #[r.val, .string nm, .slice pf nf cf] w (OwnRet w 9 encS 1 (namedJ t nm fs)) := by
 obtain ⟨W0, hW0⟩ : ∃ W0, w.alloc r.obj = W0 := ⟨_, rfl⟩
 have hA0 : VAt W0 w.heap.size r := by rw [<- hW0]; exact heap_alloc_at rfl
 have hB0 : Below w.heap.size w W0 := by rw [<- hW0]; exact (Below.refl _ _).alloc (Nat.le_refl _) _
 have HC : Hid (Calls Tryz.prog 58 #[r.val, .string nm] W0 (VlRet W0 B (eachJ t nm))) := each_any t r nm W0 B (Nat.le_trans hBw hB0.size) (ht.under (hB0.mono hBw) (Nat.le_refl _)) ot
 have hnj := namedJ_len t nm fs
 have HEK := Lib.hid (eachJ_ok (name := nm) ot)
 have hfl : fs.length = nf := (rd_nlen hf).symm
 unfold namedJ at hnj ⊢
 obtain ⟨es, hes⟩ : ∃ es, eachJ t nm = es := ⟨_, rfl⟩
 rw [hes] at HC HEK hnj
 rw [hes]
 have hnb : (es.flatMap (fun x => fs.flatMap (textM x))).length <= 300000 := Nat.le_trans hnj (Nat.mul_le_mul hfn hct)
 have HNB := Lib.hid hnb
 obtain ⟨k, n, s, pl, nl, cl, pm, nm', cm⟩ := r
 dsimp only [RV.val, RV.obj] at *
 have HW := Lib.hid hW0
 have HB0 := Lib.hid hB0
 have HF := Lib.hid hf
 have hw0 := hB0.size
 have HFL := Lib.hid hfl
 have hnf : nf <= 3 := by omega
 clear hW0 hB0 ht ot hes hnj hnb hf hfn hfl hct
 go_enter Tryz.func57, Tryz.ntmps57
 go_upto_region 1 with fail
 rw [HW.out]
 clear HW
 obtain ⟨a0, a1, a2, a3, a4⟩ := hA0.cells5
 go_wp2_with (go_at_call 58; refine HC.out.mono ?_; rintro e w1 ⟨v9, rs, rfl, ho, hlen, htl, hb1⟩; obtain ⟨p9, n9, c9, rfl⟩ : ∃ p n c, v9 = Value.slice p n c := by (obtain ⟨p, c, h, _, _⟩ := ho.len; exact ⟨p, _, c, h⟩))
 have hr : Rd w1 w1.heap.size encV 5 (.slice p9 n9 c9) rs := ho.rd codecV
 have hrl : rs.length = n9 := (rd_nlen hr).symm
 have HN : Hid (es.length = n9) := by unfold Hid; omega
 have hno : n9 <= 1466015503658 := by have := HEK.out.1; have := HN.out; omega
 have HTL := Lib.hid htl
 have HRD := Lib.hid hr
 have hbw1 := HB0.out.trans (hb1.mono hw0)
 have HBW := Lib.hid hbw1
 have hw1 := hbw1.size
 have hBw1 : B <= w1.heap.size := Nat.le_trans hBw hw1
 have HF1 : Hid (Rd w1 w1.heap.size encS 1 (.slice pf nf cf) fs) := HF.out.below hbw1 hw1
 clear hr htl hb1 hbw1 hlen ho a0 a1 a2 a3 a4 hA0 HC HB0 HF
 go_loopw [7, 16] (fun u i wr => ∃ j : Nat, j <= n9 /\ i = .int .i64 (j : Int) /\ Hid (Own wr w1.heap.size 9 encS 1 u ((es.take j).flatMap (fun x => fs.flatMap (textM x))) /\ Below w1.heap.size w1 wr)) (fun _ i _ => n9 - (intOf i).toNat)
 case atStart => exact ⟨0, by omega, rfl, by rw [List.take_zero]; exact Own.nil _ _ _, Below.refl _ _⟩
 case round =>
  obtain ⟨j, hj, rfl, hH⟩ := hrel
  have HO := Lib.hid hH.out.1
  have HBR := Lib.hid hH.out.2
  clear hH
  have hj0 : (0 : Int) <= (j : Int) := Int.natCast_nonneg _
  by_cases hlt : j < n9
  ·obtain ⟨y, hy⟩ : ∃ y, es[j]? = some y := ⟨_, List.getElem?_eq_getElem (by have := HN.out; omega)⟩
   obtain ⟨⟨xk, xn, xs, xpl, xnl, xcl, xpm, xnm, xcm⟩, hx⟩ : ∃ x, rs[j]? = some x := ⟨_, List.getElem?_eq_getElem (by omega)⟩
   have HYO := Lib.hid (HEK.out.2 j y hy)
   have HPS := Lib.hid (flat_succ (f := fun x => fs.flatMap (textM x)) hy)
   have HPM := Lib.hid (flat_mid (f := fun x => fs.flatMap (textM x)) hy)
   try dsimp only at HPS HPM
   have HTA : Hid (∀ W, Below w1.heap.size w1 W -> TreeOf W B y ⟨xk, xn, xs, xpl, xnl, xcl, xpm, xnm, xcm⟩) := fun W hW => (HTL.out j y _ hy hx).under (hW.mono hBw1) (Nat.le_refl _)
   obtain ⟨L0, hL0⟩ : ∃ L, (es.take j).flatMap (fun x => fs.flatMap (textM x)) = L := ⟨_, rfl⟩
   rw [hL0] at HO HPS HPM
   obtain ⟨b1, o1, rfl, hb1, hc1⟩ := rd_at' (HRD.out.below HBR.out HBR.out.size) hx
   have f0 := hc1 0 _ rfl
   have f1 := hc1 1 _ rfl
   have f2 := hc1 2 _ rfl
   have f3 := hc1 3 _ rfl
   have f4 := hc1 4 _ rfl
   rw [Nat.add_zero] at f0
   dsimp only at f0 f1 f2 f3 f4
   have hj1 : (j : Int) < (n9 : Int) := by omega
   have hbz := HBR.out.size
   clear hx hy hc1 hL0
   go_upto_region 5 with fail
   have hB9 : Below w1.heap.size w1 (wr.alloc (.cells #[.int .i64 xk, .int .i64 xn, .string xs, .slice xpl xnl xcl, .slice xpm xnm xcm] 25)) := HBR.out.alloc hbz _
   have hO9 := HO.out.alloc (.cells #[.int .i64 xk, .int .i64 xn, .string xs, .slice xpl xnl xcl, .slice xpm xnm xcm] 25)
   have hV9 : VAt (wr.alloc (.cells #[.int .i64 xk, .int .i64 xn, .string xs, .slice xpl xnl xcl, .slice xpm xnm xcm] 25)) wr.heap.size ⟨xk, xn, xs, xpl, xnl, xcl, xpm, xnm, xcm⟩ := heap_alloc_at rfl
   have hN9 : u7.ownBlock ≠ some wr.heap.size := fun e => by have := (HO.out.lt _ e).2; omega
   obtain ⟨g9, hg9⟩ : ∃ g, wr.heap.size = g := ⟨_, rfl⟩
   obtain ⟨W9, hW9⟩ : ∃ W, wr.alloc (.cells #[.int .i64 xk, .int .i64 xn, .string xs, .slice xpl xnl xcl, .slice xpm xnm xcm] 25) = W := ⟨_, rfl⟩
   rw [hW9] at hB9 hO9 hV9
   rw [hg9] at hV9 hN9
   try rw [hW9]
   try rw [hg9]
   have HS9 : Hid (Own W9 w1.heap.size 9 encS 1 u7 (L0 ++ (fs.take 0).flatMap (textM y)) /\ VAt W9 g9 ⟨xk, xn, xs, xpl, xnl, xcl, xpm, xnm, xcm⟩ /\ u7.ownBlock ≠ some g9 /\ Below w1.heap.size w1 W9) := ⟨by rw [List.take_zero, List.flatMap_nil, List.append_nil]; exact hO9, hV9, hN9, hB9⟩
   clear hW9 hg9 hB9 hO9 hV9 hN9 f0 f1 f2 f3 f4 HO HBR
   go_wp2_with fail
   go_loopw [7, 22] (fun u i wr => ∃ q : Nat, q <= nf /\ i = .int .i64 (q : Int) /\ Hid (Own wr w1.heap.size 9 encS 1 u (L0 ++ (fs.take q).flatMap (textM y)) /\ VAt wr g9 ⟨xk, xn, xs, xpl, xnl, xcl, xpm, xnm, xcm⟩ /\ u.ownBlock ≠ some g9 /\ Below w1.heap.size w1 wr)) (fun _ i _ => nf - (intOf i).toNat)
   case atStart => exact ⟨0, by omega, rfl, HS9.out⟩
   case round =>
    obtain ⟨q, hq, rfl, hI⟩ := hrel
    have hq0 : (0 : Int) <= (q : Int) := Int.natCast_nonneg _
    by_cases hlq : q < nf
    ·obtain ⟨f, hf⟩ : ∃ f, fs[q]? = some f := ⟨_, List.getElem?_eq_getElem (by have := HFL.out; omega)⟩
     obtain ⟨b2, o2, rfl, hb2, hc2⟩ := rd_at' (HF1.out.below hI.out.2.2.2 hI.out.2.2.2.size) hf
     have f0 := hc2 0 _ rfl
     rw [Nat.add_zero, Nat.mul_one] at f0
     have hq1 : (q : Int) < (nf : Int) := by omega
     have HQS := Lib.hid (flat_succ (f := textM y) hf)
     have hqm := flat_mid (f := textM y) hf
     obtain ⟨L1, hL1⟩ : ∃ L, (fs.take q).flatMap (textM y) = L := ⟨_, rfl⟩
     have HO1 := Lib.hid hI.out.1
     have HV1 := Lib.hid hI.out.2.1
     have HNE := Lib.hid hI.out.2.2.1
     have HB1 := Lib.hid hI.out.2.2.2
     rw [hL1] at HO1 HQS hqm
     have hv1 := HV1.out
     obtain ⟨e0, e1, e2, e3, e4⟩ := hv1.cells5
     dsimp only at e0 e1 e2 e3 e4
     have hg1 := hv1.lt
     have hz1 := HB1.out.size
     have HTX := Lib.hid (text_any y ⟨xk, xn, xs, xpl, xnl, xcl, xpm, xnm, xcm⟩ f wr B (Nat.le_trans hBw1 hz1) (HTA.out wr HB1.out) HYO.out)
     dsimp only [RV.val] at HTX
     obtain ⟨LF, hLF⟩ : ∃ L, textM y f = L := ⟨_, rfl⟩
     rw [hLF] at HTX HQS hqm
     have HLN : Hid ((L0 ++ L1).length + LF.length <= maxLen /\ ((L0 ++ L1).length + LF.length) * 16 <= 140737488355328) := by
      have h1 := HPM.out
      have h2 := HNB.out
      rw [List.length_append]
      exact ⟨by unfold maxLen; omega, by omega⟩
     clear hf hc2 hI hL1 hLF hqm hv1
     go_wp2_with (first
      | (go_at_call 59; (with_reducible refine HTX.out.mono ?_); rintro e w2 ⟨u2, rfl, ho2, hb2⟩; (have ho3 := HO1.out.below hb2 (Nat.le_refl _)); (have hz2 : w1.heap.size <= w2.heap.size := Nat.le_trans hz1 hb2.size))
      | (at_builtin; refine wpList_append_rd slS codecS w2 rfl (.tmp 26) (.tmp 29) rfl (v := u7) rfl rfl ho3 (ho2.rd codecS) HLN.out.1 HLN.out.2 hz2 ?_; intro v8 w8 ho8 hg8 hat8)
      | fail)
     have hv2 : VAt w2 g9 ⟨xk, xn, xs, xpl, xnl, xcl, xpm, xnm, xcm⟩ := HV1.out.under hb2 hg1
     have hv8 : VAt w8 g9 ⟨xk, xn, xs, xpl, xnl, xcl, xpm, xnm, xcm⟩ := (hg8.block g9 hv2.lt (fun e => HNE.out e.symm)).trans hv2
     have hne8 : v8.ownBlock ≠ some g9 := fun e => by
      rcases hat8 with h | h
      ·exact HNE.out (h.symm.trans e)
      ·rw [e] at h
       have := Option.some.inj h
       have := hv2.lt
       omega
     have HS8 : Hid (Own w8 w1.heap.size 9 encS 1 v8 (L0 ++ (fs.take (q + 1)).flatMap (textM y)) /\ VAt w8 g9 ⟨xk, xn, xs, xpl, xnl, xcl, xpm, xnm, xcm⟩ /\ v8.ownBlock ≠ some g9 /\ Below w1.heap.size w1 w8) := ⟨by rw [HQS.out, <- List.append_assoc]; exact ho8, hv8, hne8, Below.appended (HB1.out.trans (hb2.mono hz1)) hg8 ho3 hz2⟩
     clear ho8 hg8 hat8 hv2 hv8 hne8 ho2 ho3 hb2
     go_roundw
     case rel => exact ⟨q + 1, by omega, by go_num, HS8.out⟩
     case measure => simp [intOf]; omega
    ·obtain rfl : q = nf := by omega
     have ho := hI.out.1
     rw [List.take_of_length_le (by have := HFL.out; omega)] at ho
     have HSX : Hid (Own wr w1.heap.size 9 encS 1 u7 ((es.take (j + 1)).flatMap (fun x => fs.flatMap (textM x))) /\ Below w1.heap.size w1 wr) := ⟨by rw [HPS.out]; exact ho, hI.out.2.2.2⟩
     clear ho hI HS9
     go_wp2_with fail
     go_roundw
     case rel => exact ⟨j + 1, by omega, by go_num, HSX.out⟩
     case measure => simp [intOf]; omega
  ·obtain rfl : j = n9 := by omega
   have ho := HO.out
   have hta : es.take j = es := List.take_of_length_le (by have := HN.out; omega)
   rw [hta] at ho
   have HX := Lib.hid (And.intro (ho.mono hw1) (HBW.out.trans (HBR.out.mono hw1)))
   clear ho hta
   go_wp2_with fail
   go_ret
   exact ⟨_, rfl, HX.out.1, HX.out.2⟩
theorem whole_any (t : JV) (r : RV) (w : World) (B : Nat) (hBw : B <= w.heap.size) (ht : TreeOf w B t r) (ot : t.Ok) (hct : countT t <= 100000) :
 Calls Tryz.prog 55 #[r.val] w (OwnRet w 9 encS 1 (wholeJ t)) := by
 obtain ⟨W0, hW0⟩ : ∃ W0, w.alloc r.obj = W0 := ⟨_, rfl⟩
 have hA0 : VAt W0 w.heap.size r := by rw [<- hW0]; exact heap_alloc_at rfl
 have hB0 : Below w.heap.size w W0 := by rw [<- hW0]; exact (Below.refl _ _).alloc (Nat.le_refl _) _
 have hw0 := hB0.size
 have hBw0 : B <= W0.heap.size := Nat.le_trans hBw hw0
 have hTr : ∀ W, Below W0.heap.size W0 W -> TreeOf W B t r := fun W hW => (ht.under (hB0.mono hBw) (Nat.le_refl _)).under (hW.mono hBw0) (Nat.le_refl _)
 have HT : Hid (∀ W, Below W0.heap.size W0 W -> Calls Tryz.prog 59 #[r.val, .string svFull] W (fun e w' => ∃ u, e = .returned u /\ Own w' W0.heap.size 9 encS 1 u (textM t svFull) /\ Below W.heap.size W w')) := fun W hW => (text_any t r svFull W B (Nat.le_trans hBw0 hW.size) (hTr W hW) ot).mono fun e w' h => by
  obtain ⟨u, h1, h2, h3⟩ := h
  exact ⟨u, h1, h2.mono hW.size, h3⟩
 have HP : Hid (∀ W, Below W0.heap.size W0 W -> Calls Tryz.prog 56 #[r.val, .string ⟨#[]⟩] W (fun e w' => ∃ u, e = .returned u /\ Own w' W0.heap.size 9 encS 1 u (partsJ t ⟨#[]⟩) /\ Below W.heap.size W w')) := fun W hW => (parts_any t r ⟨#[]⟩ W B (Nat.le_trans hBw0 hW.size) (hTr W hW) ot (by decide)).mono fun e w' h => by
  obtain ⟨u, h1, h2, h3⟩ := h
  exact ⟨u, h1, h2.mono hW.size, h3⟩
 have hl1 := textM_len t svFull
 have hl2 := partsJ_count t ⟨#[]⟩
 unfold wholeJ
 obtain ⟨LT, hLT⟩ : ∃ L, textM t svFull = L := ⟨_, rfl⟩
 obtain ⟨LP, hLP⟩ : ∃ L, partsJ t ⟨#[]⟩ = L := ⟨_, rfl⟩
 rw [hLT] at HT hl1
 rw [hLP] at HP hl2
 rw [hLT, hLP]
 have HLN : Hid (LT.length + LP.length <= maxLen /\ (LT.length + LP.length) * 16 <= 140737488355328) := ⟨by unfold maxLen; omega, by omega⟩
 unfold svFull at HT
 obtain ⟨k, n, s, pl, nl, cl, pm, nm, cm⟩ := r
 dsimp only [RV.val, RV.obj] at *
 have HW := Lib.hid hW0
 have HB0 := Lib.hid hB0
 have hb00 : Below W0.heap.size W0 W0.drew := (Below.refl _ _).drew
 clear hW0 hB0 ht ot hLT hLP hl1 hl2 hct hTr
 go_enter Tryz.func55, Tryz.ntmps55
 go_upto_region 1 with fail
 rw [HW.out]
 clear HW
 obtain ⟨a0, a1, a2, a3, a4⟩ := hA0.cells5
 have hz0 := hA0.lt
 go_region_law
  (first
   | (go_simp; go_at_call 59
      (with_reducible refine (HT.out _ (by first | exact hbP | exact hb00)).mono ?_)
      rintro e wT ⟨uT, rfl, hoT, hbT'⟩
      have hbT : Below W0.heap.size W0 wT := (by first | exact hbP.trans (hbT'.mono hbP.size) | exact hb00.trans hbT')
      have d0 := bcs hbT hz0 a0
      have d1 := bcs hbT hz0 a1
      have d2 := bcs hbT hz0 a2
      have d3 := bcs hbT hz0 a3
      have d4 := bcs hbT hz0 a4)
   | (go_simp; go_at_call 56
      (with_reducible refine (HP.out _ (by first | exact hbT | exact hb00)).mono ?_)
      rintro e wP ⟨uP, rfl, hoP, hbP'⟩
      have hbP : Below W0.heap.size W0 wP := (by first | exact hbT.trans (hbP'.mono hbT.size) | exact hb00.trans hbP')
      have e0 := bcs hbP hz0 a0
      have e1 := bcs hbP hz0 a1
      have e2 := bcs hbP hz0 a2
      have e3 := bcs hbP hz0 a3
      have e4 := bcs hbP hz0 a4)
   | (have hoX := hoT.below hbP' (Nat.le_refl _)
      refine step_append_rd slS codecS wP (by rfl) (.tmp 4) (.tmp 6) (by rfl) (v := uT) (by rfl) (by rfl) hoX (hoP.rd codecS) HLN.out.1 HLN.out.2 hbP.size ?_
      intro v8 w8 ho8 hg8 hat8
      have hb8 := Below.appended hbP hg8 hoX hbP.size)
   | (have hrX := (hoP.rd codecS).below hbT' (Nat.le_refl _)
      refine step_append_rd slS codecS wT (by rfl) (.tmp 4) (.tmp 6) (by rfl) (v := uT) (by rfl) (by rfl) hoT hrX HLN.out.1 HLN.out.2 hbT.size ?_
      intro v8 w8 ho8 hg8 hat8
      have hb8 := Below.appended hbT hg8 hoT hbT.size)
   | fail)
 all_goals
  go_wp2_with fail
  go_ret
  exact ⟨v8, rfl, ho8.mono hw0, HB0.out.trans (hb8.mono hw0)⟩
theorem bytes_dec (p : ByteArray) (l : List UInt8) : decide (p = ⟨l.toArray⟩) = (p.toList == l) := by
 rw [ByteArray.toList_eq]
 by_cases h : p.data.toList = l
 ·rw [decide_eq_true (ByteArray.ext (Array.toList_inj.1 (by simpa using h)))]
  simpa using h
 ·rw [decide_eq_false (fun e => h (by rw [e]))]
  simpa using h
theorem stx_name (t : JV) (r : RV) (w : World) (B : Nat) (hBw : B <= w.heap.size) (ht : TreeOf w B t r) (ot : t.Ok) (hct : countT t <= 100000) :
 Calls Tryz.prog 26 #[r.val, .string nameN] w (OwnRet w 9 encS 1 (wholeJ (nameV t))) := by
 obtain ⟨W0, hW0⟩ : ∃ W0, w.alloc r.obj = W0 := ⟨_, rfl⟩
 have hA0 : VAt W0 w.heap.size r := by rw [<- hW0]; exact heap_alloc_at rfl
 have hB0 : Below w.heap.size w W0 := by rw [<- hW0]; exact (Below.refl _ _).alloc (Nat.le_refl _) _
 have HC : Hid (Calls Tryz.prog 15 #[r.val, .string nameN] W0 (GetRetB W0 B (t.get nameN))) := getB_any t r nameN W0 B (Nat.le_trans hBw hB0.size) (ht.under (hB0.mono hBw) (Nat.le_refl _)) ot
 have hw0 := hB0.size
 have HTR : Hid (∀ W, Below w.heap.size w W -> TreeOf W B t r) := fun W hW => ht.under (hW.mono hBw) (Nat.le_refl _)
 have hcn : countT (nameV t) <= 100000 := Nat.le_trans (count_name t) hct
 have HWH : Hid (∀ (q : RV) (W : World), B <= W.heap.size -> TreeOf W B (nameV t) q -> Calls Tryz.prog 55 #[q.val] W (OwnRet W 9 encS 1 (wholeJ (nameV t)))) := fun q W hB hq => whole_any (nameV t) q W B hB hq (nameV_ok ot) hcn
 have HNV : Hid ((t.get nameN).getD JV.zero = nameV t) := rfl
 obtain ⟨L, hL⟩ : ∃ L, wholeJ (nameV t) = L := ⟨_, rfl⟩
 rw [hL] at HWH
 rw [hL]
 clear hL hcn
 obtain ⟨k, n, s, pl, nl, cl, pm, nm, cm⟩ := r
 dsimp only [RV.val, RV.obj] at *
 have HW := Lib.hid hW0
 have HB0 := Lib.hid hB0
 unfold nameN at HC
 try unfold nameN
 clear hW0 hB0 ht
 go_enter Tryz.func26, Tryz.ntmps26
 go_upto_region 1 with fail
 rw [HW.out]
 clear HW
 obtain ⟨a0, a1, a2, a3, a4⟩ := hA0.cells5
 have hz0 := hA0.lt
 go_upto_region 3 with (go_at_call 15; refine HC.out.mono ?_; rintro e w1 ⟨rv, bb, rfl, hbb, ht1, hb1⟩; obtain ⟨rk, rn, rS, rpl, rnl, rcl, rpm, rnm, rcm⟩ := rv)
 have hz1 := hb1.size
 have hb2 : Below W0.heap.size W0 (w1.alloc (.cells #[.int .i64 rk, .int .i64 rn, .string rS, .slice rpl rnl rcl, .slice rpm rnm rcm] 25)) := hb1.alloc hz1 _
 have hv2 : VAt (w1.alloc (.cells #[.int .i64 rk, .int .i64 rn, .string rS, .slice rpl rnl rcl, .slice rpm rnm rcm] 25)) w1.heap.size ⟨rk, rn, rS, rpl, rnl, rcl, rpm, rnm, rcm⟩ := heap_alloc_at rfl
 have ht2 := ht1.under ((Below.refl B w1).alloc (Nat.le_trans (Nat.le_trans hBw hw0) hz1) (.cells #[.int .i64 rk, .int .i64 rn, .string rS, .slice rpl rnl rcl, .slice rpm rnm rcm] 25)) (Nat.le_refl _)
 obtain ⟨g, hg⟩ : ∃ g, w1.heap.size = g := ⟨_, rfl⟩
 obtain ⟨W2, hW2⟩ : ∃ W, w1.alloc (.cells #[.int .i64 rk, .int .i64 rn, .string rS, .slice rpl rnl rcl, .slice rpm rnm rcm] 25) = W := ⟨_, rfl⟩
 rw [hW2] at hb2 hv2 ht2
 rw [hg] at hv2
 try rw [hW2]
 try rw [hg]
 obtain ⟨v0, v1, v2, v3, v4⟩ := hv2.cells5
 dsimp only at v0 v1 v2 v3 v4
 have b0 := bcs hb2 hz0 a0
 have b1 := bcs hb2 hz0 a1
 have b2 := bcs hb2 hz0 a2
 have b3 := bcs hb2 hz0 a3
 have b4 := bcs hb2 hz0 a4
 have hbw := HB0.out.trans (hb2.mono hw0)
 have HX := Lib.hid hbw
 have hw2 := hbw.size
 have hBw2 : B <= W2.heap.size := Nat.le_trans hBw hw2
 have HT2 := Lib.hid ht2
 clear hW2 hg hb1 ht1 hb2 hv2 hz1 hbw ht2 a0 a1 a2 a3 a4 hbb
 have HTN : TreeOf W2 B (nameV t) ⟨rk, rn, rS, rpl, rnl, rcl, rpm, rnm, rcm⟩ := HT2.out
 have HWC := Lib.hid (HWH.out _ W2 hBw2 HTN)
 clear HTN
 dsimp only [RV.val] at HWC
 go_wp2_with (go_at_call 55; (with_reducible refine HWC.out.mono ?_); rintro e w3 ⟨u3, rfl, ho3, hb3⟩)
 go_ret
 exact ⟨u3, rfl, ho3.mono hw2, HX.out.trans (hb3.mono hw2)⟩
theorem stx_nick (t : JV) (r : RV) (w : World) (B : Nat) (hBw : B <= w.heap.size) (ht : TreeOf w B t r) (ot : t.Ok) (hct : countT t <= 100000) :
 Calls Tryz.prog 26 #[r.val, .string svNick] w (OwnRet w 9 encS 1 (namedJ t svNicks [nameN])) := by
 obtain ⟨W0, hW0⟩ : ∃ W0, w.alloc r.obj = W0 := ⟨_, rfl⟩
 have hA0 : VAt W0 w.heap.size r := by rw [<- hW0]; exact heap_alloc_at rfl
 have hB0 : Below w.heap.size w W0 := by rw [<- hW0]; exact (Below.refl _ _).alloc (Nat.le_refl _) _
 have HC : Hid (Calls Tryz.prog 15 #[r.val, .string nameN] W0 (GetRetB W0 B (t.get nameN))) := getB_any t r nameN W0 B (Nat.le_trans hBw hB0.size) (ht.under (hB0.mono hBw) (Nat.le_refl _)) ot
 have hw0 := hB0.size
 have HTR : Hid (∀ W, Below w.heap.size w W -> TreeOf W B t r) := fun W hW => ht.under (hW.mono hBw) (Nat.le_refl _)
 have HNM : Hid (∀ W, Below w.heap.size w W -> ∀ p n c, Rd W W.heap.size encS 1 (.slice p n c) [nameN] -> Calls Tryz.prog 57 #[r.val, .string svNicks, .slice p n c] W (OwnRet W 9 encS 1 (namedJ t svNicks [nameN]))) := fun W hW p n c hr => named_any t r svNicks [nameN] p n c W B (Nat.le_trans hBw hW.size) (HTR.out W hW) ot hct hr (by simp)
 obtain ⟨L, hL⟩ : ∃ L, namedJ t svNicks [nameN] = L := ⟨_, rfl⟩
 rw [hL] at HNM
 rw [hL]
 clear hL
 obtain ⟨k, n, s, pl, nl, cl, pm, nm, cm⟩ := r
 dsimp only [RV.val, RV.obj] at *
 have HW := Lib.hid hW0
 have HB0 := Lib.hid hB0
 unfold nameN at HC
 try unfold nameN at *
 try unfold svNick at *
 try unfold svNicks at *
 clear hW0 hB0 ht
 go_enter Tryz.func26, Tryz.ntmps26
 go_upto_region 1 with fail
 rw [HW.out]
 clear HW
 obtain ⟨a0, a1, a2, a3, a4⟩ := hA0.cells5
 have hz0 := hA0.lt
 go_upto_region 3 with (go_at_call 15; refine HC.out.mono ?_; rintro e w1 ⟨rv, bb, rfl, hbb, ht1, hb1⟩; obtain ⟨rk, rn, rS, rpl, rnl, rcl, rpm, rnm, rcm⟩ := rv)
 have hz1 := hb1.size
 have hb2 : Below W0.heap.size W0 (w1.alloc (.cells #[.int .i64 rk, .int .i64 rn, .string rS, .slice rpl rnl rcl, .slice rpm rnm rcm] 25)) := hb1.alloc hz1 _
 have hv2 : VAt (w1.alloc (.cells #[.int .i64 rk, .int .i64 rn, .string rS, .slice rpl rnl rcl, .slice rpm rnm rcm] 25)) w1.heap.size ⟨rk, rn, rS, rpl, rnl, rcl, rpm, rnm, rcm⟩ := heap_alloc_at rfl
 have ht2 := ht1.under ((Below.refl B w1).alloc (Nat.le_trans (Nat.le_trans hBw hw0) hz1) (.cells #[.int .i64 rk, .int .i64 rn, .string rS, .slice rpl rnl rcl, .slice rpm rnm rcm] 25)) (Nat.le_refl _)
 obtain ⟨g, hg⟩ : ∃ g, w1.heap.size = g := ⟨_, rfl⟩
 obtain ⟨W2, hW2⟩ : ∃ W, w1.alloc (.cells #[.int .i64 rk, .int .i64 rn, .string rS, .slice rpl rnl rcl, .slice rpm rnm rcm] 25) = W := ⟨_, rfl⟩
 rw [hW2] at hb2 hv2 ht2
 rw [hg] at hv2
 try rw [hW2]
 try rw [hg]
 obtain ⟨v0, v1, v2, v3, v4⟩ := hv2.cells5
 dsimp only at v0 v1 v2 v3 v4
 have b0 := bcs hb2 hz0 a0
 have b1 := bcs hb2 hz0 a1
 have b2 := bcs hb2 hz0 a2
 have b3 := bcs hb2 hz0 a3
 have b4 := bcs hb2 hz0 a4
 have hbw := HB0.out.trans (hb2.mono hw0)
 have HX := Lib.hid hbw
 have hw2 := hbw.size
 have hBw2 : B <= W2.heap.size := Nat.le_trans hBw hw2
 have HT2 := Lib.hid ht2
 clear hW2 hg hb1 ht1 hb2 hv2 hz1 hbw ht2 a0 a1 a2 a3 a4 hbb
 have HR3 : Hid (Rd (W2.alloc (.cells #[.string nameN] 9)) (W2.alloc (.cells #[.string nameN] 9)).heap.size encS 1 (.slice (some ⟨W2.heap.size, 0, none⟩) 1 1) [nameN]) := (Own.block (xs := [nameN]) (base := W2.heap.size) codecS (heap_alloc_at rfl) rfl rfl (Nat.le_refl _) (by decide)).rd codecS
 have HB3 := Lib.hid (HX.out.alloc hw2 (.cells #[.string nameN] 9))
 have HNC := Lib.hid (HNM.out _ HB3.out _ _ _ HR3.out)
 try unfold nameN at HR3 HB3 HNC
 try unfold svNick at HR3 HB3 HNC
 try unfold svNicks at HR3 HB3 HNC
 go_wp2_with (go_at_call 57; (with_reducible refine HNC.out.mono ?_); rintro e w3 ⟨u3, rfl, ho3, hb3⟩)
 go_ret
 exact ⟨u3, rfl, ho3.mono HB3.out.size, HB3.out.trans (hb3.mono HB3.out.size)⟩
theorem stx_email (t : JV) (r : RV) (w : World) (B : Nat) (hBw : B <= w.heap.size) (ht : TreeOf w B t r) (ot : t.Ok) (hct : countT t <= 100000) :
 Calls Tryz.prog 26 #[r.val, .string svEmail] w (OwnRet w 9 encS 1 (namedJ t svEmails [svAddr])) := by
 obtain ⟨W0, hW0⟩ : ∃ W0, w.alloc r.obj = W0 := ⟨_, rfl⟩
 have hA0 : VAt W0 w.heap.size r := by rw [<- hW0]; exact heap_alloc_at rfl
 have hB0 : Below w.heap.size w W0 := by rw [<- hW0]; exact (Below.refl _ _).alloc (Nat.le_refl _) _
 have HC : Hid (Calls Tryz.prog 15 #[r.val, .string nameN] W0 (GetRetB W0 B (t.get nameN))) := getB_any t r nameN W0 B (Nat.le_trans hBw hB0.size) (ht.under (hB0.mono hBw) (Nat.le_refl _)) ot
 have hw0 := hB0.size
 have HTR : Hid (∀ W, Below w.heap.size w W -> TreeOf W B t r) := fun W hW => ht.under (hW.mono hBw) (Nat.le_refl _)
 have HNM : Hid (∀ W, Below w.heap.size w W -> ∀ p n c, Rd W W.heap.size encS 1 (.slice p n c) [svAddr] -> Calls Tryz.prog 57 #[r.val, .string svEmails, .slice p n c] W (OwnRet W 9 encS 1 (namedJ t svEmails [svAddr]))) := fun W hW p n c hr => named_any t r svEmails [svAddr] p n c W B (Nat.le_trans hBw hW.size) (HTR.out W hW) ot hct hr (by simp)
 obtain ⟨L, hL⟩ : ∃ L, namedJ t svEmails [svAddr] = L := ⟨_, rfl⟩
 rw [hL] at HNM
 rw [hL]
 clear hL
 obtain ⟨k, n, s, pl, nl, cl, pm, nm, cm⟩ := r
 dsimp only [RV.val, RV.obj] at *
 have HW := Lib.hid hW0
 have HB0 := Lib.hid hB0
 unfold nameN at HC
 try unfold svAddr at *
 try unfold svEmail at *
 try unfold svEmails at *
 clear hW0 hB0 ht
 go_enter Tryz.func26, Tryz.ntmps26
 go_upto_region 1 with fail
 rw [HW.out]
 clear HW
 obtain ⟨a0, a1, a2, a3, a4⟩ := hA0.cells5
 have hz0 := hA0.lt
 go_upto_region 3 with (go_at_call 15; refine HC.out.mono ?_; rintro e w1 ⟨rv, bb, rfl, hbb, ht1, hb1⟩; obtain ⟨rk, rn, rS, rpl, rnl, rcl, rpm, rnm, rcm⟩ := rv)
 have hz1 := hb1.size
 have hb2 : Below W0.heap.size W0 (w1.alloc (.cells #[.int .i64 rk, .int .i64 rn, .string rS, .slice rpl rnl rcl, .slice rpm rnm rcm] 25)) := hb1.alloc hz1 _
 have hv2 : VAt (w1.alloc (.cells #[.int .i64 rk, .int .i64 rn, .string rS, .slice rpl rnl rcl, .slice rpm rnm rcm] 25)) w1.heap.size ⟨rk, rn, rS, rpl, rnl, rcl, rpm, rnm, rcm⟩ := heap_alloc_at rfl
 have ht2 := ht1.under ((Below.refl B w1).alloc (Nat.le_trans (Nat.le_trans hBw hw0) hz1) (.cells #[.int .i64 rk, .int .i64 rn, .string rS, .slice rpl rnl rcl, .slice rpm rnm rcm] 25)) (Nat.le_refl _)
 obtain ⟨g, hg⟩ : ∃ g, w1.heap.size = g := ⟨_, rfl⟩
 obtain ⟨W2, hW2⟩ : ∃ W, w1.alloc (.cells #[.int .i64 rk, .int .i64 rn, .string rS, .slice rpl rnl rcl, .slice rpm rnm rcm] 25) = W := ⟨_, rfl⟩
 rw [hW2] at hb2 hv2 ht2
 rw [hg] at hv2
 try rw [hW2]
 try rw [hg]
 obtain ⟨v0, v1, v2, v3, v4⟩ := hv2.cells5
 dsimp only at v0 v1 v2 v3 v4
 have b0 := bcs hb2 hz0 a0
 have b1 := bcs hb2 hz0 a1
 have b2 := bcs hb2 hz0 a2
 have b3 := bcs hb2 hz0 a3
 have b4 := bcs hb2 hz0 a4
 have hbw := HB0.out.trans (hb2.mono hw0)
 have HX := Lib.hid hbw
 have hw2 := hbw.size
 have hBw2 : B <= W2.heap.size := Nat.le_trans hBw hw2
 have HT2 := Lib.hid ht2
 clear hW2 hg hb1 ht1 hb2 hv2 hz1 hbw ht2 a0 a1 a2 a3 a4 hbb
 have HR3 : Hid (Rd (W2.alloc (.cells #[.string svAddr] 9)) (W2.alloc (.cells #[.string svAddr] 9)).heap.size encS 1 (.slice (some ⟨W2.heap.size, 0, none⟩) 1 1) [svAddr]) := (Own.block (xs := [svAddr]) (base := W2.heap.size) codecS (heap_alloc_at rfl) rfl rfl (Nat.le_refl _) (by decide)).rd codecS
 have HB3 := Lib.hid (HX.out.alloc hw2 (.cells #[.string svAddr] 9))
 have HNC := Lib.hid (HNM.out _ HB3.out _ _ _ HR3.out)
 try unfold svAddr at HR3 HB3 HNC
 try unfold svEmail at HR3 HB3 HNC
 try unfold svEmails at HR3 HB3 HNC
 go_wp2_with (go_at_call 57; (with_reducible refine HNC.out.mono ?_); rintro e w3 ⟨u3, rfl, ho3, hb3⟩)
 go_ret
 exact ⟨u3, rfl, ho3.mono HB3.out.size, HB3.out.trans (hb3.mono HB3.out.size)⟩
theorem stx_phone (t : JV) (r : RV) (w : World) (B : Nat) (hBw : B <= w.heap.size) (ht : TreeOf w B t r) (ot : t.Ok) (hct : countT t <= 100000) :
 Calls Tryz.prog 26 #[r.val, .string svPhone] w (OwnRet w 9 encS 1 (namedJ t svPhones [svNumber])) := by
 obtain ⟨W0, hW0⟩ : ∃ W0, w.alloc r.obj = W0 := ⟨_, rfl⟩
 have hA0 : VAt W0 w.heap.size r := by rw [<- hW0]; exact heap_alloc_at rfl
 have hB0 : Below w.heap.size w W0 := by rw [<- hW0]; exact (Below.refl _ _).alloc (Nat.le_refl _) _
 have HC : Hid (Calls Tryz.prog 15 #[r.val, .string nameN] W0 (GetRetB W0 B (t.get nameN))) := getB_any t r nameN W0 B (Nat.le_trans hBw hB0.size) (ht.under (hB0.mono hBw) (Nat.le_refl _)) ot
 have hw0 := hB0.size
 have HTR : Hid (∀ W, Below w.heap.size w W -> TreeOf W B t r) := fun W hW => ht.under (hW.mono hBw) (Nat.le_refl _)
 have HNM : Hid (∀ W, Below w.heap.size w W -> ∀ p n c, Rd W W.heap.size encS 1 (.slice p n c) [svNumber] -> Calls Tryz.prog 57 #[r.val, .string svPhones, .slice p n c] W (OwnRet W 9 encS 1 (namedJ t svPhones [svNumber]))) := fun W hW p n c hr => named_any t r svPhones [svNumber] p n c W B (Nat.le_trans hBw hW.size) (HTR.out W hW) ot hct hr (by simp)
 obtain ⟨L, hL⟩ : ∃ L, namedJ t svPhones [svNumber] = L := ⟨_, rfl⟩
 rw [hL] at HNM
 rw [hL]
 clear hL
 obtain ⟨k, n, s, pl, nl, cl, pm, nm, cm⟩ := r
 dsimp only [RV.val, RV.obj] at *
 have HW := Lib.hid hW0
 have HB0 := Lib.hid hB0
 unfold nameN at HC
 try unfold svNumber at *
 try unfold svPhone at *
 try unfold svPhones at *
 clear hW0 hB0 ht
 go_enter Tryz.func26, Tryz.ntmps26
 go_upto_region 1 with fail
 rw [HW.out]
 clear HW
 obtain ⟨a0, a1, a2, a3, a4⟩ := hA0.cells5
 have hz0 := hA0.lt
 go_upto_region 3 with (go_at_call 15; refine HC.out.mono ?_; rintro e w1 ⟨rv, bb, rfl, hbb, ht1, hb1⟩; obtain ⟨rk, rn, rS, rpl, rnl, rcl, rpm, rnm, rcm⟩ := rv)
 have hz1 := hb1.size
 have hb2 : Below W0.heap.size W0 (w1.alloc (.cells #[.int .i64 rk, .int .i64 rn, .string rS, .slice rpl rnl rcl, .slice rpm rnm rcm] 25)) := hb1.alloc hz1 _
 have hv2 : VAt (w1.alloc (.cells #[.int .i64 rk, .int .i64 rn, .string rS, .slice rpl rnl rcl, .slice rpm rnm rcm] 25)) w1.heap.size ⟨rk, rn, rS, rpl, rnl, rcl, rpm, rnm, rcm⟩ := heap_alloc_at rfl
 have ht2 := ht1.under ((Below.refl B w1).alloc (Nat.le_trans (Nat.le_trans hBw hw0) hz1) (.cells #[.int .i64 rk, .int .i64 rn, .string rS, .slice rpl rnl rcl, .slice rpm rnm rcm] 25)) (Nat.le_refl _)
 obtain ⟨g, hg⟩ : ∃ g, w1.heap.size = g := ⟨_, rfl⟩
 obtain ⟨W2, hW2⟩ : ∃ W, w1.alloc (.cells #[.int .i64 rk, .int .i64 rn, .string rS, .slice rpl rnl rcl, .slice rpm rnm rcm] 25) = W := ⟨_, rfl⟩
 rw [hW2] at hb2 hv2 ht2
 rw [hg] at hv2
 try rw [hW2]
 try rw [hg]
 obtain ⟨v0, v1, v2, v3, v4⟩ := hv2.cells5
 dsimp only at v0 v1 v2 v3 v4
 have b0 := bcs hb2 hz0 a0
 have b1 := bcs hb2 hz0 a1
 have b2 := bcs hb2 hz0 a2
 have b3 := bcs hb2 hz0 a3
 have b4 := bcs hb2 hz0 a4
 have hbw := HB0.out.trans (hb2.mono hw0)
 have HX := Lib.hid hbw
 have hw2 := hbw.size
 have hBw2 : B <= W2.heap.size := Nat.le_trans hBw hw2
 have HT2 := Lib.hid ht2
 clear hW2 hg hb1 ht1 hb2 hv2 hz1 hbw ht2 a0 a1 a2 a3 a4 hbb
 have HR3 : Hid (Rd (W2.alloc (.cells #[.string svNumber] 9)) (W2.alloc (.cells #[.string svNumber] 9)).heap.size encS 1 (.slice (some ⟨W2.heap.size, 0, none⟩) 1 1) [svNumber]) := (Own.block (xs := [svNumber]) (base := W2.heap.size) codecS (heap_alloc_at rfl) rfl rfl (Nat.le_refl _) (by decide)).rd codecS
 have HB3 := Lib.hid (HX.out.alloc hw2 (.cells #[.string svNumber] 9))
 have HNC := Lib.hid (HNM.out _ HB3.out _ _ _ HR3.out)
 try unfold svNumber at HR3 HB3 HNC
 try unfold svPhone at HR3 HB3 HNC
 try unfold svPhones at HR3 HB3 HNC
 go_wp2_with (go_at_call 57; (with_reducible refine HNC.out.mono ?_); rintro e w3 ⟨u3, rfl, ho3, hb3⟩)
 go_ret
 exact ⟨u3, rfl, ho3.mono HB3.out.size, HB3.out.trans (hb3.mono HB3.out.size)⟩
theorem stx_online (t : JV) (r : RV) (w : World) (B : Nat) (hBw : B <= w.heap.size) (ht : TreeOf w B t r) (ot : t.Ok) (hct : countT t <= 100000) :
 Calls Tryz.prog 26 #[r.val, .string svOnline] w (OwnRet w 9 encS 1 (namedJ t svOnlines [svService, svUri, svUser])) := by
 obtain ⟨W0, hW0⟩ : ∃ W0, w.alloc r.obj = W0 := ⟨_, rfl⟩
 have hA0 : VAt W0 w.heap.size r := by rw [<- hW0]; exact heap_alloc_at rfl
 have hB0 : Below w.heap.size w W0 := by rw [<- hW0]; exact (Below.refl _ _).alloc (Nat.le_refl _) _
 have HC : Hid (Calls Tryz.prog 15 #[r.val, .string nameN] W0 (GetRetB W0 B (t.get nameN))) := getB_any t r nameN W0 B (Nat.le_trans hBw hB0.size) (ht.under (hB0.mono hBw) (Nat.le_refl _)) ot
 have hw0 := hB0.size
 have HTR : Hid (∀ W, Below w.heap.size w W -> TreeOf W B t r) := fun W hW => ht.under (hW.mono hBw) (Nat.le_refl _)
 have HNM : Hid (∀ W, Below w.heap.size w W -> ∀ p n c, Rd W W.heap.size encS 1 (.slice p n c) [svService, svUri, svUser] -> Calls Tryz.prog 57 #[r.val, .string svOnlines, .slice p n c] W (OwnRet W 9 encS 1 (namedJ t svOnlines [svService, svUri, svUser]))) := fun W hW p n c hr => named_any t r svOnlines [svService, svUri, svUser] p n c W B (Nat.le_trans hBw hW.size) (HTR.out W hW) ot hct hr (by simp)
 obtain ⟨L, hL⟩ : ∃ L, namedJ t svOnlines [svService, svUri, svUser] = L := ⟨_, rfl⟩
 rw [hL] at HNM
 rw [hL]
 clear hL
 obtain ⟨k, n, s, pl, nl, cl, pm, nm, cm⟩ := r
 dsimp only [RV.val, RV.obj] at *
 have HW := Lib.hid hW0
 have HB0 := Lib.hid hB0
 unfold nameN at HC
 try unfold svOnline at *
 try unfold svOnlines at *
 try unfold svService at *
 try unfold svUri at *
 try unfold svUser at *
 clear hW0 hB0 ht
 go_enter Tryz.func26, Tryz.ntmps26
 go_upto_region 1 with fail
 rw [HW.out]
 clear HW
 obtain ⟨a0, a1, a2, a3, a4⟩ := hA0.cells5
 have hz0 := hA0.lt
 go_upto_region 3 with (go_at_call 15; refine HC.out.mono ?_; rintro e w1 ⟨rv, bb, rfl, hbb, ht1, hb1⟩; obtain ⟨rk, rn, rS, rpl, rnl, rcl, rpm, rnm, rcm⟩ := rv)
 have hz1 := hb1.size
 have hb2 : Below W0.heap.size W0 (w1.alloc (.cells #[.int .i64 rk, .int .i64 rn, .string rS, .slice rpl rnl rcl, .slice rpm rnm rcm] 25)) := hb1.alloc hz1 _
 have hv2 : VAt (w1.alloc (.cells #[.int .i64 rk, .int .i64 rn, .string rS, .slice rpl rnl rcl, .slice rpm rnm rcm] 25)) w1.heap.size ⟨rk, rn, rS, rpl, rnl, rcl, rpm, rnm, rcm⟩ := heap_alloc_at rfl
 have ht2 := ht1.under ((Below.refl B w1).alloc (Nat.le_trans (Nat.le_trans hBw hw0) hz1) (.cells #[.int .i64 rk, .int .i64 rn, .string rS, .slice rpl rnl rcl, .slice rpm rnm rcm] 25)) (Nat.le_refl _)
 obtain ⟨g, hg⟩ : ∃ g, w1.heap.size = g := ⟨_, rfl⟩
 obtain ⟨W2, hW2⟩ : ∃ W, w1.alloc (.cells #[.int .i64 rk, .int .i64 rn, .string rS, .slice rpl rnl rcl, .slice rpm rnm rcm] 25) = W := ⟨_, rfl⟩
 rw [hW2] at hb2 hv2 ht2
 rw [hg] at hv2
 try rw [hW2]
 try rw [hg]
 obtain ⟨v0, v1, v2, v3, v4⟩ := hv2.cells5
 dsimp only at v0 v1 v2 v3 v4
 have b0 := bcs hb2 hz0 a0
 have b1 := bcs hb2 hz0 a1
 have b2 := bcs hb2 hz0 a2
 have b3 := bcs hb2 hz0 a3
 have b4 := bcs hb2 hz0 a4
 have hbw := HB0.out.trans (hb2.mono hw0)
 have HX := Lib.hid hbw
 have hw2 := hbw.size
 have hBw2 : B <= W2.heap.size := Nat.le_trans hBw hw2
 have HT2 := Lib.hid ht2
 clear hW2 hg hb1 ht1 hb2 hv2 hz1 hbw ht2 a0 a1 a2 a3 a4 hbb
 have HR3 : Hid (Rd (W2.alloc (.cells #[.string svService, .string svUri, .string svUser] 9)) (W2.alloc (.cells #[.string svService, .string svUri, .string svUser] 9)).heap.size encS 1 (.slice (some ⟨W2.heap.size, 0, none⟩) 3 3) [svService, svUri, svUser]) := (Own.block (xs := [svService, svUri, svUser]) (base := W2.heap.size) codecS (heap_alloc_at rfl) rfl rfl (Nat.le_refl _) (by decide)).rd codecS
 have HB3 := Lib.hid (HX.out.alloc hw2 (.cells #[.string svService, .string svUri, .string svUser] 9))
 have HNC := Lib.hid (HNM.out _ HB3.out _ _ _ HR3.out)
 try unfold svOnline at HR3 HB3 HNC
 try unfold svOnlines at HR3 HB3 HNC
 try unfold svService at HR3 HB3 HNC
 try unfold svUri at HR3 HB3 HNC
 try unfold svUser at HR3 HB3 HNC
 go_wp2_with (go_at_call 57; (with_reducible refine HNC.out.mono ?_); rintro e w3 ⟨u3, rfl, ho3, hb3⟩)
 go_ret
 exact ⟨u3, rfl, ho3.mono HB3.out.size, HB3.out.trans (hb3.mono HB3.out.size)⟩
theorem stx_note (t : JV) (r : RV) (w : World) (B : Nat) (hBw : B <= w.heap.size) (ht : TreeOf w B t r) (ot : t.Ok) (hct : countT t <= 100000) :
 Calls Tryz.prog 26 #[r.val, .string svNote] w (OwnRet w 9 encS 1 (namedJ t svNotes [svNote])) := by
 obtain ⟨W0, hW0⟩ : ∃ W0, w.alloc r.obj = W0 := ⟨_, rfl⟩
 have hA0 : VAt W0 w.heap.size r := by rw [<- hW0]; exact heap_alloc_at rfl
 have hB0 : Below w.heap.size w W0 := by rw [<- hW0]; exact (Below.refl _ _).alloc (Nat.le_refl _) _
 have HC : Hid (Calls Tryz.prog 15 #[r.val, .string nameN] W0 (GetRetB W0 B (t.get nameN))) := getB_any t r nameN W0 B (Nat.le_trans hBw hB0.size) (ht.under (hB0.mono hBw) (Nat.le_refl _)) ot
 have hw0 := hB0.size
 have HTR : Hid (∀ W, Below w.heap.size w W -> TreeOf W B t r) := fun W hW => ht.under (hW.mono hBw) (Nat.le_refl _)
 have HNM : Hid (∀ W, Below w.heap.size w W -> ∀ p n c, Rd W W.heap.size encS 1 (.slice p n c) [svNote] -> Calls Tryz.prog 57 #[r.val, .string svNotes, .slice p n c] W (OwnRet W 9 encS 1 (namedJ t svNotes [svNote]))) := fun W hW p n c hr => named_any t r svNotes [svNote] p n c W B (Nat.le_trans hBw hW.size) (HTR.out W hW) ot hct hr (by simp)
 obtain ⟨L, hL⟩ : ∃ L, namedJ t svNotes [svNote] = L := ⟨_, rfl⟩
 rw [hL] at HNM
 rw [hL]
 clear hL
 obtain ⟨k, n, s, pl, nl, cl, pm, nm, cm⟩ := r
 dsimp only [RV.val, RV.obj] at *
 have HW := Lib.hid hW0
 have HB0 := Lib.hid hB0
 unfold nameN at HC
 try unfold svNote at *
 try unfold svNotes at *
 clear hW0 hB0 ht
 go_enter Tryz.func26, Tryz.ntmps26
 go_upto_region 1 with fail
 rw [HW.out]
 clear HW
 obtain ⟨a0, a1, a2, a3, a4⟩ := hA0.cells5
 have hz0 := hA0.lt
 go_upto_region 3 with (go_at_call 15; refine HC.out.mono ?_; rintro e w1 ⟨rv, bb, rfl, hbb, ht1, hb1⟩; obtain ⟨rk, rn, rS, rpl, rnl, rcl, rpm, rnm, rcm⟩ := rv)
 have hz1 := hb1.size
 have hb2 : Below W0.heap.size W0 (w1.alloc (.cells #[.int .i64 rk, .int .i64 rn, .string rS, .slice rpl rnl rcl, .slice rpm rnm rcm] 25)) := hb1.alloc hz1 _
 have hv2 : VAt (w1.alloc (.cells #[.int .i64 rk, .int .i64 rn, .string rS, .slice rpl rnl rcl, .slice rpm rnm rcm] 25)) w1.heap.size ⟨rk, rn, rS, rpl, rnl, rcl, rpm, rnm, rcm⟩ := heap_alloc_at rfl
 have ht2 := ht1.under ((Below.refl B w1).alloc (Nat.le_trans (Nat.le_trans hBw hw0) hz1) (.cells #[.int .i64 rk, .int .i64 rn, .string rS, .slice rpl rnl rcl, .slice rpm rnm rcm] 25)) (Nat.le_refl _)
 obtain ⟨g, hg⟩ : ∃ g, w1.heap.size = g := ⟨_, rfl⟩
 obtain ⟨W2, hW2⟩ : ∃ W, w1.alloc (.cells #[.int .i64 rk, .int .i64 rn, .string rS, .slice rpl rnl rcl, .slice rpm rnm rcm] 25) = W := ⟨_, rfl⟩
 rw [hW2] at hb2 hv2 ht2
 rw [hg] at hv2
 try rw [hW2]
 try rw [hg]
 obtain ⟨v0, v1, v2, v3, v4⟩ := hv2.cells5
 dsimp only at v0 v1 v2 v3 v4
 have b0 := bcs hb2 hz0 a0
 have b1 := bcs hb2 hz0 a1
 have b2 := bcs hb2 hz0 a2
 have b3 := bcs hb2 hz0 a3
 have b4 := bcs hb2 hz0 a4
 have hbw := HB0.out.trans (hb2.mono hw0)
 have HX := Lib.hid hbw
 have hw2 := hbw.size
 have hBw2 : B <= W2.heap.size := Nat.le_trans hBw hw2
 have HT2 := Lib.hid ht2
 clear hW2 hg hb1 ht1 hb2 hv2 hz1 hbw ht2 a0 a1 a2 a3 a4 hbb
 have HR3 : Hid (Rd (W2.alloc (.cells #[.string svNote] 9)) (W2.alloc (.cells #[.string svNote] 9)).heap.size encS 1 (.slice (some ⟨W2.heap.size, 0, none⟩) 1 1) [svNote]) := (Own.block (xs := [svNote]) (base := W2.heap.size) codecS (heap_alloc_at rfl) rfl rfl (Nat.le_refl _) (by decide)).rd codecS
 have HB3 := Lib.hid (HX.out.alloc hw2 (.cells #[.string svNote] 9))
 have HNC := Lib.hid (HNM.out _ HB3.out _ _ _ HR3.out)
 try unfold svNote at HR3 HB3 HNC
 try unfold svNotes at HR3 HB3 HNC
 go_wp2_with (go_at_call 57; (with_reducible refine HNC.out.mono ?_); rintro e w3 ⟨u3, rfl, ho3, hb3⟩)
 go_ret
 exact ⟨u3, rfl, ho3.mono HB3.out.size, HB3.out.trans (hb3.mono HB3.out.size)⟩
theorem stx_none (t : JV) (r : RV) (f : ByteArray) (w : World) (B : Nat) (hBw : B <= w.heap.size) (ht : TreeOf w B t r) (ot : t.Ok) (hct : countT t <= 100000) (n0 : f ≠ nameN) (n1 : f ≠ givenN) (n2 : f ≠ surN) (n3 : f ≠ sur2N) (n4 : f ≠ svNick) (n5 : f ≠ svOrg) (n6 : f ≠ svEmail) (n7 : f ≠ svPhone) (n8 : f ≠ svOnline) (n9 : f ≠ svAddr) (n10 : f ≠ svNote) (n11 : f ≠ svText) :
 Calls Tryz.prog 26 #[r.val, .string f] w (OwnRet w 9 encS 1 []) := by
 obtain ⟨W0, hW0⟩ : ∃ W0, w.alloc r.obj = W0 := ⟨_, rfl⟩
 have hA0 : VAt W0 w.heap.size r := by rw [<- hW0]; exact heap_alloc_at rfl
 have hB0 : Below w.heap.size w W0 := by rw [<- hW0]; exact (Below.refl _ _).alloc (Nat.le_refl _) _
 have HC : Hid (Calls Tryz.prog 15 #[r.val, .string nameN] W0 (GetRetB W0 B (t.get nameN))) := getB_any t r nameN W0 B (Nat.le_trans hBw hB0.size) (ht.under (hB0.mono hBw) (Nat.le_refl _)) ot
 have hw0 := hB0.size
 have HTR : Hid (∀ W, Below w.heap.size w W -> TreeOf W B t r) := fun W hW => ht.under (hW.mono hBw) (Nat.le_refl _)
 have qn0 : (f.toList == [110, 97, 109, 101]) = false := by rw [<- bytes_dec]; exact decide_eq_false n0
 have qn1 : (f.toList == [110, 97, 109, 101, 47, 103, 105, 118, 101, 110]) = false := by rw [<- bytes_dec]; exact decide_eq_false n1
 have qn2 : (f.toList == [110, 97, 109, 101, 47, 115, 117, 114, 110, 97, 109, 101]) = false := by rw [<- bytes_dec]; exact decide_eq_false n2
 have qn3 : (f.toList == [110, 97, 109, 101, 47, 115, 117, 114, 110, 97, 109, 101, 50]) = false := by rw [<- bytes_dec]; exact decide_eq_false n3
 have qn4 : (f.toList == [110, 105, 99, 107, 110, 97, 109, 101]) = false := by rw [<- bytes_dec]; exact decide_eq_false n4
 have qn5 : (f.toList == [111, 114, 103, 97, 110, 105, 122, 97, 116, 105, 111, 110]) = false := by rw [<- bytes_dec]; exact decide_eq_false n5
 have qn6 : (f.toList == [101, 109, 97, 105, 108]) = false := by rw [<- bytes_dec]; exact decide_eq_false n6
 have qn7 : (f.toList == [112, 104, 111, 110, 101]) = false := by rw [<- bytes_dec]; exact decide_eq_false n7
 have qn8 : (f.toList == [111, 110, 108, 105, 110, 101, 83, 101, 114, 118, 105, 99, 101]) = false := by rw [<- bytes_dec]; exact decide_eq_false n8
 have qn9 : (f.toList == [97, 100, 100, 114, 101, 115, 115]) = false := by rw [<- bytes_dec]; exact decide_eq_false n9
 have qn10 : (f.toList == [110, 111, 116, 101]) = false := by rw [<- bytes_dec]; exact decide_eq_false n10
 have qn11 : (f.toList == [116, 101, 120, 116]) = false := by rw [<- bytes_dec]; exact decide_eq_false n11
 obtain ⟨k, n, s, pl, nl, cl, pm, nm, cm⟩ := r
 dsimp only [RV.val, RV.obj] at *
 have HW := Lib.hid hW0
 have HB0 := Lib.hid hB0
 unfold nameN at HC
 clear n0 n1 n2 n3 n4 n5 n6 n7 n8 n9 n10 n11
 clear hW0 hB0 ht
 go_enter Tryz.func26, Tryz.ntmps26
 go_upto_region 1 with fail
 rw [HW.out]
 clear HW
 obtain ⟨a0, a1, a2, a3, a4⟩ := hA0.cells5
 have hz0 := hA0.lt
 go_upto_region 3 with (go_at_call 15; refine HC.out.mono ?_; rintro e w1 ⟨rv, bb, rfl, hbb, ht1, hb1⟩; obtain ⟨rk, rn, rS, rpl, rnl, rcl, rpm, rnm, rcm⟩ := rv)
 have hz1 := hb1.size
 have hb2 : Below W0.heap.size W0 (w1.alloc (.cells #[.int .i64 rk, .int .i64 rn, .string rS, .slice rpl rnl rcl, .slice rpm rnm rcm] 25)) := hb1.alloc hz1 _
 have hv2 : VAt (w1.alloc (.cells #[.int .i64 rk, .int .i64 rn, .string rS, .slice rpl rnl rcl, .slice rpm rnm rcm] 25)) w1.heap.size ⟨rk, rn, rS, rpl, rnl, rcl, rpm, rnm, rcm⟩ := heap_alloc_at rfl
 have ht2 := ht1.under ((Below.refl B w1).alloc (Nat.le_trans (Nat.le_trans hBw hw0) hz1) (.cells #[.int .i64 rk, .int .i64 rn, .string rS, .slice rpl rnl rcl, .slice rpm rnm rcm] 25)) (Nat.le_refl _)
 obtain ⟨g, hg⟩ : ∃ g, w1.heap.size = g := ⟨_, rfl⟩
 obtain ⟨W2, hW2⟩ : ∃ W, w1.alloc (.cells #[.int .i64 rk, .int .i64 rn, .string rS, .slice rpl rnl rcl, .slice rpm rnm rcm] 25) = W := ⟨_, rfl⟩
 rw [hW2] at hb2 hv2 ht2
 rw [hg] at hv2
 try rw [hW2]
 try rw [hg]
 obtain ⟨v0, v1, v2, v3, v4⟩ := hv2.cells5
 dsimp only at v0 v1 v2 v3 v4
 have b0 := bcs hb2 hz0 a0
 have b1 := bcs hb2 hz0 a1
 have b2 := bcs hb2 hz0 a2
 have b3 := bcs hb2 hz0 a3
 have b4 := bcs hb2 hz0 a4
 have hbw := HB0.out.trans (hb2.mono hw0)
 have HX := Lib.hid hbw
 have hw2 := hbw.size
 have hBw2 : B <= W2.heap.size := Nat.le_trans hBw hw2
 have HT2 := Lib.hid ht2
 clear hW2 hg hb1 ht1 hb2 hv2 hz1 hbw ht2 a0 a1 a2 a3 a4 hbb
 go_wp2_with fail
 go_ret
 exact ⟨_, rfl, Own.nil _ _ _, HX.out⟩
end
section
def mOf (m : List (ByteArray × JV)) (n : ByteArray) : Option JV := (m.find? (fun p => decide (p.1 = n))).map (·.2)
end
section
open Go Go.RowKit
def isM (t : Tok) (c : UInt8) : Bool := decide (t.kind = 1) && decide (t.s = ⟨#[c]⟩)
def bareJ (k n : Int) : JV := .mk k n ⟨#[]⟩ [] []
mutual
def parV : Nat -> Nat -> Nat -> List Tok -> Option (JV × Nat × List Tok)
 | 0, _, _, _ => none
 | _ + 1, _, _, [] => none
 | f + 1, deep, parts, t :: ts =>
   if 16 < deep \/ 8192 <= parts then none
   else if t.kind = 4 then some (.mk 4 0 t.s [] [], parts + 1, ts)
   else if t.kind = 2 then if t.s = wNull then some (bareJ 1 0, parts + 1, ts) else if t.s = wTrue then some (bareJ 2 1, parts + 1, ts) else some (bareJ 2 0, parts + 1, ts)
   else if isM t 91 then
    match ts with
    | [] => none
    | c :: r => if isM c 93 then some (.mk 5 0 ⟨#[]⟩ [] [], parts + 1, r) else (parL f deep (parts + 1) (c :: r)).map (fun x => (.mk 5 0 ⟨#[]⟩ x.1 [], x.2.1, x.2.2))
   else if isM t 123 then
    match ts with
    | [] => none
    | c :: r => if isM c 125 then some (.mk 6 0 ⟨#[]⟩ [] [], parts + 1, r) else (parM f deep (parts + 1) [] (c :: r)).map (fun x => (.mk 6 0 ⟨#[]⟩ [] x.1, x.2.1, x.2.2))
   else if t.kind = 3 then some (bareJ 3 t.n, parts + 1, ts)
   else none
def parL : Nat -> Nat -> Nat -> List Tok -> Option (List JV × Nat × List Tok)
 | 0, _, _, _ => none
 | f + 1, deep, parts, ts =>
   match parV f (deep + 1) parts ts with
   | some (v, p, c :: r) => if isM c 93 then some ([v], p, r) else if isM c 44 then (parL f deep p r).map (fun x => (v :: x.1, x.2.1, x.2.2)) else none
   | _ => none
def parM : Nat -> Nat -> Nat -> List ByteArray -> List Tok -> Option (List (ByteArray × JV) × Nat × List Tok)
 | f + 1, deep, parts, known, n :: col :: ts =>
   if (decide (n.kind = 4) && !(known.any (fun x => decide (x = n.s))) && decide (n.s.size <= 1048576) && isM col 58) = true then
    match parV f (deep + 1) parts ts with
    | some (v, p, c :: r) => if isM c 125 then some ([(n.s, v)], p, r) else if isM c 44 then (parM f deep p (n.s :: known) r).map (fun x => ((n.s, v) :: x.1, x.2.1, x.2.2)) else none
    | _ => none
   else none
 | _, _, _, _, _ => none
end
def readF (s : ByteArray) : Option JV := match toksF s (s.size + 1) 0 with
 | none => none
 | some ts => match parV (ts.length + 1) 1 0 ts with
   | some (v, _, []) => some v
   | _ => none
end
section
open Go.RowKit Go.OpenShut
section
variable {P : Program} (w : World) {ops : Array Oper} {rest : List Oper} {o : Oper} {a : Act} {Q : Exit -> Act -> World -> Prop}
end
theorem bytes_ext {a b : ByteArray} (h : a.data.toList = b.data.toList) : a = b := by
 obtain ⟨⟨x⟩⟩ := a
 obtain ⟨⟨y⟩⟩ := b
 simp only at h
 rw [h]
end
end Go.Proofs.YtffhccmppdgmfaaGreatDoor
