import Derived.Test.YtjhginendpjimaaGreatDoorB21
import Derived.Test.YtjhginendpjimaaGreatDoorB11
import Derived.Sort.WalkB2
import Derived.Sort.WalkB12
import Derived.Deep.LoopGhost
import Derived.Lib.Hide
set_option linter.unusedSimpArgs false
set_option linter.unusedVariables false
set_option maxRecDepth 200000
set_option maxHeartbeats 8000000
namespace Go.Proofs.YtjhginendpjimaaGreatDoor
section
open Go Go.RowKit Go.OpenShut
def encC (c : CmpD) : List Value := [.string c.prop, .bool c.down]
theorem codecC : Codec encC 2 := ⟨fun _ => rfl, fun x u hu => by
 simp only [encC, List.mem_cons, List.not_mem_nil, or_false] at hu
 rcases hu with rfl | rfl <;> rfl, by decide⟩
def PropOk (p : ByteArray) : Prop := datedB p = true \/ p = givenN \/ p = surN \/ p = sur2N
abbrev RM.ooj (r : RM) : Obj := .cells #[.string r.name, .int .i64 r.v.k, .int .i64 r.v.n, .string r.v.s, .slice r.v.pl r.v.nl r.v.cl, .slice r.v.pm r.v.nm r.v.cm] 36
def OAt (W : World) (g : Nat) (r : RM) : Prop := W.heap[g]? = some (.cells #[.string r.name, .int .i64 r.v.k, .int .i64 r.v.n, .string r.v.s, .slice r.v.pl r.v.nl r.v.cl, .slice r.v.pm r.v.nm r.v.cm] 36 (0, 0))
theorem OAt.cell {W : World} {g : Nat} {r : RM} (h : OAt W g r) (j : Nat) {v : Value} (hv : (#[.string r.name, .int .i64 r.v.k, .int .i64 r.v.n, .string r.v.s, .slice r.v.pl r.v.nl r.v.cl, .slice r.v.pm r.v.nm r.v.cm] : Array Value)[j]? = some v) : W.cell? ⟨g, j, none⟩ = some v := (cell_of_row W g j _ _ _ h).trans hv
theorem OAt.cells6 {W : World} {g : Nat} {r : RM} (h : OAt W g r) : W.cell? ⟨g, 0, none⟩ = some (.string r.name) /\ W.cell? ⟨g, 1, none⟩ = some (.int .i64 r.v.k) /\ W.cell? ⟨g, 2, none⟩ = some (.int .i64 r.v.n) /\ W.cell? ⟨g, 3, none⟩ = some (.string r.v.s) /\ W.cell? ⟨g, 4, none⟩ = some (.slice r.v.pl r.v.nl r.v.cl) /\ W.cell? ⟨g, 5, none⟩ = some (.slice r.v.pm r.v.nm r.v.cm) := ⟨h.cell 0 rfl, h.cell 1 rfl, h.cell 2 rfl, h.cell 3 rfl, h.cell 4 rfl, h.cell 5 rfl⟩
theorem OAt.under {W W' : World} {g B : Nat} {r : RM} (h : OAt W g r) (hb : Below B W W') (hg : g < B) : OAt W' g r := (hb.block g hg).trans h
theorem OAt.lt {W : World} {g : Nat} {r : RM} (h : OAt W g r) : g < W.heap.size := (Array.getElem?_eq_some_iff.1 h).1
theorem bytesLess_cmp : ∀ a b : List UInt8, Op.bytesLess a b = decide (Go.Lib.compareBytes a b < 0)
 | [], [] => by decide
 | [], _ :: _ => by unfold Op.bytesLess; exact (decide_eq_true (show (-1 : Int) < 0 by decide)).symm
 | _ :: _, [] => by unfold Op.bytesLess; exact (decide_eq_false (show ¬ (1 : Int) < 0 by decide)).symm
 | x :: a, y :: b => by
   have ih := bytesLess_cmp a b
   unfold Op.bytesLess Go.Lib.compareBytes
   by_cases h : x < y
   ·rw [if_pos h, decide_eq_true h]
    rfl
   ·rw [if_neg h, decide_eq_false h]
    by_cases h2 : y < x
    ·have hne : x ≠ y := fun e => by rw [e] at h2; exact UInt8.lt_irrefl _ h2
     rw [if_pos h2]
     have : (x == y) = false := by simpa using hne
     rw [this]
     rfl
    ·have he : x = y := UInt8.le_antisymm (UInt8.not_lt.1 h2) (UInt8.not_lt.1 h)
     rw [if_neg h2]
     subst he
     rw [ih]
     simp
theorem ahead_any (cs : List CmpD) (hcs : ∀ (i : Nat) c, cs[i]? = some c -> PropOk c.prop) (hcn : cs.length <= 1000000000000) (pc : Option Addr) (nc cc : Nat) (a b : ByteArray × JV) (ra rb : RM) (w : World) (B : Nat) (hBw : B <= w.heap.size) (hr : Rd w B encC 2 (.slice pc nc cc) cs)
 (ha : ra.name = a.1 /\ TreeOf w B a.2 ra.v) (oa : a.2.Ok) (hb : rb.name = b.1 /\ TreeOf w B b.2 rb.v) (ob : b.2.Ok) :
 Calls Tryz.prog 35 #[.slice pc nc cc, ra.val, rb.val] w fun e w' => e = .returned (.bool (aheadJ cs a b)) /\ Below w.heap.size w w' := by
 obtain ⟨W0, hW0⟩ : ∃ W0, (w.alloc ra.ooj).alloc rb.ooj = W0 := ⟨_, rfl⟩
 have hA0 : OAt W0 w.heap.size ra := by rw [<- hW0]; exact heap_alloc_lt (by simp) (heap_alloc_at rfl)
 have hQ0 : OAt W0 (w.heap.size + 1) rb := by rw [<- hW0]; exact heap_alloc_at (by simp)
 have hB0 : Below w.heap.size w W0 := by rw [<- hW0]; exact below2 w _ _
 have hn := rd_nlen hr
 have HRD := Lib.hid (hr.below (hB0.mono hBw) (Nat.le_refl B))
 have hw0 := hB0.size
 have HTA := Lib.hid (ha.2.under (hB0.mono hBw) (Nat.le_refl B))
 have HTB := Lib.hid (hb.2.under (hB0.mono hBw) (Nat.le_refl B))
 have HNA := Lib.hid (And.intro ha.1 hb.1)
 have HOK := Lib.hid (And.intro oa ob)
 have HCS := Lib.hid hcs
 have HN : Hid (cs.length = nc) := hn.symm
 have hno : nc <= 1000000000000 := by omega
 obtain ⟨na, ⟨k, n, s, pl, nl, cl, pm, nm, cm⟩⟩ := ra
 obtain ⟨nb, ⟨qk, qn, qs, qpl, qnl, qcl, qpm, qnm, qcm⟩⟩ := rb
 dsimp only [RM.val, RM.ooj] at *
 have HW := Lib.hid hW0
 have HB0 := Lib.hid hB0
 clear hW0 hB0 ha hb oa ob hr hcs hcn hn
 have hq0 := hQ0.lt
 go_enter Tryz.func35, Tryz.ntmps35
 go_upto_region 1 with fail
 rw [HW.out]
 clear HW
 go_wp2_with fail
 go_loopw [12] (fun i wr => ∃ j : Nat, j <= nc /\ i = .int .i64 (j : Int) /\ Hid (cmpO cs a b = cmpO (cs.drop j) a b /\ Below W0.heap.size W0 wr)) (fun i _ => nc - (intOf i).toNat)
 case atStart => exact ⟨0, by omega, rfl, by rw [List.drop_zero], Below.refl _ _⟩
 case round =>
  obtain ⟨j, hj, rfl, hH⟩ := hrel
  obtain ⟨hcm, hbr⟩ := hH.out
  clear hH
  have hA1 := hA0.under hbr (Nat.lt_of_succ_lt hq0)
  have hQ1 := hQ0.under hbr hq0
  by_cases hlt : j < nc
  ·obtain ⟨⟨cp, cd⟩, hc⟩ : ∃ c, cs[j]? = some c := ⟨_, List.getElem?_eq_getElem (by have := HN.out; omega)⟩
   have hpo := HCS.out j _ hc
   dsimp only at hpo
   have hdr : cs.drop j = ⟨cp, cd⟩ :: cs.drop (j + 1) := by
    obtain ⟨h1, h2⟩ := List.getElem?_eq_some_iff.1 hc
    rw [List.drop_eq_getElem_cons h1, h2]
   rw [hdr] at hcm
   have HCM : Hid (cmpO cs a b = if cmpK ⟨cp, cd⟩ a.2 b.2 ≠ 0 then cmpK ⟨cp, cd⟩ a.2 b.2 else cmpO (cs.drop (j + 1)) a b) := hcm
   obtain ⟨b1, o1, rfl, hb1, hc1⟩ := rd_at' (HRD.out.below (hbr.mono (Nat.le_trans hBw hw0)) (Nat.le_refl _)) hc
   have f0 := hc1 0 _ rfl
   have f1 := hc1 1 _ rfl
   rw [Nat.add_zero] at f0
   dsimp only at f0 f1
   have hj0 : (0 : Int) <= (j : Int) := Int.natCast_nonneg _
   have hj1 : (j : Int) < (nc : Int) := by omega
   have hz1 := hbr.size
   have hbA : Below W0.heap.size W0 (wr.alloc (.cells #[.string cp, .bool cd] 102)) := hbr.alloc hz1 _
   have HCC := Lib.hid (rkcomp_any cp cd hpo a.2 b.2 ⟨k, n, s, pl, nl, cl, pm, nm, cm⟩ ⟨qk, qn, qs, qpl, qnl, qcl, qpm, qnm, qcm⟩ (wr.alloc (.cells #[.string cp, .bool cd] 102)) B (Nat.le_trans (Nat.le_trans hBw hw0) hbA.size) (HTA.out.under (hbA.mono (Nat.le_trans hBw hw0)) (Nat.le_refl _)) HOK.out.1 (HTB.out.under (hbA.mono (Nat.le_trans hBw hw0)) (Nat.le_refl _)) HOK.out.2)
   obtain ⟨x, hx⟩ : ∃ x, cmpK ⟨cp, cd⟩ a.2 b.2 = x := ⟨_, rfl⟩
   rw [hx] at HCC HCM
   have hA2 := hA1.under ((Below.refl _ _).alloc (Nat.le_refl _) (.cells #[.string cp, .bool cd] 102)) hA1.lt
   have hQ2 := hQ1.under ((Below.refl _ _).alloc (Nat.le_refl _) (.cells #[.string cp, .bool cd] 102)) hQ1.lt
   have HX := Lib.hid hbA
   have hcv : (wr.alloc (.cells #[.string cp, .bool cd] 102)).heap[wr.heap.size]? = some (.cells #[.string cp, .bool cd] 102 (0, 0)) := heap_alloc_at rfl
   go_upto_region 4 with fail
   obtain ⟨W1, hW1⟩ : ∃ W, wr.alloc (.cells #[.string cp, .bool cd] 102) = W := ⟨_, rfl⟩
   obtain ⟨g8, hg8⟩ : ∃ g, wr.heap.size = g := ⟨_, rfl⟩
   rw [hW1] at HCC HX hA2 hQ2 hcv
   rw [hg8] at hcv
   try rw [hW1]
   try rw [hg8]
   obtain ⟨a0, a1, a2, a3, a4, a5⟩ := hA2.cells6
   obtain ⟨q0, q1, q2, q3, q4, q5⟩ := hQ2.cells6
   dsimp only at a0 a1 a2 a3 a4 a5 q0 q1 q2 q3 q4 q5
   have v0 : W1.cell? ⟨g8, 0, none⟩ = some (.string cp) := (cell_of_row W1 g8 0 _ _ _ hcv).trans rfl
   have v1 : W1.cell? ⟨g8, 1, none⟩ = some (.bool cd) := (cell_of_row W1 g8 1 _ _ _ hcv).trans rfl
   have hz2 : W0.heap.size <= W1.heap.size := HX.out.size
   clear hW1 hg8 hbA hA1 hQ1 hA2 hQ2 hcv hbr hc1 hcm hx hc hdr hpo
   go_upto_region 5 with (go_at_call 58; (with_reducible refine HCC.out.mono ?_); rintro e w2 ⟨rfl, hb2⟩)
   by_cases hx0 : x = 0
   ·subst hx0
    have HC2 : Hid (cmpO cs a b = cmpO (cs.drop (j + 1)) a b) := HCM.out.trans (if_neg (by simp))
    go_wp2_with fail
    go_roundw
    case rel => exact ⟨j + 1, by omega, by go_num, HC2.out, HX.out.trans (hb2.mono hz2)⟩
    case measure => simp [intOf]; omega
   ·have r1 : (x == 0) = false := by simpa using hx0
    have r2 : (x != 0) = true := by simpa using hx0
    have HC2 : Hid (cmpO cs a b = x) := HCM.out.trans (if_pos hx0)
    go_wp2_with fail
    go_ret
    exact ⟨by unfold aheadJ; rw [HC2.out]; rfl, HB0.out.trans ((HX.out.trans (hb2.mono hz2)).mono hw0)⟩
  ·obtain rfl : j = nc := by omega
   have HE : Hid (cmpO cs a b = Go.Lib.compareBytes a.1.data.toList b.1.data.toList) := by
    unfold Hid
    rw [hcm, List.drop_eq_nil_of_le (by have := HN.out; omega)]
    rfl
   have HX := Lib.hid (HB0.out.trans (hbr.mono hw0))
   obtain ⟨a0, a1, a2, a3, a4, a5⟩ := hA1.cells6
   obtain ⟨q0, q1, q2, q3, q4, q5⟩ := hQ1.cells6
   dsimp only at a0 a1 a2 a3 a4 a5 q0 q1 q2 q3 q4 q5
   clear hbr hcm hA1 hQ1
   go_wp2_with fail
   go_ret
   refine ⟨?_, HX.out⟩
   unfold aheadJ
   rw [HE.out, <- bytesLess_cmp, ByteArray.toList_eq, ByteArray.toList_eq, <- HNA.out.1, <- HNA.out.2]
   rfl
def dRM : RM := ⟨⟨#[]⟩, ⟨0, 0, ⟨#[]⟩, none, 0, 0, none, 0, 0⟩⟩
def dO : ByteArray × JV := (⟨#[]⟩, zeroJ)
def encQ (rs : List RM) (i : Nat) : List Value := [.string (rs.getD i dRM).name, .int .i64 (rs.getD i dRM).v.k, .int .i64 (rs.getD i dRM).v.n, .string (rs.getD i dRM).v.s, .slice (rs.getD i dRM).v.pl (rs.getD i dRM).v.nl (rs.getD i dRM).v.cl, .slice (rs.getD i dRM).v.pm (rs.getD i dRM).v.nm (rs.getD i dRM).v.cm, .int .i64 (i : Int)]
theorem codecQ (rs : List RM) : Codec (encQ rs) 7 := ⟨fun _ => rfl, fun x u hu => by
 simp only [encQ, List.mem_cons, List.not_mem_nil, or_false] at hu
 rcases hu with rfl | rfl | rfl | rfl | rfl | rfl | rfl <;> rfl, by decide⟩
def cmpQ (cs : List CmpD) (os : List (ByteArray × JV)) (i j : Nat) : Int := if cmpO cs (os.getD i dO) (os.getD j dO) ≠ 0 then cmpO cs (os.getD i dO) (os.getD j dO) else (i : Int) - (j : Int)
def ltQ (cs : List CmpD) (os : List (ByteArray × JV)) (i j : Nat) : Bool := decide (cmpQ cs os i j < 0)
theorem cmpNat_ok : CmpOk (fun i j : Nat => (i : Int) - (j : Int)) := ⟨fun x => by omega, fun x y => by omega, fun x y z a b => by omega⟩
theorem cmpQ_ok (cs : List CmpD) (os : List (ByteArray × JV)) : CmpOk (cmpQ cs os) := ((cmpO_ok cs).on (fun i : Nat => os.getD i dO)).lex cmpNat_ok
theorem ltQ_ok (cs : List CmpD) (os : List (ByteArray × JV)) : LtOk (ltQ cs os) := (cmpQ_ok cs os).lt
theorem cmpQ_eq {cs : List CmpD} {os : List (ByteArray × JV)} {i j : Nat} (h1 : ltQ cs os i j = false) (h2 : ltQ cs os j i = false) : i = j := by
 have a := of_decide_eq_false h1
 have b := of_decide_eq_false h2
 have h3 := (cmpQ_ok cs os).anti i j
 have h0 : cmpQ cs os i j = 0 := by omega
 unfold cmpQ at h0
 split at h0
 ·contradiction
 ·omega
theorem ltQ_less (cs : List CmpD) (os : List (ByteArray × JV)) (i j : Nat) : ltQ cs os i j = (aheadJ cs (os.getD i dO) (os.getD j dO) || (!aheadJ cs (os.getD j dO) (os.getD i dO) && decide ((i : Int) < (j : Int)))) := by
 have h := (cmpO_ok cs).anti (os.getD i dO) (os.getD j dO)
 unfold ltQ cmpQ aheadJ
 rcases Int.lt_trichotomy (cmpO cs (os.getD i dO) (os.getD j dO)) 0 with h1 | h1 | h1
 ·rw [if_pos (by omega), decide_eq_true h1]; rfl
 ·rw [if_neg (by omega), h, h1]
  simp
  omega
 ·rw [if_pos (by omega), decide_eq_false (by omega), decide_eq_true (by omega)]; rfl
structure QEnv (w : World) (B : Nat) (cs : List CmpD) (os : List (ByteArray × JV)) (rs : List RM) (pc : Option Addr) (nc cc : Nat) : Prop where
 rd : Rd w B encC 2 (.slice pc nc cc) cs
 pok : ∀ (i : Nat) c, cs[i]? = some c -> PropOk c.prop
 few : cs.length <= 1000000000000
 len : rs.length = os.length
 obj : ∀ i, i < rs.length -> (rs.getD i dRM).name = (os.getD i dO).1 /\ TreeOf w B (os.getD i dO).2 (rs.getD i dRM).v /\ (os.getD i dO).2.Ok
theorem QEnv.below {w w' : World} {B : Nat} {cs : List CmpD} {os : List (ByteArray × JV)} {rs : List RM} {pc : Option Addr} {nc cc : Nat} (h : QEnv w B cs os rs pc nc cc) (hb : Below B w w') : QEnv w' B cs os rs pc nc cc :=
 ⟨h.rd.below hb (Nat.le_refl _), h.pok, h.few, h.len, fun i hi => ⟨(h.obj i hi).1, (h.obj i hi).2.1.under hb (Nat.le_refl _), (h.obj i hi).2.2⟩⟩
structure QAt (W : World) (base q g cap : Nat) (rs : List RM) (pc : Option Addr) (nc cc : Nat) (xs : List Nat) : Prop where
 cell : W.heap[q]? = some (.cells #[.slice (some ⟨g, 0, none⟩) xs.length cap, .slice pc nc cc] 67 (0, 0))
 own : Own W base 69 (encQ rs) 7 (.slice (some ⟨g, 0, none⟩) xs.length cap) xs
 ne : q ≠ g
 lo : base <= q
 bnd : ∀ x ∈ xs, x < rs.length
theorem QAt.grown {W W' : World} {base q g cap : Nat} {rs : List RM} {pc : Option Addr} {nc cc : Nat} {xs : List Nat} (h : QAt W base q g cap rs pc nc cc xs) (hg : Below W.heap.size W W') : QAt W' base q g cap rs pc nc cc xs :=
 ⟨(hg.block q (Array.getElem?_eq_some_iff.1 h.cell).1).trans h.cell, h.own.below hg (Nat.le_refl _), h.ne, h.lo, h.bnd⟩
theorem QAt.glo {W : World} {base q g cap : Nat} {rs : List RM} {pc : Option Addr} {nc cc : Nat} {xs : List Nat} (h : QAt W base q g cap rs pc nc cc xs) : base <= g /\ g < W.heap.size := h.own.lt g rfl
theorem QAt.turned {W W' : World} {base q g cap : Nat} {rs : List RM} {pc : Option Addr} {nc cc : Nat} {xs ys : List Nat} (h : QAt W base q g cap rs pc nc cc xs) (hg : W.grownBy W' (some g)) (hl : ys.length = xs.length) (ho : Own W' base 69 (encQ rs) 7 (.slice (some ⟨g, 0, none⟩) xs.length cap) ys) (hb : ∀ y ∈ ys, y < rs.length) : QAt W' base q g cap rs pc nc cc ys :=
 ⟨by rw [hl]; exact (hg.block q (Array.getElem?_eq_some_iff.1 h.cell).1 (fun e => h.ne (Option.some.inj e))).trans h.cell, by rw [hl]; exact ho, h.ne, h.lo, hb⟩
theorem QAt.q0 {W : World} {base q g cap : Nat} {rs : List RM} {pc : Option Addr} {nc cc : Nat} {xs : List Nat} (h : QAt W base q g cap rs pc nc cc xs) : W.cell? ⟨q, 0, none⟩ = some (.slice (some ⟨g, 0, none⟩) xs.length cap) := (cell_of_row _ q 0 _ _ _ h.cell).trans rfl
theorem QAt.q1 {W : World} {base q g cap : Nat} {rs : List RM} {pc : Option Addr} {nc cc : Nat} {xs : List Nat} (h : QAt W base q g cap rs pc nc cc xs) : W.cell? ⟨q, 1, none⟩ = some (.slice pc nc cc) := (cell_of_row _ q 1 _ _ _ h.cell).trans rfl
theorem QAt.xlen {W : World} {base q g cap : Nat} {rs : List RM} {pc : Option Addr} {nc cc : Nat} {xs : List Nat} (h : QAt W base q g cap rs pc nc cc xs) : xs.length <= cap /\ cap <= maxLen := by
 obtain ⟨p, c, hv, h1, h2⟩ := h.own.len
 simp only [Value.slice.injEq] at hv
 obtain ⟨_, _, rfl⟩ := hv
 exact ⟨h1, h2⟩
theorem QAt.keep {W W' : World} {base q g cap : Nat} {rs : List RM} {pc : Option Addr} {nc cc : Nat} {xs : List Nat} (h : QAt W base q g cap rs pc nc cc xs) (hg : W.grownBy W' (some g)) {B : Nat} (hB : B <= base) : Below B W W' :=
 (Below.refl B W).grown hg (Nat.le_trans hB (Nat.le_trans h.glo.1 (Nat.le_of_lt h.glo.2))) (fun k e => by cases e; exact Nat.le_trans hB h.glo.1)
theorem swapL_set (xs : List Nat) {i j : Nat} {x y : Nat} (hi : xs[i]? = some x) (hj : xs[j]? = some y) : (xs.set i y).set j x = swapL xs i j (List.getElem?_eq_some_iff.1 hi).1 (List.getElem?_eq_some_iff.1 hj).1 := by
 obtain ⟨a, b⟩ := List.getElem?_eq_some_iff.1 hi
 obtain ⟨c, d⟩ := List.getElem?_eq_some_iff.1 hj
 unfold swapL
 rw [b, d]
theorem mth_lenL (q : Nat) (w : World) : Sem.run Tryz.prog (method 335 63 (.pointer (some ⟨q, 0, none⟩)) "Len") w = Sem.run Tryz.prog (do
 let (xt, x) <- follow [⟨67, 0, true⟩] 63 (.val (.pointer (some ⟨q, 0, none⟩)))
 pure (38, <- receiverAt xt x false none)) w := by kernel_rfl
theorem mth_swapL (q : Nat) (w : World) : Sem.run Tryz.prog (method 335 63 (.pointer (some ⟨q, 0, none⟩)) "Swap") w = Sem.run Tryz.prog (do
 let (xt, x) <- follow [⟨67, 0, true⟩] 63 (.val (.pointer (some ⟨q, 0, none⟩)))
 pure (192, <- receiverAt xt x false none)) w := by kernel_rfl
theorem mth_len (q : Nat) (w : World) (v : Value) (h : w.cell? ⟨q, 0, none⟩ = some v) : Sem.run Tryz.prog (method 335 63 (.pointer (some ⟨q, 0, none⟩)) "Len") w = .ok (38, v) w := by
 have hadd : (⟨q, 0, none⟩ : Addr).add 0 = ⟨q, 0, none⟩ := rfl
 have u67 := fun w => run_underlying (w := w) Tryz.underlying67
 have u65 := fun w => run_underlying (w := w) Tryz.underlying65
 rw [mth_lenL]
 simp [follow, receiverAt, Place.get, u67, u65, fieldPlace, loadVar, h, hadd, Tryz.isAgg65, Tryz.sizeOf65, asAddr]
theorem mth_swap (q : Nat) (w : World) (v : Value) (h : w.cell? ⟨q, 0, none⟩ = some v) : Sem.run Tryz.prog (method 335 63 (.pointer (some ⟨q, 0, none⟩)) "Swap") w = .ok (192, v) w := by
 have hadd : (⟨q, 0, none⟩ : Addr).add 0 = ⟨q, 0, none⟩ := rfl
 have u67 := fun w => run_underlying (w := w) Tryz.underlying67
 have u65 := fun w => run_underlying (w := w) Tryz.underlying65
 rw [mth_swapL]
 simp [follow, receiverAt, Place.get, u67, u65, fieldPlace, loadVar, h, hadd, Tryz.isAgg65, Tryz.sizeOf65, asAddr]
theorem mth_less (q : Nat) (w : World) : Sem.run Tryz.prog (method 335 63 (.pointer (some ⟨q, 0, none⟩)) "Less") w = .ok (190, .pointer (some ⟨q, 0, none⟩)) w := by kernel_rfl
theorem mth_pop (q : Nat) (w : World) : Sem.run Tryz.prog (method 335 63 (.pointer (some ⟨q, 0, none⟩)) "Pop") w = .ok (191, .pointer (some ⟨q, 0, none⟩)) w := by kernel_rfl
theorem qlen_any (p : Option Addr) (n c : Nat) (w : World) : Calls Tryz.prog 38 #[.slice p n c] w fun e w' => e = .returned (.int .i64 (n : Int)) /\ w = w' := by
 go_enter Tryz.func38, Tryz.ntmps38
 go_wp2_with fail
 go_ret
 exact ⟨rfl, rfl⟩
theorem qswap_gen {P : Program} {α : Type} {enc : α -> List Value} {k : Nat} (C : Codec enc k) (mixed : P.follows .mixedOrders = true) (FG : P.funcs[192]? = some Tryz.f192) (aE : ∀ w, (isAgg 69).run P w = .ok true w) (zE : ∀ w, (Go.sizeOf 69).run P w = .ok k w)
 (t0 : P.underlying 0 = some (TypeDesc.tuple #[])) (a0 : ∀ w, (isAgg 0).run P w = .ok false w) (z0 : ∀ w, (Go.sizeOf 0).run P w = .ok 1 w) (v0 : ∀ w, (zeroValue 0).run P w = .ok (Value.tuple #[]) w)
 (t3 : P.underlying 3 = some (TypeDesc.int IntKind.i64)) (a3 : ∀ w, (isAgg 3).run P w = .ok false w) (z3 : ∀ w, (Go.sizeOf 3).run P w = .ok 1 w) (v3 : ∀ w, (zeroValue 3).run P w = .ok (Value.int IntKind.i64 0) w)
 (tS : P.underlying 65 = some (TypeDesc.slice 69)) (aS : ∀ w, (isAgg 65).run P w = .ok false w) (zS : ∀ w, (Go.sizeOf 65).run P w = .ok 1 w) (vS : ∀ w, (zeroValue 65).run P w = .ok (Value.slice none 0 0) w)
 (xs : List α) (base g cap i j : Nat) (x y : α) (w : World) (hO : Own w base 69 enc k (.slice (some ⟨g, 0, none⟩) xs.length cap) xs) (hi : xs[i]? = some x) (hj : xs[j]? = some y) (hl : xs.length <= 9223372036854775807) :
 Calls P 192 #[.slice (some ⟨g, 0, none⟩) xs.length cap, .int .i64 (i : Int), .int .i64 (j : Int)] w fun e w' => e = .returned (.tuple #[]) /\ Own w' base 69 enc k (.slice (some ⟨g, 0, none⟩) xs.length cap) ((xs.set i y).set j x) /\ w.grownBy w' (some g) := by
 obtain ⟨s1, s2, o2, g2⟩ := Own.swapped C P hO.drewO hi hj
 have l1 := Own.loadRow C P hO.drewO hi
 have l2 := Own.loadRow C P hO.drewO hj
 have n1 : (enc x).length = k := C.len x
 have n2 : (enc y).length = k := C.len y
 have hi1 := (List.getElem?_eq_some_iff.1 hi).1
 have hj1 := (List.getElem?_eq_some_iff.1 hj).1
 have HP : Hid (Own ((w.drew.setCells g (i * k) (enc y)).setCells g (j * k) (enc x)) base 69 enc k (.slice (some ⟨g, 0, none⟩) xs.length cap) ((xs.set i y).set j x) /\ w.grownBy ((w.drew.setCells g (i * k) (enc y)).setCells g (j * k) (enc x)) (some g)) := ⟨o2, ⟨g2.os, g2.tape, g2.output, g2.size, g2.block⟩⟩
 obtain ⟨n, hn⟩ : ∃ n, xs.length = n := ⟨_, rfl⟩
 rw [hn] at hl hi1 hj1
 have HN := Lib.hid hn
 rw [hn]
 have i0 : (0 : Int) <= (i : Int) := Int.natCast_nonneg _
 have j0 : (0 : Int) <= (j : Int) := Int.natCast_nonneg _
 have i1 : (i : Int) < (n : Int) := by omega
 have j1 : (j : Int) < (n : Int) := by omega
 have ti : ((i : Int)).toNat = i := by omega
 have tj : ((j : Int)).toNat = j := by omega
 generalize enc x = cx at *
 generalize enc y = cy at *
 clear hO o2 g2 hi hj hn
 go_enter FG, Tryz.ntmps192
 go_wp2_with fail
 go_big_region_o
 go_wp2_with fail
 go_end0
 have h := HP.out
 rw [HN.out] at h
 exact ⟨rfl, h⟩
theorem qswap_any {α : Type} {enc : α -> List Value} (C : Codec enc 7) (xs : List α) (base g cap i j : Nat) (x y : α) (w : World) (hO : Own w base 69 enc 7 (.slice (some ⟨g, 0, none⟩) xs.length cap) xs) (hi : xs[i]? = some x) (hj : xs[j]? = some y) (hl : xs.length <= 9223372036854775807) :
 Calls Tryz.prog 192 #[.slice (some ⟨g, 0, none⟩) xs.length cap, .int .i64 (i : Int), .int .i64 (j : Int)] w fun e w' => e = .returned (.tuple #[]) /\ Own w' base 69 enc 7 (.slice (some ⟨g, 0, none⟩) xs.length cap) ((xs.set i y).set j x) /\ w.grownBy w' (some g) :=
 qswap_gen C (by kernel_rfl) Tryz.func192 Tryz.isAgg69 Tryz.sizeOf69 Tryz.underlying0 Tryz.isAgg0 Tryz.sizeOf0 Tryz.zeroValue0 Tryz.underlying3 Tryz.isAgg3 Tryz.sizeOf3 Tryz.zeroValue3 Tryz.underlying65 Tryz.isAgg65 Tryz.sizeOf65 Tryz.zeroValue65 xs base g cap i j x y w hO hi hj hl
end
section
open Go.RowKit Go.OpenShut
theorem KB.setV {W W' : World} (h : KB W.heap.size W W') (g : Nat) (q : RV) (hg : W.heap.size <= g) : KB W.heap.size W (((((W'.setCell ⟨g, 0, none⟩ (.int .i64 q.k)).setCell ⟨g, 1, none⟩ (.int .i64 q.n)).setCell ⟨g, 2, none⟩ (.string q.s)).setCell ⟨g, 3, none⟩ (.slice q.pl q.nl q.cl)).setCell ⟨g, 4, none⟩ (.slice q.pm q.nm q.cm)) :=
 KB.mk (Below.stored h.1 hg q)
theorem kt_drew (W : World) : Below W.heap.size W W.drew /\ ∀ b o, b < W.heap.size -> World.cell? W.drew ⟨b, o, none⟩ = W.cell? ⟨b, o, none⟩ := KB.drew W
theorem kt_da (W : World) (x : Obj) : Below W.heap.size W (W.alloc x).drew /\ ∀ b o, b < W.heap.size -> World.cell? (W.alloc x).drew ⟨b, o, none⟩ = W.cell? ⟨b, o, none⟩ := (KB.mk ((Below.refl _ _).alloc (Nat.le_refl _) x).drew : KB W.heap.size W (W.alloc x).drew)
theorem kt_same {W W' : World} (h : KB W.heap.size W W') : Below W.heap.size W W' /\ ∀ b o, b < W.heap.size -> World.cell? W' ⟨b, o, none⟩ = W.cell? ⟨b, o, none⟩ := h
theorem kt_alloc {W W' : World} (h : KB W.heap.size W W') (x : Obj) : Below W.heap.size W (W'.alloc x) /\ ∀ b o, b < W.heap.size -> World.cell? (W'.alloc x) ⟨b, o, none⟩ = W.cell? ⟨b, o, none⟩ := h.step ((Below.refl _ _).alloc (Nat.le_refl _) _)
theorem kt_setV {W W' : World} (h : KB W.heap.size W W') (g : Nat) (q : RV) (hg : W.heap.size <= g) : Below W.heap.size W (((((W'.setCell ⟨g, 0, none⟩ (.int .i64 q.k)).setCell ⟨g, 1, none⟩ (.int .i64 q.n)).setCell ⟨g, 2, none⟩ (.string q.s)).setCell ⟨g, 3, none⟩ (.slice q.pl q.nl q.cl)).setCell ⟨g, 4, none⟩ (.slice q.pm q.nm q.cm)) /\ ∀ b o, b < W.heap.size -> World.cell? (((((W'.setCell ⟨g, 0, none⟩ (.int .i64 q.k)).setCell ⟨g, 1, none⟩ (.int .i64 q.n)).setCell ⟨g, 2, none⟩ (.string q.s)).setCell ⟨g, 3, none⟩ (.slice q.pl q.nl q.cl)).setCell ⟨g, 4, none⟩ (.slice q.pm q.nm q.cm)) ⟨b, o, none⟩ = W.cell? ⟨b, o, none⟩ := h.setV g q hg
end
end Go.Proofs.YtjhginendpjimaaGreatDoor
