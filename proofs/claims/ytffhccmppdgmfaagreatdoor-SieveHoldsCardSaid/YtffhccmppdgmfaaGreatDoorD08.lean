import Derived.Test.YtffhccmppdgmfaaGreatDoorD03
import Derived.Test.YtffhccmppdgmfaaGreatDoorD00
import Derived.Test.YtffhccmppdgmfaaGreatDoorD07
import Derived.ProofKit
import Derived.Below
import Derived.Test.YtffhccmppdgmfaaGreatDoorD05
import Derived.Test.YtffhccmppdgmfaaGreatDoorD01
import Derived.Test.YtffhccmppdgmfaaGreatDoorD06
import Derived.Shelf.Slices.Turned
import Derived.Test.YtffhccmppdgmfaaGreatDoorProg
set_option linter.unusedSimpArgs false
set_option linter.unusedVariables false
set_option maxRecDepth 200000
set_option maxHeartbeats 8000000
namespace Go.Proofs.YtffhccmppdgmfaaGreatDoor
section
open Go Go.RowKit Go.ChangeShapes Go.WideShapes Go.Deep
structure BoxD where
 objs : List (ByteArray × JV)
 trail : List En
 seq : Int
 floor : Int
 keep : Int
structure RB where
 po : Option Addr
 no : Nat
 co : Nat
 pt : Option Addr
 nt : Nat
 ct : Nat
 sq : Int
 fl : Int
 kp : Int
abbrev RB.val (r : RB) : Value := .agg #[.slice r.po r.no r.co, .slice r.pt r.nt r.ct, .int .i64 r.sq, .int .i64 r.fl, .int .i64 r.kp]
def RB.zero : RB := ⟨none, 0, 0, none, 0, 0, 0, 0, 0⟩
def BoxD.zero : BoxD := ⟨[], [], 0, 0, 0⟩
def ObjsOf (w : World) (B : Nat) (os : List (ByteArray × JV)) (v : Value) : Prop := ∃ ros, Rd w B encM 6 v ros /\ MemsOf w B os ros
theorem ObjsOf.under {w w' : World} {B B' : Nat} {os : List (ByteArray × JV)} {v : Value} (h : ObjsOf w B os v) (hb : Below B w w') (hB : B <= B') : ObjsOf w' B' os v := by
 obtain ⟨ros, h1, h2⟩ := h
 exact ⟨ros, h1.below hb hB, h2.under hb hB⟩
theorem ObjsOf.nil (w : World) (B : Nat) : ObjsOf w B [] (.slice none 0 0) := ⟨[], Rd.nil _ _, MemsOf.nil _ _⟩
theorem RdE.under {w w' : World} {B B' : Nat} {v : Value} {l : List En} (h : RdE w B v l) (hb : Below B w w') (hB : B <= B') : RdE w' B' v l :=
 rdE_iff.2 ⟨(rdE_iff.1 h).1, (rdE_iff.1 h).2.below hb hB⟩
theorem RdE.nil (w : World) (B : Nat) : RdE w B (.slice none 0 0) [] := rdE_iff.2 ⟨fun e h => by simp at h, Rd.nil _ _⟩
structure BoxOf (w : World) (B : Nat) (b : BoxD) (r : RB) : Prop where
 objs : ObjsOf w B b.objs (.slice r.po r.no r.co)
 trail : RdE w B (.slice r.pt r.nt r.ct) b.trail
 seq : b.seq = r.sq
 floor : b.floor = r.fl
 keep : b.keep = r.kp
theorem BoxOf.under {w w' : World} {B B' : Nat} {b : BoxD} {r : RB} (h : BoxOf w B b r) (hb : Below B w w') (hB : B <= B') : BoxOf w' B' b r :=
 ⟨h.objs.under hb hB, h.trail.under hb hB, h.seq, h.floor, h.keep⟩
theorem BoxOf.zero (w : World) (B : Nat) : BoxOf w B BoxD.zero RB.zero := ⟨ObjsOf.nil _ _, RdE.nil _ _, rfl, rfl, rfl⟩
structure BoxD.Ok (b : BoxD) : Prop where
 objs : b.objs.length <= 1466015503658
 each : ∀ p ∈ b.objs, p.1.size <= 140737488351232 /\ p.2.Ok
 trail : b.trail.length <= 4398046510976
 seq : (Lit.int .i64 b.seq).wf = true
 floor : (Lit.int .i64 b.floor).wf = true
 keep : (Lit.int .i64 b.keep).wf = true
section
variable {H : Type} {enc : TypeId × Value -> H} {W : World} {base b0 : Nat} {spare : Nat -> Bool} {held : Bool}
end
end
section
open Go Go.RowKit
section
variable {P : Program} {α : Type} {enc : α -> List Value} {sz bytes : Nat} {t e : TypeId}
theorem Own.take {w : World} {base : Nat} {p : Option Addr} {n cap : Nat} {xs : List α} (C : Codec enc sz) (h : Own w base e enc sz (.slice p n cap) xs) (m : Nat) (hm : m <= n) : Own w base e enc sz (.slice p m cap) (xs.take m) := by
 obtain ⟨hl, h⟩ := h
 rcases h with ⟨hv, hn⟩ | ⟨g, cap', cur, hv, hg, hh, hnc, hcm, hcs, ht⟩
 ·simp only [Value.slice.injEq] at hv
  obtain ⟨rfl, rfl, rfl⟩ := hv
  obtain rfl : m = 0 := by omega
  rw [List.take_zero]
  exact Own.nil w base e
 ·simp only [Value.slice.injEq] at hv
  obtain ⟨rfl, rfl, rfl⟩ := hv
  have hlen : (xs.take m).length = m := by rw [List.length_take]; omega
  refine ⟨cellsOf_len C _, .inr ⟨g, cap, cur, by rw [hlen], hg, hh, by omega, hcm, hcs, ?_⟩⟩
  rw [hlen]
  have h1 : cellsOf enc xs = cellsOf enc (xs.take m) ++ cellsOf enc (xs.drop m) := by rw [<- cellsOf_append, List.take_append_drop]
  have h2 : cur.toList.take (m * sz) = (cur.toList.take (xs.length * sz)).take (m * sz) := by
   rw [List.take_take, Nat.min_eq_left (Nat.mul_le_mul_right _ hm)]
  rw [h2, ht, h1]
  have h3 : (cellsOf enc (xs.take m)).length = m * sz := by rw [cellsOf_len C, hlen]
  rw [<- h3, List.take_left]
end
end
section
open Go.RowKit Go.OpenShut
def nameB (name : ByteArray) (x : RM) : Bool := decide (x.name = name)
def MAt (W : World) (g : Nat) (x : RM) : Prop := W.heap[g]? = some (.cells #[.string x.name, .int .i64 x.v.k, .int .i64 x.v.n, .string x.v.s, .slice x.v.pl x.v.nl x.v.cl, .slice x.v.pm x.v.nm x.v.cm] 32 (0, 0))
theorem MAt.cell {W : World} {g : Nat} {r : RM} (h : MAt W g r) (j : Nat) {u : Value} (hu : (encM r)[j]? = some u) : W.cell? ⟨g, j, none⟩ = some u := by
 unfold MAt at h
 rw [cell_of_row W g j _ _ _ h, <- Array.getElem?_toList]
 exact hu
theorem MAt.cells6 {W : World} {g : Nat} {r : RM} (h : MAt W g r) : W.cell? ⟨g, 0, none⟩ = some (.string r.name) /\ W.cell? ⟨g, 1, none⟩ = some (.int .i64 r.v.k) /\ W.cell? ⟨g, 2, none⟩ = some (.int .i64 r.v.n) /\ W.cell? ⟨g, 3, none⟩ = some (.string r.v.s) /\ W.cell? ⟨g, 4, none⟩ = some (.slice r.v.pl r.v.nl r.v.cl) /\ W.cell? ⟨g, 5, none⟩ = some (.slice r.v.pm r.v.nm r.v.cm) := ⟨h.cell 0 rfl, h.cell 1 rfl, h.cell 2 rfl, h.cell 3 rfl, h.cell 4 rfl, h.cell 5 rfl⟩
theorem MAt.under {W W' : World} {g B : Nat} {r : RM} (h : MAt W g r) (hb : Below B W W') (hg : g < B) : MAt W' g r := (hb.block g hg).trans h
structure DelRel (rms : List RM) (name : ByteArray) (a b : Nat) (cur : List RM) : Prop where
 lt : a < b
 len : cur.length = rms.length
 head : cur.take a = (rms.take b).filter (fun x => !nameB name x)
 tail : cur.drop b = rms.drop b
theorem DelRel.start {rms : List RM} {name : ByteArray} {i : Nat} (h : rms.findIdx? (nameB name) = some i) : DelRel rms name i (i + 1) rms := by
 rw [List.findIdx?_eq_some_iff_getElem] at h
 obtain ⟨h1, h2, h3⟩ := h
 refine ⟨by omega, rfl, ?_, rfl⟩
 rw [List.take_add_one, List.getElem?_eq_getElem h1, List.filter_append]
 have e1 : (rms.take i).filter (fun x => !nameB name x) = rms.take i := by
  rw [List.filter_eq_self]
  intro x hx
  obtain ⟨j, hj⟩ := List.getElem?_of_mem hx
  rw [List.getElem?_take] at hj
  split at hj
  ·have := h3 j (by assumption)
   rw [List.getElem?_eq_getElem (by omega)] at hj
   cases hj
   simpa using this
  ·cases hj
 rw [e1]
 simp [h2]
theorem DelRel.at {rms cur : List RM} {name : ByteArray} {a b : Nat} (h : DelRel rms name a b cur) {x : RM} (hx : rms[b]? = some x) : cur[b]? = some x := by
 have h1 : (cur.drop b)[0]? = (rms.drop b)[0]? := by rw [h.tail]
 simpa [List.getElem?_drop, hx] using h1
theorem DelRel.keep {rms cur : List RM} {name : ByteArray} {a b : Nat} (h : DelRel rms name a b cur) {x : RM} (hx : rms[b]? = some x) (hn : nameB name x = false) : DelRel rms name (a + 1) (b + 1) (cur.set a x) := by
 have hl := h.lt
 have hbl := (List.getElem?_eq_some_iff.1 hx).1
 refine ⟨by omega, by rw [List.length_set, h.len], ?_, ?_⟩
 ·rw [List.take_add_one, List.take_set_of_le (Nat.le_refl _), List.getElem?_set_self (by have := h.len; omega), List.take_add_one, hx, List.filter_append, <- h.head]
  simp [hn]
 ·rw [List.drop_set_of_lt (by omega), <- List.drop_drop (i := 1) (j := b), <- List.drop_drop (i := 1) (j := b), h.tail]
theorem DelRel.done {rms cur : List RM} {name : ByteArray} {a : Nat} (h : DelRel rms name a rms.length cur) : cur.take a = rms.filter (fun x => !nameB name x) := by
 have := h.head
 rwa [List.take_length] at this
def Rising (os : List (ByteArray × JV)) : Prop := ∀ (i j : Nat) p q, i < j -> os[i]? = some p -> os[j]? = some q -> cmpN p.1 q.1 < 0
theorem Rising.low {os : List (ByteArray × JV)} (hr : Rising os) {id : ByteArray} {h : Nat} {x : ByteArray × JV} (hx : os[h]? = some x) (hc : cmpN x.1 id < 0) : ∀ k y, k < h + 1 -> os[k]? = some y -> cmpN y.1 id < 0 := by
 intro k y hk hy
 by_cases e : k = h
 ·subst e
  rw [hx] at hy
  cases hy
  exact hc
 ·have := hr k h y x (by omega) hy hx
  by_cases g : cmpN y.1 id < 0
  ·exact g
  ·have h3 := cmpN_neg y.1 x.1
   have : ¬ cmpN y.1 x.1 < 0 := cmpB_ntrans _ _ _ g (by have h4 := cmpN_neg x.1 id; show ¬ cmpN id x.1 < 0; omega)
   omega
def encS (s : ByteArray) : List Value := [.string s]
theorem codecS : Codec encS 1 := ⟨fun _ => rfl, fun x u hu => by
 simp only [encS, List.mem_cons, List.not_mem_nil, or_false] at hu
 subst hu; rfl, by decide⟩
theorem slS : SlT Tryz.prog 46 9 1 16 := SlT.mk (z := .string ByteArray.empty) Tryz.underlying46 (by kernel_rfl) rfl
end
section
open Go Go.RowKit Go.OpenShut
theorem TreeOf.kk {w : World} {B : Nat} {t : JV} {r : RV} (h : TreeOf w B t r) : r.k = t.k /\ r.s = t.s := by cases h; exact ⟨rfl, rfl⟩
theorem textM_of (t : JV) (name : ByteArray) : textM t name = if ((t.get name).getD JV.zero).k = 4 then [((t.get name).getD JV.zero).s] else [] := by
 unfold textM
 cases t.get name with
 | none => exact (if_neg (by decide)).symm
 | some x => rfl
def TlOf (w : World) (B : Nat) (v : Value) (l : List JV) : Prop := ∃ rs, Rd w B encV 5 v rs /\ l.length = rs.length /\ ∀ (i : Nat) (t : JV) (q : RV), l[i]? = some t -> rs[i]? = some q -> TreeOf w B t q
theorem TlOf.under {w w' : World} {B B' : Nat} {v : Value} {l : List JV} (h : TlOf w B v l) (hb : Below B w w') (hB : B <= B') : TlOf w' B' v l := by
 obtain ⟨rs, h1, h2, h3⟩ := h
 exact ⟨rs, h1.below hb hB, h2, fun i t q a b => (h3 i t q a b).under hb hB⟩
theorem TlOf.nil (w : World) (B : Nat) : TlOf w B (.slice none 0 0) [] := ⟨[], Rd.nil w B, rfl, fun i t q a _ => by simp at a⟩
theorem TreeOf.tl {w : World} {B : Nat} {t : JV} {r : RV} (h : TreeOf w B t r) : TlOf w B (.slice r.pl r.nl r.cl) t.l := by
 cases h with
 | mk hl el cl hm em cn cm => exact ⟨_, hl, el, cl⟩
def inJ (t : JV) (name : ByteArray) : List JV := match t.get name with | some x => if x.k = 5 then x.l else [] | none => []
theorem inJ_of (t : JV) (name : ByteArray) : inJ t name = if ((t.get name).getD JV.zero).k = 5 then ((t.get name).getD JV.zero).l else [] := by
 unfold inJ
 cases t.get name with
 | none => exact (if_neg (by decide)).symm
 | some x => rfl
theorem text_any (t : JV) (r : RV) (name : ByteArray) (w : World) (B : Nat) (hBw : B <= w.heap.size) (ht : TreeOf w B t r) (ot : t.Ok) :
 Calls Tryz.prog 59 #[r.val, .string name] w (OwnRet w 9 encS 1 (textM t name)) := by
 obtain ⟨W0, hW0⟩ : ∃ W0, w.alloc r.obj = W0 := ⟨_, rfl⟩
 have hA0 : VAt W0 w.heap.size r := by rw [<- hW0]; exact heap_alloc_at rfl
 have hB0 : Below w.heap.size w W0 := by rw [<- hW0]; exact (Below.refl _ _).alloc (Nat.le_refl _) _
 have HC : Hid (Calls Tryz.prog 15 #[r.val, .string name] W0 (GetRetB W0 B (t.get name))) := getB_any t r name W0 B (Nat.le_trans hBw hB0.size) (ht.under (hB0.mono hBw) (Nat.le_refl _)) ot
 have HTX := Lib.hid (textM_of t name)
 obtain ⟨R, hR⟩ : ∃ R, textM t name = R := ⟨_, rfl⟩
 rw [hR] at HTX
 rw [hR]
 obtain ⟨k, n, s, pl, nl, cl, pm, nm, cm⟩ := r
 dsimp only [RV.val, RV.obj] at *
 have HW := Lib.hid hW0
 have HB0 := Lib.hid hB0
 clear hW0 hB0 ht ot hR
 go_enter Tryz.func59, Tryz.ntmps59
 go_upto_region 1 with fail
 rw [HW.out]
 clear HW
 obtain ⟨a0, a1, a2, a3, a4⟩ := hA0.cells5
 go_upto_region 2 with (go_at_call 15; refine HC.out.mono ?_; rintro e w1 ⟨rv, bb, rfl, hbb, ht1, hb1⟩; obtain ⟨rk, rn, rS, rpl, rnl, rcl, rpm, rnm, rcm⟩ := rv)
 obtain ⟨hkk, hss⟩ := ht1.kk
 dsimp only at hkk hss
 have hz1 := hb1.size
 have hb2 : Below W0.heap.size W0 (w1.alloc (.cells #[.int .i64 rk, .int .i64 rn, .string rS, .slice rpl rnl rcl, .slice rpm rnm rcm] 25)) := hb1.alloc hz1 _
 have hv2 : VAt (w1.alloc (.cells #[.int .i64 rk, .int .i64 rn, .string rS, .slice rpl rnl rcl, .slice rpm rnm rcm] 25)) w1.heap.size ⟨rk, rn, rS, rpl, rnl, rcl, rpm, rnm, rcm⟩ := heap_alloc_at rfl
 obtain ⟨g, hg⟩ : ∃ g, w1.heap.size = g := ⟨_, rfl⟩
 obtain ⟨W2, hW2⟩ : ∃ W, w1.alloc (.cells #[.int .i64 rk, .int .i64 rn, .string rS, .slice rpl rnl rcl, .slice rpm rnm rcm] 25) = W := ⟨_, rfl⟩
 rw [hW2] at hb2 hv2
 rw [hg] at hv2
 try rw [hW2]
 try rw [hg]
 obtain ⟨v0, v1, v2, v3, v4⟩ := hv2.cells5
 dsimp only at v0 v1 v2 v3 v4
 have hbw := HB0.out.trans (hb2.mono HB0.out.size)
 have HX := Lib.hid hbw
 clear hW2 hg hb1 ht1 hb2 hv2 hz1 hbw
 by_cases hk4 : rk = 4
 ·subst hk4
  have HR : Hid (R = [rS]) := by unfold Hid; rw [HTX.out, <- hkk, if_pos rfl, hss]
  clear hkk hss
  go_wp2_with fail
  rw [HR.out]
  go_ret
  exact ⟨_, rfl, Own.block codecS (heap_alloc_at rfl) rfl rfl HX.out.size (show 1 <= maxLen by decide), HX.out.alloc HX.out.size _⟩
 ·have q1 : (rk == 4) = false := by simpa using hk4
  have q2 : (rk != 4) = true := by simpa using hk4
  have HR : Hid (R = []) := by unfold Hid; rw [HTX.out, <- hkk, if_neg hk4]
  clear hkk hss
  go_wp2_with fail
  rw [HR.out]
  go_ret
  exact ⟨_, rfl, Own.nil _ _ _, HX.out⟩
theorem in_any (t : JV) (r : RV) (name : ByteArray) (w : World) (B : Nat) (hBw : B <= w.heap.size) (ht : TreeOf w B t r) (ot : t.Ok) :
 Calls Tryz.prog 60 #[r.val, .string name] w fun e w' => ∃ v, e = .returned v /\ TlOf w' B v (inJ t name) /\ Below w.heap.size w w' := by
 obtain ⟨W0, hW0⟩ : ∃ W0, w.alloc r.obj = W0 := ⟨_, rfl⟩
 have hA0 : VAt W0 w.heap.size r := by rw [<- hW0]; exact heap_alloc_at rfl
 have hB0 : Below w.heap.size w W0 := by rw [<- hW0]; exact (Below.refl _ _).alloc (Nat.le_refl _) _
 have HC : Hid (Calls Tryz.prog 15 #[r.val, .string name] W0 (GetRetB W0 B (t.get name))) := getB_any t r name W0 B (Nat.le_trans hBw hB0.size) (ht.under (hB0.mono hBw) (Nat.le_refl _)) ot
 have HTX := Lib.hid (inJ_of t name)
 obtain ⟨R, hR⟩ : ∃ R, inJ t name = R := ⟨_, rfl⟩
 rw [hR] at HTX
 rw [hR]
 obtain ⟨k, n, s, pl, nl, cl, pm, nm, cm⟩ := r
 dsimp only [RV.val, RV.obj] at *
 have HW := Lib.hid hW0
 have HB0 := Lib.hid hB0
 clear hW0 hB0 ht ot hR
 go_enter Tryz.func60, Tryz.ntmps60
 go_upto_region 1 with fail
 rw [HW.out]
 clear HW
 obtain ⟨a0, a1, a2, a3, a4⟩ := hA0.cells5
 go_upto_region 2 with (go_at_call 15; refine HC.out.mono ?_; rintro e w1 ⟨rv, bb, rfl, hbb, ht1, hb1⟩; obtain ⟨rk, rn, rS, rpl, rnl, rcl, rpm, rnm, rcm⟩ := rv)
 obtain ⟨hkk, hss⟩ := ht1.kk
 dsimp only at hkk hss
 have hz1 := hb1.size
 have hb2 : Below W0.heap.size W0 (w1.alloc (.cells #[.int .i64 rk, .int .i64 rn, .string rS, .slice rpl rnl rcl, .slice rpm rnm rcm] 25)) := hb1.alloc hz1 _
 have hv2 : VAt (w1.alloc (.cells #[.int .i64 rk, .int .i64 rn, .string rS, .slice rpl rnl rcl, .slice rpm rnm rcm] 25)) w1.heap.size ⟨rk, rn, rS, rpl, rnl, rcl, rpm, rnm, rcm⟩ := heap_alloc_at rfl
 have ht2 := (ht1.tl).under ((Below.refl B w1).alloc (Nat.le_trans (Nat.le_trans hBw HB0.out.size) hz1) (.cells #[.int .i64 rk, .int .i64 rn, .string rS, .slice rpl rnl rcl, .slice rpm rnm rcm] 25)) (Nat.le_refl _)
 dsimp only at ht2
 obtain ⟨g, hg⟩ : ∃ g, w1.heap.size = g := ⟨_, rfl⟩
 obtain ⟨W2, hW2⟩ : ∃ W, w1.alloc (.cells #[.int .i64 rk, .int .i64 rn, .string rS, .slice rpl rnl rcl, .slice rpm rnm rcm] 25) = W := ⟨_, rfl⟩
 rw [hW2] at hb2 hv2 ht2
 rw [hg] at hv2
 try rw [hW2]
 try rw [hg]
 obtain ⟨v0, v1, v2, v3, v4⟩ := hv2.cells5
 dsimp only at v0 v1 v2 v3 v4
 have hbw := HB0.out.trans (hb2.mono HB0.out.size)
 have HX := Lib.hid hbw
 have HL := Lib.hid ht2
 clear hW2 hg hb1 ht1 hb2 hv2 hz1 hbw ht2
 by_cases hk4 : rk = 5
 ·subst hk4
  have HR : Hid (R = ((t.get name).getD JV.zero).l) := by unfold Hid; rw [HTX.out, <- hkk, if_pos rfl]
  clear hkk hss
  go_wp2_with fail
  rw [HR.out]
  go_ret
  exact ⟨_, rfl, HL.out, HX.out⟩
 ·have q1 : (rk == 5) = false := by simpa using hk4
  have q2 : (rk != 5) = true := by simpa using hk4
  have HR : Hid (R = []) := by unfold Hid; rw [HTX.out, <- hkk, if_neg hk4]
  clear hkk hss
  go_wp2_with fail
  rw [HR.out]
  go_ret
  exact ⟨_, rfl, TlOf.nil _ _, HX.out⟩
end
section
open Go Go.Shelf
def lays110_ren : Go.Shelf.Ren := ⟨fun | 110 => 96 | 109 => 127 | n => n, fun | 31 => 46 | 9 => 9 | 4 => 4 | 3 => 3 | 0 => 0 | n => n, fun | n => n⟩
theorem lays110 : Go.Proofs.Lays.n110 Tryz.prog lays110_ren := {
 mixed := by kernel_rfl
 f109 := Tryz.func127.trans (congrArg some (by kernel_rfl))
 f110 := Tryz.func96.trans (congrArg some (by kernel_rfl))
 t0 := Tryz.underlying0
 a0 := Tryz.isAgg0
 z0 := Tryz.sizeOf0
 v0 := Tryz.zeroValue0
 t3 := Tryz.underlying3
 a3 := Tryz.isAgg3
 z3 := Tryz.sizeOf3
 v3 := Tryz.zeroValue3
 t4 := Tryz.underlying4
 a4 := Tryz.isAgg4
 z4 := Tryz.sizeOf4
 v4 := Tryz.zeroValue4
 t9 := Tryz.underlying9
 a9 := Tryz.isAgg9
 z9 := Tryz.sizeOf9
 v9 := Tryz.zeroValue9
 t31 := Tryz.underlying46
 a31 := Tryz.isAgg46
 z31 := Tryz.sizeOf46
 v31 := Tryz.zeroValue46 }
open Go.Lib in
theorem slices_Contains_string (b off n c : Nat) (zs : List ByteArray) (x : ByteArray) (w : World) (hz : n <= zs.length) (hbig : n <= 9223372036854775807) (hc : ∀ j, j < zs.length -> w.cell? ⟨b, off + j, none⟩ = some (.string (zs.getD j ByteArray.empty))) :
 Calls Tryz.prog 96 #[.slice (some ⟨b, off, none⟩) n c, .string x] w fun e w' => e = .returned (.bool (Lib.containsS (zs.take n) x)) /\ w' = w := Any.slices_Contains_string lays110 b off n c zs x w hz hbig hc
open Go.Lib in
theorem slices_Contains_string_empty (a : Option Addr) (c : Nat) (x : ByteArray) (w : World) :
 Calls Tryz.prog 96 #[.slice a 0 c, .string x] w fun e w' => e = .returned (.bool false) /\ w' = w := Any.slices_Contains_string_empty lays110 a c x w
end
end Go.Proofs.YtffhccmppdgmfaaGreatDoor
