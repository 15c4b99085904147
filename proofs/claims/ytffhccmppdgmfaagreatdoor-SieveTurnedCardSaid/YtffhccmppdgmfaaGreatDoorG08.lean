import Derived.Test.YtffhccmppdgmfaaGreatDoorG03
import Derived.Test.YtffhccmppdgmfaaGreatDoorG00
import Derived.Test.YtffhccmppdgmfaaGreatDoorG07
import Derived.ProofKit
import Derived.Below
import Derived.Test.YtffhccmppdgmfaaGreatDoorG05
import Derived.Test.YtffhccmppdgmfaaGreatDoorG06
import Derived.Test.YtffhccmppdgmfaaGreatDoorG02
set_option linter.unusedSimpArgs false
set_option linter.unusedVariables false
set_option maxRecDepth 200000
set_option maxHeartbeats 8000000
namespace Go.Proofs.YtffhccmppdgmfaaGreatDoor
section
open Go Go.RowKit Go.ChangeShapes Go.WideShapes Go.Deep
structure BoxD where
 objs : List (ByteArray × JV)
 trail : List En
 seq : Int
 floor : Int
 keep : Int
structure RB where
 po : Option Addr
 no : Nat
 co : Nat
 pt : Option Addr
 nt : Nat
 ct : Nat
 sq : Int
 fl : Int
 kp : Int
abbrev RB.val (r : RB) : Value := .agg #[.slice r.po r.no r.co, .slice r.pt r.nt r.ct, .int .i64 r.sq, .int .i64 r.fl, .int .i64 r.kp]
def RB.zero : RB := ⟨none, 0, 0, none, 0, 0, 0, 0, 0⟩
def BoxD.zero : BoxD := ⟨[], [], 0, 0, 0⟩
def ObjsOf (w : World) (B : Nat) (os : List (ByteArray × JV)) (v : Value) : Prop := ∃ ros, Rd w B encM 6 v ros /\ MemsOf w B os ros
theorem ObjsOf.under {w w' : World} {B B' : Nat} {os : List (ByteArray × JV)} {v : Value} (h : ObjsOf w B os v) (hb : Below B w w') (hB : B <= B') : ObjsOf w' B' os v := by
 obtain ⟨ros, h1, h2⟩ := h
 exact ⟨ros, h1.below hb hB, h2.under hb hB⟩
theorem ObjsOf.nil (w : World) (B : Nat) : ObjsOf w B [] (.slice none 0 0) := ⟨[], Rd.nil _ _, MemsOf.nil _ _⟩
theorem RdE.under {w w' : World} {B B' : Nat} {v : Value} {l : List En} (h : RdE w B v l) (hb : Below B w w') (hB : B <= B') : RdE w' B' v l :=
 rdE_iff.2 ⟨(rdE_iff.1 h).1, (rdE_iff.1 h).2.below hb hB⟩
theorem RdE.nil (w : World) (B : Nat) : RdE w B (.slice none 0 0) [] := rdE_iff.2 ⟨fun e h => by simp at h, Rd.nil _ _⟩
structure BoxOf (w : World) (B : Nat) (b : BoxD) (r : RB) : Prop where
 objs : ObjsOf w B b.objs (.slice r.po r.no r.co)
 trail : RdE w B (.slice r.pt r.nt r.ct) b.trail
 seq : b.seq = r.sq
 floor : b.floor = r.fl
 keep : b.keep = r.kp
theorem BoxOf.under {w w' : World} {B B' : Nat} {b : BoxD} {r : RB} (h : BoxOf w B b r) (hb : Below B w w') (hB : B <= B') : BoxOf w' B' b r :=
 ⟨h.objs.under hb hB, h.trail.under hb hB, h.seq, h.floor, h.keep⟩
theorem BoxOf.zero (w : World) (B : Nat) : BoxOf w B BoxD.zero RB.zero := ⟨ObjsOf.nil _ _, RdE.nil _ _, rfl, rfl, rfl⟩
structure BoxD.Ok (b : BoxD) : Prop where
 objs : b.objs.length <= 1466015503658
 each : ∀ p ∈ b.objs, p.1.size <= 140737488351232 /\ p.2.Ok
 trail : b.trail.length <= 4398046510976
 seq : (Lit.int .i64 b.seq).wf = true
 floor : (Lit.int .i64 b.floor).wf = true
 keep : (Lit.int .i64 b.keep).wf = true
section
variable {H : Type} {enc : TypeId × Value -> H} {W : World} {base b0 : Nat} {spare : Nat -> Bool} {held : Bool}
end
end
section
open Go.RowKit Go.OpenShut
def Rising (os : List (ByteArray × JV)) : Prop := ∀ (i j : Nat) p q, i < j -> os[i]? = some p -> os[j]? = some q -> cmpN p.1 q.1 < 0
theorem Rising.low {os : List (ByteArray × JV)} (hr : Rising os) {id : ByteArray} {h : Nat} {x : ByteArray × JV} (hx : os[h]? = some x) (hc : cmpN x.1 id < 0) : ∀ k y, k < h + 1 -> os[k]? = some y -> cmpN y.1 id < 0 := by
 intro k y hk hy
 by_cases e : k = h
 ·subst e
  rw [hx] at hy
  cases hy
  exact hc
 ·have := hr k h y x (by omega) hy hx
  by_cases g : cmpN y.1 id < 0
  ·exact g
  ·have h3 := cmpN_neg y.1 x.1
   have : ¬ cmpN y.1 x.1 < 0 := cmpB_ntrans _ _ _ g (by have h4 := cmpN_neg x.1 id; show ¬ cmpN id x.1 < 0; omega)
   omega
def encS (s : ByteArray) : List Value := [.string s]
theorem codecS : Codec encS 1 := ⟨fun _ => rfl, fun x u hu => by
 simp only [encS, List.mem_cons, List.not_mem_nil, or_false] at hu
 subst hu; rfl, by decide⟩
theorem slS : SlT Tryz.prog 46 9 1 16 := SlT.mk (z := .string ByteArray.empty) Tryz.underlying46 (by kernel_rfl) rfl
end
section
open Go Go.RowKit Go.OpenShut
theorem TreeOf.kk {w : World} {B : Nat} {t : JV} {r : RV} (h : TreeOf w B t r) : r.k = t.k /\ r.s = t.s := by cases h; exact ⟨rfl, rfl⟩
theorem textM_of (t : JV) (name : ByteArray) : textM t name = if ((t.get name).getD JV.zero).k = 4 then [((t.get name).getD JV.zero).s] else [] := by
 unfold textM
 cases t.get name with
 | none => exact (if_neg (by decide)).symm
 | some x => rfl
def TlOf (w : World) (B : Nat) (v : Value) (l : List JV) : Prop := ∃ rs, Rd w B encV 5 v rs /\ l.length = rs.length /\ ∀ (i : Nat) (t : JV) (q : RV), l[i]? = some t -> rs[i]? = some q -> TreeOf w B t q
theorem TlOf.under {w w' : World} {B B' : Nat} {v : Value} {l : List JV} (h : TlOf w B v l) (hb : Below B w w') (hB : B <= B') : TlOf w' B' v l := by
 obtain ⟨rs, h1, h2, h3⟩ := h
 exact ⟨rs, h1.below hb hB, h2, fun i t q a b => (h3 i t q a b).under hb hB⟩
theorem TlOf.nil (w : World) (B : Nat) : TlOf w B (.slice none 0 0) [] := ⟨[], Rd.nil w B, rfl, fun i t q a _ => by simp at a⟩
theorem TreeOf.tl {w : World} {B : Nat} {t : JV} {r : RV} (h : TreeOf w B t r) : TlOf w B (.slice r.pl r.nl r.cl) t.l := by
 cases h with
 | mk hl el cl hm em cn cm => exact ⟨_, hl, el, cl⟩
def inJ (t : JV) (name : ByteArray) : List JV := match t.get name with | some x => if x.k = 5 then x.l else [] | none => []
theorem inJ_of (t : JV) (name : ByteArray) : inJ t name = if ((t.get name).getD JV.zero).k = 5 then ((t.get name).getD JV.zero).l else [] := by
 unfold inJ
 cases t.get name with
 | none => exact (if_neg (by decide)).symm
 | some x => rfl
theorem text_any (t : JV) (r : RV) (name : ByteArray) (w : World) (B : Nat) (hBw : B <= w.heap.size) (ht : TreeOf w B t r) (ot : t.Ok) :
 Calls Tryz.prog 59 #[r.val, .string name] w (OwnRet w 9 encS 1 (textM t name)) := by
 obtain ⟨W0, hW0⟩ : ∃ W0, w.alloc r.obj = W0 := ⟨_, rfl⟩
 have hA0 : VAt W0 w.heap.size r := by rw [<- hW0]; exact heap_alloc_at rfl
 have hB0 : Below w.heap.size w W0 := by rw [<- hW0]; exact (Below.refl _ _).alloc (Nat.le_refl _) _
 have HC : Hid (Calls Tryz.prog 15 #[r.val, .string name] W0 (GetRetB W0 B (t.get name))) := getB_any t r name W0 B (Nat.le_trans hBw hB0.size) (ht.under (hB0.mono hBw) (Nat.le_refl _)) ot
 have HTX := Lib.hid (textM_of t name)
 obtain ⟨R, hR⟩ : ∃ R, textM t name = R := ⟨_, rfl⟩
 rw [hR] at HTX
 rw [hR]
 obtain ⟨k, n, s, pl, nl, cl, pm, nm, cm⟩ := r
 dsimp only [RV.val, RV.obj] at *
 have HW := Lib.hid hW0
 have HB0 := Lib.hid hB0
 clear hW0 hB0 ht ot hR
 go_enter Tryz.func59, Tryz.ntmps59
 go_upto_region 1 with fail
 rw [HW.out]
 clear HW
 obtain ⟨a0, a1, a2, a3, a4⟩ := hA0.cells5
 go_upto_region 2 with (go_at_call 15; refine HC.out.mono ?_; rintro e w1 ⟨rv, bb, rfl, hbb, ht1, hb1⟩; obtain ⟨rk, rn, rS, rpl, rnl, rcl, rpm, rnm, rcm⟩ := rv)
 obtain ⟨hkk, hss⟩ := ht1.kk
 dsimp only at hkk hss
 have hz1 := hb1.size
 have hb2 : Below W0.heap.size W0 (w1.alloc (.cells #[.int .i64 rk, .int .i64 rn, .string rS, .slice rpl rnl rcl, .slice rpm rnm rcm] 25)) := hb1.alloc hz1 _
 have hv2 : VAt (w1.alloc (.cells #[.int .i64 rk, .int .i64 rn, .string rS, .slice rpl rnl rcl, .slice rpm rnm rcm] 25)) w1.heap.size ⟨rk, rn, rS, rpl, rnl, rcl, rpm, rnm, rcm⟩ := heap_alloc_at rfl
 obtain ⟨g, hg⟩ : ∃ g, w1.heap.size = g := ⟨_, rfl⟩
 obtain ⟨W2, hW2⟩ : ∃ W, w1.alloc (.cells #[.int .i64 rk, .int .i64 rn, .string rS, .slice rpl rnl rcl, .slice rpm rnm rcm] 25) = W := ⟨_, rfl⟩
 rw [hW2] at hb2 hv2
 rw [hg] at hv2
 try rw [hW2]
 try rw [hg]
 obtain ⟨v0, v1, v2, v3, v4⟩ := hv2.cells5
 dsimp only at v0 v1 v2 v3 v4
 have hbw := HB0.out.trans (hb2.mono HB0.out.size)
 have HX := Lib.hid hbw
 clear hW2 hg hb1 ht1 hb2 hv2 hz1 hbw
 by_cases hk4 : rk = 4
 ·subst hk4
  have HR : Hid (R = [rS]) := by unfold Hid; rw [HTX.out, <- hkk, if_pos rfl, hss]
  clear hkk hss
  go_wp2_with fail
  rw [HR.out]
  go_ret
  exact ⟨_, rfl, Own.block codecS (heap_alloc_at rfl) rfl rfl HX.out.size (show 1 <= maxLen by decide), HX.out.alloc HX.out.size _⟩
 ·have q1 : (rk == 4) = false := by simpa using hk4
  have q2 : (rk != 4) = true := by simpa using hk4
  have HR : Hid (R = []) := by unfold Hid; rw [HTX.out, <- hkk, if_neg hk4]
  clear hkk hss
  go_wp2_with fail
  rw [HR.out]
  go_ret
  exact ⟨_, rfl, Own.nil _ _ _, HX.out⟩
theorem in_any (t : JV) (r : RV) (name : ByteArray) (w : World) (B : Nat) (hBw : B <= w.heap.size) (ht : TreeOf w B t r) (ot : t.Ok) :
 Calls Tryz.prog 60 #[r.val, .string name] w fun e w' => ∃ v, e = .returned v /\ TlOf w' B v (inJ t name) /\ Below w.heap.size w w' := by
 obtain ⟨W0, hW0⟩ : ∃ W0, w.alloc r.obj = W0 := ⟨_, rfl⟩
 have hA0 : VAt W0 w.heap.size r := by rw [<- hW0]; exact heap_alloc_at rfl
 have hB0 : Below w.heap.size w W0 := by rw [<- hW0]; exact (Below.refl _ _).alloc (Nat.le_refl _) _
 have HC : Hid (Calls Tryz.prog 15 #[r.val, .string name] W0 (GetRetB W0 B (t.get name))) := getB_any t r name W0 B (Nat.le_trans hBw hB0.size) (ht.under (hB0.mono hBw) (Nat.le_refl _)) ot
 have HTX := Lib.hid (inJ_of t name)
 obtain ⟨R, hR⟩ : ∃ R, inJ t name = R := ⟨_, rfl⟩
 rw [hR] at HTX
 rw [hR]
 obtain ⟨k, n, s, pl, nl, cl, pm, nm, cm⟩ := r
 dsimp only [RV.val, RV.obj] at *
 have HW := Lib.hid hW0
 have HB0 := Lib.hid hB0
 clear hW0 hB0 ht ot hR
 go_enter Tryz.func60, Tryz.ntmps60
 go_upto_region 1 with fail
 rw [HW.out]
 clear HW
 obtain ⟨a0, a1, a2, a3, a4⟩ := hA0.cells5
 go_upto_region 2 with (go_at_call 15; refine HC.out.mono ?_; rintro e w1 ⟨rv, bb, rfl, hbb, ht1, hb1⟩; obtain ⟨rk, rn, rS, rpl, rnl, rcl, rpm, rnm, rcm⟩ := rv)
 obtain ⟨hkk, hss⟩ := ht1.kk
 dsimp only at hkk hss
 have hz1 := hb1.size
 have hb2 : Below W0.heap.size W0 (w1.alloc (.cells #[.int .i64 rk, .int .i64 rn, .string rS, .slice rpl rnl rcl, .slice rpm rnm rcm] 25)) := hb1.alloc hz1 _
 have hv2 : VAt (w1.alloc (.cells #[.int .i64 rk, .int .i64 rn, .string rS, .slice rpl rnl rcl, .slice rpm rnm rcm] 25)) w1.heap.size ⟨rk, rn, rS, rpl, rnl, rcl, rpm, rnm, rcm⟩ := heap_alloc_at rfl
 have ht2 := (ht1.tl).under ((Below.refl B w1).alloc (Nat.le_trans (Nat.le_trans hBw HB0.out.size) hz1) (.cells #[.int .i64 rk, .int .i64 rn, .string rS, .slice rpl rnl rcl, .slice rpm rnm rcm] 25)) (Nat.le_refl _)
 dsimp only at ht2
 obtain ⟨g, hg⟩ : ∃ g, w1.heap.size = g := ⟨_, rfl⟩
 obtain ⟨W2, hW2⟩ : ∃ W, w1.alloc (.cells #[.int .i64 rk, .int .i64 rn, .string rS, .slice rpl rnl rcl, .slice rpm rnm rcm] 25) = W := ⟨_, rfl⟩
 rw [hW2] at hb2 hv2 ht2
 rw [hg] at hv2
 try rw [hW2]
 try rw [hg]
 obtain ⟨v0, v1, v2, v3, v4⟩ := hv2.cells5
 dsimp only at v0 v1 v2 v3 v4
 have hbw := HB0.out.trans (hb2.mono HB0.out.size)
 have HX := Lib.hid hbw
 have HL := Lib.hid ht2
 clear hW2 hg hb1 ht1 hb2 hv2 hz1 hbw ht2
 by_cases hk4 : rk = 5
 ·subst hk4
  have HR : Hid (R = ((t.get name).getD JV.zero).l) := by unfold Hid; rw [HTX.out, <- hkk, if_pos rfl]
  clear hkk hss
  go_wp2_with fail
  rw [HR.out]
  go_ret
  exact ⟨_, rfl, HL.out, HX.out⟩
 ·have q1 : (rk == 5) = false := by simpa using hk4
  have q2 : (rk != 5) = true := by simpa using hk4
  have HR : Hid (R = []) := by unfold Hid; rw [HTX.out, <- hkk, if_neg hk4]
  clear hkk hss
  go_wp2_with fail
  rw [HR.out]
  go_ret
  exact ⟨_, rfl, TlOf.nil _ _, HX.out⟩
def inB (l : List ByteArray) (x : ByteArray) : Bool := l.any (fun y => decide (y = x))
theorem inB_iff {l : List ByteArray} {x : ByteArray} : inB l x = true ↔ x ∈ l := by
 unfold inB
 rw [List.any_eq_true]
 constructor
 ·rintro ⟨y, hy, h⟩
  have : y = x := of_decide_eq_true h
  subst this
  exact hy
 ·intro h
  exact ⟨x, h, decide_eq_true rfl⟩
theorem containsS_dec (l : List ByteArray) (x : ByteArray) : Lib.containsS l x = inB l x := by
 have h := Lib.containsS_iff l x
 cases hx : inB l x with
 | true => exact h.2 (inB_iff.1 hx)
 | false =>
   cases hc : Lib.containsS l x with
   | false => rfl
   | true =>
     have h2 := inB_iff.2 (h.1 hc)
     rw [hx] at h2
     cases h2
theorem containsS_rd {w : World} {B : Nat} {p : Option Addr} {n c : Nat} {l : List ByteArray} (hr : Rd w B encS 1 (.slice p n c) l) (hn : l.length <= 1000000) (x : ByteArray) : Calls Tryz.prog 96 #[.slice p n c, .string x] w fun e w' => e = .returned (.bool (inB l x)) /\ w' = w := by
 have hnl := rd_nlen hr
 by_cases h0 : 0 < l.length
 ·obtain ⟨x0, hx0⟩ : ∃ x, l[0]? = some x := ⟨_, List.getElem?_eq_getElem h0⟩
  obtain ⟨b1, o1, rfl, hb1, _⟩ := rd_at' hr hx0
  refine (slices_Contains_string b1 o1 n c l x w (by omega) (by omega) (fun j hj => ?_)).mono (fun e w' h => ⟨?_, h.2⟩)
  ·obtain ⟨y, hy⟩ : ∃ y, l[j]? = some y := ⟨_, List.getElem?_eq_getElem hj⟩
   obtain ⟨b2, o2, he, _, hc2⟩ := rd_at' hr hy
   injection he with he
   injection he with h1 h2
   subst h1 h2
   have h3 := hc2 0 _ rfl
   rw [Nat.add_zero, Nat.mul_one] at h3
   rw [h3, List.getD_eq_getElem?_getD, hy]
   rfl
  ·rw [h.1, List.take_of_length_le (by omega), containsS_dec]
 ·have : l = [] := List.eq_nil_of_length_eq_zero (by omega)
  subst this
  simp only [List.length_nil] at hnl
  subst hnl
  refine (slices_Contains_string_empty p c x w).mono (fun e w' h => ⟨?_, h.2⟩)
  rw [h.1]
  rfl
def partOk (kind : ByteArray) (c : JV) : Bool := decide (kind.size = 0) || decide (textM c kindN = [kind])
def partsL (cs : List JV) (kind : ByteArray) : List ByteArray := (cs.filter (partOk kind)).flatMap (fun c => textM c valueN)
theorem partsJ_of (t : JV) (kind : ByteArray) : partsJ t kind = partsL (inJ t compN) kind := by
 unfold partsJ partsL inJ
 cases t.get compN with
 | none => rfl
 | some x =>
   dsimp only
   by_cases h : x.k = 5
   ·rw [if_pos h, if_pos h]; rfl
   ·rw [if_neg h, if_neg h]; rfl
theorem textM_len (t : JV) (name : ByteArray) : (textM t name).length <= 1 := by rw [textM_of]; split <;> simp
theorem partsL_succ {cs : List JV} {kind : ByteArray} {k : Nat} {c : JV} (h : cs[k]? = some c) : partsL (cs.take (k + 1)) kind = partsL (cs.take k) kind ++ (if partOk kind c then textM c valueN else []) := by
 unfold partsL
 rw [List.take_add_one, h, Option.toList_some, List.filter_append, List.flatMap_append]
 congr 1
 cases hp : partOk kind c
 ·rw [List.filter_cons, hp]; rfl
 ·rw [List.filter_cons, hp]; simp
theorem partsL_len (cs : List JV) (kind : ByteArray) : (partsL cs kind).length <= cs.length := by
 unfold partsL
 induction cs with
 | nil => simp
 | cons a r ih =>
   rw [List.filter_cons]
   split
   ·rw [List.flatMap_cons, List.length_append, List.length_cons]
    have := textM_len a valueN
    omega
   ·rw [List.length_cons]
    omega
theorem textM_in (c : JV) (name x : ByteArray) : inB (textM c name) x = decide (textM c name = [x]) := by
 rw [textM_of]
 unfold inB
 split
 ·simp
 ·simp
theorem JV.Ok.get {t x : JV} {name : ByteArray} (h : t.Ok) (hx : t.get name = some x) : x.Ok := by
 unfold JV.get at hx
 cases hp : t.place name with
 | none => rw [hp] at hx; cases hx
 | some i =>
   obtain ⟨p, h1, _, h3⟩ := place_mem hp
   have e : t.get name = some p.2 := h3
   unfold JV.get at e
   rw [hx] at e
   injection e with e
   subst e
   cases h with
   | mk _ _ _ _ _ _ _ cm => exact cm i p h1
theorem inJ_ok {t : JV} {name : ByteArray} (h : t.Ok) : (inJ t name).length <= 1759218604390 /\ ∀ (i : Nat) (x : JV), (inJ t name)[i]? = some x -> x.Ok := by
 unfold inJ
 cases hx : t.get name with
 | none => exact ⟨by simp, fun i x a => by simp at a⟩
 | some v =>
   dsimp only
   have hv := h.get hx
   split
   ·exact ⟨hv.s_le.2, fun i x a => hv.at_l a⟩
   ·exact ⟨by simp, fun i x a => by simp at a⟩
theorem parts_any (t : JV) (r : RV) (kind : ByteArray) (w : World) (B : Nat) (hBw : B <= w.heap.size) (ht : TreeOf w B t r) (ot : t.Ok) (hk : kind.size <= maxLen) :
 Calls Tryz.prog 56 #[r.val, .string kind] w (OwnRet w 9 encS 1 (partsJ t kind)) := by
 obtain ⟨W0, hW0⟩ : ∃ W0, w.alloc r.obj = W0 := ⟨_, rfl⟩
 have hA0 : VAt W0 w.heap.size r := by rw [<- hW0]; exact heap_alloc_at rfl
 have hB0 : Below w.heap.size w W0 := by rw [<- hW0]; exact (Below.refl _ _).alloc (Nat.le_refl _) _
 have HC : Hid (Calls Tryz.prog 60 #[r.val, .string compN] W0 fun e w' => ∃ v, e = .returned v /\ TlOf w' B v (inJ t compN) /\ Below W0.heap.size W0 w') := in_any t r compN W0 B (Nat.le_trans hBw hB0.size) (ht.under (hB0.mono hBw) (Nat.le_refl _)) ot
 obtain ⟨hcl, hco⟩ := inJ_ok (name := compN) ot
 rw [partsJ_of]
 obtain ⟨cs, hcs⟩ : ∃ cs, inJ t compN = cs := ⟨_, rfl⟩
 rw [hcs] at HC hcl hco
 rw [hcs]
 unfold compN at HC
 obtain ⟨k, n, s, pl, nl, cl, pm, nm, cm⟩ := r
 dsimp only [RV.val, RV.obj] at *
 have HW := Lib.hid hW0
 have HB0 := Lib.hid hB0
 have HCO := Lib.hid hco
 have hbz := hB0.size
 clear hW0 hB0 ht ot hcs hco
 obtain ⟨kz, hkz⟩ : ∃ b, (kind.toList == []) = b := ⟨_, rfl⟩
 have HKZ : Hid (decide (kind.size = 0) = kz) := by
  unfold Hid
  rw [<- hkz, ByteArray.toList_eq, <- str_len]
  cases kind.data.toList with
  | nil => rfl
  | cons a r => rfl
 have hw0 := HB0.out.size
 go_enter Tryz.func56, Tryz.ntmps56
 go_upto_region 2 with fail
 rw [HW.out]
 clear HW
 obtain ⟨a0, a1, a2, a3, a4⟩ := hA0.cells5
 go_wp2_with (go_at_call 60; refine HC.out.mono ?_; rintro e w1 ⟨v9, rfl, ⟨rs, hr, hlen, htl⟩, hb1⟩; obtain ⟨p9, n9, c9, rfl⟩ : ∃ p n c, v9 = Value.slice p n c := by (obtain ⟨p, c, h, _⟩ := hr; exact ⟨p, _, c, h⟩))
 have hn9 := rd_nlen hr
 have HN : Hid (cs.length = n9) := by unfold Hid; omega
 have hno : n9 <= 1759218604390 := by omega
 have HTL := Lib.hid htl
 have HRD := Lib.hid hr
 have hrl : rs.length = n9 := hn9.symm
 have hbw1 := HB0.out.trans (hb1.mono hbz)
 have HBW := Lib.hid hbw1
 have hw1 := hbw1.size
 have hBw1 : B <= w1.heap.size := Nat.le_trans hBw hw1
 clear hr htl hb1 hbw1 hn9 hlen hcl a0 a1 a2 a3 a4 hA0 HC HB0 hbz
 go_loopw [5, 11] (fun u i wr => ∃ j : Nat, j <= n9 /\ i = .int .i64 (j : Int) /\ Hid (Own wr w1.heap.size 9 encS 1 u (partsL (cs.take j) kind) /\ Below w1.heap.size w1 wr)) (fun _ i _ => n9 - (intOf i).toNat)
 case atStart => exact ⟨0, by omega, rfl, by rw [List.take_zero]; exact Own.nil _ _ _, Below.refl _ _⟩
 case round =>
  obtain ⟨j, hj, rfl, hH⟩ := hrel
  obtain ⟨hO, hbr⟩ := hH.out
  clear hH
  by_cases hlt : j < n9
  ·obtain ⟨y, hy⟩ : ∃ y, cs[j]? = some y := ⟨_, List.getElem?_eq_getElem (by have := HN.out; omega)⟩
   obtain ⟨⟨xk, xn, xs, xpl, xnl, xcl, xpm, xnm, xcm⟩, hx⟩ : ∃ x, rs[j]? = some x := ⟨_, List.getElem?_eq_getElem (by omega)⟩
   have hyok := HCO.out j y hy
   have hty := HTL.out j y _ hy hx
   have HPS := Lib.hid (partsL_succ (kind := kind) hy)
   have hpl : (partsL (cs.take j) kind).length <= j := Nat.le_trans (partsL_len _ _) (List.length_take_le _ _)
   obtain ⟨b1, o1, rfl, hb1, hc1⟩ := rd_at' (HRD.out.below (hbr.mono hBw1) (Nat.le_refl _)) hx
   have f0 := hc1 0 _ rfl
   have f1 := hc1 1 _ rfl
   have f2 := hc1 2 _ rfl
   have f3 := hc1 3 _ rfl
   have f4 := hc1 4 _ rfl
   rw [Nat.add_zero] at f0
   dsimp only at f0 f1 f2 f3 f4
   have hj0 : (0 : Int) <= (j : Int) := Int.natCast_nonneg _
   have hj1 : (j : Int) < (n9 : Int) := by omega
   have hb2 : Below w1.heap.size w1 (wr.alloc (.cells #[.int .i64 xk, .int .i64 xn, .string xs, .slice xpl xnl xcl, .slice xpm xnm xcm] 25)) := hbr.alloc hbr.size _
   have hO1 := hO.alloc (.cells #[.int .i64 xk, .int .i64 xn, .string xs, .slice xpl xnl xcl, .slice xpm xnm xcm] 25)
   have hTy : TreeOf (wr.alloc (.cells #[.int .i64 xk, .int .i64 xn, .string xs, .slice xpl xnl xcl, .slice xpm xnm xcm] 25)) B y ⟨xk, xn, xs, xpl, xnl, xcl, xpm, xnm, xcm⟩ := hty.under (hb2.mono hBw1) (Nat.le_refl _)
   have hV1 : VAt (wr.alloc (.cells #[.int .i64 xk, .int .i64 xn, .string xs, .slice xpl xnl xcl, .slice xpm xnm xcm] 25)) wr.heap.size ⟨xk, xn, xs, xpl, xnl, xcl, xpm, xnm, xcm⟩ := heap_alloc_at rfl
   obtain ⟨L, hL⟩ : ∃ L, partsL (cs.take j) kind = L := ⟨_, rfl⟩
   obtain ⟨LK, hLK⟩ : ∃ L, textM y kindN = L := ⟨_, rfl⟩
   obtain ⟨LV, hLV⟩ : ∃ L, textM y valueN = L := ⟨_, rfl⟩
   have hk1 := textM_len y kindN
   have hv1 := textM_len y valueN
   have hin := textM_in y kindN kind
   have hpo : partOk kind y = (kz || decide (LK = [kind])) := by unfold partOk; rw [HKZ.out, hLK]
   rw [hLK] at hk1 hin
   rw [hLV] at hv1 HPS
   rw [hL] at hO1 hpl HPS
   have HLN : Hid (L.length + LV.length <= maxLen /\ (L.length + LV.length) * 16 <= 140737488355328) := ⟨by unfold maxLen; omega, by omega⟩
   have HTK : Hid (∀ W, Below w1.heap.size (wr.alloc (.cells #[.int .i64 xk, .int .i64 xn, .string xs, .slice xpl xnl xcl, .slice xpm xnm xcm] 25)) W -> (wr.alloc (.cells #[.int .i64 xk, .int .i64 xn, .string xs, .slice xpl xnl xcl, .slice xpm xnm xcm] 25)).heap.size <= W.heap.size -> Calls Tryz.prog 59 #[.agg #[.int .i64 xk, .int .i64 xn, .string xs, .slice xpl xnl xcl, .slice xpm xnm xcm], .string kindN] W (OwnRet W 9 encS 1 LK)) := fun W hW hs => by
    have h := text_any y ⟨xk, xn, xs, xpl, xnl, xcl, xpm, xnm, xcm⟩ kindN W B (Nat.le_trans hBw1 (Nat.le_trans hb2.size hs)) (hTy.under (hW.mono hBw1) (Nat.le_refl _)) hyok
    rw [hLK] at h
    exact h
   have HTV : Hid (∀ W, Below w1.heap.size (wr.alloc (.cells #[.int .i64 xk, .int .i64 xn, .string xs, .slice xpl xnl xcl, .slice xpm xnm xcm] 25)) W -> (wr.alloc (.cells #[.int .i64 xk, .int .i64 xn, .string xs, .slice xpl xnl xcl, .slice xpm xnm xcm] 25)).heap.size <= W.heap.size -> Calls Tryz.prog 59 #[.agg #[.int .i64 xk, .int .i64 xn, .string xs, .slice xpl xnl xcl, .slice xpm xnm xcm], .string valueN] W (OwnRet W 9 encS 1 LV)) := fun W hW hs => by
    have h := text_any y ⟨xk, xn, xs, xpl, xnl, xcl, xpm, xnm, xcm⟩ valueN W B (Nat.le_trans hBw1 (Nat.le_trans hb2.size hs)) (hTy.under (hW.mono hBw1) (Nat.le_refl _)) hyok
    rw [hLV] at h
    exact h
   obtain ⟨d, hd⟩ : ∃ d, inB LK kind = d := ⟨_, rfl⟩
   have HCT : Hid (∀ p n c W, Rd W W.heap.size encS 1 (.slice p n c) LK -> Calls Tryz.prog 96 #[.slice p n c, .string kind] W fun e w' => e = .returned (.bool d) /\ W = w') := fun p n c W h => (containsS_rd h (by omega) kind).mono (fun e w' h => ⟨by rw [h.1, hd], h.2.symm⟩)
   rw [hd] at hin
   rw [<- hin] at hpo
   have HPO := Lib.hid hpo
   have HO1 := Lib.hid hO1
   have HB2 := Lib.hid hb2
   have hz1 : w1.heap.size <= (wr.alloc (.cells #[.int .i64 xk, .int .i64 xn, .string xs, .slice xpl xnl xcl, .slice xpm xnm xcm] 25)).heap.size := hb2.size
   unfold kindN at HTK
   unfold valueN at HTV
   clear hpo hin hd hL hLK hLV hTy hO hbr hc1 hx hy hty hyok hO1 hb2
   cases kz with
   | true =>
     go_upto_region 5 with fail
     obtain ⟨W1, hW1⟩ : ∃ W, wr.alloc (.cells #[.int .i64 xk, .int .i64 xn, .string xs, .slice xpl xnl xcl, .slice xpm xnm xcm] 25) = W := ⟨_, rfl⟩
     obtain ⟨g7, hg7⟩ : ∃ g, wr.heap.size = g := ⟨_, rfl⟩
     rw [hW1] at HTK HTV HO1 HB2 hz1
     rw [hW1, hg7] at hV1
     try rw [hW1]
     try rw [hg7]
     clear hW1 hg7
     obtain ⟨e0, e1, e2, e3, e4⟩ := hV1.cells5
     dsimp only at e0 e1 e2 e3 e4
     have HTV1 := Lib.hid (HTV.out W1 (Below.refl _ _) (Nat.le_refl _))
     go_wp2_with (first
      | (go_at_call 59; (with_reducible refine HTV1.out.mono ?_); rintro e w2 ⟨u2, rfl, ho2, hb2⟩; (have ho3 := HO1.out.below hb2 (Nat.le_refl _)); (have hz2 : w1.heap.size <= w2.heap.size := Nat.le_trans hz1 hb2.size))
      | (at_builtin; refine wpList_append_rd slS codecS w2 rfl (.tmp 23) (.tmp 25) rfl (v := u5) rfl rfl ho3 (ho2.rd codecS) HLN.out.1 HLN.out.2 (by omega) ?_; intro v8 w8 ho8 hg8 hat8)
      | fail)
     go_roundw
     case rel =>
      refine ⟨j + 1, by omega, by go_num, ?_, Below.appended (HB2.out.trans (hb2.mono hz1)) hg8 ho3 hz2⟩
      rw [HPS.out, if_pos (by rw [HPO.out]; rfl)]
      exact ho8
     case measure => simp [intOf]; omega
   | false =>
     cases d with
     | true =>
       go_upto_region 5 with fail
       obtain ⟨W1, hW1⟩ : ∃ W, wr.alloc (.cells #[.int .i64 xk, .int .i64 xn, .string xs, .slice xpl xnl xcl, .slice xpm xnm xcm] 25) = W := ⟨_, rfl⟩
       obtain ⟨g7, hg7⟩ : ∃ g, wr.heap.size = g := ⟨_, rfl⟩
       rw [hW1] at HTK HTV HO1 HB2 hz1
       rw [hW1, hg7] at hV1
       try rw [hW1]
       try rw [hg7]
       clear hW1 hg7
       have hV1l := hV1.lt
       obtain ⟨e0, e1, e2, e3, e4⟩ := hV1.cells5
       dsimp only at e0 e1 e2 e3 e4
       have HTK1 := Lib.hid (HTK.out W1 (Below.refl _ _) (Nat.le_refl _))
       go_wp2_with (first
        | (go_at_call 59; (with_reducible refine HTK1.out.mono ?_); rintro e w2 ⟨u2, rfl, ho2, hb2⟩; (have ho3 := HO1.out.below hb2 (Nat.le_refl _)); (have hz2 : W1.heap.size <= w2.heap.size := hb2.size); obtain ⟨p2, n2, c2, rfl⟩ : ∃ p n c, u2 = Value.slice p n c := by (obtain ⟨p, c, hv, _, _⟩ := ho2.len; exact ⟨p, _, c, hv⟩))
        | (go_at_call 96; refine (HCT.out _ _ _ _ (ho2.rd codecS)).mono ?_; rintro e w3 ⟨rfl, rfl⟩; (have hV2 := hV1.under hb2 hV1l); (obtain ⟨g0, g1, g2, g3, g4⟩ := hV2.cells5); dsimp only at g0 g1 g2 g3 g4)
        | (go_at_call 59; (have HV2 := HTV.out w2 (hb2.mono hz1) hz2); (with_reducible refine HV2.mono ?_); rintro e w4 ⟨u4, rfl, ho4, hb4⟩; (have ho5 := ho3.below hb4 (Nat.le_refl _)); (have hz4 : w2.heap.size <= w4.heap.size := hb4.size))
        | (at_builtin; refine wpList_append_rd slS codecS w4 rfl (.tmp 23) (.tmp 25) rfl (v := u5) rfl rfl ho5 (ho4.rd codecS) HLN.out.1 HLN.out.2 (by omega) ?_; intro v8 w8 ho8 hg8 hat8)
        | fail)
       go_roundw
       case rel =>
        have hbb := HB2.out.trans (hb2.mono hz1)
        refine ⟨j + 1, by omega, by go_num, ?_, Below.appended (hbb.trans (hb4.mono (Nat.le_trans hz1 hz2))) hg8 ho5 (by omega)⟩
        rw [HPS.out, if_pos (by rw [HPO.out]; rfl)]
        exact ho8
       case measure => simp [intOf]; omega
     | false =>
       go_upto_region 5 with fail
       obtain ⟨W1, hW1⟩ : ∃ W, wr.alloc (.cells #[.int .i64 xk, .int .i64 xn, .string xs, .slice xpl xnl xcl, .slice xpm xnm xcm] 25) = W := ⟨_, rfl⟩
       obtain ⟨g7, hg7⟩ : ∃ g, wr.heap.size = g := ⟨_, rfl⟩
       rw [hW1] at HTK HTV HO1 HB2 hz1
       rw [hW1, hg7] at hV1
       try rw [hW1]
       try rw [hg7]
       clear hW1 hg7
       obtain ⟨e0, e1, e2, e3, e4⟩ := hV1.cells5
       dsimp only at e0 e1 e2 e3 e4
       have HTK1 := Lib.hid (HTK.out W1 (Below.refl _ _) (Nat.le_refl _))
       go_wp2_with (first
        | (go_at_call 59; (with_reducible refine HTK1.out.mono ?_); rintro e w2 ⟨u2, rfl, ho2, hb2⟩; (have ho3 := HO1.out.below hb2 (Nat.le_refl _)); (have hz2 : W1.heap.size <= w2.heap.size := hb2.size); obtain ⟨p2, n2, c2, rfl⟩ : ∃ p n c, u2 = Value.slice p n c := by (obtain ⟨p, c, hv, _, _⟩ := ho2.len; exact ⟨p, _, c, hv⟩))
        | (go_at_call 96; refine (HCT.out _ _ _ _ (ho2.rd codecS)).mono ?_; rintro e w3 ⟨rfl, rfl⟩)
        | fail)
       go_roundw
       case rel =>
        refine ⟨j + 1, by omega, by go_num, ?_, HB2.out.trans (hb2.mono hz1)⟩
        rw [HPS.out, if_neg (by rw [HPO.out]; decide), List.append_nil]
        exact ho3
       case measure => simp [intOf]; omega
  ·obtain rfl : j = n9 := by omega
   have hta : cs.take j = cs := List.take_of_length_le (by have := HN.out; omega)
   rw [hta] at hO
   have HX := Lib.hid (And.intro (hO.mono hw1) (HBW.out.trans (hbr.mono hw1)))
   clear hO hbr hta
   go_wp2_with fail
   go_ret
   exact ⟨_, rfl, HX.out.1, HX.out.2⟩
def nameV (t : JV) : JV := (t.get nameN).getD JV.zero
theorem nameV_ok {t : JV} (h : t.Ok) : (nameV t).Ok := by
 unfold nameV
 cases hx : t.get nameN with
 | none => exact .mk (by decide) (by decide) (by decide) (by decide) (by decide) (fun i x h => by simp at h) (fun i p h => by simp at h) (fun i p h => by simp at h)
 | some x => exact h.get hx
theorem ntexts_any (t : JV) (r : RV) (p : ByteArray) (hp : p = givenN \/ p = surN \/ p = sur2N) (w : World) (B : Nat) (hBw : B <= w.heap.size) (ht : TreeOf w B t r) (ot : t.Ok) :
 Calls Tryz.prog 26 #[r.val, .string p] w (OwnRet w 9 encS 1 (partsJ (nameV t) (p.extract 5 p.size))) := by
 obtain ⟨W0, hW0⟩ : ∃ W0, w.alloc r.obj = W0 := ⟨_, rfl⟩
 have hA0 : VAt W0 w.heap.size r := by rw [<- hW0]; exact heap_alloc_at rfl
 have hB0 : Below w.heap.size w W0 := by rw [<- hW0]; exact (Below.refl _ _).alloc (Nat.le_refl _) _
 have HC : Hid (Calls Tryz.prog 15 #[r.val, .string nameN] W0 (GetRetB W0 B (t.get nameN))) := getB_any t r nameN W0 B (Nat.le_trans hBw hB0.size) (ht.under (hB0.mono hBw) (Nat.le_refl _)) ot
 have hno : (nameV t).Ok := nameV_ok ot
 obtain ⟨L, hL⟩ : ∃ L, partsJ (nameV t) (p.extract 5 p.size) = L := ⟨_, rfl⟩
 have HP : Hid (∀ (q : RV) (W : World), B <= W.heap.size -> TreeOf W B (nameV t) q -> Calls Tryz.prog 56 #[q.val, .string (p.extract 5 p.size)] W (OwnRet W 9 encS 1 L)) := fun q W hB hq => by
  rw [<- hL]
  exact parts_any (nameV t) q _ W B hB hq hno (by rcases hp with rfl | rfl | rfl <;> decide +kernel)
 rw [hL]
 obtain ⟨k, n, s, pl, nl, cl, pm, nm, cm⟩ := r
 dsimp only [RV.val, RV.obj] at *
 have HW := Lib.hid hW0
 have HB0 := Lib.hid hB0
 have hw0 := hB0.size
 unfold nameN at HC
 clear hW0 hB0 ht ot hL hno
 rcases hp with rfl | rfl | rfl
 all_goals
  try unfold givenN at *
  try unfold surN at *
  try unfold sur2N at *
  go_enter Tryz.func26, Tryz.ntmps26
  go_upto_region 1 with fail
  rw [HW.out]
  clear HW
  obtain ⟨a0, a1, a2, a3, a4⟩ := hA0.cells5
  go_upto_region 3 with (go_at_call 15; refine HC.out.mono ?_; rintro e w1 ⟨rv, bb, rfl, hbb, ht1, hb1⟩; obtain ⟨rk, rn, rS, rpl, rnl, rcl, rpm, rnm, rcm⟩ := rv)
  have hz1 := hb1.size
  have hb2 : Below W0.heap.size W0 (w1.alloc (.cells #[.int .i64 rk, .int .i64 rn, .string rS, .slice rpl rnl rcl, .slice rpm rnm rcm] 25)) := hb1.alloc hz1 _
  have hv2 : VAt (w1.alloc (.cells #[.int .i64 rk, .int .i64 rn, .string rS, .slice rpl rnl rcl, .slice rpm rnm rcm] 25)) w1.heap.size ⟨rk, rn, rS, rpl, rnl, rcl, rpm, rnm, rcm⟩ := heap_alloc_at rfl
  have ht2 := ht1.under ((Below.refl B w1).alloc (Nat.le_trans (Nat.le_trans hBw hw0) hz1) (.cells #[.int .i64 rk, .int .i64 rn, .string rS, .slice rpl rnl rcl, .slice rpm rnm rcm] 25)) (Nat.le_refl _)
  obtain ⟨g, hg⟩ : ∃ g, w1.heap.size = g := ⟨_, rfl⟩
  obtain ⟨W2, hW2⟩ : ∃ W, w1.alloc (.cells #[.int .i64 rk, .int .i64 rn, .string rS, .slice rpl rnl rcl, .slice rpm rnm rcm] 25) = W := ⟨_, rfl⟩
  rw [hW2] at hb2 hv2 ht2
  rw [hg] at hv2
  try rw [hW2]
  try rw [hg]
  obtain ⟨v0, v1, v2, v3, v4⟩ := hv2.cells5
  dsimp only at v0 v1 v2 v3 v4
  have hbw := HB0.out.trans (hb2.mono hw0)
  have HX := Lib.hid hbw
  have hw2 := hbw.size
  have HP1 : Hid (∀ W : World, Below W2.heap.size W2 W -> Calls Tryz.prog 56 _ W (OwnRet W 9 encS 1 L)) := fun W hW => HP.out ⟨rk, rn, rS, rpl, rnl, rcl, rpm, rnm, rcm⟩ W (Nat.le_trans (Nat.le_trans hBw hw2) hW.size) (ht2.under (hW.mono (Nat.le_trans hBw hw2)) (Nat.le_refl _))
  dsimp only [RV.val] at HP1
  clear hW2 hg hb1 ht1 hb2 hv2 hz1 hbw ht2 HP
  go_upto_region 9 with fail
  go_region_with (first
   | (go_at_call 56; refine (HP1.out _ (by first | exact Below.refl _ _ | exact (Below.refl _ _).drew | exact bdn (Below.refl _ _) _)).mono ?_; rintro e w3 ⟨u3, rfl, ho3, hb3⟩)
   | fail)
  all_goals
   first
    | go_ret
    | (go_wp2_with fail; go_ret)
   first
    | exact ⟨u3, rfl, ho3.mono hw2, HX.out.drew.trans (hb3.mono hw2)⟩
    | exact ⟨u3, rfl, ho3.mono hw2, HX.out.trans (hb3.mono hw2)⟩
    | exact ⟨u3, rfl, ho3.mono hw2, (bdn HX.out _).trans (hb3.mono hw2)⟩
end
section
open Go Go.RowKit
def svFull : ByteArray := ⟨#[102, 117, 108, 108]⟩
def svUnits : ByteArray := ⟨#[117, 110, 105, 116, 115]⟩
def svNick : ByteArray := ⟨#[110, 105, 99, 107, 110, 97, 109, 101]⟩
def svNicks : ByteArray := ⟨#[110, 105, 99, 107, 110, 97, 109, 101, 115]⟩
def svOrg : ByteArray := ⟨#[111, 114, 103, 97, 110, 105, 122, 97, 116, 105, 111, 110]⟩
def svOrgs : ByteArray := ⟨#[111, 114, 103, 97, 110, 105, 122, 97, 116, 105, 111, 110, 115]⟩
def svEmail : ByteArray := ⟨#[101, 109, 97, 105, 108]⟩
def svEmails : ByteArray := ⟨#[101, 109, 97, 105, 108, 115]⟩
def svAddr : ByteArray := ⟨#[97, 100, 100, 114, 101, 115, 115]⟩
def svAddrs : ByteArray := ⟨#[97, 100, 100, 114, 101, 115, 115, 101, 115]⟩
def svPhone : ByteArray := ⟨#[112, 104, 111, 110, 101]⟩
def svPhones : ByteArray := ⟨#[112, 104, 111, 110, 101, 115]⟩
def svNumber : ByteArray := ⟨#[110, 117, 109, 98, 101, 114]⟩
def svOnline : ByteArray := ⟨#[111, 110, 108, 105, 110, 101, 83, 101, 114, 118, 105, 99, 101]⟩
def svOnlines : ByteArray := ⟨#[111, 110, 108, 105, 110, 101, 83, 101, 114, 118, 105, 99, 101, 115]⟩
def svService : ByteArray := ⟨#[115, 101, 114, 118, 105, 99, 101]⟩
def svUri : ByteArray := ⟨#[117, 114, 105]⟩
def svUser : ByteArray := ⟨#[117, 115, 101, 114]⟩
def svNote : ByteArray := ⟨#[110, 111, 116, 101]⟩
def svNotes : ByteArray := ⟨#[110, 111, 116, 101, 115]⟩
def svText : ByteArray := ⟨#[116, 101, 120, 116]⟩
def eachJ (t : JV) (name : ByteArray) : List JV := match t.get name with | some x => if x.k = 6 then x.m.map (·.2) else [] | none => []
theorem eachJ_of (t : JV) (name : ByteArray) : eachJ t name = if ((t.get name).getD JV.zero).k = 6 then ((t.get name).getD JV.zero).m.map (·.2) else [] := by
 unfold eachJ
 cases t.get name with
 | none => exact (if_neg (by decide)).symm
 | some x => rfl
def wholeJ (t : JV) : List ByteArray := textM t svFull ++ partsJ t ⟨#[]⟩
def namedJ (t : JV) (nm : ByteArray) (fs : List ByteArray) : List ByteArray := (eachJ t nm).flatMap (fun x => fs.flatMap (textM x))
def orgJ (o : JV) : List ByteArray := textM o nameN ++ (inJ o svUnits).flatMap (fun u => textM u nameN)
def fieldJ (t : JV) (f : ByteArray) : List ByteArray :=
 if f = nameN then wholeJ (nameV t) else
 if f = givenN \/ f = surN \/ f = sur2N then partsJ (nameV t) (f.extract 5 f.size) else
 if f = svNick then namedJ t svNicks [nameN] else
 if f = svOrg then (eachJ t svOrgs).flatMap orgJ else
 if f = svEmail then namedJ t svEmails [svAddr] else
 if f = svPhone then namedJ t svPhones [svNumber] else
 if f = svOnline then namedJ t svOnlines [svService, svUri, svUser] else
 if f = svAddr then (eachJ t svAddrs).flatMap wholeJ else
 if f = svNote then namedJ t svNotes [svNote] else []
def allF : List ByteArray := [nameN, svNick, svOrg, svEmail, svPhone, svOnline, svAddr, svNote]
def textsJ (t : JV) (f : ByteArray) : List ByteArray := if f = svText then allF.flatMap (fieldJ t) else fieldJ t f
mutual
def sizeT : JV -> Nat
 | .mk _ _ s l m => s.size + sizeL l + sizeM m
def sizeL : List JV -> Nat
 | [] => 0
 | t :: l => sizeT t + sizeL l
def sizeM : List (ByteArray × JV) -> Nat
 | [] => 0
 | (_, t) :: m => sizeT t + sizeM m
end
theorem sizeT_s (t : JV) : t.s.size <= sizeT t := by
 cases t
 rw [sizeT]
 simp only [JV.s]
 omega
theorem sizeL_mem {l : List JV} {x : JV} (h : x ∈ l) : sizeT x <= sizeL l := by
 induction l with
 | nil => cases h
 | cons a r ih =>
   unfold sizeL
   rcases List.mem_cons.1 h with rfl | h
   ·omega
   ·have := ih h
    omega
theorem sizeM_mem {m : List (ByteArray × JV)} {p : ByteArray × JV} (h : p ∈ m) : sizeT p.2 <= sizeM m := by
 induction m with
 | nil => cases h
 | cons a r ih =>
   obtain ⟨a, b⟩ := a
   rw [sizeM]
   rcases List.mem_cons.1 h with rfl | h
   ·exact Nat.le_add_right _ _
   ·have := ih h
    omega
theorem sizeT_l {t x : JV} (h : x ∈ t.l) : sizeT x <= sizeT t := by
 cases t
 have := sizeL_mem h
 rw [sizeT]
 simp only [JV.l] at this
 omega
theorem sizeT_m {t : JV} {p : ByteArray × JV} (h : p ∈ t.m) : sizeT p.2 <= sizeT t := by
 cases t
 have := sizeM_mem h
 rw [sizeT]
 simp only [JV.m] at this
 omega
theorem countS_pos (t : JV) : 1 <= countT t := by
 cases t
 unfold countT
 omega
theorem countL_len (l : List JV) : l.length <= countL l := by
 induction l with
 | nil => simp
 | cons a r ih =>
   unfold countL
   have := countS_pos a
   rw [List.length_cons]
   omega
theorem countL_mem {l : List JV} {x : JV} (h : x ∈ l) : countT x <= countL l := by
 induction l with
 | nil => cases h
 | cons a r ih =>
   unfold countL
   rcases List.mem_cons.1 h with rfl | h
   ·omega
   ·have := ih h
    omega
theorem countM_map (m : List (ByteArray × JV)) : countM m = countL (m.map (·.2)) := by
 induction m with
 | nil => rfl
 | cons a r ih =>
   obtain ⟨a, b⟩ := a
   unfold countM
   rw [List.map_cons]
   unfold countL
   rw [ih]
theorem countT_l (t : JV) : countL t.l + 1 <= countT t := by
 cases t
 unfold countT
 simp only [JV.l]
 omega
theorem countT_m (t : JV) : countL (t.m.map (·.2)) + 1 <= countT t := by
 cases t
 rw [countT]
 simp only [JV.m]
 rw [<- countM_map]
 omega
theorem mem_sub {t : JV} {p : ByteArray × JV} (h : p ∈ t.mem) : p ∈ t.m := by
 cases t with
 | mk k n s l m =>
   change p ∈ (if k = 6 then m else []) at h
   by_cases hk : k = 6
   ·rw [if_pos hk] at h
    exact h
   ·rw [if_neg hk] at h
    cases h
theorem get_memJ {t x : JV} {name : ByteArray} (h : t.get name = some x) : ∃ p ∈ t.m, p.2 = x /\ p.1 = name := by
 unfold JV.get JV.place at h
 rw [Option.bind_eq_some_iff] at h
 obtain ⟨i, h1, h2⟩ := h
 rw [Option.map_eq_some_iff] at h2
 obtain ⟨p, h3, h4⟩ := h2
 rw [List.findIdx?_eq_some_iff_getElem] at h1
 obtain ⟨hi, h5, _⟩ := h1
 rw [List.getElem?_eq_getElem hi] at h3
 have h6 : t.mem[i] = p := Option.some.inj h3
 rw [h6] at h5
 refine ⟨p, ?_, h4, by simpa using h5⟩
 exact mem_sub (h6 ▸ List.getElem_mem hi)
theorem count_get {t x : JV} {name : ByteArray} (h : t.get name = some x) : countT x + 1 <= countT t := by
 obtain ⟨p, h1, rfl, _⟩ := get_memJ h
 have h2 := countL_mem (List.mem_map_of_mem (f := (·.2)) h1)
 have h3 := countT_m t
 omega
theorem size_get {t x : JV} {name : ByteArray} (h : t.get name = some x) : sizeT x <= sizeT t := by
 obtain ⟨p, h1, rfl, _⟩ := get_memJ h
 exact sizeT_m h1
theorem count_name (t : JV) : countT (nameV t) <= countT t := by
 unfold nameV
 cases h : t.get nameN with
 | none => exact countS_pos t
 | some x => have := count_get h; exact Nat.le_of_lt this
theorem size_name (t : JV) : sizeT (nameV t) <= sizeT t := by
 unfold nameV
 cases h : t.get nameN with
 | none => exact Nat.zero_le _
 | some x => exact size_get h
theorem inJ_count (t : JV) (name : ByteArray) : countL (inJ t name) + 1 <= countT t := by
 unfold inJ
 cases h : t.get name with
 | none => exact countS_pos t
 | some x =>
   have h1 := count_get h
   have h2 := countT_l x
   dsimp only
   split
   ·omega
   ·exact countS_pos t
theorem inJ_len (t : JV) (name : ByteArray) : (inJ t name).length + 1 <= countT t := Nat.le_trans (Nat.succ_le_succ (countL_len _)) (inJ_count t name)
theorem eachJ_count (t : JV) (name : ByteArray) : countL (eachJ t name) + 1 <= countT t := by
 unfold eachJ
 cases h : t.get name with
 | none => exact countS_pos t
 | some x =>
   have h1 := count_get h
   have h2 := countT_m x
   dsimp only
   split
   ·omega
   ·exact countS_pos t
theorem eachJ_len (t : JV) (name : ByteArray) : (eachJ t name).length + 1 <= countT t := Nat.le_trans (Nat.succ_le_succ (countL_len _)) (eachJ_count t name)
theorem eachJ_size {t x : JV} {name : ByteArray} (h : x ∈ eachJ t name) : sizeT x <= sizeT t := by
 unfold eachJ at h
 cases hg : t.get name with
 | none => rw [hg] at h; cases h
 | some y =>
   rw [hg] at h
   dsimp only at h
   split at h
   ·obtain ⟨p, h1, rfl⟩ := List.mem_map.1 h
    exact Nat.le_trans (sizeT_m h1) (size_get hg)
   ·cases h
theorem inJ_size {t x : JV} {name : ByteArray} (h : x ∈ inJ t name) : sizeT x <= sizeT t := by
 unfold inJ at h
 cases hg : t.get name with
 | none => rw [hg] at h; cases h
 | some y =>
   rw [hg] at h
   dsimp only at h
   split at h
   ·exact Nat.le_trans (sizeT_l h) (size_get hg)
   ·cases h
theorem eachJ_ok {t : JV} {name : ByteArray} (h : t.Ok) : (eachJ t name).length <= 1466015503658 /\ ∀ (i : Nat) (x : JV), (eachJ t name)[i]? = some x -> x.Ok := by
 unfold eachJ
 cases hx : t.get name with
 | none => exact ⟨by simp, fun i x a => by simp at a⟩
 | some v =>
   have hv := h.get hx
   dsimp only
   split
   ·cases hv with
    | mk _ _ _ _ hm _ _ cm =>
      refine ⟨by rw [List.length_map]; exact hm, fun i x a => ?_⟩
      rw [List.getElem?_map, Option.map_eq_some_iff] at a
      obtain ⟨p, h1, rfl⟩ := a
      exact cm i p h1
   ·exact ⟨by simp, fun i x a => by simp at a⟩
theorem textM_size {t : JV} {name x : ByteArray} (h : x ∈ textM t name) : x.size <= sizeT t := by
 unfold textM at h
 cases hg : t.get name with
 | none => rw [hg] at h; cases h
 | some y =>
   rw [hg] at h
   dsimp only at h
   split at h
   ·rw [List.mem_singleton] at h
    subst h
    exact Nat.le_trans (sizeT_s y) (size_get hg)
   ·cases h
theorem flat_len {α β : Type} {f : α -> List β} {n : Nat} (h : ∀ x, (f x).length <= n) (l : List α) : (l.flatMap f).length <= n * l.length := by
 induction l with
 | nil => simp
 | cons a r ih =>
   rw [List.flatMap_cons, List.length_append, List.length_cons, Nat.mul_add, Nat.mul_one]
   have := h a
   omega
theorem flat_count {β : Type} {f : JV -> List β} (h : ∀ x, (f x).length <= countT x) (l : List JV) : (l.flatMap f).length <= countL l := by
 induction l with
 | nil => simp
 | cons a r ih =>
   rw [List.flatMap_cons, List.length_append]
   unfold countL
   have := h a
   omega
theorem flat_take {α β : Type} (f : α -> List β) (l : List α) (j : Nat) : ((l.take j).flatMap f).length <= (l.flatMap f).length := by
 have h : l.flatMap f = (l.take j).flatMap f ++ (l.drop j).flatMap f := by rw [<- List.flatMap_append, List.take_append_drop]
 rw [h, List.length_append]
 omega
theorem flat_succ {α β : Type} {f : α -> List β} {l : List α} {j : Nat} {x : α} (h : l[j]? = some x) : (l.take (j + 1)).flatMap f = (l.take j).flatMap f ++ f x := by
 rw [List.take_add_one, h, Option.toList_some, List.flatMap_append]
 simp
theorem flat_mid {α β : Type} {f : α -> List β} {l : List α} {j : Nat} {x : α} (h : l[j]? = some x) : ((l.take j).flatMap f).length + (f x).length <= (l.flatMap f).length := by
 have h1 := flat_succ (f := f) h
 have h2 := flat_take f l (j + 1)
 rw [h1, List.length_append] at h2
 exact h2
theorem partsJ_count (t : JV) (kind : ByteArray) : (partsJ t kind).length + 1 <= countT t := by
 rw [partsJ_of]
 exact Nat.le_trans (Nat.succ_le_succ (partsL_len _ _)) (inJ_len t compN)
theorem wholeJ_len (t : JV) : (wholeJ t).length <= countT t := by
 unfold wholeJ
 rw [List.length_append]
 have h1 := textM_len t svFull
 have h2 := partsJ_count t ⟨#[]⟩
 omega
theorem orgJ_len (t : JV) : (orgJ t).length <= countT t := by
 unfold orgJ
 rw [List.length_append]
 have h1 := textM_len t nameN
 have h2 := flat_len (f := fun u => textM u nameN) (n := 1) (fun u => textM_len u nameN) (inJ t svUnits)
 have h3 := inJ_len t svUnits
 omega
theorem texts_fs (x : JV) (fs : List ByteArray) : (fs.flatMap (textM x)).length <= fs.length := by
 have := flat_len (f := textM x) (n := 1) (fun n => textM_len x n) fs
 omega
theorem namedJ_len (t : JV) (nm : ByteArray) (fs : List ByteArray) : (namedJ t nm fs).length <= fs.length * countT t := by
 unfold namedJ
 have h1 := flat_len (f := fun x => fs.flatMap (textM x)) (n := fs.length) (fun x => texts_fs x fs) (eachJ t nm)
 have h2 := eachJ_len t nm
 exact Nat.le_trans h1 (Nat.mul_le_mul_left _ (by omega))
theorem fieldJ_len (t : JV) (f : ByteArray) : (fieldJ t f).length <= 3 * countT t := by
 have hc := countS_pos t
 unfold fieldJ
 split
 ·have h1 := wholeJ_len (nameV t)
  have h2 := count_name t
  omega
 ·split
  ·have h1 := partsJ_count (nameV t) (f.extract 5 f.size)
   have h2 := count_name t
   omega
  ·split
   ·have h := namedJ_len t svNicks [nameN]
    simp only [List.length_singleton] at h
    omega
   ·split
    ·have h := flat_count orgJ_len (eachJ t svOrgs)
     have h2 := eachJ_count t svOrgs
     omega
    ·split
     ·have h := namedJ_len t svEmails [svAddr]
      simp only [List.length_singleton] at h
      omega
     ·split
      ·have h := namedJ_len t svPhones [svNumber]
       simp only [List.length_singleton] at h
       omega
      ·split
       ·exact namedJ_len t svOnlines [svService, svUri, svUser]
       ·split
        ·have h := flat_count wholeJ_len (eachJ t svAddrs)
         have h2 := eachJ_count t svAddrs
         omega
        ·split
         ·have h := namedJ_len t svNotes [svNote]
          simp only [List.length_singleton] at h
          omega
         ·simp
theorem textsJ_len (t : JV) (f : ByteArray) : (textsJ t f).length <= 24 * countT t := by
 unfold textsJ
 split
 ·have h := flat_len (f := fieldJ t) (n := 3 * countT t) (fieldJ_len t) allF
  have e : allF.length = 8 := rfl
  rw [e] at h
  omega
 ·have := fieldJ_len t f
  omega
theorem partsJ_size {t : JV} {kind x : ByteArray} (h : x ∈ partsJ t kind) : x.size <= sizeT t := by
 rw [partsJ_of] at h
 unfold partsL at h
 obtain ⟨c, h1, h2⟩ := List.mem_flatMap.1 h
 exact Nat.le_trans (textM_size h2) (inJ_size ((List.mem_filter.1 h1).1))
theorem wholeJ_size {t : JV} {x : ByteArray} (h : x ∈ wholeJ t) : x.size <= sizeT t := by
 unfold wholeJ at h
 rcases List.mem_append.1 h with h | h
 ·exact textM_size h
 ·exact partsJ_size h
theorem orgJ_size {t : JV} {x : ByteArray} (h : x ∈ orgJ t) : x.size <= sizeT t := by
 unfold orgJ at h
 rcases List.mem_append.1 h with h | h
 ·exact textM_size h
 ·obtain ⟨c, h1, h2⟩ := List.mem_flatMap.1 h
  exact Nat.le_trans (textM_size h2) (inJ_size h1)
theorem namedJ_size {t : JV} {nm x : ByteArray} {fs : List ByteArray} (h : x ∈ namedJ t nm fs) : x.size <= sizeT t := by
 unfold namedJ at h
 obtain ⟨c, h1, h2⟩ := List.mem_flatMap.1 h
 obtain ⟨n, h3, h4⟩ := List.mem_flatMap.1 h2
 exact Nat.le_trans (textM_size h4) (eachJ_size h1)
theorem fieldJ_size {t : JV} {f x : ByteArray} (h : x ∈ fieldJ t f) : x.size <= sizeT t := by
 unfold fieldJ at h
 split at h
 ·exact Nat.le_trans (wholeJ_size h) (size_name t)
 ·split at h
  ·exact Nat.le_trans (partsJ_size h) (size_name t)
  ·split at h
   ·exact namedJ_size h
   ·split at h
    ·obtain ⟨c, h1, h2⟩ := List.mem_flatMap.1 h
     exact Nat.le_trans (orgJ_size h2) (eachJ_size h1)
    ·split at h
     ·exact namedJ_size h
     ·split at h
      ·exact namedJ_size h
      ·split at h
       ·exact namedJ_size h
       ·split at h
        ·obtain ⟨c, h1, h2⟩ := List.mem_flatMap.1 h
         exact Nat.le_trans (wholeJ_size h2) (eachJ_size h1)
        ·split at h
         ·exact namedJ_size h
         ·cases h
theorem textsJ_size {t : JV} {f x : ByteArray} (h : x ∈ textsJ t f) : x.size <= sizeT t := by
 unfold textsJ at h
 split at h
 ·obtain ⟨c, h1, h2⟩ := List.mem_flatMap.1 h
  exact fieldJ_size h2
 ·exact fieldJ_size h
end
end Go.Proofs.YtffhccmppdgmfaaGreatDoor
