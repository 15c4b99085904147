import Derived.Test.YtfgjimpmpckgpaaGreatDoorSg03
import Derived.Test.YtfgjimpmpckgpaaGreatDoorSg09
import Derived.Test.YtfgjimpmpckgpaaGreatDoorSg08
import Derived.Test.YtfgjimpmpckgpaaGreatDoorSg04
import Derived.Shelf.Strings.Cut
import Derived.Shelf.Strings.Fields
import Derived.Test.YtfgjimpmpckgpaaGreatDoorProg
set_option linter.unusedSimpArgs false
set_option linter.unusedVariables false
set_option maxRecDepth 200000
set_option maxHeartbeats 8000000
namespace Go.Proofs.YtfgjimpmpckgpaaGreatDoor
section
open Go.RowKit Go.OpenShut
def nameB (name : ByteArray) (x : RM) : Bool := decide (x.name = name)
def MAt (W : World) (g : Nat) (x : RM) : Prop := W.heap[g]? = some (.cells #[.string x.name, .int .i64 x.v.k, .int .i64 x.v.n, .string x.v.s, .slice x.v.pl x.v.nl x.v.cl, .slice x.v.pm x.v.nm x.v.cm] 81 (0, 0))
theorem MAt.cell {W : World} {g : Nat} {r : RM} (h : MAt W g r) (j : Nat) {u : Value} (hu : (encM r)[j]? = some u) : W.cell? ⟨g, j, none⟩ = some u := by
 unfold MAt at h
 rw [cell_of_row W g j _ _ _ h, <- Array.getElem?_toList]
 exact hu
theorem MAt.cells6 {W : World} {g : Nat} {r : RM} (h : MAt W g r) : W.cell? ⟨g, 0, none⟩ = some (.string r.name) /\ W.cell? ⟨g, 1, none⟩ = some (.int .i64 r.v.k) /\ W.cell? ⟨g, 2, none⟩ = some (.int .i64 r.v.n) /\ W.cell? ⟨g, 3, none⟩ = some (.string r.v.s) /\ W.cell? ⟨g, 4, none⟩ = some (.slice r.v.pl r.v.nl r.v.cl) /\ W.cell? ⟨g, 5, none⟩ = some (.slice r.v.pm r.v.nm r.v.cm) := ⟨h.cell 0 rfl, h.cell 1 rfl, h.cell 2 rfl, h.cell 3 rfl, h.cell 4 rfl, h.cell 5 rfl⟩
theorem MAt.under {W W' : World} {g B : Nat} {r : RM} (h : MAt W g r) (hb : Below B W W') (hg : g < B) : MAt W' g r := (hb.block g hg).trans h
structure DelRel (rms : List RM) (name : ByteArray) (a b : Nat) (cur : List RM) : Prop where
 lt : a < b
 len : cur.length = rms.length
 head : cur.take a = (rms.take b).filter (fun x => !nameB name x)
 tail : cur.drop b = rms.drop b
theorem DelRel.start {rms : List RM} {name : ByteArray} {i : Nat} (h : rms.findIdx? (nameB name) = some i) : DelRel rms name i (i + 1) rms := by
 rw [List.findIdx?_eq_some_iff_getElem] at h
 obtain ⟨h1, h2, h3⟩ := h
 refine ⟨by omega, rfl, ?_, rfl⟩
 rw [List.take_add_one, List.getElem?_eq_getElem h1, List.filter_append]
 have e1 : (rms.take i).filter (fun x => !nameB name x) = rms.take i := by
  rw [List.filter_eq_self]
  intro x hx
  obtain ⟨j, hj⟩ := List.getElem?_of_mem hx
  rw [List.getElem?_take] at hj
  split at hj
  ·have := h3 j (by assumption)
   rw [List.getElem?_eq_getElem (by omega)] at hj
   cases hj
   simpa using this
  ·cases hj
 rw [e1]
 simp [h2]
theorem DelRel.at {rms cur : List RM} {name : ByteArray} {a b : Nat} (h : DelRel rms name a b cur) {x : RM} (hx : rms[b]? = some x) : cur[b]? = some x := by
 have h1 : (cur.drop b)[0]? = (rms.drop b)[0]? := by rw [h.tail]
 simpa [List.getElem?_drop, hx] using h1
theorem DelRel.skip {rms cur : List RM} {name : ByteArray} {a b : Nat} (h : DelRel rms name a b cur) {x : RM} (hx : rms[b]? = some x) (hn : nameB name x = true) : DelRel rms name a (b + 1) cur := by
 refine ⟨by have := h.lt; omega, h.len, ?_, ?_⟩
 ·rw [List.take_add_one, hx, List.filter_append, <- h.head]
  simp [hn]
 ·rw [<- List.drop_drop (i := 1) (j := b), <- List.drop_drop (i := 1) (j := b), h.tail]
theorem DelRel.keep {rms cur : List RM} {name : ByteArray} {a b : Nat} (h : DelRel rms name a b cur) {x : RM} (hx : rms[b]? = some x) (hn : nameB name x = false) : DelRel rms name (a + 1) (b + 1) (cur.set a x) := by
 have hl := h.lt
 have hbl := (List.getElem?_eq_some_iff.1 hx).1
 refine ⟨by omega, by rw [List.length_set, h.len], ?_, ?_⟩
 ·rw [List.take_add_one, List.take_set_of_le (Nat.le_refl _), List.getElem?_set_self (by have := h.len; omega), List.take_add_one, hx, List.filter_append, <- h.head]
  simp [hn]
 ·rw [List.drop_set_of_lt (by omega), <- List.drop_drop (i := 1) (j := b), <- List.drop_drop (i := 1) (j := b), h.tail]
theorem DelRel.done {rms cur : List RM} {name : ByteArray} {a : Nat} (h : DelRel rms name a rms.length cur) : cur.take a = rms.filter (fun x => !nameB name x) := by
 have := h.head
 rwa [List.take_length] at this
def lowN (os : List (ByteArray × JV)) (id : ByteArray) : Nat := (os.takeWhile (fun p => decide (cmpN p.1 id < 0))).length
def isAt (os : List (ByteArray × JV)) (id : ByteArray) : Bool := match os[lowN os id]? with
 | some p => decide (p.1 = id)
 | none => false
def Rising (os : List (ByteArray × JV)) : Prop := ∀ (i j : Nat) p q, i < j -> os[i]? = some p -> os[j]? = some q -> cmpN p.1 q.1 < 0
theorem cmpN_lt_trans {a b c : ByteArray} (h1 : cmpN a b < 0) (h2 : ¬ cmpN c b < 0) : cmpN a c < 0 := by
 by_cases h : cmpN a c < 0
 ·exact h
 ·exact absurd h1 (cmpB_ntrans _ _ _ h h2)
def BoxAt (W : World) (g : Nat) (r : RB) : Prop := W.heap[g]? = some (.cells #[.slice r.po r.no r.co, .slice r.pt r.nt r.ct, .int .i64 r.sq, .int .i64 r.fl, .int .i64 r.kp] 25 (0, 0))
theorem BoxAt.cell {W : World} {g : Nat} {r : RB} (h : BoxAt W g r) (j : Nat) {u : Value} (hu : (encB r)[j]? = some u) : W.cell? ⟨g, j, none⟩ = some u := by
 unfold BoxAt at h
 rw [cell_of_row W g j _ _ _ h, <- Array.getElem?_toList]
 exact hu
theorem BoxAt.cells5 {W : World} {g : Nat} {r : RB} (h : BoxAt W g r) : W.cell? ⟨g, 0, none⟩ = some (.slice r.po r.no r.co) /\ W.cell? ⟨g, 1, none⟩ = some (.slice r.pt r.nt r.ct) /\ W.cell? ⟨g, 2, none⟩ = some (.int .i64 r.sq) /\ W.cell? ⟨g, 3, none⟩ = some (.int .i64 r.fl) /\ W.cell? ⟨g, 4, none⟩ = some (.int .i64 r.kp) := ⟨h.cell 0 rfl, h.cell 1 rfl, h.cell 2 rfl, h.cell 3 rfl, h.cell 4 rfl⟩
theorem BoxAt.frozen {W : World} {g : Nat} {r : RB} (h : BoxAt W g r) (j : Nat) : W.frozen? ⟨g, j, none⟩ = false := by
 unfold BoxAt at h
 simp [World.frozen?, h]
theorem BoxAt.under {W W' : World} {g B : Nat} {r : RB} (h : BoxAt W g r) (hb : Below B W W') (hg : g < B) : BoxAt W' g r := (hb.block g hg).trans h
theorem BoxAt.lt {W : World} {g : Nat} {r : RB} (h : BoxAt W g r) : g < W.heap.size := (Array.getElem?_eq_some_iff.1 h).1
def findJ (os : List (ByteArray × JV)) (id : ByteArray) : Option JV := (os.find? (fun p => decide (p.1 = id))).map (·.2)
abbrev isIdV (g : Nat) : Value := .func (.func 106) #[] #[.pointer (some ⟨g, 0, none⟩)]
theorem isIdO_any (x : RM) (g : Nat) (name : ByteArray) (w : World) (hg : w.cell? ⟨g, 0, none⟩ = some (.string name)) :
 Calls Tryz.prog 106 #[x.val, .pointer (some ⟨g, 0, none⟩)] w fun e w' => e = .returned (.bool (decide (x.name = name))) /\ Below w.heap.size w w' := by
 obtain ⟨nm, k, n, s, pl, nl, cl, pm, nm', cm⟩ := x
 dsimp only [RM.val]
 have hlt := (cell_some hg).2
 have hne := World.new_ne w ⟨g, 0, none⟩ hg
 have hB : Below w.heap.size w (w.alloc (.cells #[.string nm, .int .i64 k, .int .i64 n, .string s, .slice pl nl cl, .slice pm nm' cm] 44)) := (Below.refl _ _).alloc (Nat.le_refl _) _
 have hc := bcs hB hlt hg
 have hq := str_beq nm name
 have HQ := Lib.hid hq
 clear hq
 go_enter Tryz.func106, Tryz.ntmps106
 go_wp2_with fail
 go_ret
 exact ⟨by rw [<- HQ.out]; rfl, hB⟩
theorem indexO_any (w : World) (p : Option Addr) (n c : Nat) (rms : List RM) (hv : Rd w w.heap.size encM 6 (.slice p n c) rms) (g : Nat) (name : ByteArray) (hg : w.cell? ⟨g, 0, none⟩ = some (.string name)) (hlen : rms.length <= 1466015503658) :
 Calls Tryz.prog 105 #[.slice p n c, isIdV g] w fun e w' => e = .returned (.int .i64 (placeI (rms.findIdx? (nameB name)))) /\ Below w.heap.size w w' := by
 have hn := rd_nlen hv
 subst hn
 have HV := Lib.hid hv
 have hgl := (cell_some hg).2
 clear hv
 go_enter Tryz.func105, Tryz.ntmps105
 go_wp2_with fail
 go_loopw [8] (fun i wr => ∃ k : Nat, k <= rms.length /\ i = .int .i64 k /\ Hid (∀ (j : Nat) y, j < k -> rms[j]? = some y -> nameB name y = false) /\ Below w.heap.size w wr) (fun i _ => rms.length - (intOf i).toNat)
 case atStart => exact ⟨0, Nat.zero_le _, rfl, fun j y h => by omega, Below.refl _ _⟩
 case round =>
  obtain ⟨k, hk, rfl, hno, hbr⟩ := hrel
  by_cases hlt : k < rms.length
  ·obtain ⟨x, hx⟩ : ∃ x, rms[k]? = some x := ⟨_, List.getElem?_eq_getElem hlt⟩
   obtain ⟨b1, o1, rfl, hb1, hc1⟩ := rd_at' (HV.out.below hbr (Nat.le_refl _)) hx
   have f0 := hc1 0 _ rfl
   have f1 := hc1 1 _ rfl
   have f2 := hc1 2 _ rfl
   have f3 := hc1 3 _ rfl
   have f4 := hc1 4 _ rfl
   have f5 := hc1 5 _ rfl
   rw [Nat.add_zero] at f0
   have HX := Lib.hid hx
   have hz := hbr.size
   have HBR := Lib.hid hbr
   have hgr := Lib.hid (bcs hbr hgl hg)
   cases hnb : nameB name x with
   | true =>
     have HF := Lib.hid (find_at HX.out hnb hno.out)
     have HNB : Hid (decide (x.name = name) = true) := hnb
     clear hx hc1 hbr hnb hno hg
     go_wp2_with (go_at_call 106; refine (isIdO_any x g name _ hgr.out).mono ?_; rintro e w1 ⟨rfl, hb1'⟩; rw [HNB.out])
     go_ret
     exact ⟨ret_int (by rw [HF.out]; rfl), HBR.out.trans (hb1'.mono HBR.out.size)⟩
   | false =>
     have HNB : Hid (decide (x.name = name) = false) := hnb
     have HNX : Hid (∀ (j : Nat) y, j < k + 1 -> rms[j]? = some y -> nameB name y = false) := by
      intro j y hj hy
      by_cases e : j = k
      ·subst e
       rw [hx] at hy
       cases hy
       exact hnb
      ·exact hno.out j y (by omega) hy
     clear hx hc1 hbr hnb hno hg
     go_wp2_with (go_at_call 106; refine (isIdO_any x g name _ hgr.out).mono ?_; rintro e w1 ⟨rfl, hb1'⟩; rw [HNB.out])
     go_roundw
     case rel => exact ⟨k + 1, by omega, by go_num, HNX, HBR.out.trans (hb1'.mono HBR.out.size)⟩
     case measure => simp [intOf]; omega
  ·obtain rfl : k = rms.length := by omega
   have HF := Lib.hid (find_not (p := nameB name) (l := rms) (fun j y hy => hno.out j y (List.getElem?_eq_some_iff.1 hy).1 hy))
   go_wp2_with fail
   go_ret
   exact ⟨ret_int (by rw [HF.out]; rfl), hbr⟩
theorem find_same {os : List (ByteArray × JV)} {rms : List RM} (hl : os.length = rms.length) (hn : ∀ (i : Nat) p q, os[i]? = some p -> rms[i]? = some q -> p.1 = q.name) (id : ByteArray) : os.findIdx? (fun p => decide (p.1 = id)) = rms.findIdx? (nameB id) := by
 induction os generalizing rms with
 | nil =>
   have := List.eq_nil_of_length_eq_zero hl.symm
   subst this
   rfl
 | cons p os ih =>
   cases rms with
   | nil => simp at hl
   | cons q rms =>
     have h0 := hn 0 p q rfl rfl
     have ih := ih (rms := rms) (by simpa using hl) (fun i a b h1 h2 => hn (i + 1) a b (by simpa using h1) (by simpa using h2))
     rw [List.findIdx?_cons, List.findIdx?_cons, ih]
     unfold nameB
     rw [h0]
theorem findJ_some {os : List (ByteArray × JV)} {id : ByteArray} {i : Nat} (h : os.findIdx? (fun p => decide (p.1 = id)) = some i) : ∃ p, os[i]? = some p /\ findJ os id = some p.2 := by
 induction os generalizing i with
 | nil => simp at h
 | cons p os ih =>
   rw [List.findIdx?_cons] at h
   unfold findJ at ih ⊢
   by_cases e : p.1 = id
   ·simp [e] at h
    subst h
    exact ⟨p, rfl, by simp [List.find?_cons, e]⟩
   ·simp [e] at h
    obtain ⟨j, hj, rfl⟩ := h
    obtain ⟨q, h1, h2⟩ := ih hj
    exact ⟨q, by simpa using h1, by simpa [List.find?_cons, e] using h2⟩
theorem findJ_none {os : List (ByteArray × JV)} {id : ByteArray} (h : os.findIdx? (fun p => decide (p.1 = id)) = none) : findJ os id = none := by
 unfold findJ
 rw [List.findIdx?_eq_none_iff] at h
 rw [List.find?_eq_none.2 (fun x hx => by have := h x hx; simpa using this)]
 rfl
def FindRet (w : World) (o : Option JV) (e : Ending) (w' : World) : Prop :=
 ∃ r, e = .returned (.tuple #[RV.val r, .bool o.isSome]) /\ TreeOf w' w'.heap.size (o.getD JV.zero) r /\ Below w.heap.size w w'
def encS (s : ByteArray) : List Value := [.string s]
theorem codecS : Codec encS 1 := ⟨fun _ => rfl, fun x u hu => by
 simp only [encS, List.mem_cons, List.not_mem_nil, or_false] at hu
 subst hu; rfl, by decide⟩
theorem slS : SlT Tryz.prog 57 9 1 16 := SlT.mk (z := .string ByteArray.empty) Tryz.underlying57 (by kernel_rfl) rfl
def IdsRet (w : World) (l : List ByteArray) (e : Ending) (w' : World) : Prop := ∃ u, e = .returned u /\ Own w' w.heap.size 9 encS 1 u l /\ Below w.heap.size w w'
theorem ids_any (b : BoxD) (r : RB) (w : World) (hb : BoxOf w w.heap.size b r) (ob : b.Ok) :
 Calls Tryz.prog 103 #[r.val] w (IdsRet w (b.objs.map (·.1))) := by
 have ho := hb.objs
 obtain ⟨po, no, co, pt, nt, ct, sq, fl, kp⟩ := r
 dsimp only [RB.val] at *
 obtain ⟨rms, hrd, hms⟩ := ho
 have hn := rd_nlen hrd
 have hlm := hms.len
 have hzo := ob.objs
 have hA0 : BoxAt (w.alloc (.cells #[.slice po no co, .slice pt nt ct, .int .i64 sq, .int .i64 fl, .int .i64 kp] 25)) w.heap.size ⟨po, no, co, pt, nt, ct, sq, fl, kp⟩ := heap_alloc_at rfl
 have hB0 : Below w.heap.size w (w.alloc (.cells #[.slice po no co, .slice pt nt ct, .int .i64 sq, .int .i64 fl, .int .i64 kp] 25)) := (Below.refl _ _).alloc (Nat.le_refl _) _
 have HRD := Lib.hid hrd
 have HMS := Lib.hid hms
 have HN : Hid (b.objs.length = no /\ rms.length = no) := ⟨by omega, by omega⟩
 have hno : no <= 1466015503658 := by omega
 clear hb hrd hms hn hlm hzo ob
 go_enter Tryz.func103, Tryz.ntmps103
 go_upto_region 1 with fail
 obtain ⟨W0, hW0⟩ : ∃ W0, (w.alloc (.cells #[.slice po no co, .slice pt nt ct, .int .i64 sq, .int .i64 fl, .int .i64 kp] 25)) = W0 := ⟨_, rfl⟩
 rw [hW0] at hA0 hB0 ⊢
 clear hW0
 have c0 := hA0.cell 0 rfl
 dsimp only at c0
 have HB := Lib.hid hB0
 have hz := hA0.lt
 clear hA0 hB0
 go_wp2_with fail
 go_loopw [3, 9] (fun o i wr => ∃ k : Nat, k <= no /\ i = .int .i64 k /\ Hid (Own wr w.heap.size 9 encS 1 o ((b.objs.take k).map (·.1))) /\ Below w.heap.size w wr) (fun _ i _ => no - (intOf i).toNat)
 case atStart => exact ⟨0, Nat.zero_le _, rfl, Own.nil _ _ _, HB.out⟩
 case round =>
  obtain ⟨k, hk, rfl, hown, hbr⟩ := hrel
  by_cases hlt : k < no
  ·obtain ⟨x, hx⟩ : ∃ x, rms[k]? = some x := ⟨_, List.getElem?_eq_getElem (by have := HN.out; omega)⟩
   obtain ⟨p, hp⟩ : ∃ x, b.objs[k]? = some x := ⟨_, List.getElem?_eq_getElem (by have := HN.out; omega)⟩
   have hpn := HMS.out.name _ p x hp hx
   obtain ⟨b1, o1, rfl, hb1, hc1⟩ := rd_at' (HRD.out.below hbr (Nat.le_refl _)) hx
   have f0 := hc1 0 _ rfl
   have f1 := hc1 1 _ rfl
   have f2 := hc1 2 _ rfl
   have f3 := hc1 3 _ rfl
   have f4 := hc1 4 _ rfl
   have f5 := hc1 5 _ rfl
   rw [Nat.add_zero] at f0
   have hk0 : (0 : Int) <= (k : Int) := Int.natCast_nonneg _
   have hk1 : (k : Int) < (no : Int) := by omega
   have hsn : (b.objs.take (k + 1)).map (·.1) = (b.objs.take k).map (·.1) ++ [x.name] := by rw [List.take_add_one, hp]; simp [hpn]
   have HSN := Lib.hid hsn
   have HBR := Lib.hid hbr
   have HO2 := Lib.hid ((hown.out.alloc (.cells #[.string x.name, .int .i64 x.v.k, .int .i64 x.v.n, .string x.v.s, .slice x.v.pl x.v.nl x.v.cl, .slice x.v.pm x.v.nm x.v.cm] 44)).alloc (.cells #[.string x.name] 9))
   have HB2 := Lib.hid ((hbr.alloc hbr.size (.cells #[.string x.name, .int .i64 x.v.k, .int .i64 x.v.n, .string x.v.s, .slice x.v.pl x.v.nl x.v.cl, .slice x.v.pm x.v.nm x.v.cm] 44)).alloc (by simp; have := hbr.size; omega) (.cells #[.string x.name] 9))
   have HR2 : Hid (Rd ((wr.alloc (.cells #[.string x.name, .int .i64 x.v.k, .int .i64 x.v.n, .string x.v.s, .slice x.v.pl x.v.nl x.v.cl, .slice x.v.pm x.v.nm x.v.cm] 44)).alloc (.cells #[.string x.name] 9)) (wr.heap.size + 1 + 1) encS 1 (.slice (some ⟨wr.heap.size + 1, 0, none⟩) 1 1) [x.name]) := Rd.one codecS (heap_alloc_at (by simp)) rfl (by omega)
   have hl : ((b.objs.take k).map (·.1)).length <= 1466015503658 := by simp; omega
   have HL := Lib.hid hl
   clear hx hp hpn hc1 hbr hsn hown hl
   go_wp2_with (at_builtin; refine wpList_append_rd slS codecS _ rfl _ _ rfl rfl rfl HO2.out HR2.out (by have := HL.out; simp only [List.length_singleton]; unfold maxLen; omega) (by have := HL.out; simp only [List.length_singleton]; omega) (by have := HBR.out.size; simp; omega) ?_; intro v1 w1 ho1 hg1 hat1)
   go_roundw
   case rel => exact ⟨k + 1, by omega, by go_num, by unfold Hid; rw [HSN.out]; exact ho1, Below.appended HB2.out hg1 HO2.out HB2.out.size⟩
   case measure => simp [intOf]; omega
  ·obtain rfl : k = no := by omega
   go_wp2_with fail
   go_ret
   refine ⟨_, rfl, ?_, hbr⟩
   have h := hown.out
   rw [List.take_of_length_le (by have := HN.out; omega)] at h
   exact h
end
section
open Go Go.RowKit Go.OpenShut
theorem all_take {α : Type} {l : List α} {p : α -> Bool} (h : ∀ (j : Nat) y, j < l.length -> l[j]? = some y -> p y = true) : l.all p = true := by
 rw [List.all_eq_true]
 intro x hx
 obtain ⟨i, hi⟩ := List.getElem?_of_mem hx
 exact h i x (List.getElem?_eq_some_iff.1 hi).1 hi
theorem all_not {α : Type} {l : List α} {p : α -> Bool} {j : Nat} {y : α} (hy : l[j]? = some y) (h : p y = false) : l.all p = false := by
 rw [List.all_eq_false]
 exact ⟨y, List.mem_of_getElem? hy, by rw [h]; simp⟩
theorem refMay_any (c : Nat) (t : JV) (r : RV) (w : World) (hc : c ∈ letters) (ht : TreeOf w w.heap.size t r) (ot : t.Ok) :
 Calls Tryz.prog 127 #[.int .u8 (c : Int), r.val] w fun e w' => e = .returned (.bool (mayK c t)) /\ Below w.heap.size w w' := by
 obtain ⟨hk, hn, hs⟩ := ht.head
 obtain ⟨rs, hl, hlen, hsub⟩ := ht.lst
 have hsz := ot.s_le
 have hrs : ∀ (i : Nat) x, rs[i]? = some x -> x.s.size <= maxLen := fun i x hx => by
  obtain ⟨y, hy⟩ : ∃ y, t.l[i]? = some y := ⟨_, List.getElem?_eq_getElem (by rw [hlen]; exact (List.getElem?_eq_some_iff.1 hx).1)⟩
  have h1 := (hsub i y x hy hx).head
  have h2 := (ot.at_l hy).s_le
  rw [<- h1.2.2]; unfold maxLen; omega
 have hall1 : t.l.all (fun x => decide (x.k = 4) && idB x.s) = rs.all (fun x => decide (x.k = 4) && idB x.s) := all_same hlen (fun i x y h1 h2 => by have h := (hsub i x y h1 h2).head; rw [h.1, h.2.2])
 have hall2 : t.l.all (fun x => decide (x.k = 4) && true) = rs.all (fun x => decide (x.k = 4) && true) := all_same hlen (fun i x y h1 h2 => by have h := (hsub i x y h1 h2).head; rw [h.1])
 have hB : Below w.heap.size w (w.alloc r.obj) := (Below.refl _ _).alloc (Nat.le_refl _) _
 have hA : VAt (w.alloc r.obj) w.heap.size r := heap_alloc_at rfl
 have HID : Hid (∀ W, Calls Tryz.prog 164 #[.string r.s] W fun e w' => e = .returned (.bool (idB r.s)) /\ w' = W) := fun W => refIs_any r.s W (by rw [<- hs]; unfold maxLen; omega)
 unfold mayK
 rw [hk, hn, hs, hall1, hall2]
 have HN : Hid (r.nl = rs.length /\ rs.length <= 1759218604390) := ⟨rd_nlen hl, by omega⟩
 have HRD : Hid (Rd (w.alloc r.obj) (w.alloc r.obj).heap.size encV 5 (.slice r.pl r.nl r.cl) rs) := hl.below hB hB.size
 have HRS := Lib.hid hrs
 obtain ⟨b0, hb0⟩ : ∃ b, idB r.s = b := ⟨_, rfl⟩
 obtain ⟨b1, hb1⟩ : ∃ b, rs.all (fun x => decide (x.k = 4) && idB x.s) = b := ⟨_, rfl⟩
 obtain ⟨b2, hb2⟩ : ∃ b, rs.all (fun x => decide (x.k = 4) && true) = b := ⟨_, rfl⟩
 rw [hb0] at HID ⊢
 rw [hb1, hb2]
 have HB1 := Lib.hid hb1
 have HB2 := Lib.hid hb2
 clear hb1 hb2
 clear hb0 hall1 hall2 hrs hsz hlen hsub hl ot ht hk hn hs
 obtain ⟨k, n, s, pl, nl, cl, pm, nm, cm⟩ := r
 dsimp only [RV.val, RV.obj] at *
 obtain ⟨W0, hW0⟩ : ∃ W, w.alloc (.cells #[.int .i64 k, .int .i64 n, .string s, .slice pl nl cl, .slice pm nm cm] 31) = W := ⟨_, rfl⟩
 rw [hW0] at hB hA HRD
 have HB := Lib.hid hB
 have HA := Lib.hid hA
 clear hB hA
 simp only [letters, List.mem_cons, List.not_mem_nil, or_false] at hc
 rcases hc with rfl | rfl | rfl | rfl | rfl | rfl | rfl | rfl | rfl | rfl
 ·by_cases k1 : k = 1
  ·subst k1
   go_enter Tryz.func127, Tryz.ntmps127
   go_upto_region 1 with fail
   try rw [hW0]
   clear hW0
   obtain ⟨a0, a1, a2, a3, a4⟩ := HA.out.cells5
   go_wp2_with fail
   go_ret
   exact ⟨ret_boolI (by simp), HB.out⟩
  ·have q1 : (k == 1) = false := by simpa using k1
   rw [if_neg k1]
   clear k1
   by_cases k4 : k = 4
   ·subst k4
    go_enter Tryz.func127, Tryz.ntmps127
    go_upto_region 1 with fail
    try rw [hW0]
    clear hW0
    obtain ⟨a0, a1, a2, a3, a4⟩ := HA.out.cells5
    go_wp2_with (go_at_call 164; refine (HID.out _).mono ?_; rintro e w1 ⟨rfl, rfl⟩)
    go_ret
    exact ⟨ret_boolI (by simp), HB.out⟩
   ·have q4 : (k == 4) = false := by simpa using k4
    rw [decide_eq_false k4]
    clear k4
    go_enter Tryz.func127, Tryz.ntmps127
    go_upto_region 1 with fail
    try rw [hW0]
    clear hW0
    obtain ⟨a0, a1, a2, a3, a4⟩ := HA.out.cells5
    go_wp2_with fail
    go_ret
    exact ⟨ret_boolI (by simp), HB.out⟩
 ·by_cases k1 : k = 1
  ·subst k1
   go_enter Tryz.func127, Tryz.ntmps127
   go_upto_region 1 with fail
   try rw [hW0]
   clear hW0
   obtain ⟨a0, a1, a2, a3, a4⟩ := HA.out.cells5
   go_wp2_with fail
   go_ret
   exact ⟨ret_boolI (by simp), HB.out⟩
  ·have q1 : (k == 1) = false := by simpa using k1
   rw [if_neg k1]
   clear k1
   by_cases k4 : k = 4
   ·subst k4
    go_enter Tryz.func127, Tryz.ntmps127
    go_upto_region 1 with fail
    try rw [hW0]
    clear hW0
    obtain ⟨a0, a1, a2, a3, a4⟩ := HA.out.cells5
    go_wp2_with (go_at_call 164; refine (HID.out _).mono ?_; rintro e w1 ⟨rfl, rfl⟩)
    go_ret
    exact ⟨ret_boolI (by simp), HB.out⟩
   ·have q4 : (k == 4) = false := by simpa using k4
    rw [decide_eq_false k4]
    clear k4
    go_enter Tryz.func127, Tryz.ntmps127
    go_upto_region 1 with fail
    try rw [hW0]
    clear hW0
    obtain ⟨a0, a1, a2, a3, a4⟩ := HA.out.cells5
    go_wp2_with fail
    go_ret
    exact ⟨ret_boolI (by simp), HB.out⟩
 ·by_cases k1 : k = 1
  ·subst k1
   go_enter Tryz.func127, Tryz.ntmps127
   go_upto_region 1 with fail
   try rw [hW0]
   clear hW0
   obtain ⟨a0, a1, a2, a3, a4⟩ := HA.out.cells5
   go_wp2_with fail
   go_ret
   exact ⟨ret_boolI (by simp), HB.out⟩
  ·have q1 : (k == 1) = false := by simpa using k1
   rw [if_neg k1]
   clear k1
   by_cases k4 : k = 4
   ·subst k4
    go_enter Tryz.func127, Tryz.ntmps127
    go_upto_region 1 with fail
    try rw [hW0]
    clear hW0
    obtain ⟨a0, a1, a2, a3, a4⟩ := HA.out.cells5
    go_wp2_with fail
    go_ret
    exact ⟨ret_boolI (by simp), HB.out⟩
   ·have q4 : (k == 4) = false := by simpa using k4
    rw [decide_eq_false k4]
    clear k4
    go_enter Tryz.func127, Tryz.ntmps127
    go_upto_region 1 with fail
    try rw [hW0]
    clear hW0
    obtain ⟨a0, a1, a2, a3, a4⟩ := HA.out.cells5
    go_wp2_with fail
    go_ret
    exact ⟨ret_boolI (by simp), HB.out⟩
 ·by_cases k1 : k = 1
  ·subst k1
   go_enter Tryz.func127, Tryz.ntmps127
   go_upto_region 1 with fail
   try rw [hW0]
   clear hW0
   obtain ⟨a0, a1, a2, a3, a4⟩ := HA.out.cells5
   go_wp2_with fail
   go_ret
   exact ⟨ret_boolI (by simp), HB.out⟩
  ·have q1 : (k == 1) = false := by simpa using k1
   rw [if_neg k1]
   clear k1
   by_cases k4 : k = 5
   ·subst k4
    go_enter Tryz.func127, Tryz.ntmps127
    go_upto_region 1 with fail
    try rw [hW0]
    clear hW0
    obtain ⟨a0, a1, a2, a3, a4⟩ := HA.out.cells5
    obtain ⟨rfl, hnl⟩ := HN.out
    go_wp2_with fail
    go_loopw [5] (fun i wr => ∃ j : Nat, j <= rs.length /\ i = .int .i64 (j : Int) /\ Hid (∀ (q : Nat) y, q < j -> rs[q]? = some y -> (decide (y.k = 4) && idB y.s) = true) /\ wr = W0) (fun i _ => rs.length - (intOf i).toNat)
    case atStart => exact ⟨0, Nat.zero_le _, rfl, fun q y h => by omega, rfl⟩
    case round =>
     obtain ⟨j, hj, rfl, hno, rfl⟩ := hrel
     have j0 : (0 : Int) <= (j : Int) := Int.natCast_nonneg _
     by_cases hlt : j < rs.length
     ·have j1 : (j : Int) < (rs.length : Int) := by omega
      obtain ⟨x, hx⟩ : ∃ x, rs[j]? = some x := ⟨_, List.getElem?_eq_getElem hlt⟩
      obtain ⟨b1, o1, rfl, hb1, hc1⟩ := rd_at' HRD.out hx
      have f0 := hc1 0 _ rfl
      have f1 := hc1 1 _ rfl
      have f2 := hc1 2 _ rfl
      have f3 := hc1 3 _ rfl
      have f4 := hc1 4 _ rfl
      rw [Nat.add_zero] at f0
      have HX := Lib.hid hx
      have HNO := Lib.hid hno.out
      have HIX : Hid (∀ W, Calls Tryz.prog 164 #[.string x.s] W fun e w' => e = .returned (.bool (idB x.s)) /\ w' = W) := fun W => refIs_any x.s W (HRS.out j x hx)
      obtain ⟨xk, xn, xs, xpl, xnl, xcl, xpm, xnm, xcm⟩ := x
      dsimp only at *
      obtain ⟨b, hb⟩ : ∃ b, idB xs = b := ⟨_, rfl⟩
      rw [hb] at HIX
      have HBB := Lib.hid hb
      clear hx hc1 hno hb
      by_cases x4 : xk = 4
      ·subst x4
       cases b
       all_goals
        go_wp2_with (go_at_call 164; refine (HIX.out _).mono ?_; rintro e w1 ⟨rfl, rfl⟩)
        first
         | (go_roundw
            case rel =>
             refine ⟨j + 1, by omega, by go_num, fun q y hq hy => ?_, by first | rfl | trivial⟩
             by_cases e : q = j
             ·subst e
              have h2 := HX.out
              rw [hy] at h2
              cases h2
              simp [HBB.out]
             ·exact HNO.out q y (by omega) hy
            case measure => simp [intOf]; omega)
         | (go_ret
            have hf : rs.all (fun x : RV => decide (x.k = 4) && idB x.s) = false := all_not HX.out (by simp [HBB.out])
            exact ⟨ret_boolI (by rw [HB1.out.symm.trans hf]; try simp), HB.out⟩)
      ·have x5 : (xk != 4) = true := by simpa using x4
       have hf := Lib.hid (all_not (p := fun x : RV => decide (x.k = 4) && idB x.s) HX.out (by simp [x4]))
       clear x4
       go_wp2_with fail
       go_ret
       exact ⟨ret_boolI (by rw [HB1.out.symm.trans hf.out]; try simp), HB.out⟩
     ·obtain rfl : j = rs.length := by omega
      have hf := Lib.hid (all_take (p := fun x : RV => decide (x.k = 4) && idB x.s) hno.out)
      go_wp2_with fail
      go_ret
      exact ⟨ret_boolI (by rw [HB1.out.symm.trans hf.out]; try simp), HB.out⟩
   ·have q4 : (k != 5) = true := by simpa using k4
    rw [decide_eq_false k4]
    clear k4
    go_enter Tryz.func127, Tryz.ntmps127
    go_upto_region 1 with fail
    try rw [hW0]
    clear hW0
    obtain ⟨a0, a1, a2, a3, a4⟩ := HA.out.cells5
    go_wp2_with fail
    go_ret
    exact ⟨ret_boolI (by simp), HB.out⟩
 ·by_cases k1 : k = 1
  ·subst k1
   go_enter Tryz.func127, Tryz.ntmps127
   go_upto_region 1 with fail
   try rw [hW0]
   clear hW0
   obtain ⟨a0, a1, a2, a3, a4⟩ := HA.out.cells5
   go_wp2_with fail
   go_ret
   exact ⟨ret_boolI (by simp), HB.out⟩
  ·have q1 : (k == 1) = false := by simpa using k1
   rw [if_neg k1]
   clear k1
   by_cases k4 : k = 5
   ·subst k4
    go_enter Tryz.func127, Tryz.ntmps127
    go_upto_region 1 with fail
    try rw [hW0]
    clear hW0
    obtain ⟨a0, a1, a2, a3, a4⟩ := HA.out.cells5
    obtain ⟨rfl, hnl⟩ := HN.out
    go_wp2_with fail
    go_loopw [5] (fun i wr => ∃ j : Nat, j <= rs.length /\ i = .int .i64 (j : Int) /\ Hid (∀ (q : Nat) y, q < j -> rs[q]? = some y -> (decide (y.k = 4) && true) = true) /\ wr = W0) (fun i _ => rs.length - (intOf i).toNat)
    case atStart => exact ⟨0, Nat.zero_le _, rfl, fun q y h => by omega, rfl⟩
    case round =>
     obtain ⟨j, hj, rfl, hno, rfl⟩ := hrel
     have j0 : (0 : Int) <= (j : Int) := Int.natCast_nonneg _
     by_cases hlt : j < rs.length
     ·have j1 : (j : Int) < (rs.length : Int) := by omega
      obtain ⟨x, hx⟩ : ∃ x, rs[j]? = some x := ⟨_, List.getElem?_eq_getElem hlt⟩
      obtain ⟨b1, o1, rfl, hb1, hc1⟩ := rd_at' HRD.out hx
      have f0 := hc1 0 _ rfl
      have f1 := hc1 1 _ rfl
      have f2 := hc1 2 _ rfl
      have f3 := hc1 3 _ rfl
      have f4 := hc1 4 _ rfl
      rw [Nat.add_zero] at f0
      have HX := Lib.hid hx
      have HNO := Lib.hid hno.out
      have HIX : Hid (∀ W, Calls Tryz.prog 164 #[.string x.s] W fun e w' => e = .returned (.bool (idB x.s)) /\ w' = W) := fun W => refIs_any x.s W (HRS.out j x hx)
      obtain ⟨xk, xn, xs, xpl, xnl, xcl, xpm, xnm, xcm⟩ := x
      dsimp only at *
      obtain ⟨b, hb⟩ : ∃ b, idB xs = b := ⟨_, rfl⟩
      rw [hb] at HIX
      have HBB := Lib.hid hb
      clear hx hc1 hno hb
      by_cases x4 : xk = 4
      ·subst x4
       go_wp2_with fail
       go_roundw
       case rel =>
        refine ⟨j + 1, by omega, by go_num, fun q y hq hy => ?_, by first | rfl | trivial⟩
        by_cases e : q = j
        ·subst e
         have h2 := HX.out
         rw [hy] at h2
         cases h2
         simp
        ·exact HNO.out q y (by omega) hy
       case measure => simp [intOf]; omega
      ·have x5 : (xk != 4) = true := by simpa using x4
       have hf := Lib.hid (all_not (p := fun x : RV => decide (x.k = 4) && true) HX.out (by simp [x4]))
       clear x4
       go_wp2_with fail
       go_ret
       exact ⟨ret_boolI (by rw [HB2.out.symm.trans hf.out]; try simp), HB.out⟩
     ·obtain rfl : j = rs.length := by omega
      have hf := Lib.hid (all_take (p := fun x : RV => decide (x.k = 4) && true) hno.out)
      go_wp2_with fail
      go_ret
      exact ⟨ret_boolI (by rw [HB2.out.symm.trans hf.out]; try simp), HB.out⟩
   ·have q4 : (k != 5) = true := by simpa using k4
    rw [decide_eq_false k4]
    clear k4
    go_enter Tryz.func127, Tryz.ntmps127
    go_upto_region 1 with fail
    try rw [hW0]
    clear hW0
    obtain ⟨a0, a1, a2, a3, a4⟩ := HA.out.cells5
    go_wp2_with fail
    go_ret
    exact ⟨ret_boolI (by simp), HB.out⟩
 ·by_cases k1 : k = 1
  ·subst k1
   go_enter Tryz.func127, Tryz.ntmps127
   go_upto_region 1 with fail
   try rw [hW0]
   clear hW0
   obtain ⟨a0, a1, a2, a3, a4⟩ := HA.out.cells5
   go_wp2_with fail
   go_ret
   exact ⟨ret_boolI (by simp), HB.out⟩
  ·have q1 : (k == 1) = false := by simpa using k1
   rw [if_neg k1]
   clear k1
   go_enter Tryz.func127, Tryz.ntmps127
   go_upto_region 1 with fail
   try rw [hW0]
   clear hW0
   obtain ⟨a0, a1, a2, a3, a4⟩ := HA.out.cells5
   go_wp2_with fail
   go_ret
   exact ⟨ret_boolI (by simp), HB.out⟩
 ·by_cases k1 : k = 1
  ·subst k1
   go_enter Tryz.func127, Tryz.ntmps127
   go_upto_region 1 with fail
   try rw [hW0]
   clear hW0
   obtain ⟨a0, a1, a2, a3, a4⟩ := HA.out.cells5
   go_wp2_with fail
   go_ret
   exact ⟨ret_boolI (by simp), HB.out⟩
  ·have q1 : (k == 1) = false := by simpa using k1
   rw [if_neg k1]
   clear k1
   by_cases k4 : k = 3
   ·subst k4
    by_cases hn : 0 <= n
    ·have q5 : decide (0 <= n) = true := decide_eq_true hn
     rw [q5]
     go_enter Tryz.func127, Tryz.ntmps127
     go_upto_region 1 with fail
     try rw [hW0]
     clear hW0
     obtain ⟨a0, a1, a2, a3, a4⟩ := HA.out.cells5
     go_wp2_with fail
     go_ret
     exact ⟨ret_boolI (by simp), HB.out⟩
    ·have q5 : decide (0 <= n) = false := decide_eq_false hn
     rw [q5]
     go_enter Tryz.func127, Tryz.ntmps127
     go_upto_region 1 with fail
     try rw [hW0]
     clear hW0
     obtain ⟨a0, a1, a2, a3, a4⟩ := HA.out.cells5
     go_wp2_with fail
     go_ret
     exact ⟨ret_boolI (by simp), HB.out⟩
   ·have q4 : (k == 3) = false := by simpa using k4
    rw [decide_eq_false k4]
    clear k4
    go_enter Tryz.func127, Tryz.ntmps127
    go_upto_region 1 with fail
    try rw [hW0]
    clear hW0
    obtain ⟨a0, a1, a2, a3, a4⟩ := HA.out.cells5
    go_wp2_with fail
    go_ret
    exact ⟨ret_boolI (by simp), HB.out⟩
 ·by_cases k1 : k = 1
  ·subst k1
   go_enter Tryz.func127, Tryz.ntmps127
   go_upto_region 1 with fail
   try rw [hW0]
   clear hW0
   obtain ⟨a0, a1, a2, a3, a4⟩ := HA.out.cells5
   go_wp2_with fail
   go_ret
   exact ⟨ret_boolI (by simp), HB.out⟩
  ·have q1 : (k == 1) = false := by simpa using k1
   rw [if_neg k1]
   clear k1
   by_cases k4 : k = 3
   ·subst k4
    by_cases hn : 1 <= n
    ·have q5 : decide (1 <= n) = true := decide_eq_true hn
     rw [q5]
     go_enter Tryz.func127, Tryz.ntmps127
     go_upto_region 1 with fail
     try rw [hW0]
     clear hW0
     obtain ⟨a0, a1, a2, a3, a4⟩ := HA.out.cells5
     go_wp2_with fail
     go_ret
     exact ⟨ret_boolI (by simp), HB.out⟩
    ·have q5 : decide (1 <= n) = false := decide_eq_false hn
     rw [q5]
     go_enter Tryz.func127, Tryz.ntmps127
     go_upto_region 1 with fail
     try rw [hW0]
     clear hW0
     obtain ⟨a0, a1, a2, a3, a4⟩ := HA.out.cells5
     go_wp2_with fail
     go_ret
     exact ⟨ret_boolI (by simp), HB.out⟩
   ·have q4 : (k == 3) = false := by simpa using k4
    rw [decide_eq_false k4]
    clear k4
    go_enter Tryz.func127, Tryz.ntmps127
    go_upto_region 1 with fail
    try rw [hW0]
    clear hW0
    obtain ⟨a0, a1, a2, a3, a4⟩ := HA.out.cells5
    go_wp2_with fail
    go_ret
    exact ⟨ret_boolI (by simp), HB.out⟩
 ·by_cases k1 : k = 1
  ·subst k1
   go_enter Tryz.func127, Tryz.ntmps127
   go_upto_region 1 with fail
   try rw [hW0]
   clear hW0
   obtain ⟨a0, a1, a2, a3, a4⟩ := HA.out.cells5
   go_wp2_with fail
   go_ret
   exact ⟨ret_boolI (by simp), HB.out⟩
  ·have q1 : (k == 1) = false := by simpa using k1
   rw [if_neg k1]
   clear k1
   by_cases k4 : k = 3
   ·subst k4
    go_enter Tryz.func127, Tryz.ntmps127
    go_upto_region 1 with fail
    try rw [hW0]
    clear hW0
    obtain ⟨a0, a1, a2, a3, a4⟩ := HA.out.cells5
    go_wp2_with fail
    go_ret
    exact ⟨ret_boolI (by simp), HB.out⟩
   ·have q4 : (k == 3) = false := by simpa using k4
    rw [decide_eq_false k4]
    clear k4
    go_enter Tryz.func127, Tryz.ntmps127
    go_upto_region 1 with fail
    try rw [hW0]
    clear hW0
    obtain ⟨a0, a1, a2, a3, a4⟩ := HA.out.cells5
    go_wp2_with fail
    go_ret
    exact ⟨ret_boolI (by simp), HB.out⟩
 ·by_cases k1 : k = 1
  ·subst k1
   go_enter Tryz.func127, Tryz.ntmps127
   go_upto_region 1 with fail
   try rw [hW0]
   clear hW0
   obtain ⟨a0, a1, a2, a3, a4⟩ := HA.out.cells5
   go_wp2_with fail
   go_ret
   exact ⟨ret_boolI (by simp), HB.out⟩
  ·have q1 : (k == 1) = false := by simpa using k1
   rw [if_neg k1]
   clear k1
   by_cases k4 : k = 2
   ·subst k4
    go_enter Tryz.func127, Tryz.ntmps127
    go_upto_region 1 with fail
    try rw [hW0]
    clear hW0
    obtain ⟨a0, a1, a2, a3, a4⟩ := HA.out.cells5
    go_wp2_with fail
    go_ret
    exact ⟨ret_boolI (by simp), HB.out⟩
   ·have q4 : (k == 2) = false := by simpa using k4
    rw [decide_eq_false k4]
    clear k4
    go_enter Tryz.func127, Tryz.ntmps127
    go_upto_region 1 with fail
    try rw [hW0]
    clear hW0
    obtain ⟨a0, a1, a2, a3, a4⟩ := HA.out.cells5
    go_wp2_with fail
    go_ret
    exact ⟨ret_boolI (by simp), HB.out⟩
end
section
open Go.RowKit Go.OpenShut
def GetRetB (w : World) (B : Nat) (o : Option JV) (e : Ending) (w' : World) : Prop :=
 ∃ r b, e = .returned (.tuple #[RV.val r, .bool b]) /\ b = o.isSome /\ TreeOf w' B (o.getD JV.zero) r /\ Below w.heap.size w w'
theorem getB_any (t : JV) (r : RV) (name : ByteArray) (w : World) (B : Nat) (hBw : B <= w.heap.size) (ht : TreeOf w B t r) (ot : t.Ok) :
 Calls Tryz.prog 65 #[r.val, .string name] w (GetRetB w B (t.get name)) := by
 obtain ⟨k, n, s, pl, nl, cl, pm, nm, cm⟩ := r
 dsimp only [RV.val] at *
 have HT := Lib.hid ht
 have HO := Lib.hid ot
 have hA0 : VAt ((w.alloc (.cells #[.int .i64 k, .int .i64 n, .string s, .slice pl nl cl, .slice pm nm cm] 31)).alloc (.cells #[.int .i64 0, .int .i64 0, .string ⟨#[]⟩, .slice none 0 0, .slice none 0 0] 31)) w.heap.size ⟨k, n, s, pl, nl, cl, pm, nm, cm⟩ := heap_alloc_lt (by simp) (heap_alloc_at rfl)
 have hA1 : VAt ((w.alloc (.cells #[.int .i64 k, .int .i64 n, .string s, .slice pl nl cl, .slice pm nm cm] 31)).alloc (.cells #[.int .i64 0, .int .i64 0, .string ⟨#[]⟩, .slice none 0 0, .slice none 0 0] 31)) (w.heap.size + 1) RV.zero := heap_alloc_at (by simp)
 have hB0 := below2 w (.cells #[.int .i64 k, .int .i64 n, .string s, .slice pl nl cl, .slice pm nm cm] 31) (.cells #[.int .i64 0, .int .i64 0, .string ⟨#[]⟩, .slice none 0 0, .slice none 0 0] 31)
 clear ht ot
 go_enter Tryz.func65, Tryz.ntmps65
 go_upto_region 1 with fail
 obtain ⟨W0, hW0⟩ : ∃ W0, ((w.alloc (.cells #[.int .i64 k, .int .i64 n, .string s, .slice pl nl cl, .slice pm nm cm] 31)).alloc (.cells #[.int .i64 0, .int .i64 0, .string ⟨#[]⟩, .slice none 0 0, .slice none 0 0] 31)) = W0 := ⟨_, rfl⟩
 rw [hW0] at hA0 hA1 hB0 ⊢
 clear hW0
 obtain ⟨p0, p1, p2, p3, p4⟩ := hA0.cells5
 go_upto_region 2 with (go_at_call 102; refine (place_any t ⟨k, n, s, pl, nl, cl, pm, nm, cm⟩ name _ (HT.out.under (hB0.mono hBw) (Nat.le_trans hBw hB0.size)) HO.out).mono ?_; rintro e w1 ⟨rfl, hb1⟩)
 have hzz : w.heap.size + 1 < W0.heap.size := hA1.lt
 have HA1 : VAt w1 (w.heap.size + 1) RV.zero := hA1.under hb1 hzz
 have HA0 : VAt w1 w.heap.size ⟨k, n, s, pl, nl, cl, pm, nm, cm⟩ := hA0.under hb1 (by omega)
 have HB1 := hB0.trans (hb1.mono hB0.size)
 have hTw := Lib.hid (HT.out.under (HB1.mono hBw) (Nat.le_refl _))
 clear p0 p1 p2 p3 p4 hA0 hA1 hB0 hb1
 obtain ⟨z0, z1, z2, z3, z4⟩ := HA1.cells5
 have y0 := HA1.frozen 0
 have y1 := HA1.frozen 1
 have y2 := HA1.frozen 2
 have y3 := HA1.frozen 3
 have y4 := HA1.frozen 4
 have p4 := HA0.cell 4 rfl
 dsimp only [RV.zero] at z0 z1 z2 z3 z4 p4
 have HZ := Lib.hid HA1
 clear HA1 HA0
 generalize hp : t.place name = o
 cases o with
 | none =>
   have HG : Hid (t.get name = none) := by unfold Hid JV.get; rw [hp]; rfl
   have hn : placeI (none : Option Nat) = -1 := rfl
   rw [hn]
   clear hp hn
   go_wp2_with fail
   have HZ2 := HZ.out.stored RV.zero
   refine bodyPost_ret (v := .tuple #[RV.val RV.zero, .bool false]) (by simp [results, Tryz.results65, go_sem, RV.zero, z0, z1, z2, z3, z4]) rfl ⟨RV.zero, false, rfl, by rw [HG.out]; rfl, by rw [HG.out]; exact TreeOf.zero _ _, Below.stored HB1 (by omega) RV.zero⟩
 | some i =>
   obtain ⟨p, hm1, hk6, hget⟩ := place_mem hp
   have HG := Lib.hid hget
   have hn : placeI (some i) = (i : Int) := rfl
   rw [hn]
   clear hp hn hget
   have hT2 := hTw.out
   generalize hr : (⟨k, n, s, pl, nl, cl, pm, nm, cm⟩ : RV) = r at hT2
   cases hT2 with
   | @mk _ l m rs rms hl el hcl hm em hcn hcm =>
   subst hr
   dsimp only [JV.m] at *
   have hi := (List.getElem?_eq_some_iff.1 hm1).1
   obtain ⟨q, hq⟩ : ∃ q, rms[i]? = some q := ⟨_, List.getElem?_eq_getElem (by omega)⟩
   obtain ⟨b1, o1, rfl, hb1, hc1⟩ := rd_at' hm hq
   have HTq := Lib.hid (hcm i p q hm1 hq)
   have f0 := hc1 0 _ rfl
   have f1 := hc1 1 _ rfl
   have f2 := hc1 2 _ rfl
   have f3 := hc1 3 _ rfl
   have f4 := hc1 4 _ rfl
   have f5 := hc1 5 _ rfl
   have hi0 : (0 : Int) <= (i : Int) := Int.natCast_nonneg _
   have hi1 : (i : Int) < (nm : Int) := by have := rd_nlen hm; omega
   clear hcl hcn hcm hl hm em el hc1 hm1 hq
   go_wp2_with fail
   have HZ2 := HZ.out.stored q.v
   have HBs : Below w1.heap.size w1 w1 := Below.refl _ _
   refine bodyPost_ret (v := .tuple #[RV.val q.v, .bool true]) (by simp [results, Tryz.results65, go_sem, z0, z1, z2, z3, z4]) rfl ⟨q.v, true, rfl, by rw [HG.out]; rfl, ?_, Below.stored HB1 (by omega) q.v⟩
   rw [HG.out]
   exact HTq.out.under (Below.stored (Below.refl _ _) (by omega) q.v) (Nat.le_refl _)
theorem refGetB_any (t : JV) (r : RV) (name : ByteArray) (w : World) (B : Nat) (hBw : B <= w.heap.size) (ht : TreeOf w B t r) (ot : t.Ok) :
 Calls Tryz.prog 126 #[r.val, .string name] w (GetRetB w B (t.get name)) := by
 cases ht with
 | @mk _ l m rs rms hl el hcl hm em hcn hcm =>
 obtain ⟨k, n, s, pl, nl, cl, pm, nm, cm⟩ := r
 cases ot with
 | mk _ _ _ bl bm okl oks okm =>
 dsimp only [RV.val] at *
 have eM := rd_nlen hm
 have hA0 : VAt ((w.alloc (.cells #[.int .i64 k, .int .i64 n, .string s, .slice pl nl cl, .slice pm nm cm] 31)).alloc (.cells #[.int .i64 0, .int .i64 0, .string ⟨#[]⟩, .slice none 0 0, .slice none 0 0] 31)) w.heap.size ⟨k, n, s, pl, nl, cl, pm, nm, cm⟩ := heap_alloc_lt (by simp) (heap_alloc_at rfl)
 have hA1 : VAt ((w.alloc (.cells #[.int .i64 k, .int .i64 n, .string s, .slice pl nl cl, .slice pm nm cm] 31)).alloc (.cells #[.int .i64 0, .int .i64 0, .string ⟨#[]⟩, .slice none 0 0, .slice none 0 0] 31)) (w.heap.size + 1) RV.zero := heap_alloc_at (by simp)
 have hB0 := below2 w (.cells #[.int .i64 k, .int .i64 n, .string s, .slice pl nl cl, .slice pm nm cm] 31) (.cells #[.int .i64 0, .int .i64 0, .string ⟨#[]⟩, .slice none 0 0, .slice none 0 0] 31)
 have HN := Lib.hid hcn
 have HM := Lib.hid hm
 have HV := Lib.hid hcm
 have E2 : Hid (m.length = nm /\ rms.length = nm) := ⟨by omega, by omega⟩
 have hnm : nm <= 1466015503658 := by omega
 have HG6 : Hid (k = 6 -> (JV.mk k n s l m).place name = m.findIdx? (fun p => decide (p.1 = name)) /\ (JV.mk k n s l m).mem = m) := by
  intro h
  have e : (JV.mk k n s l m).mem = m := by show (if k = 6 then m else []) = m; rw [if_pos h]
  exact ⟨by unfold JV.place; rw [e], e⟩
 have HGN : Hid (k ≠ 6 -> (JV.mk k n s l m).get name = none) := by
  intro h
  have e : (JV.mk k n s l m).mem = [] := by show (if k = 6 then m else []) = []; rw [if_neg h]
  unfold JV.get JV.place; rw [e]; rfl
 clear hcl hcn hcm hl hm okl oks okm el em bl bm eM
 go_enter Tryz.func126, Tryz.ntmps126
 go_upto_region 1 with fail
 obtain ⟨W0, hW0⟩ : ∃ W0, ((w.alloc (.cells #[.int .i64 k, .int .i64 n, .string s, .slice pl nl cl, .slice pm nm cm] 31)).alloc (.cells #[.int .i64 0, .int .i64 0, .string ⟨#[]⟩, .slice none 0 0, .slice none 0 0] 31)) = W0 := ⟨_, rfl⟩
 rw [hW0] at hA0 hA1 hB0 ⊢
 clear hW0
 have hz := hA1.lt
 have c0 := hA0.cell 0 rfl
 have c4 := hA0.cell 4 rfl
 obtain ⟨z0, z1, z2, z3, z4⟩ := hA1.cells5
 dsimp only [RV.zero] at c0 c4 z0 z1 z2 z3 z4
 have y0 := hA1.frozen 0
 have y1 := hA1.frozen 1
 have y2 := hA1.frozen 2
 have y3 := hA1.frozen 3
 have y4 := hA1.frozen 4
 have HZ := Lib.hid hA1
 clear hA0 hA1
 by_cases hk : k = 6
 ·subst hk
  have HPL := HG6
  clear HG6 HGN
  go_wp2_with fail
  go_loopw [6] (fun i wr => ∃ k : Nat, k <= nm /\ i = .int .i64 k /\ Hid (∀ (j : Nat) y, j < k -> m[j]? = some y -> decide (y.1 = name) = false) /\ wr = W0) (fun i _ => nm - (intOf i).toNat)
  case atStart => exact ⟨0, Nat.zero_le _, rfl, fun j y h => by omega, rfl⟩
  case round =>
   obtain ⟨k, hk, rfl, hno, rfl⟩ := hrel
   by_cases hlt : k < nm
   ·obtain ⟨tx, htx⟩ : ∃ x, m[k]? = some x := ⟨_, List.getElem?_eq_getElem (by have := E2.out; omega)⟩
    obtain ⟨x, hx⟩ : ∃ x, rms[k]? = some x := ⟨_, List.getElem?_eq_getElem (by have := E2.out; omega)⟩
    obtain ⟨b1, o1, rfl, hb1, hc1⟩ := rd_at' (HM.out.below (hB0.mono hBw) (Nat.le_refl _)) hx
    have f0 := hc1 0 _ rfl
    have f1 := hc1 1 _ rfl
    have f2 := hc1 2 _ rfl
    have f3 := hc1 3 _ rfl
    have f4 := hc1 4 _ rfl
    have f5 := hc1 5 _ rfl
    rw [Nat.add_zero] at f0
    have en := HN.out k tx x htx hx
    have HTX := Lib.hid htx
    have HTV := Lib.hid ((HV.out k tx x htx hx).under (hB0.mono hBw) (Nat.le_refl _))
    have hk0 : (0 : Int) <= (k : Int) := Int.natCast_nonneg _
    have hk1 : (k : Int) < (nm : Int) := by omega
    clear hc1 htx hx
    by_cases hnx : x.name = name
    ·have hq : (x.name.toList == name.toList) = true := by rw [str_beq]; simpa using hnx
     have hfi := find_at (p := fun p : ByteArray × JV => decide (p.1 = name)) HTX.out (by rw [en]; simpa using hnx) hno.out
     have HG : Hid ((JV.mk 6 n s l m).get name = some tx.2) := by
      unfold Hid JV.get
      rw [(HPL.out (by simp)).1, hfi]
      show ((JV.mk 6 n s l m).mem[k]?).map (·.2) = _
      rw [(HPL.out (by simp)).2, HTX.out]; rfl
     clear hnx en hfi
     go_wp2_with fail
     refine bodyPost_ret (v := .tuple #[RV.val x.v, .bool true]) (by simp [results, Tryz.results126, go_sem, z0, z1, z2, z3, z4]) rfl ⟨x.v, true, rfl, by rw [HG.out]; rfl, ?_, Below.stored hB0 (by omega) x.v⟩
     rw [HG.out]
     exact HTV.out.under (Below.stored (Below.refl _ _) (by omega) x.v) (Nat.le_refl _)
    ·have hq : (x.name.toList == name.toList) = false := by rw [str_beq]; simpa using hnx
     have HNX : Hid (∀ (j : Nat) y, j < k + 1 -> m[j]? = some y -> decide (y.1 = name) = false) := by
      intro j y hj hy
      by_cases e : j = k
      ·subst e
       have h := HTX.out
       rw [hy] at h
       cases h
       rw [en]; simpa using hnx
      ·exact hno.out j y (by omega) hy
     clear hnx en
     go_wp2_with fail
     go_roundw
     case rel => exact ⟨k + 1, by omega, by go_num, HNX, trivial⟩
     case measure => simp [intOf]; omega
   ·obtain rfl : k = nm := by omega
    have HF := find_not (p := fun p : ByteArray × JV => decide (p.1 = name)) (l := m) (fun j y hy => hno.out j y (by have := (List.getElem?_eq_some_iff.1 hy).1; have := E2.out; omega) hy)
    have HG : Hid ((JV.mk 6 n s l m).get name = none) := by
     unfold Hid JV.get
     rw [(HPL.out (by simp)).1, HF]; rfl
    clear HF
    go_wp2_with fail
    exact bodyPost_ret (v := .tuple #[RV.val RV.zero, .bool false]) (by simp [results, Tryz.results126, go_sem, RV.zero, z0, z1, z2, z3, z4]) rfl ⟨RV.zero, false, rfl, by rw [HG.out]; rfl, by rw [HG.out]; exact TreeOf.zero _ _, Below.stored hB0 (by omega) RV.zero⟩
 ·have HG := Lib.hid (HGN.out hk)
  have hq : (k == 6) = false := by simpa using hk
  clear HG6 HGN hk
  go_wp2_with fail
  go_loopw [6] (fun i wr => i = .int .i64 0 /\ wr = W0) (fun i _ => 0)
  case atStart => exact ⟨rfl, rfl⟩
  case round =>
   obtain ⟨rfl, rfl⟩ := hrel
   by_cases h0 : 0 < nm
   all_goals
    go_wp2_with fail
    exact bodyPost_ret (v := .tuple #[RV.val RV.zero, .bool false]) (by simp [results, Tryz.results126, go_sem, RV.zero, z0, z1, z2, z3, z4]) rfl ⟨RV.zero, false, rfl, by rw [HG.out]; rfl, by rw [HG.out]; exact TreeOf.zero _ _, Below.stored hB0 (by omega) RV.zero⟩
end
section
open Go Go.Shelf
def lays145_ren : Go.Shelf.Ren := ⟨fun | 145 => 115 | 220 => 143 | 219 => 176 | 217 => 132 | 225 => 195 | 224 => 196 | 267 => 197 | 266 => 169 | 314 => 202 | n => n, fun | 9 => 9 | 4 => 4 | 59 => 178 | 3 => 3 | 5 => 5 | 46 => 197 | 146 => 278 | 51 => 228 | n => n, fun | 1 => 1 | n => n⟩
theorem lays145 : Go.Proofs.Lays.n145 Tryz.prog lays145_ren := {
 mixed := by kernel_rfl
 f145 := Tryz.func115.trans (congrArg some (by kernel_rfl))
 f217 := Tryz.func132.trans (congrArg some (by kernel_rfl))
 f219 := Tryz.func176.trans (congrArg some (by kernel_rfl))
 f220 := Tryz.func143.trans (congrArg some (by kernel_rfl))
 f224 := Tryz.func196.trans (congrArg some (by kernel_rfl))
 f225 := Tryz.func195.trans (congrArg some (by kernel_rfl))
 f266 := Tryz.func169.trans (congrArg some (by kernel_rfl))
 f267 := Tryz.func197.trans (congrArg some (by kernel_rfl))
 f314 := Tryz.func202.trans (congrArg some (by kernel_rfl))
 t3 := Tryz.underlying3
 a3 := Tryz.isAgg3
 z3 := Tryz.sizeOf3
 v3 := Tryz.zeroValue3
 t4 := Tryz.underlying4
 a4 := Tryz.isAgg4
 z4 := Tryz.sizeOf4
 v4 := Tryz.zeroValue4
 t5 := Tryz.underlying5
 a5 := Tryz.isAgg5
 z5 := Tryz.sizeOf5
 v5 := Tryz.zeroValue5
 t9 := Tryz.underlying9
 a9 := Tryz.isAgg9
 z9 := Tryz.sizeOf9
 v9 := Tryz.zeroValue9
 t46 := Tryz.underlying197
 a46 := Tryz.isAgg197
 z46 := Tryz.sizeOf197
 v46 := Tryz.zeroValue197
 t51 := Tryz.underlying228
 a51 := Tryz.isAgg228
 z51 := Tryz.sizeOf228
 v51 := Tryz.zeroValue228
 t59 := Tryz.underlying178
 a59 := Tryz.isAgg178
 z59 := Tryz.sizeOf178
 v59 := Tryz.zeroValue178
 t146 := Tryz.underlying278
 a146 := Tryz.isAgg278
 z146 := Tryz.sizeOf278
 v146 := Tryz.zeroValue278
 g1 := by kernel_rfl }
open Go.RowKit Go.Lib in
theorem strings_Cut (s sep : ByteArray) (m : Int) (w : World) (hs : s.size < 4294967281) (hm : w.cell? ⟨1, 0, none⟩ = some (.int .i64 m)) :
 Calls Tryz.prog 115 #[.string s, .string sep] w fun e w' => e = .returned (.tuple #[.string ⟨(Lib.cut s.data.toList sep.data.toList).1.toArray⟩, .string ⟨(Lib.cut s.data.toList sep.data.toList).2.1.toArray⟩, .bool (Lib.cut s.data.toList sep.data.toList).2.2]) /\ ∃ n, w' = w.drewN n := Any.strings_Cut lays145 s sep m w hs hm
def lays157_ren : Go.Shelf.Ren := ⟨fun | 157 => 114 | 229 => 141 | 199 => 142 | 261 => 175 | 311 => 193 | 312 => 194 | n => n, fun | 9 => 9 | 31 => 57 | 3 => 3 | 5 => 5 | 4 => 4 | 119 => 210 | 0 => 0 | 40 => 212 | 152 => 238 | 21 => 21 | 154 => 240 | 51 => 228 | 141 => 242 | 196 => 262 | 193 => 259 | 198 => 265 | 49 => 263 | 194 => 260 | 201 => 268 | 226 => 276 | 46 => 197 | 227 => 277 | n => n, fun | 0 => 0 | 6 => 2 | n => n⟩
theorem lays157 : Go.Proofs.Lays.n157 Tryz.prog lays157_ren := {
 mixed := by kernel_rfl
 f157 := Tryz.func114.trans (congrArg some (by kernel_rfl))
 f199 := Tryz.func142.trans (congrArg some (by kernel_rfl))
 f229 := Tryz.func141.trans (congrArg some (by kernel_rfl))
 f261 := Tryz.func175.trans (congrArg some (by kernel_rfl))
 f311 := Tryz.func193.trans (congrArg some (by kernel_rfl))
 f312 := Tryz.func194.trans (congrArg some (by kernel_rfl))
 t0 := Tryz.underlying0
 a0 := Tryz.isAgg0
 z0 := Tryz.sizeOf0
 v0 := Tryz.zeroValue0
 t3 := Tryz.underlying3
 a3 := Tryz.isAgg3
 z3 := Tryz.sizeOf3
 v3 := Tryz.zeroValue3
 t4 := Tryz.underlying4
 a4 := Tryz.isAgg4
 z4 := Tryz.sizeOf4
 v4 := Tryz.zeroValue4
 t5 := Tryz.underlying5
 a5 := Tryz.isAgg5
 z5 := Tryz.sizeOf5
 v5 := Tryz.zeroValue5
 t9 := Tryz.underlying9
 a9 := Tryz.isAgg9
 z9 := Tryz.sizeOf9
 v9 := Tryz.zeroValue9
 t21 := Tryz.underlying21
 a21 := Tryz.isAgg21
 z21 := Tryz.sizeOf21
 v21 := Tryz.zeroValue21
 t31 := Tryz.underlying57
 a31 := Tryz.isAgg57
 z31 := Tryz.sizeOf57
 v31 := Tryz.zeroValue57
 t40 := Tryz.underlying212
 a40 := Tryz.isAgg212
 z40 := Tryz.sizeOf212
 v40 := Tryz.zeroValue212
 t46 := Tryz.underlying197
 a46 := Tryz.isAgg197
 z46 := Tryz.sizeOf197
 v46 := Tryz.zeroValue197
 t49 := Tryz.underlying263
 a49 := Tryz.isAgg263
 z49 := Tryz.sizeOf263
 v49 := Tryz.zeroValue263
 t51 := Tryz.underlying228
 a51 := Tryz.isAgg228
 z51 := Tryz.sizeOf228
 v51 := Tryz.zeroValue228
 t119 := Tryz.underlying210
 a119 := Tryz.isAgg210
 z119 := Tryz.sizeOf210
 t141 := Tryz.underlying242
 a141 := Tryz.isAgg242
 z141 := Tryz.sizeOf242
 v141 := Tryz.zeroValue242
 t152 := Tryz.underlying238
 a152 := Tryz.isAgg238
 z152 := Tryz.sizeOf238
 v152 := Tryz.zeroValue238
 t154 := Tryz.underlying240
 a154 := Tryz.isAgg240
 z154 := Tryz.sizeOf240
 v154 := Tryz.zeroValue240
 t193 := Tryz.underlying259
 a193 := Tryz.isAgg259
 z193 := Tryz.sizeOf259
 v193 := Tryz.zeroValue259
 t194 := Tryz.underlying260
 a194 := Tryz.isAgg260
 z194 := Tryz.sizeOf260
 v194 := Tryz.zeroValue260
 t196 := Tryz.underlying262
 a196 := Tryz.isAgg262
 z196 := Tryz.sizeOf262
 v196 := Tryz.zeroValue262
 t198 := Tryz.underlying265
 a198 := Tryz.isAgg265
 z198 := Tryz.sizeOf265
 v198 := Tryz.zeroValue265
 t201 := Tryz.underlying268
 a201 := Tryz.isAgg268
 z201 := Tryz.sizeOf268
 v201 := Tryz.zeroValue268
 t226 := Tryz.underlying276
 a226 := Tryz.isAgg276
 z226 := Tryz.sizeOf276
 v226 := Tryz.zeroValue276
 t227 := Tryz.underlying277
 a227 := Tryz.isAgg277
 z227 := Tryz.sizeOf277
 v227 := Tryz.zeroValue277
 g0 := by kernel_rfl
 g6 := by kernel_rfl }
open Go.RowKit Go.Lib in
theorem strings_Fields (s : ByteArray) (w : World) (hs : s.size < 4294967281) (hascii : ∀ (j : Nat) b, s.data.toList[j]? = some b -> b.toNat < 128) (htab : Lib.TabIs Tryz.prog w "strings.asciiSpace" .u8 Lib.asciiSpaceTab) :
 Calls Tryz.prog 114 #[.string s] w fun e w' =>
  e = .returned (.slice (some ⟨w.heap.size, 0, none⟩) (Lib.fields s.data.toList).length (Lib.fields s.data.toList).length) /\ w' = w.alloc (.cells ((Lib.fields s.data.toList).map fun l => Value.string ⟨l.toArray⟩).toArray 9) := Any.strings_Fields lays157 (by kernel_rfl) (by kernel_rfl) s w hs hascii htab
end
end Go.Proofs.YtfgjimpmpckgpaaGreatDoor
