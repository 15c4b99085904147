import Derived.Test.YtfgjimpmpckgpaaGreatDoorSg22
import Derived.Test.YtfgjimpmpckgpaaGreatDoorSg10
import Derived.Test.YtfgjimpmpckgpaaGreatDoorSg04
import Derived.Deep.RegionHeld3
import Derived.Deep.RegionLaw
import Derived.WalkLawsBesides
import Derived.Test.YtfgjimpmpckgpaaGreatDoorSg13
import Derived.BigQuiet
import Derived.Sort.Walk0
import Derived.Test.YtfgjimpmpckgpaaGreatDoorSg15
import Derived.Test.YtfgjimpmpckgpaaGreatDoorSg12
set_option linter.unusedSimpArgs false
set_option linter.unusedVariables false
set_option maxRecDepth 200000
set_option maxHeartbeats 8000000
namespace Go.Proofs.YtfgjimpmpckgpaaGreatDoor
section
open Go.RowKit Go.OpenShut
structure ChD where
 made : List ByteArray
 chgd : List ByteArray
 gone : List ByteArray
 toN : Int
 more : Bool
structure RC where
 pa : Option Addr
 na : Nat
 ca : Nat
 pb : Option Addr
 nb : Nat
 cb : Nat
 pc : Option Addr
 nc : Nat
 cc : Nat
 toN : Int
 more : Bool
abbrev RC.val (r : RC) : Value := .agg #[.slice r.pa r.na r.ca, .slice r.pb r.nb r.cb, .slice r.pc r.nc r.cc, .int .i64 r.toN, .bool r.more]
def encC (r : RC) : List Value := [.slice r.pa r.na r.ca, .slice r.pb r.nb r.cb, .slice r.pc r.nc r.cc, .int .i64 r.toN, .bool r.more]
abbrev RC.obj (r : RC) : Obj := .cells #[.slice r.pa r.na r.ca, .slice r.pb r.nb r.cb, .slice r.pc r.nc r.cc, .int .i64 r.toN, .bool r.more] 75
def RC.zero : RC := ⟨none, 0, 0, none, 0, 0, none, 0, 0, 0, false⟩
def ChD.zero : ChD := ⟨[], [], [], 0, false⟩
structure ChgOf (w : World) (B : Nat) (d : ChD) (r : RC) : Prop where
 made : Rd w B encS 1 (.slice r.pa r.na r.ca) d.made
 chgd : Rd w B encS 1 (.slice r.pb r.nb r.cb) d.chgd
 gone : Rd w B encS 1 (.slice r.pc r.nc r.cc) d.gone
 toN : d.toN = r.toN
 more : d.more = r.more
theorem ChgOf.under {w w' : World} {B B' : Nat} {d : ChD} {r : RC} (h : ChgOf w B d r) (hb : Below B w w') (hB : B <= B') : ChgOf w' B' d r :=
 ⟨h.made.below hb hB, h.chgd.below hb hB, h.gone.below hb hB, h.toN, h.more⟩
structure NewChg (w : World) (base : Nat) (d : ChD) (r : RC) : Prop where
 made : Own w base 9 encS 1 (.slice r.pa r.na r.ca) d.made
 chgd : Own w base 9 encS 1 (.slice r.pb r.nb r.cb) d.chgd
 gone : Own w base 9 encS 1 (.slice r.pc r.nc r.cc) d.gone
 toN : d.toN = r.toN
 more : d.more = r.more
theorem NewChg.zero (w : World) (base : Nat) : NewChg w base ChD.zero RC.zero := ⟨Own.nil _ _ _, Own.nil _ _ _, Own.nil _ _ _, rfl, rfl⟩
theorem NewChg.below {w w' : World} {base : Nat} {d : ChD} {r : RC} (h : NewChg w base d r) (hb : Below w.heap.size w w') : NewChg w' base d r :=
 ⟨h.made.below hb (Nat.le_refl _), h.chgd.below hb (Nat.le_refl _), h.gone.below hb (Nat.le_refl _), h.toN, h.more⟩
def ChAt (W : World) (g : Nat) (r : RC) : Prop := W.heap[g]? = some (.cells #[.slice r.pa r.na r.ca, .slice r.pb r.nb r.cb, .slice r.pc r.nc r.cc, .int .i64 r.toN, .bool r.more] 75 (0, 0))
theorem ChAt.cell {W : World} {g : Nat} {r : RC} (h : ChAt W g r) (j : Nat) {u : Value} (hu : (encC r)[j]? = some u) : W.cell? ⟨g, j, none⟩ = some u := by
 unfold ChAt at h
 rw [cell_of_row W g j _ _ _ h, <- Array.getElem?_toList]
 exact hu
theorem ChAt.cells5 {W : World} {g : Nat} {r : RC} (h : ChAt W g r) : W.cell? ⟨g, 0, none⟩ = some (.slice r.pa r.na r.ca) /\ W.cell? ⟨g, 1, none⟩ = some (.slice r.pb r.nb r.cb) /\ W.cell? ⟨g, 2, none⟩ = some (.slice r.pc r.nc r.cc) /\ W.cell? ⟨g, 3, none⟩ = some (.int .i64 r.toN) /\ W.cell? ⟨g, 4, none⟩ = some (.bool r.more) := ⟨h.cell 0 rfl, h.cell 1 rfl, h.cell 2 rfl, h.cell 3 rfl, h.cell 4 rfl⟩
theorem ChAt.frozen {W : World} {g : Nat} {r : RC} (h : ChAt W g r) (j : Nat) : W.frozen? ⟨g, j, none⟩ = false := by
 unfold ChAt at h
 simp [World.frozen?, h]
theorem ChAt.lt {W : World} {g : Nat} {r : RC} (h : ChAt W g r) : g < W.heap.size := (Array.getElem?_eq_some_iff.1 h).1
theorem ChAt.under {W W' : World} {g B : Nat} {r : RC} (h : ChAt W g r) (hb : Below B W W') (hg : g < B) : ChAt W' g r := (hb.block g hg).trans h
def ArAt (W : World) (g : Nat) (a b c : Value) : Prop := W.heap[g]? = some (.cells #[.slice none 0 0, a, b, c] 140 (0, 0))
theorem ArAt.cell {W : World} {g : Nat} {a b c : Value} (h : ArAt W g a b c) (j : Nat) {u : Value} (hu : [.slice none 0 0, a, b, c][j]? = some u) : W.cell? ⟨g, j, none⟩ = some u := by
 unfold ArAt at h
 rw [cell_of_row W g j _ _ _ h, <- Array.getElem?_toList]
 exact hu
theorem ArAt.frozen {W : World} {g : Nat} {a b c : Value} (h : ArAt W g a b c) (j : Nat) : W.frozen? ⟨g, j, none⟩ = false := by
 unfold ArAt at h
 simp [World.frozen?, h]
theorem ArAt.lt {W : World} {g : Nat} {a b c : Value} (h : ArAt W g a b c) : g < W.heap.size := (Array.getElem?_eq_some_iff.1 h).1
theorem ArAt.set1 {W : World} {g : Nat} {a b c : Value} (h : ArAt W g a b c) (x : Value) : ArAt (W.setCell ⟨g, 1, none⟩ x) g x b c := by
 unfold ArAt at h ⊢
 simp [World.setCell, Array.getElem?_modify, h]
theorem ArAt.set2 {W : World} {g : Nat} {a b c : Value} (h : ArAt W g a b c) (x : Value) : ArAt (W.setCell ⟨g, 2, none⟩ x) g a x c := by
 unfold ArAt at h ⊢
 simp [World.setCell, Array.getElem?_modify, h]
theorem ArAt.set3 {W : World} {g : Nat} {a b c : Value} (h : ArAt W g a b c) (x : Value) : ArAt (W.setCell ⟨g, 3, none⟩ x) g a b x := by
 unfold ArAt at h ⊢
 simp [World.setCell, Array.getElem?_modify, h]
def idsW (k : Int) (l : List Pa) : List ByteArray := (l.filter (fun p => decide (whatP p = k))).map (·.id)
theorem idsW_snoc (k : Int) (l : List Pa) (p : Pa) : idsW k (l ++ [p]) = idsW k l ++ (if whatP p = k then [p.id] else []) := by
 unfold idsW
 rw [List.filter_append, List.map_append]
 by_cases h : whatP p = k <;> simp [h]
theorem idsW_len (k : Int) (l : List Pa) : (idsW k l).length <= l.length := by
 unfold idsW
 rw [List.length_map]
 exact List.length_filter_le _ _
def toldP (ys : List Pa) : List Pa := ys.filter (fun p => !noneP p)
def moreP (ys : List Pa) (most : Int) : Bool := decide (0 < most) && decide (most < ((toldP ys).length : Int))
def cutP (ys : List Pa) (most : Int) : List Pa := if moreP ys most = true then (toldP ys).take most.toNat else toldP ys
def lastP (l : List Pa) : Int := (l.getLast?.map (·.last)).getD 0
def sncD (seq : Int) (ys : List Pa) (most : Int) : ChD :=
 ⟨sortB (idsW 1 (cutP ys most)), sortB (idsW 2 (cutP ys most)), sortB (idsW 3 (cutP ys most)), if moreP ys most = true then lastP (cutP ys most) else seq, moreP ys most⟩
structure Own3 (W : World) (base : Nat) (a b c : Value) (la lb lc : List ByteArray) : Prop where
 oa : Own W base 9 encS 1 a la
 ob : Own W base 9 encS 1 b lb
 oc : Own W base 9 encS 1 c lc
 ab : ∀ k, a.ownBlock = some k -> b.ownBlock ≠ some k
 ac : ∀ k, a.ownBlock = some k -> c.ownBlock ≠ some k
 bc : ∀ k, b.ownBlock = some k -> c.ownBlock ≠ some k
section
variable {W W' : World} {base : Nat} {a b c : Value} {la lb lc : List ByteArray} (h : Own3 W base a b c la lb lc)
include h
theorem Own3.same (hb : ∀ k, base <= k -> k < W.heap.size -> W'.heap[k]? = W.heap[k]?) : Own3 W' base a b c la lb lc :=
 ⟨h.oa.same (fun k e => hb k (h.oa.lt k e).1 (h.oa.lt k e).2), h.ob.same (fun k e => hb k (h.ob.lt k e).1 (h.ob.lt k e).2), h.oc.same (fun k e => hb k (h.oc.lt k e).1 (h.oc.lt k e).2), h.ab, h.ac, h.bc⟩
theorem Own3.rot : Own3 W base b c a lb lc la := ⟨h.ob, h.oc, h.oa, h.bc, fun k e e2 => h.ab k e2 e, fun k e e2 => h.ac k e2 e⟩
theorem Own3.put1 {x : Value} {l : List ByteArray} (hx : Own W' base 9 encS 1 x l) (hg : W.grownBy W' a.ownBlock) (hat : x.ownBlock = a.ownBlock \/ ∀ k, x.ownBlock = some k -> W.heap.size <= k) : Own3 W' base x b c l lb lc := by
 refine ⟨hx, h.ob.same (fun k e => hg.block k (h.ob.lt k e).2 (fun e2 => h.ab k e2.symm e)), h.oc.same (fun k e => hg.block k (h.oc.lt k e).2 (fun e2 => h.ac k e2.symm e)), fun k e e2 => ?_, fun k e e2 => ?_, h.bc⟩
 ·rcases hat with h1 | h1
  ·exact h.ab k (by rw [<- h1]; exact e) e2
  ·have := h1 k e; have := (h.ob.lt k e2).2; omega
 ·rcases hat with h1 | h1
  ·exact h.ac k (by rw [<- h1]; exact e) e2
  ·have := h1 k e; have := (h.oc.lt k e2).2; omega
end
theorem less_cmpB : ∀ a b : List UInt8, Op.bytesLess a b = decide (Lib.compareBytes a b < 0)
 | [], [] => by simp [Op.bytesLess, Lib.compareBytes]
 | [], _ :: _ => by simp [Op.bytesLess, Lib.compareBytes]
 | _ :: _, [] => by simp [Op.bytesLess, Lib.compareBytes]
 | x :: a, y :: b => by
   have ih := less_cmpB a b
   unfold Op.bytesLess Lib.compareBytes
   by_cases h1 : x < y
   ·simp [h1]
   ·by_cases h2 : y < x
    ·have : x ≠ y := fun e => by subst e; exact h1 h2
     simp [h1, h2, this]
    ·have : x = y := by
      rw [UInt8.lt_iff_toNat_lt] at h1 h2
      exact UInt8.toNat_inj.1 (by omega)
     subst this
     simp [h1, ih]
theorem less_cmp (a b : ByteArray) : Op.bytesLess a.toList b.toList = decide (cmpN a b < 0) := by
 rw [ByteArray.toList_eq, ByteArray.toList_eq]
 exact less_cmpB _ _
def RisingTo (os : List (ByteArray × JV)) (k : Nat) : Prop := ∀ (i : Nat) p q, i + 1 < k -> os[i]? = some p -> os[i + 1]? = some q -> cmpN p.1 q.1 < 0
theorem RisingTo.all {os : List (ByteArray × JV)} (h : RisingTo os os.length) : Rising os := by
 intro i j p q hij hi hj
 induction j generalizing q with
 | zero => omega
 | succ j ih =>
   have hl := (List.getElem?_eq_some_iff.1 hj).1
   by_cases e : i = j
   ·subst e
    exact h i p q hl hi hj
   ·obtain ⟨m, hm⟩ : ∃ m, os[j]? = some m := ⟨_, List.getElem?_eq_getElem (by omega)⟩
    exact cmpN_lt_trans (ih m (by omega) hm) (by have := h j m q hl hm hj; have := cmpN_neg m.1 q.1; omega)
theorem Rising.no {os : List (ByteArray × JV)} {i : Nat} {p q : ByteArray × JV} (hp : os[i]? = some p) (hq : os[i + 1]? = some q) (h : ¬ cmpN p.1 q.1 < 0) : ¬ Rising os := fun hr => h (hr i (i + 1) p q (by omega) hp hq)
def putN (l : List ByteArray) (s : ByteArray) : List ByteArray := l.filter (fun x => decide (cmpN x s < 0)) ++ s :: l.filter (fun x => decide (cmpN s x < 0))
theorem less_iff (a b : ByteArray) : cmpN a b < 0 ↔ a.data.toList < b.data.toList := by
 have h1 := less_cmp a b
 rw [bytesLess_eq, ByteArray.toList_eq, ByteArray.toList_eq] at h1
 constructor
 ·intro h
  rw [decide_eq_true h] at h1
  exact of_decide_eq_true h1
 ·intro h
  rw [decide_eq_true h] at h1
  exact of_decide_eq_true h1.symm
theorem cmpN_trans {a b c : ByteArray} (h1 : cmpN a b < 0) (h2 : cmpN b c < 0) : cmpN a c < 0 := by
 rw [less_iff] at h1 h2 ⊢
 exact List.lt_trans h1 h2
theorem sortB_le (l : List ByteArray) : (sortB l).Pairwise (fun x y => ¬ cmpN y x < 0) := by
 unfold sortB
 have h := List.pairwise_mergeSort (le := fun x y : List UInt8 => decide (x <= y)) (fun a b c h1 h2 => by simp at h1 h2 ⊢; exact List.le_trans h1 h2) (fun a b => by simp; exact List.le_total a b) (l.map (·.data.toList))
 rw [List.pairwise_map]
 refine h.imp fun {a b} hab => ?_
 rw [less_iff]
 have h2 : a <= b := of_decide_eq_true hab
 exact fun h3 => absurd h3 (List.not_lt.2 h2)
def StrictN (l : List ByteArray) : Prop := l.Pairwise (fun x y => cmpN x y < 0)
theorem sortB_strict {l : List ByteArray} (h : l.Nodup) : StrictN (sortB l) := by
 have h1 := sortB_le l
 have h2 : (sortB l).Nodup := (sortB_perm l).nodup_iff.2 h
 refine List.Pairwise.imp ?_ (h1.and h2)
 intro a b hab
 have h3 := cmpN_neg a b
 by_cases e : cmpN a b = 0
 ·exact absurd (cmpN_eq e) hab.2
 ·have := hab.1
  omega
theorem strict_unique {l m : List ByteArray} (h1 : StrictN l) (h2 : StrictN m) (h : l.Perm m) : l = m :=
 perm_sorted_eq (r := fun x y => cmpN x y < 0) (fun x y a b => by have := cmpN_neg x y; omega) h h1 h2
theorem putN_strict {l : List ByteArray} {s : ByteArray} (h : StrictN l) : StrictN (putN l s) := by
 unfold StrictN putN
 rw [List.pairwise_append, List.pairwise_cons]
 refine ⟨h.sublist List.filter_sublist, ⟨fun a ha => by simpa using (List.mem_filter.1 ha).2, h.sublist List.filter_sublist⟩, fun a ha b hb => ?_⟩
 have h1 : cmpN a s < 0 := by simpa using (List.mem_filter.1 ha).2
 rcases List.mem_cons.1 hb with rfl | hb
 ·exact h1
 ·have h2 : cmpN s b < 0 := by simpa using (List.mem_filter.1 hb).2
  exact cmpN_trans h1 h2
theorem putN_perm {l : List ByteArray} {s : ByteArray} (h : s ∉ l) : (putN l s).Perm (s :: l) := by
 unfold putN
 refine List.perm_middle.trans (List.Perm.cons s ?_)
 have e : l.filter (fun x => decide (cmpN s x < 0)) = l.filter (fun x => !decide (cmpN x s < 0)) := by
  refine List.filter_congr fun x hx => ?_
  have h1 := cmpN_neg x s
  have h2 : cmpN x s ≠ 0 := fun e => h (by rw [<- cmpN_eq e]; exact hx)
  by_cases h3 : cmpN x s < 0
  ·have h4 : ¬ cmpN s x < 0 := by omega
   simp [h3, h4]
  ·have h4 : cmpN s x < 0 := by omega
   simp [h3, h4]
 rw [e]
 exact List.filter_append_perm _ l
theorem putN_sortB {l : List ByteArray} {s : ByteArray} (h : (l ++ [s]).Nodup) : putN (sortB l) s = sortB (l ++ [s]) := by
 have h1 : l.Nodup := (List.nodup_append.1 h).1
 have h2 : s ∉ sortB l := fun hm => by
  have hm := (sortB_perm l).mem_iff.1 hm
  exact (List.nodup_append.1 h).2.2 s hm s (by simp) rfl
 refine strict_unique (putN_strict (sortB_strict h1)) (sortB_strict h) ?_
 refine (putN_perm h2).trans ?_
 refine ((sortB_perm l).cons s).trans ?_
 refine List.Perm.trans ?_ (sortB_perm (l ++ [s])).symm
 exact (List.perm_append_singleton s l).symm
theorem sortB_nil : sortB [] = [] := List.eq_nil_of_length_eq_zero (sortB_len [])
theorem putN_any (w : World) (v : Value) (l : List ByteArray) (s : ByteArray) (hv : Rd w w.heap.size encS 1 v l) (hlen : l.length <= 439804651098) :
 Calls Tryz.prog 86 #[v, .string s] w (IdsRet w (putN l s)) := by
 obtain ⟨p, c, rfl, hlc, hcm⟩ := rd_len hv
 have HV := Lib.hid hv
 obtain ⟨n, hn⟩ : ∃ n, l.length = n := ⟨_, rfl⟩
 have HN := Lib.hid hn
 have hno : n <= 439804651098 := by omega
 rw [hn]
 clear hv hlen hlc hcm hn
 go_enter Tryz.func86, Tryz.ntmps86
 go_wp2_with fail
 go_loopw [5, 6] (fun o i wr => ∃ k : Nat, k <= n /\ i = .int .i64 k /\ Hid (Own wr w.heap.size 9 encS 1 o ((l.take k).filter (fun x => decide (cmpN x s < 0)))) /\ Below w.heap.size w wr) (fun _ i _ => n - (intOf i).toNat)
 case atStart => exact ⟨0, Nat.zero_le _, rfl, Own.nil _ _ _, Below.refl _ _⟩
 case round =>
  obtain ⟨k, hk, rfl, hown, hbr⟩ := hrel
  by_cases hlt : k < n
  ·obtain ⟨x, hx⟩ : ∃ x, l[k]? = some x := ⟨_, List.getElem?_eq_getElem (by have := HN.out; omega)⟩
   obtain ⟨b1, o1, rfl, hb1, hc1⟩ := rd_at' (HV.out.below hbr (Nat.le_refl _)) hx
   have f0 := hc1 0 _ rfl
   rw [Nat.add_zero, Nat.mul_one] at f0
   have hk0 : (0 : Int) <= (k : Int) := Int.natCast_nonneg _
   have hk1 : (k : Int) < (n : Int) := by omega
   have hless := less_cmp x s
   have hsn : (l.take (k + 1)).filter (fun x => decide (cmpN x s < 0)) = (l.take k).filter (fun x => decide (cmpN x s < 0)) ++ (if cmpN x s < 0 then [x] else []) := by
    rw [List.take_add_one, hx, List.filter_append]
    by_cases h : cmpN x s < 0 <;> simp [h]
   have HSN := Lib.hid hsn
   have HBR := Lib.hid hbr
   by_cases hc : cmpN x s < 0
   ·have hl : Op.bytesLess x.toList s.toList = true := by rw [hless]; simpa using hc
    have HC := Lib.hid hc
    have HO2 := Lib.hid (hown.out.alloc (.cells #[.string x] 9))
    have HB2 := Lib.hid (hbr.alloc hbr.size (.cells #[.string x] 9))
    have HR2 : Hid (Rd (wr.alloc (.cells #[.string x] 9)) (wr.heap.size + 1) encS 1 (.slice (some ⟨wr.heap.size, 0, none⟩) 1 1) [x]) := Rd.one codecS (heap_alloc_at rfl) rfl (by omega)
    have hll : ((l.take k).filter (fun x => decide (cmpN x s < 0))).length <= 439804651098 := by
     have h1 := List.length_filter_le (fun x => decide (cmpN x s < 0)) (l.take k)
     rw [List.length_take] at h1
     omega
    have HL := Lib.hid hll
    clear hx hc1 hbr hsn hown hc hless hll
    go_wp2_with (at_builtin; refine wpList_append_rd slS codecS _ rfl _ _ rfl rfl rfl HO2.out HR2.out (by have := HL.out; simp only [List.length_singleton]; unfold maxLen; omega) (by have := HL.out; simp only [List.length_singleton]; omega) (by have := HBR.out.size; simp; omega) ?_; intro v1 w1 ho1 hg1 hat1)
    go_roundw
    case rel => exact ⟨k + 1, by omega, by go_num, by unfold Hid; rw [HSN.out, if_pos HC.out]; exact ho1, Below.appended HB2.out hg1 HO2.out HB2.out.size⟩
    case measure => simp [intOf]; omega
   ·have hl : Op.bytesLess x.toList s.toList = false := by rw [hless]; simpa using hc
    have HC := Lib.hid hc
    clear hx hc1 hbr hsn hc hless
    go_wp2_with fail
    go_roundw
    case rel => exact ⟨k + 1, by omega, by go_num, by unfold Hid; rw [HSN.out, if_neg HC.out, List.append_nil]; exact hown.out, HBR.out⟩
    case measure => simp [intOf]; omega
  ·obtain rfl : k = n := by omega
   rw [List.take_of_length_le (by have := HN.out; omega)] at hown
   have HO2 := Lib.hid (hown.out.alloc (.cells #[.string s] 9))
   have HB2 := Lib.hid (hbr.alloc hbr.size (.cells #[.string s] 9))
   have HR2 : Hid (Rd (wr.alloc (.cells #[.string s] 9)) (wr.heap.size + 1) encS 1 (.slice (some ⟨wr.heap.size, 0, none⟩) 1 1) [s]) := Rd.one codecS (heap_alloc_at rfl) rfl (by omega)
   have hll : (l.filter (fun x => decide (cmpN x s < 0))).length <= 439804651098 := by
    have h1 := List.length_filter_le (fun x => decide (cmpN x s < 0)) l
    have := HN.out
    omega
   have HL := Lib.hid hll
   have HBR := Lib.hid hbr
   clear hbr hown hll
   go_wp2_with (at_builtin; refine wpList_append_rd slS codecS _ rfl _ _ rfl rfl rfl HO2.out HR2.out (by have := HL.out; simp only [List.length_singleton]; unfold maxLen; omega) (by have := HL.out; simp only [List.length_singleton]; omega) (by have := HBR.out.size; simp; omega) ?_; intro v1 w1 ho1 hg1 hat1)
   have HB1 := Lib.hid (Below.appended HB2.out hg1 HO2.out HB2.out.size)
   have HO1 := Lib.hid ho1
   clear hg1 hat1 ho1
   go_loopw [5, 7] (fun o i wr => ∃ j : Nat, j <= k /\ i = .int .i64 j /\ Hid (Own wr w.heap.size 9 encS 1 o (l.filter (fun x => decide (cmpN x s < 0)) ++ [s] ++ (l.take j).filter (fun x => decide (cmpN s x < 0)))) /\ Below w.heap.size w wr) (fun _ i _ => k - (intOf i).toNat)
   case atStart => exact ⟨0, Nat.zero_le _, rfl, by simpa [Hid] using HO1.out, HB1.out⟩
   case round =>
    obtain ⟨j, hj, rfl, hown, hbr⟩ := hrel
    by_cases hlt : j < k
    ·obtain ⟨x, hx⟩ : ∃ x, l[j]? = some x := ⟨_, List.getElem?_eq_getElem (by have := HN.out; omega)⟩
     obtain ⟨b1, o1, rfl, hb1, hc1⟩ := rd_at' (HV.out.below hbr (Nat.le_refl _)) hx
     have f0 := hc1 0 _ rfl
     rw [Nat.add_zero, Nat.mul_one] at f0
     have hk0 : (0 : Int) <= (j : Int) := Int.natCast_nonneg _
     have hk1 : (j : Int) < (k : Int) := by omega
     have hless := less_cmp x s
     have hbeq := str_beq x s
     have hcn := cmpN_neg x s
     have hsn : (l.take (j + 1)).filter (fun x => decide (cmpN s x < 0)) = (l.take j).filter (fun x => decide (cmpN s x < 0)) ++ (if cmpN s x < 0 then [x] else []) := by
      rw [List.take_add_one, hx, List.filter_append]
      by_cases h : cmpN s x < 0 <;> simp [h]
     have HSN := Lib.hid hsn
     have HBR := Lib.hid hbr
     by_cases hc : cmpN s x < 0
     ·have hl : Op.bytesLess x.toList s.toList = false := by rw [hless]; simp; omega
      have hq : (x.toList == s.toList) = false := by
       rw [hbeq]
       simp
       intro e
       rw [e, cmpN_self] at hc
       omega
      have HC := Lib.hid hc
      have HO2 := Lib.hid (hown.out.alloc (.cells #[.string x] 9))
      have HB2 := Lib.hid (hbr.alloc hbr.size (.cells #[.string x] 9))
      have HR2 : Hid (Rd (wr.alloc (.cells #[.string x] 9)) (wr.heap.size + 1) encS 1 (.slice (some ⟨wr.heap.size, 0, none⟩) 1 1) [x]) := Rd.one codecS (heap_alloc_at rfl) rfl (by omega)
      have hll : (l.filter (fun x => decide (cmpN x s < 0)) ++ [s] ++ (l.take j).filter (fun x => decide (cmpN s x < 0))).length <= 879609302200 := by
       have h1 := List.length_filter_le (fun x => decide (cmpN s x < 0)) (l.take j)
       have h2 := List.length_filter_le (fun x => decide (cmpN x s < 0)) l
       have h3 := HN.out
       rw [List.length_take] at h1
       rw [List.length_append, List.length_append, List.length_singleton]
       omega
      have HL := Lib.hid hll
      clear hx hc1 hbr hsn hown hc hless hll hbeq hcn
      go_wp2_with (at_builtin; refine wpList_append_rd slS codecS _ rfl _ _ rfl rfl rfl HO2.out HR2.out (by have := HL.out; simp only [List.length_singleton]; unfold maxLen; omega) (by have := HL.out; simp only [List.length_singleton]; omega) (by have := HBR.out.size; simp; omega) ?_; intro v1 w1 ho1 hg1 hat1)
      go_roundw
      case rel => exact ⟨j + 1, by omega, by go_num, by unfold Hid; rw [HSN.out, if_pos HC.out, <- List.append_assoc]; exact ho1, Below.appended HB2.out hg1 HO2.out HB2.out.size⟩
      case measure => simp [intOf]; omega
     ·have hor : Op.bytesLess x.toList s.toList = true \/ (Op.bytesLess x.toList s.toList = false /\ (x.toList == s.toList) = true) := by
       by_cases h : cmpN x s < 0
       ·left; rw [hless]; simpa using h
       ·right
        refine ⟨by rw [hless]; simpa using h, ?_⟩
        rw [hbeq]
        simp
        exact cmpN_eq (by omega)
      have HC := Lib.hid hc
      clear hx hc1 hbr hsn hc hless hbeq hcn
      rcases hor with h1 | ⟨h1, h2⟩
      all_goals
       go_wp2_with fail
       go_roundw
       case rel => exact ⟨j + 1, by omega, by go_num, by unfold Hid; rw [HSN.out, if_neg HC.out, List.append_nil]; exact hown.out, HBR.out⟩
       case measure => simp [intOf]; omega
    ·obtain rfl : j = k := by omega
     rw [List.take_of_length_le (by have := HN.out; omega)] at hown
     go_wp2_with fail
     go_ret
     refine ⟨_, rfl, ?_, hbr⟩
     have h := hown.out
     unfold putN
     rw [List.append_assoc] at h
     exact h
theorem updP_id' (e : En) (p : Pa) : (updP e p).id = p.id := by unfold updP; split <;> rfl
theorem sinceL_nodup (sq : Int) : ∀ l : List En, ((sinceL sq l).map (·.id)).Nodup
 | [] => by simp [sinceL]
 | e :: r => by
   have ih := sinceL_nodup sq r
   rw [sinceL_cons]
   split
   ·exact ih
   ·split
    ·rw [List.map_map]
     have e1 : ((fun x : Pa => x.id) ∘ updP e) = (fun x : Pa => x.id) := by funext p; exact updP_id' e p
     rw [e1]
     exact ih
    ·rename_i h1 h2
     rw [List.map_cons, List.nodup_cons]
     refine ⟨fun hm => h2 ?_, ih⟩
     obtain ⟨p, hp, he⟩ := List.mem_map.1 hm
     simp only [List.any_eq_true, decide_eq_true_eq]
     exact ⟨p, hp, by rw [he]; rfl⟩
theorem stable_nodup {sq : Int} {l : List En} {ys : List Pa} (h : IsStable cfP (sinceL sq l) ys) : (ys.map (·.id)).Nodup := (h.perm.map _).nodup_iff.2 (sinceL_nodup sq l)
theorem toldP_snoc (l : List Pa) (x : Pa) : toldP (l ++ [x]) = toldP l ++ (if noneP x = true then [] else [x]) := by
 unfold toldP
 rw [List.filter_append]
 cases h : noneP x <;> simp [h]
theorem idsW_nodup {l : List Pa} (k : Int) (h : (l.map (·.id)).Nodup) : (idsW k l).Nodup := by
 unfold idsW
 exact h.sublist (List.filter_sublist.map _)
theorem told_nodup {ys : List Pa} (h : (ys.map (·.id)).Nodup) (j : Nat) : ((toldP (ys.take j)).map (·.id)).Nodup := by
 unfold toldP
 exact h.sublist ((List.filter_sublist.trans (List.take_sublist j ys)).map _)
theorem told_take {ys : List Pa} {j : Nat} {x : Pa} (hx : ys[j]? = some x) : toldP (ys.take (j + 1)) = toldP (ys.take j) ++ (if noneP x = true then [] else [x]) := by
 rw [List.take_add_one, hx]
 exact toldP_snoc _ x
theorem put_told {ys : List Pa} (hn : (ys.map (·.id)).Nodup) {j : Nat} {x : Pa} (hx : ys[j]? = some x) {k : Int} (hk : whatP x = k) (h0 : k ≠ 0) : putN (sortB (idsW k (toldP (ys.take j)))) x.id = sortB (idsW k (toldP (ys.take (j + 1)))) := by
 have h1 : noneP x = false := by unfold noneP; simp [hk, h0]
 have e : idsW k (toldP (ys.take (j + 1))) = idsW k (toldP (ys.take j)) ++ [x.id] := by
  rw [told_take hx, h1, if_neg (by decide), idsW_snoc, if_pos hk]
 have hd := idsW_nodup k (told_nodup hn (j + 1))
 rw [e] at hd ⊢
 exact putN_sortB hd
theorem keep_told {ys : List Pa} {j : Nat} {x : Pa} (hx : ys[j]? = some x) {k : Int} (hk : whatP x ≠ k) : idsW k (toldP (ys.take (j + 1))) = idsW k (toldP (ys.take j)) := by
 rw [told_take hx]
 split
 ·rw [List.append_nil]
 ·rw [idsW_snoc, if_neg hk, List.append_nil]
theorem lastP_snoc (l : List Pa) (x : Pa) : lastP (l ++ [x]) = x.last := by simp [lastP]
theorem told_len {ys : List Pa} {j : Nat} : (toldP (ys.take j)).length <= ys.length := by
 unfold toldP
 refine Nat.le_trans (List.length_filter_le _ _) ?_
 rw [List.length_take]
 exact Nat.min_le_right _ _
theorem sncD_more {ys : List Pa} {seq most : Int} {j : Nat} {x : Pa} (hx : ys[j]? = some x) (h0 : whatP x ≠ 0) (h1 : 0 < most) (h2 : ((toldP (ys.take j)).length : Int) = most) :
 sncD seq ys most = ⟨sortB (idsW 1 (toldP (ys.take j))), sortB (idsW 2 (toldP (ys.take j))), sortB (idsW 3 (toldP (ys.take j))), lastP (toldP (ys.take j)), true⟩ := by
 have hs : toldP ys = toldP (ys.take j) ++ x :: toldP (ys.drop (j + 1)) := by
  have e : ys = ys.take j ++ x :: ys.drop (j + 1) := by
   have hj := (List.getElem?_eq_some_iff.1 hx)
   obtain ⟨hj, he⟩ := hj
   rw [<- he, List.getElem_cons_drop, List.take_append_drop]
  have h3 : noneP x = false := by unfold noneP; simp [h0]
  unfold toldP
  conv => lhs; rw [e]
  rw [List.filter_append, List.filter_cons, h3]
  simp
 have hm : moreP ys most = true := by
  unfold moreP
  rw [hs, List.length_append, List.length_cons]
  simp
  omega
 have hc : cutP ys most = toldP (ys.take j) := by
  unfold cutP
  rw [if_pos hm, hs]
  have e : most.toNat = (toldP (ys.take j)).length := by omega
  rw [e, List.take_left]
 unfold sncD
 rw [hc, hm, if_pos rfl]
theorem sncD_all {ys : List Pa} {seq most : Int} (h : 0 < most -> ((toldP ys).length : Int) <= most) :
 sncD seq ys most = ⟨sortB (idsW 1 (toldP ys)), sortB (idsW 2 (toldP ys)), sortB (idsW 3 (toldP ys)), seq, false⟩ := by
 have hm : moreP ys most = false := by
  unfold moreP
  by_cases h0 : 0 < most
  ·have := h h0
   simp
   omega
  ·simp
   omega
 have hc : cutP ys most = toldP ys := by unfold cutP; rw [hm]; rfl
 unfold sncD
 rw [hc, hm]
 rfl
end
section
theorem right_head' {l : List En} {floor seq : Int} (h : rightB l floor seq = true) : 0 <= floor /\ floor <= seq /\ seq <= 9007199254740991 /\ seq - floor = l.length := by
 unfold rightB at h
 rw [Bool.and_eq_true] at h
 have h1 := h.1
 unfold headB at h1
 exact of_decide_eq_true h1
def PastAt (l : List En) (sq : Int) (p : Pa) : Prop := ∃ (i : Nat) (x : En) (k : Nat) (f : En), l[i]? = some x /\ sq < x.seq /\ (∀ (j : Nat) y, i < j -> l[j]? = some y -> y.id ≠ x.id) /\ l[k]? = some f /\ f.id = x.id /\ sq < f.seq /\ (∀ (j : Nat) y, j < k -> l[j]? = some y -> y.id = x.id -> y.seq <= sq) /\ p = ⟨x.id, f.what != 1, x.what != 3, x.seq⟩
theorem since_at {l : List En} {floor seq sq : Int} (h : rightB l floor seq = true) {p : Pa} : p ∈ sinceL sq l ↔ PastAt l sq p := by
 rw [<- refUpTo_all]
 constructor
 ·intro hp
  obtain ⟨i, _, hi⟩ := refUpTo_mem hp
  unfold refAt at hi
  cases hx : l[i]? with
  | none => rw [hx] at hi; cases hi
  | some x =>
    rw [hx] at hi
    dsimp only at hi
    split at hi
    ·cases hi
    ·rename_i h1
     split at hi
     ·cases hi
     ·rename_i h2
      cases h3 : l.find? (hitB sq x) with
      | none => rw [h3] at hi; cases hi
      | some f =>
        rw [h3] at hi
        simp only [Option.map_some, Option.some.injEq] at hi
        obtain ⟨hfh, k, hk, hfe, hfno⟩ := List.find?_eq_some_iff_getElem.1 h3
        unfold hitB at hfh
        simp only [Bool.and_eq_true, decide_eq_true_eq] at hfh
        refine ⟨i, x, k, f, hx, by omega, fun j y hij hy e => h2 ?_, by rw [List.getElem?_eq_getElem hk, hfe], hfh.1, hfh.2, fun j y hj hy e => ?_, hi.symm⟩
        ·rw [List.any_eq_true]
         have a1 := (right_at h hx).1
         have a2 := (right_at h hy).1
         refine ⟨y, ?_, by unfold hitB; simp [e]; omega⟩
         exact List.mem_of_getElem? (i := j - (i + 1)) (by rw [List.getElem?_drop, show i + 1 + (j - (i + 1)) = j by omega]; exact hy)
        ·have h5 := hfno j hj
         have e2 : l[j]'(by omega) = y := by
          rw [List.getElem?_eq_getElem (by omega)] at hy
          exact Option.some.inj hy
         rw [e2] at h5
         unfold hitB at h5
         simp [e] at h5
         omega
 ·rintro ⟨i, x, k, f, hx, h1, h2, hf, h3, h4, h5, rfl⟩
  have hi := (List.getElem?_eq_some_iff.1 hx).1
  unfold refUpTo
  rw [List.mem_filterMap]
  refine ⟨i, List.mem_range.2 hi, ?_⟩
  unfold refAt
  rw [hx]
  dsimp only
  rw [if_neg (by omega), if_neg ?_]
  ·have hfd : l.find? (hitB sq x) = some f := by
    rw [List.find?_eq_some_iff_getElem]
    refine ⟨by unfold hitB; simp [h3, h4], k, (List.getElem?_eq_some_iff.1 hf).1, (List.getElem?_eq_some_iff.1 hf).2, fun j hj => ?_⟩
    have h6 := h5 j _ hj (List.getElem?_eq_getElem (by have := (List.getElem?_eq_some_iff.1 hf).1; omega))
    unfold hitB
    simp
    exact Decidable.not_or_of_imp h6
   rw [hfd]
   rfl
  ·rw [List.any_eq_true]
   rintro ⟨y, hy, he⟩
   obtain ⟨j, hj⟩ := List.getElem?_of_mem hy
   rw [List.getElem?_drop] at hj
   unfold hitB at he
   simp at he
   exact h2 _ y (by omega) hj he.1
theorem first_of {l : List En} {sq : Int} {i : Nat} {x : En} (hx : l[i]? = some x) (hs : sq < x.seq) : ∃ (k : Nat) (f : En), l[k]? = some f /\ f.id = x.id /\ sq < f.seq /\ ∀ (j : Nat) y, j < k -> l[j]? = some y -> y.id = x.id -> y.seq <= sq := by
 have hsome : (l.find? (hitB sq x)).isSome = true := by
  rw [List.find?_isSome]
  exact ⟨x, List.mem_of_getElem? hx, by unfold hitB; simp [hs]⟩
 obtain ⟨f, h3⟩ := Option.isSome_iff_exists.1 hsome
 obtain ⟨hfh, k, hk, hfe, hfno⟩ := List.find?_eq_some_iff_getElem.1 h3
 unfold hitB at hfh
 simp only [Bool.and_eq_true, decide_eq_true_eq] at hfh
 refine ⟨k, f, by rw [List.getElem?_eq_getElem hk, hfe], hfh.1, hfh.2, fun j y hj hy e => ?_⟩
 have h5 := hfno j hj
 have e2 : l[j]'(by omega) = y := by
  rw [List.getElem?_eq_getElem (by omega)] at hy
  exact Option.some.inj hy
 rw [e2] at h5
 unfold hitB at h5
 simp [e] at h5
 omega
theorem first_two {l : List En} {floor seq s0 s : Int} (h : rightB l floor seq = true) (hs : s0 <= s) {id : ByteArray} {k0 k : Nat} {f0 f : En} (h0 : l[k0]? = some f0) (e0 : f0.id = id) (h1 : l[k]? = some f) (e1 : f.id = id) (hf : s < f.seq) (hf0 : s0 < f0.seq) (hno : ∀ (j : Nat) y, j < k0 -> l[j]? = some y -> y.id = id -> y.seq <= s0) (hw : (f0.what != 1) = true) : (f.what != 1) = true := by
 rcases Nat.lt_trichotomy k0 k with hlt | rfl | hgt
 ·have h2 := (right_two h hlt h0 h1 (e0.trans e1.symm)).2
  simpa using h2
 ·rw [h0] at h1
  cases h1
  exact hw
 ·have := hno k f hgt h1 e1
  omega
theorem since_move {l : List En} {floor seq s0 s : Int} (h : rightB l floor seq = true) (hs : s0 <= s) {p : Pa} (hp : p ∈ sinceL s l) : ∃ q ∈ sinceL s0 l, q.id = p.id /\ q.isb = p.isb /\ q.last = p.last /\ (q.was = true -> p.was = true) := by
 obtain ⟨i, x, k, f, hx, h1, h2, hf, h3, h4, h5, rfl⟩ := (since_at h).1 hp
 obtain ⟨k0, f0, g1, g2, g3, g4⟩ := first_of (sq := s0) hx (by omega)
 exact ⟨⟨x.id, f0.what != 1, x.what != 3, x.seq⟩, (since_at h).2 ⟨i, x, k0, f0, hx, by omega, h2, g1, g2, g3, g4, rfl⟩, rfl, rfl, rfl, fun hw => first_two h hs g1 g2 hf h3 h4 g3 g4 hw⟩
theorem since_back {l : List En} {floor seq s0 s : Int} (h : rightB l floor seq = true) (hs : s0 <= s) {q : Pa} (hq : q ∈ sinceL s0 l) (hl : s < q.last) : ∃ p ∈ sinceL s l, p.id = q.id /\ p.isb = q.isb /\ p.last = q.last /\ (q.was = true -> p.was = true) := by
 obtain ⟨i, x, k0, f0, hx, h1, h2, g1, g2, g3, g4, rfl⟩ := (since_at h).1 hq
 obtain ⟨k, f, hf, h3, h4, h5⟩ := first_of (sq := s) hx hl
 exact ⟨⟨x.id, f.what != 1, x.what != 3, x.seq⟩, (since_at h).2 ⟨i, x, k, f, hx, hl, h2, hf, h3, h4, h5, rfl⟩, rfl, rfl, rfl, fun hw => first_two h hs g1 g2 hf h3 h4 g3 g4 hw⟩
theorem since_last {l : List En} {floor seq sq : Int} (h : rightB l floor seq = true) {p : Pa} (hp : p ∈ sinceL sq l) : sq < p.last /\ p.last <= seq /\ ∃ e ∈ l, e.seq = p.last := by
 obtain ⟨i, x, k, f, hx, h1, h2, hf, h3, h4, h5, rfl⟩ := (since_at h).1 hp
 have a := (right_at h hx).1
 have b := right_head' h
 have c := (List.getElem?_eq_some_iff.1 hx).1
 exact ⟨h1, by dsimp only; omega, x, List.mem_of_getElem? hx, rfl⟩
theorem nodup_inj {ys : List Pa} (h : (ys.map (·.id)).Nodup) : ∀ {p q : Pa}, p ∈ ys -> q ∈ ys -> p.id = q.id -> p = q := by
 induction ys with
 | nil => intro p q hp; cases hp
 | cons a r ih =>
   rw [List.map_cons, List.nodup_cons] at h
   intro p q hp hq e
   rcases List.mem_cons.1 hp with hp1 | hp1
   ·rcases List.mem_cons.1 hq with hq1 | hq1
    ·rw [hp1, hq1]
    ·exact absurd (List.mem_map.2 ⟨q, hq1, by rw [<- hp1, e]⟩) h.1
   ·rcases List.mem_cons.1 hq with hq1 | hq1
    ·exact absurd (List.mem_map.2 ⟨p, hp1, by rw [<- hq1, e]⟩) h.1
    ·exact ih h.2 hp1 hq1 e
structure Told (l : List En) (seq s most : Int) (d : ChD) : Prop where
 made : ∀ id, id ∈ d.made ↔ ∃ p ∈ sinceL s l, p.id = id /\ whatP p = 1 /\ p.last <= d.toN
 chgd : ∀ id, id ∈ d.chgd ↔ ∃ p ∈ sinceL s l, p.id = id /\ whatP p = 2 /\ p.last <= d.toN
 gone : ∀ id, id ∈ d.gone ↔ ∃ p ∈ sinceL s l, p.id = id /\ whatP p = 3 /\ p.last <= d.toN
 nodup : (d.made ++ d.chgd ++ d.gone).Nodup
 ge : s <= d.toN
 le : d.toN <= seq
 all : d.more = false -> d.toN = seq
 some : d.more = true -> 0 < most /\ ((d.made.length + d.chgd.length + d.gone.length : Nat) : Int) = most /\ ∃ e ∈ l, e.seq = d.toN /\ s < e.seq
 len : d.made.length + d.chgd.length + d.gone.length <= l.length
theorem take_last {L : List Pa} (hp : L.Pairwise (fun a b => a.last < b.last)) {n : Nat} (h1 : 0 < n) (h2 : n <= L.length) :
 (∃ z ∈ L.take n, z.last = lastP (L.take n)) /\ (∀ p ∈ L.take n, p.last <= lastP (L.take n)) /\ ∀ p ∈ L.drop n, lastP (L.take n) < p.last := by
 have hsp := hp
 rw [<- List.take_append_drop n L, List.pairwise_append] at hsp
 rcases List.eq_nil_or_concat (L.take n) with e | ⟨A, z, e⟩
 ·have := congrArg List.length e
  rw [List.length_take, List.length_nil] at this
  omega
 ·rw [List.concat_eq_append] at e
  rw [e] at hsp ⊢
  rw [lastP_snoc]
  refine ⟨⟨z, by simp, rfl⟩, fun p hp' => ?_, fun p hp' => hsp.2.2 z (by simp) p hp'⟩
  rcases List.mem_append.1 hp' with h | h
  ·have := (List.pairwise_append.1 hsp.1).2.2 p h z (by simp)
   omega
  ·rw [List.mem_singleton.1 h]
   exact Int.le_refl _
theorem ids_mem {k : Int} {c : List Pa} {id : ByteArray} : id ∈ sortB (idsW k c) ↔ ∃ p ∈ c, p.id = id /\ whatP p = k := by
 rw [(sortB_perm _).mem_iff]
 unfold idsW
 rw [List.mem_map]
 constructor
 ·rintro ⟨p, h1, h2⟩
  rw [List.mem_filter] at h1
  exact ⟨p, h1.1, h2, of_decide_eq_true h1.2⟩
 ·rintro ⟨p, h1, h2, h3⟩
  exact ⟨p, List.mem_filter.2 ⟨h1, decide_eq_true h3⟩, h2⟩
theorem whatP_rng' (p : Pa) : whatP p = 0 \/ whatP p = 1 \/ whatP p = 2 \/ whatP p = 3 := by
 unfold whatP
 split <;> split <;> simp
theorem ids_sum : ∀ c : List Pa, (∀ p ∈ c, whatP p ≠ 0) -> (idsW 1 c).length + (idsW 2 c).length + (idsW 3 c).length = c.length
 | [], _ => rfl
 | p :: c, h => by
   have ih := ids_sum c (fun q hq => h q (by simp [hq]))
   have h0 := h p (by simp)
   unfold idsW at ih ⊢
   simp only [List.length_map, List.filter_cons] at ih ⊢
   rcases whatP_rng' p with e | e | e | e
   ·exact absurd e h0
   ·simp [e]; omega
   ·simp [e]; omega
   ·simp [e]; omega
theorem ids_apart {c : List Pa} (hn : (c.map (·.id)).Nodup) : (sortB (idsW 1 c) ++ sortB (idsW 2 c) ++ sortB (idsW 3 c)).Nodup := by
 have hs : ∀ k, (sortB (idsW k c)).Nodup := fun k => (sortB_perm _).nodup_iff.2 (idsW_nodup k hn)
 have hd : ∀ k j, k ≠ j -> ∀ a ∈ sortB (idsW k c), ∀ b ∈ sortB (idsW j c), a ≠ b := fun k j hkj a ha b hb e => by
  obtain ⟨p, hp, e1, e2⟩ := ids_mem.1 ha
  obtain ⟨q, hq, e3, e4⟩ := ids_mem.1 hb
  have := nodup_inj hn hp hq (by rw [e1, e3, e])
  subst this
  omega
 rw [List.nodup_append, List.nodup_append]
 refine ⟨⟨hs 1, hs 2, hd 1 2 (by decide)⟩, hs 3, fun a ha b hb => ?_⟩
 rcases List.mem_append.1 ha with ha | ha
 ·exact hd 1 3 (by decide) a ha b hb
 ·exact hd 2 3 (by decide) a ha b hb
theorem told_ok {l : List En} {floor seq s most : Int} {ys : List Pa} (h : rightB l floor seq = true) (hy : IsStable cfP (sinceL s l) ys) (hs : s <= seq) : Told l seq s most (sncD seq ys most) := by
 have hpw := (since_right h hy).2
 have hnd := stable_nodup hy
 have hmem : ∀ p, p ∈ ys ↔ p ∈ sinceL s l := fun p => hy.perm.mem_iff
 have hlen : ys.length <= l.length := by
  rw [hy.perm.length_eq]
  exact (by
   have : ∀ l : List En, (sinceL s l).length <= l.length := by
    intro l
    induction l with
    | nil => exact Nat.le_refl _
    | cons e r ih =>
      rw [sinceL_cons, List.length_cons]
      split
      ·omega
      ·split
       ·rw [List.length_map]; omega
       ·rw [List.length_cons]; omega
   exact this l)
 have htp : (toldP ys).Pairwise (fun a b => a.last < b.last) := hpw.sublist List.filter_sublist
 have htn : ((toldP ys).map (·.id)).Nodup := hnd.sublist (List.filter_sublist.map _)
 have htm : ∀ p, p ∈ toldP ys ↔ p ∈ sinceL s l /\ whatP p ≠ 0 := fun p => by
  unfold toldP
  rw [List.mem_filter, hmem]
  unfold noneP
  simp
 have htl : (toldP ys).length <= ys.length := by unfold toldP; exact List.length_filter_le _ _
 cases hm : moreP ys most with
 | false =>
   have e : sncD seq ys most = ⟨sortB (idsW 1 (toldP ys)), sortB (idsW 2 (toldP ys)), sortB (idsW 3 (toldP ys)), seq, false⟩ := by
    unfold sncD cutP
    rw [hm]
    rfl
   rw [e]
   have hk : ∀ k : Int, k ≠ 0 -> ∀ id, id ∈ sortB (idsW k (toldP ys)) ↔ ∃ p ∈ sinceL s l, p.id = id /\ whatP p = k /\ p.last <= seq := fun k hk id => by
    rw [ids_mem]
    constructor
    ·rintro ⟨p, h1, h2, h3⟩
     exact ⟨p, ((htm p).1 h1).1, h2, h3, (since_last h ((htm p).1 h1).1).2.1⟩
    ·rintro ⟨p, h1, h2, h3, _⟩
     exact ⟨p, (htm p).2 ⟨h1, by omega⟩, h2, h3⟩
   exact ⟨hk 1 (by decide), hk 2 (by decide), hk 3 (by decide), ids_apart htn, hs, Int.le_refl _, fun _ => rfl, fun h => by simp at h, by
    dsimp only
    rw [sortB_len, sortB_len, sortB_len, ids_sum _ (fun p hp => ((htm p).1 hp).2)]
    omega⟩
 | true =>
   have hm' := hm
   unfold moreP at hm'
   simp only [Bool.and_eq_true, decide_eq_true_eq] at hm'
   obtain ⟨hp0, hp1⟩ := hm'
   obtain ⟨n, hn⟩ : ∃ n, most.toNat = n := ⟨_, rfl⟩
   have hn1 : (n : Int) = most := by omega
   have e : sncD seq ys most = ⟨sortB (idsW 1 ((toldP ys).take n)), sortB (idsW 2 ((toldP ys).take n)), sortB (idsW 3 ((toldP ys).take n)), lastP ((toldP ys).take n), true⟩ := by
    unfold sncD cutP
    rw [hm, hn]
    rfl
   rw [e]
   obtain ⟨⟨z, hz1, hz2⟩, hz3, hz4⟩ := take_last htp (n := n) (by omega) (by omega)
   have hcn : (((toldP ys).take n).map (·.id)).Nodup := htn.sublist ((List.take_sublist n _).map _)
   have hct : ∀ p ∈ (toldP ys).take n, p ∈ sinceL s l /\ whatP p ≠ 0 := fun p hp => (htm p).1 (List.mem_of_mem_take hp)
   have hk : ∀ k : Int, k ≠ 0 -> ∀ id, id ∈ sortB (idsW k ((toldP ys).take n)) ↔ ∃ p ∈ sinceL s l, p.id = id /\ whatP p = k /\ p.last <= lastP ((toldP ys).take n) := fun k hk id => by
    rw [ids_mem]
    constructor
    ·rintro ⟨p, h1, h2, h3⟩
     exact ⟨p, (hct p h1).1, h2, h3, hz3 p h1⟩
    ·rintro ⟨p, h1, h2, h3, h4⟩
     have h5 := (htm p).2 ⟨h1, by omega⟩
     rw [<- List.take_append_drop n (toldP ys)] at h5
     rcases List.mem_append.1 h5 with h6 | h6
     ·exact ⟨p, h6, h2, h3⟩
     ·have := hz4 p h6
      omega
   have hzl := since_last h (hct z hz1).1
   have hsum := ids_sum _ (fun p hp => (hct p hp).2)
   rw [List.length_take] at hsum
   exact ⟨hk 1 (by decide), hk 2 (by decide), hk 3 (by decide), ids_apart hcn, by dsimp only; omega, by dsimp only; omega, fun h => by simp at h, fun _ => ⟨hp0, by
    dsimp only
    rw [sortB_len, sortB_len, sortB_len]
    omega, by
    obtain ⟨x, hx1, hx2⟩ := hzl.2.2
    exact ⟨x, hx1, by dsimp only; omega, by omega⟩⟩, by
    dsimp only
    rw [sortB_len, sortB_len, sortB_len]
    omega⟩
structure AllI (l : List En) (seq s0 s : Int) (m c g : List ByteArray) : Prop where
 ge : s0 <= s
 le : s <= seq
 nd : (m ++ c ++ g).Nodup
 mc : ∀ id, id ∈ m \/ id ∈ c -> ∃ p ∈ sinceL s0 l, p.id = id /\ p.isb = true /\ p.last <= s
 gn : ∀ id ∈ g, ∃ p ∈ sinceL s0 l, p.id = id /\ p.isb = false /\ p.last <= s
 full : ∀ p ∈ sinceL s0 l, p.last <= s -> (p.isb = true -> p.id ∈ m \/ p.id ∈ c) /\ (p.isb = false -> p.was = true -> p.id ∈ g)
theorem AllI.start {l : List En} {floor seq s0 : Int} (h : rightB l floor seq = true) (hs : s0 <= seq) : AllI l seq s0 s0 [] [] [] :=
 ⟨Int.le_refl _, hs, by simp, fun id h => by simp at h, fun id h => by simp at h, fun p hp hl => by have := (since_last h hp).1; omega⟩
theorem what_is (p : Pa) : (whatP p = 1 -> p.isb = true) /\ (whatP p = 2 -> p.isb = true) /\ (whatP p = 3 -> p.isb = false) /\ (p.isb = true -> whatP p = 1 \/ whatP p = 2) /\ (p.isb = false -> p.was = true -> whatP p = 3) := by
 unfold whatP
 cases p.was <;> cases p.isb <;> simp
theorem nodup_six {α : Type} {a b c x y z : List α} (h1 : (a ++ b ++ c).Nodup) (h2 : (x ++ y ++ z).Nodup) (h : ∀ p ∈ a ++ b ++ c, ∀ q ∈ x ++ y ++ z, p ≠ q) : ((a ++ x) ++ (b ++ y) ++ (c ++ z)).Nodup := by
 have h3 : ((a ++ b ++ c) ++ (x ++ y ++ z)).Nodup := List.nodup_append.2 ⟨h1, h2, h⟩
 refine List.Perm.nodup_iff ?_ |>.1 h3
 have e1 : ((a ++ b ++ c) ++ (x ++ y ++ z)).Perm ((a ++ b ++ x) ++ (c ++ (y ++ z))) := by
  simp only [List.append_assoc]
  exact List.Perm.append_left a (List.Perm.append_left b (List.perm_append_comm_assoc c x (y ++ z)))
 refine e1.trans ?_
 have e2 : ((a ++ b ++ x) ++ (c ++ (y ++ z))).Perm ((a ++ x ++ b) ++ (y ++ (c ++ z))) := by
  refine List.Perm.append ?_ ?_
  ·simp only [List.append_assoc]
   exact List.Perm.append_left a List.perm_append_comm
  ·exact List.perm_append_comm_assoc c y z
 refine e2.trans ?_
 simp only [List.append_assoc]
 exact List.Perm.refl _
theorem AllI.step {l : List En} {floor seq s0 s most : Int} {m c g : List ByteArray} {d : ChD} (h : AllI l seq s0 s m c g) (hr : rightB l floor seq = true) (hd : Told l seq s most d) : AllI l seq s0 d.toN (m ++ d.made) (c ++ d.chgd) (g ++ d.gone) := by
 have hn0 := sinceL_nodup s0 l
 have hge := h.ge
 have hge2 := hd.ge
 have hnew : ∀ id, id ∈ d.made \/ id ∈ d.chgd -> ∃ p ∈ sinceL s0 l, p.id = id /\ p.isb = true /\ s < p.last /\ p.last <= d.toN := fun id hid => by
  have : ∃ p ∈ sinceL s l, p.id = id /\ p.isb = true /\ p.last <= d.toN := by
   rcases hid with h1 | h1
   ·obtain ⟨p, h2, h3, h4, h5⟩ := (hd.made id).1 h1
    exact ⟨p, h2, h3, (what_is p).1 h4, h5⟩
   ·obtain ⟨p, h2, h3, h4, h5⟩ := (hd.chgd id).1 h1
    exact ⟨p, h2, h3, (what_is p).2.1 h4, h5⟩
  obtain ⟨p, h2, h3, h4, h5⟩ := this
  obtain ⟨q, g1, g2, g3, g4, _⟩ := since_move hr hge h2
  have := (since_last hr h2).1
  exact ⟨q, g1, g2.trans h3, g3.trans h4, by omega, by omega⟩
 have hgone : ∀ id ∈ d.gone, ∃ p ∈ sinceL s0 l, p.id = id /\ p.isb = false /\ s < p.last /\ p.last <= d.toN := fun id hid => by
  obtain ⟨p, h2, h3, h4, h5⟩ := (hd.gone id).1 hid
  obtain ⟨q, g1, g2, g3, g4, _⟩ := since_move hr hge h2
  have := (since_last hr h2).1
  exact ⟨q, g1, g2.trans h3, g3.trans ((what_is p).2.2.1 h4), by omega, by omega⟩
 refine ⟨by omega, hd.le, nodup_six h.nd hd.nodup (fun a ha b hb e => ?_), fun id hid => ?_, fun id hid => ?_, fun p hp hl => ?_⟩
 ·subst e
  have o1 : ∃ p ∈ sinceL s0 l, p.id = a /\ p.last <= s := by
   rw [List.mem_append, List.mem_append] at ha
   rcases ha with ha | ha
   ·obtain ⟨p, h1, h2, h3, h4⟩ := h.mc a ha
    exact ⟨p, h1, h2, h4⟩
   ·obtain ⟨p, h1, h2, h3, h4⟩ := h.gn a ha
    exact ⟨p, h1, h2, h4⟩
  have o2 : ∃ p ∈ sinceL s0 l, p.id = a /\ s < p.last := by
   rw [List.mem_append, List.mem_append] at hb
   rcases hb with hb | hb
   ·obtain ⟨p, h1, h2, h3, h4, h5⟩ := hnew a hb
    exact ⟨p, h1, h2, h4⟩
   ·obtain ⟨p, h1, h2, h3, h4, h5⟩ := hgone a hb
    exact ⟨p, h1, h2, h4⟩
  obtain ⟨p, h1, h2, h3⟩ := o1
  obtain ⟨q, h4, h5, h6⟩ := o2
  have := nodup_inj hn0 h1 h4 (by rw [h2, h5])
  subst this
  omega
 ·have : (id ∈ m \/ id ∈ c) \/ (id ∈ d.made \/ id ∈ d.chgd) := by
   simp only [List.mem_append] at hid
   rcases hid with (h1 | h1) | (h1 | h1)
   ·exact .inl (.inl h1)
   ·exact .inr (.inl h1)
   ·exact .inl (.inr h1)
   ·exact .inr (.inr h1)
  rcases this with h1 | h1
  ·obtain ⟨p, g1, g2, g3, g4⟩ := h.mc id h1
   exact ⟨p, g1, g2, g3, by omega⟩
  ·obtain ⟨p, g1, g2, g3, g4, g5⟩ := hnew id h1
   exact ⟨p, g1, g2, g3, g5⟩
 ·rcases List.mem_append.1 hid with h1 | h1
  ·obtain ⟨p, g1, g2, g3, g4⟩ := h.gn id h1
   exact ⟨p, g1, g2, g3, by omega⟩
  ·obtain ⟨p, g1, g2, g3, g4, g5⟩ := hgone id h1
   exact ⟨p, g1, g2, g3, g5⟩
 ·by_cases hls : p.last <= s
  ·have h1 := h.full p hp hls
   refine ⟨fun e => ?_, fun e1 e2 => List.mem_append.2 (.inl (h1.2 e1 e2))⟩
   rcases h1.1 e with h2 | h2
   ·exact .inl (List.mem_append.2 (.inl h2))
   ·exact .inr (List.mem_append.2 (.inl h2))
  ·obtain ⟨q, g1, g2, g3, g4, g5⟩ := since_back hr hge hp (s := s) (by omega)
   refine ⟨fun e => ?_, fun e1 e2 => ?_⟩
   ·rcases (what_is q).2.2.2.1 (g3.trans e) with h2 | h2
    ·exact .inl (List.mem_append.2 (.inr ((hd.made p.id).2 ⟨q, g1, g2, h2, by omega⟩)))
    ·exact .inr (List.mem_append.2 (.inr ((hd.chgd p.id).2 ⟨q, g1, g2, h2, by omega⟩)))
   ·exact List.mem_append.2 (.inr ((hd.gone p.id).2 ⟨q, g1, g2, (what_is q).2.2.2.2 (g3.trans e1) (g5 e2), by omega⟩))
def behind (l : List En) (s : Int) : Nat := (l.filter (fun e => decide (s < e.seq))).length
end
section
open Go Go.RowKit Go.OpenShut
theorem textJ_ok {s : ByteArray} (h : s.size <= 140737488351232) : (textJ s).Ok :=
 .mk (by decide) (by decide) h (by decide) (by decide) (fun i x h => by simp at h) (fun i x h => by simp at h) (fun i x h => by simp at h)
theorem listJ_ok {l : List JV} (hl : l.length <= 1759218604390) (h : ∀ x ∈ l, x.Ok) : (listJ l).Ok :=
 .mk (by decide) (by decide) (by decide) hl (by decide) (fun i x hx => h x (List.mem_of_getElem? hx)) (fun i x h => by simp at h) (fun i x h => by simp at h)
theorem objJ_ok {m : List (ByteArray × JV)} (hm : m.length <= 1466015503658) (hs : ∀ p ∈ m, p.1.size <= 140737488351232) (h : ∀ p ∈ m, p.2.Ok) : (objJ m).Ok :=
 .mk (by decide) (by decide) (by decide) (by decide) hm (fun i x h => by simp at h) (fun i p hp => hs p (List.mem_of_getElem? hp)) (fun i p hp => h p (List.mem_of_getElem? hp))
theorem ok_mem {t : JV} (h : t.Ok) : ∀ p ∈ t.m, p.1.size <= 140737488351232 /\ p.2.Ok := by
 cases h with
 | mk _ _ _ _ _ _ cs cm =>
   intro p hp
   obtain ⟨i, hi⟩ := List.mem_iff_getElem?.1 hp
   exact ⟨cs i p hi, cm i p hi⟩
theorem ok_lst {t : JV} (h : t.Ok) : ∀ x ∈ t.l, x.Ok := by
 cases h with
 | mk _ _ _ _ _ cl _ _ =>
   intro x hx
   obtain ⟨i, hi⟩ := List.mem_iff_getElem?.1 hx
   exact cl i x hi
theorem ok_s {t : JV} (h : t.Ok) : t.s.size <= 140737488351232 := by
 cases h with | mk _ _ hs _ _ _ _ _ => exact hs
theorem showJ_ok {id : ByteArray} {v names : JV} (hid : id.size <= 140737488351232) (hv : v.Ok) (hm : v.m.length <= 90000) : (showJ id v names).Ok := by
 refine objJ_ok ?_ (fun p hp => ?_) (fun p hp => ?_)
 ·have : (showM v names).length <= v.m.length := List.length_filter_le _ _
  simp only [List.length_cons]
  omega
 ·rcases List.mem_cons.1 hp with rfl | hp
  ·show idN.size <= _; decide
  ·exact (ok_mem hv p (List.mem_filter.1 hp).1).1
 ·rcases List.mem_cons.1 hp with rfl | hp
  ·exact textJ_ok hid
  ·exact (ok_mem hv p (List.mem_filter.1 hp).1).2
theorem mem_fold {x : ByteArray} : ∀ (l acc : List ByteArray), x ∈ l.foldl addU acc -> x ∈ acc \/ x ∈ l
 | [], acc, h => .inl h
 | y :: l, acc, h => by
   rcases mem_fold l (addU acc y) h with h | h
   ·unfold addU at h
    split at h
    ·exact .inl h
    ·rcases List.mem_append.1 h with h | h
     ·exact .inl h
     ·exact .inr (by rw [List.mem_singleton.1 h]; exact List.mem_cons_self ..)
   ·exact .inr (List.mem_cons_of_mem _ h)
theorem asked_ok {b : BoxD} {l1 : JV} (hb : ∀ p ∈ b.objs, p.1.size <= 140737488351232) (hl : l1.Ok) : ∀ x ∈ askedL b l1, x.size <= 140737488351232 := by
 intro x hx
 unfold askedL at hx
 split at hx
 ·obtain ⟨p, hp, rfl⟩ := List.mem_map.1 hx
  exact hb p hp
 ·rcases mem_fold _ _ hx with h | h
  ·cases h
  ·obtain ⟨y, hy, rfl⟩ := List.mem_map.1 h
   exact ok_s (ok_lst hl y hy)
theorem asked_len {b : BoxD} {l1 l2 : JV} (h : bigB b l1 l2 = false) : (askedL b l1).length <= 32 := by
 unfold bigB at h
 simp at h
 unfold askedL
 split
 ·rename_i h1
  rw [List.length_map]
  exact h.2.2 h1
 ·have := foldU_len (l1.l.map JV.s) []
  simp only [List.length_nil, List.length_map] at this
  omega
theorem getJ_ok {aid : ByteArray} {card : Bool} {b : BoxD} {l1 l2 : JV} (ha : aid.size <= 140737488351232) (hn : (Lit.int .i64 b.seq).wf = true) (hb : ∀ p ∈ b.objs, p.1.size <= 140737488351232 /\ p.2.Ok /\ p.2.m.length <= 90000) (hl : l1.Ok) (hbig : bigB b l1 l2 = false) : (getJ aid card b l1 l2).Ok := by
 have h32 := asked_len hbig
 have hask := asked_ok (fun p hp => (hb p hp).1) hl
 have hst : (stateB card b.seq).size <= 140737488351232 := by
  unfold stateB
  split
  ·have h1 := numL_len hn
   rw [toB_size, List.length_cons]
   omega
  ·decide
 have h3 : (listJ (shownTo b l2 (askedL b l1))).Ok := by
  refine listJ_ok (by have := shownTo_len b l2 (askedL b l1); omega) (fun x hx => ?_)
  obtain ⟨id, hid, h⟩ := List.mem_filterMap.1 hx
  cases hf : findJ b.objs id with
  | none => rw [hf] at h; cases h
  | some v =>
    rw [hf] at h
    cases h
    have hv : ∃ y ∈ b.objs, y.2 = v := by
     unfold findJ at hf
     cases hf2 : b.objs.find? (fun p => decide (p.1 = id)) with
     | none => rw [hf2] at hf; cases hf
     | some y => rw [hf2] at hf; cases hf; exact ⟨y, List.mem_of_find?_eq_some hf2, rfl⟩
    obtain ⟨y, hy, rfl⟩ := hv
    exact showJ_ok (hask id hid) (hb y hy).2.1 (hb y hy).2.2
 have h4 : (listJ ((missTo b (askedL b l1)).map textJ)).Ok := by
  refine listJ_ok (by have := missTo_len b (askedL b l1); rw [List.length_map]; omega) (fun x hx => ?_)
  obtain ⟨id, hid, rfl⟩ := List.mem_map.1 hx
  exact textJ_ok (hask id (List.mem_filter.1 hid).1)
 refine objJ_ok (by show 4 <= _; decide) (fun p hp => ?_) (fun p hp => ?_)
 ·simp only [List.mem_cons, List.not_mem_nil, or_false] at hp
  rcases hp with rfl | rfl | rfl | rfl
  ·show accIdN.size <= _; decide
  ·show stateN.size <= _; decide
  ·show listN.size <= _; decide
  ·show notFoundN.size <= _; decide
 ·simp only [List.mem_cons, List.not_mem_nil, or_false] at hp
  rcases hp with rfl | rfl | rfl | rfl
  ·exact textJ_ok ha
  ·exact textJ_ok hst
  ·exact h3
  ·exact h4
theorem numL_low {n : Int} (h0 : 0 <= n) (h1 : n < 10) : numL n = [UInt8.ofNat (48 + n.toNat)] := by
 unfold numL
 rw [if_neg (by omega), natD, if_pos (by omega)]
 have : n.natAbs = n.toNat := by omega
 rw [this]; rfl
theorem numL_pos {n : Int} (h : 10 <= n) : numL n = numL (n.tdiv 10) ++ [UInt8.ofNat (48 + (n.tmod 10).toNat)] := by
 obtain ⟨m, rfl⟩ := Int.eq_ofNat_of_zero_le (show 0 <= n by omega)
 have e1 : (m : Int).tdiv 10 = ((m / 10 : Nat) : Int) := rfl
 have e2 : (m : Int).tmod 10 = ((m % 10 : Nat) : Int) := rfl
 rw [e1, e2]
 unfold numL
 rw [if_neg (by omega), if_neg (by omega)]
 simp only [List.nil_append, Int.natAbs_natCast, Int.toNat_natCast]
 exact natD_high (by omega)
theorem cell_u8 {W : World} {a : Addr} {i : Int} (c : Nat) (hc : c < 256) (e : (c : Int) = i) (h : W.cell? a = some (.int .u8 i)) : W.cell? a = some (.int .u8 (UInt8.ofNat c).toNat) := by
 rw [h, <- e]
 simp only [UInt8.toNat_ofNat', Nat.reducePow]
 rw [Nat.mod_eq_of_lt hc]
def Put3Ret (w : World) (n : Int) (e : Ending) (w' : World) : Prop := e = .returned (.string (toB (numL n))) /\ Below w.heap.size w w'
theorem put3_low (n : Int) (h0 : 0 <= n) (h1 : n < 10) (w : World) : Calls Tryz.prog 87 #[.int .i64 n] w (Put3Ret w n) := by
 have hcv : ∀ W b, W.cell? ⟨b, 0, none⟩ = some (.int .u8 (48 + n)) -> (convert 95 9 (.slice (some ⟨b, 0, none⟩) 1 1)).run Tryz.prog W = .ok (.string (toB (numL n))) W := fun W b h => by
  rw [numL_low h0 h1]
  exact str_oneB W b _ (cell_u8 _ (by omega) (by omega) h)
 have hw : IntKind.u8.wrap (48 + n) = 48 + n := by simp [IntKind.wrap, go_sem]; omega
 unfold Put3Ret
 obtain ⟨X, hX⟩ : ∃ X, toB (numL n) = X := ⟨_, rfl⟩
 rw [hX] at hcv ⊢
 clear hX
 have hcell : (w.alloc (.cells #[.int .u8 (48 + n)] 5)).cell? ⟨w.heap.size, 0, none⟩ = some (.int .u8 (48 + n)) := by rw [cell_of_row (w.alloc (.cells #[.int .u8 (48 + n)] 5)) w.heap.size 0 _ _ _ (heap_alloc_at rfl)]; rfl
 have hcx := hcv _ _ hcell
 clear hcell hcv
 go_enter Tryz.func87, Tryz.ntmps87
 go_wp2_with fail
 go_ret
 exact ⟨rfl, (Below.refl _ _).alloc (Nat.le_refl _) _⟩
theorem quo_pos {n : Int} (h : 10 <= n) : 0 <= n % 10 /\ n % 10 <= 9 /\ 0 <= n / 10 /\ n / 10 < n := by omega
theorem numL_pos' {n : Int} (h : 10 <= n) : numL n = numL (n / 10) ++ [UInt8.ofNat (48 + (n % 10).toNat)] := by
 rw [numL_pos h, Int.tdiv_eq_ediv_of_nonneg (by omega), Int.tmod_eq_emod_of_nonneg (by omega)]
theorem put3_pos (n : Int) (hwf : (Lit.int .i64 n).wf = true) (h10 : 10 <= n) (ih : ∀ W, Calls Tryz.prog 87 #[.int .i64 (n / 10)] W (Put3Ret W (n / 10))) (w : World) : Calls Tryz.prog 87 #[.int .i64 n] w (Put3Ret w n) := by
 have hbn := bounds_i64 hwf
 obtain ⟨hr0, hr9, hq0, hq1⟩ := quo_pos h10
 have hqw : (Lit.int .i64 (n / 10)).wf = true := by simp [Lit.wf, IntKind.min, IntKind.max, IntKind.signed, IntKind.bits]; omega
 have hXs : (toB (numL (n / 10))).size <= 20 := by rw [toB_size]; exact numL_len hqw
 have hcv : ∀ W b, W.cell? ⟨b, 0, none⟩ = some (.int .u8 (48 + n % 10)) -> (convert 95 9 (.slice (some ⟨b, 0, none⟩) 1 1)).run Tryz.prog W = .ok (.string (toB [UInt8.ofNat (48 + (n % 10).toNat)])) W := fun W b h => str_oneB W b _ (cell_u8 _ (by omega) (by omega) h)
 have hwq : IntKind.i64.wrap (n.tdiv 10) = n / 10 := by rw [Int.tdiv_eq_ediv_of_nonneg (by omega)]; simp [IntKind.wrap, go_sem]; omega
 have hw6 : IntKind.i64.wrap (48 + n % 10) = 48 + n % 10 := by simp [IntKind.wrap, go_sem]; omega
 have hw : IntKind.u8.wrap (48 + n % 10) = 48 + n % 10 := by simp [IntKind.wrap, go_sem]; omega
 have hE : toB (numL n) = toB (numL (n / 10)) ++ toB [UInt8.ofNat (48 + (n % 10).toNat)] := by rw [numL_pos' h10, toB_app]
 have hYs : (toB [UInt8.ofNat (48 + (n % 10).toNat)]).size = 1 := by rw [toB_size]; rfl
 have HPX : Hid (∀ W, Calls Tryz.prog 87 #[.int .i64 (n / 10)] W fun e w' => e = .returned (.string (toB (numL (n / 10)))) /\ Below W.heap.size W w') := ih
 unfold Put3Ret
 rw [hE]
 clear hE ih
 obtain ⟨X, hX⟩ : ∃ X, toB (numL (n / 10)) = X := ⟨_, rfl⟩
 obtain ⟨Y, hY⟩ : ∃ Y, toB [UInt8.ofNat (48 + (n % 10).toNat)] = Y := ⟨_, rfl⟩
 rw [hX] at hXs HPX ⊢
 rw [hY] at hcv hYs ⊢
 clear hX hY
 have hys : X.size + Y.size <= 21 := by omega
 have hys1 : Y.size <= 1 := by omega
 have hys2 : ¬ (281474976710656 < X.size + Y.size) := by omega
 clear hYs
 go_enter Tryz.func87, Tryz.ntmps87
 go_upto_region 8 with fail
 have hcell : (w.alloc (.cells #[.int .u8 (48 + n % 10)] 5)).drew.cell? ⟨w.heap.size, 0, none⟩ = some (.int .u8 (48 + n % 10)) := by show (w.alloc (.cells #[.int .u8 (48 + n % 10)] 5)).cell? _ = _; rw [cell_of_row (w.alloc (.cells #[.int .u8 (48 + n % 10)] 5)) w.heap.size 0 _ _ _ (heap_alloc_at rfl)]; rfl
 have hc1 := hcv _ _ hcell
 have HPA : Hid (Calls Tryz.prog 87 #[.int .i64 (n / 10)] (w.alloc (.cells #[.int .u8 (48 + n % 10)] 5)).drew fun e w' => e = .returned (.string X) /\ Below w.heap.size w w' /\ (convert 95 9 (.slice (some ⟨w.heap.size, 0, none⟩) 1 1)).run Tryz.prog w' = .ok (.string Y) w') :=
  (HPX.out _).mono (fun e w' h => ⟨h.1, ((Below.refl _ _).alloc (Nat.le_refl _) (.cells #[.int .u8 (48 + n % 10)] 5)).drew.trans (h.2.mono (by show w.heap.size <= (w.alloc _).heap.size; simp)), hcv w' _ (bcs h.2 (by show w.heap.size < (w.alloc _).heap.size; simp) hcell)⟩)
 have HPB : Hid (Calls Tryz.prog 87 #[.int .i64 (n / 10)] w.drew fun e w' => e = .returned (.string X) /\ Below w.heap.size w w' /\ (convert 95 9 (.slice (some ⟨w'.heap.size, 0, none⟩) 1 1)).run Tryz.prog (w'.alloc (.cells #[.int .u8 (48 + n % 10)] 5)) = .ok (.string Y) (w'.alloc (.cells #[.int .u8 (48 + n % 10)] 5))) :=
  (HPX.out _).mono (fun e w' h => ⟨h.1, (Below.refl _ _).drew.trans (h.2.mono (Nat.le_refl _)), hcv _ _ (by rw [cell_of_row (w'.alloc (.cells #[.int .u8 (48 + n % 10)] 5)) w'.heap.size 0 _ _ _ (heap_alloc_at rfl)]; rfl)⟩)
 clear hcell hcv HPX
 go_region_with
  (first
   | (go_at_call 87; ((with_reducible refine HPA.out.mono ?_); rintro e w3 ⟨rfl, hb3, hcx⟩))
   | (go_at_call 87; ((with_reducible refine HPB.out.mono ?_); rintro e w3 ⟨rfl, hb3, hcx⟩))
   | fail)
 all_goals
  go_wp2_with fail
  go_ret
  first
   | exact ⟨rfl, hb3⟩
   | exact ⟨rfl, hb3.alloc hb3.size _⟩
end
section
def digU (b : UInt8) : Bool := decide (48 <= b.toNat) && decide (b.toNat <= 57)
def stepD (n : Int) (b : UInt8) : Int := n * 10 + ((b.toNat : Int) - 48)
def valD (l : List UInt8) : Int := l.foldl stepD 0
def dOk (l : List UInt8) : Bool := (!l.isEmpty && l.all digU) && ((decide (l.length = 1) || decide (l.head? ≠ some 48)) && decide (valD l <= 9007199254740991))
def allN (l : List UInt8) : Option Int := if l.head? = some 45 then (if dOk l.tail && decide (l.tail ≠ [48]) then some (0 - valD l.tail) else none) else (if dOk l then some (valD l) else none)
theorem valD_snoc (r : List UInt8) (b : UInt8) : valD (r ++ [b]) = stepD (valD r) b := by unfold valD; rw [List.foldl_append]; rfl
theorem foldD_le : ∀ (l : List UInt8) (n : Int), l.all digU = true -> 0 <= n -> n <= l.foldl stepD n
 | [], n, _, _ => Int.le_refl _
 | b :: l, n, h, h0 => by
   rw [List.all_cons, Bool.and_eq_true] at h
   have hb := h.1
   unfold digU at hb
   rw [Bool.and_eq_true, decide_eq_true_eq, decide_eq_true_eq] at hb
   have h1 : n <= stepD n b := by unfold stepD; omega
   exact Int.le_trans h1 (foldD_le l (stepD n b) h.2 (Int.le_trans h0 h1))
theorem valD_nonneg {l : List UInt8} (h : l.all digU = true) : 0 <= valD l := foldD_le l 0 h (Int.le_refl _)
theorem valD_pos {l : List UInt8} (h : l.all digU = true) (hne : l ≠ []) (h0 : l.head? ≠ some 48) : 1 <= valD l := by
 cases l with
 | nil => exact absurd rfl hne
 | cons b l =>
   rw [List.all_cons, Bool.and_eq_true] at h
   have hb := h.1
   unfold digU at hb
   rw [Bool.and_eq_true, decide_eq_true_eq, decide_eq_true_eq] at hb
   have hb0 : b.toNat ≠ 48 := fun e => h0 (by rw [List.head?_cons]; congr 1; exact UInt8.toNat_inj.1 (by simpa using e))
   have h1 : 1 <= stepD 0 b := by unfold stepD; omega
   exact Int.le_trans h1 (foldD_le l _ h.2 (by omega))
theorem ofNat_dig {b : UInt8} (h : digU b = true) : UInt8.ofNat (48 + (((b.toNat : Int) - 48)).toNat) = b := by
 unfold digU at h
 rw [Bool.and_eq_true, decide_eq_true_eq, decide_eq_true_eq] at h
 have : 48 + (((b.toNat : Int) - 48)).toNat = b.toNat := by omega
 rw [this]
 simp
theorem numL_valD : ∀ (k : Nat) (l : List UInt8), l.length = k -> l.all digU = true -> l ≠ [] -> (l.length = 1 \/ l.head? ≠ some 48) -> numL (valD l) = l
 | 0, l, hk, _, hne, _ => absurd (List.eq_nil_of_length_eq_zero hk) hne
 | k + 1, l, hk, hall, hne, hz => by
   obtain ⟨r, b, rfl⟩ : ∃ r b, l = r ++ [b] := ⟨l.dropLast, l.getLast hne, (List.dropLast_concat_getLast hne).symm⟩
   rw [List.all_append, Bool.and_eq_true] at hall
   have hb : digU b = true := by simpa using hall.2
   have hbb := hb
   unfold digU at hbb
   rw [Bool.and_eq_true, decide_eq_true_eq, decide_eq_true_eq] at hbb
   rw [valD_snoc]
   by_cases hr : r = []
   ·subst hr
    have h1 : stepD (valD []) b = (b.toNat : Int) - 48 := by unfold stepD valD; simp
    rw [h1, numL_low (by omega) (by omega), ofNat_dig hb]
    rfl
   ·have hlr : 0 < r.length := List.length_pos_iff.2 hr
    have hz2 : r.head? ≠ some 48 := by
     rcases hz with h | h
     ·simp at h; exact absurd h hr
     ·cases r with
      | nil => exact absurd rfl hr
      | cons c r => simpa using h
    have hv := valD_pos hall.1 hr hz2
    have hs : stepD (valD r) b = valD r * 10 + ((b.toNat : Int) - 48) := rfl
    rw [hs, numL_pos' (by omega)]
    have h1 : (valD r * 10 + ((b.toNat : Int) - 48)) / 10 = valD r := by omega
    have h2 : (valD r * 10 + ((b.toNat : Int) - 48)) % 10 = (b.toNat : Int) - 48 := by omega
    rw [h1, h2, ofNat_dig hb, numL_valD k r (by simp at hk; exact hk) hall.1 hr (.inr hz2)]
end
end Go.Proofs.YtfgjimpmpckgpaaGreatDoor
