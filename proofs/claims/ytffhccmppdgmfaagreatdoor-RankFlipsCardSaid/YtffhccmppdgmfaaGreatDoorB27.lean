import Derived.Test.YtffhccmppdgmfaaGreatDoorB26
import Derived.Test.YtffhccmppdgmfaaGreatDoorB21
import Derived.Test.YtffhccmppdgmfaaGreatDoorB23
import Derived.Test.YtffhccmppdgmfaaGreatDoorB25
import Derived.Test.YtffhccmppdgmfaaGreatDoorB07
import Derived.Test.YtffhccmppdgmfaaGreatDoorB17
import Derived.Test.YtffhccmppdgmfaaGreatDoorB03
import Derived.Deep.RegionHeld3
import Derived.Deep.QuietTactic
import Derived.BigQuiet
import Derived.Deep.RegionLaw
import Derived.Test.YtffhccmppdgmfaaGreatDoorB01
set_option linter.unusedSimpArgs false
set_option linter.unusedVariables false
set_option maxRecDepth 200000
set_option maxHeartbeats 8000000
namespace Go.Proofs.YtffhccmppdgmfaaGreatDoor
section
open Go Go.RowKit Go.OpenShut
structure MgI (lt : Nat -> Nat -> Bool) (a b out : List Nat) (i k : Nat) : Prop where
 perm : out.Perm (a.take i ++ b.take k)
 sorted : out.Pairwise (fun x y => lt y x = false)
 low : ∀ x ∈ out, ∀ y ∈ a.drop i ++ b.drop k, lt y x = false
section
variable {lt : Nat -> Nat -> Bool} {a b out : List Nat} {i k : Nat}
theorem MgI.start : MgI lt a b [] 0 0 := ⟨List.Perm.refl _, List.Pairwise.nil, fun x h => by cases h⟩
theorem sorted_drop {x : Nat} (ha : a.Pairwise (fun x y => lt y x = false)) (hx : a[i]? = some x) : ∀ y ∈ a.drop (i + 1), lt y x = false := by
 obtain ⟨h1, h2⟩ := List.getElem?_eq_some_iff.1 hx
 have h3 : (a.drop i).Pairwise (fun x y => lt y x = false) := ha.sublist (List.drop_sublist _ _)
 rw [List.drop_eq_getElem_cons h1, h2, List.pairwise_cons] at h3
 exact h3.1
theorem drop_mem {x : Nat} (hx : a[i]? = some x) : ∀ y, y ∈ a.drop i ↔ y = x \/ y ∈ a.drop (i + 1) := fun y => by
 obtain ⟨h1, h2⟩ := List.getElem?_eq_some_iff.1 hx
 rw [List.drop_eq_getElem_cons h1, h2, List.mem_cons]
theorem MgI.takeA (h : MgI lt a b out i k) (ha : a.Pairwise (fun x y => lt y x = false)) {x : Nat} (hx : a[i]? = some x) (hb : ∀ y ∈ b.drop k, lt y x = false) : MgI lt a b (out ++ [x]) (i + 1) k := by
 refine ⟨?_, ?_, fun z hz y hy => ?_⟩
 ·rw [take_snoc hx, List.append_assoc]
  refine (h.perm.append_right [x]).trans ?_
  rw [List.append_assoc]
  exact List.Perm.append_left _ List.perm_append_comm
 ·rw [List.pairwise_append]
  refine ⟨h.sorted, by simp, fun z hz y hy => ?_⟩
  rw [List.mem_singleton.1 hy]
  exact h.low z hz x (List.mem_append.2 (.inl ((drop_mem hx x).2 (.inl rfl))))
 ·rcases List.mem_append.1 hz with hz | hz
  ·refine h.low z hz y ?_
   rcases List.mem_append.1 hy with hy | hy
   ·exact List.mem_append.2 (.inl ((drop_mem hx y).2 (.inr hy)))
   ·exact List.mem_append.2 (.inr hy)
  ·rw [List.mem_singleton.1 hz]
   rcases List.mem_append.1 hy with hy | hy
   ·exact sorted_drop ha hx y hy
   ·exact hb y hy
theorem MgI.takeB (h : MgI lt a b out i k) (hb : b.Pairwise (fun x y => lt y x = false)) {y : Nat} (hy : b[k]? = some y) (ha : ∀ x ∈ a.drop i, lt x y = false) : MgI lt a b (out ++ [y]) i (k + 1) := by
 refine ⟨?_, ?_, fun z hz x hx => ?_⟩
 ·rw [take_snoc hy, <- List.append_assoc]
  exact h.perm.append_right [y]
 ·rw [List.pairwise_append]
  refine ⟨h.sorted, by simp, fun z hz x hx => ?_⟩
  rw [List.mem_singleton.1 hx]
  exact h.low z hz y (List.mem_append.2 (.inr ((drop_mem hy y).2 (.inl rfl))))
 ·rcases List.mem_append.1 hz with hz | hz
  ·refine h.low z hz x ?_
   rcases List.mem_append.1 hx with hx | hx
   ·exact List.mem_append.2 (.inl hx)
   ·exact List.mem_append.2 (.inr ((drop_mem hy x).2 (.inr hx)))
  ·rw [List.mem_singleton.1 hz]
   rcases List.mem_append.1 hx with hx | hx
   ·exact ha x hx
   ·exact sorted_drop hb hy x hx
theorem MgI.done (h : MgI lt a b out i b.length) (ha : a.Pairwise (fun x y => lt y x = false)) : (out ++ a.drop i).Perm (a ++ b) /\ (out ++ a.drop i).Pairwise (fun x y => lt y x = false) := by
 constructor
 ·refine (h.perm.append_right _).trans ?_
  rw [List.take_length, List.append_assoc]
  refine (List.Perm.append_left _ List.perm_append_comm).trans ?_
  rw [<- List.append_assoc, List.take_append_drop]
 ·rw [List.pairwise_append]
  exact ⟨h.sorted, ha.sublist (List.drop_sublist _ _), fun x hx y hy => h.low x hx y (List.mem_append.2 (.inl hy))⟩
end
theorem ltQ_one {cs : List CmpD} {os : List (ByteArray × JV)} {x y : Nat} (h : x < y) : ltQ cs os x y = !aheadJ cs (os.getD y dO) (os.getD x dO) := by
 rw [ltQ_less, decide_eq_true (show (x : Int) < (y : Int) by omega)]
 cases ha : aheadJ cs (os.getD x dO) (os.getD y dO) with
 | true => rw [(aheadJ_ok cs).asym _ _ ha]; rfl
 | false => simp
def rsA (rs : List RM) (i : Nat) : RM := rs.getD i dRM
structure OEnv (w : World) (B : Nat) (t : JV) (r : RV) (os : List (ByteArray × JV)) (rs : List RM) : Prop where
 ht : TreeOf w B t r
 ot : t.Ok
 own : t.k ≠ 5 -> t.l = []
 len : rs.length = os.length
 obj : ∀ i, i < rs.length -> (rs.getD i dRM).name = (os.getD i dO).1 /\ TreeOf w B (os.getD i dO).2 (rs.getD i dRM).v /\ (os.getD i dO).2.Ok
theorem OEnv.below {w w' : World} {B : Nat} {t : JV} {r : RV} {os : List (ByteArray × JV)} {rs : List RM} (h : OEnv w B t r os rs) (hb : Below B w w') : OEnv w' B t r os rs :=
 ⟨h.ht.under hb (Nat.le_refl _), h.ot, h.own, h.len, fun i hi => ⟨(h.obj i hi).1, (h.obj i hi).2.1.under hb (Nat.le_refl _), (h.obj i hi).2.2⟩⟩
def OrdRet (cs : List CmpD) (os : List (ByteArray × JV)) (rs : List RM) (w : World) (is : List Nat) (e : Ending) (w' : World) : Prop :=
 ∃ (p : Option Addr) (n c : Nat) (js : List Nat), e = .returned (.slice p n c) /\ js.Perm is /\ js.Pairwise (fun x y => ltQ cs os y x = false) /\ Rd w' w'.heap.size encM 6 (.slice p n c) (js.map (rsA rs)) /\ Below w.heap.size w w'
theorem rs_range (rs : List RM) : (List.range rs.length).map (rsA rs) = rs := by
 apply List.ext_getElem?
 intro i
 by_cases h : i < rs.length
 ·rw [List.getElem?_map, List.getElem?_range h, Option.map_some, List.getElem?_eq_getElem h, rsA, List.getD_eq_getElem?_getD, List.getElem?_eq_getElem h]; rfl
 ·rw [List.getElem?_eq_none (by simpa using h), List.getElem?_eq_none (by omega)]
theorem kb_drewN {W w : World} (h : KB W.heap.size W w) (n : Nat) : KB W.heap.size W (w.drewN n) := KB.step h (bdn (Below.refl _ _) n)
theorem rd_lenU {α : Type} {enc : α -> List Value} {sz B n c : Nat} {w : World} {p : Option Addr} {l : List α} (h : Rd w B enc sz (.slice p n c) l) : n <= maxLen := by
 obtain ⟨p1, cap, h1, h2, h3, _⟩ := h
 simp only [Value.slice.injEq] at h1
 omega
def Unl (os : List (ByteArray × JV)) : Prop := ∀ (i k : Nat), i < os.length -> k < i -> (os.getD i dO).1 ≠ (os.getD k dO).1
theorem belS {B g o : Nat} {w W : World} (h : Below B w W) (hB : B <= W.heap.size) (hg : B <= g) (v : Value) : Below B w (W.setCell ⟨g, o, none⟩ v) := h.grown (grownBy_set W g o v) hB (fun k e => by cases e; exact hg)
theorem ordQ_len (cs : List CmpD) (os : List (ByteArray × JV)) : (ordQ cs os).length = os.length := by have h := (ordQ_perm cs os).length_eq; simpa using h
theorem ordQ_lt {cs : List CmpD} {os : List (ByteArray × JV)} {i x : Nat} (h : (ordQ cs os)[i]? = some x) : x < os.length := by
 have h1 := (ordQ_perm cs os).mem_iff.1 (List.mem_of_getElem? h)
 simpa using h1
theorem ahead_self (cs : List CmpD) (a : ByteArray × JV) : aheadJ cs a a = false := by
 have h := (cmpO_ok cs).refl a
 unfold aheadJ
 rw [h]; rfl
theorem ahead_of {cs : List CmpD} {os : List (ByteArray × JV)} (hu : Unl os) {x y : Nat} (hx : x < os.length) (hy : y < os.length) (hne : x ≠ y) (h : ltQ cs os y x = false) : aheadJ cs (os.getD x dO) (os.getD y dO) = true /\ aheadJ cs (os.getD y dO) (os.getD x dO) = false := by
 have hn : (os.getD x dO).1 ≠ (os.getD y dO).1 := by
  rcases Nat.lt_or_gt_of_ne hne with h1 | h1
  ·exact fun e => hu y x hy h1 e.symm
  ·exact hu x y hx h1
 have h0 : cmpO cs (os.getD y dO) (os.getD x dO) ≠ 0 := fun e => hn (cmpO_id cs e).symm
 have ha := (cmpO_ok cs).anti (os.getD x dO) (os.getD y dO)
 unfold ltQ cmpQ at h
 rw [if_pos h0] at h
 have h2 := of_decide_eq_false h
 unfold aheadJ
 exact ⟨decide_eq_true (by omega), decide_eq_false h2⟩
theorem ordQ_nodup (cs : List CmpD) (os : List (ByteArray × JV)) : (ordQ cs os).Nodup := (ordQ_perm cs os).nodup_iff.2 List.nodup_range
theorem ordQ_pair {cs : List CmpD} {os : List (ByteArray × JV)} (hu : Unl os) : (ordQ cs os).Pairwise (fun x y => aheadJ cs (os.getD x dO) (os.getD y dO) = true /\ aheadJ cs (os.getD y dO) (os.getD x dO) = false) := by
 have h1 := (ordQ_sorted cs os).and (ordQ_nodup cs os)
 refine h1.imp_of_mem ?_
 intro a b ha hb h
 have ha' : a < os.length := by simpa using (ordQ_perm cs os).mem_iff.1 ha
 have hb' : b < os.length := by simpa using (ordQ_perm cs os).mem_iff.1 hb
 exact ahead_of hu ha' hb' h.2 h.1
theorem ordQ_ahead {cs : List CmpD} {os : List (ByteArray × JV)} (hu : Unl os) {i k x y : Nat} (hik : i < k) (hx : (ordQ cs os)[i]? = some x) (hy : (ordQ cs os)[k]? = some y) : aheadJ cs (os.getD x dO) (os.getD y dO) = true /\ aheadJ cs (os.getD y dO) (os.getD x dO) = false := by
 obtain ⟨h1, e1⟩ := List.getElem?_eq_some_iff.1 hx
 obtain ⟨h2, e2⟩ := List.getElem?_eq_some_iff.1 hy
 have h := List.pairwise_iff_getElem.1 (ordQ_pair (cs := cs) hu) i k h1 h2 hik
 rw [e1, e2] at h
 exact h
theorem range_getD (os : List (ByteArray × JV)) : (List.range os.length).map (fun i => os.getD i dO) = os := by
 apply List.ext_getElem?
 intro i
 by_cases h : i < os.length
 ·rw [List.getElem?_map, List.getElem?_range h, Option.map_some, List.getElem?_eq_getElem h, List.getD_eq_getElem?_getD, List.getElem?_eq_getElem h]; rfl
 ·rw [List.getElem?_eq_none (by simpa using h), List.getElem?_eq_none (by omega)]
theorem ahead_unique {cs : List CmpD} : ∀ {a b : List (ByteArray × JV)}, a.Perm b -> a.Pairwise (fun x y => aheadJ cs x y = true /\ aheadJ cs y x = false) -> b.Pairwise (fun x y => aheadJ cs x y = true /\ aheadJ cs y x = false) -> a = b
 | [], b, h, _, _ => h.nil_eq
 | x :: a, [], h, _, _ => absurd h.length_eq (by simp)
 | x :: a, y :: b, h, ha, hb => by
   obtain ⟨ha1, ha2⟩ := List.pairwise_cons.1 ha
   obtain ⟨hb1, hb2⟩ := List.pairwise_cons.1 hb
   have hxy : x = y := by
    rcases List.mem_cons.1 (h.mem_iff.1 (List.mem_cons_self ..)) with e | e
    ·exact e
    ·rcases List.mem_cons.1 (h.symm.mem_iff.1 (List.mem_cons_self ..)) with e2 | e2
     ·exact e2.symm
     ·have h1 := (hb1 x e).1
      have h2 := (ha1 y e2).2
      rw [h1] at h2
      cases h2
   subst hxy
   rw [ahead_unique (List.Perm.cons_inv h) ha2 hb2]
theorem ordQ_turned {cs : List CmpD} {os ps : List (ByteArray × JV)} (hu : Unl os) (hv : Unl ps) (hp : ps.Perm os) : (ordQ cs os).map (fun i => (os.getD i dO).1) = (ordQ cs ps).map (fun i => (ps.getD i dO).1) := by
 have h1 : ((ordQ cs os).map (fun i => os.getD i dO)).Perm os := by
  have h := (ordQ_perm cs os).map (fun i => os.getD i dO)
  rw [range_getD] at h; exact h
 have h2 : ((ordQ cs ps).map (fun i => ps.getD i dO)).Perm ps := by
  have h := (ordQ_perm cs ps).map (fun i => ps.getD i dO)
  rw [range_getD] at h; exact h
 have h3 := ahead_unique (cs := cs) ((h1.trans hp.symm).trans h2.symm) (List.pairwise_map.2 (ordQ_pair hu)) (List.pairwise_map.2 (ordQ_pair hv))
 have h4 := congrArg (List.map (fun o : ByteArray × JV => o.1)) h3
 rw [List.map_map, List.map_map] at h4
 exact h4
theorem unl_iff (os : List (ByteArray × JV)) : Unl os ↔ (os.map (·.1)).Nodup := by
 rw [List.nodup_iff_pairwise_ne, List.pairwise_map, List.pairwise_iff_getElem]
 constructor
 ·intro h i j hi hj hij e
  have h1 := h j i hj hij
  rw [List.getD_eq_getElem?_getD, List.getD_eq_getElem?_getD, List.getElem?_eq_getElem hi, List.getElem?_eq_getElem hj] at h1
  exact h1 e.symm
 ·intro h i k hi hk e
  have h1 := h k i (by omega) hi hk
  rw [List.getD_eq_getElem?_getD, List.getD_eq_getElem?_getD, List.getElem?_eq_getElem hi, List.getElem?_eq_getElem (by omega)] at e
  exact h1 e.symm
theorem Unl.perm {os ps : List (ByteArray × JV)} (h : Unl os) (hp : ps.Perm os) : Unl ps := (unl_iff ps).2 ((hp.map (·.1)).nodup_iff.2 ((unl_iff os).1 h))
def encI (x : Int) : List Value := [.int .i64 x]
theorem codecI : Codec encI 1 := ⟨fun _ => rfl, fun x u hu => by
 simp only [encI, List.mem_cons, List.not_mem_nil, or_false] at hu
 rw [hu]; rfl, by decide⟩
theorem turn_a (k no : Nat) (h : 0 < no) : ∃ a : Nat, (k : Int) % (no : Int) = (a : Int) /\ a < no := ⟨k % no, by omega, Nat.mod_lt _ h⟩
theorem turn_b (z : Int) (no : Nat) (h : 0 < no) (hn : no <= 40) : ∃ b : Nat, wrap64 ((IntKind.u64.wrap z).tmod (no : Int)) = (b : Int) /\ b < no := by
 have h1 : 0 <= IntKind.u64.wrap z := by rw [show IntKind.u64.wrap z = z % 18446744073709551616 by simp [IntKind.wrap, IntKind.bits, IntKind.signed]]; omega
 obtain ⟨m, hm⟩ : ∃ m : Nat, IntKind.u64.wrap z = (m : Int) := ⟨(IntKind.u64.wrap z).toNat, by omega⟩
 refine ⟨m % no, ?_, Nat.mod_lt _ h⟩
 rw [hm, <- Int.ofNat_tmod]
 have h2 := Nat.mod_lt m h
 unfold wrap64
 omega
theorem slObT : SlT Tryz.prog 30 27 6 96 := SlT.mk (z := .agg #[.string ByteArray.empty, .int .i64 0, .int .i64 0, .string ByteArray.empty, .slice none 0 0, .slice none 0 0]) Tryz.underlying30 (by kernel_rfl) rfl
end
section
open Go.RowKit Go.OpenShut
def goodN (l : List ByteArray) : Bool := l.all (fun n => badF n == n.size) && decide l.Nodup
def nameF (l : List ByteArray) (u : List UInt8) : Option Value := if u ∈ l.map (·.data.toList) then some (.bool true) else none
theorem nameF_snoc (l : List ByteArray) (n : ByteArray) : nameF (l ++ [n]) = fun u => if u = n.data.toList then some (.bool true) else nameF l u := by
 funext u
 unfold nameF
 rw [List.map_append, List.map_singleton]
 by_cases h : u = n.data.toList <;> simp [h]
theorem mem_bytes (l : List ByteArray) (n : ByteArray) : n.data.toList ∈ l.map (·.data.toList) ↔ n ∈ l := by
 rw [List.mem_map]
 constructor
 ·rintro ⟨a, ha, h⟩
  obtain rfl : a = n := by
   have := Array.ext' h
   cases a; cases n; simp_all
  exact ha
 ·exact fun h => ⟨n, h, rfl⟩
theorem goodN_snoc (l : List ByteArray) (n : ByteArray) : goodN (l ++ [n]) = true ↔ goodN l = true /\ badF n = n.size /\ n ∉ l := by
 unfold goodN
 simp only [List.all_append, List.all_cons, List.all_nil, Bool.and_true, Bool.and_eq_true, decide_eq_true_eq, List.nodup_append, List.nodup_cons, List.mem_singleton, List.not_mem_nil, not_false_eq_true, List.nodup_nil, and_true, true_and, beq_iff_eq]
 constructor
 ·rintro ⟨⟨a, b⟩, c, d⟩
  exact ⟨⟨a, c⟩, b, fun h => d n h n rfl rfl⟩
 ·rintro ⟨⟨a, c⟩, b, d⟩
  exact ⟨⟨a, b⟩, c, fun x hx y hy => by subst hy; exact fun e => d (e ▸ hx)⟩
theorem goodN_left (a b : List ByteArray) (h : goodN a = false) : goodN (a ++ b) = false := by
 cases e : goodN (a ++ b) with
 | false => rfl
 | true =>
   unfold goodN at e h
   rw [List.all_append, Bool.and_eq_true, Bool.and_eq_true, decide_eq_true_eq, List.nodup_append] at e
   rw [e.1.1, decide_eq_true e.2.1] at h
   cases h
theorem take_split {α : Type} {l : List α} {k : Nat} {x : α} (h : l[k]? = some x) : l.take (k + 1) = l.take k ++ [x] := by
 rw [List.take_add_one, h]; rfl
theorem names_any (p : Option Addr) (n c : Nat) (rms : List RM) (w : World) (hm : Rd w w.heap.size encM 6 (.slice p n c) rms) (hs : ∀ (i : Nat) q, rms[i]? = some q -> q.name.size <= maxLen) (hn : n <= 1466015503658) :
 Calls Tryz.prog 136 #[.slice p n c] w fun e w' => e = .returned (.bool (goodN (rms.map (·.name)))) /\ Below w.heap.size w w' := by
 have eM := rd_nlen hm
 have HM := Lib.hid hm
 have HZ := Lib.hid hs
 have E2 := Lib.hid eM
 have hM0 : Hid (MapF (w.alloc (.map #[] 0)) Tryz.prog 9 w.heap.size 0 (nameF [])) := MapF.made w Tryz.prog 9
 have hB0 : Below w.heap.size w (w.alloc (.map #[] 0)) := (Below.refl _ _).alloc (Nat.le_refl _) _
 clear hm hs eM
 go_enter Tryz.func136, Tryz.ntmps136
 have hmm := @run_makeMap Tryz.prog
 go_upto_region 2 with fail
 clear hmm
 obtain ⟨W0, hW0⟩ : ∃ W, w.alloc (.map #[] 0) = W := ⟨_, rfl⟩
 rw [hW0] at hM0 hB0 ⊢
 clear hW0
 go_wp2_with fail
 go_loopw [9] (fun i wr => ∃ k : Nat, k <= n /\ i = .int .i64 k /\ Hid (MapF wr Tryz.prog 9 w.heap.size k (nameF ((rms.take k).map (·.name)))) /\ Hid (goodN ((rms.take k).map (·.name)) = true) /\ Below w.heap.size w wr) (fun i _ => n - (intOf i).toNat)
 case atStart => exact ⟨0, Nat.zero_le _, rfl, hM0, rfl, hB0⟩
 case round =>
  obtain ⟨k, hk, rfl, hMF, hgd, hbr⟩ := hrel
  by_cases hlt : k < n
  ·obtain ⟨x, hx⟩ : ∃ x, rms[k]? = some x := ⟨_, List.getElem?_eq_getElem (by have := E2.out; omega)⟩
   obtain ⟨b1, o1, rfl, hb1, hc1⟩ := rd_at' (HM.out.below hbr (Nat.le_refl _)) hx
   have f0 := hc1 0 _ rfl
   have f1 := hc1 1 _ rfl
   have f2 := hc1 2 _ rfl
   have f3 := hc1 3 _ rfl
   have f4 := hc1 4 _ rfl
   have f5 := hc1 5 _ rfl
   rw [Nat.add_zero] at f0
   have HX := Lib.hid hx
   have hzx := HZ.out k x hx
   have hz := hbr.size
   have HBR : Hid (Below w.heap.size w (wr.alloc (.cells #[.string x.name, .int .i64 x.v.k, .int .i64 x.v.n, .string x.v.s, .slice x.v.pl x.v.nl x.v.cl, .slice x.v.pm x.v.nm x.v.cm] 32))) := hbr.alloc hz _
   have HMA : ∀ m, Hid (MapF ((wr.alloc (.cells #[.string x.name, .int .i64 x.v.k, .int .i64 x.v.n, .string x.v.s, .slice x.v.pl x.v.nl x.v.cl, .slice x.v.pm x.v.nm x.v.cm] 32)).drewN m) Tryz.prog 9 w.heap.size k (nameF ((rms.take k).map (·.name)))) := fun m => MapF.of_block (hMF.out.alloc _) rfl
   have hk0 : (0 : Int) <= (k : Int) := Int.natCast_nonneg _
   have hk1 : (k : Int) < (n : Int) := by omega
   have hlk := fun m => (HMA m).out.look Tryz.underlying9 Tryz.underlying152 (Tryz.zeroValue4 _) hzx
   clear hc1 hx hbr hMF
   have HSP := Lib.hid (take_split HX.out)
   have hBad : ∀ W, Calls Tryz.prog 135 #[.string x.name] W fun e w' => e = .returned (.int .i64 (badF x.name : Nat)) /\ w' = W := fun W => (bad_any x.name W hzx).mono fun e w' h => ⟨h.1, h.2.symm⟩
   have HBAD := Lib.hid hBad
   have hble := badF_le x.name
   unfold maxLen at hzx
   clear hBad
   by_cases hin : x.name ∈ (rms.take k).map (·.name)
   ·have HR : Hid (goodN (rms.map (·.name)) = false) := by
     have h : goodN ((rms.take (k + 1)).map (·.name)) = false := by
      rw [HSP.out, List.map_append, List.map_singleton]
      cases e : goodN ((rms.take k).map (·.name) ++ [x.name]) with
      | false => rfl
      | true => exact absurd hin ((goodN_snoc _ _).1 e).2.2
     have h2 := goodN_left _ ((rms.drop (k + 1)).map (·.name)) h
     rw [<- List.map_append, List.take_append_drop] at h2
     exact h2
    have hv : (nameF ((rms.take k).map (·.name)) x.name.data.toList).getD (.bool false) = .bool true := by unfold nameF; rw [if_pos ((mem_bytes _ _).2 hin)]; rfl
    rw [hv] at hlk
    clear hv hin HMA
    go_wp2_with fail
    go_quiet (fail)
    go_wp2_with fail
    go_ret
    exact ⟨ret_boolU HR.out.symm, bdn HBR.out _⟩
   ·have hv : (nameF ((rms.take k).map (·.name)) x.name.data.toList).getD (.bool false) = .bool false := by unfold nameF; rw [if_neg (fun h => hin ((mem_bytes _ _).1 h))]; rfl
    rw [hv] at hlk
    have HIN := Lib.hid hin
    clear hv hin
    by_cases hbd : badF x.name = x.name.size
    ·have HBD := Lib.hid hbd
     have q1 : ((badF x.name : Int) != (x.name.size : Int)) = false := by simp; omega
     have HG : Hid (goodN ((rms.take (k + 1)).map (·.name)) = true) := by
      unfold Hid
      rw [HSP.out, List.map_append, List.map_singleton]
      exact (goodN_snoc _ _).2 ⟨hgd.out, HBD.out, HIN.out⟩
     clear hbd
     go_wp2_with fail
     go_quiet ((go_at_call 135; exact Calls.quiet_of_same (HBAD.out _)))
     have HMQ := Lib.hid (HMA nq).out
     have HMK := Lib.hid (hzx : x.name.size <= maxLen)
     have HZ0 := Lib.hid hz
     clear hlk HMA q1
     go_wp2_with (at_mapUpdate; refine wpList_store_F _ rfl _ _ _ _ rfl 9 4 Tryz.underlying9 Tryz.underlying152 _ k _ rfl HMQ.out (by unfold maxLen; omega) x.name rfl HMK.out (.bool true) rfl ?_; intro w1 hM1 hG1; go_frame)
     go_roundw
     case rel =>
      refine ⟨k + 1, by omega, by go_num, ?_, HG, (bdn HBR.out nq).grown hG1 (by have := HZ0.out; simp; omega) (fun a e => by cases e; exact Nat.le_refl _)⟩
      unfold Hid
      rw [HSP.out, List.map_append, List.map_singleton, nameF_snoc]
      exact hM1
     case measure => simp [intOf]; omega
    ·have HR : Hid (goodN (rms.map (·.name)) = false) := by
      have h : goodN ((rms.take (k + 1)).map (·.name)) = false := by
       rw [HSP.out, List.map_append, List.map_singleton]
       cases e : goodN ((rms.take k).map (·.name) ++ [x.name]) with
       | false => rfl
       | true => exact absurd ((goodN_snoc _ _).1 e).2.1 hbd
      have h2 := goodN_left _ ((rms.drop (k + 1)).map (·.name)) h
      rw [<- List.map_append, List.take_append_drop] at h2
      exact h2
     have q1 : ((badF x.name : Int) != (x.name.size : Int)) = true := by simp; omega
     clear hbd
     go_wp2_with fail
     go_quiet ((go_at_call 135; exact Calls.quiet_of_same (HBAD.out _)))
     go_wp2_with fail
     go_ret
     exact ⟨ret_boolU HR.out.symm, bdn HBR.out _⟩
  ·obtain rfl : k = n := by omega
   go_wp2_with fail
   go_ret
   refine ⟨ret_boolU ?_, hbr⟩
   have h := hgd.out
   rw [List.take_of_length_le (by have := E2.out; omega)] at h
   exact h.symm
def bareB (k n : Int) (s : ByteArray) (nl nm : Nat) : Bool := (n == 0 || k == 2 || k == 3) && (s.toList.isEmpty || k == 4) && (nl == 0 || k == 5) && (nm == 0 || k == 6)
theorem nat_beq0 (n : Nat) : ((n : Int) == 0) = (n == 0) := by rw [Bool.eq_iff_iff]; simp
theorem bare_any (r : RV) (w : World) :
 Calls Tryz.prog 134 #[r.val] w fun e w' => e = .returned (.bool (bareB r.k r.n r.s r.nl r.nm)) /\ Below w.heap.size w w' := by
 obtain ⟨k, n, s, pl, nl, cl, pm, nm, cm⟩ := r
 dsimp only [RV.val] at *
 have hA0 : VAt (w.alloc (.cells #[.int .i64 k, .int .i64 n, .string s, .slice pl nl cl, .slice pm nm cm] 25)) w.heap.size ⟨k, n, s, pl, nl, cl, pm, nm, cm⟩ := heap_alloc_at rfl
 have hB0 : Below w.heap.size w (w.alloc (.cells #[.int .i64 k, .int .i64 n, .string s, .slice pl nl cl, .slice pm nm cm] 25)) := (Below.refl _ _).alloc (Nat.le_refl _) _
 go_enter Tryz.func134, Tryz.ntmps134
 go_upto_region 1 with fail
 obtain ⟨W0, hW0⟩ : ∃ W0, (w.alloc (.cells #[.int .i64 k, .int .i64 n, .string s, .slice pl nl cl, .slice pm nm cm] 25)) = W0 := ⟨_, rfl⟩
 rw [hW0] at hA0 hB0 ⊢
 clear hW0
 obtain ⟨c0, c1, c2, c3, c4⟩ := hA0.cells5
 dsimp only at c0 c1 c2 c3 c4
 have HB := Lib.hid hB0
 clear hA0 hB0
 go_wp2_with fail
 all_goals go_ret
 all_goals refine ⟨ret_boolU ?_, HB.out⟩
 all_goals unfold bareB
 all_goals simp [*, nat_beq0]
def rightP (k n : Int) (s : ByteArray) (nl : Nat) (names : List ByteArray) : Bool :=
 decide (1 <= k) && decide (k <= 6) && bareB k n s nl names.length && badF s == s.size && (k != 2 || (n == 0 || n == 1)) && (k != 3 || (decide (-9007199254740991 <= n) && decide (n <= 9007199254740991))) && (k != 6 || (decide (8192 < names.length) || goodN names))
theorem rightV_any (r : RV) (rms : List RM) (w : World) (hm : Rd w w.heap.size encM 6 (.slice r.pm r.nm r.cm) rms) (hs : ∀ (i : Nat) q, rms[i]? = some q -> q.name.size <= maxLen) (hn : r.nm <= 1466015503658) (hss : r.s.size <= maxLen) :
 Calls Tryz.prog 101 #[r.val] w fun e w' => e = .returned (.bool (rightP r.k r.n r.s r.nl (rms.map (·.name)))) /\ Below w.heap.size w w' := by
 obtain ⟨k, n, s, pl, nl, cl, pm, nm, cm⟩ := r
 dsimp only [RV.val] at *
 have hA0 : VAt (w.alloc (.cells #[.int .i64 k, .int .i64 n, .string s, .slice pl nl cl, .slice pm nm cm] 25)) w.heap.size ⟨k, n, s, pl, nl, cl, pm, nm, cm⟩ := heap_alloc_at rfl
 have hB0 : Below w.heap.size w (w.alloc (.cells #[.int .i64 k, .int .i64 n, .string s, .slice pl nl cl, .slice pm nm cm] 25)) := (Below.refl _ _).alloc (Nat.le_refl _) _
 have hbare : ∀ w : World, Calls Tryz.prog 134 #[.agg #[.int .i64 k, .int .i64 n, .string s, .slice pl nl cl, .slice pm nm cm]] w fun e w' => e = .returned (.bool (bareB k n s nl nm)) /\ Below w.heap.size w w' := fun w => bare_any ⟨k, n, s, pl, nl, cl, pm, nm, cm⟩ w
 have hbad : ∀ w : World, Calls Tryz.prog 135 #[.string s] w fun e w' => e = .returned (.int .i64 (badF s : Nat)) /\ w = w' := fun w => bad_any s w hss
 have hnames : ∀ W : World, Below w.heap.size w W -> Calls Tryz.prog 136 #[.slice pm nm cm] W fun e w' => e = .returned (.bool (goodN (rms.map (·.name)))) /\ Below W.heap.size W w' := fun W hb => names_any pm nm cm rms W (hm.below hb hb.size) hs hn
 have elen := rd_nlen hm
 have hble := badF_le s
 unfold maxLen at hss
 have HBARE := Lib.hid hbare
 have HBAD := Lib.hid hbad
 have HNAM := Lib.hid hnames
 have HB := Lib.hid hB0
 have HE := Lib.hid elen
 clear hbare hbad hnames elen hm hs
 go_enter Tryz.func101, Tryz.ntmps101
 go_upto_region 1 with fail
 obtain ⟨W0, hW0⟩ : ∃ W0, (w.alloc (.cells #[.int .i64 k, .int .i64 n, .string s, .slice pl nl cl, .slice pm nm cm] 25)) = W0 := ⟨_, rfl⟩
 rw [hW0] at hA0 hB0 HB ⊢
 have hz : w.heap.size < W0.heap.size := by rw [<- hW0]; simp
 clear hW0
 generalize hbb : bareB k n s nl nm = bb at HBARE
 have HBB := Lib.hid hbb
 clear hbb
 obtain ⟨c0, c1, c2, c3, c4⟩ := hA0.cells5
 dsimp only at c0 c1 c2 c3 c4
 have HA := Lib.hid hA0
 clear hA0 hB0
 by_cases h1 : k < 1
 ·have hd1 : decide (k < 1) = true := by simpa using h1
  have HR : Hid (rightP k n s nl (rms.map (·.name)) = false) := by
   have e : decide (1 <= k) = false := by simp; omega
   unfold Hid rightP; rw [e]; simp
  go_quiet (fail)
  go_wp2_with fail
  go_ret
  exact ⟨ret_boolU HR.out.symm, bdn HB.out _⟩
 ·have hd1 : decide (k < 1) = false := by simpa using h1
  by_cases h2 : 6 < k
  ·have hd2 : decide (6 < k) = true := by simpa using h2
   have HR : Hid (rightP k n s nl (rms.map (·.name)) = false) := by
    have e : decide (k <= 6) = false := by simp; omega
    unfold Hid rightP; rw [e]; simp
   go_quiet (fail)
   go_wp2_with fail
   go_ret
   exact ⟨ret_boolU HR.out.symm, bdn HB.out _⟩
  ·have hd2 : decide (6 < k) = false := by simpa using h2
   have hzz := hz
   cases bb with
   | false =>
     have HR : Hid (rightP k n s nl (rms.map (·.name)) = false) := by
      have e : bareB k n s nl (rms.map (·.name)).length = false := by rw [List.length_map, <- HE.out]; exact HBB.out
      unfold Hid rightP; rw [e]; simp
     first
      | (go_region_with ((go_at_call 134; refine (HBARE.out _).mono ?_; rintro e w1 ⟨rfl, hb0⟩)))
      | fail
     all_goals go_wp2_with fail
     all_goals go_ret
     all_goals exact ⟨ret_boolU HR.out.symm, HB.out.trans (Below.mono (Below.trans (by first | exact Below.refl _ _ | exact (Below.refl _ _).drew) hb0) (Nat.le_of_lt hz))⟩
   | true =>
     cases hbs : badF s == s.size with
     | false =>
       have hq : ((badF s : Int) != (s.size : Int)) = true := by simp at hbs; simp; omega
       have HR : Hid (rightP k n s nl (rms.map (·.name)) = false) := by
        unfold Hid rightP; rw [hbs]; simp
       clear hbs
       first
        | (go_region_held3 (fun w' => Below W0.heap.size W0 w' /\ ∀ b o, b < W0.heap.size -> w'.cell? ⟨b, o, none⟩ = W0.cell? ⟨b, o, none⟩)
         (first | exact KB.drew W0 | exact hbk)
         (first
          | (go_at_call 134; refine (HBARE.out _).mono ?_; rintro e w1 ⟨rfl, hb0⟩; have hbk := KB.step (W := W0) (by assumption) hb0)
          | (go_at_call 135; refine (HBAD.out _).mono ?_; rintro e w1 ⟨rfl, rfl⟩)))
        | fail
       rename (Below W0.heap.size W0 _ /\ _) => hkb
       go_wp2_with fail
       go_ret
       exact ⟨ret_boolU HR.out.symm, HB.out.trans (hkb.1.mono (Nat.le_of_lt hz))⟩
     | true =>
       have hq : ((badF s : Int) != (s.size : Int)) = false := by simp at hbs; simp; omega
       generalize hgg : goodN (rms.map (·.name)) = gb at HNAM
       have HR : Hid (rightP k n s nl (rms.map (·.name)) = ((k != 2 || (n == 0 || n == 1)) && (k != 3 || (decide (-9007199254740991 <= n) && decide (n <= 9007199254740991))) && (k != 6 || (decide (8192 < (nm : Int)) || gb)))) := by
        have e : bareB k n s nl (rms.map (·.name)).length = true := by rw [List.length_map, <- HE.out]; exact HBB.out
        have e1 : decide (1 <= k) = true := by simp; omega
        have e2 : decide (k <= 6) = true := by simp; omega
        unfold Hid rightP
        have e3 : decide (8192 < nm) = decide (8192 < (nm : Int)) := by rw [decide_eq_decide]; omega
        rw [hbs, e, e1, e2, hgg, List.length_map, <- HE.out, e3]; simp
       clear hbs hgg
       first
        | (go_region_held3 (fun w' => Below W0.heap.size W0 w' /\ ∀ b o, b < W0.heap.size -> w'.cell? ⟨b, o, none⟩ = W0.cell? ⟨b, o, none⟩)
         (first | exact KB.drew W0 | exact hbk)
         (first
          | (go_at_call 134; refine (HBARE.out _).mono ?_; rintro e w1 ⟨rfl, hb0⟩; have hbk := KB.step (W := W0) (by assumption) hb0)
          | (go_at_call 135; refine (HBAD.out _).mono ?_; rintro e w1 ⟨rfl, rfl⟩)))
        | fail
       rename (Below W0.heap.size W0 _ /\ _) => hkb
       have HK := Lib.hid (HB.out.trans (hkb.1.mono (Nat.le_of_lt hz)))
       have hE : ∀ w', Below W0.heap.size W0 w' -> Below w.heap.size w w' := fun w' h => HB.out.trans (h.mono (Nat.le_of_lt hz))
       have HX := Lib.hid hE
       clear hE
       go_wp2_with (go_at_call 136; refine (HNAM.out _ HK.out).mono ?_; rintro e w2 ⟨rfl, hb2⟩; have HK2 := Lib.hid (HK.out.trans (hb2.mono HK.out.size)))
       all_goals go_ret
       all_goals refine ⟨ret_boolU ?_, by first | exact HK2.out | exact HK.out⟩
       all_goals rw [HR.out]
       all_goals clear HR HBARE HBB HBAD HNAM HX HK
       all_goals simp_all
       all_goals omega
mutual
def countT : JV -> Nat
 | .mk _ _ _ l m => 1 + countL l + countM m
def countL : List JV -> Nat
 | [] => 0
 | t :: l => countT t + countL l
def countM : List (ByteArray × JV) -> Nat
 | [] => 0
 | (_, t) :: m => countT t + countM m
end
theorem countL_take {l : List JV} {j : Nat} {t : JV} (h : l[j]? = some t) : countL (l.take (j + 1)) = countL (l.take j) + countT t := by
 induction l generalizing j with
 | nil => simp at h
 | cons a l ih =>
   cases j with
   | zero =>
     simp at h
     subst h
     simp [countL]
   | succ j =>
     rw [List.getElem?_cons_succ] at h
     rw [List.take_succ_cons, List.take_succ_cons]
     unfold countL
     rw [ih h]
     omega
theorem countM_take {m : List (ByteArray × JV)} {j : Nat} {p : ByteArray × JV} (h : m[j]? = some p) : countM (m.take (j + 1)) = countM (m.take j) + countT p.2 := by
 induction m generalizing j with
 | nil => simp at h
 | cons a m ih =>
   obtain ⟨a, b⟩ := a
   cases j with
   | zero =>
     simp at h
     subst h
     simp [countM]
   | succ j =>
     rw [List.getElem?_cons_succ] at h
     rw [List.take_succ_cons, List.take_succ_cons]
     unfold countM
     rw [ih h]
     omega
def CountRet (w : World) (t : JV) (e : Ending) (w' : World) : Prop := e = .returned (.int .i64 (IntKind.i64.wrap (countT t))) /\ Below w.heap.size w w'
theorem wrap_step (a b c : Int) (h : a + b = c) : wrap64 (IntKind.i64.wrap a + wrap64 b) = IntKind.i64.wrap c := by
 subst h
 rw [IntKind.wrap_i64, IntKind.wrap_i64]
 unfold wrap64
 omega
theorem countT_any (N : Nat) : ∀ (t : JV) (r : RV) (w : World), SizeOf.sizeOf t <= N -> TreeOf w w.heap.size t r -> t.Ok ->
 Calls Tryz.prog 28 #[r.val] w (CountRet w t) := by
 induction N with
 | zero => intro t r w hN; cases t; simp at hN
 | succ N ih =>
   intro t r w hN ht ot
   cases ht with
   | @mk _ l m rs rms hl el hcl hm em hcn hcm =>
   obtain ⟨k, n, s, pl, nl, cl, pm, nm, cm⟩ := r
   cases ot with
   | mk _ _ _ bl bm okl oks okm =>
   dsimp only [RV.val] at *
   have eL := rd_nlen hl
   have eM := rd_nlen hm
   have HT : Hid (∀ (i : Nat) t q, l[i]? = some t -> rs[i]? = some q -> ∀ W, Below w.heap.size w W -> Calls Tryz.prog 28 #[q.val] W (CountRet W t)) :=
    fun i t q h1 h2 W hb => ih t q W (by have := JV.lt_l (k := k) (n := n) (s := s) (m := m) h1; omega) ((hcl i t q h1 h2).under hb hb.size) (okl i t h1)
   have HS : Hid (∀ (i : Nat) p q, m[i]? = some p -> rms[i]? = some q -> ∀ W, Below w.heap.size w W -> Calls Tryz.prog 28 #[q.v.val] W (CountRet W p.2)) :=
    fun i p q h1 h2 W hb => ih p.2 q.v W (by have := JV.lt_m (k := k) (n := n) (s := s) (l := l) h1; omega) ((hcm i p q h1 h2).under hb hb.size) (okm i p h1)
   have HL := Lib.hid hl
   have HM := Lib.hid hm
   have E1 : Hid (l.length = nl /\ rs.length = nl) := ⟨by omega, by omega⟩
   have E2 : Hid (m.length = nm /\ rms.length = nm) := ⟨by omega, by omega⟩
   have hnl : nl <= 1759218604390 := by omega
   have hnm : nm <= 1466015503658 := by omega
   have hA0 : VAt (w.alloc (.cells #[.int .i64 k, .int .i64 n, .string s, .slice pl nl cl, .slice pm nm cm] 25)) w.heap.size ⟨k, n, s, pl, nl, cl, pm, nm, cm⟩ := heap_alloc_at rfl
   have hB0 : Below w.heap.size w (w.alloc (.cells #[.int .i64 k, .int .i64 n, .string s, .slice pl nl cl, .slice pm nm cm] 25)) := (Below.refl _ _).alloc (Nat.le_refl _) _
   clear ih hcl hcn hcm hl hm okl oks okm el em bl bm eL eM hN
   go_enter Tryz.func28, Tryz.ntmps28
   go_upto_region 1 with fail
   obtain ⟨W0, hW0⟩ : ∃ W0, (w.alloc (.cells #[.int .i64 k, .int .i64 n, .string s, .slice pl nl cl, .slice pm nm cm] 25)) = W0 := ⟨_, rfl⟩
   rw [hW0] at hA0 hB0 ⊢
   clear hW0
   have hz := hA0.lt
   have c3 := hA0.cell 3 rfl
   have c4 := hA0.cell 4 rfl
   dsimp only at c3 c4
   clear hA0
   go_wp2_with fail
   go_loopw [3, 11] (fun a i wr => ∃ (g : Int) (j : Nat), j <= nl /\ a = .int .i64 g /\ i = .int .i64 j /\ Hid (g = IntKind.i64.wrap ((1 + countL (l.take j) : Nat) : Int)) /\ Below W0.heap.size W0 wr) (fun _ i _ => nl - (intOf i).toNat)
   case atStart => exact ⟨1, 0, Nat.zero_le _, rfl, rfl, by unfold Hid; simp [countL]; decide, Below.refl _ _⟩
   case round =>
    obtain ⟨g, j, hj, rfl, rfl, hg, hbr⟩ := hrel
    have hbw : Below w.heap.size w wr := hB0.trans (hbr.mono hB0.size)
    by_cases hlt : j < nl
    ·obtain ⟨tx, htx⟩ : ∃ x, l[j]? = some x := ⟨_, List.getElem?_eq_getElem (by have := E1.out; omega)⟩
     obtain ⟨x, hx⟩ : ∃ x, rs[j]? = some x := ⟨_, List.getElem?_eq_getElem (by have := E1.out; omega)⟩
     obtain ⟨b1, o1, rfl, hb1, hc1⟩ := rd_at' (HL.out.below hbw (Nat.le_refl _)) hx
     have f0 := hc1 0 _ rfl
     have f1 := hc1 1 _ rfl
     have f2 := hc1 2 _ rfl
     have f3 := hc1 3 _ rfl
     have f4 := hc1 4 _ rfl
     rw [Nat.add_zero] at f0
     have HC := Lib.hid (HT.out j tx x htx hx)
     have HTX := Lib.hid (countL_take htx)
     have hk0 : (0 : Int) <= (j : Int) := Int.natCast_nonneg _
     have hk1 : (j : Int) < (nl : Int) := by omega
     have HBR := Lib.hid hbr
     have hbx : Below w.heap.size w (wr.alloc (.cells #[.int .i64 x.k, .int .i64 x.n, .string x.s, .slice x.pl x.nl x.cl, .slice x.pm x.nm x.cm] 25)) := hbw.alloc hbw.size _
     have HBX := Lib.hid hbx
     clear hc1 htx hx hbr hbx
     go_wp2_with (go_at_call 28; refine (HC.out _ HBX.out).mono ?_; rintro e w1 ⟨rfl, hb1'⟩)
     go_roundw
     case rel =>
      refine ⟨_, j + 1, by omega, rfl, by go_num, ?_, (HBR.out.alloc HBR.out.size _).trans (hb1'.mono (by have := HBR.out.size; simp; omega))⟩
      unfold Hid
      rw [HTX.out, hg.out]
      exact wrap_step _ _ _ (by omega)
     case measure => simp [intOf]; omega
    ·obtain rfl : j = nl := by omega
     have c4 := bcs hbr hz c4
     have hsz : W0.heap.size <= wr.heap.size := hbr.size
     have hg2 : Hid (g = IntKind.i64.wrap ((1 + countL l : Nat) : Int)) := by
      have h := hg.out
      rw [List.take_of_length_le (by have := E1.out; omega)] at h
      exact h
     clear HT HL E1 hbr hg c3
     obtain ⟨wo, rfl⟩ : ∃ wo : World, wo = wr := ⟨_, rfl⟩
     go_wp2_with fail
     go_loopw [3, 23] (fun a i wr => ∃ (g : Int) (j : Nat), j <= nm /\ a = .int .i64 g /\ i = .int .i64 j /\ Hid (g = IntKind.i64.wrap ((1 + countL l + countM (m.take j) : Nat) : Int)) /\ Below wo.heap.size wo wr) (fun _ i _ => nm - (intOf i).toNat)
     case atStart => exact ⟨g, 0, Nat.zero_le _, rfl, rfl, by unfold Hid; simpa [countM] using hg2.out, Below.refl _ _⟩
     case round =>
      obtain ⟨g, j, hj, rfl, rfl, hg, hbr⟩ := hrel
      have hbw2 : Below w.heap.size w wr := hbw.trans (hbr.mono (by omega))
      by_cases hlt : j < nm
      ·obtain ⟨tx, htx⟩ : ∃ x, m[j]? = some x := ⟨_, List.getElem?_eq_getElem (by have := E2.out; omega)⟩
       obtain ⟨x, hx⟩ : ∃ x, rms[j]? = some x := ⟨_, List.getElem?_eq_getElem (by have := E2.out; omega)⟩
       obtain ⟨b1, o1, rfl, hb1, hc1⟩ := rd_at' (HM.out.below hbw2 (Nat.le_refl _)) hx
       have f0 := hc1 0 _ rfl
       have f1 := hc1 1 _ rfl
       have f2 := hc1 2 _ rfl
       have f3 := hc1 3 _ rfl
       have f4 := hc1 4 _ rfl
       have f5 := hc1 5 _ rfl
       rw [Nat.add_zero] at f0
       have HC := Lib.hid (HS.out j tx x htx hx)
       have HTX := Lib.hid (countM_take htx)
       have hk0 : (0 : Int) <= (j : Int) := Int.natCast_nonneg _
       have hk1 : (j : Int) < (nm : Int) := by omega
       have HBR := Lib.hid hbr
       have hbx : Below w.heap.size w (wr.alloc (.cells #[.string x.name, .int .i64 x.v.k, .int .i64 x.v.n, .string x.v.s, .slice x.v.pl x.v.nl x.v.cl, .slice x.v.pm x.v.nm x.v.cm] 32)) := hbw2.alloc hbw2.size _
       have HBX := Lib.hid hbx
       clear hc1 htx hx hbr hbx
       go_wp2_with (go_at_call 28; refine (HC.out _ HBX.out).mono ?_; rintro e w1 ⟨rfl, hb1'⟩)
       go_roundw
       case rel =>
        refine ⟨_, j + 1, by omega, rfl, by go_num, ?_, (HBR.out.alloc HBR.out.size _).trans (hb1'.mono (by have := HBR.out.size; simp; omega))⟩
        unfold Hid
        rw [HTX.out, hg.out]
        exact wrap_step _ _ _ (by omega)
       case measure => simp [intOf]; omega
      ·obtain rfl : j = nm := by omega
       go_wp2_with fail
       go_ret
       refine ⟨?_, hbw2⟩
       have h := hg.out
       rw [List.take_of_length_le (by have := E2.out; omega)] at h
       show Ending.returned (.int .i64 g) = _
       rw [h]
       unfold countT
       rfl
mutual
def chkT : JV -> Nat -> Nat -> Int × Nat
 | .mk k n s l m, d, p => if 16 < d then (51, p) else if 8192 < p + 1 then (53, p + 1) else if rightP k n s l.length (m.map (·.1)) = false then (1, p + 1) else
  if (chkL l (d + 1) (p + 1)).1 ≠ 0 then chkL l (d + 1) (p + 1) else chkM m (d + 1) (chkL l (d + 1) (p + 1)).2
def chkL : List JV -> Nat -> Nat -> Int × Nat
 | [], _, p => (0, p)
 | t :: l, d, p => if (chkT t d p).1 ≠ 0 then chkT t d p else chkL l d (chkT t d p).2
def chkM : List (ByteArray × JV) -> Nat -> Nat -> Int × Nat
 | [], _, p => (0, p)
 | (_, t) :: m, d, p => if (chkT t d p).1 ≠ 0 then chkT t d p else chkM m d (chkT t d p).2
end
theorem chkL_step {l : List JV} {j : Nat} {t : JV} (h : l[j]? = some t) (d p : Nat) : chkL (l.drop j) d p = if (chkT t d p).1 ≠ 0 then chkT t d p else chkL (l.drop (j + 1)) d (chkT t d p).2 := by
 obtain ⟨hj, rfl⟩ := List.getElem?_eq_some_iff.1 h
 rw [List.drop_eq_getElem_cons hj]
 rfl
theorem chkM_step {m : List (ByteArray × JV)} {j : Nat} {q : ByteArray × JV} (h : m[j]? = some q) (d p : Nat) : chkM (m.drop j) d p = if (chkT q.2 d p).1 ≠ 0 then chkT q.2 d p else chkM (m.drop (j + 1)) d (chkT q.2 d p).2 := by
 obtain ⟨hj, rfl⟩ := List.getElem?_eq_some_iff.1 h
 rw [List.drop_eq_getElem_cons hj]
 rfl
mutual
theorem chkT_ok : ∀ (t : JV) (d p : Nat), (chkT t d p).1 = 0 -> (chkT t d p).2 = p + countT t /\ p + countT t <= 8192
 | .mk k n s l m, d, p, h => by
   unfold chkT at h ⊢
   unfold countT
   split at h
   ·simp at h
   rename_i h1
   rw [if_neg h1]
   split at h
   ·simp at h
   rename_i h2
   rw [if_neg h2]
   split at h
   ·simp at h
   rename_i h3
   rw [if_neg h3]
   split at h
   ·rename_i h4
    exact absurd h h4
   ·rename_i h4
    rw [if_neg h4]
    have hl := chkL_ok l (d + 1) (p + 1) (by simpa using h4) (by omega)
    have hm := chkM_ok m (d + 1) _ h (by omega)
    rw [hm.1, hl.1]
    rw [hl.1] at hm
    omega
theorem chkL_ok : ∀ (l : List JV) (d p : Nat), (chkL l d p).1 = 0 -> p <= 8192 -> (chkL l d p).2 = p + countL l /\ p + countL l <= 8192
 | [], d, p, h, hp => by simp [chkL, countL]; omega
 | t :: l, d, p, h, hp => by
   unfold chkL at h ⊢
   unfold countL
   split at h
   ·rename_i h4
    exact absurd h h4
   ·rename_i h4
    rw [if_neg h4]
    have ht := chkT_ok t d p (by simpa using h4)
    have hl := chkL_ok l d _ h (by omega)
    rw [hl.1, ht.1]
    rw [ht.1] at hl
    omega
theorem chkM_ok : ∀ (m : List (ByteArray × JV)) (d p : Nat), (chkM m d p).1 = 0 -> p <= 8192 -> (chkM m d p).2 = p + countM m /\ p + countM m <= 8192
 | [], d, p, h, hp => by simp [chkM, countM]; omega
 | (_, t) :: l, d, p, h, hp => by
   unfold chkM at h ⊢
   unfold countM
   split at h
   ·rename_i h4
    exact absurd h h4
   ·rename_i h4
    rw [if_neg h4]
    have ht := chkT_ok t d p (by simpa using h4)
    have hl := chkM_ok l d _ h (by omega)
    rw [hl.1, ht.1]
    rw [ht.1] at hl
    omega
end
theorem _root_.Go.RowKit.Below.gb {w w' : World} (h : Below w.heap.size w w') (row : Option Nat) : w.grownBy w' row := ⟨h.os, h.tape, h.output, h.size, fun k hk _ => h.block k hk⟩
def CtAt (W : World) (g p : Nat) : Prop := W.heap[g]? = some (.cells #[.int .i64 p] 87 (0, 0))
theorem CtAt.lt {W : World} {g p : Nat} (h : CtAt W g p) : g < W.heap.size := (Array.getElem?_eq_some_iff.1 h).1
theorem CtAt.cell {W : World} {g p : Nat} (h : CtAt W g p) : W.cell? ⟨g, 0, none⟩ = some (.int .i64 p) := by
 unfold CtAt at h
 rw [cell_of_row W g 0 _ _ _ h]
 rfl
theorem CtAt.frozen {W : World} {g p : Nat} (h : CtAt W g p) : W.frozen? ⟨g, 0, none⟩ = false := by
 unfold CtAt at h
 simp [World.frozen?, h]
theorem CtAt.alloc {W : World} {g p : Nat} (h : CtAt W g p) (o : Obj) : CtAt (W.alloc o) g p := (Below.heap_alloc W o g h.lt).trans h
theorem CtAt.below {W W' : World} {g p : Nat} (h : CtAt W g p) (hb : Below W.heap.size W W') : CtAt W' g p := (hb.block g h.lt).trans h
def ChkRet (w : World) (g : Nat) (r : Int × Nat) (e : Ending) (w' : World) : Prop := e = .returned (.int .i64 r.1) /\ CtAt w' g r.2 /\ w.grownBy w' (some g)
theorem VAt.kept {W W' : World} {g x : Nat} {r : RV} (h : VAt W x r) (hg : W.grownBy W' (some g)) (hne : x ≠ g) : VAt W' x r := (hg.block x h.lt (by simpa using hne)).trans h
theorem chk_any (N : Nat) : ∀ (t : JV) (r : RV) (w : World) (B g d p : Nat), SizeOf.sizeOf t <= N -> TreeOf w B t r -> t.Ok -> B <= g -> CtAt w g p -> p <= 8192 -> d <= 17 ->
 Calls Tryz.prog 68 #[.pointer (some ⟨g, 0, none⟩), r.val, .int .i64 d] w (ChkRet w g (chkT t d p)) := by
 induction N with
 | zero => intro t r w B g d p hN; cases t; simp at hN
 | succ N ih =>
   intro t r w B g d p hN ht ot hBg hc hp hd
   cases ht with
   | @mk _ l m rs rms hl el hcl hm em hcn hcm =>
   obtain ⟨k, n, s, pl, nl, cl, pm, nm, cm⟩ := r
   cases ot with
   | mk _ _ bs bl bm okl oks okm =>
   dsimp only [RV.val] at *
   have eL := rd_nlen hl
   have eM := rd_nlen hm
   have hgw := hc.lt
   have HT : Hid (∀ (i : Nat) t q, l[i]? = some t -> rs[i]? = some q -> ∀ W (d' p' : Nat), w.grownBy W (some g) -> CtAt W g p' -> p' <= 8192 -> d' <= 17 -> Calls Tryz.prog 68 #[.pointer (some ⟨g, 0, none⟩), q.val, .int .i64 d'] W (ChkRet W g (chkT t d' p'))) :=
    fun i t q h1 h2 W d' p' hb hc' hp' hd' => ih t q W B g d' p' (by have := JV.lt_l (k := k) (n := n) (s := s) (m := m) h1; omega) ((hcl i t q h1 h2).under ((Below.refl B w).grown hb (by omega) (fun a e => by cases e; exact hBg)) (Nat.le_refl _)) (okl i t h1) hBg hc' hp' hd'
   have HS : Hid (∀ (i : Nat) q x, m[i]? = some q -> rms[i]? = some x -> ∀ W (d' p' : Nat), w.grownBy W (some g) -> CtAt W g p' -> p' <= 8192 -> d' <= 17 -> Calls Tryz.prog 68 #[.pointer (some ⟨g, 0, none⟩), x.v.val, .int .i64 d'] W (ChkRet W g (chkT q.2 d' p'))) :=
    fun i q x h1 h2 W d' p' hb hc' hp' hd' => ih q.2 x.v W B g d' p' (by have := JV.lt_m (k := k) (n := n) (s := s) (l := l) h1; omega) ((hcm i q x h1 h2).under ((Below.refl B w).grown hb (by omega) (fun a e => by cases e; exact hBg)) (Nat.le_refl _)) (okm i q h1) hBg hc' hp' hd'
   have hnl : nl <= 1759218604390 := by omega
   have hnm : nm <= 1466015503658 := by omega
   have hnames : rms.map (·.name) = m.map (·.1) := by
    apply List.ext_getElem?
    intro i
    rw [List.getElem?_map, List.getElem?_map]
    cases h1 : m[i]? with
    | none =>
      have : rms[i]? = none := by rw [List.getElem?_eq_none_iff] at h1 ⊢; omega
      rw [this]; rfl
    | some a =>
      obtain ⟨b, hb⟩ : ∃ b, rms[i]? = some b := ⟨_, List.getElem?_eq_getElem (by have := (List.getElem?_eq_some_iff.1 h1).1; omega)⟩
      rw [hb]
      simp [hcn i a b h1 hb]
   have hsz : ∀ (i : Nat) q, rms[i]? = some q -> q.name.size <= maxLen := by
    intro i q hq
    obtain ⟨b, hb⟩ : ∃ b, m[i]? = some b := ⟨_, List.getElem?_eq_getElem (by have := (List.getElem?_eq_some_iff.1 hq).1; omega)⟩
    rw [<- hcn i b q hb hq]
    have := oks i b hb
    unfold maxLen; omega
   have hR : ∀ W, Below B w W -> B <= W.heap.size -> Calls Tryz.prog 101 #[.agg #[.int .i64 k, .int .i64 n, .string s, .slice pl nl cl, .slice pm nm cm]] W fun e w' => e = .returned (.bool (rightP k n s l.length (m.map (·.1)))) /\ Below W.heap.size W w' := fun W hb hz => by
    rw [<- hnames, show l.length = nl by omega]
    exact rightV_any ⟨k, n, s, pl, nl, cl, pm, nm, cm⟩ rms W (hm.below hb hz) hsz hnm (by show s.size <= _; unfold maxLen; omega)
   have HR := Lib.hid hR
   have HL := Lib.hid hl
   have HM := Lib.hid hm
   have E1 : Hid (l.length = nl /\ rs.length = nl) := ⟨by omega, by omega⟩
   have E2 : Hid (m.length = nm /\ rms.length = nm) := ⟨by omega, by omega⟩
   have hA0 : VAt (w.alloc (.cells #[.int .i64 k, .int .i64 n, .string s, .slice pl nl cl, .slice pm nm cm] 25)) w.heap.size ⟨k, n, s, pl, nl, cl, pm, nm, cm⟩ := heap_alloc_at rfl
   have hG0 : w.grownBy (w.alloc (.cells #[.int .i64 k, .int .i64 n, .string s, .slice pl nl cl, .slice pm nm cm] 25)) (some g) := World.grownBy_alloc _ _ _
   have hC0 := hc.alloc (.cells #[.int .i64 k, .int .i64 n, .string s, .slice pl nl cl, .slice pm nm cm] 25)
   clear ih hcl hcn hcm hl hm okl oks okm el em bl bm eL eM hN hR hnames hsz hc bs
   by_cases hd16 : 16 < d
   ·have HX : Hid (chkT (.mk k n s l m) d p = (51, p)) := by unfold Hid chkT; rw [if_pos hd16]
    have HC := Lib.hid hC0
    have HG := Lib.hid hG0
    clear hA0 hC0 hG0
    go_enter Tryz.func68, Tryz.ntmps68
    go_wp2_with fail
    go_ret
    exact ⟨ret_int (by rw [HX.out]), by rw [HX.out]; exact HC.out, HG.out⟩
   ·go_enter Tryz.func68, Tryz.ntmps68
    go_upto_region 3 with fail
    obtain ⟨W0, hW0⟩ : ∃ W0, (w.alloc (.cells #[.int .i64 k, .int .i64 n, .string s, .slice pl nl cl, .slice pm nm cm] 25)) = W0 := ⟨_, rfl⟩
    rw [hW0] at hA0 hG0 hC0 ⊢
    clear hW0
    have c0 := hC0.cell
    have c1 := hC0.frozen
    have hA1 : VAt (W0.setCell ⟨g, 0, none⟩ (.int .i64 ((p + 1 : Nat) : Int))) w.heap.size ⟨k, n, s, pl, nl, cl, pm, nm, cm⟩ := hA0.kept (grownBy_set W0 g 0 _) (by omega)
    have hG1 : w.grownBy (W0.setCell ⟨g, 0, none⟩ (.int .i64 ((p + 1 : Nat) : Int))) (some g) := hG0.trans (grownBy_set W0 g 0 _)
    have hC1 : CtAt (W0.setCell ⟨g, 0, none⟩ (.int .i64 ((p + 1 : Nat) : Int))) g (p + 1) := by
     have h := hC0
     unfold CtAt at h ⊢
     simp [World.setCell, Array.getElem?_modify, h]
    have hp0 : (0 : Int) <= (p : Int) := Int.natCast_nonneg _
    have hp1 : (p : Int) <= 8192 := by omega
    have hd0 : (0 : Int) <= (d : Int) := Int.natCast_nonneg _
    have hd1 : (d : Int) <= 16 := by omega
    have hw1 : W0.setCell ⟨g, 0, none⟩ (.int .i64 ((p : Int) + 1)) = W0.setCell ⟨g, 0, none⟩ (.int .i64 ((p + 1 : Nat) : Int)) := by rw [show ((p : Int) + 1) = ((p + 1 : Nat) : Int) by omega]
    go_upto_region 4 with fail
    clear hw1 c0 c1 hA0 hG0 hC0
    obtain ⟨W1, hW1⟩ : ∃ W1, W0.setCell ⟨g, 0, none⟩ (.int .i64 ((p + 1 : Nat) : Int)) = W1 := ⟨_, rfl⟩
    rw [hW1] at hA1 hG1 hC1 ⊢
    clear hW1 W0
    have c0 := hC1.cell
    have HC := Lib.hid hC1
    have HG := Lib.hid hG1
    have HA := Lib.hid hA1
    clear hC1 hG1
    by_cases hp8 : 8192 < p + 1
    ·have HX : Hid (chkT (.mk k n s l m) d p = (53, p + 1)) := by unfold Hid chkT; rw [if_neg hd16, if_pos hp8]
     have hq : decide ((8192 : Int) < ((p + 1 : Nat) : Int)) = true := by simp; omega
     clear hA1
     go_wp2_with fail
     go_ret
     exact ⟨ret_int (by rw [HX.out]), by rw [HX.out]; exact HC.out, HG.out⟩
    ·have hq : decide ((8192 : Int) < ((p + 1 : Nat) : Int)) = false := by simp; omega
     obtain ⟨a0, a1, a2, a3, a4⟩ := hA1.cells5
     dsimp only at a0 a1 a2 a3 a4
     clear hA1
     have hz := HA.out.lt
     have hBW : Below B w W1 := (Below.refl B w).grown HG.out (by omega) (fun a e => by cases e; exact hBg)
     have HR2 := Lib.hid (HR.out W1 hBW (by omega))
     have HBW := Lib.hid hBW
     clear HR hBW
     cases hr : rightP k n s l.length (m.map (·.1)) with
     | false =>
       have HX : Hid (chkT (.mk k n s l m) d p = (1, p + 1)) := by unfold Hid chkT; rw [if_neg hd16, if_neg hp8, if_pos hr]
       rw [hr] at HR2
       clear hr
       go_wp2_with (go_at_call 101; refine HR2.out.mono ?_; rintro e w1 ⟨rfl, hb1⟩)
       go_ret
       exact ⟨ret_int (by rw [HX.out]), by rw [HX.out]; exact HC.out.below hb1, HG.out.trans (hb1.gb _)⟩
     | true =>
       rw [hr] at HR2
       have HX : Hid (chkT (.mk k n s l m) d p = if (chkL l (d + 1) (p + 1)).1 ≠ 0 then chkL l (d + 1) (p + 1) else chkM m (d + 1) (chkL l (d + 1) (p + 1)).2) := by
        unfold Hid; rw [chkT, if_neg hd16, if_neg hp8, if_neg (by rw [hr]; decide)]
       clear hr
       go_upto_region 8 with (go_at_call 101; refine HR2.out.mono ?_; rintro e w1 ⟨rfl, hb1⟩)
       have HA1 := HA.out.under hb1 HA.out.lt
       have HC1 := HC.out.below hb1
       have HG1 := HG.out.trans (hb1.gb _)
       have hz1 := HG1.size
       clear HA HC HG HR2 c0 a0 a1 a2 a3 a4 hb1 HBW hz hp1 hp0
       obtain ⟨W2, hW2⟩ : ∃ W2, w1 = W2 := ⟨_, rfl⟩
       rw [hW2] at HA1 HC1 HG1 hz1 ⊢
       clear hW2 w1
       have HA := Lib.hid HA1
       have HG := Lib.hid HG1
       have hz2 := HA1.lt
       obtain ⟨a0, a1, a2, a3, a4⟩ := HA1.cells5
       dsimp only at a0 a1 a2 a3 a4
       have hp9 : p + 1 <= 8192 := by omega
       clear HA1 HG1 hp8 hd16 hp
       have HGW : Hid (B <= w.heap.size) := by unfold Hid; omega
       have HNE : Hid (w.heap.size ≠ g) := by unfold Hid; omega
       obtain ⟨R1, hR1⟩ : ∃ R, chkL l (d + 1) (p + 1) = R := ⟨_, rfl⟩
       rw [hR1] at HX
       have HR1 := Lib.hid hR1
       clear hR1
       go_wp2_with fail
       go_loopw [33] (fun i wr => ∃ (j q : Nat), j <= nl /\ i = .int .i64 j /\ q <= 8192 /\ CtAt wr g q /\ Hid (chkL (l.drop j) (d + 1) q = R1) /\ Hid (W2.grownBy wr (some g))) (fun i _ => nl - (intOf i).toNat)
       case atStart => exact ⟨0, p + 1, Nat.zero_le _, rfl, hp9, HC1, HR1, World.grownBy.refl _ _⟩
       case round =>
        obtain ⟨j, q, hj, rfl, hq8, hcr, hrr, hgr⟩ := hrel
        have hGw := HG.out.trans hgr.out
        by_cases hlt : j < nl
        ·obtain ⟨tx, htx⟩ : ∃ x, l[j]? = some x := ⟨_, List.getElem?_eq_getElem (by have := E1.out; omega)⟩
         obtain ⟨x, hx⟩ : ∃ x, rs[j]? = some x := ⟨_, List.getElem?_eq_getElem (by have := E1.out; omega)⟩
         have hbw : Below B w wr := (Below.refl B w).grown hGw HGW.out (fun a e => by cases e; exact hBg)
         obtain ⟨b1, o1, rfl, hb1, hc1⟩ := rd_at' (HL.out.below hbw (Nat.le_refl _)) hx
         have f0 := hc1 0 _ rfl
         have f1 := hc1 1 _ rfl
         have f2 := hc1 2 _ rfl
         have f3 := hc1 3 _ rfl
         have f4 := hc1 4 _ rfl
         rw [Nat.add_zero] at f0
         have hst := chkL_step htx (d + 1) q
         rw [hrr.out] at hst
         have hGx : w.grownBy (wr.alloc (.cells #[.int .i64 x.k, .int .i64 x.n, .string x.s, .slice x.pl x.nl x.cl, .slice x.pm x.nm x.cm] 25)) (some g) := hGw.trans (World.grownBy_alloc _ _ _)
         have hH := HT.out j tx x htx hx _ (d + 1) q hGx (hcr.alloc _) hq8 (by omega)
         have HG2 : Hid (W2.grownBy (wr.alloc (.cells #[.int .i64 x.k, .int .i64 x.n, .string x.s, .slice x.pl x.nl x.cl, .slice x.pm x.nm x.cm] 25)) (some g)) := hgr.out.trans (World.grownBy_alloc _ _ _)
         have hk0 : (0 : Int) <= (j : Int) := Int.natCast_nonneg _
         have hk1 : (j : Int) < (nl : Int) := by omega
         have hok := chkT_ok tx (d + 1) q
         generalize chkT tx (d + 1) q = RR at hst hH hok
         obtain ⟨ev, pv⟩ := RR
         dsimp only at hst hok
         have HH := Lib.hid hH
         clear hc1 htx hx hH hGx hbw hGw hcr hrr hgr
         by_cases hev : ev = 0
         ·have hpv : pv <= 8192 := by have := hok hev; omega
          rw [if_neg (by simpa using hev)] at hst
          have HST := Lib.hid hst
          subst hev
          clear hst hok
          go_wp2_with (go_at_call 68; refine HH.out.mono ?_; rintro e w3 ⟨rfl, hc3, hg3⟩; have HG3 := Lib.hid (HG2.out.trans hg3); clear hg3)
          go_roundw
          case rel => exact ⟨j + 1, pv, by omega, by go_num, hpv, hc3, HST.out.symm, HG3⟩
          case measure => simp [intOf]; omega
         ·rw [if_pos (by simpa using hev)] at hst
          have HST := Lib.hid hst
          have hq1 : (ev != 0) = true := by simpa using hev
          have hq2 : (ev == 0) = false := by simpa using hev
          have HXX : Hid (chkT (.mk k n s l m) d p = (ev, pv)) := by
           unfold Hid
           rw [HX.out, HST.out, if_pos (by simpa using hev)]
          clear hst hok hev
          go_wp2_with (go_at_call 68; refine HH.out.mono ?_; rintro e w3 ⟨rfl, hc3, hg3⟩; have HG3 := Lib.hid (HG2.out.trans hg3); clear hg3; have HC3 := Lib.hid hc3; clear hc3)
          go_ret
          exact ⟨ret_int (by rw [HXX.out]), by rw [HXX.out]; exact HC3.out, HG.out.trans HG3.out⟩
        ·obtain rfl : j = nl := by omega
         have hR1 : R1 = (0, q) := by
          have h := hrr.out
          rw [List.drop_of_length_le (by have := E1.out; omega)] at h
          exact h.symm
         have hXX : chkT (.mk k n s l m) d p = chkM m (d + 1) q := by
          rw [HX.out, hR1]; rfl
         clear hR1
         have c4 := (HA.out.kept hgr.out HNE.out).cell 4 rfl
         dsimp only at c4
         clear a0 a1 a2 a3 a4 HX hrr HR1
         obtain ⟨R2, hR2⟩ : ∃ R, chkM m (d + 1) q = R := ⟨_, rfl⟩
         rw [hR2] at hXX
         have HX := Lib.hid hXX
         have HR2 := Lib.hid hR2
         have HG4 := Lib.hid (HG.out.trans hgr.out)
         have hzz : w.heap.size < wr.heap.size := by have := hgr.out.size; omega
         clear hXX hR2 hGw hgr HC1 HT E1 HL
         obtain ⟨W3, hW3⟩ : ∃ W3, wr = W3 := ⟨_, rfl⟩
         rw [hW3] at c4 hcr HG4 hzz ⊢
         clear hW3 wr
         go_wp2_with fail
         go_loopw [49] (fun i wr => ∃ (j q : Nat), j <= nm /\ i = .int .i64 j /\ q <= 8192 /\ CtAt wr g q /\ Hid (chkM (m.drop j) (d + 1) q = R2) /\ Hid (W3.grownBy wr (some g))) (fun i _ => nm - (intOf i).toNat)
         case atStart => exact ⟨0, q, Nat.zero_le _, rfl, hq8, hcr, HR2, World.grownBy.refl _ _⟩
         case round =>
          obtain ⟨j, q, hj, rfl, hq8, hcr, hrr, hgr⟩ := hrel
          have hGw := HG4.out.trans hgr.out
          by_cases hlt : j < nm
          ·obtain ⟨tx, htx⟩ : ∃ x, m[j]? = some x := ⟨_, List.getElem?_eq_getElem (by have := E2.out; omega)⟩
           obtain ⟨x, hx⟩ : ∃ x, rms[j]? = some x := ⟨_, List.getElem?_eq_getElem (by have := E2.out; omega)⟩
           have hbw : Below B w wr := (Below.refl B w).grown hGw HGW.out (fun a e => by cases e; exact hBg)
           obtain ⟨b1, o1, rfl, hb1, hc1⟩ := rd_at' (HM.out.below hbw (Nat.le_refl _)) hx
           have f0 := hc1 0 _ rfl
           have f1 := hc1 1 _ rfl
           have f2 := hc1 2 _ rfl
           have f3 := hc1 3 _ rfl
           have f4 := hc1 4 _ rfl
           have f5 := hc1 5 _ rfl
           rw [Nat.add_zero] at f0
           have hst := chkM_step htx (d + 1) q
           rw [hrr.out] at hst
           have hGx : w.grownBy (wr.alloc (.cells #[.string x.name, .int .i64 x.v.k, .int .i64 x.v.n, .string x.v.s, .slice x.v.pl x.v.nl x.v.cl, .slice x.v.pm x.v.nm x.v.cm] 32)) (some g) := hGw.trans (World.grownBy_alloc _ _ _)
           have hH := HS.out j tx x htx hx _ (d + 1) q hGx (hcr.alloc _) hq8 (by omega)
           have HG2 : Hid (W3.grownBy (wr.alloc (.cells #[.string x.name, .int .i64 x.v.k, .int .i64 x.v.n, .string x.v.s, .slice x.v.pl x.v.nl x.v.cl, .slice x.v.pm x.v.nm x.v.cm] 32)) (some g)) := hgr.out.trans (World.grownBy_alloc _ _ _)
           have hk0 : (0 : Int) <= (j : Int) := Int.natCast_nonneg _
           have hk1 : (j : Int) < (nm : Int) := by omega
           have hok := chkT_ok tx.2 (d + 1) q
           generalize chkT tx.2 (d + 1) q = RR at hst hH hok
           obtain ⟨ev, pv⟩ := RR
           dsimp only at hst hok
           have HH := Lib.hid hH
           clear hc1 htx hx hH hGx hbw hGw hcr hrr hgr
           by_cases hev : ev = 0
           ·have hpv : pv <= 8192 := by have := hok hev; omega
            rw [if_neg (by simpa using hev)] at hst
            have HST := Lib.hid hst
            subst hev
            clear hst hok
            go_wp2_with (go_at_call 68; refine HH.out.mono ?_; rintro e w3 ⟨rfl, hc3, hg3⟩; have HG3 := Lib.hid (HG2.out.trans hg3); clear hg3)
            go_roundw
            case rel => exact ⟨j + 1, pv, by omega, by go_num, hpv, hc3, HST.out.symm, HG3⟩
            case measure => simp [intOf]; omega
           ·rw [if_pos (by simpa using hev)] at hst
            have HST := Lib.hid hst
            have hq1 : (ev != 0) = true := by simpa using hev
            have hq2 : (ev == 0) = false := by simpa using hev
            have HXX : Hid (chkT (.mk k n s l m) d p = (ev, pv)) := by
             unfold Hid
             rw [HX.out, HST.out]
            clear hst hok hev
            go_wp2_with (go_at_call 68; refine HH.out.mono ?_; rintro e w3 ⟨rfl, hc3, hg3⟩; have HG3 := Lib.hid (HG2.out.trans hg3); clear hg3; have HC3 := Lib.hid hc3; clear hc3)
            go_ret
            exact ⟨ret_int (by rw [HXX.out]), by rw [HXX.out]; exact HC3.out, HG4.out.trans HG3.out⟩
          ·obtain rfl : j = nm := by omega
           have HXX : Hid (chkT (.mk k n s l m) d p = (0, q)) := by
            have h := hrr.out
            rw [List.drop_of_length_le (by have := E2.out; omega)] at h
            unfold Hid
            rw [HX.out, <- h]; rfl
           have HC3 := Lib.hid hcr
           clear hcr
           go_wp2_with fail
           go_ret
           exact ⟨ret_int (by rw [HXX.out]), by rw [HXX.out]; exact HC3.out, HG4.out.trans hgr.out⟩
def checkE (t : JV) : Int := (chkT t 1 0).1
theorem check_any (t : JV) (r : RV) (w : World) (ht : TreeOf w w.heap.size t r) (ot : t.Ok) :
 Calls Tryz.prog 33 #[r.val] w fun e w' => e = .returned (.int .i64 (checkE t)) /\ Below w.heap.size w w' := by
 have HT := Lib.hid ht
 have HO := Lib.hid ot
 clear ht ot
 obtain ⟨k, n, s, pl, nl, cl, pm, nm, cm⟩ := r
 dsimp only [RV.val] at *
 have hB0 : Below w.heap.size w ((w.alloc (.cells #[.int .i64 k, .int .i64 n, .string s, .slice pl nl cl, .slice pm nm cm] 25)).alloc (.cells #[.int .i64 0] 87)) := ((Below.refl _ _).alloc (Nat.le_refl _) _).alloc (by simp) _
 have hC : CtAt ((w.alloc (.cells #[.int .i64 k, .int .i64 n, .string s, .slice pl nl cl, .slice pm nm cm] 25)).alloc (.cells #[.int .i64 0] 87)) (w.heap.size + 1) 0 := by
  have := @heap_alloc_at (w.alloc (.cells #[.int .i64 k, .int .i64 n, .string s, .slice pl nl cl, .slice pm nm cm] 25)) (.cells #[.int .i64 0] 87) _ rfl
  simpa [CtAt] using this
 have HH := Lib.hid (chk_any _ t ⟨k, n, s, pl, nl, cl, pm, nm, cm⟩ _ w.heap.size (w.heap.size + 1) 1 0 (Nat.le_refl _) (HT.out.under hB0 (Nat.le_refl _)) HO.out (by omega) hC (by omega) (by omega))
 have HB := Lib.hid hB0
 clear hC hB0
 go_enter Tryz.func33, Tryz.ntmps33
 go_wp2_with (go_at_call 68; refine HH.out.mono ?_; rintro e w3 ⟨rfl, hc3, hg3⟩)
 go_ret
 exact ⟨rfl, HB.out.grown hg3 (by simp; omega) (fun a e => by cases e; omega)⟩
end
end Go.Proofs.YtffhccmppdgmfaaGreatDoor
