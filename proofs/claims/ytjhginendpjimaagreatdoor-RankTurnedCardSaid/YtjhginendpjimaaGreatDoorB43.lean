import Derived.Test.YtjhginendpjimaaGreatDoorB27
import Derived.Test.YtjhginendpjimaaGreatDoorB11
import Derived.Test.YtjhginendpjimaaGreatDoorB41
set_option linter.unusedSimpArgs false
set_option linter.unusedVariables false
set_option maxRecDepth 200000
set_option maxHeartbeats 8000000
namespace Go.Proofs.YtjhginendpjimaaGreatDoor
section
open Go Go.RowKit Go.OpenShut
theorem rd_lenU {α : Type} {enc : α -> List Value} {sz B n c : Nat} {w : World} {p : Option Addr} {l : List α} (h : Rd w B enc sz (.slice p n c) l) : n <= maxLen := by
 obtain ⟨p1, cap, h1, h2, h3, _⟩ := h
 simp only [Value.slice.injEq] at h1
 omega
def Unl (os : List (ByteArray × JV)) : Prop := ∀ (i k : Nat), i < os.length -> k < i -> (os.getD i dO).1 ≠ (os.getD k dO).1
theorem belS {B g o : Nat} {w W : World} (h : Below B w W) (hB : B <= W.heap.size) (hg : B <= g) (v : Value) : Below B w (W.setCell ⟨g, o, none⟩ v) := h.grown (grownBy_set W g o v) hB (fun k e => by cases e; exact hg)
theorem unlike_any (os : List (ByteArray × JV)) (rs : List RM) (p : Option Addr) (no co : Nat) (w : World) (hl : ObjL w w.heap.size os rs (.slice p no co)) :
 Calls Tryz.prog 19 #[.slice p no co] w fun e w' => ∃ b : Bool, e = .returned (.bool b) /\ Hid (b = true -> Unl os) /\ Below w.heap.size w w' := by
 have hnr : no = rs.length := rd_nlen hl.rd
 have hro := hl.len
 have HN : Hid (no = rs.length /\ no = os.length) := ⟨hnr, by omega⟩
 have HM : Hid (∀ i, i < no -> (rs.getD i dRM).name = (os.getD i dO).1) := fun i hi => (hl.obj i (by omega)).1
 have hnb := rd_lenU hl.rd
 have hnb2 : no <= 9223372036854775807 := by unfold maxLen at hnb; omega
 have HRD := Lib.hid hl.rd
 clear hl hnr hro
 go_enter Tryz.func19, Tryz.ntmps19
 go_wp2_with fail
 go_loopw [3] (fun i wr => ∃ k : Nat, k <= no /\ i = .int .i64 (k : Int) /\ Hid (∀ (i j : Nat), i < k -> j < i -> (os.getD i dO).1 ≠ (os.getD j dO).1) /\ Below w.heap.size w wr) (fun i _ => no - (intOf i).toNat)
 case atStart => exact ⟨0, Nat.zero_le _, rfl, fun i j h => by omega, Below.refl _ _⟩
 case round =>
  obtain ⟨k, hk, rfl, HU, hbr⟩ := hrel
  by_cases hlt : k < no
  ·obtain ⟨x, hx⟩ : ∃ x, rs[k]? = some x := ⟨_, List.getElem?_eq_getElem (by have := HN.out; omega)⟩
   have hxn := HM.out k hlt
   rw [getD_at (d := dRM) hx] at hxn
   have HX := Lib.hid (And.intro hx hxn)
   have hk0 : (0 : Int) <= (k : Int) := Int.natCast_nonneg _
   have hk1 : (k : Int) < (no : Int) := by omega
   have HBR := Lib.hid hbr
   clear hx hxn hbr
   go_wp2_with fail
   go_loopw [4] (fun i w2 => ∃ j : Nat, j <= k /\ i = .int .i64 (j : Int) /\ Hid (∀ (i : Nat), i < j -> (os.getD k dO).1 ≠ (os.getD i dO).1) /\ Below w.heap.size w w2) (fun i _ => k - (intOf i).toNat)
   case atStart => exact ⟨0, Nat.zero_le _, rfl, fun i h => by omega, HBR.out⟩
   case round =>
    obtain ⟨j, hj, rfl, HV, hbs⟩ := hrel
    obtain ⟨w5, rfl⟩ : ∃ w5, w5 = wr := ⟨_, rfl⟩
    have hj0 : (0 : Int) <= (j : Int) := Int.natCast_nonneg _
    by_cases hjk : j < k
    ·obtain ⟨y, hy⟩ : ∃ x, rs[j]? = some x := ⟨_, List.getElem?_eq_getElem (by have := HN.out; omega)⟩
     have hyn := HM.out j (by omega)
     rw [getD_at (d := dRM) hy] at hyn
     obtain ⟨b1, o1, hp1, hb1, hc1⟩ := rd_at' (HRD.out.below hbs (Nat.le_refl _)) HX.out.1
     obtain ⟨b2, o2, hp2, hb2, hc2⟩ := rd_at' (HRD.out.below hbs (Nat.le_refl _)) hy
     obtain rfl := hp1
     cases hp2
     have f0 := hc1 0 _ rfl
     have g0 := hc2 0 _ rfl
     rw [Nat.add_zero] at f0 g0
     have hj1 : (j : Int) < (no : Int) := by omega
     have hj2 : (j : Int) < (k : Int) := by omega
     have HBS := Lib.hid hbs
     by_cases he : x.name = y.name
     ·have he1 : (x.name.toList == y.name.toList) = true := by rw [str_beq]; simpa using he
      clear hy hyn hc1 hc2 hbs he
      go_wp2_with fail
      go_region_with fail
      all_goals go_wp2_with fail
      all_goals go_ret
      all_goals exact ⟨false, rfl, (fun h => by cases h), HBS.out.drew⟩
     ·have he1 : (x.name.toList == y.name.toList) = false := by rw [str_beq]; simpa using he
      have HV2 : Hid (∀ (i : Nat), i < j + 1 -> (os.getD k dO).1 ≠ (os.getD i dO).1) := fun i hi => by
       by_cases e : i = j
       ·subst e; rw [<- HX.out.2, <- hyn]; exact he
       ·exact HV.out i (by omega)
      clear hy hyn hc1 hc2 hbs he
      go_wp2_with fail
      go_region_with fail
      all_goals go_wp2_with fail
      all_goals (
       go_roundw
       case rel => exact ⟨j + 1, by omega, by go_num, HV2, HBS.out.drew⟩
       case measure => simp [intOf]; omega)
    ·have HBS := Lib.hid hbs
     obtain rfl : j = k := by omega
     have HU2 : Hid (∀ (i m : Nat), i < j + 1 -> m < i -> (os.getD i dO).1 ≠ (os.getD m dO).1) := fun i m hi hm => by
      by_cases e : i = j
      ·subst e; exact HV.out m hm
      ·exact HU.out i m (by omega) hm
     clear hbs
     go_wp2_with fail
     go_roundw
     case rel => exact ⟨j + 1, by omega, by go_num, HU2, HBS.out⟩
     case measure => simp [intOf]; omega
  ·obtain rfl : k = no := by omega
   go_wp2_with fail
   go_ret
   exact ⟨true, rfl, fun _ i j hi hj => HU.out i j (by have := HN.out; omega) hj, hbr⟩
theorem find_any (os : List (ByteArray × JV)) (rs : List RM) (p : Option Addr) (no co : Nat) (id : ByteArray) (w : World) (B : Nat) (hBw : B <= w.heap.size) (hl : ObjL w B os rs (.slice p no co)) (i : Nat) (hi : i < os.length) (hid : (os.getD i dO).1 = id) (hu : Unl os) :
 Calls Tryz.prog 20 #[.slice p no co, .string id] w fun e w' => e = .returned (rs.getD i dRM).val /\ Below w.heap.size w w' := by
 have hnr : no = rs.length := rd_nlen hl.rd
 have hro := hl.len
 have HN : Hid (no = rs.length /\ no = os.length) := ⟨hnr, by omega⟩
 have HNE : Hid (∀ k, k < i -> (rs.getD k dRM).name ≠ id) := fun k hk => by rw [(hl.obj k (by omega)).1, <- hid]; exact fun e => hu i k hi hk e.symm
 have HEQ : Hid ((rs.getD i dRM).name = id) := by unfold Hid; rw [(hl.obj i (by omega)).1, hid]
 obtain ⟨x, hx⟩ : ∃ x, rs.getD i dRM = x := ⟨_, rfl⟩
 rw [hx] at HEQ
 rw [hx]
 have hin : i < no := by omega
 have hnb := rd_lenU hl.rd
 have hnb2 : no <= 9223372036854775807 := by unfold maxLen at hnb; omega
 have HRD := Lib.hid hl.rd
 have HX : Hid (rs[i]? = some x) := by unfold Hid; rw [List.getD_eq_getElem?_getD, List.getElem?_eq_getElem (by omega)] at hx; rw [List.getElem?_eq_getElem (by omega)]; exact congrArg some hx
 have HBW := Lib.hid hBw
 clear hl hro hu hid hx hBw hi hnr
 obtain ⟨W0, hW0⟩ : ∃ W, w.alloc (.cells #[.string ⟨#[]⟩, .int .i64 0, .int .i64 0, .string ⟨#[]⟩, .slice none 0 0, .slice none 0 0] 36) = W := ⟨_, rfl⟩
 have hrow : W0.heap[w.heap.size]? = some (.cells #[.string ⟨#[]⟩, .int .i64 0, .int .i64 0, .string ⟨#[]⟩, .slice none 0 0, .slice none 0 0] 36 (0, 0)) := by rw [<- hW0]; exact heap_alloc_at rfl
 have HB0 : Hid (Below w.heap.size w W0) := by unfold Hid; rw [<- hW0]; exact (Below.refl _ _).alloc (Nat.le_refl _) _
 have hz : w.heap.size < W0.heap.size := (Array.getElem?_eq_some_iff.1 hrow).1
 have z0 : W0.cell? ⟨w.heap.size, 0, none⟩ = some (.string ⟨#[]⟩) := (cell_of_row W0 w.heap.size 0 _ _ _ hrow).trans rfl
 have z1 : W0.cell? ⟨w.heap.size, 1, none⟩ = some (.int .i64 0) := (cell_of_row W0 w.heap.size 1 _ _ _ hrow).trans rfl
 have z2 : W0.cell? ⟨w.heap.size, 2, none⟩ = some (.int .i64 0) := (cell_of_row W0 w.heap.size 2 _ _ _ hrow).trans rfl
 have z3 : W0.cell? ⟨w.heap.size, 3, none⟩ = some (.string ⟨#[]⟩) := (cell_of_row W0 w.heap.size 3 _ _ _ hrow).trans rfl
 have z4 : W0.cell? ⟨w.heap.size, 4, none⟩ = some (.slice none 0 0) := (cell_of_row W0 w.heap.size 4 _ _ _ hrow).trans rfl
 have z5 : W0.cell? ⟨w.heap.size, 5, none⟩ = some (.slice none 0 0) := (cell_of_row W0 w.heap.size 5 _ _ _ hrow).trans rfl
 have y0 := frozen_of_row W0 w.heap.size 0 _ _ hrow
 have y1 := frozen_of_row W0 w.heap.size 1 _ _ hrow
 have y2 := frozen_of_row W0 w.heap.size 2 _ _ hrow
 have y3 := frozen_of_row W0 w.heap.size 3 _ _ hrow
 have y4 := frozen_of_row W0 w.heap.size 4 _ _ hrow
 have y5 := frozen_of_row W0 w.heap.size 5 _ _ hrow
 go_enter Tryz.func20, Tryz.ntmps20
 go_upto_region 1 with fail
 try rw [hW0]
 clear hW0 hrow
 go_wp2_with fail
 go_loopw [5] (fun u wr => ∃ k : Nat, k <= i /\ u = .int .i64 (k : Int) /\ wr = W0) (fun u _ => i - (intOf u).toNat)
 case atStart => exact ⟨0, Nat.zero_le _, rfl, rfl⟩
 case round =>
  obtain ⟨k, hk, rfl, rfl⟩ := hrel
  obtain ⟨q, hq⟩ : ∃ q, rs[k]? = some q := ⟨_, List.getElem?_eq_getElem (by have := HN.out; omega)⟩
  obtain ⟨b1, o1, rfl, hb1, hc1⟩ := rd_at' (HRD.out.below (HB0.out.mono HBW.out) (Nat.le_refl _)) hq
  have f0 := hc1 0 _ rfl
  have f1 := hc1 1 _ rfl
  have f2 := hc1 2 _ rfl
  have f3 := hc1 3 _ rfl
  have f4 := hc1 4 _ rfl
  have f5 := hc1 5 _ rfl
  rw [Nat.add_zero] at f0
  have hk0 : (0 : Int) <= (k : Int) := Int.natCast_nonneg _
  have hk1 : (k : Int) < (no : Int) := by omega
  have hne1 : b1 ≠ w.heap.size := by have := HBW.out; omega
  by_cases hki : k < i
  ·have he : q.name ≠ id := by have h := HNE.out k hki; rw [getD_at (d := dRM) hq] at h; exact h
   have he1 : (q.name.toList == id.toList) = false := by rw [str_beq]; simpa using he
   clear he hq hc1
   go_wp2_with fail
   go_roundw
   case rel => exact ⟨k + 1, by omega, by go_num, by trivial⟩
   case measure => simp [intOf]; omega
  ·obtain rfl : k = i := by omega
   obtain rfl : q = x := Option.some.inj (hq.symm.trans HX.out)
   have he1 : (q.name.toList == id.toList) = true := by rw [str_beq]; simpa using HEQ.out
   clear hq hc1
   go_wp2_with fail
   refine bodyPost_ret (v := RM.val q) (by simp [results, Tryz.results20, go_sem, z0, z1, z2, z3, z4, z5, y0, y1, y2, y3, y4, y5, hz]) rfl ⟨rfl, ?_⟩
   exact belS (belS (belS (belS (belS (belS HB0.out (by omega) (Nat.le_refl _) _) (by simp; omega) (Nat.le_refl _) _) (by simp; omega) (Nat.le_refl _) _) (by simp; omega) (Nat.le_refl _) _) (by simp; omega) (Nat.le_refl _) _) (by simp; omega) (Nat.le_refl _) _
theorem ordQ_len (cs : List CmpD) (os : List (ByteArray × JV)) : (ordQ cs os).length = os.length := by have h := (ordQ_perm cs os).length_eq; simpa using h
theorem ordQ_lt {cs : List CmpD} {os : List (ByteArray × JV)} {i x : Nat} (h : (ordQ cs os)[i]? = some x) : x < os.length := by
 have h1 := (ordQ_perm cs os).mem_iff.1 (List.mem_of_getElem? h)
 simpa using h1
theorem ahead_self (cs : List CmpD) (a : ByteArray × JV) : aheadJ cs a a = false := by
 have h := (cmpO_ok cs).refl a
 unfold aheadJ
 rw [h]; rfl
theorem ahead_of {cs : List CmpD} {os : List (ByteArray × JV)} (hu : Unl os) {x y : Nat} (hx : x < os.length) (hy : y < os.length) (hne : x ≠ y) (h : ltQ cs os y x = false) : aheadJ cs (os.getD x dO) (os.getD y dO) = true /\ aheadJ cs (os.getD y dO) (os.getD x dO) = false := by
 have hn : (os.getD x dO).1 ≠ (os.getD y dO).1 := by
  rcases Nat.lt_or_gt_of_ne hne with h1 | h1
  ·exact fun e => hu y x hy h1 e.symm
  ·exact hu x y hx h1
 have h0 : cmpO cs (os.getD y dO) (os.getD x dO) ≠ 0 := fun e => hn (cmpO_id cs e).symm
 have ha := (cmpO_ok cs).anti (os.getD x dO) (os.getD y dO)
 unfold ltQ cmpQ at h
 rw [if_pos h0] at h
 have h2 := of_decide_eq_false h
 unfold aheadJ
 exact ⟨decide_eq_true (by omega), decide_eq_false h2⟩
theorem ordQ_nodup (cs : List CmpD) (os : List (ByteArray × JV)) : (ordQ cs os).Nodup := (ordQ_perm cs os).nodup_iff.2 List.nodup_range
theorem ordQ_pair {cs : List CmpD} {os : List (ByteArray × JV)} (hu : Unl os) : (ordQ cs os).Pairwise (fun x y => aheadJ cs (os.getD x dO) (os.getD y dO) = true /\ aheadJ cs (os.getD y dO) (os.getD x dO) = false) := by
 have h1 := (ordQ_sorted cs os).and (ordQ_nodup cs os)
 refine h1.imp_of_mem ?_
 intro a b ha hb h
 have ha' : a < os.length := by simpa using (ordQ_perm cs os).mem_iff.1 ha
 have hb' : b < os.length := by simpa using (ordQ_perm cs os).mem_iff.1 hb
 exact ahead_of hu ha' hb' h.2 h.1
theorem ordQ_ahead {cs : List CmpD} {os : List (ByteArray × JV)} (hu : Unl os) {i k x y : Nat} (hik : i < k) (hx : (ordQ cs os)[i]? = some x) (hy : (ordQ cs os)[k]? = some y) : aheadJ cs (os.getD x dO) (os.getD y dO) = true /\ aheadJ cs (os.getD y dO) (os.getD x dO) = false := by
 obtain ⟨h1, e1⟩ := List.getElem?_eq_some_iff.1 hx
 obtain ⟨h2, e2⟩ := List.getElem?_eq_some_iff.1 hy
 have h := List.pairwise_iff_getElem.1 (ordQ_pair (cs := cs) hu) i k h1 h2 hik
 rw [e1, e2] at h
 exact h
theorem range_getD (os : List (ByteArray × JV)) : (List.range os.length).map (fun i => os.getD i dO) = os := by
 apply List.ext_getElem?
 intro i
 by_cases h : i < os.length
 ·rw [List.getElem?_map, List.getElem?_range h, Option.map_some, List.getElem?_eq_getElem h, List.getD_eq_getElem?_getD, List.getElem?_eq_getElem h]; rfl
 ·rw [List.getElem?_eq_none (by simpa using h), List.getElem?_eq_none (by omega)]
theorem ahead_unique {cs : List CmpD} : ∀ {a b : List (ByteArray × JV)}, a.Perm b -> a.Pairwise (fun x y => aheadJ cs x y = true /\ aheadJ cs y x = false) -> b.Pairwise (fun x y => aheadJ cs x y = true /\ aheadJ cs y x = false) -> a = b
 | [], b, h, _, _ => h.nil_eq
 | x :: a, [], h, _, _ => absurd h.length_eq (by simp)
 | x :: a, y :: b, h, ha, hb => by
   obtain ⟨ha1, ha2⟩ := List.pairwise_cons.1 ha
   obtain ⟨hb1, hb2⟩ := List.pairwise_cons.1 hb
   have hxy : x = y := by
    rcases List.mem_cons.1 (h.mem_iff.1 (List.mem_cons_self ..)) with e | e
    ·exact e
    ·rcases List.mem_cons.1 (h.symm.mem_iff.1 (List.mem_cons_self ..)) with e2 | e2
     ·exact e2.symm
     ·have h1 := (hb1 x e).1
      have h2 := (ha1 y e2).2
      rw [h1] at h2
      cases h2
   subst hxy
   rw [ahead_unique (List.Perm.cons_inv h) ha2 hb2]
theorem ordQ_turned {cs : List CmpD} {os ps : List (ByteArray × JV)} (hu : Unl os) (hv : Unl ps) (hp : ps.Perm os) : (ordQ cs os).map (fun i => (os.getD i dO).1) = (ordQ cs ps).map (fun i => (ps.getD i dO).1) := by
 have h1 : ((ordQ cs os).map (fun i => os.getD i dO)).Perm os := by
  have h := (ordQ_perm cs os).map (fun i => os.getD i dO)
  rw [range_getD] at h; exact h
 have h2 : ((ordQ cs ps).map (fun i => ps.getD i dO)).Perm ps := by
  have h := (ordQ_perm cs ps).map (fun i => ps.getD i dO)
  rw [range_getD] at h; exact h
 have h3 := ahead_unique (cs := cs) ((h1.trans hp.symm).trans h2.symm) (List.pairwise_map.2 (ordQ_pair hu)) (List.pairwise_map.2 (ordQ_pair hv))
 have h4 := congrArg (List.map (fun o : ByteArray × JV => o.1)) h3
 rw [List.map_map, List.map_map] at h4
 exact h4
theorem unl_iff (os : List (ByteArray × JV)) : Unl os ↔ (os.map (·.1)).Nodup := by
 rw [List.nodup_iff_pairwise_ne, List.pairwise_map, List.pairwise_iff_getElem]
 constructor
 ·intro h i j hi hj hij e
  have h1 := h j i hj hij
  rw [List.getD_eq_getElem?_getD, List.getD_eq_getElem?_getD, List.getElem?_eq_getElem hi, List.getElem?_eq_getElem hj] at h1
  exact h1 e.symm
 ·intro h i k hi hk e
  have h1 := h k i (by omega) hi hk
  rw [List.getD_eq_getElem?_getD, List.getD_eq_getElem?_getD, List.getElem?_eq_getElem hi, List.getElem?_eq_getElem (by omega)] at e
  exact h1 e.symm
theorem Unl.perm {os ps : List (ByteArray × JV)} (h : Unl os) (hp : ps.Perm os) : Unl ps := (unl_iff ps).2 ((hp.map (·.1)).nodup_iff.2 ((unl_iff os).1 h))
theorem rankOrder_any (t : JV) (r : RV) (os : List (ByteArray × JV)) (rs : List RM) (p : Option Addr) (no co : Nat) (w : World) (ht : TreeOf w w.heap.size t r) (ot : t.Ok) (hl : ObjL w w.heap.size os rs (.slice p no co)) :
 Calls Tryz.prog 5 #[r.val, .slice p no co] w fun e w' => e = .returned (.bool true) /\ Below w.heap.size w w' := by
 have hnr : no = rs.length := rd_nlen hl.rd
 have hro := hl.len
 have HN : Hid (no = rs.length /\ no = os.length) := ⟨hnr, by omega⟩
 have HF : Hid (∀ W, Below w.heap.size w W -> Calls Tryz.prog 13 #[r.val, .slice p no co] W (Few21R W t os)) := fun W hb => few21_any t r os rs p no co W (ht.under hb hb.size) ot (hl.under hb hb.size)
 have HRD := Lib.hid hl.rd
 have HO : Hid (∀ W, Below w.heap.size w W -> os.length <= 40 -> Calls Tryz.prog 17 #[r.val, .slice p no co] W fun e w' => ∃ u, e = .returned u /\ Own w' W.heap.size 9 encS 1 u ((ordQ (sortC t) os).map (fun i => (os.getD i dO).1)) /\ Below W.heap.size W w') := fun W hb hn => rkorder_any t r os rs p no co W w.heap.size hb.size (ht.under hb (Nat.le_refl _)) ot (hl.under hb (Nat.le_refl _)) (by omega)
 have HUN : Hid (∀ W, Below w.heap.size w W -> Calls Tryz.prog 19 #[.slice p no co] W fun e w' => ∃ b : Bool, e = .returned (.bool b) /\ Hid (b = true -> Unl os) /\ Below W.heap.size W w') := fun W hb => unlike_any os rs p no co W (hl.under hb hb.size)
 have HFD : Hid (∀ i W, Unl os -> i < os.length -> Below w.heap.size w W -> Calls Tryz.prog 20 #[.slice p no co, .string (os.getD i dO).1] W fun e w' => e = .returned (rs.getD i dRM).val /\ Below W.heap.size W w') := fun i W hu hi hb => find_any os rs p no co _ W w.heap.size hb.size (hl.under hb (Nat.le_refl _)) i hi rfl hu
 have HA : Hid (∀ i k, i < no -> k < no -> ∀ W, Below w.heap.size w W -> Calls Tryz.prog 14 #[r.val, (rs.getD i dRM).val, (rs.getD k dRM).val] W fun e w' => e = .returned (.bool (aheadJ (sortC t) (os.getD i dO) (os.getD k dO))) /\ Below W.heap.size W w') := fun i k hi hk W hb => by
  have h1 := hl.obj i (by omega)
  have h2 := hl.obj k (by omega)
  exact rkAhead_any t r _ _ _ _ W w.heap.size hb.size (ht.under hb (Nat.le_refl _)) ot ⟨h1.1, h1.2.1.under hb (Nat.le_refl _)⟩ h1.2.2 ⟨h2.1, h2.2.1.under hb (Nat.le_refl _)⟩ h2.2.2
 have hA0 : VAt (w.alloc r.obj) w.heap.size r := heap_alloc_at rfl
 have hB0 : Below w.heap.size w (w.alloc r.obj) := (Below.refl _ _).alloc (Nat.le_refl _) _
 obtain ⟨k, n, s, pl, nl, cl, pm, nm, cm⟩ := r
 dsimp only [RV.val, RV.obj] at *
 obtain ⟨W0, hW0⟩ : ∃ W, w.alloc (.cells #[.int .i64 k, .int .i64 n, .string s, .slice pl nl cl, .slice pm nm cm] 25) = W := ⟨_, rfl⟩
 rw [hW0] at hB0 hA0
 obtain ⟨cs, hcs⟩ : ∃ C, sortC t = C := ⟨_, rfl⟩
 rw [hcs] at HO HA
 clear ht ot hl hro hnr hcs
 go_enter Tryz.func5, Tryz.ntmps5
 go_upto_region 1 with fail
 try rw [hW0]
 clear hW0
 have hz := hA0.lt
 obtain ⟨c0, c1, c2, c3, c4⟩ := hA0.cells5
 clear hA0
 have HAW : Hid (∀ W, Below W0.heap.size W0 W -> Calls Tryz.prog 9 #[] W fun e w' => e = .returned (.bool true) /\ Below W0.heap.size W0 w') := fun W hb => (awake21_any W).mono fun e w' h => ⟨h.1, hb.trans (h.2.mono hb.size)⟩
 have HFE : Hid (∀ W, Below W0.heap.size W0 W -> Calls Tryz.prog 13 #[.agg #[.int .i64 k, .int .i64 n, .string s, .slice pl nl cl, .slice pm nm cm], .slice p no co] W fun e w' => ∃ b : Bool, e = .returned (.bool b) /\ Hid (b = true -> OwnM t /\ os.length <= 40) /\ Below W0.heap.size W0 w') := fun W hb => (HF.out W (hB0.trans (hb.mono hB0.size))).mono fun e w' h => by
  obtain ⟨b, h1, h2, h3⟩ := h
  exact ⟨b, h1, h2, hb.trans (h3.mono hb.size)⟩
 have HUE : Hid (∀ W, Below W0.heap.size W0 W -> Calls Tryz.prog 19 #[.slice p no co] W fun e w' => ∃ b : Bool, e = .returned (.bool b) /\ Hid (b = true -> Unl os) /\ Below W0.heap.size W0 w') := fun W hb => (HUN.out W (hB0.trans (hb.mono hB0.size))).mono fun e w' h => by
  obtain ⟨b, h1, h2, h3⟩ := h
  exact ⟨b, h1, h2, hb.trans (h3.mono hb.size)⟩
 have HB0 := Lib.hid hB0
 have hbO : Below W0.heap.size W0 W0 := Below.refl _ _
 clear HF HUN hB0
 by_cases h1 : 20 < no
 ·have d1 : decide ((20 : Int) < (no : Int)) = true := by simp; omega
  clear h1
  go_wp2_with (first
   | (go_at_call 9; (with_reducible refine (HAW.out _ (by first | exact hbC | exact hbB | exact hbA | exact hbO)).mono ?_); rintro e w1 ⟨rfl, hbA⟩; (have d0 := bcs hbA hz c0); (have d1 := bcs hbA hz c1); (have d2 := bcs hbA hz c2); (have d3 := bcs hbA hz c3); (have d4 := bcs hbA hz c4))
   | (go_at_call 13; (with_reducible refine (HFE.out _ (by first | exact hbA)).mono ?_); rintro e w2 ⟨b, rfl, hL, hbB⟩; cases b)
   | (go_at_call 19; (with_reducible refine (HUE.out _ (by first | exact hbB)).mono ?_); rintro e w3 ⟨b, rfl, hU, hbC⟩; cases b))
  all_goals go_ret
  all_goals exact ⟨rfl, HB0.out.trans (hbA.mono HB0.out.size)⟩
 have d1 : decide ((20 : Int) < (no : Int)) = false := by simp; omega
 have hno : no <= 20 := by omega
 clear h1
 have HOR : Hid (∀ W, Below w.heap.size w W -> os.length <= 40 -> Calls Tryz.prog 17 #[.agg #[.int .i64 k, .int .i64 n, .string s, .slice pl nl cl, .slice pm nm cm], .slice p no co] W fun e w' => ∃ pu cu, e = .returned (.slice pu no cu) /\ Rd w' w'.heap.size encS 1 (.slice pu no cu) ((ordQ cs os).map (fun i => (os.getD i dO).1)) /\ Below W.heap.size W w') := fun W hb hn => (HO.out W hb hn).mono fun e w' h => by
  obtain ⟨u, h1, h2, h3⟩ := h
  obtain ⟨pu, cu, hu, _, _⟩ := h2.len
  rw [List.length_map, ordQ_len, <- HN.out.2] at hu
  subst hu
  exact ⟨pu, cu, h1, h2.rd codecS, h3⟩
 have HB0' := HB0
 clear HO
 go_wp2_with (first
  | (go_at_call 9; (with_reducible refine (HAW.out _ (by first | exact hbC | exact hbB | exact hbA | exact hbO)).mono ?_); rintro e w1 ⟨rfl, hbA⟩; (have d0 := bcs hbA hz c0); (have d1 := bcs hbA hz c1); (have d2 := bcs hbA hz c2); (have d3 := bcs hbA hz c3); (have d4 := bcs hbA hz c4))
  | (go_at_call 13; (with_reducible refine (HFE.out _ (by first | exact hbA)).mono ?_); rintro e w2 ⟨b, rfl, hL, hbB⟩; cases b)
  | (go_at_call 19; (with_reducible refine (HUE.out _ (by first | exact hbB)).mono ?_); rintro e w3 ⟨b, rfl, hU, hbC⟩; (have e0 := bcs hbC hz c0); (have e1 := bcs hbC hz c1); (have e2 := bcs hbC hz c2); (have e3 := bcs hbC hz c3); (have e4 := bcs hbC hz c4); cases b)
  | (go_at_call 17; (with_reducible refine (HOR.out _ (HB0.out.trans (hbC.mono HB0.out.size)) (hL.out trivial).2).mono ?_); rintro e w4 ⟨pu, cu, rfl, hu4, hb4⟩))
 ·go_ret
  exact ⟨rfl, HB0.out.trans (hbA.mono HB0.out.size)⟩
 ·go_ret
  exact ⟨rfl, HB0.out.trans (hbA.mono HB0.out.size)⟩
 have HUU : Hid (Unl os) := hU.out trivial
 have hz3 := Nat.lt_of_lt_of_le hz hbC.size
 have HB3 : Hid (Below w.heap.size w w3) := HB0.out.trans (hbC.mono HB0.out.size)
 have HU := Lib.hid hu4
 have f0 := bcs hb4 hz3 e0
 have f1 := bcs hb4 hz3 e1
 have f2 := bcs hb4 hz3 e2
 have f3 := bcs hb4 hz3 e3
 have f4 := bcs hb4 hz3 e4
 have HB4 : Hid (Below w.heap.size w w4) := HB3.out.trans (hb4.mono HB3.out.size)
 have hz4 := Nat.lt_of_lt_of_le hz3 hb4.size
 have HOL : Hid ((ordQ cs os).length = no /\ os.length = no) := ⟨by rw [ordQ_len]; have := HN.out; omega, by have := HN.out; omega⟩
 clear hL hU hbA hbB hbC hbO HAW HFE HUE HB0 c0 c1 c2 c3 c4 hz d0 d1 d2 d3 d4 hu4 hb4 e0 e1 e2 e3 e4 hz3 HOR
 go_loopw [6] (fun i wr => ∃ k : Nat, k <= no /\ i = .int .i64 (k : Int) /\ Below w4.heap.size w4 wr) (fun i _ => no - (intOf i).toNat)
 case atStart => exact ⟨0, Nat.zero_le _, rfl, Below.refl _ _⟩
 case round =>
  obtain ⟨k, hk, rfl, hbr⟩ := hrel
  have hk0 : (0 : Int) <= (k : Int) := Int.natCast_nonneg _
  have HBR := Lib.hid hbr
  clear hbr
  by_cases hlt : k < no
  ·have hk1 : (k : Int) < (no : Int) := by omega
   have hwk : IntKind.i64.wrap ((k : Int) + 1) = (k : Int) + 1 := by rw [IntKind.wrap_i64] <;> omega
   obtain ⟨x, hx⟩ : ∃ x, (ordQ cs os)[k]? = some x := ⟨_, List.getElem?_eq_getElem (by have := HOL.out; omega)⟩
   have HX := Lib.hid hx
   clear hx
   go_wp2_with fail
   go_loopw [7] (fun i w2 => ∃ j : Nat, k < j /\ j <= no /\ i = .int .i64 (j : Int) /\ Below w4.heap.size w4 w2) (fun i _ => no - (intOf i).toNat)
   case atStart => exact ⟨k + 1, by omega, by omega, by go_num, HBR.out⟩
   case round =>
    obtain ⟨j, hkj, hj, rfl, hbs⟩ := hrel
    have hj0 : (0 : Int) <= (j : Int) := Int.natCast_nonneg _
    by_cases hjn : j < no
    ·obtain ⟨w5, hw5⟩ : ∃ w5, w5 = wr := ⟨_, rfl⟩
     have hj1 : (j : Int) < (no : Int) := by omega
     obtain ⟨y, hy⟩ : ∃ y, (ordQ cs os)[j]? = some y := ⟨_, List.getElem?_eq_getElem (by have := HOL.out; omega)⟩
     have hxl := ordQ_lt HX.out
     have hyl := ordQ_lt hy
     have hah := ordQ_ahead HUU.out hkj HX.out hy
     have hxn : ((ordQ cs os).map (fun i => (os.getD i dO).1))[k]? = some (os.getD x dO).1 := by rw [List.getElem?_map, HX.out]; rfl
     have hyn : ((ordQ cs os).map (fun i => (os.getD i dO).1))[j]? = some (os.getD y dO).1 := by rw [List.getElem?_map, hy]; rfl
     have HFX := Lib.hid (fun W => HFD.out x W HUU.out hxl)
     have HFY := Lib.hid (fun W => HFD.out y W HUU.out hyl)
     have HXY := Lib.hid (fun W => HA.out x y (by have := HOL.out; omega) (by have := HOL.out; omega) W)
     have HYX := Lib.hid (fun W => HA.out y x (by have := HOL.out; omega) (by have := HOL.out; omega) W)
     have HXX := Lib.hid (fun W => HA.out x x (by have := HOL.out; omega) (by have := HOL.out; omega) W)
     rw [hah.1] at HXY
     rw [hah.2] at HYX
     rw [ahead_self] at HXX
     obtain ⟨nx, hnx⟩ : ∃ n, (os.getD x dO).1 = n := ⟨_, rfl⟩
     obtain ⟨ny, hny⟩ : ∃ n, (os.getD y dO).1 = n := ⟨_, rfl⟩
     obtain ⟨⟨xn, xk, xm, xs, xpl, xnl, xcl, xpm, xnm, xcm⟩, hrx⟩ : ∃ r, rs.getD x dRM = r := ⟨_, rfl⟩
     obtain ⟨⟨yn, yk, ym, ys, ypl, ynl, ycl, ypm, ynm, ycm⟩, hry⟩ : ∃ r, rs.getD y dRM = r := ⟨_, rfl⟩
     rw [hnx, hrx] at HFX
     rw [hny, hry] at HFY
     rw [hrx, hry] at HXY HYX
     rw [hrx] at HXX
     rw [hnx] at hxn
     rw [hny] at hyn
     dsimp only [RM.val] at HFX HFY HXY HYX HXX
     obtain ⟨b1, o1, hp1, hb1, hc1⟩ := rd_at' (HU.out.below hbs (Nat.le_refl _)) hxn
     obtain ⟨b2, o2, hp2, hb2, hc2⟩ := rd_at' (HU.out.below hbs (Nat.le_refl _)) hyn
     obtain rfl := hp1
     cases hp2
     have g0 := hc1 0 _ rfl
     have l0 := hc2 0 _ rfl
     rw [Nat.add_zero, Nat.mul_one] at g0 l0
     have HBS := Lib.hid hbs
     have hbW : Below w.heap.size w wr := HB4.out.trans (hbs.mono HB4.out.size)
     have HBW := Lib.hid hbW
     clear hy hah hxn hyn hxl hyl hnx hny hrx hry hc1 hc2 hbs hbW hw5
     go_upto_region 13 with (go_at_call 20; (with_reducible refine (HFX.out _ HBW.out).mono ?_); rintro e w6 ⟨rfl, hb6⟩)
     have hbr6 : Below wr.heap.size wr (w6.alloc (.cells #[.string xn, .int .i64 xk, .int .i64 xm, .string xs, .slice xpl xnl xcl, .slice xpm xnm xcm] 36)) := hb6.alloc hb6.size _
     have hr6 : (w6.alloc (.cells #[.string xn, .int .i64 xk, .int .i64 xm, .string xs, .slice xpl xnl xcl, .slice xpm xnm xcm] 36)).heap[w6.heap.size]? = some (.cells #[.string xn, .int .i64 xk, .int .i64 xm, .string xs, .slice xpl xnl xcl, .slice xpm xnm xcm] 36 (0, 0)) := heap_alloc_at rfl
     have hgw6 : wr.heap.size <= w6.heap.size := hb6.size
     obtain ⟨g6, hg6⟩ : ∃ g, w6.heap.size = g := ⟨_, rfl⟩
     obtain ⟨W6, hW6⟩ : ∃ W, w6.alloc (.cells #[.string xn, .int .i64 xk, .int .i64 xm, .string xs, .slice xpl xnl xcl, .slice xpm xnm xcm] 36) = W := ⟨_, rfl⟩
     rw [hW6] at hbr6 hr6
     rw [hg6] at hr6 hgw6
     try rw [hW6]
     try rw [hg6]
     have hb1r : b1 < wr.heap.size := Nat.lt_of_lt_of_le hb1 HBS.out.size
     have hzr : w.heap.size < wr.heap.size := Nat.lt_of_lt_of_le hz4 HBS.out.size
     have m0 := bcs hbr6 hb1r l0
     have hl6 : g6 < W6.heap.size := (Array.getElem?_eq_some_iff.1 hr6).1
     have HBW6 : Hid (Below w.heap.size w W6) := HBW.out.trans (hbr6.mono HBW.out.size)
     clear hW6 hg6 hb6 g0 l0
     go_upto_region 14 with (go_at_call 20; (with_reducible refine (HFY.out _ HBW6.out).mono ?_); rintro e w7 ⟨rfl, hb7⟩)
     have hbr8 : Below W6.heap.size W6 (w7.alloc (.cells #[.string yn, .int .i64 yk, .int .i64 ym, .string ys, .slice ypl ynl ycl, .slice ypm ynm ycm] 36)) := hb7.alloc hb7.size _
     have hr8 : (w7.alloc (.cells #[.string yn, .int .i64 yk, .int .i64 ym, .string ys, .slice ypl ynl ycl, .slice ypm ynm ycm] 36)).heap[w7.heap.size]? = some (.cells #[.string yn, .int .i64 yk, .int .i64 ym, .string ys, .slice ypl ynl ycl, .slice ypm ynm ycm] 36 (0, 0)) := heap_alloc_at rfl
     have hgw8 : W6.heap.size <= w7.heap.size := hb7.size
     obtain ⟨g8, hg8⟩ : ∃ g, w7.heap.size = g := ⟨_, rfl⟩
     obtain ⟨W8, hW8⟩ : ∃ W, w7.alloc (.cells #[.string yn, .int .i64 yk, .int .i64 ym, .string ys, .slice ypl ynl ycl, .slice ypm ynm ycm] 36) = W := ⟨_, rfl⟩
     rw [hW8] at hbr8 hr8
     rw [hg8] at hr8 hgw8
     try rw [hW8]
     try rw [hg8]
     have hl8 : g8 < W8.heap.size := (Array.getElem?_eq_some_iff.1 hr8).1
     have hr6' : W8.heap[g6]? = some (.cells #[.string xn, .int .i64 xk, .int .i64 xm, .string xs, .slice xpl xnl xcl, .slice xpm xnm xcm] 36 (0, 0)) := (hbr8.block g6 hl6).trans hr6
     have cx0 : W8.cell? ⟨g6, 0, none⟩ = some (.string xn) := (cell_of_row W8 g6 0 _ _ _ hr6').trans rfl
     have cx1 : W8.cell? ⟨g6, 1, none⟩ = some (.int .i64 xk) := (cell_of_row W8 g6 1 _ _ _ hr6').trans rfl
     have cx2 : W8.cell? ⟨g6, 2, none⟩ = some (.int .i64 xm) := (cell_of_row W8 g6 2 _ _ _ hr6').trans rfl
     have cx3 : W8.cell? ⟨g6, 3, none⟩ = some (.string xs) := (cell_of_row W8 g6 3 _ _ _ hr6').trans rfl
     have cx4 : W8.cell? ⟨g6, 4, none⟩ = some (.slice xpl xnl xcl) := (cell_of_row W8 g6 4 _ _ _ hr6').trans rfl
     have cx5 : W8.cell? ⟨g6, 5, none⟩ = some (.slice xpm xnm xcm) := (cell_of_row W8 g6 5 _ _ _ hr6').trans rfl
     have cy0 : W8.cell? ⟨g8, 0, none⟩ = some (.string yn) := (cell_of_row W8 g8 0 _ _ _ hr8).trans rfl
     have cy1 : W8.cell? ⟨g8, 1, none⟩ = some (.int .i64 yk) := (cell_of_row W8 g8 1 _ _ _ hr8).trans rfl
     have cy2 : W8.cell? ⟨g8, 2, none⟩ = some (.int .i64 ym) := (cell_of_row W8 g8 2 _ _ _ hr8).trans rfl
     have cy3 : W8.cell? ⟨g8, 3, none⟩ = some (.string ys) := (cell_of_row W8 g8 3 _ _ _ hr8).trans rfl
     have cy4 : W8.cell? ⟨g8, 4, none⟩ = some (.slice ypl ynl ycl) := (cell_of_row W8 g8 4 _ _ _ hr8).trans rfl
     have cy5 : W8.cell? ⟨g8, 5, none⟩ = some (.slice ypm ynm ycm) := (cell_of_row W8 g8 5 _ _ _ hr8).trans rfl
     have hz6 : w.heap.size < W6.heap.size := Nat.lt_of_lt_of_le hzr hbr6.size
     have hb48 : Below w4.heap.size w4 W8 := (HBS.out.trans (hbr6.mono HBS.out.size)).trans (hbr8.mono (Nat.le_trans HBS.out.size hbr6.size))
     have s0 := bcs hb48 hz4 f0
     have s1 := bcs hb48 hz4 f1
     have s2 := bcs hb48 hz4 f2
     have s3 := bcs hb48 hz4 f3
     have s4 := bcs hb48 hz4 f4
     have hz8 : w.heap.size < W8.heap.size := Nat.lt_of_lt_of_le hz6 hbr8.size
     have hg68 : g6 < W8.heap.size := Nat.lt_of_lt_of_le hl6 hbr8.size
     have HBW8 : Hid (Below w.heap.size w W8) := HBW6.out.trans (hbr8.mono HBW6.out.size)
     have HB48 := Lib.hid hb48
     clear hW8 hg8 hb7 m0 hr6 hr6' hr8 hbr6 hbr8 hb48 f0 f1 f2 f3 f4 hgw6 hgw8 hl6
     go_wp2_with (first
      | (go_at_call 14; (with_reducible refine (HXX.out _ (HBW8.out.trans (hb11.mono HBW8.out.size))).mono ?_); rintro e w12 ⟨rfl, hb12⟩; (have hb13 := hb11.trans (hb12.mono hb11.size)))
      | (go_at_call 14; (with_reducible refine (HYX.out _ (HBW8.out.trans (hb9.mono HBW8.out.size))).mono ?_); rintro e w10 ⟨rfl, hb10⟩; (have hb11 := hb9.trans (hb10.mono hb9.size)); (have qs0 := bcs hb11 hz8 s0); (have qs1 := bcs hb11 hz8 s1); (have qs2 := bcs hb11 hz8 s2); (have qs3 := bcs hb11 hz8 s3); (have qs4 := bcs hb11 hz8 s4); (have qcx0 := bcs hb11 hg68 cx0); (have qcx1 := bcs hb11 hg68 cx1); (have qcx2 := bcs hb11 hg68 cx2); (have qcx3 := bcs hb11 hg68 cx3); (have qcx4 := bcs hb11 hg68 cx4); (have qcx5 := bcs hb11 hg68 cx5))
      | (go_at_call 14; (with_reducible refine (HXY.out _ HBW8.out).mono ?_); rintro e w9 ⟨rfl, hb9⟩; (have ps0 := bcs hb9 hz8 s0); (have ps1 := bcs hb9 hz8 s1); (have ps2 := bcs hb9 hz8 s2); (have ps3 := bcs hb9 hz8 s3); (have ps4 := bcs hb9 hz8 s4); (have pcx0 := bcs hb9 hg68 cx0); (have pcx1 := bcs hb9 hg68 cx1); (have pcx2 := bcs hb9 hg68 cx2); (have pcx3 := bcs hb9 hg68 cx3); (have pcx4 := bcs hb9 hg68 cx4); (have pcx5 := bcs hb9 hg68 cx5); (have pcy0 := bcs hb9 hl8 cy0); (have pcy1 := bcs hb9 hl8 cy1); (have pcy2 := bcs hb9 hl8 cy2); (have pcy3 := bcs hb9 hl8 cy3); (have pcy4 := bcs hb9 hl8 cy4); (have pcy5 := bcs hb9 hl8 cy5)))
     all_goals (
      go_roundw
      case rel => exact ⟨j + 1, by omega, by omega, by go_num, HB48.out.trans (hb13.mono HB48.out.size)⟩
      case measure => simp [intOf]; omega)
    ·obtain rfl : j = no := by omega
     have HBS := Lib.hid hbs
     clear hbs
     go_wp2_with fail
     go_roundw
     case rel => exact ⟨k + 1, by omega, by go_num, HBS.out⟩
     case measure => simp [intOf]; omega
  ·obtain rfl : k = no := by omega
   go_wp2_with fail
   go_ret
   exact ⟨rfl, HB4.out.trans (HBR.out.mono HB4.out.size)⟩
end
end Go.Proofs.YtjhginendpjimaaGreatDoor
