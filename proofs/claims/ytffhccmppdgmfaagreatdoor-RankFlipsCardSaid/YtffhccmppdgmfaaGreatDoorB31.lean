import Derived.Test.YtffhccmppdgmfaaGreatDoorB30
import Derived.Test.YtffhccmppdgmfaaGreatDoorB27
import Derived.Test.YtffhccmppdgmfaaGreatDoorB26
set_option linter.unusedSimpArgs false
set_option linter.unusedVariables false
set_option maxRecDepth 200000
set_option maxHeartbeats 8000000
namespace Go.Proofs.YtffhccmppdgmfaaGreatDoor
section
open Go Go.RowKit Go.OpenShut
def flipN (d : Bool) : ByteArray := if d then createdN else surN
theorem flip_up (d : Bool) : sortC (flipJ (flipN d) 1) = [⟨flipN d, false⟩] := by cases d <;> kernel_rfl
theorem flip_down (d : Bool) : sortC (flipJ (flipN d) 0) = [⟨flipN d, true⟩] := by cases d <;> kernel_rfl
theorem flipJ_ok (d : Bool) {n : Int} (h : n = 0 \/ n = 1) : (flipJ (flipN d) n).Ok := by
 have hp : (flipN d).size <= 140737488351232 := by cases d <;> decide
 refine .mk (by decide) (by decide) (by decide) (by simp) (by simp) (fun i x hx => ?_) (fun i p hp => by simp at hp) (fun i p hp => by simp at hp)
 match i, hx with
 | 0, hx =>
   obtain rfl := Option.some.inj hx
   refine .mk (by decide) (by decide) (by decide) (by simp) (by simp) (fun i x hx => by simp at hx) (fun i p hq => ?_) (fun i p hq => ?_)
   ·match i, hq with
    | 0, hq => obtain rfl := Option.some.inj hq; show propN.size <= _; decide
    | 1, hq => obtain rfl := Option.some.inj hq; show ascN.size <= _; decide
    | i + 2, hq => simp at hq
   ·match i, hq with
    | 0, hq => obtain rfl := Option.some.inj hq; exact .mk (by decide) (by decide) hp (by simp) (by simp) (fun i x hx => by simp at hx) (fun i p hp => by simp at hp) (fun i p hp => by simp at hp)
    | 1, hq => obtain rfl := Option.some.inj hq; exact .mk (by decide) (by rcases h with rfl | rfl <;> decide) (by decide) (by simp) (by simp) (fun i x hx => by simp at hx) (fun i p hp => by simp at hp) (fun i p hp => by simp at hp)
    | i + 2, hq => simp at hq
 | i + 1, hx => simp at hx
theorem flip_cmp (p : ByteArray) (a b : JV) : cmpK ⟨p, true⟩ a b = - cmpK ⟨p, false⟩ a b := rfl
theorem flip_ways (p : ByteArray) (a b : ByteArray × JV) : (aheadJ [⟨p, false⟩] a b != aheadJ [⟨p, true⟩] a b || aheadJ [⟨p, false⟩] a b == aheadJ [] a b) = true := by
 unfold aheadJ
 have e1 : cmpO [⟨p, false⟩] a b = if cmpK ⟨p, false⟩ a.2 b.2 ≠ 0 then cmpK ⟨p, false⟩ a.2 b.2 else cmpO [] a b := rfl
 have e2 : cmpO [⟨p, true⟩] a b = if cmpK ⟨p, true⟩ a.2 b.2 ≠ 0 then cmpK ⟨p, true⟩ a.2 b.2 else cmpO [] a b := rfl
 rw [e1, e2, flip_cmp]
 obtain ⟨n, hn⟩ : ∃ n, cmpK ⟨p, false⟩ a.2 b.2 = n := ⟨_, rfl⟩
 rw [hn]
 by_cases h : n = 0
 ·subst h
  simp
 ·rw [if_pos h, if_pos (by omega)]
  by_cases h1 : n < 0
  ·rw [decide_eq_true h1, decide_eq_false (by omega : ¬ -n < 0)]
   rfl
  ·rw [decide_eq_false h1, decide_eq_true (by omega : -n < 0)]
   rfl
theorem flip_dated {a b : ByteArray × JV} {x y : ByteArray} (ha : textM a.2 createdN = [x]) (hb : textM b.2 createdN = [y]) (hc : cmpS x.data.toList y.data.toList ≠ 0) : aheadJ [⟨createdN, false⟩] a b = decide (cmpS x.data.toList y.data.toList < 0) /\ aheadJ [⟨createdN, true⟩] a b = !decide (cmpS x.data.toList y.data.toList < 0) := by
 have h1 : cmpK ⟨createdN, false⟩ a.2 b.2 = cmpS x.data.toList y.data.toList := by
  unfold cmpK stampK
  rw [ha, hb]
  rfl
 unfold aheadJ
 have e1 : cmpO [⟨createdN, false⟩] a b = if cmpK ⟨createdN, false⟩ a.2 b.2 ≠ 0 then cmpK ⟨createdN, false⟩ a.2 b.2 else cmpO [] a b := rfl
 have e2 : cmpO [⟨createdN, true⟩] a b = if cmpK ⟨createdN, true⟩ a.2 b.2 ≠ 0 then cmpK ⟨createdN, true⟩ a.2 b.2 else cmpO [] a b := rfl
 rw [e1, e2, flip_cmp, h1, if_pos hc, if_pos (by omega)]
 refine ⟨rfl, ?_⟩
 by_cases h : cmpS x.data.toList y.data.toList < 0
 ·rw [decide_eq_true h]
  exact decide_eq_false (by omega)
 ·rw [decide_eq_false h]
  exact decide_eq_true (by omega)
theorem null_none (k : Int) (h : k = 1) : sortC (JV.mk k 0 ⟨#[]⟩ [] []) = [] := (sortE_null (t := JV.mk k 0 ⟨#[]⟩ [] []) h).2
theorem zero_ok : JV.zero.Ok := .mk (by decide) (by decide) (by decide) (by decide) (by decide) (fun i x h => by simp at h) (fun i p h => by simp at h) (fun i p h => by simp at h)
theorem null_ok : (JV.mk 1 0 ⟨#[]⟩ [] []).Ok := .mk (by decide) (by decide) (by decide) (by simp) (by simp) (fun i x h => by simp at h) (fun i p h => by simp at h) (fun i p h => by simp at h)
theorem rankFlips_any (a b : ByteArray × JV) (ra rb : RM) (d : Bool) (w : World) (ha : ra.name = a.1 /\ TreeOf w w.heap.size a.2 ra.v) (oa : a.2.Ok) (sa : a.1.size <= 140737488351232) (hb : rb.name = b.1 /\ TreeOf w w.heap.size b.2 rb.v) (ob : b.2.Ok) (sb : b.1.size <= 140737488351232) :
 Calls Tryz.prog 3 #[ra.val, rb.val, .bool d] w fun e w' => e = .returned (.bool true) /\ Below w.heap.size w w' := by
 have HAW : Hid (∀ W, Calls Tryz.prog 11 #[] W fun e w' => e = .returned (.bool true) /\ Below W.heap.size W w') := awake21_any
 have HFE : Hid (∀ W g, Below w.heap.size w W -> W.heap[g]? = some (.cells (encM ra ++ encM rb).toArray 27 (0, 0)) -> Calls Tryz.prog 12 #[RV.zero.val, .slice (some ⟨g, 0, none⟩) 2 2] W (SomeB W)) := fun W g hW hg => by
  have hlt : g < W.heap.size := (Array.getElem?_eq_some_iff.1 hg).1
  have hrd : Rd W W.heap.size encM 6 (.slice (some ⟨g, 0, none⟩) 2 2) [ra, rb] := (Own.block (xs := [ra, rb]) (base := 0) codecM hg (by simp [cellsOf]) rfl (Nat.zero_le _) (show 2 <= maxLen by decide)).rd codecM
  refine (few21_any JV.zero RV.zero [a, b] [ra, rb] (some ⟨g, 0, none⟩) 2 2 W (TreeOf.zero _ _) zero_ok ⟨hrd, rfl, fun i hi => ?_, fun o ho => ?_⟩).mono fun e w' h => ?_
  ·match i, hi with
   | 0, _ => exact ⟨ha.1, ha.2.under hW hW.size, oa⟩
   | 1, _ => exact ⟨hb.1, hb.2.under hW hW.size, ob⟩
  ·rcases List.mem_cons.1 ho with rfl | ho
   ·exact sa
   ·rw [List.mem_singleton] at ho
    subst ho
    exact sb
  ·obtain ⟨y, h1, _, h3⟩ := h
   exact ⟨y, h1, h3⟩
 have HAH : Hid (∀ (t : JV) (r : RV) (W : World), Below w.heap.size w W -> TreeOf W W.heap.size t r -> t.Ok -> Calls Tryz.prog 14 #[r.val, ra.val, rb.val] W fun e w' => e = .returned (.bool (aheadJ (sortC t) a b)) /\ Below W.heap.size W w') := fun t r W hW ht ot => rkAhead_any t r a b ra rb W W.heap.size (Nat.le_refl _) ht ot ⟨ha.1, ha.2.under hW hW.size⟩ oa ⟨hb.1, hb.2.under hW hW.size⟩ ob
 have HGA : Hid (∀ W, Below w.heap.size w W -> Calls Tryz.prog 15 #[ra.v.val, .string createdN] W (GetRetB W W.heap.size (a.2.get createdN))) := fun W hW => getB_any a.2 ra.v createdN W W.heap.size (Nat.le_refl _) (ha.2.under hW hW.size) oa
 have HGB : Hid (∀ W, Below w.heap.size w W -> Calls Tryz.prog 15 #[rb.v.val, .string createdN] W (GetRetB W W.heap.size (b.2.get createdN))) := fun W hW => getB_any b.2 rb.v createdN W W.heap.size (Nat.le_refl _) (hb.2.under hW hW.size) ob
 have HTA := Lib.hid (textM_of a.2 createdN)
 have HTB := Lib.hid (textM_of b.2 createdN)
 have HSA : Hid (((a.2.get createdN).getD JV.zero).s.size <= 140737488351232) := by
  unfold Hid
  cases hx : a.2.get createdN with
  | none => decide
  | some x => exact (oa.get hx).s_le.1
 have HSB : Hid (((b.2.get createdN).getD JV.zero).s.size <= 140737488351232) := by
  unfold Hid
  cases hx : b.2.get createdN with
  | none => decide
  | some x => exact (ob.get hx).s_le.1
 have HFW := Lib.hid (flip_ways (flipN d) a b)
 have HFD : Hid (∀ x y, textM a.2 createdN = [x] -> textM b.2 createdN = [y] -> cmpS x.data.toList y.data.toList ≠ 0 -> d = true -> aheadJ [⟨flipN d, false⟩] a b = decide (cmpS x.data.toList y.data.toList < 0) /\ aheadJ [⟨flipN d, true⟩] a b = !decide (cmpS x.data.toList y.data.toList < 0)) := fun x y h1 h2 h3 h4 => by
  subst h4
  exact flip_dated h1 h2 h3
 have hlss : Op.bytesLess ra.name.toList rb.name.toList = aheadJ [] a b := by
  rw [ha.1, hb.1, ByteArray.toList_eq, ByteArray.toList_eq, bytesLess_cmp]
  rfl
 have HUP : Hid (∀ (r : RV) (W : World), Below w.heap.size w W -> TreeOf W W.heap.size (flipJ (flipN d) 1) r -> Calls Tryz.prog 14 #[r.val, ra.val, rb.val] W fun e w' => e = .returned (.bool (aheadJ [⟨flipN d, false⟩] a b)) /\ Below W.heap.size W w') := fun r W hW ht => by
  have h := HAH.out _ r W hW ht (flipJ_ok d (.inr rfl))
  rw [flip_up] at h
  exact h
 have HDN : Hid (∀ (r : RV) (W : World), Below w.heap.size w W -> TreeOf W W.heap.size (flipJ (flipN d) 0) r -> Calls Tryz.prog 14 #[r.val, ra.val, rb.val] W fun e w' => e = .returned (.bool (aheadJ [⟨flipN d, true⟩] a b)) /\ Below W.heap.size W w') := fun r W hW ht => by
  have h := HAH.out _ r W hW ht (flipJ_ok d (.inl rfl))
  rw [flip_down] at h
  exact h
 have HNL : Hid (∀ (W : World), Below w.heap.size w W -> Calls Tryz.prog 14 #[RV.val ⟨1, 0, ⟨#[]⟩, none, 0, 0, none, 0, 0⟩, ra.val, rb.val] W fun e w' => e = .returned (.bool (aheadJ [] a b)) /\ Below W.heap.size W w') := fun W hW => by
  have h := HAH.out (JV.mk 1 0 ⟨#[]⟩ [] []) ⟨1, 0, ⟨#[]⟩, none, 0, 0, none, 0, 0⟩ W hW (leafT _ _ _ _ _) null_ok
  rw [null_none 1 rfl] at h
  exact h
 have HS1 : Hid (∀ W g, g < W.heap.size -> W.cell? ⟨g, 0, none⟩ = some (.string (flipN d)) -> Calls Tryz.prog 13 #[.int .i64 1, .pointer (some ⟨g, 0, none⟩)] W fun e w' => ∃ r, e = .returned r.val /\ TreeOf w' w'.heap.size (flipJ (flipN d) 1) r /\ Below W.heap.size W w') := fun W g h1 h2 => flipSort_any (flipN d) 1 W g h1 h2
 have HS0 : Hid (∀ W g, g < W.heap.size -> W.cell? ⟨g, 0, none⟩ = some (.string (flipN d)) -> Calls Tryz.prog 13 #[.int .i64 0, .pointer (some ⟨g, 0, none⟩)] W fun e w' => ∃ r, e = .returned r.val /\ TreeOf w' w'.heap.size (flipJ (flipN d) 0) r /\ Below W.heap.size W w') := fun W g h1 h2 => flipSort_any (flipN d) 0 W g h1 h2
 obtain ⟨U, hU⟩ : ∃ U, aheadJ [⟨flipN d, false⟩] a b = U := ⟨_, rfl⟩
 obtain ⟨D, hD⟩ : ∃ U, aheadJ [⟨flipN d, true⟩] a b = U := ⟨_, rfl⟩
 obtain ⟨N, hN⟩ : ∃ U, aheadJ [] a b = U := ⟨_, rfl⟩
 rw [hU] at HUP HFW HFD
 rw [hD] at HDN HFW HFD
 rw [hN] at HNL HFW hlss
 obtain ⟨P, hP⟩ : ∃ P, flipN d = P := ⟨_, rfl⟩
 rw [hP] at HS1 HS0 HUP HDN
 have HP := Lib.hid hP
 clear hP
 obtain ⟨X, hX⟩ : ∃ X, a.2.get createdN = X := ⟨_, rfl⟩
 obtain ⟨Y, hY⟩ : ∃ X, b.2.get createdN = X := ⟨_, rfl⟩
 rw [hX] at HGA HTA HSA
 rw [hY] at HGB HTB HSB
 obtain ⟨W0, hW0⟩ : ∃ W0, (w.alloc ra.ooj).alloc rb.ooj = W0 := ⟨_, rfl⟩
 have hA0 : OAt W0 w.heap.size ra := by rw [<- hW0]; exact heap_alloc_lt (by simp) (heap_alloc_at rfl)
 have hB0 : OAt W0 (w.heap.size + 1) rb := by rw [<- hW0]; exact heap_alloc_at (by simp)
 have HB0 : Hid (Below w.heap.size w W0) := by unfold Hid; rw [<- hW0]; exact ((Below.refl _ _).alloc (Nat.le_refl _) _).alloc (by simp) _
 have HW := Lib.hid hW0
 clear ha hb oa ob sa sb hU hD hN hX hY HAH hW0
 obtain ⟨an, ak, am, aS, apl, anl, acl, apm, anm, acm⟩ := ra
 obtain ⟨bn, bk, bm, bS, bpl, bnl, bcl, bpm, bnm, bcm⟩ := rb
 dsimp only [RV.val, RM.val, RV.zero, encM, encV, List.cons_append, List.nil_append] at *
 unfold createdN at HGA HGB
 obtain ⟨q, hq⟩ : ∃ q, (an.toList == bn.toList) = q := ⟨_, rfl⟩
 go_enter Tryz.func3, Tryz.ntmps3
 go_upto_region 1 with fail
 have hW := HW.out
 dsimp only [RM.ooj] at hW
 try rw [hW]
 clear hW HW
 have hzA := hA0.lt
 have hzB := hB0.lt
 obtain ⟨a0, a1, a2, a3, a4, a5⟩ := hA0.cells6
 obtain ⟨b0, b1, b2, b3, b4, b5⟩ := hB0.cells6
 dsimp only at a0 a1 a2 a3 a4 a5 b0 b1 b2 b3 b4 b5
 clear hA0 hB0
 cases q with
 | true =>
   go_wp2_with (first
    | (have hh := hb2; go_at_call 11; (with_reducible refine (HAW.out _).mono ?_); rintro e w3 ⟨rfl, hb3⟩)
    | (go_at_call 11; (with_reducible refine (HAW.out _).mono ?_); rintro e w1 ⟨rfl, hb1⟩; (have c0 := bcs hb1 hzA a0); (have c1 := bcs hb1 hzA a1); (have c2 := bcs hb1 hzA a2); (have c3 := bcs hb1 hzA a3); (have c4 := bcs hb1 hzA a4); (have c5 := bcs hb1 hzA a5); (have d0 := bcs hb1 hzB b0); (have d1 := bcs hb1 hzB b1); (have d2 := bcs hb1 hzB b2); (have d3 := bcs hb1 hzB b3); (have d4 := bcs hb1 hzB b4); (have d5 := bcs hb1 hzB b5))
    | (go_at_call 12; (have hbX := hb1.alloc hb1.size (.cells #[.string an, .int .i64 ak, .int .i64 am, .string aS, .slice apl anl acl, .slice apm anm acm, .string bn, .int .i64 bk, .int .i64 bm, .string bS, .slice bpl bnl bcl, .slice bpm bnm bcm] 27)); (have H1 := HFE.out _ w1.heap.size (HB0.out.trans (hbX.mono HB0.out.size)) (heap_alloc_at rfl)); (with_reducible refine H1.mono ?_); rintro e w2 ⟨y, rfl, hb2'⟩; (have hb2 := hbX.trans (hb2'.mono hbX.size)); (have e0 := bcs hb2 hzA a0); (have f0 := bcs hb2 hzB b0); cases y)
    | fail)
   all_goals go_ret
   all_goals exact ⟨rfl, HB0.out.trans ((hb2.trans (hb3.mono hb2.size)).mono HB0.out.size)⟩
 | false =>
   cases d
   all_goals
    go_wp2_with (first
     | (have hh := hb2; go_at_call 11; (with_reducible refine (HAW.out _).mono ?_); rintro e w3 ⟨rfl, hb3⟩)
     | (go_at_call 11; (with_reducible refine (HAW.out _).mono ?_); rintro e w1 ⟨rfl, hb1⟩; (have c0 := bcs hb1 hzA a0); (have c1 := bcs hb1 hzA a1); (have c2 := bcs hb1 hzA a2); (have c3 := bcs hb1 hzA a3); (have c4 := bcs hb1 hzA a4); (have c5 := bcs hb1 hzA a5); (have d0 := bcs hb1 hzB b0); (have d1 := bcs hb1 hzB b1); (have d2 := bcs hb1 hzB b2); (have d3 := bcs hb1 hzB b3); (have d4 := bcs hb1 hzB b4); (have d5 := bcs hb1 hzB b5))
     | (go_at_call 12; (have hbX := hb1.alloc hb1.size (.cells #[.string an, .int .i64 ak, .int .i64 am, .string aS, .slice apl anl acl, .slice apm anm acm, .string bn, .int .i64 bk, .int .i64 bm, .string bS, .slice bpl bnl bcl, .slice bpm bnm bcm] 27)); (have H1 := HFE.out _ w1.heap.size (HB0.out.trans (hbX.mono HB0.out.size)) (heap_alloc_at rfl)); (with_reducible refine H1.mono ?_); rintro e w2 ⟨y, rfl, hb2'⟩; (have hb2 := hbX.trans (hb2'.mono hbX.size)); (have e0 := bcs hb2 hzA a0); (have f0 := bcs hb2 hzB b0); cases y)
     | fail)
    ·go_ret
     exact ⟨rfl, HB0.out.trans ((hb2.trans (hb3.mono hb2.size)).mono HB0.out.size)⟩
    clear HAW HFE c0 c1 c2 c3 c4 c5 d0 d1 d2 d3 d4 d5 e0 f0
    first
     | (obtain ⟨W7, hW7⟩ : ∃ W, w2.alloc (.cells #[.string ⟨#[110, 97, 109, 101, 47, 115, 117, 114, 110, 97, 109, 101]⟩] 9) = W := ⟨_, rfl⟩
        rw [hW7])
     | (obtain ⟨W7, hW7⟩ : ∃ W, w2.alloc (.cells #[.string ⟨#[99, 114, 101, 97, 116, 101, 100]⟩] 9) = W := ⟨_, rfl⟩
        rw [hW7])
    have hp7 : W7.cell? ⟨w2.heap.size, 0, none⟩ = some (.string P) := by rw [<- hW7, <- HP.out]; exact (cell_of_row _ _ 0 _ _ _ (heap_alloc_at rfl)).trans rfl
    have hB7 : Below W0.heap.size W0 W7 := by rw [<- hW7]; exact hb2.alloc hb2.size _
    obtain ⟨g7, hg7⟩ : ∃ g, w2.heap.size = g := ⟨_, rfl⟩
    rw [hg7] at hp7
    try rw [hg7]
    have hgl7 := (cell_some hp7).2
    have hz7 := hB7.size
    have s0 := bcs hB7 hzA a0
    have s1 := bcs hB7 hzA a1
    have s2 := bcs hB7 hzA a2
    have s3 := bcs hB7 hzA a3
    have s4 := bcs hB7 hzA a4
    have s5 := bcs hB7 hzA a5
    have t0 := bcs hB7 hzB b0
    have t1 := bcs hB7 hzB b1
    have t2 := bcs hB7 hzB b2
    have t3 := bcs hB7 hzB b3
    have t4 := bcs hB7 hzB b4
    have t5 := bcs hB7 hzB b5
    have HB7 : Hid (Below w.heap.size w W7) := HB0.out.trans (hB7.mono HB0.out.size)
    have hzA7 := Nat.lt_of_lt_of_le hzA hz7
    have hzB7 := Nat.lt_of_lt_of_le hzB hz7
    have HS1D := Lib.hid (HS1.out W7.drew g7 hgl7 hp7)
    have hw7 := HB7.out.size
    clear hW7 hg7 hb1 hb2 hb2' hbX hB7 H1 a0 a1 a2 a3 a4 a5 b0 b1 b2 b3 b4 b5 HB0
    go_upto_region 7 with fail
    go_cut [9] from 36 to 40 (fun v wx => v = .bool U /\ Below W7.heap.size W7 wx)
    case first =>
     go_region_held3 (fun w' => Below W7.heap.size W7 w' /\ ∀ b o, b < W7.heap.size -> w'.cell? ⟨b, o, none⟩ = W7.cell? ⟨b, o, none⟩)
      (first | with_reducible exact kt_drew W7 | with_reducible exact kt_same hbk2 | with_reducible exact kt_same hbk1)
      (first
       | (have hh := hbk1; go_at_call 14; (with_reducible refine (HUP.out r8 _ hw8 ht1).mono ?_); rintro e w9 ⟨rfl, hb9⟩; (have hbk2 := KB.step (W := W7) hbk1 hb9))
       | (go_at_call 13; (with_reducible refine HS1D.out.mono ?_); rintro e w8 ⟨r8, rfl, ht1, hb8⟩; (have hbk1 := KB.step (W := W7) (KB.drew W7) hb8); (have hw8 : Below w.heap.size w w8 := HB7.out.trans (((show Below W7.heap.size W7 W7.drew from (Below.refl _ _).drew).trans hb8).mono hw7)))
       | fail)
     all_goals go_wp2_with fail
     all_goals go_meet
     all_goals exact ⟨rfl, (show _ /\ _ from hbk2).1⟩
    case rest =>
    obtain ⟨rfl, hbc⟩ := hcut
    obtain ⟨W8, rfl⟩ : ∃ W, W = wc := ⟨_, rfl⟩
    have k0 := bcs hbc hzA7 s0
    have k1 := bcs hbc hzA7 s1
    have k2 := bcs hbc hzA7 s2
    have k3 := bcs hbc hzA7 s3
    have k4 := bcs hbc hzA7 s4
    have k5 := bcs hbc hzA7 s5
    have l0 := bcs hbc hzB7 t0
    have l1 := bcs hbc hzB7 t1
    have l2 := bcs hbc hzB7 t2
    have l3 := bcs hbc hzB7 t3
    have l4 := bcs hbc hzB7 t4
    have l5 := bcs hbc hzB7 t5
    have hp8 := bcs hbc hgl7 hp7
    have hz8 := hbc.size
    have HB8 : Hid (Below w.heap.size w W8) := HB7.out.trans (hbc.mono hw7)
    have hzA8 := Nat.lt_of_lt_of_le hzA7 hz8
    have hzB8 := Nat.lt_of_lt_of_le hzB7 hz8
    have hgl8 := Nat.lt_of_lt_of_le hgl7 hz8
    have hw8' := HB8.out.size
    have HS0D := Lib.hid (HS0.out W8.drew g7 hgl8 hp8)
    clear s0 s1 s2 s3 s4 s5 t0 t1 t2 t3 t4 t5 hp7 hgl7 hzA7 hzB7 HS1D hbc hz7 hz8 HB7
    go_upto_region 8 with fail
    go_cut [10] from 41 to 45 (fun v wx => v = .bool D /\ Below W8.heap.size W8 wx)
    case first =>
     go_region_held3 (fun w' => Below W8.heap.size W8 w' /\ ∀ b o, b < W8.heap.size -> w'.cell? ⟨b, o, none⟩ = W8.cell? ⟨b, o, none⟩)
      (first | with_reducible exact kt_drew W8 | with_reducible exact kt_same hbk2 | with_reducible exact kt_same hbk1)
      (first
       | (have hh := hbk1; go_at_call 14; (with_reducible refine (HDN.out r9 _ hw9 ht1).mono ?_); rintro e w10 ⟨rfl, hb10⟩; (have hbk2 := KB.step (W := W8) hbk1 hb10))
       | (go_at_call 13; (with_reducible refine HS0D.out.mono ?_); rintro e w9 ⟨r9, rfl, ht1, hb9⟩; (have hbk1 := KB.step (W := W8) (KB.drew W8) hb9); (have hw9 : Below w.heap.size w w9 := HB8.out.trans (((show Below W8.heap.size W8 W8.drew from (Below.refl _ _).drew).trans hb9).mono hw8')))
       | fail)
     all_goals go_wp2_with fail
     all_goals go_meet
     all_goals exact ⟨rfl, (show _ /\ _ from hbk2).1⟩
    case rest =>
    obtain ⟨rfl, hbc⟩ := hcut
    obtain ⟨W9, rfl⟩ : ∃ W, W = wc := ⟨_, rfl⟩
    have s0 := bcs hbc hzA8 k0
    have s1 := bcs hbc hzA8 k1
    have s2 := bcs hbc hzA8 k2
    have s3 := bcs hbc hzA8 k3
    have s4 := bcs hbc hzA8 k4
    have s5 := bcs hbc hzA8 k5
    have t0 := bcs hbc hzB8 l0
    have t1 := bcs hbc hzB8 l1
    have t2 := bcs hbc hzB8 l2
    have t3 := bcs hbc hzB8 l3
    have t4 := bcs hbc hzB8 l4
    have t5 := bcs hbc hzB8 l5
    have HB9 : Hid (Below w.heap.size w W9) := HB8.out.trans (hbc.mono hw8')
    have hzA9 := Nat.lt_of_lt_of_le hzA8 hbc.size
    have hzB9 := Nat.lt_of_lt_of_le hzB8 hbc.size
    have hw9' := HB9.out.size
    have HNL9 := Lib.hid (HNL.out W9 HB9.out)
    clear k0 k1 k2 k3 k4 k5 l0 l1 l2 l3 l4 l5 hp8 hgl8 hzA8 hzB8 HS0D hbc HB8 HNL HUP HDN HS1 HS0
    go_upto_region 10 with (go_at_call 14; (with_reducible refine HNL9.out.mono ?_); rintro e w10 ⟨rfl, hb10⟩)
    have k0 := bcs hb10 hzA9 s0
    have k1 := bcs hb10 hzA9 s1
    have k2 := bcs hb10 hzA9 s2
    have k3 := bcs hb10 hzA9 s3
    have k4 := bcs hb10 hzA9 s4
    have k5 := bcs hb10 hzA9 s5
    have l0 := bcs hb10 hzB9 t0
    have l1 := bcs hb10 hzB9 t1
    have l2 := bcs hb10 hzB9 t2
    have l3 := bcs hb10 hzB9 t3
    have l4 := bcs hb10 hzB9 t4
    have l5 := bcs hb10 hzB9 t5
    have HB10 : Hid (Below w.heap.size w w10) := HB9.out.trans (hb10.mono hw9')
    have hzA10 := Nat.lt_of_lt_of_le hzA9 hb10.size
    have hzB10 := Nat.lt_of_lt_of_le hzB9 hb10.size
    have hw10 := HB10.out.size
    have HGA1 := Lib.hid (HGA.out w10 HB10.out)
    clear s0 s1 s2 s3 s4 s5 t0 t1 t2 t3 t4 t5 hzA9 hzB9 hb10 HNL9
    go_upto_region 11 with (go_at_call 15; (with_reducible refine HGA1.out.mono ?_); rintro e w11 ⟨rv, bb, rfl, hbb, ht1, hb1⟩; obtain ⟨rk, rn, rS, rpl, rnl, rcl, rpm, rnm, rcm⟩ := rv)
    have hxx := ht1.kk
    dsimp only at hxx
    have hb11 : Below w10.heap.size w10 (w11.alloc (.cells #[.int .i64 rk, .int .i64 rn, .string rS, .slice rpl rnl rcl, .slice rpm rnm rcm] 25)) := hb1.alloc hb1.size _
    have hv11 : VAt (w11.alloc (.cells #[.int .i64 rk, .int .i64 rn, .string rS, .slice rpl rnl rcl, .slice rpm rnm rcm] 25)) w11.heap.size ⟨rk, rn, rS, rpl, rnl, rcl, rpm, rnm, rcm⟩ := heap_alloc_at rfl
    obtain ⟨g11, hg11⟩ : ∃ g, w11.heap.size = g := ⟨_, rfl⟩
    obtain ⟨W11, hW11⟩ : ∃ W, w11.alloc (.cells #[.int .i64 rk, .int .i64 rn, .string rS, .slice rpl rnl rcl, .slice rpm rnm rcm] 25) = W := ⟨_, rfl⟩
    rw [hW11] at hb11 hv11
    rw [hg11] at hv11
    try rw [hW11]
    try rw [hg11]
    have s0 := bcs hb11 hzA10 k0
    have s1 := bcs hb11 hzA10 k1
    have s2 := bcs hb11 hzA10 k2
    have s3 := bcs hb11 hzA10 k3
    have s4 := bcs hb11 hzA10 k4
    have s5 := bcs hb11 hzA10 k5
    have t0 := bcs hb11 hzB10 l0
    have t1 := bcs hb11 hzB10 l1
    have t2 := bcs hb11 hzB10 l2
    have t3 := bcs hb11 hzB10 l3
    have t4 := bcs hb11 hzB10 l4
    have t5 := bcs hb11 hzB10 l5
    have HB11 : Hid (Below w.heap.size w W11) := HB10.out.trans (hb11.mono hw10)
    have hzA11 := Nat.lt_of_lt_of_le hzA10 hb11.size
    have hzB11 := Nat.lt_of_lt_of_le hzB10 hb11.size
    have hw11 := HB11.out.size
    have HV11 := Lib.hid hv11
    have HGB1 := Lib.hid (HGB.out W11 HB11.out)
    have HXX := Lib.hid hxx
    clear k0 k1 k2 k3 k4 k5 l0 l1 l2 l3 l4 l5 hzA10 hzB10 hb11 hW11 hg11 hb1 ht1 hv11 hxx hbb HGA1 HGA
    go_upto_region 12 with (go_at_call 15; (with_reducible refine HGB1.out.mono ?_); rintro e w12 ⟨rv, b2, rfl, hbb, ht1, hb1⟩; obtain ⟨qk, qn, qS, qpl, qnl, qcl, qpm, qnm, qcm⟩ := rv)
    have hyy := ht1.kk
    dsimp only at hyy
    have hb12 : Below W11.heap.size W11 (w12.alloc (.cells #[.int .i64 qk, .int .i64 qn, .string qS, .slice qpl qnl qcl, .slice qpm qnm qcm] 25)) := hb1.alloc hb1.size _
    have hv12 : VAt (w12.alloc (.cells #[.int .i64 qk, .int .i64 qn, .string qS, .slice qpl qnl qcl, .slice qpm qnm qcm] 25)) w12.heap.size ⟨qk, qn, qS, qpl, qnl, qcl, qpm, qnm, qcm⟩ := heap_alloc_at rfl
    have hv112 : VAt (w12.alloc (.cells #[.int .i64 qk, .int .i64 qn, .string qS, .slice qpl qnl qcl, .slice qpm qnm qcm] 25)) g11 ⟨rk, rn, rS, rpl, rnl, rcl, rpm, rnm, rcm⟩ := HV11.out.under hb12 HV11.out.lt
    obtain ⟨g12, hg12⟩ : ∃ g, w12.heap.size = g := ⟨_, rfl⟩
    obtain ⟨W12, hW12⟩ : ∃ W, w12.alloc (.cells #[.int .i64 qk, .int .i64 qn, .string qS, .slice qpl qnl qcl, .slice qpm qnm qcm] 25) = W := ⟨_, rfl⟩
    rw [hW12] at hb12 hv12 hv112
    rw [hg12] at hv12
    try rw [hW12]
    try rw [hg12]
    have k0 := bcs hb12 hzA11 s0
    have k1 := bcs hb12 hzA11 s1
    have k2 := bcs hb12 hzA11 s2
    have k3 := bcs hb12 hzA11 s3
    have k4 := bcs hb12 hzA11 s4
    have k5 := bcs hb12 hzA11 s5
    have l0 := bcs hb12 hzB11 t0
    have l1 := bcs hb12 hzB11 t1
    have l2 := bcs hb12 hzB11 t2
    have l3 := bcs hb12 hzB11 t3
    have l4 := bcs hb12 hzB11 t4
    have l5 := bcs hb12 hzB11 t5
    have HB12 : Hid (Below w.heap.size w W12) := HB11.out.trans (hb12.mono hw11)
    have x0 := hv112.cell 0 rfl
    have x2 := hv112.cell 2 rfl
    have y0 := hv12.cell 0 rfl
    have y2 := hv12.cell 2 rfl
    dsimp only at x0 x2 y0 y2
    have HYY := Lib.hid hyy
    clear s0 s1 s2 s3 s4 s5 t0 t1 t2 t3 t4 t5 hzA11 hzB11 hb12 hW12 hg12 hb1 ht1 hv12 hv112 hyy hbb HGB1 HGB k1 k2 k3 k4 k5 l1 l2 l3 l4 l5
    go_cut [95] from 62 to 95 (fun v wx => v = .bool false /\ W12 = wx)
    case first =>
     first
      | (go_wp2_with fail
         go_meet
         exact ⟨rfl, rfl⟩)
      | (by_cases h4 : rk = 4
         ·by_cases h5 : qk = 4
          ·have hta : textM a.2 createdN = [rS] := by rw [HTA.out, <- HXX.out.1, if_pos h4, HXX.out.2]
           have htb : textM b.2 createdN = [qS] := by rw [HTB.out, <- HYY.out.1, if_pos h5, HYY.out.2]
           have hsa : rS.size <= maxLen := by have := HSA.out; rw [HXX.out.2]; unfold maxLen; omega
           have hsb : qS.size <= maxLen := by have := HSB.out; rw [HYY.out.2]; unfold maxLen; omega
           have HCM := Lib.hid (rscomp_any rS qS W12 hsa hsb)
           have hfd := HFD.out rS qS hta htb
           obtain ⟨C, hC⟩ : ∃ C, cmpS rS.data.toList qS.data.toList = C := ⟨_, rfl⟩
           rw [hC] at HCM hfd
           subst h4 h5
           clear hta htb hsa hsb hC HFD HFW hlss
           by_cases hc : C = 0
           ·subst hc
            go_wp2_with (go_at_call 16; (with_reducible refine HCM.out.mono ?_); rintro e w13 ⟨rfl, rfl⟩)
            go_meet
            exact ⟨rfl, rfl⟩
           ·obtain ⟨e1, e2⟩ := hfd hc (by trivial)
            have n1 : (C != 0) = true := by simpa using hc
            have n2 : (C == 0) = false := by simpa using hc
            obtain ⟨cl, hcl⟩ : ∃ c, decide (C < 0) = c := ⟨_, rfl⟩
            rw [hcl] at e1 e2
            subst e1 e2
            clear hc
            cases U
            all_goals
             go_wp2_with (go_at_call 16; (with_reducible refine HCM.out.mono ?_); rintro e w13 ⟨rfl, rfl⟩)
             go_meet
             exact ⟨rfl, rfl⟩
          ·have n5 : (qk == 4) = false := by simpa using h5
           subst h4
           go_wp2_with fail
           go_meet
           exact ⟨rfl, rfl⟩
         ·have n4 : (rk == 4) = false := by simpa using h4
          go_wp2_with fail
          go_meet
          exact ⟨rfl, rfl⟩)
    case rest =>
    obtain ⟨rfl, rfl⟩ := hcut
    have hfw := HFW.out
    cases U <;> cases D <;> cases N
    all_goals first
     | (exfalso; revert hfw; decide)
     | (clear hfw
        go_wp2_with fail
        go_ret
        exact ⟨rfl, HB12.out⟩)
end
end Go.Proofs.YtffhccmppdgmfaaGreatDoor
