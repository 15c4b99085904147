import Derived.Test.YtfgjimpmpckgpaaGreatDoorSg33
import Derived.Test.YtfgjimpmpckgpaaGreatDoorSg38
import Derived.Test.YtfgjimpmpckgpaaGreatDoorSg39
import Derived.Test.YtfgjimpmpckgpaaGreatDoorSg40
import Derived.Test.YtfgjimpmpckgpaaGreatDoorSg45
set_option linter.unusedSimpArgs false
set_option linter.unusedVariables false
set_option maxRecDepth 200000
set_option maxHeartbeats 8000000
namespace Go.Proofs.YtfgjimpmpckgpaaGreatDoor
section
open Go Go.RowKit Go.OpenShut
theorem rightOf {a : AcD} (h : FewAcR a) (book : Bool) : RightBx (a.box book) := by
 cases book
 ·exact h.2.1
 ·exact h.2.2.1
theorem leafJ_len (k n : Int) (s : ByteArray) : (JV.mk k n s [] []).LenOk := .mk (by decide) (by decide) (fun i x h => by simp at h) (fun i x h => by simp at h)
theorem textsJ_len {l : List ByteArray} (h : l.length <= 1000) : (listJ (l.map textJ)).LenOk := by
 refine .mk (by rw [List.length_map]; omega) (by decide) (fun i x hx => ?_) (fun i x h => by simp at h)
 obtain ⟨s, _, rfl⟩ := List.mem_map.1 (List.mem_of_getElem? hx)
 exact leafJ_len 4 0 s
theorem chgJ_len {aid : ByteArray} {card : Bool} {old : JV} {c : ChD} (ho : old.LenOk) (h1 : c.made.length <= 1000) (h2 : c.chgd.length <= 1000) (h3 : c.gone.length <= 1000) : (chgJ aid card old c).LenOk := by
 refine .mk (by decide) (show 7 <= 1466015503658 by decide) (fun i x h => by simp at h) (fun i p hp => ?_)
 have hm := List.mem_of_getElem? hp
 simp only [List.mem_cons, List.not_mem_nil, or_false] at hm
 rcases hm with rfl | rfl | rfl | rfl | rfl | rfl | rfl
 ·exact leafJ_len 4 0 _
 ·exact ho
 ·exact leafJ_len 4 0 _
 ·exact leafJ_len 2 _ _
 ·exact textsJ_len h1
 ·exact textsJ_len h2
 ·exact textsJ_len h3
theorem chgT_len {aid : ByteArray} {known card : Bool} {b : BoxD} {t : JV} (hr : RightBx b) (ot : t.Ok) : (chgT aid known card b t).LenOk := by
 unfold chgT
 split
 ·cases hc : chgO b card (argS t).s (argX t).n with
  | none => exact leafJ_len 0 0 _
  | some d =>
    unfold chgO at hc
    cases hs : seqI card (argS t).s with
    | none => rw [hs] at hc; cases hc
    | some n =>
      rw [hs, Option.bind_some] at hc
      obtain ⟨_, _, h1, h2, h3⟩ := chgN_safe hr hc
      exact chgJ_len (argG_ok ot _).len h1 h2 h3
 ·exact leafJ_len 0 0 _
theorem fetchChanges_any (a : AcD) (r : RAc) (known book : Bool) (t : JV) (q : RV) (w : World) (hV : Vars w) (ha : AcOf w w.heap.size a r) (hid : a.id.size <= 140737488351232) (oc : a.cards.Ok) (ob : a.books.Ok) (ht : TreeOf w w.heap.size t q) (ot : t.Ok) :
 Calls Tryz.prog 3 #[RAc.val r, .bool known, .bool book, RV.val q] w fun e w' => e = .returned (.bool true) /\ Below w.heap.size w w' := by
 obtain ⟨qk, qn, qs, qpl, qnl, qcl, qpm, qnm, qcm⟩ := q
 dsimp only [RV.val] at *
 obtain ⟨W0, hW0⟩ : ∃ W0, (w.alloc (RAc.obj r)).alloc (.cells #[.int .i64 qk, .int .i64 qn, .string qs, .slice qpl qnl qcl, .slice qpm qnm qcm] 31) = W0 := ⟨_, rfl⟩
 have hA0 : W0.heap[w.heap.size]? = some (RAc.obj r) := by rw [<- hW0]; exact heap_alloc_lt (by simp) (heap_alloc_at rfl)
 have hV0 : VAt W0 (w.heap.size + 1) ⟨qk, qn, qs, qpl, qnl, qcl, qpm, qnm, qcm⟩ := by rw [<- hW0]; exact heap_alloc_at (by simp)
 have hB0 : Below w.heap.size w W0 := by rw [<- hW0]; exact below2 w _ _
 have CA : Hid (∀ W, Below w.heap.size w W -> Calls Tryz.prog 5 #[] W fun e w' => e = .returned (.bool true) /\ Below W.heap.size W w') := fun W hb => awake26N_any W (hV.below hb)
 have CL : Hid (∀ W, Below w.heap.size w W -> Calls Tryz.prog 6 #[RAc.val r, .agg #[.int .i64 qk, .int .i64 qn, .string qs, .slice qpl qnl qcl, .slice qpm qnm qcm]] W (LawFewR W a t)) := fun W hb => lawFewR_any a r t ⟨qk, qn, qs, qpl, qnl, qcl, qpm, qnm, qcm⟩ W (ha.under hb hb.size) oc ob (ht.under hb hb.size) ot
 obtain ⟨kd, hkd⟩ : ∃ k, kindB book = k := ⟨_, rfl⟩
 obtain ⟨wy, hwy⟩ : ∃ x, chgWhy known (!book) (a.box book) t = x := ⟨_, rfl⟩
 obtain ⟨T, hT⟩ : ∃ x, chgT a.id known (!book) (a.box book) t = x := ⟨_, rfl⟩
 have CK : Hid (∀ W, Calls Tryz.prog 8 #[.bool book] W fun e w' => e = .returned (.int .i64 kd) /\ Below W.heap.size W w') := fun W => (kind26_any book W).mono (fun e w' h => ⟨by rw [h.1, <- hkd]; rfl, by rw [h.2]; exact Below.refl _ _⟩)
 have CG : Hid (FewAcR a -> ∀ (W : World) (B : Nat), B <= W.heap.size -> Below w.heap.size w W -> w.heap.size <= B -> Calls Tryz.prog 7 #[.agg #[.string r.id, .slice r.cards.po r.cards.no r.cards.co, .slice r.cards.pt r.cards.nt r.cards.ct, .int .i64 r.cards.sq, .int .i64 r.cards.fl, .int .i64 r.cards.kp, .slice r.books.po r.books.no r.books.co, .slice r.books.pt r.books.nt r.books.ct, .int .i64 r.books.sq, .int .i64 r.books.fl, .int .i64 r.books.kp, .int .i64 r.next], .bool known, .int .i64 kd, .agg #[.int .i64 qk, .int .i64 qn, .string qs, .slice qpl qnl qcl, .slice qpm qnm qcm]] W fun e w' => ∃ rk rn rs rpl rnl rcl rpm rnm rcm, e = .returned (.tuple #[.agg #[.int .i64 rk, .int .i64 rn, .string rs, .slice rpl rnl rcl, .slice rpm rnm rcm], .string wy]) /\ TreeS w' (fun k => k < w'.heap.size /\ (k < B \/ W.heap.size <= k)) T ⟨rk, rn, rs, rpl, rnl, rcl, rpm, rnm, rcm⟩ /\ Below W.heap.size W w') := fun hf W B hB hb hw => by
  have h := fchgB_any a r known book t ⟨qk, qn, qs, qpl, qnl, qcl, qpm, qnm, qcm⟩ W B hB (hV.below hb) ⟨ha.id, ha.cards.under hb hw, ha.books.under hb hw⟩ oc ob (rightOf hf book) (ht.under hb hw) ot
  rw [hkd] at h
  exact h.mono (fun e w' h => by
   obtain ⟨rr, he, h1, h2⟩ := h
   rw [hwy] at he
   rw [hT] at h1
   exact ⟨_, _, _, _, _, _, _, _, _, he, h1, h2⟩)
 have CR : Hid (FewAcR a -> OwnM t -> ∀ (W : World) (B : Nat), B <= W.heap.size -> Below w.heap.size w W -> w.heap.size <= B -> Calls Tryz.prog 9 #[.agg #[.string r.id, .slice r.cards.po r.cards.no r.cards.co, .slice r.cards.pt r.cards.nt r.cards.ct, .int .i64 r.cards.sq, .int .i64 r.cards.fl, .int .i64 r.cards.kp, .slice r.books.po r.books.no r.books.co, .slice r.books.pt r.books.nt r.books.ct, .int .i64 r.books.sq, .int .i64 r.books.fl, .int .i64 r.books.kp, .int .i64 r.next], .bool known, .int .i64 kd, .agg #[.int .i64 qk, .int .i64 qn, .string qs, .slice qpl qnl qcl, .slice qpm qnm qcm]] W fun e w' => ∃ rk rn rs rpl rnl rcl rpm rnm rcm, e = .returned (.tuple #[.agg #[.int .i64 rk, .int .i64 rn, .string rs, .slice rpl rnl rcl, .slice rpm rnm rcm], .string wy]) /\ TreeS w' (fun k => k < w'.heap.size /\ (k < B \/ W.heap.size <= k)) T ⟨rk, rn, rs, rpl, rnl, rcl, rpm, rnm, rcm⟩ /\ Below W.heap.size W w') := fun hf ho W B hB hb hw => by
  have h := rchgB_any a r known book t ⟨qk, qn, qs, qpl, qnl, qcl, qpm, qnm, qcm⟩ W B hB ⟨ha.id, ha.cards.under hb hw, ha.books.under hb hw⟩ oc ob (rightOf hf book) (ht.under hb hw) ot
  rw [hkd] at h
  exact h.mono (fun e w' h => by
   obtain ⟨rr, he, h1, h2⟩ := h
   rw [hwy] at he
   rw [hT] at h1
   exact ⟨_, _, _, _, _, _, _, _, _, he, h1, h2⟩)
 have COK : Hid (FewAcR a -> T.LenOk) := fun hf => by
  rw [<- hT]
  exact chgT_len (rightOf hf book) ot
 have HW := Lib.hid hW0
 have HB0 := Lib.hid hB0
 have HA0 := Lib.hid hA0
 have HV0 := Lib.hid hV0
 have hz : w.heap.size < W0.heap.size := (Array.getElem?_eq_some_iff.1 hA0).1
 have hz1 : w.heap.size + 1 < W0.heap.size := hV0.lt
 obtain ⟨a0, a1, a2, a3, a4, a5, a6, a7, a8, a9, a10, a11⟩ := RAc.cells12 hA0
 obtain ⟨c0, c1, c2, c3, c4⟩ := hV0.cells5
 dsimp only at c0 c1 c2 c3 c4
 clear hW0 hA0 hV0 hV ha hid oc ob ht ot hkd hwy hT
 go_enter Tryz.func3, Tryz.ntmps3
 go_upto_region 1 with fail
 rw [HW.out]
 clear HW
 go_cut [20] from 13 to 20 (fun v wr => ∃ b, v = .bool b /\ Hid ((b = false -> FewAcR a /\ OwnM t) /\ Below W0.heap.size W0 wr))
 case first =>
  go_wp2_with (first
   | (go_at_call 5; refine (CA.out _ HB0.out).mono ?_; rintro e w1 ⟨rfl, hb1⟩; (have a0 := bcs hb1 hz a0); (have a1 := bcs hb1 hz a1); (have a2 := bcs hb1 hz a2); (have a3 := bcs hb1 hz a3); (have a4 := bcs hb1 hz a4); (have a5 := bcs hb1 hz a5); (have a6 := bcs hb1 hz a6); (have a7 := bcs hb1 hz a7); (have a8 := bcs hb1 hz a8); (have a9 := bcs hb1 hz a9); (have a10 := bcs hb1 hz a10); (have a11 := bcs hb1 hz a11); (have c0 := bcs hb1 hz1 c0); (have c1 := bcs hb1 hz1 c1); (have c2 := bcs hb1 hz1 c2); (have c3 := bcs hb1 hz1 c3); (have c4 := bcs hb1 hz1 c4))
   | (go_at_call 6; refine (CL.out _ (HB0.out.trans (hb1.mono HB0.out.size))).mono ?_; rintro e w2 ⟨y, rfl, hy, hb2⟩; cases y))
  all_goals
   go_meet
   refine ⟨_, rfl, fun hb => ?_, hb1.trans (hb2.mono hb1.size)⟩
   first
    | (cases hb; done)
    | exact hy.out (by trivial)
 case rest =>
 obtain ⟨b, rfl, hx⟩ := hcut
 have HBC : Hid (Below W0.heap.size W0 wc) := hx.out.2
 have HFW : Hid (b = false -> FewAcR a /\ OwnM t) := hx.out.1
 have HBWC : Hid (Below w.heap.size w wc) := HB0.out.trans (HBC.out.mono HB0.out.size)
 clear hx CL
 obtain ⟨Wb, rfl⟩ : ∃ W, W = wc := ⟨_, rfl⟩
 cases b
 ·have hfw := HFW.out rfl
  have CG2 : Hid (∀ (W : World) (B : Nat), B <= W.heap.size -> Below w.heap.size w W -> w.heap.size <= B -> Calls Tryz.prog 7 #[.agg #[.string r.id, .slice r.cards.po r.cards.no r.cards.co, .slice r.cards.pt r.cards.nt r.cards.ct, .int .i64 r.cards.sq, .int .i64 r.cards.fl, .int .i64 r.cards.kp, .slice r.books.po r.books.no r.books.co, .slice r.books.pt r.books.nt r.books.ct, .int .i64 r.books.sq, .int .i64 r.books.fl, .int .i64 r.books.kp, .int .i64 r.next], .bool known, .int .i64 kd, .agg #[.int .i64 qk, .int .i64 qn, .string qs, .slice qpl qnl qcl, .slice qpm qnm qcm]] W fun e w' => ∃ rk rn rs rpl rnl rcl rpm rnm rcm, e = .returned (.tuple #[.agg #[.int .i64 rk, .int .i64 rn, .string rs, .slice rpl rnl rcl, .slice rpm rnm rcm], .string wy]) /\ TreeS w' (fun k => k < w'.heap.size /\ (k < B \/ W.heap.size <= k)) T ⟨rk, rn, rs, rpl, rnl, rcl, rpm, rnm, rcm⟩ /\ Below W.heap.size W w') := CG.out hfw.1
  have CR2 : Hid (∀ (W : World) (B : Nat), B <= W.heap.size -> Below w.heap.size w W -> w.heap.size <= B -> Calls Tryz.prog 9 #[.agg #[.string r.id, .slice r.cards.po r.cards.no r.cards.co, .slice r.cards.pt r.cards.nt r.cards.ct, .int .i64 r.cards.sq, .int .i64 r.cards.fl, .int .i64 r.cards.kp, .slice r.books.po r.books.no r.books.co, .slice r.books.pt r.books.nt r.books.ct, .int .i64 r.books.sq, .int .i64 r.books.fl, .int .i64 r.books.kp, .int .i64 r.next], .bool known, .int .i64 kd, .agg #[.int .i64 qk, .int .i64 qn, .string qs, .slice qpl qnl qcl, .slice qpm qnm qcm]] W fun e w' => ∃ rk rn rs rpl rnl rcl rpm rnm rcm, e = .returned (.tuple #[.agg #[.int .i64 rk, .int .i64 rn, .string rs, .slice rpl rnl rcl, .slice rpm rnm rcm], .string wy]) /\ TreeS w' (fun k => k < w'.heap.size /\ (k < B \/ W.heap.size <= k)) T ⟨rk, rn, rs, rpl, rnl, rcl, rpm, rnm, rcm⟩ /\ Below W.heap.size W w') := CR.out hfw.1 hfw.2
  have HTO : Hid T.LenOk := COK.out hfw.1
  clear hfw CG CR COK CA
  have hbz := HBC.out
  have a0 := bcs hbz hz a0
  have a1 := bcs hbz hz a1
  have a2 := bcs hbz hz a2
  have a3 := bcs hbz hz a3
  have a4 := bcs hbz hz a4
  have a5 := bcs hbz hz a5
  have a6 := bcs hbz hz a6
  have a7 := bcs hbz hz a7
  have a8 := bcs hbz hz a8
  have a9 := bcs hbz hz a9
  have a10 := bcs hbz hz a10
  have a11 := bcs hbz hz a11
  have c0 := bcs hbz hz1 c0
  have c1 := bcs hbz hz1 c1
  have c2 := bcs hbz hz1 c2
  have c3 := bcs hbz hz1 c3
  have c4 := bcs hbz hz1 c4
  have hzb : w.heap.size < Wb.heap.size := Nat.lt_of_lt_of_le hz hbz.size
  have hzb1 : w.heap.size + 1 < Wb.heap.size := Nat.lt_of_lt_of_le hz1 hbz.size
  have hww : w.heap.size <= Wb.heap.size := by omega
  clear hbz
  go_upto_region 3 with fail
  have HZA : Hid (VAt (Wb.alloc (.cells #[.int .i64 0, .int .i64 0, .string ⟨#[]⟩, .slice none 0 0, .slice none 0 0] 31)).drew Wb.heap.size RV.zero) := heap_alloc_at rfl
  have hk0 := KB.drew Wb
  have hkA : KB Wb.heap.size Wb (Wb.alloc (.cells #[.int .i64 0, .int .i64 0, .string ⟨#[]⟩, .slice none 0 0, .slice none 0 0] 31)).drew := kt_da Wb _
  have HSA : Hid (Wb.heap.size < (Wb.alloc (.cells #[.int .i64 0, .int .i64 0, .string ⟨#[]⟩, .slice none 0 0, .slice none 0 0] 31)).drew.heap.size) := by unfold Hid; simp [World.drew]
  go_cut [9, 10] from 23 to 30 (fun v s wr => ∃ (g : Nat) (rv : RV), v = .pointer (some ⟨g, 0, none⟩) /\ s = .string wy /\ Hid (GtR Wb T g rv wr))
  case first =>
   go_region_held3 (fun w' => Below Wb.heap.size Wb w' /\ ∀ b o, b < Wb.heap.size -> w'.cell? ⟨b, o, none⟩ = Wb.cell? ⟨b, o, none⟩)
    (first | with_reducible exact kt_drew Wb | with_reducible exact kt_same hbk | with_reducible exact kt_alloc hbk _ | with_reducible exact kt_da Wb _ | with_reducible exact kt_setV hbk _ ⟨rk, rn, rs, rpl, rnl, rcl, rpm, rnm, rcm⟩ (Nat.le_refl _) | with_reducible exact kt_setV hbk _ ⟨rk, rn, rs, rpl, rnl, rcl, rpm, rnm, rcm⟩ hs8)
    (first
     | (go_at_call 7; refine (CG2.out _ Wb.heap.size (kb1 (by assumption)).size (KB.fin (by assumption) HBWC.out hww) hww).mono ?_; rintro e w9 ⟨rk, rn, rs, rpl, rnl, rcl, rpm, rnm, rcm, rfl, hT9, hb9⟩; (have hbk := KB.step (W := Wb) (by assumption) hb9); (have HX := Lib.hid (And.intro hT9 hbk.1)); (have hsw9 := hb9.size); (first | ((have HZ9 := Lib.hid (HZ8.out.under hb9 HZ8.out.lt)); (have HS9 := HS8.out); (obtain ⟨z0, z1, z2, z3, z4⟩ := HZ9.out.cells5); (have y0 := HZ9.out.frozen 0); (have y1 := HZ9.out.frozen 1); (have y2 := HZ9.out.frozen 2); (have y3 := HZ9.out.frozen 3); (have y4 := HZ9.out.frozen 4); dsimp only [RV.zero] at z0 z1 z2 z3 z4) | ((have HZ8' : VAt (w8.alloc (.cells #[.int .i64 0, .int .i64 0, .string ⟨#[]⟩, .slice none 0 0, .slice none 0 0] 31)) w8.heap.size RV.zero := heap_alloc_at rfl); (have HZ9 := Lib.hid (HZ8'.under hb9 (by simp))); (obtain ⟨z0, z1, z2, z3, z4⟩ := HZ9.out.cells5); (have y0 := HZ9.out.frozen 0); (have y1 := HZ9.out.frozen 1); (have y2 := HZ9.out.frozen 2); (have y3 := HZ9.out.frozen 3); (have y4 := HZ9.out.frozen 4); dsimp only [RV.zero] at z0 z1 z2 z3 z4) | skip))
     | (go_at_call 8; refine (CK.out _).mono ?_; rintro e w8 ⟨rfl, hb8⟩; (have hbk := KB.step (W := Wb) (by assumption) hb8); (have hs8 := hbk.1.size); (first | ((have HZ8 := Lib.hid (HZA.out.under hb8 HZA.out.lt)); (have HS8 : Hid (Wb.heap.size < w8.heap.size) := Nat.lt_of_lt_of_le HSA.out hb8.size)) | skip))
     | fail)
   all_goals (
    go_wp2_with fail
    go_meet
    first
     | (have hz := HZ9
        exact ⟨_, ⟨rk, rn, rs, rpl, rnl, rcl, rpm, rnm, rcm⟩, rfl, rfl, GtR.stored HX.out.1 (by have h2 := hsw9; have h4 := hs8; (try simp only [World.alloc, World.drew, Array.size_push] at h2 h4 ⊢); omega) (by have h2 := hsw9; have h4 := hs8; (try (have h5 := HS8.out)); (try simp only [World.alloc, World.drew, Array.size_push] at h2 h4 ⊢); omega) (by have h2 := hsw9; have h4 := hs8; (try simp only [World.alloc, World.drew, Array.size_push] at h2 h4 ⊢); omega) hz.out HX.out.2⟩)
     | exact ⟨_, ⟨rk, rn, rs, rpl, rnl, rcl, rpm, rnm, rcm⟩, rfl, rfl, GtR.fresh HX.out.1 HX.out.2⟩)
  case rest =>
  obtain ⟨g9, rv9, rfl, rfl, hx9⟩ := hcut
  obtain ⟨k9, n9, s9, pl9, nl9, cl9, pm9, nm9, cm9⟩ := rv9
  obtain ⟨Wd, rfl⟩ : ∃ W, W = wc := ⟨_, rfl⟩
  have HX9 := Lib.hid hx9.out
  have HBWD : Hid (Below w.heap.size w Wd) := HBWC.out.trans (HX9.out.below.mono hww)
  have hbz := HX9.out.below
  have a0 := bcs hbz hzb a0
  have a1 := bcs hbz hzb a1
  have a2 := bcs hbz hzb a2
  have a3 := bcs hbz hzb a3
  have a4 := bcs hbz hzb a4
  have a5 := bcs hbz hzb a5
  have a6 := bcs hbz hzb a6
  have a7 := bcs hbz hzb a7
  have a8 := bcs hbz hzb a8
  have a9 := bcs hbz hzb a9
  have a10 := bcs hbz hzb a10
  have a11 := bcs hbz hzb a11
  have c0 := bcs hbz hzb1 c0
  have c1 := bcs hbz hzb1 c1
  have c2 := bcs hbz hzb1 c2
  have c3 := bcs hbz hzb1 c3
  have c4 := bcs hbz hzb1 c4
  have hzd : w.heap.size < Wd.heap.size := Nat.lt_of_lt_of_le hzb hbz.size
  have hzd1 : w.heap.size + 1 < Wd.heap.size := Nat.lt_of_lt_of_le hzb1 hbz.size
  have hwd : w.heap.size <= Wd.heap.size := by omega
  clear hbz hx9 HZA hk0 hkA HSA CG2
  have HZA : Hid (VAt (Wd.alloc (.cells #[.int .i64 0, .int .i64 0, .string ⟨#[]⟩, .slice none 0 0, .slice none 0 0] 31)).drew Wd.heap.size RV.zero) := heap_alloc_at rfl
  have hk0 := KB.drew Wd
  have hkA : KB Wd.heap.size Wd (Wd.alloc (.cells #[.int .i64 0, .int .i64 0, .string ⟨#[]⟩, .slice none 0 0, .slice none 0 0] 31)).drew := kt_da Wd _
  have HSA : Hid (Wd.heap.size < (Wd.alloc (.cells #[.int .i64 0, .int .i64 0, .string ⟨#[]⟩, .slice none 0 0, .slice none 0 0] 31)).drew.heap.size) := by unfold Hid; simp [World.drew]
  go_upto_region 4 with fail
  go_cut [11, 12] from 32 to 39 (fun v s wr => ∃ (g : Nat) (rv : RV), v = .pointer (some ⟨g, 0, none⟩) /\ s = .string wy /\ Hid (GtR Wd T g rv wr))
  case first =>
   go_region_held3 (fun w' => Below Wd.heap.size Wd w' /\ ∀ b o, b < Wd.heap.size -> w'.cell? ⟨b, o, none⟩ = Wd.cell? ⟨b, o, none⟩)
    (first | with_reducible exact kt_drew Wd | with_reducible exact kt_same hbk | with_reducible exact kt_alloc hbk _ | with_reducible exact kt_da Wd _ | with_reducible exact kt_setV hbk _ ⟨rk, rn, rs, rpl, rnl, rcl, rpm, rnm, rcm⟩ (Nat.le_refl _) | with_reducible exact kt_setV hbk _ ⟨rk, rn, rs, rpl, rnl, rcl, rpm, rnm, rcm⟩ hs8)
    (first
     | (go_at_call 9; refine (CR2.out _ Wd.heap.size (kb1 (by assumption)).size (KB.fin (by assumption) HBWD.out hwd) hwd).mono ?_; rintro e w9 ⟨rk, rn, rs, rpl, rnl, rcl, rpm, rnm, rcm, rfl, hT9, hb9⟩; (have hbk := KB.step (W := Wd) (by assumption) hb9); (have HX := Lib.hid (And.intro hT9 hbk.1)); (have hsw9 := hb9.size); (first | ((have HZ9 := Lib.hid (HZ8.out.under hb9 HZ8.out.lt)); (have HS9 := HS8.out); (obtain ⟨z0, z1, z2, z3, z4⟩ := HZ9.out.cells5); (have y0 := HZ9.out.frozen 0); (have y1 := HZ9.out.frozen 1); (have y2 := HZ9.out.frozen 2); (have y3 := HZ9.out.frozen 3); (have y4 := HZ9.out.frozen 4); dsimp only [RV.zero] at z0 z1 z2 z3 z4) | ((have HZ8' : VAt (w8.alloc (.cells #[.int .i64 0, .int .i64 0, .string ⟨#[]⟩, .slice none 0 0, .slice none 0 0] 31)) w8.heap.size RV.zero := heap_alloc_at rfl); (have HZ9 := Lib.hid (HZ8'.under hb9 (by simp))); (obtain ⟨z0, z1, z2, z3, z4⟩ := HZ9.out.cells5); (have y0 := HZ9.out.frozen 0); (have y1 := HZ9.out.frozen 1); (have y2 := HZ9.out.frozen 2); (have y3 := HZ9.out.frozen 3); (have y4 := HZ9.out.frozen 4); dsimp only [RV.zero] at z0 z1 z2 z3 z4) | skip))
     | (go_at_call 8; refine (CK.out _).mono ?_; rintro e w8 ⟨rfl, hb8⟩; (have hbk := KB.step (W := Wd) (by assumption) hb8); (have hs8 := hbk.1.size); (first | ((have HZ8 := Lib.hid (HZA.out.under hb8 HZA.out.lt)); (have HS8 : Hid (Wd.heap.size < w8.heap.size) := Nat.lt_of_lt_of_le HSA.out hb8.size)) | skip))
     | fail)
   all_goals (
    go_wp2_with fail
    go_meet
    first
     | (have hz := HZ9
        exact ⟨_, ⟨rk, rn, rs, rpl, rnl, rcl, rpm, rnm, rcm⟩, rfl, rfl, GtR.stored HX.out.1 (by have h2 := hsw9; have h4 := hs8; (try simp only [World.alloc, World.drew, Array.size_push] at h2 h4 ⊢); omega) (by have h2 := hsw9; have h4 := hs8; (try (have h5 := HS8.out)); (try simp only [World.alloc, World.drew, Array.size_push] at h2 h4 ⊢); omega) (by have h2 := hsw9; have h4 := hs8; (try simp only [World.alloc, World.drew, Array.size_push] at h2 h4 ⊢); omega) hz.out HX.out.2⟩)
     | exact ⟨_, ⟨rk, rn, rs, rpl, rnl, rcl, rpm, rnm, rcm⟩, rfl, rfl, GtR.fresh HX.out.1 HX.out.2⟩)
  case rest =>
  obtain ⟨g11, rv11, rfl, rfl, hx11⟩ := hcut
  obtain ⟨k11, n11, s11, pl11, nl11, cl11, pm11, nm11, cm11⟩ := rv11
  obtain ⟨We, rfl⟩ : ∃ W, W = wc := ⟨_, rfl⟩
  have HX11 := Lib.hid hx11.out
  have HY9 := Lib.hid (HX9.out.step HX11.out.below)
  have HBWE : Hid (Below w.heap.size w We) := HBWD.out.trans (HX11.out.below.mono hwd)
  obtain ⟨m0, m1, m2, m3, m4⟩ := HY9.out.at'.cells5
  obtain ⟨v0, v1, v2, v3, v4⟩ := HX11.out.at'.cells5
  dsimp only at m0 m1 m2 m3 m4 v0 v1 v2 v3 v4
  have hss : (wy.toList == wy.toList) = true := by simp
  have CSM : Hid (Calls Tryz.prog 10 #[.agg #[.int .i64 k9, .int .i64 n9, .string s9, .slice pl9 nl9 cl9, .slice pm9 nm9 cm9], .agg #[.int .i64 k11, .int .i64 n11, .string s11, .slice pl11 nl11 cl11, .slice pm11 nm11 cm11]] We fun e w' => e = .returned (.bool true) /\ Below We.heap.size We w') :=
   (same5L_any _ T T ⟨k9, n9, s9, pl9, nl9, cl9, pm9, nm9, cm9⟩ ⟨k11, n11, s11, pl11, nl11, cl11, pm11, nm11, cm11⟩ We (Nat.le_refl _) HY9.out.tree HX11.out.tree HTO.out HTO.out).mono (fun e w' h => h.yes rfl)
  clear hx11 HZA hk0 hkA HSA CR2 a0 a1 a2 a3 a4 a5 a6 a7 a8 a9 a10 a11 c0 c1 c2 c3 c4
  go_wp2_with (first
   | (go_at_call 10; refine CSM.out.mono ?_; rintro e w12 ⟨rfl, hb12⟩)
   | fail)
  go_ret
  exact ⟨rfl, HBWE.out.trans (hb12.mono HBWE.out.size)⟩
 ·clear a0 a1 a2 a3 a4 a5 a6 a7 a8 a9 a10 a11 c0 c1 c2 c3 c4
  go_wp2_with (go_at_call 5; refine (CA.out _ HBWC.out).mono ?_; rintro e w3 ⟨rfl, hb3⟩)
  go_ret
  exact ⟨rfl, HBWC.out.trans (hb3.mono HBWC.out.size)⟩
end
end Go.Proofs.YtfgjimpmpckgpaaGreatDoor
