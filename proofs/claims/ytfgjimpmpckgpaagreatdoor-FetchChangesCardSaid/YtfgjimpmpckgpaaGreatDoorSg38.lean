import Derived.Test.YtfgjimpmpckgpaaGreatDoorSg34
import Derived.Test.YtfgjimpmpckgpaaGreatDoorSg35
import Derived.Test.YtfgjimpmpckgpaaGreatDoorSg37
import Derived.Test.YtfgjimpmpckgpaaGreatDoorSg12
import Derived.Test.YtfgjimpmpckgpaaGreatDoorSg15
set_option linter.unusedSimpArgs false
set_option linter.unusedVariables false
set_option maxRecDepth 200000
set_option maxHeartbeats 8000000
namespace Go.Proofs.YtfgjimpmpckgpaaGreatDoor
section
open Go Go.RowKit Go.OpenShut
theorem sizeBx_any (b : BoxD) (r : RB) (w : World) (hb : BoxOf w w.heap.size b r) (ob : b.Ok) :
 Calls Tryz.prog 48 #[r.val] w (SomeI w) := by
 have ho := hb.objs
 obtain ⟨po, no, co, pt, nt, ct, sq, fl, kp⟩ := r
 dsimp only [RB.val] at *
 obtain ⟨rms, hrd, hms⟩ := ho
 have hn := rd_nlen hrd
 have hlm := hms.len
 have hzo := ob.objs
 have hA0 : BoxAt (w.alloc (.cells #[.slice po no co, .slice pt nt ct, .int .i64 sq, .int .i64 fl, .int .i64 kp] 25)) w.heap.size ⟨po, no, co, pt, nt, ct, sq, fl, kp⟩ := heap_alloc_at rfl
 have hB0 : Below w.heap.size w (w.alloc (.cells #[.slice po no co, .slice pt nt ct, .int .i64 sq, .int .i64 fl, .int .i64 kp] 25)) := (Below.refl _ _).alloc (Nat.le_refl _) _
 have HRD := Lib.hid hrd
 have HMS := Lib.hid hms
 have HOK := Lib.hid ob.each
 have HN : Hid (b.objs.length = no /\ rms.length = no) := ⟨by omega, by omega⟩
 have hno : no <= 1466015503658 := by omega
 clear hb hrd hms hn hlm hzo ob
 go_enter Tryz.func48, Tryz.ntmps48
 go_upto_region 1 with fail
 obtain ⟨W0, hW0⟩ : ∃ W0, (w.alloc (.cells #[.slice po no co, .slice pt nt ct, .int .i64 sq, .int .i64 fl, .int .i64 kp] 25)) = W0 := ⟨_, rfl⟩
 rw [hW0] at hA0 hB0 ⊢
 clear hW0
 have c0 := hA0.cell 0 rfl
 dsimp only at c0
 have HB := Lib.hid hB0
 have hz := hA0.lt
 clear hA0 hB0
 go_wp2_with fail
 go_loopw [3, 4] (fun a i wr => ∃ (g : Int) (k : Nat), k <= no /\ a = .int .i64 g /\ i = .int .i64 k /\ Below W0.heap.size W0 wr) (fun _ i _ => no - (intOf i).toNat)
 case atStart => exact ⟨0, 0, Nat.zero_le _, rfl, rfl, Below.refl _ _⟩
 case round =>
  obtain ⟨g, k, hk, rfl, rfl, hbr⟩ := hrel
  have c0 := bcs hbr hz c0
  have hbw : Below w.heap.size w wr := HB.out.trans (hbr.mono HB.out.size)
  by_cases hgo : k < no /\ g <= 30000
  ·obtain ⟨hlt, hgm⟩ := hgo
   obtain ⟨x, hx⟩ : ∃ x, rms[k]? = some x := ⟨_, List.getElem?_eq_getElem (by have := HN.out; omega)⟩
   obtain ⟨p, hp⟩ : ∃ x, b.objs[k]? = some x := ⟨_, List.getElem?_eq_getElem (by have := HN.out; omega)⟩
   have HC := Lib.hid (size26_any _ p.2 x.v 30000 wr (Nat.le_refl _) ((HMS.out.val _ p x hp hx).under hbw hbw.size) (HOK.out p (List.mem_of_getElem? hp)).2)
   obtain ⟨b1, o1, rfl, hb1, hc1⟩ := rd_at' (HRD.out.below hbw (Nat.le_refl _)) hx
   have f0 := hc1 0 _ rfl
   have f1 := hc1 1 _ rfl
   have f2 := hc1 2 _ rfl
   have f3 := hc1 3 _ rfl
   have f4 := hc1 4 _ rfl
   have f5 := hc1 5 _ rfl
   have hk0 : (0 : Int) <= (k : Int) := Int.natCast_nonneg _
   have hk1 : (k : Int) < (no : Int) := by omega
   have HBR := Lib.hid hbr
   clear hx hp hc1 hbr hbw
   go_wp2_with (go_at_call 29; refine HC.out.mono ?_; rintro e w2 ⟨d, rfl, hb2⟩)
   go_roundw
   case rel => exact ⟨_, k + 1, by omega, rfl, by go_num, HBR.out.trans (hb2.mono HBR.out.size)⟩
   case measure => simp [intOf]; omega
  ·by_cases p1 : k < no
   all_goals (try (have hgm : ¬ g <= 30000 := fun h => hgo ⟨p1, h⟩))
   all_goals clear hgo
   all_goals go_wp2_with fail
   all_goals go_ret
   all_goals exact ⟨_, rfl, hbw⟩
def FewAc (a : AcD) : Prop := ∀ bk (y : ByteArray × JV), y ∈ (a.box bk).objs -> y.2.m.length <= 90000
theorem fewAc_of {a : AcD} (h1 : ∀ p ∈ a.cards.objs, p.2.m.length <= 10000) (h2 : ∀ p ∈ a.books.objs, p.2.m.length <= 10000) : FewAc a := fun bk p hp => by
 cases bk
 ·have := h1 p hp; omega
 ·have := h2 p hp; omega
def LitBx (b : BoxD) : Prop := (b.objs.length <= 100 /\ b.trail.length <= 300) /\ ∀ p ∈ b.objs, p.2.m.length <= 10000
def FewAcR (a : AcD) : Prop := FewAc a /\ RightBx a.cards /\ RightBx a.books /\ LitBx a.cards /\ LitBx a.books
def Few28Ret (w : World) (a : AcD) (e : Ending) (w' : World) : Prop := ∃ y : Bool, e = .returned (.bool y) /\ Hid (y = true -> FewAcR a) /\ Below w.heap.size w w'
theorem few28_any (a : AcD) (r : RAc) (w : World) (ha : AcOf w w.heap.size a r) (oc : a.cards.Ok) (ob : a.books.Ok) : Calls Tryz.prog 11 #[RAc.val r] w (Few28Ret w a) := by
 have hA0 : (w.alloc (RAc.obj r)).heap[w.heap.size]? = some (RAc.obj r) := heap_alloc_at rfl
 have hB0 : Below w.heap.size w (w.alloc (RAc.obj r)) := (Below.refl _ _).alloc (Nat.le_refl _) _
 have F1 : Hid (∀ W, Below w.heap.size w W -> Calls Tryz.prog 46 #[.agg #[.slice r.cards.po r.cards.no r.cards.co, .slice r.cards.pt r.cards.nt r.cards.ct, .int .i64 r.cards.sq, .int .i64 r.cards.fl, .int .i64 r.cards.kp]] W (FewBm W a.cards)) := fun W hb => few18m_any a.cards r.cards W (ha.cards.under hb hb.size) oc
 have R1 : Hid (∀ W, Below w.heap.size w W -> Calls Tryz.prog 47 #[.agg #[.slice r.cards.po r.cards.no r.cards.co, .slice r.cards.pt r.cards.nt r.cards.ct, .int .i64 r.cards.sq, .int .i64 r.cards.fl, .int .i64 r.cards.kp]] W fun e w' => ∃ y : Bool, e = .returned (.bool y) /\ Hid (y = true -> RightBx a.cards) /\ Below W.heap.size W w') := fun W hb => (refRight_any18 a.cards r.cards W (ha.cards.under hb hb.size) oc).mono (fun e w' h => by obtain ⟨y, h1, h2, h3⟩ := h; exact ⟨y, h1, h2.1, h3⟩)
 have S1 : Hid (∀ W, Below w.heap.size w W -> Calls Tryz.prog 48 #[.agg #[.slice r.cards.po r.cards.no r.cards.co, .slice r.cards.pt r.cards.nt r.cards.ct, .int .i64 r.cards.sq, .int .i64 r.cards.fl, .int .i64 r.cards.kp]] W (SomeI W)) := fun W hb => sizeBx_any a.cards r.cards W (ha.cards.under hb hb.size) oc
 have F2 : Hid (∀ W, Below w.heap.size w W -> Calls Tryz.prog 46 #[.agg #[.slice r.books.po r.books.no r.books.co, .slice r.books.pt r.books.nt r.books.ct, .int .i64 r.books.sq, .int .i64 r.books.fl, .int .i64 r.books.kp]] W (FewBm W a.books)) := fun W hb => few18m_any a.books r.books W (ha.books.under hb hb.size) ob
 have R2 : Hid (∀ W, Below w.heap.size w W -> Calls Tryz.prog 47 #[.agg #[.slice r.books.po r.books.no r.books.co, .slice r.books.pt r.books.nt r.books.ct, .int .i64 r.books.sq, .int .i64 r.books.fl, .int .i64 r.books.kp]] W fun e w' => ∃ y : Bool, e = .returned (.bool y) /\ Hid (y = true -> RightBx a.books) /\ Below W.heap.size W w') := fun W hb => (refRight_any18 a.books r.books W (ha.books.under hb hb.size) ob).mono (fun e w' h => by obtain ⟨y, h1, h2, h3⟩ := h; exact ⟨y, h1, h2.1, h3⟩)
 have S2 : Hid (∀ W, Below w.heap.size w W -> Calls Tryz.prog 48 #[.agg #[.slice r.books.po r.books.no r.books.co, .slice r.books.pt r.books.nt r.books.ct, .int .i64 r.books.sq, .int .i64 r.books.fl, .int .i64 r.books.kp]] W (SomeI W)) := fun W hb => sizeBx_any a.books r.books W (ha.books.under hb hb.size) ob
 clear ha oc ob
 go_enter Tryz.func11, Tryz.ntmps11
 go_upto_region 1 with fail
 obtain ⟨W0, hW0⟩ : ∃ W0, (w.alloc (RAc.obj r)) = W0 := ⟨_, rfl⟩
 rw [hW0] at hA0 hB0
 try rw [hW0]
 clear hW0
 have hz : w.heap.size < W0.heap.size := (Array.getElem?_eq_some_iff.1 hA0).1
 obtain ⟨a0, a1, a2, a3, a4, a5, a6, a7, a8, a9, a10, a11⟩ := RAc.cells12 hA0
 clear hA0
 go_wp2_with (first
  | (go_at_call 46; (with_reducible refine (F1.out _ hB0).mono ?_); rintro e w1 ⟨y1, rfl, hy1, hbw1⟩; (have hkw1 := hB0.trans (hbw1.mono hB0.size)); (have a1 := bcs hbw1 hz a1); (have a2 := bcs hbw1 hz a2); (have a3 := bcs hbw1 hz a3); (have a4 := bcs hbw1 hz a4); (have a5 := bcs hbw1 hz a5); (have a6 := bcs hbw1 hz a6); (have a7 := bcs hbw1 hz a7); (have a8 := bcs hbw1 hz a8); (have a9 := bcs hbw1 hz a9); (have a10 := bcs hbw1 hz a10); (have hz := Nat.lt_of_lt_of_le hz hbw1.size); cases y1)
  | (go_at_call 46; (with_reducible refine (F2.out _ hkw1).mono ?_); rintro e w2 ⟨y2, rfl, hy2, hbw2⟩; (have hkw2 := hkw1.trans (hbw2.mono hkw1.size)); (have a1 := bcs hbw2 hz a1); (have a2 := bcs hbw2 hz a2); (have a3 := bcs hbw2 hz a3); (have a4 := bcs hbw2 hz a4); (have a5 := bcs hbw2 hz a5); (have a6 := bcs hbw2 hz a6); (have a7 := bcs hbw2 hz a7); (have a8 := bcs hbw2 hz a8); (have a9 := bcs hbw2 hz a9); (have a10 := bcs hbw2 hz a10); (have hz := Nat.lt_of_lt_of_le hz hbw2.size); cases y2)
  | (go_at_call 47; (with_reducible refine (R1.out _ hkw2).mono ?_); rintro e w3 ⟨y3, rfl, hy3, hbw3⟩; (have hkw3 := hkw2.trans (hbw3.mono hkw2.size)); (have a1 := bcs hbw3 hz a1); (have a2 := bcs hbw3 hz a2); (have a3 := bcs hbw3 hz a3); (have a4 := bcs hbw3 hz a4); (have a5 := bcs hbw3 hz a5); (have a6 := bcs hbw3 hz a6); (have a7 := bcs hbw3 hz a7); (have a8 := bcs hbw3 hz a8); (have a9 := bcs hbw3 hz a9); (have a10 := bcs hbw3 hz a10); (have hz := Nat.lt_of_lt_of_le hz hbw3.size); cases y3)
  | (go_at_call 47; (with_reducible refine (R2.out _ hkw3).mono ?_); rintro e w4 ⟨y4, rfl, hy4, hbw4⟩; (have hkw4 := hkw3.trans (hbw4.mono hkw3.size)); (have a1 := bcs hbw4 hz a1); (have a2 := bcs hbw4 hz a2); (have a3 := bcs hbw4 hz a3); (have a4 := bcs hbw4 hz a4); (have a5 := bcs hbw4 hz a5); (have a6 := bcs hbw4 hz a6); (have a7 := bcs hbw4 hz a7); (have a8 := bcs hbw4 hz a8); (have a9 := bcs hbw4 hz a9); (have a10 := bcs hbw4 hz a10); (have hz := Nat.lt_of_lt_of_le hz hbw4.size); cases y4)
  | (go_at_call 48; (with_reducible refine (S1.out _ hkw4).mono ?_); rintro e w5 ⟨d5, rfl, hbw5⟩; (have hkw5 := hkw4.trans (hbw5.mono hkw4.size)); (have a1 := bcs hbw5 hz a1); (have a2 := bcs hbw5 hz a2); (have a3 := bcs hbw5 hz a3); (have a4 := bcs hbw5 hz a4); (have a5 := bcs hbw5 hz a5); (have a6 := bcs hbw5 hz a6); (have a7 := bcs hbw5 hz a7); (have a8 := bcs hbw5 hz a8); (have a9 := bcs hbw5 hz a9); (have a10 := bcs hbw5 hz a10); (have hz := Nat.lt_of_lt_of_le hz hbw5.size); by_cases hd5 : d5 <= 30000)
  | (go_at_call 48; (with_reducible refine (S2.out _ hkw5).mono ?_); rintro e w6 ⟨d6, rfl, hbw6⟩; (have hkw6 := hkw5.trans (hbw6.mono hkw5.size)); (have a1 := bcs hbw6 hz a1); (have a2 := bcs hbw6 hz a2); (have a3 := bcs hbw6 hz a3); (have a4 := bcs hbw6 hz a4); (have a5 := bcs hbw6 hz a5); (have a6 := bcs hbw6 hz a6); (have a7 := bcs hbw6 hz a7); (have a8 := bcs hbw6 hz a8); (have a9 := bcs hbw6 hz a9); (have a10 := bcs hbw6 hz a10); (have hz := Nat.lt_of_lt_of_le hz hbw6.size); by_cases hd6 : d6 <= 30000))
 all_goals go_ret
 all_goals first
  | exact ⟨false, rfl, (fun h => by cases h), by assumption⟩
  | exact ⟨_, rfl, (fun _ => ⟨fewAc_of (hy1.out (by trivial)).2 (hy2.out (by trivial)).2, hy3.out (by trivial), hy4.out (by trivial), hy1.out (by trivial), hy2.out (by trivial)⟩), hkw6⟩
def LawFewR (w : World) (a : AcD) (t : JV) (e : Ending) (w' : World) : Prop := ∃ y : Bool, e = .returned (.bool y) /\ Hid (y = true -> FewAcR a /\ OwnM t) /\ Below w.heap.size w w'
theorem lawFewR_any (a : AcD) (r : RAc) (t : JV) (q : RV) (w : World) (ha : AcOf w w.heap.size a r) (oc : a.cards.Ok) (ob : a.books.Ok) (ht : TreeOf w w.heap.size t q) (ot : t.Ok) : Calls Tryz.prog 6 #[RAc.val r, RV.val q] w (LawFewR w a t) := by
 have hA0 : ((w.alloc (RAc.obj r)).alloc q.obj).heap[w.heap.size]? = some (RAc.obj r) := heap_alloc_lt (by simp) (heap_alloc_at rfl)
 have hV0 : VAt ((w.alloc (RAc.obj r)).alloc q.obj) (w.heap.size + 1) q := heap_alloc_at (by simp)
 have hB0 : Below w.heap.size w ((w.alloc (RAc.obj r)).alloc q.obj) := below2 w _ _
 have H1 : Hid (∀ W, Below w.heap.size w W -> Calls Tryz.prog 11 #[RAc.val r] W (Few28Ret W a)) := fun W hb => few28_any a r W (ha.under hb hb.size) oc ob
 have H2 : Hid (∀ W, Below w.heap.size w W -> Calls Tryz.prog 14 #[RV.val q, .int .i64 300] W (SomeM t q.nm W)) := fun W hb => few7m_any t q 300 W (ht.under hb hb.size) ot
 have H3 : Hid (∀ W, Below w.heap.size w W -> Calls Tryz.prog 28 #[RV.val q] W fun e w' => e = .returned (.int .i64 (checkE t)) /\ Below W.heap.size W w') := fun W hb => check_any t q W (ht.under hb hb.size) ot
 have H4 : Hid (∀ W, Below w.heap.size w W -> Calls Tryz.prog 29 #[RV.val q, .int .i64 5000] W (SomeI W)) := fun W hb => size26_any _ t q 5000 W (Nat.le_refl _) (ht.under hb hb.size) ot
 obtain ⟨ce, hce⟩ : ∃ c, checkE t = c := ⟨_, rfl⟩
 rw [hce] at H3
 obtain ⟨k, n, s, pl, nl, cl, pm, nm, cm⟩ := q
 dsimp only [RV.val, RV.obj] at *
 clear ha oc ob ht ot hce
 go_enter Tryz.func6, Tryz.ntmps6
 go_upto_region 1 with fail
 obtain ⟨W0, hW0⟩ : ∃ W0, ((w.alloc (RAc.obj r)).alloc (.cells #[.int .i64 k, .int .i64 n, .string s, .slice pl nl cl, .slice pm nm cm] 31)) = W0 := ⟨_, rfl⟩
 rw [hW0] at hA0 hB0 hV0
 try rw [hW0]
 clear hW0
 obtain ⟨a0, a1, a2, a3, a4, a5, a6, a7, a8, a9, a10, a11⟩ := RAc.cells12 hA0
 have hz := hV0.lt
 obtain ⟨c0, c1, c2, c3, c4⟩ := hV0.cells5
 dsimp only at c0 c1 c2 c3 c4
 clear hA0 hV0
 go_wp2_with (first
  | (go_at_call 11; (with_reducible refine (H1.out _ hB0).mono ?_); rintro e w1 ⟨y1, rfl, hy1, hbw1⟩; (have hkw1 := hB0.trans (hbw1.mono hB0.size)); (have c0 := bcs hbw1 hz c0); (have c1 := bcs hbw1 hz c1); (have c2 := bcs hbw1 hz c2); (have c3 := bcs hbw1 hz c3); (have c4 := bcs hbw1 hz c4); (have hz := Nat.lt_of_lt_of_le hz hbw1.size); cases y1)
  | (go_at_call 14; (with_reducible refine (H2.out _ hkw1).mono ?_); rintro e w2 ⟨y2, rfl, hy2, hbw2⟩; (have hkw2 := hkw1.trans (hbw2.mono hkw1.size)); (have c0 := bcs hbw2 hz c0); (have c1 := bcs hbw2 hz c1); (have c2 := bcs hbw2 hz c2); (have c3 := bcs hbw2 hz c3); (have c4 := bcs hbw2 hz c4); (have hz := Nat.lt_of_lt_of_le hz hbw2.size); cases y2)
  | (go_at_call 28; (with_reducible refine (H3.out _ hkw2).mono ?_); rintro e w3 ⟨rfl, hbw3⟩; (have hkw3 := hkw2.trans (hbw3.mono hkw2.size)); (have c0 := bcs hbw3 hz c0); (have c1 := bcs hbw3 hz c1); (have c2 := bcs hbw3 hz c2); (have c3 := bcs hbw3 hz c3); (have c4 := bcs hbw3 hz c4); (have hz := Nat.lt_of_lt_of_le hz hbw3.size); cases hq : (ce == 0))
  | (go_at_call 29; (with_reducible refine (H4.out _ hkw3).mono ?_); rintro e w4 ⟨d4, rfl, hbw4⟩; (have hkw4 := hkw3.trans (hbw4.mono hkw3.size)); (have c0 := bcs hbw4 hz c0); (have c1 := bcs hbw4 hz c1); (have c2 := bcs hbw4 hz c2); (have c3 := bcs hbw4 hz c3); (have c4 := bcs hbw4 hz c4); (have hz := Nat.lt_of_lt_of_le hz hbw4.size); by_cases hd4 : d4 <= 5000))
 all_goals go_ret
 all_goals first
  | exact ⟨false, rfl, (fun h => by cases h), by assumption⟩
  | exact ⟨_, rfl, (fun _ => ⟨hy1.out (by trivial), (hy2.out (by trivial)).2⟩), hkw4⟩
end
end Go.Proofs.YtfgjimpmpckgpaaGreatDoor
