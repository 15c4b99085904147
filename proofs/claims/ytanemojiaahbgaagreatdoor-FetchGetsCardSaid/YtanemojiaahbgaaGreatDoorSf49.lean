import Derived.Test.YtanemojiaahbgaaGreatDoorSf45
import Derived.Test.YtanemojiaahbgaaGreatDoorSf48
import Derived.Test.YtanemojiaahbgaaGreatDoorSf19
import Derived.Test.YtanemojiaahbgaaGreatDoorSf26
import Derived.Test.YtanemojiaahbgaaGreatDoorSf44
import Derived.Test.YtanemojiaahbgaaGreatDoorSf35
import Derived.Test.YtanemojiaahbgaaGreatDoorSf01
import Derived.Test.YtanemojiaahbgaaGreatDoorSf27
import Derived.Test.YtanemojiaahbgaaGreatDoorSf22
section
/- Is an account little; are an account and arguments little: with what a yes says. (Printed by gen/few26.py.) -/
set_option linter.unusedSimpArgs false
set_option linter.unusedVariables false
namespace Go.Proofs.YtanemojiaahbgaaGreatDoor
open Go Go.RowKit Go.OpenShut

set_option maxRecDepth 100000 in
set_option maxHeartbeats 4000000 in
theorem sizeBx_any (b : BoxD) (r : RB) (w : World) (hb : BoxOf w w.heap.size b r) (ob : b.Ok) :
    Calls Tryz.prog 51 #[r.val] w (SomeI w) := by
  have ho := hb.objs
  obtain ⟨po, no, co, pt, nt, ct, sq, fl, kp⟩ := r
  dsimp only [RB.val] at *
  obtain ⟨rms, hrd, hms⟩ := ho
  have hn := rd_nlen hrd
  have hlm := hms.len
  have hzo := ob.objs
  have hA0 : BoxAt (w.alloc (.cells #[.slice po no co, .slice pt nt ct, .int .i64 sq, .int .i64 fl, .int .i64 kp] 25)) w.heap.size ⟨po, no, co, pt, nt, ct, sq, fl, kp⟩ := heap_alloc_at rfl
  have hB0 : Below w.heap.size w (w.alloc (.cells #[.slice po no co, .slice pt nt ct, .int .i64 sq, .int .i64 fl, .int .i64 kp] 25)) := (Below.refl _ _).alloc (Nat.le_refl _) _
  have HRD := Lib.hid hrd
  have HMS := Lib.hid hms
  have HOK := Lib.hid ob.each
  have HN : Hid (b.objs.length = no ∧ rms.length = no) := ⟨by omega, by omega⟩
  have hno : no ≤ 1466015503658 := by omega
  clear hb hrd hms hn hlm hzo ob
  go_enter Tryz.func51, Tryz.ntmps51
  go_upto_region 1 with fail
  obtain ⟨W0, hW0⟩ : ∃ W0, (w.alloc (.cells #[.slice po no co, .slice pt nt ct, .int .i64 sq, .int .i64 fl, .int .i64 kp] 25)) = W0 := ⟨_, rfl⟩
  rw [hW0] at hA0 hB0 ⊢
  clear hW0
  have c0 := hA0.cell 0 rfl
  dsimp only at c0
  have HB := Lib.hid hB0
  have hz := hA0.lt
  clear hA0 hB0
  go_wp2_with fail
  go_loopw [3, 4] (fun a i wr => ∃ (g : Int) (k : Nat), k ≤ no ∧ a = .int .i64 g ∧ i = .int .i64 k ∧ Below W0.heap.size W0 wr) (fun _ i _ => no - (intOf i).toNat)
  case atStart => exact ⟨0, 0, Nat.zero_le _, rfl, rfl, Below.refl _ _⟩
  case round =>
    obtain ⟨g, k, hk, rfl, rfl, hbr⟩ := hrel
    have c0 := bcs hbr hz c0
    have hbw : Below w.heap.size w wr := HB.out.trans (hbr.mono HB.out.size)
    by_cases hgo : k < no ∧ g ≤ 30000
    · obtain ⟨hlt, hgm⟩ := hgo
      obtain ⟨x, hx⟩ : ∃ x, rms[k]? = some x := ⟨_, List.getElem?_eq_getElem (by have := HN.out; omega)⟩
      obtain ⟨p, hp⟩ : ∃ x, b.objs[k]? = some x := ⟨_, List.getElem?_eq_getElem (by have := HN.out; omega)⟩
      have HC := Lib.hid (size26_any _ p.2 x.v 30000 wr (Nat.le_refl _) ((HMS.out.val _ p x hp hx).under hbw hbw.size) (HOK.out p (List.mem_of_getElem? hp)).2)
      obtain ⟨b1, o1, rfl, hb1, hc1⟩ := rd_at' (HRD.out.below hbw (Nat.le_refl _)) hx
      have f0 := hc1 0 _ rfl
      have f1 := hc1 1 _ rfl
      have f2 := hc1 2 _ rfl
      have f3 := hc1 3 _ rfl
      have f4 := hc1 4 _ rfl
      have f5 := hc1 5 _ rfl
      have hk0 : (0 : Int) ≤ (k : Int) := Int.natCast_nonneg _
      have hk1 : (k : Int) < (no : Int) := by omega
      have HBR := Lib.hid hbr
      clear hx hp hc1 hbr hbw
      go_wp2_with (go_at_call 21; refine HC.out.mono ?_; rintro e w2 ⟨d, rfl, hb2⟩)
      go_roundw
      case rel => exact ⟨_, k + 1, by omega, rfl, by go_num, HBR.out.trans (hb2.mono HBR.out.size)⟩
      case measure => simp [intOf]; omega
    · by_cases p1 : k < no
      all_goals (try (have hgm : ¬ g ≤ 30000 := fun h => hgo ⟨p1, h⟩))
      all_goals clear hgo
      all_goals go_wp2_with fail
      all_goals go_ret
      all_goals exact ⟨_, rfl, hbw⟩

/-- What a yes says of an account. -/
def FewAc (a : AcD) : Prop := ∀ bk (y : ByteArray × JV), y ∈ (a.box bk).objs → y.2.m.length ≤ 90000
def Few26Ret (w : World) (a : AcD) (e : Ending) (w' : World) : Prop := ∃ y : Bool, e = .returned (.bool y) ∧ Hid (y = true → FewAc a) ∧ Below w.heap.size w w'
theorem fewAc_of {a : AcD} (h1 : ∀ p ∈ a.cards.objs, p.2.m.length ≤ 10000) (h2 : ∀ p ∈ a.books.objs, p.2.m.length ≤ 10000) : FewAc a := fun bk p hp => by
  cases bk
  · have := h1 p hp; omega
  · have := h2 p hp; omega

set_option maxRecDepth 100000 in
set_option maxHeartbeats 4000000 in
theorem few26_any (a : AcD) (r : RAc) (w : World) (ha : AcOf w w.heap.size a r) (oc : a.cards.Ok) (ob : a.books.Ok) : Calls Tryz.prog 19 #[RAc.val r] w (Few26Ret w a) := by
  have hA0 : (w.alloc (RAc.obj r)).heap[w.heap.size]? = some (RAc.obj r) := heap_alloc_at rfl
  have hB0 : Below w.heap.size w (w.alloc (RAc.obj r)) := (Below.refl _ _).alloc (Nat.le_refl _) _
  have F1 : Hid (∀ W, Below w.heap.size w W → Calls Tryz.prog 49 #[.agg #[.slice r.cards.po r.cards.no r.cards.co, .slice r.cards.pt r.cards.nt r.cards.ct, .int .i64 r.cards.sq, .int .i64 r.cards.fl, .int .i64 r.cards.kp]] W (FewBm W a.cards)) := fun W hb => few18m_any a.cards r.cards W (ha.cards.under hb hb.size) oc
  have R1 : Hid (∀ W, Below w.heap.size w W → Calls Tryz.prog 50 #[.agg #[.slice r.cards.po r.cards.no r.cards.co, .slice r.cards.pt r.cards.nt r.cards.ct, .int .i64 r.cards.sq, .int .i64 r.cards.fl, .int .i64 r.cards.kp]] W (SomeB W)) := fun W hb => (refRight_any18 a.cards r.cards W (ha.cards.under hb hb.size) oc).mono (fun e w' h => by obtain ⟨y, h1, _, h3⟩ := h; exact ⟨y, h1, h3⟩)
  have S1 : Hid (∀ W, Below w.heap.size w W → Calls Tryz.prog 51 #[.agg #[.slice r.cards.po r.cards.no r.cards.co, .slice r.cards.pt r.cards.nt r.cards.ct, .int .i64 r.cards.sq, .int .i64 r.cards.fl, .int .i64 r.cards.kp]] W (SomeI W)) := fun W hb => sizeBx_any a.cards r.cards W (ha.cards.under hb hb.size) oc
  have F2 : Hid (∀ W, Below w.heap.size w W → Calls Tryz.prog 49 #[.agg #[.slice r.books.po r.books.no r.books.co, .slice r.books.pt r.books.nt r.books.ct, .int .i64 r.books.sq, .int .i64 r.books.fl, .int .i64 r.books.kp]] W (FewBm W a.books)) := fun W hb => few18m_any a.books r.books W (ha.books.under hb hb.size) ob
  have R2 : Hid (∀ W, Below w.heap.size w W → Calls Tryz.prog 50 #[.agg #[.slice r.books.po r.books.no r.books.co, .slice r.books.pt r.books.nt r.books.ct, .int .i64 r.books.sq, .int .i64 r.books.fl, .int .i64 r.books.kp]] W (SomeB W)) := fun W hb => (refRight_any18 a.books r.books W (ha.books.under hb hb.size) ob).mono (fun e w' h => by obtain ⟨y, h1, _, h3⟩ := h; exact ⟨y, h1, h3⟩)
  have S2 : Hid (∀ W, Below w.heap.size w W → Calls Tryz.prog 51 #[.agg #[.slice r.books.po r.books.no r.books.co, .slice r.books.pt r.books.nt r.books.ct, .int .i64 r.books.sq, .int .i64 r.books.fl, .int .i64 r.books.kp]] W (SomeI W)) := fun W hb => sizeBx_any a.books r.books W (ha.books.under hb hb.size) ob
  clear ha oc ob
  go_enter Tryz.func19, Tryz.ntmps19
  go_upto_region 1 with fail
  obtain ⟨W0, hW0⟩ : ∃ W0, (w.alloc (RAc.obj r)) = W0 := ⟨_, rfl⟩
  rw [hW0] at hA0 hB0
  try rw [hW0]
  clear hW0
  have hz : w.heap.size < W0.heap.size := (Array.getElem?_eq_some_iff.1 hA0).1
  have a0 : W0.cell? ⟨w.heap.size, 0, none⟩ = some (.string r.id) := (cell_of_row W0 w.heap.size 0 _ _ _ hA0).trans rfl
  have a1 : W0.cell? ⟨w.heap.size, 1, none⟩ = some (.slice r.cards.po r.cards.no r.cards.co) := (cell_of_row W0 w.heap.size 1 _ _ _ hA0).trans rfl
  have a2 : W0.cell? ⟨w.heap.size, 2, none⟩ = some (.slice r.cards.pt r.cards.nt r.cards.ct) := (cell_of_row W0 w.heap.size 2 _ _ _ hA0).trans rfl
  have a3 : W0.cell? ⟨w.heap.size, 3, none⟩ = some (.int .i64 r.cards.sq) := (cell_of_row W0 w.heap.size 3 _ _ _ hA0).trans rfl
  have a4 : W0.cell? ⟨w.heap.size, 4, none⟩ = some (.int .i64 r.cards.fl) := (cell_of_row W0 w.heap.size 4 _ _ _ hA0).trans rfl
  have a5 : W0.cell? ⟨w.heap.size, 5, none⟩ = some (.int .i64 r.cards.kp) := (cell_of_row W0 w.heap.size 5 _ _ _ hA0).trans rfl
  have a6 : W0.cell? ⟨w.heap.size, 6, none⟩ = some (.slice r.books.po r.books.no r.books.co) := (cell_of_row W0 w.heap.size 6 _ _ _ hA0).trans rfl
  have a7 : W0.cell? ⟨w.heap.size, 7, none⟩ = some (.slice r.books.pt r.books.nt r.books.ct) := (cell_of_row W0 w.heap.size 7 _ _ _ hA0).trans rfl
  have a8 : W0.cell? ⟨w.heap.size, 8, none⟩ = some (.int .i64 r.books.sq) := (cell_of_row W0 w.heap.size 8 _ _ _ hA0).trans rfl
  have a9 : W0.cell? ⟨w.heap.size, 9, none⟩ = some (.int .i64 r.books.fl) := (cell_of_row W0 w.heap.size 9 _ _ _ hA0).trans rfl
  have a10 : W0.cell? ⟨w.heap.size, 10, none⟩ = some (.int .i64 r.books.kp) := (cell_of_row W0 w.heap.size 10 _ _ _ hA0).trans rfl
  have a11 : W0.cell? ⟨w.heap.size, 11, none⟩ = some (.int .i64 r.next) := (cell_of_row W0 w.heap.size 11 _ _ _ hA0).trans rfl
  clear hA0
  go_wp2_with (first
    | (go_at_call 49; (with_reducible refine (F1.out _ hB0).mono ?_); rintro e w1 ⟨y1, rfl, hy1, hbw1⟩; (have hkw1 := hB0.trans (hbw1.mono hB0.size)); (have a1 := bcs hbw1 hz a1); (have a2 := bcs hbw1 hz a2); (have a3 := bcs hbw1 hz a3); (have a4 := bcs hbw1 hz a4); (have a5 := bcs hbw1 hz a5); (have a6 := bcs hbw1 hz a6); (have a7 := bcs hbw1 hz a7); (have a8 := bcs hbw1 hz a8); (have a9 := bcs hbw1 hz a9); (have a10 := bcs hbw1 hz a10); (have hz := Nat.lt_of_lt_of_le hz hbw1.size); cases y1)
    | (go_at_call 49; (with_reducible refine (F2.out _ hkw1).mono ?_); rintro e w2 ⟨y2, rfl, hy2, hbw2⟩; (have hkw2 := hkw1.trans (hbw2.mono hkw1.size)); (have a1 := bcs hbw2 hz a1); (have a2 := bcs hbw2 hz a2); (have a3 := bcs hbw2 hz a3); (have a4 := bcs hbw2 hz a4); (have a5 := bcs hbw2 hz a5); (have a6 := bcs hbw2 hz a6); (have a7 := bcs hbw2 hz a7); (have a8 := bcs hbw2 hz a8); (have a9 := bcs hbw2 hz a9); (have a10 := bcs hbw2 hz a10); (have hz := Nat.lt_of_lt_of_le hz hbw2.size); cases y2)
    | (go_at_call 50; (with_reducible refine (R1.out _ hkw2).mono ?_); rintro e w3 ⟨y3, rfl, hbw3⟩; (have hkw3 := hkw2.trans (hbw3.mono hkw2.size)); (have a1 := bcs hbw3 hz a1); (have a2 := bcs hbw3 hz a2); (have a3 := bcs hbw3 hz a3); (have a4 := bcs hbw3 hz a4); (have a5 := bcs hbw3 hz a5); (have a6 := bcs hbw3 hz a6); (have a7 := bcs hbw3 hz a7); (have a8 := bcs hbw3 hz a8); (have a9 := bcs hbw3 hz a9); (have a10 := bcs hbw3 hz a10); (have hz := Nat.lt_of_lt_of_le hz hbw3.size); cases y3)
    | (go_at_call 50; (with_reducible refine (R2.out _ hkw3).mono ?_); rintro e w4 ⟨y4, rfl, hbw4⟩; (have hkw4 := hkw3.trans (hbw4.mono hkw3.size)); (have a1 := bcs hbw4 hz a1); (have a2 := bcs hbw4 hz a2); (have a3 := bcs hbw4 hz a3); (have a4 := bcs hbw4 hz a4); (have a5 := bcs hbw4 hz a5); (have a6 := bcs hbw4 hz a6); (have a7 := bcs hbw4 hz a7); (have a8 := bcs hbw4 hz a8); (have a9 := bcs hbw4 hz a9); (have a10 := bcs hbw4 hz a10); (have hz := Nat.lt_of_lt_of_le hz hbw4.size); cases y4)
    | (go_at_call 51; (with_reducible refine (S1.out _ hkw4).mono ?_); rintro e w5 ⟨d5, rfl, hbw5⟩; (have hkw5 := hkw4.trans (hbw5.mono hkw4.size)); (have a1 := bcs hbw5 hz a1); (have a2 := bcs hbw5 hz a2); (have a3 := bcs hbw5 hz a3); (have a4 := bcs hbw5 hz a4); (have a5 := bcs hbw5 hz a5); (have a6 := bcs hbw5 hz a6); (have a7 := bcs hbw5 hz a7); (have a8 := bcs hbw5 hz a8); (have a9 := bcs hbw5 hz a9); (have a10 := bcs hbw5 hz a10); (have hz := Nat.lt_of_lt_of_le hz hbw5.size); by_cases hd5 : d5 ≤ 30000)
    | (go_at_call 51; (with_reducible refine (S2.out _ hkw5).mono ?_); rintro e w6 ⟨d6, rfl, hbw6⟩; (have hkw6 := hkw5.trans (hbw6.mono hkw5.size)); (have a1 := bcs hbw6 hz a1); (have a2 := bcs hbw6 hz a2); (have a3 := bcs hbw6 hz a3); (have a4 := bcs hbw6 hz a4); (have a5 := bcs hbw6 hz a5); (have a6 := bcs hbw6 hz a6); (have a7 := bcs hbw6 hz a7); (have a8 := bcs hbw6 hz a8); (have a9 := bcs hbw6 hz a9); (have a10 := bcs hbw6 hz a10); (have hz := Nat.lt_of_lt_of_le hz hbw6.size); by_cases hd6 : d6 ≤ 30000))
  all_goals go_ret
  all_goals first
    | exact ⟨false, rfl, (fun h => by cases h), by assumption⟩
    | exact ⟨_, rfl, (fun _ => fewAc_of (hy1.out (by trivial)).2 (hy2.out (by trivial)).2), hkw6⟩

/-- What a yes says of an account and arguments. -/
def LawFew (w : World) (a : AcD) (t : JV) (e : Ending) (w' : World) : Prop := ∃ y : Bool, e = .returned (.bool y) ∧ Hid (y = true → FewAc a ∧ OwnM t) ∧ Below w.heap.size w w'
set_option maxRecDepth 100000 in
set_option maxHeartbeats 4000000 in
theorem lawFew_any (a : AcD) (r : RAc) (t : JV) (q : RV) (w : World) (ha : AcOf w w.heap.size a r) (oc : a.cards.Ok) (ob : a.books.Ok) (ht : TreeOf w w.heap.size t q) (ot : t.Ok) : Calls Tryz.prog 6 #[RAc.val r, RV.val q] w (LawFew w a t) := by
  have hA0 : ((w.alloc (RAc.obj r)).alloc q.obj).heap[w.heap.size]? = some (RAc.obj r) := heap_alloc_lt (by simp) (heap_alloc_at rfl)
  have hV0 : VAt ((w.alloc (RAc.obj r)).alloc q.obj) (w.heap.size + 1) q := heap_alloc_at (by simp)
  have hB0 : Below w.heap.size w ((w.alloc (RAc.obj r)).alloc q.obj) := below2 w _ _
  have H1 : Hid (∀ W, Below w.heap.size w W → Calls Tryz.prog 19 #[RAc.val r] W (Few26Ret W a)) := fun W hb => few26_any a r W (ha.under hb hb.size) oc ob
  have H2 : Hid (∀ W, Below w.heap.size w W → Calls Tryz.prog 11 #[RV.val q, .int .i64 300] W (SomeM t q.nm W)) := fun W hb => few7m_any t q 300 W (ht.under hb hb.size) ot
  have H3 : Hid (∀ W, Below w.heap.size w W → Calls Tryz.prog 20 #[RV.val q] W fun e w' => e = .returned (.int .i64 (checkE t)) ∧ Below W.heap.size W w') := fun W hb => check_any t q W (ht.under hb hb.size) ot
  have H4 : Hid (∀ W, Below w.heap.size w W → Calls Tryz.prog 21 #[RV.val q, .int .i64 5000] W (SomeI W)) := fun W hb => size26_any _ t q 5000 W (Nat.le_refl _) (ht.under hb hb.size) ot
  obtain ⟨ce, hce⟩ : ∃ c, checkE t = c := ⟨_, rfl⟩
  rw [hce] at H3
  obtain ⟨k, n, s, pl, nl, cl, pm, nm, cm⟩ := q
  dsimp only [RV.val, RV.obj] at *
  clear ha oc ob ht ot hce
  go_enter Tryz.func6, Tryz.ntmps6
  go_upto_region 1 with fail
  obtain ⟨W0, hW0⟩ : ∃ W0, ((w.alloc (RAc.obj r)).alloc (.cells #[.int .i64 k, .int .i64 n, .string s, .slice pl nl cl, .slice pm nm cm] 31)) = W0 := ⟨_, rfl⟩
  rw [hW0] at hA0 hB0 hV0
  try rw [hW0]
  clear hW0
  have a0 : W0.cell? ⟨w.heap.size, 0, none⟩ = some (.string r.id) := (cell_of_row W0 w.heap.size 0 _ _ _ hA0).trans rfl
  have a1 : W0.cell? ⟨w.heap.size, 1, none⟩ = some (.slice r.cards.po r.cards.no r.cards.co) := (cell_of_row W0 w.heap.size 1 _ _ _ hA0).trans rfl
  have a2 : W0.cell? ⟨w.heap.size, 2, none⟩ = some (.slice r.cards.pt r.cards.nt r.cards.ct) := (cell_of_row W0 w.heap.size 2 _ _ _ hA0).trans rfl
  have a3 : W0.cell? ⟨w.heap.size, 3, none⟩ = some (.int .i64 r.cards.sq) := (cell_of_row W0 w.heap.size 3 _ _ _ hA0).trans rfl
  have a4 : W0.cell? ⟨w.heap.size, 4, none⟩ = some (.int .i64 r.cards.fl) := (cell_of_row W0 w.heap.size 4 _ _ _ hA0).trans rfl
  have a5 : W0.cell? ⟨w.heap.size, 5, none⟩ = some (.int .i64 r.cards.kp) := (cell_of_row W0 w.heap.size 5 _ _ _ hA0).trans rfl
  have a6 : W0.cell? ⟨w.heap.size, 6, none⟩ = some (.slice r.books.po r.books.no r.books.co) := (cell_of_row W0 w.heap.size 6 _ _ _ hA0).trans rfl
  have a7 : W0.cell? ⟨w.heap.size, 7, none⟩ = some (.slice r.books.pt r.books.nt r.books.ct) := (cell_of_row W0 w.heap.size 7 _ _ _ hA0).trans rfl
  have a8 : W0.cell? ⟨w.heap.size, 8, none⟩ = some (.int .i64 r.books.sq) := (cell_of_row W0 w.heap.size 8 _ _ _ hA0).trans rfl
  have a9 : W0.cell? ⟨w.heap.size, 9, none⟩ = some (.int .i64 r.books.fl) := (cell_of_row W0 w.heap.size 9 _ _ _ hA0).trans rfl
  have a10 : W0.cell? ⟨w.heap.size, 10, none⟩ = some (.int .i64 r.books.kp) := (cell_of_row W0 w.heap.size 10 _ _ _ hA0).trans rfl
  have a11 : W0.cell? ⟨w.heap.size, 11, none⟩ = some (.int .i64 r.next) := (cell_of_row W0 w.heap.size 11 _ _ _ hA0).trans rfl
  have hz := hV0.lt
  have c0 := hV0.cell 0 rfl
  have c1 := hV0.cell 1 rfl
  have c2 := hV0.cell 2 rfl
  have c3 := hV0.cell 3 rfl
  have c4 := hV0.cell 4 rfl
  dsimp only at c0 c1 c2 c3 c4
  clear hA0 hV0
  go_wp2_with (first
    | (go_at_call 19; (with_reducible refine (H1.out _ hB0).mono ?_); rintro e w1 ⟨y1, rfl, hy1, hbw1⟩; (have hkw1 := hB0.trans (hbw1.mono hB0.size)); (have c0 := bcs hbw1 hz c0); (have c1 := bcs hbw1 hz c1); (have c2 := bcs hbw1 hz c2); (have c3 := bcs hbw1 hz c3); (have c4 := bcs hbw1 hz c4); (have hz := Nat.lt_of_lt_of_le hz hbw1.size); cases y1)
    | (go_at_call 11; (with_reducible refine (H2.out _ hkw1).mono ?_); rintro e w2 ⟨y2, rfl, hy2, hbw2⟩; (have hkw2 := hkw1.trans (hbw2.mono hkw1.size)); (have c0 := bcs hbw2 hz c0); (have c1 := bcs hbw2 hz c1); (have c2 := bcs hbw2 hz c2); (have c3 := bcs hbw2 hz c3); (have c4 := bcs hbw2 hz c4); (have hz := Nat.lt_of_lt_of_le hz hbw2.size); cases y2)
    | (go_at_call 20; (with_reducible refine (H3.out _ hkw2).mono ?_); rintro e w3 ⟨rfl, hbw3⟩; (have hkw3 := hkw2.trans (hbw3.mono hkw2.size)); (have c0 := bcs hbw3 hz c0); (have c1 := bcs hbw3 hz c1); (have c2 := bcs hbw3 hz c2); (have c3 := bcs hbw3 hz c3); (have c4 := bcs hbw3 hz c4); (have hz := Nat.lt_of_lt_of_le hz hbw3.size); cases hq : (ce == 0))
    | (go_at_call 21; (with_reducible refine (H4.out _ hkw3).mono ?_); rintro e w4 ⟨d4, rfl, hbw4⟩; (have hkw4 := hkw3.trans (hbw4.mono hkw3.size)); (have c0 := bcs hbw4 hz c0); (have c1 := bcs hbw4 hz c1); (have c2 := bcs hbw4 hz c2); (have c3 := bcs hbw4 hz c3); (have c4 := bcs hbw4 hz c4); (have hz := Nat.lt_of_lt_of_le hz hbw4.size); by_cases hd4 : d4 ≤ 5000))
  all_goals go_ret
  all_goals first
    | exact ⟨false, rfl, (fun h => by cases h), by assumption⟩
    | exact ⟨_, rfl, (fun _ => ⟨hy1.out (by trivial), (hy2.out (by trivial)).2⟩), hkw4⟩
end Go.Proofs.YtanemojiaahbgaaGreatDoor
end

section
/- The law FetchGets, walked. -/
set_option linter.unusedSimpArgs false
set_option linter.unusedVariables false
namespace Go.Proofs.YtanemojiaahbgaaGreatDoor
open Go Go.RowKit Go.OpenShut

/-- What a yes of few says of the ids. -/
theorem ownM_arg {t : JV} (h : OwnM t) (p : ByteArray × Nat) : (argG t p).k = 1 → (argG t p).l = [] := by
  unfold argG JV.get
  cases hp : t.place p.1 with
  | none => intro _; rfl
  | some i =>
    rw [Option.bind_some]
    cases hm : t.mem[i]? with
    | none => intro _; rfl
    | some y =>
      intro hk
      have hy : y ∈ t.m := by
        have h1 := List.mem_of_getElem? hm
        obtain ⟨k, n, s, l, m⟩ := t
        unfold JV.mem at h1
        dsimp only at h1
        by_cases h6 : k = 6
        · rw [if_pos h6] at h1; exact h1
        · rw [if_neg h6] at h1; cases h1
      exact h.2 y hy (fun h5 => by
        have h1 : y.2.k = 1 := hk
        rw [h1] at h5
        cases h5)
theorem zeroJ_ok : JV.zero.Ok := .mk (by decide) (by decide) (by decide) (by decide) (by decide) (fun i t h => by simp at h) (fun i p h => by simp at h) (fun i p h => by simp at h)
theorem getT_ok {aid : ByteArray} {known card : Bool} {b : BoxD} {t : JV} (ha : aid.size ≤ 140737488351232) (hn : (Lit.int .i64 b.seq).wf = true) (hb : ∀ p ∈ b.objs, p.1.size ≤ 140737488351232 ∧ p.2.Ok ∧ p.2.m.length ≤ 90000) (ot : t.Ok) : (getT aid known card b t).Ok := by
  unfold getT
  split
  · split
    · exact zeroJ_ok
    · rename_i h
      exact getJ_ok ha hn hb (argG_ok ot _) (by simpa using h)
  · exact zeroJ_ok

/-- What Get told, laid into a cell of its own. -/
structure GtR (w0 : World) (T : JV) (g : Nat) (rv : RV) (w : World) : Prop where
  at' : VAt w g rv
  tree : TreeOf w w.heap.size T rv
  below : Below w0.heap.size w0 w
theorem GtR.fresh {w0 w : World} {T : JV} {rv : RV} {S : Nat → Prop} (ht : TreeS w (fun k => k < w.heap.size ∧ S k) T rv) (hb : Below w0.heap.size w0 w) : GtR w0 T w.heap.size rv (w.alloc rv.obj) :=
  ⟨heap_alloc_at rfl, (ht.same (fun k e => Below.heap_alloc w _ k e.1)).tree (fun k e => by have := e.1; simp; omega), hb.alloc hb.size _⟩
theorem GtR.stored {w0 w : World} {T : JV} {g B s : Nat} {rv : RV} (ht : TreeS w (fun k => k < w.heap.size ∧ (k < B ∨ s ≤ k)) T rv) (hBg : B ≤ g) (hgs : g < s) (hg : w0.heap.size ≤ g) (hz : VAt w g RV.zero) (hb : Below w0.heap.size w0 w) : GtR w0 T g rv (((((w.setCell ⟨g, 0, none⟩ (.int .i64 rv.k)).setCell ⟨g, 1, none⟩ (.int .i64 rv.n)).setCell ⟨g, 2, none⟩ (.string rv.s)).setCell ⟨g, 3, none⟩ (.slice rv.pl rv.nl rv.cl)).setCell ⟨g, 4, none⟩ (.slice rv.pm rv.nm rv.cm)) := by
  have hgb := grownBy_set5 w g rv
  exact ⟨hz.stored rv, (ht.same (fun k e => hgb.block k e.1 (fun e2 => by injection e2 with e2; rcases e.2 with h | h <;> omega))).tree (fun k e => Nat.lt_of_lt_of_le e.1 hgb.size), Below.stored hb hg rv⟩
theorem GtR.step {w0 w w' : World} {T : JV} {g : Nat} {rv : RV} (h : GtR w0 T g rv w) (hb : Below w.heap.size w w') : GtR w0 T g rv w' := ⟨h.at'.under hb h.at'.lt, h.tree.under hb hb.size, h.below.trans (hb.mono h.below.size)⟩

set_option maxRecDepth 200000 in
set_option maxHeartbeats 8000000 in
theorem fetchGets_any (a : AcD) (r : RAc) (known book : Bool) (t : JV) (q : RV) (w : World) (hV : Vars w) (ha : AcOf w w.heap.size a r) (hid : a.id.size ≤ 140737488351232) (oc : a.cards.Ok) (ob : a.books.Ok) (ht : TreeOf w w.heap.size t q) (ot : t.Ok) :
    Calls Tryz.prog 3 #[RAc.val r, .bool known, .bool book, RV.val q] w fun e w' => e = .returned (.bool true) ∧ Below w.heap.size w w' := by
  obtain ⟨qk, qn, qs, qpl, qnl, qcl, qpm, qnm, qcm⟩ := q
  dsimp only [RV.val] at *
  obtain ⟨W0, hW0⟩ : ∃ W0, (w.alloc (RAc.obj r)).alloc (.cells #[.int .i64 qk, .int .i64 qn, .string qs, .slice qpl qnl qcl, .slice qpm qnm qcm] 31) = W0 := ⟨_, rfl⟩
  have hA0 : W0.heap[w.heap.size]? = some (RAc.obj r) := by rw [← hW0]; exact heap_alloc_lt (by simp) (heap_alloc_at rfl)
  have hV0 : VAt W0 (w.heap.size + 1) ⟨qk, qn, qs, qpl, qnl, qcl, qpm, qnm, qcm⟩ := by rw [← hW0]; exact heap_alloc_at (by simp)
  have hB0 : Below w.heap.size w W0 := by rw [← hW0]; exact below2 w _ _
  have CA : Hid (∀ W, Below w.heap.size w W → Calls Tryz.prog 5 #[] W fun e w' => e = .returned (.bool true) ∧ Below W.heap.size W w') := fun W hb => awake26_any W (hV.below hb)
  have CL : Hid (∀ W, Below w.heap.size w W → Calls Tryz.prog 6 #[RAc.val r, .agg #[.int .i64 qk, .int .i64 qn, .string qs, .slice qpl qnl qcl, .slice qpm qnm qcm]] W (LawFew W a t)) := fun W hb => lawFew_any a r t ⟨qk, qn, qs, qpl, qnl, qcl, qpm, qnm, qcm⟩ W (ha.under hb hb.size) oc ob (ht.under hb hb.size) ot
  obtain ⟨kd, hkd⟩ : ∃ k, kindB book = k := ⟨_, rfl⟩
  obtain ⟨wy, hwy⟩ : ∃ x, getWhy known (a.box book) t = x := ⟨_, rfl⟩
  obtain ⟨T, hT⟩ : ∃ x, getT a.id known (!book) (a.box book) t = x := ⟨_, rfl⟩
  have CK : Hid (∀ W, Calls Tryz.prog 8 #[.bool book] W fun e w' => e = .returned (.int .i64 kd) ∧ Below W.heap.size W w') := fun W => (kind26_any book W).mono (fun e w' h => ⟨by rw [h.1, ← hkd]; rfl, by rw [h.2]; exact Below.refl _ _⟩)
  have CG : Hid (FewAc a → ∀ (W : World) (B : Nat), B ≤ W.heap.size → Below w.heap.size w W → w.heap.size ≤ B → Calls Tryz.prog 7 #[.agg #[.string r.id, .slice r.cards.po r.cards.no r.cards.co, .slice r.cards.pt r.cards.nt r.cards.ct, .int .i64 r.cards.sq, .int .i64 r.cards.fl, .int .i64 r.cards.kp, .slice r.books.po r.books.no r.books.co, .slice r.books.pt r.books.nt r.books.ct, .int .i64 r.books.sq, .int .i64 r.books.fl, .int .i64 r.books.kp, .int .i64 r.next], .bool known, .int .i64 kd, .agg #[.int .i64 qk, .int .i64 qn, .string qs, .slice qpl qnl qcl, .slice qpm qnm qcm]] W fun e w' => ∃ rk rn rs rpl rnl rcl rpm rnm rcm, e = .returned (.tuple #[.agg #[.int .i64 rk, .int .i64 rn, .string rs, .slice rpl rnl rcl, .slice rpm rnm rcm], .string wy]) ∧ TreeS w' (fun k => k < w'.heap.size ∧ (k < B ∨ W.heap.size ≤ k)) T ⟨rk, rn, rs, rpl, rnl, rcl, rpm, rnm, rcm⟩ ∧ Below W.heap.size W w') := fun hf W B hB hb hw => by
    have h := fgetB_any a r known book t ⟨qk, qn, qs, qpl, qnl, qcl, qpm, qnm, qcm⟩ W B hB (hV.below hb) ⟨ha.id, ha.cards.under hb hw, ha.books.under hb hw⟩ oc ob hf (ht.under hb hw) ot
    rw [hkd] at h
    exact h.mono (fun e w' h => by
      obtain ⟨rr, he, h1, h2⟩ := h
      rw [hwy] at he
      rw [hT] at h1
      exact ⟨_, _, _, _, _, _, _, _, _, he, h1, h2⟩)
  have CR : Hid (FewAc a → OwnM t → ∀ (W : World) (B : Nat), B ≤ W.heap.size → Below w.heap.size w W → w.heap.size ≤ B → Calls Tryz.prog 9 #[.agg #[.string r.id, .slice r.cards.po r.cards.no r.cards.co, .slice r.cards.pt r.cards.nt r.cards.ct, .int .i64 r.cards.sq, .int .i64 r.cards.fl, .int .i64 r.cards.kp, .slice r.books.po r.books.no r.books.co, .slice r.books.pt r.books.nt r.books.ct, .int .i64 r.books.sq, .int .i64 r.books.fl, .int .i64 r.books.kp, .int .i64 r.next], .bool known, .int .i64 kd, .agg #[.int .i64 qk, .int .i64 qn, .string qs, .slice qpl qnl qcl, .slice qpm qnm qcm]] W fun e w' => ∃ rk rn rs rpl rnl rcl rpm rnm rcm, e = .returned (.tuple #[.agg #[.int .i64 rk, .int .i64 rn, .string rs, .slice rpl rnl rcl, .slice rpm rnm rcm], .string wy]) ∧ TreeS w' (fun k => k < w'.heap.size ∧ (k < B ∨ W.heap.size ≤ k)) T ⟨rk, rn, rs, rpl, rnl, rcl, rpm, rnm, rcm⟩ ∧ Below W.heap.size W w') := fun hf ho W B hB hb hw => by
    have h := rgetB_any a r known book t ⟨qk, qn, qs, qpl, qnl, qcl, qpm, qnm, qcm⟩ W B hB ⟨ha.id, ha.cards.under hb hw, ha.books.under hb hw⟩ oc ob hf (ht.under hb hw) ot (ownM_arg ho (idsN, 108))
    rw [hkd] at h
    exact h.mono (fun e w' h => by
      obtain ⟨rr, he, h1, h2⟩ := h
      rw [hwy] at he
      rw [hT] at h1
      exact ⟨_, _, _, _, _, _, _, _, _, he, h1, h2⟩)
  have COK : Hid (FewAc a → T.Ok) := fun hf => by
    rw [← hT]
    refine getT_ok hid ?_ (fun p hp => ?_) ot
    · cases book
      · exact oc.seq
      · exact ob.seq
    · have h1 := hf book p hp
      cases book
      · exact ⟨(oc.each p hp).1, (oc.each p hp).2, h1⟩
      · exact ⟨(ob.each p hp).1, (ob.each p hp).2, h1⟩
  have HW := Lib.hid hW0
  have HB0 := Lib.hid hB0
  have HA0 := Lib.hid hA0
  have HV0 := Lib.hid hV0
  have hz : w.heap.size < W0.heap.size := (Array.getElem?_eq_some_iff.1 hA0).1
  have hz1 : w.heap.size + 1 < W0.heap.size := hV0.lt
  have a0 : W0.cell? ⟨w.heap.size, 0, none⟩ = some (.string r.id) := (cell_of_row W0 w.heap.size 0 _ _ _ hA0).trans rfl
  have a1 : W0.cell? ⟨w.heap.size, 1, none⟩ = some (.slice r.cards.po r.cards.no r.cards.co) := (cell_of_row W0 w.heap.size 1 _ _ _ hA0).trans rfl
  have a2 : W0.cell? ⟨w.heap.size, 2, none⟩ = some (.slice r.cards.pt r.cards.nt r.cards.ct) := (cell_of_row W0 w.heap.size 2 _ _ _ hA0).trans rfl
  have a3 : W0.cell? ⟨w.heap.size, 3, none⟩ = some (.int .i64 r.cards.sq) := (cell_of_row W0 w.heap.size 3 _ _ _ hA0).trans rfl
  have a4 : W0.cell? ⟨w.heap.size, 4, none⟩ = some (.int .i64 r.cards.fl) := (cell_of_row W0 w.heap.size 4 _ _ _ hA0).trans rfl
  have a5 : W0.cell? ⟨w.heap.size, 5, none⟩ = some (.int .i64 r.cards.kp) := (cell_of_row W0 w.heap.size 5 _ _ _ hA0).trans rfl
  have a6 : W0.cell? ⟨w.heap.size, 6, none⟩ = some (.slice r.books.po r.books.no r.books.co) := (cell_of_row W0 w.heap.size 6 _ _ _ hA0).trans rfl
  have a7 : W0.cell? ⟨w.heap.size, 7, none⟩ = some (.slice r.books.pt r.books.nt r.books.ct) := (cell_of_row W0 w.heap.size 7 _ _ _ hA0).trans rfl
  have a8 : W0.cell? ⟨w.heap.size, 8, none⟩ = some (.int .i64 r.books.sq) := (cell_of_row W0 w.heap.size 8 _ _ _ hA0).trans rfl
  have a9 : W0.cell? ⟨w.heap.size, 9, none⟩ = some (.int .i64 r.books.fl) := (cell_of_row W0 w.heap.size 9 _ _ _ hA0).trans rfl
  have a10 : W0.cell? ⟨w.heap.size, 10, none⟩ = some (.int .i64 r.books.kp) := (cell_of_row W0 w.heap.size 10 _ _ _ hA0).trans rfl
  have a11 : W0.cell? ⟨w.heap.size, 11, none⟩ = some (.int .i64 r.next) := (cell_of_row W0 w.heap.size 11 _ _ _ hA0).trans rfl
  have c0 := hV0.cell 0 rfl
  have c1 := hV0.cell 1 rfl
  have c2 := hV0.cell 2 rfl
  have c3 := hV0.cell 3 rfl
  have c4 := hV0.cell 4 rfl
  dsimp only at c0 c1 c2 c3 c4
  clear hW0 hA0 hV0 hV ha hid oc ob ht ot hkd hwy hT
  go_enter Tryz.func3, Tryz.ntmps3
  go_upto_region 1 with fail
  rw [HW.out]
  clear HW
  go_cut [20] from 13 to 20 (fun v wr => ∃ b, v = .bool b ∧ Hid ((b = false → FewAc a ∧ OwnM t) ∧ Below W0.heap.size W0 wr))
  case first =>
    go_wp2_with (first
      | (go_at_call 5; refine (CA.out _ HB0.out).mono ?_; rintro e w1 ⟨rfl, hb1⟩; (have a0 := bcs hb1 hz a0); (have a1 := bcs hb1 hz a1); (have a2 := bcs hb1 hz a2); (have a3 := bcs hb1 hz a3); (have a4 := bcs hb1 hz a4); (have a5 := bcs hb1 hz a5); (have a6 := bcs hb1 hz a6); (have a7 := bcs hb1 hz a7); (have a8 := bcs hb1 hz a8); (have a9 := bcs hb1 hz a9); (have a10 := bcs hb1 hz a10); (have a11 := bcs hb1 hz a11); (have c0 := bcs hb1 hz1 c0); (have c1 := bcs hb1 hz1 c1); (have c2 := bcs hb1 hz1 c2); (have c3 := bcs hb1 hz1 c3); (have c4 := bcs hb1 hz1 c4))
      | (go_at_call 6; refine (CL.out _ (HB0.out.trans (hb1.mono HB0.out.size))).mono ?_; rintro e w2 ⟨y, rfl, hy, hb2⟩; cases y))
    all_goals
      go_meet
      refine ⟨_, rfl, fun hb => ?_, hb1.trans (hb2.mono hb1.size)⟩
      first
        | (cases hb; done)
        | exact hy.out (by trivial)
  case rest =>
  obtain ⟨b, rfl, hx⟩ := hcut
  have HBC : Hid (Below W0.heap.size W0 wc) := hx.out.2
  have HFW : Hid (b = false → FewAc a ∧ OwnM t) := hx.out.1
  have HBWC : Hid (Below w.heap.size w wc) := HB0.out.trans (HBC.out.mono HB0.out.size)
  clear hx CL
  obtain ⟨Wb, rfl⟩ : ∃ W, W = wc := ⟨_, rfl⟩
  cases b
  · have hfw := HFW.out rfl
    have CG2 : Hid (∀ (W : World) (B : Nat), B ≤ W.heap.size → Below w.heap.size w W → w.heap.size ≤ B → Calls Tryz.prog 7 #[.agg #[.string r.id, .slice r.cards.po r.cards.no r.cards.co, .slice r.cards.pt r.cards.nt r.cards.ct, .int .i64 r.cards.sq, .int .i64 r.cards.fl, .int .i64 r.cards.kp, .slice r.books.po r.books.no r.books.co, .slice r.books.pt r.books.nt r.books.ct, .int .i64 r.books.sq, .int .i64 r.books.fl, .int .i64 r.books.kp, .int .i64 r.next], .bool known, .int .i64 kd, .agg #[.int .i64 qk, .int .i64 qn, .string qs, .slice qpl qnl qcl, .slice qpm qnm qcm]] W fun e w' => ∃ rk rn rs rpl rnl rcl rpm rnm rcm, e = .returned (.tuple #[.agg #[.int .i64 rk, .int .i64 rn, .string rs, .slice rpl rnl rcl, .slice rpm rnm rcm], .string wy]) ∧ TreeS w' (fun k => k < w'.heap.size ∧ (k < B ∨ W.heap.size ≤ k)) T ⟨rk, rn, rs, rpl, rnl, rcl, rpm, rnm, rcm⟩ ∧ Below W.heap.size W w') := CG.out hfw.1
    have CR2 : Hid (∀ (W : World) (B : Nat), B ≤ W.heap.size → Below w.heap.size w W → w.heap.size ≤ B → Calls Tryz.prog 9 #[.agg #[.string r.id, .slice r.cards.po r.cards.no r.cards.co, .slice r.cards.pt r.cards.nt r.cards.ct, .int .i64 r.cards.sq, .int .i64 r.cards.fl, .int .i64 r.cards.kp, .slice r.books.po r.books.no r.books.co, .slice r.books.pt r.books.nt r.books.ct, .int .i64 r.books.sq, .int .i64 r.books.fl, .int .i64 r.books.kp, .int .i64 r.next], .bool known, .int .i64 kd, .agg #[.int .i64 qk, .int .i64 qn, .string qs, .slice qpl qnl qcl, .slice qpm qnm qcm]] W fun e w' => ∃ rk rn rs rpl rnl rcl rpm rnm rcm, e = .returned (.tuple #[.agg #[.int .i64 rk, .int .i64 rn, .string rs, .slice rpl rnl rcl, .slice rpm rnm rcm], .string wy]) ∧ TreeS w' (fun k => k < w'.heap.size ∧ (k < B ∨ W.heap.size ≤ k)) T ⟨rk, rn, rs, rpl, rnl, rcl, rpm, rnm, rcm⟩ ∧ Below W.heap.size W w') := CR.out hfw.1 hfw.2
    have HTO : Hid T.Ok := COK.out hfw.1
    clear hfw CG CR COK CA
    have hbz := HBC.out
    have a0 := bcs hbz hz a0
    have a1 := bcs hbz hz a1
    have a2 := bcs hbz hz a2
    have a3 := bcs hbz hz a3
    have a4 := bcs hbz hz a4
    have a5 := bcs hbz hz a5
    have a6 := bcs hbz hz a6
    have a7 := bcs hbz hz a7
    have a8 := bcs hbz hz a8
    have a9 := bcs hbz hz a9
    have a10 := bcs hbz hz a10
    have a11 := bcs hbz hz a11
    have c0 := bcs hbz hz1 c0
    have c1 := bcs hbz hz1 c1
    have c2 := bcs hbz hz1 c2
    have c3 := bcs hbz hz1 c3
    have c4 := bcs hbz hz1 c4
    have hzb : w.heap.size < Wb.heap.size := Nat.lt_of_lt_of_le hz hbz.size
    have hzb1 : w.heap.size + 1 < Wb.heap.size := Nat.lt_of_lt_of_le hz1 hbz.size
    have hww : w.heap.size ≤ Wb.heap.size := by omega
    clear hbz
    go_upto_region 3 with fail
    have HZA : Hid (VAt (Wb.alloc (.cells #[.int .i64 0, .int .i64 0, .string ⟨#[]⟩, .slice none 0 0, .slice none 0 0] 31)).drew Wb.heap.size RV.zero) := heap_alloc_at rfl
    have hk0 := KB.drew Wb
    have hkA : KB Wb.heap.size Wb (Wb.alloc (.cells #[.int .i64 0, .int .i64 0, .string ⟨#[]⟩, .slice none 0 0, .slice none 0 0] 31)).drew := kt_da Wb _
    have HSA : Hid (Wb.heap.size < (Wb.alloc (.cells #[.int .i64 0, .int .i64 0, .string ⟨#[]⟩, .slice none 0 0, .slice none 0 0] 31)).drew.heap.size) := by unfold Hid; simp [World.drew]
    go_cut [9, 10] from 23 to 30 (fun v s wr => ∃ (g : Nat) (rv : RV), v = .pointer (some ⟨g, 0, none⟩) ∧ s = .string wy ∧ Hid (GtR Wb T g rv wr))
    case first =>
      go_region_held3 (fun w' => Below Wb.heap.size Wb w' ∧ ∀ b o, b < Wb.heap.size → w'.cell? ⟨b, o, none⟩ = Wb.cell? ⟨b, o, none⟩)
        (first | with_reducible exact kt_drew Wb | with_reducible exact kt_same hbk | with_reducible exact kt_alloc hbk _ | with_reducible exact kt_da Wb _ | with_reducible exact kt_setV hbk _ ⟨rk, rn, rs, rpl, rnl, rcl, rpm, rnm, rcm⟩ (Nat.le_refl _) | with_reducible exact kt_setV hbk _ ⟨rk, rn, rs, rpl, rnl, rcl, rpm, rnm, rcm⟩ hs8)
        (first
          | (go_at_call 7; refine (CG2.out _ Wb.heap.size (kb1 (by assumption)).size (KB.fin (by assumption) HBWC.out hww) hww).mono ?_; rintro e w9 ⟨rk, rn, rs, rpl, rnl, rcl, rpm, rnm, rcm, rfl, hT9, hb9⟩; (have hbk := KB.step (W := Wb) (by assumption) hb9); (have HX := Lib.hid (And.intro hT9 hbk.1)); (have hsw9 := hb9.size); (first | ((have HZ9 := Lib.hid (HZ8.out.under hb9 HZ8.out.lt)); (have HS9 := HS8.out); (have z0 := HZ9.out.cell 0 rfl); (have z1 := HZ9.out.cell 1 rfl); (have z2 := HZ9.out.cell 2 rfl); (have z3 := HZ9.out.cell 3 rfl); (have z4 := HZ9.out.cell 4 rfl); (have y0 := HZ9.out.frozen 0); (have y1 := HZ9.out.frozen 1); (have y2 := HZ9.out.frozen 2); (have y3 := HZ9.out.frozen 3); (have y4 := HZ9.out.frozen 4); dsimp only [RV.zero] at z0 z1 z2 z3 z4) | ((have HZ8' : VAt (w8.alloc (.cells #[.int .i64 0, .int .i64 0, .string ⟨#[]⟩, .slice none 0 0, .slice none 0 0] 31)) w8.heap.size RV.zero := heap_alloc_at rfl); (have HZ9 := Lib.hid (HZ8'.under hb9 (by simp))); (have z0 := HZ9.out.cell 0 rfl); (have z1 := HZ9.out.cell 1 rfl); (have z2 := HZ9.out.cell 2 rfl); (have z3 := HZ9.out.cell 3 rfl); (have z4 := HZ9.out.cell 4 rfl); (have y0 := HZ9.out.frozen 0); (have y1 := HZ9.out.frozen 1); (have y2 := HZ9.out.frozen 2); (have y3 := HZ9.out.frozen 3); (have y4 := HZ9.out.frozen 4); dsimp only [RV.zero] at z0 z1 z2 z3 z4) | skip))
          | (go_at_call 8; refine (CK.out _).mono ?_; rintro e w8 ⟨rfl, hb8⟩; (have hbk := KB.step (W := Wb) (by assumption) hb8); (have hs8 := hbk.1.size); (first | ((have HZ8 := Lib.hid (HZA.out.under hb8 HZA.out.lt)); (have HS8 : Hid (Wb.heap.size < w8.heap.size) := Nat.lt_of_lt_of_le HSA.out hb8.size)) | skip))
          | fail)
      all_goals (
        go_wp2_with fail
        go_meet
        first
          | (have hz := HZ9
             exact ⟨_, ⟨rk, rn, rs, rpl, rnl, rcl, rpm, rnm, rcm⟩, rfl, rfl, GtR.stored HX.out.1 (by have h2 := hsw9; have h4 := hs8; (try simp only [World.alloc, World.drew, Array.size_push] at h2 h4 ⊢); omega) (by have h2 := hsw9; have h4 := hs8; (try (have h5 := HS8.out)); (try simp only [World.alloc, World.drew, Array.size_push] at h2 h4 ⊢); omega) (by have h2 := hsw9; have h4 := hs8; (try simp only [World.alloc, World.drew, Array.size_push] at h2 h4 ⊢); omega) hz.out HX.out.2⟩)
          | exact ⟨_, ⟨rk, rn, rs, rpl, rnl, rcl, rpm, rnm, rcm⟩, rfl, rfl, GtR.fresh HX.out.1 HX.out.2⟩)
    case rest =>
    obtain ⟨g9, rv9, rfl, rfl, hx9⟩ := hcut
    obtain ⟨k9, n9, s9, pl9, nl9, cl9, pm9, nm9, cm9⟩ := rv9
    obtain ⟨Wd, rfl⟩ : ∃ W, W = wc := ⟨_, rfl⟩
    have HX9 := Lib.hid hx9.out
    have HBWD : Hid (Below w.heap.size w Wd) := HBWC.out.trans (HX9.out.below.mono hww)
    have hbz := HX9.out.below
    have a0 := bcs hbz hzb a0
    have a1 := bcs hbz hzb a1
    have a2 := bcs hbz hzb a2
    have a3 := bcs hbz hzb a3
    have a4 := bcs hbz hzb a4
    have a5 := bcs hbz hzb a5
    have a6 := bcs hbz hzb a6
    have a7 := bcs hbz hzb a7
    have a8 := bcs hbz hzb a8
    have a9 := bcs hbz hzb a9
    have a10 := bcs hbz hzb a10
    have a11 := bcs hbz hzb a11
    have c0 := bcs hbz hzb1 c0
    have c1 := bcs hbz hzb1 c1
    have c2 := bcs hbz hzb1 c2
    have c3 := bcs hbz hzb1 c3
    have c4 := bcs hbz hzb1 c4
    have hzd : w.heap.size < Wd.heap.size := Nat.lt_of_lt_of_le hzb hbz.size
    have hzd1 : w.heap.size + 1 < Wd.heap.size := Nat.lt_of_lt_of_le hzb1 hbz.size
    have hwd : w.heap.size ≤ Wd.heap.size := by omega
    clear hbz hx9 HZA hk0 hkA HSA CG2
    have HZA : Hid (VAt (Wd.alloc (.cells #[.int .i64 0, .int .i64 0, .string ⟨#[]⟩, .slice none 0 0, .slice none 0 0] 31)).drew Wd.heap.size RV.zero) := heap_alloc_at rfl
    have hk0 := KB.drew Wd
    have hkA : KB Wd.heap.size Wd (Wd.alloc (.cells #[.int .i64 0, .int .i64 0, .string ⟨#[]⟩, .slice none 0 0, .slice none 0 0] 31)).drew := kt_da Wd _
    have HSA : Hid (Wd.heap.size < (Wd.alloc (.cells #[.int .i64 0, .int .i64 0, .string ⟨#[]⟩, .slice none 0 0, .slice none 0 0] 31)).drew.heap.size) := by unfold Hid; simp [World.drew]
    go_upto_region 4 with fail
    go_cut [11, 12] from 32 to 39 (fun v s wr => ∃ (g : Nat) (rv : RV), v = .pointer (some ⟨g, 0, none⟩) ∧ s = .string wy ∧ Hid (GtR Wd T g rv wr))
    case first =>
      go_region_held3 (fun w' => Below Wd.heap.size Wd w' ∧ ∀ b o, b < Wd.heap.size → w'.cell? ⟨b, o, none⟩ = Wd.cell? ⟨b, o, none⟩)
        (first | with_reducible exact kt_drew Wd | with_reducible exact kt_same hbk | with_reducible exact kt_alloc hbk _ | with_reducible exact kt_da Wd _ | with_reducible exact kt_setV hbk _ ⟨rk, rn, rs, rpl, rnl, rcl, rpm, rnm, rcm⟩ (Nat.le_refl _) | with_reducible exact kt_setV hbk _ ⟨rk, rn, rs, rpl, rnl, rcl, rpm, rnm, rcm⟩ hs8)
        (first
          | (go_at_call 9; refine (CR2.out _ Wd.heap.size (kb1 (by assumption)).size (KB.fin (by assumption) HBWD.out hwd) hwd).mono ?_; rintro e w9 ⟨rk, rn, rs, rpl, rnl, rcl, rpm, rnm, rcm, rfl, hT9, hb9⟩; (have hbk := KB.step (W := Wd) (by assumption) hb9); (have HX := Lib.hid (And.intro hT9 hbk.1)); (have hsw9 := hb9.size); (first | ((have HZ9 := Lib.hid (HZ8.out.under hb9 HZ8.out.lt)); (have HS9 := HS8.out); (have z0 := HZ9.out.cell 0 rfl); (have z1 := HZ9.out.cell 1 rfl); (have z2 := HZ9.out.cell 2 rfl); (have z3 := HZ9.out.cell 3 rfl); (have z4 := HZ9.out.cell 4 rfl); (have y0 := HZ9.out.frozen 0); (have y1 := HZ9.out.frozen 1); (have y2 := HZ9.out.frozen 2); (have y3 := HZ9.out.frozen 3); (have y4 := HZ9.out.frozen 4); dsimp only [RV.zero] at z0 z1 z2 z3 z4) | ((have HZ8' : VAt (w8.alloc (.cells #[.int .i64 0, .int .i64 0, .string ⟨#[]⟩, .slice none 0 0, .slice none 0 0] 31)) w8.heap.size RV.zero := heap_alloc_at rfl); (have HZ9 := Lib.hid (HZ8'.under hb9 (by simp))); (have z0 := HZ9.out.cell 0 rfl); (have z1 := HZ9.out.cell 1 rfl); (have z2 := HZ9.out.cell 2 rfl); (have z3 := HZ9.out.cell 3 rfl); (have z4 := HZ9.out.cell 4 rfl); (have y0 := HZ9.out.frozen 0); (have y1 := HZ9.out.frozen 1); (have y2 := HZ9.out.frozen 2); (have y3 := HZ9.out.frozen 3); (have y4 := HZ9.out.frozen 4); dsimp only [RV.zero] at z0 z1 z2 z3 z4) | skip))
          | (go_at_call 8; refine (CK.out _).mono ?_; rintro e w8 ⟨rfl, hb8⟩; (have hbk := KB.step (W := Wd) (by assumption) hb8); (have hs8 := hbk.1.size); (first | ((have HZ8 := Lib.hid (HZA.out.under hb8 HZA.out.lt)); (have HS8 : Hid (Wd.heap.size < w8.heap.size) := Nat.lt_of_lt_of_le HSA.out hb8.size)) | skip))
          | fail)
      all_goals (
        go_wp2_with fail
        go_meet
        first
          | (have hz := HZ9
             exact ⟨_, ⟨rk, rn, rs, rpl, rnl, rcl, rpm, rnm, rcm⟩, rfl, rfl, GtR.stored HX.out.1 (by have h2 := hsw9; have h4 := hs8; (try simp only [World.alloc, World.drew, Array.size_push] at h2 h4 ⊢); omega) (by have h2 := hsw9; have h4 := hs8; (try (have h5 := HS8.out)); (try simp only [World.alloc, World.drew, Array.size_push] at h2 h4 ⊢); omega) (by have h2 := hsw9; have h4 := hs8; (try simp only [World.alloc, World.drew, Array.size_push] at h2 h4 ⊢); omega) hz.out HX.out.2⟩)
          | exact ⟨_, ⟨rk, rn, rs, rpl, rnl, rcl, rpm, rnm, rcm⟩, rfl, rfl, GtR.fresh HX.out.1 HX.out.2⟩)
    case rest =>
    obtain ⟨g11, rv11, rfl, rfl, hx11⟩ := hcut
    obtain ⟨k11, n11, s11, pl11, nl11, cl11, pm11, nm11, cm11⟩ := rv11
    obtain ⟨We, rfl⟩ : ∃ W, W = wc := ⟨_, rfl⟩
    have HX11 := Lib.hid hx11.out
    have HY9 := Lib.hid (HX9.out.step HX11.out.below)
    have HBWE : Hid (Below w.heap.size w We) := HBWD.out.trans (HX11.out.below.mono hwd)
    have m0 := HY9.out.at'.cell 0 rfl
    have m1 := HY9.out.at'.cell 1 rfl
    have m2 := HY9.out.at'.cell 2 rfl
    have m3 := HY9.out.at'.cell 3 rfl
    have m4 := HY9.out.at'.cell 4 rfl
    have v0 := HX11.out.at'.cell 0 rfl
    have v1 := HX11.out.at'.cell 1 rfl
    have v2 := HX11.out.at'.cell 2 rfl
    have v3 := HX11.out.at'.cell 3 rfl
    have v4 := HX11.out.at'.cell 4 rfl
    dsimp only at m0 m1 m2 m3 m4 v0 v1 v2 v3 v4
    have hss : (wy.toList == wy.toList) = true := by simp
    have CSM : Hid (Calls Tryz.prog 10 #[.agg #[.int .i64 k9, .int .i64 n9, .string s9, .slice pl9 nl9 cl9, .slice pm9 nm9 cm9], .agg #[.int .i64 k11, .int .i64 n11, .string s11, .slice pl11 nl11 cl11, .slice pm11 nm11 cm11]] We fun e w' => e = .returned (.bool true) ∧ Below We.heap.size We w') :=
      (same5_any _ T T ⟨k9, n9, s9, pl9, nl9, cl9, pm9, nm9, cm9⟩ ⟨k11, n11, s11, pl11, nl11, cl11, pm11, nm11, cm11⟩ We (Nat.le_refl _) HY9.out.tree HX11.out.tree HTO.out HTO.out).mono (fun e w' h => h.yes rfl)
    clear hx11 HZA hk0 hkA HSA CR2 a0 a1 a2 a3 a4 a5 a6 a7 a8 a9 a10 a11 c0 c1 c2 c3 c4
    go_wp2_with (first
      | (go_at_call 10; refine CSM.out.mono ?_; rintro e w12 ⟨rfl, hb12⟩)
      | fail)
    go_ret
    exact ⟨rfl, HBWE.out.trans (hb12.mono HBWE.out.size)⟩
  · clear a0 a1 a2 a3 a4 a5 a6 a7 a8 a9 a10 a11 c0 c1 c2 c3 c4
    go_wp2_with (go_at_call 5; refine (CA.out _ HBWC.out).mono ?_; rintro e w3 ⟨rfl, hb3⟩)
    go_ret
    exact ⟨rfl, HBWC.out.trans (hb3.mono HBWC.out.size)⟩
end Go.Proofs.YtanemojiaahbgaaGreatDoor
end
