import Derived.Test.YtfgjimpmpckgpaaGreatDoorSg34
import Derived.Test.YtfgjimpmpckgpaaGreatDoorSg13
import Derived.Test.YtfgjimpmpckgpaaGreatDoorSg07
import Derived.Test.YtfgjimpmpckgpaaGreatDoorSg00
import Derived.Test.YtfgjimpmpckgpaaGreatDoorSg09
import Derived.Laws.CopyRow
import Derived.Laws.CopyOwn
import Derived.Shelf.Spec.SlicesInsertGrow
import Derived.Test.YtfgjimpmpckgpaaGreatDoorSg10
import Derived.Test.YtfgjimpmpckgpaaGreatDoorSg08
import Derived.Deep.RegionLaw
import Derived.Outline
import Derived.Test.YtfgjimpmpckgpaaGreatDoorSg11
import Derived.Test.YtfgjimpmpckgpaaGreatDoorSg03
import Derived.BigQuiet
import Derived.Deep.RegionHeld3
import Derived.ArgAppend
set_option linter.unusedSimpArgs false
set_option linter.unusedVariables false
set_option maxRecDepth 200000
set_option maxHeartbeats 8000000
namespace Go.Proofs.YtfgjimpmpckgpaaGreatDoor
section
open Go.RowKit Go.OpenShut
theorem size26_any (N : Nat) : ∀ (t : JV) (r : RV) (most : Int) (w : World), SizeOf.sizeOf t <= N -> TreeOf w w.heap.size t r -> t.Ok ->
 Calls Tryz.prog 29 #[r.val, .int .i64 most] w (SomeI w) := by
 induction N with
 | zero => intro t r most w hN; cases t; simp at hN
 | succ N ih =>
   intro t r most w hN ht ot
   cases ht with
   | @mk _ l m rs rms hl el hcl hm em hcn hcm =>
   obtain ⟨k, n, s, pl, nl, cl, pm, nm, cm⟩ := r
   cases ot with
   | mk _ _ _ bl bm okl oks okm =>
   dsimp only [RV.val] at *
   have eL := rd_nlen hl
   have eM := rd_nlen hm
   have HT : Hid (∀ (i : Nat) t q, l[i]? = some t -> rs[i]? = some q -> ∀ W, Below w.heap.size w W -> ∀ most, Calls Tryz.prog 29 #[q.val, .int .i64 most] W (SomeI W)) :=
    fun i t q h1 h2 W hb most => ih t q most W (by have := JV.lt_l (k := k) (n := n) (s := s) (m := m) h1; omega) ((hcl i t q h1 h2).under hb hb.size) (okl i t h1)
   have HS : Hid (∀ (i : Nat) p q, m[i]? = some p -> rms[i]? = some q -> ∀ W, Below w.heap.size w W -> ∀ most, Calls Tryz.prog 29 #[q.v.val, .int .i64 most] W (SomeI W)) :=
    fun i p q h1 h2 W hb most => ih p.2 q.v most W (by have := JV.lt_m (k := k) (n := n) (s := s) (l := l) h1; omega) ((hcm i p q h1 h2).under hb hb.size) (okm i p h1)
   have HL := Lib.hid hl
   have HM := Lib.hid hm
   have E1 : Hid (l.length = nl /\ rs.length = nl) := ⟨by omega, by omega⟩
   have E2 : Hid (m.length = nm /\ rms.length = nm) := ⟨by omega, by omega⟩
   have hnl : nl <= 1759218604390 := by omega
   have hnm : nm <= 1466015503658 := by omega
   have hA0 : VAt (w.alloc (.cells #[.int .i64 k, .int .i64 n, .string s, .slice pl nl cl, .slice pm nm cm] 31)) w.heap.size ⟨k, n, s, pl, nl, cl, pm, nm, cm⟩ := heap_alloc_at rfl
   have hB0 : Below w.heap.size w (w.alloc (.cells #[.int .i64 k, .int .i64 n, .string s, .slice pl nl cl, .slice pm nm cm] 31)) := (Below.refl _ _).alloc (Nat.le_refl _) _
   clear ih hcl hcn hcm hl hm okl oks okm el em bl bm eL eM hN
   go_enter Tryz.func29, Tryz.ntmps29
   go_upto_region 1 with fail
   obtain ⟨W0, hW0⟩ : ∃ W0, (w.alloc (.cells #[.int .i64 k, .int .i64 n, .string s, .slice pl nl cl, .slice pm nm cm] 31)) = W0 := ⟨_, rfl⟩
   rw [hW0] at hA0 hB0 ⊢
   clear hW0
   have hz := hA0.lt
   have c2 := hA0.cell 2 rfl
   have c3 := hA0.cell 3 rfl
   have c4 := hA0.cell 4 rfl
   dsimp only at c2 c3 c4
   clear hA0
   go_wp2_with fail
   clear c2
   go_loopw [5, 6] (fun a i wr => ∃ (g : Int) (j : Nat), j <= nl /\ a = .int .i64 g /\ i = .int .i64 j /\ Below W0.heap.size W0 wr) (fun _ i _ => nl - (intOf i).toNat)
   case atStart => exact ⟨_, 0, Nat.zero_le _, rfl, rfl, Below.refl _ _⟩
   case round =>
    obtain ⟨g, j, hj, rfl, rfl, hbr⟩ := hrel
    have c3 := bcs hbr hz c3
    have hbw : Below w.heap.size w wr := hB0.trans (hbr.mono hB0.size)
    obtain ⟨wo, rfl⟩ : ∃ wo : World, wo = wr := ⟨_, rfl⟩
    by_cases hgo : j < nl /\ g <= most
    ·obtain ⟨hlt, hgm⟩ := hgo
     obtain ⟨tx, htx⟩ : ∃ x, l[j]? = some x := ⟨_, List.getElem?_eq_getElem (by have := E1.out; omega)⟩
     obtain ⟨x, hx⟩ : ∃ x, rs[j]? = some x := ⟨_, List.getElem?_eq_getElem (by have := E1.out; omega)⟩
     obtain ⟨b1, o1, rfl, hb1, hc1⟩ := rd_at' (HL.out.below hbw (Nat.le_refl _)) hx
     have f0 := hc1 0 _ rfl
     have f1 := hc1 1 _ rfl
     have f2 := hc1 2 _ rfl
     have f3 := hc1 3 _ rfl
     have f4 := hc1 4 _ rfl
     rw [Nat.add_zero] at f0
     have HC := Lib.hid (HT.out j tx x htx hx)
     have hk0 : (0 : Int) <= (j : Int) := Int.natCast_nonneg _
     have hk1 : (j : Int) < (nl : Int) := by omega
     have hzr : W0.heap.size <= wo.heap.size := hbr.size
     have HBR := Lib.hid hbr
     clear hc1 htx hx hbr
     go_wp2_with (go_at_call 29; refine (HC.out _ hbw _).mono ?_; rintro e w1 ⟨d, rfl, hb1'⟩)
     go_roundw
     case rel => exact ⟨_, j + 1, by omega, rfl, by go_num, HBR.out.trans (hb1'.mono (by omega))⟩
     case measure => simp [intOf]; omega
    ·have hz1 : W0.heap.size <= wo.heap.size := hbr.size
     have c4 := bcs hbr hz c4
     clear HT HL E1 hbr
     by_cases p1 : j < nl
     all_goals (try (have hgm : ¬ g <= most := fun h => hgo ⟨p1, h⟩))
     all_goals clear hgo
     all_goals go_wp2_with fail
     all_goals clear c3
     all_goals (
     go_loopw [5, 7] (fun a i wq => ∃ (g : Int) (j : Nat), j <= nm /\ a = .int .i64 g /\ i = .int .i64 j /\ Below wo.heap.size wo wq) (fun _ i _ => nm - (intOf i).toNat)
     case atStart => exact ⟨g, 0, Nat.zero_le _, rfl, rfl, Below.refl _ _⟩
     case round =>
      obtain ⟨g, j, hj, rfl, rfl, hbr⟩ := hrel
      have hbw2 : Below w.heap.size w wr := hbw.trans (hbr.mono (by omega))
      have c4 := bcs hbr (by omega) c4
      obtain ⟨w3, rfl⟩ : ∃ w3 : World, w3 = wr := ⟨_, rfl⟩
      by_cases hgo : j < nm /\ g <= most
      ·obtain ⟨hlt, hgm⟩ := hgo
       obtain ⟨tx, htx⟩ : ∃ x, m[j]? = some x := ⟨_, List.getElem?_eq_getElem (by have := E2.out; omega)⟩
       obtain ⟨x, hx⟩ : ∃ x, rms[j]? = some x := ⟨_, List.getElem?_eq_getElem (by have := E2.out; omega)⟩
       obtain ⟨b1, o1, rfl, hb1, hc1⟩ := rd_at' (HM.out.below hbw2 (Nat.le_refl _)) hx
       have f0 := hc1 0 _ rfl
       have f1 := hc1 1 _ rfl
       have f2 := hc1 2 _ rfl
       have f3 := hc1 3 _ rfl
       have f4 := hc1 4 _ rfl
       have f5 := hc1 5 _ rfl
       rw [Nat.add_zero] at f0
       have HC := Lib.hid (HS.out j tx x htx hx)
       have hk0 : (0 : Int) <= (j : Int) := Int.natCast_nonneg _
       have hk1 : (j : Int) < (nm : Int) := by omega
       have HBR := Lib.hid hbr
       have hzq : wo.heap.size <= w3.heap.size := hbr.size
       clear hc1 htx hx hbr
       go_wp2_with (go_at_call 29; refine (HC.out _ hbw2 _).mono ?_; rintro e w1 ⟨d, rfl, hb1'⟩)
       all_goals (
        go_roundw
        case rel => first | exact ⟨_, j + 1, by omega, rfl, by go_num, HBR.out.trans (hb1'.mono (by omega))⟩ | exact ⟨_, j + 1, by omega, rfl, by go_num, HBR.out⟩
        case measure => simp [intOf]; omega)
      ·by_cases p1 : j < nm
       all_goals (try (have hgm : ¬ g <= most := fun h => hgo ⟨p1, h⟩))
       all_goals clear hgo
       all_goals go_wp2_with fail
       all_goals go_ret
       all_goals exact ⟨_, rfl, hbw2⟩)
theorem BoxAt.set2 {W : World} {g : Nat} {r : RB} (h : BoxAt W g r) (q : Int) : BoxAt (W.setCell ⟨g, 2, none⟩ (.int .i64 q)) g { r with sq := q } := by
 unfold BoxAt at h ⊢
 simp [World.setCell, Array.getElem?_modify, h]
end
section
open Go Go.RowKit
section
variable {P : Program} {α : Type} {enc : α -> List Value} {sz bytes : Nat} {t e : TypeId}
theorem Own.row {w : World} {base n cap : Nat} {p : Option Addr} {xs : List α} (h : Own w base e enc sz (.slice p n cap) xs) (hp : 0 < cap \/ p ≠ none) :
 ∃ g cur, p = some ⟨g, 0, none⟩ /\ base <= g /\ w.heap[g]? = some (.cells cur e (0, 0)) /\ n = xs.length /\ n <= cap /\ cap <= maxLen /\ cur.size = cap * sz /\ cur.toList.take (n * sz) = cellsOf enc xs := by
 obtain ⟨_, h⟩ := h
 rcases h with ⟨hv, _⟩ | ⟨g, cap', cur, hv, hg, hh, hnc, hcm, hcs, ht⟩
 ·simp only [Value.slice.injEq] at hv
  obtain ⟨rfl, _, rfl⟩ := hv
  rcases hp with h | h
  ·omega
  ·exact absurd rfl h
 ·simp only [Value.slice.injEq] at hv
  obtain ⟨rfl, rfl, rfl⟩ := hv
  exact ⟨g, cur, rfl, hg, hh, rfl, hnc, hcm, hcs, ht⟩
end
end
section
open Go.RowKit Go.OpenShut
def toldB (l : List En) (id : ByteArray) : Bool := l.any (fun e => decide (e.id = id))
def oldV (os : List (ByteArray × JV)) (id : ByteArray) : JV := ((os[lowN os id]?).map (·.2)).getD JV.zero
theorem NewBox.zero (w : World) (base B : Nat) : NewBox w base B BoxD.zero RB.zero := ⟨⟨[], Own.nil _ _ _, MemsOf.nil _ _⟩, Own.nil _ _ _, fun e h => by simp [BoxD.zero] at h, rfl, rfl, rfl⟩
structure PutS (w W : World) (r : RB) (id : ByteArray) (v : RV) : Prop where
 box : BoxAt W w.heap.size r
 str : W.heap[w.heap.size + 1]? = some (.cells #[.string id] 9 (0, 0))
 val : VAt W (w.heap.size + 1 + 1) v
 zero : BoxAt W (w.heap.size + 1 + 1 + 1) RB.zero
 below : Below w.heap.size w W
section
variable {w W W' : World} {r : RB} {id : ByteArray} {v : RV} (h : PutS w W r id v)
include h
theorem PutS.size : w.heap.size + 1 + 1 + 1 < W.heap.size := h.zero.lt
theorem PutS.sizes : w.heap.size < W.heap.size /\ w.heap.size + 1 < W.heap.size /\ w.heap.size + 1 + 1 < W.heap.size := by have := h.size; omega
theorem PutS.go (hb : Below W.heap.size W W') : PutS w W' r id v :=
 ⟨h.box.under hb h.sizes.1, (hb.block _ h.sizes.2.1).trans h.str, h.val.under hb h.sizes.2.2, h.zero.under hb h.size, h.below.trans (hb.mono h.below.size)⟩
theorem PutS.row {row : Option Nat} (hg : W.grownBy W' row) (hr : ∀ k, row = some k -> w.heap.size + 1 + 1 + 1 < k) : PutS w W' r id v := by
 have hz := h.size
 have hb : ∀ k, k <= w.heap.size + 1 + 1 + 1 -> W'.heap[k]? = W.heap[k]? := fun k hk => hg.block k (by omega) (fun e => by have := hr k e.symm; omega)
 exact ⟨(hb _ (by omega)).trans h.box, (hb _ (by omega)).trans h.str, (hb _ (by omega)).trans h.val, (hb _ (by omega)).trans h.zero, h.below.grown hg h.below.size (fun a e => by have := hr a e; omega)⟩
theorem PutS.other {g : Nat} (hg : W.grownBy W' (some g)) (hgw : W.heap.size <= g \/ w.heap.size + 1 + 1 + 1 < g) : PutS w W' r id v := by
 have hz := h.size
 exact ⟨h.box.kept hg (by omega), (hg.block _ h.sizes.2.1 (by simp; omega)).trans h.str, (hg.block _ h.sizes.2.2 (by simp; omega)).trans h.val, h.zero.kept hg (by omega), h.below.grown hg h.below.size (fun a e => by cases e; omega)⟩
end
theorem PutS.start (w : World) (r : RB) (id : ByteArray) (v : RV) : PutS w ((((w.alloc (.cells #[.slice r.po r.no r.co, .slice r.pt r.nt r.ct, .int .i64 r.sq, .int .i64 r.fl, .int .i64 r.kp] 25)).alloc (.cells #[.string id] 9)).alloc (.cells #[.int .i64 v.k, .int .i64 v.n, .string v.s, .slice v.pl v.nl v.cl, .slice v.pm v.nm v.cm] 31)).alloc (.cells #[.slice none 0 0, .slice none 0 0, .int .i64 0, .int .i64 0, .int .i64 0] 25)) r id v :=
 ⟨heap_alloc_lt (by simp <;> omega) (heap_alloc_lt (by simp <;> omega) (heap_alloc_lt (by simp) (heap_alloc_at rfl))), heap_alloc_lt (by simp <;> omega) (heap_alloc_lt (by simp) (heap_alloc_at (by simp))), heap_alloc_lt (by simp) (heap_alloc_at (by simp)), heap_alloc_at (by simp),
  (((Below.refl _ _).alloc (Nat.le_refl _) _).alloc (by simp) _ |>.alloc (by simp <;> omega) _).alloc (by simp <;> omega) _⟩
theorem MemsOf.insert {w : World} {B : Nat} {ms : List (ByteArray × JV)} {rms : List RM} (h : MemsOf w B ms rms) (i : Nat) {p : ByteArray × JV} {q : RM} (hn : p.1 = q.name) (ht : TreeOf w B p.2 q.v) : MemsOf w B (ms.take i ++ p :: ms.drop i) (rms.take i ++ q :: rms.drop i) := by
 have hl := h.len
 have key : ∀ (j : Nat) a c, (ms.take i ++ p :: ms.drop i)[j]? = some a -> (rms.take i ++ q :: rms.drop i)[j]? = some c -> a.1 = c.name /\ TreeOf w B a.2 c.v := by
  intro j a c h1 h2
  have hlt : (ms.take i).length = (rms.take i).length := by simp [hl]
  by_cases hj : j < (ms.take i).length
  ·rw [List.getElem?_append_left hj, List.getElem?_take] at h1
   rw [List.getElem?_append_left (by omega), List.getElem?_take] at h2
   split at h1
   ·rename_i h3
    rw [if_pos h3] at h2
    exact ⟨h.name _ _ _ h1 h2, h.val _ _ _ h1 h2⟩
   ·cases h1
  ·rw [List.getElem?_append_right (by omega)] at h1
   rw [List.getElem?_append_right (by omega), <- hlt] at h2
   cases hk : j - (ms.take i).length with
   | zero =>
     rw [hk] at h1 h2
     cases h1; cases h2
     exact ⟨hn, ht⟩
   | succ k =>
     rw [hk, List.getElem?_cons_succ, List.getElem?_drop] at h1 h2
     exact ⟨h.name _ _ _ h1 h2, h.val _ _ _ h1 h2⟩
 exact ⟨by simp [hl], fun j a c h1 h2 => (key j a c h1 h2).1, fun j a c h1 h2 => (key j a c h1 h2).2⟩
theorem BoxAt.set0 {W : World} {g : Nat} {r : RB} (h : BoxAt W g r) (p : Option Addr) (n c : Nat) : BoxAt (W.setCell ⟨g, 0, none⟩ (.slice p n c)) g { r with po := p, no := n, co := c } := by
 unfold BoxAt at h ⊢
 simp [World.setCell, Array.getElem?_modify, h]
structure TwoB (w W : World) (r : RB) : Prop where
 box : BoxAt W w.heap.size r
 zero : BoxAt W (w.heap.size + 1) RB.zero
 below : Below w.heap.size w W
section
variable {w W W' : World} {r : RB} (h : TwoB w W r)
include h
theorem TwoB.size : w.heap.size + 1 < W.heap.size := h.zero.lt
theorem TwoB.go (hb : Below W.heap.size W W') : TwoB w W' r := ⟨h.box.under hb h.box.lt, h.zero.under hb h.size, h.below.trans (hb.mono h.below.size)⟩
theorem TwoB.row {row : Option Nat} (hg : W.grownBy W' row) (hr : ∀ k, row = some k -> w.heap.size + 1 < k) : TwoB w W' r := by
 have hz := h.size
 have hb : ∀ k, k <= w.heap.size + 1 -> W'.heap[k]? = W.heap[k]? := fun k hk => hg.block k (by omega) (fun e => by have := hr k e.symm; omega)
 exact ⟨(hb _ (by omega)).trans h.box, (hb _ (by omega)).trans h.zero, h.below.grown hg h.below.size (fun a e => by have := hr a e; omega)⟩
end
theorem TwoB.start (w : World) (r : RB) : TwoB w ((w.alloc (.cells #[.slice r.po r.no r.co, .slice r.pt r.nt r.ct, .int .i64 r.sq, .int .i64 r.fl, .int .i64 r.kp] 25)).alloc (.cells #[.slice none 0 0, .slice none 0 0, .int .i64 0, .int .i64 0, .int .i64 0] 25)) r := ⟨heap_alloc_lt (by simp) (heap_alloc_at rfl), heap_alloc_at (by simp), below2 _ _ _⟩
abbrev Obs := List (ByteArray × JV)
def Rise (os : Obs) : Prop := os.Pairwise (fun p q => cmpN p.1 q.1 < 0)
theorem rise_iff {os : Obs} : Rising os ↔ Rise os := by
 unfold Rise
 rw [List.pairwise_iff_getElem]
 constructor
 ·intro h i j hi hj hij
  exact h i j _ _ hij (List.getElem?_eq_getElem hi) (List.getElem?_eq_getElem hj)
 ·intro h i j p q hij hp hq
  obtain ⟨hi, rfl⟩ := List.getElem?_eq_some_iff.1 hp
  obtain ⟨hj, rfl⟩ := List.getElem?_eq_some_iff.1 hq
  exact h i j hi hj hij
theorem cmp_ne {a b : ByteArray} (h : cmpN a b < 0) : a ≠ b := fun e => by subst e; rw [cmpN_self] at h; omega
theorem cmp_tri (a b : ByteArray) : cmpN a b < 0 \/ a = b \/ cmpN b a < 0 := by
 have h := cmpN_neg a b
 by_cases h1 : cmpN a b < 0
 ·exact .inl h1
 ·by_cases h2 : cmpN a b = 0
  ·exact .inr (.inl (cmpN_eq h2))
  ·exact .inr (.inr (by omega))
theorem lowN_cons (p : ByteArray × JV) (os : Obs) (id : ByteArray) : lowN (p :: os) id = if cmpN p.1 id < 0 then lowN os id + 1 else 0 := by
 unfold lowN
 rw [List.takeWhile_cons]
 by_cases h : cmpN p.1 id < 0 <;> simp [h]
def look (os : Obs) (id : ByteArray) : Option JV := if isAt os id = true then some (oldV os id) else none
theorem isAt_cons (p : ByteArray × JV) (os : Obs) (id : ByteArray) : isAt (p :: os) id = if cmpN p.1 id < 0 then isAt os id else decide (p.1 = id) := by
 unfold isAt
 rw [lowN_cons]
 by_cases h : cmpN p.1 id < 0 <;> simp [h]
theorem oldV_cons (p : ByteArray × JV) (os : Obs) (id : ByteArray) : oldV (p :: os) id = if cmpN p.1 id < 0 then oldV os id else p.2 := by
 unfold oldV
 rw [lowN_cons]
 by_cases h : cmpN p.1 id < 0 <;> simp [h]
theorem look_nil (id : ByteArray) : look [] id = none := rfl
theorem look_cons (p : ByteArray × JV) (os : Obs) (id : ByteArray) : look (p :: os) id = if cmpN p.1 id < 0 then look os id else if p.1 = id then some p.2 else none := by
 unfold look
 rw [isAt_cons, oldV_cons]
 by_cases h : cmpN p.1 id < 0 <;> simp [h]
theorem look_isSome (os : Obs) (id : ByteArray) : (look os id).isSome = isAt os id := by
 unfold look
 cases isAt os id <;> simp
theorem look_mem : ∀ {os : Obs} (hr : Rise os) (z : ByteArray × JV), z ∈ os ↔ look os z.1 = some z.2
 | [], _, z => by simp [look_nil]
 | p :: os, hr, z => by
   obtain ⟨h1, h2⟩ := List.pairwise_cons.1 hr
   have ih := look_mem h2 z
   rw [look_cons, List.mem_cons]
   by_cases h : cmpN p.1 z.1 < 0
   ·rw [if_pos h, <- ih]
    exact ⟨fun e => e.elim (fun e => by subst e; exact absurd rfl (cmp_ne h)) id, .inr⟩
   ·rw [if_neg h]
    have hz : z ∉ os := fun hm => h (h1 z hm)
    by_cases e : p.1 = z.1
    ·rw [if_pos e]
     refine ⟨fun e' => e'.elim (fun e' => by rw [e']) (fun hm => absurd hm hz), fun e' => .inl ?_⟩
     obtain ⟨a, b⟩ := z
     obtain ⟨c, d⟩ := p
     simp at e e'
     rw [e, e']
    ·rw [if_neg e]
     exact ⟨fun e' => e'.elim (fun e' => absurd (by rw [e']) e) (fun hm => absurd hm hz), fun e' => by simp at e'⟩
end
end Go.Proofs.YtfgjimpmpckgpaaGreatDoor
