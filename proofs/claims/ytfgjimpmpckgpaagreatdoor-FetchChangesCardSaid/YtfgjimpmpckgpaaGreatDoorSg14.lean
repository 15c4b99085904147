import Derived.Test.YtfgjimpmpckgpaaGreatDoorSg04
import Derived.Test.YtfgjimpmpckgpaaGreatDoorSg11
import Derived.Test.YtfgjimpmpckgpaaGreatDoorSg12
import Derived.Test.YtfgjimpmpckgpaaGreatDoorSg13
import Derived.Test.YtfgjimpmpckgpaaGreatDoorSg05
import Derived.OrdersHeld
import Derived.StillTail
import Derived.Deep.RegionHeld3
import Derived.KernelRfl
import Derived.Test.YtfgjimpmpckgpaaGreatDoorSg10
import Derived.WalkLawsBesides
import Derived.BigQuiet
set_option linter.unusedSimpArgs false
set_option linter.unusedVariables false
set_option maxRecDepth 200000
set_option maxHeartbeats 8000000
namespace Go.Proofs.YtfgjimpmpckgpaaGreatDoor
section
open Go Go.RowKit Go.OpenShut
def listJ (l : List JV) : JV := .mk 5 0 ⟨#[]⟩ l []
def objJ (m : List (ByteArray × JV)) : JV := .mk 6 0 ⟨#[]⟩ [] m
def accIdN : ByteArray := ⟨#[97, 99, 99, 111, 117, 110, 116, 73, 100]⟩
def stateN : ByteArray := ⟨#[115, 116, 97, 116, 101]⟩
def listN : ByteArray := ⟨#[108, 105, 115, 116]⟩
def notFoundN : ByteArray := ⟨#[110, 111, 116, 70, 111, 117, 110, 100]⟩
def shownTo (b : BoxD) (names : JV) (ids : List ByteArray) : List JV := ids.filterMap (fun id => (findJ b.objs id).map (fun v => showJ id v names))
def missTo (b : BoxD) (ids : List ByteArray) : List ByteArray := ids.filter (fun id => (findJ b.objs id).isNone)
def getJ (aid : ByteArray) (card : Bool) (b : BoxD) (l1 l2 : JV) : JV := objJ [(accIdN, textJ aid), (stateN, textJ (stateB card b.seq)), (listN, listJ (shownTo b l2 (askedL b l1))), (notFoundN, listJ ((missTo b (askedL b l1)).map textJ))]
def bigB (b : BoxD) (l1 l2 : JV) : Bool := decide (32 < l1.l.length) || (decide (32 < l2.l.length) || (decide (l1.k = 1) && decide (32 < b.objs.length)))
theorem shownTo_take {b : BoxD} {names : JV} {ids : List ByteArray} {k : Nat} {id : ByteArray} (h : ids[k]? = some id) : shownTo b names (ids.take (k + 1)) = shownTo b names (ids.take k) ++ (match findJ b.objs id with | some v => [showJ id v names] | none => []) := by
 unfold shownTo
 rw [List.take_add_one, h, Option.toList_some, List.filterMap_append]
 cases hf : findJ b.objs id <;> simp [hf]
theorem missTo_take {b : BoxD} {ids : List ByteArray} {k : Nat} {id : ByteArray} (h : ids[k]? = some id) : missTo b (ids.take (k + 1)) = missTo b (ids.take k) ++ (match findJ b.objs id with | some _ => [] | none => [id]) := by
 unfold missTo
 rw [List.take_add_one, h, Option.toList_some, List.filter_append]
 cases hf : findJ b.objs id <;> simp [hf]
theorem shownTo_len (b : BoxD) (names : JV) (ids : List ByteArray) : (shownTo b names ids).length <= ids.length := List.length_filterMap_le _ _
theorem missTo_len (b : BoxD) (ids : List ByteArray) : (missTo b ids).length <= ids.length := List.length_filter_le _ _
theorem RdI.of_rd {α : Type} {enc : α -> List Value} {sz : Nat} {w : World} {B : Nat} {v : Value} {xs : List α} (h : Rd w B enc sz v xs) : RdI w (fun k => k < B) enc sz v xs := by
 obtain ⟨p, cap, h1, h2, h3, h4, h5⟩ := h
 refine ⟨p, cap, h1, h2, h3, h4, fun a ha h0 => ?_⟩
 obtain ⟨b, o, e, hb, hr⟩ := h5 a ha h0
 exact ⟨b, o, e, hb, hr⟩
theorem TreeOf.treeS {w : World} {B : Nat} {t : JV} {r : RV} (h : TreeOf w B t r) : TreeS w (fun k => k < B) t r := by
 induction h with
 | mk hl el cl hm em cn cm ih1 ih2 => exact .mk (RdI.of_rd hl) el ih1 (RdI.of_rd hm) em cn ih2
structure GetS (W9 : World) (B o : Nat) (p : Option Addr) (n c : Nat) (ls : List JV) (m : Value) (ml : List ByteArray) (W : World) : Prop where
 grown : W9.grownBy W (some o)
 out : VAt W o ⟨5, 0, ⟨#[]⟩, p, n, c, none, 0, 0⟩
 lst : ∃ rs, Own W W9.heap.size 31 encV 5 (.slice p n c) rs /\ ls.length = rs.length /\ ∀ (i : Nat) t q, ls[i]? = some t -> rs[i]? = some q -> TreeS W (fun k => k < W.heap.size /\ (k < B \/ W9.heap.size <= k) /\ (Value.slice p n c).ownBlock ≠ some k /\ m.ownBlock ≠ some k) t q
 mis : Own W W9.heap.size 9 encS 1 m ml
 apart : ∀ k, (Value.slice p n c).ownBlock = some k -> m.ownBlock ≠ some k
theorem GetS.start {W9 : World} {B o : Nat} (h : VAt W9 o ⟨5, 0, ⟨#[]⟩, none, 0, 0, none, 0, 0⟩) : GetS W9 B o none 0 0 [] (.slice none 0 0) [] W9 :=
 ⟨World.grownBy.refl _ _, h, ⟨[], Own.nil _ _ _, rfl, fun i t q h => by simp at h⟩, Own.nil _ _ _, fun k e => by cases e⟩
theorem GetS.step {W9 W W' : World} {B o : Nat} {p : Option Addr} {n c : Nat} {ls : List JV} {m : Value} {ml : List ByteArray} (h : GetS W9 B o p n c ls m ml W) (hb : Below W.heap.size W W') : GetS W9 B o p n c ls m ml W' := by
 obtain ⟨rs, h1, h2, h3⟩ := h.lst
 have hs := hb.size
 exact ⟨h.grown.trans (hb.gb _), h.out.under hb h.out.lt, ⟨rs, h1.below hb (Nat.le_refl _), h2, fun i t q a b => ((h3 i t q a b).same (fun k e => hb.block k e.1)).mono (fun k e => ⟨by omega, e.2⟩)⟩, h.mis.below hb (Nat.le_refl _), h.apart⟩
theorem GetS.pushM {W9 W W1 W2 : World} {B o : Nat} {p : Option Addr} {n c : Nat} {ls : List JV} {m m2 : Value} {ml : List ByteArray} {x : ByteArray} (h : GetS W9 B o p n c ls m ml W) (hBo : B <= o) (ho9 : o < W9.heap.size) (hb : Below W.heap.size W W1) (ho : Own W2 W9.heap.size 9 encS 1 m2 (ml ++ [x])) (hg : W1.grownBy W2 m.ownBlock)
 (hat : m2.ownBlock = m.ownBlock \/ m2.ownBlock = some W1.heap.size) : GetS W9 B o p n c ls m2 (ml ++ [x]) W2 := by
 have h1 := h.step hb
 obtain ⟨rs, hO, hl, ht⟩ := h1.lst
 have hml := h1.mis.lt
 have hol := hO.lt
 have hs := hg.size
 have hz := h1.grown.size
 have hne : ∀ k, k < W1.heap.size -> m.ownBlock ≠ some k -> m2.ownBlock ≠ some k := fun k hk hn e => by
  rcases hat with h | h
  ·rw [h] at e; exact hn e
  ·rw [h] at e; injection e with e; omega
 refine ⟨⟨hg.os.trans h1.grown.os, hg.tape.trans h1.grown.tape, hg.output.trans h1.grown.output, by omega, fun k hk hne => (hg.block k (by omega) (fun e => by have := (hml k e.symm).1; omega)).trans (h1.grown.block k hk hne)⟩,
  (hg.block o (by omega) (fun e => by have := (hml o e.symm).1; omega)).trans h1.out, ⟨rs, hO.kept hg ?_, hl, fun i t q a b => ((ht i t q a b).same (fun k e => hg.block k e.1 (fun e2 => e.2.2.2 e2.symm))).mono (fun k e => ⟨by omega, e.2.1, e.2.2.1, hne k e.1 e.2.2.2⟩)⟩, ho, fun k e => hne k (hol k e).2 (h1.apart k e)⟩
 cases hob : (Value.slice p n c).ownBlock with
 | none => exact .inl rfl
 | some k => exact .inr (fun e => h1.apart k hob e.symm)
theorem GetS.whole {W9 W : World} {B o : Nat} {p : Option Addr} {n c : Nat} {ls : List JV} {m : Value} {ml : List ByteArray} (h : GetS W9 B o p n c ls m ml W) : TreeS W (fun k => k < W.heap.size /\ (k < B \/ W9.heap.size <= k)) (listJ ls) ⟨5, 0, ⟨#[]⟩, p, n, c, none, 0, 0⟩ := by
 obtain ⟨rs, h1, h2, h3⟩ := h.lst
 exact .mk (r := ⟨5, 0, ⟨#[]⟩, p, n, c, none, 0, 0⟩) (rs := rs) (rms := []) (h1.rdI codecV (fun k e => ⟨(h1.lt k e).2, .inr (h1.lt k e).1⟩)) h2 (fun i t q a b => (h3 i t q a b).mono (fun k e => ⟨e.1, e.2.1⟩)) (RdI.nil _ _) rfl (fun i p q h => by simp at h) (fun i p q h => by simp at h)
theorem texts_tree {w' : World} {base : Nat} {l : List ByteArray} {p : Option Addr} {n c : Nat} (h : Own w' base 31 encV 5 (.slice p n c) (l.map textR)) : TreeS w' (fun k => base <= k /\ k < w'.heap.size) (listJ (l.map textJ)) ⟨5, 0, ⟨#[]⟩, p, n, c, none, 0, 0⟩ :=
 .mk (r := ⟨5, 0, ⟨#[]⟩, p, n, c, none, 0, 0⟩) (rs := l.map textR) (rms := []) (h.rdI codecV (fun k e => h.lt k e)) (by simp) (fun i t q a b => by
  rw [List.getElem?_map] at a b
  cases hx : l[i]? with
  | none => rw [hx] at a; cases a
  | some s =>
    rw [hx] at a b
    cases a; cases b
    exact TreeS.leaf _ _ 4 0 s) (RdI.nil _ _) rfl (fun i p q h => by simp at h) (fun i p q h => by simp at h)
theorem four_tree {w : World} {S : Nat -> Prop} {base : Nat} {p : Option Addr} {n c : Nat} {n1 n2 n3 n4 : ByteArray} {t1 t2 t3 t4 : JV} {q1 q2 q3 q4 : RV} (ho : Own w base 81 encM 6 (.slice p n c) [⟨n1, q1⟩, ⟨n2, q2⟩, ⟨n3, q3⟩, ⟨n4, q4⟩]) (hs : ∀ k, base <= k -> k < w.heap.size -> S k)
 (h1 : TreeS w S t1 q1) (h2 : TreeS w S t2 q2) (h3 : TreeS w S t3 q3) (h4 : TreeS w S t4 q4) : TreeS w S (objJ [(n1, t1), (n2, t2), (n3, t3), (n4, t4)]) ⟨6, 0, ⟨#[]⟩, none, 0, 0, p, n, c⟩ := by
 refine .mk (r := ⟨6, 0, ⟨#[]⟩, none, 0, 0, p, n, c⟩) (rs := []) (RdI.nil _ _) rfl (fun i t q h => by simp at h) (ho.rdI codecM (fun k e => hs k (ho.lt k e).1 (ho.lt k e).2)) rfl (fun i y q a b => ?_) (fun i y q a b => ?_)
 ·rcases i with _ | _ | _ | _ | i
  ·cases a; cases b; rfl
  ·cases a; cases b; rfl
  ·cases a; cases b; rfl
  ·cases a; cases b; rfl
  ·simp at a
 ·rcases i with _ | _ | _ | _ | i
  ·cases a; cases b; exact h1
  ·cases a; cases b; exact h2
  ·cases a; cases b; exact h3
  ·cases a; cases b; exact h4
  ·simp at a
end
section
open Go
section
variable {P : Program} {ops : Array Oper} {Q : Exit -> Act -> World -> Prop} {md : Region.Mode} {S : World -> Prop} {n : Nat}
def wpAnyK (P : Program) (md : Region.Mode) (ops : Array Oper) (Q : Exit -> Act -> World -> Prop) (S : World -> Prop) (n : Nat) : Nat -> Array Bool -> Act -> World -> Prop
 | 0, listed, a, w => Region.ready md ops listed = [] /\ Q .normal a w
 | fuel + 1, listed, a, w => (Region.ready md ops listed = [] -> Q .normal a w) /\ ∀ i ∈ Region.ready md ops listed, wpOp P ops Q i (fun a' w' => (i ≠ n -> S w') /\ wpAnyK P md ops Q S n fuel (listed.setIfInBounds i true) a' w') a w
theorem wpAny_of_K : ∀ (fuel : Nat) (listed : Array Bool) (a : Act) (w : World), wpAnyK P md ops Q S n fuel listed a w -> wpAny P md ops Q fuel listed a w
 | 0, _, _, _, h => h
 | fuel + 1, _, _, _, h => ⟨h.1, fun i hi => wpOp_mono (fun a' w' h' => wpAny_of_K fuel _ a' w' h'.2) (h.2 i hi)⟩
def headKB (md : Region.Mode) (ops : Array Oper) (n : Nat) (listed : Array Bool) : Bool :=
 decide (listed.size = ops.size) && ((List.range ops.size).all fun j => !listed.getD j false || (match ops[j]? with | some oj => oj.after.all fun e => !Region.binds md e || listed.getD e.on false | none => true)) && ((List.range ops.size).all fun t => decide (t < n) || !listed.getD t true)
theorem headKB_inv {listed : Array Bool} (h : headKB md ops n listed = true) : HeadInv md ops n listed := by
 unfold headKB at h
 simp only [Bool.and_eq_true, decide_eq_true_eq, List.all_eq_true, List.mem_range, Bool.or_eq_true, Bool.not_eq_true'] at h
 obtain ⟨⟨h1, h2⟩, h3⟩ := h
 refine ⟨h1, fun j oj hj hl e he hb => ?_, fun t ht hlt => ?_⟩
 ·have hlt : j < ops.size := (Array.getElem?_eq_some_iff.1 hj).1
  rcases h2 j hlt with h | h
  ·rw [h] at hl; cases hl
  ·rw [hj] at h
   simp only at h
   rw [Array.all_eq_true_iff_forall_mem] at h
   have := h e he
   simp only [Bool.or_eq_true, Bool.not_eq_true'] at this
   rcases this with h | h
   ·rw [h] at hb; cases hb
   ·exact h
 ·rcases h3 t hlt with h | h
  ·omega
  ·exact h
theorem wpAnyK_first {i : Nat} {oi : Oper} {v : Value} (hi : ops[i]? = some oi) (hsel : ∀ (j : Nat) (o : Oper) cs b, ops[j]? = some o -> o.op ≠ .select cs b)
 (hs : Region.sinkB md ops n = true) (hc : Region.chainB md ops n = true) (hn : n < ops.size) (hin : i < n)
 (hQ : ∀ c a w, Q (.panic c) (a.put oi.dst v) w -> Q (.panic c) a w) :
 ∀ (fuel : Nat) (listed : Array Bool) (a : Act) (w : World), HeadInv md ops n listed ->
   (∀ j oj, ops[j]? = some oj -> j ≠ i -> listed.getD j true = false -> (∀ e ∈ oj.after, Region.binds md e = true -> e.on ≠ i) -> oi.apart ops oj = true) ->
   i ∈ Region.ready md ops listed -> YieldsIf P ops S oi v a -> S w ->
   wpAnyK P md ops Q S n fuel (listed.setIfInBounds i true) (a.put oi.dst v) w -> wpAnyK P md ops Q S n (fuel + 1) listed a w := by
 intro fuel
 induction fuel with
 | zero =>
   intro listed a w inv _ hr hy hS H
   refine ⟨fun h => absurd hr (by rw [h]; simp), fun j hj => ?_⟩
   by_cases hji : j = i
   ·subst hji
    exact hy.wpOp hi hS ⟨fun _ => hS, H⟩
   ·have hx := ready_mono hj hji
    rw [H.1] at hx
    cases hx
 | succ fuel ih =>
   intro listed a w inv hfree hr hy hS H
   refine ⟨fun h => absurd hr (by rw [h]; simp), fun j hj => ?_⟩
   by_cases hji : j = i
   ·subst hji
    exact hy.wpOp hi hS ⟨fun _ => hS, H⟩
   ·have hun := (mem_ready.1 hr).1
    have hjn : j < n := by
     rcases Nat.lt_or_ge j n with h | h
     ·exact h
     ·exact absurd hj (tail_waits hs hc hn inv _ i rfl hin hun j h)
    obtain ⟨hjun, oj, hoj, hall⟩ := mem_ready.1 hj
    have hnot : ∀ e ∈ oj.after, Region.binds md e = true -> e.on ≠ i := fun e he hb heq => by
     have hx := hall e he hb
     rw [heq, getD_both hun] at hx
     cases hx
    have hput := wpOp_putIf hoj (hfree j oj hoj hji hjun hnot) (fun cs b => hsel i oi cs b hi) (fun cs b => hsel j oj cs b hoj) hQ hy (H.2 j (ready_mono hj hji))
    refine wpOp_mono (fun a' w' hx => ⟨hx.2.1, ?_⟩) hput
    refine ih (listed.setIfInBounds j true) a' w' (inv.set hj hjn) (fun k ok hk hki hkun hno => hfree k ok hk hki ?_ hno) (ready_mono hr (Ne.symm hji)) hx.1 (hx.2.1 (by omega)) ?_
    ·by_cases hjk : j = k
     ·subst hjk; exact hjun
     ·rw [getD_set_ne true hjk] at hkun; exact hkun
    ·rw [Array.setIfInBounds_comm _ _ hji]
     exact hx.2.2
end
section
variable {P : Program} {l : List Oper} {Q : Exit -> Act -> World -> Prop} {md : Region.Mode} {S : World -> Prop} {n : Nat}
theorem drop_at {i : Nat} {oi : Oper} {rest : List Oper} (hi : l.drop i = oi :: rest) : l.toArray[i]? = some oi := by
 have h : (l.drop i)[0]? = some oi := by rw [hi]; rfl
 rw [List.getElem?_drop, Nat.add_zero] at h
 simpa using h
def sinksKB (md : Region.Mode) (ops : Array Oper) (n : Nat) : Bool := Region.noSelect ops && Region.sinkB md ops n && Region.chainB md ops n && decide (n < ops.size)
theorem wp_region_K {id : Nat} {a : Act} {w : World} (n : Nat) (S : World -> Prop) (hm : P.follows .mixedOrders = true) (hS : S w.drew)
 (h : S w.drew -> wpAnyK P .any l.toArray Q S n l.length (Array.replicate l.length false) a w.drew) : (Code.region id l.toArray true).wp P Q a w :=
 wp_region_any hm (wpAny_of_K _ _ _ _ (by simpa using h hS))
theorem wpAnyK_take {fuel : Nat} {listed : Array Bool} {a : Act} {w : World} {oi : Oper} {v : Value} {rest : List Oper} (i : Nat) (hi : l.drop i = oi :: rest) (hs : sinksKB md l.toArray n = true) (hin : decide (i < n) = true) (hb : headKB md l.toArray n listed = true)
 (hf : Region.free md l.toArray listed i = true) (hr : (Region.ready md l.toArray listed).contains i = true) (hQ : ∀ c a w, Q (.panic c) (a.put oi.dst v) w -> Q (.panic c) a w) (hS : S w) (hy : YieldsIf P l.toArray S oi v a)
 (h : wpAnyK P md l.toArray Q S n fuel (listed.setIfInBounds i true) (a.put oi.dst v) w) : wpAnyK P md l.toArray Q S n (fuel + 1) listed a w := by
 unfold sinksKB at hs
 simp only [Bool.and_eq_true, decide_eq_true_eq] at hs hin
 exact wpAnyK_first (drop_at hi) (Region.noSelect_spec hs.1.1.1) hs.1.1.2 hs.1.2 hs.2 hin hQ fuel listed a w (headKB_inv hb) (Region.free_spec (drop_at hi) hf) (by simpa using hr) hy hS h
theorem wpAnyK_eff {fuel : Nat} {listed : Array Bool} {a : Act} {w : World} {oi : Oper} {rest : List Oper} (i : Nat) (hi : l.drop i = oi :: rest) (hr : Region.ready md l.toArray listed = [i])
 (h : ∀ K' : Act -> World -> Prop, Shut (∀ a w, S w -> (S w -> wpAnyK P md l.toArray Q S n fuel (listed.setIfInBounds i true) a w) -> K' a w) -> if Region.wanted oi (yielded l.toArray a.tmps) = true then Oper.wp P oi a w K' Q else K' (a.put oi.dst undef) w) : wpAnyK P md l.toArray Q S n (fuel + 1) listed a w := by
 refine ⟨fun h0 => absurd (hr.symm.trans h0) (by simp), fun j hj => ?_⟩
 rw [hr] at hj
 obtain rfl : j = i := by simpa using hj
 exact wpOp_step (drop_at hi) (fun K' hK => h K' (fun a w hS hW => hK a w ⟨fun _ => hS, hW hS⟩))
theorem wpAnyK_last {fuel : Nat} {listed : Array Bool} {a : Act} {w : World} {oi : Oper} {rest : List Oper} (hi : l.drop n = oi :: rest) (hr : Region.ready md l.toArray listed = [n]) (hr2 : Region.ready md l.toArray (listed.setIfInBounds n true) = [])
 (h : ∀ K' : Act -> World -> Prop, Shut (∀ a w, Q .normal a w -> K' a w) -> if Region.wanted oi (yielded l.toArray a.tmps) = true then Oper.wp P oi a w K' Q else K' (a.put oi.dst undef) w) : wpAnyK P md l.toArray Q S n (fuel + 1) listed a w := by
 refine ⟨fun h0 => absurd (hr.symm.trans h0) (by simp), fun j hj => ?_⟩
 rw [hr] at hj
 obtain rfl : j = n := by simpa using hj
 refine wpOp_step (drop_at hi) (fun K' hK => h K' (fun a w hq => hK a w ⟨fun e => absurd rfl e, ?_⟩))
 cases fuel with
 | zero => exact ⟨hr2, hq⟩
 | succ f => exact ⟨fun _ => hq, fun j hj => by rw [hr2] at hj; cases hj⟩
end
end
section
open Go Go.RowKit Go.OpenShut
def TextsRet (w : World) (l : List ByteArray) (e : Ending) (w' : World) : Prop := ∃ p n c, e = .returned (RV.val ⟨5, 0, ⟨#[]⟩, p, n, c, none, 0, 0⟩) /\ Own w' w.heap.size 31 encV 5 (.slice p n c) (l.map textR) /\ Below w.heap.size w w'
theorem texts_any (l : List ByteArray) (p : Option Addr) (n c : Nat) (w : World) (hr : Rd w w.heap.size encS 1 (.slice p n c) l) (hl : l.length <= 100000) : Calls Tryz.prog 38 #[.slice p n c] w (TextsRet w l) := by
 have hn := rd_nlen hr
 have hZ0 : VAt ((w.alloc (.cells #[.int .i64 0, .int .i64 0, .string ⟨#[]⟩, .slice none 0 0, .slice none 0 0] 31)).alloc (.cells #[.int .i64 5, .int .i64 0, .string ⟨#[]⟩, .slice none 0 0, .slice none 0 0] 31)) w.heap.size RV.zero := heap_alloc_lt (by simp) (heap_alloc_at rfl)
 have hV0 : VAt ((w.alloc (.cells #[.int .i64 0, .int .i64 0, .string ⟨#[]⟩, .slice none 0 0, .slice none 0 0] 31)).alloc (.cells #[.int .i64 5, .int .i64 0, .string ⟨#[]⟩, .slice none 0 0, .slice none 0 0] 31)) (w.heap.size + 1) ⟨5, 0, ⟨#[]⟩, none, 0, 0, none, 0, 0⟩ := heap_alloc_at (by simp)
 have hB0 := below2 w (.cells #[.int .i64 0, .int .i64 0, .string ⟨#[]⟩, .slice none 0 0, .slice none 0 0] 31) (.cells #[.int .i64 5, .int .i64 0, .string ⟨#[]⟩, .slice none 0 0, .slice none 0 0] 31)
 have HR := Lib.hid hr
 have hno : n <= 100000 := by omega
 have HN : Hid (l.length = n) := hn.symm
 clear hr hn hl
 go_enter Tryz.func38, Tryz.ntmps38
 go_upto_region 2 with fail
 obtain ⟨W0, hW0⟩ : ∃ W0, ((w.alloc (.cells #[.int .i64 0, .int .i64 0, .string ⟨#[]⟩, .slice none 0 0, .slice none 0 0] 31)).alloc (.cells #[.int .i64 5, .int .i64 0, .string ⟨#[]⟩, .slice none 0 0, .slice none 0 0] 31)) = W0 := ⟨_, rfl⟩
 rw [hW0] at hZ0 hV0 hB0 ⊢
 clear hW0
 have HZ0 := Lib.hid hZ0
 have HV0 := Lib.hid hV0
 have HB0 := Lib.hid hB0
 clear hZ0 hV0 hB0
 go_wp2_with fail
 go_loopw [9] (fun i wr => ∃ k : Nat, k <= n /\ i = .int .i64 k /\ Hid (∃ q m d, VAt wr (w.heap.size + 1) ⟨5, 0, ⟨#[]⟩, q, m, d, none, 0, 0⟩ /\ VAt wr w.heap.size RV.zero /\ Own wr (w.heap.size + 2) 31 encV 5 (.slice q m d) ((l.take k).map textR) /\ Below w.heap.size w wr)) (fun i _ => n - (intOf i).toNat)
 case atStart => exact ⟨0, Nat.zero_le _, rfl, none, 0, 0, HV0.out, HZ0.out, Own.nil _ _ _, HB0.out⟩
 case round =>
  obtain ⟨k, hk, rfl, hH⟩ := hrel
  obtain ⟨q, m, d, hV, hZ, hO, hB⟩ := hH.out
  clear hH
  by_cases hlt : k < n
  ·obtain ⟨x, hx⟩ : ∃ x, l[k]? = some x := ⟨_, List.getElem?_eq_getElem (by have := HN.out; omega)⟩
   obtain ⟨b1, o1, rfl, hb1, hc1⟩ := rd_at' (HR.out.below hB (Nat.le_refl _)) hx
   have f0 := hc1 0 _ rfl
   rw [Nat.add_zero, Nat.mul_one] at f0
   have hk0 : (0 : Int) <= (k : Int) := Int.natCast_nonneg _
   have hk1 : (k : Int) < (n : Int) := by omega
   have HX := Lib.hid hx
   go_upto_region 5 with fail
   have c3 := hV.cell 3 rfl
   have y3 := hV.frozen 3
   dsimp only at c3
   have hzz := hV.lt
   have HV := Lib.hid hV
   have HZ := Lib.hid hZ
   have HO := Lib.hid hO
   have HB := Lib.hid hB
   have hlk : ((l.take k).map textR).length <= 100000 := by simp; omega
   have HLK := Lib.hid hlk
   clear hV hZ hO hB hx hc1 hlk
   have hc3 : (fun w' : World => w'.cell? ⟨w.heap.size + 1, 3, none⟩ = some (.slice q m d)) wr.drew := c3
   refine wp_region_K 7 (fun w' : World => w'.cell? ⟨w.heap.size + 1, 3, none⟩ = some (.slice q m d)) (by kernel_rfl) hc3 ?_
   intro hHeld
   refine wpAnyK_take (v := ?vv1) 0 rfl (by kernel_rfl) (by kernel_rfl) (by kernel_rfl) (by kernel_rfl) (by kernel_rfl) (fun _ _ _ h => h) (by assumption) (Or.inl ⟨by rfl, ?hy1⟩) ?rest1
   case hy1 => (intro w' hSw; (try dsimp only at hSw); first | (go_simp; done) | (go_simp; with_reducible rfl))
   try simp only [Act.put, List.setIfInBounds_toArray, List.set_cons_zero, List.set_cons_succ]
   refine wpAnyK_take (v := ?vv2) 1 rfl (by kernel_rfl) (by kernel_rfl) (by kernel_rfl) (by kernel_rfl) (by kernel_rfl) (fun _ _ _ h => h) (by assumption) (Or.inl ⟨by rfl, ?hy2⟩) ?rest2
   case hy2 => (intro w' hSw; (try dsimp only at hSw); first | (go_simp; done) | (go_simp; with_reducible rfl))
   try simp only [Act.put, List.setIfInBounds_toArray, List.set_cons_zero, List.set_cons_succ]
   refine wpAnyK_take (v := ?vv3) 2 rfl (by kernel_rfl) (by kernel_rfl) (by kernel_rfl) (by kernel_rfl) (by kernel_rfl) (fun _ _ _ h => h) (by assumption) (Or.inl ⟨by rfl, ?hy3⟩) ?rest3
   case hy3 => (intro w' hSw; (try dsimp only at hSw); first | (go_simp; done) | (go_simp; with_reducible rfl))
   try simp only [Act.put, List.setIfInBounds_toArray, List.set_cons_zero, List.set_cons_succ]
   refine wpAnyK_eff 3 rfl (by kernel_rfl) (fun K hK => ?_)
   go_simp
   go_at_call 36
   refine (textV_any x _).mono ?_
   rintro e w3 ⟨rfl, hb3'⟩
   have hb3 : Below wr.heap.size wr w3 := (Below.refl _ _).drew.trans hb3'
   refine hK.out _ _ (bcs hb3 hzz c3) (fun hHeld => ?_)
   clear hK K hb3'
   try simp only [Act.put, List.setIfInBounds_toArray, List.set_cons_zero, List.set_cons_succ]
   refine wpAnyK_eff 4 rfl (by kernel_rfl) (fun K hK => ?_)
   go_simp
   have hb4 : Below wr.heap.size wr (w3.alloc (.cells #[.int .i64 4, .int .i64 0, .string x, .slice none 0 0, .slice none 0 0] 31)) := hb3.alloc hb3.size _
   refine hK.out _ _ (bcs hb4 hzz c3) (fun hHeld => ?_)
   clear hK K
   try simp only [Act.put, List.setIfInBounds_toArray, List.set_cons_zero, List.set_cons_succ]
   have ho4 : Own (w3.alloc (.cells #[.int .i64 4, .int .i64 0, .string x, .slice none 0 0, .slice none 0 0] 31)) (w.heap.size + 2) 31 encV 5 (.slice q m d) ((l.take k).map textR) := HO.out.below hb4 (Nat.le_refl _)
   have hz4 : w.heap.size + 2 <= (w3.alloc (.cells #[.int .i64 4, .int .i64 0, .string x, .slice none 0 0, .slice none 0 0] 31)).heap.size := by have := hb4.size; omega
   refine wpAnyK_eff 5 rfl (by kernel_rfl) (fun K hK => ?_)
   refine step_append_rd slV codecV (w3.alloc (.cells #[.int .i64 4, .int .i64 0, .string x, .slice none 0 0, .slice none 0 0] 31)) (by rfl) (.tmp 14) (.tmp 17) (by rfl) (v := .slice q m d) (by rfl) (by rfl) ho4 (Rd.one (B := w3.heap.size + 1) (x := textR x) codecV (heap_alloc_new _ _) rfl (by omega)) (by have := HLK.out; simp only [List.length_singleton]; unfold maxLen; omega) (by have := HLK.out; simp only [List.length_singleton]; omega) hz4 ?_
   intro v7 w7 ho7 hg7 hat7
   obtain ⟨q7, m7, d7, rfl⟩ : ∃ p n c, v7 = Value.slice p n c := by obtain ⟨p, c, hv, _, _⟩ := ho7.len; exact ⟨p, _, c, hv⟩
   have hV7 : VAt w7 (w.heap.size + 1) ⟨5, 0, ⟨#[]⟩, q, m, d, none, 0, 0⟩ := (HV.out.under hb4 hzz).keep (hg7.block _ (by have := hb4.size; omega) (fun e => by have := (ho4.lt _ e.symm).1; omega))
   have hZ7 : VAt w7 w.heap.size RV.zero := (HZ.out.under hb4 HZ.out.lt).keep (hg7.block _ (by have := hb4.size; omega) (fun e => by have := (ho4.lt _ e.symm).1; omega))
   have hb7 : Below w.heap.size w w7 := Below.appended (HB.out.trans (hb4.mono HB.out.size)) hg7 (ho4.mono (by omega)) (by omega)
   refine hK.out _ _ (hV7.cell 3 rfl) (fun hHeld => ?_)
   clear hK K
   try simp only [Act.put, List.setIfInBounds_toArray, List.set_cons_zero, List.set_cons_succ]
   refine wpAnyK_take (v := ?vv4) 6 rfl (by kernel_rfl) (by kernel_rfl) (by kernel_rfl) (by kernel_rfl) (by kernel_rfl) (fun _ _ _ h => h) (by assumption) (Or.inl ⟨by rfl, ?hy4⟩) ?rest4
   case hy4 => (intro w' hSw; (try dsimp only at hSw); first | (go_simp; done) | (go_simp; with_reducible rfl))
   try simp only [Act.put, List.setIfInBounds_toArray, List.set_cons_zero, List.set_cons_succ]
   have c37 := hV7.cell 3 rfl
   have y37 := hV7.frozen 3
   refine wpAnyK_last rfl (by kernel_rfl) (by kernel_rfl) (fun K hK => ?_)
   go_simp
   refine hK.out _ _ ?_
   have hV8 := hV7.setLs q7 m7 d7
   have hZ8 : VAt (w7.setCell ⟨w.heap.size + 1, 3, none⟩ (.slice q7 m7 d7)) w.heap.size RV.zero := hZ7.keep ((grownBy_set w7 (w.heap.size + 1) 3 _).block _ hZ7.lt (by simp))
   have ho8 := ho7.kept (grownBy_set w7 (w.heap.size + 1) 3 (.slice q7 m7 d7)) (.inr (fun e => by have := (ho7.lt _ e).1; omega))
   have hb8 := hb7.setCell (by omega : w.heap.size <= w.heap.size + 1) (p := ⟨w.heap.size + 1, 3, none⟩) (.slice q7 m7 d7)
   have hs8 : (l.take (k + 1)).map textR = (l.take k).map textR ++ [textR x] := by rw [List.take_add_one, HX.out]; simp
   have HR8 : Hid (∃ q m d, VAt (w7.setCell ⟨w.heap.size + 1, 3, none⟩ (.slice q7 m7 d7)) (w.heap.size + 1) ⟨5, 0, ⟨#[]⟩, q, m, d, none, 0, 0⟩ /\ VAt (w7.setCell ⟨w.heap.size + 1, 3, none⟩ (.slice q7 m7 d7)) w.heap.size RV.zero /\ Own (w7.setCell ⟨w.heap.size + 1, 3, none⟩ (.slice q7 m7 d7)) (w.heap.size + 2) 31 encV 5 (.slice q m d) ((l.take (k + 1)).map textR) /\ Below w.heap.size w (w7.setCell ⟨w.heap.size + 1, 3, none⟩ (.slice q7 m7 d7))) := ⟨q7, m7, d7, hV8, hZ8, by rw [hs8]; exact ho8, hb8⟩
   clear hV8 hZ8 ho8 hb8 hs8 hV7 hZ7 ho7 hb7 hg7 hat7 ho4 hb4 hb3 hK
   go_wp2_with fail
   go_roundw
   case rel => exact ⟨k + 1, by omega, by go_num, HR8⟩
   case measure => simp [intOf]; omega
  ·obtain rfl : k = n := by omega
   have hta : l.take k = l := List.take_of_length_le (by have := HN.out; omega)
   rw [hta] at hO
   obtain ⟨v0, v1, v2, v3, v4⟩ := hV.cells5
   obtain ⟨z0, z1, z2, z3, z4⟩ := hZ.cells5
   have y0 := hZ.frozen 0
   have y1 := hZ.frozen 1
   have y2 := hZ.frozen 2
   have y3 := hZ.frozen 3
   have y4 := hZ.frozen 4
   dsimp only [RV.zero] at v0 v1 v2 v3 v4 z0 z1 z2 z3 z4
   have HZ := Lib.hid hZ
   have HO := Lib.hid hO
   have HB := Lib.hid hB
   clear hV hZ hO hB hta
   go_wp2_with fail
   have HZ2 := HZ.out.stored ⟨5, 0, ⟨#[]⟩, q, m, d, none, 0, 0⟩
   refine bodyPost_ret (v := RV.val ⟨5, 0, ⟨#[]⟩, q, m, d, none, 0, 0⟩) (by simp [results, Tryz.results38, go_sem, z0, z1, z2, z3, z4]) rfl ⟨q, m, d, rfl, ?_, Below.stored HB.out (Nat.le_refl _) ⟨5, 0, ⟨#[]⟩, q, m, d, none, 0, 0⟩⟩
   exact (HO.out.kept (grownBy_set5 wr w.heap.size ⟨5, 0, ⟨#[]⟩, q, m, d, none, 0, 0⟩) (.inr (fun e => by have := (HO.out.lt _ e).1; omega))).mono (by omega)
theorem refTexts_any (l : List ByteArray) (p : Option Addr) (n c : Nat) (w : World) (hr : Rd w w.heap.size encS 1 (.slice p n c) l) (hl : l.length <= 100000) : Calls Tryz.prog 24 #[.slice p n c] w (TextsRet w l) := by
 have hn := rd_nlen hr
 have hZ0 : VAt ((w.alloc (.cells #[.int .i64 0, .int .i64 0, .string ⟨#[]⟩, .slice none 0 0, .slice none 0 0] 31)).alloc (.cells #[.int .i64 5, .int .i64 0, .string ⟨#[]⟩, .slice none 0 0, .slice none 0 0] 31)) w.heap.size RV.zero := heap_alloc_lt (by simp) (heap_alloc_at rfl)
 have hV0 : VAt ((w.alloc (.cells #[.int .i64 0, .int .i64 0, .string ⟨#[]⟩, .slice none 0 0, .slice none 0 0] 31)).alloc (.cells #[.int .i64 5, .int .i64 0, .string ⟨#[]⟩, .slice none 0 0, .slice none 0 0] 31)) (w.heap.size + 1) ⟨5, 0, ⟨#[]⟩, none, 0, 0, none, 0, 0⟩ := heap_alloc_at (by simp)
 have hB0 := below2 w (.cells #[.int .i64 0, .int .i64 0, .string ⟨#[]⟩, .slice none 0 0, .slice none 0 0] 31) (.cells #[.int .i64 5, .int .i64 0, .string ⟨#[]⟩, .slice none 0 0, .slice none 0 0] 31)
 have HR := Lib.hid hr
 have hno : n <= 100000 := by omega
 have HN : Hid (l.length = n) := hn.symm
 clear hr hn hl
 go_enter Tryz.func24, Tryz.ntmps24
 go_upto_region 2 with fail
 obtain ⟨W0, hW0⟩ : ∃ W0, ((w.alloc (.cells #[.int .i64 0, .int .i64 0, .string ⟨#[]⟩, .slice none 0 0, .slice none 0 0] 31)).alloc (.cells #[.int .i64 5, .int .i64 0, .string ⟨#[]⟩, .slice none 0 0, .slice none 0 0] 31)) = W0 := ⟨_, rfl⟩
 rw [hW0] at hZ0 hV0 hB0 ⊢
 clear hW0
 have HZ0 := Lib.hid hZ0
 have HV0 := Lib.hid hV0
 have HB0 := Lib.hid hB0
 clear hZ0 hV0 hB0
 go_wp2_with fail
 go_loopw [4] (fun i wr => ∃ k : Nat, k <= n /\ i = .int .i64 k /\ Hid (∃ q m d, VAt wr (w.heap.size + 1) ⟨5, 0, ⟨#[]⟩, q, m, d, none, 0, 0⟩ /\ VAt wr w.heap.size RV.zero /\ Own wr (w.heap.size + 2) 31 encV 5 (.slice q m d) ((l.take k).map textR) /\ Below w.heap.size w wr)) (fun i _ => n - (intOf i).toNat)
 case atStart => exact ⟨0, Nat.zero_le _, rfl, none, 0, 0, HV0.out, HZ0.out, Own.nil _ _ _, HB0.out⟩
 case round =>
  obtain ⟨k, hk, rfl, hH⟩ := hrel
  obtain ⟨q, m, d, hV, hZ, hO, hB⟩ := hH.out
  clear hH
  by_cases hlt : k < n
  ·obtain ⟨x, hx⟩ : ∃ x, l[k]? = some x := ⟨_, List.getElem?_eq_getElem (by have := HN.out; omega)⟩
   obtain ⟨b1, o1, rfl, hb1, hc1⟩ := rd_at' (HR.out.below hB (Nat.le_refl _)) hx
   have f0 := hc1 0 _ rfl
   rw [Nat.add_zero, Nat.mul_one] at f0
   have hk0 : (0 : Int) <= (k : Int) := Int.natCast_nonneg _
   have hk1 : (k : Int) < (n : Int) := by omega
   have HX := Lib.hid hx
   go_upto_region 5 with fail
   have c3 := hV.cell 3 rfl
   have y3 := hV.frozen 3
   dsimp only at c3
   have hzz := hV.lt
   have HV := Lib.hid hV
   have HZ := Lib.hid hZ
   have HO := Lib.hid hO
   have HB := Lib.hid hB
   have hlk : ((l.take k).map textR).length <= 100000 := by simp; omega
   have HLK := Lib.hid hlk
   clear hV hZ hO hB hx hc1 hlk
   have hbs : b1 < wr.heap.size := by have := HB.out.size; omega
   have hc3 : (fun w' : World => w'.cell? ⟨w.heap.size + 1, 3, none⟩ = some (.slice q m d) /\ w'.cell? ⟨b1, o1 + k, none⟩ = some (.string x)) wr.drew := ⟨c3, f0⟩
   refine wp_region_K 10 (fun w' : World => w'.cell? ⟨w.heap.size + 1, 3, none⟩ = some (.slice q m d) /\ w'.cell? ⟨b1, o1 + k, none⟩ = some (.string x)) (by kernel_rfl) hc3 ?_
   intro hHeld
   refine wpAnyK_take (v := ?vv5) 0 rfl (by kernel_rfl) (by kernel_rfl) (by kernel_rfl) (by kernel_rfl) (by kernel_rfl) (fun _ _ _ h => h) (by assumption) (Or.inl ⟨by rfl, ?hy5⟩) ?rest5
   case hy5 => (intro w' hSw; (try dsimp only at hSw); first | (go_simp; done) | (go_simp; with_reducible rfl))
   try simp only [Act.put, List.setIfInBounds_toArray, List.set_cons_zero, List.set_cons_succ]
   refine wpAnyK_take (v := ?vv6) 1 rfl (by kernel_rfl) (by kernel_rfl) (by kernel_rfl) (by kernel_rfl) (by kernel_rfl) (fun _ _ _ h => h) (by assumption) (Or.inl ⟨by rfl, ?hy6⟩) ?rest6
   case hy6 => (intro w' hSw; (try dsimp only at hSw); first | (go_simp; done) | (go_simp; with_reducible rfl))
   try simp only [Act.put, List.setIfInBounds_toArray, List.set_cons_zero, List.set_cons_succ]
   refine wpAnyK_take (v := ?vv7) 2 rfl (by kernel_rfl) (by kernel_rfl) (by kernel_rfl) (by kernel_rfl) (by kernel_rfl) (fun _ _ _ h => h) (by assumption) (Or.inl ⟨by rfl, ?hy7⟩) ?rest7
   case hy7 => (intro w' hSw; (try dsimp only at hSw); first | (go_simp; done) | (go_simp; with_reducible rfl))
   try simp only [Act.put, List.setIfInBounds_toArray, List.set_cons_zero, List.set_cons_succ]
   refine wpAnyK_take (v := ?vv8) 3 rfl (by kernel_rfl) (by kernel_rfl) (by kernel_rfl) (by kernel_rfl) (by kernel_rfl) (fun _ _ _ h => h) (by assumption) (Or.inl ⟨by rfl, ?hy8⟩) ?rest8
   case hy8 => (intro w' hSw; (try dsimp only at hSw); first | (go_simp; done) | (go_simp; with_reducible rfl))
   try simp only [Act.put, List.setIfInBounds_toArray, List.set_cons_zero, List.set_cons_succ]
   refine wpAnyK_take (v := ?vv9) 4 rfl (by kernel_rfl) (by kernel_rfl) (by kernel_rfl) (by kernel_rfl) (by kernel_rfl) (fun _ _ _ h => h) (by assumption) (Or.inl ⟨by rfl, ?hy9⟩) ?rest9
   case hy9 => (intro w' hSw; (try dsimp only at hSw); first | (go_simp; done) | (go_simp; with_reducible rfl))
   try simp only [Act.put, List.setIfInBounds_toArray, List.set_cons_zero, List.set_cons_succ]
   refine wpAnyK_take (v := ?vv10) 5 rfl (by kernel_rfl) (by kernel_rfl) (by kernel_rfl) (by kernel_rfl) (by kernel_rfl) (fun _ _ _ h => h) (by assumption) (Or.inl ⟨by rfl, ?hy10⟩) ?rest10
   case hy10 => (intro w' hSw; (try dsimp only at hSw); first | (go_simp; done) | (go_simp; with_reducible rfl))
   try simp only [Act.put, List.setIfInBounds_toArray, List.set_cons_zero, List.set_cons_succ]
   refine wpAnyK_eff 6 rfl (by kernel_rfl) (fun K hK => ?_)
   go_simp
   go_at_call 43
   refine (textV25_any x _).mono ?_
   rintro e w3 ⟨rfl, hb3'⟩
   have hb3 : Below wr.heap.size wr w3 := (Below.refl _ _).drew.trans hb3'
   refine hK.out _ _ ⟨bcs hb3 hzz c3, bcs hb3 hbs f0⟩ (fun hHeld => ?_)
   clear hK K hb3'
   try simp only [Act.put, List.setIfInBounds_toArray, List.set_cons_zero, List.set_cons_succ]
   refine wpAnyK_eff 7 rfl (by kernel_rfl) (fun K hK => ?_)
   go_simp
   have hb4 : Below wr.heap.size wr (w3.alloc (.cells #[.int .i64 4, .int .i64 0, .string x, .slice none 0 0, .slice none 0 0] 31)) := hb3.alloc hb3.size _
   refine hK.out _ _ ⟨bcs hb4 hzz c3, bcs hb4 hbs f0⟩ (fun hHeld => ?_)
   clear hK K
   try simp only [Act.put, List.setIfInBounds_toArray, List.set_cons_zero, List.set_cons_succ]
   have ho4 : Own (w3.alloc (.cells #[.int .i64 4, .int .i64 0, .string x, .slice none 0 0, .slice none 0 0] 31)) (w.heap.size + 2) 31 encV 5 (.slice q m d) ((l.take k).map textR) := HO.out.below hb4 (Nat.le_refl _)
   have hz4 : w.heap.size + 2 <= (w3.alloc (.cells #[.int .i64 4, .int .i64 0, .string x, .slice none 0 0, .slice none 0 0] 31)).heap.size := by have := hb4.size; omega
   refine wpAnyK_eff 8 rfl (by kernel_rfl) (fun K hK => ?_)
   refine step_append_rd slV codecV (w3.alloc (.cells #[.int .i64 4, .int .i64 0, .string x, .slice none 0 0, .slice none 0 0] 31)) (by rfl) (.tmp 13) (.tmp 19) (by rfl) (v := .slice q m d) (by rfl) (by rfl) ho4 (Rd.one (B := w3.heap.size + 1) (x := textR x) codecV (heap_alloc_new _ _) rfl (by omega)) (by have := HLK.out; simp only [List.length_singleton]; unfold maxLen; omega) (by have := HLK.out; simp only [List.length_singleton]; omega) hz4 ?_
   intro v7 w7 ho7 hg7 hat7
   obtain ⟨q7, m7, d7, rfl⟩ : ∃ p n c, v7 = Value.slice p n c := by obtain ⟨p, c, hv, _, _⟩ := ho7.len; exact ⟨p, _, c, hv⟩
   have hV7 : VAt w7 (w.heap.size + 1) ⟨5, 0, ⟨#[]⟩, q, m, d, none, 0, 0⟩ := (HV.out.under hb4 hzz).keep (hg7.block _ (by have := hb4.size; omega) (fun e => by have := (ho4.lt _ e.symm).1; omega))
   have hZ7 : VAt w7 w.heap.size RV.zero := (HZ.out.under hb4 HZ.out.lt).keep (hg7.block _ (by have := hb4.size; omega) (fun e => by have := (ho4.lt _ e.symm).1; omega))
   have hb7 : Below w.heap.size w w7 := Below.appended (HB.out.trans (hb4.mono HB.out.size)) hg7 (ho4.mono (by omega)) (by omega)
   have f07 : w7.cell? ⟨b1, o1 + k, none⟩ = some (.string x) := (World.cell?_of_block (a := ⟨b1, o1 + k, none⟩) (hg7.block b1 (by have := hb4.size; omega) (fun e => by have := (ho4.lt _ e.symm).1; omega))).trans (bcs hb4 hbs f0)
   refine hK.out _ _ ⟨hV7.cell 3 rfl, f07⟩ (fun hHeld => ?_)
   clear hK K
   try simp only [Act.put, List.setIfInBounds_toArray, List.set_cons_zero, List.set_cons_succ]
   refine wpAnyK_take (v := ?vv11) 9 rfl (by kernel_rfl) (by kernel_rfl) (by kernel_rfl) (by kernel_rfl) (by kernel_rfl) (fun _ _ _ h => h) (by assumption) (Or.inl ⟨by rfl, ?hy11⟩) ?rest11
   case hy11 => (intro w' hSw; (try dsimp only at hSw); first | (go_simp; done) | (go_simp; with_reducible rfl))
   try simp only [Act.put, List.setIfInBounds_toArray, List.set_cons_zero, List.set_cons_succ]
   have c37 := hV7.cell 3 rfl
   have y37 := hV7.frozen 3
   refine wpAnyK_last rfl (by kernel_rfl) (by kernel_rfl) (fun K hK => ?_)
   go_simp
   refine hK.out _ _ ?_
   have hV8 := hV7.setLs q7 m7 d7
   have hZ8 : VAt (w7.setCell ⟨w.heap.size + 1, 3, none⟩ (.slice q7 m7 d7)) w.heap.size RV.zero := hZ7.keep ((grownBy_set w7 (w.heap.size + 1) 3 _).block _ hZ7.lt (by simp))
   have ho8 := ho7.kept (grownBy_set w7 (w.heap.size + 1) 3 (.slice q7 m7 d7)) (.inr (fun e => by have := (ho7.lt _ e).1; omega))
   have hb8 := hb7.setCell (by omega : w.heap.size <= w.heap.size + 1) (p := ⟨w.heap.size + 1, 3, none⟩) (.slice q7 m7 d7)
   have hs8 : (l.take (k + 1)).map textR = (l.take k).map textR ++ [textR x] := by rw [List.take_add_one, HX.out]; simp
   have HR8 : Hid (∃ q m d, VAt (w7.setCell ⟨w.heap.size + 1, 3, none⟩ (.slice q7 m7 d7)) (w.heap.size + 1) ⟨5, 0, ⟨#[]⟩, q, m, d, none, 0, 0⟩ /\ VAt (w7.setCell ⟨w.heap.size + 1, 3, none⟩ (.slice q7 m7 d7)) w.heap.size RV.zero /\ Own (w7.setCell ⟨w.heap.size + 1, 3, none⟩ (.slice q7 m7 d7)) (w.heap.size + 2) 31 encV 5 (.slice q m d) ((l.take (k + 1)).map textR) /\ Below w.heap.size w (w7.setCell ⟨w.heap.size + 1, 3, none⟩ (.slice q7 m7 d7))) := ⟨q7, m7, d7, hV8, hZ8, by rw [hs8]; exact ho8, hb8⟩
   clear hV8 hZ8 ho8 hb8 hs8 hV7 hZ7 ho7 hb7 hg7 hat7 ho4 hb4 hb3 hK
   go_wp2_with fail
   go_roundw
   case rel => exact ⟨k + 1, by omega, by go_num, HR8⟩
   case measure => simp [intOf]; omega
  ·obtain rfl : k = n := by omega
   have hta : l.take k = l := List.take_of_length_le (by have := HN.out; omega)
   rw [hta] at hO
   obtain ⟨v0, v1, v2, v3, v4⟩ := hV.cells5
   obtain ⟨z0, z1, z2, z3, z4⟩ := hZ.cells5
   have y0 := hZ.frozen 0
   have y1 := hZ.frozen 1
   have y2 := hZ.frozen 2
   have y3 := hZ.frozen 3
   have y4 := hZ.frozen 4
   dsimp only [RV.zero] at v0 v1 v2 v3 v4 z0 z1 z2 z3 z4
   have HZ := Lib.hid hZ
   have HO := Lib.hid hO
   have HB := Lib.hid hB
   clear hV hZ hO hB hta
   go_wp2_with fail
   have HZ2 := HZ.out.stored ⟨5, 0, ⟨#[]⟩, q, m, d, none, 0, 0⟩
   refine bodyPost_ret (v := RV.val ⟨5, 0, ⟨#[]⟩, q, m, d, none, 0, 0⟩) (by simp [results, Tryz.results24, go_sem, z0, z1, z2, z3, z4]) rfl ⟨q, m, d, rfl, ?_, Below.stored HB.out (Nat.le_refl _) ⟨5, 0, ⟨#[]⟩, q, m, d, none, 0, 0⟩⟩
   exact (HO.out.kept (grownBy_set5 wr w.heap.size ⟨5, 0, ⟨#[]⟩, q, m, d, none, 0, 0⟩) (.inr (fun e => by have := (HO.out.lt _ e).1; omega))).mono (by omega)
end
section
open Go.RowKit Go.OpenShut
theorem refFind_any (b : BoxD) (r : RB) (id : ByteArray) (w : World) (hb : BoxOf w w.heap.size b r) (ob : b.Ok) :
 Calls Tryz.prog 89 #[r.val, .string id] w (FindRet w (findJ b.objs id)) := by
 have ho := hb.objs
 have hlo := ob.objs
 obtain ⟨po, no, co, pt, nt, ct, sq, fl, kp⟩ := r
 dsimp only [RB.val] at *
 obtain ⟨rms, hrd, hms⟩ := ho
 have hn := rd_nlen hrd
 have hlm := hms.len
 have hA0 : BoxAt ((w.alloc (.cells #[.slice po no co, .slice pt nt ct, .int .i64 sq, .int .i64 fl, .int .i64 kp] 25)).alloc (.cells #[.int .i64 0, .int .i64 0, .string ⟨#[]⟩, .slice none 0 0, .slice none 0 0] 31)) w.heap.size ⟨po, no, co, pt, nt, ct, sq, fl, kp⟩ := heap_alloc_lt (by simp) (heap_alloc_at rfl)
 have hZ0 : VAt ((w.alloc (.cells #[.slice po no co, .slice pt nt ct, .int .i64 sq, .int .i64 fl, .int .i64 kp] 25)).alloc (.cells #[.int .i64 0, .int .i64 0, .string ⟨#[]⟩, .slice none 0 0, .slice none 0 0] 31)) (w.heap.size + 1) RV.zero := heap_alloc_at (by simp)
 have hB0 : Below w.heap.size w ((w.alloc (.cells #[.slice po no co, .slice pt nt ct, .int .i64 sq, .int .i64 fl, .int .i64 kp] 25)).alloc (.cells #[.int .i64 0, .int .i64 0, .string ⟨#[]⟩, .slice none 0 0, .slice none 0 0] 31)) := below2 w _ _
 have HRD := Lib.hid hrd
 have HMS := Lib.hid hms
 have HN : Hid (b.objs.length = no /\ rms.length = no) := ⟨by omega, by omega⟩
 have hno : no <= 1466015503658 := by omega
 clear hb ob hrd hms hn hlm hlo
 go_enter Tryz.func89, Tryz.ntmps89
 go_upto_region 1 with fail
 obtain ⟨W0, hW0⟩ : ∃ W0, ((w.alloc (.cells #[.slice po no co, .slice pt nt ct, .int .i64 sq, .int .i64 fl, .int .i64 kp] 25)).alloc (.cells #[.int .i64 0, .int .i64 0, .string ⟨#[]⟩, .slice none 0 0, .slice none 0 0] 31)) = W0 := ⟨_, rfl⟩
 rw [hW0] at hA0 hZ0 hB0 ⊢
 clear hW0
 have c0 := hA0.cell 0 rfl
 dsimp only at c0
 have hz1 := hZ0.lt
 obtain ⟨z0, z1, z2, z3, z4⟩ := hZ0.cells5
 have y0 := hZ0.frozen 0
 have y1 := hZ0.frozen 1
 have y2 := hZ0.frozen 2
 have y3 := hZ0.frozen 3
 have y4 := hZ0.frozen 4
 dsimp only [RV.zero] at z0 z1 z2 z3 z4
 have HZ := Lib.hid hZ0
 have HB := Lib.hid hB0
 clear hA0 hZ0 hB0
 go_wp2_with fail
 go_loopw [6] (fun i wr => ∃ k : Nat, k <= no /\ i = .int .i64 k /\ Hid (∀ (j : Nat) y, j < k -> b.objs[j]? = some y -> decide (y.1 = id) = false) /\ wr = W0) (fun i _ => no - (intOf i).toNat)
 case atStart => exact ⟨0, Nat.zero_le _, rfl, fun j y h => by omega, rfl⟩
 case round =>
  obtain ⟨k, hk, rfl, htk, rfl⟩ := hrel
  by_cases hlt : k < no
  ·obtain ⟨p, hp⟩ : ∃ x, b.objs[k]? = some x := ⟨_, List.getElem?_eq_getElem (by have := HN.out; omega)⟩
   obtain ⟨q, hq⟩ : ∃ q, rms[k]? = some q := ⟨_, List.getElem?_eq_getElem (by have := HN.out; omega)⟩
   have hpq := HMS.out.name k p q hp hq
   have hTq := HMS.out.val k p q hp hq
   have HTq := Lib.hid (hTq.under HB.out (Nat.le_refl _))
   obtain ⟨b1, o1, rfl, hb1, hc1⟩ := rd_at' (HRD.out.below HB.out (Nat.le_refl _)) hq
   have f0 := hc1 0 _ rfl
   have f1 := hc1 1 _ rfl
   have f2 := hc1 2 _ rfl
   have f3 := hc1 3 _ rfl
   have f4 := hc1 4 _ rfl
   have f5 := hc1 5 _ rfl
   rw [Nat.add_zero] at f0
   have hk0 : (0 : Int) <= (k : Int) := Int.natCast_nonneg _
   have hk1 : (k : Int) < (no : Int) := by omega
   have HP := Lib.hid hp
   have hne1 : b1 ≠ w.heap.size + 1 := by omega
   have hne2 : w.heap.size ≠ w.heap.size + 1 := by omega
   by_cases he : q.name = id
   ·have he1 : (q.name.toList == id.toList) = true := by rw [str_beq]; simpa using he
    have HG : Hid (findJ b.objs id = some p.2) := by
     have h1 := find_at (p := fun y : ByteArray × JV => decide (y.1 = id)) HP.out (by simpa [hpq] using he) htk.out
     obtain ⟨p', h2, h3⟩ := findJ_some h1
     rw [HP.out] at h2
     cases h2
     exact h3
    clear he hp hq hpq hTq hc1 htk
    go_wp2_with fail
    have HZ2 := HZ.out.stored q.v
    refine bodyPost_ret (v := .tuple #[RV.val q.v, .bool true]) (by simp [results, Tryz.results89, go_sem, z0, z1, z2, z3, z4]) rfl ⟨q.v, by rw [HG.out]; rfl, ?_, Below.stored HB.out (by omega) q.v⟩
    rw [HG.out]
    exact HTq.out.under (Below.stored (Below.refl _ _) (by omega) q.v) (by have := HB.out.size; simp; omega)
   ·have he1 : (q.name.toList == id.toList) = false := by rw [str_beq]; simpa using he
    have HNX : Hid (∀ (j : Nat) y, j < k + 1 -> b.objs[j]? = some y -> decide (y.1 = id) = false) := by
     intro j y hj hy
     by_cases e : j = k
     ·subst e
      rw [hp] at hy
      cases hy
      simpa [hpq] using he
     ·exact htk.out j y (by omega) hy
    clear he hp hq hpq hTq hc1 htk
    go_wp2_with fail
    go_roundw
    case rel => exact ⟨k + 1, by omega, by go_num, HNX, by trivial⟩
    case measure => simp [intOf]; omega
  ·have hk2 : ¬ ((k : Int) < (no : Int)) := by omega
   have HG : Hid (findJ b.objs id = none) := findJ_none (find_not (p := fun y : ByteArray × JV => decide (y.1 = id)) (fun j y hy => htk.out j y (by have := (List.getElem?_eq_some_iff.1 hy).1; have := HN.out; omega) hy))
   go_wp2_with fail
   have HZ2 := HZ.out.stored RV.zero
   refine bodyPost_ret (v := .tuple #[RV.val RV.zero, .bool false]) (by simp [results, Tryz.results89, go_sem, RV.zero, z0, z1, z2, z3, z4]) rfl ⟨RV.zero, by rw [HG.out]; rfl, by rw [HG.out]; exact TreeOf.zero _ _, Below.stored HB.out (by omega) RV.zero⟩
theorem findB_any (b : BoxD) (r : RB) (id : ByteArray) (w : World) (B : Nat) (hBw : B <= w.heap.size) (hb : BoxOf w B b r) (ob : b.Ok) :
 Calls Tryz.prog 67 #[r.val, .string id] w (GetRetB w B (findJ b.objs id)) := by
 have ho := hb.objs
 have hlo := ob.objs
 obtain ⟨po, no, co, pt, nt, ct, sq, fl, kp⟩ := r
 dsimp only [RB.val] at *
 obtain ⟨rms, hrd, hms⟩ := ho
 have hn := rd_nlen hrd
 have hlm := hms.len
 have hA0 : BoxAt (((w.alloc (.cells #[.slice po no co, .slice pt nt ct, .int .i64 sq, .int .i64 fl, .int .i64 kp] 25)).alloc (.cells #[.string id] 9)).alloc (.cells #[.int .i64 0, .int .i64 0, .string ⟨#[]⟩, .slice none 0 0, .slice none 0 0] 31)) w.heap.size ⟨po, no, co, pt, nt, ct, sq, fl, kp⟩ := heap_alloc_lt (by simp; omega) (heap_alloc_lt (by simp) (heap_alloc_at rfl))
 have hS0 : (((w.alloc (.cells #[.slice po no co, .slice pt nt ct, .int .i64 sq, .int .i64 fl, .int .i64 kp] 25)).alloc (.cells #[.string id] 9)).alloc (.cells #[.int .i64 0, .int .i64 0, .string ⟨#[]⟩, .slice none 0 0, .slice none 0 0] 31)).heap[w.heap.size + 1]? = some (.cells #[.string id] 9 (0, 0)) := heap_alloc_lt (by simp) (heap_alloc_at (by simp))
 have hZ0 : VAt (((w.alloc (.cells #[.slice po no co, .slice pt nt ct, .int .i64 sq, .int .i64 fl, .int .i64 kp] 25)).alloc (.cells #[.string id] 9)).alloc (.cells #[.int .i64 0, .int .i64 0, .string ⟨#[]⟩, .slice none 0 0, .slice none 0 0] 31)) (w.heap.size + 1 + 1) RV.zero := heap_alloc_at (by simp)
 have hB0 : Below w.heap.size w (((w.alloc (.cells #[.slice po no co, .slice pt nt ct, .int .i64 sq, .int .i64 fl, .int .i64 kp] 25)).alloc (.cells #[.string id] 9)).alloc (.cells #[.int .i64 0, .int .i64 0, .string ⟨#[]⟩, .slice none 0 0, .slice none 0 0] 31)) := (below2 w _ _).alloc (by simp; omega) _
 have HRD := Lib.hid hrd
 have HMS := Lib.hid hms
 have HN : Hid (b.objs.length = no /\ rms.length = no) := ⟨by omega, by omega⟩
 clear hb ob hrd hms hn hlm
 go_enter Tryz.func67, Tryz.ntmps67
 go_upto_region 1 with fail
 obtain ⟨W0, hW0⟩ : ∃ W0, (((w.alloc (.cells #[.slice po no co, .slice pt nt ct, .int .i64 sq, .int .i64 fl, .int .i64 kp] 25)).alloc (.cells #[.string id] 9)).alloc (.cells #[.int .i64 0, .int .i64 0, .string ⟨#[]⟩, .slice none 0 0, .slice none 0 0] 31)) = W0 := ⟨_, rfl⟩
 rw [hW0] at hA0 hS0 hZ0 hB0 ⊢
 clear hW0
 have c0 := hA0.cell 0 rfl
 have hs0 : W0.cell? ⟨w.heap.size + 1, 0, none⟩ = some (.string id) := by rw [cell_of_row W0 _ 0 _ _ _ hS0]; rfl
 have HS := Lib.hid hs0
 have HC := Lib.hid (indexO_any W0 po no co rms (HRD.out.below (hB0.mono hBw) (Nat.le_trans hBw hB0.size)) (w.heap.size + 1) id HS.out (by have := HN.out; omega))
 have HB := Lib.hid hB0
 clear hs0 hB0 hS0
 go_upto_region 2 with (go_at_call 105; refine HC.out.mono ?_; rintro e w1 ⟨rfl, hb1⟩)
 have hz0 := hZ0.lt
 have HA1 := hA0.under hb1 hA0.lt
 have HZ1 := hZ0.under hb1 hz0
 have HB1 := Lib.hid (HB.out.trans (hb1.mono HB.out.size))
 have hz1 := HZ1.lt
 have c0 := HA1.cell 0 rfl
 dsimp only at c0
 obtain ⟨z0, z1, z2, z3, z4⟩ := HZ1.cells5
 have y0 := HZ1.frozen 0
 have y1 := HZ1.frozen 1
 have y2 := HZ1.frozen 2
 have y3 := HZ1.frozen 3
 have y4 := HZ1.frozen 4
 dsimp only [RV.zero] at z0 z1 z2 z3 z4
 have HZ := Lib.hid HZ1
 clear HA1 HZ1 hA0 hZ0 hb1 HC HS hz0
 cases hf : rms.findIdx? (nameB id) with
 | none =>
   have HG : Hid (findJ b.objs id = none) := findJ_none (by rw [find_same (by have := HN.out; omega) HMS.out.name]; exact hf)
   have hn1 : placeI (none : Option Nat) = -1 := rfl
   rw [hn1]
   clear hf hn1
   go_wp2_with fail
   have HZ2 := HZ.out.stored RV.zero
   refine bodyPost_ret (v := .tuple #[RV.val RV.zero, .bool false]) (by simp [results, Tryz.results67, go_sem, RV.zero, z0, z1, z2, z3, z4]) rfl ⟨RV.zero, false, rfl, by rw [HG.out]; rfl, by rw [HG.out]; exact TreeOf.zero _ _, Below.stored HB1.out (by omega) RV.zero⟩
 | some i =>
   obtain ⟨p, hp, hg⟩ := findJ_some (by rw [find_same (by have := HN.out; omega) HMS.out.name]; exact hf)
   have HG := Lib.hid hg
   have hi := (List.getElem?_eq_some_iff.1 hp).1
   obtain ⟨q, hq⟩ : ∃ q, rms[i]? = some q := ⟨_, List.getElem?_eq_getElem (by have := HN.out; omega)⟩
   have hTq := HMS.out.val i p q hp hq
   have HTq := Lib.hid (hTq.under (HB1.out.mono hBw) (Nat.le_refl _))
   obtain ⟨b1, o1, rfl, hb1, hc1⟩ := rd_at' (HRD.out.below (HB1.out.mono hBw) (Nat.le_refl _)) hq
   have f0 := hc1 0 _ rfl
   have f1 := hc1 1 _ rfl
   have f2 := hc1 2 _ rfl
   have f3 := hc1 3 _ rfl
   have f4 := hc1 4 _ rfl
   have f5 := hc1 5 _ rfl
   have hn1 : placeI (some i) = (i : Int) := rfl
   rw [hn1]
   have hi0 : (0 : Int) <= (i : Int) := Int.natCast_nonneg _
   have hi1 : (i : Int) < (no : Int) := by have := HN.out; omega
   clear hf hp hg hq hTq hc1 hn1
   go_wp2_with fail
   have HZ2 := HZ.out.stored q.v
   refine bodyPost_ret (v := .tuple #[RV.val q.v, .bool true]) (by simp [results, Tryz.results67, go_sem, z0, z1, z2, z3, z4]) rfl ⟨q.v, true, rfl, by rw [HG.out]; rfl, ?_, Below.stored HB1.out (by omega) q.v⟩
   rw [HG.out]
   exact HTq.out.under (Below.stored (Below.refl _ _) (by omega) q.v) (Nat.le_refl _)
end
end Go.Proofs.YtfgjimpmpckgpaaGreatDoor
