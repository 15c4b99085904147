import Derived.Test.YtanemojiaahbgaaGreatDoorSf45
import Derived.Deep.Cut
import Derived.Deep.CutRange
import Derived.Test.YtanemojiaahbgaaGreatDoorSf12
import Derived.Test.YtanemojiaahbgaaGreatDoorSf24
import Derived.Maps.OwnIn
import Derived.RangeFuncBox
import Derived.Stop.RegionWithIn
import Derived.Test.YtanemojiaahbgaaGreatDoorSf13
import Derived.BigQuiet
import Derived.Test.YtanemojiaahbgaaGreatDoorSf11
import Derived.Test.YtanemojiaahbgaaGreatDoorSf00
import Derived.Laws.CopyRow
import Derived.Laws.CopyOwn
import Derived.Shelf.Spec.SlicesInsertGrow
import Derived.Deep.RegionLaw
import Derived.Outline
import Derived.Test.YtanemojiaahbgaaGreatDoorSf17
import Derived.Test.YtanemojiaahbgaaGreatDoorSf04
import Derived.Deep.RegionHeld3
import Derived.ArgAppend
section
/- The symmetric merge where the right is one element: it is laid into the left. -/
set_option linter.unusedSimpArgs false
set_option linter.unusedVariables false
namespace Go.Proofs.YtanemojiaahbgaaGreatDoor
open Go.Shelf Go.RowKit Go.Lib Go.Sort
namespace SP
variable {P : Program} {α : Type} [Inhabited α]

end SP
end Go.Proofs.YtanemojiaahbgaaGreatDoor
end

section
/- The symmetric merge. -/
set_option linter.unusedSimpArgs false
set_option linter.unusedVariables false
namespace Go.Proofs.YtanemojiaahbgaaGreatDoor
open Go.Shelf Go.RowKit Go.Lib Go.Sort
namespace SP
variable {P : Program} {α : Type} [Inhabited α]

/-- What the merge asks of the two halves. -/
def SymPre (cf : α → α → Int) (lt : α → α → Bool) (d : Array α) (a m b : Nat) : Prop :=
  SortedIn lt a m d ∧ SortedIn lt m b d ∧ ∀ i j, a ≤ i → i < m → m ≤ j → j < b → ltOf cf d[j]! d[i]! = lt d[j]! d[i]!

theorem rot_triv (d : Array α) (s m e t : Nat) (h : s = m ∨ m = e) (hs : s ≤ m) (he : m ≤ e) : d[t]! = rotG d s m e t := by
  unfold rotG
  rcases h with rfl | rfl
  · by_cases h1 : s ≤ t ∧ t < s + (e - s)
    · rw [if_pos h1, Nat.sub_self, Nat.add_zero]
    · rw [if_neg h1, if_neg (by omega)]
  · rw [if_neg (by omega), Nat.sub_self]
    by_cases h1 : s + 0 ≤ t ∧ t < m
    · rw [if_pos h1, Nat.sub_zero]
    · rw [if_neg h1]

end SP
end Go.Proofs.YtanemojiaahbgaaGreatDoor
end

section
/- The stable sort. -/
set_option linter.unusedSimpArgs false
set_option linter.unusedVariables false
namespace Go.Proofs.YtanemojiaahbgaaGreatDoor
open Go.Shelf Go.RowKit Go.Lib Go.Sort
namespace SP
variable {P : Program} {α : Type} [Inhabited α]

/-- What a comparison asks of the world: nothing; it may lay blocks of its own. -/
def CmpAny (P : Program) (g : Nat) (cb : Array Value) (enc : α → List Value) (cf : α → α → Int) : Prop :=
  ∀ (W : World) (x y : α), Calls P g (#[.agg (enc x).toArray, .agg (enc y).toArray] ++ cb) W fun e w' => e = .returned (.int .i64 (cf x y)) ∧ ∃ q os', w' = grow (W.drewN q) os'

def StabPost (enc : α → List Value) (k : Nat) (w0 : World) (blk off : Nat) (lt : α → α → Bool) (d : Array α) (e : Ending) (w' : World) : Prop :=
  e = .returned (.tuple #[]) ∧ ∃ d' : Array α, SWK enc k w0 blk off d' w' ∧ PermIn 0 d.size d d' ∧ SortedIn lt 0 d.size d'

end SP
end Go.Proofs.YtanemojiaahbgaaGreatDoor
end

section
/- slices.SortStableFunc at a slice of the call's own. -/
set_option linter.unusedSimpArgs false
set_option linter.unusedVariables false
namespace Go.Proofs.YtanemojiaahbgaaGreatDoor
open Go.Shelf Go.RowKit Go.Lib Go.Sort
namespace SP
variable {β : Type} [Inhabited β]

end SP
end Go.Proofs.YtanemojiaahbgaaGreatDoor
end

section
/- The comparison by the last number. -/
set_option linter.unusedSimpArgs false
set_option linter.unusedVariables false
namespace Go.Proofs.YtanemojiaahbgaaGreatDoor
open Go.Shelf Go.RowKit Go.Lib Go.Sort

def cfP (x y : Pa) : Int := if x.last < y.last then -1 else if y.last < x.last then 1 else 0
theorem cmpP : Cmp cfP := by
  constructor <;> intros <;> simp only [cfP] at * <;> (repeat' split at *) <;> first | omega | grind

end Go.Proofs.YtanemojiaahbgaaGreatDoor
end

section
set_option linter.unusedSimpArgs false
set_option linter.unusedVariables false
namespace Go.Proofs.YtanemojiaahbgaaGreatDoor
open Go.RowKit Go.Shelf
attribute [local go_sem] Oper.semAt_some

def stepAll (sq : Int) (es : List En) : List Pa := es.foldl (stepP sq) []
theorem stepAll_snoc (sq : Int) (es : List En) (e : En) : stepAll sq (es ++ [e]) = stepP sq (stepAll sq es) e := by simp [stepAll]

theorem stepP_known (sq : Int) (acc : List Pa) (e : En) (h1 : sq < e.seq) (h2 : ∃ p ∈ acc, p.id = e.id) : stepP sq acc e = acc.map (updP e) := by
  unfold stepP
  rw [if_neg (by omega), if_pos (by simpa using h2)]
theorem stepP_new (sq : Int) (acc : List Pa) (e : En) (h1 : sq < e.seq) (h2 : ∀ p ∈ acc, p.id ≠ e.id) : stepP sq acc e = acc ++ [newP e] := by
  unfold stepP
  rw [if_neg (by omega), if_neg (by simpa using h2)]
theorem updP_id (acc : List Pa) (e : En) (h2 : ∀ p ∈ acc, p.id ≠ e.id) : acc.map (updP e) = acc := by
  conv => rhs; rw [← List.map_id acc]
  refine List.map_congr_left fun p hp => ?_
  unfold updP
  rw [if_neg (h2 p hp)]
  rfl
theorem known_fst (Q : List (Nat × Pa)) (e : En) : (Q.map fun q => (q.1, updP e q.2)).map (·.1) = Q.map (·.1) := by simp [Function.comp_def]
theorem known_snd (Q : List (Nat × Pa)) (e : En) : (Q.map fun q => (q.1, updP e q.2)).map (·.2) = (Q.map (·.2)).map (updP e) := by simp [Function.comp_def]
theorem backTo_map {α β : Type} (xs : List α) (g : α → β) : (backTo xs xs.length).map (fun x => g x.2) = xs.reverse.map g := by
  rw [← backTo_all, List.map_map]
  rfl
/-- What is said in a block. -/
def paAt? (W : World) (b : Nat) : Option Pa := match W.heap[b]? with
  | some (.cells ⟨[.string i, .bool a, .bool c, .int .i64 l]⟩ _ _) => some ⟨i, a, c, l⟩
  | _ => none
theorem Rd.of_map {p : Nat → Prop} {w : World} {B : Nat} {v : Value} {xs : List {b : Nat // p b}} (h : Rd w B encPt 1 v (xs.map (·.1))) : Rd w B encPs 1 v xs := by
  obtain ⟨p, cap, h1, h2, h3, h4, h5⟩ := h
  rw [List.length_map] at h1 h2
  refine ⟨p, cap, h1, h2, h3, h4, fun a ha h0 => ?_⟩
  obtain ⟨b, o, e1, e2, e3⟩ := h5 a ha (by rw [List.length_map]; exact h0)
  refine ⟨b, o, e1, e2, fun i x hx j u hu => ?_⟩
  exact e3 i x.1 (by rw [List.getElem?_map, hx]; rfl) j u hu
theorem map_some_inj {α : Type} : ∀ {xs ys : List α}, xs.map some = ys.map some → xs = ys
  | [], [], _ => rfl
  | [], _ :: _, h => by simp at h
  | _ :: _, [], h => by simp at h
  | x :: xs, y :: ys, h => by
    simp only [List.map_cons, List.cons.injEq, Option.some.injEq] at h
    rw [h.1, map_some_inj h.2]
instance : Inhabited Pa := ⟨⟨ByteArray.empty, false, false, 0⟩⟩
/-- An append that is known, at a step of a region that draws its order. -/
theorem stepIn_append {F : Fence} {n : Nat} {P : Program} {ops : Array Oper} {o : Oper} {a : Act} {K : Act → World → Prop} {Q : Exit → Act → World → Prop} {E : Prop} {w w' : World} {v' : Value} (hgd : o.guard = none) (s x : Operand) (t : TypeId)
    (hop : o.op = .call { callee := .builtin .append, args := #[s, x], argTypes := #[t, t] }) (v u : Value) (hs : a.eval s = v) (hx : a.eval x = u) (hrun : (Builtin.append_ #[t, t] o.type #[v, u]).run P w = .ok v' w') (h : K (a.put o.dst v') w') :
    if Region.wanted o (yielded ops a.tmps) = true then Oper.wpIn F n P o a w K Q else E := by
  have hw : Region.wanted o (yielded ops a.tmps) = true := by simp [Region.wanted, hgd]
  rw [if_pos hw]
  unfold Oper.wpIn
  refine ⟨by simp [Oper.about, hop, resolve, Target.leads, Sem.run_pure], ?_⟩
  rw [Oper.semAt_plain F _ _ (by rw [hop]; intro c hc'; cases hc')]
  simp [execOp, hop, resolve, invoke, builtin, hs, hx, hrun, Result.andThen]
  exact h

end Go.Proofs.YtanemojiaahbgaaGreatDoor
end

section
/- The document's answer of what became of ids, in plain lists; and stores into an own row of four cells. -/
set_option linter.unusedSimpArgs false
set_option linter.unusedVariables false
namespace Go.Proofs.YtanemojiaahbgaaGreatDoor
open Go.RowKit

def hitB (sq : Int) (x y : En) : Bool := decide (y.id = x.id) && decide (sq < y.seq)
def refAt (sq : Int) (l : List En) (i : Nat) : Option Pa := match l[i]? with
  | none => none
  | some x => if x.seq ≤ sq then none else if (l.drop (i + 1)).any (hitB sq x) then none else (l.find? (hitB sq x)).map fun f => ⟨x.id, f.what != 1, x.what != 3, x.seq⟩
def refUpTo (sq : Int) (l : List En) (k : Nat) : List Pa := (List.range k).filterMap (refAt sq l)
theorem refUpTo_succ (sq : Int) (l : List En) (k : Nat) : refUpTo sq l (k + 1) = refUpTo sq l k ++ (refAt sq l k).toList := by
  unfold refUpTo
  rw [List.range_succ, List.filterMap_append]
  cases h : refAt sq l k <;> simp [h]

def sinceL (sq : Int) : List En → List Pa
  | [] => []
  | e :: r => if e.seq ≤ sq then sinceL sq r else if (sinceL sq r).any (fun p => decide (p.id = e.id)) then (sinceL sq r).map (updP e) else newP e :: sinceL sq r

theorem sinceL_cons (sq : Int) (e : En) (r : List En) : sinceL sq (e :: r) = if e.seq ≤ sq then sinceL sq r else if (sinceL sq r).any (fun p => decide (p.id = e.id)) then (sinceL sq r).map (updP e) else newP e :: sinceL sq r := rfl
theorem stepAll_rev (sq : Int) : ∀ l : List En, (stepAll sq l.reverse).reverse = sinceL sq l
  | [] => rfl
  | e :: r => by
    have ih := stepAll_rev sq r
    rw [List.reverse_cons, stepAll_snoc]
    have hr : stepAll sq r.reverse = (sinceL sq r).reverse := by rw [← ih, List.reverse_reverse]
    rw [hr, sinceL_cons]
    unfold stepP
    by_cases h1 : e.seq ≤ sq
    · rw [if_pos h1, if_pos h1, List.reverse_reverse]
    · rw [if_neg h1, if_neg h1, List.any_reverse]
      split
      · rw [List.map_reverse, List.reverse_reverse]
      · rw [List.reverse_append, List.reverse_reverse]; rfl

theorem upd_id (e : En) (p : Pa) : (updP e p).id = p.id := by unfold updP; split <;> rfl
theorem sinceL_id (sq : Int) (i : ByteArray) : ∀ l : List En, (∃ p ∈ sinceL sq l, p.id = i) ↔ ∃ y ∈ l, y.id = i ∧ sq < y.seq
  | [] => by simp [sinceL]
  | e :: r => by
    have ih := sinceL_id sq i r
    rw [sinceL_cons]
    by_cases h1 : e.seq ≤ sq
    · rw [if_pos h1, ih]
      constructor
      · rintro ⟨y, hy, h⟩; exact ⟨y, List.mem_cons_of_mem _ hy, h⟩
      · rintro ⟨y, hy, h, h'⟩
        rcases List.mem_cons.1 hy with rfl | hy
        · omega
        · exact ⟨y, hy, h, h'⟩
    · rw [if_neg h1]
      split
      · rename_i hk
        have e1 : (∃ p ∈ (sinceL sq r).map (updP e), p.id = i) ↔ ∃ p ∈ sinceL sq r, p.id = i := by
          constructor
          · rintro ⟨p, hp, h⟩
            obtain ⟨q, hq, rfl⟩ := List.mem_map.1 hp
            exact ⟨q, hq, by rw [← h, upd_id]⟩
          · rintro ⟨p, hp, h⟩
            exact ⟨_, List.mem_map.2 ⟨p, hp, rfl⟩, by rw [upd_id]; exact h⟩
        rw [e1, ih]
        constructor
        · rintro ⟨y, hy, h⟩; exact ⟨y, List.mem_cons_of_mem _ hy, h⟩
        · rintro ⟨y, hy, h, h'⟩
          rcases List.mem_cons.1 hy with rfl | hy
          · rw [← ih]
            simp only [List.any_eq_true, decide_eq_true_eq] at hk
            obtain ⟨p, hp, e2⟩ := hk
            exact ⟨p, hp, by rw [e2]; exact h⟩
          · exact ⟨y, hy, h, h'⟩
      · constructor
        · rintro ⟨p, hp, h⟩
          rcases List.mem_cons.1 hp with rfl | hp
          · exact ⟨e, by simp, h, by omega⟩
          · obtain ⟨y, hy, h2⟩ := ih.1 ⟨p, hp, h⟩
            exact ⟨y, List.mem_cons_of_mem _ hy, h2⟩
        · rintro ⟨y, hy, h, h'⟩
          rcases List.mem_cons.1 hy with rfl | hy
          · exact ⟨newP y, by simp, h⟩
          · obtain ⟨p, hp, h2⟩ := ih.2 ⟨y, hy, h, h'⟩
            exact ⟨p, List.mem_cons_of_mem _ hp, h2⟩

/-- What an entry ahead of the list does to what is said of it. -/
def putP (sq : Int) (e : En) (p : Pa) : Pa := if sq < e.seq then updP e p else p
theorem refAt_cons (sq : Int) (e : En) (r : List En) (i : Nat) : refAt sq (e :: r) (i + 1) = (refAt sq r i).map (putP sq e) := by
  unfold refAt
  rw [List.getElem?_cons_succ]
  cases h0 : r[i]? with
  | none => rfl
  | some x =>
    dsimp only
    by_cases h1 : x.seq ≤ sq
    · rw [if_pos h1, if_pos h1]; rfl
    · rw [if_neg h1, if_neg h1, List.drop_succ_cons]
      split
      · rfl
      · rw [List.find?_cons, Option.map_map]
        cases h2 : hitB sq x e with
        | true =>
          unfold hitB at h2
          simp only [Bool.and_eq_true, decide_eq_true_eq] at h2
          cases h3 : r.find? (hitB sq x) with
          | none =>
            have := List.find?_eq_none.1 h3 x (List.mem_of_getElem? h0)
            unfold hitB at this
            simp at this
            omega
          | some f =>
            simp only [Option.map_some, Function.comp_apply, putP, if_pos h2.2, updP, if_pos h2.1.symm]
        | false =>
          unfold hitB at h2
          simp only [Bool.and_eq_false_iff, decide_eq_false_iff_not] at h2
          congr 1
          funext f
          simp only [Function.comp_apply, putP, updP]
          rcases h2 with h2 | h2
          · have h4 : ¬ x.id = e.id := fun e' => h2 e'.symm
            by_cases h5 : sq < e.seq
            · rw [if_pos h5, if_neg h4]
            · rw [if_neg h5]
          · rw [if_neg h2]

theorem refUpTo_all (sq : Int) : ∀ l : List En, refUpTo sq l l.length = sinceL sq l
  | [] => rfl
  | e :: r => by
    have ih := refUpTo_all sq r
    unfold refUpTo at ih ⊢
    rw [List.length_cons, List.range_succ_eq_map, List.filterMap_cons, List.filterMap_map]
    have e1 : (List.range r.length).filterMap (refAt sq (e :: r) ∘ Nat.succ) = (sinceL sq r).map (putP sq e) := by
      rw [← ih, List.map_filterMap]
      congr 1
      funext i
      exact refAt_cons sq e r i
    rw [e1]
    have e0 : refAt sq (e :: r) 0 = if e.seq ≤ sq then none else if r.any (hitB sq e) then none else some (newP e) := by
      unfold refAt
      rw [List.getElem?_cons_zero]
      dsimp only
      by_cases h1 : e.seq ≤ sq
      · rw [if_pos h1, if_pos h1]
      · rw [if_neg h1, if_neg h1]
        rw [List.drop_succ_cons, List.drop_zero]
        have h2 : hitB sq e e = true := by unfold hitB; simp; omega
        rw [List.find?_cons, h2]
        rfl
    rw [e0, sinceL_cons]
    by_cases h1 : e.seq ≤ sq
    · rw [if_pos h1, if_pos h1]
      dsimp only
      have : (putP sq e) = id := by funext p; unfold putP; rw [if_neg (by omega)]; rfl
      rw [this, List.map_id]
    · have hput : (putP sq e) = updP e := by funext p; unfold putP; rw [if_pos (by omega)]
      rw [if_neg h1, if_neg h1, hput]
      have hany : r.any (hitB sq e) = (sinceL sq r).any (fun p => decide (p.id = e.id)) := by
        rw [Bool.eq_iff_iff]
        have := sinceL_id sq e.id r
        simp only [List.any_eq_true, hitB, Bool.and_eq_true, decide_eq_true_eq]
        exact this.symm
      rw [hany]
      by_cases hk : (sinceL sq r).any (fun p => decide (p.id = e.id)) = true
      · rw [if_pos hk, if_pos hk]
      · rw [if_neg hk, if_neg hk]
        have : (sinceL sq r).map (updP e) = sinceL sq r := updP_id _ _ (fun p hp h => hk (by simp only [List.any_eq_true, decide_eq_true_eq]; exact ⟨p, hp, h⟩))
        rw [this]

/-! ### A store of four cells into an own row -/
theorem cells_set : ∀ (xs : List Pa) (p : Nat) (y : Pa), p < xs.length → ((((cellsOf encP xs).set (p * 4) (.string y.id)).set (p * 4 + 1) (.bool y.was)).set (p * 4 + 2) (.bool y.isb)).set (p * 4 + 3) (.int .i64 y.last) = cellsOf encP (xs.set p y)
  | [], _, _, h => by simp at h
  | x :: xs, 0, y, _ => by simp [cellsOf, encP]
  | x :: xs, p + 1, y, h => by
    have ih := cells_set xs p y (by simpa using h)
    simp only [cellsOf, List.flatMap_cons, List.set_cons_succ] at ih ⊢
    rw [← ih]
    rw [show (p + 1) * 4 = p * 4 + 1 + 1 + 1 + 1 by omega]
    simp [encP]

theorem Own.stored4 {w : World} {base : Nat} {e : TypeId} {g n cap : Nat} {xs : List Pa} (h : Own w base e encP 4 (.slice (some ⟨g, 0, none⟩) n cap) xs) (hn : n = xs.length) (p : Nat) (hp : p < xs.length) (y : Pa) :
    Own ((((w.setCell ⟨g, p * 4, none⟩ (.string y.id)).setCell ⟨g, p * 4 + 1, none⟩ (.bool y.was)).setCell ⟨g, p * 4 + 2, none⟩ (.bool y.isb)).setCell ⟨g, p * 4 + 3, none⟩ (.int .i64 y.last)) base e encP 4 (.slice (some ⟨g, 0, none⟩) n cap) (xs.set p y) ∧
    w.grownBy ((((w.setCell ⟨g, p * 4, none⟩ (.string y.id)).setCell ⟨g, p * 4 + 1, none⟩ (.bool y.was)).setCell ⟨g, p * 4 + 2, none⟩ (.bool y.isb)).setCell ⟨g, p * 4 + 3, none⟩ (.int .i64 y.last)) (some g) := by
  subst hn
  unfold Own at h ⊢
  have h1 := World.ownsRow.stored h (p * 4) (.string y.id)
  have h2 := World.ownsRow.stored h1.1 (p * 4 + 1) (.bool y.was)
  have h3 := World.ownsRow.stored h2.1 (p * 4 + 2) (.bool y.isb)
  have h4 := World.ownsRow.stored h3.1 (p * 4 + 3) (.int .i64 y.last)
  rw [cells_set xs p y hp] at h4
  rw [List.length_set]
  exact ⟨h4.1, ((h1.2.trans h2.2).trans h3.2).trans h4.2⟩
end Go.Proofs.YtanemojiaahbgaaGreatDoor
end

section
/- trail.Since, said of entries. -/
set_option linter.unusedSimpArgs false
set_option linter.unusedVariables false
namespace Go.Proofs.YtanemojiaahbgaaGreatDoor
open Go.RowKit Go.OpenShut

theorem Rd.of_image {α β : Type} {enc : β → List Value} {g : α → β} {sz : Nat} {w : World} {B : Nat} {v : Value} {xs : List α} (h : Rd w B enc sz v (xs.map g)) : Rd w B (fun x => enc (g x)) sz v xs := by
  obtain ⟨p, cap, h1, h2, h3, h4, h5⟩ := h
  rw [List.length_map] at h1 h2
  refine ⟨p, cap, h1, h2, h3, h4, fun a ha h0 => ?_⟩
  obtain ⟨b, o, e1, e2, e3⟩ := h5 a ha (by rw [List.length_map]; exact h0)
  exact ⟨b, o, e1, e2, fun i x hx j u hu => e3 i (g x) (by rw [List.getElem?_map, hx]; rfl) j u hu⟩

end Go.Proofs.YtanemojiaahbgaaGreatDoor
end

section
/- store.Right: whether a box is right, walked. -/
set_option linter.unusedSimpArgs false
set_option linter.unusedVariables false
namespace Go.Proofs.YtanemojiaahbgaaGreatDoor
open Go.RowKit Go.OpenShut

/-- Is a box right? -/
def RightBx (b : BoxD) : Prop := Rising b.objs ∧ 0 ≤ b.keep ∧ b.keep ≤ 1000 ∧ (b.trail.length : Int) ≤ b.keep ∧ rightB b.trail b.floor b.seq = true ∧ ∀ p ∈ sinceL b.floor b.trail, isAt b.objs p.id = p.isb
def Asked (os : List (ByteArray × JV)) (ys : List Pa) (j : Nat) : Prop := ∀ (i : Nat) p, i < j → ys[i]? = some p → isAt os p.id = p.isb

end Go.Proofs.YtanemojiaahbgaaGreatDoor
end

section
/- store.changed: a box with an entry more, walked. -/
set_option linter.unusedSimpArgs false
set_option linter.unusedVariables false
namespace Go.Proofs.YtanemojiaahbgaaGreatDoor
open Go.RowKit Go.OpenShut

/-- A box with other objects, and an entry more. -/
def chgB (b : BoxD) (os : List (ByteArray × JV)) (id : ByteArray) (what : Int) : BoxD :=
  ⟨os, addL b.trail b.keep ⟨b.seq + 1, id, what⟩, b.seq + 1, addF b.trail b.floor b.keep ⟨b.seq + 1, id, what⟩, b.keep⟩
theorem addL_oks {l : List En} {keep : Int} {e : En} (hl : ∀ x ∈ l, x.ok) (he : e.ok) : ∀ x ∈ addL l keep e, x.ok := fun x hx => by
  rcases List.mem_append.1 (List.mem_of_mem_drop hx) with h | h
  · exact hl x h
  · obtain rfl : x = e := by simpa using h
    exact he
theorem BoxAt.set2 {W : World} {g : Nat} {r : RB} (h : BoxAt W g r) (q : Int) : BoxAt (W.setCell ⟨g, 2, none⟩ (.int .i64 q)) g { r with sq := q } := by
  unfold BoxAt at h ⊢
  simp [World.setCell, Array.getElem?_modify, h]
theorem BoxAt.set13 {W : World} {g : Nat} {r : RB} (h : BoxAt W g r) (p : Option Addr) (n c : Nat) (f : Int) : BoxAt ((W.setCell ⟨g, 1, none⟩ (.slice p n c)).setCell ⟨g, 3, none⟩ (.int .i64 f)) g { r with pt := p, nt := n, ct := c, fl := f } := by
  unfold BoxAt at h ⊢
  simp [World.setCell, Array.getElem?_modify, h]
theorem wf_bounds {n : Int} (h : (Lit.int .i64 n).wf = true) : -9223372036854775808 ≤ n ∧ n ≤ 9223372036854775807 := by
  simp [Lit.wf, IntKind.min, IntKind.max, IntKind.signed, IntKind.bits] at h
  omega
theorem wf_of {n : Int} (h0 : -9223372036854775808 ≤ n) (h1 : n ≤ 9223372036854775807) : (Lit.int .i64 n).wf = true := by
  simp [Lit.wf, IntKind.min, IntKind.max, IntKind.signed, IntKind.bits]
  omega

/-- What the trail says is in the call's own list. -/
structure ChgMid (w W : World) (base B : Nat) (b : BoxD) (q : RB) : Prop where
  box : BoxAt W w.heap.size q
  zero : BoxAt W (w.heap.size + 1) RB.zero
  new : NewBox W base B b q
  below : Below w.heap.size w W
  b1 : (Value.slice q.po q.no q.co).ownBlock ≠ some (w.heap.size + 1)
  b2 : (Value.slice q.pt q.nt q.ct).ownBlock ≠ some (w.heap.size + 1)

end Go.Proofs.YtanemojiaahbgaaGreatDoor
end

section
/- copy at elements of several cells, and what becomes of a row. Plain laws over any program. -/
set_option linter.unusedSimpArgs false
set_option linter.unusedVariables false
namespace Go.Proofs.YtanemojiaahbgaaGreatDoor
open Go Go.RowKit

theorem setRow_at (w : World) (g : Nat) (cur c : Array Value) (t : TypeId) (fr : Nat × Nat) (h : w.heap[g]? = some (.cells cur t fr)) : (w.setRow g c).heap[g]? = some (.cells c t fr) := by
  simp [World.setRow, Array.getElem?_modify, h]
theorem setRow_grown (w : World) (g : Nat) (c : Array Value) : w.grownBy (w.setRow g c) (some g) :=
  ⟨rfl, rfl, rfl, by simp, fun k _ hk => by
    simp only [World.setRow, Array.getElem?_modify]
    rw [if_neg (fun e => hk (by rw [e]))]⟩
section
variable {P : Program} {α : Type} {enc : α → List Value} {sz bytes : Nat} {t e : TypeId}
theorem run_copy_rowN (w : World) (dT sT ty elem : TypeId) (g o dLen dCap : Nat) (a : Addr) (sLen sCap n : Nat) (cur : Array Value) (t : TypeId) (cs : List Value)
    (hu : P.underlying dT = some (.slice elem)) (hs : (P.info? elem).map (·.size) = some sz)
    (hg : w.heap[g]? = some (.cells cur t (0, 0))) (hm : Nat.min sLen dLen = n) (hn : cs.length = n * sz)
    (hsrc : ∀ j v, cs[j]? = some v → w.cell? (a.add j) = some v) (hfit : o + cs.length ≤ cur.size) (h1 : ∀ v ∈ cs, v.oneCell' = true) :
    (Builtin.copy_ #[dT, sT] ty #[.slice (some ⟨g, o, none⟩) dLen dCap, .slice (some a) sLen sCap]).run P w =
      .ok (goInt n) (w.setRow g (cur.toList.take o ++ cs ++ cur.toList.drop (o + cs.length)).toArray) := by
  have hl := run_loadCells_list (P := P) w a cs hsrc
  have hst := run_storeCells_at P g o t cs 0 cur w hg (by simpa using hfit) h1
  cases hq : P.info? elem with
  | none => simp [hq] at hs
  | some i =>
    have hi : i.size = sz := by simpa [hq] using hs
    simp [Builtin.copy_, run_underlying hu, Builtin.lenOf, Builtin.firstCells, sizeOf, typeInfo, hq, hi, hm, ← hn, hl, hst]

/-- A row known whole is owned. -/
theorem Own.ofRow {w : World} {base g n cap : Nat} {xs : List α} {cs : Array Value} (C : Codec enc sz) (h : w.heap[g]? = some (.cells cs e (0, 0))) (hc : cs.toList.take (n * sz) = cellsOf enc xs) (hn : n = xs.length) (hg : base ≤ g) (hnc : n ≤ cap) (hm : cap ≤ maxLen) (hs : cs.size = cap * sz) :
    Own w base e enc sz (.slice (some ⟨g, 0, none⟩) n cap) xs := by
  subst hn
  exact ⟨cellsOf_len C xs, .inr ⟨g, cap, cs, rfl, hg, h, hnc, hm, hs, hc⟩⟩
theorem Own.row {w : World} {base n cap : Nat} {p : Option Addr} {xs : List α} (h : Own w base e enc sz (.slice p n cap) xs) (hp : 0 < cap ∨ p ≠ none) :
    ∃ g cur, p = some ⟨g, 0, none⟩ ∧ base ≤ g ∧ w.heap[g]? = some (.cells cur e (0, 0)) ∧ n = xs.length ∧ n ≤ cap ∧ cap ≤ maxLen ∧ cur.size = cap * sz ∧ cur.toList.take (n * sz) = cellsOf enc xs := by
  obtain ⟨_, h⟩ := h
  rcases h with ⟨hv, _⟩ | ⟨g, cap', cur, hv, hg, hh, hnc, hcm, hcs, ht⟩
  · simp only [Value.slice.injEq] at hv
    obtain ⟨rfl, _, rfl⟩ := hv
    rcases hp with h | h
    · omega
    · exact absurd rfl h
  · simp only [Value.slice.injEq] at hv
    obtain ⟨rfl, rfl, rfl⟩ := hv
    exact ⟨g, cur, rfl, hg, hh, rfl, hnc, hcm, hcs, ht⟩
theorem cells_take (C : Codec enc sz) (xs : List α) (k : Nat) : (cellsOf enc xs).take (k * sz) = cellsOf enc (xs.take k) := by
  have h1 : cellsOf enc xs = cellsOf enc (xs.take k) ++ cellsOf enc (xs.drop k) := by rw [← cellsOf_append, List.take_append_drop]
  by_cases h : k ≤ xs.length
  · have h3 : (cellsOf enc (xs.take k)).length = k * sz := by rw [cellsOf_len C, List.length_take, Nat.min_eq_left h]
    rw [h1, ← h3, List.take_left]
  · rw [List.take_of_length_le (l := xs) (by omega), List.take_of_length_le]
    rw [cellsOf_len C]
    exact Nat.mul_le_mul_right _ (by omega)
/-- A row whose head is opened at element i for one more: the copies of Insert. -/
theorem row_insert (C : Codec enc sz) {cur : List Value} {xs : List α} {n cap i : Nat} {x : α} (hn : n = xs.length) (ht : cur.take (i * sz) = cellsOf enc (xs.take i)) (hi : i ≤ n) (hl : (n + 1) * sz ≤ cur.length) :
    let row1 := cur.take ((i + 1) * sz) ++ cellsOf enc (xs.drop i) ++ cur.drop ((i + 1) * sz + (cellsOf enc (xs.drop i)).length)
    (row1.take (i * sz) ++ enc x ++ row1.drop (i * sz + (enc x).length)).take ((n + 1) * sz) = cellsOf enc (xs.take i ++ x :: xs.drop i) := by
  intro row1
  have hx := C.len x
  have hd : (cellsOf enc (xs.drop i)).length = (n - i) * sz := by rw [cellsOf_len C, List.length_drop, hn]
  have hi1 : (i + 1) * sz = i * sz + sz := by rw [Nat.add_mul, Nat.one_mul]
  have hn1 : (n + 1) * sz = i * sz + sz + (n - i) * sz := by
    have : n + 1 = i + 1 + (n - i) := by omega
    rw [this, Nat.add_mul, Nat.add_mul, Nat.one_mul]
  have h1 : row1.take (i * sz) = cellsOf enc (xs.take i) := by
    rw [← ht]
    show (cur.take ((i + 1) * sz) ++ cellsOf enc (xs.drop i) ++ _).take (i * sz) = _
    rw [List.append_assoc, List.take_append_of_le_length (by rw [List.length_take]; omega), List.take_take, Nat.min_eq_left (by omega)]
  have hlt : (cur.take ((i + 1) * sz)).length = i * sz + sz := by rw [List.length_take]; omega
  have h2 : row1.drop (i * sz + (enc x).length) = cellsOf enc (xs.drop i) ++ cur.drop ((i + 1) * sz + (cellsOf enc (xs.drop i)).length) := by
    rw [hx, ← hlt]
    show (cur.take ((i + 1) * sz) ++ cellsOf enc (xs.drop i) ++ _).drop _ = _
    rw [List.append_assoc, List.drop_left]
  rw [h1, h2, cellsOf_append]
  have e1 : cellsOf enc (x :: xs.drop i) = enc x ++ cellsOf enc (xs.drop i) := by simp [cellsOf]
  have hl1 : (cellsOf enc (xs.take i)).length = i * sz := by rw [← ht, List.length_take]; omega
  rw [e1, ← List.append_assoc (cellsOf enc (xs.take i)), ← List.append_assoc (cellsOf enc (xs.take i) ++ enc x), List.take_append_of_le_length (by simp only [List.length_append]; omega), List.take_of_length_le (by simp only [List.length_append]; omega)]
/-- The same where the element is laid first. -/
theorem row_insert2 (C : Codec enc sz) {cur : List Value} {xs : List α} {n cap i : Nat} {x : α} (hn : n = xs.length) (ht : cur.take (i * sz) = cellsOf enc (xs.take i)) (hi : i ≤ n) (hl : (n + 1) * sz ≤ cur.length) :
    let row1 := cur.take (i * sz) ++ enc x ++ cur.drop (i * sz + (enc x).length)
    (row1.take ((i + 1) * sz) ++ cellsOf enc (xs.drop i) ++ row1.drop ((i + 1) * sz + (cellsOf enc (xs.drop i)).length)).take ((n + 1) * sz) = cellsOf enc (xs.take i ++ x :: xs.drop i) := by
  intro row1
  have hx := C.len x
  have hd : (cellsOf enc (xs.drop i)).length = (n - i) * sz := by rw [cellsOf_len C, List.length_drop, hn]
  have hi1 : (i + 1) * sz = i * sz + sz := by rw [Nat.add_mul, Nat.one_mul]
  have hn1 : (n + 1) * sz = i * sz + sz + (n - i) * sz := by
    have : n + 1 = i + 1 + (n - i) := by omega
    rw [this, Nat.add_mul, Nat.add_mul, Nat.one_mul]
  have hl1 : (cur.take (i * sz)).length = i * sz := by rw [List.length_take]; omega
  have h1 : row1.take ((i + 1) * sz) = cellsOf enc (xs.take i) ++ enc x := by
    rw [← ht, hi1]
    show (cur.take (i * sz) ++ enc x ++ _).take (i * sz + sz) = _
    rw [List.take_append_of_le_length (by simp only [List.length_append]; omega), List.take_of_length_le (by simp only [List.length_append]; omega)]
  rw [h1, cellsOf_append]
  have e1 : cellsOf enc (x :: xs.drop i) = enc x ++ cellsOf enc (xs.drop i) := by simp [cellsOf]
  have hl2 : (cellsOf enc (xs.take i)).length = i * sz := by rw [← ht, hl1]
  rw [e1, List.take_append_of_le_length (by simp only [List.length_append]; omega), List.take_of_length_le (by simp only [List.length_append]; omega), List.append_assoc]
end
end Go.Proofs.YtanemojiaahbgaaGreatDoor
end

section
/- slices.Insert of one object into a slice of the call's own, walked. -/
set_option linter.unusedSimpArgs false
set_option linter.unusedVariables false
namespace Go.Proofs.YtanemojiaahbgaaGreatDoor
open Go.RowKit Go.OpenShut

theorem gb_drew {w w' : World} {row : Option Nat} (h : w.drew.grownBy w' row) : w.grownBy w' row := ⟨h.os, h.tape, h.output, h.size, h.block⟩
def InsRet (w : World) (base : Nat) (row : Option Nat) (n : Nat) (ys : List RM) (e : Ending) (w' : World) : Prop :=
  ∃ p' c', e = .returned (.slice p' n c') ∧ Own w' base 40 encM 6 (.slice p' n c') ys ∧ w.grownBy w' row
/-- An object in a block of its own. -/
def ObAt (W : World) (g : Nat) (x : RM) : Prop := W.heap[g]? = some (.cells #[.string x.name, .int .i64 x.v.k, .int .i64 x.v.n, .string x.v.s, .slice x.v.pl x.v.nl x.v.cl, .slice x.v.pm x.v.nm x.v.cm] 40 (0, 0))

end Go.Proofs.YtanemojiaahbgaaGreatDoor
end

section
/- slices.Insert of one object where there is no room; the roads joined. -/
set_option linter.unusedSimpArgs false
set_option linter.unusedVariables false
namespace Go.Proofs.YtanemojiaahbgaaGreatDoor
open Go.RowKit Go.OpenShut

end Go.Proofs.YtanemojiaahbgaaGreatDoor
end

section
/- Whether a trail has an entry of an id, walked: the library's ContainsFunc at entries. -/
set_option linter.unusedSimpArgs false
set_option linter.unusedVariables false
namespace Go.Proofs.YtanemojiaahbgaaGreatDoor
open Go.RowKit Go.OpenShut

/-- Has a trail an entry of an id? -/
def toldB (l : List En) (id : ByteArray) : Bool := l.any (fun e => decide (e.id = id))
def entB (id : ByteArray) (e : En) : Bool := decide (e.id = id)
theorem told_idx (l : List En) (id : ByteArray) : toldB l id = (l.findIdx? (entB id)).isSome := by
  unfold toldB
  rw [List.findIdx?_isSome]
  rfl
end Go.Proofs.YtanemojiaahbgaaGreatDoor
end

section
/- store.Put: what it says, and the ways on which nothing is put in; walked. -/
set_option linter.unusedSimpArgs false
set_option linter.unusedVariables false
namespace Go.Proofs.YtanemojiaahbgaaGreatDoor
open Go.RowKit Go.OpenShut

/-- The value at the place of an id. -/
def oldV (os : List (ByteArray × JV)) (id : ByteArray) : JV := ((os[lowN os id]?).map (·.2)).getD JV.zero
open Classical in
/-- What Put answers: the box, and why not. -/
noncomputable def putB (b : BoxD) (id : ByteArray) (v : JV) : BoxD × Int :=
  if isAt b.objs id = true then
    if SameT (oldV b.objs id) v then (b, 0) else if 9007199254740991 ≤ b.seq then (BoxD.zero, 180) else (chgB b (b.objs.set (lowN b.objs id) (id, v)) id 2, 0)
  else if toldB b.trail id = true then (BoxD.zero, 181) else if 9007199254740991 ≤ b.seq then (BoxD.zero, 180) else (chgB b (b.objs.take (lowN b.objs id) ++ (id, v) :: b.objs.drop (lowN b.objs id)) id 1, 0)
/-- A box and a number are told. -/
def BoxErr (w : World) (p : BoxD × Int) (e : Ending) (w' : World) : Prop := ∃ q, e = .returned (.tuple #[RB.val q, .int .i64 p.2]) ∧ NewBox w' w.heap.size w.heap.size p.1 q ∧ Below w.heap.size w w'
theorem NewBox.zero (w : World) (base B : Nat) : NewBox w base B BoxD.zero RB.zero := ⟨⟨[], Own.nil _ _ _, MemsOf.nil _ _⟩, Own.nil _ _ _, fun e h => by simp [BoxD.zero] at h, rfl, rfl, rfl⟩

/-- Put's own variables: the box, the id, the value, what is answered. -/
structure PutS (w W : World) (r : RB) (id : ByteArray) (v : RV) : Prop where
  box : BoxAt W w.heap.size r
  str : W.heap[w.heap.size + 1]? = some (.cells #[.string id] 9 (0, 0))
  val : VAt W (w.heap.size + 1 + 1) v
  zero : BoxAt W (w.heap.size + 1 + 1 + 1) RB.zero
  below : Below w.heap.size w W
section
variable {w W W' : World} {r : RB} {id : ByteArray} {v : RV} (h : PutS w W r id v)
include h
theorem PutS.size : w.heap.size + 1 + 1 + 1 < W.heap.size := h.zero.lt
theorem PutS.sizes : w.heap.size < W.heap.size ∧ w.heap.size + 1 < W.heap.size ∧ w.heap.size + 1 + 1 < W.heap.size := by have := h.size; omega
theorem PutS.scell : W.cell? ⟨w.heap.size + 1, 0, none⟩ = some (.string id) := by rw [cell_of_row W _ 0 _ _ _ h.str]; rfl
theorem PutS.go (hb : Below W.heap.size W W') : PutS w W' r id v :=
  ⟨h.box.under hb h.sizes.1, (hb.block _ h.sizes.2.1).trans h.str, h.val.under hb h.sizes.2.2, h.zero.under hb h.size, h.below.trans (hb.mono h.below.size)⟩
theorem PutS.setBox (q : RB) (hq : BoxAt W' w.heap.size q) (hg : W.grownBy W' (some w.heap.size)) : PutS w W' q id v :=
  ⟨hq, (hg.block _ h.sizes.2.1 (by simp)).trans h.str, (hg.block _ h.sizes.2.2 (by simp; omega)).trans h.val, h.zero.kept hg (by omega), h.below.grown hg h.below.size (fun a e => by cases e; exact Nat.le_refl _)⟩
theorem PutS.row {row : Option Nat} (hg : W.grownBy W' row) (hr : ∀ k, row = some k → w.heap.size + 1 + 1 + 1 < k) : PutS w W' r id v := by
  have hz := h.size
  have hb : ∀ k, k ≤ w.heap.size + 1 + 1 + 1 → W'.heap[k]? = W.heap[k]? := fun k hk => hg.block k (by omega) (fun e => by have := hr k e.symm; omega)
  exact ⟨(hb _ (by omega)).trans h.box, (hb _ (by omega)).trans h.str, (hb _ (by omega)).trans h.val, (hb _ (by omega)).trans h.zero, h.below.grown hg h.below.size (fun a e => by have := hr a e; omega)⟩
theorem PutS.other {g : Nat} (hg : W.grownBy W' (some g)) (hgw : W.heap.size ≤ g ∨ w.heap.size + 1 + 1 + 1 < g) : PutS w W' r id v := by
  have hz := h.size
  exact ⟨h.box.kept hg (by omega), (hg.block _ h.sizes.2.1 (by simp; omega)).trans h.str, (hg.block _ h.sizes.2.2 (by simp; omega)).trans h.val, h.zero.kept hg (by omega), h.below.grown hg h.below.size (fun a e => by cases e; omega)⟩
end
theorem PutS.start (w : World) (r : RB) (id : ByteArray) (v : RV) : PutS w ((((w.alloc (.cells #[.slice r.po r.no r.co, .slice r.pt r.nt r.ct, .int .i64 r.sq, .int .i64 r.fl, .int .i64 r.kp] 25)).alloc (.cells #[.string id] 9)).alloc (.cells #[.int .i64 v.k, .int .i64 v.n, .string v.s, .slice v.pl v.nl v.cl, .slice v.pm v.nm v.cm] 31)).alloc (.cells #[.slice none 0 0, .slice none 0 0, .int .i64 0, .int .i64 0, .int .i64 0] 25)) r id v :=
  ⟨heap_alloc_lt (by simp <;> omega) (heap_alloc_lt (by simp <;> omega) (heap_alloc_lt (by simp) (heap_alloc_at rfl))), heap_alloc_lt (by simp <;> omega) (heap_alloc_lt (by simp) (heap_alloc_at (by simp))), heap_alloc_lt (by simp) (heap_alloc_at (by simp)), heap_alloc_at (by simp),
    (((Below.refl _ _).alloc (Nat.le_refl _) _).alloc (by simp) _ |>.alloc (by simp <;> omega) _).alloc (by simp <;> omega) _⟩

theorem Own.storedVO {w : World} {base : Nat} {g n cap : Nat} {xs : List RM} (h : Own w base 40 encM 6 (.slice (some ⟨g, 0, none⟩) n cap) xs) {k : Nat} {x : RM} (hx : xs[k]? = some x) (q : RV) :
    Own (((((w.setCell ⟨g, k * 6 + 1, none⟩ (.int .i64 q.k)).setCell ⟨g, k * 6 + 2, none⟩ (.int .i64 q.n)).setCell ⟨g, k * 6 + 3, none⟩ (.string q.s)).setCell ⟨g, k * 6 + 4, none⟩ (.slice q.pl q.nl q.cl)).setCell ⟨g, k * 6 + 5, none⟩ (.slice q.pm q.nm q.cm)) base 40 encM 6 (.slice (some ⟨g, 0, none⟩) n cap) (xs.set k ⟨x.name, q⟩) ∧
    w.grownBy (((((w.setCell ⟨g, k * 6 + 1, none⟩ (.int .i64 q.k)).setCell ⟨g, k * 6 + 2, none⟩ (.int .i64 q.n)).setCell ⟨g, k * 6 + 3, none⟩ (.string q.s)).setCell ⟨g, k * 6 + 4, none⟩ (.slice q.pl q.nl q.cl)).setCell ⟨g, k * 6 + 5, none⟩ (.slice q.pm q.nm q.cm)) (some g) := by
  have hk := (List.getElem?_eq_some_iff.1 hx).1
  have e : ∀ (y : RM) (z : RM), (xs.set k y)[k]? = some y := fun y z => by simp [List.getElem?_set, hk]
  have s1 := Own.storedAt codecM h (j := 1) (y := ⟨x.name, ⟨q.k, x.v.n, x.v.s, x.v.pl, x.v.nl, x.v.cl, x.v.pm, x.v.nm, x.v.cm⟩⟩) (u := .int .i64 q.k) hx (by decide) rfl
  have s2 := Own.storedAt codecM s1.1 (j := 2) (y := ⟨x.name, ⟨q.k, q.n, x.v.s, x.v.pl, x.v.nl, x.v.cl, x.v.pm, x.v.nm, x.v.cm⟩⟩) (u := .int .i64 q.n) (e _ x) (by decide) rfl
  simp only [List.set_set] at s2
  have s3 := Own.storedAt codecM s2.1 (j := 3) (y := ⟨x.name, ⟨q.k, q.n, q.s, x.v.pl, x.v.nl, x.v.cl, x.v.pm, x.v.nm, x.v.cm⟩⟩) (u := .string q.s) (e _ x) (by decide) rfl
  simp only [List.set_set] at s3
  have s4 := Own.storedAt codecM s3.1 (j := 4) (y := ⟨x.name, ⟨q.k, q.n, q.s, q.pl, q.nl, q.cl, x.v.pm, x.v.nm, x.v.cm⟩⟩) (u := .slice q.pl q.nl q.cl) (e _ x) (by decide) rfl
  simp only [List.set_set] at s4
  have s5 := Own.storedAt codecM s4.1 (j := 5) (y := ⟨x.name, q⟩) (u := .slice q.pm q.nm q.cm) (e _ x) (by decide) rfl
  simp only [List.set_set] at s5
  exact ⟨s5.1, (((s1.2.trans s2.2).trans s3.2).trans s4.2).trans s5.2⟩

theorem NewBox.ne {W : World} {base B g : Nat} {b : BoxD} {r : RB} (h : NewBox W base B b r) (hg : g < base) : (Value.slice r.po r.no r.co).ownBlock ≠ some g ∧ (Value.slice r.pt r.nt r.ct).ownBlock ≠ some g := by
  obtain ⟨ros, h1, _⟩ := h.objs
  exact ⟨fun e => by have := (h1.lt _ e).1; omega, fun e => by have := (h.trail.lt _ e).1; omega⟩
/-- Slices of unlike elements lie in unlike blocks. -/
theorem Own.unlike {α β : Type} {e1 : α → List Value} {e2 : β → List Value} {s1 s2 b1 b2 : Nat} {t1 t2 : TypeId} {w : World} {v1 v2 : Value} {xs : List α} {ys : List β} (h1 : Own w b1 t1 e1 s1 v1 xs) (h2 : Own w b2 t2 e2 s2 v2 ys) (hne : t1 ≠ t2) {k : Nat} (hk : v1.ownBlock = some k) : v2.ownBlock ≠ some k := by
  intro hk2
  obtain ⟨_, h1⟩ := h1
  obtain ⟨_, h2⟩ := h2
  rcases h1 with ⟨rfl, _⟩ | ⟨g, cap, cur, rfl, _, hh, _⟩
  · simp [Value.ownBlock] at hk
  · rcases h2 with ⟨rfl, _⟩ | ⟨g', cap', cur', rfl, _, hh', _⟩
    · simp [Value.ownBlock] at hk2
    · simp only [Value.ownBlock, Option.some.injEq] at hk hk2
      subst hk
      subst hk2
      rw [hh] at hh'
      simp only [Option.some.injEq, Obj.cells.injEq] at hh'
      exact hne hh'.2.1
theorem MemsOf.insert {w : World} {B : Nat} {ms : List (ByteArray × JV)} {rms : List RM} (h : MemsOf w B ms rms) (i : Nat) {p : ByteArray × JV} {q : RM} (hn : p.1 = q.name) (ht : TreeOf w B p.2 q.v) : MemsOf w B (ms.take i ++ p :: ms.drop i) (rms.take i ++ q :: rms.drop i) := by
  have hl := h.len
  have key : ∀ (j : Nat) a c, (ms.take i ++ p :: ms.drop i)[j]? = some a → (rms.take i ++ q :: rms.drop i)[j]? = some c → a.1 = c.name ∧ TreeOf w B a.2 c.v := by
    intro j a c h1 h2
    have hlt : (ms.take i).length = (rms.take i).length := by simp [hl]
    by_cases hj : j < (ms.take i).length
    · rw [List.getElem?_append_left hj, List.getElem?_take] at h1
      rw [List.getElem?_append_left (by omega), List.getElem?_take] at h2
      split at h1
      · rename_i h3
        rw [if_pos h3] at h2
        exact ⟨h.name _ _ _ h1 h2, h.val _ _ _ h1 h2⟩
      · cases h1
    · rw [List.getElem?_append_right (by omega)] at h1
      rw [List.getElem?_append_right (by omega), ← hlt] at h2
      cases hk : j - (ms.take i).length with
      | zero =>
        rw [hk] at h1 h2
        cases h1; cases h2
        exact ⟨hn, ht⟩
      | succ k =>
        rw [hk, List.getElem?_cons_succ, List.getElem?_drop] at h1 h2
        exact ⟨h.name _ _ _ h1 h2, h.val _ _ _ h1 h2⟩
  exact ⟨by simp [hl], fun j a c h1 h2 => (key j a c h1 h2).1, fun j a c h1 h2 => (key j a c h1 h2).2⟩
theorem MemsOf.delete {w : World} {B : Nat} {ms : List (ByteArray × JV)} {rms : List RM} (h : MemsOf w B ms rms) (i : Nat) : MemsOf w B (ms.take i ++ ms.drop (i + 1)) (rms.take i ++ rms.drop (i + 1)) := by
  have hl := h.len
  have key : ∀ (j : Nat) a c, (ms.take i ++ ms.drop (i + 1))[j]? = some a → (rms.take i ++ rms.drop (i + 1))[j]? = some c → a.1 = c.name ∧ TreeOf w B a.2 c.v := by
    intro j a c h1 h2
    have hlt : (ms.take i).length = (rms.take i).length := by simp [hl]
    by_cases hj : j < (ms.take i).length
    · rw [List.getElem?_append_left hj, List.getElem?_take] at h1
      rw [List.getElem?_append_left (by omega), List.getElem?_take] at h2
      split at h1
      · rename_i h3
        rw [if_pos h3] at h2
        exact ⟨h.name _ _ _ h1 h2, h.val _ _ _ h1 h2⟩
      · cases h1
    · rw [List.getElem?_append_right (by omega), List.getElem?_drop] at h1
      rw [List.getElem?_append_right (by omega), ← hlt, List.getElem?_drop] at h2
      exact ⟨h.name _ _ _ h1 h2, h.val _ _ _ h1 h2⟩
  exact ⟨by simp [hl], fun j a c h1 h2 => (key j a c h1 h2).1, fun j a c h1 h2 => (key j a c h1 h2).2⟩
theorem BoxAt.set0 {W : World} {g : Nat} {r : RB} (h : BoxAt W g r) (p : Option Addr) (n c : Nat) : BoxAt (W.setCell ⟨g, 0, none⟩ (.slice p n c)) g { r with po := p, no := n, co := c } := by
  unfold BoxAt at h ⊢
  simp [World.setCell, Array.getElem?_modify, h]
/-- Its list of objects replaced by another one of the call's own. -/
theorem NewBox.withObjs {W W' : World} {base B : Nat} {b : BoxD} {r : RB} (h : NewBox W base B b r) {row : Option Nat} (hg : W.grownBy W' row) (hrow : row = (Value.slice r.po r.no r.co).ownBlock) (hne : 40 ≠ 121) {p : Option Addr} {n c : Nat} {os : List (ByteArray × JV)} {ros : List RM} (ho : Own W' base 40 encM 6 (.slice p n c) ros) (hm : MemsOf W' B os ros) :
    NewBox W' base B { b with objs := os } { r with po := p, no := n, co := c } := by
  obtain ⟨ros0, h1, _⟩ := h.objs
  refine ⟨⟨ros, ho, hm⟩, h.trail.kept hg ?_, h.ok, h.seq, h.floor, h.keep⟩
  subst hrow
  cases e : (Value.slice r.pt r.nt r.ct).ownBlock with
  | none => exact .inl rfl
  | some k => exact .inr (fun e2 => Own.unlike h1 h.trail hne e2.symm e)
end Go.Proofs.YtanemojiaahbgaaGreatDoor
end

section
/- store.Put, walked. -/
set_option linter.unusedSimpArgs false
set_option linter.unusedVariables false
namespace Go.Proofs.YtanemojiaahbgaaGreatDoor
open Go.RowKit Go.OpenShut

theorem isAt_some {os : List (ByteArray × JV)} {id : ByteArray} (h : isAt os id = true) : ∃ p, os[lowN os id]? = some p ∧ p.1 = id ∧ oldV os id = p.2 := by
  unfold isAt at h
  unfold oldV
  cases e : os[lowN os id]? with
  | none => rw [e] at h; cases h
  | some p => rw [e] at h; exact ⟨p, rfl, by simpa using h, rfl⟩
theorem lowN_le (os : List (ByteArray × JV)) (id : ByteArray) : lowN os id ≤ os.length := (List.takeWhile_sublist _).length_le

end Go.Proofs.YtanemojiaahbgaaGreatDoor
end

section
/- slices.Delete of one object out of a slice of the call's own, walked. -/
set_option linter.unusedSimpArgs false
set_option linter.unusedVariables false
namespace Go.Proofs.YtanemojiaahbgaaGreatDoor
open Go.RowKit Go.OpenShut

theorem setCells_row (g : Nat) (e : TypeId) : ∀ (vs : List Value) (o : Nat) (w : World) (cur : Array Value), w.heap[g]? = some (.cells cur e (0, 0)) → o + vs.length ≤ cur.size →
    (w.setCells g o vs).heap[g]? = some (.cells (cur.toList.take o ++ vs ++ cur.toList.drop (o + vs.length)).toArray e (0, 0)) ∧ w.grownBy (w.setCells g o vs) (some g)
  | [], o, w, cur, h, hl => ⟨by simpa [World.setCells] using h, World.grownBy.refl w _⟩
  | v :: r, o, w, cur, h, hl => by
    have hl' : o + 1 + r.length ≤ cur.size := by simp at hl; omega
    obtain ⟨h1, h2⟩ := setCells_row g e r (o + 1) (w.setCell ⟨g, o, none⟩ v) (cur.setIfInBounds o v) (heap_setCell_same w g o cur e v h) (by simpa using hl')
    refine ⟨?_, (grownBy_set w g o v).trans h2⟩
    show ((w.setCell ⟨g, o, none⟩ v).setCells g (o + 1) r).heap[g]? = _
    rw [h1]
    congr 3
    rw [Array.toList_setIfInBounds, List.take_add_one, List.take_set_of_le (Nat.le_refl _), List.getElem?_set_self (by simp; omega), List.drop_set_of_lt (by omega)]
    simp [Nat.add_assoc, Nat.add_comm 1]

theorem step_append_runO {P : Program} {ops : Array Oper} {o : Oper} {a : Act} {w : World} {K : Act → World → Prop} {Q : Exit → Act → World → Prop} {E : Prop}
    (hg : o.guard = none) (d x : Operand) (dT sT : TypeId) (hop : o.op = Op.call { callee := Callee.builtin Builtin.append, args := #[d, x], argTypes := #[dT, sT] })
    (v u : Value) (hd : a.eval d = v) (hx : a.eval x = u) {v' : Value} {w' : World} (hr : (Builtin.append_ #[dT, sT] o.type #[v, u]).run P w = .ok v' w') (hK : K (a.put o.dst v') w') :
    if Region.wanted o (yielded ops a.tmps) = true then Oper.wp P o a w K Q else E := by
  have hw : Region.wanted o (yielded ops a.tmps) = true := by simp [Region.wanted, hg]
  rw [if_pos hw]
  unfold Oper.wp
  simp [execOp, hop, resolve, invoke, builtin, hd, hx, hr, Result.andThen]
  exact hK

theorem row_delete {α : Type} {enc : α → List Value} {sz : Nat} (C : Codec enc sz) {cur : List Value} {xs : List α} {n i : Nat} (hn : n = xs.length) (ht : cur.take (n * sz) = cellsOf enc xs) (hi : i < n) (hl : n * sz ≤ cur.length) :
    (cur.take (i * sz) ++ cellsOf enc (xs.drop (i + 1)) ++ cur.drop (i * sz + (cellsOf enc (xs.drop (i + 1))).length)).take (n * sz) = cellsOf enc (xs.take i ++ xs.drop (i + 1) ++ xs.drop (n - 1)) := by
  have h1 : cur.take (i * sz) = cellsOf enc (xs.take i) := by
    rw [← cells_take C, ← ht, List.take_take, Nat.min_eq_left (Nat.mul_le_mul_right _ (by omega))]
  have hd : (cellsOf enc (xs.drop (i + 1))).length = (n - (i + 1)) * sz := by rw [cellsOf_len C, List.length_drop, hn]
  have hk : i * sz + (n - (i + 1)) * sz = (n - 1) * sz := by rw [← Nat.add_mul]; congr 1; omega
  have hns : n * sz = (n - 1) * sz + sz := by
    have : n = n - 1 + 1 := by omega
    rw [this, Nat.add_mul, Nat.one_mul, Nat.add_sub_cancel]
  have h2 : (cur.drop ((n - 1) * sz)).take sz = cellsOf enc (xs.drop (n - 1)) := by
    have e : cellsOf enc xs = cellsOf enc (xs.take (n - 1)) ++ cellsOf enc (xs.drop (n - 1)) := by rw [← cellsOf_append, List.take_append_drop]
    have hl1 : (cellsOf enc (xs.take (n - 1))).length = (n - 1) * sz := by rw [cellsOf_len C, List.length_take]; congr 1; omega
    have e2 : (cellsOf enc xs).drop ((n - 1) * sz) = cellsOf enc (xs.drop (n - 1)) := by rw [e, ← hl1, List.drop_left]
    rw [← e2, ← ht, List.drop_take]
    congr 1
    omega
  rw [hd, hk, cellsOf_append, cellsOf_append, h1, ← h2]
  have hl3 : (cellsOf enc (xs.take i) ++ cellsOf enc (xs.drop (i + 1))).length = (n - 1) * sz := by
    rw [List.length_append, hd, cellsOf_len C, List.length_take, ← Nat.add_mul]
    congr 1; omega
  rw [hns, ← hl3, List.take_length_add_append]

def DelRet (w : World) (base : Nat) (p : Option Addr) (n c : Nat) (ys : List RM) (e : Ending) (w' : World) : Prop :=
  e = .returned (.slice p n c) ∧ Own w' base 40 encM 6 (.slice p n c) ys ∧ w.grownBy w' (Value.slice p n c).ownBlock

theorem oneO : ∀ i z, Tryz.prog.info? 40 = some i → i.zero = some z → ∀ u ∈ z.cells.toList, u.oneCell' = true := by
  intro i z hi hz
  have h : (Tryz.prog.info? 40).map (fun i => (i.zero, i.size, i.bytes)) = some (some (.agg #[.string ByteArray.empty, .int .i64 0, .int .i64 0, .string ByteArray.empty, .slice none 0 0, .slice none 0 0]), 6, 96) := by kernel_rfl
  rw [hi] at h
  simp only [Option.map_some, Option.some.injEq, Prod.mk.injEq] at h
  rw [hz] at h
  simp only [Option.some.injEq] at h
  rw [h.1]
  intro u hu
  simp [Value.cells] at hu
  rcases hu with rfl | rfl | rfl | rfl | rfl | rfl <;> rfl

end Go.Proofs.YtanemojiaahbgaaGreatDoor
end

section
/- store.Drop, walked. -/
set_option linter.unusedSimpArgs false
set_option linter.unusedVariables false
namespace Go.Proofs.YtanemojiaahbgaaGreatDoor
open Go.RowKit Go.OpenShut

/-- What Drop answers: the box, and why not. -/
def dropB (b : BoxD) (id : ByteArray) : BoxD × Int :=
  if isAt b.objs id = false then (BoxD.zero, 81) else if 9007199254740991 ≤ b.seq then (BoxD.zero, 180) else (chgB b (b.objs.take (lowN b.objs id) ++ b.objs.drop (lowN b.objs id + 1)) id 3, 0)

/-- A box and what is answered, in blocks of their own. -/
structure TwoB (w W : World) (r : RB) : Prop where
  box : BoxAt W w.heap.size r
  zero : BoxAt W (w.heap.size + 1) RB.zero
  below : Below w.heap.size w W
section
variable {w W W' : World} {r : RB} (h : TwoB w W r)
include h
theorem TwoB.size : w.heap.size + 1 < W.heap.size := h.zero.lt
theorem TwoB.go (hb : Below W.heap.size W W') : TwoB w W' r := ⟨h.box.under hb h.box.lt, h.zero.under hb h.size, h.below.trans (hb.mono h.below.size)⟩
theorem TwoB.setBox (q : RB) (hq : BoxAt W' w.heap.size q) (hg : W.grownBy W' (some w.heap.size)) : TwoB w W' q := ⟨hq, h.zero.kept hg (by omega), h.below.grown hg h.below.size (fun a e => by cases e; exact Nat.le_refl _)⟩
theorem TwoB.row {row : Option Nat} (hg : W.grownBy W' row) (hr : ∀ k, row = some k → w.heap.size + 1 < k) : TwoB w W' r := by
  have hz := h.size
  have hb : ∀ k, k ≤ w.heap.size + 1 → W'.heap[k]? = W.heap[k]? := fun k hk => hg.block k (by omega) (fun e => by have := hr k e.symm; omega)
  exact ⟨(hb _ (by omega)).trans h.box, (hb _ (by omega)).trans h.zero, h.below.grown hg h.below.size (fun a e => by have := hr a e; omega)⟩
end
theorem TwoB.start (w : World) (r : RB) : TwoB w ((w.alloc (.cells #[.slice r.po r.no r.co, .slice r.pt r.nt r.ct, .int .i64 r.sq, .int .i64 r.fl, .int .i64 r.kp] 25)).alloc (.cells #[.slice none 0 0, .slice none 0 0, .int .i64 0, .int .i64 0, .int .i64 0] 25)) r := ⟨heap_alloc_lt (by simp) (heap_alloc_at rfl), heap_alloc_at (by simp), below2 _ _ _⟩

end Go.Proofs.YtanemojiaahbgaaGreatDoor
end
