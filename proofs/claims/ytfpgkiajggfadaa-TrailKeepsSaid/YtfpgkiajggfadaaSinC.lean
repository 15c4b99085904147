/- The document's answer of what became of ids, in plain lists; and stores into an own row of four cells. -/
import Derived.Test.YtfpgkiajggfadaaSinB
set_option linter.unusedSimpArgs false
set_option linter.unusedVariables false
namespace Go.Proofs.Ytfpgkiajggfadaa
open Go.RowKit

def hitB (sq : Int) (x y : En) : Bool := decide (y.id = x.id) && decide (sq < y.seq)
def refAt (sq : Int) (l : List En) (i : Nat) : Option Pa := match l[i]? with
  | none => none
  | some x => if x.seq ≤ sq then none else if (l.drop (i + 1)).any (hitB sq x) then none else (l.find? (hitB sq x)).map fun f => ⟨x.id, f.what != 1, x.what != 3, x.seq⟩
def refUpTo (sq : Int) (l : List En) (k : Nat) : List Pa := (List.range k).filterMap (refAt sq l)
theorem refUpTo_succ (sq : Int) (l : List En) (k : Nat) : refUpTo sq l (k + 1) = refUpTo sq l k ++ (refAt sq l k).toList := by
  unfold refUpTo
  rw [List.range_succ, List.filterMap_append]
  cases h : refAt sq l k <;> simp [h]

def sinceL (sq : Int) : List En → List Pa
  | [] => []
  | e :: r => if e.seq ≤ sq then sinceL sq r else if (sinceL sq r).any (fun p => decide (p.id = e.id)) then (sinceL sq r).map (updP e) else newP e :: sinceL sq r

theorem sinceL_cons (sq : Int) (e : En) (r : List En) : sinceL sq (e :: r) = if e.seq ≤ sq then sinceL sq r else if (sinceL sq r).any (fun p => decide (p.id = e.id)) then (sinceL sq r).map (updP e) else newP e :: sinceL sq r := rfl
theorem stepAll_rev (sq : Int) : ∀ l : List En, (stepAll sq l.reverse).reverse = sinceL sq l
  | [] => rfl
  | e :: r => by
    have ih := stepAll_rev sq r
    rw [List.reverse_cons, stepAll_snoc]
    have hr : stepAll sq r.reverse = (sinceL sq r).reverse := by rw [← ih, List.reverse_reverse]
    rw [hr, sinceL_cons]
    unfold stepP
    by_cases h1 : e.seq ≤ sq
    · rw [if_pos h1, if_pos h1, List.reverse_reverse]
    · rw [if_neg h1, if_neg h1, List.any_reverse]
      split
      · rw [List.map_reverse, List.reverse_reverse]
      · rw [List.reverse_append, List.reverse_reverse]; rfl

theorem upd_id (e : En) (p : Pa) : (updP e p).id = p.id := by unfold updP; split <;> rfl
theorem sinceL_id (sq : Int) (i : ByteArray) : ∀ l : List En, (∃ p ∈ sinceL sq l, p.id = i) ↔ ∃ y ∈ l, y.id = i ∧ sq < y.seq
  | [] => by simp [sinceL]
  | e :: r => by
    have ih := sinceL_id sq i r
    rw [sinceL_cons]
    by_cases h1 : e.seq ≤ sq
    · rw [if_pos h1, ih]
      constructor
      · rintro ⟨y, hy, h⟩; exact ⟨y, List.mem_cons_of_mem _ hy, h⟩
      · rintro ⟨y, hy, h, h'⟩
        rcases List.mem_cons.1 hy with rfl | hy
        · omega
        · exact ⟨y, hy, h, h'⟩
    · rw [if_neg h1]
      split
      · rename_i hk
        have e1 : (∃ p ∈ (sinceL sq r).map (updP e), p.id = i) ↔ ∃ p ∈ sinceL sq r, p.id = i := by
          constructor
          · rintro ⟨p, hp, h⟩
            obtain ⟨q, hq, rfl⟩ := List.mem_map.1 hp
            exact ⟨q, hq, by rw [← h, upd_id]⟩
          · rintro ⟨p, hp, h⟩
            exact ⟨_, List.mem_map.2 ⟨p, hp, rfl⟩, by rw [upd_id]; exact h⟩
        rw [e1, ih]
        constructor
        · rintro ⟨y, hy, h⟩; exact ⟨y, List.mem_cons_of_mem _ hy, h⟩
        · rintro ⟨y, hy, h, h'⟩
          rcases List.mem_cons.1 hy with rfl | hy
          · rw [← ih]
            simp only [List.any_eq_true, decide_eq_true_eq] at hk
            obtain ⟨p, hp, e2⟩ := hk
            exact ⟨p, hp, by rw [e2]; exact h⟩
          · exact ⟨y, hy, h, h'⟩
      · constructor
        · rintro ⟨p, hp, h⟩
          rcases List.mem_cons.1 hp with rfl | hp
          · exact ⟨e, by simp, h, by omega⟩
          · obtain ⟨y, hy, h2⟩ := ih.1 ⟨p, hp, h⟩
            exact ⟨y, List.mem_cons_of_mem _ hy, h2⟩
        · rintro ⟨y, hy, h, h'⟩
          rcases List.mem_cons.1 hy with rfl | hy
          · exact ⟨newP y, by simp, h⟩
          · obtain ⟨p, hp, h2⟩ := ih.2 ⟨y, hy, h, h'⟩
            exact ⟨p, List.mem_cons_of_mem _ hp, h2⟩

/-- What an entry ahead of the list does to what is said of it. -/
def putP (sq : Int) (e : En) (p : Pa) : Pa := if sq < e.seq then updP e p else p
theorem refAt_cons (sq : Int) (e : En) (r : List En) (i : Nat) : refAt sq (e :: r) (i + 1) = (refAt sq r i).map (putP sq e) := by
  unfold refAt
  rw [List.getElem?_cons_succ]
  cases h0 : r[i]? with
  | none => rfl
  | some x =>
    dsimp only
    by_cases h1 : x.seq ≤ sq
    · rw [if_pos h1, if_pos h1]; rfl
    · rw [if_neg h1, if_neg h1, List.drop_succ_cons]
      split
      · rfl
      · rw [List.find?_cons, Option.map_map]
        cases h2 : hitB sq x e with
        | true =>
          unfold hitB at h2
          simp only [Bool.and_eq_true, decide_eq_true_eq] at h2
          cases h3 : r.find? (hitB sq x) with
          | none =>
            have := List.find?_eq_none.1 h3 x (List.mem_of_getElem? h0)
            unfold hitB at this
            simp at this
            omega
          | some f =>
            simp only [Option.map_some, Function.comp_apply, putP, if_pos h2.2, updP, if_pos h2.1.symm]
        | false =>
          unfold hitB at h2
          simp only [Bool.and_eq_false_iff, decide_eq_false_iff_not] at h2
          congr 1
          funext f
          simp only [Function.comp_apply, putP, updP]
          rcases h2 with h2 | h2
          · have h4 : ¬ x.id = e.id := fun e' => h2 e'.symm
            by_cases h5 : sq < e.seq
            · rw [if_pos h5, if_neg h4]
            · rw [if_neg h5]
          · rw [if_neg h2]

theorem refUpTo_all (sq : Int) : ∀ l : List En, refUpTo sq l l.length = sinceL sq l
  | [] => rfl
  | e :: r => by
    have ih := refUpTo_all sq r
    unfold refUpTo at ih ⊢
    rw [List.length_cons, List.range_succ_eq_map, List.filterMap_cons, List.filterMap_map]
    have e1 : (List.range r.length).filterMap (refAt sq (e :: r) ∘ Nat.succ) = (sinceL sq r).map (putP sq e) := by
      rw [← ih, List.map_filterMap]
      congr 1
      funext i
      exact refAt_cons sq e r i
    rw [e1]
    have e0 : refAt sq (e :: r) 0 = if e.seq ≤ sq then none else if r.any (hitB sq e) then none else some (newP e) := by
      unfold refAt
      rw [List.getElem?_cons_zero]
      dsimp only
      by_cases h1 : e.seq ≤ sq
      · rw [if_pos h1, if_pos h1]
      · rw [if_neg h1, if_neg h1]
        rw [List.drop_succ_cons, List.drop_zero]
        have h2 : hitB sq e e = true := by unfold hitB; simp; omega
        rw [List.find?_cons, h2]
        rfl
    rw [e0, sinceL_cons]
    by_cases h1 : e.seq ≤ sq
    · rw [if_pos h1, if_pos h1]
      dsimp only
      have : (putP sq e) = id := by funext p; unfold putP; rw [if_neg (by omega)]; rfl
      rw [this, List.map_id]
    · have hput : (putP sq e) = updP e := by funext p; unfold putP; rw [if_pos (by omega)]
      rw [if_neg h1, if_neg h1, hput]
      have hany : r.any (hitB sq e) = (sinceL sq r).any (fun p => decide (p.id = e.id)) := by
        rw [Bool.eq_iff_iff]
        have := sinceL_id sq e.id r
        simp only [List.any_eq_true, hitB, Bool.and_eq_true, decide_eq_true_eq]
        exact this.symm
      rw [hany]
      by_cases hk : (sinceL sq r).any (fun p => decide (p.id = e.id)) = true
      · rw [if_pos hk, if_pos hk]
      · rw [if_neg hk, if_neg hk]
        have : (sinceL sq r).map (updP e) = sinceL sq r := updP_id _ _ (fun p hp h => hk (by simp only [List.any_eq_true, decide_eq_true_eq]; exact ⟨p, hp, h⟩))
        rw [this]

/-! ### A store of four cells into an own row -/
theorem cells_set : ∀ (xs : List Pa) (p : Nat) (y : Pa), p < xs.length → ((((cellsOf encP xs).set (p * 4) (.string y.id)).set (p * 4 + 1) (.bool y.was)).set (p * 4 + 2) (.bool y.isb)).set (p * 4 + 3) (.int .i64 y.last) = cellsOf encP (xs.set p y)
  | [], _, _, h => by simp at h
  | x :: xs, 0, y, _ => by simp [cellsOf, encP]
  | x :: xs, p + 1, y, h => by
    have ih := cells_set xs p y (by simpa using h)
    simp only [cellsOf, List.flatMap_cons, List.set_cons_succ] at ih ⊢
    rw [← ih]
    rw [show (p + 1) * 4 = p * 4 + 1 + 1 + 1 + 1 by omega]
    simp [encP]

theorem Own.stored4 {w : World} {base : Nat} {e : TypeId} {g n cap : Nat} {xs : List Pa} (h : Own w base e encP 4 (.slice (some ⟨g, 0, none⟩) n cap) xs) (hn : n = xs.length) (p : Nat) (hp : p < xs.length) (y : Pa) :
    Own ((((w.setCell ⟨g, p * 4, none⟩ (.string y.id)).setCell ⟨g, p * 4 + 1, none⟩ (.bool y.was)).setCell ⟨g, p * 4 + 2, none⟩ (.bool y.isb)).setCell ⟨g, p * 4 + 3, none⟩ (.int .i64 y.last)) base e encP 4 (.slice (some ⟨g, 0, none⟩) n cap) (xs.set p y) ∧
    w.grownBy ((((w.setCell ⟨g, p * 4, none⟩ (.string y.id)).setCell ⟨g, p * 4 + 1, none⟩ (.bool y.was)).setCell ⟨g, p * 4 + 2, none⟩ (.bool y.isb)).setCell ⟨g, p * 4 + 3, none⟩ (.int .i64 y.last)) (some g) := by
  subst hn
  unfold Own at h ⊢
  have h1 := World.ownsRow.stored h (p * 4) (.string y.id)
  have h2 := World.ownsRow.stored h1.1 (p * 4 + 1) (.bool y.was)
  have h3 := World.ownsRow.stored h2.1 (p * 4 + 2) (.bool y.isb)
  have h4 := World.ownsRow.stored h3.1 (p * 4 + 3) (.int .i64 y.last)
  rw [cells_set xs p y hp] at h4
  rw [List.length_set]
  exact ⟨h4.1, ((h1.2.trans h2.2).trans h3.2).trans h4.2⟩
end Go.Proofs.Ytfpgkiajggfadaa
