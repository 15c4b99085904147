import Derived.Test.YthgkgjcnmahacaaSc20
import Derived.Test.YthgkgjcnmahacaaSc15
import Derived.Test.YthgkgjcnmahacaaSc10
import Derived.BigQuiet
import Derived.Test.YthgkgjcnmahacaaSc12
import Derived.Test.YthgkgjcnmahacaaSc13
import Derived.Test.YthgkgjcnmahacaaSc01
section
/- The document's answer of what became of ids, in plain lists; and stores into an own row of four cells. -/
set_option linter.unusedSimpArgs false
set_option linter.unusedVariables false
namespace Go.Proofs.Ythgkgjcnmahacaa
open Go.RowKit

def hitB (sq : Int) (x y : En) : Bool := decide (y.id = x.id) && decide (sq < y.seq)
def refAt (sq : Int) (l : List En) (i : Nat) : Option Pa := match l[i]? with
  | none => none
  | some x => if x.seq ≤ sq then none else if (l.drop (i + 1)).any (hitB sq x) then none else (l.find? (hitB sq x)).map fun f => ⟨x.id, f.what != 1, x.what != 3, x.seq⟩
def refUpTo (sq : Int) (l : List En) (k : Nat) : List Pa := (List.range k).filterMap (refAt sq l)
theorem refUpTo_succ (sq : Int) (l : List En) (k : Nat) : refUpTo sq l (k + 1) = refUpTo sq l k ++ (refAt sq l k).toList := by
  unfold refUpTo
  rw [List.range_succ, List.filterMap_append]
  cases h : refAt sq l k <;> simp [h]

def sinceL (sq : Int) : List En → List Pa
  | [] => []
  | e :: r => if e.seq ≤ sq then sinceL sq r else if (sinceL sq r).any (fun p => decide (p.id = e.id)) then (sinceL sq r).map (updP e) else newP e :: sinceL sq r

theorem sinceL_cons (sq : Int) (e : En) (r : List En) : sinceL sq (e :: r) = if e.seq ≤ sq then sinceL sq r else if (sinceL sq r).any (fun p => decide (p.id = e.id)) then (sinceL sq r).map (updP e) else newP e :: sinceL sq r := rfl
theorem stepAll_rev (sq : Int) : ∀ l : List En, (stepAll sq l.reverse).reverse = sinceL sq l
  | [] => rfl
  | e :: r => by
    have ih := stepAll_rev sq r
    rw [List.reverse_cons, stepAll_snoc]
    have hr : stepAll sq r.reverse = (sinceL sq r).reverse := by rw [← ih, List.reverse_reverse]
    rw [hr, sinceL_cons]
    unfold stepP
    by_cases h1 : e.seq ≤ sq
    · rw [if_pos h1, if_pos h1, List.reverse_reverse]
    · rw [if_neg h1, if_neg h1, List.any_reverse]
      split
      · rw [List.map_reverse, List.reverse_reverse]
      · rw [List.reverse_append, List.reverse_reverse]; rfl

theorem upd_id (e : En) (p : Pa) : (updP e p).id = p.id := by unfold updP; split <;> rfl
theorem sinceL_id (sq : Int) (i : ByteArray) : ∀ l : List En, (∃ p ∈ sinceL sq l, p.id = i) ↔ ∃ y ∈ l, y.id = i ∧ sq < y.seq
  | [] => by simp [sinceL]
  | e :: r => by
    have ih := sinceL_id sq i r
    rw [sinceL_cons]
    by_cases h1 : e.seq ≤ sq
    · rw [if_pos h1, ih]
      constructor
      · rintro ⟨y, hy, h⟩; exact ⟨y, List.mem_cons_of_mem _ hy, h⟩
      · rintro ⟨y, hy, h, h'⟩
        rcases List.mem_cons.1 hy with rfl | hy
        · omega
        · exact ⟨y, hy, h, h'⟩
    · rw [if_neg h1]
      split
      · rename_i hk
        have e1 : (∃ p ∈ (sinceL sq r).map (updP e), p.id = i) ↔ ∃ p ∈ sinceL sq r, p.id = i := by
          constructor
          · rintro ⟨p, hp, h⟩
            obtain ⟨q, hq, rfl⟩ := List.mem_map.1 hp
            exact ⟨q, hq, by rw [← h, upd_id]⟩
          · rintro ⟨p, hp, h⟩
            exact ⟨_, List.mem_map.2 ⟨p, hp, rfl⟩, by rw [upd_id]; exact h⟩
        rw [e1, ih]
        constructor
        · rintro ⟨y, hy, h⟩; exact ⟨y, List.mem_cons_of_mem _ hy, h⟩
        · rintro ⟨y, hy, h, h'⟩
          rcases List.mem_cons.1 hy with rfl | hy
          · rw [← ih]
            simp only [List.any_eq_true, decide_eq_true_eq] at hk
            obtain ⟨p, hp, e2⟩ := hk
            exact ⟨p, hp, by rw [e2]; exact h⟩
          · exact ⟨y, hy, h, h'⟩
      · constructor
        · rintro ⟨p, hp, h⟩
          rcases List.mem_cons.1 hp with rfl | hp
          · exact ⟨e, by simp, h, by omega⟩
          · obtain ⟨y, hy, h2⟩ := ih.1 ⟨p, hp, h⟩
            exact ⟨y, List.mem_cons_of_mem _ hy, h2⟩
        · rintro ⟨y, hy, h, h'⟩
          rcases List.mem_cons.1 hy with rfl | hy
          · exact ⟨newP y, by simp, h⟩
          · obtain ⟨p, hp, h2⟩ := ih.2 ⟨y, hy, h, h'⟩
            exact ⟨p, List.mem_cons_of_mem _ hp, h2⟩

/-- What an entry ahead of the list does to what is said of it. -/
def putP (sq : Int) (e : En) (p : Pa) : Pa := if sq < e.seq then updP e p else p
theorem refAt_cons (sq : Int) (e : En) (r : List En) (i : Nat) : refAt sq (e :: r) (i + 1) = (refAt sq r i).map (putP sq e) := by
  unfold refAt
  rw [List.getElem?_cons_succ]
  cases h0 : r[i]? with
  | none => rfl
  | some x =>
    dsimp only
    by_cases h1 : x.seq ≤ sq
    · rw [if_pos h1, if_pos h1]; rfl
    · rw [if_neg h1, if_neg h1, List.drop_succ_cons]
      split
      · rfl
      · rw [List.find?_cons, Option.map_map]
        cases h2 : hitB sq x e with
        | true =>
          unfold hitB at h2
          simp only [Bool.and_eq_true, decide_eq_true_eq] at h2
          cases h3 : r.find? (hitB sq x) with
          | none =>
            have := List.find?_eq_none.1 h3 x (List.mem_of_getElem? h0)
            unfold hitB at this
            simp at this
            omega
          | some f =>
            simp only [Option.map_some, Function.comp_apply, putP, if_pos h2.2, updP, if_pos h2.1.symm]
        | false =>
          unfold hitB at h2
          simp only [Bool.and_eq_false_iff, decide_eq_false_iff_not] at h2
          congr 1
          funext f
          simp only [Function.comp_apply, putP, updP]
          rcases h2 with h2 | h2
          · have h4 : ¬ x.id = e.id := fun e' => h2 e'.symm
            by_cases h5 : sq < e.seq
            · rw [if_pos h5, if_neg h4]
            · rw [if_neg h5]
          · rw [if_neg h2]

theorem refUpTo_all (sq : Int) : ∀ l : List En, refUpTo sq l l.length = sinceL sq l
  | [] => rfl
  | e :: r => by
    have ih := refUpTo_all sq r
    unfold refUpTo at ih ⊢
    rw [List.length_cons, List.range_succ_eq_map, List.filterMap_cons, List.filterMap_map]
    have e1 : (List.range r.length).filterMap (refAt sq (e :: r) ∘ Nat.succ) = (sinceL sq r).map (putP sq e) := by
      rw [← ih, List.map_filterMap]
      congr 1
      funext i
      exact refAt_cons sq e r i
    rw [e1]
    have e0 : refAt sq (e :: r) 0 = if e.seq ≤ sq then none else if r.any (hitB sq e) then none else some (newP e) := by
      unfold refAt
      rw [List.getElem?_cons_zero]
      dsimp only
      by_cases h1 : e.seq ≤ sq
      · rw [if_pos h1, if_pos h1]
      · rw [if_neg h1, if_neg h1]
        rw [List.drop_succ_cons, List.drop_zero]
        have h2 : hitB sq e e = true := by unfold hitB; simp; omega
        rw [List.find?_cons, h2]
        rfl
    rw [e0, sinceL_cons]
    by_cases h1 : e.seq ≤ sq
    · rw [if_pos h1, if_pos h1]
      dsimp only
      have : (putP sq e) = id := by funext p; unfold putP; rw [if_neg (by omega)]; rfl
      rw [this, List.map_id]
    · have hput : (putP sq e) = updP e := by funext p; unfold putP; rw [if_pos (by omega)]
      rw [if_neg h1, if_neg h1, hput]
      have hany : r.any (hitB sq e) = (sinceL sq r).any (fun p => decide (p.id = e.id)) := by
        rw [Bool.eq_iff_iff]
        have := sinceL_id sq e.id r
        simp only [List.any_eq_true, hitB, Bool.and_eq_true, decide_eq_true_eq]
        exact this.symm
      rw [hany]
      by_cases hk : (sinceL sq r).any (fun p => decide (p.id = e.id)) = true
      · rw [if_pos hk, if_pos hk]
      · rw [if_neg hk, if_neg hk]
        have : (sinceL sq r).map (updP e) = sinceL sq r := updP_id _ _ (fun p hp h => hk (by simp only [List.any_eq_true, decide_eq_true_eq]; exact ⟨p, hp, h⟩))
        rw [this]

/-! ### A store of four cells into an own row -/
theorem cells_set : ∀ (xs : List Pa) (p : Nat) (y : Pa), p < xs.length → ((((cellsOf encP xs).set (p * 4) (.string y.id)).set (p * 4 + 1) (.bool y.was)).set (p * 4 + 2) (.bool y.isb)).set (p * 4 + 3) (.int .i64 y.last) = cellsOf encP (xs.set p y)
  | [], _, _, h => by simp at h
  | x :: xs, 0, y, _ => by simp [cellsOf, encP]
  | x :: xs, p + 1, y, h => by
    have ih := cells_set xs p y (by simpa using h)
    simp only [cellsOf, List.flatMap_cons, List.set_cons_succ] at ih ⊢
    rw [← ih]
    rw [show (p + 1) * 4 = p * 4 + 1 + 1 + 1 + 1 by omega]
    simp [encP]

theorem Own.stored4 {w : World} {base : Nat} {e : TypeId} {g n cap : Nat} {xs : List Pa} (h : Own w base e encP 4 (.slice (some ⟨g, 0, none⟩) n cap) xs) (hn : n = xs.length) (p : Nat) (hp : p < xs.length) (y : Pa) :
    Own ((((w.setCell ⟨g, p * 4, none⟩ (.string y.id)).setCell ⟨g, p * 4 + 1, none⟩ (.bool y.was)).setCell ⟨g, p * 4 + 2, none⟩ (.bool y.isb)).setCell ⟨g, p * 4 + 3, none⟩ (.int .i64 y.last)) base e encP 4 (.slice (some ⟨g, 0, none⟩) n cap) (xs.set p y) ∧
    w.grownBy ((((w.setCell ⟨g, p * 4, none⟩ (.string y.id)).setCell ⟨g, p * 4 + 1, none⟩ (.bool y.was)).setCell ⟨g, p * 4 + 2, none⟩ (.bool y.isb)).setCell ⟨g, p * 4 + 3, none⟩ (.int .i64 y.last)) (some g) := by
  subst hn
  unfold Own at h ⊢
  have h1 := World.ownsRow.stored h (p * 4) (.string y.id)
  have h2 := World.ownsRow.stored h1.1 (p * 4 + 1) (.bool y.was)
  have h3 := World.ownsRow.stored h2.1 (p * 4 + 2) (.bool y.isb)
  have h4 := World.ownsRow.stored h3.1 (p * 4 + 3) (.int .i64 y.last)
  rw [cells_set xs p y hp] at h4
  rw [List.length_set]
  exact ⟨h4.1, ((h1.2.trans h2.2).trans h3.2).trans h4.2⟩
end Go.Proofs.Ythgkgjcnmahacaa
end

section
/- trail.Since, said of entries. -/
set_option linter.unusedSimpArgs false
set_option linter.unusedVariables false
namespace Go.Proofs.Ythgkgjcnmahacaa
open Go.RowKit Go.OpenShut

theorem Rd.of_image {α β : Type} {enc : β → List Value} {g : α → β} {sz : Nat} {w : World} {B : Nat} {v : Value} {xs : List α} (h : Rd w B enc sz v (xs.map g)) : Rd w B (fun x => enc (g x)) sz v xs := by
  obtain ⟨p, cap, h1, h2, h3, h4, h5⟩ := h
  rw [List.length_map] at h1 h2
  refine ⟨p, cap, h1, h2, h3, h4, fun a ha h0 => ?_⟩
  obtain ⟨b, o, e1, e2, e3⟩ := h5 a ha (by rw [List.length_map]; exact h0)
  exact ⟨b, o, e1, e2, fun i x hx j u hu => e3 i (g x) (by rw [List.getElem?_map, hx]; rfl) j u hu⟩

theorem since_any (w : World) (v : Value) (l : List En) (sq : Int) (hv : RdE w w.heap.size v l) (hlen : l.length ≤ 4398046511104) :
    Calls Try.prog 58 #[v, .int .i64 sq] w fun e w' => ∃ ys, IsStable cfP (sinceL sq l) ys ∧ OwnRet w 99 encP 4 ys e w' := by
  obtain ⟨hok, hr⟩ := rdE_iff.1 hv
  obtain ⟨xs, hxs⟩ : ∃ xs : List OkE, xs.map (·.1) = l := ⟨l.attach.map fun e => ⟨e.1, hok e.1 e.2⟩, by rw [List.map_map]; exact List.attach_map_subtype_val l⟩
  have hr' : Rd w w.heap.size encO 3 v xs := by rw [← hxs] at hr; exact Rd.of_image (enc := encE) hr
  have hl : xs.length = l.length := by rw [← hxs]; simp
  refine (since_any0 w v xs hr' (by omega) sq).mono ?_
  rintro e w' ⟨u, ys, rfl, h1, h2, h3⟩
  refine ⟨ys, ?_, u, rfl, h2, h3⟩
  rw [List.map_reverse, hxs, stepAll_rev] at h1
  exact h1

end Go.Proofs.Ythgkgjcnmahacaa
end

section
/- store.Right: whether a box is right, walked. -/
set_option linter.unusedSimpArgs false
set_option linter.unusedVariables false
namespace Go.Proofs.Ythgkgjcnmahacaa
open Go.RowKit Go.OpenShut

/-- Is a box right? -/
def RightBx (b : BoxD) : Prop := Rising b.objs ∧ 0 ≤ b.keep ∧ b.keep ≤ 1000 ∧ (b.trail.length : Int) ≤ b.keep ∧ rightB b.trail b.floor b.seq = true ∧ ∀ p ∈ sinceL b.floor b.trail, isAt b.objs p.id = p.isb
def Asked (os : List (ByteArray × JV)) (ys : List Pa) (j : Nat) : Prop := ∀ (i : Nat) p, i < j → ys[i]? = some p → isAt os p.id = p.isb

set_option maxRecDepth 100000 in
set_option maxHeartbeats 4000000 in
theorem rightS_any (b : BoxD) (r : RB) (w : World) (hb : BoxOf w w.heap.size b r) (ob : b.Ok) :
    Calls Try.prog 20 #[r.val] w (Said w (RightBx b)) := by
  have ho := hb.objs
  have htr := hb.trail
  have hkp := hb.keep
  have hsq := hb.seq
  have hfl := hb.floor
  have hb0 := hb
  obtain ⟨po, no, co, pt, nt, ct, sq, fl, kp⟩ := r
  dsimp only [RB.val] at *
  obtain ⟨rms, hrd, hms⟩ := ho
  have hn := rd_nlen hrd
  have hlm := hms.len
  have hnt := htr.nlen
  have hzo := ob.objs
  have hzt := ob.trail
  have hA0 : BoxAt (w.alloc (.cells #[.slice po no co, .slice pt nt ct, .int .i64 sq, .int .i64 fl, .int .i64 kp] 35)) w.heap.size ⟨po, no, co, pt, nt, ct, sq, fl, kp⟩ := heap_alloc_at rfl
  have hB0 : Below w.heap.size w (w.alloc (.cells #[.slice po no co, .slice pt nt ct, .int .i64 sq, .int .i64 fl, .int .i64 kp] 35)) := (Below.refl _ _).alloc (Nat.le_refl _) _
  have HRD := Lib.hid hrd
  have HMS := Lib.hid hms
  have HTR := Lib.hid htr
  have HBX := Lib.hid hb0
  have HOB := Lib.hid ob
  have HN : Hid (b.objs.length = no ∧ rms.length = no ∧ b.trail.length = nt) := ⟨by omega, by omega, hnt⟩
  have HEQ : Hid (b.keep = kp ∧ b.seq = sq ∧ b.floor = fl) := ⟨hkp, hsq, hfl⟩
  have hno : no ≤ 1466015503658 := by omega
  have hnt2 : nt ≤ 4398046510976 := by omega
  clear hb hrd hms htr hn hlm hnt hzo hzt hkp hsq hfl hb0 ob
  go_enter Try.func20, Try.ntmps20
  go_upto_region 1 with fail
  obtain ⟨W0, hW0⟩ : ∃ W0, (w.alloc (.cells #[.slice po no co, .slice pt nt ct, .int .i64 sq, .int .i64 fl, .int .i64 kp] 35)) = W0 := ⟨_, rfl⟩
  rw [hW0] at hA0 hB0 ⊢
  clear hW0
  have HA := Lib.hid hA0
  have HB := Lib.hid hB0
  have hz := hA0.lt
  have c0 := hA0.cell 0 rfl
  dsimp only at c0
  clear hA0 hB0
  go_wp2_with fail
  go_loopw [3] (fun i wr => ∃ j : Nat, i = .int .i64 ((j : Int) + 1) ∧ (j + 1 ≤ no ∨ j = 0) ∧ RisingTo b.objs (j + 1) ∧ Below W0.heap.size W0 wr) (fun i _ => no + 1 - (intOf i).toNat)
  case atStart => exact ⟨0, rfl, .inr rfl, fun i p q h => by omega, Below.refl _ _⟩
  case round =>
    obtain ⟨j, rfl, hj, hri, hbr⟩ := hrel
    have c0 := bcs hbr hz c0
    by_cases hlt : j + 1 < no
    · obtain ⟨x, hx⟩ : ∃ x, rms[j]? = some x := ⟨_, List.getElem?_eq_getElem (by have := HN.out; omega)⟩
      obtain ⟨y, hy⟩ : ∃ x, rms[j + 1]? = some x := ⟨_, List.getElem?_eq_getElem (by have := HN.out; omega)⟩
      obtain ⟨p, hp⟩ : ∃ x, b.objs[j]? = some x := ⟨_, List.getElem?_eq_getElem (by have := HN.out; omega)⟩
      obtain ⟨q, hq⟩ : ∃ x, b.objs[j + 1]? = some x := ⟨_, List.getElem?_eq_getElem (by have := HN.out; omega)⟩
      have hpn := HMS.out.name _ p x hp hx
      have hqn := HMS.out.name _ q y hq hy
      have hbw : Below w.heap.size w wr := HB.out.trans (hbr.mono HB.out.size)
      obtain ⟨b1, o1, hpo, hb1, hc1⟩ := rd_at' (HRD.out.below hbw (Nat.le_refl _)) hx
      obtain ⟨b2, o2, hpo2, hb2, hc2⟩ := rd_at' (HRD.out.below hbw (Nat.le_refl _)) hy
      rw [hpo] at hpo2
      simp only [Option.some.injEq, Addr.mk.injEq, and_true] at hpo2
      obtain ⟨rfl, rfl⟩ := hpo2
      subst hpo
      have f0 := hc1 0 _ rfl
      have g0 := hc2 0 _ rfl
      rw [Nat.add_zero] at f0 g0
      have hless := less_cmp x.name y.name
      rw [← hpn, ← hqn] at hless
      have hj0 : (0 : Int) ≤ (j : Int) := Int.natCast_nonneg _
      have hj1 : (j : Int) < (no : Int) := by omega
      have hj2 : (0 : Int) ≤ (j : Int) + 1 := by omega
      have hj3 : (j : Int) + 1 < (no : Int) := by omega
      have htn : ((j : Int) + 1).toNat = j + 1 := by omega
      have hw1 : IntKind.i64.wrap ((j : Int) + 1) = (j : Int) + 1 := by rw [IntKind.wrap_i64]; omega
      have hw2 : (j : Int) + 1 - 1 = (j : Int) := by omega
      have hw3 : IntKind.i64.wrap ((j : Int) + 1 - 1) = (j : Int) := by rw [IntKind.wrap_i64]; omega
      have hd : decide ((j : Int) + 1 < (no : Int)) = true := by simpa using hj3
      have HBR := Lib.hid hbr
      rw [hpn, hqn] at hless
      by_cases hc : cmpN p.1 q.1 < 0
      · have HRI : RisingTo b.objs (j + 1 + 1) := by
          intro i p' q' hi hp' hq'
          by_cases e : i = j
          · subst e
            rw [hp] at hp'
            rw [hq] at hq'
            cases hp'; cases hq'
            exact hc
          · exact hri i p' q' (by omega) hp' hq'
        have hl : Op.bytesLess x.name.toList y.name.toList = true := by rw [hless, ← hpn, ← hqn]; simpa using hc
        clear hx hy hp hq hpn hqn hc1 hc2 hless hc hri hbr hbw hb2
        go_wp2_with fail
        go_quiet (fail)
        go_wp2_with fail
        go_roundw
        case rel => exact ⟨j + 1, by go_num, .inl (by omega), HRI, bdn HBR.out _⟩
        case measure => simp [intOf]; omega
      · have hl : Op.bytesLess x.name.toList y.name.toList = false := by rw [hless, ← hpn, ← hqn]; simpa using hc
        have HNO : Hid (¬ RightBx b) := fun h => Rising.no hp hq hc h.1
        clear hx hy hp hq hpn hqn hc1 hc2 hless hc hri hbw hb2
        go_wp2_with fail
        go_quiet (fail)
        go_wp2_with fail
        go_ret
        exact ⟨false, rfl, ⟨fun h => (by cases h), fun h => absurd h HNO.out⟩, bdn (HB.out.trans (HBR.out.mono HB.out.size)) _⟩
    · have hrs : Rising b.objs := by
        apply RisingTo.all
        intro i p q hi h1 h2
        exact hri i p q (by have := HN.out; omega) h1 h2
      have hd : decide ((j : Int) + 1 < (no : Int)) = false := by simp; omega
      have hd2 : ¬ ((j : Int) + 1 < (no : Int)) := by omega
      have hj2 : (0 : Int) ≤ (j : Int) + 1 := by omega
      have hA1 := HA.out.under hbr hz
      have hbw : Below w.heap.size w wr := HB.out.trans (hbr.mono HB.out.size)
      have HRS := Lib.hid hrs
      have HA1 := Lib.hid hA1
      have HBW := Lib.hid hbw
      clear hri hbr hA1 hbw hrs c0
      have c0 := HA1.out.cell 0 rfl
      have c1 := HA1.out.cell 1 rfl
      have c2 := HA1.out.cell 2 rfl
      have c3 := HA1.out.cell 3 rfl
      have c4 := HA1.out.cell 4 rfl
      dsimp only at c0 c1 c2 c3 c4
      obtain ⟨e1, e2, e3⟩ := HEQ.out
      by_cases h1 : kp < 0
      · have d1 : decide (kp < 0) = true := by simpa using h1
        have HNO : Hid (¬ RightBx b) := fun h => by have := h.2.1; omega
        clear e1 e2 e3 h1
        go_wp2_with fail
        go_ret
        exact ⟨false, rfl, ⟨fun h => (by cases h), fun h => absurd h HNO.out⟩, HBW.out⟩
      have d1 : decide (kp < 0) = false := by simpa using h1
      by_cases h2 : 1000 < kp
      · have d2 : decide (1000 < kp) = true := by simpa using h2
        have HNO : Hid (¬ RightBx b) := fun h => by have := h.2.2.1; omega
        clear e1 e2 e3 h1 h2
        go_wp2_with fail
        go_ret
        exact ⟨false, rfl, ⟨fun h => (by cases h), fun h => absurd h HNO.out⟩, HBW.out⟩
      have d2 : decide (1000 < kp) = false := by simpa using h2
      by_cases h3 : kp < (nt : Int)
      · have d3 : decide (kp < (nt : Int)) = true := by simpa using h3
        have HNO : Hid (¬ RightBx b) := fun h => by have := h.2.2.2.1; have := HN.out; omega
        clear e1 e2 e3 h1 h2 h3
        go_wp2_with fail
        go_ret
        exact ⟨false, rfl, ⟨fun h => (by cases h), fun h => absurd h HNO.out⟩, HBW.out⟩
      have d3 : decide (kp < (nt : Int)) = false := by simpa using h3
      have HK : Hid (0 ≤ b.keep ∧ b.keep ≤ 1000 ∧ (b.trail.length : Int) ≤ b.keep) := by have := HN.out; unfold Hid; omega
      have hR := right_any wr (.slice pt nt ct) b.trail fl sq (HTR.out.under HBW.out HBW.out.size) (by rw [← e3]; exact HOB.out.floor) (by rw [← e2]; exact HOB.out.seq)
      rw [← e3, ← e2] at hR
      cases hrt : rightB b.trail b.floor b.seq with
      | false =>
        rw [hrt] at hR
        rw [e3, e2] at hR
        have HR := Lib.hid hR
        have HNO : Hid (¬ RightBx b) := fun h => by have := h.2.2.2.2.1; rw [hrt] at this; cases this
        clear e1 e2 e3 h1 h2 h3 hR hrt
        go_wp2_with (go_at_call 57; refine HR.out.mono ?_; rintro e w1 ⟨rfl, hb1⟩)
        go_ret
        exact ⟨false, rfl, ⟨fun h => (by cases h), fun h => absurd h HNO.out⟩, HBW.out.trans (hb1.mono HBW.out.size)⟩
      | true =>
        rw [hrt] at hR
        rw [e3, e2] at hR
        have HR := Lib.hid hR
        have HRT := Lib.hid hrt
        have HS : Hid (∀ W, Below wr.heap.size wr W → Calls Try.prog 58 #[.slice pt nt ct, .int .i64 fl] W fun e w' => ∃ ys, IsStable cfP (sinceL b.floor b.trail) ys ∧ OwnRet W 99 encP 4 ys e w') := fun W hb => by
          rw [e3]
          exact since_any W _ b.trail fl (HTR.out.under (HBW.out.trans (hb.mono HBW.out.size)) (HBW.out.trans (hb.mono HBW.out.size)).size) (by have := HOB.out.trail; omega)
        have hzw : w.heap.size < wr.heap.size := by have := HA1.out.lt; exact this
        clear e1 e2 e3 h1 h2 h3 hR hrt
        go_upto_region 8 with (go_at_call 57; refine HR.out.mono ?_; rintro e w1 ⟨rfl, hb1⟩)
        have HA2 := Lib.hid (HA1.out.under hb1 hzw)
        have HB2 := Lib.hid (HBW.out.trans (hb1.mono HBW.out.size))
        have HB1 := Lib.hid hb1
        have hz1 := HA2.out.lt
        clear c0 c1 c2 c3 c4 hb1
        have c0 := HA2.out.cell 0 rfl
        have c1 := HA2.out.cell 1 rfl
        have c2 := HA2.out.cell 2 rfl
        have c3 := HA2.out.cell 3 rfl
        have c4 := HA2.out.cell 4 rfl
        dsimp only at c0 c1 c2 c3 c4
        go_wp2_with (go_at_call 58; refine (HS.out _ HB1.out).mono ?_; rintro e w2 ⟨ys, hys, u, rfl, hu, hb2⟩; obtain ⟨p2, cc2, hv2, hcl, hcc⟩ := hu.len; subst hv2; (have hyl : ys.length ≤ 9223372036854775807 := Nat.le_trans hcl hcc); go_frame)
        go_loopw [61] (fun i wr => ∃ j : Nat, j ≤ ys.length ∧ i = .int .i64 j ∧ Asked b.objs ys j ∧ Below w2.heap.size w2 wr) (fun i _ => ys.length - (intOf i).toNat)
        case atStart => exact ⟨0, Nat.zero_le _, rfl, fun i p h => by omega, Below.refl _ _⟩
        case round =>
          obtain ⟨j, hj, rfl, has, hbr⟩ := hrel
          have hb2w := hb2.size
          have HA3 := Lib.hid ((HA2.out.under hb2 hz1).under hbr (by omega))
          have HB3 := Lib.hid ((HB2.out.trans (hb2.mono HB2.out.size)).trans (hbr.mono (by have := HB2.out.size; omega)))
          by_cases hlt : j < ys.length
          · obtain ⟨⟨yid, ywas, yis, ylast⟩, hy⟩ : ∃ x, ys[j]? = some x := ⟨_, List.getElem?_eq_getElem hlt⟩
            obtain ⟨g, hpg, hnn, hgb, hgl, hcell, hfr⟩ := Own.at codecP (hu.below hbr (Nat.le_refl _)) hy
            subst hpg
            have f0 := hcell 0 _ rfl
            have f1 := hcell 1 _ rfl
            have f2 := hcell 2 _ rfl
            have f3 := hcell 3 _ rfl
            rw [Nat.add_zero] at f0
            dsimp only at f0 f1 f2 f3
            clear c0 c1 c2 c3 c4 hcell hfr hnn
            have hz3 := HA3.out.lt
            have c0 := HA3.out.cell 0 rfl
            have c1 := HA3.out.cell 1 rfl
            have c2 := HA3.out.cell 2 rfl
            have c3 := HA3.out.cell 3 rfl
            have c4 := HA3.out.cell 4 rfl
            dsimp only at c0 c1 c2 c3 c4
            have hk0 : (0 : Int) ≤ (j : Int) := Int.natCast_nonneg _
            have hk1 : (j : Int) < (ys.length : Int) := by omega
            have hA4 : Below w.heap.size w (wr.alloc (.cells #[.string yid, .bool ywas, .bool yis, .int .i64 ylast] 99)) := HB3.out.alloc HB3.out.size _
            have hP := placeO_any b ⟨po, no, co, pt, nt, ct, sq, fl, kp⟩ yid _ (HBX.out.under hA4 hA4.size) HRS.out HOB.out
            have HP4 : Hid ((wr.alloc (.cells #[.string yid, .bool ywas, .bool yis, .int .i64 ylast] 99)).heap[wr.heap.size]? = some (.cells #[.string yid, .bool ywas, .bool yis, .int .i64 ylast] 99 (0, 0))) := heap_alloc_at rfl
            have HBR : Hid (Below w2.heap.size w2 (wr.alloc (.cells #[.string yid, .bool ywas, .bool yis, .int .i64 ylast] 99))) := hbr.alloc hbr.size _
            have HA4 := Lib.hid hA4
            by_cases hia : isAt b.objs yid = yis
            · have HAS : Asked b.objs ys (j + 1) := by
                intro i p hi hp
                by_cases e : i = j
                · subst e
                  rw [hy] at hp
                  cases hp
                  exact hia
                · exact has i p (by omega) hp
              rw [hia] at hP
              have HP := Lib.hid hP
              clear hP hy hA4 has hbr hia
              cases yis
              all_goals
                go_upto_region 12 with (go_at_call 59; refine HP.out.mono ?_; rintro e w4 ⟨rfl, hb4⟩)
                have k2 := World.cell?_of_block (w := wr.alloc _) (w' := w4) (a := ⟨wr.heap.size, 2, none⟩) (hb4.block wr.heap.size (by simp))
                rw [cell_of_row _ _ 2 _ _ _ HP4.out] at k2
                simp at k2
                go_wp2_with fail
                go_roundw
                case rel => exact ⟨j + 1, by omega, by go_num, HAS, HBR.out.trans (hb4.mono HBR.out.size)⟩
                case measure => simp [intOf]; omega
            · have HNO : Hid (¬ RightBx b) := fun h => hia (h.2.2.2.2.2 _ (hys.perm.mem_iff.1 (List.mem_of_getElem? hy)))
              obtain ⟨ia, hib⟩ : ∃ ia, isAt b.objs yid = ia := ⟨_, rfl⟩
              rw [hib] at hP hia
              have HP := Lib.hid hP
              clear hP hy hA4 has hbr hib
              cases ia <;> cases yis
              all_goals try exact absurd rfl hia
              all_goals
                clear hia
                go_upto_region 12 with (go_at_call 59; refine HP.out.mono ?_; rintro e w4 ⟨rfl, hb4⟩)
                have k2 := World.cell?_of_block (w := wr.alloc _) (w' := w4) (a := ⟨wr.heap.size, 2, none⟩) (hb4.block wr.heap.size (by simp))
                rw [cell_of_row _ _ 2 _ _ _ HP4.out] at k2
                simp at k2
                go_wp2_with fail
                go_ret
                exact ⟨false, rfl, ⟨fun h => (by cases h), fun h => absurd h HNO.out⟩, HA4.out.trans (hb4.mono HA4.out.size)⟩
          · obtain rfl : j = ys.length := by omega
            have HYES : Hid (RightBx b) := ⟨HRS.out, HK.out.1, HK.out.2.1, HK.out.2.2, HRT.out, fun p hp => by
              obtain ⟨i, hi⟩ := List.getElem?_of_mem (hys.perm.mem_iff.2 hp)
              exact has i p (List.getElem?_eq_some_iff.1 hi).1 hi⟩
            go_wp2_with fail
            go_ret
            exact ⟨true, rfl, ⟨fun _ => HYES.out, fun _ => rfl⟩, HB3.out⟩
end Go.Proofs.Ythgkgjcnmahacaa
end

section
/- The law's two members, in either order. -/
set_option linter.unusedSimpArgs false
set_option linter.unusedVariables false
namespace Go.Proofs.Ythgkgjcnmahacaa
open Go.RowKit Go.OpenShut

def numT (n : Int) : JV := .mk 3 n ⟨#[]⟩ [] []
def numR (n : Int) : RV := ⟨3, n, ⟨#[]⟩, none, 0, 0, none, 0, 0⟩
theorem numT_of (w : World) (B : Nat) (n : Int) : TreeOf w B (numT n) (numR n) :=
  TreeOf.mk (r := numR n) (rs := []) (rms := []) (Rd.nil _ _) rfl (fun i t q h => by simp at h) (Rd.nil _ _) rfl (fun i p q h => by simp at h) (fun i p q h => by simp at h)

/-- What the map of the two names holds. -/
def twoF (s : List UInt8) : Option Value := if s = [98] then some (.int .i64 1) else if s = [97] then some (.int .i64 2) else none

set_option maxRecDepth 100000 in
set_option maxHeartbeats 2000000 in
theorem two_any (a b : ByteArray) (na nb : Int) (w : World) (ha : twoF a.data.toList = some (.int .i64 na)) (hb : twoF b.data.toList = some (.int .i64 nb)) (hsa : a.size ≤ maxLen) (hsb : b.size ≤ maxLen) :
    Calls Try.prog 50 #[.string a, .string b] w (MapRet w 0 [(a, numT na), (b, numT nb)]) := by
  have hM0 : MapF ((w.alloc (.cells #[.int .i64 0, .int .i64 0, .string ⟨#[]⟩, .slice none 0 0, .slice none 0 0] 25)).alloc (.map #[] 0)) Try.prog 9 (w.heap.size + 1) 0 (fun _ => none) := by
    have := MapF.made (w.alloc (.cells #[.int .i64 0, .int .i64 0, .string ⟨#[]⟩, .slice none 0 0, .slice none 0 0] 25)) Try.prog 9
    rwa [show (w.alloc (.cells #[.int .i64 0, .int .i64 0, .string ⟨#[]⟩, .slice none 0 0, .slice none 0 0] 25)).heap.size = w.heap.size + 1 by simp] at this
  obtain ⟨w1, hrun1, hM1, hG1⟩ := MapF.store hM0 Try.underlying9 Try.underlying130 (by decide) (s := ⟨#[97]⟩) (by decide) (.int .i64 2)
  obtain ⟨w2, hrun2, hM2, hG2⟩ := MapF.store hM1 Try.underlying9 Try.underlying130 (by decide) (s := ⟨#[98]⟩) (by decide) (.int .i64 1)
  have HM2 : Hid (MapF w2 Try.prog 9 (w.heap.size + 1) 2 twoF) := hM2
  have HG1 := Lib.hid hG1
  have HG2 := Lib.hid hG2
  have HA := Lib.hid ha
  have HB := Lib.hid hb
  have HSA := Lib.hid hsa
  have HSB := Lib.hid hsb
  clear hM0 hM1 hM2 hG1 hG2 ha hb hsa hsb
  go_enter Try.func50, Try.ntmps50
  have hmm := @run_makeMap Try.prog
  go_upto_region 2 with fail
  clear hmm hrun1 hrun2
  have hZ0 : VAt w2 w.heap.size RV.zero := by
    have h0 : VAt ((w.alloc (.cells #[.int .i64 0, .int .i64 0, .string ⟨#[]⟩, .slice none 0 0, .slice none 0 0] 25)).alloc (.map #[] 0)) w.heap.size RV.zero := heap_alloc_lt (by simp) (heap_alloc_at rfl)
    have s1 := HG1.out.size
    simp at s1
    exact (HG2.out.block _ (by omega) (fun e => by simp at e)).trans ((HG1.out.block _ (by simp; omega) (fun e => by simp at e)).trans h0)
  have hB2 : Below w.heap.size w w2 := (((((Below.refl _ _).alloc (Nat.le_refl _) (.cells #[.int .i64 0, .int .i64 0, .string ⟨#[]⟩, .slice none 0 0, .slice none 0 0] 25)).alloc (by simp) (.map #[] 0)).grown HG1.out (by simp; omega) (fun k e => by simp at e; omega)).grown HG2.out (by have := HG1.out.size; simp at this; omega) (fun k e => by simp at e; omega))
  have hsz : w.heap.size < w2.heap.size := hZ0.lt
  have z0 := hZ0.cell 0 rfl
  have z1 := hZ0.cell 1 rfl
  have z2 := hZ0.cell 2 rfl
  have z3 := hZ0.cell 3 rfl
  have z4 := hZ0.cell 4 rfl
  dsimp only [RV.zero] at z0 z1 z2 z3 z4
  have y0 := hZ0.frozen 0
  have y1 := hZ0.frozen 1
  have y2 := hZ0.frozen 2
  have y3 := hZ0.frozen 3
  have y4 := hZ0.frozen 4
  have HB2 := Lib.hid hB2
  have HZ0 := Lib.hid hZ0
  clear hZ0 hB2
  go_wp2_with (first
    | (at_lookup; refine wpList_look_F _ rfl _ _ _ rfl 9 2 Try.underlying9 Try.underlying130 (Try.zeroValue2 _) _ _ twoF rfl HM2.out a rfl HSA.out (v := .int .i64 na) (by rw [HA.out]; rfl) ?_; go_frame)
    | (at_lookup; refine wpList_look_F _ rfl _ _ _ rfl 9 2 Try.underlying9 Try.underlying130 (Try.zeroValue2 _) _ _ twoF rfl HM2.out b rfl HSB.out (v := .int .i64 nb) (by rw [HB.out]; rfl) ?_; go_frame))
  obtain ⟨q, hq⟩ : ∃ q : RV, q = ⟨6, 0, ⟨#[]⟩, none, 0, 0, some ⟨w2.heap.size, 0, none⟩, 2, 2⟩ := ⟨_, rfl⟩
  have hst := HZ0.out.stored ⟨6, 0, ⟨#[]⟩, none, 0, 0, some ⟨w2.heap.size, 0, none⟩, 2, 2⟩
  have hbs := Below.stored HB2.out (Nat.le_refl _) ⟨6, 0, ⟨#[]⟩, none, 0, 0, some ⟨w2.heap.size, 0, none⟩, 2, 2⟩
  have hz5 : (((((w2.setCell ⟨w.heap.size, 0, none⟩ (.int .i64 6)).setCell ⟨w.heap.size, 1, none⟩ (.int .i64 0)).setCell ⟨w.heap.size, 2, none⟩ (.string ⟨#[]⟩)).setCell ⟨w.heap.size, 3, none⟩ (.slice none 0 0)).setCell ⟨w.heap.size, 4, none⟩ (.slice (some ⟨w2.heap.size, 0, none⟩) 2 2)).heap.size = w2.heap.size := by simp
  obtain ⟨W5, hW5⟩ : ∃ W5, ((((w2.setCell ⟨w.heap.size, 0, none⟩ (.int .i64 6)).setCell ⟨w.heap.size, 1, none⟩ (.int .i64 0)).setCell ⟨w.heap.size, 2, none⟩ (.string ⟨#[]⟩)).setCell ⟨w.heap.size, 3, none⟩ (.slice none 0 0)).setCell ⟨w.heap.size, 4, none⟩ (.slice (some ⟨w2.heap.size, 0, none⟩) 2 2) = W5 := ⟨_, rfl⟩
  dsimp only at hst hbs
  rw [hW5] at hst hbs hz5 ⊢
  clear hW5
  have hal := heap_alloc_lt (o := .cells #[.string a, .int .i64 3, .int .i64 na, .string ⟨#[]⟩, .slice none 0 0, .slice none 0 0, .string b, .int .i64 3, .int .i64 nb, .string ⟨#[]⟩, .slice none 0 0, .slice none 0 0] 90) hst.lt hst
  have hal2 : VAt (W5.alloc (.cells #[.string a, .int .i64 3, .int .i64 na, .string ⟨#[]⟩, .slice none 0 0, .slice none 0 0, .string b, .int .i64 3, .int .i64 nb, .string ⟨#[]⟩, .slice none 0 0, .slice none 0 0] 90)) w.heap.size ⟨6, 0, ⟨#[]⟩, none, 0, 0, some ⟨w2.heap.size, 0, none⟩, 2, 2⟩ := hal
  have c0 := hal2.cell 0 rfl
  have c1 := hal2.cell 1 rfl
  have c2 := hal2.cell 2 rfl
  have c3 := hal2.cell 3 rfl
  have c4 := hal2.cell 4 rfl
  dsimp only at c0 c1 c2 c3 c4
  refine bodyPost_ret (v := RV.val ⟨6, 0, ⟨#[]⟩, none, 0, 0, some ⟨w2.heap.size, 0, none⟩, 2, 2⟩) (by simp [results, Try.results50, go_sem, c0, c1, c2, c3, c4]) rfl ⟨some ⟨w2.heap.size, 0, none⟩, 2, 2, [⟨a, numR na⟩, ⟨b, numR nb⟩], rfl, ?_, ⟨rfl, ?_, ?_⟩, hbs.alloc (by omega) _⟩
  · exact Own.block codecM (heap_alloc_at hz5.symm) rfl rfl (by omega) (by simp [maxLen])
  · intro i p q h1 h2
    match i with
    | 0 => cases h1; cases h2; rfl
    | 1 => cases h1; cases h2; rfl
    | i + 2 => simp at h1
  · intro i p q h1 h2
    match i with
    | 0 => cases h1; cases h2; exact numT_of _ _ _
    | 1 => cases h1; cases h2; exact numT_of _ _ _
    | i + 2 => simp at h1
end Go.Proofs.Ythgkgjcnmahacaa
end

section
/- Trees that lie in the call's own memory, each part by itself. -/
set_option linter.unusedSimpArgs false
set_option linter.unusedVariables false
namespace Go.Proofs.Ythgkgjcnmahacaa
open Go.RowKit Go.OpenShut

section
variable {α : Type} {e : TypeId} {enc : α → List Value} {sz : Nat}
theorem Own.same {w w' : World} {base : Nat} {v : Value} {xs : List α} (h : Own w base e enc sz v xs) (hk : ∀ k, v.ownBlock = some k → w'.heap[k]? = w.heap[k]?) : Own w' base e enc sz v xs := by
  obtain ⟨hl, h⟩ := h
  refine ⟨hl, ?_⟩
  rcases h with h | ⟨g, cap, cur, rfl, hg, hh, r⟩
  · exact .inl h
  · exact .inr ⟨g, cap, cur, rfl, hg, (hk g rfl).trans hh, r⟩
end

/-- A whole value stored into a list of the call's own. -/
theorem Own.storedL {w : World} {base : Nat} {g n cap : Nat} {xs : List RV} (h : Own w base 25 encV 5 (.slice (some ⟨g, 0, none⟩) n cap) xs) {k : Nat} {x : RV} (hx : xs[k]? = some x) (q : RV) :
    Own (((((w.setCell ⟨g, k * 5, none⟩ (.int .i64 q.k)).setCell ⟨g, k * 5 + 1, none⟩ (.int .i64 q.n)).setCell ⟨g, k * 5 + 2, none⟩ (.string q.s)).setCell ⟨g, k * 5 + 3, none⟩ (.slice q.pl q.nl q.cl)).setCell ⟨g, k * 5 + 4, none⟩ (.slice q.pm q.nm q.cm)) base 25 encV 5 (.slice (some ⟨g, 0, none⟩) n cap) (xs.set k q) ∧
    w.grownBy (((((w.setCell ⟨g, k * 5, none⟩ (.int .i64 q.k)).setCell ⟨g, k * 5 + 1, none⟩ (.int .i64 q.n)).setCell ⟨g, k * 5 + 2, none⟩ (.string q.s)).setCell ⟨g, k * 5 + 3, none⟩ (.slice q.pl q.nl q.cl)).setCell ⟨g, k * 5 + 4, none⟩ (.slice q.pm q.nm q.cm)) (some g) := by
  have hk := (List.getElem?_eq_some_iff.1 hx).1
  have gs : ∀ (ys : List RV) (y : RV), k < ys.length → (ys.set k y)[k]? = some y := fun ys y hy => by simp [List.getElem?_set, hy]
  have s1 := Own.storedAt codecV h (j := 0) (y := { x with k := q.k }) (u := .int .i64 q.k) hx (by decide) rfl
  have s2 := Own.storedAt codecV s1.1 (j := 1) (y := { x with k := q.k, n := q.n }) (u := .int .i64 q.n) (gs _ _ hk) (by decide) rfl
  have s3 := Own.storedAt codecV s2.1 (j := 2) (y := { x with k := q.k, n := q.n, s := q.s }) (u := .string q.s) (gs _ _ (by simpa using hk)) (by decide) rfl
  have s4 := Own.storedAt codecV s3.1 (j := 3) (y := { x with k := q.k, n := q.n, s := q.s, pl := q.pl, nl := q.nl, cl := q.cl }) (u := .slice q.pl q.nl q.cl) (gs _ _ (by simpa using hk)) (by decide) rfl
  have s5 := Own.storedAt codecV s4.1 (j := 4) (y := q) (u := .slice q.pm q.nm q.cm) (gs _ _ (by simpa using hk)) (by decide) rfl
  simp only [List.set_set, Nat.add_zero] at s5 s4 s3 s2 s1
  exact ⟨s5.1, (((s1.2.trans s2.2).trans s3.2).trans s4.2).trans s5.2⟩

/-- The cells r read as the tree t; its lists are the call's own, each in a block of its own; all blocks are among S. -/
inductive LoneV (w : World) : (Nat → Prop) → JV → RV → Prop
  | mk {S : Nat → Prop} {r : RV} {l : List JV} {m : List (ByteArray × JV)} {rs : List RV} {rms : List RM} (F : Nat ⊕ Nat → Nat → Prop)
      (hl : Own w 0 25 encV 5 (.slice r.pl r.nl r.cl) rs) (hm : Own w 0 90 encM 6 (.slice r.pm r.nm r.cm) rms)
      (sl : ∀ k, (Value.slice r.pl r.nl r.cl).ownBlock = some k → S k) (sm : ∀ k, (Value.slice r.pm r.nm r.cm).ownBlock = some k → S k)
      (dr : ∀ k, (Value.slice r.pl r.nl r.cl).ownBlock = some k → (Value.slice r.pm r.nm r.cm).ownBlock ≠ some k)
      (el : l.length = rs.length) (em : m.length = rms.length)
      (cn : ∀ (i : Nat) (p : ByteArray × JV) (q : RM), m[i]? = some p → rms[i]? = some q → p.1 = q.name)
      (cl : ∀ (i : Nat) (t : JV) (q : RV), l[i]? = some t → rs[i]? = some q → LoneV w (F (.inl i)) t q)
      (cm : ∀ (i : Nat) (p : ByteArray × JV) (q : RM), m[i]? = some p → rms[i]? = some q → LoneV w (F (.inr i)) p.2 q.v)
      (ff : ∀ a k, F a k → S k ∧ (Value.slice r.pl r.nl r.cl).ownBlock ≠ some k ∧ (Value.slice r.pm r.nm r.cm).ownBlock ≠ some k)
      (dd : ∀ a b k, F a k → F b k → a = b) : LoneV w S (.mk r.k r.n r.s l m) r

theorem LoneV.same {w w' : World} {S : Nat → Prop} {t : JV} {r : RV} (h : LoneV w S t r) (hk : ∀ k, S k → w'.heap[k]? = w.heap[k]?) : LoneV w' S t r := by
  induction h with
  | mk F hl hm sl sm dr el em cn cl cm ff dd ih1 ih2 =>
    exact .mk F (hl.same fun k e => hk k (sl k e)) (hm.same fun k e => hk k (sm k e)) sl sm dr el em cn
      (fun i t q h1 h2 => ih1 i t q h1 h2 fun k hf => hk k (ff _ k hf).1) (fun i p q h1 h2 => ih2 i p q h1 h2 fun k hf => hk k (ff _ k hf).1) ff dd
theorem LoneV.mono {w : World} {S S' : Nat → Prop} {t : JV} {r : RV} (h : LoneV w S t r) (hs : ∀ k, S k → S' k) : LoneV w S' t r := by
  cases h with
  | mk F hl hm sl sm dr el em cn cl cm ff dd =>
    exact .mk F hl hm (fun k e => hs k (sl k e)) (fun k e => hs k (sm k e)) dr el em cn cl cm (fun a k hf => ⟨hs k (ff a k hf).1, (ff a k hf).2⟩) dd
theorem LoneV.under {w w' : World} {S : Nat → Prop} {B : Nat} {t : JV} {r : RV} (h : LoneV w S t r) (hb : Below B w w') (hs : ∀ k, S k → k < B) : LoneV w' S t r := h.same fun k hk => hb.block k (hs k hk)
theorem LoneV.tree {w : World} {S : Nat → Prop} {t : JV} {r : RV} (h : LoneV w S t r) : TreeOf w w.heap.size t r := by
  induction h with
  | mk F hl hm sl sm dr el em cn cl cm ff dd ih1 ih2 => exact .mk (hl.rd codecV) el ih1 (hm.rd codecM) em cn ih2
/-- Blocks that are new behind the call. -/
def Fresh (w w' : World) (k : Nat) : Prop := w.heap.size ≤ k ∧ k < w'.heap.size

/-- A value in a box, its lists the call's own, its parts in blocks of their own. -/
structure Parts (W : World) (b0 g : Nat) (D : Nat ⊕ Nat → Prop) (l : List JV) (m : List (ByteArray × JV)) (ds : List RV) (dms : List RM) (r : RV) (F : Nat ⊕ Nat → Nat → Prop) : Prop where
  box : VAt W g r
  ownL : Own W b0 25 encV 5 (.slice r.pl r.nl r.cl) ds
  ownM : Own W b0 90 encM 6 (.slice r.pm r.nm r.cm) dms
  bL : ∀ k, (Value.slice r.pl r.nl r.cl).ownBlock = some k → k ≠ g
  bM : ∀ k, (Value.slice r.pm r.nm r.cm).ownBlock = some k → k ≠ g
  dr : ∀ k, (Value.slice r.pl r.nl r.cl).ownBlock = some k → (Value.slice r.pm r.nm r.cm).ownBlock ≠ some k
  los : b0 ≤ W.heap.size
  el : l.length = ds.length
  em : m.length = dms.length
  cn : ∀ (i : Nat) (p : ByteArray × JV) (q : RM), m[i]? = some p → dms[i]? = some q → p.1 = q.name
  cl : ∀ (i : Nat) (t : JV) (q : RV), D (.inl i) → l[i]? = some t → ds[i]? = some q → LoneV W (F (.inl i)) t q
  cm : ∀ (i : Nat) (p : ByteArray × JV) (q : RM), D (.inr i) → m[i]? = some p → dms[i]? = some q → LoneV W (F (.inr i)) p.2 q.v
  ff : ∀ a k, F a k → (b0 ≤ k ∧ k < W.heap.size) ∧ k ≠ g ∧ (Value.slice r.pl r.nl r.cl).ownBlock ≠ some k ∧ (Value.slice r.pm r.nm r.cm).ownBlock ≠ some k
  dd : ∀ a b k, F a k → F b k → a = b

theorem Parts.drewN {W : World} {b0 g : Nat} {D : Nat ⊕ Nat → Prop} {l : List JV} {m : List (ByteArray × JV)} {ds : List RV} {dms : List RM} {r : RV} {F : Nat ⊕ Nat → Nat → Prop} (h : Parts W b0 g D l m ds dms r F) (n : Nat) : Parts (W.drewN n) b0 g D l m ds dms r F :=
  ⟨h.box, h.ownL, h.ownM, h.bL, h.bM, h.dr, h.los, h.el, h.em, h.cn, fun i t q h1 h2 h3 => (h.cl i t q h1 h2 h3).same fun _ _ => rfl, fun i t q h1 h2 h3 => (h.cm i t q h1 h2 h3).same fun _ _ => rfl, h.ff, h.dd⟩

/-- Behind a call that changed nothing. -/
theorem Parts.below {W W' : World} {b0 g : Nat} {D : Nat ⊕ Nat → Prop} {l : List JV} {m : List (ByteArray × JV)} {ds : List RV} {dms : List RM} {r : RV} {F : Nat ⊕ Nat → Nat → Prop} (h : Parts W b0 g D l m ds dms r F) (hb : Below W.heap.size W W') : Parts W' b0 g D l m ds dms r F :=
  have hs := hb.size
  ⟨h.box.under hb h.box.lt, h.ownL.below hb (Nat.le_refl _), h.ownM.below hb (Nat.le_refl _), h.bL, h.bM, h.dr, Nat.le_trans h.los hs, h.el, h.em, h.cn, fun i t q h1 h2 h3 => (h.cl i t q h1 h2 h3).under hb fun k hk => (h.ff _ k hk).1.2, fun i t q h1 h2 h3 => (h.cm i t q h1 h2 h3).under hb fun k hk => (h.ff _ k hk).1.2, fun a k hk => ⟨⟨(h.ff a k hk).1.1, Nat.lt_of_lt_of_le (h.ff a k hk).1.2 hs⟩, (h.ff a k hk).2⟩, h.dd⟩

theorem get_set_ne {α : Type} (l : List α) {i j : Nat} (x : α) (h : i ≠ j) : (l.set j x)[i]? = l[i]? := by rw [List.getElem?_set_ne (fun e => h e.symm)]

/-- The tree of a part, new, laid into the list of values. -/
theorem Parts.setL {W W1 W2 : World} {b0 g : Nat} {D : Nat ⊕ Nat → Prop} {l : List JV} {m : List (ByteArray × JV)} {ds : List RV} {dms : List RM} {r : RV} {F : Nat ⊕ Nat → Nat → Prop} (h : Parts W b0 g D l m ds dms r F) (hb : Below W.heap.size W W1) {u : JV} {q : RV} (hu : LoneV W1 (Fresh W W1) u q) {j g2 : Nat}
    (hg2 : (Value.slice r.pl r.nl r.cl).ownBlock = some g2) (ho : Own W2 b0 25 encV 5 (.slice r.pl r.nl r.cl) (ds.set j q)) (hg : W1.grownBy W2 (some g2)) (hj : j < ds.length) :
    Parts W2 b0 g (fun a => D a ∨ a = .inl j) (l.set j u) m (ds.set j q) dms r (fun a k => if a = .inl j then Fresh W W1 k else F a k) := by
  have h1 := h.below hb
  have hs := hg.size
  have hbs := hb.size
  have h4 := h.bL g2 hg2
  have h5 := (h.ownL.lt g2 hg2).2
  have h6 := h.box.lt
  have h7 := h.ownL.lt
  have h8 := h.ownM.lt
  have h9 := h.los
  have hsame : ∀ k, k ≠ g2 → k < W1.heap.size → W2.heap[k]? = W1.heap[k]? := fun k hk hk1 => hg.block k hk1 (fun e => hk (by cases e; rfl))
  have hF : ∀ a k, F a k → W2.heap[k]? = W1.heap[k]? := fun a k hk => hsame k (fun e => (h.ff a k hk).2.2.1 (by rw [hg2, e])) (h1.ff a k hk).1.2
  have hQ : ∀ k, Fresh W W1 k → W2.heap[k]? = W1.heap[k]? := fun k hk => hsame k (fun e => by have := hk.1; omega) hk.2
  refine ⟨(hsame g (fun e => h4 e.symm) h1.box.lt).trans h1.box, ho, h1.ownM.same fun k e => hsame k (fun e' => h.dr g2 hg2 (by rw [← e', e])) (h1.ownM.lt k e).2, h.bL, h.bM, h.dr, Nat.le_trans h1.los hs, by rw [List.length_set, List.length_set]; exact h.el, h.em, h.cn, ?_, ?_, ?_, ?_⟩
  · intro i t x hd ht hx
    by_cases hij : i = j
    · subst hij
      rw [List.getElem?_set_self (by rw [h.el]; exact hj)] at ht
      rw [List.getElem?_set_self hj] at hx
      cases ht; cases hx
      simp only [if_true]
      exact hu.same hQ
    · rw [get_set_ne _ _ hij] at ht hx
      have hne : (Sum.inl i : Nat ⊕ Nat) ≠ .inl j := fun e => hij (Sum.inl.inj e)
      simp only [if_neg hne]
      exact (h1.cl i t x (hd.resolve_right hne) ht hx).same (hF _)
  · intro i p x hd ht hx
    have hne : (Sum.inr i : Nat ⊕ Nat) ≠ .inl j := fun e => by cases e
    simp only [if_neg hne]
    exact (h1.cm i p x (hd.resolve_right hne) ht hx).same (hF _)
  · intro a k hk
    split at hk
    · exact ⟨⟨Nat.le_trans h.los hk.1, Nat.lt_of_lt_of_le hk.2 hs⟩, fun e => by have := hk.1; omega, fun e => by have := hk.1; have := (h7 k e).2; omega, fun e => by have := hk.1; have := (h8 k e).2; omega⟩
    · exact ⟨⟨(h1.ff a k hk).1.1, Nat.lt_of_lt_of_le (h1.ff a k hk).1.2 hs⟩, (h1.ff a k hk).2⟩
  · intro a b k ha hb'
    split at ha <;> split at hb'
    · rename_i e1 e2; rw [e1, e2]
    · exact absurd (h.ff b k hb').1.2 (by have := ha.1; omega)
    · exact absurd (h.ff a k ha).1.2 (by have := hb'.1; omega)
    · exact h.dd a b k ha hb'

/-- The tree of a part, new, laid into the list of members. -/
theorem Parts.setM {W W1 W2 : World} {b0 g : Nat} {D : Nat ⊕ Nat → Prop} {l : List JV} {m : List (ByteArray × JV)} {ds : List RV} {dms : List RM} {r : RV} {F : Nat ⊕ Nat → Nat → Prop} (h : Parts W b0 g D l m ds dms r F) (hb : Below W.heap.size W W1) {u : JV} {q : RV} (hu : LoneV W1 (Fresh W W1) u q) {j g2 : Nat} {p : ByteArray × JV} {x : RM}
    (hg2 : (Value.slice r.pm r.nm r.cm).ownBlock = some g2) (hp : m[j]? = some p) (hx : dms[j]? = some x) (ho : Own W2 b0 90 encM 6 (.slice r.pm r.nm r.cm) (dms.set j ⟨x.name, q⟩)) (hg : W1.grownBy W2 (some g2)) :
    Parts W2 b0 g (fun a => D a ∨ a = .inr j) l (m.set j (p.1, u)) ds (dms.set j ⟨x.name, q⟩) r (fun a k => if a = .inr j then Fresh W W1 k else F a k) := by
  have h1 := h.below hb
  have hs := hg.size
  have hbs := hb.size
  have hj : j < dms.length := (List.getElem?_eq_some_iff.1 hx).1
  have h4 := h.bM g2 hg2
  have h5 := (h.ownM.lt g2 hg2).2
  have h6 := h.box.lt
  have h7 := h.ownL.lt
  have h8 := h.ownM.lt
  have h9 := h.los
  have hsame : ∀ k, k ≠ g2 → k < W1.heap.size → W2.heap[k]? = W1.heap[k]? := fun k hk hk1 => hg.block k hk1 (fun e => hk (by cases e; rfl))
  have hF : ∀ a k, F a k → W2.heap[k]? = W1.heap[k]? := fun a k hk => hsame k (fun e => (h.ff a k hk).2.2.2 (by rw [hg2, e])) (h1.ff a k hk).1.2
  have hQ : ∀ k, Fresh W W1 k → W2.heap[k]? = W1.heap[k]? := fun k hk => hsame k (fun e => by have := hk.1; omega) hk.2
  refine ⟨(hsame g (fun e => h4 e.symm) h1.box.lt).trans h1.box, h1.ownL.same fun k e => hsame k (fun e' => h.dr k e (by rw [e', hg2])) (h1.ownL.lt k e).2, ho, h.bL, h.bM, h.dr, Nat.le_trans h1.los hs, h.el, by rw [List.length_set, List.length_set]; exact h.em, ?_, ?_, ?_, ?_, ?_⟩
  · intro i p' x' ht hx'
    by_cases hij : i = j
    · subst hij
      rw [List.getElem?_set_self (by rw [h.em]; exact hj)] at ht
      rw [List.getElem?_set_self hj] at hx'
      cases ht; cases hx'
      exact h.cn i p x hp hx
    · rw [get_set_ne _ _ hij] at ht hx'
      exact h.cn i p' x' ht hx'
  · intro i t x' hd ht hx'
    have hne : (Sum.inl i : Nat ⊕ Nat) ≠ .inr j := fun e => by cases e
    simp only [if_neg hne]
    exact (h1.cl i t x' (hd.resolve_right hne) ht hx').same (hF _)
  · intro i p' x' hd ht hx'
    by_cases hij : i = j
    · subst hij
      rw [List.getElem?_set_self (by rw [h.em]; exact hj)] at ht
      rw [List.getElem?_set_self hj] at hx'
      cases ht; cases hx'
      simp only [if_true]
      exact hu.same hQ
    · rw [get_set_ne _ _ hij] at ht hx'
      have hne : (Sum.inr i : Nat ⊕ Nat) ≠ .inr j := fun e => hij (Sum.inr.inj e)
      simp only [if_neg hne]
      exact (h1.cm i p' x' (hd.resolve_right hne) ht hx').same (hF _)
  · intro a k hk
    split at hk
    · exact ⟨⟨Nat.le_trans h.los hk.1, Nat.lt_of_lt_of_le hk.2 hs⟩, fun e => by have := hk.1; omega, fun e => by have := hk.1; have := (h7 k e).2; omega, fun e => by have := hk.1; have := (h8 k e).2; omega⟩
    · exact ⟨⟨(h1.ff a k hk).1.1, Nat.lt_of_lt_of_le (h1.ff a k hk).1.2 hs⟩, (h1.ff a k hk).2⟩
  · intro a b k ha hb'
    split at ha <;> split at hb'
    · rename_i e1 e2; rw [e1, e2]
    · exact absurd (h.ff b k hb').1.2 (by have := ha.1; omega)
    · exact absurd (h.ff a k ha).1.2 (by have := hb'.1; omega)
    · exact h.dd a b k ha hb'

/-- A value all of whose parts are the call's own. -/
theorem Parts.whole {W : World} {b0 g : Nat} {D : Nat ⊕ Nat → Prop} {l : List JV} {m : List (ByteArray × JV)} {ds : List RV} {dms : List RM} {r : RV} {F : Nat ⊕ Nat → Nat → Prop} (h : Parts W b0 g D l m ds dms r F) (hD : ∀ i, (i < l.length → D (.inl i)) ∧ (i < m.length → D (.inr i))) : LoneV W (fun k => b0 ≤ k ∧ k < W.heap.size) (.mk r.k r.n r.s l m) r :=
  .mk F (h.ownL.mono (Nat.zero_le _)) (h.ownM.mono (Nat.zero_le _)) (fun k e => h.ownL.lt k e) (fun k e => h.ownM.lt k e) h.dr h.el h.em h.cn
    (fun i t q h1 h2 => h.cl i t q ((hD i).1 (List.getElem?_eq_some_iff.1 h1).1) h1 h2) (fun i p q h1 h2 => h.cm i p q ((hD i).2 (List.getElem?_eq_some_iff.1 h1).1) h1 h2)
    (fun a k hk => ⟨(h.ff a k hk).1, (h.ff a k hk).2.2⟩) h.dd
end Go.Proofs.Ythgkgjcnmahacaa
end

section
/- slices.Clone at api.Value, walked: a slice of the call's own with the same elements. -/
set_option linter.unusedSimpArgs false
set_option linter.unusedVariables false
namespace Go.Proofs.Ythgkgjcnmahacaa
open Go.RowKit

set_option maxRecDepth 100000 in
set_option maxHeartbeats 400000 in
theorem cloneV_any {α : Type} {enc : α → List Value} (C : Codec enc 5) (w : World) (p : Option Addr) (n c : Nat) (xs : List α) (hv : Rd w w.heap.size enc 5 (.slice p n c) xs) (hsz : xs.length * 80 ≤ 140737488355328) :
    Calls Try.prog 75 #[.slice p n c] w fun e w' => ∃ p' c', e = .returned (.slice p' n c') ∧ (p = none ↔ p' = none) ∧ Own w' w.heap.size 25 enc 5 (.slice p' n c') xs ∧ Below w.heap.size w w' := by
  have hn : n = xs.length := by
    obtain ⟨_, _, e, _⟩ := hv
    simp only [Value.slice.injEq] at e; exact e.2.1
  subst hn
  have HS := Lib.hid hsz
  have HV := Lib.hid hv
  cases p with
  | none =>
    have h0 : xs.length = 0 ∧ c = 0 := by
      obtain ⟨p', cap, he, hlc, hcm, hp0, hp⟩ := hv
      simp only [Value.slice.injEq] at he
      obtain ⟨rfl, h1, rfl⟩ := he
      have := hp0 rfl
      omega
    obtain ⟨h0, rfl⟩ := h0
    obtain rfl := List.eq_nil_of_length_eq_zero h0
    have hnil : ∀ W, (Go.binOp .eql 22 (.slice none 0 0) (.slice none 0 0)).run Try.prog W = .ok (.bool true) W := fun W => Lib.run_eql_slice_nil W 22 25 none 0 0 0 0 Try.underlying22
    clear hv
    go_enter Try.func75, Try.ntmps75
    go_wp2
    go_ret
    exact ⟨none, 0, rfl, by simp, Own.nil w _ _, Below.refl _ _⟩
  | some a =>
    have hnil : ∀ W, (Go.binOp .eql 22 (.slice (some a) xs.length c) (.slice none 0 0)).run Try.prog W = .ok (.bool false) W := fun W => Lib.run_eql_slice_nil W 22 25 (some a) xs.length c 0 0 Try.underlying22
    have hO : Own (w.alloc (.cells #[] 25)) w.heap.size 25 enc 5 (.slice (some ⟨w.heap.size, 0, none⟩) 0 0) ([] : List α) := Own.made (Nat.le_refl _)
    have hB0 : Below w.heap.size w (w.alloc (.cells #[] 25)) := (Below.refl _ _).alloc (Nat.le_refl _) _
    have HR := Lib.hid (HV.out.below hB0 (Nat.le_refl _))
    clear hv
    go_enter Try.func75, Try.ntmps75
    go_wp2_with (at_builtin; refine wpList_append_rd slV C (w.alloc (.cells #[] 25)) rfl (.tmp 5) (.tmp 6) rfl (v := .slice (some ⟨w.heap.size, 0, none⟩) 0 0) rfl rfl hO HR.out (by have := HS.out; simp; unfold maxLen; omega) (by have := HS.out; simp; omega) (by simp) ?_; intro v1 w1 ho1 hg1 hat1)
    have hb1 : Below w.heap.size w w1 := Below.appended hB0 hg1 hO (by simp)
    rw [List.nil_append] at ho1
    obtain ⟨p1, c1, rfl, _, _⟩ := ho1.len
    have hp1 : p1 ≠ none := by
      rintro rfl
      rcases hat1 with h | h <;> simp [Value.ownBlock] at h
    go_ret
    refine ⟨p1, c1, rfl, ⟨(fun h => by cases h), (fun h => absurd h hp1)⟩, ho1, hb1⟩
end Go.Proofs.Ythgkgjcnmahacaa
end
