import Derived.Test.YthgkgjcnmahacaaSo12
import Derived.Test.YthgkgjcnmahacaaSo08
import Derived.Test.YthgkgjcnmahacaaSo09
import Derived.BigQuiet
import Derived.Test.YthgkgjcnmahacaaSo05
import Derived.Test.YthgkgjcnmahacaaSo03
import Derived.Deep.RegionLaw
section
/- The document's answer of what became of ids, in plain lists; and stores into an own row of four cells. -/
set_option linter.unusedSimpArgs false
set_option linter.unusedVariables false
namespace Go.Proofs.Ythgkgjcnmahacaa
open Go.RowKit

def hitB (sq : Int) (x y : En) : Bool := decide (y.id = x.id) && decide (sq < y.seq)
def refAt (sq : Int) (l : List En) (i : Nat) : Option Pa := match l[i]? with
  | none => none
  | some x => if x.seq ≤ sq then none else if (l.drop (i + 1)).any (hitB sq x) then none else (l.find? (hitB sq x)).map fun f => ⟨x.id, f.what != 1, x.what != 3, x.seq⟩
def refUpTo (sq : Int) (l : List En) (k : Nat) : List Pa := (List.range k).filterMap (refAt sq l)
theorem refUpTo_succ (sq : Int) (l : List En) (k : Nat) : refUpTo sq l (k + 1) = refUpTo sq l k ++ (refAt sq l k).toList := by
  unfold refUpTo
  rw [List.range_succ, List.filterMap_append]
  cases h : refAt sq l k <;> simp [h]

def sinceL (sq : Int) : List En → List Pa
  | [] => []
  | e :: r => if e.seq ≤ sq then sinceL sq r else if (sinceL sq r).any (fun p => decide (p.id = e.id)) then (sinceL sq r).map (updP e) else newP e :: sinceL sq r

theorem sinceL_cons (sq : Int) (e : En) (r : List En) : sinceL sq (e :: r) = if e.seq ≤ sq then sinceL sq r else if (sinceL sq r).any (fun p => decide (p.id = e.id)) then (sinceL sq r).map (updP e) else newP e :: sinceL sq r := rfl
theorem stepAll_rev (sq : Int) : ∀ l : List En, (stepAll sq l.reverse).reverse = sinceL sq l
  | [] => rfl
  | e :: r => by
    have ih := stepAll_rev sq r
    rw [List.reverse_cons, stepAll_snoc]
    have hr : stepAll sq r.reverse = (sinceL sq r).reverse := by rw [← ih, List.reverse_reverse]
    rw [hr, sinceL_cons]
    unfold stepP
    by_cases h1 : e.seq ≤ sq
    · rw [if_pos h1, if_pos h1, List.reverse_reverse]
    · rw [if_neg h1, if_neg h1, List.any_reverse]
      split
      · rw [List.map_reverse, List.reverse_reverse]
      · rw [List.reverse_append, List.reverse_reverse]; rfl

theorem upd_id (e : En) (p : Pa) : (updP e p).id = p.id := by unfold updP; split <;> rfl
theorem sinceL_id (sq : Int) (i : ByteArray) : ∀ l : List En, (∃ p ∈ sinceL sq l, p.id = i) ↔ ∃ y ∈ l, y.id = i ∧ sq < y.seq
  | [] => by simp [sinceL]
  | e :: r => by
    have ih := sinceL_id sq i r
    rw [sinceL_cons]
    by_cases h1 : e.seq ≤ sq
    · rw [if_pos h1, ih]
      constructor
      · rintro ⟨y, hy, h⟩; exact ⟨y, List.mem_cons_of_mem _ hy, h⟩
      · rintro ⟨y, hy, h, h'⟩
        rcases List.mem_cons.1 hy with rfl | hy
        · omega
        · exact ⟨y, hy, h, h'⟩
    · rw [if_neg h1]
      split
      · rename_i hk
        have e1 : (∃ p ∈ (sinceL sq r).map (updP e), p.id = i) ↔ ∃ p ∈ sinceL sq r, p.id = i := by
          constructor
          · rintro ⟨p, hp, h⟩
            obtain ⟨q, hq, rfl⟩ := List.mem_map.1 hp
            exact ⟨q, hq, by rw [← h, upd_id]⟩
          · rintro ⟨p, hp, h⟩
            exact ⟨_, List.mem_map.2 ⟨p, hp, rfl⟩, by rw [upd_id]; exact h⟩
        rw [e1, ih]
        constructor
        · rintro ⟨y, hy, h⟩; exact ⟨y, List.mem_cons_of_mem _ hy, h⟩
        · rintro ⟨y, hy, h, h'⟩
          rcases List.mem_cons.1 hy with rfl | hy
          · rw [← ih]
            simp only [List.any_eq_true, decide_eq_true_eq] at hk
            obtain ⟨p, hp, e2⟩ := hk
            exact ⟨p, hp, by rw [e2]; exact h⟩
          · exact ⟨y, hy, h, h'⟩
      · constructor
        · rintro ⟨p, hp, h⟩
          rcases List.mem_cons.1 hp with rfl | hp
          · exact ⟨e, by simp, h, by omega⟩
          · obtain ⟨y, hy, h2⟩ := ih.1 ⟨p, hp, h⟩
            exact ⟨y, List.mem_cons_of_mem _ hy, h2⟩
        · rintro ⟨y, hy, h, h'⟩
          rcases List.mem_cons.1 hy with rfl | hy
          · exact ⟨newP y, by simp, h⟩
          · obtain ⟨p, hp, h2⟩ := ih.2 ⟨y, hy, h, h'⟩
            exact ⟨p, List.mem_cons_of_mem _ hp, h2⟩

/-- What an entry ahead of the list does to what is said of it. -/
def putP (sq : Int) (e : En) (p : Pa) : Pa := if sq < e.seq then updP e p else p
theorem refAt_cons (sq : Int) (e : En) (r : List En) (i : Nat) : refAt sq (e :: r) (i + 1) = (refAt sq r i).map (putP sq e) := by
  unfold refAt
  rw [List.getElem?_cons_succ]
  cases h0 : r[i]? with
  | none => rfl
  | some x =>
    dsimp only
    by_cases h1 : x.seq ≤ sq
    · rw [if_pos h1, if_pos h1]; rfl
    · rw [if_neg h1, if_neg h1, List.drop_succ_cons]
      split
      · rfl
      · rw [List.find?_cons, Option.map_map]
        cases h2 : hitB sq x e with
        | true =>
          unfold hitB at h2
          simp only [Bool.and_eq_true, decide_eq_true_eq] at h2
          cases h3 : r.find? (hitB sq x) with
          | none =>
            have := List.find?_eq_none.1 h3 x (List.mem_of_getElem? h0)
            unfold hitB at this
            simp at this
            omega
          | some f =>
            simp only [Option.map_some, Function.comp_apply, putP, if_pos h2.2, updP, if_pos h2.1.symm]
        | false =>
          unfold hitB at h2
          simp only [Bool.and_eq_false_iff, decide_eq_false_iff_not] at h2
          congr 1
          funext f
          simp only [Function.comp_apply, putP, updP]
          rcases h2 with h2 | h2
          · have h4 : ¬ x.id = e.id := fun e' => h2 e'.symm
            by_cases h5 : sq < e.seq
            · rw [if_pos h5, if_neg h4]
            · rw [if_neg h5]
          · rw [if_neg h2]

theorem refUpTo_all (sq : Int) : ∀ l : List En, refUpTo sq l l.length = sinceL sq l
  | [] => rfl
  | e :: r => by
    have ih := refUpTo_all sq r
    unfold refUpTo at ih ⊢
    rw [List.length_cons, List.range_succ_eq_map, List.filterMap_cons, List.filterMap_map]
    have e1 : (List.range r.length).filterMap (refAt sq (e :: r) ∘ Nat.succ) = (sinceL sq r).map (putP sq e) := by
      rw [← ih, List.map_filterMap]
      congr 1
      funext i
      exact refAt_cons sq e r i
    rw [e1]
    have e0 : refAt sq (e :: r) 0 = if e.seq ≤ sq then none else if r.any (hitB sq e) then none else some (newP e) := by
      unfold refAt
      rw [List.getElem?_cons_zero]
      dsimp only
      by_cases h1 : e.seq ≤ sq
      · rw [if_pos h1, if_pos h1]
      · rw [if_neg h1, if_neg h1]
        rw [List.drop_succ_cons, List.drop_zero]
        have h2 : hitB sq e e = true := by unfold hitB; simp; omega
        rw [List.find?_cons, h2]
        rfl
    rw [e0, sinceL_cons]
    by_cases h1 : e.seq ≤ sq
    · rw [if_pos h1, if_pos h1]
      dsimp only
      have : (putP sq e) = id := by funext p; unfold putP; rw [if_neg (by omega)]; rfl
      rw [this, List.map_id]
    · have hput : (putP sq e) = updP e := by funext p; unfold putP; rw [if_pos (by omega)]
      rw [if_neg h1, if_neg h1, hput]
      have hany : r.any (hitB sq e) = (sinceL sq r).any (fun p => decide (p.id = e.id)) := by
        rw [Bool.eq_iff_iff]
        have := sinceL_id sq e.id r
        simp only [List.any_eq_true, hitB, Bool.and_eq_true, decide_eq_true_eq]
        exact this.symm
      rw [hany]
      by_cases hk : (sinceL sq r).any (fun p => decide (p.id = e.id)) = true
      · rw [if_pos hk, if_pos hk]
      · rw [if_neg hk, if_neg hk]
        have : (sinceL sq r).map (updP e) = sinceL sq r := updP_id _ _ (fun p hp h => hk (by simp only [List.any_eq_true, decide_eq_true_eq]; exact ⟨p, hp, h⟩))
        rw [this]

/-! ### A store of four cells into an own row -/
theorem cells_set : ∀ (xs : List Pa) (p : Nat) (y : Pa), p < xs.length → ((((cellsOf encP xs).set (p * 4) (.string y.id)).set (p * 4 + 1) (.bool y.was)).set (p * 4 + 2) (.bool y.isb)).set (p * 4 + 3) (.int .i64 y.last) = cellsOf encP (xs.set p y)
  | [], _, _, h => by simp at h
  | x :: xs, 0, y, _ => by simp [cellsOf, encP]
  | x :: xs, p + 1, y, h => by
    have ih := cells_set xs p y (by simpa using h)
    simp only [cellsOf, List.flatMap_cons, List.set_cons_succ] at ih ⊢
    rw [← ih]
    rw [show (p + 1) * 4 = p * 4 + 1 + 1 + 1 + 1 by omega]
    simp [encP]

theorem Own.stored4 {w : World} {base : Nat} {e : TypeId} {g n cap : Nat} {xs : List Pa} (h : Own w base e encP 4 (.slice (some ⟨g, 0, none⟩) n cap) xs) (hn : n = xs.length) (p : Nat) (hp : p < xs.length) (y : Pa) :
    Own ((((w.setCell ⟨g, p * 4, none⟩ (.string y.id)).setCell ⟨g, p * 4 + 1, none⟩ (.bool y.was)).setCell ⟨g, p * 4 + 2, none⟩ (.bool y.isb)).setCell ⟨g, p * 4 + 3, none⟩ (.int .i64 y.last)) base e encP 4 (.slice (some ⟨g, 0, none⟩) n cap) (xs.set p y) ∧
    w.grownBy ((((w.setCell ⟨g, p * 4, none⟩ (.string y.id)).setCell ⟨g, p * 4 + 1, none⟩ (.bool y.was)).setCell ⟨g, p * 4 + 2, none⟩ (.bool y.isb)).setCell ⟨g, p * 4 + 3, none⟩ (.int .i64 y.last)) (some g) := by
  subst hn
  unfold Own at h ⊢
  have h1 := World.ownsRow.stored h (p * 4) (.string y.id)
  have h2 := World.ownsRow.stored h1.1 (p * 4 + 1) (.bool y.was)
  have h3 := World.ownsRow.stored h2.1 (p * 4 + 2) (.bool y.isb)
  have h4 := World.ownsRow.stored h3.1 (p * 4 + 3) (.int .i64 y.last)
  rw [cells_set xs p y hp] at h4
  rw [List.length_set]
  exact ⟨h4.1, ((h1.2.trans h2.2).trans h3.2).trans h4.2⟩
end Go.Proofs.Ythgkgjcnmahacaa
end

section
/- trail.Since, said of entries. -/
set_option linter.unusedSimpArgs false
set_option linter.unusedVariables false
namespace Go.Proofs.Ythgkgjcnmahacaa
open Go.RowKit Go.OpenShut

theorem Rd.of_image {α β : Type} {enc : β → List Value} {g : α → β} {sz : Nat} {w : World} {B : Nat} {v : Value} {xs : List α} (h : Rd w B enc sz v (xs.map g)) : Rd w B (fun x => enc (g x)) sz v xs := by
  obtain ⟨p, cap, h1, h2, h3, h4, h5⟩ := h
  rw [List.length_map] at h1 h2
  refine ⟨p, cap, h1, h2, h3, h4, fun a ha h0 => ?_⟩
  obtain ⟨b, o, e1, e2, e3⟩ := h5 a ha (by rw [List.length_map]; exact h0)
  exact ⟨b, o, e1, e2, fun i x hx j u hu => e3 i (g x) (by rw [List.getElem?_map, hx]; rfl) j u hu⟩

theorem since_any (w : World) (v : Value) (l : List En) (sq : Int) (hv : RdE w w.heap.size v l) (hlen : l.length ≤ 4398046511104) :
    Calls Try.prog 58 #[v, .int .i64 sq] w fun e w' => ∃ ys, IsStable cfP (sinceL sq l) ys ∧ OwnRet w 99 encP 4 ys e w' := by
  obtain ⟨hok, hr⟩ := rdE_iff.1 hv
  obtain ⟨xs, hxs⟩ : ∃ xs : List OkE, xs.map (·.1) = l := ⟨l.attach.map fun e => ⟨e.1, hok e.1 e.2⟩, by rw [List.map_map]; exact List.attach_map_subtype_val l⟩
  have hr' : Rd w w.heap.size encO 3 v xs := by rw [← hxs] at hr; exact Rd.of_image (enc := encE) hr
  have hl : xs.length = l.length := by rw [← hxs]; simp
  refine (since_any0 w v xs hr' (by omega) sq).mono ?_
  rintro e w' ⟨u, ys, rfl, h1, h2, h3⟩
  refine ⟨ys, ?_, u, rfl, h2, h3⟩
  rw [List.map_reverse, hxs, stepAll_rev] at h1
  exact h1

end Go.Proofs.Ythgkgjcnmahacaa
end

section
/- store.Right: whether a box is right, walked. -/
set_option linter.unusedSimpArgs false
set_option linter.unusedVariables false
namespace Go.Proofs.Ythgkgjcnmahacaa
open Go.RowKit Go.OpenShut

/-- Is a box right? -/
def RightBx (b : BoxD) : Prop := Rising b.objs ∧ 0 ≤ b.keep ∧ b.keep ≤ 1000 ∧ (b.trail.length : Int) ≤ b.keep ∧ rightB b.trail b.floor b.seq = true ∧ ∀ p ∈ sinceL b.floor b.trail, isAt b.objs p.id = p.isb
def Asked (os : List (ByteArray × JV)) (ys : List Pa) (j : Nat) : Prop := ∀ (i : Nat) p, i < j → ys[i]? = some p → isAt os p.id = p.isb

set_option maxRecDepth 100000 in
set_option maxHeartbeats 4000000 in
theorem rightS_any (b : BoxD) (r : RB) (w : World) (hb : BoxOf w w.heap.size b r) (ob : b.Ok) :
    Calls Try.prog 20 #[r.val] w (Said w (RightBx b)) := by
  have ho := hb.objs
  have htr := hb.trail
  have hkp := hb.keep
  have hsq := hb.seq
  have hfl := hb.floor
  have hb0 := hb
  obtain ⟨po, no, co, pt, nt, ct, sq, fl, kp⟩ := r
  dsimp only [RB.val] at *
  obtain ⟨rms, hrd, hms⟩ := ho
  have hn := rd_nlen hrd
  have hlm := hms.len
  have hnt := htr.nlen
  have hzo := ob.objs
  have hzt := ob.trail
  have hA0 : BoxAt (w.alloc (.cells #[.slice po no co, .slice pt nt ct, .int .i64 sq, .int .i64 fl, .int .i64 kp] 35)) w.heap.size ⟨po, no, co, pt, nt, ct, sq, fl, kp⟩ := heap_alloc_at rfl
  have hB0 : Below w.heap.size w (w.alloc (.cells #[.slice po no co, .slice pt nt ct, .int .i64 sq, .int .i64 fl, .int .i64 kp] 35)) := (Below.refl _ _).alloc (Nat.le_refl _) _
  have HRD := Lib.hid hrd
  have HMS := Lib.hid hms
  have HTR := Lib.hid htr
  have HBX := Lib.hid hb0
  have HOB := Lib.hid ob
  have HN : Hid (b.objs.length = no ∧ rms.length = no ∧ b.trail.length = nt) := ⟨by omega, by omega, hnt⟩
  have HEQ : Hid (b.keep = kp ∧ b.seq = sq ∧ b.floor = fl) := ⟨hkp, hsq, hfl⟩
  have hno : no ≤ 1466015503658 := by omega
  have hnt2 : nt ≤ 4398046510976 := by omega
  clear hb hrd hms htr hn hlm hnt hzo hzt hkp hsq hfl hb0 ob
  go_enter Try.func20, Try.ntmps20
  go_upto_region 1 with fail
  obtain ⟨W0, hW0⟩ : ∃ W0, (w.alloc (.cells #[.slice po no co, .slice pt nt ct, .int .i64 sq, .int .i64 fl, .int .i64 kp] 35)) = W0 := ⟨_, rfl⟩
  rw [hW0] at hA0 hB0 ⊢
  clear hW0
  have HA := Lib.hid hA0
  have HB := Lib.hid hB0
  have hz := hA0.lt
  have c0 := hA0.cell 0 rfl
  dsimp only at c0
  clear hA0 hB0
  go_wp2_with fail
  go_loopw [3] (fun i wr => ∃ j : Nat, i = .int .i64 ((j : Int) + 1) ∧ (j + 1 ≤ no ∨ j = 0) ∧ RisingTo b.objs (j + 1) ∧ Below W0.heap.size W0 wr) (fun i _ => no + 1 - (intOf i).toNat)
  case atStart => exact ⟨0, rfl, .inr rfl, fun i p q h => by omega, Below.refl _ _⟩
  case round =>
    obtain ⟨j, rfl, hj, hri, hbr⟩ := hrel
    have c0 := bcs hbr hz c0
    by_cases hlt : j + 1 < no
    · obtain ⟨x, hx⟩ : ∃ x, rms[j]? = some x := ⟨_, List.getElem?_eq_getElem (by have := HN.out; omega)⟩
      obtain ⟨y, hy⟩ : ∃ x, rms[j + 1]? = some x := ⟨_, List.getElem?_eq_getElem (by have := HN.out; omega)⟩
      obtain ⟨p, hp⟩ : ∃ x, b.objs[j]? = some x := ⟨_, List.getElem?_eq_getElem (by have := HN.out; omega)⟩
      obtain ⟨q, hq⟩ : ∃ x, b.objs[j + 1]? = some x := ⟨_, List.getElem?_eq_getElem (by have := HN.out; omega)⟩
      have hpn := HMS.out.name _ p x hp hx
      have hqn := HMS.out.name _ q y hq hy
      have hbw : Below w.heap.size w wr := HB.out.trans (hbr.mono HB.out.size)
      obtain ⟨b1, o1, hpo, hb1, hc1⟩ := rd_at' (HRD.out.below hbw (Nat.le_refl _)) hx
      obtain ⟨b2, o2, hpo2, hb2, hc2⟩ := rd_at' (HRD.out.below hbw (Nat.le_refl _)) hy
      rw [hpo] at hpo2
      simp only [Option.some.injEq, Addr.mk.injEq, and_true] at hpo2
      obtain ⟨rfl, rfl⟩ := hpo2
      subst hpo
      have f0 := hc1 0 _ rfl
      have g0 := hc2 0 _ rfl
      rw [Nat.add_zero] at f0 g0
      have hless := less_cmp x.name y.name
      rw [← hpn, ← hqn] at hless
      have hj0 : (0 : Int) ≤ (j : Int) := Int.natCast_nonneg _
      have hj1 : (j : Int) < (no : Int) := by omega
      have hj2 : (0 : Int) ≤ (j : Int) + 1 := by omega
      have hj3 : (j : Int) + 1 < (no : Int) := by omega
      have htn : ((j : Int) + 1).toNat = j + 1 := by omega
      have hw1 : IntKind.i64.wrap ((j : Int) + 1) = (j : Int) + 1 := by rw [IntKind.wrap_i64]; omega
      have hw2 : (j : Int) + 1 - 1 = (j : Int) := by omega
      have hw3 : IntKind.i64.wrap ((j : Int) + 1 - 1) = (j : Int) := by rw [IntKind.wrap_i64]; omega
      have hd : decide ((j : Int) + 1 < (no : Int)) = true := by simpa using hj3
      have HBR := Lib.hid hbr
      rw [hpn, hqn] at hless
      by_cases hc : cmpN p.1 q.1 < 0
      · have HRI : RisingTo b.objs (j + 1 + 1) := by
          intro i p' q' hi hp' hq'
          by_cases e : i = j
          · subst e
            rw [hp] at hp'
            rw [hq] at hq'
            cases hp'; cases hq'
            exact hc
          · exact hri i p' q' (by omega) hp' hq'
        have hl : Op.bytesLess x.name.toList y.name.toList = true := by rw [hless, ← hpn, ← hqn]; simpa using hc
        clear hx hy hp hq hpn hqn hc1 hc2 hless hc hri hbr hbw hb2
        go_wp2_with fail
        go_quiet (fail)
        go_wp2_with fail
        go_roundw
        case rel => exact ⟨j + 1, by go_num, .inl (by omega), HRI, bdn HBR.out _⟩
        case measure => simp [intOf]; omega
      · have hl : Op.bytesLess x.name.toList y.name.toList = false := by rw [hless, ← hpn, ← hqn]; simpa using hc
        have HNO : Hid (¬ RightBx b) := fun h => Rising.no hp hq hc h.1
        clear hx hy hp hq hpn hqn hc1 hc2 hless hc hri hbw hb2
        go_wp2_with fail
        go_quiet (fail)
        go_wp2_with fail
        go_ret
        exact ⟨false, rfl, ⟨fun h => (by cases h), fun h => absurd h HNO.out⟩, bdn (HB.out.trans (HBR.out.mono HB.out.size)) _⟩
    · have hrs : Rising b.objs := by
        apply RisingTo.all
        intro i p q hi h1 h2
        exact hri i p q (by have := HN.out; omega) h1 h2
      have hd : decide ((j : Int) + 1 < (no : Int)) = false := by simp; omega
      have hd2 : ¬ ((j : Int) + 1 < (no : Int)) := by omega
      have hj2 : (0 : Int) ≤ (j : Int) + 1 := by omega
      have hA1 := HA.out.under hbr hz
      have hbw : Below w.heap.size w wr := HB.out.trans (hbr.mono HB.out.size)
      have HRS := Lib.hid hrs
      have HA1 := Lib.hid hA1
      have HBW := Lib.hid hbw
      clear hri hbr hA1 hbw hrs c0
      have c0 := HA1.out.cell 0 rfl
      have c1 := HA1.out.cell 1 rfl
      have c2 := HA1.out.cell 2 rfl
      have c3 := HA1.out.cell 3 rfl
      have c4 := HA1.out.cell 4 rfl
      dsimp only at c0 c1 c2 c3 c4
      obtain ⟨e1, e2, e3⟩ := HEQ.out
      by_cases h1 : kp < 0
      · have d1 : decide (kp < 0) = true := by simpa using h1
        have HNO : Hid (¬ RightBx b) := fun h => by have := h.2.1; omega
        clear e1 e2 e3 h1
        go_wp2_with fail
        go_ret
        exact ⟨false, rfl, ⟨fun h => (by cases h), fun h => absurd h HNO.out⟩, HBW.out⟩
      have d1 : decide (kp < 0) = false := by simpa using h1
      by_cases h2 : 1000 < kp
      · have d2 : decide (1000 < kp) = true := by simpa using h2
        have HNO : Hid (¬ RightBx b) := fun h => by have := h.2.2.1; omega
        clear e1 e2 e3 h1 h2
        go_wp2_with fail
        go_ret
        exact ⟨false, rfl, ⟨fun h => (by cases h), fun h => absurd h HNO.out⟩, HBW.out⟩
      have d2 : decide (1000 < kp) = false := by simpa using h2
      by_cases h3 : kp < (nt : Int)
      · have d3 : decide (kp < (nt : Int)) = true := by simpa using h3
        have HNO : Hid (¬ RightBx b) := fun h => by have := h.2.2.2.1; have := HN.out; omega
        clear e1 e2 e3 h1 h2 h3
        go_wp2_with fail
        go_ret
        exact ⟨false, rfl, ⟨fun h => (by cases h), fun h => absurd h HNO.out⟩, HBW.out⟩
      have d3 : decide (kp < (nt : Int)) = false := by simpa using h3
      have HK : Hid (0 ≤ b.keep ∧ b.keep ≤ 1000 ∧ (b.trail.length : Int) ≤ b.keep) := by have := HN.out; unfold Hid; omega
      have hR := right_any wr (.slice pt nt ct) b.trail fl sq (HTR.out.under HBW.out HBW.out.size) (by rw [← e3]; exact HOB.out.floor) (by rw [← e2]; exact HOB.out.seq)
      rw [← e3, ← e2] at hR
      cases hrt : rightB b.trail b.floor b.seq with
      | false =>
        rw [hrt] at hR
        rw [e3, e2] at hR
        have HR := Lib.hid hR
        have HNO : Hid (¬ RightBx b) := fun h => by have := h.2.2.2.2.1; rw [hrt] at this; cases this
        clear e1 e2 e3 h1 h2 h3 hR hrt
        go_wp2_with (go_at_call 57; refine HR.out.mono ?_; rintro e w1 ⟨rfl, hb1⟩)
        go_ret
        exact ⟨false, rfl, ⟨fun h => (by cases h), fun h => absurd h HNO.out⟩, HBW.out.trans (hb1.mono HBW.out.size)⟩
      | true =>
        rw [hrt] at hR
        rw [e3, e2] at hR
        have HR := Lib.hid hR
        have HRT := Lib.hid hrt
        have HS : Hid (∀ W, Below wr.heap.size wr W → Calls Try.prog 58 #[.slice pt nt ct, .int .i64 fl] W fun e w' => ∃ ys, IsStable cfP (sinceL b.floor b.trail) ys ∧ OwnRet W 99 encP 4 ys e w') := fun W hb => by
          rw [e3]
          exact since_any W _ b.trail fl (HTR.out.under (HBW.out.trans (hb.mono HBW.out.size)) (HBW.out.trans (hb.mono HBW.out.size)).size) (by have := HOB.out.trail; omega)
        have hzw : w.heap.size < wr.heap.size := by have := HA1.out.lt; exact this
        clear e1 e2 e3 h1 h2 h3 hR hrt
        go_upto_region 8 with (go_at_call 57; refine HR.out.mono ?_; rintro e w1 ⟨rfl, hb1⟩)
        have HA2 := Lib.hid (HA1.out.under hb1 hzw)
        have HB2 := Lib.hid (HBW.out.trans (hb1.mono HBW.out.size))
        have HB1 := Lib.hid hb1
        have hz1 := HA2.out.lt
        clear c0 c1 c2 c3 c4 hb1
        have c0 := HA2.out.cell 0 rfl
        have c1 := HA2.out.cell 1 rfl
        have c2 := HA2.out.cell 2 rfl
        have c3 := HA2.out.cell 3 rfl
        have c4 := HA2.out.cell 4 rfl
        dsimp only at c0 c1 c2 c3 c4
        go_wp2_with (go_at_call 58; refine (HS.out _ HB1.out).mono ?_; rintro e w2 ⟨ys, hys, u, rfl, hu, hb2⟩; obtain ⟨p2, cc2, hv2, hcl, hcc⟩ := hu.len; subst hv2; (have hyl : ys.length ≤ 9223372036854775807 := Nat.le_trans hcl hcc); go_frame)
        go_loopw [61] (fun i wr => ∃ j : Nat, j ≤ ys.length ∧ i = .int .i64 j ∧ Asked b.objs ys j ∧ Below w2.heap.size w2 wr) (fun i _ => ys.length - (intOf i).toNat)
        case atStart => exact ⟨0, Nat.zero_le _, rfl, fun i p h => by omega, Below.refl _ _⟩
        case round =>
          obtain ⟨j, hj, rfl, has, hbr⟩ := hrel
          have hb2w := hb2.size
          have HA3 := Lib.hid ((HA2.out.under hb2 hz1).under hbr (by omega))
          have HB3 := Lib.hid ((HB2.out.trans (hb2.mono HB2.out.size)).trans (hbr.mono (by have := HB2.out.size; omega)))
          by_cases hlt : j < ys.length
          · obtain ⟨⟨yid, ywas, yis, ylast⟩, hy⟩ : ∃ x, ys[j]? = some x := ⟨_, List.getElem?_eq_getElem hlt⟩
            obtain ⟨g, hpg, hnn, hgb, hgl, hcell, hfr⟩ := Own.at codecP (hu.below hbr (Nat.le_refl _)) hy
            subst hpg
            have f0 := hcell 0 _ rfl
            have f1 := hcell 1 _ rfl
            have f2 := hcell 2 _ rfl
            have f3 := hcell 3 _ rfl
            rw [Nat.add_zero] at f0
            dsimp only at f0 f1 f2 f3
            clear c0 c1 c2 c3 c4 hcell hfr hnn
            have hz3 := HA3.out.lt
            have c0 := HA3.out.cell 0 rfl
            have c1 := HA3.out.cell 1 rfl
            have c2 := HA3.out.cell 2 rfl
            have c3 := HA3.out.cell 3 rfl
            have c4 := HA3.out.cell 4 rfl
            dsimp only at c0 c1 c2 c3 c4
            have hk0 : (0 : Int) ≤ (j : Int) := Int.natCast_nonneg _
            have hk1 : (j : Int) < (ys.length : Int) := by omega
            have hA4 : Below w.heap.size w (wr.alloc (.cells #[.string yid, .bool ywas, .bool yis, .int .i64 ylast] 99)) := HB3.out.alloc HB3.out.size _
            have hP := placeO_any b ⟨po, no, co, pt, nt, ct, sq, fl, kp⟩ yid _ (HBX.out.under hA4 hA4.size) HRS.out HOB.out
            have HP4 : Hid ((wr.alloc (.cells #[.string yid, .bool ywas, .bool yis, .int .i64 ylast] 99)).heap[wr.heap.size]? = some (.cells #[.string yid, .bool ywas, .bool yis, .int .i64 ylast] 99 (0, 0))) := heap_alloc_at rfl
            have HBR : Hid (Below w2.heap.size w2 (wr.alloc (.cells #[.string yid, .bool ywas, .bool yis, .int .i64 ylast] 99))) := hbr.alloc hbr.size _
            have HA4 := Lib.hid hA4
            by_cases hia : isAt b.objs yid = yis
            · have HAS : Asked b.objs ys (j + 1) := by
                intro i p hi hp
                by_cases e : i = j
                · subst e
                  rw [hy] at hp
                  cases hp
                  exact hia
                · exact has i p (by omega) hp
              rw [hia] at hP
              have HP := Lib.hid hP
              clear hP hy hA4 has hbr hia
              cases yis
              all_goals
                go_upto_region 12 with (go_at_call 59; refine HP.out.mono ?_; rintro e w4 ⟨rfl, hb4⟩)
                have k2 := World.cell?_of_block (w := wr.alloc _) (w' := w4) (a := ⟨wr.heap.size, 2, none⟩) (hb4.block wr.heap.size (by simp))
                rw [cell_of_row _ _ 2 _ _ _ HP4.out] at k2
                simp at k2
                go_wp2_with fail
                go_roundw
                case rel => exact ⟨j + 1, by omega, by go_num, HAS, HBR.out.trans (hb4.mono HBR.out.size)⟩
                case measure => simp [intOf]; omega
            · have HNO : Hid (¬ RightBx b) := fun h => hia (h.2.2.2.2.2 _ (hys.perm.mem_iff.1 (List.mem_of_getElem? hy)))
              obtain ⟨ia, hib⟩ : ∃ ia, isAt b.objs yid = ia := ⟨_, rfl⟩
              rw [hib] at hP hia
              have HP := Lib.hid hP
              clear hP hy hA4 has hbr hib
              cases ia <;> cases yis
              all_goals try exact absurd rfl hia
              all_goals
                clear hia
                go_upto_region 12 with (go_at_call 59; refine HP.out.mono ?_; rintro e w4 ⟨rfl, hb4⟩)
                have k2 := World.cell?_of_block (w := wr.alloc _) (w' := w4) (a := ⟨wr.heap.size, 2, none⟩) (hb4.block wr.heap.size (by simp))
                rw [cell_of_row _ _ 2 _ _ _ HP4.out] at k2
                simp at k2
                go_wp2_with fail
                go_ret
                exact ⟨false, rfl, ⟨fun h => (by cases h), fun h => absurd h HNO.out⟩, HA4.out.trans (hb4.mono HA4.out.size)⟩
          · obtain rfl : j = ys.length := by omega
            have HYES : Hid (RightBx b) := ⟨HRS.out, HK.out.1, HK.out.2.1, HK.out.2.2, HRT.out, fun p hp => by
              obtain ⟨i, hi⟩ := List.getElem?_of_mem (hys.perm.mem_iff.2 hp)
              exact has i p (List.getElem?_eq_some_iff.1 hi).1 hi⟩
            go_wp2_with fail
            go_ret
            exact ⟨true, rfl, ⟨fun _ => HYES.out, fun _ => rfl⟩, HB3.out⟩
end Go.Proofs.Ythgkgjcnmahacaa
end

section
/- slices.Clone at api.Object, walked: a slice of the call's own with the same elements. -/
set_option linter.unusedSimpArgs false
set_option linter.unusedVariables false
namespace Go.Proofs.Ythgkgjcnmahacaa
open Go.RowKit

set_option maxRecDepth 100000 in
set_option maxHeartbeats 400000 in
theorem cloneO_any {α : Type} {enc : α → List Value} (C : Codec enc 6) (w : World) (p : Option Addr) (n c : Nat) (xs : List α) (hv : Rd w w.heap.size enc 6 (.slice p n c) xs) (hsz : xs.length * 96 ≤ 140737488355328) :
    Calls Try.prog 98 #[.slice p n c] w fun e w' => ∃ p' c', e = .returned (.slice p' n c') ∧ (p = none ↔ p' = none) ∧ Own w' w.heap.size 46 enc 6 (.slice p' n c') xs ∧ Below w.heap.size w w' := by
  have hn : n = xs.length := by
    obtain ⟨_, _, e, _⟩ := hv
    simp only [Value.slice.injEq] at e; exact e.2.1
  subst hn
  have HS := Lib.hid hsz
  have HV := Lib.hid hv
  cases p with
  | none =>
    have h0 : xs.length = 0 ∧ c = 0 := by
      obtain ⟨p', cap, he, hlc, hcm, hp0, hp⟩ := hv
      simp only [Value.slice.injEq] at he
      obtain ⟨rfl, h1, rfl⟩ := he
      have := hp0 rfl
      omega
    obtain ⟨h0, rfl⟩ := h0
    obtain rfl := List.eq_nil_of_length_eq_zero h0
    have hnil : ∀ W, (Go.binOp .eql 32 (.slice none 0 0) (.slice none 0 0)).run Try.prog W = .ok (.bool true) W := fun W => Lib.run_eql_slice_nil W 32 46 none 0 0 0 0 Try.underlying32
    clear hv
    go_enter Try.func98, Try.ntmps98
    go_wp2
    go_ret
    exact ⟨none, 0, rfl, by simp, Own.nil w _ _, Below.refl _ _⟩
  | some a =>
    have hnil : ∀ W, (Go.binOp .eql 32 (.slice (some a) xs.length c) (.slice none 0 0)).run Try.prog W = .ok (.bool false) W := fun W => Lib.run_eql_slice_nil W 32 46 (some a) xs.length c 0 0 Try.underlying32
    have hO : Own (w.alloc (.cells #[] 46)) w.heap.size 46 enc 6 (.slice (some ⟨w.heap.size, 0, none⟩) 0 0) ([] : List α) := Own.made (Nat.le_refl _)
    have hB0 : Below w.heap.size w (w.alloc (.cells #[] 46)) := (Below.refl _ _).alloc (Nat.le_refl _) _
    have HR := Lib.hid (HV.out.below hB0 (Nat.le_refl _))
    clear hv
    go_enter Try.func98, Try.ntmps98
    go_wp2_with (at_builtin; refine wpList_append_rd slO C (w.alloc (.cells #[] 46)) rfl (.tmp 5) (.tmp 6) rfl (v := .slice (some ⟨w.heap.size, 0, none⟩) 0 0) rfl rfl hO HR.out (by have := HS.out; simp; unfold maxLen; omega) (by have := HS.out; simp; omega) (by simp) ?_; intro v1 w1 ho1 hg1 hat1)
    have hb1 : Below w.heap.size w w1 := Below.appended hB0 hg1 hO (by simp)
    rw [List.nil_append] at ho1
    obtain ⟨p1, c1, rfl, _, _⟩ := ho1.len
    have hp1 : p1 ≠ none := by
      rintro rfl
      rcases hat1 with h | h <;> simp [Value.ownBlock] at h
    go_ret
    refine ⟨p1, c1, rfl, ⟨(fun h => by cases h), (fun h => absurd h hp1)⟩, ho1, hb1⟩
end Go.Proofs.Ythgkgjcnmahacaa
end

section
/- store.own: a box with lists of its own, walked. -/
set_option linter.unusedSimpArgs false
set_option linter.unusedVariables false
namespace Go.Proofs.Ythgkgjcnmahacaa
open Go.RowKit Go.OpenShut

/-- A box whose lists are the call's own, from block base on; its values lie below B. -/
structure NewBox (W : World) (base B : Nat) (b : BoxD) (r : RB) : Prop where
  objs : ∃ ros, Own W base 46 encM 6 (.slice r.po r.no r.co) ros ∧ MemsOf W B b.objs ros
  trail : Own W base 48 encE 3 (.slice r.pt r.nt r.ct) b.trail
  ok : ∀ e ∈ b.trail, e.ok
  seq : b.seq = r.sq
  floor : b.floor = r.fl
  keep : b.keep = r.kp
theorem NewBox.box {W : World} {base B : Nat} {b : BoxD} {r : RB} (h : NewBox W base B b r) (hB : B ≤ W.heap.size) : BoxOf W W.heap.size b r := by
  obtain ⟨ros, h1, h2⟩ := h.objs
  exact ⟨⟨ros, h1.rd codecM, h2.len, h2.name, fun i p q a c => (h2.val i p q a c).mono hB⟩, rdE_iff.2 ⟨h.ok, h.trail.rd codecE⟩, h.seq, h.floor, h.keep⟩
theorem NewBox.below {W W' : World} {base B : Nat} {b : BoxD} {r : RB} (h : NewBox W base B b r) (hb : Below W.heap.size W W') (hB : B ≤ W.heap.size) : NewBox W' base B b r := by
  obtain ⟨ros, h1, h2⟩ := h.objs
  exact ⟨⟨ros, h1.below hb (Nat.le_refl _), h2.under (hb.mono hB) (Nat.le_refl _)⟩, h.trail.below hb (Nat.le_refl _), h.ok, h.seq, h.floor, h.keep⟩
theorem NewBox.mono {W : World} {base base' B B' : Nat} {b : BoxD} {r : RB} (h : NewBox W base B b r) (hb : base' ≤ base) (hB : B ≤ B') : NewBox W base' B' b r := by
  obtain ⟨ros, h1, h2⟩ := h.objs
  exact ⟨⟨ros, h1.mono hb, h2.len, h2.name, fun i p q a c => (h2.val i p q a c).mono hB⟩, h.trail.mono hb, h.ok, h.seq, h.floor, h.keep⟩
/-- A store into another block than its lists'. -/
theorem NewBox.kept {W W' : World} {base B g : Nat} {b : BoxD} {r : RB} (h : NewBox W base B b r) (hg : W.grownBy W' (some g)) (h1 : (Value.slice r.po r.no r.co).ownBlock ≠ some g) (h2 : (Value.slice r.pt r.nt r.ct).ownBlock ≠ some g) (hBW : B ≤ W.heap.size) (hB : B ≤ g) : NewBox W' base B b r := by
  obtain ⟨ros, h3, h4⟩ := h.objs
  exact ⟨⟨ros, h3.kept hg (.inr h1), h4.under ((Below.refl B W).grown hg hBW (fun a e => by cases e; exact hB)) (Nat.le_refl _)⟩, h.trail.kept hg (.inr h2), h.ok, h.seq, h.floor, h.keep⟩

theorem BoxAt.set {W : World} {g : Nat} {r : RB} (h : BoxAt W g r) (p p' : Option Addr) (n n' c c' : Nat) :
    BoxAt ((W.setCell ⟨g, 0, none⟩ (.slice p n c)).setCell ⟨g, 1, none⟩ (.slice p' n' c')) g { r with po := p, no := n, co := c, pt := p', nt := n', ct := c' } := by
  unfold BoxAt at h ⊢
  simp [World.setCell, Array.getElem?_modify, h]
theorem BoxAt.stored {W : World} {g : Nat} {r : RB} (h : BoxAt W g r) (q : RB) :
    BoxAt (((((W.setCell ⟨g, 0, none⟩ (.slice q.po q.no q.co)).setCell ⟨g, 1, none⟩ (.slice q.pt q.nt q.ct)).setCell ⟨g, 2, none⟩ (.int .i64 q.sq)).setCell ⟨g, 3, none⟩ (.int .i64 q.fl)).setCell ⟨g, 4, none⟩ (.int .i64 q.kp)) g q := by
  unfold BoxAt at h ⊢
  simp [World.setCell, Array.getElem?_modify, h]
theorem BoxAt.kept {W W' : World} {g x : Nat} {r : RB} (h : BoxAt W x r) (hg : W.grownBy W' (some g)) (hne : x ≠ g) : BoxAt W' x r := (hg.block x h.lt (by simpa using hne)).trans h
theorem grownBy_setB (W : World) (g : Nat) (q : RB) :
    W.grownBy (((((W.setCell ⟨g, 0, none⟩ (.slice q.po q.no q.co)).setCell ⟨g, 1, none⟩ (.slice q.pt q.nt q.ct)).setCell ⟨g, 2, none⟩ (.int .i64 q.sq)).setCell ⟨g, 3, none⟩ (.int .i64 q.fl)).setCell ⟨g, 4, none⟩ (.int .i64 q.kp)) (some g) :=
  ((((grownBy_set W g 0 _).trans (grownBy_set _ g 1 _)).trans (grownBy_set _ g 2 _)).trans (grownBy_set _ g 3 _)).trans (grownBy_set _ g 4 _)

def NewRet (w : World) (B : Nat) (b : BoxD) (e : Ending) (w' : World) : Prop := ∃ r, e = .returned (RB.val r) ∧ NewBox w' w.heap.size B b r ∧ Below w.heap.size w w'

/-- Behind both clones. -/
structure OwnMid (w W : World) (B : Nat) (b : BoxD) (q : RB) : Prop where
  box : BoxAt W w.heap.size q
  zero : BoxAt W (w.heap.size + 1) RB.zero
  new : NewBox W w.heap.size B b q
  below : Below w.heap.size w W
  b1 : (Value.slice q.po q.no q.co).ownBlock ≠ some (w.heap.size + 1)
  b2 : (Value.slice q.pt q.nt q.ct).ownBlock ≠ some (w.heap.size + 1)
theorem OwnMid.mk' {w w0 w1 w2 : World} {B : Nat} {b : BoxD} {po p' p2 pt : Option Addr} {no co nt ct c' c2 : Nat} {sq fl kp : Int} {ros : List RM} (hA : BoxAt w0 w.heap.size ⟨po, no, co, pt, nt, ct, sq, fl, kp⟩) (hZ : BoxAt w0 (w.heap.size + 1) RB.zero) (hB0 : Below w.heap.size w w0) (hw : w0.heap.size = w.heap.size + 1 + 1)
    (ho1 : Own w1 w0.heap.size 46 encM 6 (.slice p' no c') ros) (hb1 : Below w0.heap.size w0 w1) (ho2 : Own w2 w1.heap.size 48 encE 3 (.slice p2 nt c2) b.trail) (hb2 : Below w1.heap.size w1 w2) (hms : MemsOf w B b.objs ros) (hBw : B ≤ w.heap.size) (hok : ∀ e ∈ b.trail, e.ok) (he : b.seq = sq ∧ b.floor = fl ∧ b.keep = kp) :
    OwnMid w ((w2.setCell ⟨w.heap.size, 0, none⟩ (.slice p' no c')).setCell ⟨w.heap.size, 1, none⟩ (.slice p2 nt c2)) B b ⟨p', no, c', p2, nt, c2, sq, fl, kp⟩ := by
  have hz1 := hb1.size
  have hz2 := hb2.size
  have hA2 : BoxAt w2 w.heap.size ⟨po, no, co, pt, nt, ct, sq, fl, kp⟩ := (hA.under hb1 (by omega)).under hb2 (by omega)
  have hZ2 : BoxAt w2 (w.heap.size + 1) RB.zero := (hZ.under hb1 (by omega)).under hb2 (by omega)
  have hg : w2.grownBy ((w2.setCell ⟨w.heap.size, 0, none⟩ (.slice p' no c')).setCell ⟨w.heap.size, 1, none⟩ (.slice p2 nt c2)) (some w.heap.size) := (grownBy_set w2 _ 0 _).trans (grownBy_set _ _ 1 _)
  have ho1' : Own w2 w.heap.size 46 encM 6 (.slice p' no c') ros := (ho1.below hb2 (Nat.le_refl _)).mono (by omega)
  have hbb : Below w.heap.size w w2 := (hB0.trans (hb1.mono (by omega))).trans (hb2.mono (by omega))
  have n1 : (Value.slice p' no c').ownBlock ≠ some w.heap.size := fun e => by have := (ho1.lt _ e).1; omega
  have n2 : (Value.slice p2 nt c2).ownBlock ≠ some w.heap.size := fun e => by have := (ho2.lt _ e).1; omega
  refine ⟨hA2.set _ _ _ _ _ _, hZ2.kept hg (by omega), ?_, hbb.grown hg (by omega) (fun a e => by cases e; exact Nat.le_refl _), fun e => by have := (ho1.lt _ e).1; omega, fun e => by have := (ho2.lt _ e).1; omega⟩
  exact NewBox.kept (W := w2) (g := w.heap.size) ⟨⟨ros, ho1', hms.under (hbb.mono hBw) (Nat.le_refl _)⟩, ho2.mono (by omega), hok, he.1, he.2.1, he.2.2⟩ hg n1 n2 (by omega) hBw

set_option maxRecDepth 100000 in
set_option maxHeartbeats 4000000 in
theorem own_any (b : BoxD) (r : RB) (w : World) (B : Nat) (hBw : B ≤ w.heap.size) (hb : BoxOf w B b r) (ob : b.Ok) :
    Calls Try.prog 63 #[r.val] w (NewRet w B b) := by
  obtain ⟨po, no, co, pt, nt, ct, sq, fl, kp⟩ := r
  obtain ⟨⟨ros, hro, hms⟩, htr, hsq, hfl, hkp⟩ := hb
  dsimp only [RB.val] at *
  have hlo := hms.len
  have hno := rd_nlen hro
  have hnt := htr.nlen
  have hzo := ob.objs
  have hzt := ob.trail
  obtain ⟨hok, hrt⟩ := rdE_iff.1 htr
  have hA0 : BoxAt ((w.alloc (.cells #[.slice po no co, .slice pt nt ct, .int .i64 sq, .int .i64 fl, .int .i64 kp] 35)).alloc (.cells #[.slice none 0 0, .slice none 0 0, .int .i64 0, .int .i64 0, .int .i64 0] 35)) w.heap.size ⟨po, no, co, pt, nt, ct, sq, fl, kp⟩ := heap_alloc_lt (by simp) (heap_alloc_at rfl)
  have hZ0 : BoxAt ((w.alloc (.cells #[.slice po no co, .slice pt nt ct, .int .i64 sq, .int .i64 fl, .int .i64 kp] 35)).alloc (.cells #[.slice none 0 0, .slice none 0 0, .int .i64 0, .int .i64 0, .int .i64 0] 35)) (w.heap.size + 1) RB.zero := heap_alloc_at (by simp)
  have hB0 := below2 w (.cells #[.slice po no co, .slice pt nt ct, .int .i64 sq, .int .i64 fl, .int .i64 kp] 35) (.cells #[.slice none 0 0, .slice none 0 0, .int .i64 0, .int .i64 0, .int .i64 0] 35)
  have HRO := Lib.hid hro
  have HRT := Lib.hid hrt
  have HOK := Lib.hid hok
  have HMS := Lib.hid hms
  have HZO : Hid (ros.length * 96 ≤ 140737488355328) := by unfold Hid; omega
  have HZT : Hid (b.trail.length * 32 ≤ 140737488355328) := by unfold Hid; omega
  have HEQ : Hid (b.seq = sq ∧ b.floor = fl ∧ b.keep = kp) := ⟨hsq, hfl, hkp⟩
  have HNT := Lib.hid hnt
  clear hlo hno hnt hzo hzt hok hrt htr hro hms hsq hfl hkp ob
  go_enter Try.func63, Try.ntmps63
  go_upto_region 1 with fail
  obtain ⟨W0, hW0⟩ : ∃ W0, ((w.alloc (.cells #[.slice po no co, .slice pt nt ct, .int .i64 sq, .int .i64 fl, .int .i64 kp] 35)).alloc (.cells #[.slice none 0 0, .slice none 0 0, .int .i64 0, .int .i64 0, .int .i64 0] 35)) = W0 := ⟨_, rfl⟩
  have hws : W0.heap.size = w.heap.size + 1 + 1 := by rw [← hW0]; simp
  rw [hW0] at hA0 hZ0 hB0 ⊢
  clear hW0
  have HWS := Lib.hid hws
  have c0 := hA0.cell 0 rfl
  have c1 := hA0.cell 1 rfl
  dsimp only at c0 c1
  have hz := hA0.lt
  have HAD : Hid (BoxAt W0.drew w.heap.size ⟨po, no, co, pt, nt, ct, sq, fl, kp⟩) := hA0
  have HZD : Hid (BoxAt W0.drew (w.heap.size + 1) RB.zero) := hZ0
  have HB0 := Lib.hid hB0
  clear hA0 hZ0 hB0 hws
  go_region_law (first
    | (go_simp; go_at_call 98; refine (cloneO_any codecM _ po no co ros (HRO.out.below (HB0.out.drew.mono hBw) (Nat.le_trans hBw HB0.out.size)) HZO.out).mono ?_; rintro e w1 ⟨p', c', rfl, hpn1, ho1, hb1⟩; (have c0' := bcs hb1 hz c0); (have c1' := bcs hb1 hz c1))
    | (go_simp; go_at_call 99; refine (cloneE_any codecE _ _ b.trail (HRT.out.below ((HB0.out.drew.trans (hb1.mono HB0.out.size)).mono hBw) (Nat.le_trans hBw (HB0.out.drew.trans (hb1.mono HB0.out.size)).size)) HZT.out).mono ?_; rintro e w2 ⟨u2, rfl, ho2, hb2⟩; obtain ⟨p2, c2, hu2, _, _⟩ := ho2.len; rw [HNT.out] at hu2; subst hu2; (have hA2 := (HAD.out.under hb1 hz).under hb2 (Nat.lt_of_lt_of_le hz hb1.size)); (have d0 := hA2.cell 0 rfl); (have d1 := hA2.cell 1 rfl); (have x0 := hA2.frozen 0); (have x1 := hA2.frozen 1)))
  all_goals (
    have hM := OwnMid.mk' (w := w) HAD.out HZD.out HB0.out.drew HWS.out ho1 hb1 ho2 hb2 HMS.out hBw HOK.out HEQ.out
    obtain ⟨W3, hW3⟩ : ∃ W3, (w2.setCell ⟨w.heap.size, 0, none⟩ (.slice p' no c')).setCell ⟨w.heap.size, 1, none⟩ (.slice p2 nt c2) = W3 := ⟨_, rfl⟩
    rw [hW3] at hM ⊢
    clear hW3 c0 c1 c0' c1' d0 d1 x0 x1 hA2 ho1 ho2 hb1 hb2 hz
    have HM := Lib.hid hM
    have a0 := hM.box.cell 0 rfl
    have a1 := hM.box.cell 1 rfl
    have a2 := hM.box.cell 2 rfl
    have a3 := hM.box.cell 3 rfl
    have a4 := hM.box.cell 4 rfl
    have z0 := hM.zero.cell 0 rfl
    have z1 := hM.zero.cell 1 rfl
    have z2 := hM.zero.cell 2 rfl
    have z3 := hM.zero.cell 3 rfl
    have z4 := hM.zero.cell 4 rfl
    dsimp only [RB.zero] at a0 a1 a2 a3 a4 z0 z1 z2 z3 z4
    have y0 := hM.zero.frozen 0
    have y1 := hM.zero.frozen 1
    have y2 := hM.zero.frozen 2
    have y3 := hM.zero.frozen 3
    have y4 := hM.zero.frozen 4
    clear hM
    go_wp2_with fail
    have hS := HM.out.zero.stored ⟨p', no, c', p2, nt, c2, sq, fl, kp⟩
    have hg := grownBy_setB W3 (w.heap.size + 1) ⟨p', no, c', p2, nt, c2, sq, fl, kp⟩
    refine bodyPost_ret (v := RB.val ⟨p', no, c', p2, nt, c2, sq, fl, kp⟩) (by simp [results, Try.results63, go_sem, z0, z1, z2, z3, z4]) rfl ⟨⟨p', no, c', p2, nt, c2, sq, fl, kp⟩, rfl, HM.out.new.kept hg HM.out.b1 HM.out.b2 (by have := HM.out.below.size; omega) (by omega), HM.out.below.grown hg (by have := HM.out.below.size; omega) (fun a e => by cases e; omega)⟩)
end Go.Proofs.Ythgkgjcnmahacaa
end
