import Derived.Test.YthgkgjcnmahacaaSc02
import Derived.Deep.RegionHeld3
import Derived.Deep.AppendLies
import Derived.StillTactics
import Derived.Deep.DeepCutAuto
import Derived.Deep.CutRange
set_option linter.unusedSimpArgs false
set_option linter.unusedVariables false
namespace Go.Proofs.Ythgkgjcnmahacaa
open Go.RowKit Go.OpenShut

def encE (e : En) : List Value := [.int .i64 e.seq, .string e.id, .int .i64 e.what]
theorem codecE : Codec encE 3 := ⟨fun _ => rfl, fun x u hu => by
  simp only [encE, List.mem_cons, List.not_mem_nil, or_false] at hu
  rcases hu with rfl | rfl | rfl <;> rfl, by decide⟩

theorem rowE {w : World} {b o : Nat} {es : List En} : RowAt w b o encE 3 es ↔ ∀ i, i < es.length → enAt w b (o + i * 3) es[i]? := by
  constructor
  · intro h i hi
    have hx : es[i]? = some es[i] := List.getElem?_eq_getElem hi
    have := h i es[i] hx
    exact ⟨es[i], hx, this 0 _ rfl, this 1 _ rfl, this 2 _ rfl⟩
  · intro h i x hx j u hu
    obtain ⟨y, hy, h0, h1, h2⟩ := h i (List.getElem?_eq_some_iff.1 hx).1
    rw [hx] at hy
    cases hy
    match j, hu with
    | 0, hu => cases hu; exact h0
    | 1, hu => cases hu; exact h1
    | 2, hu => cases hu; exact h2
    | _ + 3, hu => simp [encE] at hu
theorem rdE_iff {w : World} {B : Nat} {v : Value} {es : List En} : RdE w B v es ↔ (∀ e ∈ es, e.ok) ∧ Rd w B encE 3 v es := by
  unfold RdE Rd
  simp only [rowE]

/-- How many entries go; what is left; the floor. -/
def addGone (n : Nat) (keep : Int) : Nat := n + 1 - keep.toNat
def addL (l : List En) (keep : Int) (e : En) : List En := (l ++ [e]).drop (addGone l.length keep)
def addF (l : List En) (floor keep : Int) (e : En) : Int := if addGone l.length keep = 0 then floor else (((l ++ [e])[addGone l.length keep - 1]?).map En.seq).getD 0

def AddRet (w : World) (l : List En) (f : Int) (en : Ending) (w' : World) : Prop :=
  ∃ u, en = .returned (.tuple #[u, .int .i64 f]) ∧ Own w' w.heap.size 48 encE 3 u l ∧ Below w.heap.size w w'

theorem ret_pair {u : Value} {k : IntKind} {a b : Int} (h : a = b) : Ending.returned (.tuple #[u, .int k a]) = .returned (.tuple #[u, .int k b]) := by rw [h]

def AddMid (w : World) (l : List En) (e : En) (s : Value) (wr : World) : Prop :=
  ∃ gg cap, s = .slice (some ⟨gg, 0, none⟩) (l.length + 1) cap ∧ wr.ownsRow w.heap.size 48 3 (.slice (some ⟨gg, 0, none⟩) (l.length + 1) cap) (l.length + 1) (cellsOf encE l ++ encE e) ∧ Below w.heap.size w wr

set_option maxRecDepth 100000 in
set_option maxHeartbeats 1000000 in
theorem add_any (w : World) (v : Value) (l : List En) (floor keep : Int) (e : En) (hv : Rd w w.heap.size encE 3 v l) (hf : (Lit.int .i64 floor).wf = true) (hk : (Lit.int .i64 keep).wf = true) (hsz : (l.length + 1) * 32 ≤ 140737488355328) :
    Calls Try.prog 101 #[v, .int .i64 floor, .int .i64 keep, .agg #[.int .i64 e.seq, .string e.id, .int .i64 e.what]] w (AddRet w (addL l keep e) (addF l floor keep e)) := by
  have bk := bounds_i64 hk
  have hlen : l.length ≤ 4398046511104 := by omega
  have HS := Lib.hid hsz
  obtain ⟨i0, hi, hz0, hz1, hz2⟩ := info_parts infoE
  clear hsz hk hf
  have HM : Hid (l.length + 1 ≤ maxLen) := by unfold Hid maxLen; omega
  have HV := Lib.hid hv
  clear hv
  go_enter Try.func101, Try.ntmps101
  go_upto_region 1 with fail
  have HCL := Lib.hid (show ∀ W, Below w.heap.size w W → Calls Try.prog 99 #[v] W (OwnRet W 48 encE 3 l) from fun W h => cloneE_any codecE W v l (HV.out.below h h.size) (by have := HS.out; omega))
  go_cut [10] from 12 to 16 (fun s wr => AddMid w l e s wr)
  case first =>
    go_region_held3 (fun w' => w'.cell? ⟨w.heap.size, 0, none⟩ = some (.int .i64 e.seq) ∧ w'.cell? ⟨w.heap.size, 1, none⟩ = some (.string e.id) ∧ w'.cell? ⟨w.heap.size, 2, none⟩ = some (.int .i64 e.what))
      (first
        | go_keep
        | (refine ⟨?_, ?_, ?_⟩ <;> (rw [hb.cell (by simp; try omega)]; first | assumption | simp [*]))
        | (go_split_ands
           refine ⟨?_, ?_, ?_⟩ <;> (rw [hgrow.cell_far _ (by have := hb.size; simp at this ⊢; omega) (fun hh => absurd (ho.lt _ hh.symm).1 (by simp; try omega))]; first | assumption | simp [*])))
      (first
        | (go_at_call 99; refine (HCL.out _ ?_).mono ?_; (repeat (first | exact Below.refl _ _ | apply Below.drew | refine Below.alloc ?_ (by simp) _)); rintro e1 w1 ⟨u, rfl, ho, hb⟩)
        | (have _t := hb
           have q3 := World.ownsRow.alloc (ho.mono (base' := w.heap.size) (by simp; try omega)) (.cells #[.int .i64 e.seq, .string e.id, .int .i64 e.what] 48)
           have q5 := World.news_of_block (w := w1.alloc (.cells #[.int .i64 e.seq, .string e.id, .int .i64 e.what] 48)) (cs := #[.int .i64 e.seq, .string e.id, .int .i64 e.what]) (t := 48) (fr := (0, 0)) (heap_alloc_new w1 _)
           refine step_append_lies _ (by rfl) _ _ _ (by rfl) w.heap.size 48 i0 _ 3 32 Try.underlying33 hi hz0 hz1 hz2 rfl (by omega) u l.length (cellsOf encE l) (by rfl) q3 ⟨w1.heap.size, 0, none⟩ 1 1 (encE e) (by rfl) (by rfl) q5 (codecE.one e) Nat.one_pos HM.out HS.out (by have := hb.size; simp at this ⊢; omega) (w1.heap.size + 1) (by simp) ?_
           intro gg cap w2 hown2 hgrow hat hlt)
        | (have _t := hb
           have q3 := ho.mono (base' := w.heap.size) (by simp; try omega)
           have q5 : ∀ j u, (encE e)[j]? = some u → w1.cell? ((⟨w.heap.size + 1, 0, none⟩ : Addr).add j) = some u := by
             intro j u hu
             rw [add_eq, Nat.zero_add, hb.cell (p := ⟨w.heap.size + 1, j, none⟩) (by simp), ← World.news_of_block (w := ((w.alloc (.cells #[.int .i64 e.seq, .string e.id, .int .i64 e.what] 48)).alloc (.cells #[.int .i64 e.seq, .string e.id, .int .i64 e.what] 48))) (B := w.heap.size + 1) (cs := #[.int .i64 e.seq, .string e.id, .int .i64 e.what]) (t := 48) (fr := (0, 0)) (by have := heap_alloc_new (w.alloc (.cells #[.int .i64 e.seq, .string e.id, .int .i64 e.what] 48)) (.cells #[.int .i64 e.seq, .string e.id, .int .i64 e.what] 48); simpa using this) j u hu, add_eq, Nat.zero_add]
             rfl
           refine step_append_lies _ (by rfl) _ _ _ (by rfl) w.heap.size 48 i0 _ 3 32 Try.underlying33 hi hz0 hz1 hz2 rfl (by omega) u l.length (cellsOf encE l) (by rfl) q3 ⟨w.heap.size + 1, 0, none⟩ 1 1 (encE e) (by rfl) (by rfl) q5 (codecE.one e) Nat.one_pos HM.out HS.out (by have := hb.size; simp at this ⊢; omega) w1.heap.size rfl ?_
           intro gg cap w2 hown2 hgrow hat hlt))
    all_goals
      go_wp2_with fail
      go_meet
      refine ⟨gg, cap, rfl, hown2, ?_⟩
      first
        | exact ((((Below.refl _ _).alloc (Nat.le_refl _) _).drew.trans (hb.mono (by simp))).alloc (by have := hb.size; simp at this; omega) _).grown hgrow (by have := hb.size; simp at this ⊢; omega) (fun k hk => by have := (ho.lt k hk).1; simp at this; omega)
        | exact (((((Below.refl _ _).alloc (Nat.le_refl _) _).alloc (by simp) _).drew.trans (hb.mono (by simp; omega)))).grown hgrow (by have := hb.size; simp at this ⊢; omega) (fun k hk => by have := (ho.lt k hk).1; simp at this; omega)
  case rest =>
  obtain ⟨gg, cap, rfl, hown2, hB2⟩ := hcut
  have HO : Own wc w.heap.size 48 encE 3 (.slice (some ⟨gg, 0, none⟩) (l ++ [e]).length cap) (l ++ [e]) := by
    unfold Own
    rw [cellsOf_append, cellsOf_single, List.length_append]
    exact hown2
  have HRD := HO.rd codecE
  have hL : (l ++ [e]).length = l.length + 1 := by simp
  rw [hL] at HRD
  clear hown2 HO hL
  have HRD' := Lib.hid HRD
  have hcell : ∀ k x, (l ++ [e])[k]? = some x → wc.cell? ⟨gg, k * 3, none⟩ = some (.int .i64 x.seq) := by
    obtain ⟨p, c, he, _, _, _, hp⟩ := HRD
    simp only [Value.slice.injEq] at he
    obtain ⟨rfl, _, rfl⟩ := he
    obtain ⟨b, o, hbo, _, hr⟩ := hp _ rfl (by simp)
    cases hbo
    intro k x hx
    simpa using hr k x hx 0 _ rfl
  have HCE := Lib.hid hcell
  clear hcell HRD
  have HF : ∀ (g : Nat) (v2 : Value), Rd wc wc.heap.size encE 3 v2 ((l ++ [e]).drop g) → Calls Try.prog 99 #[v2] wc (OwnRet wc 48 encE 3 ((l ++ [e]).drop g)) := fun g v2 h2 => cloneE_any codecE wc v2 _ h2 (by have := HS.out; simp only [List.length_drop, List.length_append, List.length_singleton]; omega)
  have HFF := Lib.hid HF
  clear HF
  by_cases hg0 : addGone l.length keep = 0
  · have h1 : (l.length : Int) + 1 ≤ keep := by unfold addGone at hg0; omega
    obtain ⟨v2, hsl, hr2⟩ := slice_from Try.underlying33 hi hz1 HRD'.out 0 (Nat.zero_le _)
    have HR2 := Lib.hid hr2
    have hsl0 : ∀ W, (Instr.sliceAt 33 (.slice (some ⟨gg, 0, none⟩) (l.length + 1) cap) (some (.int .i64 0)) none none).run Try.prog W = .ok v2 W := hsl
    have HE : Hid (addF l floor keep e = floor ∧ addL l keep e = (l ++ [e]).drop 0) := by unfold Hid addF addL; rw [if_pos hg0, hg0]; exact ⟨rfl, rfl⟩
    clear hsl hr2 hi hz0 hz1 hz2 hg0
    go_wp2_with (go_at_call 99; refine (HFF.out 0 v2 HR2.out).mono ?_; rintro e3 w3 ⟨u3, rfl, ho3, hb3⟩)
    go_ret2
    exact ⟨u3, ret_pair HE.out.1.symm, by rw [HE.out.2]; exact ho3.mono hB2.size, hB2.trans (hb3.mono hB2.size)⟩
  · have h1 : keep ≤ (l.length : Int) := by unfold addGone at hg0; omega
    have hgl : addGone l.length keep - 1 < (l ++ [e]).length := by unfold addGone; simp; omega
    obtain ⟨x, hx⟩ : ∃ x, (l ++ [e])[addGone l.length keep - 1]? = some x := ⟨_, List.getElem?_eq_getElem hgl⟩
    obtain ⟨v2, hsl, hr2⟩ := slice_from Try.underlying33 hi hz1 HRD'.out (addGone l.length keep) (by unfold addGone; omega)
    have HR2 := Lib.hid hr2
    have HE : Hid (addF l floor keep e = x.seq ∧ addL l keep e = (l ++ [e]).drop (addGone l.length keep)) := by unfold Hid addF addL; rw [if_neg hg0, hx]; exact ⟨rfl, rfl⟩
    have hc := HCE.out _ x hx
    clear hr2 hi hz0 hz1 hz2 hg0 hgl hx
    by_cases hk0 : 0 ≤ keep
    · obtain ⟨K, rfl⟩ := Int.eq_ofNat_of_zero_le hk0
      have h2 : K ≤ l.length := by omega
      have e1 : addGone l.length (K : Int) = l.length + 1 - K := by unfold addGone; simp
      have e2 : ((l.length + 1 - K : Nat) : Int) = (l.length : Int) + 1 - K := by omega
      rw [e1] at hc hsl HR2 HE
      rw [e2] at hsl
      clear e1 e2
      go_wp2_with (go_at_call 99; refine (HFF.out _ v2 HR2.out).mono ?_; rintro e3 w3 ⟨u3, rfl, ho3, hb3⟩)
      go_ret2
      exact ⟨u3, ret_pair HE.out.1.symm, by rw [HE.out.2]; exact ho3.mono hB2.size, hB2.trans (hb3.mono hB2.size)⟩
    · have e1 : addGone l.length keep = l.length + 1 := by unfold addGone; omega
      have e2 : ((l.length + 1 : Nat) : Int) = (l.length : Int) + 1 := by omega
      rw [e1] at hc hsl HR2 HE
      rw [e2] at hsl
      rw [Nat.add_sub_cancel] at hc
      clear e1 e2
      go_wp2_with (go_at_call 99; refine (HFF.out _ v2 HR2.out).mono ?_; rintro e3 w3 ⟨u3, rfl, ho3, hb3⟩)
      go_ret2
      exact ⟨u3, ret_pair HE.out.1.symm, by rw [HE.out.2]; exact ho3.mono hB2.size, hB2.trans (hb3.mono hB2.size)⟩
end Go.Proofs.Ythgkgjcnmahacaa
