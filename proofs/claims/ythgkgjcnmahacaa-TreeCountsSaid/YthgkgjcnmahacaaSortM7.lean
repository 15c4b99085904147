/- slices.SortStableFunc at a slice of the call's own. -/
import Derived.Test.YthgkgjcnmahacaaSortM6
import Derived.Test.YthgkgjcnmahacaaSortOwn
set_option linter.unusedSimpArgs false
set_option linter.unusedVariables false
namespace Go.Proofs.Ythgkgjcnmahacaa
open Go.Shelf Go.RowKit Go.Lib Go.Sort
namespace SM
variable {β : Type} [Inhabited β]

def SortPost (w : World) (base : Nat) (enc : β → List Value) (cf : β → β → Int) (v : Value) (xs : List β) (e : Ending) (w' : World) : Prop :=
  e = .returned (.tuple #[]) ∧ ∃ ys, IsStable cf xs ys ∧ Own w' base 90 enc 6 v ys ∧ w.grownBy w' v.ownBlock

set_option maxHeartbeats 4000000 in
set_option maxRecDepth 1000000 in
theorem ins_none (w : World) (g : Nat) (cb : Array Value) :
    Calls Try.prog 113 #[.slice none 0 0, .int .i64 0, .int .i64 0, .func (.func g) #[] cb] w fun e w' => e = .returned (.tuple #[]) ∧ w = w' := by
  go_enter Try.func113, Try.ntmps113
  go_wp2_with fail
  go_loop [8] (fun i => i = .int .i64 1) (fun _ => 0)
  case atStart => rfl
  case round =>
    obtain rfl := hrel
    go_wp2_with fail
    go_end0
    exact ⟨rfl, rfl⟩

set_option maxHeartbeats 4000000 in
set_option maxRecDepth 1000000 in
theorem stable_none (w : World) (g : Nat) (cb : Array Value) :
    Calls Try.prog 88 #[.slice none 0 0, .int .i64 0, .func (.func g) #[] cb] w fun e w' => e = .returned (.tuple #[]) ∧ w = w' := by
  go_enter Try.func88, Try.ntmps88
  go_wp2_with fail
  go_loop [7, 8] (fun a b => a = .int .i64 0 ∧ b = .int .i64 20) (fun _ _ => 0)
  case atStart => exact ⟨rfl, rfl⟩
  case round =>
    obtain ⟨rfl, rfl⟩ := hrel
    go_wp2_with (go_at_call 113; refine (ins_none _ g cb).mono ?_; rintro e w' ⟨rfl, rfl⟩)
    go_loop [6] (fun b => b = .int .i64 20) (fun _ => 0)
    case atStart => rfl
    case round =>
      obtain rfl := hrel
      go_wp2_with fail
      go_end0
      exact ⟨rfl, rfl⟩

set_option maxHeartbeats 4000000 in
set_option maxRecDepth 1000000 in
theorem top_any (enc : β → List Value) (C : Codec enc 6) (cf : β → β → Int) (Cm : Cmp cf) (g : Nat) (cb : Array Value) (w : World) (base : Nat) (v : Value) (xs : List β)
    (eg : ∀ args w, (callFunc g args).run Try.prog w = .ok (.enter g args) w) (hcmp : CmpAny Try.prog g cb enc cf) (hv : Own w base 90 enc 6 v xs) (hsz : xs.length < 1152921504606846976) :
    Calls Try.prog 53 #[v, .func (.func g) #[] cb] w (SortPost w base enc cf v xs) := by
  have HV := Lib.hid hv
  rcases hv.2 with ⟨rfl, hn⟩ | ⟨b, cap, cur, rfl, hb, hh, h1, h2, h3, h4⟩
  · have hx : xs = [] := List.eq_nil_of_length_eq_zero hn
    subst hx
    clear hv
    go_enter Try.func53, Try.ntmps53
    go_wp2_with (go_at_call 88; refine (stable_none _ g cb).mono ?_; rintro e w' ⟨rfl, rfl⟩)
    go_end0
    exact ⟨rfl, [], IsStable.nil, HV.out, ⟨rfl, rfl, rfl, Nat.le_refl _, fun _ _ _ => rfl⟩⟩
  · have hcon := stable_any (k := 6) lays (encT enc) (fun x y => cf x.1 y.1) (tlt cf) Cm.swo (fun p => p.2) (fun x y hxy => by
        unfold ltOf tlt
        by_cases e1 : cf y.1 x.1 < 0
        · simp [e1]
        · have : ¬ y.2 < x.2 := by omega
          simp [e1, this]) g cb b 0 cap xs.zipIdx.toArray w eg (fun W x y => hcmp W x.1 y.1)
        ⟨fun x => C.len x.1, fun x => C.one x.1, holds_of_own C hh h4, (Array.getElem?_eq_some_iff.1 hh).1⟩ (fun t ht => by
          simp at ht
          rw [getElem!_pos _ t (by simpa using ht)]
          simp) (by simpa using hsz)
    rw [show xs.zipIdx.toArray.size = xs.length by simp] at hcon
    have HCON := Lib.hid hcon
    clear hcon hcmp hv
    have HH := Lib.hid hh
    have H3 := Lib.hid h3
    have H2 := Lib.hid h2
    clear hh h4 h3 h2
    go_enter Try.func53, Try.ntmps53
    go_wp2_with fail
    refine HCON.out.mono ?_
    rintro e w1 ⟨rfl, d', S, hp, hs⟩
    have hd : d'.size = xs.length := by rw [hp.1]; simp
    have HF := Lib.hid (own_of_swk C hd hb HH.out h1 H2.out H3.out S)
    have HI := Lib.hid (IsStable.of_sorted Cm hp hs)
    clear S hp hs
    go_wp2_with fail
    go_end0
    exact ⟨rfl, _, HI.out, HF.out.1, HF.out.2⟩
end SM
end Go.Proofs.Ythgkgjcnmahacaa
