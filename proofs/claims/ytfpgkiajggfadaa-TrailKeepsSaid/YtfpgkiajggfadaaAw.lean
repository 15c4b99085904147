/- The document's example, and the answers that it fixes. -/
import Derived.Test.YtfpgkiajggfadaaSinD
import Derived.Test.YtfpgkiajggfadaaTrC2
import Derived.Test.YtfpgkiajggfadaaTrB3
import Derived.Test.YtfpgkiajggfadaaTrB2
import Derived.Test.YtfpgkiajggfadaaPas2
set_option linter.unusedSimpArgs false
set_option linter.unusedVariables false
namespace Go.Proofs.Ytfpgkiajggfadaa
open Go.RowKit Go.OpenShut

theorem Rd.of_image {α β : Type} {enc : β → List Value} {g : α → β} {sz : Nat} {w : World} {B : Nat} {v : Value} {xs : List α} (h : Rd w B enc sz v (xs.map g)) : Rd w B (fun x => enc (g x)) sz v xs := by
  obtain ⟨p, cap, h1, h2, h3, h4, h5⟩ := h
  rw [List.length_map] at h1 h2
  refine ⟨p, cap, h1, h2, h3, h4, fun a ha => ?_⟩
  obtain ⟨b, o, e1, e2, e3⟩ := h5 a ha
  exact ⟨b, o, e1, e2, fun i x hx j u hu => e3 i (g x) (by rw [List.getElem?_map, hx]; rfl) j u hu⟩

theorem since_any (w : World) (v : Value) (l : List En) (sq : Int) (hv : RdE w w.heap.size v l) (hlen : l.length ≤ 4398046511104) :
    Calls Try.prog 20 #[v, .int .i64 sq] w fun e w' => ∃ ys, IsStable cfP (sinceL sq l) ys ∧ OwnRet w 39 encP 4 ys e w' := by
  obtain ⟨hok, hr⟩ := rdE_iff.1 hv
  obtain ⟨xs, hxs⟩ : ∃ xs : List OkE, xs.map (·.1) = l := ⟨l.attach.map fun e => ⟨e.1, hok e.1 e.2⟩, by rw [List.map_map]; exact List.attach_map_subtype_val l⟩
  have hr' : Rd w w.heap.size encO 3 v xs := by rw [← hxs] at hr; exact Rd.of_image (enc := encE) hr
  have hl : xs.length = l.length := by rw [← hxs]; simp
  refine (since_any0 w v xs hr' (by omega) sq).mono ?_
  rintro e w' ⟨u, ys, rfl, h1, h2, h3⟩
  refine ⟨ys, ?_, u, rfl, h2, h3⟩
  rw [List.map_reverse, hxs, stepAll_rev] at h1
  exact h1

/-! ### The example -/
def exA : ByteArray := ⟨#[97]⟩
def exB : ByteArray := ⟨#[98]⟩
def exL : List En := [⟨1, ⟨#[97]⟩, 1⟩, ⟨2, ⟨#[98]⟩, 1⟩, ⟨3, ⟨#[97]⟩, 3⟩, ⟨4, ⟨#[98]⟩, 2⟩]
theorem exL_ok : ∀ e ∈ exL, e.ok := by
  intro e he
  simp only [exL, List.mem_cons, List.not_mem_nil, or_false] at he
  rcases he with rfl | rfl | rfl | rfl <;> exact ⟨by decide, by decide, by decide⟩

set_option maxRecDepth 100000 in
theorem example_any (w : World) : Calls Try.prog 36 #[] w (OwnRet w 26 encE 3 exL) := by
  go_enter Try.func36, Try.ntmps36
  go_wp2_with fail
  go_ret
  exact ⟨_, rfl, World.ownsRow_lit (size := 3) (base := w.heap.size) (e := 26) w #[.int .i64 1, .string ⟨#[97]⟩, .int .i64 1, .int .i64 2, .string ⟨#[98]⟩, .int .i64 1, .int .i64 3, .string ⟨#[97]⟩, .int .i64 3, .int .i64 4, .string ⟨#[98]⟩, .int .i64 2] 4 (Nat.le_refl _) (by decide) (by decide), (Below.refl _ _).alloc (Nat.le_refl _) _⟩

def exP : List Pa := [⟨⟨#[97]⟩, true, false, 3⟩, ⟨⟨#[98]⟩, true, true, 4⟩]
theorem exP_stable : IsStable cfP (sinceL 2 exL) exP := by
  have h : sinceL 2 exL = exP := by decide +kernel
  rw [h]
  have h1 : IsStable cfP ([] ++ [(⟨⟨#[97]⟩, true, false, 3⟩ : Pa)]) ([] ++ (⟨⟨#[97]⟩, true, false, 3⟩ : Pa) :: []) := IsStable.snoc cmpP IsStable.nil (by simp) (by simp)
  have h2 := IsStable.snoc cmpP (xs := [(⟨⟨#[97]⟩, true, false, 3⟩ : Pa)]) (A := [(⟨⟨#[97]⟩, true, false, 3⟩ : Pa)]) (B := []) (by simpa using h1) (p := ⟨⟨#[98]⟩, true, true, 4⟩) (by simp [cfP]) (by simp)
  exact h2

set_option maxRecDepth 100000 in
set_option maxHeartbeats 600000 in
theorem awake_any (w : World) : Calls Try.prog 14 #[] w fun e w' => e = .returned (.bool true) ∧ Below w.heap.size w w' := by
  go_enter Try.func14, Try.ntmps14
  go_upto_region 2 with (first
    | (go_at_call 36; refine (example_any _).mono ?_; rintro e w1 ⟨u1, rfl, ho1, hb1⟩)
    | (go_at_call 20; refine (since_any _ _ exL 2 (rdE_iff.2 ⟨exL_ok, ho1.rd codecE⟩) (by decide)).mono ?_; rintro e w2 ⟨ys, hst, u2, rfl, ho2, hb2⟩))
  obtain rfl := IsStable.unique cmpP hst exP_stable
  have HB2 : Below w.heap.size w w2 := hb1.trans (hb2.mono hb1.size)
  have H2 := ho2.rd codecP
  clear hst ho1 hb1 hb2 ho2
  go_upto_region 3 with (first
    | (go_at_call 36; refine (example_any _).mono ?_; rintro e w3 ⟨u3, rfl, ho3, hb3⟩)
    | (go_at_call 15; refine (add_any _ _ exL 0 2 ⟨5, ⟨#[99]⟩, 1⟩ (ho3.rd codecE) (by decide) (by decide) (by decide)).mono ?_; rintro e w4 ⟨u4, rfl, ho4, hb4⟩))
  have HB4 : Below w.heap.size w w4 := (HB2.trans (hb3.mono HB2.size)).trans (hb4.mono (Nat.le_trans HB2.size hb3.size))
  have H4 : Rd w4 w4.heap.size encP 4 u2 exP := (H2.below (hb3.trans (hb4.mono hb3.size)) (Nat.le_refl _)).mono (hb3.trans (hb4.mono hb3.size)).size
  obtain ⟨p4, c4, rfl, _, _⟩ := ho4.len
  have hl4 : (addL exL 2 ⟨5, ⟨#[99]⟩, 1⟩).length = 2 := by decide +kernel
  have hf4 : addF exL 0 2 ⟨5, ⟨#[99]⟩, 1⟩ = 3 := by decide +kernel
  have r1 : rightB exL 0 4 = true := by decide +kernel
  have r2 : rightB exL 1 4 = false := by decide +kernel
  rw [hl4, hf4]
  clear ho3 hb3 ho4 hb4 HB2 H2 hl4 hf4
  go_wp2_with (first
    | (go_at_call 19; refine (pasts_any _ _ exP H4 (by decide)).mono ?_; rintro e w5 ⟨u5, rfl, ho5, hb5⟩; (have H5 : Rd (w5.alloc (.cells #[.string ⟨#[97]⟩, .bool true, .bool false, .int .i64 3, .string ⟨#[98]⟩, .bool true, .bool true, .int .i64 4] 62)) (w5.alloc (.cells #[.string ⟨#[97]⟩, .bool true, .bool false, .int .i64 3, .string ⟨#[98]⟩, .bool true, .bool true, .int .i64 4] 62)).heap.size encP 4 u5 exP := (ho5.alloc _).rd codecP); (have H6 : Rd (w5.alloc (.cells #[.string ⟨#[97]⟩, .bool true, .bool false, .int .i64 3, .string ⟨#[98]⟩, .bool true, .bool true, .int .i64 4] 62)) (w5.alloc (.cells #[.string ⟨#[97]⟩, .bool true, .bool false, .int .i64 3, .string ⟨#[98]⟩, .bool true, .bool true, .int .i64 4] 62)).heap.size encP 4 (.slice (some ⟨w5.heap.size, 0, none⟩) 2 2) exP := Own.rd codecP (base := w5.heap.size) (e := 62) (World.ownsRow_lit (size := 4) (base := w5.heap.size) (e := 62) w5 #[.string ⟨#[97]⟩, .bool true, .bool false, .int .i64 3, .string ⟨#[98]⟩, .bool true, .bool true, .int .i64 4] 2 (Nat.le_refl _) (by decide) (by decide))); go_frame))
  have hd : decide (exP = exP) = true := by simp
  have hdd := samePast_any _ _ _ _ exP exP H5 H6
  rw [hd] at hdd
  have HW5 : Below w.heap.size w (w5.alloc (.cells #[.string ⟨#[97]⟩, .bool true, .bool false, .int .i64 3, .string ⟨#[98]⟩, .bool true, .bool true, .int .i64 4] 62)) := (HB4.trans (hb5.mono HB4.size)).alloc (Nat.le_trans HB4.size hb5.size) _
  clear H5 H6 hd
  obtain ⟨W5, hW5⟩ : ∃ W5, w5.alloc (.cells #[.string ⟨#[97]⟩, .bool true, .bool false, .int .i64 3, .string ⟨#[98]⟩, .bool true, .bool true, .int .i64 4] 62) = W5 := ⟨_, rfl⟩
  rw [hW5] at hdd HW5 ⊢
  clear hW5 ho5 hb5 H4
  refine hdd.mono ?_
  rintro e w6 ⟨rfl, n6, rfl⟩
  have HW6 : Below w.heap.size w (W5.drewN n6) := bdn HW5 _
  obtain ⟨W6, hW6⟩ : ∃ W6, W5.drewN n6 = W6 := ⟨_, rfl⟩
  rw [hW6] at HW6 ⊢
  clear hW6 hdd HW5
  have HH1 := Lib.hid r1
  have HH2 := Lib.hid r2
  clear r1 r2
  go_wp2_with (first
    | (go_at_call 36; refine (example_any _).mono ?_; rintro e w7 ⟨u7, rfl, ho7, hb7⟩; (have HZ := HW6.trans (hb7.mono HW6.size)); clear HW6; have HW6 := HZ; clear HZ; go_frame)
    | (go_at_call 12; refine (right_any _ _ exL _ 4 (rdE_iff.2 ⟨exL_ok, ho7.rd codecE⟩) (by decide) (by decide)).mono ?_; rintro e w8 ⟨rfl, hb8⟩; (have HZ := HW6.trans (hb8.mono HW6.size)); clear HW6; have HW6 := HZ; clear HZ; first | rw [HH1.out] | rw [HH2.out]; go_frame))
  go_ret
  exact ⟨rfl, HW6⟩
end Go.Proofs.Ytfpgkiajggfadaa
