import Derived.Test.YthgkgjcnmahacaaTs14
import Derived.Test.YthgkgjcnmahacaaTs11
import Derived.Test.YthgkgjcnmahacaaTs09
/- emit.Text, walked. -/
set_option linter.unusedSimpArgs false
set_option linter.unusedVariables false
namespace Go.Proofs.Ythgkgjcnmahacaa
open Go Go.RowKit Go.OpenShut

/-- The text that is answered. -/
def textB (t : JV) : ByteArray := if checkE t = 0 then toB (txtT t) else ⟨#[]⟩
def TextRet (w : World) (t : JV) (e : Ending) (w' : World) : Prop := e = .returned (.tuple #[.string (textB t), .int .i64 (checkE t)]) ∧ Below w.heap.size w w'
set_option maxRecDepth 100000 in
set_option maxHeartbeats 1000000 in
theorem text_any (t : JV) (r : RV) (w : World) (ht : TreeOf w w.heap.size t r) (ot : t.Ok) (hb : bkT t ≤ 1048576) : Calls Try.prog 34 #[r.val] w (TextRet w t) := by
  have hA0 : VAt (w.alloc r.obj) w.heap.size r := heap_alloc_at rfl
  have hB0 : Below w.heap.size w (w.alloc r.obj) := (Below.refl _ _).alloc (Nat.le_refl _) _
  have HC : Hid (∀ W, Below w.heap.size w W → Calls Try.prog 15 #[r.val] W fun e w' => e = .returned (.int .i64 (checkE t)) ∧ Below W.heap.size W w') := fun W hb => check_any t r W (ht.under hb hb.size) ot
  have HW : Hid (∀ W, Below w.heap.size w W → Calls Try.prog 74 #[.slice none 0 0, r.val] W (WrRet W w.heap.size (.slice none 0 0) (txtT t))) := fun W hbb => write_any _ t r W w.heap.size w.heap.size (Nat.le_refl _) (ht.under hbb (Nat.le_refl _)) ot (Nat.le_refl _) hb (.slice none 0 0) [] hbb.size (Own.nil _ _ _) (by simp; omega)
  dsimp only [RV.val, RV.obj] at *
  obtain ⟨c, hc⟩ : ∃ c, checkE t = c := ⟨_, rfl⟩
  rw [hc] at HC
  have HTR : Hid (TextRet w t = fun e w' => e = .returned (.tuple #[.string (textB t), .int .i64 c]) ∧ Below w.heap.size w w') := by unfold Hid; funext e w'; unfold TextRet; rw [hc]
  rw [HTR.out]
  clear HTR ht ot hb
  go_enter Try.func34, Try.ntmps34
  go_upto_region 1 with fail
  obtain ⟨W0, hW0⟩ : ∃ W0, (w.alloc (.cells #[.int .i64 r.k, .int .i64 r.n, .string r.s, .slice r.pl r.nl r.cl, .slice r.pm r.nm r.cm] 25)) = W0 := ⟨_, rfl⟩
  rw [hW0] at hA0 hB0 ⊢
  clear hW0
  have a0 := hA0.cell 0 rfl
  have a1 := hA0.cell 1 rfl
  have a2 := hA0.cell 2 rfl
  have a3 := hA0.cell 3 rfl
  have a4 := hA0.cell 4 rfl
  have HB := Lib.hid hB0
  have HA := Lib.hid hA0
  clear hA0 hB0
  by_cases h0 : c = 0
  · subst h0
    have HX : Hid (textB t = toB (txtT t)) := by unfold Hid textB; rw [if_pos hc]
    go_upto_region 4 with (go_at_call 15; refine (HC.out _ HB.out).mono ?_; rintro e w1 ⟨rfl, hb1⟩)
    have HA1 := HA.out.under hb1 HA.out.lt
    have HB1 := Lib.hid (HB.out.trans (hb1.mono HB.out.size))
    clear a0 a1 a2 a3 a4 hc
    have a0 := HA1.cell 0 rfl
    have a1 := HA1.cell 1 rfl
    have a2 := HA1.cell 2 rfl
    have a3 := HA1.cell 3 rfl
    have a4 := HA1.cell 4 rfl
    go_wp2_with (go_at_call 74; refine (HW.out _ HB1.out).mono ?_; rintro e w2 ⟨v2, rfl, h2⟩; have hcv := str_of_own h2.own)
    go_ret2
    exact ⟨by rw [HX.out]; rfl, h2.below (b := w.heap.size) (fun k e => by simp [Value.ownBlock] at e) HB1.out.size |> fun h => HB1.out.trans h⟩
  · have HX : Hid (textB t = ⟨#[]⟩) := by unfold Hid textB; rw [if_neg (by rw [hc]; exact h0)]
    have hz : (c != 0) = true := by simpa using h0
    clear hc h0
    go_wp2_with (go_at_call 15; refine (HC.out _ HB.out).mono ?_; rintro e w1 ⟨rfl, hb1⟩)
    go_ret2
    exact ⟨by rw [HX.out]; rfl, HB.out.trans (hb1.mono HB.out.size)⟩
end Go.Proofs.Ythgkgjcnmahacaa
