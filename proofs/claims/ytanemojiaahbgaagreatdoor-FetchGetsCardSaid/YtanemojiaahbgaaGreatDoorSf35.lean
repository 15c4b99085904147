import Derived.Test.YtanemojiaahbgaaGreatDoorSf34
import Derived.Test.YtanemojiaahbgaaGreatDoorSf19
import Derived.Test.YtanemojiaahbgaaGreatDoorSf04
import Derived.Test.YtanemojiaahbgaaGreatDoorSf27
import Derived.Test.YtanemojiaahbgaaGreatDoorSf33
section
/- emit.Text, walked. -/
set_option linter.unusedSimpArgs false
set_option linter.unusedVariables false
namespace Go.Proofs.YtanemojiaahbgaaGreatDoor
open Go Go.RowKit Go.OpenShut

/-- The text that is answered. -/
def textB (t : JV) : ByteArray := if checkE t = 0 then toB (txtT t) else ⟨#[]⟩
def TextRet (w : World) (t : JV) (e : Ending) (w' : World) : Prop := e = .returned (.tuple #[.string (textB t), .int .i64 (checkE t)]) ∧ Below w.heap.size w w'
set_option maxRecDepth 100000 in
set_option maxHeartbeats 1000000 in
theorem text_any (t : JV) (r : RV) (w : World) (ht : TreeOf w w.heap.size t r) (ot : t.Ok) (hb : bkT t ≤ 1048576) : Calls Tryz.prog 18 #[r.val] w (TextRet w t) := by
  have hA0 : VAt (w.alloc r.obj) w.heap.size r := heap_alloc_at rfl
  have hB0 : Below w.heap.size w (w.alloc r.obj) := (Below.refl _ _).alloc (Nat.le_refl _) _
  have HC : Hid (∀ W, Below w.heap.size w W → Calls Tryz.prog 20 #[r.val] W fun e w' => e = .returned (.int .i64 (checkE t)) ∧ Below W.heap.size W w') := fun W hb => check_any t r W (ht.under hb hb.size) ot
  have HW : Hid (∀ W, Below w.heap.size w W → Calls Tryz.prog 48 #[.slice none 0 0, r.val] W (WrRet W w.heap.size (.slice none 0 0) (txtT t))) := fun W hbb => write_any _ t r W w.heap.size w.heap.size (Nat.le_refl _) (ht.under hbb (Nat.le_refl _)) ot (Nat.le_refl _) hb (.slice none 0 0) [] hbb.size (Own.nil _ _ _) (by simp; omega)
  dsimp only [RV.val, RV.obj] at *
  obtain ⟨c, hc⟩ : ∃ c, checkE t = c := ⟨_, rfl⟩
  rw [hc] at HC
  have HTR : Hid (TextRet w t = fun e w' => e = .returned (.tuple #[.string (textB t), .int .i64 c]) ∧ Below w.heap.size w w') := by unfold Hid; funext e w'; unfold TextRet; rw [hc]
  rw [HTR.out]
  clear HTR ht ot hb
  go_enter Tryz.func18, Tryz.ntmps18
  go_upto_region 1 with fail
  obtain ⟨W0, hW0⟩ : ∃ W0, (w.alloc (.cells #[.int .i64 r.k, .int .i64 r.n, .string r.s, .slice r.pl r.nl r.cl, .slice r.pm r.nm r.cm] 31)) = W0 := ⟨_, rfl⟩
  rw [hW0] at hA0 hB0 ⊢
  clear hW0
  have a0 := hA0.cell 0 rfl
  have a1 := hA0.cell 1 rfl
  have a2 := hA0.cell 2 rfl
  have a3 := hA0.cell 3 rfl
  have a4 := hA0.cell 4 rfl
  have HB := Lib.hid hB0
  have HA := Lib.hid hA0
  clear hA0 hB0
  by_cases h0 : c = 0
  · subst h0
    have HX : Hid (textB t = toB (txtT t)) := by unfold Hid textB; rw [if_pos hc]
    go_upto_region 4 with (go_at_call 20; refine (HC.out _ HB.out).mono ?_; rintro e w1 ⟨rfl, hb1⟩)
    have HA1 := HA.out.under hb1 HA.out.lt
    have HB1 := Lib.hid (HB.out.trans (hb1.mono HB.out.size))
    clear a0 a1 a2 a3 a4 hc
    have a0 := HA1.cell 0 rfl
    have a1 := HA1.cell 1 rfl
    have a2 := HA1.cell 2 rfl
    have a3 := HA1.cell 3 rfl
    have a4 := HA1.cell 4 rfl
    go_wp2_with (go_at_call 48; refine (HW.out _ HB1.out).mono ?_; rintro e w2 ⟨v2, rfl, h2⟩; have hcv := str_of_own h2.own)
    go_ret2
    exact ⟨by rw [HX.out]; rfl, h2.below (b := w.heap.size) (fun k e => by simp [Value.ownBlock] at e) HB1.out.size |> fun h => HB1.out.trans h⟩
  · have HX : Hid (textB t = ⟨#[]⟩) := by unfold Hid textB; rw [if_neg (by rw [hc]; exact h0)]
    have hz : (c != 0) = true := by simpa using h0
    clear hc h0
    go_wp2_with (go_at_call 20; refine (HC.out _ HB.out).mono ?_; rintro e w1 ⟨rfl, hb1⟩)
    go_ret2
    exact ⟨by rw [HX.out]; rfl, HB.out.trans (hb1.mono HB.out.size)⟩
end Go.Proofs.YtanemojiaahbgaaGreatDoor
end

section
/- law26.awake, walked. -/
set_option linter.unusedSimpArgs false
set_option linter.unusedVariables false
namespace Go.Proofs.YtanemojiaahbgaaGreatDoor
open Go Go.RowKit Go.OpenShut

def aA : ByteArray := ⟨#[65]⟩
def awS : ByteArray := ⟨#[123, 34, 97, 99, 99, 111, 117, 110, 116, 73, 100, 34, 58, 34, 65, 34, 44, 34, 105, 100, 115, 34, 58, 91, 34, 120, 34, 44, 34, 120, 34, 93, 125]⟩
def awX : JV := textJ ⟨#[120]⟩
def awV : JV := objJ [(accIdN, textJ aA), (idsN, listJ [awX, awX])]
def awR : JV := objJ [(accIdN, textJ aA), (stateN, textJ ⟨#[99, 48]⟩), (listN, listJ []), (notFoundN, listJ [awX])]
def awO : ByteArray := ⟨#[123, 34, 97, 99, 99, 111, 117, 110, 116, 73, 100, 34, 58, 34, 65, 34, 44, 34, 115, 116, 97, 116, 101, 34, 58, 34, 99, 48, 34, 44, 34, 108, 105, 115, 116, 34, 58, 91, 93, 44, 34, 110, 111, 116, 70, 111, 117, 110, 100, 34, 58, 91, 34, 120, 34, 93, 125]⟩
theorem aw_read : readF awS = Option.some awV := by kernel_rfl
theorem aw_args : argsB awV ksG = true := by kernel_rfl
theorem aw_get : getJ aA true BoxD.zero (argI awV) (argP awV) = awR := by kernel_rfl
theorem aw_big : bigB BoxD.zero (argI awV) (argP awV) = false := by kernel_rfl
theorem aw_chk : checkE awR = 0 := by kernel_rfl
theorem aw_text : textB awR = awO := by kernel_rfl
theorem aw_bk : decide (bkT awR ≤ 1048576) = true := by kernel_rfl
theorem aw_vok : awV.Ok := objJ_ok (by decide) (fun p hp => by
  simp only [List.mem_cons, List.not_mem_nil, or_false] at hp
  rcases hp with rfl | rfl
  · show accIdN.size ≤ _; decide
  · show idsN.size ≤ _; decide) (fun p hp => by
  simp only [List.mem_cons, List.not_mem_nil, or_false] at hp
  rcases hp with rfl | rfl
  · exact textJ_ok (by decide)
  · refine listJ_ok (by decide) (fun x hx => ?_)
    simp only [List.mem_cons, List.not_mem_nil, or_false, or_self] at hx
    subst hx
    exact textJ_ok (by decide))
theorem aw_rok : awR.Ok := by
  rw [← aw_get]
  exact getJ_ok (by decide) (by decide) (fun p hp => by simp [BoxD.zero] at hp) (argG_ok aw_vok _) aw_big
theorem aw_yes {w : World} {e : Ending} {w' : World} (h : GetRet26 w aA true true BoxD.zero awV e w') : ∃ r, e = .returned (.tuple #[RV.val r, .string ⟨#[]⟩]) ∧ TreeOf w' w'.heap.size awR r ∧ Below w.heap.size w w' := by
  obtain ⟨r, h1, h2, h3⟩ := h
  have e1 : getWhy true BoxD.zero awV = ⟨#[]⟩ := by unfold getWhy; rw [aw_args, aw_big]; rfl
  have e2 : getT aA true true BoxD.zero awV = awR := by unfold getT; rw [aw_args, aw_big]; exact aw_get
  rw [e1] at h1
  rw [e2] at h2
  exact ⟨r, h1, h2, h3⟩
theorem aw_no {w : World} {e : Ending} {w' : World} (h : GetRet26 w aA false true BoxD.zero awV e w') : ∃ r, e = .returned (.tuple #[RV.val r, .string ⟨#[97, 99, 99, 111, 117, 110, 116, 78, 111, 116, 70, 111, 117, 110, 100]⟩]) ∧ Below w.heap.size w w' := by
  obtain ⟨r, h1, h2, h3⟩ := h
  have e1 : getWhy false BoxD.zero awV = noAccN := by unfold getWhy whyB; rw [aw_args]; rfl
  rw [e1] at h1
  exact ⟨r, h1, h3⟩
theorem ac_zero (w : World) (B : Nat) : AcOf w B ⟨aA, BoxD.zero, BoxD.zero, 0⟩ ⟨aA, RB.zero, RB.zero, 0⟩ := ⟨rfl, BoxOf.zero _ _, BoxOf.zero _ _⟩

set_option maxRecDepth 100000 in
set_option maxHeartbeats 4000000 in
theorem awake26_any (w : World) (hV : Vars w) : Calls Tryz.prog 5 #[] w fun e w' => e = .returned (.bool true) ∧ Below w.heap.size w w' := by
  have HV := Lib.hid hV
  have CR : Hid (Calls Tryz.prog 17 #[.string ⟨#[123, 34, 97, 99, 99, 111, 117, 110, 116, 73, 100, 34, 58, 34, 65, 34, 44, 34, 105, 100, 115, 34, 58, 91, 34, 120, 34, 44, 34, 120, 34, 93, 125]⟩] w (ReadRet w awV)) := read_any w awS awV (by decide) aw_read
  have CG1 : Hid (∀ (W : World) (r : RV), Below w.heap.size w W → TreeOf W W.heap.size awV r → Calls Tryz.prog 7 #[.agg #[.string ⟨#[65]⟩, .slice none 0 0, .slice none 0 0, .int .i64 0, .int .i64 0, .int .i64 0, .slice none 0 0, .slice none 0 0, .int .i64 0, .int .i64 0, .int .i64 0, .int .i64 0], .bool true, .int .i64 1, RV.val r] W fun e w' => ∃ q, e = .returned (.tuple #[RV.val q, .string ⟨#[]⟩]) ∧ TreeOf w' w'.heap.size awR q ∧ Below W.heap.size W w') := fun W r hb ht =>
    (fget_any ⟨aA, BoxD.zero, BoxD.zero, 0⟩ ⟨aA, RB.zero, RB.zero, 0⟩ true false awV r W (HV.out.below hb) (ac_zero _ _) BoxD.zero_ok BoxD.zero_ok (fun bk y hy => by cases bk <;> simp [AcD.box, BoxD.zero] at hy) ht aw_vok).mono (fun e w' h => aw_yes h)
  have CG2 : Hid (∀ (W : World) (r : RV), Below w.heap.size w W → TreeOf W W.heap.size awV r → Calls Tryz.prog 7 #[.agg #[.string ⟨#[65]⟩, .slice none 0 0, .slice none 0 0, .int .i64 0, .int .i64 0, .int .i64 0, .slice none 0 0, .slice none 0 0, .int .i64 0, .int .i64 0, .int .i64 0, .int .i64 0], .bool false, .int .i64 1, RV.val r] W fun e w' => ∃ q, e = .returned (.tuple #[RV.val q, .string ⟨#[97, 99, 99, 111, 117, 110, 116, 78, 111, 116, 70, 111, 117, 110, 100]⟩]) ∧ Below W.heap.size W w') := fun W r hb ht =>
    (fget_any ⟨aA, BoxD.zero, BoxD.zero, 0⟩ ⟨aA, RB.zero, RB.zero, 0⟩ false false awV r W (HV.out.below hb) (ac_zero _ _) BoxD.zero_ok BoxD.zero_ok (fun bk y hy => by cases bk <;> simp [AcD.box, BoxD.zero] at hy) ht aw_vok).mono (fun e w' h => aw_no h)
  have CT : Hid (∀ (W : World) (r : RV), TreeOf W W.heap.size awR r → Calls Tryz.prog 18 #[RV.val r] W fun e w' => e = .returned (.tuple #[.string ⟨#[123, 34, 97, 99, 99, 111, 117, 110, 116, 73, 100, 34, 58, 34, 65, 34, 44, 34, 115, 116, 97, 116, 101, 34, 58, 34, 99, 48, 34, 44, 34, 108, 105, 115, 116, 34, 58, 91, 93, 44, 34, 110, 111, 116, 70, 111, 117, 110, 100, 34, 58, 91, 34, 120, 34, 93, 125]⟩, .int .i64 0]) ∧ Below W.heap.size W w') := fun W r ht =>
    (text_any awR r W ht aw_rok (of_decide_eq_true aw_bk)).mono (fun e w' h => by
      obtain ⟨h1, h2⟩ := h
      rw [aw_text, aw_chk] at h1
      exact ⟨h1, h2⟩)
  clear hV
  go_enter Tryz.func5, Tryz.ntmps5
  go_upto_region 2 with (go_at_call 17; refine CR.out.mono ?_; rintro e w1 ⟨r1, rfl, ht1, hb1⟩; obtain ⟨ak, an, aS, apl, anl, acl, apm, anm, acm⟩ := r1)
  have hb2 : Below w.heap.size w (w1.alloc (.cells #[.int .i64 ak, .int .i64 an, .string aS, .slice apl anl acl, .slice apm anm acm] 31)) := hb1.alloc hb1.size _
  have hv2 : VAt (w1.alloc (.cells #[.int .i64 ak, .int .i64 an, .string aS, .slice apl anl acl, .slice apm anm acm] 31)) w1.heap.size ⟨ak, an, aS, apl, anl, acl, apm, anm, acm⟩ := heap_alloc_at rfl
  have ht2 := ht1.under ((Below.refl w1.heap.size w1).alloc (Nat.le_refl _) (.cells #[.int .i64 ak, .int .i64 an, .string aS, .slice apl anl acl, .slice apm anm acm] 31)) (Nat.le_succ _)
  have hs2 : w1.heap.size + 1 ≤ (w1.alloc (.cells #[.int .i64 ak, .int .i64 an, .string aS, .slice apl anl acl, .slice apm anm acm] 31)).heap.size := by simp
  obtain ⟨g1, hg1⟩ : ∃ g, w1.heap.size = g := ⟨_, rfl⟩
  obtain ⟨W2, hW2⟩ : ∃ W, w1.alloc (.cells #[.int .i64 ak, .int .i64 an, .string aS, .slice apl anl acl, .slice apm anm acm] 31) = W := ⟨_, rfl⟩
  rw [hW2] at hb2 hv2 ht2 hs2
  rw [hg1] at hv2 hs2 ht2
  try rw [hW2]
  try rw [hg1]
  have HT2 : Hid (TreeOf W2 W2.heap.size awV ⟨ak, an, aS, apl, anl, acl, apm, anm, acm⟩) := ht2.mono (by omega)
  have HB2 := Lib.hid hb2
  have HV2 := Lib.hid hv2
  have a0 := hv2.cell 0 rfl
  have a1 := hv2.cell 1 rfl
  have a2 := hv2.cell 2 rfl
  have a3 := hv2.cell 3 rfl
  have a4 := hv2.cell 4 rfl
  dsimp only at a0 a1 a2 a3 a4
  clear hW2 hg1 hb1 ht1 hb2 ht2 hv2 hs2
  go_upto_region 3 with (go_at_call 7; refine (CG1.out _ ⟨ak, an, aS, apl, anl, acl, apm, anm, acm⟩ HB2.out HT2.out).mono ?_; rintro e w3 ⟨r3, rfl, ht3, hb3⟩; obtain ⟨ck, cn, cs, cpl, cnl, ccl, cpm, cnm, ccm⟩ := r3)
  have hb4 : Below W2.heap.size W2 (w3.alloc (.cells #[.int .i64 ck, .int .i64 cn, .string cs, .slice cpl cnl ccl, .slice cpm cnm ccm] 31)) := hb3.alloc hb3.size _
  have hv4 : VAt (w3.alloc (.cells #[.int .i64 ck, .int .i64 cn, .string cs, .slice cpl cnl ccl, .slice cpm cnm ccm] 31)) w3.heap.size ⟨ck, cn, cs, cpl, cnl, ccl, cpm, cnm, ccm⟩ := heap_alloc_at rfl
  have ht4 : TreeOf (w3.alloc (.cells #[.int .i64 ck, .int .i64 cn, .string cs, .slice cpl cnl ccl, .slice cpm cnm ccm] 31)) (w3.alloc (.cells #[.int .i64 ck, .int .i64 cn, .string cs, .slice cpl cnl ccl, .slice cpm cnm ccm] 31)).heap.size awR ⟨ck, cn, cs, cpl, cnl, ccl, cpm, cnm, ccm⟩ := ht3.under ((Below.refl w3.heap.size w3).alloc (Nat.le_refl _) _) (by simp)
  obtain ⟨g4, hg4⟩ : ∃ g, w3.heap.size = g := ⟨_, rfl⟩
  obtain ⟨W4, hW4⟩ : ∃ W, w3.alloc (.cells #[.int .i64 ck, .int .i64 cn, .string cs, .slice cpl cnl ccl, .slice cpm cnm ccm] 31) = W := ⟨_, rfl⟩
  rw [hW4] at hb4 hv4 ht4
  rw [hg4] at hv4
  try rw [hW4]
  try rw [hg4]
  have HT4 := Lib.hid ht4
  have HB4 := Lib.hid hb4
  have c0 := hv4.cell 0 rfl
  have c1 := hv4.cell 1 rfl
  have c2 := hv4.cell 2 rfl
  have c3 := hv4.cell 3 rfl
  have c4 := hv4.cell 4 rfl
  dsimp only at c0 c1 c2 c3 c4
  clear hW4 hg4 hb3 ht3 hb4 ht4 hv4 a0 a1 a2 a3 a4
  go_upto_region 4 with (go_at_call 18; refine (CT.out _ ⟨ck, cn, cs, cpl, cnl, ccl, cpm, cnm, ccm⟩ HT4.out).mono ?_; rintro e w5 ⟨rfl, hb5⟩)
  have hb25 : Below W2.heap.size W2 w5 := HB4.out.trans (hb5.mono HB4.out.size)
  have HT5 : Hid (TreeOf w5 w5.heap.size awV ⟨ak, an, aS, apl, anl, acl, apm, anm, acm⟩) := HT2.out.under hb25 hb25.size
  have HB5 : Hid (Below w.heap.size w w5) := HB2.out.trans (hb25.mono HB2.out.size)
  have hv5 := HV2.out.under hb25 HV2.out.lt
  have a0 := hv5.cell 0 rfl
  have a1 := hv5.cell 1 rfl
  have a2 := hv5.cell 2 rfl
  have a3 := hv5.cell 3 rfl
  have a4 := hv5.cell 4 rfl
  dsimp only at a0 a1 a2 a3 a4
  clear hv5 hb25 hb5 c0 c1 c2 c3 c4
  go_wp2_with (go_at_call 7; refine (CG2.out _ ⟨ak, an, aS, apl, anl, acl, apm, anm, acm⟩ HB5.out HT5.out).mono ?_; rintro e w6 ⟨r6, rfl, hb6⟩; obtain ⟨dk, dn, ds, dpl, dnl, dcl, dpm, dnm, dcm⟩ := r6)
  go_ret
  exact ⟨rfl, (HB5.out.trans (hb6.mono HB5.out.size)).alloc (by have := HB5.out.size; have := hb6.size; omega) _⟩
end Go.Proofs.YtanemojiaahbgaaGreatDoor
end
