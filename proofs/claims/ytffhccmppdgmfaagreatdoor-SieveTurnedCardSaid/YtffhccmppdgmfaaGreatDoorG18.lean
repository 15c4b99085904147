import Derived.Test.YtffhccmppdgmfaaGreatDoorG17
import Derived.Test.YtffhccmppdgmfaaGreatDoorG05
import Derived.Test.YtffhccmppdgmfaaGreatDoorG10
set_option linter.unusedSimpArgs false
set_option linter.unusedVariables false
set_option maxRecDepth 200000
set_option maxHeartbeats 8000000
namespace Go.Proofs.YtffhccmppdgmfaaGreatDoor
section
open Go Go.RowKit Go.OpenShut
def KAt (W : World) (g : Nat) (r : RV) : Prop := W.heap[g]? = some (.cells #[.int .i64 r.k, .int .i64 r.n, .string r.s, .slice r.pl r.nl r.cl, .slice r.pm r.nm r.cm] 74 (0, 0))
theorem KAt.cell {W : World} {g : Nat} {r : RV} (h : KAt W g r) (j : Nat) {u : Value} (hu : (encV r)[j]? = some u) : W.cell? ⟨g, j, none⟩ = some u := by
 unfold KAt at h
 rw [cell_of_row W g j _ _ _ h, <- Array.getElem?_toList]
 exact hu
theorem KAt.cells5 {W : World} {g : Nat} {r : RV} (h : KAt W g r) : W.cell? ⟨g, 0, none⟩ = some (.int .i64 r.k) /\ W.cell? ⟨g, 1, none⟩ = some (.int .i64 r.n) /\ W.cell? ⟨g, 2, none⟩ = some (.string r.s) /\ W.cell? ⟨g, 3, none⟩ = some (.slice r.pl r.nl r.cl) /\ W.cell? ⟨g, 4, none⟩ = some (.slice r.pm r.nm r.cm) := ⟨h.cell 0 rfl, h.cell 1 rfl, h.cell 2 rfl, h.cell 3 rfl, h.cell 4 rfl⟩
theorem KAt.under {W W' : World} {g B : Nat} {r : RV} (h : KAt W g r) (hb : Below B W W') (hg : g < B) : KAt W' g r := (hb.block g hg).trans h
theorem KAt.lt {W : World} {g : Nat} {r : RV} (h : KAt W g r) : g < W.heap.size := (Array.getElem?_eq_some_iff.1 h).1
def RV.kobj (r : RV) : Obj := .cells #[.int .i64 r.k, .int .i64 r.n, .string r.s, .slice r.pl r.nl r.cl, .slice r.pm r.nm r.cm] 74
theorem zero_get (s : ByteArray) : JV.zero.get s = none := getS_not (by decide) s
theorem hasJ_eq (t : JV) (name s : ByteArray) : hasJ t name s = (((t.get name).getD JV.zero).get s).isSome := by
 unfold hasJ
 cases t.get name with
 | none => rw [Option.getD_none, zero_get]; rfl
 | some x => rfl
theorem textM_two (t : JV) (n : ByteArray) : textM t n = [] \/ ∃ x, textM t n = [x] /\ ∃ y, t.get n = some y /\ y.s = x := by
 unfold textM
 cases t.get n with
 | none => exact .inl rfl
 | some x =>
   by_cases h : x.k = 4
   ·exact .inr ⟨x.s, if_pos h, x, rfl, rfl⟩
   ·exact .inl (if_neg h)
theorem textM_inB (t : JV) (n s : ByteArray) : inB (textM t n) s = decide (textM t n = [s]) := by
 rcases textM_two t n with h | ⟨x, h, _⟩
 ·rw [h]; unfold inB; simp
 ·rw [h]; unfold inB; simp [eq_comm]
theorem textM_small {t : JV} (ot : t.Ok) (n : ByteArray) : ∀ x ∈ textM t n, x.size <= maxLen := by
 intro x hx
 rcases textM_two t n with h | ⟨z, h, y, hy, e⟩
 ·rw [h] at hx; cases hx
 ·rw [h, List.mem_singleton] at hx
  subst hx
  subst e
  have := (getD_ok (n := n) ot)
  rw [hy] at this
  exact Nat.le_trans this.s_le.1 (by decide)
theorem khas_any (t : JV) (r : RV) (name s : ByteArray) (w : World) (B : Nat) (hBw : B <= w.heap.size) (ht : TreeOf w B t r) (ot : t.Ok) :
 Calls Tryz.prog 146 #[r.val, .string name, .string s] w fun e w' => e = .returned (.bool (hasJ t name s)) /\ Below w.heap.size w w' := by
 obtain ⟨W0, hW0⟩ : ∃ W0, w.alloc r.kobj = W0 := ⟨_, rfl⟩
 have hA0 : KAt W0 w.heap.size r := by rw [<- hW0]; exact heap_alloc_at rfl
 have hB0 : Below w.heap.size w W0 := by rw [<- hW0]; exact (Below.refl _ _).alloc (Nat.le_refl _) _
 have hw0 := hB0.size
 have hBw0 : B <= W0.heap.size := Nat.le_trans hBw hw0
 have HTR : Hid (∀ W, Below W0.heap.size W0 W -> TreeOf W B t r) := fun W hW => (ht.under (hB0.mono hBw) (Nat.le_refl _)).under (hW.mono hBw0) (Nat.le_refl _)
 rw [hasJ_eq]
 have HC : Hid (Calls Tryz.prog 15 #[r.val, .string name] W0 (GetRetB W0 B (t.get name))) := getB_any t r name W0 B hBw0 (HTR.out W0 (Below.refl _ _)) ot
 have HD : Hid (∀ W q, B <= W.heap.size -> TreeOf W B ((t.get name).getD JV.zero) q -> Calls Tryz.prog 15 #[q.val, .string s] W (GetRetB W B (((t.get name).getD JV.zero).get s))) := fun W q h1 h2 => getB_any _ q s W B h1 h2 (getD_ok ot)
 obtain ⟨X, hX⟩ : ∃ X, t.get name = X := ⟨_, rfl⟩
 rw [hX] at HC HD ⊢
 clear hX
 obtain ⟨k, n, s0, pl, nl, cl, pm, nm, cm⟩ := r
 dsimp only [RV.val, RV.kobj] at *
 have HB0 := Lib.hid hB0
 clear hB0 ht ot
 go_enter Tryz.func146, Tryz.ntmps146
 go_upto_region 1 with fail
 try rw [hW0]
 clear hW0
 obtain ⟨a0, a1, a2, a3, a4⟩ := hA0.cells5
 have hz0 := hA0.lt
 clear hA0
 go_upto_region 2 with (go_at_call 15; refine HC.out.mono ?_; rintro e w1 ⟨rv, bb, rfl, hbb, ht1, hb1⟩; obtain ⟨rk, rn, rS, rpl, rnl, rcl, rpm, rnm, rcm⟩ := rv)
 have hb2 : Below W0.heap.size W0 (w1.alloc (.cells #[.int .i64 rk, .int .i64 rn, .string rS, .slice rpl rnl rcl, .slice rpm rnm rcm] 25)) := hb1.alloc hb1.size _
 have hv2 : VAt (w1.alloc (.cells #[.int .i64 rk, .int .i64 rn, .string rS, .slice rpl rnl rcl, .slice rpm rnm rcm] 25)) w1.heap.size ⟨rk, rn, rS, rpl, rnl, rcl, rpm, rnm, rcm⟩ := heap_alloc_at rfl
 have ht2 := ht1.under ((Below.refl B w1).alloc (Nat.le_trans hBw0 hb1.size) (.cells #[.int .i64 rk, .int .i64 rn, .string rS, .slice rpl rnl rcl, .slice rpm rnm rcm] 25)) (Nat.le_refl _)
 obtain ⟨g, hg⟩ : ∃ g, w1.heap.size = g := ⟨_, rfl⟩
 obtain ⟨W2, hW2⟩ : ∃ W, w1.alloc (.cells #[.int .i64 rk, .int .i64 rn, .string rS, .slice rpl rnl rcl, .slice rpm rnm rcm] 25) = W := ⟨_, rfl⟩
 rw [hW2] at hb2 hv2 ht2
 rw [hg] at hv2
 try rw [hW2]
 try rw [hg]
 obtain ⟨v0, v1, v2, v3, v4⟩ := hv2.cells5
 dsimp only at v0 v1 v2 v3 v4
 have HE := Lib.hid (HD.out W2 _ (Nat.le_trans hBw0 hb2.size) ht2)
 dsimp only [RV.val] at HE
 have HB2 := Lib.hid hb2
 clear hW2 hg hb1 ht1 hb2 hv2 ht2 a0 a1 a2 a3 a4 hbb HC HD
 go_wp2_with (go_at_call 15; refine HE.out.mono ?_; rintro e w3 ⟨rv, b3, rfl, hbb, ht1, hb3⟩; (have HBB := Lib.hid hbb); clear hbb; obtain ⟨qk, qn, qS, qpl, qnl, qcl, qpm, qnm, qcm⟩ := rv)
 go_ret
 exact ⟨ret_boolI HBB.out, HB0.out.trans ((HB2.out.trans ((hb3.alloc hb3.size _).mono HB2.out.size)).mono hw0)⟩
theorem kbook_any (t : JV) (r : RV) (s : ByteArray) (w : World) (B : Nat) (hBw : B <= w.heap.size) (ht : TreeOf w B t r) (ot : t.Ok) :
 Calls Tryz.prog 118 #[r.val, .string s] w fun e w' => e = .returned (.bool (hasJ t svBookIds s)) /\ Below w.heap.size w w' := by
 obtain ⟨W0, hW0⟩ : ∃ W0, w.alloc r.kobj = W0 := ⟨_, rfl⟩
 have hA0 : KAt W0 w.heap.size r := by rw [<- hW0]; exact heap_alloc_at rfl
 have hB0 : Below w.heap.size w W0 := by rw [<- hW0]; exact (Below.refl _ _).alloc (Nat.le_refl _) _
 have hw0 := hB0.size
 have hBw0 : B <= W0.heap.size := Nat.le_trans hBw hw0
 have HTR : Hid (∀ W, Below W0.heap.size W0 W -> TreeOf W B t r) := fun W hW => (ht.under (hB0.mono hBw) (Nat.le_refl _)).under (hW.mono hBw0) (Nat.le_refl _)
 have HC : Hid (Calls Tryz.prog 146 #[r.val, .string svBookIds, .string s] W0 fun e w' => e = .returned (.bool (hasJ t svBookIds s)) /\ Below W0.heap.size W0 w') := khas_any t r svBookIds s W0 B hBw0 (HTR.out W0 (Below.refl _ _)) ot
 obtain ⟨X, hX⟩ : ∃ X, hasJ t svBookIds s = X := ⟨_, rfl⟩
 rw [hX] at HC ⊢
 unfold svBookIds at HC
 clear hX
 obtain ⟨k, n, s0, pl, nl, cl, pm, nm, cm⟩ := r
 dsimp only [RV.val, RV.kobj] at *
 have HB0 := Lib.hid hB0
 clear hB0 ht ot
 go_enter Tryz.func118, Tryz.ntmps118
 go_upto_region 1 with fail
 try rw [hW0]
 clear hW0
 obtain ⟨a0, a1, a2, a3, a4⟩ := hA0.cells5
 have hz0 := hA0.lt
 clear hA0
 go_wp2_with (go_at_call 146; refine HC.out.mono ?_; rintro e w1 ⟨rfl, hb1⟩)
 go_ret
 exact ⟨rfl, HB0.out.trans (hb1.mono hw0)⟩
theorem kmember_any (t : JV) (r : RV) (s : ByteArray) (w : World) (B : Nat) (hBw : B <= w.heap.size) (ht : TreeOf w B t r) (ot : t.Ok) :
 Calls Tryz.prog 120 #[r.val, .string s] w fun e w' => e = .returned (.bool (hasJ t svMembers s)) /\ Below w.heap.size w w' := by
 obtain ⟨W0, hW0⟩ : ∃ W0, w.alloc r.kobj = W0 := ⟨_, rfl⟩
 have hA0 : KAt W0 w.heap.size r := by rw [<- hW0]; exact heap_alloc_at rfl
 have hB0 : Below w.heap.size w W0 := by rw [<- hW0]; exact (Below.refl _ _).alloc (Nat.le_refl _) _
 have hw0 := hB0.size
 have hBw0 : B <= W0.heap.size := Nat.le_trans hBw hw0
 have HTR : Hid (∀ W, Below W0.heap.size W0 W -> TreeOf W B t r) := fun W hW => (ht.under (hB0.mono hBw) (Nat.le_refl _)).under (hW.mono hBw0) (Nat.le_refl _)
 have HC : Hid (Calls Tryz.prog 146 #[r.val, .string svMembers, .string s] W0 fun e w' => e = .returned (.bool (hasJ t svMembers s)) /\ Below W0.heap.size W0 w') := khas_any t r svMembers s W0 B hBw0 (HTR.out W0 (Below.refl _ _)) ot
 obtain ⟨X, hX⟩ : ∃ X, hasJ t svMembers s = X := ⟨_, rfl⟩
 rw [hX] at HC ⊢
 unfold svMembers at HC
 clear hX
 obtain ⟨k, n, s0, pl, nl, cl, pm, nm, cm⟩ := r
 dsimp only [RV.val, RV.kobj] at *
 have HB0 := Lib.hid hB0
 clear hB0 ht ot
 go_enter Tryz.func120, Tryz.ntmps120
 go_upto_region 1 with fail
 try rw [hW0]
 clear hW0
 obtain ⟨a0, a1, a2, a3, a4⟩ := hA0.cells5
 have hz0 := hA0.lt
 clear hA0
 go_wp2_with (go_at_call 146; refine HC.out.mono ?_; rintro e w1 ⟨rfl, hb1⟩)
 go_ret
 exact ⟨rfl, HB0.out.trans (hb1.mono hw0)⟩
theorem kuid_any (t : JV) (r : RV) (s : ByteArray) (w : World) (B : Nat) (hBw : B <= w.heap.size) (ht : TreeOf w B t r) (ot : t.Ok) :
 Calls Tryz.prog 119 #[r.val, .string s] w fun e w' => e = .returned (.bool (decide (textM t svUid = [s]))) /\ Below w.heap.size w w' := by
 obtain ⟨W0, hW0⟩ : ∃ W0, w.alloc r.kobj = W0 := ⟨_, rfl⟩
 have hA0 : KAt W0 w.heap.size r := by rw [<- hW0]; exact heap_alloc_at rfl
 have hB0 : Below w.heap.size w W0 := by rw [<- hW0]; exact (Below.refl _ _).alloc (Nat.le_refl _) _
 have hw0 := hB0.size
 have hBw0 : B <= W0.heap.size := Nat.le_trans hBw hw0
 have HTR : Hid (∀ W, Below W0.heap.size W0 W -> TreeOf W B t r) := fun W hW => (ht.under (hB0.mono hBw) (Nat.le_refl _)).under (hW.mono hBw0) (Nat.le_refl _)
 have HT : Hid (∀ W, Below W0.heap.size W0 W -> Calls Tryz.prog 59 #[r.val, .string svUid] W fun e w' => ∃ p c, e = .returned (.slice p (textM t svUid).length c) /\ Rd w' w'.heap.size encS 1 (.slice p (textM t svUid).length c) (textM t svUid) /\ Below W.heap.size W w') := by
  intro W hW
  refine (text_any t r svUid W B (Nat.le_trans hBw0 hW.size) (HTR.out W hW) ot).mono ?_
  rintro e w1 ⟨v, rfl, ho, hb⟩
  obtain ⟨a, cap, rfl, _⟩ := ho.len
  exact ⟨_, _, rfl, ho.rd codecS, hb⟩
 have HI : Hid (∀ W p c, Rd W W.heap.size encS 1 (.slice p (textM t svUid).length c) (textM t svUid) -> Calls Tryz.prog 96 #[.slice p (textM t svUid).length c, .string s] W fun e w' => e = .returned (.bool (decide (textM t svUid = [s]))) /\ w' = W) := by
  intro W p c hr
  rw [<- textM_inB]
  exact containsS_rd hr (Nat.le_trans (textM_len t svUid) (by decide)) s
 obtain ⟨L, hL⟩ : ∃ L, (textM t svUid).length = L := ⟨_, rfl⟩
 rw [hL] at HT HI
 obtain ⟨X, hX⟩ : ∃ X, decide (textM t svUid = [s]) = X := ⟨_, rfl⟩
 rw [hX] at HI ⊢
 clear hX hL
 rw [show svUid = ⟨#[117, 105, 100]⟩ from rfl] at HT
 obtain ⟨k, n, s0, pl, nl, cl, pm, nm, cm⟩ := r
 dsimp only [RV.val, RV.kobj] at *
 have HB0 := Lib.hid hB0
 clear hB0 ht ot
 go_enter Tryz.func119, Tryz.ntmps119
 go_upto_region 1 with fail
 try rw [hW0]
 clear hW0
 obtain ⟨a0, a1, a2, a3, a4⟩ := hA0.cells5
 have hz0 := hA0.lt
 clear hA0
 go_wp2_with (first
  | (go_at_call 59; refine (HT.out _ (Below.refl _ _)).mono ?_; rintro e w1 ⟨p1, c1, rfl, hr1, hb1⟩; have HR1 := Lib.hid hr1; clear hr1)
  | (go_at_call 96; refine (HI.out _ _ _ HR1.out).mono ?_; rintro e w2 ⟨rfl, rfl⟩))
 go_ret
 exact ⟨rfl, HB0.out.trans (hb1.mono hw0)⟩
theorem kkind_any (t : JV) (r : RV) (s : ByteArray) (w : World) (B : Nat) (hBw : B <= w.heap.size) (ht : TreeOf w B t r) (ot : t.Ok) :
 Calls Tryz.prog 121 #[r.val, .string s] w fun e w' => e = .returned (.bool (if (t.get kindN).isSome then decide (textM t kindN = [s]) else decide (s = svIndiv))) /\ Below w.heap.size w w' := by
 obtain ⟨W0, hW0⟩ : ∃ W0, w.alloc r.kobj = W0 := ⟨_, rfl⟩
 have hA0 : KAt W0 w.heap.size r := by rw [<- hW0]; exact heap_alloc_at rfl
 have hB0 : Below w.heap.size w W0 := by rw [<- hW0]; exact (Below.refl _ _).alloc (Nat.le_refl _) _
 have hw0 := hB0.size
 have hBw0 : B <= W0.heap.size := Nat.le_trans hBw hw0
 have HTR : Hid (∀ W, Below W0.heap.size W0 W -> TreeOf W B t r) := fun W hW => (ht.under (hB0.mono hBw) (Nat.le_refl _)).under (hW.mono hBw0) (Nat.le_refl _)
 have HC : Hid (Calls Tryz.prog 15 #[r.val, .string kindN] W0 (GetRetB W0 B (t.get kindN))) := getB_any t r kindN W0 B hBw0 (HTR.out W0 (Below.refl _ _)) ot
 have HQ : Hid ((s.toList == [105, 110, 100, 105, 118, 105, 100, 117, 97, 108]) = decide (s = svIndiv)) := by unfold Hid; rw [<- bytes_dec]; rfl
 have HT : Hid (∀ W, Below W0.heap.size W0 W -> Calls Tryz.prog 59 #[r.val, .string kindN] W fun e w' => ∃ p c, e = .returned (.slice p (textM t kindN).length c) /\ Rd w' w'.heap.size encS 1 (.slice p (textM t kindN).length c) (textM t kindN) /\ Below W.heap.size W w') := by
  intro W hW
  refine (text_any t r kindN W B (Nat.le_trans hBw0 hW.size) (HTR.out W hW) ot).mono ?_
  rintro e w1 ⟨v, rfl, ho, hb⟩
  obtain ⟨a, cap, rfl, _⟩ := ho.len
  exact ⟨_, _, rfl, ho.rd codecS, hb⟩
 have HI : Hid (∀ W p c, Rd W W.heap.size encS 1 (.slice p (textM t kindN).length c) (textM t kindN) -> Calls Tryz.prog 96 #[.slice p (textM t kindN).length c, .string s] W fun e w' => e = .returned (.bool (decide (textM t kindN = [s]))) /\ w' = W) := by
  intro W p c hr
  rw [<- textM_inB]
  exact containsS_rd hr (Nat.le_trans (textM_len t kindN) (by decide)) s
 obtain ⟨L, hL⟩ : ∃ L, (textM t kindN).length = L := ⟨_, rfl⟩
 rw [hL] at HT HI
 obtain ⟨X, hX⟩ : ∃ X, decide (textM t kindN = [s]) = X := ⟨_, rfl⟩
 rw [hX] at HI ⊢
 clear hX hL
 rw [show kindN = ⟨#[107, 105, 110, 100]⟩ from rfl] at HT HC
 obtain ⟨O, hO⟩ : ∃ O, t.get kindN = O := ⟨_, rfl⟩
 rw [show ⟨#[107, 105, 110, 100]⟩ = kindN from rfl] at HC
 rw [hO] at HC ⊢
 rw [show kindN = ⟨#[107, 105, 110, 100]⟩ from rfl] at HC
 clear hO
 obtain ⟨k, n, s0, pl, nl, cl, pm, nm, cm⟩ := r
 dsimp only [RV.val, RV.kobj] at *
 have HB0 := Lib.hid hB0
 clear hB0 ht ot
 cases O with
 | none =>
   rw [if_neg (by decide)]
   obtain ⟨Y, hY⟩ : ∃ Y, decide (s = svIndiv) = Y := ⟨_, rfl⟩
   have hq := HQ.out
   rw [hY] at hq
   rw [hY]
   clear hY HQ
   go_enter Tryz.func121, Tryz.ntmps121
   go_upto_region 1 with fail
   try rw [hW0]
   clear hW0
   obtain ⟨a0, a1, a2, a3, a4⟩ := hA0.cells5
   have hz0 := hA0.lt
   clear hA0
   go_upto_region 2 with (go_at_call 15; refine HC.out.mono ?_; rintro e w1 ⟨rv, bb, rfl, rfl, ht1, hb1⟩; obtain ⟨rk, rn, rS, rpl, rnl, rcl, rpm, rnm, rcm⟩ := rv)
   go_wp2_with fail
   go_ret
   exact ⟨rfl, HB0.out.trans ((hb1.alloc hb1.size _).mono hw0)⟩
 | some y =>
   rw [if_pos (show (some y).isSome = true from rfl)]
   go_enter Tryz.func121, Tryz.ntmps121
   go_upto_region 1 with fail
   try rw [hW0]
   clear hW0
   obtain ⟨a0, a1, a2, a3, a4⟩ := hA0.cells5
   have hz0 := hA0.lt
   clear hA0
   go_upto_region 2 with (go_at_call 15; refine HC.out.mono ?_; rintro e w1 ⟨rv, bb, rfl, rfl, ht1, hb1⟩; obtain ⟨rk, rn, rS, rpl, rnl, rcl, rpm, rnm, rcm⟩ := rv)
   have hb2 : Below W0.heap.size W0 (w1.alloc (.cells #[.int .i64 rk, .int .i64 rn, .string rS, .slice rpl rnl rcl, .slice rpm rnm rcm] 25)) := hb1.alloc hb1.size _
   have d0 := bcs hb2 hz0 a0
   have d1 := bcs hb2 hz0 a1
   have d2 := bcs hb2 hz0 a2
   have d3 := bcs hb2 hz0 a3
   have d4 := bcs hb2 hz0 a4
   have HT2 := Lib.hid (HT.out _ hb2)
   have HB2 := Lib.hid hb2
   clear ht1 hb2 hb1 HC
   go_wp2_with (first
    | (go_at_call 59; refine HT2.out.mono ?_; rintro e w2 ⟨p1, c1, rfl, hr1, hb3⟩; have HR1 := Lib.hid hr1; clear hr1)
    | (go_at_call 96; refine (HI.out _ _ _ HR1.out).mono ?_; rintro e w3 ⟨rfl, rfl⟩))
   go_ret
   exact ⟨rfl, HB0.out.trans ((HB2.out.trans (hb3.mono HB2.out.size)).mono hw0)⟩
theorem kahead_any (t : JV) (r : RV) (name s : ByteArray) (w : World) (B : Nat) (hBw : B <= w.heap.size) (ht : TreeOf w B t r) (ot : t.Ok) (hs : s.size <= maxLen) :
 Calls Tryz.prog 147 #[r.val, .string name, .string s] w fun e w' => e = .returned (.tuple #[.bool (decide (aheadO t name s = some true)), .bool (aheadO t name s).isSome]) /\ Below w.heap.size w w' := by
 obtain ⟨W0, hW0⟩ : ∃ W0, w.alloc r.kobj = W0 := ⟨_, rfl⟩
 have hA0 : KAt W0 w.heap.size r := by rw [<- hW0]; exact heap_alloc_at rfl
 have hB0 : Below w.heap.size w W0 := by rw [<- hW0]; exact (Below.refl _ _).alloc (Nat.le_refl _) _
 have hw0 := hB0.size
 have hBw0 : B <= W0.heap.size := Nat.le_trans hBw hw0
 have HTR : Hid (∀ W, Below W0.heap.size W0 W -> TreeOf W B t r) := fun W hW => (ht.under (hB0.mono hBw) (Nat.le_refl _)).under (hW.mono hBw0) (Nat.le_refl _)
 have HT : Hid (∀ W, Below W0.heap.size W0 W -> Calls Tryz.prog 59 #[r.val, .string name] W fun e w' => ∃ p c, e = .returned (.slice p (textM t name).length c) /\ Rd w' w'.heap.size encS 1 (.slice p (textM t name).length c) (textM t name) /\ Below W.heap.size W w') := by
  intro W hW
  refine (text_any t r name W B (Nat.le_trans hBw0 hW.size) (HTR.out W hW) ot).mono ?_
  rintro e w1 ⟨v, rfl, ho, hb⟩
  obtain ⟨a, cap, rfl, _⟩ := ho.len
  exact ⟨_, _, rfl, ho.rd codecS, hb⟩
 have hts := textM_small ot name
 rcases textM_two t name with h | ⟨x, h, _⟩
 ·rw [h] at HT
  have HA : Hid (aheadO t name s = none) := by unfold Hid aheadO; rw [h]
  rw [HA.out]
  clear h hts HA
  obtain ⟨k, n, s0, pl, nl, cl, pm, nm, cm⟩ := r
  dsimp only [RV.val, RV.kobj] at *
  have HB0 := Lib.hid hB0
  clear hB0 ht ot
  go_enter Tryz.func147, Tryz.ntmps147
  go_upto_region 1 with fail
  try rw [hW0]
  clear hW0
  obtain ⟨a0, a1, a2, a3, a4⟩ := hA0.cells5
  have hz0 := hA0.lt
  clear hA0
  go_wp2_with (go_at_call 59; refine (HT.out _ (Below.refl _ _)).mono ?_; rintro e w1 ⟨p1, c1, rfl, hr1, hb1⟩)
  refine bodyPost_ret (v := .tuple #[.bool false, .bool false]) (by simp [results, Tryz.results147, go_sem]) rfl ⟨by rfl, HB0.out.trans (hb1.mono hw0)⟩
 ·rw [h] at HT hts
  have hxs := hts x (by simp)
  have HS : Hid (∀ W, Calls Tryz.prog 111 #[.string x, .string s] W fun e w' => e = .returned (.int .i64 (cmpS x.data.toList s.data.toList)) /\ Below W.heap.size W w') := fun W => scomp_any x s W hxs hs
  have HA : Hid (aheadO t name s = some (decide (cmpS x.data.toList s.data.toList < 0))) := by unfold Hid aheadO; rw [h]
  rw [HA.out]
  clear h hts HA
  obtain ⟨C, hC⟩ : ∃ C, cmpS x.data.toList s.data.toList = C := ⟨_, rfl⟩
  rw [hC] at HS ⊢
  clear hC
  obtain ⟨Y, hY⟩ : ∃ Y, decide (C < 0) = Y := ⟨_, rfl⟩
  rw [hY]
  obtain ⟨k, n, s0, pl, nl, cl, pm, nm, cm⟩ := r
  dsimp only [RV.val, RV.kobj] at *
  have HB0 := Lib.hid hB0
  clear hB0 ht ot
  go_enter Tryz.func147, Tryz.ntmps147
  go_upto_region 1 with fail
  try rw [hW0]
  clear hW0
  obtain ⟨a0, a1, a2, a3, a4⟩ := hA0.cells5
  have hz0 := hA0.lt
  clear hA0
  go_upto_region 2 with (go_at_call 59; refine (HT.out _ (Below.refl _ _)).mono ?_; rintro e w1 ⟨p1, c1, rfl, hr1, hb1⟩)
  obtain ⟨b1, o1, rfl, hb1', hc1⟩ := rd_at' hr1 (k := 0) (x := x) rfl
  have f0 := hc1 0 _ rfl
  rw [Nat.add_zero] at f0
  try rw [Nat.zero_mul] at f0
  try rw [Nat.add_zero] at f0
  clear hr1 hc1 HT
  go_wp2_with (go_at_call 111; refine (HS.out _).mono ?_; rintro e w2 ⟨rfl, hb2⟩)
  refine bodyPost_ret (v := .tuple #[.bool Y, .bool true]) (by simp [results, Tryz.results147, go_sem]) rfl ⟨by cases Y <;> rfl, HB0.out.trans ((hb1.trans (hb2.mono hb1.size)).mono hw0)⟩
theorem kcrb_any (t : JV) (r : RV) (s : ByteArray) (w : World) (B : Nat) (hBw : B <= w.heap.size) (ht : TreeOf w B t r) (ot : t.Ok) (hs : s.size <= maxLen) :
 Calls Tryz.prog 122 #[r.val, .string s] w fun e w' => e = .returned (.bool (decide (aheadO t createdN s = some true))) /\ Below w.heap.size w w' := by
 obtain ⟨W0, hW0⟩ : ∃ W0, w.alloc r.kobj = W0 := ⟨_, rfl⟩
 have hA0 : KAt W0 w.heap.size r := by rw [<- hW0]; exact heap_alloc_at rfl
 have hB0 : Below w.heap.size w W0 := by rw [<- hW0]; exact (Below.refl _ _).alloc (Nat.le_refl _) _
 have hw0 := hB0.size
 have hBw0 : B <= W0.heap.size := Nat.le_trans hBw hw0
 have HTR : Hid (∀ W, Below W0.heap.size W0 W -> TreeOf W B t r) := fun W hW => (ht.under (hB0.mono hBw) (Nat.le_refl _)).under (hW.mono hBw0) (Nat.le_refl _)
 have HC : Hid (Calls Tryz.prog 147 #[r.val, .string createdN, .string s] W0 fun e w' => e = .returned (.tuple #[.bool (decide (aheadO t createdN s = some true)), .bool (aheadO t createdN s).isSome]) /\ Below W0.heap.size W0 w') := kahead_any t r createdN s W0 B hBw0 (HTR.out W0 (Below.refl _ _)) ot hs
 obtain ⟨X, hX⟩ : ∃ X, aheadO t createdN s = X := ⟨_, rfl⟩
 rw [hX] at HC ⊢
 rw [show createdN = ⟨#[99, 114, 101, 97, 116, 101, 100]⟩ from rfl] at HC
 clear hX
 obtain ⟨k, n, s0, pl, nl, cl, pm, nm, cm⟩ := r
 dsimp only [RV.val, RV.kobj] at *
 have HB0 := Lib.hid hB0
 clear hB0 ht ot
 rcases X with _ | (_ | _)
 all_goals
  go_enter Tryz.func122, Tryz.ntmps122
  go_upto_region 1 with fail
  try rw [hW0]
  clear hW0
  obtain ⟨a0, a1, a2, a3, a4⟩ := hA0.cells5
  have hz0 := hA0.lt
  clear hA0
  go_wp2_with (go_at_call 147; refine HC.out.mono ?_; rintro e w1 ⟨rfl, hb1⟩)
  go_ret
  exact ⟨by first | rfl | simp, HB0.out.trans (hb1.mono hw0)⟩
theorem kcra_any (t : JV) (r : RV) (s : ByteArray) (w : World) (B : Nat) (hBw : B <= w.heap.size) (ht : TreeOf w B t r) (ot : t.Ok) (hs : s.size <= maxLen) :
 Calls Tryz.prog 123 #[r.val, .string s] w fun e w' => e = .returned (.bool (decide (aheadO t createdN s = some false))) /\ Below w.heap.size w w' := by
 obtain ⟨W0, hW0⟩ : ∃ W0, w.alloc r.kobj = W0 := ⟨_, rfl⟩
 have hA0 : KAt W0 w.heap.size r := by rw [<- hW0]; exact heap_alloc_at rfl
 have hB0 : Below w.heap.size w W0 := by rw [<- hW0]; exact (Below.refl _ _).alloc (Nat.le_refl _) _
 have hw0 := hB0.size
 have hBw0 : B <= W0.heap.size := Nat.le_trans hBw hw0
 have HTR : Hid (∀ W, Below W0.heap.size W0 W -> TreeOf W B t r) := fun W hW => (ht.under (hB0.mono hBw) (Nat.le_refl _)).under (hW.mono hBw0) (Nat.le_refl _)
 have HC : Hid (Calls Tryz.prog 147 #[r.val, .string createdN, .string s] W0 fun e w' => e = .returned (.tuple #[.bool (decide (aheadO t createdN s = some true)), .bool (aheadO t createdN s).isSome]) /\ Below W0.heap.size W0 w') := kahead_any t r createdN s W0 B hBw0 (HTR.out W0 (Below.refl _ _)) ot hs
 obtain ⟨X, hX⟩ : ∃ X, aheadO t createdN s = X := ⟨_, rfl⟩
 rw [hX] at HC ⊢
 rw [show createdN = ⟨#[99, 114, 101, 97, 116, 101, 100]⟩ from rfl] at HC
 clear hX
 obtain ⟨k, n, s0, pl, nl, cl, pm, nm, cm⟩ := r
 dsimp only [RV.val, RV.kobj] at *
 have HB0 := Lib.hid hB0
 clear hB0 ht ot
 rcases X with _ | (_ | _)
 all_goals
  go_enter Tryz.func123, Tryz.ntmps123
  go_upto_region 1 with fail
  try rw [hW0]
  clear hW0
  obtain ⟨a0, a1, a2, a3, a4⟩ := hA0.cells5
  have hz0 := hA0.lt
  clear hA0
  go_wp2_with (go_at_call 147; refine HC.out.mono ?_; rintro e w1 ⟨rfl, hb1⟩)
  go_ret
  exact ⟨by first | rfl | simp, HB0.out.trans (hb1.mono hw0)⟩
theorem kupb_any (t : JV) (r : RV) (s : ByteArray) (w : World) (B : Nat) (hBw : B <= w.heap.size) (ht : TreeOf w B t r) (ot : t.Ok) (hs : s.size <= maxLen) :
 Calls Tryz.prog 124 #[r.val, .string s] w fun e w' => e = .returned (.bool (decide (aheadO t updatedN s = some true))) /\ Below w.heap.size w w' := by
 obtain ⟨W0, hW0⟩ : ∃ W0, w.alloc r.kobj = W0 := ⟨_, rfl⟩
 have hA0 : KAt W0 w.heap.size r := by rw [<- hW0]; exact heap_alloc_at rfl
 have hB0 : Below w.heap.size w W0 := by rw [<- hW0]; exact (Below.refl _ _).alloc (Nat.le_refl _) _
 have hw0 := hB0.size
 have hBw0 : B <= W0.heap.size := Nat.le_trans hBw hw0
 have HTR : Hid (∀ W, Below W0.heap.size W0 W -> TreeOf W B t r) := fun W hW => (ht.under (hB0.mono hBw) (Nat.le_refl _)).under (hW.mono hBw0) (Nat.le_refl _)
 have HC : Hid (Calls Tryz.prog 147 #[r.val, .string updatedN, .string s] W0 fun e w' => e = .returned (.tuple #[.bool (decide (aheadO t updatedN s = some true)), .bool (aheadO t updatedN s).isSome]) /\ Below W0.heap.size W0 w') := kahead_any t r updatedN s W0 B hBw0 (HTR.out W0 (Below.refl _ _)) ot hs
 obtain ⟨X, hX⟩ : ∃ X, aheadO t updatedN s = X := ⟨_, rfl⟩
 rw [hX] at HC ⊢
 rw [show updatedN = ⟨#[117, 112, 100, 97, 116, 101, 100]⟩ from rfl] at HC
 clear hX
 obtain ⟨k, n, s0, pl, nl, cl, pm, nm, cm⟩ := r
 dsimp only [RV.val, RV.kobj] at *
 have HB0 := Lib.hid hB0
 clear hB0 ht ot
 rcases X with _ | (_ | _)
 all_goals
  go_enter Tryz.func124, Tryz.ntmps124
  go_upto_region 1 with fail
  try rw [hW0]
  clear hW0
  obtain ⟨a0, a1, a2, a3, a4⟩ := hA0.cells5
  have hz0 := hA0.lt
  clear hA0
  go_wp2_with (go_at_call 147; refine HC.out.mono ?_; rintro e w1 ⟨rfl, hb1⟩)
  go_ret
  exact ⟨by first | rfl | simp, HB0.out.trans (hb1.mono hw0)⟩
theorem kupa_any (t : JV) (r : RV) (s : ByteArray) (w : World) (B : Nat) (hBw : B <= w.heap.size) (ht : TreeOf w B t r) (ot : t.Ok) (hs : s.size <= maxLen) :
 Calls Tryz.prog 125 #[r.val, .string s] w fun e w' => e = .returned (.bool (decide (aheadO t updatedN s = some false))) /\ Below w.heap.size w w' := by
 obtain ⟨W0, hW0⟩ : ∃ W0, w.alloc r.kobj = W0 := ⟨_, rfl⟩
 have hA0 : KAt W0 w.heap.size r := by rw [<- hW0]; exact heap_alloc_at rfl
 have hB0 : Below w.heap.size w W0 := by rw [<- hW0]; exact (Below.refl _ _).alloc (Nat.le_refl _) _
 have hw0 := hB0.size
 have hBw0 : B <= W0.heap.size := Nat.le_trans hBw hw0
 have HTR : Hid (∀ W, Below W0.heap.size W0 W -> TreeOf W B t r) := fun W hW => (ht.under (hB0.mono hBw) (Nat.le_refl _)).under (hW.mono hBw0) (Nat.le_refl _)
 have HC : Hid (Calls Tryz.prog 147 #[r.val, .string updatedN, .string s] W0 fun e w' => e = .returned (.tuple #[.bool (decide (aheadO t updatedN s = some true)), .bool (aheadO t updatedN s).isSome]) /\ Below W0.heap.size W0 w') := kahead_any t r updatedN s W0 B hBw0 (HTR.out W0 (Below.refl _ _)) ot hs
 obtain ⟨X, hX⟩ : ∃ X, aheadO t updatedN s = X := ⟨_, rfl⟩
 rw [hX] at HC ⊢
 rw [show updatedN = ⟨#[117, 112, 100, 97, 116, 101, 100]⟩ from rfl] at HC
 clear hX
 obtain ⟨k, n, s0, pl, nl, cl, pm, nm, cm⟩ := r
 dsimp only [RV.val, RV.kobj] at *
 have HB0 := Lib.hid hB0
 clear hB0 ht ot
 rcases X with _ | (_ | _)
 all_goals
  go_enter Tryz.func125, Tryz.ntmps125
  go_upto_region 1 with fail
  try rw [hW0]
  clear hW0
  obtain ⟨a0, a1, a2, a3, a4⟩ := hA0.cells5
  have hz0 := hA0.lt
  clear hA0
  go_wp2_with (go_at_call 147; refine HC.out.mono ?_; rintro e w1 ⟨rfl, hb1⟩)
  go_ret
  exact ⟨by first | rfl | simp, HB0.out.trans (hb1.mono hw0)⟩
theorem svchk_any (N : Nat) : ∀ (t : JV) (r : RV) (w : World) (B : Nat), SizeOf.sizeOf t <= N -> B <= w.heap.size -> TreeOf w B t r -> t.Ok -> AllAt w ->
 Calls Tryz.prog 50 #[r.val] w fun e w' => e = .returned (.int .i64 (chkF t)) /\ Below w.heap.size w w' := by
 induction N with
 | zero => intro t r w B hN; cases t; simp at hN
 | succ N ih =>
   intro t r w B hN hBw ht ot hall
   obtain ⟨W0, hW0⟩ : ∃ W0, w.alloc r.obj = W0 := ⟨_, rfl⟩
   have hA0 : VAt W0 w.heap.size r := by rw [<- hW0]; exact heap_alloc_at rfl
   have hB0 : Below w.heap.size w W0 := by rw [<- hW0]; exact (Below.refl _ _).alloc (Nat.le_refl _) _
   have hw0 := hB0.size
   have hBw0 : B <= W0.heap.size := Nat.le_trans hBw hw0
   have HTR : Hid (∀ W, Below W0.heap.size W0 W -> TreeOf W B t r) := fun W hW => (ht.under (hB0.mono hBw) (Nat.le_refl _)).under (hW.mono hBw0) (Nat.le_refl _)
   have HALL : Hid (∀ W, Below W0.heap.size W0 W -> AllAt W) := fun W hW => (hall.below hB0).below hW
   have HC : Hid (Calls Tryz.prog 15 #[r.val, .string svOper] W0 (GetRetB W0 B (t.get svOper))) := getB_any t r svOper W0 B hBw0 (HTR.out W0 (Below.refl _ _)) ot
   have HOP : Hid (∀ W, Below W0.heap.size W0 W -> Calls Tryz.prog 88 #[r.val] W fun e w' => ∃ v, e = .returned (.tuple #[.string ((t.get svOper).getD JV.zero).s, v, .bool (opOk t)]) /\ TlOf w' B v (condsL t) /\ Below W.heap.size W w') := fun W hW => opr_any t r W B (Nat.le_trans hBw0 hW.size) (HTR.out W hW) ot
   have HIH : Hid (∀ (i : Nat) x (q : RV) (W : World), (condsL t)[i]? = some x -> Below W0.heap.size W0 W -> TreeOf W B x q -> Calls Tryz.prog 50 #[q.val] W fun e w' => e = .returned (.int .i64 (chkF x)) /\ Below W.heap.size W w') := fun i x q W hx hW hq => ih x q W B (by have := condsL_lt (List.mem_of_getElem? hx); omega) (Nat.le_trans hBw0 hW.size) hq ((condsL_ok ot).2 i x hx) (HALL.out W hW)
   obtain ⟨rms, hm, hml, hmt⟩ := ht.ml
   have hmo := m_ok ot
   have hrl : rms.length = r.nm := (rd_nlen hm).symm
   have HCM : Hid (∀ (i : Nat) p (q : RM) (W : World), t.m[i]? = some p -> rms[i]? = some q -> Below W0.heap.size W0 W -> Calls Tryz.prog 87 #[q.val] W fun e w' => e = .returned (.int .i64 (condE p.1 p.2)) /\ Below W.heap.size W w') := fun i p q W hp hq hW => by
    obtain ⟨h1, h2⟩ := hmt i p q hp hq
    have h3 := h2.kk
    obtain ⟨qn, qv⟩ := q
    dsimp only at h1
    subst h1
    exact cond_any p.1 p.2 qv h3.1 h3.2 (by have := hmo.2.1 i p hp; unfold maxLen; omega) (Ok_s (hmo.2.2 i p hp)) W (HALL.out W hW)
   have HRD : Hid (Rd W0 B encM 6 (.slice r.pm r.nm r.cm) rms) := hm.below (hB0.mono hBw) (Nat.le_refl _)
   have HCF := Lib.hid (chkF_eq t)
   have HKK := Lib.hid ht.kk.1
   have HCO := Lib.hid (condsL_ok ot).1
   obtain ⟨E, hE⟩ : ∃ E, chkF t = E := ⟨_, rfl⟩
   obtain ⟨X, hX⟩ : ∃ X, t.get svOper = X := ⟨_, rfl⟩
   obtain ⟨OK, hOK⟩ : ∃ b, opOk t = b := ⟨_, rfl⟩
   obtain ⟨CL, hCL⟩ : ∃ b, condsL t = b := ⟨_, rfl⟩
   obtain ⟨M, hM⟩ : ∃ b, t.m = b := ⟨_, rfl⟩
   obtain ⟨TK, hTK⟩ : ∃ b, t.k = b := ⟨_, rfl⟩
   rw [hE, hX, hOK, hCL, hM, hTK] at HCF
   rw [hE]
   rw [hX] at HC HOP
   rw [hOK, hCL] at HOP
   rw [hCL] at HIH HCO
   rw [hM] at HCM hml hmo
   rw [hTK] at HKK
   unfold svOper at HC
   have hno : r.nm <= 1466015503658 := by have := hmo.1; omega
   have HN : Hid (M.length = r.nm) := by unfold Hid; omega
   obtain ⟨k, n, s, pl, nl, cl, pm, nm, cm⟩ := r
   dsimp only [RV.val, RV.obj] at *
   have HB0 := Lib.hid hB0
   have HRL := Lib.hid hrl
   clear hB0 ht ot hE hX hOK hCL hM hTK hm hml hmt hmo ih hall hrl hN
   go_enter Tryz.func50, Tryz.ntmps50
   go_upto_region 1 with fail
   try rw [hW0]
   clear hW0
   obtain ⟨a0, a1, a2, a3, a4⟩ := hA0.cells5
   have hz0 := hA0.lt
   clear hA0
   by_cases hk6 : k = 6
   ·have HCF2 : Hid (E = if X.isSome = true then (if OK = true then chkFL CL else 1) else condsE M) := by
     unfold Hid
     rw [HCF.out, <- HKK.out, if_pos hk6]
    subst hk6
    clear HCF HKK
    go_upto_region 4 with (go_at_call 15; refine HC.out.mono ?_; rintro e w1 ⟨rv, bb, rfl, hbb, ht1, hb1⟩; (have HBB := Lib.hid hbb); clear hbb; obtain ⟨rk, rn, rS, rpl, rnl, rcl, rpm, rnm, rcm⟩ := rv)
    have hb2 : Below W0.heap.size W0 (w1.alloc (.cells #[.int .i64 rk, .int .i64 rn, .string rS, .slice rpl rnl rcl, .slice rpm rnm rcm] 25)) := hb1.alloc hb1.size _
    obtain ⟨g, hg⟩ : ∃ g, w1.heap.size = g := ⟨_, rfl⟩
    obtain ⟨W2, hW2⟩ : ∃ W, w1.alloc (.cells #[.int .i64 rk, .int .i64 rn, .string rS, .slice rpl rnl rcl, .slice rpm rnm rcm] 25) = W := ⟨_, rfl⟩
    rw [hW2] at hb2
    try rw [hW2]
    try rw [hg]
    have b0 := bcs hb2 hz0 a0
    have b1 := bcs hb2 hz0 a1
    have b2 := bcs hb2 hz0 a2
    have b3 := bcs hb2 hz0 a3
    have b4 := bcs hb2 hz0 a4
    have HB2 := Lib.hid hb2
    have hz2 := Nat.lt_of_lt_of_le hz0 hb2.size
    have hzz := hb2.size
    clear hW2 hg hb1 ht1 hb2 a0 a1 a2 a3 a4 HC
    cases X with
    | none =>
      obtain rfl : bb = false := HBB.out
      have HE2 : Hid (E = condsE M) := HCF2.out
      clear HCF2 HOP HIH
      go_wp2_with fail
      go_loopw [27] (fun i wr => ∃ j : Nat, j <= nm /\ i = .int .i64 (j : Int) /\ Hid (condsE (M.drop j) = E /\ Below W0.heap.size W0 wr)) (fun i _ => nm - (intOf i).toNat)
      case atStart => exact ⟨0, by omega, rfl, HE2.out.symm, HB2.out⟩
      case round =>
       obtain ⟨j, hj, rfl, hH⟩ := hrel
       have HJ := Lib.hid hH.out.1
       have HBR := Lib.hid hH.out.2
       clear hH
       have hj0 : (0 : Int) <= (j : Int) := Int.natCast_nonneg _
       have hbz := HBR.out.size
       by_cases hlt : j < nm
       ·obtain ⟨y, hy⟩ : ∃ y, M[j]? = some y := ⟨_, List.getElem?_eq_getElem (by have := HN.out; omega)⟩
        obtain ⟨⟨xname, ⟨xk, xn, xs, xpl, xnl, xcl, xpm, xnm, xcm⟩⟩, hx⟩ : ∃ x, rms[j]? = some x := ⟨_, List.getElem?_eq_getElem (by have := HRL.out; omega)⟩
        have hj1 : (j : Int) < (nm : Int) := by omega
        obtain ⟨b1', o1, rfl, hb1, hc1⟩ := rd_at' (HRD.out.below (HBR.out.mono hBw0) (Nat.le_refl _)) hx
        have f0 := hc1 0 _ rfl
        have f1 := hc1 1 _ rfl
        have f2 := hc1 2 _ rfl
        have f3 := hc1 3 _ rfl
        have f4 := hc1 4 _ rfl
        have f5 := hc1 5 _ rfl
        rw [Nat.add_zero] at f0
        dsimp only at f0 f1 f2 f3 f4 f5
        have hba : Below W0.heap.size W0 (wr.alloc (.cells #[.string xname, .int .i64 xk, .int .i64 xn, .string xs, .slice xpl xnl xcl, .slice xpm xnm xcm] 32)) := HBR.out.alloc hbz _
        have HBA := Lib.hid hba
        have HCC := Lib.hid (HCM.out j y _ _ hy hx hba)
        dsimp only [RM.val] at HCC
        have HJ2 := Lib.hid ((condsE_drop hy).symm.trans HJ.out)
        obtain ⟨CE, hCE⟩ : ∃ c, condE y.1 y.2 = c := ⟨_, rfl⟩
        rw [hCE] at HCC HJ2
        clear hy hx hc1 hba hCE
        by_cases hce : CE = 0
        ·have HJ3 : Hid (condsE (M.drop (j + 1)) = E) := by
          have := HJ2.out
          rw [if_pos hce] at this
          exact this
         subst hce
         clear HJ2
         go_wp2_with (go_at_call 87; (with_reducible refine HCC.out.mono ?_); rintro e w3 ⟨rfl, hb3⟩)
         go_roundw
         case rel => exact ⟨j + 1, by omega, by go_num, HJ3.out, HBA.out.trans (hb3.mono HBA.out.size)⟩
         case measure => simp [intOf]; omega
        ·have HJ3 : Hid (CE = E) := by
          have := HJ2.out
          rw [if_neg hce] at this
          exact this
         have q1 : (CE != 0) = true := by simpa using hce
         have q2 : (CE == 0) = false := by simpa using hce
         clear HJ2 hce
         go_wp2_with (go_at_call 87; (with_reducible refine HCC.out.mono ?_); rintro e w3 ⟨rfl, hb3⟩)
         go_ret
         exact ⟨by rw [HJ3.out]; rfl, HB0.out.trans ((HBA.out.trans (hb3.mono HBA.out.size)).mono hw0)⟩
       ·obtain rfl : j = nm := by omega
        have HJ3 : Hid (E = 0) := by
         have := HJ.out
         rw [List.drop_eq_nil_of_le (by have := HN.out; omega)] at this
         exact this.symm
        clear HJ
        go_wp2_with fail
        go_ret
        exact ⟨by rw [HJ3.out]; rfl, HB0.out.trans (HBR.out.mono hw0)⟩
    | some o =>
      obtain rfl : bb = true := HBB.out
      have HOC := Lib.hid (HOP.out W2 HB2.out)
      cases OK with
      | false =>
        have HE2 : Hid (E = 1) := HCF2.out
        clear HCF2 HOP HIH HCM
        go_wp2_with (go_at_call 88; (with_reducible refine HOC.out.mono ?_); rintro e w3 ⟨v, rfl, htl, hb3⟩)
        go_ret
        exact ⟨by rw [HE2.out]; rfl, HB0.out.trans ((HB2.out.trans (hb3.mono hzz)).mono hw0)⟩
      | true =>
        have HE2 : Hid (E = chkFL CL) := HCF2.out
        clear HCF2 HOP HCM
        go_upto_region 16 with (go_at_call 88; (with_reducible refine HOC.out.mono ?_); rintro e w3 ⟨v, rfl, htl, hb3⟩)
        obtain ⟨rs, hr, hlen, htt⟩ := htl
        obtain ⟨p9, n9, c9, rfl⟩ : ∃ p n c, v = Value.slice p n c := by (obtain ⟨p, c, h, _⟩ := hr; exact ⟨p, _, c, h⟩)
        have hrl : rs.length = n9 := (rd_nlen hr).symm
        have HNL : Hid (CL.length = n9) := by unfold Hid; omega
        have hn9 : n9 <= 1759218604390 := by have := HCO.out; have := HNL.out; omega
        have HRS := Lib.hid hr
        have HTT := Lib.hid htt
        have HB3 : Hid (Below W0.heap.size W0 w3) := HB2.out.trans (hb3.mono hzz)
        have hBw3 : B <= w3.heap.size := Nat.le_trans hBw0 HB3.out.size
        have hz3 := HB3.out.size
        clear hr hlen htt hb3 b0 b1 b2 b3 b4 HOC HRD
        go_wp2_with fail
        go_loopw [47] (fun i wr => ∃ j : Nat, j <= n9 /\ i = .int .i64 (j : Int) /\ Hid (chkFL (CL.drop j) = E /\ Below w3.heap.size w3 wr)) (fun i _ => n9 - (intOf i).toNat)
        case atStart => exact ⟨0, by omega, rfl, HE2.out.symm, Below.refl _ _⟩
        case round =>
         obtain ⟨j, hj, rfl, hH⟩ := hrel
         have HJ := Lib.hid hH.out.1
         have HBR := Lib.hid hH.out.2
         clear hH
         have hj0 : (0 : Int) <= (j : Int) := Int.natCast_nonneg _
         have hbz := HBR.out.size
         by_cases hlt : j < n9
         ·obtain ⟨y, hy⟩ : ∃ y, CL[j]? = some y := ⟨_, List.getElem?_eq_getElem (by have := HNL.out; omega)⟩
          obtain ⟨⟨xk, xn, xs, xpl, xnl, xcl, xpm, xnm, xcm⟩, hx⟩ : ∃ x, rs[j]? = some x := ⟨_, List.getElem?_eq_getElem (by omega)⟩
          have hj1 : (j : Int) < (n9 : Int) := by omega
          obtain ⟨b1', o1, rfl, hb1, hc1⟩ := rd_at' (HRS.out.below (HBR.out.mono hBw3) (Nat.le_refl _)) hx
          have f0 := hc1 0 _ rfl
          have f1 := hc1 1 _ rfl
          have f2 := hc1 2 _ rfl
          have f3 := hc1 3 _ rfl
          have f4 := hc1 4 _ rfl
          rw [Nat.add_zero] at f0
          dsimp only at f0 f1 f2 f3 f4
          have hba : Below w3.heap.size w3 (wr.alloc (.cells #[.int .i64 xk, .int .i64 xn, .string xs, .slice xpl xnl xcl, .slice xpm xnm xcm] 25)) := HBR.out.alloc hbz _
          have HBA := Lib.hid hba
          have HCC := Lib.hid (HIH.out j y _ _ hy (HB3.out.trans (hba.mono hz3)) ((HTT.out j y _ hy hx).under (hba.mono hBw3) (Nat.le_refl _)))
          dsimp only [RV.val] at HCC
          have HJ2 := Lib.hid ((chkFL_drop hy).symm.trans HJ.out)
          obtain ⟨CE, hCE⟩ : ∃ c, chkF y = c := ⟨_, rfl⟩
          rw [hCE] at HCC HJ2
          clear hy hx hc1 hba hCE
          by_cases hce : CE = 0
          ·have HJ3 : Hid (chkFL (CL.drop (j + 1)) = E) := by
            have := HJ2.out
            rw [if_pos hce] at this
            exact this
           subst hce
           clear HJ2
           go_wp2_with (go_at_call 50; (with_reducible refine HCC.out.mono ?_); rintro e w4 ⟨rfl, hb4⟩)
           go_roundw
           case rel => exact ⟨j + 1, by omega, by go_num, HJ3.out, HBA.out.trans (hb4.mono HBA.out.size)⟩
           case measure => simp [intOf]; omega
          ·have HJ3 : Hid (CE = E) := by
            have := HJ2.out
            rw [if_neg hce] at this
            exact this
           have q1 : (CE != 0) = true := by simpa using hce
           have q2 : (CE == 0) = false := by simpa using hce
           clear HJ2 hce
           go_wp2_with (go_at_call 50; (with_reducible refine HCC.out.mono ?_); rintro e w4 ⟨rfl, hb4⟩)
           go_ret
           exact ⟨by rw [HJ3.out]; rfl, HB0.out.trans ((HB3.out.trans ((HBA.out.trans (hb4.mono HBA.out.size)).mono hz3)).mono hw0)⟩
         ·obtain rfl : j = n9 := by omega
          have HJ3 : Hid (E = 0) := by
           have := HJ.out
           rw [List.drop_eq_nil_of_le (by have := HNL.out; omega)] at this
           have h0 : chkFL [] = 0 := by rw [chkFL]
           exact (h0.symm.trans this).symm
          clear HJ
          go_wp2_with fail
          go_ret
          exact ⟨by rw [HJ3.out]; rfl, HB0.out.trans ((HB3.out.trans (HBR.out.mono hz3)).mono hw0)⟩
   ·have HE2 : Hid (E = 1) := by
     unfold Hid
     rw [HCF.out, <- HKK.out, if_neg hk6]
    have q1 : (k != 6) = true := by simpa using hk6
    have q2 : (k == 6) = false := by simpa using hk6
    clear HCF HKK hk6 HIH HOP HCM
    go_wp2_with fail
    go_ret
    exact ⟨by rw [HE2.out]; rfl, HB0.out⟩
theorem svCheck_any (t : JV) (r : RV) (w : World) (B : Nat) (hBw : B <= w.heap.size) (ht : TreeOf w B t r) (ot : t.Ok) (hct : countT t <= 100000) (hall : AllAt w) :
 Calls Tryz.prog 19 #[r.val] w fun e w' => e = .returned (.int .i64 (checkJ t)) /\ Below w.heap.size w w' := by
 obtain ⟨W0, hW0⟩ : ∃ W0, w.alloc r.obj = W0 := ⟨_, rfl⟩
 have hA0 : VAt W0 w.heap.size r := by rw [<- hW0]; exact heap_alloc_at rfl
 have hB0 : Below w.heap.size w W0 := by rw [<- hW0]; exact (Below.refl _ _).alloc (Nat.le_refl _) _
 have hw0 := hB0.size
 have hBw0 : B <= W0.heap.size := Nat.le_trans hBw hw0
 have hT0 : TreeOf W0 B t r := ht.under (hB0.mono hBw) (Nat.le_refl _)
 have HCN : Hid (Calls Tryz.prog 28 #[r.val] W0 fun e w' => e = .returned (.int .i64 (countT t)) /\ Below W0.heap.size W0 w') := (countT_any _ t r W0 (Nat.le_refl _) (hT0.mono hBw0) ot).mono fun e w' h => by
  obtain ⟨h1, h2⟩ := h
  have e1 : IntKind.i64.wrap (countT t : Int) = (countT t : Int) := by rw [IntKind.wrap_i64]; omega
  rw [e1] at h1
  exact ⟨h1, h2⟩
 have HCK : Hid (∀ W, Below W0.heap.size W0 W -> Calls Tryz.prog 50 #[r.val] W fun e w' => e = .returned (.int .i64 (chkF t)) /\ Below W.heap.size W w') := fun W hW => svchk_any _ t r W B (Nat.le_refl _) (Nat.le_trans hBw0 hW.size) (hT0.under (hW.mono hBw0) (Nat.le_refl _)) ot ((hall.below hB0).below hW)
 have HCF : Hid (checkJ t = if r.k = 1 then 0 else if 30 < countT t then 200 else chkF t) := by
  unfold Hid checkJ
  rw [ht.kk.1]
 obtain ⟨E, hE⟩ : ∃ E, checkJ t = E := ⟨_, rfl⟩
 obtain ⟨C, hC⟩ : ∃ E, countT t = E := ⟨_, rfl⟩
 obtain ⟨F, hF⟩ : ∃ E, chkF t = E := ⟨_, rfl⟩
 rw [hE, hC, hF] at HCF
 rw [hE]
 rw [hC] at HCN
 rw [hF] at HCK
 obtain ⟨k, n, s, pl, nl, cl, pm, nm, cm⟩ := r
 dsimp only [RV.val, RV.obj] at *
 have HB0 := Lib.hid hB0
 have c0 : (0 : Int) <= (C : Int) := Int.natCast_nonneg _
 clear hB0 ht ot hE hC hF hct hall hT0
 go_enter Tryz.func19, Tryz.ntmps19
 go_upto_region 1 with fail
 try rw [hW0]
 clear hW0
 obtain ⟨a0, a1, a2, a3, a4⟩ := hA0.cells5
 have hz0 := hA0.lt
 clear hA0
 by_cases hk1 : k = 1
 ·have HE2 : Hid (E = 0) := by unfold Hid; rw [HCF.out, if_pos hk1]
  subst hk1
  clear HCF HCN HCK
  go_wp2_with fail
  go_ret
  exact ⟨by rw [HE2.out]; rfl, HB0.out⟩
 have q1 : (k == 1) = false := by simpa using hk1
 by_cases hc : 30 < C
 ·have HE2 : Hid (E = 200) := by unfold Hid; rw [HCF.out, if_neg hk1, if_pos hc]
  have q2 : decide ((30 : Int) < (C : Int)) = true := decide_eq_true (by omega)
  have q3 : decide (30 < C) = true := decide_eq_true hc
  clear HCF HCK hk1
  go_wp2_with (go_at_call 28; (with_reducible refine HCN.out.mono ?_); rintro e w1 ⟨rfl, hb1⟩)
  go_ret
  exact ⟨by rw [HE2.out]; rfl, HB0.out.trans (hb1.mono hw0)⟩
 ·have HE2 : Hid (E = F) := by unfold Hid; rw [HCF.out, if_neg hk1, if_neg hc]
  have q2 : decide ((30 : Int) < (C : Int)) = false := decide_eq_false (by omega)
  have q3 : decide (30 < C) = false := decide_eq_false hc
  clear HCF hk1
  go_wp2_with (first
   | (go_at_call 28; (with_reducible refine HCN.out.mono ?_); rintro e w1 ⟨rfl, hb1⟩; (have d0 := bcs hb1 hz0 a0); (have d1 := bcs hb1 hz0 a1); (have d2 := bcs hb1 hz0 a2); (have d3 := bcs hb1 hz0 a3); (have d4 := bcs hb1 hz0 a4))
   | (go_at_call 50; (with_reducible refine (HCK.out _ hb1).mono ?_); rintro e w2 ⟨rfl, hb2⟩)
   | fail)
  go_ret
  exact ⟨by rw [HE2.out]; rfl, HB0.out.trans ((hb1.trans (hb2.mono hb1.size)).mono hw0)⟩
theorem hold2_any (v : JV) (rv : RV) (nm s : ByteArray) (g : Nat) (w : World) (B : Nat) (hBw : B <= w.heap.size) (ht : TreeOf w B v rv) (ot : v.Ok) (hg : w.cell? ⟨g, 0, none⟩ = some (.string nm))
 (hct : countT v <= 100000) (hsz : sizeT v <= 4000000000) (hs : s.size <= 1000000) (hall : AllAt w) (hmax : MaxAt w) :
 Calls Tryz.prog 94 #[rv.val, .string s, .pointer (some ⟨g, 0, none⟩)] w fun e w' => e = .returned (.bool (matchF s.data.toList (textsJ v nm))) /\ Below w.heap.size w w' := by
 obtain ⟨W0, hW0⟩ : ∃ W0, w.alloc rv.kobj = W0 := ⟨_, rfl⟩
 have hA0 : KAt W0 w.heap.size rv := by rw [<- hW0]; exact heap_alloc_at rfl
 have hB0 : Below w.heap.size w W0 := by rw [<- hW0]; exact (Below.refl _ _).alloc (Nat.le_refl _) _
 have hw0 := hB0.size
 have hBw0 : B <= W0.heap.size := Nat.le_trans hBw hw0
 have hg0 := bcs hB0 (cell_some hg).2 hg
 have HT : Hid (Calls Tryz.prog 26 #[rv.val, .string nm] W0 fun e w' => ∃ p c, e = .returned (.slice p (textsJ v nm).length c) /\ Rd w' w'.heap.size encS 1 (.slice p (textsJ v nm).length c) (textsJ v nm) /\ Below W0.heap.size W0 w') := by
  refine (svtexts_any v rv nm W0 B hBw0 (ht.under (hB0.mono hBw) (Nat.le_refl _)) ot hct (hall.below hB0)).mono ?_
  rintro e w1 ⟨u, rfl, ho, hb⟩
  obtain ⟨a, cap, rfl, _⟩ := ho.len
  exact ⟨_, _, rfl, ho.rd codecS, hb⟩
 have HM : Hid (∀ W p c, Below W0.heap.size W0 W -> Rd W W.heap.size encS 1 (.slice p (textsJ v nm).length c) (textsJ v nm) -> Calls Tryz.prog 32 #[.string s, .slice p (textsJ v nm).length c] W fun e w' => e = .returned (.bool (matchF s.data.toList (textsJ v nm))) /\ Below W.heap.size W w') := by
  intro W p c hW hr
  refine match_any W s p _ c _ hs hr (by have := textsJ_len v nm; omega) (fun x hx => by have := textsJ_size hx; omega) ((hmax.below hB0).below hW)
 obtain ⟨L, hL⟩ : ∃ L, (textsJ v nm).length = L := ⟨_, rfl⟩
 rw [hL] at HT HM
 obtain ⟨X, hX⟩ : ∃ X, matchF s.data.toList (textsJ v nm) = X := ⟨_, rfl⟩
 rw [hX] at HM ⊢
 obtain ⟨k, n, s0, pl, nl, cl, pm, nm', cm⟩ := rv
 dsimp only [RV.val, RV.kobj] at *
 have HB0 := Lib.hid hB0
 clear hB0 ht ot hX hL hall hmax
 go_enter Tryz.func94, Tryz.ntmps94
 go_upto_region 1 with fail
 try rw [hW0]
 clear hW0
 obtain ⟨a0, a1, a2, a3, a4⟩ := hA0.cells5
 have hz0 := hA0.lt
 clear hA0
 go_wp2_with (first
  | (go_at_call 26; refine HT.out.mono ?_; rintro e w1 ⟨p1, c1, rfl, hr1, hb1⟩; have HR1 := Lib.hid hr1; clear hr1)
  | (go_at_call 32; refine (HM.out _ _ _ hb1 HR1.out).mono ?_; rintro e w2 ⟨rfl, hb2⟩))
 go_ret
 exact ⟨rfl, HB0.out.trans ((hb1.trans (hb2.mono hb1.size)).mono hw0)⟩
theorem hold1_any (q rv : RV) (nm : ByteArray) (Hd : Bool) (g g2 : Nat) (w : World) (hk : KAt w g rv) (h2 : w.cell? ⟨g2, 0, none⟩ = some (.string nm))
 (HH : ∀ W, Below w.heap.size w W -> Calls Tryz.prog 53 #[q.val, rv.val] W fun e w' => e = .returned (.bool Hd) /\ Below W.heap.size W w') :
 Calls Tryz.prog 92 #[q.val, .pointer (some ⟨g, 0, none⟩), .pointer (some ⟨g2, 0, none⟩)] w fun e w' => e = .returned (.bool (Hd != decide (nm = svAnd))) /\ Below w.heap.size w w' := by
 obtain ⟨W0, hW0⟩ : ∃ W0, w.alloc q.obj = W0 := ⟨_, rfl⟩
 have hA0 : VAt W0 w.heap.size q := by rw [<- hW0]; exact heap_alloc_at rfl
 have hB0 : Below w.heap.size w W0 := by rw [<- hW0]; exact (Below.refl _ _).alloc (Nat.le_refl _) _
 have hw0 := hB0.size
 have hk0 := hk.under hB0 hk.lt
 have hg0 := bcs hB0 (cell_some h2).2 h2
 have hz2 := (cell_some hg0).2
 have HH0 : Hid (∀ W, Below W0.heap.size W0 W -> Calls Tryz.prog 53 #[q.val, rv.val] W fun e w' => e = .returned (.bool Hd) /\ Below W.heap.size W w') := fun W hW => HH W (hB0.trans (hW.mono hw0))
 have hq : (nm.toList == [65, 78, 68]) = decide (nm = svAnd) := by rw [<- bytes_dec]; rfl
 obtain ⟨A, hA⟩ : ∃ A, decide (nm = svAnd) = A := ⟨_, rfl⟩
 rw [hA] at hq ⊢
 obtain ⟨k, n, s, pl, nl, cl, pm, nm', cm⟩ := q
 obtain ⟨vk, vn, vs, vpl, vnl, vcl, vpm, vnm, vcm⟩ := rv
 dsimp only [RV.val, RV.obj] at *
 have HB0 := Lib.hid hB0
 clear hB0 hA HH hk h2
 cases Hd <;> cases A
 all_goals
  go_enter Tryz.func92, Tryz.ntmps92
  go_upto_region 1 with fail
  try rw [hW0]
  clear hW0
  obtain ⟨a0, a1, a2, a3, a4⟩ := hA0.cells5
  obtain ⟨b0, b1, b2, b3, b4⟩ := hk0.cells5
  dsimp only at b0 b1 b2 b3 b4
  clear hA0 hk0
  have hb00 : Below W0.heap.size W0 W0.drew := (Below.refl _ _).drew
  go_region_with (go_at_call 53; (with_reducible refine (HH0.out _ hb00).mono ?_); rintro e w1 ⟨rfl, hb1'⟩; (have hb1 := hb00.trans hb1'); (have z0 := bcs hb1 hz2 hg0))
  all_goals go_wp2_with fail
  all_goals go_ret
  all_goals exact ⟨rfl, HB0.out.trans (hb1.mono hw0)⟩
theorem indexH_any (w : World) (p : Option Addr) (n c g g2 : Nat) (rs : List RV) (bs : List Bool) (hbl : bs.length = rs.length) (hv : Rd w w.heap.size encV 5 (.slice p n c) rs) (hlen : rs.length <= 1759218604390)
 (HP : ∀ (i : Nat) x b, rs[i]? = some x -> bs[i]? = some b -> ∀ W, Below w.heap.size w W -> Calls Tryz.prog 92 #[x.val, .pointer (some ⟨g, 0, none⟩), .pointer (some ⟨g2, 0, none⟩)] W fun e w' => e = .returned (.bool b) /\ Below W.heap.size W w') :
 Calls Tryz.prog 117 #[.slice p n c, .func (.func 92) #[] #[.pointer (some ⟨g, 0, none⟩), .pointer (some ⟨g2, 0, none⟩)]] w fun e w' => e = .returned (.int .i64 (placeI (bs.findIdx? id))) /\ Below w.heap.size w w' := by
 have hn := rd_nlen hv
 subst hn
 have HV := Lib.hid hv
 have HPB := Lib.hid HP
 clear hv HP
 go_enter Tryz.func117, Tryz.ntmps117
 go_wp2_with fail
 go_loopw [8] (fun i wr => ∃ k : Nat, k <= rs.length /\ i = .int .i64 k /\ Hid (∀ (j : Nat) y, j < k -> bs[j]? = some y -> id y = false) /\ Below w.heap.size w wr) (fun i _ => rs.length - (intOf i).toNat)
 case atStart => exact ⟨0, Nat.zero_le _, rfl, fun j y h => by omega, Below.refl _ _⟩
 case round =>
  obtain ⟨k, hk, rfl, hno, hbr⟩ := hrel
  by_cases hlt : k < rs.length
  ·obtain ⟨x, hx⟩ : ∃ x, rs[k]? = some x := ⟨_, List.getElem?_eq_getElem hlt⟩
   obtain ⟨b1, o1, rfl, hb1, hc1⟩ := rd_at' (HV.out.below hbr (Nat.le_refl _)) hx
   have f0 := hc1 0 _ rfl
   have f1 := hc1 1 _ rfl
   have f2 := hc1 2 _ rfl
   have f3 := hc1 3 _ rfl
   have f4 := hc1 4 _ rfl
   rw [Nat.add_zero] at f0
   obtain ⟨b, hbx⟩ : ∃ b, bs[k]? = some b := ⟨_, List.getElem?_eq_getElem (by omega)⟩
   have HX := Lib.hid hbx
   have HBR := Lib.hid hbr
   have HQ : Hid (∀ W, Below w.heap.size w W -> Calls Tryz.prog 92 #[x.val, .pointer (some ⟨g, 0, none⟩), .pointer (some ⟨g2, 0, none⟩)] W fun e w' => e = .returned (.bool b) /\ Below W.heap.size W w') := HPB.out k x b hx hbx
   cases hnb : b
   all_goals
    rw [hnb] at HQ HX
    have HNO := Lib.hid hno.out
    subst hnb
    clear hx hc1 hbr hbx hno
    go_wp2_with (go_at_call 92; refine (HQ.out _ HBR.out).mono ?_; rintro e w1 ⟨rfl, hb1'⟩)
    first
     | (go_roundw
        case rel =>
         refine ⟨k + 1, by omega, by go_num, ?_, HBR.out.trans (hb1'.mono HBR.out.size)⟩
         intro j y hj hy
         by_cases e : j = k
         ·subst e
          have h2 := HX.out
          rw [hy] at h2
          cases h2
          rfl
         ·exact HNO.out j y (by omega) hy
        case measure => simp [intOf]; omega)
     | (go_ret
        have HF := find_at (p := id) HX.out rfl HNO.out
        exact ⟨ret_int (by rw [HF]; rfl), HBR.out.trans (hb1'.mono HBR.out.size)⟩)
  ·obtain rfl : k = rs.length := by omega
   have HF := Lib.hid (find_not (p := id) (l := bs) (fun j y hy => hno.out j y (by have := (List.getElem?_eq_some_iff.1 hy).1; omega) hy))
   go_wp2_with fail
   go_ret
   exact ⟨ret_int (by rw [HF.out]; rfl), hbr⟩
theorem containsH_any (w : World) (p : Option Addr) (n c g g2 : Nat) (rs : List RV) (bs : List Bool) (hbl : bs.length = rs.length) (hv : Rd w w.heap.size encV 5 (.slice p n c) rs) (hlen : rs.length <= 1759218604390)
 (HP : ∀ (i : Nat) x b, rs[i]? = some x -> bs[i]? = some b -> ∀ W, Below w.heap.size w W -> Calls Tryz.prog 92 #[x.val, .pointer (some ⟨g, 0, none⟩), .pointer (some ⟨g2, 0, none⟩)] W fun e w' => e = .returned (.bool b) /\ Below W.heap.size W w') :
 Calls Tryz.prog 91 #[.slice p n c, .func (.func 92) #[] #[.pointer (some ⟨g, 0, none⟩), .pointer (some ⟨g2, 0, none⟩)]] w fun e w' => e = .returned (.bool (bs.any id)) /\ Below w.heap.size w w' := by
 have HC := Lib.hid (indexH_any w p n c g g2 rs bs hbl hv hlen HP)
 have HT := Lib.hid ((List.findIdx?_isSome (xs := bs) (p := id)).symm)
 clear hv HP hlen
 generalize bs.findIdx? id = o at HC HT
 cases o with
 | none =>
   have hd : decide ((0 : Int) <= placeI none) = false := by decide
   go_enter Tryz.func91, Tryz.ntmps91
   go_wp2_with (go_at_call 117; refine HC.out.mono ?_; rintro e w1 ⟨rfl, hb1⟩)
   go_ret
   exact ⟨ret_boolI (by rw [HT.out]; rfl), hb1⟩
 | some i =>
   have hd : decide ((0 : Int) <= placeI (some i)) = true := by simp [placeI]
   go_enter Tryz.func91, Tryz.ntmps91
   go_wp2_with (go_at_call 117; refine HC.out.mono ?_; rintro e w1 ⟨rfl, hb1⟩)
   go_ret
   exact ⟨ret_boolI (by rw [HT.out]; simp), hb1⟩
end
end Go.Proofs.YtffhccmppdgmfaaGreatDoor
