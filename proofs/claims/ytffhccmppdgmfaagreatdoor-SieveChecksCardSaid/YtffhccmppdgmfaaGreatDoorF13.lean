import Derived.Test.YtffhccmppdgmfaaGreatDoorF11
import Derived.Test.YtffhccmppdgmfaaGreatDoorF10
import Derived.Test.YtffhccmppdgmfaaGreatDoorF06
import Derived.Test.YtffhccmppdgmfaaGreatDoorF05
import Derived.Test.YtffhccmppdgmfaaGreatDoorRows
import Derived.ChangeArms
import Derived.ChangeMaps5
import Derived.LaidLaws
import Derived.LaidSub
import Derived.Lib.LaidTab
import Derived.Lib.SmallJoins
import Derived.MakeChecks
import Derived.OpenShut
import Derived.Shelf.Vars
import Derived.Test.YtffhccmppdgmfaaGreatDoorF04
import Derived.Test.YtffhccmppdgmfaaGreatDoorF02
set_option linter.unusedSimpArgs false
set_option linter.unusedVariables false
set_option maxRecDepth 200000
set_option maxHeartbeats 8000000
namespace Go.Proofs.YtffhccmppdgmfaaGreatDoor
section
open Go Go.RowKit Go.OpenShut
def AllAt (w : World) : Prop := ∀ (i : Nat) x, allF[i]? = some x -> w.cell? ⟨0, i, none⟩ = some (.string x)
theorem AllAt.below {w w' : World} (h : AllAt w) (hb : Below w.heap.size w w') : AllAt w' := fun i x hx => bcs hb (cell_some (h i x hx)).2 (h i x hx)
theorem fieldJ_name (t : JV) : fieldJ t nameN = wholeJ (nameV t) := if_pos rfl
theorem fieldJ_part (t : JV) (f : ByteArray) (h : f = givenN \/ f = surN \/ f = sur2N) : fieldJ t f = partsJ (nameV t) (f.extract 5 f.size) := by
 unfold fieldJ
 rw [if_neg (by rcases h with rfl | rfl | rfl <;> decide), if_pos h]
theorem fieldJ_svNick (t : JV) : fieldJ t svNick = namedJ t svNicks [nameN] := by
 unfold fieldJ
 rw [if_neg (by decide), if_neg (by decide), if_pos rfl]
theorem fieldJ_svOrg (t : JV) : fieldJ t svOrg = (eachJ t svOrgs).flatMap orgJ := by
 unfold fieldJ
 rw [if_neg (by decide), if_neg (by decide), if_neg (by decide), if_pos rfl]
theorem fieldJ_svEmail (t : JV) : fieldJ t svEmail = namedJ t svEmails [svAddr] := by
 unfold fieldJ
 rw [if_neg (by decide), if_neg (by decide), if_neg (by decide), if_neg (by decide), if_pos rfl]
theorem fieldJ_svPhone (t : JV) : fieldJ t svPhone = namedJ t svPhones [svNumber] := by
 unfold fieldJ
 rw [if_neg (by decide), if_neg (by decide), if_neg (by decide), if_neg (by decide), if_neg (by decide), if_pos rfl]
theorem fieldJ_svOnline (t : JV) : fieldJ t svOnline = namedJ t svOnlines [svService, svUri, svUser] := by
 unfold fieldJ
 rw [if_neg (by decide), if_neg (by decide), if_neg (by decide), if_neg (by decide), if_neg (by decide), if_neg (by decide), if_pos rfl]
theorem fieldJ_svAddr (t : JV) : fieldJ t svAddr = (eachJ t svAddrs).flatMap wholeJ := by
 unfold fieldJ
 rw [if_neg (by decide), if_neg (by decide), if_neg (by decide), if_neg (by decide), if_neg (by decide), if_neg (by decide), if_neg (by decide), if_pos rfl]
theorem fieldJ_svNote (t : JV) : fieldJ t svNote = namedJ t svNotes [svNote] := by
 unfold fieldJ
 rw [if_neg (by decide), if_neg (by decide), if_neg (by decide), if_neg (by decide), if_neg (by decide), if_neg (by decide), if_neg (by decide), if_neg (by decide), if_pos rfl]
theorem ix_0 (w : World) : (Instr.index 78 (.agg #[.string ⟨#[110, 97, 109, 101]⟩, .string ⟨#[110, 105, 99, 107, 110, 97, 109, 101]⟩, .string ⟨#[111, 114, 103, 97, 110, 105, 122, 97, 116, 105, 111, 110]⟩, .string ⟨#[101, 109, 97, 105, 108]⟩, .string ⟨#[112, 104, 111, 110, 101]⟩, .string ⟨#[111, 110, 108, 105, 110, 101, 83, 101, 114, 118, 105, 99, 101]⟩, .string ⟨#[97, 100, 100, 114, 101, 115, 115]⟩, .string ⟨#[110, 111, 116, 101]⟩]) (.int .i64 0)).run Tryz.prog w = .ok (.string ⟨#[110, 97, 109, 101]⟩) w := by kernel_rfl
theorem ix_1 (w : World) : (Instr.index 78 (.agg #[.string ⟨#[110, 97, 109, 101]⟩, .string ⟨#[110, 105, 99, 107, 110, 97, 109, 101]⟩, .string ⟨#[111, 114, 103, 97, 110, 105, 122, 97, 116, 105, 111, 110]⟩, .string ⟨#[101, 109, 97, 105, 108]⟩, .string ⟨#[112, 104, 111, 110, 101]⟩, .string ⟨#[111, 110, 108, 105, 110, 101, 83, 101, 114, 118, 105, 99, 101]⟩, .string ⟨#[97, 100, 100, 114, 101, 115, 115]⟩, .string ⟨#[110, 111, 116, 101]⟩]) (.int .i64 1)).run Tryz.prog w = .ok (.string ⟨#[110, 105, 99, 107, 110, 97, 109, 101]⟩) w := by kernel_rfl
theorem ix_2 (w : World) : (Instr.index 78 (.agg #[.string ⟨#[110, 97, 109, 101]⟩, .string ⟨#[110, 105, 99, 107, 110, 97, 109, 101]⟩, .string ⟨#[111, 114, 103, 97, 110, 105, 122, 97, 116, 105, 111, 110]⟩, .string ⟨#[101, 109, 97, 105, 108]⟩, .string ⟨#[112, 104, 111, 110, 101]⟩, .string ⟨#[111, 110, 108, 105, 110, 101, 83, 101, 114, 118, 105, 99, 101]⟩, .string ⟨#[97, 100, 100, 114, 101, 115, 115]⟩, .string ⟨#[110, 111, 116, 101]⟩]) (.int .i64 2)).run Tryz.prog w = .ok (.string ⟨#[111, 114, 103, 97, 110, 105, 122, 97, 116, 105, 111, 110]⟩) w := by kernel_rfl
theorem ix_3 (w : World) : (Instr.index 78 (.agg #[.string ⟨#[110, 97, 109, 101]⟩, .string ⟨#[110, 105, 99, 107, 110, 97, 109, 101]⟩, .string ⟨#[111, 114, 103, 97, 110, 105, 122, 97, 116, 105, 111, 110]⟩, .string ⟨#[101, 109, 97, 105, 108]⟩, .string ⟨#[112, 104, 111, 110, 101]⟩, .string ⟨#[111, 110, 108, 105, 110, 101, 83, 101, 114, 118, 105, 99, 101]⟩, .string ⟨#[97, 100, 100, 114, 101, 115, 115]⟩, .string ⟨#[110, 111, 116, 101]⟩]) (.int .i64 3)).run Tryz.prog w = .ok (.string ⟨#[101, 109, 97, 105, 108]⟩) w := by kernel_rfl
theorem ix_4 (w : World) : (Instr.index 78 (.agg #[.string ⟨#[110, 97, 109, 101]⟩, .string ⟨#[110, 105, 99, 107, 110, 97, 109, 101]⟩, .string ⟨#[111, 114, 103, 97, 110, 105, 122, 97, 116, 105, 111, 110]⟩, .string ⟨#[101, 109, 97, 105, 108]⟩, .string ⟨#[112, 104, 111, 110, 101]⟩, .string ⟨#[111, 110, 108, 105, 110, 101, 83, 101, 114, 118, 105, 99, 101]⟩, .string ⟨#[97, 100, 100, 114, 101, 115, 115]⟩, .string ⟨#[110, 111, 116, 101]⟩]) (.int .i64 4)).run Tryz.prog w = .ok (.string ⟨#[112, 104, 111, 110, 101]⟩) w := by kernel_rfl
theorem ix_5 (w : World) : (Instr.index 78 (.agg #[.string ⟨#[110, 97, 109, 101]⟩, .string ⟨#[110, 105, 99, 107, 110, 97, 109, 101]⟩, .string ⟨#[111, 114, 103, 97, 110, 105, 122, 97, 116, 105, 111, 110]⟩, .string ⟨#[101, 109, 97, 105, 108]⟩, .string ⟨#[112, 104, 111, 110, 101]⟩, .string ⟨#[111, 110, 108, 105, 110, 101, 83, 101, 114, 118, 105, 99, 101]⟩, .string ⟨#[97, 100, 100, 114, 101, 115, 115]⟩, .string ⟨#[110, 111, 116, 101]⟩]) (.int .i64 5)).run Tryz.prog w = .ok (.string ⟨#[111, 110, 108, 105, 110, 101, 83, 101, 114, 118, 105, 99, 101]⟩) w := by kernel_rfl
theorem ix_6 (w : World) : (Instr.index 78 (.agg #[.string ⟨#[110, 97, 109, 101]⟩, .string ⟨#[110, 105, 99, 107, 110, 97, 109, 101]⟩, .string ⟨#[111, 114, 103, 97, 110, 105, 122, 97, 116, 105, 111, 110]⟩, .string ⟨#[101, 109, 97, 105, 108]⟩, .string ⟨#[112, 104, 111, 110, 101]⟩, .string ⟨#[111, 110, 108, 105, 110, 101, 83, 101, 114, 118, 105, 99, 101]⟩, .string ⟨#[97, 100, 100, 114, 101, 115, 115]⟩, .string ⟨#[110, 111, 116, 101]⟩]) (.int .i64 6)).run Tryz.prog w = .ok (.string ⟨#[97, 100, 100, 114, 101, 115, 115]⟩) w := by kernel_rfl
theorem ix_7 (w : World) : (Instr.index 78 (.agg #[.string ⟨#[110, 97, 109, 101]⟩, .string ⟨#[110, 105, 99, 107, 110, 97, 109, 101]⟩, .string ⟨#[111, 114, 103, 97, 110, 105, 122, 97, 116, 105, 111, 110]⟩, .string ⟨#[101, 109, 97, 105, 108]⟩, .string ⟨#[112, 104, 111, 110, 101]⟩, .string ⟨#[111, 110, 108, 105, 110, 101, 83, 101, 114, 118, 105, 99, 101]⟩, .string ⟨#[97, 100, 100, 114, 101, 115, 115]⟩, .string ⟨#[110, 111, 116, 101]⟩]) (.int .i64 7)).run Tryz.prog w = .ok (.string ⟨#[110, 111, 116, 101]⟩) w := by kernel_rfl
theorem field_any (t : JV) (r : RV) (f : ByteArray) (hf : f ≠ svText) (w : World) (B : Nat) (hBw : B <= w.heap.size) (ht : TreeOf w B t r) (ot : t.Ok) (hct : countT t <= 100000) :
 Calls Tryz.prog 26 #[r.val, .string f] w (OwnRet w 9 encS 1 (fieldJ t f)) := by
 by_cases h0 : f = nameN
 ·subst h0
  rw [fieldJ_name]
  exact stx_name t r w B hBw ht ot hct
 by_cases h1 : f = givenN \/ f = surN \/ f = sur2N
 ·rw [fieldJ_part t f h1]
  exact ntexts_any t r f h1 w B hBw ht ot
 by_cases h2 : f = svNick
 ·subst h2
  rw [fieldJ_svNick]
  exact stx_nick t r w B hBw ht ot hct
 by_cases h3 : f = svOrg
 ·subst h3
  rw [fieldJ_svOrg]
  exact stx_org t r w B hBw ht ot hct
 by_cases h4 : f = svEmail
 ·subst h4
  rw [fieldJ_svEmail]
  exact stx_email t r w B hBw ht ot hct
 by_cases h5 : f = svPhone
 ·subst h5
  rw [fieldJ_svPhone]
  exact stx_phone t r w B hBw ht ot hct
 by_cases h6 : f = svOnline
 ·subst h6
  rw [fieldJ_svOnline]
  exact stx_online t r w B hBw ht ot hct
 by_cases h7 : f = svAddr
 ·subst h7
  rw [fieldJ_svAddr]
  exact stx_addr t r w B hBw ht ot hct
 by_cases h8 : f = svNote
 ·subst h8
  rw [fieldJ_svNote]
  exact stx_note t r w B hBw ht ot hct
 have e : fieldJ t f = [] := by
  unfold fieldJ
  rw [if_neg h0, if_neg h1, if_neg h2, if_neg h3, if_neg h4, if_neg h5, if_neg h6, if_neg h7, if_neg h8]
 rw [e]
 exact stx_none t r f w B hBw ht ot hct h0 (fun e => h1 (.inl e)) (fun e => h1 (.inr (.inl e))) (fun e => h1 (.inr (.inr e))) h2 h3 h4 h5 h6 h7 h8 hf
theorem stx_text (t : JV) (r : RV) (w : World) (B : Nat) (hBw : B <= w.heap.size) (ht : TreeOf w B t r) (ot : t.Ok) (hct : countT t <= 100000) (hall : AllAt w) :
 Calls Tryz.prog 26 #[r.val, .string svText] w (OwnRet w 9 encS 1 (allF.flatMap (fieldJ t))) := by
 obtain ⟨W0, hW0⟩ : ∃ W0, w.alloc r.obj = W0 := ⟨_, rfl⟩
 have hA0 : VAt W0 w.heap.size r := by rw [<- hW0]; exact heap_alloc_at rfl
 have hB0 : Below w.heap.size w W0 := by rw [<- hW0]; exact (Below.refl _ _).alloc (Nat.le_refl _) _
 have HC : Hid (Calls Tryz.prog 15 #[r.val, .string nameN] W0 (GetRetB W0 B (t.get nameN))) := getB_any t r nameN W0 B (Nat.le_trans hBw hB0.size) (ht.under (hB0.mono hBw) (Nat.le_refl _)) ot
 have hw0 := hB0.size
 have HTR : Hid (∀ W, Below w.heap.size w W -> TreeOf W B t r) := fun W hW => ht.under (hW.mono hBw) (Nat.le_refl _)
 have HF : Hid (∀ f, f ≠ svText -> ∀ W, Below w.heap.size w W -> Calls Tryz.prog 26 #[r.val, .string f] W (OwnRet W 9 encS 1 (fieldJ t f))) := fun f hf W hW => field_any t r f hf W B (Nat.le_trans hBw hW.size) (HTR.out W hW) ot hct
 have HLL : Hid ((allF.flatMap (fieldJ t)).length <= 24 * 100000) := by
  have h := textsJ_len t svText
  unfold textsJ at h
  rw [if_pos rfl] at h
  unfold Hid
  omega
 have HAL := Lib.hid hall
 have HF0 : Hid (∀ W, Below w.heap.size w W -> Calls Tryz.prog 26 #[r.val, .string ⟨#[110, 97, 109, 101]⟩] W (OwnRet W 9 encS 1 (fieldJ t nameN))) := fun W hW => HF.out nameN (by decide) W hW
 have HF1 : Hid (∀ W, Below w.heap.size w W -> Calls Tryz.prog 26 #[r.val, .string ⟨#[110, 105, 99, 107, 110, 97, 109, 101]⟩] W (OwnRet W 9 encS 1 (fieldJ t svNick))) := fun W hW => HF.out svNick (by decide) W hW
 have HF2 : Hid (∀ W, Below w.heap.size w W -> Calls Tryz.prog 26 #[r.val, .string ⟨#[111, 114, 103, 97, 110, 105, 122, 97, 116, 105, 111, 110]⟩] W (OwnRet W 9 encS 1 (fieldJ t svOrg))) := fun W hW => HF.out svOrg (by decide) W hW
 have HF3 : Hid (∀ W, Below w.heap.size w W -> Calls Tryz.prog 26 #[r.val, .string ⟨#[101, 109, 97, 105, 108]⟩] W (OwnRet W 9 encS 1 (fieldJ t svEmail))) := fun W hW => HF.out svEmail (by decide) W hW
 have HF4 : Hid (∀ W, Below w.heap.size w W -> Calls Tryz.prog 26 #[r.val, .string ⟨#[112, 104, 111, 110, 101]⟩] W (OwnRet W 9 encS 1 (fieldJ t svPhone))) := fun W hW => HF.out svPhone (by decide) W hW
 have HF5 : Hid (∀ W, Below w.heap.size w W -> Calls Tryz.prog 26 #[r.val, .string ⟨#[111, 110, 108, 105, 110, 101, 83, 101, 114, 118, 105, 99, 101]⟩] W (OwnRet W 9 encS 1 (fieldJ t svOnline))) := fun W hW => HF.out svOnline (by decide) W hW
 have HF6 : Hid (∀ W, Below w.heap.size w W -> Calls Tryz.prog 26 #[r.val, .string ⟨#[97, 100, 100, 114, 101, 115, 115]⟩] W (OwnRet W 9 encS 1 (fieldJ t svAddr))) := fun W hW => HF.out svAddr (by decide) W hW
 have HF7 : Hid (∀ W, Below w.heap.size w W -> Calls Tryz.prog 26 #[r.val, .string ⟨#[110, 111, 116, 101]⟩] W (OwnRet W 9 encS 1 (fieldJ t svNote))) := fun W hW => HF.out svNote (by decide) W hW
 clear HF hall
 obtain ⟨k, n, s, pl, nl, cl, pm, nm, cm⟩ := r
 dsimp only [RV.val, RV.obj] at *
 have HW := Lib.hid hW0
 have HB0 := Lib.hid hB0
 unfold nameN at HC
 try unfold svText at *
 clear hW0 hB0 ht
 go_enter Tryz.func26, Tryz.ntmps26
 go_upto_region 1 with fail
 rw [HW.out]
 clear HW
 obtain ⟨a0, a1, a2, a3, a4⟩ := hA0.cells5
 have hz0 := hA0.lt
 go_upto_region 3 with (go_at_call 15; refine HC.out.mono ?_; rintro e w1 ⟨rv, bb, rfl, hbb, ht1, hb1⟩; obtain ⟨rk, rn, rS, rpl, rnl, rcl, rpm, rnm, rcm⟩ := rv)
 have hz1 := hb1.size
 have hb2 : Below W0.heap.size W0 (w1.alloc (.cells #[.int .i64 rk, .int .i64 rn, .string rS, .slice rpl rnl rcl, .slice rpm rnm rcm] 25)) := hb1.alloc hz1 _
 have hv2 : VAt (w1.alloc (.cells #[.int .i64 rk, .int .i64 rn, .string rS, .slice rpl rnl rcl, .slice rpm rnm rcm] 25)) w1.heap.size ⟨rk, rn, rS, rpl, rnl, rcl, rpm, rnm, rcm⟩ := heap_alloc_at rfl
 have ht2 := ht1.under ((Below.refl B w1).alloc (Nat.le_trans (Nat.le_trans hBw hw0) hz1) (.cells #[.int .i64 rk, .int .i64 rn, .string rS, .slice rpl rnl rcl, .slice rpm rnm rcm] 25)) (Nat.le_refl _)
 obtain ⟨g, hg⟩ : ∃ g, w1.heap.size = g := ⟨_, rfl⟩
 obtain ⟨W2, hW2⟩ : ∃ W, w1.alloc (.cells #[.int .i64 rk, .int .i64 rn, .string rS, .slice rpl rnl rcl, .slice rpm rnm rcm] 25) = W := ⟨_, rfl⟩
 rw [hW2] at hb2 hv2 ht2
 rw [hg] at hv2
 try rw [hW2]
 try rw [hg]
 obtain ⟨v0, v1, v2, v3, v4⟩ := hv2.cells5
 dsimp only at v0 v1 v2 v3 v4
 have b0 := bcs hb2 hz0 a0
 have b1 := bcs hb2 hz0 a1
 have b2 := bcs hb2 hz0 a2
 have b3 := bcs hb2 hz0 a3
 have b4 := bcs hb2 hz0 a4
 have hbw := HB0.out.trans (hb2.mono hw0)
 have HX := Lib.hid hbw
 have hw2 := hbw.size
 have hBw2 : B <= W2.heap.size := Nat.le_trans hBw hw2
 have HT2 := Lib.hid ht2
 clear hW2 hg hb1 ht1 hb2 hv2 hz1 hbw ht2 a0 a1 a2 a3 a4 hbb
 have hag := (HAL.out.below HX.out)
 have g0 : W2.cell? ⟨0, 0, none⟩ = some (.string ⟨#[110, 97, 109, 101]⟩) := hag 0 _ rfl
 have g1 : W2.cell? ⟨0, 1, none⟩ = some (.string ⟨#[110, 105, 99, 107, 110, 97, 109, 101]⟩) := hag 1 _ rfl
 have g2 : W2.cell? ⟨0, 2, none⟩ = some (.string ⟨#[111, 114, 103, 97, 110, 105, 122, 97, 116, 105, 111, 110]⟩) := hag 2 _ rfl
 have g3 : W2.cell? ⟨0, 3, none⟩ = some (.string ⟨#[101, 109, 97, 105, 108]⟩) := hag 3 _ rfl
 have g4 : W2.cell? ⟨0, 4, none⟩ = some (.string ⟨#[112, 104, 111, 110, 101]⟩) := hag 4 _ rfl
 have g5 : W2.cell? ⟨0, 5, none⟩ = some (.string ⟨#[111, 110, 108, 105, 110, 101, 83, 101, 114, 118, 105, 99, 101]⟩) := hag 5 _ rfl
 have g6 : W2.cell? ⟨0, 6, none⟩ = some (.string ⟨#[97, 100, 100, 114, 101, 115, 115]⟩) := hag 6 _ rfl
 have g7 : W2.cell? ⟨0, 7, none⟩ = some (.string ⟨#[110, 111, 116, 101]⟩) := hag 7 _ rfl
 clear hag v0 v1 v2 v3 v4
 have hgx : w.heap.size < W2.heap.size := (cell_some b0).2
 have HB0 : Hid (W2.cell? ⟨w.heap.size, 0, none⟩ = some (.int .i64 k) /\ W2.cell? ⟨w.heap.size, 1, none⟩ = some (.int .i64 n) /\ W2.cell? ⟨w.heap.size, 2, none⟩ = some (.string s) /\ W2.cell? ⟨w.heap.size, 3, none⟩ = some (.slice pl nl cl) /\ W2.cell? ⟨w.heap.size, 4, none⟩ = some (.slice pm nm cm)) := ⟨b0, b1, b2, b3, b4⟩
 go_wp2_with fail
 clear b0 b1 b2 b3 b4 g0 g1 g2 g3 g4 g5 g6 g7
 go_loopw [7, 102] (fun u i wr => ∃ j : Nat, j <= 8 /\ i = .int .i64 (j : Int) /\ Hid (Own wr W2.heap.size 9 encS 1 u ((allF.take j).flatMap (fieldJ t)) /\ Below W2.heap.size W2 wr)) (fun _ i _ => 8 - (intOf i).toNat)
 case atStart => exact ⟨0, by omega, rfl, Own.nil _ _ _, Below.refl _ _⟩
 case round =>
  obtain ⟨j, hj, rfl, hH⟩ := hrel
  have HO := Lib.hid hH.out.1
  have HBR := Lib.hid hH.out.2
  have hbz := HBR.out.size
  have HBW : Hid (Below w.heap.size w wr) := HX.out.trans (HBR.out.mono hw2)
  have c0 := bcs HBR.out hgx HB0.out.1
  have c1 := bcs HBR.out hgx HB0.out.2.1
  have c2 := bcs HBR.out hgx HB0.out.2.2.1
  have c3 := bcs HBR.out hgx HB0.out.2.2.2.1
  have c4 := bcs HBR.out hgx HB0.out.2.2.2.2
  clear hH
  by_cases hlt : j < 8
  ·have hjj : j = 0 \/ j = 1 \/ j = 2 \/ j = 3 \/ j = 4 \/ j = 5 \/ j = 6 \/ j = 7 := by omega
   rcases hjj with rfl | rfl | rfl | rfl | rfl | rfl | rfl | rfl
   ·have HPS : Hid ((allF.take (0 + 1)).flatMap (fieldJ t) = (allF.take 0).flatMap (fieldJ t) ++ fieldJ t nameN) := flat_succ (f := fieldJ t) (l := allF) (j := 0) rfl
    have hpm := flat_mid (f := fieldJ t) (l := allF) (j := 0) (x := nameN) rfl
    have HFC := Lib.hid (HF0.out wr HBW.out)
    try dsimp only [RV.val] at HFC
    try rw [show ((0 : Nat) : Int) = 0 from rfl]
    have hix := ix_0
    obtain ⟨L0, hL0⟩ : ∃ L, (allF.take 0).flatMap (fieldJ t) = L := ⟨_, rfl⟩
    obtain ⟨LF, hLF⟩ : ∃ L, fieldJ t nameN = L := ⟨_, rfl⟩
    rw [hL0] at HO HPS hpm
    rw [hLF] at HFC HPS hpm
    have HLN : Hid (L0.length + LF.length <= maxLen /\ (L0.length + LF.length) * 16 <= 140737488355328) := by
     have h2 := HLL.out
     exact ⟨by unfold maxLen; omega, by omega⟩
    clear hL0 hLF hpm
    go_wp2_with (first
     | (go_at_call 26; (with_reducible refine HFC.out.mono ?_); rintro e w4 ⟨u4, rfl, ho4, hb4⟩; (have ho5 := HO.out.below hb4 (Nat.le_refl _)); (have hz4 : W2.heap.size <= w4.heap.size := Nat.le_trans hbz hb4.size))
     | (at_builtin; refine wpList_append_rd slS codecS w4 rfl (.tmp 105) (.tmp 108) rfl (v := u7) rfl rfl ho5 (ho4.rd codecS) HLN.out.1 HLN.out.2 hz4 ?_; intro v8 w8 ho8 hg8 hat8)
     | fail)
    have HS8 : Hid (Own w8 W2.heap.size 9 encS 1 v8 ((allF.take (0 + 1)).flatMap (fieldJ t)) /\ Below W2.heap.size W2 w8) := ⟨by rw [HPS.out]; exact ho8, Below.appended (HBR.out.trans (hb4.mono hbz)) hg8 ho5 hz4⟩
    clear ho8 hg8 hat8 ho4 ho5 hb4
    go_roundw
    case rel => exact ⟨0 + 1, by omega, by go_num, HS8.out⟩
    case measure => simp [intOf]; try omega
   ·have HPS : Hid ((allF.take (1 + 1)).flatMap (fieldJ t) = (allF.take 1).flatMap (fieldJ t) ++ fieldJ t svNick) := flat_succ (f := fieldJ t) (l := allF) (j := 1) rfl
    have hpm := flat_mid (f := fieldJ t) (l := allF) (j := 1) (x := svNick) rfl
    have HFC := Lib.hid (HF1.out wr HBW.out)
    try dsimp only [RV.val] at HFC
    try rw [show ((1 : Nat) : Int) = 1 from rfl]
    have hix := ix_1
    obtain ⟨L0, hL0⟩ : ∃ L, (allF.take 1).flatMap (fieldJ t) = L := ⟨_, rfl⟩
    obtain ⟨LF, hLF⟩ : ∃ L, fieldJ t svNick = L := ⟨_, rfl⟩
    rw [hL0] at HO HPS hpm
    rw [hLF] at HFC HPS hpm
    have HLN : Hid (L0.length + LF.length <= maxLen /\ (L0.length + LF.length) * 16 <= 140737488355328) := by
     have h2 := HLL.out
     exact ⟨by unfold maxLen; omega, by omega⟩
    clear hL0 hLF hpm
    go_wp2_with (first
     | (go_at_call 26; (with_reducible refine HFC.out.mono ?_); rintro e w4 ⟨u4, rfl, ho4, hb4⟩; (have ho5 := HO.out.below hb4 (Nat.le_refl _)); (have hz4 : W2.heap.size <= w4.heap.size := Nat.le_trans hbz hb4.size))
     | (at_builtin; refine wpList_append_rd slS codecS w4 rfl (.tmp 105) (.tmp 108) rfl (v := u7) rfl rfl ho5 (ho4.rd codecS) HLN.out.1 HLN.out.2 hz4 ?_; intro v8 w8 ho8 hg8 hat8)
     | fail)
    have HS8 : Hid (Own w8 W2.heap.size 9 encS 1 v8 ((allF.take (1 + 1)).flatMap (fieldJ t)) /\ Below W2.heap.size W2 w8) := ⟨by rw [HPS.out]; exact ho8, Below.appended (HBR.out.trans (hb4.mono hbz)) hg8 ho5 hz4⟩
    clear ho8 hg8 hat8 ho4 ho5 hb4
    go_roundw
    case rel => exact ⟨1 + 1, by omega, by go_num, HS8.out⟩
    case measure => simp [intOf]; try omega
   ·have HPS : Hid ((allF.take (2 + 1)).flatMap (fieldJ t) = (allF.take 2).flatMap (fieldJ t) ++ fieldJ t svOrg) := flat_succ (f := fieldJ t) (l := allF) (j := 2) rfl
    have hpm := flat_mid (f := fieldJ t) (l := allF) (j := 2) (x := svOrg) rfl
    have HFC := Lib.hid (HF2.out wr HBW.out)
    try dsimp only [RV.val] at HFC
    try rw [show ((2 : Nat) : Int) = 2 from rfl]
    have hix := ix_2
    obtain ⟨L0, hL0⟩ : ∃ L, (allF.take 2).flatMap (fieldJ t) = L := ⟨_, rfl⟩
    obtain ⟨LF, hLF⟩ : ∃ L, fieldJ t svOrg = L := ⟨_, rfl⟩
    rw [hL0] at HO HPS hpm
    rw [hLF] at HFC HPS hpm
    have HLN : Hid (L0.length + LF.length <= maxLen /\ (L0.length + LF.length) * 16 <= 140737488355328) := by
     have h2 := HLL.out
     exact ⟨by unfold maxLen; omega, by omega⟩
    clear hL0 hLF hpm
    go_wp2_with (first
     | (go_at_call 26; (with_reducible refine HFC.out.mono ?_); rintro e w4 ⟨u4, rfl, ho4, hb4⟩; (have ho5 := HO.out.below hb4 (Nat.le_refl _)); (have hz4 : W2.heap.size <= w4.heap.size := Nat.le_trans hbz hb4.size))
     | (at_builtin; refine wpList_append_rd slS codecS w4 rfl (.tmp 105) (.tmp 108) rfl (v := u7) rfl rfl ho5 (ho4.rd codecS) HLN.out.1 HLN.out.2 hz4 ?_; intro v8 w8 ho8 hg8 hat8)
     | fail)
    have HS8 : Hid (Own w8 W2.heap.size 9 encS 1 v8 ((allF.take (2 + 1)).flatMap (fieldJ t)) /\ Below W2.heap.size W2 w8) := ⟨by rw [HPS.out]; exact ho8, Below.appended (HBR.out.trans (hb4.mono hbz)) hg8 ho5 hz4⟩
    clear ho8 hg8 hat8 ho4 ho5 hb4
    go_roundw
    case rel => exact ⟨2 + 1, by omega, by go_num, HS8.out⟩
    case measure => simp [intOf]; try omega
   ·have HPS : Hid ((allF.take (3 + 1)).flatMap (fieldJ t) = (allF.take 3).flatMap (fieldJ t) ++ fieldJ t svEmail) := flat_succ (f := fieldJ t) (l := allF) (j := 3) rfl
    have hpm := flat_mid (f := fieldJ t) (l := allF) (j := 3) (x := svEmail) rfl
    have HFC := Lib.hid (HF3.out wr HBW.out)
    try dsimp only [RV.val] at HFC
    try rw [show ((3 : Nat) : Int) = 3 from rfl]
    have hix := ix_3
    obtain ⟨L0, hL0⟩ : ∃ L, (allF.take 3).flatMap (fieldJ t) = L := ⟨_, rfl⟩
    obtain ⟨LF, hLF⟩ : ∃ L, fieldJ t svEmail = L := ⟨_, rfl⟩
    rw [hL0] at HO HPS hpm
    rw [hLF] at HFC HPS hpm
    have HLN : Hid (L0.length + LF.length <= maxLen /\ (L0.length + LF.length) * 16 <= 140737488355328) := by
     have h2 := HLL.out
     exact ⟨by unfold maxLen; omega, by omega⟩
    clear hL0 hLF hpm
    go_wp2_with (first
     | (go_at_call 26; (with_reducible refine HFC.out.mono ?_); rintro e w4 ⟨u4, rfl, ho4, hb4⟩; (have ho5 := HO.out.below hb4 (Nat.le_refl _)); (have hz4 : W2.heap.size <= w4.heap.size := Nat.le_trans hbz hb4.size))
     | (at_builtin; refine wpList_append_rd slS codecS w4 rfl (.tmp 105) (.tmp 108) rfl (v := u7) rfl rfl ho5 (ho4.rd codecS) HLN.out.1 HLN.out.2 hz4 ?_; intro v8 w8 ho8 hg8 hat8)
     | fail)
    have HS8 : Hid (Own w8 W2.heap.size 9 encS 1 v8 ((allF.take (3 + 1)).flatMap (fieldJ t)) /\ Below W2.heap.size W2 w8) := ⟨by rw [HPS.out]; exact ho8, Below.appended (HBR.out.trans (hb4.mono hbz)) hg8 ho5 hz4⟩
    clear ho8 hg8 hat8 ho4 ho5 hb4
    go_roundw
    case rel => exact ⟨3 + 1, by omega, by go_num, HS8.out⟩
    case measure => simp [intOf]; try omega
   ·have HPS : Hid ((allF.take (4 + 1)).flatMap (fieldJ t) = (allF.take 4).flatMap (fieldJ t) ++ fieldJ t svPhone) := flat_succ (f := fieldJ t) (l := allF) (j := 4) rfl
    have hpm := flat_mid (f := fieldJ t) (l := allF) (j := 4) (x := svPhone) rfl
    have HFC := Lib.hid (HF4.out wr HBW.out)
    try dsimp only [RV.val] at HFC
    try rw [show ((4 : Nat) : Int) = 4 from rfl]
    have hix := ix_4
    obtain ⟨L0, hL0⟩ : ∃ L, (allF.take 4).flatMap (fieldJ t) = L := ⟨_, rfl⟩
    obtain ⟨LF, hLF⟩ : ∃ L, fieldJ t svPhone = L := ⟨_, rfl⟩
    rw [hL0] at HO HPS hpm
    rw [hLF] at HFC HPS hpm
    have HLN : Hid (L0.length + LF.length <= maxLen /\ (L0.length + LF.length) * 16 <= 140737488355328) := by
     have h2 := HLL.out
     exact ⟨by unfold maxLen; omega, by omega⟩
    clear hL0 hLF hpm
    go_wp2_with (first
     | (go_at_call 26; (with_reducible refine HFC.out.mono ?_); rintro e w4 ⟨u4, rfl, ho4, hb4⟩; (have ho5 := HO.out.below hb4 (Nat.le_refl _)); (have hz4 : W2.heap.size <= w4.heap.size := Nat.le_trans hbz hb4.size))
     | (at_builtin; refine wpList_append_rd slS codecS w4 rfl (.tmp 105) (.tmp 108) rfl (v := u7) rfl rfl ho5 (ho4.rd codecS) HLN.out.1 HLN.out.2 hz4 ?_; intro v8 w8 ho8 hg8 hat8)
     | fail)
    have HS8 : Hid (Own w8 W2.heap.size 9 encS 1 v8 ((allF.take (4 + 1)).flatMap (fieldJ t)) /\ Below W2.heap.size W2 w8) := ⟨by rw [HPS.out]; exact ho8, Below.appended (HBR.out.trans (hb4.mono hbz)) hg8 ho5 hz4⟩
    clear ho8 hg8 hat8 ho4 ho5 hb4
    go_roundw
    case rel => exact ⟨4 + 1, by omega, by go_num, HS8.out⟩
    case measure => simp [intOf]; try omega
   ·have HPS : Hid ((allF.take (5 + 1)).flatMap (fieldJ t) = (allF.take 5).flatMap (fieldJ t) ++ fieldJ t svOnline) := flat_succ (f := fieldJ t) (l := allF) (j := 5) rfl
    have hpm := flat_mid (f := fieldJ t) (l := allF) (j := 5) (x := svOnline) rfl
    have HFC := Lib.hid (HF5.out wr HBW.out)
    try dsimp only [RV.val] at HFC
    try rw [show ((5 : Nat) : Int) = 5 from rfl]
    have hix := ix_5
    obtain ⟨L0, hL0⟩ : ∃ L, (allF.take 5).flatMap (fieldJ t) = L := ⟨_, rfl⟩
    obtain ⟨LF, hLF⟩ : ∃ L, fieldJ t svOnline = L := ⟨_, rfl⟩
    rw [hL0] at HO HPS hpm
    rw [hLF] at HFC HPS hpm
    have HLN : Hid (L0.length + LF.length <= maxLen /\ (L0.length + LF.length) * 16 <= 140737488355328) := by
     have h2 := HLL.out
     exact ⟨by unfold maxLen; omega, by omega⟩
    clear hL0 hLF hpm
    go_wp2_with (first
     | (go_at_call 26; (with_reducible refine HFC.out.mono ?_); rintro e w4 ⟨u4, rfl, ho4, hb4⟩; (have ho5 := HO.out.below hb4 (Nat.le_refl _)); (have hz4 : W2.heap.size <= w4.heap.size := Nat.le_trans hbz hb4.size))
     | (at_builtin; refine wpList_append_rd slS codecS w4 rfl (.tmp 105) (.tmp 108) rfl (v := u7) rfl rfl ho5 (ho4.rd codecS) HLN.out.1 HLN.out.2 hz4 ?_; intro v8 w8 ho8 hg8 hat8)
     | fail)
    have HS8 : Hid (Own w8 W2.heap.size 9 encS 1 v8 ((allF.take (5 + 1)).flatMap (fieldJ t)) /\ Below W2.heap.size W2 w8) := ⟨by rw [HPS.out]; exact ho8, Below.appended (HBR.out.trans (hb4.mono hbz)) hg8 ho5 hz4⟩
    clear ho8 hg8 hat8 ho4 ho5 hb4
    go_roundw
    case rel => exact ⟨5 + 1, by omega, by go_num, HS8.out⟩
    case measure => simp [intOf]; try omega
   ·have HPS : Hid ((allF.take (6 + 1)).flatMap (fieldJ t) = (allF.take 6).flatMap (fieldJ t) ++ fieldJ t svAddr) := flat_succ (f := fieldJ t) (l := allF) (j := 6) rfl
    have hpm := flat_mid (f := fieldJ t) (l := allF) (j := 6) (x := svAddr) rfl
    have HFC := Lib.hid (HF6.out wr HBW.out)
    try dsimp only [RV.val] at HFC
    try rw [show ((6 : Nat) : Int) = 6 from rfl]
    have hix := ix_6
    obtain ⟨L0, hL0⟩ : ∃ L, (allF.take 6).flatMap (fieldJ t) = L := ⟨_, rfl⟩
    obtain ⟨LF, hLF⟩ : ∃ L, fieldJ t svAddr = L := ⟨_, rfl⟩
    rw [hL0] at HO HPS hpm
    rw [hLF] at HFC HPS hpm
    have HLN : Hid (L0.length + LF.length <= maxLen /\ (L0.length + LF.length) * 16 <= 140737488355328) := by
     have h2 := HLL.out
     exact ⟨by unfold maxLen; omega, by omega⟩
    clear hL0 hLF hpm
    go_wp2_with (first
     | (go_at_call 26; (with_reducible refine HFC.out.mono ?_); rintro e w4 ⟨u4, rfl, ho4, hb4⟩; (have ho5 := HO.out.below hb4 (Nat.le_refl _)); (have hz4 : W2.heap.size <= w4.heap.size := Nat.le_trans hbz hb4.size))
     | (at_builtin; refine wpList_append_rd slS codecS w4 rfl (.tmp 105) (.tmp 108) rfl (v := u7) rfl rfl ho5 (ho4.rd codecS) HLN.out.1 HLN.out.2 hz4 ?_; intro v8 w8 ho8 hg8 hat8)
     | fail)
    have HS8 : Hid (Own w8 W2.heap.size 9 encS 1 v8 ((allF.take (6 + 1)).flatMap (fieldJ t)) /\ Below W2.heap.size W2 w8) := ⟨by rw [HPS.out]; exact ho8, Below.appended (HBR.out.trans (hb4.mono hbz)) hg8 ho5 hz4⟩
    clear ho8 hg8 hat8 ho4 ho5 hb4
    go_roundw
    case rel => exact ⟨6 + 1, by omega, by go_num, HS8.out⟩
    case measure => simp [intOf]; try omega
   ·have HPS : Hid ((allF.take (7 + 1)).flatMap (fieldJ t) = (allF.take 7).flatMap (fieldJ t) ++ fieldJ t svNote) := flat_succ (f := fieldJ t) (l := allF) (j := 7) rfl
    have hpm := flat_mid (f := fieldJ t) (l := allF) (j := 7) (x := svNote) rfl
    have HFC := Lib.hid (HF7.out wr HBW.out)
    try dsimp only [RV.val] at HFC
    try rw [show ((7 : Nat) : Int) = 7 from rfl]
    have hix := ix_7
    obtain ⟨L0, hL0⟩ : ∃ L, (allF.take 7).flatMap (fieldJ t) = L := ⟨_, rfl⟩
    obtain ⟨LF, hLF⟩ : ∃ L, fieldJ t svNote = L := ⟨_, rfl⟩
    rw [hL0] at HO HPS hpm
    rw [hLF] at HFC HPS hpm
    have HLN : Hid (L0.length + LF.length <= maxLen /\ (L0.length + LF.length) * 16 <= 140737488355328) := by
     have h2 := HLL.out
     exact ⟨by unfold maxLen; omega, by omega⟩
    clear hL0 hLF hpm
    go_wp2_with (first
     | (go_at_call 26; (with_reducible refine HFC.out.mono ?_); rintro e w4 ⟨u4, rfl, ho4, hb4⟩; (have ho5 := HO.out.below hb4 (Nat.le_refl _)); (have hz4 : W2.heap.size <= w4.heap.size := Nat.le_trans hbz hb4.size))
     | (at_builtin; refine wpList_append_rd slS codecS w4 rfl (.tmp 105) (.tmp 108) rfl (v := u7) rfl rfl ho5 (ho4.rd codecS) HLN.out.1 HLN.out.2 hz4 ?_; intro v8 w8 ho8 hg8 hat8)
     | fail)
    have HS8 : Hid (Own w8 W2.heap.size 9 encS 1 v8 ((allF.take (7 + 1)).flatMap (fieldJ t)) /\ Below W2.heap.size W2 w8) := ⟨by rw [HPS.out]; exact ho8, Below.appended (HBR.out.trans (hb4.mono hbz)) hg8 ho5 hz4⟩
    clear ho8 hg8 hat8 ho4 ho5 hb4
    go_roundw
    case rel => exact ⟨7 + 1, by omega, by go_num, HS8.out⟩
    case measure => simp [intOf]; try omega
  ·obtain rfl : j = 8 := by omega
   have ho := HO.out
   have hta : allF.take 8 = allF := rfl
   rw [hta] at ho
   have HZ := Lib.hid (And.intro (ho.mono hw2) HBW.out)
   clear ho hta
   go_wp2_with fail
   go_ret
   exact ⟨_, rfl, HZ.out.1, HZ.out.2⟩
theorem svtexts_any (t : JV) (r : RV) (f : ByteArray) (w : World) (B : Nat) (hBw : B <= w.heap.size) (ht : TreeOf w B t r) (ot : t.Ok) (hct : countT t <= 100000) (hall : AllAt w) :
 Calls Tryz.prog 26 #[r.val, .string f] w (OwnRet w 9 encS 1 (textsJ t f)) := by
 unfold textsJ
 by_cases h : f = svText
 ·subst h
  rw [if_pos rfl]
  exact stx_text t r w B hBw ht ot hct hall
 ·rw [if_neg h]
  exact field_any t r f h w B hBw ht ot hct
end
section
open Go Go.RowKit Go.OpenShut Go.Maps Go.WideMaps Go.ChangeMaps Go.MapKept Go.WideShapes
section
variable {P : Program} (w : World) {ops : Array Oper} {rest : List Oper} {o : Oper} {a : Act} {Q : Exit -> Act -> World -> Prop}
end
def fnV (n : Nat) : Value := .func (.func n) #[] #[]
def askV (n : ByteArray) : Option Value :=
 if n = svUpAft then some (fnV 125) else
 if n = svUpBef then some (fnV 124) else
 if n = svCrAft then some (fnV 123) else
 if n = svCrBef then some (fnV 122) else
 if n = kindN then some (fnV 121) else
 if n = svHasMem then some (fnV 120) else
 if n = svUid then some (fnV 119) else
 if n = svInBook then some (fnV 118) else none
def AsksAt (w : World) (b : Nat) : Prop := ∃ f n, MapF w Tryz.prog 9 b n f /\ ∀ s : ByteArray, f s.data.toList = askV s
theorem AsksAt.below {B : Nat} {w w' : World} {b : Nat} (h : AsksAt w b) (hb : Below B w w') (hB : b < B) : AsksAt w' b := by
 obtain ⟨f, n, h1, h2⟩ := h
 exact ⟨f, n, h1.below hb hB, h2⟩
theorem AsksAt.lt {w : World} {b : Nat} (h : AsksAt w b) : b < w.heap.size := by
 obtain ⟨f, n, h1, h2⟩ := h
 exact h1.lt
theorem AsksAt.look {w : World} {b : Nat} (h : AsksAt w b) {s : ByteArray} (hs : s.size <= maxLen) : (Instr.lookup 131 (.map (some b)) (.string s) false).run Tryz.prog w = .ok ((askV s).getD .nilFunc) w := by
 obtain ⟨f, n, h1, h2⟩ := h
 have := h1.look Tryz.underlying9 Tryz.underlying131 (Tryz.zeroValue133 w) hs
 rw [h2] at this
 exact this
theorem toList_eqB {a b : ByteArray} : a.data.toList = b.data.toList ↔ a = b := ⟨fun h => ByteArray.ext (Array.toList_inj.1 h), fun h => by rw [h]⟩
theorem asks_any (w : World) : Calls Tryz.prog 93 #[] w fun e w' => ∃ b, e = .returned (.map (some b)) /\ AsksAt w' b /\ w.heap.size <= b /\ Below w.heap.size w w' := by
 have h0 : MapF (w.alloc (.map #[] 0)) Tryz.prog 9 w.heap.size 0 (fun _ => none) := MapF.made w Tryz.prog 9
 have hb0 : Below w.heap.size w (w.alloc (.map #[] 0)) := (Below.refl _ _).alloc (Nat.le_refl _) _
 obtain ⟨W0, hW0⟩ : ∃ W, w.alloc (.map #[] 0) = W := ⟨_, rfl⟩
 rw [hW0] at h0 hb0
 have HB0 := Lib.hid hb0
 have HM0 := Lib.hid h0
 clear h0 hb0
 obtain ⟨w1, hr1, hm1, hg1⟩ := HM0.out.store Tryz.underlying9 Tryz.underlying131 (by decide) (s := svInBook) (by decide) (fnV 118)
 have HM1 := Lib.hid hm1
 have HB1 : Hid (Below w.heap.size w w1) := HB0.out.grown hg1 HB0.out.size (fun k e => by cases e; exact Nat.le_refl _)
 clear hm1 hg1
 obtain ⟨w2, hr2, hm2, hg2⟩ := HM1.out.store Tryz.underlying9 Tryz.underlying131 (by decide) (s := svUid) (by decide) (fnV 119)
 have HM2 := Lib.hid hm2
 have HB2 : Hid (Below w.heap.size w w2) := HB1.out.grown hg2 HB1.out.size (fun k e => by cases e; exact Nat.le_refl _)
 clear hm2 hg2
 obtain ⟨w3, hr3, hm3, hg3⟩ := HM2.out.store Tryz.underlying9 Tryz.underlying131 (by decide) (s := svHasMem) (by decide) (fnV 120)
 have HM3 := Lib.hid hm3
 have HB3 : Hid (Below w.heap.size w w3) := HB2.out.grown hg3 HB2.out.size (fun k e => by cases e; exact Nat.le_refl _)
 clear hm3 hg3
 obtain ⟨w4, hr4, hm4, hg4⟩ := HM3.out.store Tryz.underlying9 Tryz.underlying131 (by decide) (s := kindN) (by decide) (fnV 121)
 have HM4 := Lib.hid hm4
 have HB4 : Hid (Below w.heap.size w w4) := HB3.out.grown hg4 HB3.out.size (fun k e => by cases e; exact Nat.le_refl _)
 clear hm4 hg4
 obtain ⟨w5, hr5, hm5, hg5⟩ := HM4.out.store Tryz.underlying9 Tryz.underlying131 (by decide) (s := svCrBef) (by decide) (fnV 122)
 have HM5 := Lib.hid hm5
 have HB5 : Hid (Below w.heap.size w w5) := HB4.out.grown hg5 HB4.out.size (fun k e => by cases e; exact Nat.le_refl _)
 clear hm5 hg5
 obtain ⟨w6, hr6, hm6, hg6⟩ := HM5.out.store Tryz.underlying9 Tryz.underlying131 (by decide) (s := svCrAft) (by decide) (fnV 123)
 have HM6 := Lib.hid hm6
 have HB6 : Hid (Below w.heap.size w w6) := HB5.out.grown hg6 HB5.out.size (fun k e => by cases e; exact Nat.le_refl _)
 clear hm6 hg6
 obtain ⟨w7, hr7, hm7, hg7⟩ := HM6.out.store Tryz.underlying9 Tryz.underlying131 (by decide) (s := svUpBef) (by decide) (fnV 124)
 have HM7 := Lib.hid hm7
 have HB7 : Hid (Below w.heap.size w w7) := HB6.out.grown hg7 HB6.out.size (fun k e => by cases e; exact Nat.le_refl _)
 clear hm7 hg7
 obtain ⟨w8, hr8, hm8, hg8⟩ := HM7.out.store Tryz.underlying9 Tryz.underlying131 (by decide) (s := svUpAft) (by decide) (fnV 125)
 have HM8 := Lib.hid hm8
 have HB8 : Hid (Below w.heap.size w w8) := HB7.out.grown hg8 HB7.out.size (fun k e => by cases e; exact Nat.le_refl _)
 clear hm8 hg8
 have HF : Hid (AsksAt w8 w.heap.size) := ⟨_, _, HM8.out, fun s => by
  simp only [toList_eqB]
  rfl⟩
 unfold fnV at hr1 hr2 hr3 hr4 hr5 hr6 hr7 hr8
 have e1 : svInBook = ⟨#[105, 110, 65, 100, 100, 114, 101, 115, 115, 66, 111, 111, 107]⟩ := rfl
 have e2 : svUid = ⟨#[117, 105, 100]⟩ := rfl
 have e3 : svHasMem = ⟨#[104, 97, 115, 77, 101, 109, 98, 101, 114]⟩ := rfl
 have e4 : kindN = ⟨#[107, 105, 110, 100]⟩ := rfl
 have e5 : svCrBef = ⟨#[99, 114, 101, 97, 116, 101, 100, 66, 101, 102, 111, 114, 101]⟩ := rfl
 have e6 : svCrAft = ⟨#[99, 114, 101, 97, 116, 101, 100, 65, 102, 116, 101, 114]⟩ := rfl
 have e7 : svUpBef = ⟨#[117, 112, 100, 97, 116, 101, 100, 66, 101, 102, 111, 114, 101]⟩ := rfl
 have e8 : svUpAft = ⟨#[117, 112, 100, 97, 116, 101, 100, 65, 102, 116, 101, 114]⟩ := rfl
 rw [e1] at hr1
 rw [e2] at hr2
 rw [e3] at hr3
 rw [e4] at hr4
 rw [e5] at hr5
 rw [e6] at hr6
 rw [e7] at hr7
 rw [e8] at hr8
 clear e1 e2 e3 e4 e5 e6 e7 e8
 have hmm := @run_makeMap Tryz.prog
 go_enter Tryz.func93, Tryz.ntmps93
 go_wp2_with fail
 go_ret
 exact ⟨_, rfl, HF.out, Nat.le_refl _, HB8.out⟩
theorem AllAt.rd {w : World} (h : AllAt w) : Rd w w.heap.size encS 1 (.slice (some ⟨0, 0, none⟩) 8 8) allF := by
 refine ⟨_, 8, rfl, Nat.le_refl _, by decide, (fun e => by cases e), fun a ha _ => ?_⟩
 cases ha
 refine ⟨_, 0, rfl, (cell_some (h 0 _ rfl)).2, fun i x hx j u hu => ?_⟩
 match j, hu with
 | 0, hu =>
   obtain rfl := Option.some.inj hu
   have := h i x hx
   simpa using this
 | j + 1, hu => simp [encS] at hu
theorem isField_in (n : ByteArray) : isFieldB n = ((n.toList == [116, 101, 120, 116]) || ((n.toList == [110, 97, 109, 101, 47, 103, 105, 118, 101, 110]) || ((n.toList == [110, 97, 109, 101, 47, 115, 117, 114, 110, 97, 109, 101]) || inB allF n))) := by
 rw [<- bytes_dec, <- bytes_dec, <- bytes_dec]
 rfl
theorem field_is (n : ByteArray) (w : World) (ha : AllAt w) : Calls Tryz.prog 114 #[.string n] w fun e w' => e = .returned (.bool (isFieldB n)) /\ w = w' := by
 have HC := Lib.hid (containsS_rd ha.rd (by decide) n)
 rw [isField_in]
 obtain ⟨a, h1⟩ : ∃ b, (n.toList == [116, 101, 120, 116]) = b := ⟨_, rfl⟩
 obtain ⟨b, h2⟩ : ∃ b, (n.toList == [110, 97, 109, 101, 47, 103, 105, 118, 101, 110]) = b := ⟨_, rfl⟩
 obtain ⟨c, h3⟩ : ∃ b, (n.toList == [110, 97, 109, 101, 47, 115, 117, 114, 110, 97, 109, 101]) = b := ⟨_, rfl⟩
 obtain ⟨d, h4⟩ : ∃ b, inB allF n = b := ⟨_, rfl⟩
 rw [h4] at HC
 rw [h1, h2, h3, h4]
 clear h4 ha
 cases a <;> cases b <;> cases c
 all_goals
  go_enter Tryz.func114, Tryz.ntmps114
  go_wp2_with (go_at_call 96; (with_reducible refine HC.out.mono ?_); rintro e w1 ⟨rfl, rfl⟩)
  go_ret
  exact ⟨rfl, rfl⟩
theorem stampIs_any (s : ByteArray) (w : World) (hs : s.size <= maxLen) : Calls Tryz.prog 116 #[.string s] w fun e w' => e = .returned (.bool (secF s.data.toList).isSome) /\ Below w.heap.size w w' := by
 have HC := Lib.hid (seconds_any s w hs)
 obtain ⟨o, ho⟩ : ∃ o, secF s.data.toList = o := ⟨_, rfl⟩
 rw [ho] at HC
 rw [ho]
 clear ho
 cases o
 all_goals
  unfold secRet at HC
  go_enter Tryz.func116, Tryz.ntmps116
  go_wp2_with (go_at_call 144; (with_reducible refine HC.out.mono ?_); rintro e w1 ⟨rfl, hb1⟩)
  go_ret
  exact ⟨rfl, hb1⟩
end
section
open Go Go.RowKit Go.OpenShut Go.Joins Go.ChangeShapes Go.WideShapes Go.ChangeAt Go.Lib
theorem gAll : Tryz.prog.globalNamed "cardbox/sieve.all" = some 0 := by kernel_rfl
theorem gAllType : (Tryz.prog.globals[0]?).map (·.type) = some 78 := by kernel_rfl
theorem all_data : (Rows.laid_cardbox_sieve_all : DataW Unit) = .agg (allF.map fun s => .lit (.string s.data.toList)) := by kernel_rfl
theorem all_of {l : List (String × DataW Unit)} {W : World} (hl : (l.filter fun x => x.1 == "cardbox/sieve.all") = [("cardbox/sieve.all", Rows.laid_cardbox_sieve_all)])
 (hn : (l.all fun x => x.2.handleName?.isNone) = true) (hL : laidMetH Tryz.prog l W) : AllAt W := by
 rw [MakeChecks.laidMetH_plain _ _ _ hn] at hL
 have h1 := hL.filter (fun x => x.1 == "cardbox/sieve.all")
 rw [hl, all_data] at h1
 obtain ⟨ps, ⟨g, t, cs, fuel, p, q, hg, ht, hv, hd, _, _⟩, _, _⟩ := h1
 obtain rfl := Option.some.inj (gAll.symm.trans hg)
 obtain rfl := Option.some.inj (gAllType.symm.trans ht)
 obtain ⟨xs, m, _, ex, _, hxl, hel⟩ := DataW.trod_array Tryz.underlying78 hd
 have c9 : Tryz.prog.cellsOf 9 = 1 := by kernel_rfl
 intro i x hx
 have hi : i < 8 := (List.getElem?_eq_some_iff.1 hx).1
 have hE := hel i hi
 rw [c9, Nat.mul_one, List.getElem?_eq_getElem (by omega)] at hE
 obtain ⟨z, e1, e2, _⟩ := DataW.trod_string Tryz.underlying9 hE
 have e3 : (xs.map (·.1)) = allF.map fun s => .lit (.string s.data.toList) := (DataW.agg.inj (Prod.mk.inj ex).1).symm
 have e4 : (xs.map (·.1))[i]? = (allF.map fun s => (DataW.lit (.string s.data.toList) : DataW Unit))[i]? := by rw [e3]
 rw [List.getElem?_map, List.getElem?_map, List.getElem?_eq_getElem (by omega : i < xs.length), hx, e2] at e4
 have hz : z = x := by
  simp only [Option.map_some, Option.some.injEq, DataW.lit.injEq, Lit.string.injEq] at e4
  exact ByteArray.ext (Array.toList_inj.1 e4)
 rw [World.var?_cell hg hv i, <- hz]
 have : cs.toList[i]? = some (.string z) := by
  have h0 : ((cs.toList.drop i).take 1)[0]? = some (.string z) := by rw [e1]; rfl
  simpa using h0
 simpa using this
theorem max_of {W : World} (hS : W.ShapedOpen Tryz.prog) : MaxAt W :=
 Go.Proofs.cell_of_shapedOpen_int (zero := #[.int .i64 0]) (t := 3) hS (of_decide_eq_true (by kernel_rfl)) (by kernel_rfl) rfl (by kernel_rfl) (by kernel_rfl) Tryz.underlying3
end
section
open Go Go.RowKit Go.OpenShut
abbrev Tok.val (t : Tok) : Value := .agg #[.int .i64 t.kind, .int .i64 t.n, .string t.s, .int .i64 t.pos]
abbrev Tok.obj (t : Tok) : Obj := .cells #[.int .i64 t.kind, .int .i64 t.n, .string t.s, .int .i64 t.pos] 115
def TokAt (W : World) (g : Nat) (t : Tok) : Prop := W.heap[g]? = some (.cells #[.int .i64 t.kind, .int .i64 t.n, .string t.s, .int .i64 t.pos] 115 (0, 0))
theorem TokAt.lt {W : World} {g : Nat} {t : Tok} (h : TokAt W g t) : g < W.heap.size := (Array.getElem?_eq_some_iff.1 h).1
theorem TokAt.cell {W : World} {g : Nat} {t : Tok} (h : TokAt W g t) (j : Nat) {u : Value} (hu : (encTok t)[j]? = some u) : W.cell? ⟨g, j, none⟩ = some u := by
 unfold TokAt at h
 rw [cell_of_row W g j _ _ _ h, <- Array.getElem?_toList]
 exact hu
theorem TokAt.frozen {W : World} {g : Nat} {t : Tok} (h : TokAt W g t) (j : Nat) : W.frozen? ⟨g, j, none⟩ = false := by
 unfold TokAt at h
 simp [World.frozen?, h]
theorem TokAt.keep {W W' : World} {g : Nat} {t : Tok} (h : TokAt W g t) (hk : W'.heap[g]? = W.heap[g]?) : TokAt W' g t := hk.trans h
theorem TokAt.stored {W : World} {g : Nat} {t : Tok} (h : TokAt W g t) (q : Tok) : TokAt ((((W.setCell ⟨g, 0, none⟩ (.int .i64 q.kind)).setCell ⟨g, 1, none⟩ (.int .i64 q.n)).setCell ⟨g, 2, none⟩ (.string q.s)).setCell ⟨g, 3, none⟩ (.int .i64 q.pos)) g q := by
 unfold TokAt at h ⊢
 simp [World.setCell, Array.getElem?_modify, h]
theorem grownBy_setT (W : World) (g : Nat) (q : Tok) : W.grownBy ((((W.setCell ⟨g, 0, none⟩ (.int .i64 q.kind)).setCell ⟨g, 1, none⟩ (.int .i64 q.n)).setCell ⟨g, 2, none⟩ (.string q.s)).setCell ⟨g, 3, none⟩ (.int .i64 q.pos)) (some g) :=
 (((grownBy_set W g 0 _).trans (grownBy_set _ g 1 _)).trans (grownBy_set _ g 2 _)).trans (grownBy_set _ g 3 _)
theorem rd_lens {α : Type} {enc : α -> List Value} {sz B : Nat} {w : World} {v : Value} {xs : List α} (h : Rd w B enc sz v xs) : ∃ p cap, v = .slice p xs.length cap /\ xs.length <= cap /\ cap <= 9223372036854775807 := by
 obtain ⟨p, cap, he, h1, h2, _⟩ := h
 exact ⟨p, cap, he, h1, h2⟩
def Tok.zero : Tok := ⟨0, 0, ⟨#[]⟩, 0⟩
theorem infoTk : (Tryz.prog.info? 115).map (fun i => (i.zero, i.size, i.bytes)) = some (some (.agg #[.int .i64 0, .int .i64 0, .string ByteArray.empty, .int .i64 0]), 4, 40) := by kernel_rfl
theorem slTk : SlT Tryz.prog 104 115 4 40 := SlT.mk Tryz.underlying104 infoTk rfl
def RdrAt (W : World) (g : Nat) (v : Value) (en pa : Nat) : Prop := W.heap[g]? = some (.cells #[v, .int .i64 en, .int .i64 pa] 112 (0, 0))
theorem RdrAt.lt {W : World} {g en pa : Nat} {v : Value} (h : RdrAt W g v en pa) : g < W.heap.size := (Array.getElem?_eq_some_iff.1 h).1
theorem RdrAt.cell {W : World} {g en pa : Nat} {v : Value} (h : RdrAt W g v en pa) (j : Nat) {u : Value} (hu : [v, Value.int .i64 en, .int .i64 pa][j]? = some u) : W.cell? ⟨g, j, none⟩ = some u := by
 unfold RdrAt at h
 rw [cell_of_row W g j _ _ _ h, <- Array.getElem?_toList]
 exact hu
theorem RdrAt.frozen {W : World} {g en pa : Nat} {v : Value} (h : RdrAt W g v en pa) (j : Nat) : W.frozen? ⟨g, j, none⟩ = false := by
 unfold RdrAt at h
 simp [World.frozen?, h]
theorem RdrAt.keep {W W' : World} {g en pa : Nat} {v : Value} (h : RdrAt W g v en pa) (hk : W'.heap[g]? = W.heap[g]?) : RdrAt W' g v en pa := hk.trans h
theorem RdrAt.set0 {W : World} {g en pa : Nat} {v : Value} (h : RdrAt W g v en pa) (u : Value) : RdrAt (W.setCell ⟨g, 0, none⟩ u) g u en pa := by
 unfold RdrAt at h ⊢
 simp [World.setCell, Array.getElem?_modify, h]
theorem RdrAt.set2 {W : World} {g en pa : Nat} {v : Value} (h : RdrAt W g v en pa) (k : Nat) : RdrAt (W.setCell ⟨g, 2, none⟩ (.int .i64 k)) g v en k := by
 unfold RdrAt at h ⊢
 simp [World.setCell, Array.getElem?_modify, h]
structure RdS (W : World) (g : Nat) (ts : List Tok) (en pa : Nat) : Prop where
 ex : ∃ p n c, RdrAt W g (.slice p n c) en pa /\ Rd W g encTok 4 (.slice p n c) ts
theorem RdS.lt {W : World} {g en pa : Nat} {ts : List Tok} (h : RdS W g ts en pa) : g < W.heap.size := by
 obtain ⟨p, n, c, h1, _⟩ := h.ex
 exact h1.lt
theorem below_of {B : Nat} {w w' : World} {row : Option Nat} (h : w.grownBy w' row) (hb : B <= w.heap.size) (hr : ∀ k, row = some k -> B <= k) : Below B w w' := (Below.refl B w).grown h hb hr
theorem RdS.kept {W W' : World} {g en pa : Nat} {ts : List Tok} {row : Option Nat} (h : RdS W g ts en pa) (hg : W.grownBy W' row) (hr : ∀ k, row = some k -> g < k) : RdS W' g ts en pa := by
 have hl := h.lt
 obtain ⟨p, n, c, h1, h2⟩ := h.ex
 exact ⟨p, n, c, h1.keep (hg.block g hl (fun e => by have := hr g e.symm; omega)), h2.below (below_of hg (by omega) (fun k e => by have := hr k e; omega)) (Nat.le_refl _)⟩
theorem RdS.len {W : World} {g en pa : Nat} {ts : List Tok} (h : RdS W g ts en pa) : ∃ p c, RdrAt W g (.slice p ts.length c) en pa /\ Rd W g encTok 4 (.slice p ts.length c) ts /\ ts.length <= 9223372036854775807 := by
 obtain ⟨p, n, c, h1, h2⟩ := h.ex
 have hl := rd_nlen h2
 obtain ⟨p', c', hv, h3, h4⟩ := rd_lens h2
 simp only [Value.slice.injEq] at hv
 obtain ⟨rfl, rfl, rfl⟩ := hv
 exact ⟨p, c, h1, h2, by omega⟩
theorem is_any (t : Tok) (c : UInt8) (w : World) (b : Bool) (hb : isM t c = b) : Calls Tryz.prog 106 #[t.val, .string ⟨#[c]⟩] w fun e w' => e = .returned (.bool b) /\ Below w.heap.size w w' := by
 subst hb
 unfold isM
 obtain ⟨k, n, s, p⟩ := t
 dsimp only [Tok.val]
 by_cases h1 : k = 1
 ·subst h1
  by_cases h2 : s = ⟨#[c]⟩
  ·subst h2
   go_enter Tryz.func106, Tryz.ntmps106
   go_wp2_with fail
   go_ret
   exact ⟨by simp, (Below.refl _ _).alloc (Nat.le_refl _) _⟩
  ·have hq : (s.toList == (⟨#[c]⟩ : ByteArray).toList) = false := by rw [str_beq]; simpa using h2
   have HR : Hid ((decide ((1 : Int) = 1) && decide (s = ⟨#[c]⟩)) = false) := by simp [Hid, h2]
   rw [HR.out]
   clear h2
   obtain ⟨m, hm⟩ : ∃ m : ByteArray, ⟨#[c]⟩ = m := ⟨_, rfl⟩
   rw [hm] at hq ⊢
   clear HR hm
   go_enter Tryz.func106, Tryz.ntmps106
   go_wp2_with fail
   go_ret
   exact ⟨rfl, (Below.refl _ _).alloc (Nat.le_refl _) _⟩
 ·have HR : Hid ((decide (k = 1) && decide (s = ⟨#[c]⟩)) = false) := by simp [Hid, h1]
  rw [HR.out]
  have hq : (k == 1) = false := by simpa using h1
  clear h1 HR
  go_enter Tryz.func106, Tryz.ntmps106
  go_wp2_with fail
  go_ret
  exact ⟨rfl, (Below.refl _ _).alloc (Nat.le_refl _) _⟩
theorem _root_.Go.World.grownBy.keep_none {w w' : World} {row : Option Nat} (h : w.grownBy w' row) (g : Nat) (hg : g < w.heap.size) (hne : row ≠ some g := by (first | assumption | simp)) : w'.heap[g]? = w.heap[g]? := h.block g hg (fun e => hne e.symm)
theorem _root_.Go.World.grownBy.keep_some {w w1 w2 : World} {g : Nat} (h : w.grownBy w1 none) (h2 : w1.grownBy w2 (some g)) : w.grownBy w2 (some g) :=
 ⟨h2.os.trans h.os, h2.tape.trans h.tape, h2.output.trans h.output, Nat.le_trans h.size h2.size, fun k hk hne => (h2.block k (Nat.lt_of_lt_of_le hk h.size) hne).trans (h.block k hk (by simp))⟩
theorem _root_.Go.World.grownBy.new_row {w w1 w2 : World} {row : Option Nat} {x : Nat} (h : w.grownBy w1 row) (h2 : w1.grownBy w2 (some x)) (hx : w.heap.size <= x) : w.grownBy w2 row :=
 ⟨h2.os.trans h.os, h2.tape.trans h.tape, h2.output.trans h.output, Nat.le_trans h.size h2.size, fun k hk hne => (h2.block k (Nat.lt_of_lt_of_le hk h.size) (fun e => by cases e; omega)).trans (h.block k hk hne)⟩
def NxtRet (w : World) (g : Nat) (t : Tok) (ts : List Tok) (en pa : Nat) (e : Ending) (w' : World) : Prop := e = .returned t.val /\ RdS w' g ts en pa /\ w.grownBy w' (some g)
theorem next_any (w : World) (g en pa : Nat) (t : Tok) (ts : List Tok) (h : RdS w g (t :: ts) en pa) : Calls Tryz.prog 79 #[.pointer (some ⟨g, 0, none⟩)] w (NxtRet w g t ts en pa) := by
 obtain ⟨p, c, h1, h2, h3⟩ := h.len
 have hgl := h1.lt
 obtain ⟨N, hN⟩ : ∃ N, (t :: ts).length = N := ⟨_, rfl⟩
 rw [hN] at h1 h2 h3
 have hN1 : 1 <= N := by rw [<- hN]; simp
 have hr0 := h2
 obtain ⟨v1, hrun, hr1⟩ := slice_l slTk hr0 1 hN1
 obtain ⟨q1, n1, c1, rfl⟩ : ∃ q n c, v1 = Value.slice q n c := (by obtain ⟨p, c, hv, _, _⟩ := rd_lens hr1; exact ⟨p, _, c, hv⟩)
 rw [List.drop_one, List.tail_cons] at hr1
 obtain ⟨b, o, rfl, hb, hc0⟩ := rd_at' (k := 0) h2 (x := t) rfl
 rw [Nat.zero_mul, Nat.add_zero] at hc0
 obtain ⟨tk, tn, tS, tp⟩ := t
 have f0 : w.cell? ⟨b, o, none⟩ = some (.int .i64 tk) := hc0 0 _ rfl
 have f1 : w.cell? ⟨b, o + 1, none⟩ = some (.int .i64 tn) := hc0 1 _ rfl
 have f2 : w.cell? ⟨b, o + 2, none⟩ = some (.string tS) := hc0 2 _ rfl
 have f3 : w.cell? ⟨b, o + 3, none⟩ = some (.int .i64 tp) := hc0 3 _ rfl
 have c0 := h1.cell 0 rfl
 have z0 := h1.frozen 0
 have e0 : ((N : Int) == 0) = false := by simp; omega
 have e1 : (0 : Int) < (N : Int) := by omega
 have HR1 := Lib.hid hr1
 have H1 := Lib.hid h1
 clear hr0 hr1 h2 hc0 h1 hN h
 have hg0 := World.grownBy_alloc w (.cells #[.int .i64 0, .int .i64 0, .string ⟨#[]⟩, .int .i64 0] 115) none
 have hT0 : TokAt (w.alloc (.cells #[.int .i64 0, .int .i64 0, .string ⟨#[]⟩, .int .i64 0] 115)) w.heap.size Tok.zero := heap_alloc_at rfl
 have hs0 : (w.alloc (.cells #[.int .i64 0, .int .i64 0, .string ⟨#[]⟩, .int .i64 0] 115)).heap.size = w.heap.size + 1 := by simp
 have k0 : ∀ b o, b < w.heap.size -> (w.alloc (.cells #[.int .i64 0, .int .i64 0, .string ⟨#[]⟩, .int .i64 0] 115)).cell? ⟨b, o, none⟩ = w.cell? ⟨b, o, none⟩ := fun b o hb => ((Below.refl w.heap.size w).alloc (Nat.le_refl _) _).cell (p := ⟨b, o, none⟩) hb
 go_enter Tryz.func79, Tryz.ntmps79
 go_upto_region 1 with fail
 obtain ⟨W0, hW0⟩ : ∃ W0, w.alloc (.cells #[.int .i64 0, .int .i64 0, .string ⟨#[]⟩, .int .i64 0] 115) = W0 := ⟨_, rfl⟩
 rw [hW0] at hg0 hT0 hs0 k0
 try rw [hW0]
 clear hW0
 have p0 := (k0 g 0 hgl).trans c0
 have g0 := (k0 b o (by omega)).trans f0
 have g1 := (k0 b (o + 1) (by omega)).trans f1
 have g2 := (k0 b (o + 2) (by omega)).trans f2
 have g3 := (k0 b (o + 3) (by omega)).trans f3
 have hrun1 : ∀ W, (Instr.sliceAt 104 (.slice (some ⟨b, o, none⟩) N c) (some (.int .i64 1)) none none).run Tryz.prog W = .ok (.slice q1 n1 c1) W := hrun
 have HG0 := Lib.hid hg0
 have HT0 := Lib.hid hT0
 have HS0 := Lib.hid hs0
 have hgW : g < W0.heap.size := by omega
 clear c0 f0 f1 f2 f3 k0 hrun hg0 hT0 hs0 z0
 have hg1 := World.grownBy_alloc W0 (.cells #[.int .i64 tk, .int .i64 tn, .string tS, .int .i64 tp] 115) none
 have hT1 : TokAt (W0.alloc (.cells #[.int .i64 tk, .int .i64 tn, .string tS, .int .i64 tp] 115)) W0.heap.size ⟨tk, tn, tS, tp⟩ := heap_alloc_at rfl
 have hT2 : TokAt (W0.alloc (.cells #[.int .i64 tk, .int .i64 tn, .string tS, .int .i64 tp] 115)) w.heap.size Tok.zero := HT0.out.keep (hg1.keep_none _ HT0.out.lt)
 have hR1 : RdrAt (W0.alloc (.cells #[.int .i64 tk, .int .i64 tn, .string tS, .int .i64 tp] 115)) g (.slice (some ⟨b, o, none⟩) N c) en pa := (H1.out.keep (HG0.out.keep_none g (by omega))).keep (hg1.keep_none g hgW)
 go_upto_region 4 with fail
 have hz1 : (W0.alloc (.cells #[.int .i64 tk, .int .i64 tn, .string tS, .int .i64 tp] 115)).heap.size = w.heap.size + 2 := by have := HS0.out; simp; omega
 have hg1' := HG0.out.trans hg1
 obtain ⟨q0, hq0⟩ : ∃ q, W0.heap.size = q := ⟨_, rfl⟩
 have hqn : g ≠ q0 /\ w.heap.size ≠ q0 /\ g ≠ w.heap.size := by have := HS0.out; omega
 obtain ⟨W1, hW1⟩ : ∃ W1, W0.alloc (.cells #[.int .i64 tk, .int .i64 tn, .string tS, .int .i64 tp] 115) = W1 := ⟨_, rfl⟩
 rw [hW1] at hT1 hT2 hR1 hz1 hg1'
 rw [hq0] at hT1
 try rw [hW1]
 try rw [hq0]
 clear hg1 hW1 hq0 p0 g0 g1 g2 g3 HT0
 have p0 := hR1.cell 0 rfl
 have z0 := hR1.frozen 0
 have hR2 := hR1.set0 (.slice q1 n1 c1)
 have hg2 := grownBy_set W1 g 0 (.slice q1 n1 c1)
 have hT3 := hT1.keep (hg2.block q0 hT1.lt (by simp; omega))
 have hT4 := hT2.keep (hg2.block w.heap.size hT2.lt (by simp; omega))
 go_upto_region 5 with fail
 obtain ⟨W2, hW2⟩ : ∃ W2, W1.setCell ⟨g, 0, none⟩ (.slice q1 n1 c1) = W2 := ⟨_, rfl⟩
 rw [hW2] at hR2 hg2 hT3 hT4
 try rw [hW2]
 clear hW2 p0 z0 hrun1
 have a0 := hT3.cell 0 rfl
 have a1 := hT3.cell 1 rfl
 have a2 := hT3.cell 2 rfl
 have a3 := hT3.cell 3 rfl
 have b0 := hT4.cell 0 rfl
 have b1 := hT4.cell 1 rfl
 have b2 := hT4.cell 2 rfl
 have b3 := hT4.cell 3 rfl
 have y0 := hT4.frozen 0
 have y1 := hT4.frozen 1
 have y2 := hT4.frozen 2
 have y3 := hT4.frozen 3
 dsimp only [Tok.zero] at a0 a1 a2 a3 b0 b1 b2 b3
 have HR2 := Lib.hid hR2
 have HG2 := Lib.hid (hg1'.keep_some hg2)
 have HZ1 := Lib.hid hz1
 have HS2 := Lib.hid hg2.size
 clear hT1 hT2 hT3 hT4 hR1 hg1' hg2 hR2 hz1
 go_wp2_with fail
 refine bodyPost_ret (v := Tok.val ⟨tk, tn, tS, tp⟩) (by simp [results, Tryz.results79, go_sem, b0, b1, b2, b3]) rfl ⟨rfl, ?_, ?_⟩
 ·have hg3 := grownBy_setT W2 w.heap.size ⟨tk, tn, tS, tp⟩
  obtain ⟨p', n', c', h1, h2⟩ := (⟨_, _, _, HR2.out, (HR1.out.below (below_of HG2.out (by omega) (fun k e => by cases e; exact Nat.le_refl _)) (Nat.le_refl _))⟩ : ∃ p n c, RdrAt W2 g (.slice p n c) en pa /\ Rd W2 g encTok 4 (.slice p n c) ts)
  exact RdS.kept ⟨p', n', c', h1, h2⟩ hg3 (fun k e => by cases e; exact hgl)
 ·exact HG2.out.new_row (grownBy_setT W2 w.heap.size ⟨tk, tn, tS, tp⟩) (Nat.le_refl _)
end
end Go.Proofs.YtffhccmppdgmfaaGreatDoor
