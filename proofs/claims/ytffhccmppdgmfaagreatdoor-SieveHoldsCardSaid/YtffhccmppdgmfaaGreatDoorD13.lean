import Derived.Test.YtffhccmppdgmfaaGreatDoorD12
import Derived.Test.YtffhccmppdgmfaaGreatDoorD06
import Derived.Test.YtffhccmppdgmfaaGreatDoorD09
import Derived.Test.YtffhccmppdgmfaaGreatDoorD03
import Derived.Test.YtffhccmppdgmfaaGreatDoorD04
import Derived.Test.YtffhccmppdgmfaaGreatDoorD11
import Derived.Test.YtffhccmppdgmfaaGreatDoorRows
import Derived.ChangeArms
import Derived.ChangeMaps5
import Derived.LaidLaws
import Derived.LaidSub
import Derived.Lib.LaidTab
import Derived.Lib.SmallJoins
import Derived.MakeChecks
import Derived.OpenShut
import Derived.Shelf.Vars
import Derived.Test.YtffhccmppdgmfaaGreatDoorD10
set_option linter.unusedSimpArgs false
set_option linter.unusedVariables false
set_option maxRecDepth 200000
set_option maxHeartbeats 8000000
namespace Go.Proofs.YtffhccmppdgmfaaGreatDoor
section
open Go Go.RowKit Go.OpenShut
def AllAt (w : World) : Prop := ∀ (i : Nat) x, allF[i]? = some x -> w.cell? ⟨0, i, none⟩ = some (.string x)
theorem AllAt.below {w w' : World} (h : AllAt w) (hb : Below w.heap.size w w') : AllAt w' := fun i x hx => bcs hb (cell_some (h i x hx)).2 (h i x hx)
theorem fieldJ_name (t : JV) : fieldJ t nameN = wholeJ (nameV t) := if_pos rfl
theorem fieldJ_part (t : JV) (f : ByteArray) (h : f = givenN \/ f = surN \/ f = sur2N) : fieldJ t f = partsJ (nameV t) (f.extract 5 f.size) := by
 unfold fieldJ
 rw [if_neg (by rcases h with rfl | rfl | rfl <;> decide), if_pos h]
theorem fieldJ_svNick (t : JV) : fieldJ t svNick = namedJ t svNicks [nameN] := by
 unfold fieldJ
 rw [if_neg (by decide), if_neg (by decide), if_pos rfl]
theorem fieldJ_svOrg (t : JV) : fieldJ t svOrg = (eachJ t svOrgs).flatMap orgJ := by
 unfold fieldJ
 rw [if_neg (by decide), if_neg (by decide), if_neg (by decide), if_pos rfl]
theorem fieldJ_svEmail (t : JV) : fieldJ t svEmail = namedJ t svEmails [svAddr] := by
 unfold fieldJ
 rw [if_neg (by decide), if_neg (by decide), if_neg (by decide), if_neg (by decide), if_pos rfl]
theorem fieldJ_svPhone (t : JV) : fieldJ t svPhone = namedJ t svPhones [svNumber] := by
 unfold fieldJ
 rw [if_neg (by decide), if_neg (by decide), if_neg (by decide), if_neg (by decide), if_neg (by decide), if_pos rfl]
theorem fieldJ_svOnline (t : JV) : fieldJ t svOnline = namedJ t svOnlines [svService, svUri, svUser] := by
 unfold fieldJ
 rw [if_neg (by decide), if_neg (by decide), if_neg (by decide), if_neg (by decide), if_neg (by decide), if_neg (by decide), if_pos rfl]
theorem fieldJ_svAddr (t : JV) : fieldJ t svAddr = (eachJ t svAddrs).flatMap wholeJ := by
 unfold fieldJ
 rw [if_neg (by decide), if_neg (by decide), if_neg (by decide), if_neg (by decide), if_neg (by decide), if_neg (by decide), if_neg (by decide), if_pos rfl]
theorem fieldJ_svNote (t : JV) : fieldJ t svNote = namedJ t svNotes [svNote] := by
 unfold fieldJ
 rw [if_neg (by decide), if_neg (by decide), if_neg (by decide), if_neg (by decide), if_neg (by decide), if_neg (by decide), if_neg (by decide), if_neg (by decide), if_pos rfl]
theorem ix_0 (w : World) : (Instr.index 78 (.agg #[.string ⟨#[110, 97, 109, 101]⟩, .string ⟨#[110, 105, 99, 107, 110, 97, 109, 101]⟩, .string ⟨#[111, 114, 103, 97, 110, 105, 122, 97, 116, 105, 111, 110]⟩, .string ⟨#[101, 109, 97, 105, 108]⟩, .string ⟨#[112, 104, 111, 110, 101]⟩, .string ⟨#[111, 110, 108, 105, 110, 101, 83, 101, 114, 118, 105, 99, 101]⟩, .string ⟨#[97, 100, 100, 114, 101, 115, 115]⟩, .string ⟨#[110, 111, 116, 101]⟩]) (.int .i64 0)).run Tryz.prog w = .ok (.string ⟨#[110, 97, 109, 101]⟩) w := by kernel_rfl
theorem ix_1 (w : World) : (Instr.index 78 (.agg #[.string ⟨#[110, 97, 109, 101]⟩, .string ⟨#[110, 105, 99, 107, 110, 97, 109, 101]⟩, .string ⟨#[111, 114, 103, 97, 110, 105, 122, 97, 116, 105, 111, 110]⟩, .string ⟨#[101, 109, 97, 105, 108]⟩, .string ⟨#[112, 104, 111, 110, 101]⟩, .string ⟨#[111, 110, 108, 105, 110, 101, 83, 101, 114, 118, 105, 99, 101]⟩, .string ⟨#[97, 100, 100, 114, 101, 115, 115]⟩, .string ⟨#[110, 111, 116, 101]⟩]) (.int .i64 1)).run Tryz.prog w = .ok (.string ⟨#[110, 105, 99, 107, 110, 97, 109, 101]⟩) w := by kernel_rfl
theorem ix_2 (w : World) : (Instr.index 78 (.agg #[.string ⟨#[110, 97, 109, 101]⟩, .string ⟨#[110, 105, 99, 107, 110, 97, 109, 101]⟩, .string ⟨#[111, 114, 103, 97, 110, 105, 122, 97, 116, 105, 111, 110]⟩, .string ⟨#[101, 109, 97, 105, 108]⟩, .string ⟨#[112, 104, 111, 110, 101]⟩, .string ⟨#[111, 110, 108, 105, 110, 101, 83, 101, 114, 118, 105, 99, 101]⟩, .string ⟨#[97, 100, 100, 114, 101, 115, 115]⟩, .string ⟨#[110, 111, 116, 101]⟩]) (.int .i64 2)).run Tryz.prog w = .ok (.string ⟨#[111, 114, 103, 97, 110, 105, 122, 97, 116, 105, 111, 110]⟩) w := by kernel_rfl
theorem ix_3 (w : World) : (Instr.index 78 (.agg #[.string ⟨#[110, 97, 109, 101]⟩, .string ⟨#[110, 105, 99, 107, 110, 97, 109, 101]⟩, .string ⟨#[111, 114, 103, 97, 110, 105, 122, 97, 116, 105, 111, 110]⟩, .string ⟨#[101, 109, 97, 105, 108]⟩, .string ⟨#[112, 104, 111, 110, 101]⟩, .string ⟨#[111, 110, 108, 105, 110, 101, 83, 101, 114, 118, 105, 99, 101]⟩, .string ⟨#[97, 100, 100, 114, 101, 115, 115]⟩, .string ⟨#[110, 111, 116, 101]⟩]) (.int .i64 3)).run Tryz.prog w = .ok (.string ⟨#[101, 109, 97, 105, 108]⟩) w := by kernel_rfl
theorem ix_4 (w : World) : (Instr.index 78 (.agg #[.string ⟨#[110, 97, 109, 101]⟩, .string ⟨#[110, 105, 99, 107, 110, 97, 109, 101]⟩, .string ⟨#[111, 114, 103, 97, 110, 105, 122, 97, 116, 105, 111, 110]⟩, .string ⟨#[101, 109, 97, 105, 108]⟩, .string ⟨#[112, 104, 111, 110, 101]⟩, .string ⟨#[111, 110, 108, 105, 110, 101, 83, 101, 114, 118, 105, 99, 101]⟩, .string ⟨#[97, 100, 100, 114, 101, 115, 115]⟩, .string ⟨#[110, 111, 116, 101]⟩]) (.int .i64 4)).run Tryz.prog w = .ok (.string ⟨#[112, 104, 111, 110, 101]⟩) w := by kernel_rfl
theorem ix_5 (w : World) : (Instr.index 78 (.agg #[.string ⟨#[110, 97, 109, 101]⟩, .string ⟨#[110, 105, 99, 107, 110, 97, 109, 101]⟩, .string ⟨#[111, 114, 103, 97, 110, 105, 122, 97, 116, 105, 111, 110]⟩, .string ⟨#[101, 109, 97, 105, 108]⟩, .string ⟨#[112, 104, 111, 110, 101]⟩, .string ⟨#[111, 110, 108, 105, 110, 101, 83, 101, 114, 118, 105, 99, 101]⟩, .string ⟨#[97, 100, 100, 114, 101, 115, 115]⟩, .string ⟨#[110, 111, 116, 101]⟩]) (.int .i64 5)).run Tryz.prog w = .ok (.string ⟨#[111, 110, 108, 105, 110, 101, 83, 101, 114, 118, 105, 99, 101]⟩) w := by kernel_rfl
theorem ix_6 (w : World) : (Instr.index 78 (.agg #[.string ⟨#[110, 97, 109, 101]⟩, .string ⟨#[110, 105, 99, 107, 110, 97, 109, 101]⟩, .string ⟨#[111, 114, 103, 97, 110, 105, 122, 97, 116, 105, 111, 110]⟩, .string ⟨#[101, 109, 97, 105, 108]⟩, .string ⟨#[112, 104, 111, 110, 101]⟩, .string ⟨#[111, 110, 108, 105, 110, 101, 83, 101, 114, 118, 105, 99, 101]⟩, .string ⟨#[97, 100, 100, 114, 101, 115, 115]⟩, .string ⟨#[110, 111, 116, 101]⟩]) (.int .i64 6)).run Tryz.prog w = .ok (.string ⟨#[97, 100, 100, 114, 101, 115, 115]⟩) w := by kernel_rfl
theorem ix_7 (w : World) : (Instr.index 78 (.agg #[.string ⟨#[110, 97, 109, 101]⟩, .string ⟨#[110, 105, 99, 107, 110, 97, 109, 101]⟩, .string ⟨#[111, 114, 103, 97, 110, 105, 122, 97, 116, 105, 111, 110]⟩, .string ⟨#[101, 109, 97, 105, 108]⟩, .string ⟨#[112, 104, 111, 110, 101]⟩, .string ⟨#[111, 110, 108, 105, 110, 101, 83, 101, 114, 118, 105, 99, 101]⟩, .string ⟨#[97, 100, 100, 114, 101, 115, 115]⟩, .string ⟨#[110, 111, 116, 101]⟩]) (.int .i64 7)).run Tryz.prog w = .ok (.string ⟨#[110, 111, 116, 101]⟩) w := by kernel_rfl
theorem field_any (t : JV) (r : RV) (f : ByteArray) (hf : f ≠ svText) (w : World) (B : Nat) (hBw : B <= w.heap.size) (ht : TreeOf w B t r) (ot : t.Ok) (hct : countT t <= 100000) :
 Calls Tryz.prog 26 #[r.val, .string f] w (OwnRet w 9 encS 1 (fieldJ t f)) := by
 by_cases h0 : f = nameN
 ·subst h0
  rw [fieldJ_name]
  exact stx_name t r w B hBw ht ot hct
 by_cases h1 : f = givenN \/ f = surN \/ f = sur2N
 ·rw [fieldJ_part t f h1]
  exact ntexts_any t r f h1 w B hBw ht ot
 by_cases h2 : f = svNick
 ·subst h2
  rw [fieldJ_svNick]
  exact stx_nick t r w B hBw ht ot hct
 by_cases h3 : f = svOrg
 ·subst h3
  rw [fieldJ_svOrg]
  exact stx_org t r w B hBw ht ot hct
 by_cases h4 : f = svEmail
 ·subst h4
  rw [fieldJ_svEmail]
  exact stx_email t r w B hBw ht ot hct
 by_cases h5 : f = svPhone
 ·subst h5
  rw [fieldJ_svPhone]
  exact stx_phone t r w B hBw ht ot hct
 by_cases h6 : f = svOnline
 ·subst h6
  rw [fieldJ_svOnline]
  exact stx_online t r w B hBw ht ot hct
 by_cases h7 : f = svAddr
 ·subst h7
  rw [fieldJ_svAddr]
  exact stx_addr t r w B hBw ht ot hct
 by_cases h8 : f = svNote
 ·subst h8
  rw [fieldJ_svNote]
  exact stx_note t r w B hBw ht ot hct
 have e : fieldJ t f = [] := by
  unfold fieldJ
  rw [if_neg h0, if_neg h1, if_neg h2, if_neg h3, if_neg h4, if_neg h5, if_neg h6, if_neg h7, if_neg h8]
 rw [e]
 exact stx_none t r f w B hBw ht ot hct h0 (fun e => h1 (.inl e)) (fun e => h1 (.inr (.inl e))) (fun e => h1 (.inr (.inr e))) h2 h3 h4 h5 h6 h7 h8 hf
theorem stx_text (t : JV) (r : RV) (w : World) (B : Nat) (hBw : B <= w.heap.size) (ht : TreeOf w B t r) (ot : t.Ok) (hct : countT t <= 100000) (hall : AllAt w) :
 Calls Tryz.prog 26 #[r.val, .string svText] w (OwnRet w 9 encS 1 (allF.flatMap (fieldJ t))) := by
 obtain ⟨W0, hW0⟩ : ∃ W0, w.alloc r.obj = W0 := ⟨_, rfl⟩
 have hA0 : VAt W0 w.heap.size r := by rw [<- hW0]; exact heap_alloc_at rfl
 have hB0 : Below w.heap.size w W0 := by rw [<- hW0]; exact (Below.refl _ _).alloc (Nat.le_refl _) _
 have HC : Hid (Calls Tryz.prog 15 #[r.val, .string nameN] W0 (GetRetB W0 B (t.get nameN))) := getB_any t r nameN W0 B (Nat.le_trans hBw hB0.size) (ht.under (hB0.mono hBw) (Nat.le_refl _)) ot
 have hw0 := hB0.size
 have HTR : Hid (∀ W, Below w.heap.size w W -> TreeOf W B t r) := fun W hW => ht.under (hW.mono hBw) (Nat.le_refl _)
 have HF : Hid (∀ f, f ≠ svText -> ∀ W, Below w.heap.size w W -> Calls Tryz.prog 26 #[r.val, .string f] W (OwnRet W 9 encS 1 (fieldJ t f))) := fun f hf W hW => field_any t r f hf W B (Nat.le_trans hBw hW.size) (HTR.out W hW) ot hct
 have HLL : Hid ((allF.flatMap (fieldJ t)).length <= 24 * 100000) := by
  have h := textsJ_len t svText
  unfold textsJ at h
  rw [if_pos rfl] at h
  unfold Hid
  omega
 have HAL := Lib.hid hall
 have HF0 : Hid (∀ W, Below w.heap.size w W -> Calls Tryz.prog 26 #[r.val, .string ⟨#[110, 97, 109, 101]⟩] W (OwnRet W 9 encS 1 (fieldJ t nameN))) := fun W hW => HF.out nameN (by decide) W hW
 have HF1 : Hid (∀ W, Below w.heap.size w W -> Calls Tryz.prog 26 #[r.val, .string ⟨#[110, 105, 99, 107, 110, 97, 109, 101]⟩] W (OwnRet W 9 encS 1 (fieldJ t svNick))) := fun W hW => HF.out svNick (by decide) W hW
 have HF2 : Hid (∀ W, Below w.heap.size w W -> Calls Tryz.prog 26 #[r.val, .string ⟨#[111, 114, 103, 97, 110, 105, 122, 97, 116, 105, 111, 110]⟩] W (OwnRet W 9 encS 1 (fieldJ t svOrg))) := fun W hW => HF.out svOrg (by decide) W hW
 have HF3 : Hid (∀ W, Below w.heap.size w W -> Calls Tryz.prog 26 #[r.val, .string ⟨#[101, 109, 97, 105, 108]⟩] W (OwnRet W 9 encS 1 (fieldJ t svEmail))) := fun W hW => HF.out svEmail (by decide) W hW
 have HF4 : Hid (∀ W, Below w.heap.size w W -> Calls Tryz.prog 26 #[r.val, .string ⟨#[112, 104, 111, 110, 101]⟩] W (OwnRet W 9 encS 1 (fieldJ t svPhone))) := fun W hW => HF.out svPhone (by decide) W hW
 have HF5 : Hid (∀ W, Below w.heap.size w W -> Calls Tryz.prog 26 #[r.val, .string ⟨#[111, 110, 108, 105, 110, 101, 83, 101, 114, 118, 105, 99, 101]⟩] W (OwnRet W 9 encS 1 (fieldJ t svOnline))) := fun W hW => HF.out svOnline (by decide) W hW
 have HF6 : Hid (∀ W, Below w.heap.size w W -> Calls Tryz.prog 26 #[r.val, .string ⟨#[97, 100, 100, 114, 101, 115, 115]⟩] W (OwnRet W 9 encS 1 (fieldJ t svAddr))) := fun W hW => HF.out svAddr (by decide) W hW
 have HF7 : Hid (∀ W, Below w.heap.size w W -> Calls Tryz.prog 26 #[r.val, .string ⟨#[110, 111, 116, 101]⟩] W (OwnRet W 9 encS 1 (fieldJ t svNote))) := fun W hW => HF.out svNote (by decide) W hW
 clear HF hall
 obtain ⟨k, n, s, pl, nl, cl, pm, nm, cm⟩ := r
 dsimp only [RV.val, RV.obj] at *
 have HW := Lib.hid hW0
 have HB0 := Lib.hid hB0
 unfold nameN at HC
 try unfold svText at *
 clear hW0 hB0 ht
 go_enter Tryz.func26, Tryz.ntmps26
 go_upto_region 1 with fail
 rw [HW.out]
 clear HW
 obtain ⟨a0, a1, a2, a3, a4⟩ := hA0.cells5
 have hz0 := hA0.lt
 go_upto_region 3 with (go_at_call 15; refine HC.out.mono ?_; rintro e w1 ⟨rv, bb, rfl, hbb, ht1, hb1⟩; obtain ⟨rk, rn, rS, rpl, rnl, rcl, rpm, rnm, rcm⟩ := rv)
 have hz1 := hb1.size
 have hb2 : Below W0.heap.size W0 (w1.alloc (.cells #[.int .i64 rk, .int .i64 rn, .string rS, .slice rpl rnl rcl, .slice rpm rnm rcm] 25)) := hb1.alloc hz1 _
 have hv2 : VAt (w1.alloc (.cells #[.int .i64 rk, .int .i64 rn, .string rS, .slice rpl rnl rcl, .slice rpm rnm rcm] 25)) w1.heap.size ⟨rk, rn, rS, rpl, rnl, rcl, rpm, rnm, rcm⟩ := heap_alloc_at rfl
 have ht2 := ht1.under ((Below.refl B w1).alloc (Nat.le_trans (Nat.le_trans hBw hw0) hz1) (.cells #[.int .i64 rk, .int .i64 rn, .string rS, .slice rpl rnl rcl, .slice rpm rnm rcm] 25)) (Nat.le_refl _)
 obtain ⟨g, hg⟩ : ∃ g, w1.heap.size = g := ⟨_, rfl⟩
 obtain ⟨W2, hW2⟩ : ∃ W, w1.alloc (.cells #[.int .i64 rk, .int .i64 rn, .string rS, .slice rpl rnl rcl, .slice rpm rnm rcm] 25) = W := ⟨_, rfl⟩
 rw [hW2] at hb2 hv2 ht2
 rw [hg] at hv2
 try rw [hW2]
 try rw [hg]
 obtain ⟨v0, v1, v2, v3, v4⟩ := hv2.cells5
 dsimp only at v0 v1 v2 v3 v4
 have b0 := bcs hb2 hz0 a0
 have b1 := bcs hb2 hz0 a1
 have b2 := bcs hb2 hz0 a2
 have b3 := bcs hb2 hz0 a3
 have b4 := bcs hb2 hz0 a4
 have hbw := HB0.out.trans (hb2.mono hw0)
 have HX := Lib.hid hbw
 have hw2 := hbw.size
 have hBw2 : B <= W2.heap.size := Nat.le_trans hBw hw2
 have HT2 := Lib.hid ht2
 clear hW2 hg hb1 ht1 hb2 hv2 hz1 hbw ht2 a0 a1 a2 a3 a4 hbb
 have hag := (HAL.out.below HX.out)
 have g0 : W2.cell? ⟨0, 0, none⟩ = some (.string ⟨#[110, 97, 109, 101]⟩) := hag 0 _ rfl
 have g1 : W2.cell? ⟨0, 1, none⟩ = some (.string ⟨#[110, 105, 99, 107, 110, 97, 109, 101]⟩) := hag 1 _ rfl
 have g2 : W2.cell? ⟨0, 2, none⟩ = some (.string ⟨#[111, 114, 103, 97, 110, 105, 122, 97, 116, 105, 111, 110]⟩) := hag 2 _ rfl
 have g3 : W2.cell? ⟨0, 3, none⟩ = some (.string ⟨#[101, 109, 97, 105, 108]⟩) := hag 3 _ rfl
 have g4 : W2.cell? ⟨0, 4, none⟩ = some (.string ⟨#[112, 104, 111, 110, 101]⟩) := hag 4 _ rfl
 have g5 : W2.cell? ⟨0, 5, none⟩ = some (.string ⟨#[111, 110, 108, 105, 110, 101, 83, 101, 114, 118, 105, 99, 101]⟩) := hag 5 _ rfl
 have g6 : W2.cell? ⟨0, 6, none⟩ = some (.string ⟨#[97, 100, 100, 114, 101, 115, 115]⟩) := hag 6 _ rfl
 have g7 : W2.cell? ⟨0, 7, none⟩ = some (.string ⟨#[110, 111, 116, 101]⟩) := hag 7 _ rfl
 clear hag v0 v1 v2 v3 v4
 have hgx : w.heap.size < W2.heap.size := (cell_some b0).2
 have HB0 : Hid (W2.cell? ⟨w.heap.size, 0, none⟩ = some (.int .i64 k) /\ W2.cell? ⟨w.heap.size, 1, none⟩ = some (.int .i64 n) /\ W2.cell? ⟨w.heap.size, 2, none⟩ = some (.string s) /\ W2.cell? ⟨w.heap.size, 3, none⟩ = some (.slice pl nl cl) /\ W2.cell? ⟨w.heap.size, 4, none⟩ = some (.slice pm nm cm)) := ⟨b0, b1, b2, b3, b4⟩
 go_wp2_with fail
 clear b0 b1 b2 b3 b4 g0 g1 g2 g3 g4 g5 g6 g7
 go_loopw [7, 102] (fun u i wr => ∃ j : Nat, j <= 8 /\ i = .int .i64 (j : Int) /\ Hid (Own wr W2.heap.size 9 encS 1 u ((allF.take j).flatMap (fieldJ t)) /\ Below W2.heap.size W2 wr)) (fun _ i _ => 8 - (intOf i).toNat)
 case atStart => exact ⟨0, by omega, rfl, Own.nil _ _ _, Below.refl _ _⟩
 case round =>
  obtain ⟨j, hj, rfl, hH⟩ := hrel
  have HO := Lib.hid hH.out.1
  have HBR := Lib.hid hH.out.2
  have hbz := HBR.out.size
  have HBW : Hid (Below w.heap.size w wr) := HX.out.trans (HBR.out.mono hw2)
  have c0 := bcs HBR.out hgx HB0.out.1
  have c1 := bcs HBR.out hgx HB0.out.2.1
  have c2 := bcs HBR.out hgx HB0.out.2.2.1
  have c3 := bcs HBR.out hgx HB0.out.2.2.2.1
  have c4 := bcs HBR.out hgx HB0.out.2.2.2.2
  clear hH
  by_cases hlt : j < 8
  ·have hjj : j = 0 \/ j = 1 \/ j = 2 \/ j = 3 \/ j = 4 \/ j = 5 \/ j = 6 \/ j = 7 := by omega
   rcases hjj with rfl | rfl | rfl | rfl | rfl | rfl | rfl | rfl
   ·have HPS : Hid ((allF.take (0 + 1)).flatMap (fieldJ t) = (allF.take 0).flatMap (fieldJ t) ++ fieldJ t nameN) := flat_succ (f := fieldJ t) (l := allF) (j := 0) rfl
    have hpm := flat_mid (f := fieldJ t) (l := allF) (j := 0) (x := nameN) rfl
    have HFC := Lib.hid (HF0.out wr HBW.out)
    try dsimp only [RV.val] at HFC
    try rw [show ((0 : Nat) : Int) = 0 from rfl]
    have hix := ix_0
    obtain ⟨L0, hL0⟩ : ∃ L, (allF.take 0).flatMap (fieldJ t) = L := ⟨_, rfl⟩
    obtain ⟨LF, hLF⟩ : ∃ L, fieldJ t nameN = L := ⟨_, rfl⟩
    rw [hL0] at HO HPS hpm
    rw [hLF] at HFC HPS hpm
    have HLN : Hid (L0.length + LF.length <= maxLen /\ (L0.length + LF.length) * 16 <= 140737488355328) := by
     have h2 := HLL.out
     exact ⟨by unfold maxLen; omega, by omega⟩
    clear hL0 hLF hpm
    go_wp2_with (first
     | (go_at_call 26; (with_reducible refine HFC.out.mono ?_); rintro e w4 ⟨u4, rfl, ho4, hb4⟩; (have ho5 := HO.out.below hb4 (Nat.le_refl _)); (have hz4 : W2.heap.size <= w4.heap.size := Nat.le_trans hbz hb4.size))
     | (at_builtin; refine wpList_append_rd slS codecS w4 rfl (.tmp 105) (.tmp 108) rfl (v := u7) rfl rfl ho5 (ho4.rd codecS) HLN.out.1 HLN.out.2 hz4 ?_; intro v8 w8 ho8 hg8 hat8)
     | fail)
    have HS8 : Hid (Own w8 W2.heap.size 9 encS 1 v8 ((allF.take (0 + 1)).flatMap (fieldJ t)) /\ Below W2.heap.size W2 w8) := ⟨by rw [HPS.out]; exact ho8, Below.appended (HBR.out.trans (hb4.mono hbz)) hg8 ho5 hz4⟩
    clear ho8 hg8 hat8 ho4 ho5 hb4
    go_roundw
    case rel => exact ⟨0 + 1, by omega, by go_num, HS8.out⟩
    case measure => simp [intOf]; try omega
   ·have HPS : Hid ((allF.take (1 + 1)).flatMap (fieldJ t) = (allF.take 1).flatMap (fieldJ t) ++ fieldJ t svNick) := flat_succ (f := fieldJ t) (l := allF) (j := 1) rfl
    have hpm := flat_mid (f := fieldJ t) (l := allF) (j := 1) (x := svNick) rfl
    have HFC := Lib.hid (HF1.out wr HBW.out)
    try dsimp only [RV.val] at HFC
    try rw [show ((1 : Nat) : Int) = 1 from rfl]
    have hix := ix_1
    obtain ⟨L0, hL0⟩ : ∃ L, (allF.take 1).flatMap (fieldJ t) = L := ⟨_, rfl⟩
    obtain ⟨LF, hLF⟩ : ∃ L, fieldJ t svNick = L := ⟨_, rfl⟩
    rw [hL0] at HO HPS hpm
    rw [hLF] at HFC HPS hpm
    have HLN : Hid (L0.length + LF.length <= maxLen /\ (L0.length + LF.length) * 16 <= 140737488355328) := by
     have h2 := HLL.out
     exact ⟨by unfold maxLen; omega, by omega⟩
    clear hL0 hLF hpm
    go_wp2_with (first
     | (go_at_call 26; (with_reducible refine HFC.out.mono ?_); rintro e w4 ⟨u4, rfl, ho4, hb4⟩; (have ho5 := HO.out.below hb4 (Nat.le_refl _)); (have hz4 : W2.heap.size <= w4.heap.size := Nat.le_trans hbz hb4.size))
     | (at_builtin; refine wpList_append_rd slS codecS w4 rfl (.tmp 105) (.tmp 108) rfl (v := u7) rfl rfl ho5 (ho4.rd codecS) HLN.out.1 HLN.out.2 hz4 ?_; intro v8 w8 ho8 hg8 hat8)
     | fail)
    have HS8 : Hid (Own w8 W2.heap.size 9 encS 1 v8 ((allF.take (1 + 1)).flatMap (fieldJ t)) /\ Below W2.heap.size W2 w8) := ⟨by rw [HPS.out]; exact ho8, Below.appended (HBR.out.trans (hb4.mono hbz)) hg8 ho5 hz4⟩
    clear ho8 hg8 hat8 ho4 ho5 hb4
    go_roundw
    case rel => exact ⟨1 + 1, by omega, by go_num, HS8.out⟩
    case measure => simp [intOf]; try omega
   ·have HPS : Hid ((allF.take (2 + 1)).flatMap (fieldJ t) = (allF.take 2).flatMap (fieldJ t) ++ fieldJ t svOrg) := flat_succ (f := fieldJ t) (l := allF) (j := 2) rfl
    have hpm := flat_mid (f := fieldJ t) (l := allF) (j := 2) (x := svOrg) rfl
    have HFC := Lib.hid (HF2.out wr HBW.out)
    try dsimp only [RV.val] at HFC
    try rw [show ((2 : Nat) : Int) = 2 from rfl]
    have hix := ix_2
    obtain ⟨L0, hL0⟩ : ∃ L, (allF.take 2).flatMap (fieldJ t) = L := ⟨_, rfl⟩
    obtain ⟨LF, hLF⟩ : ∃ L, fieldJ t svOrg = L := ⟨_, rfl⟩
    rw [hL0] at HO HPS hpm
    rw [hLF] at HFC HPS hpm
    have HLN : Hid (L0.length + LF.length <= maxLen /\ (L0.length + LF.length) * 16 <= 140737488355328) := by
     have h2 := HLL.out
     exact ⟨by unfold maxLen; omega, by omega⟩
    clear hL0 hLF hpm
    go_wp2_with (first
     | (go_at_call 26; (with_reducible refine HFC.out.mono ?_); rintro e w4 ⟨u4, rfl, ho4, hb4⟩; (have ho5 := HO.out.below hb4 (Nat.le_refl _)); (have hz4 : W2.heap.size <= w4.heap.size := Nat.le_trans hbz hb4.size))
     | (at_builtin; refine wpList_append_rd slS codecS w4 rfl (.tmp 105) (.tmp 108) rfl (v := u7) rfl rfl ho5 (ho4.rd codecS) HLN.out.1 HLN.out.2 hz4 ?_; intro v8 w8 ho8 hg8 hat8)
     | fail)
    have HS8 : Hid (Own w8 W2.heap.size 9 encS 1 v8 ((allF.take (2 + 1)).flatMap (fieldJ t)) /\ Below W2.heap.size W2 w8) := ⟨by rw [HPS.out]; exact ho8, Below.appended (HBR.out.trans (hb4.mono hbz)) hg8 ho5 hz4⟩
    clear ho8 hg8 hat8 ho4 ho5 hb4
    go_roundw
    case rel => exact ⟨2 + 1, by omega, by go_num, HS8.out⟩
    case measure => simp [intOf]; try omega
   ·have HPS : Hid ((allF.take (3 + 1)).flatMap (fieldJ t) = (allF.take 3).flatMap (fieldJ t) ++ fieldJ t svEmail) := flat_succ (f := fieldJ t) (l := allF) (j := 3) rfl
    have hpm := flat_mid (f := fieldJ t) (l := allF) (j := 3) (x := svEmail) rfl
    have HFC := Lib.hid (HF3.out wr HBW.out)
    try dsimp only [RV.val] at HFC
    try rw [show ((3 : Nat) : Int) = 3 from rfl]
    have hix := ix_3
    obtain ⟨L0, hL0⟩ : ∃ L, (allF.take 3).flatMap (fieldJ t) = L := ⟨_, rfl⟩
    obtain ⟨LF, hLF⟩ : ∃ L, fieldJ t svEmail = L := ⟨_, rfl⟩
    rw [hL0] at HO HPS hpm
    rw [hLF] at HFC HPS hpm
    have HLN : Hid (L0.length + LF.length <= maxLen /\ (L0.length + LF.length) * 16 <= 140737488355328) := by
     have h2 := HLL.out
     exact ⟨by unfold maxLen; omega, by omega⟩
    clear hL0 hLF hpm
    go_wp2_with (first
     | (go_at_call 26; (with_reducible refine HFC.out.mono ?_); rintro e w4 ⟨u4, rfl, ho4, hb4⟩; (have ho5 := HO.out.below hb4 (Nat.le_refl _)); (have hz4 : W2.heap.size <= w4.heap.size := Nat.le_trans hbz hb4.size))
     | (at_builtin; refine wpList_append_rd slS codecS w4 rfl (.tmp 105) (.tmp 108) rfl (v := u7) rfl rfl ho5 (ho4.rd codecS) HLN.out.1 HLN.out.2 hz4 ?_; intro v8 w8 ho8 hg8 hat8)
     | fail)
    have HS8 : Hid (Own w8 W2.heap.size 9 encS 1 v8 ((allF.take (3 + 1)).flatMap (fieldJ t)) /\ Below W2.heap.size W2 w8) := ⟨by rw [HPS.out]; exact ho8, Below.appended (HBR.out.trans (hb4.mono hbz)) hg8 ho5 hz4⟩
    clear ho8 hg8 hat8 ho4 ho5 hb4
    go_roundw
    case rel => exact ⟨3 + 1, by omega, by go_num, HS8.out⟩
    case measure => simp [intOf]; try omega
   ·have HPS : Hid ((allF.take (4 + 1)).flatMap (fieldJ t) = (allF.take 4).flatMap (fieldJ t) ++ fieldJ t svPhone) := flat_succ (f := fieldJ t) (l := allF) (j := 4) rfl
    have hpm := flat_mid (f := fieldJ t) (l := allF) (j := 4) (x := svPhone) rfl
    have HFC := Lib.hid (HF4.out wr HBW.out)
    try dsimp only [RV.val] at HFC
    try rw [show ((4 : Nat) : Int) = 4 from rfl]
    have hix := ix_4
    obtain ⟨L0, hL0⟩ : ∃ L, (allF.take 4).flatMap (fieldJ t) = L := ⟨_, rfl⟩
    obtain ⟨LF, hLF⟩ : ∃ L, fieldJ t svPhone = L := ⟨_, rfl⟩
    rw [hL0] at HO HPS hpm
    rw [hLF] at HFC HPS hpm
    have HLN : Hid (L0.length + LF.length <= maxLen /\ (L0.length + LF.length) * 16 <= 140737488355328) := by
     have h2 := HLL.out
     exact ⟨by unfold maxLen; omega, by omega⟩
    clear hL0 hLF hpm
    go_wp2_with (first
     | (go_at_call 26; (with_reducible refine HFC.out.mono ?_); rintro e w4 ⟨u4, rfl, ho4, hb4⟩; (have ho5 := HO.out.below hb4 (Nat.le_refl _)); (have hz4 : W2.heap.size <= w4.heap.size := Nat.le_trans hbz hb4.size))
     | (at_builtin; refine wpList_append_rd slS codecS w4 rfl (.tmp 105) (.tmp 108) rfl (v := u7) rfl rfl ho5 (ho4.rd codecS) HLN.out.1 HLN.out.2 hz4 ?_; intro v8 w8 ho8 hg8 hat8)
     | fail)
    have HS8 : Hid (Own w8 W2.heap.size 9 encS 1 v8 ((allF.take (4 + 1)).flatMap (fieldJ t)) /\ Below W2.heap.size W2 w8) := ⟨by rw [HPS.out]; exact ho8, Below.appended (HBR.out.trans (hb4.mono hbz)) hg8 ho5 hz4⟩
    clear ho8 hg8 hat8 ho4 ho5 hb4
    go_roundw
    case rel => exact ⟨4 + 1, by omega, by go_num, HS8.out⟩
    case measure => simp [intOf]; try omega
   ·have HPS : Hid ((allF.take (5 + 1)).flatMap (fieldJ t) = (allF.take 5).flatMap (fieldJ t) ++ fieldJ t svOnline) := flat_succ (f := fieldJ t) (l := allF) (j := 5) rfl
    have hpm := flat_mid (f := fieldJ t) (l := allF) (j := 5) (x := svOnline) rfl
    have HFC := Lib.hid (HF5.out wr HBW.out)
    try dsimp only [RV.val] at HFC
    try rw [show ((5 : Nat) : Int) = 5 from rfl]
    have hix := ix_5
    obtain ⟨L0, hL0⟩ : ∃ L, (allF.take 5).flatMap (fieldJ t) = L := ⟨_, rfl⟩
    obtain ⟨LF, hLF⟩ : ∃ L, fieldJ t svOnline = L := ⟨_, rfl⟩
    rw [hL0] at HO HPS hpm
    rw [hLF] at HFC HPS hpm
    have HLN : Hid (L0.length + LF.length <= maxLen /\ (L0.length + LF.length) * 16 <= 140737488355328) := by
     have h2 := HLL.out
     exact ⟨by unfold maxLen; omega, by omega⟩
    clear hL0 hLF hpm
    go_wp2_with (first
     | (go_at_call 26; (with_reducible refine HFC.out.mono ?_); rintro e w4 ⟨u4, rfl, ho4, hb4⟩; (have ho5 := HO.out.below hb4 (Nat.le_refl _)); (have hz4 : W2.heap.size <= w4.heap.size := Nat.le_trans hbz hb4.size))
     | (at_builtin; refine wpList_append_rd slS codecS w4 rfl (.tmp 105) (.tmp 108) rfl (v := u7) rfl rfl ho5 (ho4.rd codecS) HLN.out.1 HLN.out.2 hz4 ?_; intro v8 w8 ho8 hg8 hat8)
     | fail)
    have HS8 : Hid (Own w8 W2.heap.size 9 encS 1 v8 ((allF.take (5 + 1)).flatMap (fieldJ t)) /\ Below W2.heap.size W2 w8) := ⟨by rw [HPS.out]; exact ho8, Below.appended (HBR.out.trans (hb4.mono hbz)) hg8 ho5 hz4⟩
    clear ho8 hg8 hat8 ho4 ho5 hb4
    go_roundw
    case rel => exact ⟨5 + 1, by omega, by go_num, HS8.out⟩
    case measure => simp [intOf]; try omega
   ·have HPS : Hid ((allF.take (6 + 1)).flatMap (fieldJ t) = (allF.take 6).flatMap (fieldJ t) ++ fieldJ t svAddr) := flat_succ (f := fieldJ t) (l := allF) (j := 6) rfl
    have hpm := flat_mid (f := fieldJ t) (l := allF) (j := 6) (x := svAddr) rfl
    have HFC := Lib.hid (HF6.out wr HBW.out)
    try dsimp only [RV.val] at HFC
    try rw [show ((6 : Nat) : Int) = 6 from rfl]
    have hix := ix_6
    obtain ⟨L0, hL0⟩ : ∃ L, (allF.take 6).flatMap (fieldJ t) = L := ⟨_, rfl⟩
    obtain ⟨LF, hLF⟩ : ∃ L, fieldJ t svAddr = L := ⟨_, rfl⟩
    rw [hL0] at HO HPS hpm
    rw [hLF] at HFC HPS hpm
    have HLN : Hid (L0.length + LF.length <= maxLen /\ (L0.length + LF.length) * 16 <= 140737488355328) := by
     have h2 := HLL.out
     exact ⟨by unfold maxLen; omega, by omega⟩
    clear hL0 hLF hpm
    go_wp2_with (first
     | (go_at_call 26; (with_reducible refine HFC.out.mono ?_); rintro e w4 ⟨u4, rfl, ho4, hb4⟩; (have ho5 := HO.out.below hb4 (Nat.le_refl _)); (have hz4 : W2.heap.size <= w4.heap.size := Nat.le_trans hbz hb4.size))
     | (at_builtin; refine wpList_append_rd slS codecS w4 rfl (.tmp 105) (.tmp 108) rfl (v := u7) rfl rfl ho5 (ho4.rd codecS) HLN.out.1 HLN.out.2 hz4 ?_; intro v8 w8 ho8 hg8 hat8)
     | fail)
    have HS8 : Hid (Own w8 W2.heap.size 9 encS 1 v8 ((allF.take (6 + 1)).flatMap (fieldJ t)) /\ Below W2.heap.size W2 w8) := ⟨by rw [HPS.out]; exact ho8, Below.appended (HBR.out.trans (hb4.mono hbz)) hg8 ho5 hz4⟩
    clear ho8 hg8 hat8 ho4 ho5 hb4
    go_roundw
    case rel => exact ⟨6 + 1, by omega, by go_num, HS8.out⟩
    case measure => simp [intOf]; try omega
   ·have HPS : Hid ((allF.take (7 + 1)).flatMap (fieldJ t) = (allF.take 7).flatMap (fieldJ t) ++ fieldJ t svNote) := flat_succ (f := fieldJ t) (l := allF) (j := 7) rfl
    have hpm := flat_mid (f := fieldJ t) (l := allF) (j := 7) (x := svNote) rfl
    have HFC := Lib.hid (HF7.out wr HBW.out)
    try dsimp only [RV.val] at HFC
    try rw [show ((7 : Nat) : Int) = 7 from rfl]
    have hix := ix_7
    obtain ⟨L0, hL0⟩ : ∃ L, (allF.take 7).flatMap (fieldJ t) = L := ⟨_, rfl⟩
    obtain ⟨LF, hLF⟩ : ∃ L, fieldJ t svNote = L := ⟨_, rfl⟩
    rw [hL0] at HO HPS hpm
    rw [hLF] at HFC HPS hpm
    have HLN : Hid (L0.length + LF.length <= maxLen /\ (L0.length + LF.length) * 16 <= 140737488355328) := by
     have h2 := HLL.out
     exact ⟨by unfold maxLen; omega, by omega⟩
    clear hL0 hLF hpm
    go_wp2_with (first
     | (go_at_call 26; (with_reducible refine HFC.out.mono ?_); rintro e w4 ⟨u4, rfl, ho4, hb4⟩; (have ho5 := HO.out.below hb4 (Nat.le_refl _)); (have hz4 : W2.heap.size <= w4.heap.size := Nat.le_trans hbz hb4.size))
     | (at_builtin; refine wpList_append_rd slS codecS w4 rfl (.tmp 105) (.tmp 108) rfl (v := u7) rfl rfl ho5 (ho4.rd codecS) HLN.out.1 HLN.out.2 hz4 ?_; intro v8 w8 ho8 hg8 hat8)
     | fail)
    have HS8 : Hid (Own w8 W2.heap.size 9 encS 1 v8 ((allF.take (7 + 1)).flatMap (fieldJ t)) /\ Below W2.heap.size W2 w8) := ⟨by rw [HPS.out]; exact ho8, Below.appended (HBR.out.trans (hb4.mono hbz)) hg8 ho5 hz4⟩
    clear ho8 hg8 hat8 ho4 ho5 hb4
    go_roundw
    case rel => exact ⟨7 + 1, by omega, by go_num, HS8.out⟩
    case measure => simp [intOf]; try omega
  ·obtain rfl : j = 8 := by omega
   have ho := HO.out
   have hta : allF.take 8 = allF := rfl
   rw [hta] at ho
   have HZ := Lib.hid (And.intro (ho.mono hw2) HBW.out)
   clear ho hta
   go_wp2_with fail
   go_ret
   exact ⟨_, rfl, HZ.out.1, HZ.out.2⟩
theorem svtexts_any (t : JV) (r : RV) (f : ByteArray) (w : World) (B : Nat) (hBw : B <= w.heap.size) (ht : TreeOf w B t r) (ot : t.Ok) (hct : countT t <= 100000) (hall : AllAt w) :
 Calls Tryz.prog 26 #[r.val, .string f] w (OwnRet w 9 encS 1 (textsJ t f)) := by
 unfold textsJ
 by_cases h : f = svText
 ·subst h
  rw [if_pos rfl]
  exact stx_text t r w B hBw ht ot hct hall
 ·rw [if_neg h]
  exact field_any t r f h w B hBw ht ot hct
end
section
def mOf (m : List (ByteArray × JV)) (n : ByteArray) : Option JV := (m.find? (fun p => decide (p.1 = n))).map (·.2)
end
section
open Go Go.RowKit
def svInBook : ByteArray := ⟨#[105, 110, 65, 100, 100, 114, 101, 115, 115, 66, 111, 111, 107]⟩
def svBookIds : ByteArray := ⟨#[97, 100, 100, 114, 101, 115, 115, 66, 111, 111, 107, 73, 100, 115]⟩
def svUid : ByteArray := ⟨#[117, 105, 100]⟩
def svHasMem : ByteArray := ⟨#[104, 97, 115, 77, 101, 109, 98, 101, 114]⟩
def svMembers : ByteArray := ⟨#[109, 101, 109, 98, 101, 114, 115]⟩
def svIndiv : ByteArray := ⟨#[105, 110, 100, 105, 118, 105, 100, 117, 97, 108]⟩
def svCrBef : ByteArray := ⟨#[99, 114, 101, 97, 116, 101, 100, 66, 101, 102, 111, 114, 101]⟩
def svCrAft : ByteArray := ⟨#[99, 114, 101, 97, 116, 101, 100, 65, 102, 116, 101, 114]⟩
def svUpBef : ByteArray := ⟨#[117, 112, 100, 97, 116, 101, 100, 66, 101, 102, 111, 114, 101]⟩
def svUpAft : ByteArray := ⟨#[117, 112, 100, 97, 116, 101, 100, 65, 102, 116, 101, 114]⟩
def svOper : ByteArray := ⟨#[111, 112, 101, 114, 97, 116, 111, 114]⟩
def svConds : ByteArray := ⟨#[99, 111, 110, 100, 105, 116, 105, 111, 110, 115]⟩
def svAnd : ByteArray := ⟨#[65, 78, 68]⟩
def svOr : ByteArray := ⟨#[79, 82]⟩
def svNot : ByteArray := ⟨#[78, 79, 84]⟩
def isFieldB (n : ByteArray) : Bool := decide (n = svText) || (decide (n = givenN) || (decide (n = surN) || allF.any (fun y => decide (y = n))))
def stampB (n : ByteArray) : Bool := decide (n = svCrBef) || (decide (n = svCrAft) || (decide (n = svUpBef) || decide (n = svUpAft)))
def askB (n : ByteArray) : Bool := decide (n = svInBook) || (decide (n = svUid) || (decide (n = svHasMem) || (decide (n = kindN) || stampB n)))
def rightC (n : ByteArray) (x : JV) : Bool := decide (x.k = 4) && (decide (x.s.size <= 255) && ((!isFieldB n || decide (x.s.size <= 64)) && ((!decide (n = svInBook) || idB x.s) && (!stampB n || (secF x.s.data.toList).isSome))))
def condE (n : ByteArray) (x : JV) : Int := if askB n || isFieldB n then (if rightC n x then 0 else 1) else 200
def condsE : List (ByteArray × JV) -> Int
 | [] => 0
 | p :: r => if condE p.1 p.2 = 0 then condsE r else condE p.1 p.2
def opOk (t : JV) : Bool := decide (t.m.length = 2) && (decide (((t.get svOper).getD JV.zero).k = 4) && ((decide (((t.get svOper).getD JV.zero).s = svAnd) || (decide (((t.get svOper).getD JV.zero).s = svOr) || decide (((t.get svOper).getD JV.zero).s = svNot))) && decide (((t.get svConds).getD JV.zero).k = 5)))
def condsL (t : JV) : List JV := ((t.get svConds).getD JV.zero).l
mutual
def chkF : JV -> Int
 | .mk k n s l m => if k = 6 then (if ((JV.mk k n s l m).get svOper).isSome then (if opOk (.mk k n s l m) then chkC m else 1) else condsE m) else 1
def chkC : List (ByteArray × JV) -> Int
 | [] => 0
 | (a, v) :: r => if a = svConds then chkV v else chkC r
def chkV : JV -> Int
 | .mk _ _ _ l _ => chkFL l
def chkFL : List JV -> Int
 | [] => 0
 | x :: r => if chkF x = 0 then chkFL r else chkF x
end
def checkJ (f : JV) : Int := if f.k = 1 then 0 else if 30 < countT f then 200 else chkF f
def hasJ (v : JV) (name s : ByteArray) : Bool := match v.get name with | some x => (x.get s).isSome | none => false
def aheadO (v : JV) (name s : ByteArray) : Option Bool := match textM v name with | [] => none | x :: _ => some (decide (cmpS x.data.toList s.data.toList < 0))
def condB (v : JV) (n s : ByteArray) : Bool :=
 if n = svInBook then hasJ v svBookIds s else
 if n = svUid then decide (textM v svUid = [s]) else
 if n = svHasMem then hasJ v svMembers s else
 if n = kindN then (if (v.get kindN).isSome then decide (textM v kindN = [s]) else decide (s = svIndiv)) else
 if n = svCrBef then decide (aheadO v createdN s = some true) else
 if n = svCrAft then decide (aheadO v createdN s = some false) else
 if n = svUpBef then decide (aheadO v updatedN s = some true) else
 if n = svUpAft then decide (aheadO v updatedN s = some false) else matchF s.data.toList (textsJ v n)
def combB (o : ByteArray) (bs : List Bool) : Bool := if o = svAnd then bs.all id else if o = svOr then bs.any id else !bs.any id
mutual
def holF (v : JV) : JV -> Bool
 | .mk k n s l m => match (JV.mk k n s l m).get svOper with
   | some o => combB o.s (holC v m)
   | none => m.all (fun p => condB v p.1 p.2.s)
def holC (v : JV) : List (ByteArray × JV) -> List Bool
 | [] => []
 | (a, x) :: r => if a = svConds then holV v x else holC v r
def holV (v : JV) : JV -> List Bool
 | .mk _ _ _ l _ => holL v l
def holL (v : JV) : List JV -> List Bool
 | [] => []
 | x :: r => holF v x :: holL v r
end
def holdsJ (f v : JV) : Bool := decide (v.k = 6) && (decide (checkJ f = 0) && holF v f)
theorem memS_six {t : JV} (h : t.k = 6) : t.mem = t.m := by cases t; exact if_pos h
theorem memS_not {t : JV} (h : t.k ≠ 6) : t.mem = [] := by cases t; exact if_neg h
theorem getS_not {t : JV} (h : t.k ≠ 6) (n : ByteArray) : t.get n = none := by
 unfold JV.get JV.place
 rw [memS_not h]
 rfl
theorem mem_get_cons (p : ByteArray × JV) (m : List (ByteArray × JV)) (n : ByteArray) : ((p :: m).findIdx? (fun q => decide (q.1 = n))).bind (fun i => (p :: m)[i]?.map (·.2)) = if p.1 = n then some p.2 else (m.findIdx? (fun q => decide (q.1 = n))).bind (fun i => m[i]?.map (·.2)) := by
 rw [List.findIdx?_cons]
 by_cases h : p.1 = n
 ·rw [if_pos h, if_pos (by simpa using h)]
  rfl
 ·rw [if_neg h, if_neg (by simpa using h)]
  cases m.findIdx? (fun q => decide (q.1 = n)) <;> rfl
theorem getS_mOf {t : JV} (h : t.k = 6) (n : ByteArray) : t.get n = mOf t.m n := by
 unfold JV.get JV.place mOf
 rw [memS_six h]
 induction t.m with
 | nil => rfl
 | cons p r ih =>
   rw [mem_get_cons, List.find?_cons]
   by_cases hp : p.1 = n
   ·rw [if_pos hp, decide_eq_true hp]
    rfl
   ·rw [if_neg hp, decide_eq_false hp]
    exact ih
theorem mOfS_cons (p : ByteArray × JV) (m : List (ByteArray × JV)) (n : ByteArray) : mOf (p :: m) n = if p.1 = n then some p.2 else mOf m n := by
 unfold mOf
 rw [List.find?_cons]
 by_cases hp : p.1 = n
 ·rw [if_pos hp, decide_eq_true hp]
  rfl
 ·rw [if_neg hp, decide_eq_false hp]
theorem get_k {t x : JV} {n : ByteArray} (h : t.get n = some x) : t.k = 6 := by
 by_cases hk : t.k = 6
 ·exact hk
 ·rw [getS_not hk] at h
  cases h
theorem chkV_eq (v : JV) : chkV v = chkFL v.l := by cases v; rw [chkV]; rfl
theorem holV_eq (v x : JV) : holV v x = holL v x.l := by cases x; rw [holV]; rfl
theorem chkC_eq (m : List (ByteArray × JV)) : chkC m = chkFL ((mOf m svConds).getD JV.zero).l := by
 induction m with
 | nil => rw [chkC]; rfl
 | cons p r ih =>
   obtain ⟨a, v⟩ := p
   rw [chkC, mOfS_cons]
   by_cases h : a = svConds
   ·rw [if_pos h, if_pos h, chkV_eq]
    rfl
   ·rw [if_neg h, if_neg h, ih]
theorem holC_eq (v : JV) (m : List (ByteArray × JV)) : holC v m = holL v ((mOf m svConds).getD JV.zero).l := by
 induction m with
 | nil => rw [holC]; rfl
 | cons p r ih =>
   obtain ⟨a, x⟩ := p
   rw [holC, mOfS_cons]
   by_cases h : a = svConds
   ·rw [if_pos h, if_pos h, holV_eq]
    rfl
   ·rw [if_neg h, if_neg h, ih]
theorem holL_eq (v : JV) (l : List JV) : holL v l = l.map (holF v) := by
 induction l with
 | nil => rw [holL]; rfl
 | cons x r ih => rw [holL, ih]; rfl
theorem chkF_eq (t : JV) : chkF t = if t.k = 6 then (if (t.get svOper).isSome then (if opOk t then chkFL (condsL t) else 1) else condsE t.m) else 1 := by
 cases t with
 | mk k n s l m =>
   rw [chkF]
   show (if k = 6 then _ else _) = if k = 6 then _ else _
   by_cases h : k = 6
   ·rw [if_pos h, if_pos h, chkC_eq]
    unfold condsL
    rw [getS_mOf (t := JV.mk k n s l m) h svConds]
    rfl
   ·rw [if_neg h, if_neg h]
theorem holF_eq (v t : JV) : holF v t = match t.get svOper with | some o => combB o.s ((condsL t).map (holF v)) | none => t.m.all (fun p => condB v p.1 p.2.s) := by
 cases t with
 | mk k n s l m =>
   rw [holF]
   cases h : (JV.mk k n s l m).get svOper with
   | none => rfl
   | some o =>
     dsimp only
     rw [holC_eq, holL_eq]
     unfold condsL
     rw [getS_mOf (t := JV.mk k n s l m) (get_k h) svConds]
     rfl
theorem chkFL_drop {l : List JV} {j : Nat} {x : JV} (h : l[j]? = some x) : chkFL (l.drop j) = if chkF x = 0 then chkFL (l.drop (j + 1)) else chkF x := by
 obtain ⟨h1, h2⟩ := List.getElem?_eq_some_iff.1 h
 rw [List.drop_eq_getElem_cons h1, h2, chkFL]
theorem condsE_drop {l : List (ByteArray × JV)} {j : Nat} {x : ByteArray × JV} (h : l[j]? = some x) : condsE (l.drop j) = if condE x.1 x.2 = 0 then condsE (l.drop (j + 1)) else condE x.1 x.2 := by
 obtain ⟨h1, h2⟩ := List.getElem?_eq_some_iff.1 h
 rw [List.drop_eq_getElem_cons h1, h2]
 rfl
theorem all_drop {α : Type} {p : α -> Bool} {l : List α} {j : Nat} {x : α} (h : l[j]? = some x) : (l.drop j).all p = (p x && (l.drop (j + 1)).all p) := by
 obtain ⟨h1, h2⟩ := List.getElem?_eq_some_iff.1 h
 rw [List.drop_eq_getElem_cons h1, h2, List.all_cons]
theorem condsL_lt {t x : JV} (h : x ∈ condsL t) : SizeOf.sizeOf x < SizeOf.sizeOf t := by
 unfold condsL at h
 cases hg : t.get svConds with
 | none =>
   rw [hg] at h
   cases h
 | some c =>
   rw [hg] at h
   obtain ⟨p, h1, rfl, _⟩ := get_memJ hg
   obtain ⟨i, hi⟩ := List.getElem?_of_mem h1
   obtain ⟨j, hj⟩ := List.getElem?_of_mem (show x ∈ p.2.l from h)
   cases t with
   | mk k n s l m =>
     change m[i]? = some p at hi
     have h3 := JV.lt_m (k := k) (n := n) (s := s) (l := l) hi
     cases hp : p.2 with
     | mk k' n' s' l' m' =>
       rw [hp] at hj h3
       change l'[j]? = some x at hj
       have h4 := JV.lt_l (k := k') (n := n') (s := s') (m := m') hj
       omega
theorem chkFL_zero {l : List JV} : chkFL l = 0 ↔ ∀ x ∈ l, chkF x = 0 := by
 induction l with
 | nil => simp [chkFL]
 | cons a r ih =>
   rw [chkFL]
   by_cases h : chkF a = 0
   ·rw [if_pos h, ih]
    simp [h]
   ·rw [if_neg h]
    constructor
    ·intro e
     exact absurd e h
    ·intro e
     exact absurd (e a (by simp)) h
theorem condsE_zero {m : List (ByteArray × JV)} : condsE m = 0 ↔ ∀ p ∈ m, condE p.1 p.2 = 0 := by
 induction m with
 | nil => simp [condsE]
 | cons a r ih =>
   unfold condsE
   by_cases h : condE a.1 a.2 = 0
   ·rw [if_pos h, ih]
    constructor
    ·intro e p hp
     rcases List.mem_cons.1 hp with rfl | hp
     ·exact h
     ·exact e p hp
    ·intro e p hp
     exact e p (List.mem_cons_of_mem _ hp)
   ·rw [if_neg h]
    constructor
    ·intro e
     exact absurd e h
    ·intro e
     exact absurd (e a (by simp)) h
end
section
open Go Go.RowKit Go.OpenShut Go.Maps Go.WideMaps Go.ChangeMaps Go.MapKept Go.WideShapes
section
variable {P : Program} (w : World) {ops : Array Oper} {rest : List Oper} {o : Oper} {a : Act} {Q : Exit -> Act -> World -> Prop}
end
def fnV (n : Nat) : Value := .func (.func n) #[] #[]
def askV (n : ByteArray) : Option Value :=
 if n = svUpAft then some (fnV 125) else
 if n = svUpBef then some (fnV 124) else
 if n = svCrAft then some (fnV 123) else
 if n = svCrBef then some (fnV 122) else
 if n = kindN then some (fnV 121) else
 if n = svHasMem then some (fnV 120) else
 if n = svUid then some (fnV 119) else
 if n = svInBook then some (fnV 118) else none
def AsksAt (w : World) (b : Nat) : Prop := ∃ f n, MapF w Tryz.prog 9 b n f /\ ∀ s : ByteArray, f s.data.toList = askV s
theorem AsksAt.below {B : Nat} {w w' : World} {b : Nat} (h : AsksAt w b) (hb : Below B w w') (hB : b < B) : AsksAt w' b := by
 obtain ⟨f, n, h1, h2⟩ := h
 exact ⟨f, n, h1.below hb hB, h2⟩
theorem AsksAt.lt {w : World} {b : Nat} (h : AsksAt w b) : b < w.heap.size := by
 obtain ⟨f, n, h1, h2⟩ := h
 exact h1.lt
theorem AsksAt.look {w : World} {b : Nat} (h : AsksAt w b) {s : ByteArray} (hs : s.size <= maxLen) : (Instr.lookup 131 (.map (some b)) (.string s) false).run Tryz.prog w = .ok ((askV s).getD .nilFunc) w := by
 obtain ⟨f, n, h1, h2⟩ := h
 have := h1.look Tryz.underlying9 Tryz.underlying131 (Tryz.zeroValue133 w) hs
 rw [h2] at this
 exact this
theorem toList_eqB {a b : ByteArray} : a.data.toList = b.data.toList ↔ a = b := ⟨fun h => ByteArray.ext (Array.toList_inj.1 h), fun h => by rw [h]⟩
theorem asks_any (w : World) : Calls Tryz.prog 93 #[] w fun e w' => ∃ b, e = .returned (.map (some b)) /\ AsksAt w' b /\ w.heap.size <= b /\ Below w.heap.size w w' := by
 have h0 : MapF (w.alloc (.map #[] 0)) Tryz.prog 9 w.heap.size 0 (fun _ => none) := MapF.made w Tryz.prog 9
 have hb0 : Below w.heap.size w (w.alloc (.map #[] 0)) := (Below.refl _ _).alloc (Nat.le_refl _) _
 obtain ⟨W0, hW0⟩ : ∃ W, w.alloc (.map #[] 0) = W := ⟨_, rfl⟩
 rw [hW0] at h0 hb0
 have HB0 := Lib.hid hb0
 have HM0 := Lib.hid h0
 clear h0 hb0
 obtain ⟨w1, hr1, hm1, hg1⟩ := HM0.out.store Tryz.underlying9 Tryz.underlying131 (by decide) (s := svInBook) (by decide) (fnV 118)
 have HM1 := Lib.hid hm1
 have HB1 : Hid (Below w.heap.size w w1) := HB0.out.grown hg1 HB0.out.size (fun k e => by cases e; exact Nat.le_refl _)
 clear hm1 hg1
 obtain ⟨w2, hr2, hm2, hg2⟩ := HM1.out.store Tryz.underlying9 Tryz.underlying131 (by decide) (s := svUid) (by decide) (fnV 119)
 have HM2 := Lib.hid hm2
 have HB2 : Hid (Below w.heap.size w w2) := HB1.out.grown hg2 HB1.out.size (fun k e => by cases e; exact Nat.le_refl _)
 clear hm2 hg2
 obtain ⟨w3, hr3, hm3, hg3⟩ := HM2.out.store Tryz.underlying9 Tryz.underlying131 (by decide) (s := svHasMem) (by decide) (fnV 120)
 have HM3 := Lib.hid hm3
 have HB3 : Hid (Below w.heap.size w w3) := HB2.out.grown hg3 HB2.out.size (fun k e => by cases e; exact Nat.le_refl _)
 clear hm3 hg3
 obtain ⟨w4, hr4, hm4, hg4⟩ := HM3.out.store Tryz.underlying9 Tryz.underlying131 (by decide) (s := kindN) (by decide) (fnV 121)
 have HM4 := Lib.hid hm4
 have HB4 : Hid (Below w.heap.size w w4) := HB3.out.grown hg4 HB3.out.size (fun k e => by cases e; exact Nat.le_refl _)
 clear hm4 hg4
 obtain ⟨w5, hr5, hm5, hg5⟩ := HM4.out.store Tryz.underlying9 Tryz.underlying131 (by decide) (s := svCrBef) (by decide) (fnV 122)
 have HM5 := Lib.hid hm5
 have HB5 : Hid (Below w.heap.size w w5) := HB4.out.grown hg5 HB4.out.size (fun k e => by cases e; exact Nat.le_refl _)
 clear hm5 hg5
 obtain ⟨w6, hr6, hm6, hg6⟩ := HM5.out.store Tryz.underlying9 Tryz.underlying131 (by decide) (s := svCrAft) (by decide) (fnV 123)
 have HM6 := Lib.hid hm6
 have HB6 : Hid (Below w.heap.size w w6) := HB5.out.grown hg6 HB5.out.size (fun k e => by cases e; exact Nat.le_refl _)
 clear hm6 hg6
 obtain ⟨w7, hr7, hm7, hg7⟩ := HM6.out.store Tryz.underlying9 Tryz.underlying131 (by decide) (s := svUpBef) (by decide) (fnV 124)
 have HM7 := Lib.hid hm7
 have HB7 : Hid (Below w.heap.size w w7) := HB6.out.grown hg7 HB6.out.size (fun k e => by cases e; exact Nat.le_refl _)
 clear hm7 hg7
 obtain ⟨w8, hr8, hm8, hg8⟩ := HM7.out.store Tryz.underlying9 Tryz.underlying131 (by decide) (s := svUpAft) (by decide) (fnV 125)
 have HM8 := Lib.hid hm8
 have HB8 : Hid (Below w.heap.size w w8) := HB7.out.grown hg8 HB7.out.size (fun k e => by cases e; exact Nat.le_refl _)
 clear hm8 hg8
 have HF : Hid (AsksAt w8 w.heap.size) := ⟨_, _, HM8.out, fun s => by
  simp only [toList_eqB]
  rfl⟩
 unfold fnV at hr1 hr2 hr3 hr4 hr5 hr6 hr7 hr8
 have e1 : svInBook = ⟨#[105, 110, 65, 100, 100, 114, 101, 115, 115, 66, 111, 111, 107]⟩ := rfl
 have e2 : svUid = ⟨#[117, 105, 100]⟩ := rfl
 have e3 : svHasMem = ⟨#[104, 97, 115, 77, 101, 109, 98, 101, 114]⟩ := rfl
 have e4 : kindN = ⟨#[107, 105, 110, 100]⟩ := rfl
 have e5 : svCrBef = ⟨#[99, 114, 101, 97, 116, 101, 100, 66, 101, 102, 111, 114, 101]⟩ := rfl
 have e6 : svCrAft = ⟨#[99, 114, 101, 97, 116, 101, 100, 65, 102, 116, 101, 114]⟩ := rfl
 have e7 : svUpBef = ⟨#[117, 112, 100, 97, 116, 101, 100, 66, 101, 102, 111, 114, 101]⟩ := rfl
 have e8 : svUpAft = ⟨#[117, 112, 100, 97, 116, 101, 100, 65, 102, 116, 101, 114]⟩ := rfl
 rw [e1] at hr1
 rw [e2] at hr2
 rw [e3] at hr3
 rw [e4] at hr4
 rw [e5] at hr5
 rw [e6] at hr6
 rw [e7] at hr7
 rw [e8] at hr8
 clear e1 e2 e3 e4 e5 e6 e7 e8
 have hmm := @run_makeMap Tryz.prog
 go_enter Tryz.func93, Tryz.ntmps93
 go_wp2_with fail
 go_ret
 exact ⟨_, rfl, HF.out, Nat.le_refl _, HB8.out⟩
theorem AllAt.rd {w : World} (h : AllAt w) : Rd w w.heap.size encS 1 (.slice (some ⟨0, 0, none⟩) 8 8) allF := by
 refine ⟨_, 8, rfl, Nat.le_refl _, by decide, (fun e => by cases e), fun a ha _ => ?_⟩
 cases ha
 refine ⟨_, 0, rfl, (cell_some (h 0 _ rfl)).2, fun i x hx j u hu => ?_⟩
 match j, hu with
 | 0, hu =>
   obtain rfl := Option.some.inj hu
   have := h i x hx
   simpa using this
 | j + 1, hu => simp [encS] at hu
theorem isField_in (n : ByteArray) : isFieldB n = ((n.toList == [116, 101, 120, 116]) || ((n.toList == [110, 97, 109, 101, 47, 103, 105, 118, 101, 110]) || ((n.toList == [110, 97, 109, 101, 47, 115, 117, 114, 110, 97, 109, 101]) || inB allF n))) := by
 rw [<- bytes_dec, <- bytes_dec, <- bytes_dec]
 rfl
theorem field_is (n : ByteArray) (w : World) (ha : AllAt w) : Calls Tryz.prog 114 #[.string n] w fun e w' => e = .returned (.bool (isFieldB n)) /\ w = w' := by
 have HC := Lib.hid (containsS_rd ha.rd (by decide) n)
 rw [isField_in]
 obtain ⟨a, h1⟩ : ∃ b, (n.toList == [116, 101, 120, 116]) = b := ⟨_, rfl⟩
 obtain ⟨b, h2⟩ : ∃ b, (n.toList == [110, 97, 109, 101, 47, 103, 105, 118, 101, 110]) = b := ⟨_, rfl⟩
 obtain ⟨c, h3⟩ : ∃ b, (n.toList == [110, 97, 109, 101, 47, 115, 117, 114, 110, 97, 109, 101]) = b := ⟨_, rfl⟩
 obtain ⟨d, h4⟩ : ∃ b, inB allF n = b := ⟨_, rfl⟩
 rw [h4] at HC
 rw [h1, h2, h3, h4]
 clear h4 ha
 cases a <;> cases b <;> cases c
 all_goals
  go_enter Tryz.func114, Tryz.ntmps114
  go_wp2_with (go_at_call 96; (with_reducible refine HC.out.mono ?_); rintro e w1 ⟨rfl, rfl⟩)
  go_ret
  exact ⟨rfl, rfl⟩
theorem stampIs_any (s : ByteArray) (w : World) (hs : s.size <= maxLen) : Calls Tryz.prog 116 #[.string s] w fun e w' => e = .returned (.bool (secF s.data.toList).isSome) /\ Below w.heap.size w w' := by
 have HC := Lib.hid (seconds_any s w hs)
 obtain ⟨o, ho⟩ : ∃ o, secF s.data.toList = o := ⟨_, rfl⟩
 rw [ho] at HC
 rw [ho]
 clear ho
 cases o
 all_goals
  unfold secRet at HC
  go_enter Tryz.func116, Tryz.ntmps116
  go_wp2_with (go_at_call 144; (with_reducible refine HC.out.mono ?_); rintro e w1 ⟨rfl, hb1⟩)
  go_ret
  exact ⟨rfl, hb1⟩
end
section
open Go Go.RowKit Go.OpenShut Go.Joins Go.ChangeShapes Go.WideShapes Go.ChangeAt Go.Lib
theorem gAll : Tryz.prog.globalNamed "cardbox/sieve.all" = some 0 := by kernel_rfl
theorem gAllType : (Tryz.prog.globals[0]?).map (·.type) = some 78 := by kernel_rfl
theorem all_data : (Rows.laid_cardbox_sieve_all : DataW Unit) = .agg (allF.map fun s => .lit (.string s.data.toList)) := by kernel_rfl
theorem all_of {l : List (String × DataW Unit)} {W : World} (hl : (l.filter fun x => x.1 == "cardbox/sieve.all") = [("cardbox/sieve.all", Rows.laid_cardbox_sieve_all)])
 (hn : (l.all fun x => x.2.handleName?.isNone) = true) (hL : laidMetH Tryz.prog l W) : AllAt W := by
 rw [MakeChecks.laidMetH_plain _ _ _ hn] at hL
 have h1 := hL.filter (fun x => x.1 == "cardbox/sieve.all")
 rw [hl, all_data] at h1
 obtain ⟨ps, ⟨g, t, cs, fuel, p, q, hg, ht, hv, hd, _, _⟩, _, _⟩ := h1
 obtain rfl := Option.some.inj (gAll.symm.trans hg)
 obtain rfl := Option.some.inj (gAllType.symm.trans ht)
 obtain ⟨xs, m, _, ex, _, hxl, hel⟩ := DataW.trod_array Tryz.underlying78 hd
 have c9 : Tryz.prog.cellsOf 9 = 1 := by kernel_rfl
 intro i x hx
 have hi : i < 8 := (List.getElem?_eq_some_iff.1 hx).1
 have hE := hel i hi
 rw [c9, Nat.mul_one, List.getElem?_eq_getElem (by omega)] at hE
 obtain ⟨z, e1, e2, _⟩ := DataW.trod_string Tryz.underlying9 hE
 have e3 : (xs.map (·.1)) = allF.map fun s => .lit (.string s.data.toList) := (DataW.agg.inj (Prod.mk.inj ex).1).symm
 have e4 : (xs.map (·.1))[i]? = (allF.map fun s => (DataW.lit (.string s.data.toList) : DataW Unit))[i]? := by rw [e3]
 rw [List.getElem?_map, List.getElem?_map, List.getElem?_eq_getElem (by omega : i < xs.length), hx, e2] at e4
 have hz : z = x := by
  simp only [Option.map_some, Option.some.injEq, DataW.lit.injEq, Lit.string.injEq] at e4
  exact ByteArray.ext (Array.toList_inj.1 e4)
 rw [World.var?_cell hg hv i, <- hz]
 have : cs.toList[i]? = some (.string z) := by
  have h0 : ((cs.toList.drop i).take 1)[0]? = some (.string z) := by rw [e1]; rfl
  simpa using h0
 simpa using this
theorem max_of {W : World} (hS : W.ShapedOpen Tryz.prog) : MaxAt W :=
 Go.Proofs.cell_of_shapedOpen_int (zero := #[.int .i64 0]) (t := 3) hS (of_decide_eq_true (by kernel_rfl)) (by kernel_rfl) rfl (by kernel_rfl) (by kernel_rfl) Tryz.underlying3
end
section
open Go Go.RowKit
def isM (t : Tok) (c : UInt8) : Bool := decide (t.kind = 1) && decide (t.s = ⟨#[c]⟩)
def bareJ (k n : Int) : JV := .mk k n ⟨#[]⟩ [] []
mutual
def parV : Nat -> Nat -> Nat -> List Tok -> Option (JV × Nat × List Tok)
 | 0, _, _, _ => none
 | _ + 1, _, _, [] => none
 | f + 1, deep, parts, t :: ts =>
   if 16 < deep \/ 8192 <= parts then none
   else if t.kind = 4 then some (.mk 4 0 t.s [] [], parts + 1, ts)
   else if t.kind = 2 then if t.s = wNull then some (bareJ 1 0, parts + 1, ts) else if t.s = wTrue then some (bareJ 2 1, parts + 1, ts) else some (bareJ 2 0, parts + 1, ts)
   else if isM t 91 then
    match ts with
    | [] => none
    | c :: r => if isM c 93 then some (.mk 5 0 ⟨#[]⟩ [] [], parts + 1, r) else (parL f deep (parts + 1) (c :: r)).map (fun x => (.mk 5 0 ⟨#[]⟩ x.1 [], x.2.1, x.2.2))
   else if isM t 123 then
    match ts with
    | [] => none
    | c :: r => if isM c 125 then some (.mk 6 0 ⟨#[]⟩ [] [], parts + 1, r) else (parM f deep (parts + 1) [] (c :: r)).map (fun x => (.mk 6 0 ⟨#[]⟩ [] x.1, x.2.1, x.2.2))
   else if t.kind = 3 then some (bareJ 3 t.n, parts + 1, ts)
   else none
def parL : Nat -> Nat -> Nat -> List Tok -> Option (List JV × Nat × List Tok)
 | 0, _, _, _ => none
 | f + 1, deep, parts, ts =>
   match parV f (deep + 1) parts ts with
   | some (v, p, c :: r) => if isM c 93 then some ([v], p, r) else if isM c 44 then (parL f deep p r).map (fun x => (v :: x.1, x.2.1, x.2.2)) else none
   | _ => none
def parM : Nat -> Nat -> Nat -> List ByteArray -> List Tok -> Option (List (ByteArray × JV) × Nat × List Tok)
 | f + 1, deep, parts, known, n :: col :: ts =>
   if (decide (n.kind = 4) && !(known.any (fun x => decide (x = n.s))) && decide (n.s.size <= 1048576) && isM col 58) = true then
    match parV f (deep + 1) parts ts with
    | some (v, p, c :: r) => if isM c 125 then some ([(n.s, v)], p, r) else if isM c 44 then (parM f deep p (n.s :: known) r).map (fun x => ((n.s, v) :: x.1, x.2.1, x.2.2)) else none
    | _ => none
   else none
 | _, _, _, _, _ => none
end
def readF (s : ByteArray) : Option JV := match toksF s (s.size + 1) 0 with
 | none => none
 | some ts => match parV (ts.length + 1) 1 0 ts with
   | some (v, _, []) => some v
   | _ => none
end
end Go.Proofs.YtffhccmppdgmfaaGreatDoor
