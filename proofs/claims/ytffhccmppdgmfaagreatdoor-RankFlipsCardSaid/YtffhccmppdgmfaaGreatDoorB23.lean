import Derived.Test.YtffhccmppdgmfaaGreatDoorB21
import Derived.Test.YtffhccmppdgmfaaGreatDoorB22
import Derived.Test.YtffhccmppdgmfaaGreatDoorB17
set_option linter.unusedSimpArgs false
set_option linter.unusedVariables false
set_option maxRecDepth 200000
set_option maxHeartbeats 8000000
namespace Go.Proofs.YtffhccmppdgmfaaGreatDoor
section
open Go Go.RowKit Go.OpenShut
def NmRet (w : World) (v : JV) (e : Ending) (w' : World) : Prop := ∃ r : RV, e = .returned r.val /\ TreeOf w' w'.heap.size v r /\ Below w.heap.size w w'
def lt1 : ByteArray := ⟨#[123, 34, 110, 97, 109, 101, 34, 58, 123, 34, 99, 111, 109, 112, 111, 110, 101, 110, 116, 115, 34, 58, 91, 123, 34, 107, 105, 110, 100, 34, 58, 34, 103, 105, 118, 101, 110, 34, 44, 34, 118, 97, 108, 117, 101, 34, 58, 34]⟩
def lt2 : ByteArray := ⟨#[34, 125, 93, 125, 125]⟩
theorem nm_any (x tx ty : ByteArray) (h1 : lt1 ++ x = tx) (h2 : tx ++ lt2 = ty) (hs : lt1.size + x.size <= 1000) (hs2 : tx.size + lt2.size <= 1000) (hr : readF ty = some (nmJ x)) (w : World) : Calls Tryz.prog 39 #[.string x] w (NmRet w (nmJ x)) := by
 have HZ : VAt (w.alloc (.cells #[.int .i64 0, .int .i64 0, .string ⟨#[]⟩, .slice none 0 0, .slice none 0 0] 25)) w.heap.size RV.zero := heap_alloc_at rfl
 have HR : Hid (∀ W, Calls Tryz.prog 38 #[.string ty] W (ReadRetS W (nmJ x))) := fun W => readS_any W ty (nmJ x) (by rw [<- h2, ByteArray.size_append]; omega) hr
 obtain ⟨z0, z1, z2, z3, z4⟩ := HZ.cells5
 have y0 := HZ.frozen 0
 have y1 := HZ.frozen 1
 have y2 := HZ.frozen 2
 have y3 := HZ.frozen 3
 have y4 := HZ.frozen 4
 dsimp only [RV.zero] at z0 z1 z2 z3 z4
 have hb0 : Below w.heap.size w (w.alloc (.cells #[.int .i64 0, .int .i64 0, .string ⟨#[]⟩, .slice none 0 0, .slice none 0 0] 25)) := (Below.refl _ _).alloc (Nat.le_refl _) _
 have hlt := HZ.lt
 have HZZ := Lib.hid HZ
 unfold lt1 at h1 hs
 unfold lt2 at h2 hs2
 clear HZ hr
 go_enter Tryz.func39, Tryz.ntmps39
 go_upto_region 1 with fail
 obtain ⟨W0, hW0⟩ : ∃ W, w.alloc (.cells #[.int .i64 0, .int .i64 0, .string ⟨#[]⟩, .slice none 0 0, .slice none 0 0] 25) = W := ⟨_, rfl⟩
 rw [hW0] at z0 z1 z2 z3 z4 y0 y1 y2 y3 y4 hb0 hlt HZZ
 try rw [hW0]
 clear hW0
 go_wp2_with (go_at_call 38; (with_reducible refine (HR.out _).mono ?_); rintro e w1 ⟨r, rfl, ht, hb⟩; obtain ⟨rk, rn, rS, rpl, rnl, rcl, rpm, rnm, rcm⟩ := r; (have HZ1 := HZZ.out.under hb hlt); (obtain ⟨c0, c1, c2, c3, c4⟩ := HZ1.cells5); (have d0 := HZ1.frozen 0); (have d1 := HZ1.frozen 1); (have d2 := HZ1.frozen 2); (have d3 := HZ1.frozen 3); (have d4 := HZ1.frozen 4); (have hl1 := HZ1.lt))
 have hg6 := grownBy_set5 w1 w.heap.size ⟨rk, rn, rS, rpl, rnl, rcl, rpm, rnm, rcm⟩
 dsimp only at hg6
 have hsz : (((((w1.setCell ⟨w.heap.size, 0, none⟩ (.int .i64 rk)).setCell ⟨w.heap.size, 1, none⟩ (.int .i64 rn)).setCell ⟨w.heap.size, 2, none⟩ (.string rS)).setCell ⟨w.heap.size, 3, none⟩ (.slice rpl rnl rcl)).setCell ⟨w.heap.size, 4, none⟩ (.slice rpm rnm rcm)).heap.size = w1.heap.size := by simp
 have HT2 := Lib.hid (ht.same (fun k hk => hg6.block k hk.2 (fun e => by have := Option.some.inj e; omega)))
 have HB2 := Lib.hid ((hb0.trans (hb.mono hb0.size)).grown hg6 (by omega) (fun k e => by cases e; exact Nat.le_refl _))
 refine bodyPost_ret (v := RV.val ⟨rk, rn, rS, rpl, rnl, rcl, rpm, rnm, rcm⟩) (by simp [results, Tryz.results39, go_sem, c0, c1, c2, c3, c4, d0, d1, d2, d3, d4, hl1]) rfl ⟨⟨rk, rn, rS, rpl, rnl, rcl, rpm, rnm, rcm⟩, rfl, ?_, ?_⟩
 ·exact (HT2.out.tree (B := w1.heap.size) (fun k hk => hk.2)).under ((Below.refl w1.heap.size _).alloc (by rw [hsz]; exact Nat.le_refl _) (.cells #[.int .i64 rk, .int .i64 rn, .string rS, .slice rpl rnl rcl, .slice rpm rnm rcm] 25)) (by simp)
 ·exact HB2.out.alloc (by rw [hsz]; omega) _
theorem nmA_any (w : World) : Calls Tryz.prog 39 #[.string adaN] w (NmRet w (nmJ adaN)) := nm_any adaN (lt1 ++ adaN) txA rfl (by kernel_rfl) (by decide) (by rw [ByteArray.size_append]; decide) read_A w
theorem nmB_any (w : World) : Calls Tryz.prog 39 #[.string boN] w (NmRet w (nmJ boN)) := nm_any boN (lt1 ++ boN) txB rfl (by kernel_rfl) (by decide) (by rw [ByteArray.size_append]; decide) read_B w
theorem sameP_yes (w : World) (B : Nat) (u v : Value) (l : List ByteArray) (hu : Rd w B encS 1 u l) (hv : Rd w B encS 1 v l) : Calls Tryz.prog 25 #[u, v] w fun e w' => e = .returned (.bool true) /\ ∃ n, w' = w.drewN n := (sameParts_any w B u v l l hu hv).mono (fun e w' h => by rw [decide_eq_true rfl] at h; exact h)
theorem awake21_any (w : World) : Calls Tryz.prog 11 #[] w fun e w' => e = .returned (.bool true) /\ Below w.heap.size w w' := by
 have HRS : Hid (∀ W, Calls Tryz.prog 38 #[.string txS] W (ReadRet W sJ)) := fun W => read_any W txS sJ (by decide) read_S
 have HRT : Hid (∀ W, Calls Tryz.prog 38 #[.string txT] W (ReadRet W uT)) := fun W => read_any W txT uT (by decide) read_T
 have HRU : Hid (∀ W, Calls Tryz.prog 38 #[.string txU] W (ReadRet W uU)) := fun W => read_any W txU uU (by decide) read_U
 have HNA : Hid (∀ W, Calls Tryz.prog 39 #[.string adaN] W (NmRet W (nmJ adaN))) := nmA_any
 have HNB : Hid (∀ W, Calls Tryz.prog 39 #[.string boN] W (NmRet W (nmJ boN))) := nmB_any
 unfold txS at HRS
 unfold txT at HRT
 unfold txU at HRU
 have HNA' : Hid (∀ W, Calls Tryz.prog 39 #[.string ⟨#[97, 100, 97]⟩] W (NmRet W (nmJ adaN))) := HNA
 have HNB' : Hid (∀ W, Calls Tryz.prog 39 #[.string ⟨#[66, 111]⟩] W (NmRet W (nmJ boN))) := HNB
 go_enter Tryz.func11, Tryz.ntmps11
 go_upto_region 2 with (go_at_call 38; (with_reducible refine (HRS.out _).mono ?_); rintro e w1 ⟨r1, rfl, ht1, hb1⟩; obtain ⟨sk, sn, sS, spl, snl, scl, spm, snm, scm⟩ := r1)
 have hv1 : VAt (w1.alloc (.cells #[.int .i64 sk, .int .i64 sn, .string sS, .slice spl snl scl, .slice spm snm scm] 25)) w1.heap.size ⟨sk, sn, sS, spl, snl, scl, spm, snm, scm⟩ := heap_alloc_at rfl
 have hT1 : TreeOf (w1.alloc (.cells #[.int .i64 sk, .int .i64 sn, .string sS, .slice spl snl scl, .slice spm snm scm] 25)) w1.heap.size sJ ⟨sk, sn, sS, spl, snl, scl, spm, snm, scm⟩ := ht1.under ((Below.refl _ _).alloc (Nat.le_refl _) _) (Nat.le_refl _)
 have hB1 := hb1.alloc hb1.size (.cells #[.int .i64 sk, .int .i64 sn, .string sS, .slice spl snl scl, .slice spm snm scm] 25)
 obtain ⟨g1, hg1⟩ : ∃ g, w1.heap.size = g := ⟨_, rfl⟩
 obtain ⟨W1, hW1⟩ : ∃ W, w1.alloc (.cells #[.int .i64 sk, .int .i64 sn, .string sS, .slice spl snl scl, .slice spm snm scm] 25) = W := ⟨_, rfl⟩
 rw [hW1, hg1] at hv1 hT1
 rw [hW1] at hB1
 try rw [hW1]
 try rw [hg1]
 have hgl1 := hv1.lt
 have hT1' := hT1.under (Below.refl _ W1) (Nat.le_of_lt hgl1)
 clear hW1 hg1 ht1 hb1 HRS hT1
 go_upto_region 3 with (go_at_call 38; (with_reducible refine (HRT.out _).mono ?_); rintro e w2 ⟨r2, rfl, ht2, hb2⟩; obtain ⟨tk, tn, tS, tpl, tnl, tcl, tpm, tnm, tcm⟩ := r2)
 have hv2 : VAt (w2.alloc (.cells #[.int .i64 tk, .int .i64 tn, .string tS, .slice tpl tnl tcl, .slice tpm tnm tcm] 25)) w2.heap.size ⟨tk, tn, tS, tpl, tnl, tcl, tpm, tnm, tcm⟩ := heap_alloc_at rfl
 have hb22 := hb2.alloc hb2.size (.cells #[.int .i64 tk, .int .i64 tn, .string tS, .slice tpl tnl tcl, .slice tpm tnm tcm] 25)
 have hT2 : TreeOf (w2.alloc (.cells #[.int .i64 tk, .int .i64 tn, .string tS, .slice tpl tnl tcl, .slice tpm tnm tcm] 25)) w2.heap.size uT ⟨tk, tn, tS, tpl, tnl, tcl, tpm, tnm, tcm⟩ := ht2.under ((Below.refl _ _).alloc (Nat.le_refl _) _) (Nat.le_refl _)
 have hV12 := hv1.under hb22 hgl1
 have hT12 := hT1'.under hb22 hb22.size
 have hB2 := hB1.trans (hb22.mono hB1.size)
 obtain ⟨g4, hg4⟩ : ∃ g, w2.heap.size = g := ⟨_, rfl⟩
 obtain ⟨W2, hW2⟩ : ∃ W, w2.alloc (.cells #[.int .i64 tk, .int .i64 tn, .string tS, .slice tpl tnl tcl, .slice tpm tnm tcm] 25) = W := ⟨_, rfl⟩
 rw [hW2, hg4] at hv2 hT2
 rw [hW2] at hB2 hV12 hT12
 try rw [hW2]
 try rw [hg4]
 have hgl4 := hv2.lt
 have hgl12 := hV12.lt
 have hT2' := hT2.under (Below.refl _ W2) (Nat.le_of_lt hgl4)
 clear hW2 hg4 ht2 hb2 hb22 HRT hT2 hv1 hT1' hB1 hgl1
 go_upto_region 4 with (go_at_call 38; (with_reducible refine (HRU.out _).mono ?_); rintro e w3 ⟨r3, rfl, ht3, hb3⟩; obtain ⟨uk, un, uS, upl, unl, ucl, upm, unm, ucm⟩ := r3)
 have hv3 : VAt (w3.alloc (.cells #[.int .i64 uk, .int .i64 un, .string uS, .slice upl unl ucl, .slice upm unm ucm] 25)) w3.heap.size ⟨uk, un, uS, upl, unl, ucl, upm, unm, ucm⟩ := heap_alloc_at rfl
 have hb33 := hb3.alloc hb3.size (.cells #[.int .i64 uk, .int .i64 un, .string uS, .slice upl unl ucl, .slice upm unm ucm] 25)
 have hT3 : TreeOf (w3.alloc (.cells #[.int .i64 uk, .int .i64 un, .string uS, .slice upl unl ucl, .slice upm unm ucm] 25)) w3.heap.size uU ⟨uk, un, uS, upl, unl, ucl, upm, unm, ucm⟩ := ht3.under ((Below.refl _ _).alloc (Nat.le_refl _) _) (Nat.le_refl _)
 have hV13 := hV12.under hb33 hgl12
 have hT13 := hT12.under hb33 hb33.size
 have hV23 := hv2.under hb33 hgl4
 have hT23 := hT2'.under hb33 hb33.size
 have hB3 := hB2.trans (hb33.mono hB2.size)
 obtain ⟨g7, hg7⟩ : ∃ g, w3.heap.size = g := ⟨_, rfl⟩
 obtain ⟨W3, hW3⟩ : ∃ W, w3.alloc (.cells #[.int .i64 uk, .int .i64 un, .string uS, .slice upl unl ucl, .slice upm unm ucm] 25) = W := ⟨_, rfl⟩
 rw [hW3, hg7] at hv3 hT3
 rw [hW3] at hB3 hV13 hT13 hV23 hT23
 try rw [hW3]
 try rw [hg7]
 have hgl7 := hv3.lt
 have hT3' := hT3.under (Below.refl _ W3) (Nat.le_of_lt hgl7)
 clear hW3 hg7 ht3 hb3 hb33 HRU hT3 hV12 hT12 hv2 hT2' hB2
 go_upto_region 6 with (first
  | (go_at_call 39; (with_reducible refine (HNA'.out _).mono ?_); rintro e w4 ⟨r4, rfl, ht4, hb4⟩; obtain ⟨ak, an, aS, apl, anl, acl, apm, anm, acm⟩ := r4)
  | (go_at_call 39; (with_reducible refine (HNB'.out _).mono ?_); rintro e w5 ⟨r5, rfl, ht5, hb5⟩; obtain ⟨bk, bn, bS, bpl, bnl, bcl, bpm, bnm, bcm⟩ := r5)
  | fail)
 have hb5l : Below w5.heap.size w5 (w5.alloc (.cells #[.string ⟨#[49]⟩, .int .i64 6, .int .i64 0, .string ⟨#[]⟩, .slice none 0 0, .slice none 0 0, .string ⟨#[50]⟩, .int .i64 ak, .int .i64 an, .string aS, .slice apl anl acl, .slice apm anm acm, .string ⟨#[51]⟩, .int .i64 bk, .int .i64 bn, .string bS, .slice bpl bnl bcl, .slice bpm bnm bcm] 27)) := (Below.refl _ _).alloc (Nat.le_refl _) _
 have hb47 : Below w4.heap.size w4 (w5.alloc (.cells #[.string ⟨#[49]⟩, .int .i64 6, .int .i64 0, .string ⟨#[]⟩, .slice none 0 0, .slice none 0 0, .string ⟨#[50]⟩, .int .i64 ak, .int .i64 an, .string aS, .slice apl anl acl, .slice apm anm acm, .string ⟨#[51]⟩, .int .i64 bk, .int .i64 bn, .string bS, .slice bpl bnl bcl, .slice bpm bnm bcm] 27)) := hb5.trans (hb5l.mono hb5.size)
 have hb37 : Below W3.heap.size W3 (w5.alloc (.cells #[.string ⟨#[49]⟩, .int .i64 6, .int .i64 0, .string ⟨#[]⟩, .slice none 0 0, .slice none 0 0, .string ⟨#[50]⟩, .int .i64 ak, .int .i64 an, .string aS, .slice apl anl acl, .slice apm anm acm, .string ⟨#[51]⟩, .int .i64 bk, .int .i64 bn, .string bS, .slice bpl bnl bcl, .slice bpm bnm bcm] 27)) := hb4.trans (hb47.mono hb4.size)
 have hV1 := hV13.under hb37 hV13.lt
 have hV2 := hV23.under hb37 hV23.lt
 have hV3 := hv3.under hb37 hgl7
 have hT1 := hT13.under hb37 hb37.size
 have hT2 := hT23.under hb37 hb37.size
 have hT3 := hT3'.under hb37 hb37.size
 have hTA := ht4.under hb47 hb47.size
 have hTB := ht5.under hb5l hb5l.size
 have hB7 := hB3.trans (hb37.mono hB3.size)
 have hlb : (w5.alloc (.cells #[.string ⟨#[49]⟩, .int .i64 6, .int .i64 0, .string ⟨#[]⟩, .slice none 0 0, .slice none 0 0, .string ⟨#[50]⟩, .int .i64 ak, .int .i64 an, .string aS, .slice apl anl acl, .slice apm anm acm, .string ⟨#[51]⟩, .int .i64 bk, .int .i64 bn, .string bS, .slice bpl bnl bcl, .slice bpm bnm bcm] 27)).heap[w5.heap.size]? = some (.cells #[.string ⟨#[49]⟩, .int .i64 6, .int .i64 0, .string ⟨#[]⟩, .slice none 0 0, .slice none 0 0, .string ⟨#[50]⟩, .int .i64 ak, .int .i64 an, .string aS, .slice apl anl acl, .slice apm anm acm, .string ⟨#[51]⟩, .int .i64 bk, .int .i64 bn, .string bS, .slice bpl bnl bcl, .slice bpm bnm bcm] 27 (0, 0)) := heap_alloc_at rfl
 have hlz : w5.heap.size < (w5.alloc (.cells #[.string ⟨#[49]⟩, .int .i64 6, .int .i64 0, .string ⟨#[]⟩, .slice none 0 0, .slice none 0 0, .string ⟨#[50]⟩, .int .i64 ak, .int .i64 an, .string aS, .slice apl anl acl, .slice apm anm acm, .string ⟨#[51]⟩, .int .i64 bk, .int .i64 bn, .string bS, .slice bpl bnl bcl, .slice bpm bnm bcm] 27)).heap.size := by simp
 obtain ⟨gl, hgl⟩ : ∃ g, w5.heap.size = g := ⟨_, rfl⟩
 obtain ⟨W7, hW7⟩ : ∃ W, w5.alloc (.cells #[.string ⟨#[49]⟩, .int .i64 6, .int .i64 0, .string ⟨#[]⟩, .slice none 0 0, .slice none 0 0, .string ⟨#[50]⟩, .int .i64 ak, .int .i64 an, .string aS, .slice apl anl acl, .slice apm anm acm, .string ⟨#[51]⟩, .int .i64 bk, .int .i64 bn, .string bS, .slice bpl bnl bcl, .slice bpm bnm bcm] 27) = W := ⟨_, rfl⟩
 rw [hgl, hW7] at hlb hlz
 rw [hW7] at hV1 hV2 hV3 hT1 hT2 hT3 hTA hTB hB7
 try rw [hW7]
 try rw [hgl]
 clear hW7 hgl hb5l hb47 hb37 hb4 hb5 ht4 ht5 hV13 hV23 hv3 hT13 hT23 hT3' hB3 hgl7 hgl12 hgl4 HNA HNB HNA' HNB'
 have HOL : Hid (ObjL W7 W7.heap.size os3 [⟨id1, ⟨6, 0, ⟨#[]⟩, none, 0, 0, none, 0, 0⟩⟩, ⟨id2, ⟨ak, an, aS, apl, anl, acl, apm, anm, acm⟩⟩, ⟨id3, ⟨bk, bn, bS, bpl, bnl, bcl, bpm, bnm, bcm⟩⟩] (.slice (some ⟨gl, 0, none⟩) 3 3)) := by
  refine ⟨Rd.block (xs := [⟨id1, ⟨6, 0, ⟨#[]⟩, none, 0, 0, none, 0, 0⟩⟩, ⟨id2, ⟨ak, an, aS, apl, anl, acl, apm, anm, acm⟩⟩, ⟨id3, ⟨bk, bn, bS, bpl, bnl, bcl, bpm, bnm, bcm⟩⟩]) codecM hlb rfl hlz (show 3 <= maxLen by decide), rfl, fun i hi => ?_, fun o ho => (os3_ok o ho).2⟩
  match i, hi with
  | 0, _ => exact ⟨rfl, TreeOf.mk (r := ⟨6, 0, ⟨#[]⟩, none, 0, 0, none, 0, 0⟩) (rs := []) (rms := []) (Rd.nil _ _) rfl (fun i t q h => by simp at h) (Rd.nil _ _) rfl (fun i p q h => by simp at h) (fun i p q h => by simp at h), (os3_ok _ (List.mem_cons_self ..)).1⟩
  | 1, _ => exact ⟨rfl, hTA, nmJ_ok (by decide)⟩
  | 2, _ => exact ⟨rfl, hTB, nmJ_ok (by decide)⟩
  | n + 3, h => exact absurd h (by simp)
 have HCT : Hid (∀ W, Below W7.heap.size W7 W -> Calls Tryz.prog 40 #[.agg #[.int .i64 tk, .int .i64 tn, .string tS, .slice tpl tnl tcl, .slice tpm tnm tcm]] W fun e w' => e = .returned (.int .i64 210) /\ Below W.heap.size W w') := fun W hW => by
  have h := rkcheck_any uT ⟨tk, tn, tS, tpl, tnl, tcl, tpm, tnm, tcm⟩ W W7.heap.size hW.size (hT2.under hW (Nat.le_refl _)) uT_ok
  rw [tE] at h
  exact h
 have HCU : Hid (∀ W, Below W7.heap.size W7 W -> Calls Tryz.prog 40 #[.agg #[.int .i64 uk, .int .i64 un, .string uS, .slice upl unl ucl, .slice upm unm ucm]] W fun e w' => e = .returned (.int .i64 1) /\ Below W.heap.size W w') := fun W hW => by
  have h := rkcheck_any uU ⟨uk, un, uS, upl, unl, ucl, upm, unm, ucm⟩ W W7.heap.size hW.size (hT3.under hW (Nat.le_refl _)) uU_ok
  rw [uE] at h
  exact h
 have HOR : Hid (∀ W, Below W7.heap.size W7 W -> Calls Tryz.prog 35 #[.agg #[.int .i64 sk, .int .i64 sn, .string sS, .slice spl snl scl, .slice spm snm scm], .slice (some ⟨gl, 0, none⟩) 3 3] W fun e w' => ∃ u, e = .returned u /\ Own w' W.heap.size 9 encS 1 u [id3, id2, id1] /\ Below W.heap.size W w') := fun W hW => by
  have h := rkorder_any sJ ⟨sk, sn, sS, spl, snl, scl, spm, snm, scm⟩ os3 _ (some ⟨gl, 0, none⟩) 3 3 W W7.heap.size hW.size (hT1.under hW (Nat.le_refl _)) sJ_ok (HOL.out.under hW (Nat.le_refl _)) (by decide)
  rw [ids3] at h
  exact h
 have HAH : Hid (∀ W, Below W7.heap.size W7 W -> Calls Tryz.prog 14 #[.agg #[.int .i64 sk, .int .i64 sn, .string sS, .slice spl snl scl, .slice spm snm scm], .agg #[.string ⟨#[51]⟩, .int .i64 bk, .int .i64 bn, .string bS, .slice bpl bnl bcl, .slice bpm bnm bcm], .agg #[.string ⟨#[50]⟩, .int .i64 ak, .int .i64 an, .string aS, .slice apl anl acl, .slice apm anm acm]] W fun e w' => e = .returned (.bool true) /\ Below W.heap.size W w') := fun W hW => by
  have h := rkAhead_any sJ ⟨sk, sn, sS, spl, snl, scl, spm, snm, scm⟩ (id3, nmJ boN) (id2, nmJ adaN) ⟨id3, ⟨bk, bn, bS, bpl, bnl, bcl, bpm, bnm, bcm⟩⟩ ⟨id2, ⟨ak, an, aS, apl, anl, acl, apm, anm, acm⟩⟩ W W7.heap.size hW.size (hT1.under hW (Nat.le_refl _)) sJ_ok ⟨rfl, hTB.under hW (Nat.le_refl _)⟩ (nmJ_ok (by decide)) ⟨rfl, hTA.under hW (Nat.le_refl _)⟩ (nmJ_ok (by decide))
  rw [ahead3] at h
  exact h
 obtain ⟨s0, s1, s2, s3, s4⟩ := hV1.cells5
 obtain ⟨t0, t1, t2, t3, t4⟩ := hV2.cells5
 obtain ⟨u0, u1, u2, u3, u4⟩ := hV3.cells5
 dsimp only at s0 s1 s2 s3 s4 t0 t1 t2 t3 t4 u0 u1 u2 u3 u4
 have cl : ∀ j v, (#[.string ⟨#[49]⟩, .int .i64 6, .int .i64 0, .string ⟨#[]⟩, .slice none 0 0, .slice none 0 0, .string ⟨#[50]⟩, .int .i64 ak, .int .i64 an, .string aS, .slice apl anl acl, .slice apm anm acm, .string ⟨#[51]⟩, .int .i64 bk, .int .i64 bn, .string bS, .slice bpl bnl bcl, .slice bpm bnm bcm] : Array Value)[j]? = some v -> W7.cell? ⟨gl, j, none⟩ = some v := fun j v h => (cell_of_row _ gl j _ _ _ hlb).trans h
 have l6 := cl 6 _ rfl
 have l7 := cl 7 _ rfl
 have l8 := cl 8 _ rfl
 have l9 := cl 9 _ rfl
 have l10 := cl 10 _ rfl
 have l11 := cl 11 _ rfl
 have l12 := cl 12 _ rfl
 have l13 := cl 13 _ rfl
 have l14 := cl 14 _ rfl
 have l15 := cl 15 _ rfl
 have l16 := cl 16 _ rfl
 have l17 := cl 17 _ rfl
 have z1 := hV1.lt
 have z4 := hV2.lt
 have z7 := hV3.lt
 have HB7 := Lib.hid hB7
 clear cl hlb hV1 hV2 hV3 hT1 hT2 hT3 hTA hTB hB7 HOL
 go_region_held3 (fun w' => Below W7.heap.size W7 w' /\ ∀ b o, b < W7.heap.size -> w'.cell? ⟨b, o, none⟩ = W7.cell? ⟨b, o, none⟩)
  (first | with_reducible exact kt_drew W7 | with_reducible exact kt_same hbk | with_reducible exact kt_alloc hbk _ | with_reducible exact kt_da W7 _)
  (first
   | (go_at_call 40; (with_reducible refine (HCT.out _ ?_).mono ?_); (first | exact (KB.drew W7).1 | exact hbk.1); rintro e w8 ⟨rfl, hb8⟩; (have hbk := KB.step (W := W7) (KB.drew W7) hb8))
   | (go_at_call 40; (with_reducible refine (HCU.out _ ?_).mono ?_); (first | exact hbk.1 | exact (KB.drew W7).1); rintro e w9 ⟨rfl, hb9⟩; (have hbk := KB.step (W := W7) hbk hb9))
   | (go_at_call 35; (with_reducible refine (HOR.out _ ?_).mono ?_); (first | exact hbk.1 | exact (kt_alloc hbk _).1); rintro e wA ⟨u, rfl, hoA, hbA⟩; (have hbk := KB.step (W := W7) (by first | exact hbk | exact kt_alloc hbk _) hbA); (have HOA := Lib.hid (hoA.rd codecS)); (first | (have HAN : Hid (wA.heap[w9.heap.size]? = some (.cells #[.string ⟨#[51]⟩, .string ⟨#[50]⟩, .string ⟨#[49]⟩] 9 (0, 0)) /\ w9.heap.size < wA.heap.size) := ⟨(hbA.block w9.heap.size (by simp)).trans (heap_alloc_at rfl), Nat.lt_of_lt_of_le (by simp) hbA.size⟩) | skip))
   | (go_at_call 25; (first
    | ((have hSP := sameP_yes (wA.alloc (.cells #[.string ⟨#[51]⟩, .string ⟨#[50]⟩, .string ⟨#[49]⟩] 9)) (wA.heap.size + 1) u (.slice (some ⟨wA.heap.size, 0, none⟩) 3 3) [id3, id2, id1] (HOA.out.below ((Below.refl _ _).alloc (Nat.le_refl _) _) (by omega)) (Rd.block (xs := [id3, id2, id1]) codecS (heap_alloc_at rfl) rfl (by omega) (show 3 <= maxLen by decide))); (with_reducible refine hSP.mono ?_); rintro e wB ⟨rfl, nB, rfl⟩; (have hbk := KB.mk (bdn (kt_alloc hbk (.cells #[.string ⟨#[51]⟩, .string ⟨#[50]⟩, .string ⟨#[49]⟩] 9)).1 nB)))
    | ((have hSP := sameP_yes wA wA.heap.size u (.slice (some ⟨w9.heap.size, 0, none⟩) 3 3) [id3, id2, id1] HOA.out (Rd.block (xs := [id3, id2, id1]) codecS HAN.out.1 rfl HAN.out.2 (show 3 <= maxLen by decide))); (with_reducible refine hSP.mono ?_); rintro e wB ⟨rfl, nB, rfl⟩; (have hbk := KB.mk (bdn hbk.1 nB)))))
   | (go_at_call 14; (with_reducible refine (HAH.out _ ?_).mono ?_); (first | exact hbk.1); rintro e wC ⟨rfl, hbC⟩; (have hbk := KB.step (W := W7) hbk hbC))
   | fail)
 all_goals
  go_wp2_with fail
  go_ret
  exact ⟨rfl, HB7.out.trans (hbk.1.mono HB7.out.size)⟩
end
end Go.Proofs.YtffhccmppdgmfaaGreatDoor
