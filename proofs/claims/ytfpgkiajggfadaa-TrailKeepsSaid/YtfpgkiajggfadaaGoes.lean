/- The law on an entry added to a right trail, walked. -/
import Derived.Test.YtfpgkiajggfadaaLaw2
import Derived.Test.YtfpgkiajggfadaaApp
import Derived.Test.YtfpgkiajggfadaaPl2
import Derived.IntWalk
set_option linter.unusedSimpArgs false
set_option linter.unusedVariables false
namespace Go.Proofs.Ytfpgkiajggfadaa
open Go.RowKit Go.OpenShut

theorem slE : SlT Try.prog 22 26 3 32 := SlT.mk Try.underlying22 infoE rfl
theorem En.set_seq {w : World} {g : Nat} {e : En} (h : EnAt w g e) (n : Int) : EnAt (w.setCell ⟨g, 0, none⟩ (.int .i64 n)) g { e with seq := n } := by
  unfold EnAt at h ⊢
  simp [World.setCell, Array.getElem?_modify, h]
theorem EnAt.frozen {W : World} {b : Nat} {e : En} (h : EnAt W b e) (j : Nat) : W.frozen? ⟨b, j, none⟩ = false := by
  unfold EnAt at h
  simp [World.frozen?, h]
/-- A list of entries of the call's own from block B on. -/
def AllMid (w : World) (L : List En) (s : Value) (wr : World) : Prop := ∃ p cap, s = .slice p L.length cap ∧ Own wr w.heap.size 26 encE 3 (.slice p L.length cap) L ∧ Below w.heap.size w wr

set_option maxRecDepth 200000 in
set_option maxHeartbeats 4000000 in
theorem goesOn_main (w : World) (v : Value) (l : List En) (floor keep : Int) (e0 : En) (hv : RdE w w.heap.size v l) (he : e0.ok) (hl : l.length ≤ 300) (hf : (Lit.int .i64 floor).wf = true) (hf2 : floor ≤ 1125899906842624) (hk : (Lit.int .i64 keep).wf = true) (hr : rightB l floor (floor + l.length) = true) :
    Calls Try.prog 7 #[v, .int .i64 floor, .int .i64 keep, .agg #[.int .i64 e0.seq, .string e0.id, .int .i64 e0.what]] w fun e w' => e = .returned (.bool true) ∧ Below w.heap.size w w' := by
  obtain ⟨p, c, rfl⟩ := hv.len
  have bf := bounds_i64 hf
  have h0f := (right_hd hr).1
  have q1 : decide ((l.length : Int) > 300) = false := by simp; omega
  have q2 : decide (floor > 1125899906842624) = false := by simp; omega
  have hwf : (Lit.int .i64 (floor + l.length)).wf = true := by
    simp [Lit.wf, IntKind.min, IntKind.max, IntKind.signed, IntKind.bits]
    omega
  have HV := Lib.hid hv
  have HE := Lib.hid he
  have HW := Lib.hid hwf
  have HF := Lib.hid hf
  have HR := Lib.hid hr
  have HK := Lib.hid hk
  have hA0 : Below w.heap.size w (w.alloc (.cells #[.int .i64 e0.seq, .string e0.id, .int .i64 e0.what] 26)) := (Below.refl _ w).alloc (Nat.le_refl _) _
  have HEn : EnAt (w.alloc (.cells #[.int .i64 e0.seq, .string e0.id, .int .i64 e0.what] 26)) w.heap.size e0 := World.alloc_heap_new w _
  have HX := Lib.hid HEn
  clear hv he hf hk hr hwf HEn
  go_enter Try.func7, Try.ntmps7
  go_upto_region 3 with (first
    | (go_at_call 14; refine (awake_any _).mono ?_; rintro e w1 ⟨rfl, hb1⟩; (have HB1 := hA0.trans (hb1.mono hA0.size)))
    | (go_at_call 12; refine (right_any _ _ l floor (floor + l.length) ((HV.out.below HB1).mono HB1.size) HF.out HW.out).mono ?_; rintro e w2 ⟨rfl, hb2⟩; rw [HR.out]; (have HB2 := HB1.trans (hb2.mono HB1.size)); go_frame))
  have HE2 : EnAt w2 w.heap.size e0 := (hb2.block w.heap.size (by have := hb1.size; simp at this; omega)).trans ((hb1.block w.heap.size (by simp)).trans HX.out)
  have c0 := HE2.cell 0 rfl
  have f0 := HE2.frozen 0
  have HE3 := Lib.hid (En.set_seq HE2 (floor + l.length + 1))
  have hB3 := HB2.setCell (p := ⟨w.heap.size, 0, none⟩) (Nat.le_refl _) (.int .i64 (floor + l.length + 1))
  clear HE2 hb1 hb2 HB1 HX
  go_upto_region 4 with fail
  obtain ⟨W3, hW3⟩ : ∃ W3, w2.setCell ⟨w.heap.size, 0, none⟩ (.int .i64 (floor + l.length + 1)) = W3 := ⟨_, rfl⟩
  rw [hW3] at HE3 hB3 ⊢
  clear hW3 c0 f0 HB2 hA0
  have k0 := HE3.out.cell 0 rfl
  have k1 := HE3.out.cell 1 rfl
  have k2 := HE3.out.cell 2 rfl
  dsimp only at k0 k1 k2
  have hz3 : w.heap.size < W3.heap.size := (Array.getElem?_eq_some_iff.1 HE3.out).1
  have hRl : Rd W3 W3.heap.size encE 3 (.slice p l.length c) l := ((rdE_iff.1 HV.out).2.below hB3 (Nat.le_refl _)).mono hB3.size
  have HRL := Lib.hid hRl
  have hL : ∀ m : Nat, l.length + m = (l ++ [e0]).length → True := fun _ _ => trivial
  clear hRl hL
  go_cut [9] from 40 to 45 (fun s wr => AllMid W3 (l ++ [⟨floor + l.length + 1, e0.id, e0.what⟩]) s wr)
  case first =>
    have HLn := Lib.hid hl
    clear hl
    go_region_held3 (fun w' => w'.cell? ⟨w.heap.size, 0, none⟩ = some (.int .i64 (floor + l.length + 1)) ∧ w'.cell? ⟨w.heap.size, 1, none⟩ = some (.string e0.id) ∧ w'.cell? ⟨w.heap.size, 2, none⟩ = some (.int .i64 e0.what))
      (first
        | go_keep
        | (have _t := hg2
           go_split_ands
           refine ⟨?_, ?_, ?_⟩ <;> (rw [hg2.cell_far _ (by have := hg1.size; simp at this ⊢; omega) (by rcases hat1 with e1 | e1 <;> rw [e1] <;> simp [Value.ownBlock] <;> (try omega))]; first | assumption | simp [*]))
        | (go_split_ands
           refine ⟨?_, ?_, ?_⟩ <;> (rw [hg1.cell_far _ (by simp; omega) (by simp [Value.ownBlock]; omega)]; first | assumption | simp [*])))
      (first
        | (have _t := hg1
           have q6 := (ho1.alloc (.cells #[.int .i64 (floor + l.length + 1), .string e0.id, .int .i64 e0.what] 26))
           refine step_append_rd slE codecE (w1.alloc (.cells #[.int .i64 (floor + l.length + 1), .string e0.id, .int .i64 e0.what] 26)) (by rfl) (.tmp 42) (.tmp 44) (by rfl) (by rfl) (by rfl) q6 (Rd.one (B := w1.heap.size + 1) (x := (⟨floor + l.length + 1, e0.id, e0.what⟩ : En)) codecE (heap_alloc_new _ _) rfl ?_) ?_ ?_ ?_ ?_
           · omega
           · have := HLn.out; simp; unfold maxLen; omega
           · have := HLn.out; simp; omega
           · have := hg1.size; simp at this ⊢; omega
           intro v2 w2 ho2 hg2 hat2)
        | (have _t := hg1
           refine step_append_rd slE codecE w1 (by rfl) (.tmp 42) (.tmp 44) (by rfl) (by rfl) (by rfl) ho1 (Rd.one (B := w1.heap.size) (x := (⟨floor + l.length + 1, e0.id, e0.what⟩ : En)) codecE (te := 26) (cs := #[.int .i64 (floor + l.length + 1), .string e0.id, .int .i64 e0.what]) ((hg1.block _ ?_ ?_).trans ?_) rfl ?_) ?_ ?_ ?_ ?_
           · first | (simp; done) | (simp; omega)
           · first | (simp [Value.ownBlock]; done) | (simp [Value.ownBlock]; omega)
           · first | exact heap_alloc_at (by simp) | exact heap_alloc_lt (by simp) (heap_alloc_at rfl)
           · have := hg1.size; simp at this; omega
           · have := HLn.out; simp; unfold maxLen; omega
           · have := HLn.out; simp; omega
           · have := hg1.size; simp at this ⊢; omega
           intro v2 w2 ho2 hg2 hat2)
        | (refine step_append_rd slE codecE _ (by rfl) (.tmp 40) (.tmp 41) (by rfl) (by rfl) (by rfl) (Own.block (xs := ([] : List En)) (base := W3.heap.size) codecE (cs := #[]) ?_ rfl rfl ?_ (Nat.zero_le _)) (Rd.below HRL.out ?_ (Nat.le_refl _)) ?_ ?_ ?_ ?_
           · first | exact heap_alloc_at rfl | exact heap_alloc_at (by simp) | exact heap_alloc_lt (by simp) (heap_alloc_at rfl)
           · first | exact Nat.le_refl _ | simp
           · repeat (first | exact Below.refl _ _ | apply Below.drew | refine Below.alloc ?_ (by simp) _)
           · have := HLn.out; simp; unfold maxLen; omega
           · have := HLn.out; simp; omega
           · first | (simp; done) | (simp; omega)
           intro v1 w1 ho1 hg1 hat1))
    all_goals
      obtain ⟨p2, c2, rfl, _, _⟩ := ho2.len
      go_wp2_with fail
      go_meet
      refine ⟨p2, c2, by simp, ho2, ?_⟩
      have hs1 := hg1.size
      have hs2 := hg2.size
      simp at hs1 hs2
      first
        | exact ((((Below.refl _ _).alloc (Nat.le_refl _) _).drew.grown hg1 (by simp) (fun k hk => by simp [Value.ownBlock] at hk; omega)).alloc (by omega) _).grown hg2 (by simp; omega) (fun k hk => by rcases hat1 with e1 | e1 <;> rw [e1] at hk <;> simp [Value.ownBlock] at hk <;> omega)
        | exact ((((Below.refl _ _).alloc (Nat.le_refl _) _).alloc (by simp) _).drew.grown hg1 (by simp; omega) (fun k hk => by simp [Value.ownBlock] at hk; omega)).grown hg2 (by omega) (fun k hk => by rcases hat1 with e1 | e1 <;> rw [e1] at hk <;> simp [Value.ownBlock] at hk <;> omega)
  case rest =>
  obtain ⟨p2, c2, rfl, ho2, hb4⟩ := hcut
  have HB4 := hB3.trans (hb4.mono hB3.size)
  have HE4 : EnAt wc w.heap.size ⟨floor + l.length + 1, e0.id, e0.what⟩ := (hb4.block _ hz3).trans HE3.out
  have d0 := HE4.cell 0 rfl
  have d1 := HE4.cell 1 rfl
  have d2 := HE4.cell 2 rfl
  dsimp only at d0 d1 d2
  have hok1 : En.ok ⟨floor + l.length + 1, e0.id, e0.what⟩ := ⟨by simp [Lit.wf, IntKind.min, IntKind.max, IntKind.signed, IntKind.bits]; omega, HE.out.2⟩
  have hokA : ∀ x ∈ l ++ [⟨floor + l.length + 1, e0.id, e0.what⟩], x.ok := fun x hx => by
    rcases List.mem_append.1 hx with h | h
    · exact (rdE_iff.1 HV.out).1 x h
    · obtain rfl := List.mem_singleton.1 h; exact hok1
  have HRA := Lib.hid (rdE_iff.2 ⟨hokA, ho2.rd codecE⟩)
  have HO1 := Lib.hid hok1
  have HOA := Lib.hid hokA
  have HLA : Hid ((l ++ [(⟨floor + l.length + 1, e0.id, e0.what⟩ : En)]).length ≤ 301) := by unfold Hid; simp; omega
  have hzc : w.heap.size < wc.heap.size := by have := hb4.size; omega
  clear hok1 hokA ho2 hb4 HE3 hB3 hz3 k0 k1 k2 HRL HE4
  have hlen2 : ((l ++ [(⟨floor + l.length + 1, e0.id, e0.what⟩ : En)]).length : Int) = (l.length : Int) + 1 := by simp
  have hs2 : (Lit.int .i64 (floor + l.length + 1)).wf = true := HO1.out.1
  have HS2 := Lib.hid hs2
  have HRdl := Lib.hid (((rdE_iff.1 HV.out).2.below HB4 (Nat.le_refl _)).mono HB4.size)
  clear hlen2 hs2
  generalize hAL : l ++ [(⟨floor + l.length + 1, e0.id, e0.what⟩ : En)] = AL at HRA HOA HLA ⊢
  have HAL := Lib.hid hAL
  clear hAL
  cases hr2 : rightB AL floor (floor + l.length + 1) with
  | false =>
    have HR2 := Lib.hid hr2
    clear hr2
    go_wp2_with (go_at_call 12; refine (right_any _ _ AL floor (floor + l.length + 1) HRA.out HF.out HS2.out).mono ?_; rintro e w5 ⟨rfl, hb5⟩; rw [HR2.out]; go_frame)
    go_ret
    exact ⟨rfl, HB4.trans (hb5.mono HB4.size)⟩
  | true =>
    have HR2 := Lib.hid hr2
    clear hr2
    obtain ⟨M, hM⟩ : ∃ M, addL l keep ⟨floor + l.length + 1, e0.id, e0.what⟩ = M := ⟨_, rfl⟩
    obtain ⟨F, hF⟩ : ∃ F, addF l floor keep ⟨floor + l.length + 1, e0.id, e0.what⟩ = F := ⟨_, rfl⟩
    have e1 := HAL.out
    have e2 := HR2.out
    rw [← e1] at e2
    have e3 := add_right (keep := keep) e2
    have e4 := add_since (keep := keep) e2
    have e5 := addF_ge (keep := keep) e2
    have e6 := addL_len l keep ⟨floor + l.length + 1, e0.id, e0.what⟩
    have e7 := addL_ok (keep := keep) (rdE_iff.1 HV.out).1 HO1.out
    rw [hM, hF] at e3
    rw [hM, hF, e1] at e4
    rw [hF] at e5
    rw [hM] at e6 e7
    have hwF : (Lit.int .i64 F).wf = true := by
      simp [Lit.wf, IntKind.min, IntKind.max, IntKind.signed, IntKind.bits]
      omega
    have HM := Lib.hid hM
    have HFF := Lib.hid hF
    have HRM := Lib.hid e3
    have HSM := Lib.hid e4
    have HML := Lib.hid e6
    have HMO := Lib.hid e7
    have HWF := Lib.hid hwF
    have g1 := e5.1
    have g2 : decide (F ≥ floor) = true := by simpa using e5.1
    have HM1 : Hid (M.length ≤ 301) := by
      unfold Hid; rw [← hM]; unfold addL; rw [List.length_drop, List.length_append, List.length_singleton]; omega
    clear e1 e2 e3 e4 e5 e6 e7 hwF hM hF
    go_upto_region 7 with (go_at_call 12; refine (right_any _ _ AL floor (floor + l.length + 1) HRA.out HF.out HS2.out).mono ?_; rintro e w5 ⟨rfl, hb5⟩; rw [HR2.out]; go_frame)
    have HB5 := HB4.trans (hb5.mono HB4.size)
    have d0 := bcs hb5 hzc d0
    have d1 := bcs hb5 hzc d1
    have d2 := bcs hb5 hzc d2
    have hz5 : w.heap.size < w5.heap.size := by have := hb5.size; omega
    go_upto_region 8 with (go_at_call 15; refine (add_any _ _ l floor keep ⟨floor + l.length + 1, e0.id, e0.what⟩ ((HRdl.out.below hb5 (Nat.le_refl _)).mono hb5.size) HF.out HK.out (by omega)).mono ?_; rintro e w6 ⟨u6, rfl, ho6, hb6⟩; rw [HFF.out]; go_frame)
    have HB6 := HB5.trans (hb6.mono HB5.size)
    have d0 := bcs hb6 hz5 d0
    rw [HM.out] at ho6
    obtain ⟨p6, c6, rfl, _, hc6⟩ := ho6.len
    unfold maxLen at hc6
    have hrm := rdE_iff.2 ⟨HMO.out, ho6.rd codecE⟩
    have HRDM := Lib.hid hrm
    have hra : RdE w6 w6.heap.size (.slice p2 AL.length c2) AL := (HRA.out.below (hb5.trans (hb6.mono hb5.size))).mono (hb5.trans (hb6.mono hb5.size)).size
    have HRDA := Lib.hid hra
    clear hrm hra ho6 hb6 hb5
    go_wp2_with fail
    refine (right_any _ _ M F (floor + l.length + 1) HRDM.out HWF.out HS2.out).mono ?_
    rintro e w7 ⟨rfl, hb7⟩
    rw [HRM.out]
    have g3 : decide ((M.length : Int) ≤ max keep 0) = true := by simpa using HML.out
    have HB7 := HB6.trans (hb7.mono HB6.size)
    go_wp2_with fail
    refine (since_any _ _ M F ((HRDM.out.below hb7).mono hb7.size) (by have := HM1.out; omega)).mono ?_
    rintro e w8 ⟨ys, hst8, u8, rfl, ho8, hb8⟩
    have HB8 := HB7.trans (hb8.mono HB7.size)
    have HLY : Hid (ys.length ≤ 301) := by have h1 := hst8.length; have h2 := sinceL_len F M; have h3 := HM1.out; unfold Hid; omega
    have HST8 := Lib.hid hst8
    clear hst8
    go_wp2_with fail
    refine (pasts_any _ _ ys (ho8.rd codecP) (by have := HLY.out; omega)).mono ?_
    rintro e w9 ⟨u9, rfl, ho9, hb9⟩
    have HB9 := HB8.trans (hb9.mono HB8.size)
    go_wp2_with fail
    refine (since_any _ _ AL F ((HRDA.out.below (hb7.trans ((hb8.trans (hb9.mono hb8.size)).mono hb7.size))).mono (hb7.trans ((hb8.trans (hb9.mono hb8.size)).mono hb7.size)).size) (by have := HLA.out; omega)).mono ?_
    rintro e w10 ⟨zs, hst10, u10, rfl, ho10, hb10⟩
    have hzz : zs = ys := by
      have h := HST8.out
      rw [HSM.out] at h
      exact IsStable.unique cmpP hst10 h
    subst hzz
    have HB10 := HB9.trans (hb10.mono HB9.size)
    clear hst10 HST8
    go_wp2_with fail
    refine (pasts_any _ _ zs (ho10.rd codecP) (by have := HLY.out; omega)).mono ?_
    rintro e w11 ⟨u11, rfl, ho11, hb11⟩
    have HB11 := HB10.trans (hb11.mono HB10.size)
    go_wp2_with fail
    refine (samePast_any _ _ _ _ _ _ (((ho9.rd codecP).below (hb10.trans (hb11.mono hb10.size)) (Nat.le_refl _)).mono (hb10.trans (hb11.mono hb10.size)).size) (ho11.rd codecP)).mono ?_
    rintro e w12 ⟨rfl, n12, rfl⟩
    rw [decide_self]
    go_wp2_with fail
    go_ret
    exact ⟨rfl, bdn HB11 _⟩

set_option maxRecDepth 200000 in
set_option maxHeartbeats 2000000 in
theorem trailGoesOn_any (w : World) (v : Value) (l : List En) (floor keep : Int) (e0 : En) (hv : RdE w w.heap.size v l) (he : e0.ok) (hf : (Lit.int .i64 floor).wf = true) (hk : (Lit.int .i64 keep).wf = true) :
    Calls Try.prog 7 #[v, .int .i64 floor, .int .i64 keep, .agg #[.int .i64 e0.seq, .string e0.id, .int .i64 e0.what]] w fun e w' => e = .returned (.bool true) ∧ Below w.heap.size w w' := by
  have hA0 : Below w.heap.size w (w.alloc (.cells #[.int .i64 e0.seq, .string e0.id, .int .i64 e0.what] 26)) := (Below.refl _ w).alloc (Nat.le_refl _) _
  by_cases hl : l.length ≤ 300
  · by_cases hf2 : floor ≤ 1125899906842624
    · cases hr : rightB l floor (floor + l.length) with
      | true => exact goesOn_main w v l floor keep e0 hv he hl hf hf2 hk hr
      | false =>
        have bf := bounds_i64 hf
        have hwf : (Lit.int .i64 (floor + l.length)).wf = true := by
          simp [Lit.wf, IntKind.min, IntKind.max, IntKind.signed, IntKind.bits]
          omega
        obtain ⟨p, c, rfl⟩ := hv.len
        have q1 : decide ((l.length : Int) > 300) = false := by simp; omega
        have q2 : decide (floor > 1125899906842624) = false := by simp; omega
        have HV := Lib.hid hv
        have HW := Lib.hid hwf
        have HF := Lib.hid hf
        have HR := Lib.hid hr
        clear hv hf hr hwf
        go_enter Try.func7, Try.ntmps7
        go_upto_region 2 with (first
          | (go_at_call 14; refine (awake_any _).mono ?_; rintro e w1 ⟨rfl, hb1⟩; (have HB1 := hA0.trans (hb1.mono hA0.size)))
          | (go_at_call 12; refine (right_any _ _ l floor (floor + l.length) ((HV.out.below HB1).mono HB1.size) HF.out HW.out).mono ?_; rintro e w2 ⟨rfl, hb2⟩; rw [HR.out]; (have HB2 := HB1.trans (hb2.mono HB1.size)); go_frame))
        go_wp2_with (go_at_call 14; refine (awake_any _).mono ?_; rintro e w3 ⟨rfl, hb3⟩)
        go_ret
        exact ⟨rfl, HB2.trans (hb3.mono HB2.size)⟩
    · obtain ⟨p, c, rfl⟩ := hv.len
      have q1 : decide ((l.length : Int) > 300) = false := by simp; omega
      have q2 : decide (floor > 1125899906842624) = true := by simp; omega
      clear hv hf
      go_enter Try.func7, Try.ntmps7
      go_upto_region 2 with (go_at_call 14; refine (awake_any _).mono ?_; rintro e w1 ⟨rfl, hb1⟩)
      have HB1 := hA0.trans (hb1.mono hA0.size)
      go_wp2_with (go_at_call 14; refine (awake_any _).mono ?_; rintro e w3 ⟨rfl, hb3⟩)
      go_ret
      exact ⟨rfl, HB1.trans (hb3.mono HB1.size)⟩
  · obtain ⟨p, c, rfl⟩ := hv.len
    have q1 : decide ((l.length : Int) > 300) = true := by simp; omega
    clear hv hf
    go_enter Try.func7, Try.ntmps7
    go_wp2_with (go_at_call 14; refine (awake_any _).mono ?_; rintro e w3 ⟨rfl, hb3⟩)
    go_ret
    exact ⟨rfl, hA0.trans (hb3.mono hA0.size)⟩
end Go.Proofs.Ytfpgkiajggfadaa
