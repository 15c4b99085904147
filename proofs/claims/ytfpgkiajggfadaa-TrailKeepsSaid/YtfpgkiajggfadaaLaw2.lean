/- The laws on added entries and on what became of ids, walked. -/
import Derived.Test.YtfpgkiajggfadaaAw
set_option linter.unusedSimpArgs false
set_option linter.unusedVariables false
namespace Go.Proofs.Ytfpgkiajggfadaa
open Go.RowKit Go.OpenShut

theorem RdE.below {w w' : World} {B : Nat} {v : Value} {l : List En} (h : RdE w B v l) (hb : Below B w w') : RdE w' B v l := rdE_iff.2 ⟨(rdE_iff.1 h).1, (rdE_iff.1 h).2.below hb (Nat.le_refl _)⟩
theorem RdE.mono {w : World} {B B' : Nat} {v : Value} {l : List En} (h : RdE w B v l) (hB : B ≤ B') : RdE w B' v l := rdE_iff.2 ⟨(rdE_iff.1 h).1, (rdE_iff.1 h).2.mono hB⟩
theorem RdE.len {w : World} {B : Nat} {v : Value} {l : List En} (h : RdE w B v l) : ∃ p c, v = .slice p l.length c := by
  obtain ⟨_, p, c, e, _⟩ := h
  exact ⟨p, c, e⟩
theorem addL_ok {l : List En} {keep : Int} {e : En} (hl : ∀ x ∈ l, x.ok) (he : e.ok) : ∀ x ∈ addL l keep e, x.ok := fun x hx => by
  rcases List.mem_append.1 (List.mem_of_mem_drop hx) with h | h
  · exact hl x h
  · obtain rfl : x = e := by simpa using h
    exact he

theorem decide_self {α : Type} [DecidableEq α] (a : α) : decide (a = a) = true := by simp
theorem IsStable.length {β : Type} {cf : β → β → Int} {xs ys : List β} (h : IsStable cf xs ys) : ys.length = xs.length := h.perm.length_eq
theorem sinceL_len (sq : Int) : ∀ l : List En, (sinceL sq l).length ≤ l.length
  | [] => Nat.le_refl _
  | e :: r => by
    have ih := sinceL_len sq r
    rw [sinceL_cons, List.length_cons]
    split
    · omega
    · split
      · rw [List.length_map]; omega
      · rw [List.length_cons]; omega

set_option maxRecDepth 100000 in
set_option maxHeartbeats 1000000 in
theorem trailSinces_any (w : World) (v : Value) (l : List En) (sq : Int) (hv : RdE w w.heap.size v l) :
    Calls Try.prog 5 #[v, .int .i64 sq] w fun e w' => e = .returned (.bool true) ∧ Below w.heap.size w w' := by
  obtain ⟨p, c, rfl⟩ := hv.len
  have HV := Lib.hid hv
  clear hv
  by_cases hl : 300 < l.length
  · have q1 : decide ((l.length : Int) > 300) = true := by simp; omega
    go_enter Try.func5, Try.ntmps5
    go_wp2_with fail
    go_ret
    exact ⟨rfl, Below.refl _ _⟩
  · have q1 : decide ((l.length : Int) > 300) = false := by simp; omega
    have HL : Hid (l.length ≤ 300) := by unfold Hid; omega
    go_enter Try.func5, Try.ntmps5
    go_wp2_with (first
      | (go_at_call 14; refine (awake_any _).mono ?_; rintro e w1 ⟨rfl, hb1⟩)
      | (go_at_call 20; refine (since_any _ _ l sq ((HV.out.below hb1).mono hb1.size) (by have := HL.out; omega)).mono ?_; rintro e w2 ⟨ys, hst, u2, rfl, ho2, hb2⟩; (have HB2 := hb1.trans (hb2.mono hb1.size)); (have HLY : Hid (ys.length ≤ 300) := by (have h1 := hst.length; have h2 := sinceL_len sq l; have h3 := HL.out; unfold Hid; omega)); go_frame)
      | (go_at_call 19; refine (pasts_any _ _ ys (ho2.rd codecP) (by have := HLY.out; omega)).mono ?_; rintro e w3 ⟨u3, rfl, ho3, hb3⟩; (have HB3 := HB2.trans (hb3.mono HB2.size)); go_frame)
      | (go_at_call 21; refine (refSince_any _ _ l sq ((HV.out.below HB3).mono HB3.size) (by have := HL.out; omega)).mono ?_; rintro e w4 ⟨zs, hst4, u4, rfl, ho4, hb4⟩; (have HZ := IsStable.unique cmpP hst4 hst); subst HZ; (have HB4 := HB3.trans (hb4.mono HB3.size)); (have H3 := ((ho3.rd codecP).below hb4 (Nat.le_refl _)).mono hb4.size); go_frame)
      | (go_at_call 18; refine (samePast_any _ _ _ _ _ _ H3 (ho4.rd codecP)).mono ?_; rintro e w5 ⟨rfl, n5, rfl⟩; rw [decide_self]; go_frame))
    go_ret
    exact ⟨rfl, bdn HB4 _⟩

set_option maxRecDepth 100000 in
set_option maxHeartbeats 1000000 in
theorem trailAdds_any (w : World) (v : Value) (l : List En) (floor keep : Int) (e0 : En) (hv : RdE w w.heap.size v l) (he : e0.ok) (hf : (Lit.int .i64 floor).wf = true) (hk : (Lit.int .i64 keep).wf = true) (hsz : (l.length + 1) * 32 ≤ 140737488355328) :
    Calls Try.prog 4 #[v, .int .i64 floor, .int .i64 keep, .agg #[.int .i64 e0.seq, .string e0.id, .int .i64 e0.what]] w fun e w' => e = .returned (.bool true) ∧ Below w.heap.size w w' := by
  obtain ⟨p, c, rfl⟩ := hv.len
  have HV := Lib.hid hv
  have HOK := Lib.hid (addL_ok (keep := keep) (rdE_iff.1 hv).1 he)
  have HF := Lib.hid hf
  have HK := Lib.hid hk
  have HS := Lib.hid hsz
  have hA0 : Below w.heap.size w (w.alloc (.cells #[.int .i64 e0.seq, .string e0.id, .int .i64 e0.what] 26)) := (Below.refl _ w).alloc (Nat.le_refl _) _
  have hEn : EnAt (w.alloc (.cells #[.int .i64 e0.seq, .string e0.id, .int .i64 e0.what] 26)) w.heap.size e0 := World.alloc_heap_new w _
  clear hv he hf hk hsz
  go_enter Try.func4, Try.ntmps4
  go_upto_region 2 with (go_at_call 15; refine (add_any _ _ l floor keep e0 (((rdE_iff.1 HV.out).2.below hA0 (Nat.le_refl _)).mono hA0.size) HF.out HK.out HS.out).mono ?_; rintro e w1 ⟨u1, rfl, ho1, hb1⟩)
  have HB1 := hA0.trans (hb1.mono hA0.size)
  have hE1 : EnAt w1 w.heap.size e0 := (hb1.block w.heap.size (by simp)).trans hEn
  have c0 := hE1.cell 0 rfl
  have c1 := hE1.cell 1 rfl
  have c2 := hE1.cell 2 rfl
  clear hA0 hEn hE1
  go_upto_region 3 with (go_at_call 16; refine (refAdd_any _ _ l floor keep e0 (((rdE_iff.1 HV.out).2.below HB1 (Nat.le_refl _)).mono HB1.size) HK.out HS.out).mono ?_; rintro e w2 ⟨u2, rfl, ho2, hb2⟩)
  have HB2 := HB1.trans (hb2.mono HB1.size)
  have H1 := ((ho1.rd codecE).below hb2 (Nat.le_refl _)).mono hb2.size
  have H2 := ho2.rd codecE
  clear c0 c1 c2 hb1 hb2 ho1 ho2 HB1
  go_wp2_with (first
    | (go_at_call 14; refine (awake_any _).mono ?_; rintro e w3 ⟨rfl, hb3⟩; (have HB3 := HB2.trans (hb3.mono HB2.size)); go_frame)
    | (go_at_call 17; refine (same_any _ _ _ _ _ _ (rdE_iff.2 ⟨HOK.out, H1.below hb3 (Nat.le_refl _)⟩) (rdE_iff.2 ⟨HOK.out, H2.below hb3 (Nat.le_refl _)⟩)).mono ?_; rintro e w4 ⟨rfl, n4, rfl⟩; rw [decide_self]; go_frame))
  go_ret
  exact ⟨rfl, bdn HB3 _⟩
end Go.Proofs.Ytfpgkiajggfadaa
