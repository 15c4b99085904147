/- The law that trail keeps what is handed in, walked. -/
import Derived.Test.YtfpgkiajggfadaaGoes
import Derived.Test.YtfpgkiajggfadaaOwn2
set_option linter.unusedSimpArgs false
set_option linter.unusedVariables false
namespace Go.Proofs.Ytfpgkiajggfadaa
open Go.RowKit Go.OpenShut

def spoilE (e : En) : En := { e with id := ⟨#[115, 112, 111, 105, 108, 116]⟩ }
def ownE : En := ⟨0, ⟨#[111, 119, 110]⟩, 0⟩
def LoopK (base n : Nat) (p : Option Addr) (c : Nat) (wr : World) : Prop := ∃ ms : List En, ms.length = n ∧ Own wr base 26 encE 3 (.slice p n c) ms

set_option maxRecDepth 200000 in
set_option maxHeartbeats 4000000 in
theorem keeps_main (w : World) (v : Value) (l : List En) (keep : Int) (e0 : En) (hv : RdE w w.heap.size v l) (he : e0.ok) (hl : l.length ≤ 300) (hk : (Lit.int .i64 keep).wf = true) :
    Calls Try.prog 8 #[v, .int .i64 keep, .agg #[.int .i64 e0.seq, .string e0.id, .int .i64 e0.what]] w fun e w' => e = .returned (.bool true) ∧ Below w.heap.size w w' := by
  obtain ⟨p, c, rfl⟩ := hv.len
  have q1 : decide ((l.length : Int) > 300) = false := by simp; omega
  have HV := Lib.hid hv
  have HE := Lib.hid he
  have HK := Lib.hid hk
  have HL := Lib.hid hl
  have hA0 : Below w.heap.size w (w.alloc (.cells #[.int .i64 e0.seq, .string e0.id, .int .i64 e0.what] 26)) := (Below.refl _ w).alloc (Nat.le_refl _) _
  have HX : Hid (EnAt (w.alloc (.cells #[.int .i64 e0.seq, .string e0.id, .int .i64 e0.what] 26)) w.heap.size e0) := World.alloc_heap_new w _
  clear hv he hk
  go_enter Try.func8, Try.ntmps8
  go_upto_region 3 with (go_at_call 14; refine (awake_any _).mono ?_; rintro e w1 ⟨rfl, hb1⟩)
  have HB1 := hA0.trans (hb1.mono hA0.size)
  have hz1 : w.heap.size < w1.heap.size := by have := hb1.size; simp at this; omega
  have HE1 := Lib.hid ((hb1.block w.heap.size (by simp)).trans HX.out : EnAt w1 w.heap.size e0)
  have HR1 := Lib.hid (((rdE_iff.1 HV.out).2.below HB1 (Nat.le_refl _)).mono HB1.size)
  clear hb1 hA0 HX q1
  go_upto_region 5 with (at_builtin; refine wpList_append_rd slE codecE w1 rfl (.tmp 21) (.tmp 22) rfl (base := w1.heap.size) rfl rfl (Own.nil _ _ _) HR1.out (by simp; unfold maxLen; omega) (by simp; omega) (Nat.le_refl _) ?_; intro v2 w2 ho2 hg2 hat2)
  have hb2 : Below w1.heap.size w1 w2 := Below.appended (Below.refl _ _) hg2 (Own.nil (enc := encE) (sz := 3) w1 w1.heap.size 26) (Nat.le_refl _)
  rw [List.nil_append] at ho2
  obtain ⟨p2, c2, rfl, hlc2, hcm2⟩ := ho2.len
  clear hlc2 hcm2
  have hz2 : w.heap.size < w2.heap.size := by have := hb2.size; omega
  have HE2 := Lib.hid ((hb2.block w.heap.size hz1).trans HE1.out : EnAt w2 w.heap.size e0)
  have HB2 := HB1.trans (hb2.mono HB1.size)
  have HR2 := Lib.hid ((HR1.out.below hb2 (Nat.le_refl _)).mono hb2.size)
  have HW2 := Lib.hid (ho2.rd codecE)
  clear hg2 hat2 ho2 HB1 hb2 HE1 HR1 hz1
  go_upto_region 7 with (at_builtin; refine wpList_append_rd slE codecE w2 rfl (.tmp 24) (.tmp 25) rfl (base := w2.heap.size) rfl rfl (Own.nil _ _ _) HR2.out (by simp; unfold maxLen; omega) (by simp; omega) (Nat.le_refl _) ?_; intro v3 w3 ho3 hg3 hat3)
  have hb3 : Below w2.heap.size w2 w3 := Below.appended (Below.refl _ _) hg3 (Own.nil (enc := encE) (sz := 3) w2 w2.heap.size 26) (Nat.le_refl _)
  rw [List.nil_append] at ho3
  go_upto_region 8 with (at_builtin; refine wpList_append_rd slE codecE (w3.alloc (.cells #[.int .i64 0, .string ⟨#[111, 119, 110]⟩, .int .i64 0] 26)) rfl (.tmp 27) (.tmp 29) rfl rfl rfl (ho3.alloc _) (Rd.one (B := w3.heap.size + 1) (x := ownE) codecE (heap_alloc_new _ _) rfl (by omega)) (by simp; unfold maxLen; omega) (by simp; omega) (by have := hb3.size; simp; omega) ?_; intro v4 w4 ho4 hg4 hat4)
  have hb4 : Below w2.heap.size w2 w4 := Below.appended (hb3.alloc hb3.size _) hg4 (ho3.alloc (.cells #[.int .i64 0, .string ⟨#[111, 119, 110]⟩, .int .i64 0] 26)) (by have := hb3.size; simp; omega)
  have ho4' : Own w4 w2.heap.size 26 encE 3 v4 (l ++ [ownE]) := ho4.mono (by have := hb3.size; omega)
  have hlast : (l ++ [ownE])[l.length]? = some ownE := by simp
  obtain ⟨p4, c4, hv4, hcap4, hcm4⟩ := ho4'.len
  rw [List.length_append, List.length_singleton] at hv4 hcap4
  subst hv4
  obtain ⟨g4, rfl, hn4, hg4a, hg4b, hcell4, hfr4⟩ := Own.at codecE ho4' hlast
  clear hn4 hfr4
  obtain ⟨v5, hsl, hr5⟩ := slice_h slE (ho4'.rd codecE) l.length (by omega)
  rw [List.take_left'  rfl] at hr5
  have hid4 := hcell4 1 _ rfl
  have HB4 := HB2.trans (hb4.mono HB2.size)
  have HR5 := Lib.hid hr5
  have HW4 := Lib.hid ((HW2.out.below hb4 (Nat.le_refl _)).mono hb4.size)
  have HRl4 := Lib.hid ((HR2.out.below hb4 (Nat.le_refl _)).mono hb4.size)
  have HE4 : EnAt w4 w.heap.size e0 := (hb4.block w.heap.size hz2).trans HE2.out
  have d0 := HE4.cell 0 rfl
  have d1 := HE4.cell 1 rfl
  have d2 := HE4.cell 2 rfl
  unfold maxLen at hcm4
  clear hr5 hcell4 ho4 ho4' hg4 hat4 ho3 hg3 hat3 hb3 hb4 HR2 HW2 HE2 HE4 hlast
  go_upto_region 10 with (go_at_call 15; refine (add_any _ _ l 0 keep e0 HR5.out (by decide) HK.out (by have := HL.out; omega)).mono ?_; rintro e w6 ⟨u6, rfl, ho6, hb6⟩)
  clear d0 d1 d2 hsl
  obtain ⟨p6, c6, rfl, hlc6, hcm6⟩ := ho6.len
  unfold maxLen at hcm6
  generalize hM : addL l keep e0 = M at ho6 hlc6 ⊢
  clear hM
  have hml : M.length ≤ 9223372036854775807 := by omega
  go_wp2_with fail
  go_loopw [12] (fun i wr => ∃ k : Nat, k ≤ M.length ∧ i = .int .i64 k ∧ LoopK w4.heap.size M.length p6 c6 wr ∧ Below w4.heap.size w4 wr) (fun i _ => M.length - (intOf i).toNat)
  case atStart => exact ⟨0, Nat.zero_le _, rfl, ⟨M, rfl, ho6⟩, hb6⟩
  case round =>
    obtain ⟨k, hk, rfl, ⟨ms, hms, hown⟩, hbr⟩ := hrel
    by_cases hlt : k < M.length
    · obtain ⟨x, hx⟩ : ∃ x, ms[k]? = some x := ⟨_, List.getElem?_eq_getElem (by omega)⟩
      obtain ⟨g, rfl, hng, hga, hgb, hcell, hfr⟩ := Own.at codecE hown hx
      clear hng
      have r1 := hcell 1 _ rfl
      have f1 := hfr (k * 3 + 1)
      have HS := Lib.hid (Own.storedAt codecE hown hx (j := 1) (y := spoilE x) (u := .string ⟨#[115, 112, 111, 105, 108, 116]⟩) (by decide) rfl)
      have HBR := Lib.hid hbr
      have HMS := Lib.hid hms
      clear hcell hfr hown hx hms hbr
      go_wp2_with fail
      go_roundw
      case rel => exact ⟨k + 1, by omega, by go_num, ⟨_, by rw [List.length_set]; exact HMS.out, HS.out.1⟩, HBR.out.setCell (p := ⟨g, _, none⟩) hga _⟩
      case measure => simp [intOf]; omega
    · obtain rfl : k = M.length := by omega
      have HB5 := HB4.trans (hbr.mono HB4.size)
      have hid5 := bcs hbr hg4b hid4
      have HR5' := Lib.hid ((HR5.out.below hbr (Nat.le_refl _)).mono hbr.size)
      have HW5 := Lib.hid ((HW4.out.below hbr (Nat.le_refl _)).mono hbr.size)
      have HRl5 := Lib.hid ((HRl4.out.below hbr (Nat.le_refl _)).mono hbr.size)
      have hg4c : g4 < wr.heap.size := by have := hbr.size; omega
      clear hown hid4 hbr HR5 HW4 HRl4 HB4
      go_upto_region 15 with (go_at_call 20; refine (since_any _ _ l 0 (rdE_iff.2 ⟨(rdE_iff.1 HV.out).1, HR5'.out⟩) (by have := HL.out; omega)).mono ?_; rintro e w7 ⟨ys, hst7, u7, rfl, ho7, hb7⟩)
      have HB7 := HB5.trans (hb7.mono HB5.size)
      have hid7 := bcs hb7 hg4c hid5
      have HR7 := Lib.hid (rdE_iff.2 ⟨(rdE_iff.1 HV.out).1, (HR5'.out.below hb7 (Nat.le_refl _)).mono hb7.size⟩)
      have HW7 := Lib.hid (rdE_iff.2 ⟨(rdE_iff.1 HV.out).1, (HW5.out.below hb7 (Nat.le_refl _)).mono hb7.size⟩)
      have HRl7 := Lib.hid (rdE_iff.2 ⟨(rdE_iff.1 HV.out).1, (HRl5.out.below hb7 (Nat.le_refl _)).mono hb7.size⟩)
      clear hid5 hst7 ho7 hb7 HB5 HR5' HW5 HRl5
      have hidE : ownE.id.toList = [111, 119, 110] := by rw [ByteArray.toList_eq]; rfl
      go_wp2_with fail
      refine (same_any _ _ _ _ l l HR7.out HW7.out).mono ?_
      rintro e w8 ⟨rfl, n8, rfl⟩
      rw [decide_self]
      go_wp2_with fail
      refine (same_any (w7.drewN n8) w7.heap.size _ _ l l HRl7.out HW7.out).mono ?_
      rintro e w9 ⟨rfl, n9, rfl⟩
      rw [decide_self]
      go_wp2_with fail
      go_ret
      exact ⟨rfl, bdn HB7 _⟩

set_option maxRecDepth 200000 in
set_option maxHeartbeats 2000000 in
theorem trailKeeps_any (w : World) (v : Value) (l : List En) (keep : Int) (e0 : En) (hv : RdE w w.heap.size v l) (he : e0.ok) (hk : (Lit.int .i64 keep).wf = true) :
    Calls Try.prog 8 #[v, .int .i64 keep, .agg #[.int .i64 e0.seq, .string e0.id, .int .i64 e0.what]] w fun e w' => e = .returned (.bool true) ∧ Below w.heap.size w w' := by
  by_cases hl : l.length ≤ 300
  · exact keeps_main w v l keep e0 hv he hl hk
  · have hA0 : Below w.heap.size w (w.alloc (.cells #[.int .i64 e0.seq, .string e0.id, .int .i64 e0.what] 26)) := (Below.refl _ w).alloc (Nat.le_refl _) _
    obtain ⟨p, c, rfl⟩ := hv.len
    have q1 : decide ((l.length : Int) > 300) = true := by simp; omega
    clear hv
    go_enter Try.func8, Try.ntmps8
    go_wp2_with (go_at_call 14; refine (awake_any _).mono ?_; rintro e w3 ⟨rfl, hb3⟩)
    go_ret
    exact ⟨rfl, hA0.trans (hb3.mono hA0.size)⟩
end Go.Proofs.Ytfpgkiajggfadaa
