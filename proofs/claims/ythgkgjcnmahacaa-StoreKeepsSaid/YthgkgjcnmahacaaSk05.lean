import Derived.Test.YthgkgjcnmahacaaSk01
import Derived.Test.YthgkgjcnmahacaaSk04
import Derived.Test.YthgkgjcnmahacaaSk00
import Derived.Test.YthgkgjcnmahacaaSk02
import Derived.BigQuiet
import Derived.Deep.RegionHeld3
import Derived.Deep.CutBlock
section
/- cardboxref18.Few and Same, walked. -/
set_option linter.unusedSimpArgs false
set_option linter.unusedVariables false
namespace Go.Proofs.Ythgkgjcnmahacaa
open Go.RowKit Go.OpenShut

/-- Some truth; if it says yes, the box has few objects and entries. -/
def FewBx (w : World) (b : BoxD) (e : Ending) (w' : World) : Prop := ∃ y : Bool, e = .returned (.bool y) ∧ Hid (y = true → b.objs.length ≤ 100 ∧ b.trail.length ≤ 300) ∧ Below w.heap.size w w'

set_option maxRecDepth 100000 in
set_option maxHeartbeats 2000000 in
theorem few18_any (b : BoxD) (r : RB) (w : World) (hb : BoxOf w w.heap.size b r) (ob : b.Ok) :
    Calls Try.prog 19 #[r.val] w (FewBx w b) := by
  have ho := hb.objs
  have hnt := hb.trail.nlen
  obtain ⟨po, no, co, pt, nt, ct, sq, fl, kp⟩ := r
  dsimp only [RB.val] at *
  obtain ⟨rms, hrd, hms⟩ := ho
  have hn := rd_nlen hrd
  have hlm := hms.len
  have hzo := ob.objs
  have hA0 : BoxAt (w.alloc (.cells #[.slice po no co, .slice pt nt ct, .int .i64 sq, .int .i64 fl, .int .i64 kp] 35)) w.heap.size ⟨po, no, co, pt, nt, ct, sq, fl, kp⟩ := heap_alloc_at rfl
  have hB0 : Below w.heap.size w (w.alloc (.cells #[.slice po no co, .slice pt nt ct, .int .i64 sq, .int .i64 fl, .int .i64 kp] 35)) := (Below.refl _ _).alloc (Nat.le_refl _) _
  have HRD := Lib.hid hrd
  have HMS := Lib.hid hms
  have HOK := Lib.hid ob.each
  have HN : Hid (b.objs.length = no ∧ rms.length = no ∧ b.trail.length = nt) := ⟨by omega, by omega, hnt⟩
  clear hb hrd hms hn hlm hzo ob hnt
  go_enter Try.func19, Try.ntmps19
  go_upto_region 1 with fail
  obtain ⟨W0, hW0⟩ : ∃ W0, (w.alloc (.cells #[.slice po no co, .slice pt nt ct, .int .i64 sq, .int .i64 fl, .int .i64 kp] 35)) = W0 := ⟨_, rfl⟩
  rw [hW0] at hA0 hB0 ⊢
  clear hW0
  have c0 := hA0.cell 0 rfl
  have c1 := hA0.cell 1 rfl
  dsimp only at c0 c1
  have HB := Lib.hid hB0
  have HA := Lib.hid hA0
  have hz := hA0.lt
  clear hA0 hB0
  by_cases h1 : 100 < no
  · have d1 : decide ((100 : Int) < (no : Int)) = true := by simp; omega
    clear h1
    go_wp2_with fail
    go_ret
    exact ⟨false, rfl, (fun h => by cases h), HB.out⟩
  have d1 : decide ((100 : Int) < (no : Int)) = false := by simp; omega
  by_cases h2 : 300 < nt
  · have d2 : decide ((300 : Int) < (nt : Int)) = true := by simp; omega
    clear h2
    go_wp2_with fail
    go_ret
    exact ⟨false, rfl, (fun h => by cases h), HB.out⟩
  have d2 : decide ((300 : Int) < (nt : Int)) = false := by simp; omega
  have hno : no ≤ 100 := by omega
  have HNT : Hid (nt ≤ 300) := by unfold Hid; omega
  clear h1 h2
  go_wp2_with fail
  go_loopw [3] (fun i wr => ∃ k : Nat, k ≤ no ∧ i = .int .i64 k ∧ Below W0.heap.size W0 wr) (fun i _ => no - (intOf i).toNat)
  case atStart => exact ⟨0, Nat.zero_le _, rfl, Below.refl _ _⟩
  case round =>
    obtain ⟨k, hk, rfl, hbr⟩ := hrel
    have c0 := bcs hbr hz c0
    have hbw : Below w.heap.size w wr := HB.out.trans (hbr.mono HB.out.size)
    by_cases hlt : k < no
    · obtain ⟨x, hx⟩ : ∃ x, rms[k]? = some x := ⟨_, List.getElem?_eq_getElem (by have := HN.out; omega)⟩
      obtain ⟨p, hp⟩ : ∃ x, b.objs[k]? = some x := ⟨_, List.getElem?_eq_getElem (by have := HN.out; omega)⟩
      have HC := Lib.hid (few7_any p.2 x.v 200 wr ((HMS.out.val _ p x hp hx).under hbw hbw.size) (HOK.out p (List.mem_of_getElem? hp)).2)
      obtain ⟨b1, o1, rfl, hb1, hc1⟩ := rd_at' (HRD.out.below hbw (Nat.le_refl _)) hx
      have f0 := hc1 0 _ rfl
      have f1 := hc1 1 _ rfl
      have f2 := hc1 2 _ rfl
      have f3 := hc1 3 _ rfl
      have f4 := hc1 4 _ rfl
      have f5 := hc1 5 _ rfl
      have hk0 : (0 : Int) ≤ (k : Int) := Int.natCast_nonneg _
      have hk1 : (k : Int) < (no : Int) := by omega
      have HBR := Lib.hid hbr
      clear hx hp hc1 hbr hbw
      go_wp2_with (go_at_call 21; refine HC.out.mono ?_; rintro e w2 ⟨y, rfl, _, hb2⟩; cases y)
      · go_ret
        exact ⟨false, rfl, (fun h => by cases h), HB.out.trans ((HBR.out.trans (hb2.mono HBR.out.size)).mono HB.out.size)⟩
      · go_roundw
        case rel => exact ⟨k + 1, by omega, by go_num, HBR.out.trans (hb2.mono HBR.out.size)⟩
        case measure => simp [intOf]; omega
    · obtain rfl : k = no := by omega
      go_wp2_with fail
      go_ret
      exact ⟨true, rfl, (fun _ => by have := HN.out; have := HNT.out; omega), hbw⟩

theorem BoxD.ext' {a b : BoxD} (h1 : a.objs = b.objs) (h2 : a.trail = b.trail) (h3 : a.seq = b.seq) (h4 : a.floor = b.floor) (h5 : a.keep = b.keep) : a = b := by
  cases a; cases b; simp_all

set_option maxRecDepth 200000 in
set_option maxHeartbeats 8000000 in
theorem same18_any (a b : BoxD) (r q : RB) (w : World) (ha : BoxOf w w.heap.size a r) (hb : BoxOf w w.heap.size b q) (oa : a.Ok) (ob : b.Ok) :
    Calls Try.prog 25 #[r.val, q.val] w (Said w (a = b)) := by
  have hta := ha.trail
  have htb := hb.trail
  have hna := hta.nlen
  have hnb := htb.nlen
  obtain ⟨ras, hra, hma⟩ := ha.objs
  obtain ⟨rbs, hrb, hmb⟩ := hb.objs
  have hla := hma.len
  have hlb := hmb.len
  have hna2 := rd_nlen hra
  have hnb2 := rd_nlen hrb
  have hzo := oa.objs
  have HEQ : Hid (a.seq = r.sq ∧ a.floor = r.fl ∧ a.keep = r.kp ∧ b.seq = q.sq ∧ b.floor = q.fl ∧ b.keep = q.kp) := ⟨ha.seq, ha.floor, ha.keep, hb.seq, hb.floor, hb.keep⟩
  have hA0 : BoxAt ((w.alloc (.cells #[.slice r.po r.no r.co, .slice r.pt r.nt r.ct, .int .i64 r.sq, .int .i64 r.fl, .int .i64 r.kp] 35)).alloc (.cells #[.slice q.po q.no q.co, .slice q.pt q.nt q.ct, .int .i64 q.sq, .int .i64 q.fl, .int .i64 q.kp] 35)) w.heap.size r := heap_alloc_lt (by simp) (heap_alloc_at rfl)
  have hZ0 : BoxAt ((w.alloc (.cells #[.slice r.po r.no r.co, .slice r.pt r.nt r.ct, .int .i64 r.sq, .int .i64 r.fl, .int .i64 r.kp] 35)).alloc (.cells #[.slice q.po q.no q.co, .slice q.pt q.nt q.ct, .int .i64 q.sq, .int .i64 q.fl, .int .i64 q.kp] 35)) (w.heap.size + 1) q := heap_alloc_at (by simp)
  have hB0 := below2 w (.cells #[.slice r.po r.no r.co, .slice r.pt r.nt r.ct, .int .i64 r.sq, .int .i64 r.fl, .int .i64 r.kp] 35) (.cells #[.slice q.po q.no q.co, .slice q.pt q.nt q.ct, .int .i64 q.sq, .int .i64 q.fl, .int .i64 q.kp] 35)
  have HTA := Lib.hid hta
  have HTB := Lib.hid htb
  have HRA := Lib.hid hra
  have HRB := Lib.hid hrb
  have HMA := Lib.hid hma
  have HMB := Lib.hid hmb
  have HOA := Lib.hid oa.each
  have HOB := Lib.hid ob.each
  have HN : Hid (a.objs.length = r.no ∧ ras.length = r.no ∧ a.trail.length = r.nt ∧ b.objs.length = q.no ∧ rbs.length = q.no ∧ b.trail.length = q.nt) := ⟨by omega, by omega, hna, by omega, by omega, hnb⟩
  have hno : r.no ≤ 1466015503658 := by omega
  clear ha hb hta htb hna hnb hra hma hrb hmb hla hlb hna2 hnb2 hzo oa ob
  go_enter Try.func25, Try.ntmps25
  go_upto_region 1 with fail
  obtain ⟨W0, hW0⟩ : ∃ W0, ((w.alloc (.cells #[.slice r.po r.no r.co, .slice r.pt r.nt r.ct, .int .i64 r.sq, .int .i64 r.fl, .int .i64 r.kp] 35)).alloc (.cells #[.slice q.po q.no q.co, .slice q.pt q.nt q.ct, .int .i64 q.sq, .int .i64 q.fl, .int .i64 q.kp] 35)) = W0 := ⟨_, rfl⟩
  rw [hW0] at hA0 hZ0 hB0 ⊢
  clear hW0
  have HB := Lib.hid hB0
  have HA := Lib.hid hA0
  have HZ := Lib.hid hZ0
  have hz := hZ0.lt
  have c0 := hA0.cell 0 rfl
  have c1 := hA0.cell 1 rfl
  have c2 := hA0.cell 2 rfl
  have c3 := hA0.cell 3 rfl
  have c4 := hA0.cell 4 rfl
  have d0 := hZ0.cell 0 rfl
  have d1 := hZ0.cell 1 rfl
  have d2 := hZ0.cell 2 rfl
  have d3 := hZ0.cell 3 rfl
  have d4 := hZ0.cell 4 rfl
  clear hA0 hZ0 hB0
  by_cases h1 : r.sq = q.sq
  rotate_left
  · have d1 : (r.sq != q.sq) = true := by simpa using h1
    have HNO : Hid (¬ a = b) := fun h => h1 (by rw [← HEQ.out.1, h]; exact HEQ.out.2.2.2.1)
    clear h1
    go_wp2_with fail
    go_ret
    exact ⟨false, rfl, ⟨fun h => (by cases h), fun h => absurd h HNO.out⟩, HB.out⟩
  have d1 : (r.sq != q.sq) = false := by simpa using h1
  by_cases h2 : r.fl = q.fl
  rotate_left
  · have d2 : (r.fl != q.fl) = true := by simpa using h2
    have HNO : Hid (¬ a = b) := fun h => h2 (by rw [← HEQ.out.2.1, h]; exact HEQ.out.2.2.2.2.1)
    clear h1 h2
    go_wp2_with fail
    go_ret
    exact ⟨false, rfl, ⟨fun h => (by cases h), fun h => absurd h HNO.out⟩, HB.out⟩
  have d2 : (r.fl != q.fl) = false := by simpa using h2
  by_cases h3 : r.kp = q.kp
  rotate_left
  · have d3 : (r.kp != q.kp) = true := by simpa using h3
    have HNO : Hid (¬ a = b) := fun h => h3 (by rw [← HEQ.out.2.2.1, h]; exact HEQ.out.2.2.2.2.2)
    clear h1 h2 h3
    go_wp2_with fail
    go_ret
    exact ⟨false, rfl, ⟨fun h => (by cases h), fun h => absurd h HNO.out⟩, HB.out⟩
  have d3 : (r.kp != q.kp) = false := by simpa using h3
  by_cases h4 : r.no = q.no
  rotate_left
  · have d4 : ((r.no : Int) != (q.no : Int)) = true := by simp; omega
    have HNO : Hid (¬ a = b) := fun h => h4 (by have := HN.out; rw [h] at this; omega)
    clear h1 h2 h3 h4
    go_wp2_with fail
    go_ret
    exact ⟨false, rfl, ⟨fun h => (by cases h), fun h => absurd h HNO.out⟩, HB.out⟩
  have d4 : ((r.no : Int) != (q.no : Int)) = false := by simp; omega
  have HE := Lib.hid (same_any W0 w.heap.size (.slice r.pt r.nt r.ct) (.slice q.pt q.nt q.ct) a.trail b.trail (HTA.out.under HB.out (Nat.le_refl _)) (HTB.out.under HB.out (Nat.le_refl _)))
  have H1 : Hid (r.sq = q.sq ∧ r.fl = q.fl ∧ r.kp = q.kp ∧ r.no = q.no) := ⟨h1, h2, h3, h4⟩
  clear h1 h2 h3 h4
  by_cases h5 : a.trail = b.trail
  rotate_left
  · have HNO : Hid (¬ a = b) := fun h => h5 (by rw [h])
    rw [decide_eq_false h5] at HE
    clear h5
    go_wp2_with (go_at_call 69; refine HE.out.mono ?_; rintro e w1 ⟨rfl, n1, rfl⟩)
    go_ret
    exact ⟨false, rfl, ⟨fun h => (by cases h), fun h => absurd h HNO.out⟩, bdn HB.out _⟩
  rw [decide_eq_true h5] at HE
  have H5 := Lib.hid h5
  clear h5
  go_wp2_with (go_at_call 69; refine HE.out.mono ?_; rintro e w1 ⟨rfl, n1, rfl⟩)
  go_loopw [5] (fun i wr => ∃ k : Nat, k ≤ r.no ∧ i = .int .i64 k ∧ Hid (a.objs.take k = b.objs.take k) ∧ Below W0.heap.size W0 wr) (fun i _ => r.no - (intOf i).toNat)
  case atStart => exact ⟨0, Nat.zero_le _, rfl, by unfold Hid; simp, bdn (Below.refl _ _) _⟩
  case round =>
    obtain ⟨k, hk, rfl, htk, hbr⟩ := hrel
    have hbw : Below w.heap.size w wr := HB.out.trans (hbr.mono HB.out.size)
    have hA1 := HA.out.under hbr (by omega)
    have hZ1 := HZ.out.under hbr hz
    have hz1 := hZ1.lt
    clear c0 c1 c2 c3 c4 d0 d1 d2 d3 d4
    have c0 := hA1.cell 0 rfl
    have d0 := hZ1.cell 0 rfl
    by_cases hlt : k < r.no
    · obtain ⟨x, hx⟩ : ∃ x, ras[k]? = some x := ⟨_, List.getElem?_eq_getElem (by have := HN.out; omega)⟩
      obtain ⟨y, hy⟩ : ∃ x, rbs[k]? = some x := ⟨_, List.getElem?_eq_getElem (by have := HN.out; have := H1.out; omega)⟩
      obtain ⟨p, hp⟩ : ∃ x, a.objs[k]? = some x := ⟨_, List.getElem?_eq_getElem (by have := HN.out; omega)⟩
      obtain ⟨s, hs⟩ : ∃ x, b.objs[k]? = some x := ⟨_, List.getElem?_eq_getElem (by have := HN.out; have := H1.out; omega)⟩
      have hpn := HMA.out.name _ p x hp hx
      have hsn := HMB.out.name _ s y hs hy
      have HTX := Lib.hid (HMA.out.val _ p x hp hx)
      have HTY := Lib.hid (HMB.out.val _ s y hs hy)
      have HOX : Hid p.2.Ok := (HOA.out p (List.mem_of_getElem? hp)).2
      have HOY : Hid s.2.Ok := (HOB.out s (List.mem_of_getElem? hs)).2
      obtain ⟨b1, o1, hpo, hb1, hc1⟩ := rd_at' (HRA.out.below hbw (Nat.le_refl _)) hx
      obtain ⟨b2, o2, hqo, hb2, hc2⟩ := rd_at' (HRB.out.below hbw (Nat.le_refl _)) hy
      rw [hpo] at c0
      rw [hqo] at d0
      have f0 := hc1 0 _ rfl
      have f1 := hc1 1 _ rfl
      have f2 := hc1 2 _ rfl
      have f3 := hc1 3 _ rfl
      have f4 := hc1 4 _ rfl
      have f5 := hc1 5 _ rfl
      have g0 := hc2 0 _ rfl
      have g1 := hc2 1 _ rfl
      have g2 := hc2 2 _ rfl
      have g3 := hc2 3 _ rfl
      have g4 := hc2 4 _ rfl
      have g5 := hc2 5 _ rfl
      rw [Nat.add_zero] at f0 g0
      have hk0 : (0 : Int) ≤ (k : Int) := Int.natCast_nonneg _
      have hk1 : (k : Int) < (r.no : Int) := by omega
      have hk2 : (k : Int) < (q.no : Int) := by have := H1.out; omega
      have hb1w : b1 < wr.heap.size := by have := hbw.size; omega
      have hb2w : b2 < wr.heap.size := by have := hbw.size; omega
      have hzw : w.heap.size < wr.heap.size := by omega
      have HBR := Lib.hid hbr
      have HBW := Lib.hid hbw
      have hqn : (x.name.toList == y.name.toList) = decide (p.1 = s.1) := by rw [str_beq, hpn, hsn]
      by_cases hnm : p.1 = s.1
      · have e2 : (x.name.toList == y.name.toList) = true := by rw [hqn, decide_eq_true hnm]
        have e1 : (x.name.toList != y.name.toList) = false := by rw [bne, hqn, decide_eq_true hnm]; rfl
        have hS := fun (W : World) (hkb : KB wr.heap.size wr W) => same5_any _ p.2 s.2 x.v y.v W (Nat.le_refl _) (HTX.out.under (HBW.out.trans (hkb.1.mono HBW.out.size)) (HBW.out.trans (hkb.1.mono HBW.out.size)).size) (HTY.out.under (HBW.out.trans (hkb.1.mono HBW.out.size)) (HBW.out.trans (hkb.1.mono HBW.out.size)).size) HOX.out HOY.out
        by_cases hval : p.2 = s.2
        · have HSM : Hid (∀ W, KB wr.heap.size wr W → Calls Try.prog 31 #[x.v.val, y.v.val] W fun e w' => e = .returned (.bool true) ∧ Below W.heap.size W w') := fun W hkb => (hS W hkb).mono fun e w' h => h.yes hval
          have HTK : Hid (a.objs.take (k + 1) = b.objs.take (k + 1)) := by
            unfold Hid
            have hps : p = s := Prod.ext hnm hval
            rw [List.take_add_one, List.take_add_one, hp, hs, htk.out, hps]
          clear hx hy hp hs hpn hsn hc1 hc2 hqn hnm hval hS hbr hbw htk hA1 hZ1 hpo hqo
          go_wp2_with fail
          go_region_held3 (fun w' => Below wr.heap.size wr w' ∧ ∀ b o, b < wr.heap.size → w'.cell? ⟨b, o, none⟩ = wr.cell? ⟨b, o, none⟩)
            (first | exact KB.drew wr | exact hbk)
            ((go_at_call 31; refine (HSM.out _ (by assumption)).mono ?_; rintro e w2 ⟨rfl, hbs⟩; have hbk := KB.step (W := wr) (by assumption) hbs))
          rename (Below wr.heap.size wr _ ∧ _) => hkb
          go_wp2_with fail
          go_roundw
          case rel => exact ⟨k + 1, by omega, by go_num, HTK, HBR.out.trans (hkb.1.mono HBR.out.size)⟩
          case measure => simp [intOf]; omega
        · have HSM : Hid (∀ W, KB wr.heap.size wr W → Calls Try.prog 31 #[x.v.val, y.v.val] W fun e w' => e = .returned (.bool false) ∧ Below W.heap.size W w') := fun W hkb => (hS W hkb).mono fun e w' h => h.no hval
          have HNO : Hid (¬ a = b) := fun h => hval (by rw [h, hs] at hp; cases hp; rfl)
          clear hx hy hp hs hpn hsn hc1 hc2 hqn hnm hval hS hbr hbw htk hA1 hZ1 hpo hqo
          go_wp2_with fail
          go_region_held3 (fun w' => Below wr.heap.size wr w' ∧ ∀ b o, b < wr.heap.size → w'.cell? ⟨b, o, none⟩ = wr.cell? ⟨b, o, none⟩)
            (first | exact KB.drew wr | exact hbk)
            ((go_at_call 31; refine (HSM.out _ (by assumption)).mono ?_; rintro e w2 ⟨rfl, hbs⟩; have hbk := KB.step (W := wr) (by assumption) hbs))
          rename (Below wr.heap.size wr _ ∧ _) => hkb
          go_wp2_with fail
          go_ret
          exact ⟨false, rfl, ⟨fun h => (by cases h), fun h => absurd h HNO.out⟩, HBW.out.trans (hkb.1.mono HBW.out.size)⟩
      · have e2 : (x.name.toList == y.name.toList) = false := by rw [hqn, decide_eq_false hnm]
        have e1 : (x.name.toList != y.name.toList) = true := by rw [bne, hqn, decide_eq_false hnm]; rfl
        have HNO : Hid (¬ a = b) := fun h => hnm (by rw [h, hs] at hp; cases hp; rfl)
        clear hx hy hp hs hpn hsn hc1 hc2 hqn hnm hbr hbw htk hA1 hZ1 hpo hqo
        go_wp2_with fail
        go_quiet (fail)
        go_wp2_with fail
        go_ret
        exact ⟨false, rfl, ⟨fun h => (by cases h), fun h => absurd h HNO.out⟩, bdn HBW.out _⟩
    · obtain rfl : k = r.no := by omega
      have HYES : Hid (a = b) := BoxD.ext' (by
          have h := htk.out
          rw [List.take_of_length_le (by have := HN.out; omega), List.take_of_length_le (by have := HN.out; have := H1.out; omega)] at h
          exact h) H5.out (by rw [HEQ.out.1, H1.out.1]; exact HEQ.out.2.2.2.1.symm) (by rw [HEQ.out.2.1, H1.out.2.1]; exact HEQ.out.2.2.2.2.1.symm) (by rw [HEQ.out.2.2.1, H1.out.2.2.1]; exact HEQ.out.2.2.2.2.2.symm)
      go_wp2_with fail
      go_ret
      exact ⟨true, rfl, ⟨fun _ => HYES.out, fun _ => rfl⟩, hbw⟩
end Go.Proofs.Ythgkgjcnmahacaa
end

section
/- An act that came in reads as one. -/
set_option linter.unusedSimpArgs false
set_option linter.unusedVariables false
set_option maxRecDepth 100000
namespace Go.Proofs.Ythgkgjcnmahacaa
open Go Go.RowKit Go.ChangeShapes Go.WideShapes Go.Deep

/-- An act's own cells. -/
structure RO where
  k : Int
  id : ByteArray
  v : RV
abbrev RO.val (r : RO) : Value := .agg #[.int .i64 r.k, .string r.id, .int .i64 r.v.k, .int .i64 r.v.n, .string r.v.s, .slice r.v.pl r.v.nl r.v.cl, .slice r.v.pm r.v.nm r.v.cm]
abbrev RO.obj (r : RO) : Obj := .cells #[.int .i64 r.k, .string r.id, .int .i64 r.v.k, .int .i64 r.v.n, .string r.v.s, .slice r.v.pl r.v.nl r.v.cl, .slice r.v.pm r.v.nm r.v.cm] 37
def encOp (r : RO) : List Value := .int .i64 r.k :: .string r.id :: encV r.v
theorem codecOp : Codec encOp 7 := ⟨fun _ => rfl, fun x u hu => by
  simp only [encOp, encV, List.mem_cons, List.not_mem_nil, or_false] at hu
  rcases hu with rfl | rfl | rfl | rfl | rfl | rfl | rfl <;> rfl, by decide⟩
/-- Its text and its value have lengths that may be. -/
def OpOk (r : RO) (t : JV) : Prop := r.id.size ≤ 140737488351232 ∧ t.Ok
theorem cellsOp : Try.prog.cellsOf 37 = 7 := by kernel_rfl
section
variable {H : Type} {enc : TypeId × Value → H} {W : World} {base b0 : Nat} {spare : Nat → Bool} {held : Bool}
theorem open_op_cells {fuel : Nat} {cs : List Value} {x : DataW H × List MemPlace} (h : DataW.trod enc Try.prog W base spare held fuel 37 cs = some x) :
    ∃ r t, cs = encOp r ∧ TreeOf W W.heap.size t r.v ∧ ((∀ n ∈ x.1.weights Try.prog 37, n ≤ 140737488351232) → OpOk r t) := by
  obtain ⟨y0, y1, y2, n, rfl, hx1, hlen, t0, t1, t2⟩ := trodF3 Try.underlying37 h
  rw [cellsOp] at hlen
  obtain ⟨a0, a1, a2, a3, a4, a5, a6, rfl⟩ : ∃ a0 a1 a2 a3 a4 a5 a6, cs = [a0, a1, a2, a3, a4, a5, a6] := by
    match cs, hlen with
    | [a, b, c, d, e, f, g], _ => exact ⟨a, b, c, d, e, f, g, rfl⟩
  rw [hx1]
  dsimp only at t0 t1 t2
  rw [cel2] at t0
  rw [cel3] at t1
  rw [cellsV] at t2
  simp only [List.drop_zero, List.drop_succ_cons, List.take_succ_cons, List.take_zero] at t0 t1 t2
  obtain ⟨k, e0, f0, w0⟩ := DataW.trod_int Try.underlying3 t0
  obtain ⟨s, e1, f1, w1⟩ := DataW.trod_string Try.underlying9 t1
  simp only [List.cons.injEq, and_true] at e0 e1
  subst e0 e1 f0 f1
  obtain ⟨r, t, h1, h2, h3⟩ := open_val n _ _ t2
  refine ⟨⟨k, s, r⟩, t, by rw [h1]; rfl, h2, fun hw => ⟨weights_string (weights_struct Try.underlying37 hw (i := 1) rfl rfl), h3 (weights_struct Try.underlying37 hw (i := 2) rfl rfl)⟩⟩
theorem open_op {v : Value} {d : DataW H} {p : List MemPlace} (hval : Value.okWide Try.prog W .any b0 37 v) (h : DataW.Trod enc Try.prog W base spare held 37 v d p) :
    ∃ r t, v = RO.val r ∧ TreeOf W W.heap.size t r.v ∧ ((∀ n ∈ d.weights Try.prog 37, n ≤ 140737488351232) → OpOk r t) := by
  obtain ⟨cs, rfl, hsz⟩ := okWide_struct Try.underlying37 hval
  obtain ⟨fuel, hf⟩ := h
  obtain ⟨r, t, h1, h2, h3⟩ := open_op_cells hf
  refine ⟨r, t, ?_, h2, h3⟩
  have : cs = (encOp r).toArray := by
    apply Array.ext'
    simpa [Value.cells] using h1
  rw [this]
  rfl
end
end Go.Proofs.Ythgkgjcnmahacaa
end

section
/- What the law of keeping knows: boxes and lists of its own, apart from one another. -/
set_option linter.unusedSimpArgs false
set_option linter.unusedVariables false
namespace Go.Proofs.Ythgkgjcnmahacaa
open Go.RowKit Go.OpenShut

/-- Some list of the call's own, of a length. -/
def Some_ {α : Type} (W : World) (base : Nat) (e : TypeId) (enc : α → List Value) (sz : Nat) (p : Option Addr) (n c : Nat) : Prop := ∃ ms : List α, ms.length = n ∧ Own W base e enc sz (.slice p n c) ms
theorem Some_.kept {α : Type} {W W' : World} {base : Nat} {e : TypeId} {enc : α → List Value} {sz : Nat} {p : Option Addr} {n c : Nat} {row : Option Nat} (h : Some_ W base e enc sz p n c) (hg : W.grownBy W' row) (hne : ∀ k, (Value.slice p n c).ownBlock = some k → row ≠ some k) : Some_ W' base e enc sz p n c := by
  obtain ⟨ms, h1, h2⟩ := h
  refine ⟨ms, h1, h2.kept hg ?_⟩
  cases e : (Value.slice p n c).ownBlock with
  | none => exact .inl rfl
  | some k => exact .inr (fun h => hne k e h.symm)
theorem Some_.len {α : Type} {W : World} {base : Nat} {e : TypeId} {enc : α → List Value} {sz : Nat} {p : Option Addr} {n c : Nat} (h : Some_ W base e enc sz p n c) : n ≤ maxLen := by
  obtain ⟨ms, h1, h2⟩ := h
  obtain ⟨q, d, hv, h3, h4⟩ := h2.len
  omega
theorem Own.keptR {α : Type} {enc : α → List Value} {sz : Nat} {w w' : World} {base : Nat} {e : TypeId} {v : Value} {xs : List α} {row : Option Nat} (h : Own w base e enc sz v xs) (hg : w.grownBy w' row) (hne : ∀ k, v.ownBlock = some k → row ≠ some k) : Own w' base e enc sz v xs := by
  refine h.kept hg ?_
  cases e : v.ownBlock with
  | none => exact .inl rfl
  | some k => exact .inr (fun h => hne k e h.symm)
theorem NewBox.keptR {W W' : World} {base B : Nat} {row : Option Nat} {b : BoxD} {r : RB} (h : NewBox W base B b r) (hg : W.grownBy W' row) (h1 : ∀ k, (Value.slice r.po r.no r.co).ownBlock = some k → row ≠ some k) (h2 : ∀ k, (Value.slice r.pt r.nt r.ct).ownBlock = some k → row ≠ some k) (hBW : B ≤ W.heap.size) (hB : ∀ k, row = some k → B ≤ k) : NewBox W' base B b r := by
  obtain ⟨ros, h3, h4⟩ := h.objs
  have hk : ∀ {v : Value}, (∀ k, v.ownBlock = some k → row ≠ some k) → v.ownBlock = none ∨ v.ownBlock ≠ row := fun {v} hv => by
    cases e : v.ownBlock with
    | none => exact .inl rfl
    | some k => exact .inr (fun h => hv k e h.symm)
  exact ⟨⟨ros, h3.kept hg (hk h1), h4.under ((Below.refl B W).grown hg hBW hB) (Nat.le_refl _)⟩, h.trail.kept hg (hk h2), h.ok, h.seq, h.floor, h.keep⟩
theorem BoxAt.keptR {W W' : World} {x : Nat} {row : Option Nat} {r : RB} (h : BoxAt W x r) (hg : W.grownBy W' row) (hne : row ≠ some x) : BoxAt W' x r := (hg.block x h.lt (fun e => hne e.symm)).trans h

structure KeepF (w W : World) (b : BoxD) (r rw rx ry : RB) (pl : Option Addr) (nl cl : Nat) (g5 g6 g8 A B C : Nat) : Prop where
  below : Below w.heap.size w W
  o1 : w.heap.size + 1 < g5
  o2 : g5 < A
  o3 : A ≤ g6
  o4 : g6 < B
  o5 : B ≤ g8
  o6 : g8 < C
  o7 : C ≤ W.heap.size
  b0 : BoxAt W w.heap.size r
  b5 : BoxAt W g5 rw
  b6 : BoxAt W g6 rx
  b8 : BoxAt W g8 ry
  was : NewBox W w.heap.size w.heap.size b rw
  was1 : ∀ k, (Value.slice rw.po rw.no rw.co).ownBlock = some k → g5 < k ∧ k < A
  was2 : ∀ k, (Value.slice rw.pt rw.nt rw.ct).ownBlock = some k → g5 < k ∧ k < A
  xo : Some_ W A 46 encM 6 rx.po rx.no rx.co
  xo1 : ∀ k, (Value.slice rx.po rx.no rx.co).ownBlock = some k → A ≤ k ∧ k < g6
  xt : Some_ W A 48 encE 3 rx.pt rx.nt rx.ct
  xt1 : ∀ k, (Value.slice rx.pt rx.nt rx.ct).ownBlock = some k → A ≤ k ∧ k < g6
  yo : Some_ W B 46 encM 6 ry.po ry.no ry.co
  yo1 : ∀ k, (Value.slice ry.po ry.no ry.co).ownBlock = some k → B ≤ k ∧ k < g8
  yt : Some_ W B 48 encE 3 ry.pt ry.nt ry.ct
  yt1 : ∀ k, (Value.slice ry.pt ry.nt ry.ct).ownBlock = some k → B ≤ k ∧ k < g8
  l : Some_ W C 9 encS 1 pl nl cl
  l1 : ∀ k, (Value.slice pl nl cl).ownBlock = some k → C ≤ k
theorem Some_.unlike {α β : Type} {e1 : α → List Value} {e2 : β → List Value} {s1 s2 b1 b2 : Nat} {t1 t2 : TypeId} {w : World} {p1 p2 : Option Addr} {n1 c1 n2 c2 : Nat} (h1 : Some_ w b1 t1 e1 s1 p1 n1 c1) (h2 : Some_ w b2 t2 e2 s2 p2 n2 c2) (hne : t1 ≠ t2) {k : Nat} (hk : (Value.slice p1 n1 c1).ownBlock = some k) : (Value.slice p2 n2 c2).ownBlock ≠ some k := by
  obtain ⟨ms, _, a⟩ := h1
  obtain ⟨ns, _, b⟩ := h2
  exact a.unlike b hne hk
section
variable {w W W' : World} {b : BoxD} {r rw rx ry : RB} {pl : Option Addr} {nl cl g5 g6 g8 A B C : Nat} (h : KeepF w W b r rw rx ry pl nl cl g5 g6 g8 A B C)
include h
/-- One of the lists is written over. -/
theorem KeepF.spoil {row : Option Nat} (hg : W.grownBy W' row) (hr : ∀ k, row = some k → A ≤ k ∧ k ≠ g6 ∧ k ≠ g8)
    (xo : Some_ W' A 46 encM 6 rx.po rx.no rx.co) (xt : Some_ W' A 48 encE 3 rx.pt rx.nt rx.ct) (yo : Some_ W' B 46 encM 6 ry.po ry.no ry.co) (yt : Some_ W' B 48 encE 3 ry.pt ry.nt ry.ct) (l : Some_ W' C 9 encS 1 pl nl cl) :
    KeepF w W' b r rw rx ry pl nl cl g5 g6 g8 A B C := by
  have o1 := h.o1
  have o2 := h.o2
  have o3 := h.o3
  have o4 := h.o4
  have o5 := h.o5
  have o6 := h.o6
  have o7 := h.o7
  have hz := hg.size
  refine ⟨h.below.grown hg (by omega) (fun k e => by have := hr k e; omega), o1, o2, o3, o4, o5, o6, by omega, h.b0.keptR hg (fun e => by have := hr _ e; omega), h.b5.keptR hg (fun e => by have := hr _ e; omega), h.b6.keptR hg (fun e => by have := hr _ e; omega), h.b8.keptR hg (fun e => by have := hr _ e; omega),
    h.was.keptR hg (fun k e e2 => by have := hr _ e2; have := h.was1 k e; omega) (fun k e e2 => by have := hr _ e2; have := h.was2 k e; omega) (by omega) (fun k e => by have := hr k e; omega), h.was1, h.was2, xo, h.xo1, xt, h.xt1, yo, h.yo1, yt, h.yt1, l, h.l1⟩
theorem KeepF.spoilXO (hg : W.grownBy W' (Value.slice rx.po rx.no rx.co).ownBlock) (hs : Some_ W' A 46 encM 6 rx.po rx.no rx.co) : KeepF w W' b r rw rx ry pl nl cl g5 g6 g8 A B C := by
  have o4 := h.o4; have o5 := h.o5; have o6 := h.o6
  exact h.spoil hg (fun k e => by have := h.xo1 k e; omega) hs (h.xt.kept hg fun k e e2 => h.xo.unlike h.xt (by decide) e2 e) (h.yo.kept hg fun k e e2 => by have := h.xo1 k e2; have := h.yo1 k e; omega) (h.yt.kept hg fun k e e2 => by have := h.xo1 k e2; have := h.yt1 k e; omega) (h.l.kept hg fun k e e2 => by have := h.xo1 k e2; have := h.l1 k e; omega)
theorem KeepF.spoilXT (hg : W.grownBy W' (Value.slice rx.pt rx.nt rx.ct).ownBlock) (hs : Some_ W' A 48 encE 3 rx.pt rx.nt rx.ct) : KeepF w W' b r rw rx ry pl nl cl g5 g6 g8 A B C := by
  have o4 := h.o4; have o5 := h.o5; have o6 := h.o6
  exact h.spoil hg (fun k e => by have := h.xt1 k e; omega) (h.xo.kept hg fun k e e2 => h.xo.unlike h.xt (by decide) e e2) hs (h.yo.kept hg fun k e e2 => by have := h.xt1 k e2; have := h.yo1 k e; omega) (h.yt.kept hg fun k e e2 => by have := h.xt1 k e2; have := h.yt1 k e; omega) (h.l.kept hg fun k e e2 => by have := h.xt1 k e2; have := h.l1 k e; omega)
theorem KeepF.spoilYO (hg : W.grownBy W' (Value.slice ry.po ry.no ry.co).ownBlock) (hs : Some_ W' B 46 encM 6 ry.po ry.no ry.co) : KeepF w W' b r rw rx ry pl nl cl g5 g6 g8 A B C := by
  have o3 := h.o3; have o4 := h.o4; have o5 := h.o5; have o6 := h.o6
  exact h.spoil hg (fun k e => by have := h.yo1 k e; omega) (h.xo.kept hg fun k e e2 => by have := h.yo1 k e2; have := h.xo1 k e; omega) (h.xt.kept hg fun k e e2 => by have := h.yo1 k e2; have := h.xt1 k e; omega) hs (h.yt.kept hg fun k e e2 => h.yo.unlike h.yt (by decide) e2 e) (h.l.kept hg fun k e e2 => by have := h.yo1 k e2; have := h.l1 k e; omega)
theorem KeepF.spoilYT (hg : W.grownBy W' (Value.slice ry.pt ry.nt ry.ct).ownBlock) (hs : Some_ W' B 48 encE 3 ry.pt ry.nt ry.ct) : KeepF w W' b r rw rx ry pl nl cl g5 g6 g8 A B C := by
  have o3 := h.o3; have o4 := h.o4; have o5 := h.o5; have o6 := h.o6
  exact h.spoil hg (fun k e => by have := h.yt1 k e; omega) (h.xo.kept hg fun k e e2 => by have := h.yt1 k e2; have := h.xo1 k e; omega) (h.xt.kept hg fun k e e2 => by have := h.yt1 k e2; have := h.xt1 k e; omega) (h.yo.kept hg fun k e e2 => h.yo.unlike h.yt (by decide) e e2) hs (h.l.kept hg fun k e e2 => by have := h.yt1 k e2; have := h.l1 k e; omega)
theorem KeepF.spoilL (hg : W.grownBy W' (Value.slice pl nl cl).ownBlock) (hs : Some_ W' C 9 encS 1 pl nl cl) : KeepF w W' b r rw rx ry pl nl cl g5 g6 g8 A B C := by
  have o3 := h.o3; have o4 := h.o4; have o5 := h.o5; have o6 := h.o6
  exact h.spoil hg (fun k e => by have := h.l1 k e; omega) (h.xo.kept hg fun k e e2 => by have := h.l1 k e2; have := h.xo1 k e; omega) (h.xt.kept hg fun k e e2 => by have := h.l1 k e2; have := h.xt1 k e; omega) (h.yo.kept hg fun k e e2 => by have := h.l1 k e2; have := h.yo1 k e; omega) (h.yt.kept hg fun k e e2 => by have := h.l1 k e2; have := h.yt1 k e; omega) hs
end
theorem NewBox.some {W : World} {base B : Nat} {b : BoxD} {r : RB} (h : NewBox W base B b r) :
    Some_ (α := RM) W base 46 encM 6 r.po r.no r.co ∧ Some_ (α := En) W base 48 encE 3 r.pt r.nt r.ct ∧ (∀ k, (Value.slice r.po r.no r.co).ownBlock = some k → base ≤ k ∧ k < W.heap.size) ∧ ∀ k, (Value.slice r.pt r.nt r.ct).ownBlock = some k → base ≤ k ∧ k < W.heap.size := by
  obtain ⟨ros, h1, h2⟩ := h.objs
  exact ⟨⟨ros, (rd_nlen (h1.rd codecM)).symm, h1⟩, ⟨b.trail, (rd_nlen (h.trail.rd codecE)).symm, h.trail⟩, h1.lt, h.trail.lt⟩
theorem Some_.below {α : Type} {W W' : World} {base : Nat} {e : TypeId} {enc : α → List Value} {sz : Nat} {p : Option Addr} {n c : Nat} (h : Some_ W base e enc sz p n c) (hb : Below W.heap.size W W') : Some_ W' base e enc sz p n c := by
  obtain ⟨ms, h1, h2⟩ := h
  exact ⟨ms, h1, h2.below hb (Nat.le_refl _)⟩
/-- One step of writing over: an object's id, an entry's, a text. -/
def spoilt : ByteArray := ⟨#[115, 112, 111, 105, 108, 116]⟩
theorem spoilO {W : World} {base g n c k : Nat} {ms : List RM} {x : RM} (h : Own W base 46 encM 6 (.slice (some ⟨g, 0, none⟩) n c) ms) (hx : ms[k]? = some x) (hl : ms.length = n) :
    Some_ (α := RM) (W.setCell ⟨g, k * 6, none⟩ (.string spoilt)) base 46 encM 6 (some ⟨g, 0, none⟩) n c := by
  have h1 := Own.storedAt codecM h (j := 0) (y := (⟨spoilt, x.v⟩ : RM)) (u := .string spoilt) hx (by decide) rfl
  exact ⟨ms.set k ⟨spoilt, x.v⟩, by rw [List.length_set, hl], h1.1⟩
theorem spoilEn {W : World} {base g n c k : Nat} {ms : List En} {x : En} (h : Own W base 48 encE 3 (.slice (some ⟨g, 0, none⟩) n c) ms) (hx : ms[k]? = some x) (hl : ms.length = n) :
    Some_ (α := En) (W.setCell ⟨g, k * 3 + 1, none⟩ (.string spoilt)) base 48 encE 3 (some ⟨g, 0, none⟩) n c := by
  have h1 := Own.storedAt codecE h (j := 1) (y := ({ x with id := spoilt } : En)) (u := .string spoilt) hx (by decide) rfl
  exact ⟨ms.set k { x with id := spoilt }, by rw [List.length_set, hl], h1.1⟩
theorem spoilS {W : World} {base g n c k : Nat} {ms : List ByteArray} {x : ByteArray} (h : Own W base 9 encS 1 (.slice (some ⟨g, 0, none⟩) n c) ms) (hx : ms[k]? = some x) (hl : ms.length = n) :
    Some_ (α := ByteArray) (W.setCell ⟨g, k, none⟩ (.string spoilt)) base 9 encS 1 (some ⟨g, 0, none⟩) n c := by
  have h1 := Own.storedAt codecS h (j := 0) (y := spoilt) (u := .string spoilt) hx (by decide) rfl
  rw [Nat.mul_one, Nat.add_zero] at h1
  exact ⟨ms.set k spoilt, by rw [List.length_set, hl], h1.1⟩
end Go.Proofs.Ythgkgjcnmahacaa
end

section
/- The law that what is handed in stays, walked. -/
set_option linter.unusedSimpArgs false
set_option linter.unusedVariables false
namespace Go.Proofs.Ythgkgjcnmahacaa
open Go.RowKit Go.OpenShut

def OpAt (W : World) (g : Nat) (r : RO) : Prop := W.heap[g]? = some (.cells #[.int .i64 r.k, .string r.id, .int .i64 r.v.k, .int .i64 r.v.n, .string r.v.s, .slice r.v.pl r.v.nl r.v.cl, .slice r.v.pm r.v.nm r.v.cm] 37 (0, 0))
theorem OpAt.cell {W : World} {g : Nat} {r : RO} (h : OpAt W g r) (j : Nat) {u : Value} (hu : (encOp r)[j]? = some u) : W.cell? ⟨g, j, none⟩ = some u := by
  unfold OpAt at h
  rw [cell_of_row W g j _ _ _ h, ← Array.getElem?_toList]
  exact hu
theorem OpAt.lt {W : World} {g : Nat} {r : RO} (h : OpAt W g r) : g < W.heap.size := (Array.getElem?_eq_some_iff.1 h).1
/-- The law's arguments in boxes. -/
structure PreS (w W : World) (r : RB) (o : RO) : Prop where
  box : BoxAt W w.heap.size r
  op : OpAt W (w.heap.size + 1) o
  below : Below w.heap.size w W
theorem PreS.go {w W W' : World} {r : RB} {o : RO} (h : PreS w W r o) (hb : Below W.heap.size W W') : PreS w W' r o := ⟨h.box.under hb h.box.lt, (hb.block _ h.op.lt).trans h.op, h.below.trans (hb.mono h.below.size)⟩
theorem PreS.row {w W W' : World} {r : RB} {o : RO} {row : Option Nat} (h : PreS w W r o) (hg : W.grownBy W' row) (hr : ∀ k, row = some k → w.heap.size + 1 < k) : PreS w W' r o := by
  have hz := h.op.lt
  have hb : ∀ k, k ≤ w.heap.size + 1 → W'.heap[k]? = W.heap[k]? := fun k hk => hg.block k (by omega) (fun e => by have := hr k e.symm; omega)
  exact ⟨(hb _ (by omega)).trans h.box, (hb _ (Nat.le_refl _)).trans h.op, h.below.grown hg h.below.size (fun a e => by have := hr a e; omega)⟩
theorem PreS.start (w : World) (r : RB) (o : RO) : PreS w ((w.alloc r.obj).alloc o.obj) r o := ⟨heap_alloc_lt (by simp) (heap_alloc_at rfl), heap_alloc_at (by simp), below2 _ _ _⟩

set_option maxRecDepth 200000 in
set_option maxHeartbeats 16000000 in
theorem storeKeeps_any (w : World) (b : BoxD) (r : RB) (o : RO) (t : JV) (hb : BoxOf w w.heap.size b r) (ob : b.Ok) (ht : TreeOf w w.heap.size t o.v) (ot : OpOk o t) :
    Calls Try.prog 4 #[r.val, o.val] w fun e w' => e = .returned (.bool true) ∧ Below w.heap.size w w' := by
  have hS := PreS.start w r o
  have HBX := Lib.hid hb
  have HOB := Lib.hid ob
  have HT := Lib.hid ht
  have HOT := Lib.hid ot
  clear hb ob ht ot
  go_enter Try.func4, Try.ntmps4
  go_upto_region 1 with fail
  obtain ⟨W0, hW0⟩ : ∃ W0, ((w.alloc r.obj).alloc o.obj) = W0 := ⟨_, rfl⟩
  rw [hW0] at hS
  dsimp only [RB.obj, RO.obj] at hW0
  rw [hW0]
  clear hW0
  have HS := Lib.hid hS
  clear hS
  go_wp2_with fail
  refine (awake18_any _).mono ?_
  rintro e w1 ⟨rfl, hb1⟩
  have HS1 := Lib.hid (HS.out.go hb1)
  clear HS hb1
  have q1 := HS1.out.box.lt
  have c0 := HS1.out.box.cell 0 rfl
  have c1 := HS1.out.box.cell 1 rfl
  have c2 := HS1.out.box.cell 2 rfl
  have c3 := HS1.out.box.cell 3 rfl
  have c4 := HS1.out.box.cell 4 rfl
  go_wp2_with fail
  refine (few18_any b r w1 (HBX.out.under HS1.out.below HS1.out.below.size) HOB.out).mono ?_
  rintro e w2 ⟨y, rfl, HF, hb2⟩
  have HS2 := Lib.hid (HS1.out.go hb2)
  clear HS1 hb2 c0 c1 c2 c3 c4 q1
  cases y with
  | false =>
    go_wp2_with fail
    refine (awake18_any _).mono ?_
    rintro e w3 ⟨rfl, hb3⟩
    go_wp2_with fail
    go_ret
    exact ⟨rfl, (HS2.out.go hb3).below⟩
  | true =>
  have q1 := HS2.out.box.lt
  have c0 := HS2.out.box.cell 0 rfl
  have c1 := HS2.out.box.cell 1 rfl
  have c2 := HS2.out.box.cell 2 rfl
  have c3 := HS2.out.box.cell 3 rfl
  have c4 := HS2.out.box.cell 4 rfl
  go_wp2_with fail
  refine (rightS_any b r w2 (HBX.out.under HS2.out.below HS2.out.below.size) HOB.out).mono ?_
  rintro e w3 ⟨y, rfl, hright, hb3⟩
  have HS3 := Lib.hid (HS2.out.go hb3)
  clear HS2 hb3 c0 c1 c2 c3 c4 q1
  cases y with
  | false =>
    clear hright
    go_wp2_with fail
    refine (awake18_any _).mono ?_
    rintro e w4 ⟨rfl, hb4⟩
    go_wp2_with fail
    go_ret
    exact ⟨rfl, (HS3.out.go hb4).below⟩
  | true =>
  have HR : Hid (RightBx b) := hright.1 rfl
  clear hright
  have q1 := HS3.out.op.lt
  have c0 := HS3.out.op.cell 0 rfl
  have c1 := HS3.out.op.cell 1 rfl
  have c2 := HS3.out.op.cell 2 rfl
  have c3 := HS3.out.op.cell 3 rfl
  have c4 := HS3.out.op.cell 4 rfl
  have c5 := HS3.out.op.cell 5 rfl
  have c6 := HS3.out.op.cell 6 rfl
  go_wp2_with fail
  refine (few7_any t o.v 200 w3 (HT.out.under HS3.out.below HS3.out.below.size) HOT.out.2).mono ?_
  rintro e w4 ⟨y, rfl, _, hb4⟩
  have HS4 := Lib.hid (HS3.out.go hb4)
  clear HS3 hb4 c0 c1 c2 c3 c4 c5 c6 q1
  cases y with
  | false =>
    go_wp2_with fail
    refine (awake18_any _).mono ?_
    rintro e w5 ⟨rfl, hb5⟩
    go_wp2_with fail
    go_ret
    exact ⟨rfl, (HS4.out.go hb5).below⟩
  | true =>
  have q1 := HS4.out.box.lt
  have c0 := HS4.out.box.cell 0 rfl
  have c1 := HS4.out.box.cell 1 rfl
  have c2 := HS4.out.box.cell 2 rfl
  have c3 := HS4.out.box.cell 3 rfl
  have c4 := HS4.out.box.cell 4 rfl
  go_upto_region 4 with fail
  have hS5 := HS4.out.go (W' := w4.alloc (.cells #[.slice r.po r.no r.co, .slice r.pt r.nt r.ct, .int .i64 r.sq, .int .i64 r.fl, .int .i64 r.kp] 35)) ((Below.refl _ _).alloc (Nat.le_refl _) _)
  have hA5 : BoxAt (w4.alloc (.cells #[.slice r.po r.no r.co, .slice r.pt r.nt r.ct, .int .i64 r.sq, .int .i64 r.fl, .int .i64 r.kp] 35)) w4.heap.size r := heap_alloc_at rfl
  have hz5 : w4.heap.size + 1 = (w4.alloc (.cells #[.slice r.po r.no r.co, .slice r.pt r.nt r.ct, .int .i64 r.sq, .int .i64 r.fl, .int .i64 r.kp] 35)).heap.size := by simp
  obtain ⟨W5, hW5⟩ : ∃ W5, w4.alloc (.cells #[.slice r.po r.no r.co, .slice r.pt r.nt r.ct, .int .i64 r.sq, .int .i64 r.fl, .int .i64 r.kp] 35) = W5 := ⟨_, rfl⟩
  obtain ⟨g5, hg5⟩ : ∃ g, w4.heap.size = g := ⟨_, rfl⟩
  have hlt5 : w.heap.size + 1 < w4.heap.size := HS4.out.op.lt
  rw [hW5, hg5] at hA5 hz5
  rw [hW5] at hS5
  rw [hg5] at hlt5
  rw [hW5, hg5]
  clear hW5 hg5 HS4 c0 c1 c2 c3 c4 q1
  obtain ⟨ros, hro, hms⟩ := HBX.out.objs
  have hrn := rd_nlen hro
  have hol := HOB.out.objs
  have hml := hms.len
  have hO : Own (W5.alloc (.cells #[] 46)) (g5 + 1) 46 encM 6 (.slice (some ⟨W5.heap.size, 0, none⟩) 0 0) ([] : List RM) := Own.made (by omega)
  have hB5 : Below w.heap.size w (W5.alloc (.cells #[] 46)) := hS5.below.alloc hS5.below.size _
  have hRO : Rd (W5.alloc (.cells #[] 46)) w.heap.size encM 6 (.slice r.po r.no r.co) ros := hro.below hB5 (Nat.le_refl _)
  have hA5' : BoxAt (W5.alloc (.cells #[] 46)) g5 r := heap_alloc_lt hA5.lt hA5
  have hS5' := hS5.go (W' := W5.alloc (.cells #[] 46)) ((Below.refl _ _).alloc (Nat.le_refl _) _)
  have q0 := hS5.box.lt
  have c0 := hS5.box.cell 0 rfl
  have c1 := hS5.box.cell 1 rfl
  have c2 := hS5.box.cell 2 rfl
  have c3 := hS5.box.cell 3 rfl
  have c4 := hS5.box.cell 4 rfl
  have HO := Lib.hid hO
  have HRO := Lib.hid hRO
  have HA5 := Lib.hid hA5'
  have HS5 := Lib.hid hS5'
  have HMS := Lib.hid hms
  have HL : Hid (ros.length = r.no ∧ ros.length ≤ 1466015503658) := by unfold Hid; omega
  have HZ5 : Hid (g5 + 1 = W5.heap.size) := hz5
  have HLT : Hid (w.heap.size + 1 < g5) := hlt5
  have k6 : Hid (∀ k, (Value.slice (some ⟨W5.heap.size, 0, none⟩) 0 0).ownBlock = some k → k = W5.heap.size) := by intro k e; simp [Value.ownBlock] at e; omega
  have k1 : Hid (([] : List RM).length + ros.length ≤ maxLen) := by unfold Hid maxLen; simp; omega
  have k2 : Hid ((([] : List RM).length + ros.length) * 96 ≤ 140737488355328) := by unfold Hid; simp; omega
  have k3 : Hid (g5 + 1 ≤ (W5.alloc (.cells #[] 46)).heap.size) := by unfold Hid; simp; omega
  have k4 : Hid ((Value.slice (some ⟨W5.heap.size, 0, none⟩) 0 0).ownBlock ≠ some g5) := by unfold Hid; simp [Value.ownBlock]; omega
  have k5 : Hid ((([] : List RM) ++ ros).length = r.no) := by unfold Hid; simp; omega
  clear hro hms hrn hol hml hO hB5 hRO hA5' hS5' hA5 hS5 hz5
  go_upto_region 5 with (at_builtin; refine wpList_append_rd slO codecM _ rfl _ _ rfl rfl rfl HO.out HRO.out k1.out k2.out k3.out ?_; intro v1 w5 ho1 hg1 hat1; obtain ⟨p1, cc1, hv1, hcl1, hcm1⟩ := ho1.len; rw [k5.out] at hv1; subst hv1; (have hA6 := HA5.out.keptR hg1 k4.out); (have d0 := hA6.cell 0 rfl); (have x0 := hA6.frozen 0))
  have hg6 := grownBy_set w5 g5 0 (.slice p1 r.no cc1)
  have hA7 := hA6.set0 p1 r.no cc1
  have hb1 : ∀ k, (Value.slice p1 r.no cc1).ownBlock = some k → g5 < k := fun k e => by have := (ho1.lt k e).1; omega
  have ho7 := ho1.kept hg6 (.inr (fun e => by have := hb1 _ e; omega))
  have hbel : Below W5.heap.size (W5.alloc (.cells #[] 46)) w5 := (Below.refl _ _).grown hg1 (by simp) (fun k e => by have := k6.out k e; omega)
  have hS6 := HS5.out.row hg1 (fun k e => by have := k6.out k e; have := HZ5.out; have := HLT.out; omega)
  have hS7 := hS6.row hg6 (fun k e => by cases e; exact HLT.out)
  obtain ⟨W7, hW7⟩ : ∃ W7, w5.setCell ⟨g5, 0, none⟩ (.slice p1 r.no cc1) = W7 := ⟨_, rfl⟩
  have hz7 : W7.heap.size = w5.heap.size := by rw [← hW7]; simp
  rw [hW7] at hA7 ho7 hS7 ⊢
  have hrt := (rdE_iff.1 HBX.out.trail).2
  have hrok := (rdE_iff.1 HBX.out.trail).1
  have hnt := HBX.out.trail.nlen
  have hO : Own (W7.alloc (.cells #[] 48)) (g5 + 1) 48 encE 3 (.slice (some ⟨W7.heap.size, 0, none⟩) 0 0) ([] : List En) := Own.made (by have := hA7.lt; omega)
  have hB7 : Below w.heap.size w (W7.alloc (.cells #[] 48)) := hS7.below.alloc hS7.below.size _
  have hRT : Rd (W7.alloc (.cells #[] 48)) w.heap.size encE 3 (.slice r.pt r.nt r.ct) b.trail := hrt.below hB7 (Nat.le_refl _)
  have hA7' := (show BoxAt (W7.alloc (.cells #[] 48)) g5 _ from heap_alloc_lt hA7.lt hA7)
  have hS7' := hS7.go (W' := W7.alloc (.cells #[] 48)) ((Below.refl _ _).alloc (Nat.le_refl _) _)
  have ho7' := ho7.alloc (.cells #[] 48)
  have hlt7 := hA7.lt
  have j1 : Hid (([] : List En).length + b.trail.length ≤ maxLen) := by have := HOB.out.trail; unfold Hid maxLen; simp; omega
  have j2 : Hid ((([] : List En).length + b.trail.length) * 32 ≤ 140737488355328) := by have := HOB.out.trail; unfold Hid; simp; omega
  have j3 : Hid (g5 + 1 ≤ (W7.alloc (.cells #[] 48)).heap.size) := by unfold Hid; simp; omega
  have j4 : Hid ((Value.slice (some ⟨W7.heap.size, 0, none⟩) 0 0).ownBlock ≠ some g5) := by unfold Hid; simp [Value.ownBlock]; omega
  have j5 : Hid ((([] : List En) ++ b.trail).length = r.nt) := by unfold Hid; simp; omega
  have j6 : Hid (∀ k, (Value.slice (some ⟨W7.heap.size, 0, none⟩) 0 0).ownBlock = some k → k = W7.heap.size) := by intro k e; simp [Value.ownBlock] at e; omega
  have hb1' : Hid (∀ k, (Value.slice p1 r.no cc1).ownBlock = some k → g5 < k ∧ k < W7.heap.size) := fun k e => ⟨hb1 k e, (ho7.lt k e).2⟩
  have q7 := hS7.box.lt
  clear c0 c1 c2 c3 c4 d0 x0 q0
  have c0 := hS7.box.cell 0 rfl
  have c1 := hS7.box.cell 1 rfl
  have c2 := hS7.box.cell 2 rfl
  have c3 := hS7.box.cell 3 rfl
  have c4 := hS7.box.cell 4 rfl
  have HO7 := Lib.hid hO
  have HRT := Lib.hid hRT
  have HA7 := Lib.hid hA7'
  have HS7 := Lib.hid hS7'
  have HOW := Lib.hid ho7'
  have HOKT := Lib.hid hrok
  have HLT7 : Hid (g5 < W7.heap.size) := hlt7
  clear hrt hrok hnt hO hB7 hRT hA7' hS7' hA7 hS7 hlt7 ho7 ho7' hb1 hbel hS6 hg6 hA6 hg1 ho1 hat1 hz7 hW7 k1 k2 k3 k4 k5 k6 HO HRO HA5 HS5
  go_upto_region 6 with (at_builtin; refine wpList_append_rd slEn codecE _ rfl _ _ rfl rfl rfl HO7.out HRT.out j1.out j2.out j3.out ?_; intro v2 w8 ho2 hg2 hat2; obtain ⟨p2, cc2, hv2, hcl2, hcm2⟩ := ho2.len; rw [j5.out] at hv2; subst hv2; (have hA8 := HA7.out.keptR hg2 j4.out); (have d1 := hA8.cell 1 rfl); (have x1 := hA8.frozen 1))
  have hg9 := grownBy_set w8 g5 1 (.slice p2 r.nt cc2)
  have hA9 : BoxAt (w8.setCell ⟨g5, 1, none⟩ (.slice p2 r.nt cc2)) g5 ⟨p1, r.no, cc1, p2, r.nt, cc2, r.sq, r.fl, r.kp⟩ := by
    have h := hA8
    unfold BoxAt at h ⊢
    simp [World.setCell, Array.getElem?_modify, h]
  have hb2 : ∀ k, (Value.slice p2 r.nt cc2).ownBlock = some k → g5 < k ∧ k < w8.heap.size := fun k e => by have := ho2.lt k e; omega
  have hne2 : ∀ k, (Value.slice p1 r.no cc1).ownBlock = some k → g5 < k ∧ k < w8.heap.size := fun k e => by have := hb1'.out k e; have := hg2.size; simp at this; omega
  have hobj9 := (HOW.out.keptR hg2 (fun k e e2 => by have := hb1'.out k e; have := j6.out k e2; omega)).kept hg9 (.inr (fun e => by have := (hne2 _ e).1; omega))
  have hent9 := ho2.kept hg9 (.inr (fun e => by have := (hb2 _ e).1; omega))
  have hS8 := HS7.out.row hg2 (fun k e => by have := j6.out k e; have := HLT7.out; have := HLT.out; omega)
  have hS9 := hS8.row hg9 (fun k e => by cases e; exact HLT.out)
  obtain ⟨W9, hW9⟩ : ∃ W9, w8.setCell ⟨g5, 1, none⟩ (.slice p2 r.nt cc2) = W9 := ⟨_, rfl⟩
  have hz9 : W9.heap.size = w8.heap.size := by rw [← hW9]; simp
  rw [hW9] at hA9 hobj9 hent9 hS9 ⊢
  rw [List.nil_append] at hobj9 hent9
  have hN9 : NewBox W9 w.heap.size w.heap.size b ⟨p1, r.no, cc1, p2, r.nt, cc2, r.sq, r.fl, r.kp⟩ :=
    ⟨⟨ros, hobj9.mono (by have := HLT.out; omega), HMS.out.under hS9.below (Nat.le_refl _)⟩, hent9.mono (by have := HLT.out; omega), HOKT.out, HBX.out.seq, HBX.out.floor, HBX.out.keep⟩
  obtain ⟨A, hA⟩ : ∃ A, W9.heap.size = A := ⟨_, rfl⟩
  have hw1 : ∀ k, (Value.slice p1 r.no cc1).ownBlock = some k → g5 < k ∧ k < A := fun k e => by have := hne2 k e; omega
  have hw2 : ∀ k, (Value.slice p2 r.nt cc2).ownBlock = some k → g5 < k ∧ k < A := fun k e => by have := hb2 k e; omega
  have HA9 := Lib.hid hA9
  have HS9 := Lib.hid hS9
  have HN9 := Lib.hid hN9
  have HW1 := Lib.hid hw1
  have HW2 := Lib.hid hw2
  have HAS : Hid (W9.heap.size = A ∧ g5 < A) := ⟨hA, by rw [← hA]; exact hA9.lt⟩
  clear hA9 hS9 hN9 hw1 hw2 hA hobj9 hent9 hS8 hb2 hne2 hg9 hA8 hg2 ho2 hat2 hz9 hW9 d1 x1 c0 c1 c2 c3 c4 q7 j1 j2 j3 j4 j5 j6 HO7 HRT HA7 HS7 HOW hb1' HLT7 HZ5 HL HMS
  have hPut := put_any b r o.id t o.v W9 (HBX.out.under HS9.out.below HS9.out.below.size) HR.out.1 HOB.out (HT.out.under HS9.out.below HS9.out.below.size) HOT.out.2 HOT.out.1
  have q9 := HS9.out.box.lt
  have q9' := HS9.out.op.lt
  have c0 := HS9.out.box.cell 0 rfl
  have c1 := HS9.out.box.cell 1 rfl
  have c2 := HS9.out.box.cell 2 rfl
  have c3 := HS9.out.box.cell 3 rfl
  have c4 := HS9.out.box.cell 4 rfl
  have d0 := HS9.out.op.cell 0 rfl
  have d1 := HS9.out.op.cell 1 rfl
  have d2 := HS9.out.op.cell 2 rfl
  have d3 := HS9.out.op.cell 3 rfl
  have d4 := HS9.out.op.cell 4 rfl
  have d5 := HS9.out.op.cell 5 rfl
  have d6 := HS9.out.op.cell 6 rfl
  have HPut := Lib.hid hPut
  clear hPut
  go_upto_region 7 with (go_at_call 22; refine HPut.out.mono ?_; rintro e w10 ⟨rx, rfl, hNx, hbx⟩)
  generalize (putB b o.id t).1 = bx at hNx
  generalize (putB b o.id t).2 = ex
  have hSx := hNx.some
  have hbx1 := hbx.alloc hbx.size (.cells #[.slice rx.po rx.no rx.co, .slice rx.pt rx.nt rx.ct, .int .i64 rx.sq, .int .i64 rx.fl, .int .i64 rx.kp] 35)
  have hba : Below w10.heap.size w10 (w10.alloc (.cells #[.slice rx.po rx.no rx.co, .slice rx.pt rx.nt rx.ct, .int .i64 rx.sq, .int .i64 rx.fl, .int .i64 rx.kp] 35)) := (Below.refl _ _).alloc (Nat.le_refl _) _
  have hA10 : BoxAt (w10.alloc (.cells #[.slice rx.po rx.no rx.co, .slice rx.pt rx.nt rx.ct, .int .i64 rx.sq, .int .i64 rx.fl, .int .i64 rx.kp] 35)) w10.heap.size rx := heap_alloc_at rfl
  have hS10 := HS9.out.go hbx1
  have hA5 := HA9.out.under hbx1 HA9.out.lt
  have hN10 := HN9.out.below hbx1 (by have := HS9.out.below.size; omega)
  have hx1 := hSx.1.below hba
  have hx2 := hSx.2.1.below hba
  have hx3 := hSx.2.2.1
  have hx4 := hSx.2.2.2
  have hzx := hbx.size
  obtain ⟨W10, hW10⟩ : ∃ W, w10.alloc (.cells #[.slice rx.po rx.no rx.co, .slice rx.pt rx.nt rx.ct, .int .i64 rx.sq, .int .i64 rx.fl, .int .i64 rx.kp] 35) = W := ⟨_, rfl⟩
  obtain ⟨g6, hg6⟩ : ∃ g, w10.heap.size = g := ⟨_, rfl⟩
  rw [hW10] at hA10 hS10 hA5 hN10 hx1 hx2 ⊢
  rw [hg6] at hA10 hx3 hx4 hzx ⊢
  rw [HAS.out.1] at hx1 hx2 hx3 hx4 hzx
  have HX1 := Lib.hid hx1
  have HX2 := Lib.hid hx2
  have HX3 := Lib.hid hx3
  have HX4 := Lib.hid hx4
  have HA5 := Lib.hid hA5
  have HN10 := Lib.hid hN10
  have HA10 := Lib.hid hA10
  have HS10 := Lib.hid hS10
  have HZX : Hid (A ≤ g6 ∧ g6 < W10.heap.size) := ⟨hzx, HA10.out.lt⟩
  clear hx1 hx2 hx3 hx4 hA5 hN10 hA10 hS10 hzx hW10 hg6 hba hbx1 hSx hNx hbx HPut HN9 HA9 HS9 q9 q9' c0 c1 c2 c3 c4 d0 d1 d2 d3 d4 d5 d6
  have hDrop := drop_any b r o.id W10 (HBX.out.under HS10.out.below HS10.out.below.size) HR.out.1 HOB.out HOT.out.1
  have q9 := HS10.out.box.lt
  have q9' := HS10.out.op.lt
  have c0 := HS10.out.box.cell 0 rfl
  have c1 := HS10.out.box.cell 1 rfl
  have c2 := HS10.out.box.cell 2 rfl
  have c3 := HS10.out.box.cell 3 rfl
  have c4 := HS10.out.box.cell 4 rfl
  have d0 := HS10.out.op.cell 0 rfl
  have d1 := HS10.out.op.cell 1 rfl
  have d2 := HS10.out.op.cell 2 rfl
  have d3 := HS10.out.op.cell 3 rfl
  have d4 := HS10.out.op.cell 4 rfl
  have d5 := HS10.out.op.cell 5 rfl
  have d6 := HS10.out.op.cell 6 rfl
  have HDrop := Lib.hid hDrop
  clear hDrop
  go_upto_region 8 with (go_at_call 23; refine HDrop.out.mono ?_; rintro e w11 ⟨ry, rfl, hNy, hby⟩)
  generalize (dropB b o.id).1 = by_ at hNy
  generalize (dropB b o.id).2 = ey
  have hSy := hNy.some
  have hby1 := hby.alloc hby.size (.cells #[.slice ry.po ry.no ry.co, .slice ry.pt ry.nt ry.ct, .int .i64 ry.sq, .int .i64 ry.fl, .int .i64 ry.kp] 35)
  have hba : Below w11.heap.size w11 (w11.alloc (.cells #[.slice ry.po ry.no ry.co, .slice ry.pt ry.nt ry.ct, .int .i64 ry.sq, .int .i64 ry.fl, .int .i64 ry.kp] 35)) := (Below.refl _ _).alloc (Nat.le_refl _) _
  have hA11 : BoxAt (w11.alloc (.cells #[.slice ry.po ry.no ry.co, .slice ry.pt ry.nt ry.ct, .int .i64 ry.sq, .int .i64 ry.fl, .int .i64 ry.kp] 35)) w11.heap.size ry := heap_alloc_at rfl
  have hS11 := HS10.out.go hby1
  have hA5' := HA5.out.under hby1 HA5.out.lt
  have hA6' := HA10.out.under hby1 HA10.out.lt
  have hN11 := HN10.out.below hby1 (by have := HS10.out.below.size; omega)
  have hx1' := HX1.out.below hby1
  have hx2' := HX2.out.below hby1
  have hy1 := hSy.1.below hba
  have hy2 := hSy.2.1.below hba
  have hy3 := hSy.2.2.1
  have hy4 := hSy.2.2.2
  have hzy := hby.size
  obtain ⟨W11, hW11⟩ : ∃ W, w11.alloc (.cells #[.slice ry.po ry.no ry.co, .slice ry.pt ry.nt ry.ct, .int .i64 ry.sq, .int .i64 ry.fl, .int .i64 ry.kp] 35) = W := ⟨_, rfl⟩
  obtain ⟨g8, hg8⟩ : ∃ g, w11.heap.size = g := ⟨_, rfl⟩
  obtain ⟨B, hB⟩ : ∃ B, W10.heap.size = B := ⟨_, rfl⟩
  rw [hW11] at hA11 hS11 hA5' hA6' hN11 hx1' hx2' hy1 hy2 ⊢
  rw [hg8] at hA11 hy3 hy4 hzy ⊢
  rw [hB] at hy1 hy2 hy3 hy4 hzy HZX
  have HY1 := Lib.hid hy1
  have HY2 := Lib.hid hy2
  have HY3 := Lib.hid hy3
  have HY4 := Lib.hid hy4
  have HX1 := Lib.hid hx1'
  have HX2 := Lib.hid hx2'
  have HA5 := Lib.hid hA5'
  have HA6 := Lib.hid hA6'
  have HN11 := Lib.hid hN11
  have HA11 := Lib.hid hA11
  have HS11 := Lib.hid hS11
  have HZY : Hid (B ≤ g8 ∧ g8 < W11.heap.size) := ⟨hzy, HA11.out.lt⟩
  clear hy1 hy2 hy3 hy4 hA5' hA6' hN11 hA11 hS11 hzy hW11 hg8 hba hby1 hSy hNy hby HDrop HN10 HA10 HS10 hB hx1' hx2' q9 q9' c0 c1 c2 c3 c4 d0 d1 d2 d3 d4 d5 d6
  have hIds := ids_any b r W11 (HBX.out.under HS11.out.below HS11.out.below.size) HOB.out
  have q9 := HS11.out.box.lt
  have c0 := HS11.out.box.cell 0 rfl
  have c1 := HS11.out.box.cell 1 rfl
  have c2 := HS11.out.box.cell 2 rfl
  have c3 := HS11.out.box.cell 3 rfl
  have c4 := HS11.out.box.cell 4 rfl
  have HIds := Lib.hid hIds
  clear hIds
  go_upto_region 9 with (go_at_call 24; refine HIds.out.mono ?_; rintro e w12 ⟨u, rfl, hou, hbu⟩; obtain ⟨pl, cl, hvl, _, _⟩ := hou.len; rw [List.length_map] at hvl; subst hvl)
  have hK : KeepF w w12 b r ⟨p1, r.no, cc1, p2, r.nt, cc2, r.sq, r.fl, r.kp⟩ rx ry pl b.objs.length cl g5 g6 g8 A B W11.heap.size :=
    ⟨HS11.out.below.trans (hbu.mono HS11.out.below.size), HLT.out, HAS.out.2, HZX.out.1, HZX.out.2, HZY.out.1, HZY.out.2, hbu.size, (HS11.out.go hbu).box, HA5.out.under hbu HA5.out.lt, HA6.out.under hbu HA6.out.lt, HA11.out.under hbu HA11.out.lt, HN11.out.below hbu HS11.out.below.size, HW1.out, HW2.out,
      HX1.out.below hbu, HX3.out, HX2.out.below hbu, HX4.out, HY1.out.below hbu, HY3.out, HY2.out.below hbu, HY4.out, ⟨_, by simp, hou⟩, fun k e => (hou.lt k e).1⟩
  obtain ⟨nl, hnl⟩ : ∃ n, b.objs.length = n := ⟨_, rfl⟩
  have hnl2 : nl ≤ 1466015503658 := by have := HOB.out.objs; omega
  obtain ⟨C, hC⟩ : ∃ C, W11.heap.size = C := ⟨_, rfl⟩
  rw [hC] at hK
  rw [hnl] at hK ⊢
  have HK := Lib.hid hK
  clear hK HIds HS11 HA5 HA6 HN11 HA11 HY1 HY2 HY3 HY4 HX1 HX2 HX3 HX4 HW1 HW2 HZX HZY hbu hou hC hnl q9 c0 c1 c2 c3 c4 HAS HLT HOT HT HOKT HR
  -- LOOPS
  go_upto_block 0 with fail
  go_cut [11] from 64 to 79 (fun v wa => Hid (KeepF w wa b r ⟨p1, r.no, cc1, p2, r.nt, cc2, r.sq, r.fl, r.kp⟩ rx ry pl nl cl g5 g6 g8 A B C))
  case first =>
    go_wp2_with fail
    go_loopw [11] (fun i wa => ∃ k : Nat, k ≤ rx.no ∧ i = .int .i64 k ∧ Hid (KeepF w wa b r ⟨p1, r.no, cc1, p2, r.nt, cc2, r.sq, r.fl, r.kp⟩ rx ry pl nl cl g5 g6 g8 A B C)) (fun i _ => rx.no - (intOf i).toNat)
    case atStart => exact ⟨0, Nat.zero_le _, rfl, HK⟩
    case round =>
      obtain ⟨k, hk, rfl, hkf⟩ := hrel
      clear HK
      have c0 := hkf.out.b6.cell 0 (u := .slice rx.po rx.no rx.co) rfl
      have bl := hkf.out.b6.lt
      have hnm := hkf.out.xo.len
      unfold maxLen at hnm
      have hk0 : (0 : Int) ≤ (k : Int) := Int.natCast_nonneg _
      by_cases hlt : k < rx.no
      · have hk1 : (k : Int) < (rx.no : Int) := by omega
        by_cases hex : ex = 0
        · have hex1 : (ex == 0) = true := by simp [hex]
          have hex2 : decide (ex = 0) = true := by simp [hex]
          obtain ⟨ms, hml, hown⟩ := hkf.out.xo
          obtain ⟨x, hx⟩ : ∃ x, ms[k]? = some x := ⟨_, List.getElem?_eq_getElem (by omega)⟩
          obtain ⟨g, hp, hng, hbg, hgl, hcl, hfr⟩ := hown.at codecM hx
          have f0 := hcl 0 _ rfl
          rw [Nat.add_zero] at f0
          have x0 := hfr (k * 6)
          rw [hp] at c0 hown
          have HX : Hid (ms[k]? = some x) := hx
          have HOW := Lib.hid hown
          have HML := Lib.hid hml
          have HP := Lib.hid hp
          clear hx hown hcl hfr hng hml hp hex
          go_wp2_with fail
          go_roundw
          case rel => exact ⟨k + 1, by omega, by go_num, hkf.out.spoilXO (by rw [HP.out]; exact grownBy_set _ _ _ _) (by rw [HP.out]; exact spoilO HOW.out HX.out HML.out)⟩
          case measure => simp [intOf]; omega
        · have hex1 : (ex == 0) = false := by simp [hex]
          have hex2 : decide (ex = 0) = false := by simp [hex]
          clear hex
          go_wp2_with fail
          go_meet
          exact hkf
      · have hk2 : ¬ ((k : Int) < (rx.no : Int)) := by omega
        go_wp2_with fail
        go_meet
        exact hkf
  case rest =>
  have HK := hcut
  go_upto_block 2 with fail
  go_cut [12] from 80 to 91 (fun v wb => Hid (KeepF w wb b r ⟨p1, r.no, cc1, p2, r.nt, cc2, r.sq, r.fl, r.kp⟩ rx ry pl nl cl g5 g6 g8 A B C))
  case first =>
    go_wp2_with fail
    go_loopw [12] (fun i wb => ∃ k : Nat, k ≤ rx.nt ∧ i = .int .i64 k ∧ Hid (KeepF w wb b r ⟨p1, r.no, cc1, p2, r.nt, cc2, r.sq, r.fl, r.kp⟩ rx ry pl nl cl g5 g6 g8 A B C)) (fun i _ => rx.nt - (intOf i).toNat)
    case atStart => exact ⟨0, Nat.zero_le _, rfl, HK⟩
    case round =>
      obtain ⟨k, hk, rfl, hkf⟩ := hrel
      clear HK
      have c0 := hkf.out.b6.cell 1 (u := .slice rx.pt rx.nt rx.ct) rfl
      have bl := hkf.out.b6.lt
      have hnm := hkf.out.xt.len
      unfold maxLen at hnm
      have hk0 : (0 : Int) ≤ (k : Int) := Int.natCast_nonneg _
      by_cases hlt : k < rx.nt
      · have hk1 : (k : Int) < (rx.nt : Int) := by omega
        obtain ⟨ms, hml, hown⟩ := hkf.out.xt
        obtain ⟨x, hx⟩ : ∃ x, ms[k]? = some x := ⟨_, List.getElem?_eq_getElem (by omega)⟩
        obtain ⟨g, hp, hng, hbg, hgl, hcl, hfr⟩ := hown.at codecE hx
        have f0 := hcl 1 _ rfl
        have x0 := hfr (k * 3 + 1)
        rw [hp] at c0 hown
        have HX : Hid (ms[k]? = some x) := hx
        have HOW := Lib.hid hown
        have HML := Lib.hid hml
        have HP := Lib.hid hp
        clear hx hown hcl hfr hng hml hp
        go_wp2_with fail
        go_roundw
        case rel => exact ⟨k + 1, by omega, by go_num, hkf.out.spoilXT (by rw [HP.out]; exact grownBy_set _ _ _ _) (by rw [HP.out]; exact spoilEn HOW.out HX.out HML.out)⟩
        case measure => simp [intOf]; omega
      · have hk2 : ¬ ((k : Int) < (rx.nt : Int)) := by omega
        go_wp2_with fail
        go_meet
        exact hkf
  case rest =>
  have HK := hcut
  go_upto_block 4 with fail
  go_cut [13] from 92 to 107 (fun v wc => Hid (KeepF w wc b r ⟨p1, r.no, cc1, p2, r.nt, cc2, r.sq, r.fl, r.kp⟩ rx ry pl nl cl g5 g6 g8 A B C))
  case first =>
    go_wp2_with fail
    go_loopw [13] (fun i wc => ∃ k : Nat, k ≤ ry.no ∧ i = .int .i64 k ∧ Hid (KeepF w wc b r ⟨p1, r.no, cc1, p2, r.nt, cc2, r.sq, r.fl, r.kp⟩ rx ry pl nl cl g5 g6 g8 A B C)) (fun i _ => ry.no - (intOf i).toNat)
    case atStart => exact ⟨0, Nat.zero_le _, rfl, HK⟩
    case round =>
      obtain ⟨k, hk, rfl, hkf⟩ := hrel
      clear HK
      have c0 := hkf.out.b8.cell 0 (u := .slice ry.po ry.no ry.co) rfl
      have bl := hkf.out.b8.lt
      have hnm := hkf.out.yo.len
      unfold maxLen at hnm
      have hk0 : (0 : Int) ≤ (k : Int) := Int.natCast_nonneg _
      by_cases hlt : k < ry.no
      · have hk1 : (k : Int) < (ry.no : Int) := by omega
        by_cases hex : ey = 0
        · have hex1 : (ey == 0) = true := by simp [hex]
          have hex2 : decide (ey = 0) = true := by simp [hex]
          obtain ⟨ms, hml, hown⟩ := hkf.out.yo
          obtain ⟨x, hx⟩ : ∃ x, ms[k]? = some x := ⟨_, List.getElem?_eq_getElem (by omega)⟩
          obtain ⟨g, hp, hng, hbg, hgl, hcl, hfr⟩ := hown.at codecM hx
          have f0 := hcl 0 _ rfl
          rw [Nat.add_zero] at f0
          have x0 := hfr (k * 6)
          rw [hp] at c0 hown
          have HX : Hid (ms[k]? = some x) := hx
          have HOW := Lib.hid hown
          have HML := Lib.hid hml
          have HP := Lib.hid hp
          clear hx hown hcl hfr hng hml hp hex
          go_wp2_with fail
          go_roundw
          case rel => exact ⟨k + 1, by omega, by go_num, hkf.out.spoilYO (by rw [HP.out]; exact grownBy_set _ _ _ _) (by rw [HP.out]; exact spoilO HOW.out HX.out HML.out)⟩
          case measure => simp [intOf]; omega
        · have hex1 : (ey == 0) = false := by simp [hex]
          have hex2 : decide (ey = 0) = false := by simp [hex]
          clear hex
          go_wp2_with fail
          go_meet
          exact hkf
      · have hk2 : ¬ ((k : Int) < (ry.no : Int)) := by omega
        go_wp2_with fail
        go_meet
        exact hkf
  case rest =>
  have HK := hcut
  go_upto_block 6 with fail
  go_cut [14] from 108 to 119 (fun v wd => Hid (KeepF w wd b r ⟨p1, r.no, cc1, p2, r.nt, cc2, r.sq, r.fl, r.kp⟩ rx ry pl nl cl g5 g6 g8 A B C))
  case first =>
    go_wp2_with fail
    go_loopw [14] (fun i wd => ∃ k : Nat, k ≤ ry.nt ∧ i = .int .i64 k ∧ Hid (KeepF w wd b r ⟨p1, r.no, cc1, p2, r.nt, cc2, r.sq, r.fl, r.kp⟩ rx ry pl nl cl g5 g6 g8 A B C)) (fun i _ => ry.nt - (intOf i).toNat)
    case atStart => exact ⟨0, Nat.zero_le _, rfl, HK⟩
    case round =>
      obtain ⟨k, hk, rfl, hkf⟩ := hrel
      clear HK
      have c0 := hkf.out.b8.cell 1 (u := .slice ry.pt ry.nt ry.ct) rfl
      have bl := hkf.out.b8.lt
      have hnm := hkf.out.yt.len
      unfold maxLen at hnm
      have hk0 : (0 : Int) ≤ (k : Int) := Int.natCast_nonneg _
      by_cases hlt : k < ry.nt
      · have hk1 : (k : Int) < (ry.nt : Int) := by omega
        obtain ⟨ms, hml, hown⟩ := hkf.out.yt
        obtain ⟨x, hx⟩ : ∃ x, ms[k]? = some x := ⟨_, List.getElem?_eq_getElem (by omega)⟩
        obtain ⟨g, hp, hng, hbg, hgl, hcl, hfr⟩ := hown.at codecE hx
        have f0 := hcl 1 _ rfl
        have x0 := hfr (k * 3 + 1)
        rw [hp] at c0 hown
        have HX : Hid (ms[k]? = some x) := hx
        have HOW := Lib.hid hown
        have HML := Lib.hid hml
        have HP := Lib.hid hp
        clear hx hown hcl hfr hng hml hp
        go_wp2_with fail
        go_roundw
        case rel => exact ⟨k + 1, by omega, by go_num, hkf.out.spoilYT (by rw [HP.out]; exact grownBy_set _ _ _ _) (by rw [HP.out]; exact spoilEn HOW.out HX.out HML.out)⟩
        case measure => simp [intOf]; omega
      · have hk2 : ¬ ((k : Int) < (ry.nt : Int)) := by omega
        go_wp2_with fail
        go_meet
        exact hkf
  case rest =>
  have HK := hcut
  go_upto_block 8 with fail
  go_cut [15] from 120 to 128 (fun v we => Hid (KeepF w we b r ⟨p1, r.no, cc1, p2, r.nt, cc2, r.sq, r.fl, r.kp⟩ rx ry pl nl cl g5 g6 g8 A B C))
  case first =>
    go_wp2_with fail
    go_loopw [15] (fun i we => ∃ k : Nat, k ≤ nl ∧ i = .int .i64 k ∧ Hid (KeepF w we b r ⟨p1, r.no, cc1, p2, r.nt, cc2, r.sq, r.fl, r.kp⟩ rx ry pl nl cl g5 g6 g8 A B C)) (fun i _ => nl - (intOf i).toNat)
    case atStart => exact ⟨0, Nat.zero_le _, rfl, HK⟩
    case round =>
      obtain ⟨k, hk, rfl, hkf⟩ := hrel
      clear HK
      have hnm := hkf.out.l.len
      unfold maxLen at hnm
      have hk0 : (0 : Int) ≤ (k : Int) := Int.natCast_nonneg _
      by_cases hlt : k < nl
      · have hk1 : (k : Int) < (nl : Int) := by omega
        obtain ⟨ms, hml, hown⟩ := hkf.out.l
        obtain ⟨x, hx⟩ : ∃ x, ms[k]? = some x := ⟨_, List.getElem?_eq_getElem (by omega)⟩
        obtain ⟨g, hp, hng, hbg, hgl, hcl, hfr⟩ := hown.at codecS hx
        have f0 := hcl 0 _ rfl
        rw [Nat.mul_one, Nat.add_zero] at f0
        have x0 := hfr k
        subst hp
        have HX : Hid (ms[k]? = some x) := hx
        have HOW := Lib.hid hown
        have HML := Lib.hid hml
        clear hx hown hcl hfr hng hml
        go_wp2_with fail
        go_roundw
        case rel => exact ⟨k + 1, by omega, by go_num, hkf.out.spoilL (by exact grownBy_set _ _ _ _) (by exact spoilS HOW.out HX.out HML.out)⟩
        case measure => simp [intOf]; omega
      · have hk2 : ¬ ((k : Int) < (nl : Int)) := by omega
        go_wp2_with fail
        go_meet
        exact hkf
  case rest =>
  have HK := hcut
  go_upto_region 29 with fail
  have q1 := HK.out.b0.lt
  have q5 := HK.out.b5.lt
  have c0 := HK.out.b0.cell 0 rfl
  have c1 := HK.out.b0.cell 1 rfl
  have c2 := HK.out.b0.cell 2 rfl
  have c3 := HK.out.b0.cell 3 rfl
  have c4 := HK.out.b0.cell 4 rfl
  have d0 := HK.out.b5.cell 0 rfl
  have d1 := HK.out.b5.cell 1 rfl
  have d2 := HK.out.b5.cell 2 rfl
  have d3 := HK.out.b5.cell 3 rfl
  have d4 := HK.out.b5.cell 4 rfl
  go_wp2_with fail
  refine (same18_any b b r ⟨p1, r.no, cc1, p2, r.nt, cc2, r.sq, r.fl, r.kp⟩ _ (HBX.out.under HK.out.below HK.out.below.size) (HK.out.was.box HK.out.below.size) HOB.out HOB.out).mono ?_
  rintro e wz ⟨y, rfl, hs, hbz⟩
  obtain rfl : y = true := hs.2 rfl
  go_wp2_with fail
  go_ret
  exact ⟨rfl, HK.out.below.trans (hbz.mono HK.out.below.size)⟩
end Go.Proofs.Ythgkgjcnmahacaa
end
