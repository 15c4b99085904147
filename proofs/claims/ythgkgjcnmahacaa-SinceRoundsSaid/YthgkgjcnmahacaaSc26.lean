import Derived.Test.YthgkgjcnmahacaaSc10
import Derived.Test.YthgkgjcnmahacaaSc25
import Derived.Test.YthgkgjcnmahacaaSc01
import Derived.Test.YthgkgjcnmahacaaSc13
import Derived.Test.YthgkgjcnmahacaaSc02
import Derived.BigQuiet
import Derived.Deep.RegionHeld3
/- cardboxref18.Few and Same, walked. -/
set_option linter.unusedSimpArgs false
set_option linter.unusedVariables false
namespace Go.Proofs.Ythgkgjcnmahacaa
open Go.RowKit Go.OpenShut

/-- Some truth; if it says yes, the box has few objects and entries. -/
def FewBx (w : World) (b : BoxD) (e : Ending) (w' : World) : Prop := ∃ y : Bool, e = .returned (.bool y) ∧ Hid (y = true → b.objs.length ≤ 100 ∧ b.trail.length ≤ 300) ∧ Below w.heap.size w w'

set_option maxRecDepth 100000 in
set_option maxHeartbeats 2000000 in
theorem few18_any (b : BoxD) (r : RB) (w : World) (hb : BoxOf w w.heap.size b r) (ob : b.Ok) :
    Calls Try.prog 19 #[r.val] w (FewBx w b) := by
  have ho := hb.objs
  have hnt := hb.trail.nlen
  obtain ⟨po, no, co, pt, nt, ct, sq, fl, kp⟩ := r
  dsimp only [RB.val] at *
  obtain ⟨rms, hrd, hms⟩ := ho
  have hn := rd_nlen hrd
  have hlm := hms.len
  have hzo := ob.objs
  have hA0 : BoxAt (w.alloc (.cells #[.slice po no co, .slice pt nt ct, .int .i64 sq, .int .i64 fl, .int .i64 kp] 35)) w.heap.size ⟨po, no, co, pt, nt, ct, sq, fl, kp⟩ := heap_alloc_at rfl
  have hB0 : Below w.heap.size w (w.alloc (.cells #[.slice po no co, .slice pt nt ct, .int .i64 sq, .int .i64 fl, .int .i64 kp] 35)) := (Below.refl _ _).alloc (Nat.le_refl _) _
  have HRD := Lib.hid hrd
  have HMS := Lib.hid hms
  have HOK := Lib.hid ob.each
  have HN : Hid (b.objs.length = no ∧ rms.length = no ∧ b.trail.length = nt) := ⟨by omega, by omega, hnt⟩
  clear hb hrd hms hn hlm hzo ob hnt
  go_enter Try.func19, Try.ntmps19
  go_upto_region 1 with fail
  obtain ⟨W0, hW0⟩ : ∃ W0, (w.alloc (.cells #[.slice po no co, .slice pt nt ct, .int .i64 sq, .int .i64 fl, .int .i64 kp] 35)) = W0 := ⟨_, rfl⟩
  rw [hW0] at hA0 hB0 ⊢
  clear hW0
  have c0 := hA0.cell 0 rfl
  have c1 := hA0.cell 1 rfl
  dsimp only at c0 c1
  have HB := Lib.hid hB0
  have HA := Lib.hid hA0
  have hz := hA0.lt
  clear hA0 hB0
  by_cases h1 : 100 < no
  · have d1 : decide ((100 : Int) < (no : Int)) = true := by simp; omega
    clear h1
    go_wp2_with fail
    go_ret
    exact ⟨false, rfl, (fun h => by cases h), HB.out⟩
  have d1 : decide ((100 : Int) < (no : Int)) = false := by simp; omega
  by_cases h2 : 300 < nt
  · have d2 : decide ((300 : Int) < (nt : Int)) = true := by simp; omega
    clear h2
    go_wp2_with fail
    go_ret
    exact ⟨false, rfl, (fun h => by cases h), HB.out⟩
  have d2 : decide ((300 : Int) < (nt : Int)) = false := by simp; omega
  have hno : no ≤ 100 := by omega
  have HNT : Hid (nt ≤ 300) := by unfold Hid; omega
  clear h1 h2
  go_wp2_with fail
  go_loopw [3] (fun i wr => ∃ k : Nat, k ≤ no ∧ i = .int .i64 k ∧ Below W0.heap.size W0 wr) (fun i _ => no - (intOf i).toNat)
  case atStart => exact ⟨0, Nat.zero_le _, rfl, Below.refl _ _⟩
  case round =>
    obtain ⟨k, hk, rfl, hbr⟩ := hrel
    have c0 := bcs hbr hz c0
    have hbw : Below w.heap.size w wr := HB.out.trans (hbr.mono HB.out.size)
    by_cases hlt : k < no
    · obtain ⟨x, hx⟩ : ∃ x, rms[k]? = some x := ⟨_, List.getElem?_eq_getElem (by have := HN.out; omega)⟩
      obtain ⟨p, hp⟩ : ∃ x, b.objs[k]? = some x := ⟨_, List.getElem?_eq_getElem (by have := HN.out; omega)⟩
      have HC := Lib.hid (few7_any p.2 x.v 200 wr ((HMS.out.val _ p x hp hx).under hbw hbw.size) (HOK.out p (List.mem_of_getElem? hp)).2)
      obtain ⟨b1, o1, rfl, hb1, hc1⟩ := rd_at' (HRD.out.below hbw (Nat.le_refl _)) hx
      have f0 := hc1 0 _ rfl
      have f1 := hc1 1 _ rfl
      have f2 := hc1 2 _ rfl
      have f3 := hc1 3 _ rfl
      have f4 := hc1 4 _ rfl
      have f5 := hc1 5 _ rfl
      have hk0 : (0 : Int) ≤ (k : Int) := Int.natCast_nonneg _
      have hk1 : (k : Int) < (no : Int) := by omega
      have HBR := Lib.hid hbr
      clear hx hp hc1 hbr hbw
      go_wp2_with (go_at_call 21; refine HC.out.mono ?_; rintro e w2 ⟨y, rfl, _, hb2⟩; cases y)
      · go_ret
        exact ⟨false, rfl, (fun h => by cases h), HB.out.trans ((HBR.out.trans (hb2.mono HBR.out.size)).mono HB.out.size)⟩
      · go_roundw
        case rel => exact ⟨k + 1, by omega, by go_num, HBR.out.trans (hb2.mono HBR.out.size)⟩
        case measure => simp [intOf]; omega
    · obtain rfl : k = no := by omega
      go_wp2_with fail
      go_ret
      exact ⟨true, rfl, (fun _ => by have := HN.out; have := HNT.out; omega), hbw⟩

theorem BoxD.ext' {a b : BoxD} (h1 : a.objs = b.objs) (h2 : a.trail = b.trail) (h3 : a.seq = b.seq) (h4 : a.floor = b.floor) (h5 : a.keep = b.keep) : a = b := by
  cases a; cases b; simp_all

set_option maxRecDepth 200000 in
set_option maxHeartbeats 8000000 in
theorem same18_any (a b : BoxD) (r q : RB) (w : World) (ha : BoxOf w w.heap.size a r) (hb : BoxOf w w.heap.size b q) (oa : a.Ok) (ob : b.Ok) :
    Calls Try.prog 25 #[r.val, q.val] w (Said w (a = b)) := by
  have hta := ha.trail
  have htb := hb.trail
  have hna := hta.nlen
  have hnb := htb.nlen
  obtain ⟨ras, hra, hma⟩ := ha.objs
  obtain ⟨rbs, hrb, hmb⟩ := hb.objs
  have hla := hma.len
  have hlb := hmb.len
  have hna2 := rd_nlen hra
  have hnb2 := rd_nlen hrb
  have hzo := oa.objs
  have HEQ : Hid (a.seq = r.sq ∧ a.floor = r.fl ∧ a.keep = r.kp ∧ b.seq = q.sq ∧ b.floor = q.fl ∧ b.keep = q.kp) := ⟨ha.seq, ha.floor, ha.keep, hb.seq, hb.floor, hb.keep⟩
  have hA0 : BoxAt ((w.alloc (.cells #[.slice r.po r.no r.co, .slice r.pt r.nt r.ct, .int .i64 r.sq, .int .i64 r.fl, .int .i64 r.kp] 35)).alloc (.cells #[.slice q.po q.no q.co, .slice q.pt q.nt q.ct, .int .i64 q.sq, .int .i64 q.fl, .int .i64 q.kp] 35)) w.heap.size r := heap_alloc_lt (by simp) (heap_alloc_at rfl)
  have hZ0 : BoxAt ((w.alloc (.cells #[.slice r.po r.no r.co, .slice r.pt r.nt r.ct, .int .i64 r.sq, .int .i64 r.fl, .int .i64 r.kp] 35)).alloc (.cells #[.slice q.po q.no q.co, .slice q.pt q.nt q.ct, .int .i64 q.sq, .int .i64 q.fl, .int .i64 q.kp] 35)) (w.heap.size + 1) q := heap_alloc_at (by simp)
  have hB0 := below2 w (.cells #[.slice r.po r.no r.co, .slice r.pt r.nt r.ct, .int .i64 r.sq, .int .i64 r.fl, .int .i64 r.kp] 35) (.cells #[.slice q.po q.no q.co, .slice q.pt q.nt q.ct, .int .i64 q.sq, .int .i64 q.fl, .int .i64 q.kp] 35)
  have HTA := Lib.hid hta
  have HTB := Lib.hid htb
  have HRA := Lib.hid hra
  have HRB := Lib.hid hrb
  have HMA := Lib.hid hma
  have HMB := Lib.hid hmb
  have HOA := Lib.hid oa.each
  have HOB := Lib.hid ob.each
  have HN : Hid (a.objs.length = r.no ∧ ras.length = r.no ∧ a.trail.length = r.nt ∧ b.objs.length = q.no ∧ rbs.length = q.no ∧ b.trail.length = q.nt) := ⟨by omega, by omega, hna, by omega, by omega, hnb⟩
  have hno : r.no ≤ 1466015503658 := by omega
  clear ha hb hta htb hna hnb hra hma hrb hmb hla hlb hna2 hnb2 hzo oa ob
  go_enter Try.func25, Try.ntmps25
  go_upto_region 1 with fail
  obtain ⟨W0, hW0⟩ : ∃ W0, ((w.alloc (.cells #[.slice r.po r.no r.co, .slice r.pt r.nt r.ct, .int .i64 r.sq, .int .i64 r.fl, .int .i64 r.kp] 35)).alloc (.cells #[.slice q.po q.no q.co, .slice q.pt q.nt q.ct, .int .i64 q.sq, .int .i64 q.fl, .int .i64 q.kp] 35)) = W0 := ⟨_, rfl⟩
  rw [hW0] at hA0 hZ0 hB0 ⊢
  clear hW0
  have HB := Lib.hid hB0
  have HA := Lib.hid hA0
  have HZ := Lib.hid hZ0
  have hz := hZ0.lt
  have c0 := hA0.cell 0 rfl
  have c1 := hA0.cell 1 rfl
  have c2 := hA0.cell 2 rfl
  have c3 := hA0.cell 3 rfl
  have c4 := hA0.cell 4 rfl
  have d0 := hZ0.cell 0 rfl
  have d1 := hZ0.cell 1 rfl
  have d2 := hZ0.cell 2 rfl
  have d3 := hZ0.cell 3 rfl
  have d4 := hZ0.cell 4 rfl
  clear hA0 hZ0 hB0
  by_cases h1 : r.sq = q.sq
  rotate_left
  · have d1 : (r.sq != q.sq) = true := by simpa using h1
    have HNO : Hid (¬ a = b) := fun h => h1 (by rw [← HEQ.out.1, h]; exact HEQ.out.2.2.2.1)
    clear h1
    go_wp2_with fail
    go_ret
    exact ⟨false, rfl, ⟨fun h => (by cases h), fun h => absurd h HNO.out⟩, HB.out⟩
  have d1 : (r.sq != q.sq) = false := by simpa using h1
  by_cases h2 : r.fl = q.fl
  rotate_left
  · have d2 : (r.fl != q.fl) = true := by simpa using h2
    have HNO : Hid (¬ a = b) := fun h => h2 (by rw [← HEQ.out.2.1, h]; exact HEQ.out.2.2.2.2.1)
    clear h1 h2
    go_wp2_with fail
    go_ret
    exact ⟨false, rfl, ⟨fun h => (by cases h), fun h => absurd h HNO.out⟩, HB.out⟩
  have d2 : (r.fl != q.fl) = false := by simpa using h2
  by_cases h3 : r.kp = q.kp
  rotate_left
  · have d3 : (r.kp != q.kp) = true := by simpa using h3
    have HNO : Hid (¬ a = b) := fun h => h3 (by rw [← HEQ.out.2.2.1, h]; exact HEQ.out.2.2.2.2.2)
    clear h1 h2 h3
    go_wp2_with fail
    go_ret
    exact ⟨false, rfl, ⟨fun h => (by cases h), fun h => absurd h HNO.out⟩, HB.out⟩
  have d3 : (r.kp != q.kp) = false := by simpa using h3
  by_cases h4 : r.no = q.no
  rotate_left
  · have d4 : ((r.no : Int) != (q.no : Int)) = true := by simp; omega
    have HNO : Hid (¬ a = b) := fun h => h4 (by have := HN.out; rw [h] at this; omega)
    clear h1 h2 h3 h4
    go_wp2_with fail
    go_ret
    exact ⟨false, rfl, ⟨fun h => (by cases h), fun h => absurd h HNO.out⟩, HB.out⟩
  have d4 : ((r.no : Int) != (q.no : Int)) = false := by simp; omega
  have HE := Lib.hid (same_any W0 w.heap.size (.slice r.pt r.nt r.ct) (.slice q.pt q.nt q.ct) a.trail b.trail (HTA.out.under HB.out (Nat.le_refl _)) (HTB.out.under HB.out (Nat.le_refl _)))
  have H1 : Hid (r.sq = q.sq ∧ r.fl = q.fl ∧ r.kp = q.kp ∧ r.no = q.no) := ⟨h1, h2, h3, h4⟩
  clear h1 h2 h3 h4
  by_cases h5 : a.trail = b.trail
  rotate_left
  · have HNO : Hid (¬ a = b) := fun h => h5 (by rw [h])
    rw [decide_eq_false h5] at HE
    clear h5
    go_wp2_with (go_at_call 69; refine HE.out.mono ?_; rintro e w1 ⟨rfl, n1, rfl⟩)
    go_ret
    exact ⟨false, rfl, ⟨fun h => (by cases h), fun h => absurd h HNO.out⟩, bdn HB.out _⟩
  rw [decide_eq_true h5] at HE
  have H5 := Lib.hid h5
  clear h5
  go_wp2_with (go_at_call 69; refine HE.out.mono ?_; rintro e w1 ⟨rfl, n1, rfl⟩)
  go_loopw [5] (fun i wr => ∃ k : Nat, k ≤ r.no ∧ i = .int .i64 k ∧ Hid (a.objs.take k = b.objs.take k) ∧ Below W0.heap.size W0 wr) (fun i _ => r.no - (intOf i).toNat)
  case atStart => exact ⟨0, Nat.zero_le _, rfl, by unfold Hid; simp, bdn (Below.refl _ _) _⟩
  case round =>
    obtain ⟨k, hk, rfl, htk, hbr⟩ := hrel
    have hbw : Below w.heap.size w wr := HB.out.trans (hbr.mono HB.out.size)
    have hA1 := HA.out.under hbr (by omega)
    have hZ1 := HZ.out.under hbr hz
    have hz1 := hZ1.lt
    clear c0 c1 c2 c3 c4 d0 d1 d2 d3 d4
    have c0 := hA1.cell 0 rfl
    have d0 := hZ1.cell 0 rfl
    by_cases hlt : k < r.no
    · obtain ⟨x, hx⟩ : ∃ x, ras[k]? = some x := ⟨_, List.getElem?_eq_getElem (by have := HN.out; omega)⟩
      obtain ⟨y, hy⟩ : ∃ x, rbs[k]? = some x := ⟨_, List.getElem?_eq_getElem (by have := HN.out; have := H1.out; omega)⟩
      obtain ⟨p, hp⟩ : ∃ x, a.objs[k]? = some x := ⟨_, List.getElem?_eq_getElem (by have := HN.out; omega)⟩
      obtain ⟨s, hs⟩ : ∃ x, b.objs[k]? = some x := ⟨_, List.getElem?_eq_getElem (by have := HN.out; have := H1.out; omega)⟩
      have hpn := HMA.out.name _ p x hp hx
      have hsn := HMB.out.name _ s y hs hy
      have HTX := Lib.hid (HMA.out.val _ p x hp hx)
      have HTY := Lib.hid (HMB.out.val _ s y hs hy)
      have HOX : Hid p.2.Ok := (HOA.out p (List.mem_of_getElem? hp)).2
      have HOY : Hid s.2.Ok := (HOB.out s (List.mem_of_getElem? hs)).2
      obtain ⟨b1, o1, hpo, hb1, hc1⟩ := rd_at' (HRA.out.below hbw (Nat.le_refl _)) hx
      obtain ⟨b2, o2, hqo, hb2, hc2⟩ := rd_at' (HRB.out.below hbw (Nat.le_refl _)) hy
      rw [hpo] at c0
      rw [hqo] at d0
      have f0 := hc1 0 _ rfl
      have f1 := hc1 1 _ rfl
      have f2 := hc1 2 _ rfl
      have f3 := hc1 3 _ rfl
      have f4 := hc1 4 _ rfl
      have f5 := hc1 5 _ rfl
      have g0 := hc2 0 _ rfl
      have g1 := hc2 1 _ rfl
      have g2 := hc2 2 _ rfl
      have g3 := hc2 3 _ rfl
      have g4 := hc2 4 _ rfl
      have g5 := hc2 5 _ rfl
      rw [Nat.add_zero] at f0 g0
      have hk0 : (0 : Int) ≤ (k : Int) := Int.natCast_nonneg _
      have hk1 : (k : Int) < (r.no : Int) := by omega
      have hk2 : (k : Int) < (q.no : Int) := by have := H1.out; omega
      have hb1w : b1 < wr.heap.size := by have := hbw.size; omega
      have hb2w : b2 < wr.heap.size := by have := hbw.size; omega
      have hzw : w.heap.size < wr.heap.size := by omega
      have HBR := Lib.hid hbr
      have HBW := Lib.hid hbw
      have hqn : (x.name.toList == y.name.toList) = decide (p.1 = s.1) := by rw [str_beq, hpn, hsn]
      by_cases hnm : p.1 = s.1
      · have e2 : (x.name.toList == y.name.toList) = true := by rw [hqn, decide_eq_true hnm]
        have e1 : (x.name.toList != y.name.toList) = false := by rw [bne, hqn, decide_eq_true hnm]; rfl
        have hS := fun (W : World) (hkb : KB wr.heap.size wr W) => same5_any _ p.2 s.2 x.v y.v W (Nat.le_refl _) (HTX.out.under (HBW.out.trans (hkb.1.mono HBW.out.size)) (HBW.out.trans (hkb.1.mono HBW.out.size)).size) (HTY.out.under (HBW.out.trans (hkb.1.mono HBW.out.size)) (HBW.out.trans (hkb.1.mono HBW.out.size)).size) HOX.out HOY.out
        by_cases hval : p.2 = s.2
        · have HSM : Hid (∀ W, KB wr.heap.size wr W → Calls Try.prog 31 #[x.v.val, y.v.val] W fun e w' => e = .returned (.bool true) ∧ Below W.heap.size W w') := fun W hkb => (hS W hkb).mono fun e w' h => h.yes hval
          have HTK : Hid (a.objs.take (k + 1) = b.objs.take (k + 1)) := by
            unfold Hid
            have hps : p = s := Prod.ext hnm hval
            rw [List.take_add_one, List.take_add_one, hp, hs, htk.out, hps]
          clear hx hy hp hs hpn hsn hc1 hc2 hqn hnm hval hS hbr hbw htk hA1 hZ1 hpo hqo
          go_wp2_with fail
          go_region_held3 (fun w' => Below wr.heap.size wr w' ∧ ∀ b o, b < wr.heap.size → w'.cell? ⟨b, o, none⟩ = wr.cell? ⟨b, o, none⟩)
            (first | exact KB.drew wr | exact hbk)
            ((go_at_call 31; refine (HSM.out _ (by assumption)).mono ?_; rintro e w2 ⟨rfl, hbs⟩; have hbk := KB.step (W := wr) (by assumption) hbs))
          rename (Below wr.heap.size wr _ ∧ _) => hkb
          go_wp2_with fail
          go_roundw
          case rel => exact ⟨k + 1, by omega, by go_num, HTK, HBR.out.trans (hkb.1.mono HBR.out.size)⟩
          case measure => simp [intOf]; omega
        · have HSM : Hid (∀ W, KB wr.heap.size wr W → Calls Try.prog 31 #[x.v.val, y.v.val] W fun e w' => e = .returned (.bool false) ∧ Below W.heap.size W w') := fun W hkb => (hS W hkb).mono fun e w' h => h.no hval
          have HNO : Hid (¬ a = b) := fun h => hval (by rw [h, hs] at hp; cases hp; rfl)
          clear hx hy hp hs hpn hsn hc1 hc2 hqn hnm hval hS hbr hbw htk hA1 hZ1 hpo hqo
          go_wp2_with fail
          go_region_held3 (fun w' => Below wr.heap.size wr w' ∧ ∀ b o, b < wr.heap.size → w'.cell? ⟨b, o, none⟩ = wr.cell? ⟨b, o, none⟩)
            (first | exact KB.drew wr | exact hbk)
            ((go_at_call 31; refine (HSM.out _ (by assumption)).mono ?_; rintro e w2 ⟨rfl, hbs⟩; have hbk := KB.step (W := wr) (by assumption) hbs))
          rename (Below wr.heap.size wr _ ∧ _) => hkb
          go_wp2_with fail
          go_ret
          exact ⟨false, rfl, ⟨fun h => (by cases h), fun h => absurd h HNO.out⟩, HBW.out.trans (hkb.1.mono HBW.out.size)⟩
      · have e2 : (x.name.toList == y.name.toList) = false := by rw [hqn, decide_eq_false hnm]
        have e1 : (x.name.toList != y.name.toList) = true := by rw [bne, hqn, decide_eq_false hnm]; rfl
        have HNO : Hid (¬ a = b) := fun h => hnm (by rw [h, hs] at hp; cases hp; rfl)
        clear hx hy hp hs hpn hsn hc1 hc2 hqn hnm hbr hbw htk hA1 hZ1 hpo hqo
        go_wp2_with fail
        go_quiet (fail)
        go_wp2_with fail
        go_ret
        exact ⟨false, rfl, ⟨fun h => (by cases h), fun h => absurd h HNO.out⟩, bdn HBW.out _⟩
    · obtain rfl : k = r.no := by omega
      have HYES : Hid (a = b) := BoxD.ext' (by
          have h := htk.out
          rw [List.take_of_length_le (by have := HN.out; omega), List.take_of_length_le (by have := HN.out; have := H1.out; omega)] at h
          exact h) H5.out (by rw [HEQ.out.1, H1.out.1]; exact HEQ.out.2.2.2.1.symm) (by rw [HEQ.out.2.1, H1.out.2.1]; exact HEQ.out.2.2.2.2.1.symm) (by rw [HEQ.out.2.2.1, H1.out.2.2.1]; exact HEQ.out.2.2.2.2.2.symm)
      go_wp2_with fail
      go_ret
      exact ⟨true, rfl, ⟨fun _ => HYES.out, fun _ => rfl⟩, hbw⟩
end Go.Proofs.Ythgkgjcnmahacaa
