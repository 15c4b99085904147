/- The law on what a right trail says of an id since a number, walked. -/
import Derived.Test.YtfpgkiajggfadaaLaw2
import Derived.Test.YtfpgkiajggfadaaPl1
import Derived.IntWalk
namespace Go.Proofs.Ytfpgkiajggfadaa
open Go.RowKit Go.OpenShut

set_option maxRecDepth 200000 in
set_option maxHeartbeats 4000000 in
theorem trailPast_main (w : World) (v : Value) (l : List En) (floor seq sq : Int) (hv : RdE w w.heap.size v l) (hl : l.length ≤ 300) (hf : (Lit.int .i64 floor).wf = true) (hf2 : floor ≤ 1152921504606846976) (hs : (Lit.int .i64 sq).wf = true) (hq : floor ≤ sq) (hr : rightB l floor (floor + l.length) = true) :
    Calls Try.prog 6 #[v, .int .i64 floor, .int .i64 sq] w fun e w' => e = .returned (.bool true) ∧ Below w.heap.size w w' := by
  obtain ⟨hok, p, c, rfl, hlc, hcm, hp0, hp⟩ := id hv
  unfold maxLen at hcm
  have HV := Lib.hid hv
  have bf := bounds_i64 hf
  have bs := bounds_i64 hs
  have q1 : decide ((l.length : Int) > 300) = false := by simp; omega
  have q2 : decide (floor > 1152921504606846976) = false := by simp; omega
  have q3 : decide (sq < floor) = false := by simp; omega
  have hwf : (Lit.int .i64 (floor + l.length)).wf = true := by
    simp [Lit.wf, IntKind.min, IntKind.max, IntKind.signed, IntKind.bits]
    omega
  have HW := Lib.hid hwf
  have HF := Lib.hid hf
  have HR := Lib.hid hr
  have HL := Lib.hid hl
  have HQ := Lib.hid hq
  clear hv hok hf hs hq hr hwf
  go_enter Try.func6, Try.ntmps6
  go_wp2_with (first
    | (go_at_call 14; refine (awake_any _).mono ?_; rintro e w1 ⟨rfl, hb1⟩)
    | (go_at_call 12; refine (right_any _ _ l floor (floor + l.length) ((HV.out.below hb1).mono hb1.size) HF.out HW.out).mono ?_; rintro e w2 ⟨rfl, hb2⟩; rw [HR.out]; (have HB2 := hb1.trans (hb2.mono hb1.size)); go_frame)
    | (go_at_call 20; refine (since_any _ _ l sq ((HV.out.below HB2).mono HB2.size) (by have := HL.out; omega)).mono ?_; rintro e w3 ⟨ys, hst, u3, rfl, ho3, hb3⟩))
  obtain ⟨hpast, hsorted⟩ := since_right HR.out hst
  have HPA := Lib.hid hpast
  have HSO := Lib.hid hsorted
  obtain ⟨pu, cu, rfl, hcu1, hcu2⟩ := ho3.len
  have hyl : ys.length ≤ l.length := by have h1 := hst.length; have h2 := sinceL_len sq l; omega
  have HRd := Lib.hid (ho3.rd codecP)
  have HB3 := HB2.trans (hb3.mono HB2.size)
  clear hpast hsorted hst ho3 hb1 hb2 hb3 HB2 hcu1
  unfold maxLen at hcu2
  go_loopw [8] (fun i wr => ∃ m : Nat, m ≤ ys.length ∧ i = .int .i64 m ∧ ∃ n, wr = w3.drewN n) (fun i _ => ys.length - (intOf i).toNat)
  case atStart => exact ⟨0, Nat.zero_le _, rfl, 0, rfl⟩
  case round =>
    obtain ⟨m, hm, rfl, n1, rfl⟩ := hrel
    by_cases hml : m < ys.length
    · obtain ⟨z, hz⟩ : ∃ z, ys[m]? = some z := ⟨_, List.getElem?_eq_getElem hml⟩
      obtain ⟨b2, o2, rfl, hb2, hc2⟩ := rd_at HRd.out hz
      have s0 := hc2 0 _ rfl
      have s1 := hc2 1 _ rfl
      have s2 := hc2 2 _ rfl
      have s3 := hc2 3 _ rfl
      rw [Nat.add_zero] at s0
      have HZ := Lib.hid hz
      have HPZ := Lib.hid (HPA.out z (List.mem_of_getElem? hz))
      clear hz hc2
      have hm0 : (0 : Int) ≤ (m : Int) := Int.natCast_nonneg _
      have hm1 : (m : Int) < (ys.length : Int) := by omega
      go_wp2_with fail
      go_loopw [10, 11, 12] (fun a b k wr => ∃ j : Nat, j ≤ l.length ∧ k = .int .i64 j ∧ a = .bool (nowL z.was z.id sq (l.take j)) ∧ b = .int .i64 (cntL z.id sq (l.take j) : Nat) ∧ ∃ n, wr = w3.drewN n) (fun _ _ k _ => l.length - (intOf k).toNat)
      case atStart => exact ⟨0, Nat.zero_le _, rfl, rfl, rfl, _, rfl⟩
      case round =>
        obtain ⟨j, hj, rfl, rfl, rfl, n2, rfl⟩ := hrel
        by_cases hjl : j < l.length
        · obtain ⟨b1, o1, rfl, hb1, hc1⟩ := slice_at (k := j) hp0 hp (by omega)
          obtain ⟨x, hx, g10, g11, g12⟩ := hc1 j hjl
          rw [← HB3.cell (p := ⟨_, _, none⟩) hb1] at g10 g11 g12
          have HT := Lib.hid (nowL_take (was := z.was) (id := z.id) (sq := sq) hx)
          have HC := Lib.hid (cntL_take (id := z.id) (sq := sq) hx)
          have HCL := cntL_le z.id sq l j hj
          have HX := Lib.hid hx
          clear hx hc1
          by_cases hid : x.id = z.id
          · have hq : (x.id.toList == z.id.toList) = true := by rw [hid]; simp
            by_cases hsq : x.seq ≤ sq
            · have q4 : decide (x.seq ≤ sq) = true := by simpa using hsq
              have hold := HPZ.out.old j x HX.out hid hsq
              have hno : ¬ (x.id = z.id ∧ sq < x.seq) := by omega
              rw [if_neg hno] at HT HC
              clear hid hsq hno
              go_wp2_with fail
              go_quiet (fail)
              go_wp2_with fail
              go_roundw
              case rel => exact ⟨j + 1, by omega, by go_num, by rw [HT.out], by rw [HC.out], _, rfl⟩
              case measure => simp [intOf]; omega
            · have q4 : decide (x.seq ≤ sq) = false := by simpa using hsq
              have hnew := HPZ.out.new j x HX.out hid (by omega)
              have hyes : x.id = z.id ∧ sq < x.seq := ⟨hid, by omega⟩
              rw [if_pos hyes] at HT HC
              clear hid hsq hyes
              generalize nowL z.was z.id sq (l.take j) = nb at hnew HT ⊢
              generalize cntL z.id sq (l.take j) = nc at HC HCL ⊢
              go_wp2_with fail
              go_quiet (fail)
              go_wp2_with fail
              go_roundw
              case rel => exact ⟨j + 1, by omega, by go_num, by rw [HT.out], by rw [HC.out]; go_num, _, rfl⟩
              case measure => simp [intOf]; omega
          · have hq : (x.id.toList == z.id.toList) = false := by rw [toList_beq]; simp [hid]
            have hno : ¬ (x.id = z.id ∧ sq < x.seq) := fun h => hid h.1
            rw [if_neg hno] at HT HC
            clear hid hno
            go_wp2_with fail
            go_quiet (fail)
            go_wp2_with fail
            go_roundw
            case rel => exact ⟨j + 1, by omega, by go_num, by rw [HT.out], by rw [HC.out], _, rfl⟩
            case measure => simp [intOf]; omega
        · obtain rfl : j = l.length := by omega
          have hfin := HPZ.out.fin
          have hcnt := HPZ.out.cnt
          have HCL := cntL_le z.id sq l l.length (Nat.le_refl _)
          rw [List.take_length] at HCL ⊢
          rw [hfin]
          clear hfin
          generalize cntL z.id sq l = nc at hcnt HCL ⊢
          have q6 : (z.isb != z.isb) = false := by simp
          have q7 : ((nc : Int) == 0) = false := by simp; omega
          by_cases hmz : m = 0
          · subst hmz
            go_wp2_with fail
            go_quiet (fail)
            go_wp2_with fail
            go_roundw
            case rel => exact ⟨1, by omega, by go_num, _, rfl⟩
            case measure => simp [intOf]; omega
          · obtain ⟨m', hm'⟩ : ∃ m', m = m' + 1 := ⟨m - 1, by omega⟩
            obtain ⟨y, hy⟩ : ∃ y, ys[m']? = some y := ⟨_, List.getElem?_eq_getElem (by omega)⟩
            obtain ⟨b3, o3, he3, hb3, hc3⟩ := rd_at HRd.out hy
            simp only [Option.some.injEq, Addr.mk.injEq, and_true] at he3
            obtain ⟨rfl, rfl⟩ := he3
            have r3 := hc3 3 _ rfl
            have hlast : ¬ y.last ≥ z.last := by
              have := List.pairwise_iff_getElem.1 HSO.out m' m (by omega) hml (by omega)
              have e1 : ys[m']'(by omega) = y := by
                rw [List.getElem?_eq_getElem (by omega)] at hy
                exact Option.some.inj hy
              have e2 : ys[m]'hml = z := by
                have := HZ.out
                rw [List.getElem?_eq_getElem hml] at this
                exact Option.some.inj this
              rw [e1, e2] at this
              omega
            have q8 : decide (y.last ≥ z.last) = false := by simpa using hlast
            have em : (m : Int) - 1 = (m' : Int) := by omega
            have ws : IntKind.i64.wrap ((m : Int) - 1) = (m' : Int) := by rw [em]; exact IntWalk.i64_in _ (by omega)
            have hmp : 0 < m := by omega
            have hgt : decide (0 < m) = true := by simpa using hmp
            have hm0' : (0 : Int) ≤ (m' : Int) := Int.natCast_nonneg _
            have hm1' : (m' : Int) < (ys.length : Int) := by omega
            clear hm' hy hc3 hlast hmz
            go_wp2_with fail
            go_quiet (fail)
            go_wp2_with fail
            go_roundw
            case rel => exact ⟨m + 1, by omega, by go_num, _, rfl⟩
            case measure => simp [intOf]; omega
    · obtain rfl : m = ys.length := by omega
      go_wp2_with fail
      go_ret
      exact ⟨rfl, bdn HB3 _⟩

set_option maxRecDepth 200000 in
set_option maxHeartbeats 2000000 in
theorem trailPast_any (w : World) (v : Value) (l : List En) (floor sq : Int) (hv : RdE w w.heap.size v l) (hf : (Lit.int .i64 floor).wf = true) (hs : (Lit.int .i64 sq).wf = true) :
    Calls Try.prog 6 #[v, .int .i64 floor, .int .i64 sq] w fun e w' => e = .returned (.bool true) ∧ Below w.heap.size w w' := by
  by_cases hl : l.length ≤ 300
  · by_cases hf2 : floor ≤ 1152921504606846976
    · have bf := bounds_i64 hf
      have hwf : (Lit.int .i64 (floor + l.length)).wf = true := by
        simp [Lit.wf, IntKind.min, IntKind.max, IntKind.signed, IntKind.bits]
        omega
      cases hr : rightB l floor (floor + l.length) with
      | true =>
        by_cases hq : floor ≤ sq
        · exact trailPast_main w v l floor (floor + l.length) sq hv hl hf hf2 hs hq hr
        · have bs := bounds_i64 hs
          obtain ⟨p, c, rfl⟩ := hv.len
          have q1 : decide ((l.length : Int) > 300) = false := by simp; omega
          have q2 : decide (floor > 1152921504606846976) = false := by simp; omega
          have q3 : decide (sq < floor) = true := by simp; omega
          have HV := Lib.hid hv
          have HW := Lib.hid hwf
          have HF := Lib.hid hf
          have HR := Lib.hid hr
          clear hv hf hs hq hr hwf
          go_enter Try.func6, Try.ntmps6
          go_upto_region 2 with (first
            | (go_at_call 14; refine (awake_any _).mono ?_; rintro e w1 ⟨rfl, hb1⟩)
            | (go_at_call 12; refine (right_any _ _ l floor (floor + l.length) ((HV.out.below hb1).mono hb1.size) HF.out HW.out).mono ?_; rintro e w2 ⟨rfl, hb2⟩; rw [HR.out]; (have HB2 := hb1.trans (hb2.mono hb1.size)); go_frame))
          go_wp2_with (go_at_call 14; refine (awake_any _).mono ?_; rintro e w3 ⟨rfl, hb3⟩)
          go_ret
          exact ⟨rfl, HB2.trans (hb3.mono HB2.size)⟩
      | false =>
        have bs := bounds_i64 hs
        obtain ⟨p, c, rfl⟩ := hv.len
        have q1 : decide ((l.length : Int) > 300) = false := by simp; omega
        have q2 : decide (floor > 1152921504606846976) = false := by simp; omega
        have HV := Lib.hid hv
        have HW := Lib.hid hwf
        have HF := Lib.hid hf
        have HR := Lib.hid hr
        clear hv hf hs hr hwf
        go_enter Try.func6, Try.ntmps6
        go_upto_region 2 with (first
          | (go_at_call 14; refine (awake_any _).mono ?_; rintro e w1 ⟨rfl, hb1⟩)
          | (go_at_call 12; refine (right_any _ _ l floor (floor + l.length) ((HV.out.below hb1).mono hb1.size) HF.out HW.out).mono ?_; rintro e w2 ⟨rfl, hb2⟩; rw [HR.out]; (have HB2 := hb1.trans (hb2.mono hb1.size)); go_frame))
        go_wp2_with (go_at_call 14; refine (awake_any _).mono ?_; rintro e w3 ⟨rfl, hb3⟩)
        go_ret
        exact ⟨rfl, HB2.trans (hb3.mono HB2.size)⟩
    · obtain ⟨p, c, rfl⟩ := hv.len
      have q1 : decide ((l.length : Int) > 300) = false := by simp; omega
      have q2 : decide (floor > 1152921504606846976) = true := by simp; omega
      clear hv hf hs
      go_enter Try.func6, Try.ntmps6
      go_upto_region 2 with (go_at_call 14; refine (awake_any _).mono ?_; rintro e w1 ⟨rfl, hb1⟩)
      go_wp2_with (go_at_call 14; refine (awake_any _).mono ?_; rintro e w3 ⟨rfl, hb3⟩)
      go_ret
      exact ⟨rfl, hb1.trans (hb3.mono hb1.size)⟩
  · obtain ⟨p, c, rfl⟩ := hv.len
    have q1 : decide ((l.length : Int) > 300) = true := by simp; omega
    clear hv hf hs
    go_enter Try.func6, Try.ntmps6
    go_wp2_with (go_at_call 14; refine (awake_any _).mono ?_; rintro e w3 ⟨rfl, hb3⟩)
    go_ret
    exact ⟨rfl, hb3⟩
end Go.Proofs.Ytfpgkiajggfadaa
