import Derived.Test.YthgkgjcnmahacaaSo03
set_option linter.unusedSimpArgs false
set_option linter.unusedVariables false
namespace Go.Proofs.Ythgkgjcnmahacaa
open Go.RowKit Go.OpenShut
set_option maxRecDepth 100000 in
set_option maxHeartbeats 1000000 in
theorem refRight_yes (w : World) (B : Nat) (v : Value) (l : List En) (floor seq : Int) (hv : RdE w B v l) (hf : (Lit.int .i64 floor).wf = true) (hs : (Lit.int .i64 seq).wf = true) (hh : headB l.length floor seq = true) :
    Calls Try.prog 72 #[v, .int .i64 floor, .int .i64 seq] w fun e w' => e = .returned (.bool (rightB l floor seq)) ∧ ∃ n, w' = w.drewN n := by
  obtain ⟨hok, p, c, rfl, hlc, hcm, hp0, hp⟩ := hv
  unfold maxLen at hcm
  have HH := Lib.hid hh
  unfold headB at hh
  simp only [decide_eq_true_eq] at hh
  obtain ⟨h1, h2, h3, h4⟩ := hh
  have hne : (seq - floor != (l.length : Int)) = false := by rw [bne_eq_false_iff_eq]; exact h4
  have hlen : (l.length : Int) ≤ 9007199254740991 := by omega
  have h5 : 0 ≤ seq := by omega
  have hok' := Lib.hid hok
  clear h4 hf hs hok
  go_enter Try.func72, Try.ntmps72
  go_wp2_with fail
  go_loopw [7] (fun i wr => ∃ k : Nat, k ≤ l.length ∧ i = .int .i64 k ∧ Hid (∀ j, j < k → okAt l floor j = true) ∧ ∃ n, wr = w.drewN n) (fun i _ => l.length - (intOf i).toNat)
  case atStart => exact ⟨0, Nat.zero_le _, rfl, fun j hj => by omega, 0, rfl⟩
  case round =>
    obtain ⟨k, hk, rfl, HO, nr, rfl⟩ := hrel
    by_cases hlt : k < l.length
    · obtain ⟨b1, o1, rfl, hb1, hc1⟩ := slice_at (k := k) hp0 hp (by omega)
      obtain ⟨x, hx, g10, g11, g12⟩ := hc1 k hlt
      have okx := get_ok hok'.out hx
      have HX := Lib.hid hx
      have bx := bounds_i64 okx.1
      have bw := bounds_i64 okx.2.2
      clear hx okx
      by_cases hbad : x.seq ≠ floor + 1 + k ∨ x.what < 1 ∨ 3 < x.what
      · have hd1 : x.seq = floor + 1 + k → 1 ≤ x.what → 3 < x.what := by omega
        have HB := Lib.hid (okAt_bad HX.out hbad)
        have hd2 : 1 ≤ x.what → x.what ≤ 3 → (x.seq != floor + 1 + k) = true := by
          intro a1 a2; rw [bne_iff_ne]; omega
        clear hbad hp hp0 hc1
        go_wp2_with fail
        all_goals (go_ret; exact ⟨ret_bool (rightB_bad hlt HB.out).symm, _, rfl⟩)
      · have hw1 : 1 ≤ x.what := by omega
        have hw3 : x.what ≤ 3 := by omega
        have hsq : (x.seq != floor + 1 + k) = false := by rw [bne_eq_false_iff_eq]; omega
        have hsE : Hid (x.seq = floor + 1 + k) := by unfold Hid; omega
        clear hbad
        go_wp2_with fail
        go_loopw [8, 9] (fun u j wr => ∃ m : Nat, m ≤ k ∧ j = .int .i64 m ∧ u = .int .i64 (lastW (l.take m) x.id) ∧ ∃ n, wr = w.drewN n) (fun _ j _ => k - (intOf j).toNat)
        case atStart => exact ⟨0, Nat.zero_le _, rfl, rfl, _, rfl⟩
        case round =>
          obtain ⟨m, hm, rfl, rfl, ni, rfl⟩ := hrel
          by_cases hmk : m < k
          · have hml : m < l.length := by omega
            obtain ⟨y, hy, gy0, gy1, gy2⟩ := hc1 m hml
            have HS := Lib.hid (lastW_take hy x.id)
            clear hy hc1
            by_cases hid : y.id = x.id
            · have hq : (y.id.toList == x.id.toList) = true := by rw [hid]; simp
              rw [if_pos hid] at HS
              clear hid
              go_wp2_with fail
              go_quiet (fail)
              go_wp2_with fail
              go_roundw
              case rel => exact ⟨m + 1, by omega, by go_num, by rw [HS.out], _, rfl⟩
              case measure => simp [intOf]; omega
            · have hq : (y.id.toList == x.id.toList) = false := by rw [toList_beq]; simp [hid]
              rw [if_neg hid] at HS
              clear hid
              go_wp2_with fail
              go_quiet (fail)
              go_wp2_with fail
              go_roundw
              case rel => exact ⟨m + 1, by omega, by go_num, by rw [HS.out], _, rfl⟩
              case measure => simp [intOf]; omega
          · obtain rfl : m = k := by omega
            have hOK := okAt_of (floor := floor) HX.out
            generalize lastW (l.take m) x.id = z at hOK ⊢
            cases hmay : mayB z x.what with
            | true =>
              rw [hmay, hsE.out] at hOK
              simp at hOK
              have HOK := Lib.hid hOK
              clear hOK
              have hnx : Hid (∀ j, j < m + 1 → okAt l floor j = true) := by
                intro j hj
                by_cases e : j = m
                · rw [e]; exact HOK.out
                · exact HO.out j (by omega)
              by_cases e1 : x.what = 1
              · have hz : (z != 0) = false := by rw [e1] at hmay; simpa [mayB] using hmay
                have q1 : (x.what == 1) = true := by rw [e1]; rfl
                have q2 : (x.what != 1) = false := by rw [e1]; rfl
                clear hmay e1
                go_wp2_with fail
                go_roundw
                case rel => exact ⟨m + 1, by omega, by go_num, hnx, _, rfl⟩
                case measure => simp [intOf]; omega
              · have hz : (z == 3) = false := by
                  have : x.what = 2 ∨ x.what = 3 := by omega
                  rcases this with e' | e' <;> rw [e'] at hmay <;> simpa [mayB] using hmay
                have q1 : (x.what == 1) = false := by simp [e1]
                have q2 : (x.what != 1) = true := by simp [e1]
                clear hmay e1
                go_wp2_with fail
                go_roundw
                case rel => exact ⟨m + 1, by omega, by go_num, hnx, _, rfl⟩
                case measure => simp [intOf]; omega
            | false =>
              rw [hmay, Bool.and_false] at hOK
              have HOK := Lib.hid (rightB_bad (seq := seq) hlt hOK)
              clear hOK
              by_cases e1 : x.what = 1
              · have hz : (z != 0) = true := by rw [e1] at hmay; simpa [mayB] using hmay
                have q1 : (x.what == 1) = true := by rw [e1]; rfl
                have q2 : (x.what != 1) = false := by rw [e1]; rfl
                clear hmay e1
                go_wp2_with fail
                go_ret
                exact ⟨ret_bool HOK.out.symm, _, rfl⟩
              · have hz : (z == 3) = true := by
                  have : x.what = 2 ∨ x.what = 3 := by omega
                  rcases this with e' | e' <;> rw [e'] at hmay <;> simpa [mayB] using hmay
                have q1 : (x.what == 1) = false := by simp [e1]
                have q2 : (x.what != 1) = true := by simp [e1]
                clear hmay e1
                go_wp2_with fail
                go_ret
                exact ⟨ret_bool HOK.out.symm, _, rfl⟩
    · obtain rfl : k = l.length := by omega
      have HR := Lib.hid (rightB_yes HH.out HO.out)
      go_wp2_with fail
      go_ret
      exact ⟨ret_bool HR.out.symm, _, rfl⟩

theorem refRight_any (w : World) (B : Nat) (v : Value) (l : List En) (floor seq : Int) (hv : RdE w B v l) (hf : (Lit.int .i64 floor).wf = true) (hs : (Lit.int .i64 seq).wf = true) :
    Calls Try.prog 72 #[v, .int .i64 floor, .int .i64 seq] w fun e w' => e = .returned (.bool (rightB l floor seq)) ∧ ∃ n, w' = w.drewN n := by
  cases hh : headB l.length floor seq with
  | true => exact refRight_yes w B v l floor seq hv hf hs hh
  | false => exact refRight_head w B v l floor seq hv hf hs hh
end Go.Proofs.Ythgkgjcnmahacaa
