import Derived.Test.YtfpgkiajggfadaaTrB
import Derived.Deep.DeepMust
set_option linter.unusedSimpArgs false
set_option linter.unusedVariables false
namespace Go.Proofs.Ytfpgkiajggfadaa
open Go.RowKit Go.OpenShut

def lastF (l : List En) (s : List UInt8) : Option Value := l.foldl (fun a e => if s = e.id.data.toList then some (.int .i64 e.what) else a) none
theorem lastF_take {l : List En} {j : Nat} {y : En} (hy : l[j]? = some y) : lastF (l.take (j + 1)) = fun s => if s = y.id.data.toList then some (.int .i64 y.what) else lastF (l.take j) s := by
  funext s
  rw [List.take_add_one, hy]
  simp [lastF]
theorem data_inj (a b : ByteArray) : a.data.toList = b.data.toList ↔ a = b := by
  obtain ⟨⟨x⟩⟩ := a
  obtain ⟨⟨y⟩⟩ := b
  simp
theorem lastF_W (l : List En) (id : ByteArray) : (lastF l id.data.toList).getD (.int .i64 0) = .int .i64 (lastW l id) := by
  suffices ∀ (l : List En) (o : Option Value) (a : Int), o.getD (.int .i64 0) = .int .i64 a →
    (l.foldl (fun a e => if id.data.toList = e.id.data.toList then some (.int .i64 e.what) else a) o).getD (.int .i64 0) = .int .i64 (l.foldl (fun a e => if e.id = id then e.what else a) a) from this l none 0 rfl
  intro l
  induction l with
  | nil => intro o a h; exact h
  | cons e l ih =>
    intro o a h
    simp only [List.foldl_cons]
    refine ih _ _ ?_
    by_cases h1 : e.id = id
    · rw [if_pos h1, if_pos (by rw [h1])]; rfl
    · rw [if_neg h1, if_neg (fun e1 => h1 ((data_inj _ _).1 e1).symm)]; exact h
theorem zeroInt (w : World) : (zeroValue 3).run Try.prog w = .ok (.int .i64 0) w := by kernel_rfl

set_option maxRecDepth 100000 in
set_option maxHeartbeats 1000000 in
theorem right_head (w : World) (B : Nat) (v : Value) (l : List En) (floor seq : Int) (hv : RdE w B v l) (hf : (Lit.int .i64 floor).wf = true) (hs : (Lit.int .i64 seq).wf = true) (hh : headB l.length floor seq = false) :
    Calls Try.prog 12 #[v, .int .i64 floor, .int .i64 seq] w fun e w' => e = .returned (.bool (rightB l floor seq)) ∧ Below w.heap.size w w' := by
  rw [rightB_no hh]
  obtain ⟨_, p, c, rfl, hlc, hcm, hp0, hp⟩ := hv
  unfold maxLen at hcm
  have b1 := bounds_i64 hf
  have b2 := bounds_i64 hs
  have hd : 0 ≤ floor → floor ≤ seq → seq ≤ 9007199254740991 → ((seq - floor != (l.length : Int)) = true) := by
    intro h1 h2 h3
    unfold headB at hh
    simp only [decide_eq_false_iff_not] at hh
    rw [bne_iff_ne]
    intro h4
    exact hh ⟨h1, h2, h3, h4⟩
  clear hh hp hp0
  go_enter Try.func12, Try.ntmps12
  go_wp2_with fail
  all_goals (go_ret; exact ⟨rfl, Below.refl _ _⟩)

set_option maxRecDepth 100000 in
set_option maxHeartbeats 1000000 in
theorem right_yes (w : World) (v : Value) (l : List En) (floor seq : Int) (hv : RdE w w.heap.size v l) (hf : (Lit.int .i64 floor).wf = true) (hs : (Lit.int .i64 seq).wf = true) (hh : headB l.length floor seq = true) :
    Calls Try.prog 12 #[v, .int .i64 floor, .int .i64 seq] w fun e w' => e = .returned (.bool (rightB l floor seq)) ∧ Below w.heap.size w w' := by
  obtain ⟨hok, p, c, rfl, hlc, hcm, hp0, hp⟩ := hv
  unfold maxLen at hcm
  have HH := Lib.hid hh
  unfold headB at hh
  simp only [decide_eq_true_eq] at hh
  obtain ⟨h1, h2, h3, h4⟩ := hh
  have hne : (seq - floor != (l.length : Int)) = false := by rw [bne_eq_false_iff_eq]; exact h4
  have hlen : (l.length : Int) ≤ 9007199254740991 := by omega
  have h5 : 0 ≤ seq := by omega
  have hok' := Lib.hid hok
  clear h4 hf hs hok
  have hmm := @run_makeMap Try.prog
  have HM0 := MapF.made w Try.prog 9
  have HB0 : Below w.heap.size w (w.alloc (.map #[] 0)) := (Below.refl _ w).alloc (Nat.le_refl _) _
  go_enter Try.func12, Try.ntmps12
  go_wp2_with fail
  clear hmm
  go_loopw [32] (fun i wr => ∃ k : Nat, k ≤ l.length ∧ i = .int .i64 k ∧ Hid (∀ j, j < k → okAt l floor j = true) ∧ MapF wr Try.prog 9 w.heap.size k (lastF (l.take k)) ∧ Below w.heap.size w wr) (fun i _ => l.length - (intOf i).toNat)
  case atStart => exact ⟨0, Nat.zero_le _, rfl, fun j hj => by omega, HM0, HB0⟩
  case round =>
    obtain ⟨k, hk, rfl, HO, HM, HB⟩ := hrel
    by_cases hlt : k < l.length
    · obtain ⟨b1, o1, rfl, hb1, hc1⟩ := slice_at (k := k) hp0 hp (by omega)
      obtain ⟨x, hx, g10, g11, g12⟩ := hc1 k hlt
      have okx := get_ok hok'.out hx
      have HX := Lib.hid hx
      have bx := bounds_i64 okx.1
      have bw := bounds_i64 okx.2.2
      have hxs := okx.2.1
      clear hx okx hp hp0 hc1
      rw [← HB.cell (p := ⟨_, _, none⟩) hb1] at g10 g11 g12
      have hlook : ∀ o, (Instr.lookup 59 (.map (some w.heap.size)) (.string x.id) false).run Try.prog (wr.alloc o) = .ok (.int .i64 (lastW (l.take k) x.id)) (wr.alloc o) := by
        intro o
        rw [(HM.alloc o).look Try.underlying9 Try.underlying59 (zeroInt _) hxs, lastF_W]
      have HT := Lib.hid (lastF_take HX.out)
      have HOK := Lib.hid (okAt_of (floor := floor) HX.out)
      cases hsq : (x.seq != floor + 1 + k) with
      | true =>
        have HBAD : Hid (okAt l floor k = false) := by
          rw [bne_iff_ne] at hsq
          exact okAt_bad HX.out (.inl hsq)
        go_wp2_with fail
        go_ret
        exact ⟨ret_bool (rightB_bad hlt HBAD.out).symm, HB.alloc HB.size _⟩
      | false =>
        cases hmay : mayB (lastW (l.take k) x.id) x.what with
        | false =>
          have HBAD : Hid (okAt l floor k = false) := by
            have := HOK.out
            rw [hmay, Bool.and_false] at this
            exact this
          go_wp2_with (go_at_call 35; refine (may_any _ _ _).mono ?_; rintro e w' ⟨rfl, rfl⟩)
          go_ret
          exact ⟨ret_bool (rightB_bad hlt HBAD.out).symm, HB.alloc HB.size _⟩
        | true =>
          have hnx : Hid (∀ j, j < k + 1 → okAt l floor j = true) := by
            intro j hj
            by_cases e : j = k
            · rw [e]
              have := HOK.out
              rw [hmay] at this
              rw [bne_eq_false_iff_eq] at hsq
              rw [this, hsq]; simp
            · exact HO.out j (by omega)
          have hkm : k < maxLen := by unfold maxLen; omega
          have HM1 := HM.alloc (.cells #[.int .i64 x.seq, .string x.id, .int .i64 x.what] 26)
          go_wp2_with (first | (go_at_call 35; refine (may_any _ _ _).mono ?_; rintro e w' ⟨rfl, rfl⟩) | (at_mapUpdate; go_must (refine wpList_store_F _ rfl _ _ _ _ rfl 9 3 Try.underlying9 Try.underlying59 _ _ _ rfl HM1 hkm _ rfl hxs _ rfl ?_); intro w1 hM2 hg2))
          go_roundw
          case rel => exact ⟨k + 1, by omega, by go_num, hnx, by rw [HT.out]; exact hM2, (HB.alloc HB.size _).grown hg2 (by simp; have := HB.size; omega) (fun j e => by cases e; exact Nat.le_refl _)⟩
          case measure => simp [intOf]; omega
    · obtain rfl : k = l.length := by omega
      have HR := Lib.hid (rightB_yes HH.out HO.out)
      go_wp2_with fail
      go_ret
      exact ⟨ret_bool HR.out.symm, HB⟩

theorem right_any (w : World) (v : Value) (l : List En) (floor seq : Int) (hv : RdE w w.heap.size v l) (hf : (Lit.int .i64 floor).wf = true) (hs : (Lit.int .i64 seq).wf = true) :
    Calls Try.prog 12 #[v, .int .i64 floor, .int .i64 seq] w fun e w' => e = .returned (.bool (rightB l floor seq)) ∧ Below w.heap.size w w' := by
  cases hh : headB l.length floor seq with
  | true => exact right_yes w v l floor seq hv hf hs hh
  | false => exact right_head w _ v l floor seq hv hf hs hh
end Go.Proofs.Ytfpgkiajggfadaa
