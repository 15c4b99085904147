import Derived.Test.YthgkgjcnmahacaaSc02
/- tree.Same: whether two trees are the same but for the order of members. -/
set_option linter.unusedSimpArgs false
set_option linter.unusedVariables false
namespace Go.Proofs.Ythgkgjcnmahacaa
open Go.RowKit Go.OpenShut

/-- The same but for the order of members; of like names the first one counts. -/
inductive SameT : JV → JV → Prop
  | mk {k n : Int} {s : ByteArray} {l l' : List JV} {m m' : List (ByteArray × JV)} (el : l.length = l'.length) (em : m.length = m'.length) (cl : ∀ (i : Nat) (t u : JV), l[i]? = some t → l'[i]? = some u → SameT t u)
      (cf : ∀ (i : Nat) (p : ByteArray × JV), m[i]? = some p → m'.findIdx? (fun q => decide (q.1 = p.1)) ≠ none)
      (cm : ∀ (i j : Nat) (p q : ByteArray × JV), m[i]? = some p → m'.findIdx? (fun q => decide (q.1 = p.1)) = some j → m'[j]? = some q → SameT p.2 q.2) : SameT (.mk k n s l m) (.mk k n s l' m')

theorem run_makeMapN {P : Program} {t k e : TypeId} (hu : P.underlying t = some (.map k e)) (n : Int) (w : World) : (Instr.makeMap t (some (.int .i64 n))).run P w = .ok (.map (some w.heap.size)) (w.alloc (.map #[] 0)) := by
  simp [Instr.makeMap, run_underlying hu, asInt, asIntOf, Result.andThen]

section
variable {P : Program} (w : World) {ops : Array Oper} {rest : List Oper} {o : Oper} {a : Act} {Q : Exit → Act → World → Prop}
theorem wpList_look_ok_F (hg : o.guard = none) (m x : Operand) (t : TypeId) (hop : o.op = Op.lookup t m x true) (k e : TypeId) (hk : P.underlying k = some .string) (ht : P.underlying t = some (.map k e)) {z : Value} (hz : (zeroValue e).run P w = .ok z w)
    (b n : Nat) (f : List UInt8 → Option Value) (hm : a.eval m = .map (some b)) (hown : MapF w P k b n f) (s : ByteArray) (hx : a.eval x = .string s) (hs : s.size ≤ maxLen) {v : Value} {y : Bool} (hv : (f s.data.toList).getD z = v) (hy : (f s.data.toList).isSome = y)
    (hK : wpList P ops Q rest (a.put o.dst (.tuple #[v, .bool y])) w) : wpList P ops Q (o :: rest) a w := by
  refine wpList_plain hg fun K' hK' => ?_
  have hrun := hown.look_ok hk ht hz hs
  rw [hv, hy] at hrun
  unfold Oper.wp
  simp [execOp, hop, hm, hx, hrun, Result.andThen]
  exact hK' _ _ hK
end

/-- The first member of a name, as the map knows it. -/
def knownR (rms : List RM) (s : List UInt8) : Option Value := (rms.find? (fun q => decide (q.name.data.toList = s))).map (·.v.val)
theorem knownR_cons {rms : List RM} {i : Nat} {q : RM} (h : rms[i]? = some q) (s : List UInt8) : knownR (rms.drop i) s = if s = q.name.data.toList then some q.v.val else knownR (rms.drop (i + 1)) s := by
  obtain ⟨hi, e⟩ := List.getElem?_eq_some_iff.1 h
  rw [List.drop_eq_getElem_cons hi, e]
  unfold knownR
  rw [List.find?_cons]
  by_cases hs : q.name.data.toList = s
  · simp [hs]
  · have hs' : ¬ s = q.name.data.toList := fun h => hs h.symm
    simp [hs, hs']
theorem bytes_ext {a b : ByteArray} (h : a.data.toList = b.data.toList) : a = b := by
  obtain ⟨⟨x⟩⟩ := a
  obtain ⟨⟨y⟩⟩ := b
  simp only at h
  rw [h]
theorem knownR_some {m : List (ByteArray × JV)} {rms : List RM} {a : ByteArray} {j : Nat} (em : m.length = rms.length) (cn : ∀ (i : Nat) (p : ByteArray × JV) (q : RM), m[i]? = some p → rms[i]? = some q → p.1 = q.name) (h : m.findIdx? (fun q => decide (q.1 = a)) = some j) :
    ∃ q p, rms[j]? = some q ∧ m[j]? = some p ∧ knownR rms a.data.toList = some q.v.val := by
  rw [List.findIdx?_eq_some_iff_getElem] at h
  obtain ⟨h1, h2, h3⟩ := h
  have h4 : j < rms.length := by omega
  have hn : ∀ i (hi : i < m.length), rms[i]'(by omega) = rms[i]'(by omega) ∧ m[i].1 = (rms[i]'(by omega)).name := fun i hi => ⟨rfl, cn i _ _ (List.getElem?_eq_getElem hi) (List.getElem?_eq_getElem (by omega))⟩
  refine ⟨rms[j], m[j], List.getElem?_eq_getElem h4, List.getElem?_eq_getElem h1, ?_⟩
  have : rms.find? (fun q => decide (q.name.data.toList = a.data.toList)) = some rms[j] := by
    rw [List.find?_eq_some_iff_getElem]
    refine ⟨?_, j, h4, rfl, fun i hi => ?_⟩
    · have := (hn j h1).2
      simp only [decide_eq_true_eq] at h2 ⊢
      rw [← this, h2]
    · have h5 := (hn i (by omega)).2
      have h6 := h3 i hi
      simp only [decide_eq_true_eq, Bool.not_eq_true', decide_eq_false_iff_not] at h6 ⊢
      intro e
      exact h6 (h5.trans (bytes_ext e))
  unfold knownR
  rw [this]
  rfl
theorem knownR_none {m : List (ByteArray × JV)} {rms : List RM} {a : ByteArray} (em : m.length = rms.length) (cn : ∀ (i : Nat) (p : ByteArray × JV) (q : RM), m[i]? = some p → rms[i]? = some q → p.1 = q.name) (h : m.findIdx? (fun q => decide (q.1 = a)) = none) :
    knownR rms a.data.toList = none := by
  rw [List.findIdx?_eq_none_iff] at h
  have : rms.find? (fun q => decide (q.name.data.toList = a.data.toList)) = none := by
    rw [List.find?_eq_none]
    intro q hq
    obtain ⟨i, hi⟩ := List.getElem?_of_mem hq
    have hi' : i < m.length := by rw [em]; exact (List.getElem?_eq_some_iff.1 hi).1
    have h1 := h m[i] (List.getElem_mem hi')
    have h2 := cn i _ _ (List.getElem?_eq_getElem hi') hi
    simp only [decide_eq_true_eq, decide_eq_false_iff_not] at h1 ⊢
    exact fun e => h1 (h2.trans (bytes_ext e))
  unfold knownR
  rw [this]
  rfl

set_option maxRecDepth 100000 in
set_option maxHeartbeats 1000000 in
theorem sameT_no (r q : RV) (w : World) (p : Prop) (hp : p → r.k = q.k ∧ r.n = q.n ∧ r.s = q.s ∧ r.nl = q.nl ∧ r.nm = q.nm) (hno : ¬ (r.k = q.k ∧ r.n = q.n ∧ r.s = q.s ∧ r.nl = q.nl ∧ r.nm = q.nm)) :
    Calls Try.prog 35 #[r.val, q.val] w (Said w p) := by
  obtain ⟨k1, n1, s1, pl1, nl1, cl1, pm1, nm1, cm1⟩ := r
  obtain ⟨k2, n2, s2, pl2, nl2, cl2, pm2, nm2, cm2⟩ := q
  dsimp only [RV.val] at *
  have hfin : ∀ W', Below w.heap.size w W' → Said w p (.returned (.bool false)) W' := fun W' hb => ⟨false, rfl, by simp; exact fun h => hno (hp h), hb⟩
  have HF := Lib.hid hfin
  have hB := below2 w
  clear hfin hp
  by_cases a1 : k1 = k2
  · subst a1
    by_cases a2 : n1 = n2
    · subst a2
      by_cases a3 : s1 = s2
      · subst a3
        by_cases a4 : nl1 = nl2
        · subst a4
          have a5 : ((nm1 : Int) != (nm2 : Int)) = true := by
            rw [bne_iff_ne]
            intro h
            exact hno ⟨rfl, rfl, rfl, rfl, by omega⟩
          clear hno
          go_enter Try.func35, Try.ntmps35
          go_wp2_with fail
          go_ret
          exact HF.out _ (hB _ _)
        · have a5 : ((nl1 : Int) != (nl2 : Int)) = true := by rw [bne_iff_ne]; omega
          clear hno a4
          go_enter Try.func35, Try.ntmps35
          go_wp2_with fail
          go_ret
          exact HF.out _ (hB _ _)
      · have a5 : (s1.toList == s2.toList) = false := by rw [str_beq]; simpa using a3
        clear hno a3
        go_enter Try.func35, Try.ntmps35
        go_wp2_with fail
        go_ret
        exact HF.out _ (hB _ _)
    · have a5 : (n1 != n2) = true := by simpa using a2
      clear hno a2
      go_enter Try.func35, Try.ntmps35
      go_wp2_with fail
      go_ret
      exact HF.out _ (hB _ _)
  · have a5 : (k1 != k2) = true := by simpa using a1
    clear hno a1
    go_enter Try.func35, Try.ntmps35
    go_wp2_with fail
    go_ret
    exact HF.out _ (hB _ _)

set_option maxRecDepth 100000 in
set_option maxHeartbeats 4000000 in
theorem sameT_any (N : Nat) : ∀ (t u : JV) (r q : RV) (w : World), SizeOf.sizeOf t ≤ N → TreeOf w w.heap.size t r → TreeOf w w.heap.size u q → t.Ok → u.Ok →
    Calls Try.prog 35 #[r.val, q.val] w (Said w (SameT t u)) := by
  induction N with
  | zero => intro t u r q w hN; cases t; simp at hN
  | succ N ih =>
    intro t u r q w hN ht hu ot ou
    cases ht with
    | @mk _ l1 m1 rs1 rms1 hl1 el1 hcl1 hm1 em1 hcn1 hcm1 =>
    cases hu with
    | @mk _ l2 m2 rs2 rms2 hl2 el2 hcl2 hm2 em2 hcn2 hcm2 =>
    have eL1 := rd_nlen hl1
    have eL2 := rd_nlen hl2
    have eM1 := rd_nlen hm1
    have eM2 := rd_nlen hm2
    by_cases hall : r.k = q.k ∧ r.n = q.n ∧ r.s = q.s ∧ r.nl = q.nl ∧ r.nm = q.nm
    · obtain ⟨k1, n1, s1, pl1, nl1, cl1, pm1, nm1, cm1⟩ := r
      obtain ⟨k2, n2, s2, pl2, nl2, cl2, pm2, nm2, cm2⟩ := q
      dsimp only [RV.val] at *
      obtain ⟨rfl, rfl, rfl, rfl, rfl⟩ := hall
      cases ot with
      | mk _ _ _ bl1 bm1 okl1 oks1 okm1 =>
      cases ou with
      | mk _ _ _ bl2 bm2 okl2 oks2 okm2 =>
      have HT : Hid (∀ (k : Nat) tx ty x y, l1[k]? = some tx → l2[k]? = some ty → rs1[k]? = some x → rs2[k]? = some y → ∀ W, Below w.heap.size w W → Calls Try.prog 35 #[x.val, y.val] W (Said W (SameT tx ty))) :=
        fun k tx ty x y h1 h2 h3 h4 W hb => ih tx ty x y W (by have := JV.lt_l (k := k1) (n := n1) (s := s1) (m := m1) h1; omega) ((hcl1 k tx x h1 h3).under hb hb.size) ((hcl2 k ty y h2 h4).under hb hb.size) (okl1 k tx h1) (okl2 k ty h2)
      have HS : Hid (∀ (k j : Nat) tx ty x y, m1[k]? = some tx → m2[j]? = some ty → rms1[k]? = some x → rms2[j]? = some y → ∀ W, Below w.heap.size w W → Calls Try.prog 35 #[x.v.val, y.v.val] W (Said W (SameT tx.2 ty.2))) :=
        fun k j tx ty x y h1 h2 h3 h4 W hb => ih tx.2 ty.2 x.v y.v W (by have := JV.lt_m (k := k1) (n := n1) (s := s1) (l := l1) h1; omega) ((hcm1 k tx x h1 h3).under hb hb.size) ((hcm2 j ty y h2 h4).under hb hb.size) (okm1 k tx h1) (okm2 j ty h2)
      have HZ1 : Hid (∀ (i : Nat) (x : RM), rms1[i]? = some x → x.name.size ≤ maxLen) := fun i x hx => by
        have hi : i < m1.length := by have := (List.getElem?_eq_some_iff.1 hx).1; omega
        rw [← hcn1 i _ x (List.getElem?_eq_getElem hi) hx]
        have := oks1 i _ (List.getElem?_eq_getElem hi)
        unfold maxLen; omega
      have HZ2 : Hid (∀ (i : Nat) (x : RM), rms2[i]? = some x → x.name.size ≤ maxLen) := fun i x hx => by
        have hi : i < m2.length := by have := (List.getElem?_eq_some_iff.1 hx).1; omega
        rw [← hcn2 i _ x (List.getElem?_eq_getElem hi) hx]
        have := oks2 i _ (List.getElem?_eq_getElem hi)
        unfold maxLen; omega
      have HN1 := Lib.hid hcn1
      have HN2 := Lib.hid hcn2
      have HL1 := Lib.hid hl1
      have HL2 := Lib.hid hl2
      have HM1 := Lib.hid hm1
      have HM2 := Lib.hid hm2
      have hnl : nl1 ≤ 1759218604390 := by omega
      have hnm : nm1 ≤ 1466015503658 := by omega
      have E1 : Hid (l1.length = nl1 ∧ l2.length = nl1 ∧ rs1.length = nl1 ∧ rs2.length = nl1) := ⟨by omega, by omega, by omega, by omega⟩
      have E2 : Hid (m1.length = nm1 ∧ m2.length = nm1 ∧ rms1.length = nm1 ∧ rms2.length = nm1) := ⟨by omega, by omega, by omega, by omega⟩
      have hmk : ∀ (n : Int) (w : World), (Instr.makeMap 114 (some (.int .i64 n))).run Try.prog w = .ok (.map (some w.heap.size)) (w.alloc (.map #[] 0)) := fun n w => run_makeMapN Try.underlying114 n w
      have HMK := Lib.hid hmk
      clear ih hcl1 hcl2 hcm1 hcm2 hcn1 hcn2 hl1 hl2 hm1 hm2 okl1 okl2 okm1 okm2 oks1 oks2 el1 el2 em1 em2 eL1 eL2 eM1 eM2 bl1 bl2 bm1 bm2 hN hmk
      have hA0 : VAt ((w.alloc (.cells #[.int .i64 k1, .int .i64 n1, .string s1, .slice pl1 nl1 cl1, .slice pm1 nm1 cm1] 25)).alloc (.cells #[.int .i64 k1, .int .i64 n1, .string s1, .slice pl2 nl1 cl2, .slice pm2 nm1 cm2] 25)) w.heap.size ⟨k1, n1, s1, pl1, nl1, cl1, pm1, nm1, cm1⟩ := heap_alloc_lt (by simp) (heap_alloc_at rfl)
      have hA1 : VAt ((w.alloc (.cells #[.int .i64 k1, .int .i64 n1, .string s1, .slice pl1 nl1 cl1, .slice pm1 nm1 cm1] 25)).alloc (.cells #[.int .i64 k1, .int .i64 n1, .string s1, .slice pl2 nl1 cl2, .slice pm2 nm1 cm2] 25)) (w.heap.size + 1) ⟨k1, n1, s1, pl2, nl1, cl2, pm2, nm1, cm2⟩ := heap_alloc_at (by simp)
      have hB0 := below2 w (.cells #[.int .i64 k1, .int .i64 n1, .string s1, .slice pl1 nl1 cl1, .slice pm1 nm1 cm1] 25) (.cells #[.int .i64 k1, .int .i64 n1, .string s1, .slice pl2 nl1 cl2, .slice pm2 nm1 cm2] 25)
      go_enter Try.func35, Try.ntmps35
      go_upto_region 1 with fail
      obtain ⟨W0, hW0⟩ : ∃ W0, ((w.alloc (.cells #[.int .i64 k1, .int .i64 n1, .string s1, .slice pl1 nl1 cl1, .slice pm1 nm1 cm1] 25)).alloc (.cells #[.int .i64 k1, .int .i64 n1, .string s1, .slice pl2 nl1 cl2, .slice pm2 nm1 cm2] 25)) = W0 := ⟨_, rfl⟩
      rw [hW0] at hA0 hA1 hB0 ⊢
      clear hW0
      have p0 := hA0.cell 0 rfl
      have p1 := hA0.cell 1 rfl
      have p2 := hA0.cell 2 rfl
      have p3 := hA0.cell 3 rfl
      have p4 := hA0.cell 4 rfl
      have q0 := hA1.cell 0 rfl
      have q1 := hA1.cell 1 rfl
      have q2 := hA1.cell 2 rfl
      have q3 := hA1.cell 3 rfl
      have q4 := hA1.cell 4 rfl
      dsimp only at p0 p1 p2 p3 p4 q0 q1 q2 q3 q4
      have hz := hA1.lt
      clear hA0 hA1
      go_wp2_with fail
      go_loopw [52] (fun i wr => ∃ k : Nat, k ≤ nl1 ∧ i = .int .i64 k ∧ Hid (∀ (i : Nat) t u, i < k → l1[i]? = some t → l2[i]? = some u → SameT t u) ∧ Below W0.heap.size W0 wr) (fun i _ => nl1 - (intOf i).toNat)
      case atStart => exact ⟨0, Nat.zero_le _, rfl, fun i t u h => by omega, Below.refl _ _⟩
      case round =>
        obtain ⟨k, hk, rfl, hsm, hbr⟩ := hrel
        have hbw : Below w.heap.size w wr := hB0.trans (hbr.mono (by omega))
        have p3 := bcs hbr (by omega) p3
        have q3 := bcs hbr (by omega) q3
        by_cases hlt : k < nl1
        · obtain ⟨tx, htx⟩ : ∃ x, l1[k]? = some x := ⟨_, List.getElem?_eq_getElem (by have := E1.out; omega)⟩
          obtain ⟨ty, hty⟩ : ∃ x, l2[k]? = some x := ⟨_, List.getElem?_eq_getElem (by have := E1.out; omega)⟩
          obtain ⟨x, hx⟩ : ∃ x, rs1[k]? = some x := ⟨_, List.getElem?_eq_getElem (by have := E1.out; omega)⟩
          obtain ⟨y, hy⟩ : ∃ x, rs2[k]? = some x := ⟨_, List.getElem?_eq_getElem (by have := E1.out; omega)⟩
          obtain ⟨b1, o1, rfl, hb1, hc1⟩ := rd_at' (HL1.out.below hbw (Nat.le_refl _)) hx
          obtain ⟨b2, o2, rfl, hb2, hc2⟩ := rd_at' (HL2.out.below hbw (Nat.le_refl _)) hy
          have f0 := hc1 0 _ rfl
          have f1 := hc1 1 _ rfl
          have f2 := hc1 2 _ rfl
          have f3 := hc1 3 _ rfl
          have f4 := hc1 4 _ rfl
          have g0 := hc2 0 _ rfl
          have g1 := hc2 1 _ rfl
          have g2 := hc2 2 _ rfl
          have g3 := hc2 3 _ rfl
          have g4 := hc2 4 _ rfl
          rw [Nat.add_zero] at f0 g0
          have HC := Lib.hid (HT.out k tx ty x y htx hty hx hy)
          have hk0 : (0 : Int) ≤ (k : Int) := Int.natCast_nonneg _
          have hk1 : (k : Int) < (nl1 : Int) := by omega
          have HTX := Lib.hid htx
          have HTY := Lib.hid hty
          clear hc1 hc2 htx hty hx hy
          have hzr : W0.heap.size ≤ wr.heap.size := hbr.size
          have HBR := Lib.hid hbr
          clear hbr
          go_wp2_with fail
          go_region_held3 (fun w' => w'.cell? ⟨w.heap.size, 3, none⟩ = some (.slice (some ⟨b1, o1, none⟩) nl1 cl1) ∧ w'.cell? ⟨w.heap.size + 1, 3, none⟩ = some (.slice (some ⟨b2, o2, none⟩) nl1 cl2) ∧
              w'.cell? ⟨b1, o1 + k * 5, none⟩ = some (.int .i64 x.k) ∧ w'.cell? ⟨b1, o1 + k * 5 + 1, none⟩ = some (.int .i64 x.n) ∧ w'.cell? ⟨b1, o1 + k * 5 + 2, none⟩ = some (.string x.s) ∧ w'.cell? ⟨b1, o1 + k * 5 + 3, none⟩ = some (.slice x.pl x.nl x.cl) ∧ w'.cell? ⟨b1, o1 + k * 5 + 4, none⟩ = some (.slice x.pm x.nm x.cm) ∧
              w'.cell? ⟨b2, o2 + k * 5, none⟩ = some (.int .i64 y.k) ∧ w'.cell? ⟨b2, o2 + k * 5 + 1, none⟩ = some (.int .i64 y.n) ∧ w'.cell? ⟨b2, o2 + k * 5 + 2, none⟩ = some (.string y.s) ∧ w'.cell? ⟨b2, o2 + k * 5 + 3, none⟩ = some (.slice y.pl y.nl y.cl) ∧ w'.cell? ⟨b2, o2 + k * 5 + 4, none⟩ = some (.slice y.pm y.nm y.cm))
              (first | go_keep | (go_split_ands; refine ⟨?_, ?_, ?_, ?_, ?_, ?_, ?_, ?_, ?_, ?_, ?_, ?_⟩ <;> (rw [hb1'.cell (by simp; omega)]; assumption)))
              ((go_at_call 35; refine (HC.out _ ?_).mono ?_; (repeat (first | exact hbw | apply Below.drew)); rintro e w1 ⟨b, rfl, hbb, hb1'⟩; (have HBB := Lib.hid hbb); clear hbb))
          cases b with
          | true =>
            go_wp2_with fail
            go_roundw
            case rel =>
              refine ⟨k + 1, by omega, by go_num, fun i t u hi h1 h2 => ?_, HBR.out.drew.trans (hb1'.mono (by simp; omega))⟩
              by_cases hik : i = k
              · subst hik
                rw [HTX.out] at h1
                rw [HTY.out] at h2
                cases h1; cases h2
                exact HBB.out.1 rfl
              · exact hsm.out i t u (by omega) h1 h2
            case measure => simp [intOf]; omega
          | false =>
            go_wp2_with fail
            go_ret
            refine ⟨false, rfl, ?_, hbw.drew.trans (hb1'.mono hbw.size)⟩
            simp only [Bool.false_eq_true, false_iff]
            intro h
            cases h with
            | mk el em cl cf cm => exact absurd (HBB.out.2 (cl k tx ty HTX.out HTY.out)) (by simp)
        · obtain rfl : k = nl1 := by omega
          have hz1 : W0.heap.size ≤ wr.heap.size := hbr.size
          have hzz : w.heap.size + 1 < wr.heap.size := by omega
          have p4 := bcs hbr (by omega) p4
          have q4 := bcs hbr (by omega) q4
          have HSL : Hid (∀ (i : Nat) t u, l1[i]? = some t → l2[i]? = some u → SameT t u) := fun i t u h1 h2 => hsm.out i t u (by have := (List.getElem?_eq_some_iff.1 h1).1; have := E1.out; omega) h1 h2
          clear HT HL1 HL2 hsm hbr p3 q3
          obtain ⟨wo, rfl⟩ : ∃ wo : World, wo = wr := ⟨_, rfl⟩
          have hmk := HMK.out
          have hM0 : Hid (MapF (wo.alloc (.map #[] 0)) Try.prog 9 wo.heap.size 0 (fun _ => none)) := MapF.made wo Try.prog 9
          have hBo : Below wo.heap.size wo (wo.alloc (.map #[] 0)) := (Below.refl _ _).alloc (Nat.le_refl _) _
          go_upto_region 10 with fail
          have hq4 := bcs hBo hzz q4
          clear hmk HMK
          obtain ⟨W1, hW1⟩ : ∃ W1, wo.alloc (.map #[] 0) = W1 := ⟨_, rfl⟩
          rw [hW1] at hM0 hBo hq4 ⊢
          clear hW1
          go_wp2_with fail
          go_loopw [7] (fun i wq => ∃ j : Nat, j ≤ nm1 ∧ i = .int .i64 ((j : Int) - 1) ∧ Hid (MapF wq Try.prog 9 wo.heap.size (nm1 - j) (knownR (rms2.drop j))) ∧ Below wo.heap.size wo wq) (fun i _ => (intOf i + 1).toNat)
          case atStart =>
            refine ⟨nm1, Nat.le_refl _, by go_num, ?_, hBo⟩
            rw [show nm1 - nm1 = 0 by omega, List.drop_of_length_le (by have := E2.out; omega)]
            exact hM0
          case round =>
            obtain ⟨wq, rfl⟩ : ∃ wq : World, wq = wr := ⟨_, rfl⟩
            obtain ⟨j, hj, rfl, hMF, hbr⟩ := hrel
            have hbw2 : Below w.heap.size w wq := hbw.trans (hbr.mono (by omega))
            have p4 := bcs hbr (by omega) p4
            have q4 := bcs hbr hzz q4
            clear hq4
            by_cases hlt : 0 < j
            · obtain ⟨j, rfl⟩ : ∃ j', j = j' + 1 := ⟨j - 1, by omega⟩
              obtain ⟨y, hy⟩ : ∃ x, rms2[j]? = some x := ⟨_, List.getElem?_eq_getElem (by have := E2.out; omega)⟩
              obtain ⟨b2, o2, rfl, hb2, hc2⟩ := rd_at' (HM2.out.below hbw2 (Nat.le_refl _)) hy
              have g0 := hc2 0 _ rfl
              have g1 := hc2 1 _ rfl
              have g2 := hc2 2 _ rfl
              have g3 := hc2 3 _ rfl
              have g4 := hc2 4 _ rfl
              have g5 := hc2 5 _ rfl
              rw [Nat.add_zero] at g0
              have hz2 := HZ2.out j y hy
              obtain ⟨w5, hrun, hM5, hG5⟩ := MapF.store (MapF.of_block (w' := wq.drew) hMF.out rfl) Try.underlying9 Try.underlying114 (by unfold maxLen; omega) hz2 y.v.val
              have HY := Lib.hid hy
              have HM5 := Lib.hid hM5
              have HG5 := Lib.hid hG5
              have hj0 : (0 : Int) ≤ (j : Int) := Int.natCast_nonneg _
              have hj1 : (j : Int) < (nm1 : Int) := by omega
              have ej : ((j + 1 : Nat) : Int) - 1 = (j : Int) := by omega
              rw [ej]
              clear hy hc2 hM5 hG5 hz2 ej
              dsimp only [RV.val] at hrun
              go_wp2_with fail
              go_region
              clear hrun g0 g1 g2 g3 g4 g5
              go_wp2_with fail
              go_roundw
              case rel =>
                refine ⟨j, by omega, by go_num, ?_, (hbr.drew).trans ((Below.refl _ _).grown HG5.out (by have := hbr.size; simpa using this) (fun a e => by cases e; exact Nat.le_refl _))⟩
                have h1 := (HM5.out.mono (m := nm1 - j) (by omega))
                have h2 : (fun u => if u = y.name.data.toList then some y.v.val else knownR (rms2.drop (j + 1)) u) = knownR (rms2.drop j) := funext fun u => (knownR_cons HY.out u).symm
                rw [h2] at h1
                exact h1
              case measure => first | (simp [intOf]; done) | (simp [intOf]; omega)
            · obtain rfl : j = 0 := by omega
              have hMF : Hid (MapF wq Try.prog 9 wo.heap.size nm1 (knownR rms2)) := hMF.out
              have hbm : wo.heap.size < wq.heap.size := hMF.out.lt
              obtain ⟨W3, rfl⟩ : ∃ W3 : World, W3 = wq := ⟨_, rfl⟩
              clear q4 HM2 HZ2
              have ej : (((0 : Nat) : Int) - 1) = -1 := rfl
              rw [ej]
              clear ej
              go_wp2_with fail
              go_loopw [96] (fun i wq => ∃ k : Nat, k ≤ nm1 ∧ i = .int .i64 k ∧ Hid (∀ (i j : Nat) p q, i < k → m1[i]? = some p → m2[j]? = some q → m2.findIdx? (fun q => decide (q.1 = p.1)) = some j → SameT p.2 q.2) ∧ Hid (∀ (i : Nat) p, i < k → m1[i]? = some p → m2.findIdx? (fun q => decide (q.1 = p.1)) ≠ none) ∧ Below W3.heap.size W3 wq) (fun i _ => nm1 - (intOf i).toNat)
              case atStart => exact ⟨0, Nat.zero_le _, rfl, fun i j p q h => by omega, fun i p h => by omega, Below.refl _ _⟩
              case round =>
                obtain ⟨wq, rfl⟩ : ∃ wq : World, wq = wr := ⟨_, rfl⟩
                obtain ⟨k, hk, rfl, hsm, hfd, hbr3⟩ := hrel
                have hbw3 : Below w.heap.size w wq := hbw2.trans (hbr3.mono (by omega))
                have hsz3 := hbr3.size
                by_cases hlt : k < nm1
                · obtain ⟨tx, htx⟩ : ∃ x, m1[k]? = some x := ⟨_, List.getElem?_eq_getElem (by have := E2.out; omega)⟩
                  obtain ⟨x, hx⟩ : ∃ x, rms1[k]? = some x := ⟨_, List.getElem?_eq_getElem (by have := E2.out; omega)⟩
                  obtain ⟨b1, o1, rfl, hb1, hc1⟩ := rd_at' (HM1.out.below hbw3 (Nat.le_refl _)) hx
                  have f0 := hc1 0 _ rfl
                  have f1 := hc1 1 _ rfl
                  have f2 := hc1 2 _ rfl
                  have f3 := hc1 3 _ rfl
                  have f4 := hc1 4 _ rfl
                  have f5 := hc1 5 _ rfl
                  rw [Nat.add_zero] at f0
                  have en := HN1.out k tx x htx hx
                  have hzx := HZ1.out k x hx
                  have hk0 : (0 : Int) ≤ (k : Int) := Int.natCast_nonneg _
                  have hk1 : (k : Int) < (nm1 : Int) := by omega
                  have HMX : Hid (MapF (wq.alloc (.cells #[.string x.name, .int .i64 x.v.k, .int .i64 x.v.n, .string x.v.s, .slice x.v.pl x.v.nl x.v.cl, .slice x.v.pm x.v.nm x.v.cm] 90)) Try.prog 9 wo.heap.size nm1 (knownR rms2)) := (hMF.out.below hbr3 hbm).alloc _
                  have HZX := Lib.hid hzx
                  have HTX := Lib.hid htx
                  have HBR := Lib.hid hbr3
                  have HBW := Lib.hid hbw3
                  have hel : m2.length = rms2.length := by have := E2.out; omega
                  cases hfi : m2.findIdx? (fun q => decide (q.1 = tx.1)) with
                  | none =>
                    have hkn := knownR_none hel HN2.out hfi
                    rw [en] at hkn
                    have HKN := Lib.hid hkn
                    have HFI := Lib.hid hfi
                    clear hc1 htx hx en hzx hbr3 hbw3 hel hfi hkn
                    go_wp2_with (at_lookup; refine wpList_look_ok_F _ rfl _ _ _ rfl 9 25 Try.underlying9 Try.underlying114 (Try.zeroValue25 _) _ _ (knownR rms2) rfl HMX.out x.name rfl HZX.out (v := .agg #[.int .i64 0, .int .i64 0, .string ⟨#[]⟩, .slice none 0 0, .slice none 0 0]) (y := false) (by rw [HKN.out]; rfl) (by rw [HKN.out]; rfl) ?_; go_frame)
                    go_ret
                    refine ⟨false, rfl, ?_, (HBW.out.alloc HBW.out.size _).alloc (by have := HBW.out.size; simp; omega) _⟩
                    simp only [Bool.false_eq_true, false_iff]
                    intro h
                    cases h with
                    | mk el em cl cf cm => exact cf k tx HTX.out HFI.out
                  | some j =>
                    obtain ⟨y, py, hy, hpy, hkn⟩ := knownR_some hel HN2.out hfi
                    rw [en] at hkn
                    have HKN := Lib.hid hkn
                    have HFI := Lib.hid hfi
                    have HPY := Lib.hid hpy
                    have HC := Lib.hid (HS.out k j tx py x y htx hpy hx hy)
                    have hBq : Below w.heap.size w ((wq.alloc (.cells #[.string x.name, .int .i64 x.v.k, .int .i64 x.v.n, .string x.v.s, .slice x.v.pl x.v.nl x.v.cl, .slice x.v.pm x.v.nm x.v.cm] 90)).alloc (.cells #[.int .i64 y.v.k, .int .i64 y.v.n, .string y.v.s, .slice y.v.pl y.v.nl y.v.cl, .slice y.v.pm y.v.nm y.v.cm] 25)) := (hbw3.alloc hbw3.size _).alloc (by have := hbw3.size; simp; omega) _
                    have HBQ := Lib.hid hBq
                    clear hc1 htx hx en hzx hbr3 hbw3 hel hfi hkn hy hpy hBq
                    go_wp2_with (first
                      | (at_lookup; refine wpList_look_ok_F _ rfl _ _ _ rfl 9 25 Try.underlying9 Try.underlying114 (Try.zeroValue25 _) _ _ (knownR rms2) rfl HMX.out x.name rfl HZX.out (v := y.v.val) (y := true) (by rw [HKN.out]; rfl) (by rw [HKN.out]; rfl) ?_; go_frame)
                      | (go_at_call 35; refine (HC.out _ HBQ.out).mono ?_; rintro e w1 ⟨b, rfl, hbb, hb1'⟩; (have HBB := Lib.hid hbb); clear hbb; cases b))
                    · go_ret
                      refine ⟨false, rfl, ?_, HBQ.out.trans (hb1'.mono HBQ.out.size)⟩
                      simp only [Bool.false_eq_true, false_iff]
                      intro h
                      cases h with
                      | mk el em cl cf cm => exact absurd (HBB.out.2 (cm k j tx py HTX.out HFI.out HPY.out)) (by simp)
                    · go_roundw
                      case rel =>
                        refine ⟨k + 1, by omega, by go_num, fun i j' p q hi h1 h2 h3 => ?_, fun i p hi h1 => ?_, ((HBR.out.alloc HBR.out.size _).alloc (by have := HBR.out.size; simp; omega) _).trans (hb1'.mono (by simp; omega))⟩
                        · by_cases hik : i = k
                          · subst hik
                            rw [HTX.out] at h1
                            cases h1
                            rw [HFI.out] at h3
                            cases h3
                            rw [HPY.out] at h2
                            cases h2
                            exact HBB.out.1 (by simp)
                          · exact hsm.out i j' p q (by omega) h1 h2 h3
                        · by_cases hik : i = k
                          · subst hik
                            rw [HTX.out] at h1
                            cases h1
                            rw [HFI.out]
                            simp
                          · exact hfd.out i p (by omega) h1
                      case measure => simp [intOf]; omega
                · obtain rfl : k = nm1 := by omega
                  go_wp2_with fail
                  go_ret
                  refine ⟨true, rfl, ?_, hbw3⟩
                  simp only [true_iff]
                  exact .mk (by have := E1.out; omega) (by have := E2.out; omega) HSL.out (fun i p h => hfd.out i p (by have := (List.getElem?_eq_some_iff.1 h).1; have := E2.out; omega) h) (fun i j p q h1 h2 h3 => hsm.out i j p q (by have := (List.getElem?_eq_some_iff.1 h1).1; have := E2.out; omega) h1 h3 h2)
    · refine sameT_no r q w _ (fun h => ?_) hall
      generalize hA : JV.mk r.k r.n r.s l1 m1 = A at h
      generalize hB : JV.mk q.k q.n q.s l2 m2 = B at h
      cases h with
      | mk el em cl cf cm =>
        simp only [JV.mk.injEq] at hA hB
        obtain ⟨a1, a2, a3, a4, a5⟩ := hA
        obtain ⟨b1, b2, b3, b4, b5⟩ := hB
        subst a4 a5 b4 b5
        exact ⟨a1.trans b1.symm, a2.trans b2.symm, a3.trans b3.symm, by omega, by omega⟩
end Go.Proofs.Ythgkgjcnmahacaa
