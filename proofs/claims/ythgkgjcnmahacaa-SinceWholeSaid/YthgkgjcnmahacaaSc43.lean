import Derived.Test.YthgkgjcnmahacaaSc42
/- The law that however few are told at once, together they are those that are told at once, walked. -/
set_option linter.unusedSimpArgs false
set_option linter.unusedVariables false
namespace Go.Proofs.Ythgkgjcnmahacaa
open Go.RowKit Go.OpenShut

section
variable {P : Program} {α : Type} {enc : α → List Value} {sz bytes : Nat} {t e : TypeId}
/-- An append that stands under a guard, within a region that draws its order. -/
theorem step_append_g {ops : Array Oper} {o : Oper} {a : Act} {K : Act → World → Prop} {Q : Exit → Act → World → Prop} {E : Prop} (S : SlT P t e sz bytes) (C : Codec enc sz) (w : World) (hw : Region.wanted o (yielded ops a.tmps) = true) (s x : Operand)
    (ho : o.op = .call { callee := .builtin .append, args := #[s, x], argTypes := #[t, t] }) {base B : Nat} {v u : Value} {xs ys : List α} (hs : a.eval s = v) (hx : a.eval x = u) (hown : Own w base e enc sz v xs) (hr : Rd w B enc sz u ys)
    (h63 : xs.length + ys.length ≤ maxLen) (hbytes : (xs.length + ys.length) * bytes ≤ 140737488355328) (hbase : base ≤ w.heap.size)
    (h : ∀ v' w', Own w' base e enc sz v' (xs ++ ys) → w.grownBy w' v.ownBlock → (v'.ownBlock = v.ownBlock ∨ v'.ownBlock = some w.heap.size) → K (a.put o.dst v') w') :
    if Region.wanted o (yielded ops a.tmps) = true then Oper.wp P o a w K Q else E := by
  rw [if_pos hw]
  exact wp_append_rd S C w s x ho hs hx hown hr h63 hbytes hbase h
end
set_option maxRecDepth 100000 in
set_option maxHeartbeats 2000000 in
theorem sub_any (w : World) (B : Nat) (u v : Value) (l m : List ByteArray) (hu : Rd w B encS 1 u l) (hv : Rd w B encS 1 v m) (hl : l.length ≤ 4398046510976) (hm : m.length ≤ 4398046510976) (hs : ∀ x ∈ l, x ∈ m) :
    Calls Try.prog 46 #[u, v] w fun e w' => e = .returned (.bool true) ∧ ∃ n, w' = w.drewN n := by
  obtain ⟨p, c, rfl, hlc, hcm⟩ := rd_len hu
  have HU := Lib.hid hu
  have HV := Lib.hid hv
  have HS : Hid ((∀ x ∈ l, x ∈ m) ∧ m.length ≤ 4398046510976) := ⟨hs, hm⟩
  obtain ⟨n, hn⟩ : ∃ n, l.length = n := ⟨_, rfl⟩
  have HN := Lib.hid hn
  have hno : n ≤ 4398046510976 := by omega
  rw [hn]
  clear hu hv hl hm hs hlc hcm hn
  go_enter Try.func46, Try.ntmps46
  go_wp2_with fail
  go_loopw [5] (fun i wr => ∃ k : Nat, k ≤ n ∧ i = .int .i64 k ∧ ∃ m, wr = w.drewN m) (fun i _ => n - (intOf i).toNat)
  case atStart => exact ⟨0, Nat.zero_le _, rfl, 0, rfl⟩
  case round =>
    obtain ⟨k, hk, rfl, nr, rfl⟩ := hrel
    by_cases hlt : k < n
    · obtain ⟨x, hx⟩ : ∃ x, l[k]? = some x := ⟨_, List.getElem?_eq_getElem (by have := HN.out; omega)⟩
      obtain ⟨b1, o1, rfl, hb1, hc1⟩ := rd_at HU.out hx
      have f0 := hc1 0 _ rfl
      rw [Nat.add_zero, Nat.mul_one] at f0
      have hk0 : (0 : Int) ≤ (k : Int) := Int.natCast_nonneg _
      have hk1 : (k : Int) < (n : Int) := by omega
      have HM : Hid (hasB m x = true) := by unfold Hid; rw [hasB_iff]; exact HS.out.1 x (List.mem_of_getElem? hx)
      clear hx hc1
      go_wp2_with fail
      refine (has_any _ B v m x (HV.out.drewN _) HS.out.2).mono ?_
      rintro e w2 ⟨rfl, n2, rfl⟩
      rw [HM.out]
      go_wp2_with fail
      go_roundw
      case rel => exact ⟨k + 1, by omega, by go_num, _, rfl⟩
      case measure => simp [intOf]; omega
    · obtain rfl : k = n := by omega
      go_wp2_with fail
      go_ret
      exact ⟨rfl, _, rfl⟩

/-- All together tell what is told at once. -/
theorem whole_ok {l : List En} {floor seq s most : Int} {d : ChD} {m c g : List ByteArray} (hr : rightB l floor seq = true) (hd : Told l seq s most d) (ha : AllI l seq s seq m c g) :
    (∀ x ∈ d.made, x ∈ m ++ c) ∧ (∀ x ∈ d.chgd, x ∈ m ++ c) ∧ ∀ x ∈ d.gone, x ∈ g := by
  refine ⟨fun x hx => ?_, fun x hx => ?_, fun x hx => ?_⟩
  · obtain ⟨p, hp, h1, h2, h3⟩ := (hd.made x).1 hx
    rw [List.mem_append, ← h1]
    exact (ha.full p hp (since_last hr hp).2.1).1 ((what_is p).1 h2)
  · obtain ⟨p, hp, h1, h2, h3⟩ := (hd.chgd x).1 hx
    rw [List.mem_append, ← h1]
    exact (ha.full p hp (since_last hr hp).2.1).1 ((what_is p).2.1 h2)
  · obtain ⟨p, hp, h1, h2, h3⟩ := (hd.gone x).1 hx
    rw [← h1]
    refine (ha.full p hp (since_last hr hp).2.1).2 ((what_is p).2.2.1 h2) ?_
    unfold whatP at h2
    cases hw : p.was
    · rw [hw] at h2
      cases hb : p.isb <;> rw [hb] at h2 <;> simp at h2
    · rfl

set_option maxRecDepth 200000 in
set_option maxHeartbeats 8000000 in
theorem sinceWhole_any (w : World) (b : BoxD) (r : RB) (seq most : Int) (hb : BoxOf w w.heap.size b r) (ob : b.Ok) (hwm : (Lit.int .i64 most).wf = true) :
    Calls Try.prog 11 #[r.val, .int .i64 seq, .int .i64 most] w fun e w' => e = .returned (.bool true) ∧ Below w.heap.size w w' := by
  have hA : Below w.heap.size w (w.alloc r.obj) := (Below.refl _ _).alloc (Nat.le_refl _) _
  have hS : BxS w (w.alloc r.obj) b r := ⟨heap_alloc_at rfl, hb.under hA hA.size, hA⟩
  have HEQ : Hid (b.floor = r.fl ∧ b.seq = r.sq) := ⟨hb.floor, hb.seq⟩
  have HOB := Lib.hid ob
  have HWM := Lib.hid hwm
  clear hb ob hwm hA
  go_enter Try.func11, Try.ntmps11
  go_upto_region 1 with fail
  obtain ⟨W0, hW0⟩ : ∃ W, w.alloc r.obj = W := ⟨_, rfl⟩
  rw [hW0] at hS
  dsimp only [RB.obj] at hW0
  rw [hW0]
  have HS0 := Lib.hid hS
  clear hW0 hS
  go_wp2_with fail
  refine (awake19_any _).mono ?_
  rintro e w1 ⟨rfl, hb1⟩
  have HS1 := Lib.hid (HS0.out.go hb1)
  clear hb1 HS0
  have c0 := HS1.out.box.cell 0 rfl
  have c1 := HS1.out.box.cell 1 rfl
  have c2 := HS1.out.box.cell 2 rfl
  have c3 := HS1.out.box.cell 3 rfl
  have c4 := HS1.out.box.cell 4 rfl
  go_wp2_with fail
  refine (few19_any b r [] (.slice none 0 0) w1 HS1.out.of HOB.out (Rd.nil _ _) (fun o h => by simp at h)).mono ?_
  rintro e w2 ⟨y, rfl, HF, hb2⟩
  have HS2 := Lib.hid (HS1.out.go hb2)
  clear hb2 HS1 c0 c1 c2 c3 c4
  cases y with
  | false =>
    go_wp2_with fail
    refine (awake19_any _).mono ?_
    rintro e w3 ⟨rfl, hb3⟩
    go_wp2_with fail
    go_ret
    exact ⟨rfl, (HS2.out.go hb3).below⟩
  | true =>
  have HF1 := Lib.hid (HF.out rfl)
  clear HF
  have c0 := HS2.out.box.cell 0 rfl
  have c1 := HS2.out.box.cell 1 rfl
  have c2 := HS2.out.box.cell 2 rfl
  have c3 := HS2.out.box.cell 3 rfl
  have c4 := HS2.out.box.cell 4 rfl
  by_cases h1 : seq < r.fl
  · have q1 : decide (seq < r.fl) = true := by simpa using h1
    clear h1
    go_wp2_with fail
    refine (awake19_any _).mono ?_
    rintro e w3 ⟨rfl, hb3⟩
    go_wp2_with fail
    go_ret
    exact ⟨rfl, (HS2.out.go hb3).below⟩
  have q1 : decide (seq < r.fl) = false := by simpa using h1
  by_cases h2 : r.sq < seq
  · have q2 : decide (r.sq < seq) = true := by simpa using h2
    clear h1 h2
    go_wp2_with fail
    refine (awake19_any _).mono ?_
    rintro e w3 ⟨rfl, hb3⟩
    go_wp2_with fail
    go_ret
    exact ⟨rfl, (HS2.out.go hb3).below⟩
  have q2 : decide (r.sq < seq) = false := by simpa using h2
  have HLO : Hid (b.floor ≤ seq ∧ seq ≤ b.seq ∧ ¬ (seq < b.floor ∨ b.seq < seq)) := by unfold Hid; rw [HEQ.out.1, HEQ.out.2]; omega
  clear h1 h2
  go_upto_region 4 with (go_at_call 42; refine (changes_any b r seq 0 _ HS2.out.of HOB.out (by decide)).mono ?_; rintro e w3 ⟨h1, hb1⟩; rw [if_neg HLO.out.2.2] at h1; obtain ⟨ys, r1, hys, rfl, hn⟩ := h1; go_frame)
  have hT := told_ok (most := 0) HF1.out.2.2.2.2.2.2.2.1 hys HLO.out.2.1
  have hmf : (sncD b.seq ys 0).more = false := by rw [sncD_all (by omega)]
  obtain ⟨d1, hd1⟩ : ∃ d, sncD b.seq ys 0 = d := ⟨_, rfl⟩
  rw [hd1] at hn hT hmf
  have hS3 := HS2.out.chs.push hb1 hn
  have hm1 : r1.more = false := by rw [← hn.more]; exact hmf
  obtain ⟨g1, hg1⟩ : ∃ g, w3.heap.size = g := ⟨_, rfl⟩
  obtain ⟨W3, hW3⟩ : ∃ W, w3.alloc r1.obj = W := ⟨_, rfl⟩
  rw [hg1, hW3] at hS3
  dsimp only [RC.obj] at hW3
  rw [hW3, hg1]
  have HS3 := Lib.hid hS3
  have HT := Lib.hid hT
  have HM1 := Lib.hid hm1
  clear hW3 hg1 hS3 hb1 hn hys hd1 hT hm1 hmf c0 c1 c2 c3 c4 HS2 q1 q2
  have c0 := HS3.out.box.cell 0 rfl
  have c1 := HS3.out.box.cell 1 rfl
  have c2 := HS3.out.box.cell 2 rfl
  have c3 := HS3.out.box.cell 3 rfl
  have c4 := HS3.out.box.cell 4 rfl
  go_upto_region 5 with (go_at_call 45; refine (all_any _ b r seq most HS3.out.of HOB.out HF1.out.2.2.2 (by have := HF1.out.2.2.1; omega) HLO.out.1 HLO.out.2.1 HWM.out).mono ?_; rintro e w4 ⟨rc, m, c, g, rfl, hn, hall, hlen, hb1⟩; go_frame)
  have hS4 := HS3.out.push hb1 hn
  have hok := whole_ok HF1.out.2.2.2.2.2.2.2.1 HT.out hall
  obtain ⟨g2, hg2⟩ : ∃ g, w4.heap.size = g := ⟨_, rfl⟩
  obtain ⟨W4, hW4⟩ : ∃ W, w4.alloc rc.obj = W := ⟨_, rfl⟩
  rw [hg2, hW4] at hS4
  dsimp only [RC.obj] at hW4
  rw [hW4, hg2]
  have HS4 := Lib.hid hS4
  have HOK := Lib.hid hok
  have HLN := Lib.hid hlen
  have HL1 : Hid (d1.made.length ≤ 300 ∧ d1.chgd.length ≤ 300 ∧ d1.gone.length ≤ 300) := by have h1 := HT.out.len; have h2 := HF1.out.2.2.1; unfold Hid; omega
  clear hW4 hg2 hS4 hok hlen hall hb1 hn c0 c1 c2 c3 c4 HS3 HT
  have HC1 := Lib.hid (HS4.out.chg (g1, r1, d1) (by simp))
  have HC2 := Lib.hid (HS4.out.chg (g2, rc, ⟨m, c, g, b.seq, false⟩) (by simp))
  try dsimp only at HC1 HC2
  have z1 := HC1.out.1.lt
  have z2 := HC2.out.1.lt
  try dsimp only at z1 z2
  have d0 := HC1.out.1.cell 0 rfl
  have d1 := HC1.out.1.cell 1 rfl
  have d2 := HC1.out.1.cell 2 rfl
  have d3 := HC1.out.1.cell 3 rfl
  have d4 := HC1.out.1.cell 4 rfl
  rw [HM1.out] at d4
  have f0 := HC2.out.1.cell 0 rfl
  have f1 := HC2.out.1.cell 1 rfl
  have f2 := HC2.out.1.cell 2 rfl
  have f3 := HC2.out.1.cell 3 rfl
  have f4 := HC2.out.1.cell 4 rfl
  go_upto_region 7 with fail
  have C1 : Hid (∀ W', KB W4.heap.size W4 W' → Calls Try.prog 46 #[.slice r1.pc r1.nc r1.cc, .slice rc.pc rc.nc rc.cc] W' fun e w' => e = .returned (.bool true) ∧ Below W'.heap.size W' w') := fun W' hk => (sub_any W' W'.heap.size _ _ _ _ (HC1.out.2.gone.below hk.1 hk.1.size) (HC2.out.2.gone.below hk.1 hk.1.size) (by have := HL1.out.2.2; omega) (Nat.le_trans HLN.out.2.2 (by decide)) HOK.out.2.2).mono (fun e w' h => ⟨h.1, by obtain ⟨n, hn⟩ := h.2; rw [hn]; exact bdn (Below.refl _ _) n⟩)
  have C2 : Hid (∀ (W' : World) (u : Value), Rd W' W'.heap.size encS 1 u (m ++ c) → KB W4.heap.size W4 W' → Calls Try.prog 46 #[.slice r1.pa r1.na r1.ca, u] W' fun e w' => e = .returned (.bool true) ∧ Below W'.heap.size W' w') := fun W' u hu hk => (sub_any W' W'.heap.size _ _ _ _ (HC1.out.2.made.below hk.1 hk.1.size) hu (by have := HL1.out.1; omega) (by have := HLN.out; rw [List.length_append]; omega) HOK.out.1).mono (fun e w' h => ⟨h.1, by obtain ⟨n, hn⟩ := h.2; rw [hn]; exact bdn (Below.refl _ _) n⟩)
  have C3 : Hid (∀ (W' : World) (u : Value), Rd W' W'.heap.size encS 1 u (m ++ c) → KB W4.heap.size W4 W' → Calls Try.prog 46 #[.slice r1.pb r1.nb r1.cb, u] W' fun e w' => e = .returned (.bool true) ∧ Below W'.heap.size W' w') := fun W' u hu hk => (sub_any W' W'.heap.size _ _ _ _ (HC1.out.2.chgd.below hk.1 hk.1.size) hu (by have := HL1.out.2.1; omega) (by have := HLN.out; rw [List.length_append]; omega) HOK.out.2.1).mono (fun e w' h => ⟨h.1, by obtain ⟨n, hn⟩ := h.2; rw [hn]; exact bdn (Below.refl _ _) n⟩)
  have RM : Hid (∀ W', KB W4.heap.size W4 W' → Rd W' W'.heap.size encS 1 (.slice rc.pa rc.na rc.ca) m ∧ Rd W' W'.heap.size encS 1 (.slice rc.pb rc.nb rc.cb) c) := fun W' hk => ⟨HC2.out.2.made.below hk.1 hk.1.size, HC2.out.2.chgd.below hk.1 hk.1.size⟩
  have B1 : Hid (∀ (W' : World) (w9 : World), KB W4.heap.size W4 (W'.alloc (.cells #[] 9)) → W4.heap.size ≤ W'.heap.size → (W'.alloc (.cells #[] 9)).grownBy w9 (Value.slice (some ⟨W'.heap.size, 0, none⟩) 0 0).ownBlock → KB W4.heap.size W4 w9) := fun W' w9 hk hz hg => KB.mk (hk.1.grown hg hk.1.size (fun k e => by simp [Value.ownBlock] at e; omega))
  have B2 : Hid (∀ (W' : World) (v : Value) (w9 : World) (l : List ByteArray), KB W4.heap.size W4 W' → Own W' W4.heap.size 9 encS 1 v l → W'.grownBy w9 v.ownBlock → KB W4.heap.size W4 w9) := fun W' v w9 l hk ho hg => KB.mk (hk.1.grown hg hk.1.size (fun k e => (ho.lt k e).1))
  go_region_held3 (fun w' => Below W4.heap.size W4 w' ∧ ∀ b o, b < W4.heap.size → w'.cell? ⟨b, o, none⟩ = W4.cell? ⟨b, o, none⟩)
    (first | with_reducible exact kt_drew W4 | with_reducible exact kt_same hbk | with_reducible exact kt_alloc hbk _)
    (first
      | (have h13 := HO13; go_at_call 46; refine (C3.out w13 _ (HO13.out.rd codecS) (by assumption)).mono ?_; rintro e w14 ⟨rfl, hb14⟩; (have hbk := KB.step (W := W4) (by assumption) hb14))
      | (have h10 := HO10; go_at_call 46; refine (C2.out w10 _ (HO10.out.rd codecS) (by assumption)).mono ?_; rintro e w11 ⟨rfl, hb11⟩; (have hbk := KB.step (W := W4) (by assumption) hb11); (have hz11 := hbk.1.size))
      | (go_at_call 46; refine (C1.out _ (by assumption)).mono ?_; rintro e w8 ⟨rfl, hb8⟩; (have hbk := KB.step (W := W4) (by assumption) hb8); (have hz8 := hbk.1.size))
      | (refine step_append_g slS codecS (w8.alloc (.cells #[] 9)) (by rfl) (.tmp 62) (.tmp 64) (by rfl) (v := .slice (some ⟨w8.heap.size, 0, none⟩) 0 0) (by rfl) (by rfl) (base := W4.heap.size) (xs := []) (Own.made hz8) (RM.out _ (by assumption)).1 (by have := HLN.out.1; unfold maxLen; simp; omega) (by have := HLN.out.1; simp; omega) (by simp; omega) ?_
         intro v9 w9 ho9 hg9 hat9
         obtain ⟨p9, n9, c9, rfl⟩ : ∃ p n c, v9 = Value.slice p n c := (by obtain ⟨p, c, hv, h1, h2⟩ := ho9.len; exact ⟨p, _, c, hv⟩)
         have hbk := B1.out w8 w9 (by assumption) hz8 hg9
         rw [List.nil_append] at ho9
         have HO9 := Lib.hid ho9)
      | (refine step_append_g slS codecS w9 (by rfl) (.tmp 65) (.tmp 67) (by rfl) (v := .slice p9 n9 c9) (by rfl) (by rfl) HO9.out (RM.out _ (by assumption)).2 (by have := HLN.out; unfold maxLen; omega) (by have := HLN.out; omega) (by assumption : KB W4.heap.size W4 w9).1.size ?_
         intro v10 w10 ho10 hg10 hat10
         obtain ⟨p10, n10, c10, rfl⟩ : ∃ p n c, v10 = Value.slice p n c := (by obtain ⟨p, c, hv, h1, h2⟩ := ho10.len; exact ⟨p, _, c, hv⟩)
         have hbk := B2.out w9 _ w10 _ (by assumption) HO9.out hg10
         have HO10 := Lib.hid ho10)
      | (refine step_append_g slS codecS (w11.alloc (.cells #[] 9)) (by rfl) (.tmp 74) (.tmp 76) (by rfl) (v := .slice (some ⟨w11.heap.size, 0, none⟩) 0 0) (by rfl) (by rfl) (base := W4.heap.size) (xs := []) (Own.made hz11) (RM.out _ (by assumption)).1 (by have := HLN.out.1; unfold maxLen; simp; omega) (by have := HLN.out.1; simp; omega) (by simp; omega) ?_
         intro v12 w12 ho12 hg12 hat12
         obtain ⟨p12, n12, c12, rfl⟩ : ∃ p n c, v12 = Value.slice p n c := (by obtain ⟨p, c, hv, h1, h2⟩ := ho12.len; exact ⟨p, _, c, hv⟩)
         have hbk := B1.out w11 w12 (by assumption) hz11 hg12
         rw [List.nil_append] at ho12
         have HO12 := Lib.hid ho12)
      | (refine step_append_g slS codecS w12 (by rfl) (.tmp 77) (.tmp 79) (by rfl) (v := .slice p12 n12 c12) (by rfl) (by rfl) HO12.out (RM.out _ (by assumption)).2 (by have := HLN.out; unfold maxLen; omega) (by have := HLN.out; omega) (by assumption : KB W4.heap.size W4 w12).1.size ?_
         intro v13 w13 ho13 hg13 hat13
         obtain ⟨p13, n13, c13, rfl⟩ : ∃ p n c, v13 = Value.slice p n c := (by obtain ⟨p, c, hv, h1, h2⟩ := ho13.len; exact ⟨p, _, c, hv⟩)
         have hbk := B2.out w12 _ w13 _ (by assumption) HO12.out hg13
         have HO13 := Lib.hid ho13)
      | fail)
  all_goals (
    rename (Below W4.heap.size W4 _ ∧ _) => hkb
    go_wp2_with fail
    go_ret
    exact ⟨rfl, HS4.out.below.trans (hkb.1.mono HS4.out.below.size)⟩)
end Go.Proofs.Ythgkgjcnmahacaa
