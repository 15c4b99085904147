import Derived.Deep.CutBlock
import Derived.BigQuiet
import Derived.Test.YthgkgjcnmahacaaSc42
import Derived.Test.YthgkgjcnmahacaaSc45
import Derived.Test.YthgkgjcnmahacaaSc39
/- The law of rounds, walked. -/
set_option linter.unusedSimpArgs false
set_option linter.unusedVariables false
namespace Go.Proofs.Ythgkgjcnmahacaa
open Go.RowKit Go.OpenShut

/-- The two boxes, what changed, and what is told. -/
structure RdS (w W : World) (b now : BoxD) (r rn : RB) (gn gc : Nat) (rc : RC) (m c g : List ByteArray) (pt : Option Addr) (nt ct : Nat) : Prop where
  box : BoxAt W w.heap.size r
  of : BoxOf W W.heap.size b r
  nbx : BoxAt W gn rn
  nof : BoxOf W W.heap.size now rn
  chg : ChAt W gc rc
  cof : ChgOf W W.heap.size ⟨m, c, g, now.seq, false⟩ rc
  told : Rd W W.heap.size encS 1 (.slice pt nt ct) (m ++ c ++ g)
  below : Below w.heap.size w W
theorem RdS.go {w W W' : World} {b now : BoxD} {r rn : RB} {gn gc : Nat} {rc : RC} {m c g : List ByteArray} {pt : Option Addr} {nt ct : Nat} (h : RdS w W b now r rn gn gc rc m c g pt nt ct) (hb : Below W.heap.size W W') : RdS w W' b now r rn gn gc rc m c g pt nt ct :=
  ⟨h.box.under hb h.box.lt, h.of.under hb hb.size, h.nbx.under hb h.nbx.lt, h.nof.under hb hb.size, h.chg.under hb h.chg.lt, h.cof.under hb hb.size, h.told.below hb hb.size, h.below.trans (hb.mono h.below.size)⟩

theorem nodup_take {l : List ByteArray} (h : l.Nodup) {k : Nat} {x : ByteArray} (hx : l[k]? = some x) : hasB (l.take k) x = false := by
  rw [Bool.eq_false_iff]
  intro hm
  rw [hasB_iff] at hm
  rw [← List.take_append_drop k l, List.nodup_append] at h
  exact h.2.2 x hm x (List.mem_of_getElem? (i := 0) (by rw [List.getElem?_drop]; exact hx)) rfl
/-- An object of a box, where it lies. -/
theorem ObjsOf.at {w : World} {B n c : Nat} {os : List (ByteArray × JV)} {p : Option Addr} (h : ObjsOf w B os (.slice p n c)) {k : Nat} (hk : k < n) :
    ∃ (x : RM) (t : JV) (b o : Nat), os[k]? = some (x.name, t) ∧ TreeOf w B t x.v ∧ p = some ⟨b, o, none⟩ ∧ b < B ∧ ∀ j u, (encM x)[j]? = some u → w.cell? ⟨b, o + k * 6 + j, none⟩ = some u := by
  obtain ⟨ros, h1, h2⟩ := h
  have h3 := rd_nlen h1
  have h4 := h2.len
  obtain ⟨x, hx⟩ : ∃ x, ros[k]? = some x := ⟨_, List.getElem?_eq_getElem (by omega)⟩
  obtain ⟨y, hy⟩ : ∃ y, os[k]? = some y := ⟨_, List.getElem?_eq_getElem (by omega)⟩
  obtain ⟨b, o, hp, hb, hc⟩ := rd_at' h1 hx
  have hn := h2.name k y x hy hx
  refine ⟨x, y.2, b, o, by rw [hy, ← hn], h2.val k y x hy hx, hp, hb, hc⟩
set_option maxRecDepth 200000 in
set_option maxHeartbeats 16000000 in
theorem sinceRounds_any (w : World) (b : BoxD) (r : RB) (ops : List (RO × JV)) (v : Value) (most : Int) (hb : BoxOf w w.heap.size b r) (ob : b.Ok) (hv : Rd w w.heap.size encOp 7 v (ops.map (·.1))) (ht : ∀ o ∈ ops, TreeOf w w.heap.size o.2 o.1.v) (ho : ∀ o ∈ ops, OpOk o.1 o.2) (hwm : (Lit.int .i64 most).wf = true) :
    Calls Try.prog 12 #[r.val, v, .int .i64 most] w fun e w' => e = .returned (.bool true) ∧ Below w.heap.size w w' := by
  have hA : Below w.heap.size w (w.alloc r.obj) := (Below.refl _ _).alloc (Nat.le_refl _) _
  have hS : BxS w (w.alloc r.obj) b r := ⟨heap_alloc_at rfl, hb.under hA hA.size, hA⟩
  have HEQ : Hid (b.floor = r.fl ∧ b.seq = r.sq) := ⟨hb.floor, hb.seq⟩
  have HTR : Hid (∀ x ∈ b.trail, x.ok) := (rdE_iff.1 hb.trail).1
  have HOB := Lib.hid ob
  have HWM := Lib.hid hwm
  have HV := Lib.hid hv
  have HTO : Hid (∀ W, Below w.heap.size w W → ∀ o ∈ ops, TreeOf W W.heap.size o.2 o.1.v ∧ OpOk o.1 o.2) := fun W hW o h => ⟨(ht o h).under hW hW.size, ho o h⟩
  have HOO := Lib.hid ho
  obtain ⟨pv, cv, rfl, _, _⟩ := rd_len hv
  clear hb ob hwm hA hv ht ho
  obtain ⟨nv, hnv⟩ : ∃ n, (ops.map (·.1)).length = n := ⟨_, rfl⟩
  rw [hnv] at HV
  rw [hnv]
  clear hnv
  go_enter Try.func12, Try.ntmps12
  go_upto_region 1 with fail
  obtain ⟨W0, hW0⟩ : ∃ W, w.alloc r.obj = W := ⟨_, rfl⟩
  rw [hW0] at hS
  dsimp only [RB.obj] at hW0
  rw [hW0]
  have HS0 := Lib.hid hS
  clear hW0 hS
  go_wp2_with fail
  refine (awake19_any _).mono ?_
  rintro e w1 ⟨rfl, hb1⟩
  have HS1 := Lib.hid (HS0.out.go hb1)
  clear hb1 HS0
  have c0 := HS1.out.box.cell 0 rfl
  have c1 := HS1.out.box.cell 1 rfl
  have c2 := HS1.out.box.cell 2 rfl
  have c3 := HS1.out.box.cell 3 rfl
  have c4 := HS1.out.box.cell 4 rfl
  go_wp2_with fail
  refine (few19_any b r ops (.slice pv nv cv) w1 HS1.out.of HOB.out (HV.out.below HS1.out.below HS1.out.below.size) (HTO.out w1 HS1.out.below)).mono ?_
  rintro e w2 ⟨y, rfl, HF, hb2⟩
  have HS2 := Lib.hid (HS1.out.go hb2)
  clear hb2 HS1 c0 c1 c2 c3 c4
  cases y with
  | false =>
    go_wp2_with fail
    refine (awake19_any _).mono ?_
    rintro e w3 ⟨rfl, hb3⟩
    go_wp2_with fail
    go_ret
    exact ⟨rfl, (HS2.out.go hb3).below⟩
  | true =>
  have HF1 := Lib.hid (HF.out rfl)
  clear HF
  have HG0 : Hid (Good b 100 300) := ⟨HOB.out, HTR.out, rise_iff.1 HF1.out.2.2.2.1, HF1.out.2.1, HF1.out.2.2.1⟩
  have hpi := play_inv (b := b) ops (PlayI.start HF1.out.2.2.2)
  have hgp := HG0.out.play HOO.out (by have := HF1.out.1; omega) (by have := HF1.out.1; omega) ops.length (Nat.le_refl _)
  rw [List.take_length] at hgp
  have c0 := HS2.out.box.cell 0 rfl
  have c1 := HS2.out.box.cell 1 rfl
  have c2 := HS2.out.box.cell 2 rfl
  have c3 := HS2.out.box.cell 3 rfl
  have c4 := HS2.out.box.cell 4 rfl
  go_upto_region 4 with (go_at_call 47; refine (play_any b r ops (.slice pv nv cv) _ 100 300 HS2.out.of HG0.out (HV.out.below HS2.out.below HS2.out.below.size) (HTO.out _ HS2.out.below) (by have := HF1.out.1; omega) (by have := HF1.out.1; omega)).mono ?_; rintro e w3 ⟨rn, rfl, hn, hb1⟩; go_frame)
  obtain ⟨now, hnow⟩ : ∃ d, playB b ops = d := ⟨_, rfl⟩
  have hpi2 : PlayI b now := by rw [← hnow]; exact hpi
  rw [hnow] at hn hgp
  have hA3 : Below w3.heap.size w3 (w3.alloc rn.obj) := (Below.refl _ _).alloc (Nat.le_refl _) _
  have hS3 := HS2.out.go (hb1.alloc hb1.size rn.obj)
  have hN3 : BoxAt (w3.alloc rn.obj) w3.heap.size rn := heap_alloc_at rfl
  have hO3 := hn.under hA3 hA3.size
  obtain ⟨gn, hgn⟩ : ∃ g, w3.heap.size = g := ⟨_, rfl⟩
  obtain ⟨W3, hW3⟩ : ∃ W, w3.alloc rn.obj = W := ⟨_, rfl⟩
  rw [hgn, hW3] at hN3
  rw [hW3] at hS3 hO3
  dsimp only [RB.obj] at hW3
  rw [hW3, hgn]
  have HS3 := Lib.hid hS3
  have HN3 := Lib.hid hN3
  have HO3 := Lib.hid hO3
  have HPI := Lib.hid hpi2
  have HGN := Lib.hid hgp
  have HNE : Hid (now.floor = rn.fl ∧ now.seq = rn.sq) := ⟨hn.floor, hn.seq⟩
  clear hS3 hN3 hO3 hpi2 hpi hgp hnow hn hW3 hgn hA3 hb1 c0 c1 c2 c3 c4 HS2 HG0
  have c0 := HS3.out.box.cell 0 rfl
  have c1 := HS3.out.box.cell 1 rfl
  have c2 := HS3.out.box.cell 2 rfl
  have c3 := HS3.out.box.cell 3 rfl
  have c4 := HS3.out.box.cell 4 rfl
  have d0 := HN3.out.cell 0 rfl
  have d1 := HN3.out.cell 1 rfl
  have d2 := HN3.out.cell 2 rfl
  have d3 := HN3.out.cell 3 rfl
  have d4 := HN3.out.cell 4 rfl
  have z0 := HS3.out.box.lt
  have z1 := HN3.out.lt
  by_cases hfl : r.sq < rn.fl
  · have q1 : decide (r.sq < rn.fl) = true := by simpa using hfl
    have HE : Hid (b.seq = r.sq ∧ (r.sq < now.floor ∨ now.seq < r.sq)) := ⟨HEQ.out.2, .inl (by rw [HNE.out.1]; exact hfl)⟩
    clear hfl
    go_upto_region 6 with (go_at_call 42; refine (changes_any now rn r.sq most _ HO3.out HGN.out.ok HWM.out).mono ?_; rintro e w4 ⟨h1, hb1⟩; rw [if_pos HE.out.2] at h1; subst h1; go_frame)
    have hS4 := HS3.out.go (hb1.alloc hb1.size RC.zero.obj)
    obtain ⟨W4, hW4⟩ : ∃ W, w4.alloc RC.zero.obj = W := ⟨_, rfl⟩
    rw [hW4] at hS4
    dsimp only [RC.obj] at hW4
    rw [hW4]
    have HS4 := Lib.hid hS4
    clear hW4 hS4 hb1
    go_wp2_with fail
    go_ret
    exact ⟨rfl, HS4.out.below⟩
  · have q1 : decide (r.sq < rn.fl) = false := by simpa using hfl
    have HLO : Hid (now.floor ≤ r.sq ∧ r.sq ≤ now.seq ∧ b.seq = r.sq) := ⟨by rw [HNE.out.1]; omega, by rw [← HEQ.out.2]; exact HPI.out.seq, HEQ.out.2⟩
    clear hfl
    go_upto_region 8 with (go_at_call 45; refine (all_any _ now rn r.sq most HO3.out HGN.out.ok HPI.out.right (by have := HGN.out.trail; have := HF1.out.1; omega) HLO.out.1 HLO.out.2.1 HWM.out).mono ?_; rintro e w4 ⟨rc, m, c, g, rfl, hn, hall, hlen, hb1⟩; go_frame)
    have hb4 := hb1.alloc hb1.size rc.obj
    have hA4 : Below w4.heap.size w4 (w4.alloc rc.obj) := (Below.refl _ _).alloc (Nat.le_refl _) _
    have hS4 := HS3.out.go hb4
    have hN4 := HN3.out.under hb4 HN3.out.lt
    have hO4 := HO3.out.under hb4 hb4.size
    have hC4 : ChAt (w4.alloc rc.obj) w4.heap.size rc := heap_alloc_at rfl
    have hQ4 := hn.chg.under hA4 hA4.size
    have hok := rounds_ok HPI.out (rise_iff.1 HF1.out.2.2.2.1) (by rw [HLO.out.2.2]; exact HLO.out.1) (by rw [HLO.out.2.2]; exact hall)
    obtain ⟨gc, hgc⟩ : ∃ g, w4.heap.size = g := ⟨_, rfl⟩
    obtain ⟨W4, hW4⟩ : ∃ W, w4.alloc rc.obj = W := ⟨_, rfl⟩
    rw [hgc, hW4] at hC4
    rw [hW4] at hS4 hN4 hO4 hQ4
    dsimp only [RC.obj] at hW4
    rw [hW4, hgc]
    have HS4 := Lib.hid hS4
    have HN4 := Lib.hid hN4
    have HO4 := Lib.hid hO4
    have HC4 := Lib.hid hC4
    have HQ4 := Lib.hid hQ4
    have HOK := Lib.hid hok
    have HLN := Lib.hid hlen
    have HND := Lib.hid hall.nd
    clear hS4 hN4 hO4 hC4 hQ4 hok hlen hall hn hW4 hgc hA4 hb4 hb1 c0 c1 c2 c3 c4 d0 d1 d2 d3 d4 z0 z1 HS3 HN3 HO3
    have f0 := HC4.out.cell 0 rfl
    have f1 := HC4.out.cell 1 rfl
    have f2 := HC4.out.cell 2 rfl
    have f3 := HC4.out.cell 3 rfl
    have f4 := HC4.out.cell 4 rfl
    have z2 := HC4.out.lt
    go_upto_region 12 with (at_builtin; refine wpList_append_rd slS codecS _ rfl _ _ rfl rfl rfl (Own.nil _ W4.heap.size _) HQ4.out.made (by have := HLN.out; unfold maxLen; simp; omega) (by have := HLN.out; simp; omega) (Nat.le_refl _) ?_; intro v5 w5 ho5 hg5 hat5; (obtain ⟨p5, n5, c5, rfl⟩ : ∃ p n c, v5 = Value.slice p n c := (by obtain ⟨p, c, hv, h1, h2⟩ := ho5.len; exact ⟨p, _, c, hv⟩)))
    rw [List.nil_append] at ho5
    have hb5 : Below W4.heap.size W4 w5 := Below.appended (Below.refl W4.heap.size W4) hg5 (Own.nil (α := ByteArray) (enc := encS) (sz := 1) W4 W4.heap.size 9) (Nat.le_refl _)
    have HB5 := Lib.hid hb5
    have HO5 := Lib.hid ho5
    have HC5 := Lib.hid (HC4.out.under hb5 HC4.out.lt)
    have HQ5 := Lib.hid (HQ4.out.under hb5 hb5.size)
    clear hb5 ho5 hg5 hat5 f0 f1 f2 f3 f4 z2
    have f0 := HC5.out.cell 0 rfl
    have f1 := HC5.out.cell 1 rfl
    have f2 := HC5.out.cell 2 rfl
    have f3 := HC5.out.cell 3 rfl
    have f4 := HC5.out.cell 4 rfl
    have z2 := HC5.out.lt
    go_upto_region 13 with (at_builtin; refine wpList_append_rd slS codecS _ rfl _ _ rfl rfl rfl HO5.out HQ5.out.chgd (by have := HLN.out; unfold maxLen; simp; omega) (by have := HLN.out; simp; omega) HB5.out.size ?_; intro v6 w6 ho6 hg6 hat6; (obtain ⟨p6, n6, c6, rfl⟩ : ∃ p n c, v6 = Value.slice p n c := (by obtain ⟨p, c, hv, h1, h2⟩ := ho6.len; exact ⟨p, _, c, hv⟩)))
    have hb6 : Below W4.heap.size W4 w6 := Below.appended HB5.out hg6 HO5.out HB5.out.size
    have HB6 := Lib.hid hb6
    have HO6 := Lib.hid ho6
    have HC6 := Lib.hid (HC4.out.under hb6 HC4.out.lt)
    have HQ6 := Lib.hid (HQ4.out.under hb6 hb6.size)
    clear hb6 ho6 hg6 hat6 f0 f1 f2 f3 f4 z2 HB5 HO5 HC5 HQ5
    have f0 := HC6.out.cell 0 rfl
    have f1 := HC6.out.cell 1 rfl
    have f2 := HC6.out.cell 2 rfl
    have f3 := HC6.out.cell 3 rfl
    have f4 := HC6.out.cell 4 rfl
    have z2 := HC6.out.lt
    go_upto_region 14 with (at_builtin; refine wpList_append_rd slS codecS _ rfl _ _ rfl rfl rfl HO6.out HQ6.out.gone (by have := HLN.out; unfold maxLen; simp; omega) (by have := HLN.out; simp; omega) HB6.out.size ?_; intro v7 w7 ho7 hg7 hat7; (obtain ⟨p7, n7, c7, rfl⟩ : ∃ p n c, v7 = Value.slice p n c := (by obtain ⟨p, c, hv, h1, h2⟩ := ho7.len; exact ⟨p, _, c, hv⟩)))
    have hb7 : Below W4.heap.size W4 w7 := Below.appended HB6.out hg7 HO6.out HB6.out.size
    have hR : RdS w w7 b now r rn gn gc rc m c g p7 n7 c7 := ⟨HS4.out.box.under hb7 HS4.out.box.lt, HS4.out.of.under hb7 hb7.size, HN4.out.under hb7 HN4.out.lt, HO4.out.under hb7 hb7.size, HC4.out.under hb7 HC4.out.lt, HQ4.out.under hb7 hb7.size, ho7.rd codecS, HS4.out.below.trans (hb7.mono HS4.out.below.size)⟩
    have hn7 : n7 = (m ++ c ++ g).length := rd_nlen hR.told
    have hn8 : n7 ≤ 3003000 := by have := HLN.out; rw [hn7, List.length_append, List.length_append]; omega
    obtain ⟨hc7, hc8⟩ : n7 ≤ c7 ∧ c7 ≤ maxLen := by obtain ⟨p, cc, hv, h1, h2⟩ := ho7.len; simp only [Value.slice.injEq] at hv; rw [← hv.2.2] at h1 h2; rw [← hv.2.1] at h1; exact ⟨h1, h2⟩
    obtain ⟨tl, htl⟩ : ∃ l, m ++ c ++ g = l := ⟨_, rfl⟩
    have HK := Lib.hid hR
    have HN7 : Hid (n7 = tl.length ∧ n7 ≤ 3003000 ∧ n7 ≤ c7 ∧ c7 ≤ maxLen) := ⟨by rw [← htl]; exact hn7, hn8, hc7, hc8⟩
    have HTL : Hid (m ++ c ++ g = tl) := htl
    rw [htl] at HND HOK
    clear hb7 ho7 hg7 hat7 f0 f1 f2 f3 f4 z2 HB6 HO6 HC6 HQ6 HS4 HN4 HO4 HC4 HQ4 hR hn7 hn8 hc7 hc8 htl
    go_upto_block 0 with fail
    go_cut [13] from 70 to 83 (fun v wa => Hid (RdS w wa b now r rn gn gc rc m c g p7 n7 c7))
    case first =>
      go_wp2_with fail
      go_loopw [13] (fun i wa => ∃ k : Nat, k ≤ n7 ∧ i = .int .i64 k ∧ Hid (RdS w wa b now r rn gn gc rc m c g p7 n7 c7)) (fun i _ => n7 - (intOf i).toNat)
      case atStart => exact ⟨0, Nat.zero_le _, rfl, HK⟩
      case round =>
        obtain ⟨k, hk, rfl, hkf⟩ := hrel
        clear HK
        have hn9 := HN7.out.2.1
        have hk0 : (0 : Int) ≤ (k : Int) := Int.natCast_nonneg _
        by_cases hlt : k < n7
        · have hk1 : (k : Int) < (n7 : Int) := by omega
          have hkc : (k : Int) ≤ (c7 : Int) := by have := HN7.out; omega
          obtain ⟨x, hx⟩ : ∃ x, tl[k]? = some x := ⟨_, List.getElem?_eq_getElem (by have := HN7.out; omega)⟩
          have htd := hkf.out.told
          rw [HTL.out] at htd
          obtain ⟨b1, o1, hp, hb1, hc1⟩ := rd_at' htd hx
          have f0 := hc1 0 _ rfl
          rw [Nat.add_zero, Nat.mul_one] at f0
          have HTK := Lib.hid (htd.take k (by omega))
          have HM : Hid (hasB (tl.take k) x = false) := nodup_take HND.out hx
          have HLK : Hid ((tl.take k).length ≤ 4398046510976) := by unfold Hid; rw [List.length_take]; omega
          subst hp
          clear hc1 htd hx
          have C1 : Hid (∀ W', KB wr.heap.size wr W' → Calls Try.prog 48 #[.slice (some ⟨b1, o1, none⟩) k c7, .string x] W' fun e w' => e = .returned (.bool false) ∧ Below W'.heap.size W' w') := fun W' hk => (has_any W' W'.heap.size _ _ x (HTK.out.below hk.1 hk.1.size) HLK.out).mono (fun e w' h => ⟨by rw [h.1, HM.out], by obtain ⟨n, hn⟩ := h.2; rw [hn]; exact bdn (Below.refl _ _) n⟩)
          go_wp2_with fail
          go_region_held3 (fun w' => Below wr.heap.size wr w' ∧ ∀ b o, b < wr.heap.size → w'.cell? ⟨b, o, none⟩ = wr.cell? ⟨b, o, none⟩)
            (first | with_reducible exact kt_drew wr | with_reducible exact kt_same hbk)
            (first
              | (go_at_call 48; refine (C1.out _ (by assumption)).mono ?_; rintro e w8 ⟨rfl, hb8⟩; (have hbk := KB.step (W := wr) (by assumption) hb8))
              | fail)
          all_goals (
            rename (Below wr.heap.size wr _ ∧ _) => hkb
            go_wp2_with fail
            go_roundw
            case rel => exact ⟨k + 1, by omega, by go_num, hkf.out.go hkb.1⟩
            case measure => simp [intOf]; omega)
        · have hk2 : ¬ ((k : Int) < (n7 : Int)) := by omega
          go_wp2_with fail
          go_meet
          exact hkf
    case rest =>
    have HK := hcut
    have HLT : Hid (tl.length ≤ 4398046510976) := by have := HN7.out; unfold Hid; omega
    have HLG : Hid (g.length ≤ 1001000) := HLN.out.2.2
    clear hcut HN7 HND HLN
    go_upto_block 2 with fail
    go_cut [14] from 84 to 127 (fun v wb => Hid (RdS w wb b now r rn gn gc rc m c g p7 n7 c7))
    case first =>
      go_wp2_with fail
      go_loopw [14] (fun i wb => ∃ k : Nat, k ≤ rn.no ∧ i = .int .i64 k ∧ Hid (RdS w wb b now r rn gn gc rc m c g p7 n7 c7)) (fun i _ => rn.no - (intOf i).toNat)
      case atStart => exact ⟨0, Nat.zero_le _, rfl, HK⟩
      case round =>
        obtain ⟨k, hk, rfl, hkf⟩ := hrel
        clear HK
        have hno : rn.no ≤ 1000 := by have h1 := hkf.out.nof.objs.nlen; have := HGN.out.objs; have := HF1.out.1; omega
        have hk0 : (0 : Int) ≤ (k : Int) := Int.natCast_nonneg _
        have d0 := hkf.out.nbx.cell 0 (u := .slice rn.po rn.no rn.co) rfl
        have z1 := hkf.out.nbx.lt
        by_cases hlt : k < rn.no
        · have hk1 : (k : Int) < (rn.no : Int) := by omega
          obtain ⟨x, t, b1, o1, hx, htx, hp, hb1, hc1⟩ := hkf.out.nof.objs.at hlt
          have HXK := HOK.out.1 _ (List.mem_of_getElem? hx)
          have HXT : Hid t.Ok := (HGN.out.ok.each _ (List.mem_of_getElem? hx)).2
          have HTX := Lib.hid htx
          rw [hp] at d0
          have f0 := hc1 0 _ rfl
          have f1 := hc1 1 _ rfl
          have f2 := hc1 2 _ rfl
          have f3 := hc1 3 _ rfl
          have f4 := hc1 4 _ rfl
          have f5 := hc1 5 _ rfl
          rw [Nat.add_zero] at f0
          clear hc1 htx hx
          have c0 := hkf.out.box.cell 0 rfl
          have c1 := hkf.out.box.cell 1 rfl
          have c2 := hkf.out.box.cell 2 rfl
          have c3 := hkf.out.box.cell 3 rfl
          have c4 := hkf.out.box.cell 4 rfl
          have z0 := hkf.out.box.lt
          go_upto_region 24 with (go_at_call 26; refine (find_any b r x.name _ hkf.out.of HOB.out).mono ?_; rintro e w8 ⟨rv, rfl, htv, hb8⟩; go_frame)
          have hA8 : Below w8.heap.size w8 (w8.alloc (.cells #[.int .i64 rv.k, .int .i64 rv.n, .string rv.s, .slice rv.pl rv.nl rv.cl, .slice rv.pm rv.nm rv.cm] 25)) := (Below.refl _ _).alloc (Nat.le_refl _) _
          have hV8 : VAt (w8.alloc (.cells #[.int .i64 rv.k, .int .i64 rv.n, .string rv.s, .slice rv.pl rv.nl rv.cl, .slice rv.pm rv.nm rv.cm] 25)) w8.heap.size rv := heap_alloc_at rfl
          have hR8 := hkf.out.go (hb8.alloc hb8.size (.cells #[.int .i64 rv.k, .int .i64 rv.n, .string rv.s, .slice rv.pl rv.nl rv.cl, .slice rv.pm rv.nm rv.cm] 25))
          have hT8 := htv.under hA8 hA8.size
          have hX8 := HTX.out.under (hb8.alloc hb8.size (.cells #[.int .i64 rv.k, .int .i64 rv.n, .string rv.s, .slice rv.pl rv.nl rv.cl, .slice rv.pm rv.nm rv.cm] 25)) (hb8.alloc hb8.size (.cells #[.int .i64 rv.k, .int .i64 rv.n, .string rv.s, .slice rv.pl rv.nl rv.cl, .slice rv.pm rv.nm rv.cm] 25)).size
          have hc8 : ∀ j u, (encM x)[j]? = some u → (w8.alloc (.cells #[.int .i64 rv.k, .int .i64 rv.n, .string rv.s, .slice rv.pl rv.nl rv.cl, .slice rv.pm rv.nm rv.cm] 25)).cell? ⟨b1, o1 + k * 6 + j, none⟩ = some u := fun j u hu => by
            rw [(hb8.alloc hb8.size (.cells #[.int .i64 rv.k, .int .i64 rv.n, .string rv.s, .slice rv.pl rv.nl rv.cl, .slice rv.pm rv.nm rv.cm] 25)).cell (p := ⟨b1, o1 + k * 6 + j, none⟩) hb1]
            have hj : j < 6 := by rw [← codecM.len x]; exact (List.getElem?_eq_some_iff.1 hu).1
            have hj6 : j = 0 ∨ j = 1 ∨ j = 2 ∨ j = 3 ∨ j = 4 ∨ j = 5 := by omega
            rcases hj6 with rfl | rfl | rfl | rfl | rfl | rfl <;> (cases hu; assumption)
          obtain ⟨gv, hgv⟩ : ∃ g, w8.heap.size = g := ⟨_, rfl⟩
          obtain ⟨W8, hW8⟩ : ∃ W, w8.alloc (.cells #[.int .i64 rv.k, .int .i64 rv.n, .string rv.s, .slice rv.pl rv.nl rv.cl, .slice rv.pm rv.nm rv.cm] 25) = W := ⟨_, rfl⟩
          have hz8 : wr.heap.size ≤ W8.heap.size := by rw [← hW8, World.size_alloc]; have := hb8.size; omega
          rw [hW8] at hR8 hT8 hX8 hc8
          rw [hgv, hW8] at hV8
          rw [hW8, hgv]
          have HR8 := Lib.hid hR8
          have HT8 := Lib.hid hT8
          have HX8 := Lib.hid hX8
          have HV8 := Lib.hid hV8
          have hb18 : b1 < W8.heap.size := by omega
          clear hA8 hV8 hR8 hT8 hX8 hW8 hgv hb8 htv hkf hz8 f0 f1 f2 f3 f4 f5 c0 c1 c2 c3 c4 d0 z0 z1 HTX
          have f0 := hc8 0 _ rfl
          have f1 := hc8 1 _ rfl
          have f2 := hc8 2 _ rfl
          have f3 := hc8 3 _ rfl
          have f4 := hc8 4 _ rfl
          have f5 := hc8 5 _ rfl
          rw [Nat.add_zero] at f0
          clear hc8 hb1
          have d0 := HR8.out.nbx.cell 0 (u := .slice rn.po rn.no rn.co) rfl
          rw [hp] at d0
          have z1 := HR8.out.nbx.lt
          have z2 := HR8.out.chg.lt
          have z3 := HV8.out.lt
          have e2 := HR8.out.chg.cell 2 (u := .slice rc.pc rc.nc rc.cc) rfl
          have h0 := HV8.out.cell 0 rfl
          have h1 := HV8.out.cell 1 rfl
          have h2 := HV8.out.cell 2 rfl
          have h3 := HV8.out.cell 3 rfl
          have h4 := HV8.out.cell 4 rfl
          have HG1 : Hid (hasB g x.name = false) := by
            unfold Hid
            rw [Bool.eq_false_iff]
            intro h
            exact HXK.1 (hasB_iff.1 h)
          have C1 : Hid (∀ W', KB W8.heap.size W8 W' → Calls Try.prog 48 #[.slice rc.pc rc.nc rc.cc, .string x.name] W' fun e w' => e = .returned (.bool false) ∧ Below W'.heap.size W' w') := fun W' hk => (has_any W' W'.heap.size _ _ x.name (HR8.out.cof.gone.below hk.1 hk.1.size) (Nat.le_trans HLG.out (by decide))).mono (fun e w' h => ⟨by rw [h.1, HG1.out], by obtain ⟨n, hn⟩ := h.2; rw [hn]; exact bdn (Below.refl _ _) n⟩)
          have C2 : Hid (∀ W', KB W8.heap.size W8 W' → Calls Try.prog 48 #[.slice p7 n7 c7, .string x.name] W' fun e w' => e = .returned (.bool (hasB tl x.name)) ∧ Below W'.heap.size W' w') := fun W' hk => (has_any W' W'.heap.size _ _ x.name (by have h := HR8.out.told.below hk.1 hk.1.size; rw [HTL.out] at h; exact h) HLT.out).mono (fun e w' h => ⟨h.1, by obtain ⟨n, hn⟩ := h.2; rw [hn]; exact bdn (Below.refl _ _) n⟩)
          by_cases htold : hasB tl x.name = true
          · rw [htold] at C2
            clear hp HXK
            obtain ⟨f, hf⟩ : ∃ f, (findJ b.objs x.name).isSome = f := ⟨_, rfl⟩
            rw [hf]
            clear hf
            have Q1 : Hid (∀ n, Calls Try.prog 48 #[.slice rc.pc rc.nc rc.cc, .string x.name] (W8.drewN n) fun e w' => e = .returned (.bool false) ∧ ∃ m, w' = (W8.drewN n).drewN m) := fun n => (has_any (W8.drewN n) W8.heap.size _ _ x.name (HR8.out.cof.gone.drewN n) (Nat.le_trans HLG.out (by decide))).mono (fun e w' h => ⟨by rw [h.1, HG1.out], h.2⟩)
            have Q2 : Hid (∀ n, Calls Try.prog 48 #[.slice p7 n7 c7, .string x.name] (W8.drewN n) fun e w' => e = .returned (.bool true) ∧ ∃ m, w' = (W8.drewN n).drewN m) := fun n => (has_any (W8.drewN n) W8.heap.size _ _ x.name (by have h := HR8.out.told.drewN n; rw [HTL.out] at h; exact h) HLT.out).mono (fun e w' h => ⟨by rw [h.1, htold], h.2⟩)
            clear C1 C2
            go_quiet ((go_at_call 48; first | with_reducible exact Calls.quiet_of (Q1.out _) | with_reducible exact Calls.quiet_of (Q2.out _)))
            go_wp2_with fail
            go_roundw
            case rel => exact ⟨k + 1, by omega, by go_num, HR8.out.go (bdn (Below.refl _ _) _)⟩
            case measure => simp [intOf]; omega
          · rw [Bool.eq_false_iff.2 htold] at C2
            have hfj : findJ b.objs x.name = some t := by
              rcases HXK.2 with h | h
              · exact absurd (hasB_iff.2 h) htold
              · exact h
            rw [hfj] at HT8 ⊢
            have C3 : Hid (∀ W', KB W8.heap.size W8 W' → Calls Try.prog 31 #[rv.val, x.v.val] W' fun e w' => e = .returned (.bool true) ∧ Below W'.heap.size W' w') := fun W' hk => (same5_any _ t t rv x.v W' (Nat.le_refl _) (HT8.out.under hk.1 hk.1.size) (HX8.out.under hk.1 hk.1.size) HXT.out HXT.out).mono fun e w' h => h.yes rfl
            clear hp HXK hfj htold
            dsimp only [Option.isSome_some]
            first | (go_region_held3 (fun w' => Below W8.heap.size W8 w' ∧ ∀ b o, b < W8.heap.size → w'.cell? ⟨b, o, none⟩ = W8.cell? ⟨b, o, none⟩)
              (first | with_reducible exact kt_drew W8 | with_reducible exact kt_same hbk)
              (first
                | (have h9 := HB9; go_at_call 48; refine (C2.out _ (by assumption)).mono ?_; rintro e w10 ⟨rfl, hb10⟩; (have hbk := KB.step (W := W8) (by assumption) hb10))
                | (go_at_call 48; refine (C1.out _ (by assumption)).mono ?_; rintro e w9 ⟨rfl, hb9⟩; (have hbk := KB.step (W := W8) (by assumption) hb9); (have HB9 := Lib.hid hb9))
                | (go_at_call 31; refine (C3.out _ (by assumption)).mono ?_; rintro e w11 ⟨rfl, hb11⟩; (have hbk := KB.step (W := W8) (by assumption) hb11))
                | fail)) | fail
            all_goals (
              rename (Below W8.heap.size W8 _ ∧ _) => hkb
              go_wp2_with fail
              go_roundw
              case rel => exact ⟨k + 1, by omega, by go_num, HR8.out.go hkb.1⟩
              case measure => simp [intOf]; omega)
        · have hk2 : ¬ ((k : Int) < (rn.no : Int)) := by omega
          go_wp2_with fail
          go_meet
          exact hkf
    case rest =>
    have HK := hcut
    clear hcut HLT HTL
    go_upto_block 4 with fail
    go_cut [18] from 128 to 159 (fun v wc => Hid (RdS w wc b now r rn gn gc rc m c g p7 n7 c7))
    case first =>
      go_wp2_with fail
      go_loopw [18] (fun i wc => ∃ k : Nat, k ≤ r.no ∧ i = .int .i64 k ∧ Hid (RdS w wc b now r rn gn gc rc m c g p7 n7 c7)) (fun i _ => r.no - (intOf i).toNat)
      case atStart => exact ⟨0, Nat.zero_le _, rfl, HK⟩
      case round =>
        obtain ⟨k, hk, rfl, hkf⟩ := hrel
        clear HK
        have hno : r.no ≤ 1000 := by have h1 := hkf.out.of.objs.nlen; have := HF1.out.2.1; omega
        have hk0 : (0 : Int) ≤ (k : Int) := Int.natCast_nonneg _
        have c0 := hkf.out.box.cell 0 (u := .slice r.po r.no r.co) rfl
        have z0 := hkf.out.box.lt
        by_cases hlt : k < r.no
        · have hk1 : (k : Int) < (r.no : Int) := by omega
          obtain ⟨x, t, b1, o1, hx, htx, hp, hb1, hc1⟩ := hkf.out.of.objs.at hlt
          have HXK := Lib.hid (HOK.out.2 _ (List.mem_of_getElem? hx))
          dsimp only at HXK
          rw [hp] at c0
          have f0 := hc1 0 _ rfl
          rw [Nat.add_zero] at f0
          have HXE := Lib.hid hx
          clear hc1 htx hx hp
          obtain ⟨f, hf⟩ : ∃ f, (findJ now.objs x.name).isSome = f := ⟨_, rfl⟩
          have HFI : Hid (∀ W, KB wr.heap.size wr W → Calls Try.prog 26 #[RB.val rn, .string x.name] W fun e w' => ∃ q : RV, e = .returned (.tuple #[RV.val q, .bool f]) ∧ Below W.heap.size W w') := fun W hk => by
            refine (find_any now rn x.name W (hkf.out.nof.under hk.1 hk.1.size) HGN.out.ok).mono ?_
            rintro e w' ⟨q, rfl, _, hb⟩
            exact ⟨q, by rw [hf], hb⟩
          have HZA : Hid (VAt (wr.alloc (.cells #[.int .i64 0, .int .i64 0, .string ⟨#[]⟩, .slice none 0 0, .slice none 0 0] 25)).drew wr.heap.size RV.zero) := heap_alloc_at rfl
          rw [hf] at HXK
          clear hf
          have d0 := hkf.out.nbx.cell 0 rfl
          have d1 := hkf.out.nbx.cell 1 rfl
          have d2 := hkf.out.nbx.cell 2 rfl
          have d3 := hkf.out.nbx.cell 3 rfl
          have d4 := hkf.out.nbx.cell 4 rfl
          have z1 := hkf.out.nbx.lt
          go_wp2_with fail
          go_cut [20] from 135 to 145 (fun v wd => v = .bool f ∧ Hid (RdS w wd b now r rn gn gc rc m c g p7 n7 c7))
          case first =>
            go_region_held3 (fun w' => Below wr.heap.size wr w' ∧ ∀ b o, b < wr.heap.size → w'.cell? ⟨b, o, none⟩ = wr.cell? ⟨b, o, none⟩)
              (first | with_reducible exact kt_drew wr | with_reducible exact kt_same hbk | with_reducible exact kt_alloc hbk _ | with_reducible exact kt_da wr _ | (with_reducible refine kt_setV hbk _ _ ?_; first | exact Nat.le_refl _ | (simp; omega) | omega))
              ((go_at_call 26; refine (HFI.out _ (by assumption)).mono ?_; rintro e w2 ⟨q, rfl, hbs⟩; (have hbk := KB.step (W := wr) (by assumption) hbs); (have hs2 := hbk.1.size); (first | ((have HZ9 : VAt w2 wr.heap.size RV.zero := HZA.out.under hbs (by simp)); (have z0 := HZ9.cell 0 rfl); (have z1 := HZ9.cell 1 rfl); (have z2 := HZ9.cell 2 rfl); (have z3 := HZ9.cell 3 rfl); (have z4 := HZ9.cell 4 rfl); (have y0 := HZ9.frozen 0); (have y1 := HZ9.frozen 1); (have y2 := HZ9.frozen 2); (have y3 := HZ9.frozen 3); (have y4 := HZ9.frozen 4); dsimp only [RV.zero] at z0 z1 z2 z3 z4) | skip)))
            all_goals
              rename (Below wr.heap.size wr _ ∧ _) => hkb
              go_wp2_with fail
              go_meet
              exact ⟨rfl, hkf.out.go (by first | exact hkb.1 | exact (KB.step (W := wr) hkb ((Below.refl _ _).alloc (Nat.le_refl _) _)).1)⟩
          case rest =>
            obtain ⟨rfl, hx⟩ := hcut
            clear c0 z0 f0 d0 d1 d2 d3 d4 z1 hb1 HZA HFI hkf
            cases f with
            | true =>
              go_wp2_with fail
              go_quiet (fail)
              go_wp2_with fail
              go_roundw
              case rel => exact ⟨k + 1, by omega, by go_num, hx.out.go (bdn (Below.refl _ _) _)⟩
              case measure => simp [intOf]; omega
            | false =>
              have hgone : x.name ∈ g := by
                rcases HXK.out with h | h
                · cases h
                · exact h
              obtain ⟨y, t2, b2, o2, hy, hty, hp, hb2, hc2⟩ := hx.out.of.objs.at hlt
              have hnm : y.name = x.name := (Prod.mk.inj (Option.some.inj (hy.symm.trans HXE.out))).1
              have f0 := hc2 0 _ rfl
              rw [Nat.add_zero, hnm] at f0
              have c0 := hx.out.box.cell 0 (u := .slice r.po r.no r.co) rfl
              rw [hp] at c0
              have e2 := hx.out.chg.cell 2 (u := .slice rc.pc rc.nc rc.cc) rfl
              have HGO : Hid (hasB g x.name = true) := hasB_iff.2 hgone
              have Q1 : Hid (∀ n, Calls Try.prog 48 #[.slice rc.pc rc.nc rc.cc, .string x.name] (wc.drewN n) fun e w' => e = .returned (.bool true) ∧ ∃ m, w' = (wc.drewN n).drewN m) := fun n => (has_any (wc.drewN n) wc.heap.size _ _ x.name (hx.out.cof.gone.drewN n) (Nat.le_trans HLG.out (by decide))).mono (fun e w' h => ⟨by rw [h.1, HGO.out], h.2⟩)
              clear hc2 hty hy hp hgone hnm
              go_wp2_with fail
              go_quiet ((go_at_call 48; exact Calls.quiet_of (Q1.out _)))
              go_wp2_with fail
              go_roundw
              case rel => exact ⟨k + 1, by omega, by go_num, hx.out.go (bdn (Below.refl _ _) _)⟩
              case measure => simp [intOf]; omega
        · have hk2 : ¬ ((k : Int) < (r.no : Int)) := by omega
          go_wp2_with fail
          go_meet
          exact hkf
    case rest =>
    have HK := hcut
    go_wp2_with fail
    go_ret
    exact ⟨rfl, HK.out.below⟩
end Go.Proofs.Ythgkgjcnmahacaa
