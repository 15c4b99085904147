import Derived.Test.YtanemojiaahbgaaGreatDoorSf09
import Derived.Test.YtanemojiaahbgaaGreatDoorSf24
import Derived.BigQuiet
/- An object shown by names, by the document: ref26.Show, walked. -/
set_option linter.unusedSimpArgs false
set_option linter.unusedVariables false
namespace Go.Proofs.YtanemojiaahbgaaGreatDoor
open Go Go.RowKit Go.OpenShut

theorem anyV_take {pb : RV → Bool} {rs : List RV} {k : Nat} {x : RV} (h : rs[k]? = some x) : anyV pb (rs.take (k + 1)) = (anyV pb (rs.take k) || pb x) := by
  unfold anyV
  rw [List.take_add_one, h, List.any_append]
  simp

set_option maxRecDepth 100000 in
set_option maxHeartbeats 8000000 in
theorem refShow_any (id : ByteArray) (vt nt : JV) (vr nr : RV) (w : World) (B : Nat) (hBw : B ≤ w.heap.size) (hv : TreeOf w B vt vr) (hn : TreeOf w w.heap.size nt nr) (hvm : vt.m.length ≤ 90000) (hnl : nt.l.length ≤ 1759218604390) :
    Calls Tryz.prog 14 #[.string id, RV.val vr, RV.val nr] w (MapRet w B ((idN, textJ id) :: showM vt nt)) := by
  obtain ⟨rms, hm, hms, hk⟩ := hv.mems
  obtain ⟨nrs, hnr, hnlen, hnt⟩ := hn.lst
  obtain ⟨hnk, _, _⟩ := hn.head
  have hni := nameIn_rs hnlen hnt
  rw [hnk] at hni
  have HNI := Lib.hid hni
  obtain ⟨vk, vn, vs, vpl, vnl, vcl, vpm, vnm, vcm⟩ := vr
  obtain ⟨nk, nn, ns, npl, nnl, ncl, npm, nnm, ncm⟩ := nr
  dsimp only [RV.val] at *
  have eM := rd_nlen hm
  have eN := rd_nlen hnr
  have hnm : vnm ≤ 90000 := by have := hms.len; omega
  have E2 : Hid (vt.m.length = vnm ∧ rms.length = vnm) := ⟨by have := hms.len; omega, by omega⟩
  have E3 : Hid (nrs.length = nnl) := eN.symm
  have hnnl : nnl ≤ 1759218604390 := by omega
  have HMS := Lib.hid hms
  have HM := Lib.hid hm
  have HNR := Lib.hid hnr
  obtain ⟨W0, hW0⟩ : ∃ W0, ((w.alloc (.cells #[.int .i64 vk, .int .i64 vn, .string vs, .slice vpl vnl vcl, .slice vpm vnm vcm] 31)).alloc (.cells #[.int .i64 nk, .int .i64 nn, .string ns, .slice npl nnl ncl, .slice npm nnm ncm] 31)).alloc (.cells #[.int .i64 0, .int .i64 0, .string ⟨#[]⟩, .slice none 0 0, .slice none 0 0] 31) = W0 := ⟨_, rfl⟩
  have hA0 : VAt W0 w.heap.size ⟨vk, vn, vs, vpl, vnl, vcl, vpm, vnm, vcm⟩ := by rw [← hW0]; exact heap_alloc_lt (by simp; omega) (heap_alloc_lt (by simp) (heap_alloc_at rfl))
  have hN0 : VAt W0 (w.heap.size + 1) ⟨nk, nn, ns, npl, nnl, ncl, npm, nnm, ncm⟩ := by rw [← hW0]; exact heap_alloc_lt (by simp) (heap_alloc_at (by simp))
  have hZ0 : VAt W0 (w.heap.size + 1 + 1) RV.zero := by rw [← hW0]; exact heap_alloc_at (by simp)
  have hB0 : Below w.heap.size w W0 := by rw [← hW0]; exact (below2 w _ _).alloc (by simp; omega) _
  have HW := Lib.hid hW0
  clear hm hms hnr hnt hnlen hv hn hvm hnl hk eM eN hni hnk hW0
  have hz0 := hZ0.lt
  go_enter Tryz.func14, Tryz.ntmps14
  go_upto_region 1 with fail
  rw [HW.out]
  clear HW
  have HO : Hid (∀ W, Below W0.heap.size W0 W → Calls Tryz.prog 34 #[.agg #[.int .i64 0, .int .i64 0, .string ⟨#[]⟩, .slice none 0 0, .slice none 0 0], .string ⟨#[105, 100]⟩, RV.val (textR id)] W fun e w' => ∃ p n c, e = .returned (RV.val ⟨6, 0, ⟨#[]⟩, none, 0, 0, p, n, c⟩) ∧ ShowS (w'.alloc (.cells #[.int .i64 6, .int .i64 0, .string ⟨#[]⟩, .slice none 0 0, .slice p n c] 31)) B (w.heap.size + 1 + 1) w'.heap.size [(idN, textJ id)] p n c (w'.alloc (.cells #[.int .i64 6, .int .i64 0, .string ⟨#[]⟩, .slice none 0 0, .slice p n c] 31)) ∧ Below W0.heap.size W0 w') := fun W hb =>
    (addV_any 0 0 ⟨#[]⟩ none 0 0 none 0 0 [] idN (textR id) W (Rd.nil _ _) (by simp)).mono (fun e w' h => by
      obtain ⟨p, n, c, he, ho, hb2⟩ := h
      have hb3 : Below W0.heap.size W0 w' := hb.trans (hb2.mono hb.size)
      have hsz := hb.size
      refine ⟨p, n, c, he, ⟨heap_alloc_at rfl, heap_alloc_lt (by have := hb3.size; omega) (hZ0.under hb3 hz0), ⟨_, (ho.mono (by omega)).alloc _, ⟨rfl, fun i y q h1 h2 => ?_, fun i y q h1 h2 => ?_⟩⟩, fun e => by have := (ho.lt _ e).2; omega, Below.refl _ _⟩, hb3⟩
      · cases i with
        | zero => simp at h1 h2; subst h1 h2; rfl
        | succ i => simp at h1
      · cases i with
        | zero => simp at h1 h2; subst h1 h2; exact (TreeS.leaf _ (fun _ => False) 4 0 id).tree (fun k h => h.elim)
        | succ i => simp at h1)
  go_upto_region 2 with (first
    | (go_at_call 35; refine (textV25_any id _).mono ?_; rintro e w1 ⟨rfl, hb1⟩)
    | (go_at_call 34; refine (HO.out w1 hb1).mono ?_; rintro e w3 ⟨p3, n3, c3, rfl, hs3, hb3⟩))
  obtain ⟨g5, hg5⟩ : ∃ g, w3.heap.size = g := ⟨_, rfl⟩
  obtain ⟨W5, hW5⟩ : ∃ W, w3.alloc (.cells #[.int .i64 6, .int .i64 0, .string ⟨#[]⟩, .slice none 0 0, .slice p3 n3 c3] 31) = W := ⟨_, rfl⟩
  have hb5 : Below W0.heap.size W0 W5 := by rw [← hW5]; exact hb3.alloc hb3.size _
  have hg5z : W0.heap.size ≤ g5 := by rw [← hg5]; exact hb3.size
  rw [hW5, hg5] at hs3
  try rw [hW5]
  try rw [hg5]
  clear hW5 hg5 hb3 hb1 HO
  have HA5 := Lib.hid (hA0.under hb5 hA0.lt)
  have HN5 := Lib.hid (hN0.under hb5 hN0.lt)
  have HB5 : Hid (Below w.heap.size w W5) := hB0.trans (hb5.mono hB0.size)
  have HS3 := Lib.hid hs3
  clear hA0 hN0 hZ0 hB0 hb5 hs3
  go_wp2_with fail
  go_loopw [8] (fun i wr => ∃ (k : Nat) (p : Option Addr) (n c : Nat), k ≤ vnm ∧ i = .int .i64 k ∧ Hid (ShowS W5 B (w.heap.size + 1 + 1) g5 ((idN, textJ id) :: (vt.m.take k).filter (showP nt)) p n c wr)) (fun i _ => vnm - (intOf i).toNat)
  case atStart => exact ⟨0, p3, n3, c3, Nat.zero_le _, rfl, HS3.out⟩
  case round =>
    obtain ⟨k, p, n, c, hk, rfl, HS⟩ := hrel
    have hbr := HS.out.below
    have HBW : Hid (Below w.heap.size w wr) := HB5.out.trans (hbr.mono (by omega))
    have hAw := HA5.out.under hbr (by omega)
    have hNw := HN5.out.under hbr (by omega)
    have a4 := hAw.cell 4 rfl
    have n0 := hNw.cell 0 rfl
    have n3 := hNw.cell 3 rfl
    dsimp only at a4 n0 n3
    have HAW := Lib.hid hAw
    have HNW := Lib.hid hNw
    have hgsz : w.heap.size + 1 + 1 < wr.heap.size := HS.out.zero.lt
    clear hAw hNw hbr
    have hk0 : (0 : Int) ≤ (k : Int) := Int.natCast_nonneg _
    by_cases hlt : k < vnm
    · obtain ⟨y, hy⟩ : ∃ y, vt.m[k]? = some y := ⟨_, List.getElem?_eq_getElem (by have := E2.out; omega)⟩
      obtain ⟨⟨xn, xk, xv, xs, xpl, xnl, xcl, xpm, xnm, xcm⟩, hx⟩ : ∃ x, rms[k]? = some x := ⟨_, List.getElem?_eq_getElem (by have := E2.out; omega)⟩
      have hyn := HMS.out.name k y _ hy hx
      have HTY := Lib.hid ((HMS.out.val k y _ hy hx).under (HBW.out.mono hBw) (Nat.le_refl _))
      obtain ⟨b1, o1, rfl, hb1, hc1⟩ := rd_at' (HM.out.below (HBW.out.mono hBw) (Nat.le_refl _)) hx
      have f0 := hc1 0 _ rfl
      have f1 := hc1 1 _ rfl
      have f2 := hc1 2 _ rfl
      have f3 := hc1 3 _ rfl
      have f4 := hc1 4 _ rfl
      have f5 := hc1 5 _ rfl
      rw [Nat.add_zero] at f0
      dsimp only at f0 f1 f2 f3 f4 f5 hyn
      have hk1 : (k : Int) < (vnm : Int) := by omega
      have HTK := Lib.hid (showM_take (names := nt) hy)
      have HYN := Lib.hid hyn
      have HNI2 := Lib.hid (HNI.out y.1)
      have hb1w : b1 < wr.heap.size := by omega
      clear hy hx hc1 hyn
      cases hq : (nk != 5)
      · have h5 : nk = 5 := by simpa using hq
        have hq2 : (nk == 5) = true := by simpa using h5
        have hnb : nameIn nt y.1 = anyV (isTx xn) nrs := by
          rw [HNI2.out, HYN.out, h5]
          simp
        have HNB0 := Lib.hid hnb
        clear hnb h5
        go_wp2_with fail
        go_loopw [9, 10] (fun s i w2 => ∃ (j : Nat) (q : Nat), j ≤ nnl ∧ i = .int .i64 j ∧ s = .bool (anyV (isTx xn) (nrs.take j)) ∧ w2 = wr.drewN q) (fun _ i _ => nnl - (intOf i).toNat)
        case atStart => exact ⟨0, 0, Nat.zero_le _, rfl, rfl, rfl⟩
        case round =>
          obtain ⟨j, q, hj, rfl, rfl, rfl⟩ := hrel
          have j0 : (0 : Int) ≤ (j : Int) := Int.natCast_nonneg _
          by_cases hjl : j < nnl
          · obtain ⟨⟨zk, zn, zs, zpl, znl, zcl, zpm, znm, zcm⟩, hz⟩ : ∃ x, nrs[j]? = some x := ⟨_, List.getElem?_eq_getElem (by have := E3.out; omega)⟩
            obtain ⟨b2, o2, rfl, hb2, hc2⟩ := rd_at' (HNR.out.below HBW.out HBW.out.size) hz
            have e0 := hc2 0 _ rfl
            have e1 := hc2 1 _ rfl
            have e2 := hc2 2 _ rfl
            have e3 := hc2 3 _ rfl
            have e4 := hc2 4 _ rfl
            rw [Nat.add_zero] at e0
            dsimp only at e0 e1 e2 e3 e4
            have j1 : (j : Int) < (nnl : Int) := by omega
            have HAT := Lib.hid (anyV_take (pb := isTx xn) hz)
            have hst : (zs.toList == xn.toList) = decide (zs = xn) := str_beq zs xn
            have HTX : Hid (isTx xn ⟨zk, zn, zs, zpl, znl, zcl, zpm, znm, zcm⟩ = ((zk == 4) && decide (zs = xn))) := by unfold Hid isTx; simp only; congr 1
            obtain ⟨s, hs⟩ : ∃ s, anyV (isTx xn) (nrs.take j) = s := ⟨_, rfl⟩
            rw [hs] at HAT
            rw [hs]
            obtain ⟨d, hd⟩ : ∃ d, decide (zs = xn) = d := ⟨_, rfl⟩
            rw [hd] at hst HTX
            rw [HTX.out] at HAT
            clear hs hd hz hc2 HTX
            cases s
            · cases h4 : (zk == 4)
              · rw [h4] at HAT
                go_wp2_with fail
                go_quiet (fail)
                go_wp2_with fail
                go_roundw
                case rel => exact ⟨j + 1, _, by omega, by go_num, by rw [HAT.out]; rfl, rfl⟩
                case measure => simp [intOf]; omega
              · rw [h4] at HAT
                cases d
                all_goals
                  go_wp2_with fail
                  go_quiet (fail)
                  go_wp2_with fail
                  go_roundw
                  case rel => exact ⟨j + 1, _, by omega, by go_num, by rw [HAT.out]; rfl, rfl⟩
                  case measure => simp [intOf]; omega
            · go_wp2_with fail
              go_quiet (fail)
              go_wp2_with fail
              go_roundw
              case rel => exact ⟨j + 1, _, by omega, by go_num, by rw [HAT.out]; rfl, rfl⟩
              case measure => simp [intOf]; omega
          · obtain rfl : j = nnl := by omega
            have hta : nrs.take j = nrs := List.take_of_length_le (by have := E3.out; omega)
            rw [hta]
            rw [← HNB0.out]
            obtain ⟨nb, hnb⟩ : ∃ b, nameIn nt y.1 = b := ⟨_, rfl⟩
            rw [hnb]
            have HNB := Lib.hid hnb
            clear hta hnb HNB0
            have hb7 : Below wr.heap.size wr (wr.drewN q) := bdn (Below.refl _ _) q
            obtain ⟨w7, hw7⟩ : ∃ W, wr.drewN q = W := ⟨_, rfl⟩
            rw [hw7] at hb7
            try rw [hw7]
            clear hw7
            cases nb
            · have a4 := bcs hb7 (by omega) a4
              have n0 := bcs hb7 (by omega) n0
              have n3 := bcs hb7 (by omega) n3
              have HRL : Hid (ShowS W5 B (w.heap.size + 1 + 1) g5 ((idN, textJ id) :: (vt.m.take (k + 1)).filter (showP nt)) p n c w7) := by
                unfold Hid
                have hp : showP nt y = false := by unfold showP; rw [HNB.out]; rfl
                rw [HTK.out, hp]
                simpa using HS.out.step (by omega) hb7
              clear hb7
              go_wp2_with fail
              go_roundw
              case rel => exact ⟨k + 1, p, n, c, by omega, by go_num, HRL⟩
              case measure => simp [intOf]; omega
            · have HS7 := Lib.hid (HS.out.step (by omega) hb7)
              have HTY7 : Hid (TreeOf w7 B y.2 ⟨xk, xv, xs, xpl, xnl, xcl, xpm, xnm, xcm⟩) := HTY.out.under (hb7.mono (Nat.le_trans hBw HBW.out.size)) (Nat.le_refl _)
              have f0 := bcs hb7 hb1w f0
              have f1 := bcs hb7 hb1w f1
              have f2 := bcs hb7 hb1w f2
              have f3 := bcs hb7 hb1w f3
              have f4 := bcs hb7 hb1w f4
              have f5 := bcs hb7 hb1w f5
              have a4 := bcs hb7 (by omega) a4
              have n0 := bcs hb7 (by omega) n0
              have n3 := bcs hb7 (by omega) n3
              have o4 := HS7.out.out.cell 4 rfl
              dsimp only at o4
              have hgz7 := hb7.size
              clear hb7
              by_cases hid : xn = idN
              · have q1 : (xn.toList == [105, 100]) = true := by rw [← idN_list, str_beq]; exact decide_eq_true hid
                have q2 : (xn.toList != [105, 100]) = false := by rw [bne, q1]; rfl
                have HRL : Hid (ShowS W5 B (w.heap.size + 1 + 1) g5 ((idN, textJ id) :: (vt.m.take (k + 1)).filter (showP nt)) p n c w7) := by
                  unfold Hid
                  have hp : showP nt y = false := by unfold showP; rw [HYN.out, decide_eq_false (by simpa using hid)]; simp
                  rw [HTK.out, hp]
                  simpa using HS7.out
                clear hid
                go_wp2_with fail
                go_roundw
                case rel => exact ⟨k + 1, p, n, c, by omega, by go_num, HRL⟩
                case measure => simp [intOf]; omega
              · have q1 : (xn.toList == [105, 100]) = false := by rw [← idN_list, str_beq]; exact decide_eq_false hid
                have q2 : (xn.toList != [105, 100]) = true := by rw [bne, q1]; rfl
                obtain ⟨rm7, ho7, hms7⟩ := HS7.out.own
                have hl7 : rm7.length ≤ 90001 := by
                  have h1 := hms7.len
                  have h2 : ((vt.m.take k).filter (showP nt)).length ≤ k := Nat.le_trans (List.length_filter_le _ _) (List.length_take_le _ _)
                  simp only [List.length_cons] at h1
                  omega
                have HP7 : Hid (∀ (p2 : Option Addr) (n2 c2 : Nat) (W2 : World), Own W2 (w.heap.size + 1 + 1 + 1) 48 encM 6 (.slice p2 n2 c2) (rm7 ++ [⟨xn, ⟨xk, xv, xs, xpl, xnl, xcl, xpm, xnm, xcm⟩⟩]) → (w7.drew.alloc (.cells #[.string xn, .int .i64 xk, .int .i64 xv, .string xs, .slice xpl xnl xcl, .slice xpm xnm xcm] 48)).grownBy W2 (Value.slice p n c).ownBlock → ((Value.slice p2 n2 c2).ownBlock = (Value.slice p n c).ownBlock ∨ (Value.slice p2 n2 c2).ownBlock = some (w7.drew.alloc (.cells #[.string xn, .int .i64 xk, .int .i64 xv, .string xs, .slice xpl xnl xcl, .slice xpm xnm xcm] 48)).heap.size) →
                    ShowS W5 B (w.heap.size + 1 + 1) g5 ((idN, textJ id) :: (vt.m.take (k + 1)).filter (showP nt)) p2 n2 c2 (W2.setCell ⟨g5, 4, none⟩ (.slice p2 n2 c2)) ∧ VAt W2 g5 ⟨6, 0, ⟨#[]⟩, none, 0, 0, p, n, c⟩ ∧ (∀ b o v, b < w7.heap.size → (Value.slice p n c).ownBlock ≠ some b → w7.cell? ⟨b, o, none⟩ = some v → W2.cell? ⟨b, o, none⟩ = some v)) := fun p2 n2 c2 W2 h1 h2 h3 => by
                  have hp : showP nt y = true := by unfold showP; rw [HNB.out, HYN.out, decide_eq_true hid]; rfl
                  have hx := HS7.out.push (y := y) (by omega) ho7 hms7 ((Below.refl _ _).drew.alloc (Nat.le_refl _) (.cells #[.string xn, .int .i64 xk, .int .i64 xv, .string xs, .slice xpl xnl xcl, .slice xpm xnm xcm] 48)) (by omega) h1 h2 h3 HYN.out HTY7.out
                  rw [HTK.out, hp]
                  refine ⟨hx, (h2.block g5 (by have := HS7.out.out.lt; simp; omega) (fun e => HS7.out.no e.symm)).trans (heap_alloc_lt (show g5 < w7.drew.heap.size from HS7.out.out.lt) HS7.out.out), fun b o v hb hne hc => ?_⟩
                  have hh : W2.heap[b]? = w7.heap[b]? := (h2.block b (by simp; omega) (fun e => hne e.symm)).trans (Below.heap_alloc w7.drew _ b hb)
                  exact (World.cell?_of_block (a := ⟨b, o, none⟩) hh).trans hc
                have HO7 : Hid (Own (w7.drew.alloc (.cells #[.string xn, .int .i64 xk, .int .i64 xv, .string xs, .slice xpl xnl xcl, .slice xpm xnm xcm] 48)) (w.heap.size + 1 + 1 + 1) 48 encM 6 (.slice p n c) rm7) := ho7.below ((Below.refl _ _).drew.alloc (Nat.le_refl _) _) (Nat.le_refl _)
                have HR7 : Hid (Rd (w7.drew.alloc (.cells #[.string xn, .int .i64 xk, .int .i64 xv, .string xs, .slice xpl xnl xcl, .slice xpm xnm xcm] 48)) (w7.heap.size + 1) encM 6 (.slice (some ⟨w7.heap.size, 0, none⟩) 1 1) [(⟨xn, ⟨xk, xv, xs, xpl, xnl, xcl, xpm, xnm, xcm⟩⟩ : RM)]) := Rd.one codecM (heap_alloc_new _ _) rfl (by omega)
                have HNW7 : Hid (∀ b, b < w.heap.size + 1 + 1 + 1 → (Value.slice p n c).ownBlock ≠ some b) := fun b hb e => by have := (ho7.lt _ e).1; omega
                have HL7 := Lib.hid hl7
                have hb1z : b1 < w7.heap.size := by omega
                have hb1o : b1 < w.heap.size + 1 + 1 + 1 := by have := hb1; omega
                have hz7 : w.heap.size + 1 + 1 + 1 ≤ w7.heap.size := by omega
                clear hid ho7 hms7 hl7 HTY7
                go_upto_region 11 with fail
                have hS7 : (fun w' : World => w'.cell? ⟨g5, 4, none⟩ = some (.slice p n c) ∧ w'.cell? ⟨w.heap.size, 4, none⟩ = some (.slice (some ⟨b1, o1, none⟩) vnm vcm) ∧ w'.cell? ⟨b1, o1 + k * 6, none⟩ = some (.string xn) ∧ w'.cell? ⟨b1, o1 + k * 6 + 1, none⟩ = some (.int .i64 xk) ∧ w'.cell? ⟨b1, o1 + k * 6 + 2, none⟩ = some (.int .i64 xv) ∧ w'.cell? ⟨b1, o1 + k * 6 + 3, none⟩ = some (.string xs) ∧ w'.cell? ⟨b1, o1 + k * 6 + 4, none⟩ = some (.slice xpl xnl xcl) ∧ w'.cell? ⟨b1, o1 + k * 6 + 5, none⟩ = some (.slice xpm xnm xcm)) w7.drew := ⟨o4, a4, f0, f1, f2, f3, f4, f5⟩
                refine wp_region_K 10 (fun w' : World => w'.cell? ⟨g5, 4, none⟩ = some (.slice p n c) ∧ w'.cell? ⟨w.heap.size, 4, none⟩ = some (.slice (some ⟨b1, o1, none⟩) vnm vcm) ∧ w'.cell? ⟨b1, o1 + k * 6, none⟩ = some (.string xn) ∧ w'.cell? ⟨b1, o1 + k * 6 + 1, none⟩ = some (.int .i64 xk) ∧ w'.cell? ⟨b1, o1 + k * 6 + 2, none⟩ = some (.int .i64 xv) ∧ w'.cell? ⟨b1, o1 + k * 6 + 3, none⟩ = some (.string xs) ∧ w'.cell? ⟨b1, o1 + k * 6 + 4, none⟩ = some (.slice xpl xnl xcl) ∧ w'.cell? ⟨b1, o1 + k * 6 + 5, none⟩ = some (.slice xpm xnm xcm)) (by kernel_rfl) hS7 ?_
                intro hHeld
                refine wpAnyK_take (v := ?vv1) 0 rfl (by kernel_rfl) (by kernel_rfl) (by kernel_rfl) (by kernel_rfl) (by kernel_rfl) (fun _ _ _ h => h) (by assumption) (Or.inl ⟨by rfl, ?hy1⟩) ?rest1
                case hy1 => (intro w' hSw; (try dsimp only at hSw); first | (go_simp; done) | (go_simp; with_reducible rfl))
                try simp only [Act.put, List.setIfInBounds_toArray, List.set_cons_zero, List.set_cons_succ]
                refine wpAnyK_take (v := ?vv2) 1 rfl (by kernel_rfl) (by kernel_rfl) (by kernel_rfl) (by kernel_rfl) (by kernel_rfl) (fun _ _ _ h => h) (by assumption) (Or.inl ⟨by rfl, ?hy2⟩) ?rest2
                case hy2 => (intro w' hSw; (try dsimp only at hSw); first | (go_simp; done) | (go_simp; with_reducible rfl))
                try simp only [Act.put, List.setIfInBounds_toArray, List.set_cons_zero, List.set_cons_succ]
                refine wpAnyK_take (v := ?vv3) 2 rfl (by kernel_rfl) (by kernel_rfl) (by kernel_rfl) (by kernel_rfl) (by kernel_rfl) (fun _ _ _ h => h) (by assumption) (Or.inl ⟨by rfl, ?hy3⟩) ?rest3
                case hy3 => (intro w' hSw; (try dsimp only at hSw); first | (go_simp; done) | (go_simp; with_reducible rfl))
                try simp only [Act.put, List.setIfInBounds_toArray, List.set_cons_zero, List.set_cons_succ]
                refine wpAnyK_take (v := ?vv4) 3 rfl (by kernel_rfl) (by kernel_rfl) (by kernel_rfl) (by kernel_rfl) (by kernel_rfl) (fun _ _ _ h => h) (by assumption) (Or.inl ⟨by rfl, ?hy4⟩) ?rest4
                case hy4 => (intro w' hSw; (try dsimp only at hSw); first | (go_simp; done) | (go_simp; with_reducible rfl))
                try simp only [Act.put, List.setIfInBounds_toArray, List.set_cons_zero, List.set_cons_succ]
                refine wpAnyK_take (v := ?vv5) 4 rfl (by kernel_rfl) (by kernel_rfl) (by kernel_rfl) (by kernel_rfl) (by kernel_rfl) (fun _ _ _ h => h) (by assumption) (Or.inl ⟨by rfl, ?hy5⟩) ?rest5
                case hy5 => (intro w' hSw; (try dsimp only at hSw); first | (go_simp; done) | (go_simp; with_reducible rfl))
                try simp only [Act.put, List.setIfInBounds_toArray, List.set_cons_zero, List.set_cons_succ]
                refine wpAnyK_take (v := ?vv6) 5 rfl (by kernel_rfl) (by kernel_rfl) (by kernel_rfl) (by kernel_rfl) (by kernel_rfl) (fun _ _ _ h => h) (by assumption) (Or.inl ⟨by rfl, ?hy6⟩) ?rest6
                case hy6 => (intro w' hSw; (try dsimp only at hSw); first | (go_simp; done) | (go_simp; with_reducible rfl))
                try simp only [Act.put, List.setIfInBounds_toArray, List.set_cons_zero, List.set_cons_succ]
                refine wpAnyK_take (v := ?vv7) 6 rfl (by kernel_rfl) (by kernel_rfl) (by kernel_rfl) (by kernel_rfl) (by kernel_rfl) (fun _ _ _ h => h) (by assumption) (Or.inl ⟨by rfl, ?hy7⟩) ?rest7
                case hy7 => (intro w' hSw; (try dsimp only at hSw); first | (go_simp; done) | (go_simp; with_reducible rfl))
                try simp only [Act.put, List.setIfInBounds_toArray, List.set_cons_zero, List.set_cons_succ]
                refine wpAnyK_eff 7 rfl (by kernel_rfl) (fun K hK => ?_)
                go_simp
                have hbA : Below w7.heap.size w7 (w7.drew.alloc (.cells #[.string xn, .int .i64 xk, .int .i64 xv, .string xs, .slice xpl xnl xcl, .slice xpm xnm xcm] 48)) := (Below.refl _ _).drew.alloc (Nat.le_refl _) _
                refine hK.out _ _ ⟨bcs hbA HS7.out.out.lt o4, bcs hbA (by omega) a4, bcs hbA hb1z f0, bcs hbA hb1z f1, bcs hbA hb1z f2, bcs hbA hb1z f3, bcs hbA hb1z f4, bcs hbA hb1z f5⟩ (fun hHeld => ?_)
                clear hK K
                try simp only [Act.put, List.setIfInBounds_toArray, List.set_cons_zero, List.set_cons_succ]
                refine wpAnyK_eff 8 rfl (by kernel_rfl) (fun K hK => ?_)
                refine step_append_rd slM codecM (w7.drew.alloc (.cells #[.string xn, .int .i64 xk, .int .i64 xv, .string xs, .slice xpl xnl xcl, .slice xpm xnm xcm] 48)) (by rfl) (.tmp 73) (.tmp 79) (by rfl) (v := .slice p n c) (by rfl) (by rfl) HO7.out HR7.out (by have := HL7.out; simp only [List.length_singleton]; unfold maxLen; omega) (by have := HL7.out; simp only [List.length_singleton]; omega) (by simp; omega) ?_
                intro v8 w8 ho8 hg8 hat8
                obtain ⟨p8, n8, c8, rfl⟩ : ∃ p n c, v8 = Value.slice p n c := by obtain ⟨p, c, hv, _, _⟩ := ho8.len; exact ⟨p, _, c, hv⟩
                obtain ⟨hs8, hv8, hcc⟩ := HP7.out _ _ _ _ ho8 hg8 hat8
                have c84 := hv8.cell 4 rfl
                dsimp only at c84
                refine hK.out _ _ ⟨c84, hcc _ _ _ (by omega) (HNW7.out _ (by omega)) a4, hcc _ _ _ hb1z (HNW7.out _ hb1o) f0, hcc _ _ _ hb1z (HNW7.out _ hb1o) f1, hcc _ _ _ hb1z (HNW7.out _ hb1o) f2, hcc _ _ _ hb1z (HNW7.out _ hb1o) f3, hcc _ _ _ hb1z (HNW7.out _ hb1o) f4, hcc _ _ _ hb1z (HNW7.out _ hb1o) f5⟩ (fun hHeld => ?_)
                clear hK K
                try simp only [Act.put, List.setIfInBounds_toArray, List.set_cons_zero, List.set_cons_succ]
                refine wpAnyK_take (v := ?vv8) 9 rfl (by kernel_rfl) (by kernel_rfl) (by kernel_rfl) (by kernel_rfl) (by kernel_rfl) (fun _ _ _ h => h) (by assumption) (Or.inl ⟨by rfl, ?hy8⟩) ?rest8
                case hy8 => (intro w' hSw; (try dsimp only at hSw); first | (go_simp; done) | (go_simp; with_reducible rfl))
                try simp only [Act.put, List.setIfInBounds_toArray, List.set_cons_zero, List.set_cons_succ]
                have y84 := hv8.frozen 4
                refine wpAnyK_last rfl (by kernel_rfl) (by kernel_rfl) (fun K hK => ?_)
                go_simp
                refine hK.out _ _ ?_
                have HS8 := Lib.hid hs8
                clear ho8 hg8 hat8 hs8 hv8 hcc hK hHeld hS7
                go_wp2_with fail
                go_roundw
                case rel => exact ⟨k + 1, p8, n8, c8, by omega, by go_num, HS8⟩
                case measure => simp [intOf]; omega
      · have h5 : nk ≠ 5 := by simpa using hq
        have hq2 : (nk == 5) = false := by simpa using h5
        have HNB : Hid (nameIn nt y.1 = true) := by
          unfold Hid
          rw [HNI2.out]
          simp [h5]
        clear h5
        go_wp2_with fail
        go_loopw [9, 10] (fun s i w2 => i = .int .i64 0 ∧ s = .bool true ∧ w2 = wr) (fun _ i _ => 0)
        case atStart => exact ⟨rfl, rfl, rfl⟩
        case round =>
          obtain ⟨rfl, rfl, rfl⟩ := hrel
          obtain ⟨w7, rfl⟩ : ∃ W, W = wr := ⟨_, rfl⟩
          have hb7 : Below w7.heap.size w7 w7 := Below.refl _ _
          by_cases hn0 : 0 < nnl
          · have HS7 := Lib.hid (HS.out.step (by omega) hb7)
            have HTY7 : Hid (TreeOf w7 B y.2 ⟨xk, xv, xs, xpl, xnl, xcl, xpm, xnm, xcm⟩) := HTY.out.under (hb7.mono (Nat.le_trans hBw HBW.out.size)) (Nat.le_refl _)
            have f0 := bcs hb7 hb1w f0
            have f1 := bcs hb7 hb1w f1
            have f2 := bcs hb7 hb1w f2
            have f3 := bcs hb7 hb1w f3
            have f4 := bcs hb7 hb1w f4
            have f5 := bcs hb7 hb1w f5
            have a4 := bcs hb7 (by omega) a4
            have n0 := bcs hb7 (by omega) n0
            have n3 := bcs hb7 (by omega) n3
            have o4 := HS7.out.out.cell 4 rfl
            dsimp only at o4
            have hgz7 := hb7.size
            clear hb7
            by_cases hid : xn = idN
            · have q1 : (xn.toList == [105, 100]) = true := by rw [← idN_list, str_beq]; exact decide_eq_true hid
              have q2 : (xn.toList != [105, 100]) = false := by rw [bne, q1]; rfl
              have HRL : Hid (ShowS W5 B (w.heap.size + 1 + 1) g5 ((idN, textJ id) :: (vt.m.take (k + 1)).filter (showP nt)) p n c w7) := by
                unfold Hid
                have hp : showP nt y = false := by unfold showP; rw [HYN.out, decide_eq_false (by simpa using hid)]; simp
                rw [HTK.out, hp]
                simpa using HS7.out
              clear hid
              go_wp2_with fail
              go_roundw
              case rel => exact ⟨k + 1, p, n, c, by omega, by go_num, HRL⟩
              case measure => simp [intOf]; omega
            · have q1 : (xn.toList == [105, 100]) = false := by rw [← idN_list, str_beq]; exact decide_eq_false hid
              have q2 : (xn.toList != [105, 100]) = true := by rw [bne, q1]; rfl
              obtain ⟨rm7, ho7, hms7⟩ := HS7.out.own
              have hl7 : rm7.length ≤ 90001 := by
                have h1 := hms7.len
                have h2 : ((vt.m.take k).filter (showP nt)).length ≤ k := Nat.le_trans (List.length_filter_le _ _) (List.length_take_le _ _)
                simp only [List.length_cons] at h1
                omega
              have HP7 : Hid (∀ (p2 : Option Addr) (n2 c2 : Nat) (W2 : World), Own W2 (w.heap.size + 1 + 1 + 1) 48 encM 6 (.slice p2 n2 c2) (rm7 ++ [⟨xn, ⟨xk, xv, xs, xpl, xnl, xcl, xpm, xnm, xcm⟩⟩]) → (w7.drew.alloc (.cells #[.string xn, .int .i64 xk, .int .i64 xv, .string xs, .slice xpl xnl xcl, .slice xpm xnm xcm] 48)).grownBy W2 (Value.slice p n c).ownBlock → ((Value.slice p2 n2 c2).ownBlock = (Value.slice p n c).ownBlock ∨ (Value.slice p2 n2 c2).ownBlock = some (w7.drew.alloc (.cells #[.string xn, .int .i64 xk, .int .i64 xv, .string xs, .slice xpl xnl xcl, .slice xpm xnm xcm] 48)).heap.size) →
                  ShowS W5 B (w.heap.size + 1 + 1) g5 ((idN, textJ id) :: (vt.m.take (k + 1)).filter (showP nt)) p2 n2 c2 (W2.setCell ⟨g5, 4, none⟩ (.slice p2 n2 c2)) ∧ VAt W2 g5 ⟨6, 0, ⟨#[]⟩, none, 0, 0, p, n, c⟩ ∧ (∀ b o v, b < w7.heap.size → (Value.slice p n c).ownBlock ≠ some b → w7.cell? ⟨b, o, none⟩ = some v → W2.cell? ⟨b, o, none⟩ = some v)) := fun p2 n2 c2 W2 h1 h2 h3 => by
                have hp : showP nt y = true := by unfold showP; rw [HNB.out, HYN.out, decide_eq_true hid]; rfl
                have hx := HS7.out.push (y := y) (by omega) ho7 hms7 ((Below.refl _ _).drew.alloc (Nat.le_refl _) (.cells #[.string xn, .int .i64 xk, .int .i64 xv, .string xs, .slice xpl xnl xcl, .slice xpm xnm xcm] 48)) (by omega) h1 h2 h3 HYN.out HTY7.out
                rw [HTK.out, hp]
                refine ⟨hx, (h2.block g5 (by have := HS7.out.out.lt; simp; omega) (fun e => HS7.out.no e.symm)).trans (heap_alloc_lt (show g5 < w7.drew.heap.size from HS7.out.out.lt) HS7.out.out), fun b o v hb hne hc => ?_⟩
                have hh : W2.heap[b]? = w7.heap[b]? := (h2.block b (by simp; omega) (fun e => hne e.symm)).trans (Below.heap_alloc w7.drew _ b hb)
                exact (World.cell?_of_block (a := ⟨b, o, none⟩) hh).trans hc
              have HO7 : Hid (Own (w7.drew.alloc (.cells #[.string xn, .int .i64 xk, .int .i64 xv, .string xs, .slice xpl xnl xcl, .slice xpm xnm xcm] 48)) (w.heap.size + 1 + 1 + 1) 48 encM 6 (.slice p n c) rm7) := ho7.below ((Below.refl _ _).drew.alloc (Nat.le_refl _) _) (Nat.le_refl _)
              have HR7 : Hid (Rd (w7.drew.alloc (.cells #[.string xn, .int .i64 xk, .int .i64 xv, .string xs, .slice xpl xnl xcl, .slice xpm xnm xcm] 48)) (w7.heap.size + 1) encM 6 (.slice (some ⟨w7.heap.size, 0, none⟩) 1 1) [(⟨xn, ⟨xk, xv, xs, xpl, xnl, xcl, xpm, xnm, xcm⟩⟩ : RM)]) := Rd.one codecM (heap_alloc_new _ _) rfl (by omega)
              have HNW7 : Hid (∀ b, b < w.heap.size + 1 + 1 + 1 → (Value.slice p n c).ownBlock ≠ some b) := fun b hb e => by have := (ho7.lt _ e).1; omega
              have HL7 := Lib.hid hl7
              have hb1z : b1 < w7.heap.size := by omega
              have hb1o : b1 < w.heap.size + 1 + 1 + 1 := by have := hb1; omega
              have hz7 : w.heap.size + 1 + 1 + 1 ≤ w7.heap.size := by omega
              clear hid ho7 hms7 hl7 HTY7
              go_upto_region 11 with fail
              have hS7 : (fun w' : World => w'.cell? ⟨g5, 4, none⟩ = some (.slice p n c) ∧ w'.cell? ⟨w.heap.size, 4, none⟩ = some (.slice (some ⟨b1, o1, none⟩) vnm vcm) ∧ w'.cell? ⟨b1, o1 + k * 6, none⟩ = some (.string xn) ∧ w'.cell? ⟨b1, o1 + k * 6 + 1, none⟩ = some (.int .i64 xk) ∧ w'.cell? ⟨b1, o1 + k * 6 + 2, none⟩ = some (.int .i64 xv) ∧ w'.cell? ⟨b1, o1 + k * 6 + 3, none⟩ = some (.string xs) ∧ w'.cell? ⟨b1, o1 + k * 6 + 4, none⟩ = some (.slice xpl xnl xcl) ∧ w'.cell? ⟨b1, o1 + k * 6 + 5, none⟩ = some (.slice xpm xnm xcm)) w7.drew := ⟨o4, a4, f0, f1, f2, f3, f4, f5⟩
              refine wp_region_K 10 (fun w' : World => w'.cell? ⟨g5, 4, none⟩ = some (.slice p n c) ∧ w'.cell? ⟨w.heap.size, 4, none⟩ = some (.slice (some ⟨b1, o1, none⟩) vnm vcm) ∧ w'.cell? ⟨b1, o1 + k * 6, none⟩ = some (.string xn) ∧ w'.cell? ⟨b1, o1 + k * 6 + 1, none⟩ = some (.int .i64 xk) ∧ w'.cell? ⟨b1, o1 + k * 6 + 2, none⟩ = some (.int .i64 xv) ∧ w'.cell? ⟨b1, o1 + k * 6 + 3, none⟩ = some (.string xs) ∧ w'.cell? ⟨b1, o1 + k * 6 + 4, none⟩ = some (.slice xpl xnl xcl) ∧ w'.cell? ⟨b1, o1 + k * 6 + 5, none⟩ = some (.slice xpm xnm xcm)) (by kernel_rfl) hS7 ?_
              intro hHeld
              refine wpAnyK_take (v := ?vv9) 0 rfl (by kernel_rfl) (by kernel_rfl) (by kernel_rfl) (by kernel_rfl) (by kernel_rfl) (fun _ _ _ h => h) (by assumption) (Or.inl ⟨by rfl, ?hy9⟩) ?rest9
              case hy9 => (intro w' hSw; (try dsimp only at hSw); first | (go_simp; done) | (go_simp; with_reducible rfl))
              try simp only [Act.put, List.setIfInBounds_toArray, List.set_cons_zero, List.set_cons_succ]
              refine wpAnyK_take (v := ?vv10) 1 rfl (by kernel_rfl) (by kernel_rfl) (by kernel_rfl) (by kernel_rfl) (by kernel_rfl) (fun _ _ _ h => h) (by assumption) (Or.inl ⟨by rfl, ?hy10⟩) ?rest10
              case hy10 => (intro w' hSw; (try dsimp only at hSw); first | (go_simp; done) | (go_simp; with_reducible rfl))
              try simp only [Act.put, List.setIfInBounds_toArray, List.set_cons_zero, List.set_cons_succ]
              refine wpAnyK_take (v := ?vv11) 2 rfl (by kernel_rfl) (by kernel_rfl) (by kernel_rfl) (by kernel_rfl) (by kernel_rfl) (fun _ _ _ h => h) (by assumption) (Or.inl ⟨by rfl, ?hy11⟩) ?rest11
              case hy11 => (intro w' hSw; (try dsimp only at hSw); first | (go_simp; done) | (go_simp; with_reducible rfl))
              try simp only [Act.put, List.setIfInBounds_toArray, List.set_cons_zero, List.set_cons_succ]
              refine wpAnyK_take (v := ?vv12) 3 rfl (by kernel_rfl) (by kernel_rfl) (by kernel_rfl) (by kernel_rfl) (by kernel_rfl) (fun _ _ _ h => h) (by assumption) (Or.inl ⟨by rfl, ?hy12⟩) ?rest12
              case hy12 => (intro w' hSw; (try dsimp only at hSw); first | (go_simp; done) | (go_simp; with_reducible rfl))
              try simp only [Act.put, List.setIfInBounds_toArray, List.set_cons_zero, List.set_cons_succ]
              refine wpAnyK_take (v := ?vv13) 4 rfl (by kernel_rfl) (by kernel_rfl) (by kernel_rfl) (by kernel_rfl) (by kernel_rfl) (fun _ _ _ h => h) (by assumption) (Or.inl ⟨by rfl, ?hy13⟩) ?rest13
              case hy13 => (intro w' hSw; (try dsimp only at hSw); first | (go_simp; done) | (go_simp; with_reducible rfl))
              try simp only [Act.put, List.setIfInBounds_toArray, List.set_cons_zero, List.set_cons_succ]
              refine wpAnyK_take (v := ?vv14) 5 rfl (by kernel_rfl) (by kernel_rfl) (by kernel_rfl) (by kernel_rfl) (by kernel_rfl) (fun _ _ _ h => h) (by assumption) (Or.inl ⟨by rfl, ?hy14⟩) ?rest14
              case hy14 => (intro w' hSw; (try dsimp only at hSw); first | (go_simp; done) | (go_simp; with_reducible rfl))
              try simp only [Act.put, List.setIfInBounds_toArray, List.set_cons_zero, List.set_cons_succ]
              refine wpAnyK_take (v := ?vv15) 6 rfl (by kernel_rfl) (by kernel_rfl) (by kernel_rfl) (by kernel_rfl) (by kernel_rfl) (fun _ _ _ h => h) (by assumption) (Or.inl ⟨by rfl, ?hy15⟩) ?rest15
              case hy15 => (intro w' hSw; (try dsimp only at hSw); first | (go_simp; done) | (go_simp; with_reducible rfl))
              try simp only [Act.put, List.setIfInBounds_toArray, List.set_cons_zero, List.set_cons_succ]
              refine wpAnyK_eff 7 rfl (by kernel_rfl) (fun K hK => ?_)
              go_simp
              have hbA : Below w7.heap.size w7 (w7.drew.alloc (.cells #[.string xn, .int .i64 xk, .int .i64 xv, .string xs, .slice xpl xnl xcl, .slice xpm xnm xcm] 48)) := (Below.refl _ _).drew.alloc (Nat.le_refl _) _
              refine hK.out _ _ ⟨bcs hbA HS7.out.out.lt o4, bcs hbA (by omega) a4, bcs hbA hb1z f0, bcs hbA hb1z f1, bcs hbA hb1z f2, bcs hbA hb1z f3, bcs hbA hb1z f4, bcs hbA hb1z f5⟩ (fun hHeld => ?_)
              clear hK K
              try simp only [Act.put, List.setIfInBounds_toArray, List.set_cons_zero, List.set_cons_succ]
              refine wpAnyK_eff 8 rfl (by kernel_rfl) (fun K hK => ?_)
              refine step_append_rd slM codecM (w7.drew.alloc (.cells #[.string xn, .int .i64 xk, .int .i64 xv, .string xs, .slice xpl xnl xcl, .slice xpm xnm xcm] 48)) (by rfl) (.tmp 73) (.tmp 79) (by rfl) (v := .slice p n c) (by rfl) (by rfl) HO7.out HR7.out (by have := HL7.out; simp only [List.length_singleton]; unfold maxLen; omega) (by have := HL7.out; simp only [List.length_singleton]; omega) (by simp; omega) ?_
              intro v8 w8 ho8 hg8 hat8
              obtain ⟨p8, n8, c8, rfl⟩ : ∃ p n c, v8 = Value.slice p n c := by obtain ⟨p, c, hv, _, _⟩ := ho8.len; exact ⟨p, _, c, hv⟩
              obtain ⟨hs8, hv8, hcc⟩ := HP7.out _ _ _ _ ho8 hg8 hat8
              have c84 := hv8.cell 4 rfl
              dsimp only at c84
              refine hK.out _ _ ⟨c84, hcc _ _ _ (by omega) (HNW7.out _ (by omega)) a4, hcc _ _ _ hb1z (HNW7.out _ hb1o) f0, hcc _ _ _ hb1z (HNW7.out _ hb1o) f1, hcc _ _ _ hb1z (HNW7.out _ hb1o) f2, hcc _ _ _ hb1z (HNW7.out _ hb1o) f3, hcc _ _ _ hb1z (HNW7.out _ hb1o) f4, hcc _ _ _ hb1z (HNW7.out _ hb1o) f5⟩ (fun hHeld => ?_)
              clear hK K
              try simp only [Act.put, List.setIfInBounds_toArray, List.set_cons_zero, List.set_cons_succ]
              refine wpAnyK_take (v := ?vv16) 9 rfl (by kernel_rfl) (by kernel_rfl) (by kernel_rfl) (by kernel_rfl) (by kernel_rfl) (fun _ _ _ h => h) (by assumption) (Or.inl ⟨by rfl, ?hy16⟩) ?rest16
              case hy16 => (intro w' hSw; (try dsimp only at hSw); first | (go_simp; done) | (go_simp; with_reducible rfl))
              try simp only [Act.put, List.setIfInBounds_toArray, List.set_cons_zero, List.set_cons_succ]
              have y84 := hv8.frozen 4
              refine wpAnyK_last rfl (by kernel_rfl) (by kernel_rfl) (fun K hK => ?_)
              go_simp
              refine hK.out _ _ ?_
              have HS8 := Lib.hid hs8
              clear ho8 hg8 hat8 hs8 hv8 hcc hK hHeld hS7
              go_wp2_with fail
              go_roundw
              case rel => exact ⟨k + 1, p8, n8, c8, by omega, by go_num, HS8⟩
              case measure => simp [intOf]; omega
          · have HS7 := Lib.hid (HS.out.step (by omega) hb7)
            have HTY7 : Hid (TreeOf w7 B y.2 ⟨xk, xv, xs, xpl, xnl, xcl, xpm, xnm, xcm⟩) := HTY.out.under (hb7.mono (Nat.le_trans hBw HBW.out.size)) (Nat.le_refl _)
            have f0 := bcs hb7 hb1w f0
            have f1 := bcs hb7 hb1w f1
            have f2 := bcs hb7 hb1w f2
            have f3 := bcs hb7 hb1w f3
            have f4 := bcs hb7 hb1w f4
            have f5 := bcs hb7 hb1w f5
            have a4 := bcs hb7 (by omega) a4
            have n0 := bcs hb7 (by omega) n0
            have n3 := bcs hb7 (by omega) n3
            have o4 := HS7.out.out.cell 4 rfl
            dsimp only at o4
            have hgz7 := hb7.size
            clear hb7
            by_cases hid : xn = idN
            · have q1 : (xn.toList == [105, 100]) = true := by rw [← idN_list, str_beq]; exact decide_eq_true hid
              have q2 : (xn.toList != [105, 100]) = false := by rw [bne, q1]; rfl
              have HRL : Hid (ShowS W5 B (w.heap.size + 1 + 1) g5 ((idN, textJ id) :: (vt.m.take (k + 1)).filter (showP nt)) p n c w7) := by
                unfold Hid
                have hp : showP nt y = false := by unfold showP; rw [HYN.out, decide_eq_false (by simpa using hid)]; simp
                rw [HTK.out, hp]
                simpa using HS7.out
              clear hid
              go_wp2_with fail
              go_roundw
              case rel => exact ⟨k + 1, p, n, c, by omega, by go_num, HRL⟩
              case measure => simp [intOf]; omega
            · have q1 : (xn.toList == [105, 100]) = false := by rw [← idN_list, str_beq]; exact decide_eq_false hid
              have q2 : (xn.toList != [105, 100]) = true := by rw [bne, q1]; rfl
              obtain ⟨rm7, ho7, hms7⟩ := HS7.out.own
              have hl7 : rm7.length ≤ 90001 := by
                have h1 := hms7.len
                have h2 : ((vt.m.take k).filter (showP nt)).length ≤ k := Nat.le_trans (List.length_filter_le _ _) (List.length_take_le _ _)
                simp only [List.length_cons] at h1
                omega
              have HP7 : Hid (∀ (p2 : Option Addr) (n2 c2 : Nat) (W2 : World), Own W2 (w.heap.size + 1 + 1 + 1) 48 encM 6 (.slice p2 n2 c2) (rm7 ++ [⟨xn, ⟨xk, xv, xs, xpl, xnl, xcl, xpm, xnm, xcm⟩⟩]) → (w7.drew.alloc (.cells #[.string xn, .int .i64 xk, .int .i64 xv, .string xs, .slice xpl xnl xcl, .slice xpm xnm xcm] 48)).grownBy W2 (Value.slice p n c).ownBlock → ((Value.slice p2 n2 c2).ownBlock = (Value.slice p n c).ownBlock ∨ (Value.slice p2 n2 c2).ownBlock = some (w7.drew.alloc (.cells #[.string xn, .int .i64 xk, .int .i64 xv, .string xs, .slice xpl xnl xcl, .slice xpm xnm xcm] 48)).heap.size) →
                  ShowS W5 B (w.heap.size + 1 + 1) g5 ((idN, textJ id) :: (vt.m.take (k + 1)).filter (showP nt)) p2 n2 c2 (W2.setCell ⟨g5, 4, none⟩ (.slice p2 n2 c2)) ∧ VAt W2 g5 ⟨6, 0, ⟨#[]⟩, none, 0, 0, p, n, c⟩ ∧ (∀ b o v, b < w7.heap.size → (Value.slice p n c).ownBlock ≠ some b → w7.cell? ⟨b, o, none⟩ = some v → W2.cell? ⟨b, o, none⟩ = some v)) := fun p2 n2 c2 W2 h1 h2 h3 => by
                have hp : showP nt y = true := by unfold showP; rw [HNB.out, HYN.out, decide_eq_true hid]; rfl
                have hx := HS7.out.push (y := y) (by omega) ho7 hms7 ((Below.refl _ _).drew.alloc (Nat.le_refl _) (.cells #[.string xn, .int .i64 xk, .int .i64 xv, .string xs, .slice xpl xnl xcl, .slice xpm xnm xcm] 48)) (by omega) h1 h2 h3 HYN.out HTY7.out
                rw [HTK.out, hp]
                refine ⟨hx, (h2.block g5 (by have := HS7.out.out.lt; simp; omega) (fun e => HS7.out.no e.symm)).trans (heap_alloc_lt (show g5 < w7.drew.heap.size from HS7.out.out.lt) HS7.out.out), fun b o v hb hne hc => ?_⟩
                have hh : W2.heap[b]? = w7.heap[b]? := (h2.block b (by simp; omega) (fun e => hne e.symm)).trans (Below.heap_alloc w7.drew _ b hb)
                exact (World.cell?_of_block (a := ⟨b, o, none⟩) hh).trans hc
              have HO7 : Hid (Own (w7.drew.alloc (.cells #[.string xn, .int .i64 xk, .int .i64 xv, .string xs, .slice xpl xnl xcl, .slice xpm xnm xcm] 48)) (w.heap.size + 1 + 1 + 1) 48 encM 6 (.slice p n c) rm7) := ho7.below ((Below.refl _ _).drew.alloc (Nat.le_refl _) _) (Nat.le_refl _)
              have HR7 : Hid (Rd (w7.drew.alloc (.cells #[.string xn, .int .i64 xk, .int .i64 xv, .string xs, .slice xpl xnl xcl, .slice xpm xnm xcm] 48)) (w7.heap.size + 1) encM 6 (.slice (some ⟨w7.heap.size, 0, none⟩) 1 1) [(⟨xn, ⟨xk, xv, xs, xpl, xnl, xcl, xpm, xnm, xcm⟩⟩ : RM)]) := Rd.one codecM (heap_alloc_new _ _) rfl (by omega)
              have HNW7 : Hid (∀ b, b < w.heap.size + 1 + 1 + 1 → (Value.slice p n c).ownBlock ≠ some b) := fun b hb e => by have := (ho7.lt _ e).1; omega
              have HL7 := Lib.hid hl7
              have hb1z : b1 < w7.heap.size := by omega
              have hb1o : b1 < w.heap.size + 1 + 1 + 1 := by have := hb1; omega
              have hz7 : w.heap.size + 1 + 1 + 1 ≤ w7.heap.size := by omega
              clear hid ho7 hms7 hl7 HTY7
              go_upto_region 11 with fail
              have hS7 : (fun w' : World => w'.cell? ⟨g5, 4, none⟩ = some (.slice p n c) ∧ w'.cell? ⟨w.heap.size, 4, none⟩ = some (.slice (some ⟨b1, o1, none⟩) vnm vcm) ∧ w'.cell? ⟨b1, o1 + k * 6, none⟩ = some (.string xn) ∧ w'.cell? ⟨b1, o1 + k * 6 + 1, none⟩ = some (.int .i64 xk) ∧ w'.cell? ⟨b1, o1 + k * 6 + 2, none⟩ = some (.int .i64 xv) ∧ w'.cell? ⟨b1, o1 + k * 6 + 3, none⟩ = some (.string xs) ∧ w'.cell? ⟨b1, o1 + k * 6 + 4, none⟩ = some (.slice xpl xnl xcl) ∧ w'.cell? ⟨b1, o1 + k * 6 + 5, none⟩ = some (.slice xpm xnm xcm)) w7.drew := ⟨o4, a4, f0, f1, f2, f3, f4, f5⟩
              refine wp_region_K 10 (fun w' : World => w'.cell? ⟨g5, 4, none⟩ = some (.slice p n c) ∧ w'.cell? ⟨w.heap.size, 4, none⟩ = some (.slice (some ⟨b1, o1, none⟩) vnm vcm) ∧ w'.cell? ⟨b1, o1 + k * 6, none⟩ = some (.string xn) ∧ w'.cell? ⟨b1, o1 + k * 6 + 1, none⟩ = some (.int .i64 xk) ∧ w'.cell? ⟨b1, o1 + k * 6 + 2, none⟩ = some (.int .i64 xv) ∧ w'.cell? ⟨b1, o1 + k * 6 + 3, none⟩ = some (.string xs) ∧ w'.cell? ⟨b1, o1 + k * 6 + 4, none⟩ = some (.slice xpl xnl xcl) ∧ w'.cell? ⟨b1, o1 + k * 6 + 5, none⟩ = some (.slice xpm xnm xcm)) (by kernel_rfl) hS7 ?_
              intro hHeld
              refine wpAnyK_take (v := ?vv17) 0 rfl (by kernel_rfl) (by kernel_rfl) (by kernel_rfl) (by kernel_rfl) (by kernel_rfl) (fun _ _ _ h => h) (by assumption) (Or.inl ⟨by rfl, ?hy17⟩) ?rest17
              case hy17 => (intro w' hSw; (try dsimp only at hSw); first | (go_simp; done) | (go_simp; with_reducible rfl))
              try simp only [Act.put, List.setIfInBounds_toArray, List.set_cons_zero, List.set_cons_succ]
              refine wpAnyK_take (v := ?vv18) 1 rfl (by kernel_rfl) (by kernel_rfl) (by kernel_rfl) (by kernel_rfl) (by kernel_rfl) (fun _ _ _ h => h) (by assumption) (Or.inl ⟨by rfl, ?hy18⟩) ?rest18
              case hy18 => (intro w' hSw; (try dsimp only at hSw); first | (go_simp; done) | (go_simp; with_reducible rfl))
              try simp only [Act.put, List.setIfInBounds_toArray, List.set_cons_zero, List.set_cons_succ]
              refine wpAnyK_take (v := ?vv19) 2 rfl (by kernel_rfl) (by kernel_rfl) (by kernel_rfl) (by kernel_rfl) (by kernel_rfl) (fun _ _ _ h => h) (by assumption) (Or.inl ⟨by rfl, ?hy19⟩) ?rest19
              case hy19 => (intro w' hSw; (try dsimp only at hSw); first | (go_simp; done) | (go_simp; with_reducible rfl))
              try simp only [Act.put, List.setIfInBounds_toArray, List.set_cons_zero, List.set_cons_succ]
              refine wpAnyK_take (v := ?vv20) 3 rfl (by kernel_rfl) (by kernel_rfl) (by kernel_rfl) (by kernel_rfl) (by kernel_rfl) (fun _ _ _ h => h) (by assumption) (Or.inl ⟨by rfl, ?hy20⟩) ?rest20
              case hy20 => (intro w' hSw; (try dsimp only at hSw); first | (go_simp; done) | (go_simp; with_reducible rfl))
              try simp only [Act.put, List.setIfInBounds_toArray, List.set_cons_zero, List.set_cons_succ]
              refine wpAnyK_take (v := ?vv21) 4 rfl (by kernel_rfl) (by kernel_rfl) (by kernel_rfl) (by kernel_rfl) (by kernel_rfl) (fun _ _ _ h => h) (by assumption) (Or.inl ⟨by rfl, ?hy21⟩) ?rest21
              case hy21 => (intro w' hSw; (try dsimp only at hSw); first | (go_simp; done) | (go_simp; with_reducible rfl))
              try simp only [Act.put, List.setIfInBounds_toArray, List.set_cons_zero, List.set_cons_succ]
              refine wpAnyK_take (v := ?vv22) 5 rfl (by kernel_rfl) (by kernel_rfl) (by kernel_rfl) (by kernel_rfl) (by kernel_rfl) (fun _ _ _ h => h) (by assumption) (Or.inl ⟨by rfl, ?hy22⟩) ?rest22
              case hy22 => (intro w' hSw; (try dsimp only at hSw); first | (go_simp; done) | (go_simp; with_reducible rfl))
              try simp only [Act.put, List.setIfInBounds_toArray, List.set_cons_zero, List.set_cons_succ]
              refine wpAnyK_take (v := ?vv23) 6 rfl (by kernel_rfl) (by kernel_rfl) (by kernel_rfl) (by kernel_rfl) (by kernel_rfl) (fun _ _ _ h => h) (by assumption) (Or.inl ⟨by rfl, ?hy23⟩) ?rest23
              case hy23 => (intro w' hSw; (try dsimp only at hSw); first | (go_simp; done) | (go_simp; with_reducible rfl))
              try simp only [Act.put, List.setIfInBounds_toArray, List.set_cons_zero, List.set_cons_succ]
              refine wpAnyK_eff 7 rfl (by kernel_rfl) (fun K hK => ?_)
              go_simp
              have hbA : Below w7.heap.size w7 (w7.drew.alloc (.cells #[.string xn, .int .i64 xk, .int .i64 xv, .string xs, .slice xpl xnl xcl, .slice xpm xnm xcm] 48)) := (Below.refl _ _).drew.alloc (Nat.le_refl _) _
              refine hK.out _ _ ⟨bcs hbA HS7.out.out.lt o4, bcs hbA (by omega) a4, bcs hbA hb1z f0, bcs hbA hb1z f1, bcs hbA hb1z f2, bcs hbA hb1z f3, bcs hbA hb1z f4, bcs hbA hb1z f5⟩ (fun hHeld => ?_)
              clear hK K
              try simp only [Act.put, List.setIfInBounds_toArray, List.set_cons_zero, List.set_cons_succ]
              refine wpAnyK_eff 8 rfl (by kernel_rfl) (fun K hK => ?_)
              refine step_append_rd slM codecM (w7.drew.alloc (.cells #[.string xn, .int .i64 xk, .int .i64 xv, .string xs, .slice xpl xnl xcl, .slice xpm xnm xcm] 48)) (by rfl) (.tmp 73) (.tmp 79) (by rfl) (v := .slice p n c) (by rfl) (by rfl) HO7.out HR7.out (by have := HL7.out; simp only [List.length_singleton]; unfold maxLen; omega) (by have := HL7.out; simp only [List.length_singleton]; omega) (by simp; omega) ?_
              intro v8 w8 ho8 hg8 hat8
              obtain ⟨p8, n8, c8, rfl⟩ : ∃ p n c, v8 = Value.slice p n c := by obtain ⟨p, c, hv, _, _⟩ := ho8.len; exact ⟨p, _, c, hv⟩
              obtain ⟨hs8, hv8, hcc⟩ := HP7.out _ _ _ _ ho8 hg8 hat8
              have c84 := hv8.cell 4 rfl
              dsimp only at c84
              refine hK.out _ _ ⟨c84, hcc _ _ _ (by omega) (HNW7.out _ (by omega)) a4, hcc _ _ _ hb1z (HNW7.out _ hb1o) f0, hcc _ _ _ hb1z (HNW7.out _ hb1o) f1, hcc _ _ _ hb1z (HNW7.out _ hb1o) f2, hcc _ _ _ hb1z (HNW7.out _ hb1o) f3, hcc _ _ _ hb1z (HNW7.out _ hb1o) f4, hcc _ _ _ hb1z (HNW7.out _ hb1o) f5⟩ (fun hHeld => ?_)
              clear hK K
              try simp only [Act.put, List.setIfInBounds_toArray, List.set_cons_zero, List.set_cons_succ]
              refine wpAnyK_take (v := ?vv24) 9 rfl (by kernel_rfl) (by kernel_rfl) (by kernel_rfl) (by kernel_rfl) (by kernel_rfl) (fun _ _ _ h => h) (by assumption) (Or.inl ⟨by rfl, ?hy24⟩) ?rest24
              case hy24 => (intro w' hSw; (try dsimp only at hSw); first | (go_simp; done) | (go_simp; with_reducible rfl))
              try simp only [Act.put, List.setIfInBounds_toArray, List.set_cons_zero, List.set_cons_succ]
              have y84 := hv8.frozen 4
              refine wpAnyK_last rfl (by kernel_rfl) (by kernel_rfl) (fun K hK => ?_)
              go_simp
              refine hK.out _ _ ?_
              have HS8 := Lib.hid hs8
              clear ho8 hg8 hat8 hs8 hv8 hcc hK hHeld hS7
              go_wp2_with fail
              go_roundw
              case rel => exact ⟨k + 1, p8, n8, c8, by omega, by go_num, HS8⟩
              case measure => simp [intOf]; omega
    · obtain rfl : k = vnm := by omega
      have hs : (vt.m.take k).filter (showP nt) = showM vt nt := by unfold showM; rw [List.take_of_length_le (by have := E2.out; omega)]
      have hfin := (HS.out.fin (by omega) (by omega) HB5.out : MapRet w B _ _ _)
      rw [hs] at hfin
      have HF := Lib.hid hfin
      have hZ := HS.out.zero
      have hO := HS.out.out
      have z0 := hZ.cell 0 rfl
      have z1 := hZ.cell 1 rfl
      have z2 := hZ.cell 2 rfl
      have z3 := hZ.cell 3 rfl
      have z4 := hZ.cell 4 rfl
      have y0 := hZ.frozen 0
      have y1 := hZ.frozen 1
      have y2 := hZ.frozen 2
      have y3 := hZ.frozen 3
      have y4 := hZ.frozen 4
      have m0 := hO.cell 0 rfl
      have m1 := hO.cell 1 rfl
      have m2 := hO.cell 2 rfl
      have m3 := hO.cell 3 rfl
      have m4 := hO.cell 4 rfl
      dsimp only [RV.zero] at z0 z1 z2 z3 z4 m0 m1 m2 m3 m4
      clear hZ hO hs hfin
      go_wp2_with fail
      exact bodyPost_ret (v := RV.val ⟨6, 0, ⟨#[]⟩, none, 0, 0, p, n, c⟩) (by simp [results, Tryz.results14, go_sem, z0, z1, z2, z3, z4]) rfl HF.out
end Go.Proofs.YtanemojiaahbgaaGreatDoor
