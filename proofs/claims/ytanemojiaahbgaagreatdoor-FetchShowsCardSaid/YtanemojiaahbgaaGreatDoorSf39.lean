import Derived.Test.YtanemojiaahbgaaGreatDoorSf29
import Derived.Test.YtanemojiaahbgaaGreatDoorSf35
import Derived.Test.YtanemojiaahbgaaGreatDoorSf38
import Derived.Test.YtanemojiaahbgaaGreatDoorSf01
import Derived.Deep.LoopGhost
/- The law FetchShows, walked. -/
set_option linter.unusedSimpArgs false
set_option linter.unusedVariables false
namespace Go.Proofs.YtanemojiaahbgaaGreatDoor
open Go Go.RowKit Go.OpenShut

set_option maxRecDepth 200000 in
set_option maxHeartbeats 8000000 in
theorem fetchShows_any (id : ByteArray) (vt : JV) (vr : RV) (l : List ByteArray) (p : Option Addr) (n c : Nat) (w : World) (hV : Vars w) (hid : id.size ≤ 140737488351232) (hv : TreeOf w w.heap.size vt vr) (ov : vt.Ok) (hr : Rd w w.heap.size encS 1 (.slice p n c) l) (hl : l.length ≤ 8796093021952) (hls : ∀ x ∈ l, x.size ≤ 140737488351232) :
    Calls Tryz.prog 4 #[OV id vr, .slice p n c] w fun e w' => e = .returned (.bool true) ∧ Below w.heap.size w w' := by
  have hn := rd_nlen hr
  have hvm : vr.nm = vt.m.length := by obtain ⟨rms, h1, h2, _⟩ := hv.mems; rw [h2.len]; exact rd_nlen h1
  have hvnm : vt.m.length ≤ 1466015503658 := by cases ov with | mk _ _ _ _ hm _ _ _ => exact hm
  obtain ⟨vk, vn, vs, vpl, vnl, vcl, vpm, vnm, vcm⟩ := vr
  dsimp only [OV] at *
  obtain ⟨W0, hW0⟩ : ∃ W0, w.alloc (.cells #[.string id, .int .i64 vk, .int .i64 vn, .string vs, .slice vpl vnl vcl, .slice vpm vnm vcm] 40) = W0 := ⟨_, rfl⟩
  have hA0 : W0.heap[w.heap.size]? = some (.cells #[.string id, .int .i64 vk, .int .i64 vn, .string vs, .slice vpl vnl vcl, .slice vpm vnm vcm] 40) := by rw [← hW0]; exact heap_alloc_at rfl
  have hB0 : Below w.heap.size w W0 := by rw [← hW0]; exact (Below.refl _ _).alloc (Nat.le_refl _) _
  have HW := Lib.hid hW0
  have HV := Lib.hid hV
  have HB0 := Lib.hid hB0
  have HTV := Lib.hid hv
  have HOV := Lib.hid ov
  have HR := Lib.hid hr
  have HN : Hid (l.length = n ∧ vnm = vt.m.length) := ⟨hn.symm, hvm⟩
  have HLS : Hid (id.size ≤ 140737488351232 ∧ ∀ x ∈ l, x.size ≤ 140737488351232) := ⟨hid, hls⟩
  have hnn : n ≤ 8796093021952 := by omega
  have hsz0 : w.heap.size < W0.heap.size := (Array.getElem?_eq_some_iff.1 hA0).1
  have HOC : Hid (∀ W, Below w.heap.size W0 W → W.heap[w.heap.size]? = some (.cells #[.string id, .int .i64 vk, .int .i64 vn, .string vs, .slice vpl vnl vcl, .slice vpm vnm vcm] 40) → W.cell? ⟨w.heap.size, 0, none⟩ = some (.string id) ∧ W.cell? ⟨w.heap.size, 1, none⟩ = some (.int .i64 vk) ∧ W.cell? ⟨w.heap.size, 2, none⟩ = some (.int .i64 vn) ∧ W.cell? ⟨w.heap.size, 3, none⟩ = some (.string vs) ∧ W.cell? ⟨w.heap.size, 4, none⟩ = some (.slice vpl vnl vcl) ∧ W.cell? ⟨w.heap.size, 5, none⟩ = some (.slice vpm vnm vcm)) := fun W _ h =>
    ⟨(cell_of_row W w.heap.size 0 _ _ _ h).trans rfl, (cell_of_row W w.heap.size 1 _ _ _ h).trans rfl, (cell_of_row W w.heap.size 2 _ _ _ h).trans rfl, (cell_of_row W w.heap.size 3 _ _ _ h).trans rfl, (cell_of_row W w.heap.size 4 _ _ _ h).trans rfl, (cell_of_row W w.heap.size 5 _ _ _ h).trans rfl⟩
  have CA : Hid (∀ W, Below w.heap.size w W → Calls Tryz.prog 5 #[] W fun e w' => e = .returned (.bool true) ∧ Below W.heap.size W w') := fun W hb => awake26_any W (HV.out.below hb)
  have CF : Hid (∀ W, Below w.heap.size w W → Calls Tryz.prog 11 #[.agg #[.int .i64 vk, .int .i64 vn, .string vs, .slice vpl vnl vcl, .slice vpm vnm vcm], .int .i64 500] W (SomeF vnm W)) := fun W hb =>
    few7_any vt ⟨vk, vn, vs, vpl, vnl, vcl, vpm, vnm, vcm⟩ 500 W (HTV.out.under hb hb.size) HOV.out
  clear hW0 hV hB0 hid hv ov hr hl hls hn hvm hvnm
  go_enter Tryz.func4, Tryz.ntmps4
  go_upto_region 1 with fail
  rw [HW.out]
  clear HW
  go_cut [22] from 10 to 22 (fun v wr => ∃ b, v = .bool b ∧ Hid ((b = false → vnm ≤ 10000 ∧ n ≤ 50) ∧ Below W0.heap.size W0 wr))
  case first =>
    have c1 : W0.cell? ⟨w.heap.size, 1, none⟩ = some (.int .i64 vk) := (cell_of_row W0 w.heap.size 1 _ _ _ hA0).trans rfl
    have c2 : W0.cell? ⟨w.heap.size, 2, none⟩ = some (.int .i64 vn) := (cell_of_row W0 w.heap.size 2 _ _ _ hA0).trans rfl
    have c3 : W0.cell? ⟨w.heap.size, 3, none⟩ = some (.string vs) := (cell_of_row W0 w.heap.size 3 _ _ _ hA0).trans rfl
    have c4 : W0.cell? ⟨w.heap.size, 4, none⟩ = some (.slice vpl vnl vcl) := (cell_of_row W0 w.heap.size 4 _ _ _ hA0).trans rfl
    have c5 : W0.cell? ⟨w.heap.size, 5, none⟩ = some (.slice vpm vnm vcm) := (cell_of_row W0 w.heap.size 5 _ _ _ hA0).trans rfl
    have HN5 : Hid (n ≤ 50 ∨ 50 < n) := by unfold Hid; omega
    obtain ⟨d, hd⟩ : ∃ d, decide (50 < n) = d := ⟨_, rfl⟩
    have hd2 : decide ((50 : Int) < (n : Int)) = d := by rw [← hd]; congr 1; simp; omega
    have HD := Lib.hid hd
    clear hd
    cases d
    all_goals
      go_wp2_with (first
        | (go_at_call 5; refine (CA.out _ HB0.out).mono ?_; rintro e w1 ⟨rfl, hb1⟩; (have c1 := bcs hb1 hsz0 c1); (have c2 := bcs hb1 hsz0 c2); (have c3 := bcs hb1 hsz0 c3); (have c4 := bcs hb1 hsz0 c4); (have c5 := bcs hb1 hsz0 c5))
        | (go_at_call 11; refine (CF.out _ (HB0.out.trans (hb1.mono HB0.out.size))).mono ?_; rintro e w2 ⟨y, rfl, hy, hb2⟩; cases y))
      all_goals
        go_meet
        refine ⟨_, rfl, fun hb => ?_, hb1.trans (hb2.mono hb1.size)⟩
        first
          | (cases hb; done)
          | exact ⟨hy.out trivial, by have := HD.out; simp at this; omega⟩
  case rest =>
  obtain ⟨b, rfl, hx⟩ := hcut
  have HBC : Hid (Below W0.heap.size W0 wc) := hx.out.2
  have HFW : Hid (b = false → vnm ≤ 10000 ∧ n ≤ 50) := hx.out.1
  have HBWC : Hid (Below w.heap.size w wc) := HB0.out.trans (HBC.out.mono HB0.out.size)
  clear hx CF
  obtain ⟨Wb, rfl⟩ : ∃ W, W = wc := ⟨_, rfl⟩
  cases b
  · have hvn0 : vnm ≤ 10000 := (HFW.out rfl).1
    have hn50 : n ≤ 50 := (HFW.out rfl).2
    have hvml : vt.m.length ≤ 90000 := by have := HN.out.2; omega
    have hll : l.length ≤ 100000 := by have := HN.out.1; omega
    have hAc : Wb.heap[w.heap.size]? = some (.cells #[.string id, .int .i64 vk, .int .i64 vn, .string vs, .slice vpl vnl vcl, .slice vpm vnm vcm] 40) := (HBC.out.block _ hsz0).trans hA0
    have HAC := Lib.hid hAc
    have hwz : w.heap.size < Wb.heap.size := Nat.lt_of_lt_of_le hsz0 HBC.out.size
    obtain ⟨c0, c1, c2, c3, c4, c5⟩ := HOC.out Wb (HBC.out.mono (by omega)) hAc
    have HVM := Lib.hid hvml
    have HLL := Lib.hid hll
    -- contracts
    have CT : Hid (∀ W, Below w.heap.size w W → Calls Tryz.prog 13 #[.slice p n c] W fun e w' => ∃ pt nt ct, e = .returned (.agg #[.int .i64 5, .int .i64 0, .string ⟨#[]⟩, .slice pt nt ct, .slice none 0 0]) ∧ TreeOf w' w'.heap.size (namesJ l) ⟨5, 0, ⟨#[]⟩, pt, nt, ct, none, 0, 0⟩ ∧ Below W.heap.size W w') := fun W hb =>
      (refTexts_any l p n c W (HR.out.below hb hb.size) HLL.out).mono (fun e w' h => by
        obtain ⟨pt, nt, ct, he, ho, hb2⟩ := h
        exact ⟨pt, nt, ct, he, (texts_tree ho).tree (fun k e => e.2), hb2⟩)
    have CS : Hid (∀ W pt nt ct, Below w.heap.size w W → TreeOf W W.heap.size (namesJ l) ⟨5, 0, ⟨#[]⟩, pt, nt, ct, none, 0, 0⟩ → Calls Tryz.prog 12 #[.agg #[.string id, .int .i64 vk, .int .i64 vn, .string vs, .slice vpl vnl vcl, .slice vpm vnm vcm], .agg #[.int .i64 5, .int .i64 0, .string ⟨#[]⟩, .slice pt nt ct, .slice none 0 0]] W (MapRet W w.heap.size ((idN, textJ id) :: showM vt (namesJ l)))) := fun W pt nt ct hb ht =>
      show_any id vt (namesJ l) ⟨vk, vn, vs, vpl, vnl, vcl, vpm, vnm, vcm⟩ ⟨5, 0, ⟨#[]⟩, pt, nt, ct, none, 0, 0⟩ W w.heap.size hb.size (HTV.out.under hb (Nat.le_refl _)) ht HVM.out (by show (l.map textJ).length ≤ _; rw [List.length_map]; have := HLL.out; omega)
    have CZ : Hid (∀ W, Below w.heap.size w W → Calls Tryz.prog 12 #[.agg #[.string id, .int .i64 vk, .int .i64 vn, .string vs, .slice vpl vnl vcl, .slice vpm vnm vcm], .agg #[.int .i64 0, .int .i64 0, .string ⟨#[]⟩, .slice none 0 0, .slice none 0 0]] W (MapRet W w.heap.size ((idN, textJ id) :: showM vt JV.zero))) := fun W hb =>
      show_any id vt JV.zero ⟨vk, vn, vs, vpl, vnl, vcl, vpm, vnm, vcm⟩ RV.zero W w.heap.size hb.size (HTV.out.under hb (Nat.le_refl _)) (TreeOf.zero _ _) HVM.out (by decide)
    have CR : Hid (∀ W pt nt ct, Below w.heap.size w W → TreeOf W W.heap.size (namesJ l) ⟨5, 0, ⟨#[]⟩, pt, nt, ct, none, 0, 0⟩ → Calls Tryz.prog 14 #[.string id, .agg #[.int .i64 vk, .int .i64 vn, .string vs, .slice vpl vnl vcl, .slice vpm vnm vcm], .agg #[.int .i64 5, .int .i64 0, .string ⟨#[]⟩, .slice pt nt ct, .slice none 0 0]] W fun e w' => ∃ pr nr cr, e = .returned (.agg #[.int .i64 6, .int .i64 0, .string ⟨#[]⟩, .slice none 0 0, .slice pr nr cr]) ∧ TreeOf w' w'.heap.size (showJ id vt (namesJ l)) ⟨6, 0, ⟨#[]⟩, none, 0, 0, pr, nr, cr⟩ ∧ Below W.heap.size W w') := fun W pt nt ct hb ht =>
      (refShow_any id vt (namesJ l) ⟨vk, vn, vs, vpl, vnl, vcl, vpm, vnm, vcm⟩ ⟨5, 0, ⟨#[]⟩, pt, nt, ct, none, 0, 0⟩ W w.heap.size hb.size (HTV.out.under hb (Nat.le_refl _)) ht HVM.out (by show (l.map textJ).length ≤ _; rw [List.length_map]; have := HLL.out; omega)).mono (fun e w' h => by
        obtain ⟨pr, nr, cr, rms, he, ho, hm, hb2⟩ := h
        exact ⟨pr, nr, cr, he, TreeOf.map ho hm (Nat.le_trans hb.size hb2.size), hb2⟩)
    have HOJ : Hid (showJ id vt (namesJ l)).Ok := showJ_ok HLS.out.1 HOV.out HVM.out
    go_upto_region 3 with fail
    have HZA : Hid (VAt (Wb.alloc (.cells #[.int .i64 0, .int .i64 0, .string ⟨#[]⟩, .slice none 0 0, .slice none 0 0] 31)).drew Wb.heap.size RV.zero) := heap_alloc_at rfl
    have hk0 := KB.drew Wb
    have hkA : KB Wb.heap.size Wb (Wb.alloc (.cells #[.int .i64 0, .int .i64 0, .string ⟨#[]⟩, .slice none 0 0, .slice none 0 0] 31)).drew := kt_da Wb _
    go_cut [5] from 24 to 27 (fun v wr => ∃ g pv nv cv, v = .pointer (some ⟨g, 0, none⟩) ∧ Hid (ShR Wb ((idN, textJ id) :: showM vt (namesJ l)) g pv nv cv wr))
    case first =>
      go_region_held3 (fun w' => Below Wb.heap.size Wb w' ∧ ∀ b o, b < Wb.heap.size → w'.cell? ⟨b, o, none⟩ = Wb.cell? ⟨b, o, none⟩)
        (first | with_reducible exact kt_drew Wb | with_reducible exact kt_same hbk | with_reducible exact kt_alloc hbk _ | with_reducible exact kt_da Wb _ | with_reducible exact kt_setV hbk _ ⟨6, 0, ⟨#[]⟩, none, 0, 0, p4, n4, c4⟩ (Nat.le_refl _) | with_reducible exact kt_setV hbk _ ⟨6, 0, ⟨#[]⟩, none, 0, 0, p4, n4, c4⟩ hs8)
        (first
          | (go_at_call 12; refine (CS.out _ pt nt ct (KB.fin (by assumption) HBWC.out HBWC.out.size) ?_).mono ?_; (first | exact HT8.out | exact HT8.out.under ((Below.refl _ _).alloc (Nat.le_refl _) _) (by simp)); rintro e w9 ⟨p4, n4, c4, rms4, rfl, ho4, hm4, hb9⟩; (have hbk := KB.step (W := Wb) (by assumption) hb9); (have HX9 := Lib.hid (And.intro ho4 (And.intro hm4 hbk.1))); (have hsw9 := hb9.size); (first | ((have HZ9 := Lib.hid (HZ8.out.under hb9 HZ8.out.lt)); (have z0 := HZ9.out.cell 0 rfl); (have z1 := HZ9.out.cell 1 rfl); (have z2 := HZ9.out.cell 2 rfl); (have z3 := HZ9.out.cell 3 rfl); (have z4 := HZ9.out.cell 4 rfl); (have y0 := HZ9.out.frozen 0); (have y1 := HZ9.out.frozen 1); (have y2 := HZ9.out.frozen 2); (have y3 := HZ9.out.frozen 3); (have y4 := HZ9.out.frozen 4); dsimp only [RV.zero] at z0 z1 z2 z3 z4) | ((have HZ8' : VAt (w8.alloc (.cells #[.int .i64 0, .int .i64 0, .string ⟨#[]⟩, .slice none 0 0, .slice none 0 0] 31)) w8.heap.size RV.zero := heap_alloc_at rfl); (have HZ9 := Lib.hid (HZ8'.under hb9 (by simp))); (have z0 := HZ9.out.cell 0 rfl); (have z1 := HZ9.out.cell 1 rfl); (have z2 := HZ9.out.cell 2 rfl); (have z3 := HZ9.out.cell 3 rfl); (have z4 := HZ9.out.cell 4 rfl); (have y0 := HZ9.out.frozen 0); (have y1 := HZ9.out.frozen 1); (have y2 := HZ9.out.frozen 2); (have y3 := HZ9.out.frozen 3); (have y4 := HZ9.out.frozen 4); dsimp only [RV.zero] at z0 z1 z2 z3 z4) | skip))
          | (go_at_call 13; refine (CT.out _ (KB.fin (by assumption) HBWC.out HBWC.out.size)).mono ?_; rintro e w8 ⟨pt, nt, ct, rfl, hT8, hb8⟩; (have hbk := KB.step (W := Wb) (by assumption) hb8); (have HT8 := Lib.hid hT8); (have hs8 := hbk.1.size); (first | (have HZ8 := Lib.hid (HZA.out.under hb8 HZA.out.lt)) | skip)))
      all_goals (
        go_wp2_with fail
        go_meet
        first
          | (have hz := HZ9
             exact ⟨_, p4, n4, c4, rfl, ShR.stored HX9.out.1 HX9.out.2.1 (by have h2 := hsw9; have h3 := HBWC.out.size; have h4 := hb8.size; (try simp only [World.alloc, World.drew, Array.size_push] at h2 h4 ⊢); omega) hz.out (by have h2 := hsw9; have h3 := HBWC.out.size; have h4 := hb8.size; (try simp only [World.alloc, World.drew, Array.size_push] at h2 h4 ⊢); omega) (by have h2 := hsw9; have h3 := HBWC.out.size; have h4 := hb8.size; (try simp only [World.alloc, World.drew, Array.size_push] at h2 h4 ⊢); omega) (by have h2 := hsw9; have h3 := HBWC.out.size; have h4 := hb8.size; (try simp only [World.alloc, World.drew, Array.size_push] at h2 h4 ⊢); omega) HX9.out.2.2⟩)
          | exact ⟨_, p4, n4, c4, rfl, ShR.fresh HX9.out.1 HX9.out.2.1 (by have h2 := hsw9; have h3 := HBWC.out.size; have h4 := hb8.size; (try simp only [World.alloc, World.drew, Array.size_push] at h2 h4 ⊢); omega) HX9.out.2.2⟩)
    case rest =>
    obtain ⟨g5, pv, nv, cv, rfl, hx5⟩ := hcut
    have hb5 := hx5.out.below
    have HB5 : Hid (Below w.heap.size w wc) := HBWC.out.trans (hb5.mono HBWC.out.size)
    have hA5 : wc.heap[w.heap.size]? = some (.cells #[.string id, .int .i64 vk, .int .i64 vn, .string vs, .slice vpl vnl vcl, .slice vpm vnm vcm] 40) := (hb5.block _ hwz).trans HAC.out
    have hwz5 : w.heap.size < wc.heap.size := Nat.lt_of_lt_of_le hwz hb5.size
    obtain ⟨c0, c1, c2, c3, c4, c5⟩ := HOC.out wc ((HBC.out.mono (by omega)).trans (hb5.mono (by omega))) hA5
    have HX5 := Lib.hid hx5.out
    have HA5 := Lib.hid hA5
    clear hx5 hb5 hA5 HZA hk0 hkA CS
    go_upto_region 5 with (go_at_call 12; refine (CZ.out _ HB5.out).mono ?_; rintro e w6 ⟨pw, nw, cw, rms6, rfl, ho6, hm6, hb6⟩)
    have hw6 : ShR wc ((idN, textJ id) :: showM vt JV.zero) w6.heap.size pw nw cw (w6.alloc (.cells #[.int .i64 6, .int .i64 0, .string ⟨#[]⟩, .slice none 0 0, .slice pw nw cw] 31)) := ShR.fresh ho6 hm6 (Nat.le_trans HB5.out.size hb6.size) hb6
    have hb7 : Below wc.heap.size wc (w6.alloc (.cells #[.int .i64 6, .int .i64 0, .string ⟨#[]⟩, .slice none 0 0, .slice pw nw cw] 31)) := hb6.alloc hb6.size _
    have hv7 := HX5.out.step hb7
    obtain ⟨g6, hg6e⟩ : ∃ g, w6.heap.size = g := ⟨_, rfl⟩
    obtain ⟨W6, hW6⟩ : ∃ W, w6.alloc (.cells #[.int .i64 6, .int .i64 0, .string ⟨#[]⟩, .slice none 0 0, .slice pw nw cw] 31) = W := ⟨_, rfl⟩
    rw [hW6] at hw6 hb7 hv7
    rw [hg6e] at hw6
    try rw [hW6]
    try rw [hg6e]
    have HB7 : Hid (Below w.heap.size w W6) := HB5.out.trans (hb7.mono HB5.out.size)
    have hA7 : W6.heap[w.heap.size]? = some (.cells #[.string id, .int .i64 vk, .int .i64 vn, .string vs, .slice vpl vnl vcl, .slice vpm vnm vcm] 40) := (hb7.block _ hwz5).trans HA5.out
    have hwz7 : w.heap.size < W6.heap.size := Nat.lt_of_lt_of_le hwz5 hb7.size
    have HWR := Lib.hid hw6
    have HVR := Lib.hid hv7
    clear c0 c1 c2 c3 c4 c5
    obtain ⟨c0, c1, c2, c3, c4, c5⟩ := HOC.out W6 ((HBC.out.mono (by omega)).trans (((HX5.out.below.mono (by omega)).trans (hb7.mono (by omega))))) hA7
    clear hW6 hg6e ho6 hm6 hb6 hb7 hA7 hw6 hv7 HX5
    have g5z := HVR.out.out.lt
    have g6z := HWR.out.out.lt
    have v0 := HVR.out.out.cell 0 rfl
    have v1 := HVR.out.out.cell 1 rfl
    have v2 := HVR.out.out.cell 2 rfl
    have v3 := HVR.out.out.cell 3 rfl
    have v4 := HVR.out.out.cell 4 rfl
    have u4 := HWR.out.out.cell 4 rfl
    dsimp only at v0 v1 v2 v3 v4 u4
    have hlen1 := HVR.out.len
    have hlen2 := HWR.out.len
    have hle := showM_le vt l
    simp only [List.length_cons] at hlen1 hlen2
    have HLE : Hid (nv ≤ nw ∧ 1 ≤ nv) := by unfold Hid; omega
    have hlt0 : decide ((nw : Int) < (nv : Int)) = false := decide_eq_false (by have := HLE.out; omega)
    have hltN : decide (nw < nv) = false := decide_eq_false (by have := HLE.out; omega)
    have hltM : ¬ nw < nv := by have := HLE.out; omega
    have hnwb : nw ≤ 90001 := by
      have : (showM vt JV.zero).length ≤ vt.m.length := List.length_filter_le _ _
      have := HVM.out
      omega
    clear hlen1 hlen2 hle
    have CSM : Hid (∀ W pr nr cr, KB W6.heap.size W6 W → TreeOf W W.heap.size (showJ id vt (namesJ l)) ⟨6, 0, ⟨#[]⟩, none, 0, 0, pr, nr, cr⟩ → Calls Tryz.prog 10 #[.agg #[.int .i64 6, .int .i64 0, .string ⟨#[]⟩, .slice none 0 0, .slice pv nv cv], .agg #[.int .i64 6, .int .i64 0, .string ⟨#[]⟩, .slice none 0 0, .slice pr nr cr]] W fun e w' => e = .returned (.bool true) ∧ Below W.heap.size W w') := fun W pr nr cr hk ht =>
      (same5_any _ (showJ id vt (namesJ l)) (showJ id vt (namesJ l)) ⟨6, 0, ⟨#[]⟩, none, 0, 0, pv, nv, cv⟩ ⟨6, 0, ⟨#[]⟩, none, 0, 0, pr, nr, cr⟩ W (Nat.le_refl _) (HVR.out.tree.under hk.1 hk.1.size) ht HOJ.out HOJ.out).mono (fun e w' h => h.yes rfl)
    have COF : Hid (∀ W, KB W6.heap.size W6 W → Calls Tryz.prog 15 #[.agg #[.int .i64 6, .int .i64 0, .string ⟨#[]⟩, .slice none 0 0, .slice pv nv cv], .string ⟨#[105, 100]⟩] W fun e w' => ∃ qk qn qpl qnl qcl qpm qnm qcm, e = .returned (.agg #[.int .i64 qk, .int .i64 qn, .string id, .slice qpl qnl qcl, .slice qpm qnm qcm]) ∧ Below W.heap.size W w') := fun W hk =>
      (of26_any (showJ id vt (namesJ l)) ⟨6, 0, ⟨#[]⟩, none, 0, 0, pv, nv, cv⟩ idN W W.heap.size (Nat.le_refl _) (HVR.out.tree.under hk.1 hk.1.size) HOJ.out).mono (fun e w' h => by
        obtain ⟨q, he, ht, hb⟩ := h
        rw [show_get] at ht
        obtain ⟨_, _, hs⟩ := ht.head
        refine ⟨q.k, q.n, q.pl, q.nl, q.cl, q.pm, q.nm, q.cm, ?_, hb⟩
        rw [he]
        have : q.s = id := hs.symm
        rw [← this])
    have hk6 := KB.drew W6
    have hfs := field_s
    go_region_held3 (fun w' => Below W6.heap.size W6 w' ∧ ∀ b o, b < W6.heap.size → w'.cell? ⟨b, o, none⟩ = W6.cell? ⟨b, o, none⟩)
      (first | with_reducible exact kt_drew W6 | with_reducible exact kt_same hbk)
      (first
        | (go_at_call 15; refine (COF.out _ (by assumption)).mono ?_; rintro e w10 ⟨qk, qn, qpl, qnl, qcl, qpm, qnm, qcm, rfl, hb10⟩; (have hbk := KB.step (W := W6) (by assumption) hb10))
        | (go_at_call 10; refine (CSM.out _ pr nr cr (by assumption) ht9).mono ?_; rintro e w9' ⟨rfl, hb9'⟩; (have hbk := KB.step (W := W6) (by assumption) hb9'))
        | (go_at_call 14; refine (CR.out _ pt nt ct (KB.fin (by assumption) HB7.out HB7.out.size) ht8).mono ?_; rintro e w9 ⟨pr, nr, cr, rfl, ht9, hb9⟩; (have hbk := KB.step (W := W6) (by assumption) hb9))
        | (go_at_call 13; refine (CT.out _ (KB.fin (by assumption) HB7.out HB7.out.size)).mono ?_; rintro e w8 ⟨pt, nt, ct, rfl, ht8, hb8⟩; (have hbk := KB.step (W := W6) (by assumption) hb8))
        | fail)
    have hb10k : Below W6.heap.size W6 w10 := hbk.1
    have HV10 := Lib.hid (HVR.out.step hb10k)
    have HW10 := Lib.hid (HWR.out.step hb10k)
    have HB10 : Hid (Below w.heap.size w w10) := HB7.out.trans (hb10k.mono HB7.out.size)
    have hz10 : W6.heap.size ≤ w10.heap.size := hb10k.size
    obtain ⟨vs', hvs⟩ : ∃ z, (idN, textJ id) :: showM vt (namesJ l) = z := ⟨_, rfl⟩
    obtain ⟨ws, hws⟩ : ∃ z, (idN, textJ id) :: showM vt JV.zero = z := ⟨_, rfl⟩
    rw [hvs] at HV10
    rw [hws] at HW10
    have HEND : Hid (∀ (k : Nat) y, 1 ≤ k → ws[k]? = Option.some y → decide (0 < cntT vs' y.1 vs'.length) = inB l y.1) := fun k y h1 h2 => by
      rw [← hws] at h2
      rw [← hvs]
      exact cntT_end h1 h2
    have HLN : Hid (vs'.length = nv ∧ ws.length = nw) := ⟨HV10.out.len, HW10.out.len⟩
    have hnvb : nv ≤ 90001 := by have := HLE.out.1; omega
    clear hb10k hbk hk6 hfs hvs hws v0 v1 v2 v3 v4 u4 c0 c1 c2 c3 c4 c5 CSM COF CR CT CZ CA HOJ HVR HWR HB7 hb8 hb9 hb9' hb10 ht8 ht9
    go_wp2_with fail
    clear hlt0 hltN hltM
    go_loopg [7] (nw - 1) (fun gk i wr => ∃ k : Nat, gk = nw - k ∧ 1 ≤ k ∧ k ≤ nw ∧ i = .int .i64 k ∧ Hid (Below w10.heap.size w10 wr))
    case atStart => exact ⟨1, rfl, Nat.le_refl _, by have := HLE.out; omega, rfl, Below.refl _ _⟩
    case round =>
      obtain ⟨k, hgk, hk1, hkn, rfl, hbr⟩ := hrel
      have HGK := Lib.hid hgk
      have HVr := Lib.hid (HV10.out.step hbr.out)
      have HWr := Lib.hid (HW10.out.step hbr.out)
      have u4 := HWr.out.out.cell 4 rfl
      have v4 := HVr.out.out.cell 4 rfl
      dsimp only at u4 v4
      have hk0 : (0 : Int) ≤ (k : Int) := Int.natCast_nonneg _
      clear hgk
      by_cases hlt : k < nw
      · obtain ⟨y, hy⟩ : ∃ y, ws[k]? = some y := ⟨_, List.getElem?_eq_getElem (by have := HLN.out.2; omega)⟩
        obtain ⟨b2, o2, rfl, hb2, d0⟩ := HWr.out.name hy
        have hkk : (k : Int) < (nw : Int) := by omega
        have HEY := Lib.hid (HEND.out k y hk1 hy)
        obtain ⟨x, hx⟩ : ∃ x, y.1 = x := ⟨_, rfl⟩
        rw [hx] at d0 HEY
        clear hy hx
        go_wp2_with fail
        go_loopg [8, 9] (nv - 1) (fun gk m i w2 => ∃ (j q : Nat), gk = nv - j ∧ 1 ≤ j ∧ j ≤ nv ∧ i = .int .i64 j ∧ m = .int .i64 (cntT vs' x j : Nat) ∧ w2 = wr.drewN q)
        case atStart => exact ⟨1, 0, rfl, Nat.le_refl _, HLE.out.2, rfl, by rw [cntT_one]; rfl, rfl⟩
        case round =>
          obtain ⟨j, q, hgj, hj1, hjn, rfl, rfl, rfl⟩ := hrel
          have HGJ := Lib.hid hgj
          have j0 : (0 : Int) ≤ (j : Int) := Int.natCast_nonneg _
          have HCL := Lib.hid (cntT_le vs' x j)
          clear hgj
          by_cases hjl : j < nv
          · obtain ⟨z, hz⟩ : ∃ z, vs'[j]? = some z := ⟨_, List.getElem?_eq_getElem (by have := HLN.out.1; omega)⟩
            obtain ⟨b3, o3, rfl, hb3, e0⟩ := HVr.out.name hz
            have hjj : (j : Int) < (nv : Int) := by omega
            have HST := Lib.hid (cntT_step (x := x) hj1 hz)
            have hst : (z.1.toList == x.toList) = decide (z.1 = x) := str_beq z.1 x
            obtain ⟨d, hd⟩ : ∃ d, decide (z.1 = x) = d := ⟨_, rfl⟩
            rw [hd] at hst HST
            obtain ⟨zn, hzn⟩ : ∃ n, z.1 = n := ⟨_, rfl⟩
            rw [hzn] at hst e0
            obtain ⟨N, hN⟩ : ∃ N, cntT vs' x j = N := ⟨_, rfl⟩
            rw [hN] at HST HCL
            rw [hN]
            have hN0 : (0 : Int) ≤ (N : Int) := Int.natCast_nonneg _
            have hN1 : (N : Int) ≤ 90001 := by have := HCL.out; omega
            clear hz hd hzn hN
            cases d
            all_goals
              go_wp2_with fail
              go_quiet (fail)
              go_wp2_with fail
              go_roundg (nv - (j + 1))
              case measure => have := HGJ.out; omega
              case rel => exact ⟨j + 1, _, rfl, by omega, by omega, by go_num, by rw [HST.out]; first | rfl | go_num, rfl⟩
          · obtain rfl : j = nv := by omega
            have hdd : decide (0 < cntT vs' x j) = inB l x := by
              have h := HEY.out
              rw [HLN.out.1] at h
              exact h
            obtain ⟨N, hN⟩ : ∃ N, cntT vs' x j = N := ⟨_, rfl⟩
            rw [hN] at hdd
            rw [hN]
            obtain ⟨b, hb⟩ : ∃ b, inB l x = b := ⟨_, rfl⟩
            rw [hb] at hdd
            have hdi : decide ((0 : Int) < (N : Int)) = b := by rw [← hdd]; exact decide_eq_decide.2 (by omega)
            have CH : Hid (∀ W, W = wr.drewN q → Calls Tryz.prog 16 #[.slice p n c, .string x] W fun e w' => e = .returned (.bool b) ∧ Below W.heap.size W w') := fun W hW => by
              rw [← hb]
              have hbW : Below w.heap.size w W := by rw [hW]; exact bdn (HB10.out.trans (hbr.out.mono HB10.out.size)) q
              exact has26_any l x p n c W (HR.out.below hbW hbW.size) (by have := HLL.out; omega)
            clear hb hN HCL
            cases b
            all_goals
              go_wp2_with (go_at_call 16; refine (CH.out _ rfl).mono ?_; rintro e w12 ⟨rfl, hb12⟩)
              go_roundg (nw - (k + 1))
              case measure => have := HGK.out; omega
              case rel => exact ⟨k + 1, rfl, by omega, by omega, by go_num, (bdn hbr.out q).trans (hb12.mono hbr.out.size)⟩
      · obtain rfl : k = nw := by omega
        have HFB : Hid (Below w.heap.size w wr) := HB10.out.trans (hbr.out.mono HB10.out.size)
        clear hbr
        go_wp2_with fail
        go_ret
        exact ⟨rfl, HFB.out⟩
  · go_wp2_with (go_at_call 5; refine (CA.out _ HBWC.out).mono ?_; rintro e w1 ⟨rfl, hb1⟩)
    go_ret
    exact ⟨rfl, HBWC.out.trans (hb1.mono HBWC.out.size)⟩
end Go.Proofs.YtanemojiaahbgaaGreatDoor
