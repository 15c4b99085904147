import Derived.Test.YthgkgjcnmahacaaTk10
import Derived.Test.YthgkgjcnmahacaaTk09
import Derived.Test.YthgkgjcnmahacaaTk15
import Derived.Deep.RegionHeld3
import Derived.Test.YthgkgjcnmahacaaTk01
import Derived.ProofKit
import Derived.Below
import Derived.Test.YthgkgjcnmahacaaRows
import Derived.Test.YthgkgjcnmahacaaTk00
import Derived.Deep.CondSized
import Derived.Test.YthgkgjcnmahacaaTk12
section
/- The law that what is handed in stays, walked. -/
set_option linter.unusedSimpArgs false
set_option linter.unusedVariables false
namespace Go.Proofs.Ythgkgjcnmahacaa
open Go.RowKit Go.OpenShut

/-- Four values in a row, in a block of their own. -/
def FourAt (W : World) (g : Nat) (a b c d : RV) : Prop := W.heap[g]? = some (.cells #[.int .i64 a.k, .int .i64 a.n, .string a.s, .slice a.pl a.nl a.cl, .slice a.pm a.nm a.cm, .int .i64 b.k, .int .i64 b.n, .string b.s, .slice b.pl b.nl b.cl, .slice b.pm b.nm b.cm, .int .i64 c.k, .int .i64 c.n, .string c.s, .slice c.pl c.nl c.cl, .slice c.pm c.nm c.cm, .int .i64 d.k, .int .i64 d.n, .string d.s, .slice d.pl d.nl d.cl, .slice d.pm d.nm d.cm] 25 (0, 0))
theorem FourAt.cell {W : World} {g : Nat} {a b c d : RV} (h : FourAt W g a b c d) (j : Nat) {u : Value} (hu : (encV a ++ encV b ++ encV c ++ encV d)[j]? = some u) : W.cell? ⟨g, j, none⟩ = some u := by
  unfold FourAt at h
  rw [cell_of_row W g j _ _ _ h, ← Array.getElem?_toList]
  exact hu
theorem bkM_len : ∀ m : List (ByteArray × JV), m.length ≤ bkM m
  | [] => by simp
  | (s, t) :: m => by rw [bkM, List.length_cons]; have := bkM_len m; omega
theorem mem_len (t : JV) : t.mem.length ≤ bkT t := by
  obtain ⟨k, n, s, l, m⟩ := t
  rw [bkT]
  have := bkM_len m
  by_cases h : k = 6
  · have e : (JV.mk k n s l m).mem = m := by subst h; rfl
    rw [e]; omega
  · have e : (JV.mk k n s l m).mem = [] := by simp [JV.mem, h]
    rw [e]; simp
/-- Where the memory of the first j of four ends. -/
def aSel (a0 a1 a2 a3 a4 : Nat) : Nat → Nat
  | 0 => a0
  | 1 => a1
  | 2 => a2
  | 3 => a3
  | _ => a4
def inR (a b : Nat) (k : Nat) : Prop := a ≤ k ∧ k < b
/-- What spoil does to one of the four, whatever became of those ahead. -/
def SpCan (Wl : World) (q : RV) (all : Bool) (a0 a b : Nat) : Prop := ∀ wr, Chg Wl wr (inR a0 a) → Calls Try.prog 39 #[q.val, .bool all] wr (SpRet wr (inR a b))
theorem spCan_all {Wl : World} {u : JV} {q : RV} {a0 a b : Nat} (h : LoneV Wl (inR a b) u q) (hb : b ≤ Wl.heap.size) (ou : u.Ok) : SpCan Wl q true a0 a b := fun wr hc =>
  spoil_any _ u q wr _ (Nat.le_refl _) (h.same fun k hk => hc.block k (by have := hk.2; omega) (fun h => by have := hk.1; have := h.2; omega)) (fun k hk => by have := hk.2; have := hc.size; omega) ou
theorem spCan_list {Wl : World} {k n : Int} {s : ByteArray} {pm : Option Addr} {nm cm : Nat} {rms : List RM} {a0 a b : Nat} (h : Own Wl a 90 encM 6 (.slice pm nm cm) rms) (hb : b ≤ Wl.heap.size) (hlt : ∀ g, (Value.slice pm nm cm).ownBlock = some g → g < b) :
    SpCan Wl ⟨k, n, s, none, 0, 0, pm, nm, cm⟩ false a0 a b := fun wr hc =>
  (spoilF_any k n s pm nm cm rms wr a (h.same fun g e => hc.block g (h.lt g e).2 (fun h2 => by have := (h.lt g e).1; have := h2.2; omega))).mono fun e w' ⟨he, h2⟩ =>
    ⟨he, h2.mono fun g e => ⟨(h.lt g e).1, hlt g e⟩⟩

set_option maxRecDepth 200000 in
set_option maxHeartbeats 16000000 in
theorem treeKeeps_any (w : World) (t : JV) (r : RV) (name : ByteArray) (ht : TreeOf w w.heap.size t r) (ot : t.Ok) (bt : bkT t ≤ 1048576) :
    Calls Try.prog 8 #[r.val, .string name] w fun e w' => e = .returned (.bool true) ∧ Below w.heap.size w w' := by
  have HC0 := ((Ctx.nil w).know ht).alloc r
  have HT := Lib.hid ot
  have HBT : Hid (bkT t ≤ 1048576) := bt
  clear ht ot bt
  go_enter Try.func8, Try.ntmps8
  go_upto_region 1 with fail
  obtain ⟨W, g1, hW, hg, HC⟩ : ∃ W g, (w.alloc r.obj) = W ∧ w.heap.size = g ∧ Ctx w.heap.size w W [(g, r)] [(t, r)] := ⟨_, _, rfl, rfl, by simpa using HC0⟩
  dsimp only [RV.obj] at hW
  rw [hW, hg]
  clear hW hg HC0
  have qc := HC.lt 0 rfl
  have c0 := (HC.at 0 rfl).cell 0 rfl
  have c1 := (HC.at 0 rfl).cell 1 rfl
  have c2 := (HC.at 0 rfl).cell 2 rfl
  have c3 := (HC.at 0 rfl).cell 3 rfl
  have c4 := (HC.at 0 rfl).cell 4 rfl
  go_wp2_with fail
  refine (tawake_any _).mono ?_
  rintro e w1 ⟨rfl, hb1⟩
  have hk1 := KB.step (KB.refl W) hb1
  have hr1 := hk1.2
  go_wp2_with fail
  have hC := check_any t r w1 (HC.tk hk1 0 rfl) HT.out
  by_cases h0 : checkE t = 0
  case neg =>
    have hq1 : (checkE t != 0) = true := by simpa using h0
    have hq2 : (checkE t == 0) = false := by simpa using h0
    refine hC.mono ?_
    rintro e w2 ⟨rfl, hb2⟩
    have hk2 := KB.step hk1 hb2
    clear h0 hC
    go_wp2_with fail
    refine (tawake_any _).mono ?_
    rintro e w3 ⟨rfl, hb3⟩
    go_wp2_with fail
    go_ret
    exact ⟨rfl, HC.fin (KB.step hk2 hb3)⟩
  rw [h0] at hC
  refine hC.mono ?_
  rintro e w2 ⟨rfl, hb2⟩
  have hk2 := KB.step hk1 hb2
  have hr2 := hk2.2
  have H0 := Lib.hid h0
  clear hC h0
  go_wp2_with fail
  have hX := text_any t r w2 (HC.tk hk2 0 rfl) HT.out HBT.out
  unfold TextRet at hX
  rw [H0.out] at hX
  obtain ⟨s1, hs1⟩ : ∃ s, textB t = s := ⟨_, rfl⟩
  rw [hs1] at hX
  have HS1 := Lib.hid hs1
  refine hX.mono ?_
  rintro e Wb ⟨rfl, hb3⟩
  have hk3 := KB.step hk2 hb3
  have HCb := HC.go hk3.1
  clear hX hs1 hk1 hk2 hk3 hr1 hr2 hb1 hb2 hb3 HC c0 c1 c2 c3 c4 qc
  have qc := HCb.lt 0 rfl
  have c0 := (HCb.at 0 rfl).cell 0 rfl
  have c1 := (HCb.at 0 rfl).cell 1 rfl
  have c2 := (HCb.at 0 rfl).cell 2 rfl
  have c3 := (HCb.at 0 rfl).cell 3 rfl
  have c4 := (HCb.at 0 rfl).cell 4 rfl
  go_upto_region 4 with fail
  have hlm : t.mem.length ≤ 1466015503658 := by have := mem_len t; have := HBT.out; omega
  have C1 : Hid (∀ W', KB Wb.heap.size Wb W' → Calls Try.prog 17 #[r.val] W' (SortRet W' t)) := fun W' hk => sort_any _ t r W' (Nat.le_refl _) (HCb.tk hk 0 rfl) HT.out
  have C2 : Hid (∀ W', KB Wb.heap.size Wb W' → Calls Try.prog 36 #[r.val] W' (NewTree W' t)) := fun W' hk => copy_any _ t r W' (Nat.le_refl _) (HCb.tk hk 0 rfl) HT.out
  have C3 : Hid (∀ W', KB Wb.heap.size Wb W' → Calls Try.prog 37 #[r.val, .string name, r.val] W' (MapRet W' W'.heap.size (putM (t.place name) t.mem name t))) := fun W' hk => with_any t t r r name W' _ (Nat.le_refl _) (HCb.tk hk 0 rfl) HT.out (HCb.tk hk 0 rfl) hlm
  have C4 : Hid (∀ W', KB Wb.heap.size Wb W' → Calls Try.prog 38 #[r.val, .string name] W' (MapRet W' W'.heap.size (cutM t.mem name))) := fun W' hk => without_any t r name W' _ (Nat.le_refl _) (HCb.tk hk 0 rfl) HT.out hlm
  clear hlm
  go_region_held3 (fun w' => Below Wb.heap.size Wb w' ∧ ∀ b o, b < Wb.heap.size → w'.cell? ⟨b, o, none⟩ = Wb.cell? ⟨b, o, none⟩)
    (first | with_reducible exact kt_drew Wb | with_reducible exact kt_same hbk | with_reducible exact kt_alloc hbk _)
    (first
      | (go_at_call 17; refine (C1.out _ (by assumption)).mono ?_; rintro e w5 ⟨u, hu, q1, rfl, hl1, hb5⟩; (have hbk := KB.step (W := Wb) (by assumption) hb5); (have HU := Lib.hid hu); (have HL1 : Hid (LoneV w5 (inR Wb.heap.size w5.heap.size) u q1) := hl1); (have h5 := hbk.1.size))
      | (go_at_call 36; refine (C2.out w5 (by assumption)).mono ?_; rintro e w6 ⟨q2, rfl, hl2, hb6⟩; (have hbk := KB.step (W := Wb) (by assumption) hb6); (have HL2 : Hid (LoneV w6 (inR w5.heap.size w6.heap.size) t q2) := hl2); (have HB6 := Lib.hid hb6))
      | (go_at_call 37; refine (C3.out w6 (by assumption)).mono ?_; rintro e w7 ⟨pm3, nm3, cm3, rms3, rfl, ho3, hms3, hb7⟩; (have hbk := KB.step (W := Wb) (by assumption) hb7); (have HL3 := Lib.hid ho3); (have HB7 := Lib.hid hb7))
      | (go_at_call 38; refine (C4.out w7 (by assumption)).mono ?_; rintro e w8 ⟨pm4, nm4, cm4, rms4, rfl, ho4, hms4, hb8⟩; (have hbk := KB.step (W := Wb) (by assumption) hb8); (have HL4 := Lib.hid ho4); (have HB8 := Lib.hid hb8)))
  have hfour : FourAt (w8.alloc (.cells #[.int .i64 q1.k, .int .i64 q1.n, .string q1.s, .slice q1.pl q1.nl q1.cl, .slice q1.pm q1.nm q1.cm, .int .i64 q2.k, .int .i64 q2.n, .string q2.s, .slice q2.pl q2.nl q2.cl, .slice q2.pm q2.nm q2.cm, .int .i64 6, .int .i64 0, .string ⟨#[]⟩, .slice none 0 0, .slice pm3 nm3 cm3, .int .i64 6, .int .i64 0, .string ⟨#[]⟩, .slice none 0 0, .slice pm4 nm4 cm4] 25)) w8.heap.size q1 q2 ⟨6, 0, ⟨#[]⟩, none, 0, 0, pm3, nm3, cm3⟩ ⟨6, 0, ⟨#[]⟩, none, 0, 0, pm4, nm4, cm4⟩ := heap_alloc_at rfl
  have b8l : Below w8.heap.size w8 (w8.alloc (.cells #[.int .i64 q1.k, .int .i64 q1.n, .string q1.s, .slice q1.pl q1.nl q1.cl, .slice q1.pm q1.nm q1.cm, .int .i64 q2.k, .int .i64 q2.n, .string q2.s, .slice q2.pl q2.nl q2.cl, .slice q2.pm q2.nm q2.cm, .int .i64 6, .int .i64 0, .string ⟨#[]⟩, .slice none 0 0, .slice pm3 nm3 cm3, .int .i64 6, .int .i64 0, .string ⟨#[]⟩, .slice none 0 0, .slice pm4 nm4 cm4] 25)) := (Below.refl _ _).alloc (Nat.le_refl _) _
  obtain ⟨Wl, hWl⟩ : ∃ W, (w8.alloc (.cells #[.int .i64 q1.k, .int .i64 q1.n, .string q1.s, .slice q1.pl q1.nl q1.cl, .slice q1.pm q1.nm q1.cm, .int .i64 q2.k, .int .i64 q2.n, .string q2.s, .slice q2.pl q2.nl q2.cl, .slice q2.pm q2.nm q2.cm, .int .i64 6, .int .i64 0, .string ⟨#[]⟩, .slice none 0 0, .slice pm3 nm3 cm3, .int .i64 6, .int .i64 0, .string ⟨#[]⟩, .slice none 0 0, .slice pm4 nm4 cm4] 25)) = W := ⟨_, rfl⟩
  rw [hWl] at hfour b8l ⊢
  clear hWl
  have b7l := HB8.out.trans (b8l.mono HB8.out.size)
  have b6l := HB7.out.trans (b7l.mono HB7.out.size)
  have b5l := HB6.out.trans (b6l.mono HB6.out.size)
  have hbl : KB Wb.heap.size Wb Wl := KB.step (W := Wb) hbk b8l
  have HCl := HCb.go hbl.1
  have hs6 := HB6.out.size
  have hs7 := HB7.out.size
  have hs8 := HB8.out.size
  have hsl := b8l.size
  have hgl := hfour
  obtain ⟨gl, hgle⟩ : ∃ g, w8.heap.size = g := ⟨_, rfl⟩
  have K1 := Lib.hid (spCan_all (a0 := Wb.heap.size) (HL1.out.under b5l (fun k h => h.2)) (by omega) (HU.out.ok HT.out))
  have K2 := Lib.hid (spCan_all (a0 := Wb.heap.size) (HL2.out.under b6l (fun k h => h.2)) (by omega) HT.out)
  have K3 := Lib.hid (spCan_list (k := 6) (n := 0) (s := ⟨#[]⟩) (a0 := Wb.heap.size) (HL3.out.below b7l (Nat.le_refl _)) (by omega) (fun g e => (HL3.out.lt g e).2))
  have K4 := Lib.hid (spCan_list (k := 6) (n := 0) (s := ⟨#[]⟩) (a0 := Wb.heap.size) (HL4.out.below b8l (Nat.le_refl _)) (by omega) (fun g e => (HL4.out.lt g e).2))
  have hGL : gl < Wl.heap.size := by rw [← hgle]; exact (Array.getElem?_eq_some_iff.1 hfour).1
  have HBW : Hid (Below w.heap.size w Wl ∧ Below Wb.heap.size Wb Wl) := ⟨HCl.below, hbl.1⟩
  obtain ⟨a0, ha0⟩ : ∃ a, Wb.heap.size = a := ⟨_, rfl⟩
  obtain ⟨a1, ha1⟩ : ∃ a, w5.heap.size = a := ⟨_, rfl⟩
  obtain ⟨a2, ha2⟩ : ∃ a, w6.heap.size = a := ⟨_, rfl⟩
  obtain ⟨a3, ha3⟩ : ∃ a, w7.heap.size = a := ⟨_, rfl⟩
  rw [hgle] at hfour K4 hs8 hsl ⊢
  have hqc := HCb.lt 0 rfl
  have hle0 : w.heap.size ≤ Wb.heap.size := HCb.le
  rw [ha0] at K1 K2 K3 K4 h5 hqc hle0
  rw [ha1] at K1 K2 h5 hs6
  rw [ha2] at K2 K3 hs6 hs7
  rw [ha3] at K3 K4 hs7 hs8
  have HA : Hid (a0 ≤ a1 ∧ a1 ≤ a2 ∧ a2 ≤ a3 ∧ a3 ≤ gl ∧ w.heap.size ≤ a0) := by unfold Hid; omega
  have HGL : Hid (g1 < a0 ∧ gl < Wl.heap.size) := ⟨hqc, hGL⟩
  have HF := Lib.hid hfour
  have HA0 : Hid (Wb.heap.size = a0) := ha0
  have HCW := Lib.hid HCl
  have HCB := Lib.hid HCb
  clear hfour b8l b7l b6l b5l hbl HCl hs6 hs7 hs8 hsl hgl hgle hGL h5 hbk HL1 HL2 HL3 HL4 HB6 HB7 HB8 HU ha0 ha1 ha2 ha3 hqc hle0 C1 C2 C3 C4 HCb c0 c1 c2 c3 c4 qc
  go_wp2_with fail
  go_loopw [8] (fun i wr => ∃ j : Nat, j ≤ 4 ∧ i = .int .i64 (j : Int) ∧ Hid (Chg Wl wr (inR a0 (aSel a0 a1 a2 a3 gl j)))) (fun i _ => 4 - (intOf i).toNat)
  case atStart => exact ⟨0, by omega, rfl, Chg.refl _ _⟩
  case round =>
    obtain ⟨j, hj, rfl, hch⟩ := hrel
    by_cases hlt : j < 4
    · rcases (by omega : j = 0 ∨ j = 1 ∨ j = 2 ∨ j = 3) with rfl | rfl | rfl | rfl
      · have HFr := (show FourAt wr gl _ _ _ _ from (hch.out.block gl HGL.out.2 (fun h => by (have h2 : gl < a0 := h.2); (have h3 := HA.out); omega)).trans HF.out)
        have f0 := HFr.cell 0 rfl
        have f1 := HFr.cell 1 rfl
        have f2 := HFr.cell 2 rfl
        have f3 := HFr.cell 3 rfl
        have f4 := HFr.cell 4 rfl
        have HK := Lib.hid (K1.out wr hch.out)
        go_wp2_with (go_at_call 39; refine HK.out.mono ?_; rintro e w9 ⟨rfl, hc9⟩)
        go_roundw
        case rel => exact ⟨1, by omega, by go_num, (hch.out.mono (fun k h => ⟨h.1, by (have h2 : k < a0 := h.2); (have h3 := HA.out); (show k < a1); omega⟩)).trans (hc9.mono (fun k h => ⟨by (have h2 : a0 ≤ k := h.1); (have h3 := HA.out); omega, h.2⟩))⟩
        case measure => simp [intOf]
      · have HFr := (show FourAt wr gl _ _ _ _ from (hch.out.block gl HGL.out.2 (fun h => by (have h2 : gl < a1 := h.2); (have h3 := HA.out); omega)).trans HF.out)
        have f0 := HFr.cell 5 rfl
        have f1 := HFr.cell 6 rfl
        have f2 := HFr.cell 7 rfl
        have f3 := HFr.cell 8 rfl
        have f4 := HFr.cell 9 rfl
        have HK := Lib.hid (K2.out wr hch.out)
        go_wp2_with (go_at_call 39; refine HK.out.mono ?_; rintro e w9 ⟨rfl, hc9⟩)
        go_roundw
        case rel => exact ⟨2, by omega, by go_num, (hch.out.mono (fun k h => ⟨h.1, by (have h2 : k < a1 := h.2); (have h3 := HA.out); (show k < a2); omega⟩)).trans (hc9.mono (fun k h => ⟨by (have h2 : a1 ≤ k := h.1); (have h3 := HA.out); omega, h.2⟩))⟩
        case measure => simp [intOf]
      · have HFr := (show FourAt wr gl _ _ _ _ from (hch.out.block gl HGL.out.2 (fun h => by (have h2 : gl < a2 := h.2); (have h3 := HA.out); omega)).trans HF.out)
        have f0 := HFr.cell 10 rfl
        have f1 := HFr.cell 11 rfl
        have f2 := HFr.cell 12 rfl
        have f3 := HFr.cell 13 rfl
        have f4 := HFr.cell 14 rfl
        have HK := Lib.hid (K3.out wr hch.out)
        go_wp2_with (go_at_call 39; refine HK.out.mono ?_; rintro e w9 ⟨rfl, hc9⟩)
        go_roundw
        case rel => exact ⟨3, by omega, by go_num, (hch.out.mono (fun k h => ⟨h.1, by (have h2 : k < a2 := h.2); (have h3 := HA.out); (show k < a3); omega⟩)).trans (hc9.mono (fun k h => ⟨by (have h2 : a2 ≤ k := h.1); (have h3 := HA.out); omega, h.2⟩))⟩
        case measure => simp [intOf]
      · have HFr := (show FourAt wr gl _ _ _ _ from (hch.out.block gl HGL.out.2 (fun h => by (have h2 : gl < a3 := h.2); (have h3 := HA.out); omega)).trans HF.out)
        have f0 := HFr.cell 15 rfl
        have f1 := HFr.cell 16 rfl
        have f2 := HFr.cell 17 rfl
        have f3 := HFr.cell 18 rfl
        have f4 := HFr.cell 19 rfl
        have HK := Lib.hid (K4.out wr hch.out)
        go_wp2_with (go_at_call 39; refine HK.out.mono ?_; rintro e w9 ⟨rfl, hc9⟩)
        go_roundw
        case rel => exact ⟨4, by omega, by go_num, (hch.out.mono (fun k h => ⟨h.1, by (have h2 : k < a3 := h.2); (have h3 := HA.out); (show k < gl); omega⟩)).trans (hc9.mono (fun k h => ⟨by (have h2 : a3 ≤ k := h.1); (have h3 := HA.out); omega, h.2⟩))⟩
        case measure => simp [intOf]
    · obtain rfl : j = 4 := by omega
      have hbw : Below a0 Wl wr := hch.out.below (by have := HGL.out; have := HA.out; omega) (fun k h => h.1)
      have hbb : Below Wb.heap.size Wb wr := HBW.out.2.trans (by rw [HA0.out]; exact hbw)
      have HCR := HCB.out.go hbb
      have qc := HCR.lt 0 rfl
      have c0 := (HCR.at 0 rfl).cell 0 rfl
      have c1 := (HCR.at 0 rfl).cell 1 rfl
      have c2 := (HCR.at 0 rfl).cell 2 rfl
      have c3 := (HCR.at 0 rfl).cell 3 rfl
      have c4 := (HCR.at 0 rfl).cell 4 rfl
      have hX := text_any t r wr (HCR.tk (KB.refl wr) 0 rfl) HT.out HBT.out
      unfold TextRet at hX
      rw [H0.out, HS1.out] at hX
      have HX := Lib.hid hX
      have HFIN := Lib.hid HCR.below
      have HLE := Lib.hid HCR.le
      have e1 : (s1.toList == s1.toList) = true := by simp
      clear hX hbw hbb HCR
      go_wp2_with (go_at_call 34; refine HX.out.mono ?_; rintro e w9 ⟨rfl, hb9⟩)
      go_ret
      exact ⟨rfl, HFIN.out.trans (hb9.mono HLE.out)⟩
end Go.Proofs.Ythgkgjcnmahacaa
end

section
/- A value of JSON that came in reads as a tree. -/
set_option linter.unusedSimpArgs false
set_option linter.unusedVariables false
set_option maxRecDepth 100000
namespace Go.Proofs.Ythgkgjcnmahacaa
open Go Go.RowKit Go.ChangeShapes Go.WideShapes Go.Deep

section
variable {H : Type} {enc : TypeId × Value → H} {W : World} {base b0 : Nat} {spare : Nat → Bool} {held : Bool}
theorem cel1 : Try.prog.cellsOf 2 = 1 := by kernel_rfl
theorem cel2 : Try.prog.cellsOf 3 = 1 := by kernel_rfl
theorem cel3 : Try.prog.cellsOf 9 = 1 := by kernel_rfl
theorem cel4 : Try.prog.cellsOf 22 = 1 := by kernel_rfl
theorem cel5 : Try.prog.cellsOf 23 = 1 := by kernel_rfl

theorem weights_string {t : TypeId} {s : ByteArray} {R : Nat} (h : ∀ n ∈ (DataW.lit (H := H) (.string s.data.toList)).weights Try.prog t, n ≤ R) : s.size ≤ R := by
  have := h s.data.toList.length (by simp [DataW.weights])
  simpa using this

theorem open_val : ∀ (fuel : Nat) (cs : List Value) (x : DataW H × List MemPlace), DataW.trod enc Try.prog W base spare held fuel 25 cs = some x →
    ∃ r t, cs = encV r ∧ TreeOf W W.heap.size t r ∧ ((∀ n ∈ x.1.weights Try.prog 25, n ≤ 140737488351232) → t.Ok) := by
  intro fuel
  induction fuel using Nat.strongRecOn with
  | ind fuel ih =>
    intro cs x h
    obtain ⟨y0, y1, y2, y3, y4, n, rfl, hx1, hlen, t0, t1, t2, t3, t4⟩ := trodF5 Try.underlying25 h
    rw [cellsV] at hlen
    obtain ⟨c0, c1, c2, c3, c4, rfl⟩ : ∃ c0 c1 c2 c3 c4, cs = [c0, c1, c2, c3, c4] := by
      match cs, hlen with
      | [a, b, c, d, e], _ => exact ⟨a, b, c, d, e, rfl⟩
    rw [hx1]
    dsimp only at t0 t1 t2 t3 t4
    rw [cel2] at t0
    rw [cel1] at t1
    rw [cel3] at t2
    rw [cel4] at t3
    rw [cel5] at t4
    simp only [List.drop_zero, List.drop_succ_cons, List.take_succ_cons, List.take_zero] at t0 t1 t2 t3 t4
    obtain ⟨k, e0, f0, w0⟩ := DataW.trod_int Try.underlying3 t0
    obtain ⟨n', e1, f1, w1⟩ := DataW.trod_int Try.underlying2 t1
    obtain ⟨s, e2, f2, w2⟩ := DataW.trod_string Try.underlying9 t2
    simp only [List.cons.injEq, and_true] at e0 e1 e2
    subst e0 e1 e2 f0 f1 f2
    obtain ⟨pl, nl, cl, rs, e3, hr3, hd3⟩ := open_list (Q := fun (r : RV) (d : DataW H) => ∃ t, TreeOf W W.heap.size t r ∧ ((∀ n ∈ d.weights Try.prog 25, n ≤ 140737488351232) → t.Ok)) Try.underlying22 cellsV codecV t3
      (fun m hm cs y hy => by
        obtain ⟨r, t, h1, h2⟩ := ih m (by omega) cs y hy
        exact ⟨r, h1, t, h2⟩)
    obtain ⟨pm, nm, cm, rms, e4, hr4, hd4⟩ := open_list (Q := fun (r : RM) (d : DataW H) => ∃ t, TreeOf W W.heap.size t r.v ∧ ((∀ n ∈ d.weights Try.prog 90, n ≤ 140737488351232) → r.name.size ≤ 140737488351232 ∧ t.Ok)) Try.underlying23 cellsM codecM t4
      (fun m hm cs y hy => by
        obtain ⟨z0, z1, j, rfl, hy1, hlen, u0, u1⟩ := trodF2 Try.underlying90 hy
        rw [cellsM] at hlen
        obtain ⟨a0, a1, a2, a3, a4, a5, rfl⟩ : ∃ a0 a1 a2 a3 a4 a5, cs = [a0, a1, a2, a3, a4, a5] := by
          match cs, hlen with
          | [a, b, c, d, e, f], _ => exact ⟨a, b, c, d, e, f, rfl⟩
        rw [hy1]
        dsimp only at u0 u1
        rw [cel3] at u0
        rw [cellsV] at u1
        simp only [List.drop_zero, List.drop_succ_cons, List.take_succ_cons, List.take_zero] at u0 u1
        obtain ⟨nm, g0, g1, g2⟩ := DataW.trod_string Try.underlying9 u0
        simp only [List.cons.injEq, and_true] at g0
        subst g0 g1
        obtain ⟨r, t, h1, h2, h3⟩ := ih j (by omega) _ _ u1
        refine ⟨⟨nm, r⟩, by rw [h1]; rfl, t, h2, fun hw => ⟨weights_string (weights_struct Try.underlying90 hw (i := 0) rfl rfl), h3 (weights_struct Try.underlying90 hw (i := 1) rfl rfl)⟩⟩)
    simp only [List.cons.injEq, and_true] at e3 e4
    subst e3 e4
    have nl_eq : nl = rs.length := by
      obtain ⟨_, _, e, _⟩ := hr3
      simp only [Value.slice.injEq] at e; exact e.2.1
    have nm_eq : nm = rms.length := by
      obtain ⟨_, _, e, _⟩ := hr4
      simp only [Value.slice.injEq] at e; exact e.2.1
    have hL : ∀ i, i < rs.length → ∃ t : JV, ∀ q, rs[i]? = some q → TreeOf W W.heap.size t q ∧ ((∀ n ∈ y3.1.weights Try.prog 22, n ≤ 140737488351232) → t.Ok) := by
      intro i hi
      obtain ⟨q, hq⟩ : ∃ q, rs[i]? = some q := ⟨_, List.getElem?_eq_getElem hi⟩
      rcases hd3 with ⟨rfl, _⟩ | ⟨es, sp, h1, h2, h3⟩
      · simp at hi
      · obtain ⟨d, hd, t, ht1, ht2⟩ := h3 i q hq
        refine ⟨t, fun q' hq' => ?_⟩
        rw [hq] at hq'
        cases hq'
        refine ⟨ht1, fun hw => ht2 ?_⟩
        rw [h1] at hw
        exact (weights_slice Try.underlying22 hw).2 d (List.mem_of_getElem? hd)
    have hM : ∀ i, i < rms.length → ∃ p : ByteArray × JV, ∀ q, rms[i]? = some q → p.1 = q.name ∧ TreeOf W W.heap.size p.2 q.v ∧ ((∀ n ∈ y4.1.weights Try.prog 23, n ≤ 140737488351232) → p.1.size ≤ 140737488351232 ∧ p.2.Ok) := by
      intro i hi
      obtain ⟨q, hq⟩ : ∃ q, rms[i]? = some q := ⟨_, List.getElem?_eq_getElem hi⟩
      rcases hd4 with ⟨rfl, _⟩ | ⟨es, sp, h1, h2, h3⟩
      · simp at hi
      · obtain ⟨d, hd, t, ht1, ht2⟩ := h3 i q hq
        refine ⟨(q.name, t), fun q' hq' => ?_⟩
        rw [hq] at hq'
        cases hq'
        refine ⟨rfl, ht1, fun hw => ht2 ?_⟩
        rw [h1] at hw
        exact (weights_slice Try.underlying23 hw).2 d (List.mem_of_getElem? hd)
    obtain ⟨ts, hts, hts2⟩ := list_of rs.length hL
    obtain ⟨ps, hps, hps2⟩ := list_of rms.length hM
    refine ⟨⟨k, n', s, pl, nl, cl, pm, nm, cm⟩, .mk k n' s ts ps, rfl, ?_, fun hw => ?_⟩
    · exact TreeOf.mk (r := ⟨k, n', s, pl, nl, cl, pm, nm, cm⟩) hr3 hts (fun i t q h1 h2 => (hts2 i t h1 q h2).1) hr4 hps (fun i p q h1 h2 => (hps2 i p h1 q h2).1) (fun i p q h1 h2 => (hps2 i p h1 q h2).2.1)
    · have v2 := weights_string (weights_struct Try.underlying25 hw (i := 2) rfl rfl)
      have v3 : ∀ n ∈ y3.1.weights Try.prog 22, n ≤ 140737488351232 := weights_struct Try.underlying25 hw (i := 3) rfl rfl
      have v4 : ∀ n ∈ y4.1.weights Try.prog 23, n ≤ 140737488351232 := weights_struct Try.underlying25 hw (i := 4) rfl rfl
      refine .mk w0 w1 v2 ?_ ?_ (fun i x hx => ?_) (fun i p hp => ?_) (fun i p hp => ?_)
      · rcases hd3 with ⟨rfl, _⟩ | ⟨es, sp, h1, h2, _⟩
        · rw [hts]; simp
        · rw [h1] at v3
          have := (weights_slice Try.underlying22 v3).1
          rw [bytesV] at this
          omega
      · rcases hd4 with ⟨rfl, _⟩ | ⟨es, sp, h1, h2, _⟩
        · rw [hps]; simp
        · rw [h1] at v4
          have := (weights_slice Try.underlying23 v4).1
          rw [bytesM] at this
          omega
      · obtain ⟨q, hq⟩ : ∃ q, rs[i]? = some q := ⟨_, List.getElem?_eq_getElem (by have := (List.getElem?_eq_some_iff.1 hx).1; omega)⟩
        exact (hts2 i x hx q hq).2 v3
      · obtain ⟨q, hq⟩ : ∃ q, rms[i]? = some q := ⟨_, List.getElem?_eq_getElem (by have := (List.getElem?_eq_some_iff.1 hp).1; omega)⟩
        exact ((hps2 i p hp q hq).2.2 v4).1
      · obtain ⟨q, hq⟩ : ∃ q, rms[i]? = some q := ⟨_, List.getElem?_eq_getElem (by have := (List.getElem?_eq_some_iff.1 hp).1; omega)⟩
        exact ((hps2 i p hp q hq).2.2 v4).2

theorem open_value {v : Value} {d : DataW H} {p : List MemPlace} (hval : Value.okWide Try.prog W .any b0 25 v) (h : DataW.Trod enc Try.prog W base spare held 25 v d p) :
    ∃ r t, v = RV.val r ∧ TreeOf W W.heap.size t r ∧ ((∀ n ∈ d.weights Try.prog 25, n ≤ 140737488351232) → t.Ok) := by
  obtain ⟨cs, rfl, hsz⟩ := okWide_struct Try.underlying25 hval
  obtain ⟨fuel, hf⟩ := h
  obtain ⟨r, t, h1, h2, h3⟩ := open_val fuel _ _ hf
  refine ⟨r, t, ?_, h2, h3⟩
  have : cs = (encV r).toArray := by
    apply Array.ext'
    simpa [Value.cells] using h1
  rw [this]
  rfl
end
#print axioms open_value
end Go.Proofs.Ythgkgjcnmahacaa
end

section
/- A law that answers true and leaves memory alone, at what is of little bulk: from its contract to its row, once for all laws. -/
set_option linter.unusedSimpArgs false
set_option linter.unusedVariables false
namespace Go.Proofs.Ythgkgjcnmahacaa
open Go.ChangeShapes Go.WideShapes Go.ChangeAt Go.RowKit

section
variable {H : Type} {enc : TypeId × Value → H}
theorem law_upto {C : Checked} {os : Os} {f : FuncId} {fn : Func} {s : ChangeSpec} {conds : List PathCond} {tb : TypeId} (F : Stop.Interp)
    (own : ownKnob C.prog.godebug = none) (started : os.Started) (noInit : C.prog.inits.idxOf? f = none) (hfn : C.prog.funcs[f]? = some fn)
    (hv : s.vars = []) (hs : ∀ ds : List (DataW H), ds.length = fn.params.toList.length → s.fn H ds = { results := [.lit (.bool true)], args := ds })
    (hres : fn.resultTypes = #[tb]) (hbool : C.prog.underlying tb = some .bool) (hl : laidOutB C.prog = true) (hr : ∀ t ∈ fn.params.toList, C.prog.readableRec t = true ∧ t < C.prog.types.size)
    (witness : ∃ (w : World) (tape : Tape) (i : Input), w.os = os ∧ (w.forCall tape i).Shaped C.prog ∧ i.vars = [] ∧ Input.okWide C.prog (w.forCall tape i) .any w.heap.size f i ∧
      (Rows.OpenSpec.upto s).pre6 enc C.prog fn conds false (w.forCall tape i).memory i.args ∧ Assume.holds {} C.prog (lone (Frame.enter C.prog f i.args .normal) [] (w.forCall tape i)))
    (law : ∀ (W : World) (base : Nat) (args : Array Value) (ds : List (DataW H)) (p : List MemPlace),
      (∀ (j : Nat) t v, fn.params[j]? = some t → args[j]? = some v → Value.okWide C.prog W .any base t v) →
      DataW.TrodAll enc C.prog W 0 (fun _ => true) true fn.params.toList args.toList ds p →
      (DataW.weightsEach C.prog (fn.params.toList ++ s.plain.varTypes C.prog) ds).all (· ≤ reachBytes) = true → Rows.uptoBulkAll ds ≤ 1048576 →
      Calls C.prog f args W fun e W' => e = .returned (.bool true) ∧ Below W.heap.size W W') :
    ReturnsInHanded {} C os f .any ((Rows.OpenSpec.upto s).pre6 enc C.prog fn conds false) (((Rows.OpenSpec.upto s).at F).post enc C.prog fn false true false false) := by
  refine returnsInHanded_of_cond_sized (C := C) (s := Rows.OpenSpec.upto s) (k := Rows.uptoSmall) rfl own started noInit hfn witness ?_
  intro W base args ds gs before hval hW hcnd hk hsz _
  have hW0 : DataW.Whole enc C.prog fn.params.toList s.vars false W args.toList ds gs before := hW
  have hW' := hW0
  obtain ⟨p, q, hA, hV, rfl, hfz, hnd⟩ := hW0
  rw [hv] at hV
  obtain ⟨rfl, rfl⟩ := trodVars_none hV
  rw [List.append_nil] at hsz hk
  have hk2 : Rows.uptoBulkAll ds ≤ 1048576 := of_decide_eq_true hk
  refine (law W base args ds p hval hA hsz hk2).mono fun e W' ⟨he, hb⟩ => ?_
  exact ⟨_, he, law_post hv hs hres hbool hl hr hW' hb⟩
end
end Go.Proofs.Ythgkgjcnmahacaa
end

section
/- A value of JSON that came in reads as a tree, what it holds counted (printed by gen/bulk.py). -/
set_option linter.unusedSimpArgs false
set_option linter.unusedVariables false
set_option maxRecDepth 100000
namespace Go.Proofs.Ythgkgjcnmahacaa
open Go Go.RowKit Go.ChangeShapes Go.WideShapes Go.Deep

theorem bulk_pos {H : Type} (d : DataW H) : 1 ≤ Rows.uptoBulk d := by
  cases d with
  | lit l => cases l <;> simp [Rows.uptoBulk]
  | nil => simp [Rows.uptoBulk]
  | ptr d => simp [Rows.uptoBulk]
  | slice elems spare => simp [Rows.uptoBulk]
  | agg parts => simp [Rows.uptoBulk]
  | iface t d => simp [Rows.uptoBulk]
  | map entries => simp [Rows.uptoBulk]
  | held h => simp [Rows.uptoBulk]
theorem bulkL_ge {H : Type} : ∀ (l : List JV) (es : List (DataW H)), (∀ (i : Nat) (t : JV), l[i]? = some t → ∃ d, es[i]? = some d ∧ 1 + bkT t ≤ Rows.uptoBulk d) → bkL l ≤ Rows.uptoBulkAll es
  | [], es, _ => by rw [bkL]; omega
  | t :: l, [], h => by obtain ⟨d, hd, _⟩ := h 0 t rfl; simp at hd
  | t :: l, e :: es, h => by
    obtain ⟨d, hd, hb⟩ := h 0 t rfl
    simp at hd
    subst hd
    have := bulkL_ge l es (fun i x hx => by have := h (i + 1) x (by simpa using hx); simpa using this)
    rw [bkL]
    simp only [Rows.uptoBulkAll]
    omega
theorem bulkM_ge {H : Type} : ∀ (l : List (ByteArray × JV)) (es : List (DataW H)), (∀ (i : Nat) (t : ByteArray × JV), l[i]? = some t → ∃ d, es[i]? = some d ∧ 2 + t.1.size + bkT t.2 ≤ Rows.uptoBulk d) → bkM l ≤ Rows.uptoBulkAll es
  | [], es, _ => by rw [bkM]; omega
  | t :: l, [], h => by obtain ⟨d, hd, _⟩ := h 0 t rfl; simp at hd
  | (s, t) :: l, e :: es, h => by
    obtain ⟨d, hd, hb⟩ := h 0 (s, t) rfl
    simp at hd
    subst hd
    have := bulkM_ge l es (fun i x hx => by have := h (i + 1) x (by simpa using hx); simpa using this)
    rw [bkM]
    simp only [Rows.uptoBulkAll]
    dsimp only at hb
    omega
section
variable {H : Type} {enc : TypeId × Value → H} {W : World} {base b0 : Nat} {spare : Nat → Bool} {held : Bool}
theorem open_valB : ∀ (fuel : Nat) (cs : List Value) (x : DataW H × List MemPlace), DataW.trod enc Try.prog W base spare held fuel 25 cs = some x →
    ∃ r t, cs = encV r ∧ TreeOf W W.heap.size t r ∧ ((∀ n ∈ x.1.weights Try.prog 25, n ≤ 140737488351232) → t.Ok) ∧ bkT t + 5 ≤ Rows.uptoBulk x.1 := by
  intro fuel
  induction fuel using Nat.strongRecOn with
  | ind fuel ih =>
    intro cs x h
    obtain ⟨y0, y1, y2, y3, y4, n, rfl, hx1, hlen, t0, t1, t2, t3, t4⟩ := trodF5 Try.underlying25 h
    rw [cellsV] at hlen
    obtain ⟨c0, c1, c2, c3, c4, rfl⟩ : ∃ c0 c1 c2 c3 c4, cs = [c0, c1, c2, c3, c4] := by
      match cs, hlen with
      | [a, b, c, d, e], _ => exact ⟨a, b, c, d, e, rfl⟩
    rw [hx1]
    dsimp only at t0 t1 t2 t3 t4
    rw [cel2] at t0
    rw [cel1] at t1
    rw [cel3] at t2
    rw [cel4] at t3
    rw [cel5] at t4
    simp only [List.drop_zero, List.drop_succ_cons, List.take_succ_cons, List.take_zero] at t0 t1 t2 t3 t4
    obtain ⟨k, e0, f0, w0⟩ := DataW.trod_int Try.underlying3 t0
    obtain ⟨n', e1, f1, w1⟩ := DataW.trod_int Try.underlying2 t1
    obtain ⟨s, e2, f2, w2⟩ := DataW.trod_string Try.underlying9 t2
    simp only [List.cons.injEq, and_true] at e0 e1 e2
    subst e0 e1 e2
    obtain ⟨pl, nl, cl, rs, e3, hr3, hd3⟩ := open_list (Q := fun (r : RV) (d : DataW H) => ∃ t, TreeOf W W.heap.size t r ∧ ((∀ n ∈ d.weights Try.prog 25, n ≤ 140737488351232) → t.Ok) ∧ bkT t + 5 ≤ Rows.uptoBulk d) Try.underlying22 cellsV codecV t3
      (fun m hm cs y hy => by
        obtain ⟨r, t, h1, h2⟩ := ih m (by omega) cs y hy
        exact ⟨r, h1, t, h2⟩)
    obtain ⟨pm, nm, cm, rms, e4, hr4, hd4⟩ := open_list (Q := fun (r : RM) (d : DataW H) => ∃ t, TreeOf W W.heap.size t r.v ∧ ((∀ n ∈ d.weights Try.prog 90, n ≤ 140737488351232) → r.name.size ≤ 140737488351232 ∧ t.Ok) ∧ 2 + r.name.size + bkT t ≤ Rows.uptoBulk d) Try.underlying23 cellsM codecM t4
      (fun m hm cs y hy => by
        obtain ⟨z0, z1, j, rfl, hy1, hlen, u0, u1⟩ := trodF2 Try.underlying90 hy
        rw [cellsM] at hlen
        obtain ⟨a0, a1, a2, a3, a4, a5, rfl⟩ : ∃ a0 a1 a2 a3 a4 a5, cs = [a0, a1, a2, a3, a4, a5] := by
          match cs, hlen with
          | [a, b, c, d, e, f], _ => exact ⟨a, b, c, d, e, f, rfl⟩
        rw [hy1]
        dsimp only at u0 u1
        rw [cel3] at u0
        rw [cellsV] at u1
        simp only [List.drop_zero, List.drop_succ_cons, List.take_succ_cons, List.take_zero] at u0 u1
        obtain ⟨nm, g0, g1, g2⟩ := DataW.trod_string Try.underlying9 u0
        simp only [List.cons.injEq, and_true] at g0
        subst g0
        obtain ⟨r, t, h1, h2, h3, h4⟩ := ih j (by omega) _ _ u1
        refine ⟨⟨nm, r⟩, by rw [h1]; rfl, t, h2, fun hw => ⟨weights_string (by have := weights_struct Try.underlying90 hw (i := 0) rfl rfl; rw [g1] at this; exact this), h3 (weights_struct Try.underlying90 hw (i := 1) rfl rfl)⟩, by rw [g1]; simp only [Rows.uptoBulk, Rows.uptoBulkAll, str_len]; omega⟩)
    simp only [List.cons.injEq, and_true] at e3 e4
    subst e3 e4
    have nl_eq : nl = rs.length := by
      obtain ⟨_, _, e, _⟩ := hr3
      simp only [Value.slice.injEq] at e; exact e.2.1
    have nm_eq : nm = rms.length := by
      obtain ⟨_, _, e, _⟩ := hr4
      simp only [Value.slice.injEq] at e; exact e.2.1
    have hL : ∀ i, i < rs.length → ∃ t : JV, ∀ q, rs[i]? = some q → TreeOf W W.heap.size t q ∧ ((∀ n ∈ y3.1.weights Try.prog 22, n ≤ 140737488351232) → t.Ok) ∧ ∀ es sp, y3.1 = .slice es sp → ∃ d, es[i]? = some d ∧ bkT t + 5 ≤ Rows.uptoBulk d := by
      intro i hi
      obtain ⟨q, hq⟩ : ∃ q, rs[i]? = some q := ⟨_, List.getElem?_eq_getElem hi⟩
      rcases hd3 with ⟨rfl, _⟩ | ⟨es, sp, h1, h2, h3⟩
      · simp at hi
      · obtain ⟨d, hd, t, ht1, ht2, ht3⟩ := h3 i q hq
        refine ⟨t, fun q' hq' => ?_⟩
        rw [hq] at hq'
        cases hq'
        refine ⟨ht1, fun hw => ht2 ?_, fun es' sp' he => ?_⟩
        · rw [h1] at hw
          exact (weights_slice Try.underlying22 hw).2 d (List.mem_of_getElem? hd)
        · rw [h1] at he
          cases he
          exact ⟨d, hd, ht3⟩
    have hM : ∀ i, i < rms.length → ∃ p : ByteArray × JV, ∀ q, rms[i]? = some q → p.1 = q.name ∧ TreeOf W W.heap.size p.2 q.v ∧ ((∀ n ∈ y4.1.weights Try.prog 23, n ≤ 140737488351232) → p.1.size ≤ 140737488351232 ∧ p.2.Ok) ∧ ∀ es sp, y4.1 = .slice es sp → ∃ d, es[i]? = some d ∧ 2 + p.1.size + bkT p.2 ≤ Rows.uptoBulk d := by
      intro i hi
      obtain ⟨q, hq⟩ : ∃ q, rms[i]? = some q := ⟨_, List.getElem?_eq_getElem hi⟩
      rcases hd4 with ⟨rfl, _⟩ | ⟨es, sp, h1, h2, h3⟩
      · simp at hi
      · obtain ⟨d, hd, t, ht1, ht2, ht3⟩ := h3 i q hq
        refine ⟨(q.name, t), fun q' hq' => ?_⟩
        rw [hq] at hq'
        cases hq'
        refine ⟨rfl, ht1, fun hw => ht2 ?_, fun es' sp' he => ?_⟩
        · rw [h1] at hw
          exact (weights_slice Try.underlying23 hw).2 d (List.mem_of_getElem? hd)
        · rw [h1] at he
          cases he
          exact ⟨d, hd, ht3⟩
    obtain ⟨ts, hts, hts2⟩ := list_of rs.length hL
    obtain ⟨ps, hps, hps2⟩ := list_of rms.length hM
    refine ⟨⟨k, n', s, pl, nl, cl, pm, nm, cm⟩, .mk k n' s ts ps, rfl, ?_, fun hw => ?_, ?_⟩
    · exact TreeOf.mk (r := ⟨k, n', s, pl, nl, cl, pm, nm, cm⟩) hr3 hts (fun i t q h1 h2 => (hts2 i t h1 q h2).1) hr4 hps (fun i p q h1 h2 => (hps2 i p h1 q h2).1) (fun i p q h1 h2 => (hps2 i p h1 q h2).2.1)
    · have v2 : s.size ≤ 140737488351232 := weights_string (t := 9) (by have := weights_struct Try.underlying25 hw (i := 2) rfl rfl; rw [f2] at this; exact this)
      have v3 : ∀ n ∈ y3.1.weights Try.prog 22, n ≤ 140737488351232 := weights_struct Try.underlying25 hw (i := 3) rfl rfl
      have v4 : ∀ n ∈ y4.1.weights Try.prog 23, n ≤ 140737488351232 := weights_struct Try.underlying25 hw (i := 4) rfl rfl
      refine .mk w0 w1 v2 ?_ ?_ (fun i x hx => ?_) (fun i p hp => ?_) (fun i p hp => ?_)
      · rcases hd3 with ⟨rfl, _⟩ | ⟨es, sp, h1, h2, _⟩
        · rw [hts]; simp
        · rw [h1] at v3
          have := (weights_slice Try.underlying22 v3).1
          rw [bytesV] at this
          omega
      · rcases hd4 with ⟨rfl, _⟩ | ⟨es, sp, h1, h2, _⟩
        · rw [hps]; simp
        · rw [h1] at v4
          have := (weights_slice Try.underlying23 v4).1
          rw [bytesM] at this
          omega
      · obtain ⟨q, hq⟩ : ∃ q, rs[i]? = some q := ⟨_, List.getElem?_eq_getElem (by have := (List.getElem?_eq_some_iff.1 hx).1; omega)⟩
        exact (hts2 i x hx q hq).2.1 v3
      · obtain ⟨q, hq⟩ : ∃ q, rms[i]? = some q := ⟨_, List.getElem?_eq_getElem (by have := (List.getElem?_eq_some_iff.1 hp).1; omega)⟩
        exact ((hps2 i p hp q hq).2.2.1 v4).1
      · obtain ⟨q, hq⟩ : ∃ q, rms[i]? = some q := ⟨_, List.getElem?_eq_getElem (by have := (List.getElem?_eq_some_iff.1 hp).1; omega)⟩
        exact ((hps2 i p hp q hq).2.2.1 v4).2
    · have b3 : bkL ts + 1 ≤ Rows.uptoBulk y3.1 := by
        rcases hd3 with ⟨rfl, _⟩ | ⟨es, sp, h1, h2, _⟩
        · have e : ts = [] := List.eq_nil_of_length_eq_zero (by simpa using hts)
          rw [e, bkL]
          exact bulk_pos _
        · rw [h1]
          simp only [Rows.uptoBulk]
          have := bulkL_ge ts es (fun i x hx => by
            obtain ⟨q, hq⟩ : ∃ q, rs[i]? = some q := ⟨_, List.getElem?_eq_getElem (by have := (List.getElem?_eq_some_iff.1 hx).1; omega)⟩
            obtain ⟨d, hd, hb⟩ := (hts2 i x hx q hq).2.2 es sp h1
            exact ⟨d, hd, by omega⟩)
          omega
      have b4 : bkM ps + 1 ≤ Rows.uptoBulk y4.1 := by
        rcases hd4 with ⟨rfl, _⟩ | ⟨es, sp, h1, h2, _⟩
        · have e : ps = [] := List.eq_nil_of_length_eq_zero (by simpa using hps)
          rw [e, bkM]
          exact bulk_pos _
        · rw [h1]
          simp only [Rows.uptoBulk]
          have := bulkM_ge ps es (fun i x hx => by
            obtain ⟨q, hq⟩ : ∃ q, rms[i]? = some q := ⟨_, List.getElem?_eq_getElem (by have := (List.getElem?_eq_some_iff.1 hx).1; omega)⟩
            obtain ⟨d, hd, hb⟩ := (hps2 i x hx q hq).2.2.2 es sp h1
            exact ⟨d, hd, by omega⟩)
          omega
      have b0 := bulk_pos y0.1
      have b1 := bulk_pos y1.1
      have b2 : Rows.uptoBulk y2.1 = s.size + 1 := by rw [f2]; simp only [Rows.uptoBulk, str_len]
      rw [bkT]
      simp only [Rows.uptoBulk, Rows.uptoBulkAll]
      omega

theorem open_valueB {v : Value} {d : DataW H} {p : List MemPlace} (hval : Value.okWide Try.prog W .any b0 25 v) (h : DataW.Trod enc Try.prog W base spare held 25 v d p) :
    ∃ r t, v = RV.val r ∧ TreeOf W W.heap.size t r ∧ ((∀ n ∈ d.weights Try.prog 25, n ≤ 140737488351232) → t.Ok) ∧ bkT t + 5 ≤ Rows.uptoBulk d := by
  obtain ⟨cs, rfl, hsz⟩ := okWide_struct Try.underlying25 hval
  obtain ⟨fuel, hf⟩ := h
  obtain ⟨r, t, h1, h2, h3, h4⟩ := open_valB fuel _ _ hf
  refine ⟨r, t, ?_, h2, h3, h4⟩
  have : cs = (encV r).toArray := by
    apply Array.ext'
    simpa [Value.cells] using h1
  rw [this]
  rfl
end
end Go.Proofs.Ythgkgjcnmahacaa
end
