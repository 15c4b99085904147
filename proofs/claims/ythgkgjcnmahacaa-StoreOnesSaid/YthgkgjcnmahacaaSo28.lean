import Derived.Test.YthgkgjcnmahacaaSo22
import Derived.Test.YthgkgjcnmahacaaSo19
import Derived.Test.YthgkgjcnmahacaaSo26
import Derived.Test.YthgkgjcnmahacaaSo27
import Derived.Deep.CutBlock
/- The law of single boxes, walked. -/
set_option linter.unusedSimpArgs false
set_option linter.unusedVariables false
namespace Go.Proofs.Ythgkgjcnmahacaa
open Go.RowKit Go.OpenShut

/-- The law's box in its block. -/
structure OneS (w W : World) (r : RB) : Prop where
  box : BoxAt W w.heap.size r
  below : Below w.heap.size w W
theorem OneS.go {w W W' : World} {r : RB} (h : OneS w W r) (hb : Below W.heap.size W W') : OneS w W' r := ⟨h.box.under hb h.box.lt, h.below.trans (hb.mono h.below.size)⟩
/-- A value that was found, in a block behind it. -/
structure FndS (w W : World) (g : Nat) (t : JV) (q : RV) : Prop where
  at_ : VAt W g q
  tree : TreeOf W W.heap.size t q
theorem FndS.go {w W W' : World} {g : Nat} {t : JV} {q : RV} (h : FndS w W g t q) (hb : Below W.heap.size W W') : FndS w W' g t q := ⟨h.at_.under hb h.at_.lt, h.tree.under hb hb.size⟩
theorem bool_eq {a b : Bool} {p : Prop} (h1 : a = true ↔ p) (h2 : b = true ↔ p) : a = b := by
  cases a <;> cases b <;> simp at h1 h2 ⊢
  · exact h1 h2
  · exact h2 h1
theorem Said.at {w : World} {p : Prop} {e : Ending} {w' : World} (h : Said w p e w') {y : Bool} (hy : y = true ↔ p) : e = .returned (.bool y) ∧ Below w.heap.size w w' := by
  obtain ⟨b, rfl, h1, h2⟩ := h
  exact ⟨by rw [bool_eq h1 hy], h2⟩

theorem findJ_ok {b : BoxD} (ob : b.Ok) (id : ByteArray) : ((findJ b.objs id).getD JV.zero).Ok := by
  cases h : findJ b.objs id with
  | none => exact .mk (by decide) (by decide) (by decide) (by decide) (by decide) (fun i x h => by simp at h) (fun i p h => by simp at h) (fun i p h => by simp at h)
  | some v =>
    unfold findJ at h
    obtain ⟨p, hp, rfl⟩ := Option.map_eq_some_iff.1 h
    exact (ob.each p (List.mem_of_find?_eq_some hp)).2

set_option maxRecDepth 200000 in
set_option maxHeartbeats 16000000 in
theorem storeOnes_any (w : World) (b : BoxD) (r : RB) (id : ByteArray) (start keep : Int) (hb : BoxOf w w.heap.size b r) (ob : b.Ok) :
    Calls Try.prog 5 #[r.val, .string id, .int .i64 start, .int .i64 keep] w fun e w' => e = .returned (.bool true) ∧ Below w.heap.size w w' := by
  have hS : OneS w (w.alloc r.obj) r := ⟨heap_alloc_at rfl, (Below.refl _ _).alloc (Nat.le_refl _) _⟩
  have HBX := Lib.hid hb
  have HOB := Lib.hid ob
  clear hb ob
  go_enter Try.func5, Try.ntmps5
  go_upto_region 1 with fail
  obtain ⟨W0, hW0⟩ : ∃ W0, w.alloc r.obj = W0 := ⟨_, rfl⟩
  rw [hW0] at hS
  dsimp only [RB.obj] at hW0
  rw [hW0]
  clear hW0
  have HS := Lib.hid hS
  clear hS
  go_wp2_with fail
  refine (awake18_any _).mono ?_
  rintro e w1 ⟨rfl, hb1⟩
  have HS1 := Lib.hid (HS.out.go hb1)
  clear HS hb1
  have q1 := HS1.out.box.lt
  have c0 := HS1.out.box.cell 0 rfl
  have c1 := HS1.out.box.cell 1 rfl
  have c2 := HS1.out.box.cell 2 rfl
  have c3 := HS1.out.box.cell 3 rfl
  have c4 := HS1.out.box.cell 4 rfl
  by_cases h1 : 1000 < r.no
  · have d1 : decide ((1000 : Int) < (r.no : Int)) = true := by simp; omega
    clear h1
    go_wp2_with fail
    refine (awake18_any _).mono ?_
    rintro e w2 ⟨rfl, hb2⟩
    go_wp2_with fail
    go_ret
    exact ⟨rfl, (HS1.out.go hb2).below⟩
  have d1 : decide ((1000 : Int) < (r.no : Int)) = false := by simp; omega
  by_cases h2 : 300 < r.nt
  · have d2 : decide ((300 : Int) < (r.nt : Int)) = true := by simp; omega
    clear h1 h2
    go_wp2_with fail
    refine (awake18_any _).mono ?_
    rintro e w2 ⟨rfl, hb2⟩
    go_wp2_with fail
    go_ret
    exact ⟨rfl, (HS1.out.go hb2).below⟩
  have d2 : decide ((300 : Int) < (r.nt : Int)) = false := by simp; omega
  clear h1 h2
  go_upto_region 4 with (go_at_call 26; refine (find_any b r id w1 (HBX.out.under HS1.out.below HS1.out.below.size) HOB.out).mono ?_; rintro e w2 ⟨q, rfl, hq, hb2⟩)
  have hA2 : VAt (w2.alloc (.cells #[.int .i64 q.k, .int .i64 q.n, .string q.s, .slice q.pl q.nl q.cl, .slice q.pm q.nm q.cm] 25)) w2.heap.size q := heap_alloc_at rfl
  have hF2 : FndS w (w2.alloc (.cells #[.int .i64 q.k, .int .i64 q.n, .string q.s, .slice q.pl q.nl q.cl, .slice q.pm q.nm q.cm] 25)) w2.heap.size ((findJ b.objs id).getD JV.zero) q := ⟨hA2, hq.under ((Below.refl _ _).alloc (Nat.le_refl _) _) (by simp)⟩
  have hS2 := HS1.out.go (hb2.alloc hb2.size (.cells #[.int .i64 q.k, .int .i64 q.n, .string q.s, .slice q.pl q.nl q.cl, .slice q.pm q.nm q.cm] 25))
  obtain ⟨W2, hW2⟩ : ∃ W2, w2.alloc (.cells #[.int .i64 q.k, .int .i64 q.n, .string q.s, .slice q.pl q.nl q.cl, .slice q.pm q.nm q.cm] 25) = W2 := ⟨_, rfl⟩
  obtain ⟨g2, hg2⟩ : ∃ g, w2.heap.size = g := ⟨_, rfl⟩
  have hl2 : w.heap.size < g2 := by have := hb2.size; omega
  obtain ⟨f, hf⟩ : ∃ f, (findJ b.objs id).isSome = f := ⟨_, rfl⟩
  rw [hW2, hg2] at hF2
  rw [hW2] at hS2
  rw [hW2, hg2, hf]
  have HF := Lib.hid hf
  have HS2 := Lib.hid hS2
  have HF2 := Lib.hid hF2
  clear hW2 hg2 hA2 hq hb2 c0 c1 c2 c3 c4 q1 d1 d2 HS1 hS2 hF2 hf
  have q1 := HS2.out.box.lt
  have c0 := HS2.out.box.cell 0 rfl
  have c1 := HS2.out.box.cell 1 rfl
  have c2 := HS2.out.box.cell 2 rfl
  have c3 := HS2.out.box.cell 3 rfl
  have c4 := HS2.out.box.cell 4 rfl
  go_upto_region 5 with (go_at_call 27; refine (refFind_any b r id W2 (HBX.out.under HS2.out.below HS2.out.below.size) HOB.out).mono ?_; rintro e w3 ⟨p, rfl, hp, hb3⟩; rw [HF.out])
  have hA3 : VAt (w3.alloc (.cells #[.int .i64 p.k, .int .i64 p.n, .string p.s, .slice p.pl p.nl p.cl, .slice p.pm p.nm p.cm] 25)) w3.heap.size p := heap_alloc_at rfl
  have hF3 : FndS w (w3.alloc (.cells #[.int .i64 p.k, .int .i64 p.n, .string p.s, .slice p.pl p.nl p.cl, .slice p.pm p.nm p.cm] 25)) w3.heap.size ((findJ b.objs id).getD JV.zero) p := ⟨hA3, hp.under ((Below.refl _ _).alloc (Nat.le_refl _) _) (by simp)⟩
  have hS3 := HS2.out.go (hb3.alloc hb3.size (.cells #[.int .i64 p.k, .int .i64 p.n, .string p.s, .slice p.pl p.nl p.cl, .slice p.pm p.nm p.cm] 25))
  have hF2 := HF2.out.go (hb3.alloc hb3.size (.cells #[.int .i64 p.k, .int .i64 p.n, .string p.s, .slice p.pl p.nl p.cl, .slice p.pm p.nm p.cm] 25))
  obtain ⟨W3, hW3⟩ : ∃ W3, w3.alloc (.cells #[.int .i64 p.k, .int .i64 p.n, .string p.s, .slice p.pl p.nl p.cl, .slice p.pm p.nm p.cm] 25) = W3 := ⟨_, rfl⟩
  obtain ⟨g3, hg3⟩ : ∃ g, w3.heap.size = g := ⟨_, rfl⟩
  rw [hW3, hg3] at hF3
  rw [hW3] at hS3 hF2
  rw [hW3, hg3]
  have HS3 := Lib.hid hS3
  have HG2 := Lib.hid hF2
  have HG3 := Lib.hid hF3
  clear hW3 hg3 hA3 hp hb3 c0 c1 c2 c3 c4 q1 HS2 HF2 hS3 hF2 hF3
  have q1 := HS3.out.box.lt
  have c0 := HS3.out.box.cell 0 rfl
  have c1 := HS3.out.box.cell 1 rfl
  have c2 := HS3.out.box.cell 2 rfl
  have c3 := HS3.out.box.cell 3 rfl
  have c4 := HS3.out.box.cell 4 rfl
  go_upto_region 6 with (go_at_call 24; refine (ids_any b r W3 (HBX.out.under HS3.out.below HS3.out.below.size) HOB.out).mono ?_; rintro e w4 ⟨u, rfl, hu, hb4⟩)
  have hu2 := hu.rd codecS
  obtain ⟨pu, cu, hv, hlu, hcu⟩ := rd_len hu2
  subst hv
  have hol := HBX.out.objs.nlen
  have hml : (b.objs.map (·.1)).length = r.no := by simp [hol]
  rw [hml] at hu2 hlu ⊢
  have HS4 := Lib.hid (HS3.out.go hb4)
  have HH2 := Lib.hid (HG2.out.go hb4)
  have HH3 := Lib.hid (HG3.out.go hb4)
  have HU := Lib.hid hu2
  have HML := Lib.hid hml
  have HOL := Lib.hid hol
  clear hu hu2 hcu hlu hol hml hb4 HS3 HG2 HG3 c0 c1 c2 c3 c4 q1
  have q1 := HS4.out.box.lt
  have c0 := HS4.out.box.cell 0 rfl
  have c1 := HS4.out.box.cell 1 rfl
  have c2 := HS4.out.box.cell 2 rfl
  have c3 := HS4.out.box.cell 3 rfl
  have c4 := HS4.out.box.cell 4 rfl
  obtain ⟨y, hy⟩ : ∃ y : Bool, y = true ↔ RightBx b := by
    rcases Classical.em (RightBx b) with h | h
    · exact ⟨true, by simp [h]⟩
    · exact ⟨false, by simp [h]⟩
  have HR1 : Hid (∀ W, KB w4.heap.size w4 W → Calls Try.prog 20 #[.agg #[.slice r.po r.no r.co, .slice r.pt r.nt r.ct, .int .i64 r.sq, .int .i64 r.fl, .int .i64 r.kp]] W fun e w' => e = .returned (.bool y) ∧ Below W.heap.size W w') := fun W hk => by
    have hbw := HS4.out.below.trans (hk.1.mono HS4.out.below.size)
    exact (rightS_any b r W (HBX.out.under hbw hbw.size) HOB.out).mono fun e w' h => h.at hy
  have HR2 : Hid (∀ W, KB w4.heap.size w4 W → Calls Try.prog 28 #[.agg #[.slice r.po r.no r.co, .slice r.pt r.nt r.ct, .int .i64 r.sq, .int .i64 r.fl, .int .i64 r.kp]] W fun e w' => e = .returned (.bool y) ∧ Below W.heap.size W w') := fun W hk => by
    have hbw := HS4.out.below.trans (hk.1.mono HS4.out.below.size)
    exact (refRight_any18 b r W (HBX.out.under hbw hbw.size) HOB.out).mono fun e w' h => h.at hy
  obtain ⟨s, hs⟩ : ∃ s, clampI start 9007199254740991 = s := ⟨_, rfl⟩
  obtain ⟨k, hk⟩ : ∃ k, clampI keep 1000 = k := ⟨_, rfl⟩
  have hnb := fun W => newB_of W W.heap.size start keep
  have hnr := newB_right start keep
  have hno : (newB start keep).Ok := by
    have h1 : 0 ≤ clampI start 9007199254740991 ∧ clampI start 9007199254740991 ≤ 9007199254740991 := by unfold clampI; split <;> (try split) <;> omega
    have h2 : 0 ≤ clampI keep 1000 ∧ clampI keep 1000 ≤ 1000 := by unfold clampI; split <;> (try split) <;> omega
    refine ⟨by simp [newB], fun p h => by simp [newB] at h, by simp [newB], wf_of ?_ ?_, wf_of ?_ ?_, wf_of ?_ ?_⟩ <;> simp only [newB] <;> omega
  have hnw := fun W => new_any start keep W
  have hnx := fun W => refNew_any start keep W
  unfold NewRetB at hnw hnx
  unfold newR at hnb hnw hnx
  rw [hs, hk] at hnb hnw hnx
  dsimp only [RB.val] at hnw hnx
  have HNW := Lib.hid hnw
  have HNX := Lib.hid hnx
  have HNS : Hid (∀ W, Calls Try.prog 25 #[.agg #[.slice none 0 0, .slice none 0 0, .int .i64 s, .int .i64 s, .int .i64 k], .agg #[.slice none 0 0, .slice none 0 0, .int .i64 s, .int .i64 s, .int .i64 k]] W fun e w' => e = .returned (.bool true) ∧ Below W.heap.size W w') := fun W => (same18_any (newB start keep) (newB start keep) _ _ W (hnb W) (hnb W) hno hno).mono fun e w' h => h.yes rfl
  have HNR : Hid (∀ W, Calls Try.prog 20 #[.agg #[.slice none 0 0, .slice none 0 0, .int .i64 s, .int .i64 s, .int .i64 k]] W fun e w' => e = .returned (.bool true) ∧ Below W.heap.size W w') := fun W => (rightS_any (newB start keep) _ W (hnb W) hno).mono fun e w' h => h.yes hnr
  clear hs hk hnb hnr hno hnw hnx hy
  have hne : ((r.no : Int) != (r.no : Int)) = false := by simp
  have hyy : (y != y) = false := by simp
  have hff : (f != f) = false := by simp
  go_cut [78] from 44 to 78 (fun v wq => v = .bool false ∧ Hid (KB w4.heap.size w4 wq))
  case first =>
    go_region_held3 (fun w' => Below w4.heap.size w4 w' ∧ ∀ b o, b < w4.heap.size → w'.cell? ⟨b, o, none⟩ = w4.cell? ⟨b, o, none⟩)
      (first | with_reducible exact kt_drew w4 | with_reducible exact kt_same hbk)
      (first
        | (go_at_call 29; refine (HNW.out _).mono ?_; rintro e w5 ⟨rfl, hbs⟩; (have hbk := KB.step (W := w4) (by assumption) hbs))
        | (go_at_call 30; refine (HNX.out _).mono ?_; rintro e w5 ⟨rfl, hbs⟩; (have hbk := KB.step (W := w4) (by assumption) hbs))
        | (go_at_call 25; refine (HNS.out _).mono ?_; rintro e w5 ⟨rfl, hbs⟩; (have hbk := KB.step (W := w4) (by assumption) hbs))
        | (go_at_call 28; refine (HR2.out _ (by assumption)).mono ?_; rintro e w5 ⟨rfl, hbs⟩; (have hbk := KB.step (W := w4) (by assumption) hbs))
        | (go_at_call 20; (with_reducible refine (HNR.out _).mono ?_); rintro e w5 ⟨rfl, hbs⟩; (have hbk := KB.step (W := w4) (by assumption) hbs))
        | (go_at_call 20; ((with_reducible refine (HR1.out _ ?hk).mono ?_); case hk => assumption); rintro e w5 ⟨rfl, hbs⟩; (have hbk := KB.step (W := w4) (by assumption) hbs)))
    all_goals
      go_wp2_with fail
      go_meet
      exact ⟨rfl, by assumption⟩
  case rest =>
    obtain ⟨rfl, hk4⟩ := hcut
    rename World => wq
    have HS5 := Lib.hid (HS4.out.go hk4.out.1)
    have HI2 := Lib.hid (HH2.out.go hk4.out.1)
    have HI3 := Lib.hid (HH3.out.go hk4.out.1)
    have HV := Lib.hid (HU.out.below hk4.out.1 hk4.out.1.size)
    clear hk4 HS4 HH2 HH3 HU HR1 HR2 HNW HNX HNS HNR hne hyy hff c0 c1 c2 c3 c4 q1
    go_wp2_with fail
    go_loopw [14] (fun i wr => ∃ j : Nat, i = .int .i64 (j : Int) ∧ j ≤ r.no ∧ Hid (Below wq.heap.size wq wr)) (fun i _ => r.no - (intOf i).toNat)
    case atStart => exact ⟨0, rfl, Nat.zero_le _, Below.refl _ _⟩
    case round =>
      obtain ⟨j, rfl, hj, hbr⟩ := hrel
      have HS6 := Lib.hid (HS5.out.go hbr.out)
      have HJ2 := Lib.hid (HI2.out.go hbr.out)
      have HJ3 := Lib.hid (HI3.out.go hbr.out)
      have q1 := HS6.out.box.lt
      by_cases hlt : j < r.no
      · obtain ⟨ros, hro, hms⟩ := HBX.out.objs
        have hrn := rd_nlen hro
        have hbw := HS6.out.below
        have hol := HOL.out
        obtain ⟨x, hx⟩ : ∃ x, ros[j]? = some x := ⟨_, List.getElem?_eq_getElem (by omega)⟩
        obtain ⟨p0, hp⟩ : ∃ x, b.objs[j]? = some x := ⟨_, List.getElem?_eq_getElem (by omega)⟩
        have hpn := hms.name _ p0 x hp hx
        obtain ⟨b1, o1, hpo, hb1, hc1⟩ := rd_at' (hro.below hbw (Nat.le_refl _)) hx
        have hnm : (b.objs.map (·.1))[j]? = some x.name := by rw [List.getElem?_map, hp]; simp [hpn]
        obtain ⟨b2, o2, hpu, hb2, hc2⟩ := rd_at' (HV.out.below hbr.out (Nat.le_refl _)) hnm
        have c0 := HS6.out.box.cell 0 rfl
        have c1 := HS6.out.box.cell 1 rfl
        have c2 := HS6.out.box.cell 2 rfl
        have c3 := HS6.out.box.cell 3 rfl
        have c4 := HS6.out.box.cell 4 rfl
        rw [hpo] at c0
        have f0 := hc1 0 _ rfl
        have g0 := hc2 0 _ rfl
        rw [Nat.add_zero] at f0
        rw [Nat.add_zero, Nat.mul_one] at g0
        have hj0 : (0 : Int) ≤ (j : Int) := Int.natCast_nonneg _
        have hj1 : (j : Int) < (r.no : Int) := by omega
        have hno : r.no ≤ 1466015503658 := by have := HOB.out.objs; omega
        have e2 : (x.name.toList == x.name.toList) = true := by rw [str_beq]; simp
        have e1 : (x.name.toList != x.name.toList) = false := by rw [bne, e2]; rfl
        clear hro hms hrn hx hp hpn hnm hc1 hc2 hol hbw hpo
        go_wp2_with fail
        go_quiet (fail)
        go_wp2_with fail
        go_roundw
        case rel => exact ⟨j + 1, by go_num, by omega, bdn hbr.out _⟩
        case measure => simp [intOf]; omega
      · have hj2 : ¬ ((j : Int) < (r.no : Int)) := by omega
        have d0 := HJ2.out.at_.cell 0 rfl
        have d1 := HJ2.out.at_.cell 1 rfl
        have d2 := HJ2.out.at_.cell 2 rfl
        have d3 := HJ2.out.at_.cell 3 rfl
        have d4 := HJ2.out.at_.cell 4 rfl
        have e0 := HJ3.out.at_.cell 0 rfl
        have e1 := HJ3.out.at_.cell 1 rfl
        have e2 := HJ3.out.at_.cell 2 rfl
        have e3 := HJ3.out.at_.cell 3 rfl
        have e4 := HJ3.out.at_.cell 4 rfl
        have HT : Hid ((findJ b.objs id).getD JV.zero).Ok := findJ_ok HOB.out id
        go_wp2_with fail
        refine (few7_any _ q 2000 wr HJ2.out.tree HT.out).mono ?_
        rintro e w7 ⟨y7, rfl, _, hb7⟩
        have HK2 := Lib.hid (HJ2.out.go hb7)
        have HK3 := Lib.hid (HJ3.out.go hb7)
        have HS7 := Lib.hid (HS6.out.go hb7)
        cases y7 with
        | false =>
          go_wp2_with fail
          go_ret
          exact ⟨rfl, HS7.out.below⟩
        | true =>
          clear d0 d1 d2 d3 d4 e0 e1 e2 e3 e4
          have d0 := HK2.out.at_.cell 0 rfl
          have d1 := HK2.out.at_.cell 1 rfl
          have d2 := HK2.out.at_.cell 2 rfl
          have d3 := HK2.out.at_.cell 3 rfl
          have d4 := HK2.out.at_.cell 4 rfl
          have e0 := HK3.out.at_.cell 0 rfl
          have e1 := HK3.out.at_.cell 1 rfl
          have e2 := HK3.out.at_.cell 2 rfl
          have e3 := HK3.out.at_.cell 3 rfl
          have e4 := HK3.out.at_.cell 4 rfl
          go_wp2_with fail
          refine (same5_any _ _ _ q p w7 (Nat.le_refl _) HK2.out.tree HK3.out.tree HT.out HT.out).mono ?_
          rintro e w8 h8
          obtain ⟨rfl, hb8⟩ := h8.yes rfl
          go_wp2_with fail
          go_ret
          exact ⟨rfl, (HS7.out.go hb8).below⟩
end Go.Proofs.Ythgkgjcnmahacaa
