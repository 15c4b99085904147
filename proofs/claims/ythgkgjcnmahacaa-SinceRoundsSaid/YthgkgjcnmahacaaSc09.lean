import Derived.Test.YthgkgjcnmahacaaSc02
import Derived.Test.YthgkgjcnmahacaaSc08
import Derived.Test.YthgkgjcnmahacaaSc04
section
/- tree.Without, walked: the library's DeleteFunc at members. -/
set_option linter.unusedSimpArgs false
set_option linter.unusedVariables false
namespace Go.Proofs.Ythgkgjcnmahacaa
open Go.RowKit Go.OpenShut

set_option maxRecDepth 100000 in
theorem isName_any (x : RM) (g : Nat) (name : ByteArray) (w : World) (hg : w.cell? ⟨g, 0, none⟩ = some (.string name)) :
    Calls Try.prog 80 #[x.val, .pointer (some ⟨g, 0, none⟩)] w fun e w' => e = .returned (.bool (decide (x.name = name))) ∧ Below w.heap.size w w' := by
  obtain ⟨nm, k, n, s, pl, nl, cl, pm, nm', cm⟩ := x
  dsimp only [RM.val]
  have hlt := (cell_some hg).2
  have hne := World.new_ne w ⟨g, 0, none⟩ hg
  have hB : Below w.heap.size w (w.alloc (.cells #[.string nm, .int .i64 k, .int .i64 n, .string s, .slice pl nl cl, .slice pm nm' cm] 90)) := (Below.refl _ _).alloc (Nat.le_refl _) _
  have hc := bcs hB hlt hg
  have hq := str_beq nm name
  have HQ := Lib.hid hq
  clear hq
  go_enter Try.func80, Try.ntmps80
  go_wp2_with fail
  go_ret
  exact ⟨by rw [← HQ.out]; rfl, hB⟩

/-- The function value that asks for a name. -/
abbrev isNameV (g : Nat) : Value := .func (.func 80) #[] #[.pointer (some ⟨g, 0, none⟩)]
def nameB (name : ByteArray) (x : RM) : Bool := decide (x.name = name)

set_option maxRecDepth 100000 in
set_option maxHeartbeats 1000000 in
theorem indexFunc_any (w : World) (p : Option Addr) (n c : Nat) (rms : List RM) (hv : Rd w w.heap.size encM 6 (.slice p n c) rms) (g : Nat) (name : ByteArray) (hg : w.cell? ⟨g, 0, none⟩ = some (.string name)) (hlen : rms.length ≤ 1466015503658) :
    Calls Try.prog 106 #[.slice p n c, isNameV g] w fun e w' => e = .returned (.int .i64 (placeI (rms.findIdx? (nameB name)))) ∧ Below w.heap.size w w' := by
  have hn := rd_nlen hv
  subst hn
  have HV := Lib.hid hv
  have hgl := (cell_some hg).2
  clear hv
  go_enter Try.func106, Try.ntmps106
  go_wp2_with fail
  go_loopw [8] (fun i wr => ∃ k : Nat, k ≤ rms.length ∧ i = .int .i64 k ∧ Hid (∀ (j : Nat) y, j < k → rms[j]? = some y → nameB name y = false) ∧ Below w.heap.size w wr) (fun i _ => rms.length - (intOf i).toNat)
  case atStart => exact ⟨0, Nat.zero_le _, rfl, fun j y h => by omega, Below.refl _ _⟩
  case round =>
    obtain ⟨k, hk, rfl, hno, hbr⟩ := hrel
    by_cases hlt : k < rms.length
    · obtain ⟨x, hx⟩ : ∃ x, rms[k]? = some x := ⟨_, List.getElem?_eq_getElem hlt⟩
      obtain ⟨b1, o1, rfl, hb1, hc1⟩ := rd_at' (HV.out.below hbr (Nat.le_refl _)) hx
      have f0 := hc1 0 _ rfl
      have f1 := hc1 1 _ rfl
      have f2 := hc1 2 _ rfl
      have f3 := hc1 3 _ rfl
      have f4 := hc1 4 _ rfl
      have f5 := hc1 5 _ rfl
      rw [Nat.add_zero] at f0
      have HX := Lib.hid hx
      have hz := hbr.size
      have HBR := Lib.hid hbr
      have hgr := Lib.hid (bcs hbr hgl hg)
      cases hnb : nameB name x with
      | true =>
        have HF := Lib.hid (find_at HX.out hnb hno.out)
        have HNB : Hid (decide (x.name = name) = true) := hnb
        clear hx hc1 hbr hnb hno hg
        go_wp2_with (go_at_call 80; refine (isName_any x g name _ hgr.out).mono ?_; rintro e w1 ⟨rfl, hb1'⟩; rw [HNB.out])
        go_ret
        exact ⟨ret_int (by rw [HF.out]; rfl), HBR.out.trans (hb1'.mono HBR.out.size)⟩
      | false =>
        have HNB : Hid (decide (x.name = name) = false) := hnb
        have HNX : Hid (∀ (j : Nat) y, j < k + 1 → rms[j]? = some y → nameB name y = false) := by
          intro j y hj hy
          by_cases e : j = k
          · subst e
            rw [hx] at hy
            cases hy
            exact hnb
          · exact hno.out j y (by omega) hy
        clear hx hc1 hbr hnb hno hg
        go_wp2_with (go_at_call 80; refine (isName_any x g name _ hgr.out).mono ?_; rintro e w1 ⟨rfl, hb1'⟩; rw [HNB.out])
        go_roundw
        case rel => exact ⟨k + 1, by omega, by go_num, HNX, HBR.out.trans (hb1'.mono HBR.out.size)⟩
        case measure => simp [intOf]; omega
    · obtain rfl : k = rms.length := by omega
      have HF := Lib.hid (find_not (p := nameB name) (l := rms) (fun j y hy => hno.out j y (List.getElem?_eq_some_iff.1 hy).1 hy))
      go_wp2_with fail
      go_ret
      exact ⟨ret_int (by rw [HF.out]; rfl), hbr⟩

theorem Own.storedM {w : World} {base : Nat} {g n cap : Nat} {xs : List RM} (h : Own w base 90 encM 6 (.slice (some ⟨g, 0, none⟩) n cap) xs) {k : Nat} {x : RM} (hx : xs[k]? = some x) (nm : ByteArray) (q : RV) :
    Own ((((((w.setCell ⟨g, k * 6, none⟩ (.string nm)).setCell ⟨g, k * 6 + 1, none⟩ (.int .i64 q.k)).setCell ⟨g, k * 6 + 2, none⟩ (.int .i64 q.n)).setCell ⟨g, k * 6 + 3, none⟩ (.string q.s)).setCell ⟨g, k * 6 + 4, none⟩ (.slice q.pl q.nl q.cl)).setCell ⟨g, k * 6 + 5, none⟩ (.slice q.pm q.nm q.cm)) base 90 encM 6 (.slice (some ⟨g, 0, none⟩) n cap) (xs.set k ⟨nm, q⟩) ∧
    w.grownBy ((((((w.setCell ⟨g, k * 6, none⟩ (.string nm)).setCell ⟨g, k * 6 + 1, none⟩ (.int .i64 q.k)).setCell ⟨g, k * 6 + 2, none⟩ (.int .i64 q.n)).setCell ⟨g, k * 6 + 3, none⟩ (.string q.s)).setCell ⟨g, k * 6 + 4, none⟩ (.slice q.pl q.nl q.cl)).setCell ⟨g, k * 6 + 5, none⟩ (.slice q.pm q.nm q.cm)) (some g) := by
  have hk := (List.getElem?_eq_some_iff.1 hx).1
  have s1 := Own.storedAt codecM h (j := 0) (y := ⟨nm, x.v⟩) (u := .string nm) hx (by decide) rfl
  have s2 := Own.storedV s1.1 (k := k) (x := ⟨nm, x.v⟩) (by simp [List.getElem?_set, hk]) q
  simp only [List.set_set] at s2
  exact ⟨s2.1, s1.2.trans s2.2⟩
def MAt (W : World) (g : Nat) (x : RM) : Prop := W.heap[g]? = some (.cells #[.string x.name, .int .i64 x.v.k, .int .i64 x.v.n, .string x.v.s, .slice x.v.pl x.v.nl x.v.cl, .slice x.v.pm x.v.nm x.v.cm] 90 (0, 0))
theorem MAt.cell {W : World} {g : Nat} {r : RM} (h : MAt W g r) (j : Nat) {u : Value} (hu : (encM r)[j]? = some u) : W.cell? ⟨g, j, none⟩ = some u := by
  unfold MAt at h
  rw [cell_of_row W g j _ _ _ h, ← Array.getElem?_toList]
  exact hu
theorem MAt.under {W W' : World} {g B : Nat} {r : RM} (h : MAt W g r) (hb : Below B W W') (hg : g < B) : MAt W' g r := (hb.block g hg).trans h
theorem oneM : ∀ i z, Try.prog.info? 90 = some i → i.zero = some z → ∀ u ∈ z.cells.toList, u.oneCell' = true := by
  intro i z hi hz
  have h : (Try.prog.info? 90).map (fun i => (i.zero, i.size, i.bytes)) = some (some (.agg #[.string ByteArray.empty, .int .i64 0, .int .i64 0, .string ByteArray.empty, .slice none 0 0, .slice none 0 0]), 6, 96) := by kernel_rfl
  rw [hi] at h
  simp only [Option.map_some, Option.some.injEq, Prod.mk.injEq] at h
  rw [hz] at h
  simp only [Option.some.injEq] at h
  rw [h.1]
  intro u hu
  simp [Value.cells] at hu
  rcases hu with rfl | rfl | rfl | rfl | rfl | rfl <;> rfl

structure DelRel (rms : List RM) (name : ByteArray) (a b : Nat) (cur : List RM) : Prop where
  lt : a < b
  len : cur.length = rms.length
  head : cur.take a = (rms.take b).filter (fun x => !nameB name x)
  tail : cur.drop b = rms.drop b
theorem DelRel.start {rms : List RM} {name : ByteArray} {i : Nat} (h : rms.findIdx? (nameB name) = some i) : DelRel rms name i (i + 1) rms := by
  rw [List.findIdx?_eq_some_iff_getElem] at h
  obtain ⟨h1, h2, h3⟩ := h
  refine ⟨by omega, rfl, ?_, rfl⟩
  rw [List.take_add_one, List.getElem?_eq_getElem h1, List.filter_append]
  have e1 : (rms.take i).filter (fun x => !nameB name x) = rms.take i := by
    rw [List.filter_eq_self]
    intro x hx
    obtain ⟨j, hj⟩ := List.getElem?_of_mem hx
    rw [List.getElem?_take] at hj
    split at hj
    · have := h3 j (by assumption)
      rw [List.getElem?_eq_getElem (by omega)] at hj
      cases hj
      simpa using this
    · cases hj
  rw [e1]
  simp [h2]
theorem DelRel.at {rms cur : List RM} {name : ByteArray} {a b : Nat} (h : DelRel rms name a b cur) {x : RM} (hx : rms[b]? = some x) : cur[b]? = some x := by
  have h1 : (cur.drop b)[0]? = (rms.drop b)[0]? := by rw [h.tail]
  simpa [List.getElem?_drop, hx] using h1
theorem DelRel.skip {rms cur : List RM} {name : ByteArray} {a b : Nat} (h : DelRel rms name a b cur) {x : RM} (hx : rms[b]? = some x) (hn : nameB name x = true) : DelRel rms name a (b + 1) cur := by
  refine ⟨by have := h.lt; omega, h.len, ?_, ?_⟩
  · rw [List.take_add_one, hx, List.filter_append, ← h.head]
    simp [hn]
  · rw [← List.drop_drop (i := 1) (j := b), ← List.drop_drop (i := 1) (j := b), h.tail]
theorem DelRel.keep {rms cur : List RM} {name : ByteArray} {a b : Nat} (h : DelRel rms name a b cur) {x : RM} (hx : rms[b]? = some x) (hn : nameB name x = false) : DelRel rms name (a + 1) (b + 1) (cur.set a x) := by
  have hl := h.lt
  have hbl := (List.getElem?_eq_some_iff.1 hx).1
  refine ⟨by omega, by rw [List.length_set, h.len], ?_, ?_⟩
  · rw [List.take_add_one, List.take_set_of_le (Nat.le_refl _), List.getElem?_set_self (by have := h.len; omega), List.take_add_one, hx, List.filter_append, ← h.head]
    simp [hn]
  · rw [List.drop_set_of_lt (by omega), ← List.drop_drop (i := 1) (j := b), ← List.drop_drop (i := 1) (j := b), h.tail]
theorem DelRel.done {rms cur : List RM} {name : ByteArray} {a : Nat} (h : DelRel rms name a rms.length cur) : cur.take a = rms.filter (fun x => !nameB name x) := by
  have := h.head
  rwa [List.take_length] at this

set_option maxRecDepth 100000 in
set_option maxHeartbeats 2000000 in
theorem deleteFunc_any (w : World) (base : Nat) (p : Option Addr) (n c : Nat) (rms : List RM) (hv : Own w base 90 encM 6 (.slice p n c) rms) (hb : base ≤ w.heap.size) (g : Nat) (name : ByteArray) (hg : w.cell? ⟨g, 0, none⟩ = some (.string name)) (hgb : g < base) (hlen : rms.length ≤ 1466015503658) :
    Calls Try.prog 79 #[.slice p n c, isNameV g] w fun e w' => ∃ m, e = .returned (.slice p m c) ∧ Own w' base 90 encM 6 (.slice p m c) (rms.filter (fun x => !nameB name x)) ∧ Below base w w' := by
  have hn := rd_nlen (hv.rd codecM)
  subst hn
  have HI := Lib.hid (indexFunc_any w p rms.length c rms (hv.rd codecM) g name hg hlen)
  have HV := Lib.hid hv
  have HG := Lib.hid hg
  clear hv hg
  cases hf : rms.findIdx? (nameB name) with
  | none =>
    have HF := Lib.hid hf
    clear hf
    go_enter Try.func79, Try.ntmps79
    go_wp2_with (go_at_call 106; refine HI.out.mono ?_; rintro e w1 ⟨rfl, hb1⟩; rw [HF.out]; (have hn1 : placeI (none : Option Nat) = -1 := rfl); rw [hn1]; go_frame)
    go_ret
    refine ⟨rms.length, rfl, ?_, hb1.mono hb⟩
    have e1 : rms.filter (fun x => !nameB name x) = rms := by
      rw [List.filter_eq_self]
      intro x hx
      have := List.findIdx?_eq_none_iff.1 HF.out x hx
      simpa using this
    rw [e1]
    exact HV.out.below hb1 (Nat.le_refl _)
  | some i =>
    have HF := Lib.hid hf
    have hst := DelRel.start hf
    have hi := hst.lt
    have hil : i < rms.length := by rw [List.findIdx?_eq_some_iff_getElem] at hf; exact hf.1
    have HST := Lib.hid hst
    have hne : ((i : Int) == -1) = false := by rw [beq_eq_false_iff_ne]; omega
    clear hf hst
    go_enter Try.func79, Try.ntmps79
    go_wp2_with (go_at_call 106; refine HI.out.mono ?_; rintro e w1 ⟨rfl, hb1⟩; rw [HF.out]; (have hn1 : placeI (some i) = (i : Int) := rfl); rw [hn1]; clear hn1; go_frame)
    have hz1 : w.heap.size ≤ w1.heap.size := hb1.size
    have HB1 : Hid (Below base w w1) := hb1.mono hb
    have hO1 : Hid (Own w1 base 90 encM 6 (.slice p rms.length c) rms) := HV.out.below hb1 (Nat.le_refl _)
    clear hb1
    go_loopw [5, 6] (fun x y wr => ∃ (a b : Nat) (cur : List RM), x = .int .i64 a ∧ y = .int .i64 b ∧ b ≤ rms.length ∧ Hid (DelRel rms name a b cur) ∧ Hid (Own wr base 90 encM 6 (.slice p rms.length c) cur) ∧ Below base w wr) (fun _ y _ => rms.length - (intOf y).toNat)
    case atStart => exact ⟨i, i + 1, rms, rfl, by go_num, by omega, HST, hO1, HB1.out⟩
    case round =>
      obtain ⟨a, b, cur, rfl, rfl, hbn, HD, HO, hbr⟩ := hrel
      have hab : a < b := HD.out.lt
      have hzr := hbr.size
      by_cases hlt : b < rms.length
      · obtain ⟨x, hx⟩ : ∃ x, rms[b]? = some x := ⟨_, List.getElem?_eq_getElem hlt⟩
        have hcx := HD.out.at hx
        obtain ⟨xa, hxa⟩ : ∃ xa, cur[a]? = some xa := ⟨_, List.getElem?_eq_getElem (by rw [HD.out.len]; omega)⟩
        obtain ⟨gg, hpg, hnn, hga, hgb', hcell, hfr⟩ := Own.at codecM HO.out hcx
        subst hpg
        have f0 := hcell 0 _ rfl
        have f1 := hcell 1 _ rfl
        have f2 := hcell 2 _ rfl
        have f3 := hcell 3 _ rfl
        have f4 := hcell 4 _ rfl
        have f5 := hcell 5 _ rfl
        rw [Nat.add_zero] at f0
        have hgr := bcs hbr hgb HG.out
        have HX := Lib.hid hx
        have HXA := Lib.hid hxa
        have HBR := Lib.hid hbr
        have hb0 : (0 : Int) ≤ (b : Int) := Int.natCast_nonneg _
        have hb1 : (b : Int) < (rms.length : Int) := by omega
        have ha0 : (0 : Int) ≤ (a : Int) := Int.natCast_nonneg _
        have ha1 : (a : Int) < (rms.length : Int) := by omega
        have hM0 : MAt (wr.alloc (.cells #[.string x.name, .int .i64 x.v.k, .int .i64 x.v.n, .string x.v.s, .slice x.v.pl x.v.nl x.v.cl, .slice x.v.pm x.v.nm x.v.cm] 90)) wr.heap.size x := heap_alloc_at rfl
        have HM0 := Lib.hid hM0
        have hA := HBR.out.alloc (Nat.le_trans hb hzr) (.cells #[.string x.name, .int .i64 x.v.k, .int .i64 x.v.n, .string x.v.s, .slice x.v.pl x.v.nl x.v.cl, .slice x.v.pm x.v.nm x.v.cm] 90)
        have HA := Lib.hid hA
        have hgr2 := bcs hA hgb HG.out
        have HGR := Lib.hid hgr2
        clear hx hxa hcx hcell hfr hnn hbr hgr hgr2 hA hM0
        cases hnb : nameB name x with
        | true =>
          have HNB : Hid (decide (x.name = name) = true) := hnb
          have HN := Lib.hid (HD.out.skip HX.out hnb)
          clear hnb
          go_wp2_with (go_at_call 80; refine (isName_any x g name _ HGR.out).mono ?_; rintro e w2 ⟨rfl, hb2⟩; rw [HNB.out])
          go_roundw
          case rel => exact ⟨a, b + 1, cur, rfl, by go_num, by omega, HN, (HO.out.alloc _).below hb2 (Nat.le_refl _), HA.out.trans (hb2.mono (Nat.le_trans hb HA.out.size))⟩
          case measure => simp [intOf]; omega
        | false =>
          have HNB : Hid (decide (x.name = name) = false) := hnb
          have HN := Lib.hid (HD.out.keep HX.out hnb)
          clear hnb
          go_upto_region 9 with (go_at_call 80; refine (isName_any x g name _ HGR.out).mono ?_; rintro e w2 ⟨rfl, hb2⟩; rw [HNB.out])
          have hM2 := HM0.out.under hb2 (by simp)
          have v0 := hM2.cell 0 rfl
          have v1 := hM2.cell 1 rfl
          have v2 := hM2.cell 2 rfl
          have v3 := hM2.cell 3 rfl
          have v4 := hM2.cell 4 rfl
          have v5 := hM2.cell 5 rfl
          have hO2 := (HO.out.alloc (.cells #[.string x.name, .int .i64 x.v.k, .int .i64 x.v.n, .string x.v.s, .slice x.v.pl x.v.nl x.v.cl, .slice x.v.pm x.v.nm x.v.cm] 90)).below hb2 (Nat.le_refl _)
          obtain ⟨g2, hpg2, hnn2, hga2, hgb2, hcell2, hfr2⟩ := Own.at codecM hO2 HXA.out
          simp only [Option.some.injEq, Addr.mk.injEq, and_true] at hpg2
          subst hpg2
          have t0 := hcell2 0 _ rfl
          have t1 := hcell2 1 _ rfl
          have t2 := hcell2 2 _ rfl
          have t3 := hcell2 3 _ rfl
          have t4 := hcell2 4 _ rfl
          have t5 := hcell2 5 _ rfl
          rw [Nat.add_zero] at t0
          have s0 := hfr2 (a * 6)
          have s1 := hfr2 (a * 6 + 1)
          have s2 := hfr2 (a * 6 + 2)
          have s3 := hfr2 (a * 6 + 3)
          have s4 := hfr2 (a * 6 + 4)
          have s5 := hfr2 (a * 6 + 5)
          have HST2 := Lib.hid (Own.storedM hO2 HXA.out x.name x.v)
          have HB2 : Hid (Below base w w2) := HA.out.trans (hb2.mono (Nat.le_trans hb HA.out.size))
          have hz2 : w.heap.size ≤ w2.heap.size := HB2.out.size
          clear hcell2 hfr2 hnn2 hb2 hM2 hO2 f0 f1 f2 f3 f4 f5
          go_wp2_with fail
          go_roundw
          case rel => exact ⟨a + 1, b + 1, _, by go_num, by go_num, by omega, HN, HST2.out.1, HB2.out.grown HST2.out.2 (by omega) (fun j e => by cases e; exact hga)⟩
          case measure => simp [intOf]; omega
      · obtain rfl : b = rms.length := by omega
        have hal : a ≤ rms.length := by omega
        have hsl := fun W => run_slice_low (P := Try.prog) slM p rms.length c a hal W
        have hcap : rms.length ≤ c := by
          obtain ⟨_, _, e, h1, _⟩ := HO.out.rd codecM
          simp only [Value.slice.injEq] at e
          have := HD.out.len
          omega
        have hsh := fun W => run_slice_high (P := Try.prog) slM p rms.length c a (by omega) W
        have HBR := Lib.hid hbr
        have HDD := Lib.hid HD.out.done
        clear hbr HD
        obtain ⟨w2, hrun, ho2, hg2⟩ := run_clear_own (P := Try.prog) slM oneM codecM wr 0 HO.out hal (v := .slice (p.map (fun x => x.add (a * 6))) (rms.length - a) (c - a)) (by unfold sliced; rw [if_neg (by omega)])
        have HO2 := Lib.hid ho2
        have HG2 := Lib.hid hg2
        clear ho2 hg2
        go_wp2_with fail
        go_ret
        exact ⟨a, rfl, by rw [← HDD.out]; exact HO2.out, HBR.out.grown HG2.out (by omega) (fun j e => (HO.out.lt j e).1)⟩
end Go.Proofs.Ythgkgjcnmahacaa
end

section
/- Where an object of an id stands, walked: the library's BinarySearchFunc at objects. -/
set_option linter.unusedSimpArgs false
set_option linter.unusedVariables false
namespace Go.Proofs.Ythgkgjcnmahacaa
open Go.RowKit Go.OpenShut

/-- How many objects of lesser ids there are; whether the next one is of this id. -/
def lowN (os : List (ByteArray × JV)) (id : ByteArray) : Nat := (os.takeWhile (fun p => decide (cmpN p.1 id < 0))).length
def isAt (os : List (ByteArray × JV)) (id : ByteArray) : Bool := match os[lowN os id]? with
  | some p => decide (p.1 = id)
  | none => false
/-- Objects rise by their ids. -/
def Rising (os : List (ByteArray × JV)) : Prop := ∀ (i j : Nat) p q, i < j → os[i]? = some p → os[j]? = some q → cmpN p.1 q.1 < 0
theorem lowN_of : ∀ {os : List (ByteArray × JV)} {id : ByteArray} {a : Nat}, a ≤ os.length → (∀ k x, k < a → os[k]? = some x → cmpN x.1 id < 0) → (∀ k x, a ≤ k → os[k]? = some x → ¬ cmpN x.1 id < 0) → lowN os id = a
  | [], id, a, h, _, _ => by simp [lowN]; simp at h; omega
  | p :: os, id, 0, h, h1, h2 => by
    have := h2 0 p (Nat.le_refl _) rfl
    simp [lowN, List.takeWhile_cons, this]
  | p :: os, id, a + 1, h, h1, h2 => by
    have h0 := h1 0 p (by omega) rfl
    have ih := lowN_of (os := os) (id := id) (a := a) (by simpa using h) (fun k x hk hx => h1 (k + 1) x (by omega) (by simpa using hx)) (fun k x hk hx => h2 (k + 1) x (by omega) (by simpa using hx))
    unfold lowN at ih ⊢
    rw [List.takeWhile_cons, if_pos (by simpa using h0)]
    simp [ih]
theorem cmpN_lt_trans {a b c : ByteArray} (h1 : cmpN a b < 0) (h2 : ¬ cmpN c b < 0) : cmpN a c < 0 := by
  by_cases h : cmpN a c < 0
  · exact h
  · exact absurd h1 (cmpB_ntrans _ _ _ h h2)
theorem Rising.low {os : List (ByteArray × JV)} (hr : Rising os) {id : ByteArray} {h : Nat} {x : ByteArray × JV} (hx : os[h]? = some x) (hc : cmpN x.1 id < 0) : ∀ k y, k < h + 1 → os[k]? = some y → cmpN y.1 id < 0 := by
  intro k y hk hy
  by_cases e : k = h
  · subst e
    rw [hx] at hy
    cases hy
    exact hc
  · have := hr k h y x (by omega) hy hx
    by_cases g : cmpN y.1 id < 0
    · exact g
    · have h3 := cmpN_neg y.1 x.1
      have : ¬ cmpN y.1 x.1 < 0 := cmpB_ntrans _ _ _ g (by have h4 := cmpN_neg x.1 id; show ¬ cmpN id x.1 < 0; omega)
      omega
theorem Rising.high {os : List (ByteArray × JV)} (hr : Rising os) {id : ByteArray} {h : Nat} {x : ByteArray × JV} (hx : os[h]? = some x) (hc : ¬ cmpN x.1 id < 0) : ∀ k y, h ≤ k → os[k]? = some y → ¬ cmpN y.1 id < 0 := by
  intro k y hk hy
  by_cases e : k = h
  · subst e
    rw [hx] at hy
    cases hy
    exact hc
  · have h1 := hr h k x y (by omega) hx hy
    have h2 := cmpN_neg x.1 y.1
    exact cmpB_ntrans _ _ _ (by show ¬ cmpN y.1 x.1 < 0; omega) hc

def Lows (os : List (ByteArray × JV)) (id : ByteArray) (a : Nat) : Prop := ∀ k x, k < a → os[k]? = some x → cmpN x.1 id < 0
def Highs (os : List (ByteArray × JV)) (id : ByteArray) (b : Nat) : Prop := ∀ k x, b ≤ k → os[k]? = some x → ¬ cmpN x.1 id < 0
abbrev placeF : Value := .func (.func 96) #[] #[]
set_option maxRecDepth 100000 in
theorem place1_any (x : RM) (id : ByteArray) (w : World) :
    Calls Try.prog 96 #[x.val, .string id] w fun e w' => e = .returned (.int .i64 (cmpN x.name id)) ∧ Below w.heap.size w w' := by
  obtain ⟨nm, k, n, s, pl, nl, cl, pm, nm', cm⟩ := x
  dsimp only [RM.val]
  have hB : Below w.heap.size w (w.alloc (.cells #[.string nm, .int .i64 k, .int .i64 n, .string s, .slice pl nl cl, .slice pm nm' cm] 46)) := (Below.refl _ _).alloc (Nat.le_refl _) _
  go_enter Try.func96, Try.ntmps96
  go_wp2_with (go_at_call 55; refine (compare_any _ _ _).mono ?_; rintro e w' ⟨rfl, rfl⟩)
  go_ret
  exact ⟨rfl, hB⟩

set_option maxRecDepth 100000 in
set_option maxHeartbeats 2000000 in
theorem binarySearch_any (w : World) (p : Option Addr) (n c : Nat) (os : List (ByteArray × JV)) (id : ByteArray) (hv : ObjsOf w w.heap.size os (.slice p n c)) (hr : Rising os) (hlen : os.length ≤ 1466015503658) :
    Calls Try.prog 95 #[.slice p n c, .string id, placeF] w fun e w' => e = .returned (.tuple #[.int .i64 (lowN os id : Nat), .bool (isAt os id)]) ∧ Below w.heap.size w w' := by
  obtain ⟨rms, hv, hms⟩ := hv
  have hn := rd_nlen hv
  have hlm := hms.len
  have HV := Lib.hid hv
  have HR := Lib.hid hr
  have HN : Hid (os.length = n ∧ rms.length = n) := ⟨by omega, by omega⟩
  have HM := Lib.hid hms.name
  have hn1 : n ≤ 1466015503658 := by omega
  clear hv hr hn hlm hms hlen
  go_enter Try.func95, Try.ntmps95
  go_wp2_with fail
  go_loopw [9, 10] (fun i j wr => ∃ a b : Nat, a ≤ b ∧ b ≤ n ∧ i = .int .i64 a ∧ j = .int .i64 b ∧ Lows os id a ∧ Highs os id b ∧ Below w.heap.size w wr) (fun i j _ => (intOf j).toNat - (intOf i).toNat)
  case atStart => exact ⟨0, n, Nat.zero_le _, Nat.le_refl _, rfl, rfl, fun k x h => by omega, fun k x h1 h2 => by have := (List.getElem?_eq_some_iff.1 h2).1; have := HN.out; omega, Below.refl _ _⟩
  case round =>
    obtain ⟨a, b, hab, hbn, rfl, rfl, hlo, hhi, hbr⟩ := hrel
    by_cases hlt : a < b
    · obtain ⟨h, hh⟩ : ∃ h, (a + b) / 2 = h := ⟨_, rfl⟩
      have h1 : a ≤ h ∧ h < b := by omega
      have eh : ((a : Int) + (b : Int)) / 2 = (h : Int) := by omega
      have h0 : (0 : Int) ≤ (h : Int) := Int.natCast_nonneg _
      have h2 : (h : Int) < (n : Int) := by omega
      obtain ⟨y, hy⟩ : ∃ x, os[h]? = some x := ⟨_, List.getElem?_eq_getElem (by have := HN.out; omega)⟩
      obtain ⟨x, hx⟩ : ∃ x, rms[h]? = some x := ⟨_, List.getElem?_eq_getElem (by have := HN.out; omega)⟩
      have hyn := HM.out h y x hy hx
      obtain ⟨b1, o1, rfl, hb1, hc1⟩ := rd_at' (HV.out.below hbr (Nat.le_refl _)) hx
      have f0 := hc1 0 _ rfl
      have f1 := hc1 1 _ rfl
      have f2 := hc1 2 _ rfl
      have f3 := hc1 3 _ rfl
      have f4 := hc1 4 _ rfl
      have f5 := hc1 5 _ rfl
      rw [Nat.add_zero] at f0
      have HBR := Lib.hid hbr
      clear hx hc1 hbr hh
      by_cases hc : cmpN y.1 id < 0
      · have HL : Lows os id (h + 1) := HR.out.low hy hc
        have HC : Hid (cmpN x.name id < 0) := by rw [← hyn]; exact hc
        clear hy hc hyn hlo
        go_wp2_with (go_at_call 96; refine (place1_any x id _).mono ?_; rintro e w1 ⟨rfl, hb1'⟩; have hcc := HC.out)
        go_roundw
        case rel => exact ⟨h + 1, b, by omega, hbn, by go_num, rfl, HL, hhi, HBR.out.trans (hb1'.mono HBR.out.size)⟩
        case measure => simp [intOf]; omega
      · have HL : Highs os id h := HR.out.high hy hc
        have HC : Hid (¬ cmpN x.name id < 0) := by rw [← hyn]; exact hc
        clear hy hc hyn hhi
        go_wp2_with (go_at_call 96; refine (place1_any x id _).mono ?_; rintro e w1 ⟨rfl, hb1'⟩; have hcc := HC.out)
        go_roundw
        case rel => exact ⟨a, h, by omega, by omega, rfl, rfl, hlo, HL, HBR.out.trans (hb1'.mono HBR.out.size)⟩
        case measure => simp [intOf]; omega
    · obtain rfl : a = b := by omega
      have hd0 : decide ((a : Int) < (a : Int)) = false := by simp
      have hd1 : ¬ ((a : Int) < (a : Int)) := by omega
      clear hlt hab
      have HLOW := Lib.hid (lowN_of (by have := HN.out; omega) hlo hhi)
      clear hlo hhi
      by_cases hlt2 : a < n
      · obtain ⟨y, hy⟩ : ∃ x, os[a]? = some x := ⟨_, List.getElem?_eq_getElem (by have := HN.out; omega)⟩
        obtain ⟨x, hx⟩ : ∃ x, rms[a]? = some x := ⟨_, List.getElem?_eq_getElem (by have := HN.out; omega)⟩
        have hyn := HM.out a y x hy hx
        obtain ⟨b1, o1, rfl, hb1, hc1⟩ := rd_at' (HV.out.below hbr (Nat.le_refl _)) hx
        have f0 := hc1 0 _ rfl
        have f1 := hc1 1 _ rfl
        have f2 := hc1 2 _ rfl
        have f3 := hc1 3 _ rfl
        have f4 := hc1 4 _ rfl
        have f5 := hc1 5 _ rfl
        rw [Nat.add_zero] at f0
        have HIS : Hid (isAt os id = decide (x.name = id)) := by unfold Hid isAt; rw [HLOW.out, hy]; show decide (y.1 = id) = _; rw [hyn]
        have HBR := Lib.hid hbr
        have ha0 : (0 : Int) ≤ (a : Int) := Int.natCast_nonneg _
        have ha1 : (a : Int) < (n : Int) := by omega
        have hd : decide ((a : Int) < (n : Int)) = true := by simpa using ha1
        have HEQ : Hid ((cmpN x.name id == 0) = decide (x.name = id)) := by
          unfold Hid
          rw [Bool.eq_iff_iff]
          simp only [beq_iff_eq, decide_eq_true_eq]
          exact ⟨cmpN_eq, fun h => by rw [h]; exact cmpN_self _⟩
        clear hx hc1 hbr hy hyn
        go_wp2_with (go_at_call 96; refine (place1_any x id _).mono ?_; rintro e w1 ⟨rfl, hb1'⟩)
        go_ret2
        refine ⟨?_, HBR.out.trans (hb1'.mono HBR.out.size)⟩
        rw [HIS.out, ← HEQ.out, HLOW.out]
        rfl
      · obtain rfl : a = n := by omega
        have HIS : Hid (isAt os id = false) := by unfold Hid isAt; rw [HLOW.out, List.getElem?_eq_none (by have := HN.out; omega)]
        go_wp2_with fail
        go_ret2
        refine ⟨?_, hbr⟩
        rw [HIS.out, HLOW.out]
        rfl

set_option maxRecDepth 100000 in
set_option maxHeartbeats 2000000 in
theorem placeO_any (b : BoxD) (r : RB) (id : ByteArray) (w : World) (hb : BoxOf w w.heap.size b r) (hr : Rising b.objs) (ob : b.Ok) :
    Calls Try.prog 59 #[r.val, .string id] w fun e w' => e = .returned (.tuple #[.int .i64 (lowN b.objs id : Nat), .bool (isAt b.objs id)]) ∧ Below w.heap.size w w' := by
  have ho := hb.objs
  obtain ⟨po, no, co, pt, nt, ct, sq, fl, kp⟩ := r
  dsimp only [RB.val] at *
  have hB : Below w.heap.size w (w.alloc (.cells #[.slice po no co, .slice pt nt ct, .int .i64 sq, .int .i64 fl, .int .i64 kp] 35)) := (Below.refl _ _).alloc (Nat.le_refl _) _
  have HC := Lib.hid (binarySearch_any _ po no co b.objs id (ho.under hB hB.size) hr ob.objs)
  have HB := Lib.hid hB
  clear hb hr ob ho hB
  go_enter Try.func59, Try.ntmps59
  go_wp2_with (go_at_call 95; refine HC.out.mono ?_; rintro e w1 ⟨rfl, hb1⟩)
  go_ret2
  exact ⟨rfl, HB.out.trans (hb1.mono HB.out.size)⟩
end Go.Proofs.Ythgkgjcnmahacaa
end
