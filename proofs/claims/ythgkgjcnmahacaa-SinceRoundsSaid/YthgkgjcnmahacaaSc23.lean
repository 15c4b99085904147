import Derived.Test.YthgkgjcnmahacaaSc22
import Derived.Test.YthgkgjcnmahacaaSc02
import Derived.Test.YthgkgjcnmahacaaSc09
import Derived.Test.YthgkgjcnmahacaaSc21
import Derived.Test.YthgkgjcnmahacaaSc14
import Derived.Test.YthgkgjcnmahacaaSc15
section
/- tree.Sort: the tree with its members sorted, in memory of its own. -/
set_option linter.unusedSimpArgs false
set_option linter.unusedVariables false
namespace Go.Proofs.Ythgkgjcnmahacaa
open Go.RowKit Go.OpenShut Go.Lib Go.Sort

instance : Inhabited RM := ⟨⟨⟨#[]⟩, RV.zero⟩⟩
/-- Sorting: the first jl values and the first jm members are sorted. -/
structure SortS (w W : World) (g jl jm : Nat) (l0 : List JV) (m0 : List (ByteArray × JV)) (l : List JV) (m : List (ByteArray × JV)) (ds : List RV) (dms : List RM) (r : RV) (F : Nat ⊕ Nat → Nat → Prop) : Prop where
  parts : Parts W (w.heap.size + 1 + 1) g (fun _ => True) l m ds dms r F
  ll : l.length = l0.length
  lm : m.length = m0.length
  dl : ∀ (i : Nat) (t u : JV), i < jl → l0[i]? = some t → l[i]? = some u → SortOf t u
  rl : ∀ i, jl ≤ i → l[i]? = l0[i]?
  nm : ∀ (i : Nat) (p q : ByteArray × JV), m0[i]? = some p → m[i]? = some q → p.1 = q.1
  dm : ∀ (i : Nat) (p q : ByteArray × JV), i < jm → m0[i]? = some p → m[i]? = some q → SortOf p.2 q.2
  rm : ∀ i, jm ≤ i → m[i]? = m0[i]?
  below : Below w.heap.size w W
  out : VAt W (w.heap.size + 1) RV.zero
  hg : w.heap.size + 1 < g

theorem SortS.stepL {w W w1 W2 : World} {g j jm : Nat} {l0 l : List JV} {m0 m : List (ByteArray × JV)} {ds : List RV} {dms : List RM} {r : RV} {F : Nat ⊕ Nat → Nat → Prop} (h : SortS w W g j jm l0 m0 l m ds dms r F) (hb : Below W.drew.heap.size W.drew w1) {t u : JV} {x q : RV} (hq : LoneV w1 (Fresh W.drew w1) u q) (hu : SortOf t u) (ht : l0[j]? = some t) (hx : ds[j]? = some x)
    {g2 : Nat} (hg2 : r.pl = some ⟨g2, 0, none⟩) (ho : Own W2 (w.heap.size + 1 + 1) 25 encV 5 (.slice r.pl r.nl r.cl) (ds.set j q)) (hg : w1.grownBy W2 (some g2)) :
    SortS w W2 g (j + 1) jm l0 m0 (l.set j u) m (ds.set j q) dms r (fun a k => if a = .inl j then Fresh W.drew w1 k else F a k) := by
  have hob : (Value.slice r.pl r.nl r.cl).ownBlock = some g2 := by rw [hg2]; rfl
  have hjd := (List.getElem?_eq_some_iff.1 hx).1
  have hp := Parts.setL h.parts.drew hb hq hob ho hg hjd
  have hg2b := (h.parts.ownL.lt g2 hob).1
  have hsz : W.drew.heap.size = W.heap.size := rfl
  have hbs := hb.size
  have hg2s := (h.parts.ownL.lt g2 hob).2
  have hjl : j < l.length := by rw [h.parts.el]; exact hjd
  refine ⟨hp.less fun _ _ => .inl trivial, by rw [List.length_set]; exact h.ll, h.lm, ?_, ?_, h.nm, h.dm, h.rm, ?_, ?_, h.hg⟩
  · intro i t' u' hi h1 h2
    by_cases hij : i = j
    · subst hij
      rw [List.getElem?_set_self hjl] at h2
      rw [ht] at h1
      cases h1; cases h2
      exact hu
    · rw [get_set_ne _ _ hij] at h2
      exact h.dl i t' u' (by omega) h1 h2
  · intro i hi
    rw [get_set_ne _ _ (by omega)]
    exact h.rl i (by omega)
  · exact (h.below.drew.trans (hb.mono h.below.size)).trans ((Below.refl _ _).grown hg (Nat.le_trans h.below.size hbs) (fun k e => by cases e; omega))
  · have h1 : VAt w1 (w.heap.size + 1) RV.zero := VAt.under (W := W.drew) h.out hb (by have := h.out.lt; omega)
    exact (hg.block (w.heap.size + 1) h1.lt (fun e => by injection e with e; omega)).trans h1

theorem SortS.stepM {w W w1 W2 : World} {g j jl : Nat} {l0 l : List JV} {m0 m : List (ByteArray × JV)} {ds : List RV} {dms : List RM} {r : RV} {F : Nat ⊕ Nat → Nat → Prop} (h : SortS w W g jl j l0 m0 l m ds dms r F) (hb : Below W.drew.heap.size W.drew w1) {p : ByteArray × JV} {u : JV} {x : RM} {q : RV} (hq : LoneV w1 (Fresh W.drew w1) u q) (hu : SortOf p.2 u) (ht : m0[j]? = some p) (hx : dms[j]? = some x)
    {g2 : Nat} (hg2 : r.pm = some ⟨g2, 0, none⟩) (ho : Own W2 (w.heap.size + 1 + 1) 90 encM 6 (.slice r.pm r.nm r.cm) (dms.set j ⟨x.name, q⟩)) (hg : w1.grownBy W2 (some g2)) :
    SortS w W2 g jl (j + 1) l0 m0 l (m.set j (p.1, u)) ds (dms.set j ⟨x.name, q⟩) r (fun a k => if a = .inr j then Fresh W.drew w1 k else F a k) := by
  have hob : (Value.slice r.pm r.nm r.cm).ownBlock = some g2 := by rw [hg2]; rfl
  have hjd := (List.getElem?_eq_some_iff.1 hx).1
  have hmj : m[j]? = some p := (h.rm j (Nat.le_refl _)).trans ht
  have hp := Parts.setM h.parts.drew hb hq hob hmj hx ho hg
  have hg2b := (h.parts.ownM.lt g2 hob).1
  have hsz : W.drew.heap.size = W.heap.size := rfl
  have hbs := hb.size
  have hg2s := (h.parts.ownM.lt g2 hob).2
  have hjl : j < m.length := by rw [h.parts.em]; exact hjd
  refine ⟨hp.less fun _ _ => .inl trivial, h.ll, by rw [List.length_set]; exact h.lm, h.dl, h.rl, ?_, ?_, ?_, ?_, ?_, h.hg⟩
  · intro i p' q' h1 h2
    by_cases hij : i = j
    · subst hij
      rw [List.getElem?_set_self hjl] at h2
      rw [ht] at h1
      cases h1; cases h2
      rfl
    · rw [get_set_ne _ _ hij] at h2
      exact h.nm i p' q' h1 h2
  · intro i p' q' hi h1 h2
    by_cases hij : i = j
    · subst hij
      rw [List.getElem?_set_self hjl] at h2
      rw [ht] at h1
      cases h1; cases h2
      exact hu
    · rw [get_set_ne _ _ hij] at h2
      exact h.dm i p' q' (by omega) h1 h2
  · intro i hi
    rw [get_set_ne _ _ (by omega)]
    exact h.rm i (by omega)
  · exact (h.below.drew.trans (hb.mono h.below.size)).trans ((Below.refl _ _).grown hg (Nat.le_trans h.below.size hbs) (fun k e => by cases e; omega))
  · have h1 : VAt w1 (w.heap.size + 1) RV.zero := VAt.under (W := W.drew) h.out hb (by have := h.out.lt; omega)
    exact (hg.block (w.heap.size + 1) h1.lt (fun e => by injection e with e; omega)).trans h1

theorem Parts.finG {w W : World} {g : Nat} {l : List JV} {m : List (ByteArray × JV)} {ds : List RV} {dms : List RM} {r : RV} {D : Nat ⊕ Nat → Prop} {F : Nat ⊕ Nat → Nat → Prop} (h : Parts W (w.heap.size + 1 + 1) g D l m ds dms r F) (hD : ∀ i, (i < l.length → D (.inl i)) ∧ (i < m.length → D (.inr i))) (hb : Below w.heap.size w W) :
    NewTree w (.mk r.k r.n r.s l m) (.returned r.val) (((((W.setCell ⟨w.heap.size + 1, 0, none⟩ (.int .i64 r.k)).setCell ⟨w.heap.size + 1, 1, none⟩ (.int .i64 r.n)).setCell ⟨w.heap.size + 1, 2, none⟩ (.string r.s)).setCell ⟨w.heap.size + 1, 3, none⟩ (.slice r.pl r.nl r.cl)).setCell ⟨w.heap.size + 1, 4, none⟩ (.slice r.pm r.nm r.cm)) := by
  have hg := grownBy_set5 W (w.heap.size + 1) r
  have h1 := h.whole hD
  refine ⟨r, rfl, (h1.same fun k hk => hg.block k hk.2 (fun e => by have := hk.1; injection e with e; omega)).mono fun k hk => ⟨by omega, Nat.lt_of_lt_of_le hk.2 hg.size⟩, Below.stored hb (by omega) r⟩

/-- The sorted tree is answered, in new memory. -/
def SortRet (w : World) (t : JV) (e : Ending) (w' : World) : Prop := ∃ u, SortOf t u ∧ NewTree w u e w'

/-- The list of members sorted: done. -/
theorem SortS.fin {w W W2 : World} {g : Nat} {l0 l : List JV} {m0 m : List (ByteArray × JV)} {ds : List RV} {dms ys : List RM} {r : RV} {F : Nat ⊕ Nat → Nat → Prop} (h : SortS w W g l0.length m0.length l0 m0 l m ds dms r F) (hs : IsStable cfM dms ys)
    (ho : Own W2 (w.heap.size + 1 + 1) 90 encM 6 (.slice r.pm r.nm r.cm) ys) (hg : W.grownBy W2 (Value.slice r.pm r.nm r.cm).ownBlock) :
    VAt W2 g r ∧ VAt W2 (w.heap.size + 1) RV.zero ∧ SortRet w (.mk r.k r.n r.s l0 m0) (.returned r.val) (((((W2.setCell ⟨w.heap.size + 1, 0, none⟩ (.int .i64 r.k)).setCell ⟨w.heap.size + 1, 1, none⟩ (.int .i64 r.n)).setCell ⟨w.heap.size + 1, 2, none⟩ (.string r.s)).setCell ⟨w.heap.size + 1, 3, none⟩ (.slice r.pl r.nl r.cl)).setCell ⟨w.heap.size + 1, 4, none⟩ (.slice r.pm r.nm r.cm)) := by
  obtain ⟨m', F', h1, hp⟩ := h.parts.sorted (D := fun _ => True) hs ho hg
  have hlt := h.parts.ownM.lt
  have hbw := h.below.size
  have hb2 : Below w.heap.size w W2 := h.below.trans ((Below.refl _ _).grown hg hbw (fun k e => by have := (hlt k e).1; omega))
  refine ⟨hp.box, (hg.block (w.heap.size + 1) h.out.lt (fun e => by have := (hlt _ e.symm).1; omega)).trans h.out, .mk r.k r.n r.s l m', ?_, hp.finG (fun _ => ⟨fun _ => trivial, fun _ => trivial⟩) hb2⟩
  exact .mk h.ll (fun i t u h1 h2 => h.dl i t u (List.getElem?_eq_some_iff.1 h1).1 h1 h2) h.lm h.nm (fun i p q h1 h2 => h.dm i p q (List.getElem?_eq_some_iff.1 h1).1 h1 h2) h1

set_option maxRecDepth 100000 in
set_option maxHeartbeats 4000000 in
theorem sort_any (N : Nat) : ∀ (t : JV) (r : RV) (w : World), SizeOf.sizeOf t ≤ N → TreeOf w w.heap.size t r → t.Ok →
    Calls Try.prog 17 #[r.val] w (SortRet w t) := by
  induction N with
  | zero => intro t r w hN; cases t; simp at hN
  | succ N ih =>
    intro t r w hN ht ot
    obtain ⟨tk, tn, ts, l, m⟩ := t
    have ot' := ot
    have ht' := ht
    have HCP : Hid (∀ W, Below w.heap.size w W → Calls Try.prog 36 #[r.val] W (NewTree W (.mk tk tn ts l m))) := fun W hb => copy_any _ _ r W (Nat.le_refl _) (ht.under hb hb.size) ot
    cases ht' with
    | @mk _ _ _ rs rms hl el hcl hm em hcn hcm =>
    obtain ⟨k, n, s, pl, nl, cl, pm, nm, cm⟩ := r
    cases ot' with
    | mk _ _ _ bl bm okl oks okm =>
    dsimp only [RV.val] at *
    have eL := rd_nlen hl
    have eM := rd_nlen hm
    have HT : Hid (∀ (i : Nat) t, l[i]? = some t → ∀ (q : RV) (W : World), TreeOf W W.heap.size t q → Calls Try.prog 17 #[q.val] W (SortRet W t)) :=
      fun i t h1 q W hq => ih t q W (by have := JV.lt_l (k := k) (n := n) (s := s) (m := m) h1; omega) hq (okl i t h1)
    have HS : Hid (∀ (i : Nat) p, m[i]? = some p → ∀ (q : RV) (W : World), TreeOf W W.heap.size p.2 q → Calls Try.prog 17 #[q.val] W (SortRet W p.2)) :=
      fun i p h1 q W hq => ih p.2 q W (by have := JV.lt_m (k := k) (n := n) (s := s) (l := l) h1; omega) hq (okm i p h1)
    have HB1 : Hid (l.length ≤ 1759218604390 ∧ m.length ≤ 1466015503658) := ⟨bl, bm⟩
    have hA0 : VAt ((w.alloc (.cells #[.int .i64 k, .int .i64 n, .string s, .slice pl nl cl, .slice pm nm cm] 25)).alloc (.cells #[.int .i64 0, .int .i64 0, .string ⟨#[]⟩, .slice none 0 0, .slice none 0 0] 25)) w.heap.size ⟨k, n, s, pl, nl, cl, pm, nm, cm⟩ := heap_alloc_lt (by simp) (heap_alloc_at rfl)
    have hA1 : VAt ((w.alloc (.cells #[.int .i64 k, .int .i64 n, .string s, .slice pl nl cl, .slice pm nm cm] 25)).alloc (.cells #[.int .i64 0, .int .i64 0, .string ⟨#[]⟩, .slice none 0 0, .slice none 0 0] 25)) (w.heap.size + 1) RV.zero := heap_alloc_at (by simp)
    have hB0 := below2 w (.cells #[.int .i64 k, .int .i64 n, .string s, .slice pl nl cl, .slice pm nm cm] 25) (.cells #[.int .i64 0, .int .i64 0, .string ⟨#[]⟩, .slice none 0 0, .slice none 0 0] 25)
    clear ih hcl hcn hcm hl hm okl oks okm el em bl bm eL eM hN ht ot
    go_enter Try.func17, Try.ntmps17
    go_upto_region 1 with fail
    have hws : ((w.alloc (.cells #[.int .i64 k, .int .i64 n, .string s, .slice pl nl cl, .slice pm nm cm] 25)).alloc (.cells #[.int .i64 0, .int .i64 0, .string ⟨#[]⟩, .slice none 0 0, .slice none 0 0] 25)).heap.size = w.heap.size + 1 + 1 := by simp
    obtain ⟨W0, hW0⟩ : ∃ W0, ((w.alloc (.cells #[.int .i64 k, .int .i64 n, .string s, .slice pl nl cl, .slice pm nm cm] 25)).alloc (.cells #[.int .i64 0, .int .i64 0, .string ⟨#[]⟩, .slice none 0 0, .slice none 0 0] 25)) = W0 := ⟨_, rfl⟩
    rw [hW0] at hA0 hA1 hB0 hws ⊢
    clear hW0
    have c0 := hA0.cell 0 rfl
    have c1 := hA0.cell 1 rfl
    have c2 := hA0.cell 2 rfl
    have c3 := hA0.cell 3 rfl
    have c4 := hA0.cell 4 rfl
    dsimp only at c0 c1 c2 c3 c4
    have HWS := Lib.hid hws
    have HA1 := Lib.hid hA1
    have HB0 := Lib.hid hB0
    clear hA0 hA1 hB0 hws
    go_upto_region 2 with (go_at_call 36; refine (HCP.out _ HB0.out).mono ?_; rintro e w1 ⟨q, rfl, hq, hb1⟩)
    obtain ⟨ds, dms, F, hP, e1, e2, e3⟩ := hq.parts (b0 := w.heap.size + 1 + 1) (fun a ha => ⟨by have := ha.1; have := HWS.out; omega, ha.2⟩) (by have := hb1.size; have := HWS.out; omega)
    obtain ⟨k3, n3, s3, pl3, nl3, cl3, pm3, nm3, cm3⟩ := q
    dsimp only [JV.k, JV.n, JV.s, JV.l, JV.m] at e1 e2 e3 hP
    subst e1 e2 e3
    have hSS : SortS w (w1.alloc (.cells #[.int .i64 k, .int .i64 n, .string s, .slice pl3 nl3 cl3, .slice pm3 nm3 cm3] 25)) w1.heap.size 0 0 l m l m ds dms ⟨k, n, s, pl3, nl3, cl3, pm3, nm3, cm3⟩ F :=
      ⟨hP, rfl, rfl, fun i t u h => by omega, fun _ _ => rfl, fun i p q h1 h2 => by rw [h1] at h2; cases h2; rfl, fun i p q h => by omega, fun _ _ => rfl, (HB0.out.trans (hb1.mono HB0.out.size)).alloc (by have := hb1.size; have := HB0.out.size; omega) _,
        heap_alloc_lt (by have := hb1.size; have := HWS.out; omega) (VAt.under HA1.out hb1 HA1.out.lt), by have := hb1.size; have := HWS.out; omega⟩
    dsimp only
    obtain ⟨g, hg⟩ : ∃ g, w1.heap.size = g := ⟨_, rfl⟩
    obtain ⟨W1, hW1⟩ : ∃ W1, w1.alloc (.cells #[.int .i64 k, .int .i64 n, .string s, .slice pl3 nl3 cl3, .slice pm3 nm3 cm3] 25) = W1 := ⟨_, rfl⟩
    rw [hW1, hg] at hSS
    rw [hW1, hg]
    obtain ⟨_, _, e4, _, _⟩ := hSS.parts.ownL.len
    obtain ⟨_, _, e5, _, _⟩ := hSS.parts.ownM.len
    simp only [Value.slice.injEq] at e4 e5
    have E1 : Hid (nl3 = l.length ∧ nm3 = m.length) := ⟨by rw [hSS.parts.el]; exact e4.2.1, by rw [hSS.parts.em]; exact e5.2.1⟩
    have hnl : nl3 ≤ 1759218604390 := by have := HB1.out.1; have := E1.out.1; omega
    have hnm : nm3 ≤ 1466015503658 := by have := HB1.out.2; have := E1.out.2; omega
    have c3 := hSS.parts.box.cell 3 rfl
    dsimp only at c3
    have HSS := Lib.hid hSS
    clear hSS hP hq HCP HA1 HB0 HWS hW1 hg e4 e5 hb1 c0 c1 c2 c4 HB1
    go_wp2_with fail
    go_loopw [11] (fun i wr => ∃ (j : Nat) (l' : List JV) (ds : List RV) (F : Nat ⊕ Nat → Nat → Prop), j ≤ nl3 ∧ i = .int .i64 j ∧ Hid (SortS w wr g j 0 l m l' m ds dms ⟨k, n, s, pl3, nl3, cl3, pm3, nm3, cm3⟩ F)) (fun i _ => nl3 - (intOf i).toNat)
    case atStart => exact ⟨0, l, ds, F, Nat.zero_le _, rfl, HSS⟩
    case round =>
      obtain ⟨j, l', ds, F, hj, rfl, HC⟩ := hrel
      by_cases hlt : j < nl3
      · obtain ⟨tx, htx⟩ : ∃ x, l[j]? = some x := ⟨_, List.getElem?_eq_getElem (by have := E1.out.1; omega)⟩
        obtain ⟨x, hds⟩ : ∃ x, ds[j]? = some x := ⟨_, List.getElem?_eq_getElem (by have h1 := HC.out.parts.el; have h2 := HC.out.ll; have := E1.out.1; omega)⟩
        have hl' : l'[j]? = some tx := (HC.out.rl j (Nat.le_refl _)).trans htx
        obtain ⟨g2, e2, e3, hg1, hg2, hcell, hfr⟩ := Own.at codecV HC.out.parts.ownL hds
        dsimp only at e2
        subst e2
        have c3 := HC.out.parts.box.cell 3 rfl
        dsimp only at c3
        have hgb := HC.out.parts.box.lt
        have f0 := hcell 0 _ rfl
        have f1 := hcell 1 _ rfl
        have f2 := hcell 2 _ rfl
        have f3 := hcell 3 _ rfl
        have f4 := hcell 4 _ rfl
        rw [Nat.add_zero] at f0
        have HR := Lib.hid (HT.out j tx htx x wr.drew (HC.out.parts.drew.cl j tx x trivial hl' hds).tree)
        have hk0 : (0 : Int) ≤ (j : Int) := Int.natCast_nonneg _
        have hk1 : (j : Int) < (nl3 : Int) := by omega
        have HTX := Lib.hid htx
        have HDS := Lib.hid hds
        clear hcell hfr htx hds hl' e3 hg1
        go_wp2_with fail
        go_region_law (first
          | (go_simp; go_at_call 17; refine HR.out.mono ?_; rintro e w2 ⟨u, hu, q, rfl, hq, hb1⟩; (have HP1 := Lib.hid (HC.out.parts.drew.below hb1)); (have c3' := HP1.out.box.cell 3 rfl); dsimp only at c3'; obtain ⟨g3, e4, e5, hg3, hg4, hcell1, hfr1⟩ := Own.at codecV HP1.out.ownL HDS.out; dsimp only at e4; cases e4; (have k0 := hcell1 0 _ rfl); (have k1 := hcell1 1 _ rfl); (have k2 := hcell1 2 _ rfl); (have k3 := hcell1 3 _ rfl); (have k4 := hcell1 4 _ rfl); (have y0 := hfr1 (j * 5)); (have y1 := hfr1 (j * 5 + 1)); (have y2 := hfr1 (j * 5 + 2)); (have y3 := hfr1 (j * 5 + 3)); (have y4 := hfr1 (j * 5 + 4)); rw [Nat.add_zero] at k0; (have HQ := Lib.hid hq); (have HU := Lib.hid hu); clear hcell1 hfr1 e5 hg3 hg4 hq hu))
        all_goals (have HST := Lib.hid (Own.storedL HP1.out.ownL HDS.out q))
        all_goals (have HN := Lib.hid (HC.out.stepL hb1 HQ.out HU.out HTX.out HDS.out rfl HST.out.1 HST.out.2))
        all_goals go_wp2_with fail
        all_goals (
          go_roundw
          case rel => exact ⟨j + 1, _, _, _, by omega, by go_num, HN⟩
          case measure => simp [intOf]; omega)
      · obtain rfl : j = nl3 := by omega
        have c4 := HC.out.parts.box.cell 4 rfl
        dsimp only at c4
        clear HT c3 HSS
        go_wp2_with fail
        go_loopw [28] (fun i wr => ∃ (i2 : Nat) (m' : List (ByteArray × JV)) (dms : List RM) (F : Nat ⊕ Nat → Nat → Prop), i2 ≤ nm3 ∧ i = .int .i64 i2 ∧ Hid (SortS w wr g j i2 l m l' m' ds dms ⟨k, n, s, pl3, j, cl3, pm3, nm3, cm3⟩ F)) (fun i _ => nm3 - (intOf i).toNat)
        case atStart => exact ⟨0, m, dms, F, Nat.zero_le _, rfl, HC⟩
        case round =>
          obtain ⟨i2, m', dms, F, hi2, rfl, HC⟩ := hrel
          by_cases hlt2 : i2 < nm3
          · obtain ⟨tx, htx⟩ : ∃ x, m[i2]? = some x := ⟨_, List.getElem?_eq_getElem (by have := E1.out.2; omega)⟩
            obtain ⟨x, hds⟩ : ∃ x, dms[i2]? = some x := ⟨_, List.getElem?_eq_getElem (by have h1 := HC.out.parts.em; have h2 := HC.out.lm; have := E1.out.2; omega)⟩
            have hl' : m'[i2]? = some tx := (HC.out.rm i2 (Nat.le_refl _)).trans htx
            obtain ⟨g2, e2, e3, hg1, hg2, hcell, hfr⟩ := Own.at codecM HC.out.parts.ownM hds
            dsimp only at e2
            subst e2
            have c4 := HC.out.parts.box.cell 4 rfl
            dsimp only at c4
            have hgb := HC.out.parts.box.lt
            have f0 := hcell 0 _ rfl
            have f1 := hcell 1 _ rfl
            have f2 := hcell 2 _ rfl
            have f3 := hcell 3 _ rfl
            have f4 := hcell 4 _ rfl
            have f5 := hcell 5 _ rfl
            rw [Nat.add_zero] at f0
            have HR := Lib.hid (HS.out i2 tx htx x.v wr.drew (HC.out.parts.drew.cm i2 tx x trivial hl' hds).tree)
            have hk0 : (0 : Int) ≤ (i2 : Int) := Int.natCast_nonneg _
            have hk1 : (i2 : Int) < (nm3 : Int) := by omega
            have HTX := Lib.hid htx
            have HDS := Lib.hid hds
            clear hcell hfr htx hds hl' e3 hg1
            go_wp2_with fail
            go_region_law (first
              | (go_simp; go_at_call 17; refine HR.out.mono ?_; rintro e w2 ⟨u, hu, q, rfl, hq, hb1⟩; (have HP1 := Lib.hid (HC.out.parts.drew.below hb1)); (have c4' := HP1.out.box.cell 4 rfl); dsimp only at c4'; obtain ⟨g3, e4, e5, hg3, hg4, hcell1, hfr1⟩ := Own.at codecM HP1.out.ownM HDS.out; dsimp only at e4; cases e4; (have k0 := hcell1 1 _ rfl); (have k1 := hcell1 2 _ rfl); (have k2 := hcell1 3 _ rfl); (have k3 := hcell1 4 _ rfl); (have k4 := hcell1 5 _ rfl); (have y0 := hfr1 (i2 * 6 + 1)); (have y1 := hfr1 (i2 * 6 + 2)); (have y2 := hfr1 (i2 * 6 + 3)); (have y3 := hfr1 (i2 * 6 + 4)); (have y4 := hfr1 (i2 * 6 + 5)); (have HQ := Lib.hid hq); (have HU := Lib.hid hu); clear hcell1 hfr1 e5 hg3 hg4 hq hu))
            all_goals (have HST := Lib.hid (Own.storedV HP1.out.ownM HDS.out q))
            all_goals (have HN := Lib.hid (HC.out.stepM hb1 HQ.out HU.out HTX.out HDS.out rfl HST.out.1 HST.out.2))
            all_goals go_wp2_with fail
            all_goals (
              go_roundw
              case rel => exact ⟨i2 + 1, _, _, _, by omega, by go_num, HN⟩
              case measure => simp [intOf]; omega)
          · obtain rfl : i2 = nm3 := by omega
            have hcon : Calls Try.prog 53 #[.slice pm3 i2 cm3, .func (.func 54) #[] #[]] wr (SM.SortPost wr (w.heap.size + 1 + 1) encM cfM (.slice pm3 i2 cm3) dms) :=
              SM.top_any encM codecM cfM cmpM 54 #[] wr (w.heap.size + 1 + 1) (.slice pm3 i2 cm3) dms (enters_of Try.func54 (by kernel_rfl) rfl) cmpM_any HC.out.parts.ownM (by have h1 := HC.out.parts.em; have h2 := HC.out.lm; have := E1.out.2; omega)
            have HCON := Lib.hid hcon
            have c4 := HC.out.parts.box.cell 4 rfl
            dsimp only at c4
            clear hcon HS
            go_upto_region 13 with (go_at_call 53; refine HCON.out.mono ?_; rintro e w3 ⟨rfl, ys, hst, ho3, hg3⟩)
            obtain ⟨hbx, hzz, hfi⟩ := SortS.fin (r := ⟨k, n, s, pl3, j, cl3, pm3, i2, cm3⟩) (W2 := w3) (by rw [← E1.out.1, ← E1.out.2]; exact HC.out) hst ho3 hg3
            have HFI := Lib.hid hfi
            have HZZ := Lib.hid (hzz.stored ⟨k, n, s, pl3, j, cl3, pm3, i2, cm3⟩)
            have b0 := hbx.cell 0 rfl
            have b1 := hbx.cell 1 rfl
            have b2 := hbx.cell 2 rfl
            have b3 := hbx.cell 3 rfl
            have b4 := hbx.cell 4 rfl
            have z0 := hzz.cell 0 rfl
            have z1 := hzz.cell 1 rfl
            have z2 := hzz.cell 2 rfl
            have z3 := hzz.cell 3 rfl
            have z4 := hzz.cell 4 rfl
            dsimp only [RV.zero] at b0 b1 b2 b3 b4 z0 z1 z2 z3 z4
            have y0 := hzz.frozen 0
            have y1 := hzz.frozen 1
            have y2 := hzz.frozen 2
            have y3 := hzz.frozen 3
            have y4 := hzz.frozen 4
            clear hfi hbx hzz HC hst ho3 hg3 HCON
            go_wp2_with fail
            have q0 := HZZ.out.cell 0 rfl
            have q1 := HZZ.out.cell 1 rfl
            have q2 := HZZ.out.cell 2 rfl
            have q3 := HZZ.out.cell 3 rfl
            have q4 := HZZ.out.cell 4 rfl
            refine bodyPost_ret (v := RV.val ⟨k, n, s, pl3, j, cl3, pm3, i2, cm3⟩) (by simp [results, Try.results17, go_sem, q0, q1, q2, q3, q4]) rfl HFI.out
end Go.Proofs.Ythgkgjcnmahacaa
end

section
/- tree.Count: how many values a tree has. -/
set_option linter.unusedSimpArgs false
set_option linter.unusedVariables false
namespace Go.Proofs.Ythgkgjcnmahacaa
open Go.RowKit Go.OpenShut

mutual
/-- How many values a tree has. -/
def countT : JV → Nat
  | .mk _ _ _ l m => 1 + countL l + countM m
def countL : List JV → Nat
  | [] => 0
  | t :: l => countT t + countL l
def countM : List (ByteArray × JV) → Nat
  | [] => 0
  | (_, t) :: m => countT t + countM m
end
theorem countL_take {l : List JV} {j : Nat} {t : JV} (h : l[j]? = some t) : countL (l.take (j + 1)) = countL (l.take j) + countT t := by
  induction l generalizing j with
  | nil => simp at h
  | cons a l ih =>
    cases j with
    | zero =>
      simp at h
      subst h
      simp [countL]
    | succ j =>
      rw [List.getElem?_cons_succ] at h
      rw [List.take_succ_cons, List.take_succ_cons]
      unfold countL
      rw [ih h]
      omega
theorem countM_take {m : List (ByteArray × JV)} {j : Nat} {p : ByteArray × JV} (h : m[j]? = some p) : countM (m.take (j + 1)) = countM (m.take j) + countT p.2 := by
  induction m generalizing j with
  | nil => simp at h
  | cons a m ih =>
    obtain ⟨a, b⟩ := a
    cases j with
    | zero =>
      simp at h
      subst h
      simp [countM]
    | succ j =>
      rw [List.getElem?_cons_succ] at h
      rw [List.take_succ_cons, List.take_succ_cons]
      unfold countM
      rw [ih h]
      omega

/-- The count is answered, as an int holds it. -/
def CountRet (w : World) (t : JV) (e : Ending) (w' : World) : Prop := e = .returned (.int .i64 (IntKind.i64.wrap (countT t))) ∧ Below w.heap.size w w'
theorem wrap_step (a b c : Int) (h : a + b = c) : wrap64 (IntKind.i64.wrap a + wrap64 b) = IntKind.i64.wrap c := by
  subst h
  rw [IntKind.wrap_i64, IntKind.wrap_i64]
  unfold wrap64
  omega

set_option maxRecDepth 100000 in
set_option maxHeartbeats 2000000 in
theorem countT_any (N : Nat) : ∀ (t : JV) (r : RV) (w : World), SizeOf.sizeOf t ≤ N → TreeOf w w.heap.size t r → t.Ok →
    Calls Try.prog 16 #[r.val] w (CountRet w t) := by
  induction N with
  | zero => intro t r w hN; cases t; simp at hN
  | succ N ih =>
    intro t r w hN ht ot
    cases ht with
    | @mk _ l m rs rms hl el hcl hm em hcn hcm =>
    obtain ⟨k, n, s, pl, nl, cl, pm, nm, cm⟩ := r
    cases ot with
    | mk _ _ _ bl bm okl oks okm =>
    dsimp only [RV.val] at *
    have eL := rd_nlen hl
    have eM := rd_nlen hm
    have HT : Hid (∀ (i : Nat) t q, l[i]? = some t → rs[i]? = some q → ∀ W, Below w.heap.size w W → Calls Try.prog 16 #[q.val] W (CountRet W t)) :=
      fun i t q h1 h2 W hb => ih t q W (by have := JV.lt_l (k := k) (n := n) (s := s) (m := m) h1; omega) ((hcl i t q h1 h2).under hb hb.size) (okl i t h1)
    have HS : Hid (∀ (i : Nat) p q, m[i]? = some p → rms[i]? = some q → ∀ W, Below w.heap.size w W → Calls Try.prog 16 #[q.v.val] W (CountRet W p.2)) :=
      fun i p q h1 h2 W hb => ih p.2 q.v W (by have := JV.lt_m (k := k) (n := n) (s := s) (l := l) h1; omega) ((hcm i p q h1 h2).under hb hb.size) (okm i p h1)
    have HL := Lib.hid hl
    have HM := Lib.hid hm
    have E1 : Hid (l.length = nl ∧ rs.length = nl) := ⟨by omega, by omega⟩
    have E2 : Hid (m.length = nm ∧ rms.length = nm) := ⟨by omega, by omega⟩
    have hnl : nl ≤ 1759218604390 := by omega
    have hnm : nm ≤ 1466015503658 := by omega
    have hA0 : VAt (w.alloc (.cells #[.int .i64 k, .int .i64 n, .string s, .slice pl nl cl, .slice pm nm cm] 25)) w.heap.size ⟨k, n, s, pl, nl, cl, pm, nm, cm⟩ := heap_alloc_at rfl
    have hB0 : Below w.heap.size w (w.alloc (.cells #[.int .i64 k, .int .i64 n, .string s, .slice pl nl cl, .slice pm nm cm] 25)) := (Below.refl _ _).alloc (Nat.le_refl _) _
    clear ih hcl hcn hcm hl hm okl oks okm el em bl bm eL eM hN
    go_enter Try.func16, Try.ntmps16
    go_upto_region 1 with fail
    obtain ⟨W0, hW0⟩ : ∃ W0, (w.alloc (.cells #[.int .i64 k, .int .i64 n, .string s, .slice pl nl cl, .slice pm nm cm] 25)) = W0 := ⟨_, rfl⟩
    rw [hW0] at hA0 hB0 ⊢
    clear hW0
    have hz := hA0.lt
    have c3 := hA0.cell 3 rfl
    have c4 := hA0.cell 4 rfl
    dsimp only at c3 c4
    clear hA0
    go_wp2_with fail
    go_loopw [3, 11] (fun a i wr => ∃ (g : Int) (j : Nat), j ≤ nl ∧ a = .int .i64 g ∧ i = .int .i64 j ∧ Hid (g = IntKind.i64.wrap ((1 + countL (l.take j) : Nat) : Int)) ∧ Below W0.heap.size W0 wr) (fun _ i _ => nl - (intOf i).toNat)
    case atStart => exact ⟨1, 0, Nat.zero_le _, rfl, rfl, by unfold Hid; simp [countL]; decide, Below.refl _ _⟩
    case round =>
      obtain ⟨g, j, hj, rfl, rfl, hg, hbr⟩ := hrel
      have hbw : Below w.heap.size w wr := hB0.trans (hbr.mono hB0.size)
      by_cases hlt : j < nl
      · obtain ⟨tx, htx⟩ : ∃ x, l[j]? = some x := ⟨_, List.getElem?_eq_getElem (by have := E1.out; omega)⟩
        obtain ⟨x, hx⟩ : ∃ x, rs[j]? = some x := ⟨_, List.getElem?_eq_getElem (by have := E1.out; omega)⟩
        obtain ⟨b1, o1, rfl, hb1, hc1⟩ := rd_at' (HL.out.below hbw (Nat.le_refl _)) hx
        have f0 := hc1 0 _ rfl
        have f1 := hc1 1 _ rfl
        have f2 := hc1 2 _ rfl
        have f3 := hc1 3 _ rfl
        have f4 := hc1 4 _ rfl
        rw [Nat.add_zero] at f0
        have HC := Lib.hid (HT.out j tx x htx hx)
        have HTX := Lib.hid (countL_take htx)
        have hk0 : (0 : Int) ≤ (j : Int) := Int.natCast_nonneg _
        have hk1 : (j : Int) < (nl : Int) := by omega
        have HBR := Lib.hid hbr
        have hbx : Below w.heap.size w (wr.alloc (.cells #[.int .i64 x.k, .int .i64 x.n, .string x.s, .slice x.pl x.nl x.cl, .slice x.pm x.nm x.cm] 25)) := hbw.alloc hbw.size _
        have HBX := Lib.hid hbx
        clear hc1 htx hx hbr hbx
        go_wp2_with (go_at_call 16; refine (HC.out _ HBX.out).mono ?_; rintro e w1 ⟨rfl, hb1'⟩)
        go_roundw
        case rel =>
          refine ⟨_, j + 1, by omega, rfl, by go_num, ?_, (HBR.out.alloc HBR.out.size _).trans (hb1'.mono (by have := HBR.out.size; simp; omega))⟩
          unfold Hid
          rw [HTX.out, hg.out]
          exact wrap_step _ _ _ (by omega)
        case measure => simp [intOf]; omega
      · obtain rfl : j = nl := by omega
        have c4 := bcs hbr hz c4
        have hsz : W0.heap.size ≤ wr.heap.size := hbr.size
        have hg2 : Hid (g = IntKind.i64.wrap ((1 + countL l : Nat) : Int)) := by
          have h := hg.out
          rw [List.take_of_length_le (by have := E1.out; omega)] at h
          exact h
        clear HT HL E1 hbr hg c3
        obtain ⟨wo, rfl⟩ : ∃ wo : World, wo = wr := ⟨_, rfl⟩
        go_wp2_with fail
        go_loopw [3, 23] (fun a i wr => ∃ (g : Int) (j : Nat), j ≤ nm ∧ a = .int .i64 g ∧ i = .int .i64 j ∧ Hid (g = IntKind.i64.wrap ((1 + countL l + countM (m.take j) : Nat) : Int)) ∧ Below wo.heap.size wo wr) (fun _ i _ => nm - (intOf i).toNat)
        case atStart => exact ⟨g, 0, Nat.zero_le _, rfl, rfl, by unfold Hid; simpa [countM] using hg2.out, Below.refl _ _⟩
        case round =>
          obtain ⟨g, j, hj, rfl, rfl, hg, hbr⟩ := hrel
          have hbw2 : Below w.heap.size w wr := hbw.trans (hbr.mono (by omega))
          by_cases hlt : j < nm
          · obtain ⟨tx, htx⟩ : ∃ x, m[j]? = some x := ⟨_, List.getElem?_eq_getElem (by have := E2.out; omega)⟩
            obtain ⟨x, hx⟩ : ∃ x, rms[j]? = some x := ⟨_, List.getElem?_eq_getElem (by have := E2.out; omega)⟩
            obtain ⟨b1, o1, rfl, hb1, hc1⟩ := rd_at' (HM.out.below hbw2 (Nat.le_refl _)) hx
            have f0 := hc1 0 _ rfl
            have f1 := hc1 1 _ rfl
            have f2 := hc1 2 _ rfl
            have f3 := hc1 3 _ rfl
            have f4 := hc1 4 _ rfl
            have f5 := hc1 5 _ rfl
            rw [Nat.add_zero] at f0
            have HC := Lib.hid (HS.out j tx x htx hx)
            have HTX := Lib.hid (countM_take htx)
            have hk0 : (0 : Int) ≤ (j : Int) := Int.natCast_nonneg _
            have hk1 : (j : Int) < (nm : Int) := by omega
            have HBR := Lib.hid hbr
            have hbx : Below w.heap.size w (wr.alloc (.cells #[.string x.name, .int .i64 x.v.k, .int .i64 x.v.n, .string x.v.s, .slice x.v.pl x.v.nl x.v.cl, .slice x.v.pm x.v.nm x.v.cm] 90)) := hbw2.alloc hbw2.size _
            have HBX := Lib.hid hbx
            clear hc1 htx hx hbr hbx
            go_wp2_with (go_at_call 16; refine (HC.out _ HBX.out).mono ?_; rintro e w1 ⟨rfl, hb1'⟩)
            go_roundw
            case rel =>
              refine ⟨_, j + 1, by omega, rfl, by go_num, ?_, (HBR.out.alloc HBR.out.size _).trans (hb1'.mono (by have := HBR.out.size; simp; omega))⟩
              unfold Hid
              rw [HTX.out, hg.out]
              exact wrap_step _ _ _ (by omega)
            case measure => simp [intOf]; omega
          · obtain rfl : j = nm := by omega
            go_wp2_with fail
            go_ret
            refine ⟨?_, hbw2⟩
            have h := hg.out
            rw [List.take_of_length_le (by have := E2.out; omega)] at h
            show Ending.returned (.int .i64 g) = _
            rw [h]
            unfold countT
            rfl
end Go.Proofs.Ythgkgjcnmahacaa
end

section
/- tree.Without, walked. -/
set_option linter.unusedSimpArgs false
set_option linter.unusedVariables false
namespace Go.Proofs.Ythgkgjcnmahacaa
open Go.RowKit Go.OpenShut

theorem MemsOf.uncons {w : World} {B : Nat} {p : ByteArray × JV} {q : RM} {ms : List (ByteArray × JV)} {rms : List RM} (h : MemsOf w B (p :: ms) (q :: rms)) : p.1 = q.name ∧ TreeOf w B p.2 q.v ∧ MemsOf w B ms rms :=
  ⟨h.name 0 p q rfl rfl, h.val 0 p q rfl rfl, ⟨by have := h.len; simpa using this, fun i a b h1 h2 => h.name (i + 1) a b (by simpa using h1) (by simpa using h2), fun i a b h1 h2 => h.val (i + 1) a b (by simpa using h1) (by simpa using h2)⟩⟩
theorem MemsOf.cons {w : World} {B : Nat} {p : ByteArray × JV} {q : RM} {ms : List (ByteArray × JV)} {rms : List RM} (hn : p.1 = q.name) (ht : TreeOf w B p.2 q.v) (h : MemsOf w B ms rms) : MemsOf w B (p :: ms) (q :: rms) := by
  refine ⟨by simp [h.len], fun i a b h1 h2 => ?_, fun i a b h1 h2 => ?_⟩
  · cases i with
    | zero => simp at h1 h2; subst h1 h2; exact hn
    | succ i => exact h.name i a b (by simpa using h1) (by simpa using h2)
  · cases i with
    | zero => simp at h1 h2; subst h1 h2; exact ht
    | succ i => exact h.val i a b (by simpa using h1) (by simpa using h2)
theorem MemsOf.filter {w : World} {B : Nat} {f : ByteArray × JV → Bool} {g : RM → Bool} (hfg : ∀ p q, p.1 = q.name → f p = g q) : ∀ {ms : List (ByteArray × JV)} {rms : List RM}, MemsOf w B ms rms → MemsOf w B (ms.filter f) (rms.filter g)
  | [], [], h => MemsOf.nil _ _
  | [], q :: rms, h => by have := h.len; simp at this
  | p :: ms, [], h => by have := h.len; simp at this
  | p :: ms, q :: rms, h => by
    obtain ⟨h1, h2, h3⟩ := h.uncons
    have ih := MemsOf.filter hfg h3
    rw [List.filter_cons, List.filter_cons, hfg p q h1]
    split
    · exact ih.cons h1 h2
    · exact ih
/-- What a map without a name has. -/
def cutM (ms : List (ByteArray × JV)) (name : ByteArray) : List (ByteArray × JV) := ms.filter (fun p => !decide (p.1 = name))

/-- The last step: the map is laid into its result. -/
theorem MapRet.fin {w W0 W : World} {B g : Nat} {pm : Option Addr} {nm cm : Nat} {rms : List RM} {ms : List (ByteArray × JV)} (hBw : B ≤ w.heap.size) (hg : w.heap.size ≤ g) (hg0 : g < W0.heap.size) (hb0 : w.heap.size ≤ W0.heap.size) (hb : Below w.heap.size w W) (ho : Own W W0.heap.size 90 encM 6 (.slice pm nm cm) rms) (hm : MemsOf W B ms rms) :
    MapRet w B ms (.returned (RV.val ⟨6, 0, ⟨#[]⟩, none, 0, 0, pm, nm, cm⟩)) (((((W.setCell ⟨g, 0, none⟩ (.int .i64 6)).setCell ⟨g, 1, none⟩ (.int .i64 0)).setCell ⟨g, 2, none⟩ (.string ⟨#[]⟩)).setCell ⟨g, 3, none⟩ (.slice none 0 0)).setCell ⟨g, 4, none⟩ (.slice pm nm cm)) := by
  have hlt := ho.lt
  refine ⟨pm, nm, cm, rms, rfl, ?_, hm.under (Below.stored (Below.refl _ _) (by omega) ⟨6, 0, ⟨#[]⟩, none, 0, 0, pm, nm, cm⟩) (Nat.le_refl _), Below.stored hb hg ⟨6, 0, ⟨#[]⟩, none, 0, 0, pm, nm, cm⟩⟩
  refine (ho.mono hb0).kept (grownBy_set5 W g ⟨6, 0, ⟨#[]⟩, none, 0, 0, pm, nm, cm⟩) ?_
  cases hob : (Value.slice pm nm cm).ownBlock with
  | none => exact .inl rfl
  | some j =>
    refine .inr (fun h => ?_)
    have := (hlt j hob).1
    injection h with h
    omega

set_option maxRecDepth 100000 in
set_option maxHeartbeats 2000000 in
theorem without_any (t : JV) (r : RV) (name : ByteArray) (w : World) (B : Nat) (hBw : B ≤ w.heap.size) (ht : TreeOf w B t r) (ot : t.Ok) (hlen : t.mem.length ≤ 1466015503658) :
    Calls Try.prog 38 #[r.val, .string name] w (MapRet w B (cutM t.mem name)) := by
  obtain ⟨k, n, s, pl, nl, cl, pm, nm, cm⟩ := r
  dsimp only [RV.val] at *
  have HT := Lib.hid ht
  have HO := Lib.hid ot
  have HL := Lib.hid hlen
  have hA0 : VAt (((w.alloc (.cells #[.int .i64 k, .int .i64 n, .string s, .slice pl nl cl, .slice pm nm cm] 25)).alloc (.cells #[.string name] 9)).alloc (.cells #[.int .i64 0, .int .i64 0, .string ⟨#[]⟩, .slice none 0 0, .slice none 0 0] 25)) w.heap.size ⟨k, n, s, pl, nl, cl, pm, nm, cm⟩ := heap_alloc_lt (by simp; omega) (heap_alloc_lt (by simp) (heap_alloc_at rfl))
  have hA1 : (((w.alloc (.cells #[.int .i64 k, .int .i64 n, .string s, .slice pl nl cl, .slice pm nm cm] 25)).alloc (.cells #[.string name] 9)).alloc (.cells #[.int .i64 0, .int .i64 0, .string ⟨#[]⟩, .slice none 0 0, .slice none 0 0] 25)).heap[w.heap.size + 1]? = some (.cells #[.string name] 9 (0, 0)) := heap_alloc_lt (by simp) (heap_alloc_at (by simp))
  have hA2 : VAt (((w.alloc (.cells #[.int .i64 k, .int .i64 n, .string s, .slice pl nl cl, .slice pm nm cm] 25)).alloc (.cells #[.string name] 9)).alloc (.cells #[.int .i64 0, .int .i64 0, .string ⟨#[]⟩, .slice none 0 0, .slice none 0 0] 25)) (w.heap.size + 1 + 1) RV.zero := heap_alloc_at (by simp)
  have hB0 := (below2 w (.cells #[.int .i64 k, .int .i64 n, .string s, .slice pl nl cl, .slice pm nm cm] 25) (.cells #[.string name] 9)).alloc (by simp; omega) (.cells #[.int .i64 0, .int .i64 0, .string ⟨#[]⟩, .slice none 0 0, .slice none 0 0] 25)
  clear ht ot hlen
  go_enter Try.func38, Try.ntmps38
  go_upto_region 1 with fail
  obtain ⟨W0, hW0⟩ : ∃ W0, (((w.alloc (.cells #[.int .i64 k, .int .i64 n, .string s, .slice pl nl cl, .slice pm nm cm] 25)).alloc (.cells #[.string name] 9)).alloc (.cells #[.int .i64 0, .int .i64 0, .string ⟨#[]⟩, .slice none 0 0, .slice none 0 0] 25)) = W0 := ⟨_, rfl⟩
  rw [hW0] at hA0 hA1 hA2 hB0 ⊢
  clear hW0
  have p0 := hA0.cell 0 rfl
  have p1 := hA0.cell 1 rfl
  have p2 := hA0.cell 2 rfl
  have p3 := hA0.cell 3 rfl
  have p4 := hA0.cell 4 rfl
  have hzz : w.heap.size + 1 + 1 < W0.heap.size := hA2.lt
  have hnm0 : W0.cell? ⟨w.heap.size + 1, 0, none⟩ = some (.string name) := by rw [cell_of_row W0 _ 0 _ _ _ hA1]; rfl
  have HNM := Lib.hid hnm0
  clear hnm0 hA1
  go_upto_region 2 with (first
    | (go_at_call 77; refine (members_any t ⟨k, n, s, pl, nl, cl, pm, nm, cm⟩ _ B (Nat.le_trans hBw hB0.size) (HT.out.under (hB0.mono hBw) (Nat.le_refl _)) HO.out).mono ?_; rintro e w1 ⟨pp, pn, pc, rms, rfl, ho1, hms1, hb1⟩)
    | (go_at_call 79; refine (deleteFunc_any _ W0.heap.size pp pn pc rms ho1 hb1.size (w.heap.size + 1) name (bcs hb1 (by omega) HNM.out) (by omega) (by have := hms1.len; have := HL.out; omega)).mono ?_; rintro e w2 ⟨m, rfl, ho2, hb2⟩))
  have HB1 : Below w.heap.size w w2 := hB0.trans ((hb1.mono hB0.size).trans (hb2.mono hB0.size))
  have HZ : VAt w2 (w.heap.size + 1 + 1) RV.zero := hA2.under (hb1.trans hb2) (by omega)
  have z0 := HZ.cell 0 rfl
  have z1 := HZ.cell 1 rfl
  have z2 := HZ.cell 2 rfl
  have z3 := HZ.cell 3 rfl
  have z4 := HZ.cell 4 rfl
  dsimp only [RV.zero] at z0 z1 z2 z3 z4
  have y0 := HZ.frozen 0
  have y1 := HZ.frozen 1
  have y2 := HZ.frozen 2
  have y3 := HZ.frozen 3
  have y4 := HZ.frozen 4
  have HM2 := Lib.hid ((hms1.filter (f := fun p => !decide (p.1 = name)) (g := fun x => !nameB name x) (fun p q h => by unfold nameB; rw [h])).under (hb2.mono (Nat.le_trans hBw hB0.size)) (Nat.le_refl _))
  have HO2 := Lib.hid ho2
  clear p0 p1 p2 p3 p4 hA0 hA2 ho1 hms1 hb1 hb2 ho2
  go_wp2_with fail
  exact bodyPost_ret (v := RV.val ⟨6, 0, ⟨#[]⟩, none, 0, 0, pp, m, pc⟩) (by simp [results, Try.results38, go_sem, z0, z1, z2, z3, z4]) rfl (MapRet.fin hBw (by omega) hzz hB0.size HB1 HO2.out HM2.out)
end Go.Proofs.Ythgkgjcnmahacaa
end

section
/- The law's two maps of two members: plain facts. -/
set_option linter.unusedSimpArgs false
set_option linter.unusedVariables false
namespace Go.Proofs.Ythgkgjcnmahacaa
open Go.RowKit Go.OpenShut

def nA : ByteArray := ⟨#[97]⟩
def nB : ByteArray := ⟨#[98]⟩
def nC : ByteArray := ⟨#[99]⟩
def tvM : List (ByteArray × JV) := [(nB, numT 1), (nA, numT 2)]
def twM : List (ByteArray × JV) := [(nA, numT 2), (nB, numT 1)]
def tvT : JV := .mk 6 0 ⟨#[]⟩ [] tvM
def twT : JV := .mk 6 0 ⟨#[]⟩ [] twM
theorem num_ok (n : Int) (h : (Lit.int .i64 n).wf = true) : (numT n).Ok := .mk (by decide) h (by decide) (by decide) (by decide) (fun i x h => by simp at h) (fun i p h => by simp at h) (fun i p h => by simp at h)
theorem tv_ok : tvT.Ok := .mk (by decide) (by decide) (by decide) (by decide) (by simp [tvM]) (fun i x h => by simp at h)
  (fun i p h => by
    match i with
    | 0 => cases h; decide
    | 1 => cases h; decide
    | i + 2 => simp [tvM] at h)
  (fun i p h => by
    match i with
    | 0 => cases h; exact num_ok _ (by decide)
    | 1 => cases h; exact num_ok _ (by decide)
    | i + 2 => simp [tvM] at h)
theorem tw_ok : twT.Ok := .mk (by decide) (by decide) (by decide) (by decide) (by simp [twM]) (fun i x h => by simp at h)
  (fun i p h => by
    match i with
    | 0 => cases h; decide
    | 1 => cases h; decide
    | i + 2 => simp [twM] at h)
  (fun i p h => by
    match i with
    | 0 => cases h; exact num_ok _ (by decide)
    | 1 => cases h; exact num_ok _ (by decide)
    | i + 2 => simp [twM] at h)
theorem tv_a : tvT.get nA = some (numT 2) := rfl
theorem tv_c : tvT.get nC = none := rfl
theorem tv_count : countT tvT = 3 := by simp [tvT, tvM, numT, countT, countL, countM]
theorem tv_with (x : JV) : (putM (tvT.place nC) tvT.mem nC x).length = 3 := rfl
theorem tv_without : (cutM tvT.mem nA).length = 1 := rfl
theorem num_sort {n : Int} {u : JV} (h : SortOf (numT n) u) : u = numT n := by
  unfold numT at h
  cases h with
  | mk el cl em cn cm st =>
    have h1 := List.eq_nil_of_length_eq_zero el
    have h2 := List.eq_nil_of_length_eq_zero em
    subst h1 h2
    have h3 := st.perm.eq_nil
    subst h3
    rfl
theorem tv_sort {u : JV} (h : SortOf tvT u) : u = twT := by
  unfold tvT at h
  cases h with
  | @mk _ _ _ _ l' _ mm m' el cl em cn cm st =>
    have h1 := List.eq_nil_of_length_eq_zero el
    subst h1
    have hmm : mm = tvM := by
      match mm, em with
      | [p, q], _ =>
        have a1 := cn 0 _ p rfl rfl
        have a2 := num_sort (cm 0 _ p rfl rfl)
        have b1 := cn 1 _ q rfl rfl
        have b2 := num_sort (cm 1 _ q rfl rfl)
        obtain ⟨p1, p2⟩ := p
        obtain ⟨q1, q2⟩ := q
        simp only at a1 a2 b1 b2
        subst a1 a2 b1 b2
        rfl
    subst hmm
    have hst : IsStable cfJ tvM twM := ⟨[((nA, numT 2), 1), ((nB, numT 1), 0)], by simpa [tvM] using List.Perm.swap _ _ _, by
      rw [List.pairwise_cons]
      refine ⟨fun a ha => ?_, List.pairwise_singleton _ _⟩
      rw [List.mem_singleton] at ha
      subst ha
      exact by decide, rfl⟩
    rw [st.unique cmpJ hst]
    rfl
theorem tv_same : SameT tvT twT := by
  refine .mk rfl rfl (fun i t u h => by simp at h) (fun i p h => ?_) (fun i j p q h1 h2 h3 => ?_)
  · match i with
    | 0 => cases h; exact by decide
    | 1 => cases h; exact by decide
    | i + 2 => simp [tvM] at h
  · match i with
    | 0 =>
      cases h1
      have : twM.findIdx? (fun q => decide (q.1 = nB)) = some 1 := rfl
      rw [this] at h2
      cases h2; cases h3
      exact .mk rfl rfl (fun i t u h => by simp at h) (fun i p h => by simp at h) (fun i j p q h => by simp at h)
    | 1 =>
      cases h1
      have : twM.findIdx? (fun q => decide (q.1 = nA)) = some 0 := rfl
      rw [this] at h2
      cases h2; cases h3
      exact .mk rfl rfl (fun i t u h => by simp at h) (fun i p h => by simp at h) (fun i j p q h => by simp at h)
    | i + 2 => simp [tvM] at h1
end Go.Proofs.Ythgkgjcnmahacaa
end

section
/- The boxes of the law's example: plain facts. -/
set_option linter.unusedSimpArgs false
set_option linter.unusedVariables false
namespace Go.Proofs.Ythgkgjcnmahacaa
open Go.RowKit Go.OpenShut

def b18_1 : BoxD := ⟨[(nA, numT 1)], [⟨1, nA, 1⟩], 1, 0, 2⟩
def b18_2 : BoxD := ⟨[(nA, numT 1), (nB, numT 2)], [⟨1, nA, 1⟩, ⟨2, nB, 1⟩], 2, 0, 2⟩
def b18_3 : BoxD := ⟨[(nB, numT 2)], [⟨2, nB, 1⟩, ⟨3, nA, 3⟩], 3, 1, 2⟩
theorem num_same (n : Int) : SameT (numT n) (numT n) := .mk rfl rfl (fun i t u h => by simp at h) (fun i p h => by simp at h) (fun i j p q h => by simp at h)
theorem new_02 : newB 0 2 = ⟨[], [], 0, 0, 2⟩ := rfl
theorem put18_1 : putB ⟨[], [], 0, 0, 2⟩ nA (numT 1) = (b18_1, 0) := by
  unfold putB
  rw [if_neg (by decide), if_neg (by decide), if_neg (by decide)]
  rfl
theorem put18_2 : putB b18_1 nB (numT 2) = (b18_2, 0) := by
  unfold putB
  rw [if_neg (by decide), if_neg (by decide), if_neg (by decide)]
  rfl
theorem put18_3 : putB b18_2 nA (numT 1) = (b18_2, 0) := by
  unfold putB
  have h : oldV b18_2.objs nA = numT 1 := rfl
  rw [if_pos (by decide), h, if_pos (num_same 1)]
theorem drop18_4 : dropB b18_2 nA = (b18_3, 0) := by
  unfold dropB
  rw [if_neg (by decide), if_neg (by decide)]
  rfl
theorem drop18_5 : dropB b18_3 nA = (BoxD.zero, 81) := by
  unfold dropB
  rw [if_pos (by decide)]
theorem right18 : RightBx b18_3 := ⟨fun i j p q h h1 h2 => by
    have := (List.getElem?_eq_some_iff.1 h2).1
    simp [b18_3] at this
    omega, by decide, by decide, by decide, by decide, by decide⟩

/-- Its values have no lists. -/
def Plain (os : List (ByteArray × JV)) : Prop := ∀ p ∈ os, ∃ n, p.2 = numT n
theorem bare_tree {w w' : World} {B : Nat} {t : JV} {r : RV} (h : TreeOf w B t r) (hl : t.l = []) (hm : t.m = []) : TreeOf w' 0 t r := by
  cases h with
  | @mk _ l m rs rms ha el cl hb em cn cm =>
  have e1 : l = [] := hl
  have e2 : m = [] := hm
  subst e1 e2
  have h1 := List.eq_nil_of_length_eq_zero el.symm
  have h2 := List.eq_nil_of_length_eq_zero em.symm
  subst h1 h2
  obtain ⟨p1, c1, e1, a1, a2, a3, a4⟩ := ha
  obtain ⟨p2, c2, e2, d1, d2, d3, d4⟩ := hb
  exact TreeOf.mk (r := r) (rs := []) (rms := []) ⟨p1, c1, e1, a1, a2, a3, fun a _ h => by simp at h⟩ rfl (fun i t q h => by simp at h) ⟨p2, c2, e2, d1, d2, d3, fun a _ h => by simp at h⟩ rfl (fun i p q h => by simp at h) (fun i p q h => by simp at h)
theorem plain_tree {w w' : World} {B : Nat} {n : Int} {r : RV} (h : TreeOf w B (numT n) r) : TreeOf w' 0 (numT n) r := bare_tree h rfl rfl
theorem NewBox.plain {W : World} {base B : Nat} {b : BoxD} {r : RB} (h : NewBox W base B b r) (hp : Plain b.objs) : NewBox W base 0 b r := by
  obtain ⟨ros, h1, h2⟩ := h.objs
  refine ⟨⟨ros, h1, h2.len, h2.name, fun i p q a c => ?_⟩, h.trail, h.ok, h.seq, h.floor, h.keep⟩
  obtain ⟨n, hn⟩ := hp p (List.mem_of_getElem? a)
  have := h2.val i p q a c
  rw [hn] at this ⊢
  exact plain_tree this
theorem num_tree (w : World) (n : Int) : TreeOf w 0 (numT n) ⟨3, n, ⟨#[]⟩, none, 0, 0, none, 0, 0⟩ :=
  TreeOf.mk (r := ⟨3, n, ⟨#[]⟩, none, 0, 0, none, 0, 0⟩) (rs := []) (rms := []) (Rd.nil _ _) rfl (fun i t q h => by simp at h) (Rd.nil _ _) rfl (fun i p q h => by simp at h) (fun i p q h => by simp at h)
theorem b18_ok1 : b18_1.Ok := ⟨by decide, fun p h => by simp [b18_1] at h; subst h; exact ⟨by decide, num_ok _ (by decide)⟩, by decide, by decide, by decide, by decide⟩
theorem b18_ok2 : b18_2.Ok := ⟨by decide, fun p h => by simp [b18_2] at h; rcases h with rfl | rfl <;> exact ⟨by decide, num_ok _ (by decide)⟩, by decide, by decide, by decide, by decide⟩
theorem b18_ok3 : b18_3.Ok := ⟨by decide, fun p h => by simp [b18_3] at h; subst h; exact ⟨by decide, num_ok _ (by decide)⟩, by decide, by decide, by decide, by decide⟩
theorem b18_ok0 : (⟨[], [], 0, 0, 2⟩ : BoxD).Ok := ⟨by decide, fun p h => by simp at h, by decide, by decide, by decide, by decide⟩
theorem rise0 : Rising [] := fun i j p q h h1 h2 => by simp at h1
theorem rise1 (p : ByteArray × JV) : Rising [p] := fun i j a b h h1 h2 => by
  have := (List.getElem?_eq_some_iff.1 h2).1
  simp at this
  omega
theorem rise2 : Rising b18_2.objs := fun i j a b h h1 h2 => by
  have := (List.getElem?_eq_some_iff.1 h2).1
  simp [b18_2] at this
  obtain rfl : i = 0 := by omega
  obtain rfl : j = 1 := by omega
  cases h1; cases h2
  decide
theorem plain0 : Plain [] := fun p h => by simp at h
theorem plain1 : Plain b18_1.objs := fun p h => by simp [b18_1] at h; exact ⟨1, by rw [h]⟩
theorem plain2 : Plain b18_2.objs := fun p h => by simp [b18_2] at h; rcases h with rfl | rfl; exact ⟨1, rfl⟩; exact ⟨2, rfl⟩
theorem plain3 : Plain b18_3.objs := fun p h => by simp [b18_3] at h; exact ⟨2, by rw [h]⟩
end Go.Proofs.Ythgkgjcnmahacaa
end
