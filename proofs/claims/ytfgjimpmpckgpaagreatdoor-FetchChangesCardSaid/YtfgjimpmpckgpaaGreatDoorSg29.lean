import Derived.Test.YtfgjimpmpckgpaaGreatDoorSg25
import Derived.Test.YtfgjimpmpckgpaaGreatDoorSg23
import Derived.Test.YtfgjimpmpckgpaaGreatDoorSg21
set_option linter.unusedSimpArgs false
set_option linter.unusedVariables false
set_option maxRecDepth 200000
set_option maxHeartbeats 8000000
namespace Go.Proofs.YtfgjimpmpckgpaaGreatDoor
section
open Go.RowKit Go.OpenShut
structure RefS (w W : World) (gz gc : Nat) (pv : Value) (ys : List Pa) (r : RC) (la lb lc : List ByteArray) : Prop where
 zero : ChAt W gz RC.zero
 ch : ChAt W gc r
 lt : gz < gc
 ge : w.heap.size <= gz
 op : Own W (gc + 1) 147 encP 4 pv ys
 oa : Own W (gc + 1) 9 encS 1 (.slice r.pa r.na r.ca) la
 ob : Own W (gc + 1) 9 encS 1 (.slice r.pb r.nb r.cb) lb
 oc : Own W (gc + 1) 9 encS 1 (.slice r.pc r.nc r.cc) lc
 below : Below w.heap.size w W
section
variable {w W W' : World} {gz gc : Nat} {pv : Value} {ys : List Pa} {r : RC} {la lb lc : List ByteArray} (h : RefS w W gz gc pv ys r la lb lc)
include h
theorem RefS.go (hb : Below W.heap.size W W') : RefS w W' gz gc pv ys r la lb lc :=
 ⟨h.zero.under hb h.zero.lt, h.ch.under hb h.ch.lt, h.lt, h.ge, h.op.below hb (Nat.le_refl _), h.oa.below hb (Nat.le_refl _), h.ob.below hb (Nat.le_refl _), h.oc.below hb (Nat.le_refl _), h.below.trans (hb.mono h.below.size)⟩
theorem RefS.set34 (t : Int) (m : Bool) : RefS w ((W.setCell ⟨gc, 4, none⟩ (.bool m)).setCell ⟨gc, 3, none⟩ (.int .i64 t)) gz gc pv ys { r with toN := t, more := m } la lb lc := by
 have hg : W.grownBy ((W.setCell ⟨gc, 4, none⟩ (.bool m)).setCell ⟨gc, 3, none⟩ (.int .i64 t)) (some gc) := (grownBy_set W gc 4 _).trans (grownBy_set _ gc 3 _)
 have hbl : ∀ k, gc + 1 <= k -> k < W.heap.size -> ((W.setCell ⟨gc, 4, none⟩ (.bool m)).setCell ⟨gc, 3, none⟩ (.int .i64 t)).heap[k]? = W.heap[k]? := fun k h1 h2 => hg.block k h2 (fun e => by simp at e; omega)
 have hlt := h.lt
 refine ⟨(hg.block gz (by have := h.zero.lt; omega) (fun e => by simp at e; omega)).trans h.zero, ?_, h.lt, h.ge, h.op.same (fun k e => hbl k (h.op.lt k e).1 (h.op.lt k e).2), h.oa.same (fun k e => hbl k (h.oa.lt k e).1 (h.oa.lt k e).2), h.ob.same (fun k e => hbl k (h.ob.lt k e).1 (h.ob.lt k e).2), h.oc.same (fun k e => hbl k (h.oc.lt k e).1 (h.oc.lt k e).2), h.below.grown hg h.below.size (fun k e => by simp at e; have := h.ge; omega)⟩
 have hc := h.ch
 unfold ChAt at hc ⊢
 simp [World.setCell, Array.getElem?_modify, hc]
theorem RefS.ret : ChAt (((((W.setCell ⟨gz, 0, none⟩ (.slice r.pa r.na r.ca)).setCell ⟨gz, 1, none⟩ (.slice r.pb r.nb r.cb)).setCell ⟨gz, 2, none⟩ (.slice r.pc r.nc r.cc)).setCell ⟨gz, 3, none⟩ (.int .i64 r.toN)).setCell ⟨gz, 4, none⟩ (.bool r.more)) gz r /\
 NewChg (((((W.setCell ⟨gz, 0, none⟩ (.slice r.pa r.na r.ca)).setCell ⟨gz, 1, none⟩ (.slice r.pb r.nb r.cb)).setCell ⟨gz, 2, none⟩ (.slice r.pc r.nc r.cc)).setCell ⟨gz, 3, none⟩ (.int .i64 r.toN)).setCell ⟨gz, 4, none⟩ (.bool r.more)) w.heap.size ⟨la, lb, lc, r.toN, r.more⟩ r /\
 Below w.heap.size w (((((W.setCell ⟨gz, 0, none⟩ (.slice r.pa r.na r.ca)).setCell ⟨gz, 1, none⟩ (.slice r.pb r.nb r.cb)).setCell ⟨gz, 2, none⟩ (.slice r.pc r.nc r.cc)).setCell ⟨gz, 3, none⟩ (.int .i64 r.toN)).setCell ⟨gz, 4, none⟩ (.bool r.more)) := by
 have hg := grown_cells W gz (.slice r.pa r.na r.ca) (.slice r.pb r.nb r.cb) (.slice r.pc r.nc r.cc) (.int .i64 r.toN) (.bool r.more)
 have hlt := h.lt
 have hge := h.ge
 have hbl := fun (k : Nat) (h1 : gc + 1 <= k) (h2 : k < W.heap.size) => hg.block k h2 (fun e => by simp at e; omega)
 exact ⟨h.zero.stored r, ⟨(h.oa.same (fun k e => hbl k (h.oa.lt k e).1 (h.oa.lt k e).2)).mono (by omega), (h.ob.same (fun k e => hbl k (h.ob.lt k e).1 (h.ob.lt k e).2)).mono (by omega), (h.oc.same (fun k e => hbl k (h.oc.lt k e).1 (h.oc.lt k e).2)).mono (by omega), rfl, rfl⟩, h.below.grown hg h.below.size (fun k e => by simp at e; omega)⟩
end
section
variable {w W W' : World} {gz gc : Nat} {pv : Value} {ys : List Pa} {r : RC} {la lb lc : List ByteArray} (h : RefS w W gz gc pv ys r la lb lc)
include h
theorem RefS.put0 (hb : Below W.heap.size W W') {p : Option Addr} {n c : Nat} {l : List ByteArray} (ho : Own W' W.heap.size 9 encS 1 (.slice p n c) l) : RefS w (W'.setCell ⟨gc, 0, none⟩ (.slice p n c)) gz gc pv ys { r with pa := p, na := n, ca := c } l lb lc := by
 have h1 := h.go hb
 have hg := grownBy_set W' gc 0 (.slice p n c)
 have hbl : ∀ k, gc + 1 <= k -> k < W'.heap.size -> (W'.setCell ⟨gc, 0, none⟩ (.slice p n c)).heap[k]? = W'.heap[k]? := fun k h1 h2 => hg.block k h2 (fun e => by simp at e; omega)
 have hlt := h.lt
 refine ⟨(hg.block gz (by have := h1.zero.lt; omega) (fun e => by simp at e; omega)).trans h1.zero, ?_, h.lt, h.ge, h1.op.same (fun k e => hbl k (h1.op.lt k e).1 (h1.op.lt k e).2), (ho.mono (by have := h.ch.lt; omega)).same (fun k e => hbl k (by have := (ho.lt k e).1; have := h.ch.lt; omega) (ho.lt k e).2), h1.ob.same (fun k e => hbl k (h1.ob.lt k e).1 (h1.ob.lt k e).2), h1.oc.same (fun k e => hbl k (h1.oc.lt k e).1 (h1.oc.lt k e).2), h1.below.grown hg h1.below.size (fun k e => by simp at e; have := h.ge; omega)⟩
 have hc := h1.ch
 unfold ChAt at hc ⊢
 simp [World.setCell, Array.getElem?_modify, hc]
theorem RefS.put1 (hb : Below W.heap.size W W') {p : Option Addr} {n c : Nat} {l : List ByteArray} (ho : Own W' W.heap.size 9 encS 1 (.slice p n c) l) : RefS w (W'.setCell ⟨gc, 1, none⟩ (.slice p n c)) gz gc pv ys { r with pb := p, nb := n, cb := c } la l lc := by
 have h1 := h.go hb
 have hg := grownBy_set W' gc 1 (.slice p n c)
 have hbl : ∀ k, gc + 1 <= k -> k < W'.heap.size -> (W'.setCell ⟨gc, 1, none⟩ (.slice p n c)).heap[k]? = W'.heap[k]? := fun k h1 h2 => hg.block k h2 (fun e => by simp at e; omega)
 have hlt := h.lt
 refine ⟨(hg.block gz (by have := h1.zero.lt; omega) (fun e => by simp at e; omega)).trans h1.zero, ?_, h.lt, h.ge, h1.op.same (fun k e => hbl k (h1.op.lt k e).1 (h1.op.lt k e).2), h1.oa.same (fun k e => hbl k (h1.oa.lt k e).1 (h1.oa.lt k e).2), (ho.mono (by have := h.ch.lt; omega)).same (fun k e => hbl k (by have := (ho.lt k e).1; have := h.ch.lt; omega) (ho.lt k e).2), h1.oc.same (fun k e => hbl k (h1.oc.lt k e).1 (h1.oc.lt k e).2), h1.below.grown hg h1.below.size (fun k e => by simp at e; have := h.ge; omega)⟩
 have hc := h1.ch
 unfold ChAt at hc ⊢
 simp [World.setCell, Array.getElem?_modify, hc]
theorem RefS.put2 (hb : Below W.heap.size W W') {p : Option Addr} {n c : Nat} {l : List ByteArray} (ho : Own W' W.heap.size 9 encS 1 (.slice p n c) l) : RefS w (W'.setCell ⟨gc, 2, none⟩ (.slice p n c)) gz gc pv ys { r with pc := p, nc := n, cc := c } la lb l := by
 have h1 := h.go hb
 have hg := grownBy_set W' gc 2 (.slice p n c)
 have hbl : ∀ k, gc + 1 <= k -> k < W'.heap.size -> (W'.setCell ⟨gc, 2, none⟩ (.slice p n c)).heap[k]? = W'.heap[k]? := fun k h1 h2 => hg.block k h2 (fun e => by simp at e; omega)
 have hlt := h.lt
 refine ⟨(hg.block gz (by have := h1.zero.lt; omega) (fun e => by simp at e; omega)).trans h1.zero, ?_, h.lt, h.ge, h1.op.same (fun k e => hbl k (h1.op.lt k e).1 (h1.op.lt k e).2), h1.oa.same (fun k e => hbl k (h1.oa.lt k e).1 (h1.oa.lt k e).2), h1.ob.same (fun k e => hbl k (h1.ob.lt k e).1 (h1.ob.lt k e).2), (ho.mono (by have := h.ch.lt; omega)).same (fun k e => hbl k (by have := (ho.lt k e).1; have := h.ch.lt; omega) (ho.lt k e).2), h1.below.grown hg h1.below.size (fun k e => by simp at e; have := h.ge; omega)⟩
 have hc := h1.ch
 unfold ChAt at hc ⊢
 simp [World.setCell, Array.getElem?_modify, hc]
end
theorem refChanges_any (b : BoxD) (r : RB) (seq most : Int) (w : World) (hb : BoxOf w w.heap.size b r) (hzt : b.trail.length <= 1000000) (hwm : (Lit.int .i64 most).wf = true) :
 Calls Tryz.prog 41 #[r.val, .int .i64 seq, .int .i64 most] w (SncRet w b seq most) := by
 have htr := hb.trail
 have hsq := hb.seq
 have hfl := hb.floor
 have hbm := bounds_i64 hwm
 obtain ⟨po, no, co, pt, nt, ct, sq, fl, kp⟩ := r
 dsimp only [RB.val] at *
 have hA0 : BoxAt ((w.alloc (.cells #[.slice po no co, .slice pt nt ct, .int .i64 sq, .int .i64 fl, .int .i64 kp] 25)).alloc RC.zero.obj) w.heap.size ⟨po, no, co, pt, nt, ct, sq, fl, kp⟩ := heap_alloc_lt (by simp) (heap_alloc_at rfl)
 have hZ0 : ChAt ((w.alloc (.cells #[.slice po no co, .slice pt nt ct, .int .i64 sq, .int .i64 fl, .int .i64 kp] 25)).alloc RC.zero.obj) (w.heap.size + 1) RC.zero := heap_alloc_at (by simp)
 have hB0 : Below w.heap.size w ((w.alloc (.cells #[.slice po no co, .slice pt nt ct, .int .i64 sq, .int .i64 fl, .int .i64 kp] 25)).alloc RC.zero.obj) := below2 w _ _
 dsimp only [RC.obj, RC.zero] at hA0 hZ0 hB0
 have HTR := Lib.hid htr
 have HEQ : Hid (b.seq = sq /\ b.floor = fl /\ b.trail.length <= 1000000) := ⟨hsq, hfl, hzt⟩
 have hbad : (seq < b.floor \/ b.seq < seq) ↔ (seq < fl \/ sq < seq) := by rw [hsq, hfl]
 have HBAD := Lib.hid hbad
 clear hb htr hsq hfl hzt hwm hbad
 go_enter Tryz.func41, Tryz.ntmps41
 go_upto_region 1 with fail
 obtain ⟨W0, hW0⟩ : ∃ W0, ((w.alloc (.cells #[.slice po no co, .slice pt nt ct, .int .i64 sq, .int .i64 fl, .int .i64 kp] 25)).alloc (.cells #[.slice none 0 0, .slice none 0 0, .slice none 0 0, .int .i64 0, .bool false] 75)) = W0 := ⟨_, rfl⟩
 have hz0 : W0.heap.size = w.heap.size + 2 := by rw [<- hW0]; simp
 rw [hW0] at hA0 hZ0 hB0 ⊢
 clear hW0
 obtain ⟨c0, c1, c2, c3, c4⟩ := hA0.cells5
 dsimp only at c0 c1 c2 c3 c4
 have HA := Lib.hid hA0
 have HZ := Lib.hid hZ0
 have HB := Lib.hid hB0
 by_cases h1 : seq < fl \/ sq < seq
 ·have hh := h1
  obtain ⟨z0, z1, z2, z3, z4⟩ := hZ0.cells5
  have y0 := hZ0.frozen 0
  have y1 := hZ0.frozen 1
  have y2 := hZ0.frozen 2
  have y3 := hZ0.frozen 3
  have y4 := hZ0.frozen 4
  have HX : Hid (∀ e w', SncRet w b seq most e w' ↔ (e = .returned (.tuple #[RC.val RC.zero, .int .i64 190]) /\ Below w.heap.size w w')) := fun e w' => by unfold SncRet; rw [if_pos (HBAD.out.2 h1)]
  have d1 : decide (seq < fl) = true \/ (decide (seq < fl) = false /\ decide (sq < seq) = true) := by
   by_cases h : seq < fl
   ·left; simpa using h
   ·right; exact ⟨by simpa using h, by simpa using h1.resolve_left h⟩
  clear hA0 hZ0 hB0 h1 hh hz0
  rcases d1 with d1 | ⟨d1, d2⟩
  all_goals
   go_wp2_with fail
   refine bodyPost_ret (v := .tuple #[RC.val RC.zero, .int .i64 190]) (by simp [results, Tryz.results41, go_sem, RC.zero, z0, z1, z2, z3, z4]) rfl ((HX.out _ _).2 ⟨rfl, ?_⟩)
   exact HB.out.grown (grown_cells W0 (w.heap.size + 1) _ _ _ _ _) HB.out.size (fun k e => by cases e; omega)
 ·have HX : Hid (∀ e w', (∃ ys rc, IsStable cfP (sinceL seq b.trail) ys /\ e = .returned (.tuple #[RC.val rc, .int .i64 0]) /\ NewChg w' w.heap.size (sncD b.seq ys most) rc) /\ Below w.heap.size w w' -> SncRet w b seq most e w') := fun e w' h => by unfold SncRet; rw [if_neg (fun h2 => h1 (HBAD.out.1 h2))]; exact h
  have d1 : decide (seq < fl) = false := by simp; omega
  have d2 : decide (sq < seq) = false := by simp; omega
  have HC0 : Hid (ChAt (W0.alloc (.cells #[.slice none 0 0, .slice none 0 0, .slice none 0 0, .int .i64 sq, .bool false] 75)) W0.heap.size ⟨none, 0, 0, none, 0, 0, none, 0, 0, sq, false⟩) := heap_alloc_at rfl
  have HZ1 : Hid (ChAt (W0.alloc (.cells #[.slice none 0 0, .slice none 0 0, .slice none 0 0, .int .i64 sq, .bool false] 75)) (w.heap.size + 1) RC.zero) := heap_alloc_lt HZ.out.lt HZ.out
  have HB1 : Hid (Below w.heap.size w (W0.alloc (.cells #[.slice none 0 0, .slice none 0 0, .slice none 0 0, .int .i64 sq, .bool false] 75))) := HB.out.alloc HB.out.size _
  have HS : Hid (Calls Tryz.prog 85 #[.slice pt nt ct, .int .i64 seq] (W0.alloc (.cells #[.slice none 0 0, .slice none 0 0, .slice none 0 0, .int .i64 sq, .bool false] 75)) fun e w' => ∃ ys, IsStable cfP (sinceL seq b.trail) ys /\ OwnRet (W0.alloc (.cells #[.slice none 0 0, .slice none 0 0, .slice none 0 0, .int .i64 sq, .bool false] 75)) 147 encP 4 ys e w') := by
   refine refSince_any _ _ b.trail seq (HTR.out.under HB1.out HB1.out.size) (by have := HEQ.out.2.2; omega)
  have HLen : Hid (∀ ys, IsStable cfP (sinceL seq b.trail) ys -> ys.length <= 1000000) := fun ys h => by have h1 := h.perm.length_eq; have h2 := sinceL_le seq b.trail; have := HEQ.out.2.2; omega
  have hz1 : w.heap.size < W0.heap.size := HA.out.lt
  have hne0 := World.new_ne W0 ⟨w.heap.size, 1, none⟩ c1
  have HW0 : Hid (W0.heap.size = w.heap.size + 2) := hz0
  clear hA0 hZ0 hB0 h1 HBAD hz0
  go_upto_region 5 with (go_at_call 85; refine HS.out.mono ?_; rintro e w2 ⟨ys, hys, u, rfl, hu, hb2⟩; obtain ⟨p2, cc2, hv2, hcl, hcc⟩ := hu.len; subst hv2; go_frame)
  have HYS := Lib.hid hys
  have hyl := HLen.out _ hys
  have hnd := stable_nodup hys
  obtain ⟨gc, hgc⟩ : ∃ g, W0.heap.size = g := ⟨_, rfl⟩
  have HW01 := HW0.out
  have hR : RefS w w2 (w.heap.size + 1) gc (.slice p2 ys.length cc2) ys ⟨none, 0, 0, none, 0, 0, none, 0, 0, sq, false⟩ [] [] [] := by
   rw [<- hgc]
   exact ⟨HZ1.out.under hb2 HZ1.out.lt, HC0.out.under hb2 HC0.out.lt, by omega, by omega, hu.mono (by simp), Own.nil _ _ _, Own.nil _ _ _, Own.nil _ _ _, HB1.out.trans (hb2.mono HB1.out.size)⟩
  rw [hgc]
  obtain ⟨n, hn⟩ : ∃ n, ys.length = n := ⟨_, rfl⟩
  rw [hn] at hR hyl ⊢
  have HN := Lib.hid hn
  have HND := Lib.hid hnd
  have HR := Lib.hid hR
  have HGC : Hid (w.heap.size + 1 < gc) := hR.lt
  have hne1 : gc ≠ w.heap.size + 1 := by omega
  clear hu hb2 hcl hcc hys hnd hn hR hgc HW01 HS HLen HA HZ HB HC0 HZ1 HB1 HW0 c0 c1 c2 c3 c4 hz1 hne0
  go_wp2_with fail
  go_loopw [10, 11, 12] (fun m la i wr => ∃ (j : Nat) (mm : Nat) (last : Int) (rc : RC), j <= n /\ i = .int .i64 (j : Int) /\ m = .int .i64 (mm : Int) /\ la = .int .i64 last /\ mm <= 1000000 /\ Hid ((toldP (ys.take j)).length = mm /\ lastP (toldP (ys.take j)) = last) /\ (0 < most -> (mm : Int) <= most) /\ Hid (rc.toN = sq /\ rc.more = false) /\ Hid (RefS w wr (w.heap.size + 1) gc (.slice p2 n cc2) ys rc (sortB (idsW 1 (toldP (ys.take j)))) (sortB (idsW 2 (toldP (ys.take j)))) (sortB (idsW 3 (toldP (ys.take j)))))) (fun _ _ i _ => n - (intOf i).toNat)
  case atStart => exact ⟨0, 0, 0, _, Nat.zero_le _, rfl, rfl, rfl, by omega, ⟨rfl, rfl⟩, by omega, ⟨rfl, rfl⟩, by have e1 := sortB_nil; show Hid (RefS _ _ _ _ _ _ _ (sortB []) (sortB []) (sortB [])); rw [e1]; exact HR.out⟩
  case round =>
   obtain ⟨j, mm, last, rc, hj, rfl, rfl, rfl, hmm, hml, hmo, hrc, hrs⟩ := hrel
   obtain ⟨pa, na, ca, pb, nb, cb, pc, nc, cc, rto, rmo⟩ := rc
   obtain ⟨e1, e2⟩ := hrc.out
   dsimp only at e1 e2
   subst e1 e2
   by_cases hlt : j < n
   ·obtain ⟨x, hx⟩ : ∃ x, ys[j]? = some x := ⟨_, List.getElem?_eq_getElem (by have := HN.out; omega)⟩
    obtain ⟨g, hpg, hnn, hgb, hgl, hcell, hfr⟩ := Own.at codecP hrs.out.op hx
    subst hpg
    have f0 := hcell 0 _ rfl
    have f1 := hcell 1 _ rfl
    have f2 := hcell 2 _ rfl
    have f3 := hcell 3 _ rfl
    rw [Nat.add_zero] at f0
    have hk0 : (0 : Int) <= (j : Int) := Int.natCast_nonneg _
    have hk1 : (j : Int) < (n : Int) := by omega
    have HXX := Lib.hid hx
    have HMO := Lib.hid hmo
    obtain ⟨c0, c1, c2, c3, c4⟩ := hrs.out.ch.cells5
    dsimp only at c0 c1 c2 c3 c4
    obtain ⟨xi, xw, xb, xl⟩ := x
    dsimp only at f0 f1 f2 f3
    cases hw : xw <;> cases hb : xb
    all_goals subst hw hb
    ·have HTK := told_take hx
     rw [show noneP ⟨xi, false, false, xl⟩ = true from rfl, if_pos rfl, List.append_nil] at HTK
     have HTK := Lib.hid HTK
     clear hcell hfr hnn hx hmo c0 c1 c2 c3 c4
     go_wp2_with fail
     go_roundw
     case rel => exact ⟨j + 1, mm, last, _, by omega, by go_num, rfl, rfl, hmm, by unfold Hid; rw [HTK.out]; exact hml.out, HMO.out, ⟨rfl, rfl⟩, by unfold Hid; rw [HTK.out]; exact hrs.out⟩
     case measure => simp [intOf]; omega
    ·by_cases hex : 0 < most /\ (mm : Int) = most
     ·have HD := sncD_more (seq := rto) hx (show whatP ⟨xi, false, true, xl⟩ ≠ 0 by simp [whatP]) hex.1 (by rw [hml.out.1]; exact hex.2)
      rw [hml.out.2] at HD
      have HD := Lib.hid HD
      have q1 : decide (1 <= most) = true := by simp; omega
      have q2 : ((mm : Int) == most) = true := by simpa using hex.2
      have HRE := (hrs.out.set34 last true).ret
      dsimp only at HRE
      have HRE := Lib.hid HRE
      have x3 := hrs.out.ch.frozen 3
      have x4 := hrs.out.ch.frozen 4
      obtain ⟨z0, z1, z2, z3, z4⟩ := hrs.out.zero.cells5
      have y0 := hrs.out.zero.frozen 0
      have y1 := hrs.out.zero.frozen 1
      have y2 := hrs.out.zero.frozen 2
      have y3 := hrs.out.zero.frozen 3
      have y4 := hrs.out.zero.frozen 4
      clear hcell hfr hnn hx hmo hex hml hmm
      go_wp2_with fail
      obtain ⟨h1, h2, h3⟩ := HRE.out
      obtain ⟨W9, hW9⟩ : ∃ W9, ((((((wr.setCell ⟨gc, 4, none⟩ (.bool true)).setCell ⟨gc, 3, none⟩ (.int .i64 last)).setCell ⟨w.heap.size + 1, 0, none⟩ (.slice pa na ca)).setCell ⟨w.heap.size + 1, 1, none⟩ (.slice pb nb cb)).setCell ⟨w.heap.size + 1, 2, none⟩ (.slice pc nc cc)).setCell ⟨w.heap.size + 1, 3, none⟩ (.int .i64 last)).setCell ⟨w.heap.size + 1, 4, none⟩ (.bool true) = W9 := ⟨_, rfl⟩
      rw [hW9] at h1 h2 h3 ⊢
      clear hW9 z0 z1 z2 z3 z4 c0 c1 c2 c3 c4 x3 x4 y0 y1 y2 y3 y4
      obtain ⟨z0, z1, z2, z3, z4⟩ := h1.cells5
      dsimp only at z0 z1 z2 z3 z4
      refine bodyPost_ret (v := .tuple #[RC.val ⟨pa, na, ca, pb, nb, cb, pc, nc, cc, last, true⟩, .int .i64 0]) (by simp [results, Tryz.results41, go_sem, z0, z1, z2, z3, z4]) rfl ?_
      refine HX.out _ _ ⟨⟨ys, ⟨pa, na, ca, pb, nb, cb, pc, nc, cc, last, true⟩, HYS.out, rfl, ?_⟩, h3⟩
      have hbs : b.seq = rto := HEQ.out.1
      rw [hbs, HD.out]
      exact h2
     ·have hq12 : decide (1 <= most) = false \/ (decide (1 <= most) = true /\ ((mm : Int) == most) = false) := by
       by_cases h : 1 <= most
       ·right
        refine ⟨by simpa using h, ?_⟩
        rw [Bool.eq_false_iff]
        intro e
        exact hex ⟨by omega, by simpa using e⟩
       ·left; simpa using h
      have HMN : Hid (0 < most -> ((mm + 1 : Nat) : Int) <= most) := fun h => by
       have h1 := hmo h
       have h2 : ¬ (mm : Int) = most := fun e => hex ⟨h, e⟩
       omega
      have HPT := put_told HND.out hx (show whatP ⟨xi, false, true, xl⟩ = 1 by rfl) (by decide)
      have HK1 := keep_told hx (k := 2) (show whatP ⟨xi, false, true, xl⟩ ≠ 2 by simp [whatP])
      have HK2 := keep_told hx (k := 3) (show whatP ⟨xi, false, true, xl⟩ ≠ 3 by simp [whatP])
      have HTK := told_take hx
      rw [show noneP ⟨xi, false, true, xl⟩ = false from rfl, if_neg (by decide)] at HTK
      have HTL : Hid ((toldP (ys.take (j + 1))).length = mm + 1 /\ lastP (toldP (ys.take (j + 1))) = xl) := by
       unfold Hid
       rw [HTK, List.length_append, lastP_snoc]
       exact ⟨by rw [hml.out.1]; rfl, rfl⟩
      have HML : Hid (mm + 1 <= 1000000) := by
       have h1 := told_len (ys := ys) (j := j + 1)
       have h2 := HTL.out.1
       have h3 := HN.out
       unfold Hid
       omega
      have HRD := Lib.hid (hrs.out.go (Below.refl _ _).drew)
      have hsl := idsW_len 1 (toldP (ys.take j))
      have HP := putN_any wr.drew (.slice pa na ca) (sortB (idsW 1 (toldP (ys.take j)))) xi (HRD.out.oa.rd codecS) (by rw [sortB_len]; have := hml.out.1; omega)
      rw [HPT] at HP
      have HP := Lib.hid HP
      have HPT := Lib.hid HPT
      have HK1 := Lib.hid HK1
      have HK2 := Lib.hid HK2
      clear hcell hfr hnn hx hmo hex HTK hml hsl
      rcases hq12 with q1 | ⟨q1, q2⟩
      all_goals
       go_upto_region 18 with fail
       go_region_law (first
        | (go_simp; go_at_call 86; refine HP.out.mono ?_; rintro e w9 ⟨u9, rfl, ho9, hb9⟩; (obtain ⟨p9, n9, c9, rfl⟩ : ∃ p n c, u9 = Value.slice p n c := (by obtain ⟨p, c, hv, h1, h2⟩ := ho9.len; exact ⟨p, _, c, hv⟩)); (have HR9 := HRD.out.go hb9); (have d0 := HR9.ch.cell 0 rfl); (have df := HR9.ch.frozen 0); clear HR9)
        | fail)
       all_goals
        have HRN := HRD.out.put0 hb9 ho9
        dsimp only at HRN
        go_wp2_with fail
        go_roundw
        case rel =>
         refine ⟨j + 1, mm + 1, xl, ⟨p9, n9, c9, pb, nb, cb, pc, nc, cc, rto, false⟩, by omega, by go_num, by go_num, rfl, HML.out, HTL, HMN.out, ⟨rfl, rfl⟩, ?_⟩
         unfold Hid
         rw [HK1.out, HK2.out]
         exact HRN
        case measure => simp [intOf]; omega
    ·by_cases hex : 0 < most /\ (mm : Int) = most
     ·have HD := sncD_more (seq := rto) hx (show whatP ⟨xi, true, false, xl⟩ ≠ 0 by simp [whatP]) hex.1 (by rw [hml.out.1]; exact hex.2)
      rw [hml.out.2] at HD
      have HD := Lib.hid HD
      have q1 : decide (1 <= most) = true := by simp; omega
      have q2 : ((mm : Int) == most) = true := by simpa using hex.2
      have HRE := (hrs.out.set34 last true).ret
      dsimp only at HRE
      have HRE := Lib.hid HRE
      have x3 := hrs.out.ch.frozen 3
      have x4 := hrs.out.ch.frozen 4
      obtain ⟨z0, z1, z2, z3, z4⟩ := hrs.out.zero.cells5
      have y0 := hrs.out.zero.frozen 0
      have y1 := hrs.out.zero.frozen 1
      have y2 := hrs.out.zero.frozen 2
      have y3 := hrs.out.zero.frozen 3
      have y4 := hrs.out.zero.frozen 4
      clear hcell hfr hnn hx hmo hex hml hmm
      go_wp2_with fail
      obtain ⟨h1, h2, h3⟩ := HRE.out
      obtain ⟨W9, hW9⟩ : ∃ W9, ((((((wr.setCell ⟨gc, 4, none⟩ (.bool true)).setCell ⟨gc, 3, none⟩ (.int .i64 last)).setCell ⟨w.heap.size + 1, 0, none⟩ (.slice pa na ca)).setCell ⟨w.heap.size + 1, 1, none⟩ (.slice pb nb cb)).setCell ⟨w.heap.size + 1, 2, none⟩ (.slice pc nc cc)).setCell ⟨w.heap.size + 1, 3, none⟩ (.int .i64 last)).setCell ⟨w.heap.size + 1, 4, none⟩ (.bool true) = W9 := ⟨_, rfl⟩
      rw [hW9] at h1 h2 h3 ⊢
      clear hW9 z0 z1 z2 z3 z4 c0 c1 c2 c3 c4 x3 x4 y0 y1 y2 y3 y4
      obtain ⟨z0, z1, z2, z3, z4⟩ := h1.cells5
      dsimp only at z0 z1 z2 z3 z4
      refine bodyPost_ret (v := .tuple #[RC.val ⟨pa, na, ca, pb, nb, cb, pc, nc, cc, last, true⟩, .int .i64 0]) (by simp [results, Tryz.results41, go_sem, z0, z1, z2, z3, z4]) rfl ?_
      refine HX.out _ _ ⟨⟨ys, ⟨pa, na, ca, pb, nb, cb, pc, nc, cc, last, true⟩, HYS.out, rfl, ?_⟩, h3⟩
      have hbs : b.seq = rto := HEQ.out.1
      rw [hbs, HD.out]
      exact h2
     ·have hq12 : decide (1 <= most) = false \/ (decide (1 <= most) = true /\ ((mm : Int) == most) = false) := by
       by_cases h : 1 <= most
       ·right
        refine ⟨by simpa using h, ?_⟩
        rw [Bool.eq_false_iff]
        intro e
        exact hex ⟨by omega, by simpa using e⟩
       ·left; simpa using h
      have HMN : Hid (0 < most -> ((mm + 1 : Nat) : Int) <= most) := fun h => by
       have h1 := hmo h
       have h2 : ¬ (mm : Int) = most := fun e => hex ⟨h, e⟩
       omega
      have HPT := put_told HND.out hx (show whatP ⟨xi, true, false, xl⟩ = 3 by rfl) (by decide)
      have HK1 := keep_told hx (k := 1) (show whatP ⟨xi, true, false, xl⟩ ≠ 1 by simp [whatP])
      have HK2 := keep_told hx (k := 2) (show whatP ⟨xi, true, false, xl⟩ ≠ 2 by simp [whatP])
      have HTK := told_take hx
      rw [show noneP ⟨xi, true, false, xl⟩ = false from rfl, if_neg (by decide)] at HTK
      have HTL : Hid ((toldP (ys.take (j + 1))).length = mm + 1 /\ lastP (toldP (ys.take (j + 1))) = xl) := by
       unfold Hid
       rw [HTK, List.length_append, lastP_snoc]
       exact ⟨by rw [hml.out.1]; rfl, rfl⟩
      have HML : Hid (mm + 1 <= 1000000) := by
       have h1 := told_len (ys := ys) (j := j + 1)
       have h2 := HTL.out.1
       have h3 := HN.out
       unfold Hid
       omega
      have HRD := Lib.hid (hrs.out.go (Below.refl _ _).drew)
      have hsl := idsW_len 3 (toldP (ys.take j))
      have HP := putN_any wr.drew (.slice pc nc cc) (sortB (idsW 3 (toldP (ys.take j)))) xi (HRD.out.oc.rd codecS) (by rw [sortB_len]; have := hml.out.1; omega)
      rw [HPT] at HP
      have HP := Lib.hid HP
      have HPT := Lib.hid HPT
      have HK1 := Lib.hid HK1
      have HK2 := Lib.hid HK2
      clear hcell hfr hnn hx hmo hex HTK hml hsl
      rcases hq12 with q1 | ⟨q1, q2⟩
      all_goals
       go_upto_region 21 with fail
       go_region_law (first
        | (go_simp; go_at_call 86; refine HP.out.mono ?_; rintro e w9 ⟨u9, rfl, ho9, hb9⟩; (obtain ⟨p9, n9, c9, rfl⟩ : ∃ p n c, u9 = Value.slice p n c := (by obtain ⟨p, c, hv, h1, h2⟩ := ho9.len; exact ⟨p, _, c, hv⟩)); (have HR9 := HRD.out.go hb9); (have d2 := HR9.ch.cell 2 rfl); (have df := HR9.ch.frozen 2); clear HR9)
        | fail)
       all_goals
        have HRN := HRD.out.put2 hb9 ho9
        dsimp only at HRN
        go_wp2_with fail
        go_roundw
        case rel =>
         refine ⟨j + 1, mm + 1, xl, ⟨pa, na, ca, pb, nb, cb, p9, n9, c9, rto, false⟩, by omega, by go_num, by go_num, rfl, HML.out, HTL, HMN.out, ⟨rfl, rfl⟩, ?_⟩
         unfold Hid
         rw [HK1.out, HK2.out]
         exact HRN
        case measure => simp [intOf]; omega
    ·by_cases hex : 0 < most /\ (mm : Int) = most
     ·have HD := sncD_more (seq := rto) hx (show whatP ⟨xi, true, true, xl⟩ ≠ 0 by simp [whatP]) hex.1 (by rw [hml.out.1]; exact hex.2)
      rw [hml.out.2] at HD
      have HD := Lib.hid HD
      have q1 : decide (1 <= most) = true := by simp; omega
      have q2 : ((mm : Int) == most) = true := by simpa using hex.2
      have HRE := (hrs.out.set34 last true).ret
      dsimp only at HRE
      have HRE := Lib.hid HRE
      have x3 := hrs.out.ch.frozen 3
      have x4 := hrs.out.ch.frozen 4
      obtain ⟨z0, z1, z2, z3, z4⟩ := hrs.out.zero.cells5
      have y0 := hrs.out.zero.frozen 0
      have y1 := hrs.out.zero.frozen 1
      have y2 := hrs.out.zero.frozen 2
      have y3 := hrs.out.zero.frozen 3
      have y4 := hrs.out.zero.frozen 4
      clear hcell hfr hnn hx hmo hex hml hmm
      go_wp2_with fail
      obtain ⟨h1, h2, h3⟩ := HRE.out
      obtain ⟨W9, hW9⟩ : ∃ W9, ((((((wr.setCell ⟨gc, 4, none⟩ (.bool true)).setCell ⟨gc, 3, none⟩ (.int .i64 last)).setCell ⟨w.heap.size + 1, 0, none⟩ (.slice pa na ca)).setCell ⟨w.heap.size + 1, 1, none⟩ (.slice pb nb cb)).setCell ⟨w.heap.size + 1, 2, none⟩ (.slice pc nc cc)).setCell ⟨w.heap.size + 1, 3, none⟩ (.int .i64 last)).setCell ⟨w.heap.size + 1, 4, none⟩ (.bool true) = W9 := ⟨_, rfl⟩
      rw [hW9] at h1 h2 h3 ⊢
      clear hW9 z0 z1 z2 z3 z4 c0 c1 c2 c3 c4 x3 x4 y0 y1 y2 y3 y4
      obtain ⟨z0, z1, z2, z3, z4⟩ := h1.cells5
      dsimp only at z0 z1 z2 z3 z4
      refine bodyPost_ret (v := .tuple #[RC.val ⟨pa, na, ca, pb, nb, cb, pc, nc, cc, last, true⟩, .int .i64 0]) (by simp [results, Tryz.results41, go_sem, z0, z1, z2, z3, z4]) rfl ?_
      refine HX.out _ _ ⟨⟨ys, ⟨pa, na, ca, pb, nb, cb, pc, nc, cc, last, true⟩, HYS.out, rfl, ?_⟩, h3⟩
      have hbs : b.seq = rto := HEQ.out.1
      rw [hbs, HD.out]
      exact h2
     ·have hq12 : decide (1 <= most) = false \/ (decide (1 <= most) = true /\ ((mm : Int) == most) = false) := by
       by_cases h : 1 <= most
       ·right
        refine ⟨by simpa using h, ?_⟩
        rw [Bool.eq_false_iff]
        intro e
        exact hex ⟨by omega, by simpa using e⟩
       ·left; simpa using h
      have HMN : Hid (0 < most -> ((mm + 1 : Nat) : Int) <= most) := fun h => by
       have h1 := hmo h
       have h2 : ¬ (mm : Int) = most := fun e => hex ⟨h, e⟩
       omega
      have HPT := put_told HND.out hx (show whatP ⟨xi, true, true, xl⟩ = 2 by rfl) (by decide)
      have HK1 := keep_told hx (k := 1) (show whatP ⟨xi, true, true, xl⟩ ≠ 1 by simp [whatP])
      have HK2 := keep_told hx (k := 3) (show whatP ⟨xi, true, true, xl⟩ ≠ 3 by simp [whatP])
      have HTK := told_take hx
      rw [show noneP ⟨xi, true, true, xl⟩ = false from rfl, if_neg (by decide)] at HTK
      have HTL : Hid ((toldP (ys.take (j + 1))).length = mm + 1 /\ lastP (toldP (ys.take (j + 1))) = xl) := by
       unfold Hid
       rw [HTK, List.length_append, lastP_snoc]
       exact ⟨by rw [hml.out.1]; rfl, rfl⟩
      have HML : Hid (mm + 1 <= 1000000) := by
       have h1 := told_len (ys := ys) (j := j + 1)
       have h2 := HTL.out.1
       have h3 := HN.out
       unfold Hid
       omega
      have HRD := Lib.hid (hrs.out.go (Below.refl _ _).drew)
      have hsl := idsW_len 2 (toldP (ys.take j))
      have HP := putN_any wr.drew (.slice pb nb cb) (sortB (idsW 2 (toldP (ys.take j)))) xi (HRD.out.ob.rd codecS) (by rw [sortB_len]; have := hml.out.1; omega)
      rw [HPT] at HP
      have HP := Lib.hid HP
      have HPT := Lib.hid HPT
      have HK1 := Lib.hid HK1
      have HK2 := Lib.hid HK2
      clear hcell hfr hnn hx hmo hex HTK hml hsl
      rcases hq12 with q1 | ⟨q1, q2⟩
      all_goals
       go_upto_region 20 with fail
       go_region_law (first
        | (go_simp; go_at_call 86; refine HP.out.mono ?_; rintro e w9 ⟨u9, rfl, ho9, hb9⟩; (obtain ⟨p9, n9, c9, rfl⟩ : ∃ p n c, u9 = Value.slice p n c := (by obtain ⟨p, c, hv, h1, h2⟩ := ho9.len; exact ⟨p, _, c, hv⟩)); (have HR9 := HRD.out.go hb9); (have d1 := HR9.ch.cell 1 rfl); (have df := HR9.ch.frozen 1); clear HR9)
        | fail)
       all_goals
        have HRN := HRD.out.put1 hb9 ho9
        dsimp only at HRN
        go_wp2_with fail
        go_roundw
        case rel =>
         refine ⟨j + 1, mm + 1, xl, ⟨pa, na, ca, p9, n9, c9, pc, nc, cc, rto, false⟩, by omega, by go_num, by go_num, rfl, HML.out, HTL, HMN.out, ⟨rfl, rfl⟩, ?_⟩
         unfold Hid
         rw [HK1.out, HK2.out]
         exact HRN
        case measure => simp [intOf]; omega
   ·obtain rfl : j = n := by omega
    have hj : ys.take j = ys := List.take_of_length_le (by have := HN.out; omega)
    rw [hj] at hml hrs
    have HD := sncD_all (ys := ys) (seq := rto) (most := most) (fun h => by rw [hml.out.1]; exact hmo h)
    have HD := Lib.hid HD
    have HRE := hrs.out.ret
    dsimp only at HRE
    have HRE := Lib.hid HRE
    obtain ⟨c0, c1, c2, c3, c4⟩ := hrs.out.ch.cells5
    dsimp only at c0 c1 c2 c3 c4
    obtain ⟨z0, z1, z2, z3, z4⟩ := hrs.out.zero.cells5
    have y0 := hrs.out.zero.frozen 0
    have y1 := hrs.out.zero.frozen 1
    have y2 := hrs.out.zero.frozen 2
    have y3 := hrs.out.zero.frozen 3
    have y4 := hrs.out.zero.frozen 4
    clear hmo hml hmm hj
    go_wp2_with fail
    obtain ⟨h1, h2, h3⟩ := HRE.out
    obtain ⟨W9, hW9⟩ : ∃ W9, ((((wr.setCell ⟨w.heap.size + 1, 0, none⟩ (.slice pa na ca)).setCell ⟨w.heap.size + 1, 1, none⟩ (.slice pb nb cb)).setCell ⟨w.heap.size + 1, 2, none⟩ (.slice pc nc cc)).setCell ⟨w.heap.size + 1, 3, none⟩ (.int .i64 rto)).setCell ⟨w.heap.size + 1, 4, none⟩ (.bool false) = W9 := ⟨_, rfl⟩
    rw [hW9] at h1 h2 h3 ⊢
    clear hW9 z0 z1 z2 z3 z4 c0 c1 c2 c3 c4 y0 y1 y2 y3 y4
    obtain ⟨z0, z1, z2, z3, z4⟩ := h1.cells5
    dsimp only at z0 z1 z2 z3 z4
    refine bodyPost_ret (v := .tuple #[RC.val ⟨pa, na, ca, pb, nb, cb, pc, nc, cc, rto, false⟩, .int .i64 0]) (by simp [results, Tryz.results41, go_sem, z0, z1, z2, z3, z4]) rfl ?_
    refine HX.out _ _ ⟨⟨ys, ⟨pa, na, ca, pb, nb, cb, pc, nc, cc, rto, false⟩, HYS.out, rfl, ?_⟩, h3⟩
    have hbs : b.seq = rto := HEQ.out.1
    rw [hbs, HD.out]
    exact h2
end
end Go.Proofs.YtfgjimpmpckgpaaGreatDoor
