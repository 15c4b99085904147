import Derived.Test.YtfgjimpmpckgpaaGreatDoorSg23
import Derived.Test.YtfgjimpmpckgpaaGreatDoorSg13
import Derived.Test.YtfgjimpmpckgpaaGreatDoorSg11
set_option linter.unusedSimpArgs false
set_option linter.unusedVariables false
set_option maxRecDepth 200000
set_option maxHeartbeats 8000000
namespace Go.Proofs.YtfgjimpmpckgpaaGreatDoor
section
open Go.RowKit Go.OpenShut
def SncRet (w : World) (b : BoxD) (seq most : Int) (e : Ending) (w' : World) : Prop :=
 (if seq < b.floor \/ b.seq < seq then e = .returned (.tuple #[RC.val RC.zero, .int .i64 190]) else ∃ ys rc, IsStable cfP (sinceL seq b.trail) ys /\ e = .returned (.tuple #[RC.val rc, .int .i64 0]) /\ NewChg w' w.heap.size (sncD b.seq ys most) rc) /\ Below w.heap.size w w'
theorem ChAt.stored {W : World} {g : Nat} {r : RC} (h : ChAt W g r) (q : RC) :
 ChAt (((((W.setCell ⟨g, 0, none⟩ (.slice q.pa q.na q.ca)).setCell ⟨g, 1, none⟩ (.slice q.pb q.nb q.cb)).setCell ⟨g, 2, none⟩ (.slice q.pc q.nc q.cc)).setCell ⟨g, 3, none⟩ (.int .i64 q.toN)).setCell ⟨g, 4, none⟩ (.bool q.more)) g q := by
 unfold ChAt at h ⊢
 simp [World.setCell, Array.getElem?_modify, h]
theorem grown_cells (W : World) (g : Nat) (a b c d e : Value) : W.grownBy (((((W.setCell ⟨g, 0, none⟩ a).setCell ⟨g, 1, none⟩ b).setCell ⟨g, 2, none⟩ c).setCell ⟨g, 3, none⟩ d).setCell ⟨g, 4, none⟩ e) (some g) :=
 ((((grownBy_set W g 0 a).trans (grownBy_set _ g 1 b)).trans (grownBy_set _ g 2 c)).trans (grownBy_set _ g 3 d)).trans (grownBy_set _ g 4 e)
theorem chg_end {w wr : World} {base gz gc ga : Nat} {r : RC} {la lb lc : List ByteArray} (hz : ChAt wr gz RC.zero) (ho : Own3 wr (ga + 1) (.slice r.pa r.na r.ca) (.slice r.pb r.nb r.cb) (.slice r.pc r.nc r.cc) la lb lc) (h1 : gz < gc) (h2 : gc < ga) (h3 : ga < wr.heap.size) (hb : Below base w wr) (hbz : base <= gz) :
 ChAt ((((((((wr.setCell ⟨gc, 0, none⟩ (.slice r.pa r.na r.ca)).setCell ⟨gc, 1, none⟩ (.slice r.pb r.nb r.cb)).setCell ⟨gc, 2, none⟩ (.slice r.pc r.nc r.cc)).setCell ⟨gz, 0, none⟩ (.slice r.pa r.na r.ca)).setCell ⟨gz, 1, none⟩ (.slice r.pb r.nb r.cb)).setCell ⟨gz, 2, none⟩ (.slice r.pc r.nc r.cc)).setCell ⟨gz, 3, none⟩ (.int .i64 r.toN)).setCell ⟨gz, 4, none⟩ (.bool r.more)).drew gz r /\
 NewChg ((((((((wr.setCell ⟨gc, 0, none⟩ (.slice r.pa r.na r.ca)).setCell ⟨gc, 1, none⟩ (.slice r.pb r.nb r.cb)).setCell ⟨gc, 2, none⟩ (.slice r.pc r.nc r.cc)).setCell ⟨gz, 0, none⟩ (.slice r.pa r.na r.ca)).setCell ⟨gz, 1, none⟩ (.slice r.pb r.nb r.cb)).setCell ⟨gz, 2, none⟩ (.slice r.pc r.nc r.cc)).setCell ⟨gz, 3, none⟩ (.int .i64 r.toN)).setCell ⟨gz, 4, none⟩ (.bool r.more)).drew base ⟨la, lb, lc, r.toN, r.more⟩ r /\
 Below base w ((((((((wr.setCell ⟨gc, 0, none⟩ (.slice r.pa r.na r.ca)).setCell ⟨gc, 1, none⟩ (.slice r.pb r.nb r.cb)).setCell ⟨gc, 2, none⟩ (.slice r.pc r.nc r.cc)).setCell ⟨gz, 0, none⟩ (.slice r.pa r.na r.ca)).setCell ⟨gz, 1, none⟩ (.slice r.pb r.nb r.cb)).setCell ⟨gz, 2, none⟩ (.slice r.pc r.nc r.cc)).setCell ⟨gz, 3, none⟩ (.int .i64 r.toN)).setCell ⟨gz, 4, none⟩ (.bool r.more)).drew := by
 obtain ⟨W3, hW3⟩ : ∃ W3, (((wr.setCell ⟨gc, 0, none⟩ (.slice r.pa r.na r.ca)).setCell ⟨gc, 1, none⟩ (.slice r.pb r.nb r.cb)).setCell ⟨gc, 2, none⟩ (.slice r.pc r.nc r.cc)) = W3 := ⟨_, rfl⟩
 have hg3 : wr.grownBy W3 (some gc) := by
  rw [<- hW3]
  exact ((grownBy_set wr gc 0 _).trans (grownBy_set _ gc 1 _)).trans (grownBy_set _ gc 2 _)
 rw [hW3]
 clear hW3
 obtain ⟨W8, hW8⟩ : ∃ W8, (((((W3.setCell ⟨gz, 0, none⟩ (.slice r.pa r.na r.ca)).setCell ⟨gz, 1, none⟩ (.slice r.pb r.nb r.cb)).setCell ⟨gz, 2, none⟩ (.slice r.pc r.nc r.cc)).setCell ⟨gz, 3, none⟩ (.int .i64 r.toN)).setCell ⟨gz, 4, none⟩ (.bool r.more)) = W8 := ⟨_, rfl⟩
 have hz3 : ChAt W3 gz RC.zero := (hg3.block gz (by omega) (fun e => by simp at e; omega)).trans hz
 have hz8 : ChAt W8 gz r := by rw [<- hW8]; exact hz3.stored r
 have hg5 : W3.grownBy W8 (some gz) := by rw [<- hW8]; exact grown_cells _ _ _ _ _ _ _
 rw [hW8]
 clear hW8
 have ho3 := ho.same (fun k h1 h2 => hg3.block k h2 (fun e => by simp at e; omega))
 have ho8 := ho3.same (fun k h1 h2 => hg5.block k h2 (fun e => by simp at e; omega))
 have hb3 := hb.grown hg3 (by have := hb.size; omega) (fun k e => by simp at e; omega)
 have hb8 := hb3.grown hg5 (by have := hg3.size; omega) (fun k e => by simp at e; omega)
 exact ⟨hz8, ⟨(ho8.oa.same (fun _ _ => rfl)).mono (by omega), (ho8.ob.same (fun _ _ => rfl)).mono (by omega), (ho8.oc.same (fun _ _ => rfl)).mono (by omega), rfl, rfl⟩, hb8.drew⟩
theorem whatP_rng (p : Pa) : whatP p = 0 \/ whatP p = 1 \/ whatP p = 2 \/ whatP p = 3 := by
 unfold whatP
 split <;> split <;> simp
theorem sinceL_le (sq : Int) : ∀ l : List En, (sinceL sq l).length <= l.length
 | [] => Nat.le_refl _
 | e :: r => by
   have ih := sinceL_le sq r
   rw [sinceL_cons, List.length_cons]
   split
   ·omega
   ·split
    ·rw [List.length_map]; omega
    ·rw [List.length_cons]; omega
theorem changes_any (b : BoxD) (r : RB) (seq most : Int) (w : World) (hb : BoxOf w w.heap.size b r) (ob : b.Ok) (hwm : (Lit.int .i64 most).wf = true) :
 Calls Tryz.prog 32 #[r.val, .int .i64 seq, .int .i64 most] w (SncRet w b seq most) := by
 have htr := hb.trail
 have hsq := hb.seq
 have hfl := hb.floor
 have hzt := ob.trail
 have hbm := bounds_i64 hwm
 obtain ⟨po, no, co, pt, nt, ct, sq, fl, kp⟩ := r
 dsimp only [RB.val] at *
 have hA0 : BoxAt ((w.alloc (.cells #[.slice po no co, .slice pt nt ct, .int .i64 sq, .int .i64 fl, .int .i64 kp] 25)).alloc RC.zero.obj) w.heap.size ⟨po, no, co, pt, nt, ct, sq, fl, kp⟩ := heap_alloc_lt (by simp) (heap_alloc_at rfl)
 have hZ0 : ChAt ((w.alloc (.cells #[.slice po no co, .slice pt nt ct, .int .i64 sq, .int .i64 fl, .int .i64 kp] 25)).alloc RC.zero.obj) (w.heap.size + 1) RC.zero := heap_alloc_at (by simp)
 have hB0 : Below w.heap.size w ((w.alloc (.cells #[.slice po no co, .slice pt nt ct, .int .i64 sq, .int .i64 fl, .int .i64 kp] 25)).alloc RC.zero.obj) := below2 w _ _
 dsimp only [RC.obj, RC.zero] at hA0 hZ0 hB0
 have HTR := Lib.hid htr
 have HOB := Lib.hid ob
 have HEQ : Hid (b.seq = sq /\ b.floor = fl /\ b.trail.length <= 4398046510976) := ⟨hsq, hfl, hzt⟩
 have hbad : (seq < b.floor \/ b.seq < seq) ↔ (seq < fl \/ sq < seq) := by rw [hsq, hfl]
 have HBAD := Lib.hid hbad
 clear hb ob htr hsq hfl hzt hwm hbad
 go_enter Tryz.func32, Tryz.ntmps32
 go_upto_region 1 with fail
 obtain ⟨W0, hW0⟩ : ∃ W0, ((w.alloc (.cells #[.slice po no co, .slice pt nt ct, .int .i64 sq, .int .i64 fl, .int .i64 kp] 25)).alloc (.cells #[.slice none 0 0, .slice none 0 0, .slice none 0 0, .int .i64 0, .bool false] 75)) = W0 := ⟨_, rfl⟩
 rw [hW0] at hA0 hZ0 hB0 ⊢
 clear hW0
 obtain ⟨c0, c1, c2, c3, c4⟩ := hA0.cells5
 dsimp only at c0 c1 c2 c3 c4
 have HA := Lib.hid hA0
 have HZ := Lib.hid hZ0
 have HB := Lib.hid hB0
 have hz1 := hZ0.lt
 by_cases h1 : seq < fl \/ sq < seq
 ·have hh := h1
  obtain ⟨z0, z1, z2, z3, z4⟩ := hZ0.cells5
  have y0 := hZ0.frozen 0
  have y1 := hZ0.frozen 1
  have y2 := hZ0.frozen 2
  have y3 := hZ0.frozen 3
  have y4 := hZ0.frozen 4
  have HX : Hid (∀ e w', SncRet w b seq most e w' ↔ (e = .returned (.tuple #[RC.val RC.zero, .int .i64 190]) /\ Below w.heap.size w w')) := fun e w' => by unfold SncRet; rw [if_pos (HBAD.out.2 h1)]
  have d1 : decide (seq < fl) = true \/ (decide (seq < fl) = false /\ decide (sq < seq) = true) := by
   by_cases h : seq < fl
   ·left; simpa using h
   ·right; exact ⟨by simpa using h, by simpa using h1.resolve_left h⟩
  clear hA0 hZ0 hB0 h1 hh
  rcases d1 with d1 | ⟨d1, d2⟩
  all_goals
   go_wp2_with fail
   have HZ2 := HZ.out.stored RC.zero
   refine bodyPost_ret (v := .tuple #[RC.val RC.zero, .int .i64 190]) (by simp [results, Tryz.results32, go_sem, RC.zero, z0, z1, z2, z3, z4]) rfl ((HX.out _ _).2 ⟨rfl, ?_⟩)
   exact HB.out.grown (grown_cells W0 (w.heap.size + 1) _ _ _ _ _) HB.out.size (fun k e => by cases e; omega)
 ·have HX : Hid (∀ e w', (∃ ys rc, IsStable cfP (sinceL seq b.trail) ys /\ e = .returned (.tuple #[RC.val rc, .int .i64 0]) /\ NewChg w' w.heap.size (sncD b.seq ys most) rc) /\ Below w.heap.size w w' -> SncRet w b seq most e w') := fun e w' h => by unfold SncRet; rw [if_neg (fun h2 => h1 (HBAD.out.1 h2))]; exact h
  have d1 : decide (seq < fl) = false := by simp; omega
  have d2 : decide (sq < seq) = false := by simp; omega
  have HS : Hid (∀ W, Below W0.heap.size W0 W -> Calls Tryz.prog 78 #[.slice pt nt ct, .int .i64 seq] W fun e w' => ∃ ys, IsStable cfP (sinceL seq b.trail) ys /\ OwnRet W 136 encP 4 ys e w') := fun W hb => by
   have hbw := HB.out.trans (hb.mono HB.out.size)
   exact since_any W _ b.trail seq (HTR.out.under hbw hbw.size) (by have := HEQ.out.2.2; omega)
  clear hA0 hZ0 hB0 h1 HBAD
  have HLen : Hid (∀ ys, IsStable cfP (sinceL seq b.trail) ys -> ys.length <= 4398046510976) := fun ys h => by have h1 := h.perm.length_eq; have h2 := sinceL_le seq b.trail; have := HEQ.out.2.2; omega
  go_upto_region 4 with (first
   | (go_at_call 78; refine (HS.out _ (Below.refl _ _)).mono ?_; rintro e w2 ⟨ys, hys, u, rfl, hu, hb2⟩; obtain ⟨p2, cc2, hv2, hcl, hcc⟩ := hu.len; subst hv2; go_frame)
   | (go_at_call 77; refine (deleteP_any w2 W0.heap.size p2 ys.length cc2 ys hu hb2.size (by have := HLen.out _ hys; omega)).mono ?_; rintro e w3 ⟨m, rfl, ho3, hb3⟩))
  have HYS := Lib.hid hys
  have hm3 := rd_nlen (ho3.rd codecP)
  have hyl := HLen.out _ hys
  have hb23 : Below W0.heap.size W0 w3 := hb2.trans (hb3.mono (Nat.le_refl _))
  obtain ⟨L, hL⟩ : ∃ L, toldP ys = L := ⟨_, rfl⟩
  have ho3' : Own w3 W0.heap.size 136 encP 4 (.slice p2 m cc2) L := by rw [<- hL]; exact ho3
  have hmL : m = L.length := by rw [<- hL]; exact hm3
  have hLl : L.length <= 4398046510976 := by rw [<- hL]; exact Nat.le_trans (List.length_filter_le _ _) hyl
  have HA3 := Lib.hid (HA.out.under hb23 HA.out.lt)
  have HZ3 := Lib.hid (HZ.out.under hb23 HZ.out.lt)
  have HB3 := Lib.hid (HB.out.trans (hb23.mono HB.out.size))
  have HL : Hid (toldP ys = L) := hL
  have HO3 := Lib.hid ho3'
  have HW03 : Hid (W0.heap.size <= w3.heap.size /\ w.heap.size + 1 < W0.heap.size) := ⟨hb23.size, hz1⟩
  clear hu hb2 hb3 ho3 ho3' hm3 hyl hL hb23 hcl hcc hys HS HLen HA HZ HB hz1 c0 c1 c2 c3 c4
  obtain ⟨c0, c1, c2, c3, c4⟩ := HA3.out.cells5
  dsimp only at c0 c1 c2 c3 c4
  go_upto_region 5 with fail
  have hmore : moreP ys most = (decide (0 < most) && decide (most < (L.length : Int))) := by unfold moreP; rw [HL.out]
  by_cases hmo : 0 < most /\ most < (L.length : Int)
  all_goals first
   | (have hh : 0 < most /\ most < (L.length : Int) := hmo
      have HMO : Hid (moreP ys most = true) := by unfold Hid; rw [hmore]; simp [hh.1, hh.2]
      obtain ⟨k, rfl⟩ : ∃ k : Nat, most = (k : Int) := ⟨most.toNat, by omega⟩
      have hk1 : 1 <= k := by omega
      have hkm : k <= m := by omega
      have hkL : k - 1 < L.length := by omega
      have d3 : decide ((0 : Int) < (k : Int)) = true := by simp; omega
      have d4 : decide ((k : Int) < (m : Int)) = true := by simp; omega
      have d5 : decide (k < m) = true := by simp; omega
      have hcap : m <= cc2 := by
       obtain ⟨_, _, e, h1, _⟩ := HO3.out.rd codecP
       simp only [Value.slice.injEq] at e
       omega
      have hsh := fun W => run_slice_high (P := Tryz.prog) slPa p2 m cc2 k (by omega) W
      have ho5 := HO3.out.take codecP k hkm
      obtain ⟨x, hx⟩ : ∃ x, (L.take k)[k - 1]? = some x := ⟨_, List.getElem?_eq_getElem (by rw [List.length_take]; omega)⟩
      have HCUT : Hid (cutP ys (k : Int) = L.take k /\ lastP (L.take k) = x.last) := by
       refine ⟨by unfold cutP; rw [if_pos HMO.out, HL.out]; simp, ?_⟩
       unfold lastP
       rw [List.getLast?_eq_getElem?, List.length_take, Nat.min_eq_left (by omega), hx]
       rfl
      obtain ⟨g, hpg, hnn, hgb, hgl, hcell, hfr⟩ := Own.at codecP (ho5.alloc (.cells #[.slice none 0 0, .slice none 0 0, .slice none 0 0, .int .i64 sq, .bool false] 75)) hx
      subst hpg
      have f3 := hcell 3 _ rfl
      have hw1 : IntKind.i64.wrap ((k : Int) - 1) = ((k - 1 : Nat) : Int) := by rw [IntKind.wrap_i64] <;> omega
      have hw2 : (k : Int) - 1 = ((k - 1 : Nat) : Int) := by omega
      have hk0 : (0 : Int) <= ((k - 1 : Nat) : Int) := Int.natCast_nonneg _
      have hk2 : ((k - 1 : Nat) : Int) < (k : Int) := by omega
      have HO5 := Lib.hid ho5
      clear hmo hh hcell hfr hnn hx ho5 hmore hmL
      go_upto_region 8 with fail
      have HC5 : Hid (ChAt (w3.alloc (.cells #[.slice none 0 0, .slice none 0 0, .slice none 0 0, .int .i64 x.last, .bool true] 75)) w3.heap.size ⟨none, 0, 0, none, 0, 0, none, 0, 0, x.last, true⟩) := heap_alloc_at rfl
      have HB5 : Hid (Below w3.heap.size w3 (w3.alloc (.cells #[.slice none 0 0, .slice none 0 0, .slice none 0 0, .int .i64 x.last, .bool true] 75))) := (Below.refl _ _).alloc (Nat.le_refl _) _
      obtain ⟨W5, hW5⟩ : ∃ W5, w3.alloc (.cells #[.slice none 0 0, .slice none 0 0, .slice none 0 0, .int .i64 x.last, .bool true] 75) = W5 := ⟨_, rfl⟩
      rw [hW5] at HC5 HB5 ⊢
      obtain ⟨L5, hL5⟩ : ∃ z, L.take k = z := ⟨_, rfl⟩
      rw [hL5] at HO5 HCUT
      have HD5 : Hid (sncD b.seq ys (k : Int) = ⟨sortB (idsW 1 L5), sortB (idsW 2 L5), sortB (idsW 3 L5), x.last, true⟩) := by unfold Hid sncD; rw [HMO.out, HCUT.out.1, if_pos rfl, HCUT.out.2]
      obtain ⟨tt, htt⟩ : ∃ z, x.last = z := ⟨_, rfl⟩
      obtain ⟨mm, hmm⟩ : ∃ z, true = z := ⟨_, rfl⟩
      rw [htt] at HC5 HD5
      have HC5' : Hid (ChAt W5 w3.heap.size ⟨none, 0, 0, none, 0, 0, none, 0, 0, tt, mm⟩) := by rw [<- hmm]; exact HC5
      have HD5' : Hid (sncD b.seq ys (k : Int) = ⟨sortB (idsW 1 L5), sortB (idsW 2 L5), sortB (idsW 3 L5), tt, mm⟩) := by rw [<- hmm]; exact HD5
      have HTOLD : Hid (∀ p ∈ L5, p ∈ toldP ys) := fun p hp => by rw [HL.out]; rw [<- hL5] at hp; exact List.mem_of_mem_take hp
      have HLL : Hid (L5.length = k /\ L5.length <= 4398046510976) := by rw [<- hL5, List.length_take]; exact ⟨by omega, by omega⟩
      obtain ⟨p5, hp5⟩ : ∃ z, (some ⟨g, 0, none⟩ : Option Addr) = z := ⟨_, rfl⟩
      rw [hp5] at HO5 ⊢
      clear hW5 hL5 htt hmm HC5 HD5 hp5 d3 d4 d5 f3 hw1 hw2 hk0 hk2 hcap hsh HCUT hk1 hkm hkL HMO hgb hgl
      obtain ⟨m5, rfl⟩ : ∃ z, z = k := ⟨_, rfl⟩)
   | (have HMO : Hid (moreP ys most = false) := by unfold Hid; rw [hmore]; rw [Bool.and_eq_false_iff, decide_eq_false_iff_not, decide_eq_false_iff_not]; omega
      have d34 : decide ((0 : Int) < most) = false \/ (decide ((0 : Int) < most) = true /\ decide (most < (m : Int)) = false) := by
       by_cases h : 0 < most
       ·right; exact ⟨by simpa using h, by simp; omega⟩
       ·left; simpa using h
      have HC5 : Hid (ChAt (w3.alloc (.cells #[.slice none 0 0, .slice none 0 0, .slice none 0 0, .int .i64 sq, .bool false] 75)) w3.heap.size ⟨none, 0, 0, none, 0, 0, none, 0, 0, sq, false⟩) := heap_alloc_at rfl
      have HB5 : Hid (Below w3.heap.size w3 (w3.alloc (.cells #[.slice none 0 0, .slice none 0 0, .slice none 0 0, .int .i64 sq, .bool false] 75))) := (Below.refl _ _).alloc (Nat.le_refl _) _
      obtain ⟨W5, hW5⟩ : ∃ W5, w3.alloc (.cells #[.slice none 0 0, .slice none 0 0, .slice none 0 0, .int .i64 sq, .bool false] 75) = W5 := ⟨_, rfl⟩
      obtain ⟨tt, htt⟩ : ∃ z, sq = z := ⟨_, rfl⟩
      obtain ⟨mm, hmm⟩ : ∃ z, false = z := ⟨_, rfl⟩
      have HC5' : Hid (ChAt W5 w3.heap.size ⟨none, 0, 0, none, 0, 0, none, 0, 0, tt, mm⟩) := by rw [<- hmm, <- htt, <- hW5]; exact HC5
      have HD5' : Hid (sncD b.seq ys most = ⟨sortB (idsW 1 L), sortB (idsW 2 L), sortB (idsW 3 L), tt, mm⟩) := by
       have hc : cutP ys most = L := by unfold cutP; rw [if_neg (by rw [HMO.out]; decide), HL.out]
       unfold Hid sncD
       rw [HMO.out, hc, if_neg (by decide), HEQ.out.1, <- htt, <- hmm]
      rw [hW5] at HB5
      have HO5 := HO3
      have HLL : Hid (L.length = m /\ L.length <= 4398046510976) := ⟨hmL.symm, hLl⟩
      have HTOLD : Hid (∀ p ∈ L, p ∈ toldP ys) := fun p hp => by rw [HL.out]; exact hp
      clear htt hmm HC5 hmo hmore hmL HMO
      rcases d34 with d3 | ⟨d3, d4⟩
      all_goals (
       go_upto_region 8 with fail
       try rw [hW5]
       clear hW5
       obtain ⟨p5, rfl⟩ : ∃ z, z = p2 := ⟨_, rfl⟩
       obtain ⟨m5, rfl⟩ : ∃ z, z = m := ⟨_, rfl⟩
       obtain ⟨L5, rfl⟩ : ∃ z, z = L := ⟨_, rfl⟩))
  all_goals
   clear c0 c1 c2 c3 c4
   go_upto_region 9 with fail
   have HZ5 : Hid (ChAt W5 (w.heap.size + 1) RC.zero) := HZ3.out.under HB5.out HZ3.out.lt
   have HO6 : Hid (Own W5 W0.heap.size 136 encP 4 (.slice p5 m5 cc2) L5) := HO5.out.below HB5.out (Nat.le_refl _)
   have HAR : Hid (ArAt (W5.alloc (.cells #[.slice none 0 0, .slice none 0 0, .slice none 0 0, .slice none 0 0] 140)) W5.heap.size (.slice none 0 0) (.slice none 0 0) (.slice none 0 0)) := heap_alloc_at rfl
   have HB6 : Hid (Below W5.heap.size W5 (W5.alloc (.cells #[.slice none 0 0, .slice none 0 0, .slice none 0 0, .slice none 0 0] 140))) := (Below.refl _ _).alloc (Nat.le_refl _) _
   have HOO : Hid (Own3 (W5.alloc (.cells #[.slice none 0 0, .slice none 0 0, .slice none 0 0, .slice none 0 0] 140)) (W5.heap.size + 1) (.slice none 0 0) (.slice none 0 0) (.slice none 0 0) [] [] []) := ⟨Own.nil _ _ _, Own.nil _ _ _, Own.nil _ _ _, fun k e => by simp [Value.ownBlock] at e, fun k e => by simp [Value.ownBlock] at e, fun k e => by simp [Value.ownBlock] at e⟩
   obtain ⟨W6, hW6⟩ : ∃ W6, W5.alloc (.cells #[.slice none 0 0, .slice none 0 0, .slice none 0 0, .slice none 0 0] 140) = W6 := ⟨_, rfl⟩
   obtain ⟨ga, hga⟩ : ∃ g, W5.heap.size = g := ⟨_, rfl⟩
   have hz6 : W6.heap.size = ga + 1 := by rw [<- hW6, <- hga]; simp
   rw [hW6, hga] at HAR HB6 HOO
   rw [hW6, hga]
   have HZ6 : Hid (W6.heap.size = ga + 1 /\ W5.heap.size = ga /\ w3.heap.size < ga) := ⟨hz6, hga, by rw [<- hga]; exact HC5'.out.lt⟩
   clear hW6 hga hz6
   go_wp2_with fail
   go_loopw [56] (fun i wr => ∃ (j : Nat) (v1 v2 v3 : Value), j <= m5 /\ i = .int .i64 (j : Int) /\ Hid (ArAt wr ga v1 v2 v3) /\ Hid (Own3 wr (ga + 1) v1 v2 v3 (idsW 1 (L5.take j)) (idsW 2 (L5.take j)) (idsW 3 (L5.take j))) /\ Hid (Below ga W6 wr)) (fun i _ => m5 - (intOf i).toNat)
   case atStart => exact ⟨0, _, _, _, Nat.zero_le _, rfl, HAR.out, HOO.out, Below.refl _ _⟩
   case round =>
    obtain ⟨j, v1, v2, v3, hj, rfl, har, hoo, hbr⟩ := hrel
    have hzr := hbr.out.size
    by_cases hlt : j < m5
    ·obtain ⟨x, hx⟩ : ∃ x, L5[j]? = some x := ⟨_, List.getElem?_eq_getElem (by have := HLL.out; omega)⟩
     have hbw : Below ga W5 wr := HB6.out.trans hbr.out
     have HZ61 := HZ6.out
     have hor := HO6.out.below hbw (by omega)
     obtain ⟨g, hpg, hnn, hgb, hgl, hcell, hfr⟩ := Own.at codecP hor hx
     subst hpg
     have f0 := hcell 0 _ rfl
     have f1 := hcell 1 _ rfl
     have f2 := hcell 2 _ rfl
     have f3 := hcell 3 _ rfl
     rw [Nat.add_zero] at f0
     have hk0 : (0 : Int) <= (j : Int) := Int.natCast_nonneg _
     have hk1 : (j : Int) < (m5 : Int) := by omega
     have hnone : whatP x ≠ 0 := by
      have h1 := HTOLD.out x (List.mem_of_getElem? hx)
      unfold toldP at h1
      have h2 := (List.mem_filter.1 h1).2
      simpa [noneP] using h2
     have hrng : whatP x = 1 \/ whatP x = 2 \/ whatP x = 3 := by have := whatP_rng x; omega
     have HX := Lib.hid hx
     have HWA := fun W => what_any x W
     obtain ⟨kx, hkx⟩ : ∃ z, whatP x = z := ⟨_, rfl⟩
     simp only [hkx] at HWA
     rw [hkx] at hrng
     have HWA := Lib.hid HWA
     have HKX := Lib.hid hkx
     clear hnone hkx hcell hfr hnn hx hbw hor
     have HP0 : Hid (PaAt (wr.alloc (.cells #[.string x.id, .bool x.was, .bool x.isb, .int .i64 x.last] 136)) wr.heap.size x) := heap_alloc_at rfl
     have HB7 : Hid (Below ga W6 (wr.alloc (.cells #[.string x.id, .bool x.was, .bool x.isb, .int .i64 x.last] 136))) := hbr.out.alloc (by omega) _
     have HOP : Hid (Own3 (wr.alloc (.cells #[.string x.id, .bool x.was, .bool x.isb, .int .i64 x.last] 136)) (ga + 1) v1 v2 v3 (idsW 1 (L5.take j)) (idsW 2 (L5.take j)) (idsW 3 (L5.take j))) := hoo.out.same (fun k _ hk => Below.heap_alloc wr _ k hk)
     have HAP : Hid (ArAt (wr.alloc (.cells #[.string x.id, .bool x.was, .bool x.isb, .int .i64 x.last] 136)) ga v1 v2 v3) := heap_alloc_lt har.out.lt har.out
     go_upto_region 13 with (go_at_call 80; refine (HWA.out _).mono ?_; rintro e wx ⟨rfl, hbx⟩)
     have HP1 : Hid (PaAt wx wr.heap.size x) := (hbx.block _ (by simp)).trans HP0.out
     have HB8 : Hid (Below ga W6 wx) := HB7.out.trans (hbx.mono (by simp; omega))
     have HO8 : Hid (Own3 wx (ga + 1) v1 v2 v3 (idsW 1 (L5.take j)) (idsW 2 (L5.take j)) (idsW 3 (L5.take j))) := HOP.out.same (fun k _ hk => hbx.block k hk)
     have HA8 : Hid (ArAt wx ga v1 v2 v3) := (hbx.block _ HAP.out.lt).trans HAP.out
     have hgx : wr.heap.size < wx.heap.size := by have := hbx.size; simp at this; omega
     have hga8 := HA8.out.lt
     obtain ⟨gp, hgp⟩ : ∃ g, wr.heap.size = g := ⟨_, rfl⟩
     rw [hgp] at HP1 hgx ⊢
     have HGP : Hid (ga < gp) := by unfold Hid; omega
     clear HP0 HB7 HOP HAP hbx f0 f1 f2 f3 hgp har hoo hbr hzr
     have e0 := HP1.out.cell0
     have a0 := HA8.out.cell 0 rfl
     have a1 := HA8.out.cell 1 rfl
     have a2 := HA8.out.cell 2 rfl
     have a3 := HA8.out.cell 3 rfl
     rcases hrng with rfl | rfl | rfl
     ·have hl1 : (idsW 1 (L5.take j)).length <= 4398046510976 := by (have h1 := idsW_len 1 (L5.take j)); (have h2 : (L5.take j).length <= L5.length := by rw [List.length_take]; exact Nat.min_le_right _ _); (have h3 := HLL.out); omega
      have HL1 := Lib.hid hl1
      have HOX : Hid (Own3 (wx.alloc (.cells #[.string x.id] 9)) (ga + 1) v1 v2 v3 (idsW 1 (L5.take j)) (idsW 2 (L5.take j)) (idsW 3 (L5.take j))) := HO8.out.same (fun k _ hk => Below.heap_alloc wx _ k hk)
      have HAX : Hid (ArAt (wx.alloc (.cells #[.string x.id] 9)) ga v1 v2 v3) := heap_alloc_lt HA8.out.lt HA8.out
      have HRX : Hid (Rd (wx.alloc (.cells #[.string x.id] 9)) (wx.heap.size + 1) encS 1 (.slice (some ⟨wx.heap.size, 0, none⟩) 1 1) [x.id]) := Rd.one codecS (heap_alloc_at rfl) rfl (by omega)
      have HBX : Hid (Below ga W6 (wx.alloc (.cells #[.string x.id] 9))) := HB8.out.alloc (by omega) _
      clear hl1
      go_region_law
       (first
        | (refine step_append_rd slS codecS (wx.alloc (.cells #[.string x.id] 9)).drew (by rfl) (.tmp 65) (.tmp 68) (by rfl) (v := v1) (by rfl) (by rfl) HOX.out.oa HRX.out (by have := HL1.out; simp only [List.length_singleton]; unfold maxLen; omega) (by have := HL1.out; simp only [List.length_singleton]; omega) (by show ga + 1 <= (wx.alloc _).heap.size; simp; omega) ?_
           intro v9 w9 ho9 hg9 hat9
           obtain ⟨p9, n9, c9, rfl⟩ : ∃ p n c, v9 = Value.slice p n c := (by obtain ⟨p, c, hv, h1, h2⟩ := ho9.len; exact ⟨p, _, c, hv⟩)
           have HA9 : ArAt w9 ga v1 v2 v3 := (hg9.block ga (by show ga < (wx.alloc _).heap.size; simp; omega) (fun e => by have := (HOX.out.oa.lt _ e.symm).1; omega)).trans HAX.out
           have b0 := HA9.cell 0 rfl
           have b1 := HA9.cell 1 rfl
           have b2 := HA9.cell 2 rfl
           have b3 := HA9.cell 3 rfl
           have bf := HA9.frozen 1)
        | fail)
      all_goals
       have HN0 := (Own3.put1 (W := wx.alloc (.cells #[.string x.id] 9)) HOX.out ho9 ⟨hg9.os, hg9.tape, hg9.output, hg9.size, hg9.block⟩ (hat9.imp id (fun h k e => by rw [h] at e; cases e; exact Nat.le_refl _)))
       have HN1 := HN0.same (W' := w9.setCell ⟨ga, 1, none⟩ (.slice p9 n9 c9)) (fun k hk _ => heap_setCell_other w9 ⟨ga, 1, none⟩ k (.slice p9 n9 c9) (fun e => by simp at e; omega))
       have HAN := HA9.set1 (.slice p9 n9 c9)
       have HBN : Below ga W6 (w9.setCell ⟨ga, 1, none⟩ (.slice p9 n9 c9)) := ((show Below ga W6 (wx.alloc (.cells #[.string x.id] 9)).drew from HBX.out.drew).grown hg9 (by show ga <= (wx.alloc _).heap.size; simp; omega) (fun k e => by have := (HOX.out.oa.lt k e).1; omega)).setCell (p := ⟨ga, 1, none⟩) (Nat.le_refl _) _
       have hjb : j < 4398046510976 := by have := HLL.out; omega
       go_wp2_with fail
       go_roundw
       case rel =>
        have hsp := take_split HX.out
        have hi1 := idsW_snoc 1 (L5.take j) x
        have hi2 := idsW_snoc 2 (L5.take j) x
        have hi3 := idsW_snoc 3 (L5.take j) x
        rw [<- hsp, HKX.out] at hi1 hi2 hi3
        simp at hi1 hi2 hi3
        exact ⟨j + 1, _, _, _, by omega, by go_num, HAN, by unfold Hid; rw [hi1, hi2, hi3]; exact HN1, HBN⟩
       case measure => simp [intOf]; omega
     ·have hl1 : (idsW 2 (L5.take j)).length <= 4398046510976 := by (have h1 := idsW_len 2 (L5.take j)); (have h2 : (L5.take j).length <= L5.length := by rw [List.length_take]; exact Nat.min_le_right _ _); (have h3 := HLL.out); omega
      have HL1 := Lib.hid hl1
      have HOX : Hid (Own3 (wx.alloc (.cells #[.string x.id] 9)) (ga + 1) v1 v2 v3 (idsW 1 (L5.take j)) (idsW 2 (L5.take j)) (idsW 3 (L5.take j))) := HO8.out.same (fun k _ hk => Below.heap_alloc wx _ k hk)
      have HAX : Hid (ArAt (wx.alloc (.cells #[.string x.id] 9)) ga v1 v2 v3) := heap_alloc_lt HA8.out.lt HA8.out
      have HRX : Hid (Rd (wx.alloc (.cells #[.string x.id] 9)) (wx.heap.size + 1) encS 1 (.slice (some ⟨wx.heap.size, 0, none⟩) 1 1) [x.id]) := Rd.one codecS (heap_alloc_at rfl) rfl (by omega)
      have HBX : Hid (Below ga W6 (wx.alloc (.cells #[.string x.id] 9))) := HB8.out.alloc (by omega) _
      clear hl1
      go_region_law
       (first
        | (refine step_append_rd slS codecS (wx.alloc (.cells #[.string x.id] 9)).drew (by rfl) (.tmp 65) (.tmp 68) (by rfl) (v := v2) (by rfl) (by rfl) HOX.out.ob HRX.out (by have := HL1.out; simp only [List.length_singleton]; unfold maxLen; omega) (by have := HL1.out; simp only [List.length_singleton]; omega) (by show ga + 1 <= (wx.alloc _).heap.size; simp; omega) ?_
           intro v9 w9 ho9 hg9 hat9
           obtain ⟨p9, n9, c9, rfl⟩ : ∃ p n c, v9 = Value.slice p n c := (by obtain ⟨p, c, hv, h1, h2⟩ := ho9.len; exact ⟨p, _, c, hv⟩)
           have HA9 : ArAt w9 ga v1 v2 v3 := (hg9.block ga (by show ga < (wx.alloc _).heap.size; simp; omega) (fun e => by have := (HOX.out.ob.lt _ e.symm).1; omega)).trans HAX.out
           have b0 := HA9.cell 0 rfl
           have b1 := HA9.cell 1 rfl
           have b2 := HA9.cell 2 rfl
           have b3 := HA9.cell 3 rfl
           have bf := HA9.frozen 2)
        | fail)
      all_goals
       have HN0 := (Own3.put1 (W := wx.alloc (.cells #[.string x.id] 9)) HOX.out.rot ho9 ⟨hg9.os, hg9.tape, hg9.output, hg9.size, hg9.block⟩ (hat9.imp id (fun h k e => by rw [h] at e; cases e; exact Nat.le_refl _)))
       have HN1 := HN0.same (W' := w9.setCell ⟨ga, 2, none⟩ (.slice p9 n9 c9)) (fun k hk _ => heap_setCell_other w9 ⟨ga, 2, none⟩ k (.slice p9 n9 c9) (fun e => by simp at e; omega))
       have HAN := HA9.set2 (.slice p9 n9 c9)
       have HBN : Below ga W6 (w9.setCell ⟨ga, 2, none⟩ (.slice p9 n9 c9)) := ((show Below ga W6 (wx.alloc (.cells #[.string x.id] 9)).drew from HBX.out.drew).grown hg9 (by show ga <= (wx.alloc _).heap.size; simp; omega) (fun k e => by have := (HOX.out.ob.lt k e).1; omega)).setCell (p := ⟨ga, 2, none⟩) (Nat.le_refl _) _
       have hjb : j < 4398046510976 := by have := HLL.out; omega
       go_wp2_with fail
       go_roundw
       case rel =>
        have hsp := take_split HX.out
        have hi1 := idsW_snoc 1 (L5.take j) x
        have hi2 := idsW_snoc 2 (L5.take j) x
        have hi3 := idsW_snoc 3 (L5.take j) x
        rw [<- hsp, HKX.out] at hi1 hi2 hi3
        simp at hi1 hi2 hi3
        exact ⟨j + 1, _, _, _, by omega, by go_num, HAN, by unfold Hid; rw [hi1, hi2, hi3]; exact HN1.rot.rot, HBN⟩
       case measure => simp [intOf]; omega
     ·have hl1 : (idsW 3 (L5.take j)).length <= 4398046510976 := by (have h1 := idsW_len 3 (L5.take j)); (have h2 : (L5.take j).length <= L5.length := by rw [List.length_take]; exact Nat.min_le_right _ _); (have h3 := HLL.out); omega
      have HL1 := Lib.hid hl1
      have HOX : Hid (Own3 (wx.alloc (.cells #[.string x.id] 9)) (ga + 1) v1 v2 v3 (idsW 1 (L5.take j)) (idsW 2 (L5.take j)) (idsW 3 (L5.take j))) := HO8.out.same (fun k _ hk => Below.heap_alloc wx _ k hk)
      have HAX : Hid (ArAt (wx.alloc (.cells #[.string x.id] 9)) ga v1 v2 v3) := heap_alloc_lt HA8.out.lt HA8.out
      have HRX : Hid (Rd (wx.alloc (.cells #[.string x.id] 9)) (wx.heap.size + 1) encS 1 (.slice (some ⟨wx.heap.size, 0, none⟩) 1 1) [x.id]) := Rd.one codecS (heap_alloc_at rfl) rfl (by omega)
      have HBX : Hid (Below ga W6 (wx.alloc (.cells #[.string x.id] 9))) := HB8.out.alloc (by omega) _
      clear hl1
      go_region_law
       (first
        | (refine step_append_rd slS codecS (wx.alloc (.cells #[.string x.id] 9)).drew (by rfl) (.tmp 65) (.tmp 68) (by rfl) (v := v3) (by rfl) (by rfl) HOX.out.oc HRX.out (by have := HL1.out; simp only [List.length_singleton]; unfold maxLen; omega) (by have := HL1.out; simp only [List.length_singleton]; omega) (by show ga + 1 <= (wx.alloc _).heap.size; simp; omega) ?_
           intro v9 w9 ho9 hg9 hat9
           obtain ⟨p9, n9, c9, rfl⟩ : ∃ p n c, v9 = Value.slice p n c := (by obtain ⟨p, c, hv, h1, h2⟩ := ho9.len; exact ⟨p, _, c, hv⟩)
           have HA9 : ArAt w9 ga v1 v2 v3 := (hg9.block ga (by show ga < (wx.alloc _).heap.size; simp; omega) (fun e => by have := (HOX.out.oc.lt _ e.symm).1; omega)).trans HAX.out
           have b0 := HA9.cell 0 rfl
           have b1 := HA9.cell 1 rfl
           have b2 := HA9.cell 2 rfl
           have b3 := HA9.cell 3 rfl
           have bf := HA9.frozen 3)
        | fail)
      all_goals
       have HN0 := (Own3.put1 (W := wx.alloc (.cells #[.string x.id] 9)) HOX.out.rot.rot ho9 ⟨hg9.os, hg9.tape, hg9.output, hg9.size, hg9.block⟩ (hat9.imp id (fun h k e => by rw [h] at e; cases e; exact Nat.le_refl _)))
       have HN1 := HN0.same (W' := w9.setCell ⟨ga, 3, none⟩ (.slice p9 n9 c9)) (fun k hk _ => heap_setCell_other w9 ⟨ga, 3, none⟩ k (.slice p9 n9 c9) (fun e => by simp at e; omega))
       have HAN := HA9.set3 (.slice p9 n9 c9)
       have HBN : Below ga W6 (w9.setCell ⟨ga, 3, none⟩ (.slice p9 n9 c9)) := ((show Below ga W6 (wx.alloc (.cells #[.string x.id] 9)).drew from HBX.out.drew).grown hg9 (by show ga <= (wx.alloc _).heap.size; simp; omega) (fun k e => by have := (HOX.out.oc.lt k e).1; omega)).setCell (p := ⟨ga, 3, none⟩) (Nat.le_refl _) _
       have hjb : j < 4398046510976 := by have := HLL.out; omega
       go_wp2_with fail
       go_roundw
       case rel =>
        have hsp := take_split HX.out
        have hi1 := idsW_snoc 1 (L5.take j) x
        have hi2 := idsW_snoc 2 (L5.take j) x
        have hi3 := idsW_snoc 3 (L5.take j) x
        rw [<- hsp, HKX.out] at hi1 hi2 hi3
        simp at hi1 hi2 hi3
        exact ⟨j + 1, _, _, _, by omega, by go_num, HAN, by unfold Hid; rw [hi1, hi2, hi3]; exact HN1.rot, HBN⟩
       case measure => simp [intOf]; omega
    ·obtain rfl : j = m5 := by omega
     have ht : L5.take j = L5 := List.take_of_length_le (by have := HLL.out; omega)
     rw [ht] at hoo
     obtain ⟨p1, n1, k1, rfl⟩ : ∃ p n c, v1 = Value.slice p n c := (by obtain ⟨p, c, hv, h1, h2⟩ := hoo.out.oa.len; exact ⟨p, _, c, hv⟩)
     obtain ⟨p2, n2, k2, rfl⟩ : ∃ p n c, v2 = Value.slice p n c := (by obtain ⟨p, c, hv, h1, h2⟩ := hoo.out.ob.len; exact ⟨p, _, c, hv⟩)
     obtain ⟨p3, n3, k3, rfl⟩ : ∃ p n c, v3 = Value.slice p n c := (by obtain ⟨p, c, hv, h1, h2⟩ := hoo.out.oc.len; exact ⟨p, _, c, hv⟩)
     have a0 := har.out.cell 0 rfl
     have a1 := har.out.cell 1 rfl
     have a2 := har.out.cell 2 rfl
     have a3 := har.out.cell 3 rfl
     have i0 : ∀ w : World, (Instr.index 140 (.agg #[.slice none 0 0, .slice p1 n1 k1, .slice p2 n2 k2, .slice p3 n3 k3]) (.int .i64 0)).run Tryz.prog w = .ok (.slice none 0 0) w := fun _ => by kernel_rfl
     have i1 : ∀ w : World, (Instr.index 140 (.agg #[.slice none 0 0, .slice p1 n1 k1, .slice p2 n2 k2, .slice p3 n3 k3]) (.int .i64 1)).run Tryz.prog w = .ok (.slice p1 n1 k1) w := fun _ => by kernel_rfl
     have i2 : ∀ w : World, (Instr.index 140 (.agg #[.slice none 0 0, .slice p1 n1 k1, .slice p2 n2 k2, .slice p3 n3 k3]) (.int .i64 2)).run Tryz.prog w = .ok (.slice p2 n2 k2) w := fun _ => by kernel_rfl
     have i3 : ∀ w : World, (Instr.index 140 (.agg #[.slice none 0 0, .slice p1 n1 k1, .slice p2 n2 k2, .slice p3 n3 k3]) (.int .i64 3)).run Tryz.prog w = .ok (.slice p3 n3 k3) w := fun _ => by kernel_rfl
     have HSL : Hid ((idsW 1 L5).length < 4611686018427387904 /\ (idsW 2 L5).length < 4611686018427387904 /\ (idsW 3 L5).length < 4611686018427387904) := by
      have h1 := idsW_len 1 L5
      have h2 := idsW_len 2 L5
      have h3 := idsW_len 3 L5
      have h4 := HLL.out
      exact ⟨by omega, by omega, by omega⟩
     clear ht hj hlt
     go_wp2_with fail
     go_loopw [73] (fun i wq => ∃ (q : Nat) (la lb lc : List ByteArray), q <= 4 /\ i = .int .i64 (q : Int) /\ Hid (la = (if 2 <= q then sortB (idsW 1 L5) else idsW 1 L5) /\ lb = (if 3 <= q then sortB (idsW 2 L5) else idsW 2 L5) /\ lc = (if 4 <= q then sortB (idsW 3 L5) else idsW 3 L5)) /\ Hid (ArAt wq ga (.slice p1 n1 k1) (.slice p2 n2 k2) (.slice p3 n3 k3)) /\ Hid (Own3 wq (ga + 1) (.slice p1 n1 k1) (.slice p2 n2 k2) (.slice p3 n3 k3) la lb lc) /\ Hid (Below ga W6 wq)) (fun i _ => 4 - (intOf i).toNat)
     case atStart => exact ⟨0, _, _, _, by omega, rfl, ⟨rfl, rfl, rfl⟩, har, hoo, hbr⟩
     case round =>
      obtain ⟨q, la, lb, lc, hq, rfl, hls, haq, hoq, hbq⟩ := hrel
      have hgq := haq.out.lt
      have hq5 : q = 0 \/ q = 1 \/ q = 2 \/ q = 3 \/ q = 4 := by omega
      rcases hq5 with rfl | rfl | rfl | rfl | rfl
      ·go_wp2_with (go_at_call 81; refine (sortS_any _ (ga + 1) none 0 0 [] (Own.nil _ _ _) (by decide)).mono ?_; rintro e wt ⟨rfl, hot, hgt⟩)
       go_roundw
       case rel =>
        refine ⟨1, la, lb, lc, by omega, by go_num, ?_, (hgt.block ga hgq (fun e => by simp [Value.ownBlock] at e)).trans haq.out, hoq.out.same (fun k h1 h2 => hgt.block k h2 (fun e => by simp [Value.ownBlock] at e)), hbq.out.grown hgt (by omega) (fun k e => by simp [Value.ownBlock] at e)⟩
        simpa [Hid] using hls
       case measure => simp [intOf]
      ·have hls0 := hls.out
       simp at hls0
       obtain ⟨rfl, rfl, rfl⟩ := hls0
       go_wp2_with (go_at_call 81; refine (sortS_any _ (ga + 1) p1 n1 k1 _ hoq.out.oa HSL.out.1).mono ?_; rintro e wt ⟨rfl, hot, hgt⟩)
       go_roundw
       case rel =>
        exact ⟨2, _, _, _, by omega, by go_num, ⟨rfl, rfl, rfl⟩, (hgt.block ga hgq (fun e => by have := (hoq.out.oa.lt _ e.symm).1; omega)).trans haq.out, hoq.out.put1 hot hgt (Or.inl rfl), hbq.out.grown hgt (by omega) (fun k e => by have := (hoq.out.oa.lt k e).1; omega)⟩
       case measure => simp [intOf]
      ·have hls0 := hls.out
       simp at hls0
       obtain ⟨rfl, rfl, rfl⟩ := hls0
       go_wp2_with (go_at_call 81; refine (sortS_any _ (ga + 1) p2 n2 k2 _ hoq.out.ob HSL.out.2.1).mono ?_; rintro e wt ⟨rfl, hot, hgt⟩)
       go_roundw
       case rel =>
        exact ⟨3, _, _, _, by omega, by go_num, ⟨rfl, rfl, rfl⟩, (hgt.block ga hgq (fun e => by have := (hoq.out.ob.lt _ e.symm).1; omega)).trans haq.out, (hoq.out.rot.put1 hot hgt (Or.inl rfl)).rot.rot, hbq.out.grown hgt (by omega) (fun k e => by have := (hoq.out.ob.lt k e).1; omega)⟩
       case measure => simp [intOf]
      ·have hls0 := hls.out
       simp at hls0
       obtain ⟨rfl, rfl, rfl⟩ := hls0
       go_wp2_with (go_at_call 81; refine (sortS_any _ (ga + 1) p3 n3 k3 _ hoq.out.oc HSL.out.2.2).mono ?_; rintro e wt ⟨rfl, hot, hgt⟩)
       go_roundw
       case rel =>
        exact ⟨4, _, _, _, by omega, by go_num, ⟨rfl, rfl, rfl⟩, (hgt.block ga hgq (fun e => by have := (hoq.out.oc.lt _ e.symm).1; omega)).trans haq.out, (hoq.out.rot.rot.put1 hot hgt (Or.inl rfl)).rot, hbq.out.grown hgt (by omega) (fun k e => by have := (hoq.out.oc.lt k e).1; omega)⟩
       case measure => simp [intOf]
      ·have hls0 := hls.out
       simp at hls0
       obtain ⟨rfl, rfl, rfl⟩ := hls0
       have HB56 : Hid (Below ga W5 wr) := HB6.out.trans hbq.out
       have HZ61 := HZ6.out
       have HC9 : Hid (ChAt wr w3.heap.size ⟨none, 0, 0, none, 0, 0, none, 0, 0, tt, mm⟩) := HC5'.out.under HB56.out (by omega)
       have hz5 := HZ5.out.lt
       have hw03 := HW03.out
       have HZ9 : Hid (ChAt wr (w.heap.size + 1) RC.zero) := HZ5.out.under HB56.out (by omega)
       have HB9 : Hid (Below w.heap.size w wr) := HB3.out.trans ((HB5.out.trans (HB56.out.mono (by omega))).mono (by omega))
       have HLT : Hid (w.heap.size + 1 < w3.heap.size /\ w3.heap.size < ga /\ ga < wr.heap.size) := by unfold Hid; omega
       obtain ⟨gc, hgc⟩ : ∃ g, w3.heap.size = g := ⟨_, rfl⟩
       rw [hgc] at HC9 HLT ⊢
       have hlt1 := HLT.out
       have a1 := haq.out.cell 1 rfl
       have a2 := haq.out.cell 2 rfl
       have a3 := haq.out.cell 3 rfl
       obtain ⟨c0, c1, c2, c3, c4⟩ := HC9.out.cells5
       dsimp only at c0 c1 c2 c3 c4
       have x0 := HC9.out.frozen 0
       have x1 := HC9.out.frozen 1
       have x2 := HC9.out.frozen 2
       obtain ⟨z0, z1, z2, z3, z4⟩ := HZ9.out.cells5
       have y0 := HZ9.out.frozen 0
       have y1 := HZ9.out.frozen 1
       have y2 := HZ9.out.frozen 2
       have y3 := HZ9.out.frozen 3
       have y4 := HZ9.out.frozen 4
       have hne1 : gc ≠ w.heap.size + 1 := by omega
       have hne2 : ga ≠ gc := by omega
       clear hz5 hw03 hlt1 HZ61 hgq hgc i0 i1 i2 i3
       go_upto_region 20 with fail
       go_region
       all_goals
        go_wp2_with fail
        obtain ⟨f1, f2, f3⟩ := chg_end (r := ⟨p1, n1, k1, p2, n2, k2, p3, n3, k3, tt, mm⟩) HZ9.out hoq.out HLT.out.1 HLT.out.2.1 HLT.out.2.2 HB9.out (by omega)
        rw [<- HD5'.out] at f2
        dsimp only at f1 f2 f3
        obtain ⟨W9, hW9⟩ : ∃ W9, ((((((((wr.setCell ⟨gc, 0, none⟩ (.slice p1 n1 k1)).setCell ⟨gc, 1, none⟩ (.slice p2 n2 k2)).setCell ⟨gc, 2, none⟩ (.slice p3 n3 k3)).setCell ⟨w.heap.size + 1, 0, none⟩ (.slice p1 n1 k1)).setCell ⟨w.heap.size + 1, 1, none⟩ (.slice p2 n2 k2)).setCell ⟨w.heap.size + 1, 2, none⟩ (.slice p3 n3 k3)).setCell ⟨w.heap.size + 1, 3, none⟩ (.int .i64 tt)).setCell ⟨w.heap.size + 1, 4, none⟩ (.bool mm)).drew = W9 := ⟨_, rfl⟩
        rw [hW9] at f1 f2 f3 ⊢
        clear hW9 z0 z1 z2 z3 z4 c0 c1 c2 c3 c4 a1 a2 a3 x0 x1 x2 y0 y1 y2 y3 y4
        obtain ⟨z0, z1, z2, z3, z4⟩ := f1.cells5
        dsimp only at z0 z1 z2 z3 z4
        refine bodyPost_ret (v := .tuple #[RC.val ⟨p1, n1, k1, p2, n2, k2, p3, n3, k3, tt, mm⟩, .int .i64 0]) (by simp [results, Tryz.results32, go_sem, z0, z1, z2, z3, z4]) rfl ?_
        exact HX.out _ _ ⟨⟨ys, ⟨p1, n1, k1, p2, n2, k2, p3, n3, k3, tt, mm⟩, HYS.out, rfl, f2⟩, f3⟩
end
end Go.Proofs.YtfgjimpmpckgpaaGreatDoor
