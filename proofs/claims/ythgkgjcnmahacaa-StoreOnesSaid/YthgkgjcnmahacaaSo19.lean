import Derived.Test.YthgkgjcnmahacaaSo18
import Derived.Test.YthgkgjcnmahacaaSo09
import Derived.Test.YthgkgjcnmahacaaSo13
import Derived.WalkLawsBesides
import Derived.BigQuiet
section
/- cardboxref18.Told and the law's gone, walked. -/
set_option linter.unusedSimpArgs false
set_option linter.unusedVariables false
namespace Go.Proofs.Ythgkgjcnmahacaa
open Go.RowKit Go.OpenShut

set_option maxRecDepth 100000 in
set_option maxHeartbeats 2000000 in
theorem told18_any (b : BoxD) (r : RB) (id : ByteArray) (w : World) (hb : BoxOf w w.heap.size b r) (ob : b.Ok) :
    Calls Try.prog 73 #[r.val, .string id] w (Said w (toldB b.trail id = true)) := by
  have htr := (rdE_iff.1 hb.trail).2
  have hn := hb.trail.nlen
  have hlt := ob.trail
  obtain ⟨po, no, co, pt, nt, ct, sq, fl, kp⟩ := r
  dsimp only [RB.val] at *
  have hA0 : BoxAt (w.alloc (.cells #[.slice po no co, .slice pt nt ct, .int .i64 sq, .int .i64 fl, .int .i64 kp] 35)) w.heap.size ⟨po, no, co, pt, nt, ct, sq, fl, kp⟩ := heap_alloc_at rfl
  have hB0 : Below w.heap.size w (w.alloc (.cells #[.slice po no co, .slice pt nt ct, .int .i64 sq, .int .i64 fl, .int .i64 kp] 35)) := (Below.refl _ _).alloc (Nat.le_refl _) _
  have HRD := Lib.hid htr
  have HN : Hid (b.trail.length = nt) := hn
  have hnt : nt ≤ 4398046510976 := by omega
  clear hb ob htr hn hlt
  go_enter Try.func73, Try.ntmps73
  go_upto_region 1 with fail
  obtain ⟨W0, hW0⟩ : ∃ W0, (w.alloc (.cells #[.slice po no co, .slice pt nt ct, .int .i64 sq, .int .i64 fl, .int .i64 kp] 35)) = W0 := ⟨_, rfl⟩
  rw [hW0] at hA0 hB0 ⊢
  clear hW0
  have c0 := hA0.cell 1 (u := .slice pt nt ct) rfl
  have HB := Lib.hid hB0
  have hz := hA0.lt
  have HRB := Lib.hid (HRD.out.below hB0 (Nat.le_refl _))
  clear hA0 hB0 HRD
  go_wp2_with fail
  go_loopw [5] (fun i wr => ∃ k : Nat, k ≤ nt ∧ i = .int .i64 k ∧ Hid (toldB (b.trail.take k) id = false) ∧ wr = W0) (fun i _ => nt - (intOf i).toNat)
  case atStart => exact ⟨0, Nat.zero_le _, rfl, by simp [Hid, toldB], rfl⟩
  case round =>
    obtain ⟨k, hk, rfl, htk, rfl⟩ := hrel
    by_cases hlt : k < nt
    · obtain ⟨x, hx⟩ : ∃ x, b.trail[k]? = some x := ⟨_, List.getElem?_eq_getElem (by have := HN.out; omega)⟩
      obtain ⟨b1, o1, rfl, hb1, hc1⟩ := rd_at' HRB.out hx
      have f0 := hc1 0 _ rfl
      have f1 := hc1 1 _ rfl
      have f2 := hc1 2 _ rfl
      have hk0 : (0 : Int) ≤ (k : Int) := Int.natCast_nonneg _
      have hk1 : (k : Int) < (nt : Int) := by omega
      have HX : Hid (b.trail[k]? = some x) := hx
      clear hx hc1
      by_cases he : x.id = id
      · have he1 : (x.id.toList == id.toList) = true := by rw [str_beq]; simpa using he
        have HE := Lib.hid he
        clear he
        go_wp2_with fail
        go_ret
        refine ⟨true, rfl, ⟨fun _ => ?_, fun _ => rfl⟩, HB.out⟩
        exact List.any_eq_true.2 ⟨x, List.mem_of_getElem? HX.out, by simpa using HE.out⟩
      · have he1 : (x.id.toList == id.toList) = false := by rw [str_beq]; simpa using he
        have HE := Lib.hid he
        clear he
        go_wp2_with fail
        go_roundw
        case rel =>
          refine ⟨k + 1, by omega, by go_num, ?_, by trivial⟩
          have h := htk.out
          have hx2 := HX.out
          unfold toldB at h
          unfold Hid toldB
          rw [List.take_add_one, hx2, List.any_append, h]
          simpa using HE.out
        case measure => simp [intOf]; omega
    · have hk2 : ¬ ((k : Int) < (nt : Int)) := by omega
      go_wp2_with fail
      go_ret
      refine ⟨false, rfl, ⟨fun h => by simp at h, fun h => ?_⟩, HB.out⟩
      have h2 := htk.out
      rw [List.take_of_length_le (by have := HN.out; omega)] at h2
      rw [h2] at h
      exact absurd h (by decide)
theorem findJ_isSome {os : Obs} (hr : Rise os) (id : ByteArray) : (findJ os id).isSome = isAt os id := by
  rw [← look_isSome]
  cases e : look os id with
  | some v =>
    have h := (look_mem hr (id, v)).2 e
    unfold findJ
    rw [Option.isSome_map]
    show _ = true
    rw [List.find?_isSome]
    exact ⟨_, h, by simp⟩
  | none =>
    cases e2 : findJ os id with
    | none => rfl
    | some v =>
      exfalso
      unfold findJ at e2
      obtain ⟨p, hp, hv⟩ := Option.map_eq_some_iff.1 e2
      have h1 := List.find?_some hp
      have h2 := List.mem_of_find?_eq_some hp
      have h3 := (look_mem hr p).1 h2
      simp at h1
      rw [h1, e] at h3
      simp at h3
set_option maxRecDepth 100000 in
set_option maxHeartbeats 2000000 in
theorem gone_any (b : BoxD) (r : RB) (id : ByteArray) (w : World) (hb : BoxOf w w.heap.size b r) (hr : Rise b.objs) (ob : b.Ok) :
    Calls Try.prog 32 #[r.val, .string id] w (Said w (¬ NotGone b id)) := by
  have hA0 : BoxAt (w.alloc r.obj) w.heap.size r := heap_alloc_at rfl
  have hB0 : Below w.heap.size w (w.alloc r.obj) := (Below.refl _ _).alloc (Nat.le_refl _) _
  have HBX := Lib.hid hb
  have HOB := Lib.hid ob
  have HR := Lib.hid hr
  clear hb ob hr
  go_enter Try.func32, Try.ntmps32
  go_upto_region 1 with fail
  obtain ⟨W0, hW0⟩ : ∃ W0, (w.alloc r.obj) = W0 := ⟨_, rfl⟩
  rw [hW0] at hA0 hB0
  dsimp only [RB.obj] at hW0
  rw [hW0]
  clear hW0
  have c0 := hA0.cell 0 rfl
  have c1 := hA0.cell 1 rfl
  have c2 := hA0.cell 2 rfl
  have c3 := hA0.cell 3 rfl
  have c4 := hA0.cell 4 rfl
  have HB := Lib.hid hB0
  have hz := hA0.lt
  have HA := Lib.hid hA0
  clear hA0 hB0
  go_upto_region 2 with (go_at_call 26; refine (find_any b r id W0 (HBX.out.under HB.out HB.out.size) HOB.out).mono ?_; rintro e w1 ⟨q, rfl, hq, hb1⟩)
  have hf := findJ_isSome HR.out id
  obtain ⟨f, hff⟩ : ∃ f, (findJ b.objs id).isSome = f := ⟨_, rfl⟩
  rw [hff] at hf ⊢
  have HF := Lib.hid hf
  have hz1 := hb1.size
  have hA2 : BoxAt (w1.alloc (.cells #[.int .i64 q.k, .int .i64 q.n, .string q.s, .slice q.pl q.nl q.cl, .slice q.pm q.nm q.cm] 25)) w.heap.size r := heap_alloc_lt (by omega) (HA.out.under hb1 hz)
  have HB2 := Lib.hid (((HB.out.trans (hb1.mono HB.out.size)).alloc (by have := HB.out.size; omega) (.cells #[.int .i64 q.k, .int .i64 q.n, .string q.s, .slice q.pl q.nl q.cl, .slice q.pm q.nm q.cm] 25)))
  obtain ⟨W2, hW2⟩ : ∃ W2, w1.alloc (.cells #[.int .i64 q.k, .int .i64 q.n, .string q.s, .slice q.pl q.nl q.cl, .slice q.pm q.nm q.cm] 25) = W2 := ⟨_, rfl⟩
  rw [hW2] at hA2 HB2 ⊢
  clear c0 c1 c2 c3 c4 hW2 hz1 hb1 hq HB HA hz hf hff
  have hz := hA2.lt
  have c0 := hA2.cell 0 rfl
  have c1 := hA2.cell 1 rfl
  have c2 := hA2.cell 2 rfl
  have c3 := hA2.cell 3 rfl
  have c4 := hA2.cell 4 rfl
  clear hA2
  cases f with
  | true =>
    go_wp2_with fail
    go_ret
    exact ⟨false, rfl, ⟨fun h => by simp at h, fun h => absurd (.inl HF.out.symm) h⟩, HB2.out⟩
  | false =>
    go_wp2_with fail
    refine (told18_any b r id W2 (HBX.out.under HB2.out HB2.out.size) HOB.out).mono ?_
    rintro e w3 ⟨y, rfl, hy, hb3⟩
    go_wp2_with fail
    go_ret
    refine ⟨y, rfl, ?_, HB2.out.trans (hb3.mono HB2.out.size)⟩
    have h := HF.out
    unfold NotGone
    rw [← h, hy]
    simp
end Go.Proofs.Ythgkgjcnmahacaa
end

section
/- store.Ids, walked. -/
set_option linter.unusedSimpArgs false
set_option linter.unusedVariables false
namespace Go.Proofs.Ythgkgjcnmahacaa
open Go.RowKit Go.OpenShut

def encS (s : ByteArray) : List Value := [.string s]
theorem codecS : Codec encS 1 := ⟨fun _ => rfl, fun x u hu => by
  simp only [encS, List.mem_cons, List.not_mem_nil, or_false] at hu
  subst hu; rfl, by decide⟩
theorem slS : SlT Try.prog 43 9 1 16 := SlT.mk (z := .string ByteArray.empty) Try.underlying43 (by kernel_rfl) rfl
def IdsRet (w : World) (l : List ByteArray) (e : Ending) (w' : World) : Prop := ∃ u, e = .returned u ∧ Own w' w.heap.size 9 encS 1 u l ∧ Below w.heap.size w w'

set_option maxRecDepth 100000 in
set_option maxHeartbeats 2000000 in
theorem ids_any (b : BoxD) (r : RB) (w : World) (hb : BoxOf w w.heap.size b r) (ob : b.Ok) :
    Calls Try.prog 24 #[r.val] w (IdsRet w (b.objs.map (·.1))) := by
  have ho := hb.objs
  obtain ⟨po, no, co, pt, nt, ct, sq, fl, kp⟩ := r
  dsimp only [RB.val] at *
  obtain ⟨rms, hrd, hms⟩ := ho
  have hn := rd_nlen hrd
  have hlm := hms.len
  have hzo := ob.objs
  have hA0 : BoxAt (w.alloc (.cells #[.slice po no co, .slice pt nt ct, .int .i64 sq, .int .i64 fl, .int .i64 kp] 35)) w.heap.size ⟨po, no, co, pt, nt, ct, sq, fl, kp⟩ := heap_alloc_at rfl
  have hB0 : Below w.heap.size w (w.alloc (.cells #[.slice po no co, .slice pt nt ct, .int .i64 sq, .int .i64 fl, .int .i64 kp] 35)) := (Below.refl _ _).alloc (Nat.le_refl _) _
  have HRD := Lib.hid hrd
  have HMS := Lib.hid hms
  have HN : Hid (b.objs.length = no ∧ rms.length = no) := ⟨by omega, by omega⟩
  have hno : no ≤ 1466015503658 := by omega
  clear hb hrd hms hn hlm hzo ob
  go_enter Try.func24, Try.ntmps24
  go_upto_region 1 with fail
  obtain ⟨W0, hW0⟩ : ∃ W0, (w.alloc (.cells #[.slice po no co, .slice pt nt ct, .int .i64 sq, .int .i64 fl, .int .i64 kp] 35)) = W0 := ⟨_, rfl⟩
  rw [hW0] at hA0 hB0 ⊢
  clear hW0
  have c0 := hA0.cell 0 rfl
  dsimp only at c0
  have HB := Lib.hid hB0
  have hz := hA0.lt
  clear hA0 hB0
  go_wp2_with fail
  go_loopw [3, 9] (fun o i wr => ∃ k : Nat, k ≤ no ∧ i = .int .i64 k ∧ Hid (Own wr w.heap.size 9 encS 1 o ((b.objs.take k).map (·.1))) ∧ Below w.heap.size w wr) (fun _ i _ => no - (intOf i).toNat)
  case atStart => exact ⟨0, Nat.zero_le _, rfl, Own.nil _ _ _, HB.out⟩
  case round =>
    obtain ⟨k, hk, rfl, hown, hbr⟩ := hrel
    by_cases hlt : k < no
    · obtain ⟨x, hx⟩ : ∃ x, rms[k]? = some x := ⟨_, List.getElem?_eq_getElem (by have := HN.out; omega)⟩
      obtain ⟨p, hp⟩ : ∃ x, b.objs[k]? = some x := ⟨_, List.getElem?_eq_getElem (by have := HN.out; omega)⟩
      have hpn := HMS.out.name _ p x hp hx
      obtain ⟨b1, o1, rfl, hb1, hc1⟩ := rd_at' (HRD.out.below hbr (Nat.le_refl _)) hx
      have f0 := hc1 0 _ rfl
      have f1 := hc1 1 _ rfl
      have f2 := hc1 2 _ rfl
      have f3 := hc1 3 _ rfl
      have f4 := hc1 4 _ rfl
      have f5 := hc1 5 _ rfl
      rw [Nat.add_zero] at f0
      have hk0 : (0 : Int) ≤ (k : Int) := Int.natCast_nonneg _
      have hk1 : (k : Int) < (no : Int) := by omega
      have hsn : (b.objs.take (k + 1)).map (·.1) = (b.objs.take k).map (·.1) ++ [x.name] := by rw [List.take_add_one, hp]; simp [hpn]
      have HSN := Lib.hid hsn
      have HBR := Lib.hid hbr
      have HO2 := Lib.hid ((hown.out.alloc (.cells #[.string x.name, .int .i64 x.v.k, .int .i64 x.v.n, .string x.v.s, .slice x.v.pl x.v.nl x.v.cl, .slice x.v.pm x.v.nm x.v.cm] 46)).alloc (.cells #[.string x.name] 9))
      have HB2 := Lib.hid ((hbr.alloc hbr.size (.cells #[.string x.name, .int .i64 x.v.k, .int .i64 x.v.n, .string x.v.s, .slice x.v.pl x.v.nl x.v.cl, .slice x.v.pm x.v.nm x.v.cm] 46)).alloc (by simp; have := hbr.size; omega) (.cells #[.string x.name] 9))
      have HR2 : Hid (Rd ((wr.alloc (.cells #[.string x.name, .int .i64 x.v.k, .int .i64 x.v.n, .string x.v.s, .slice x.v.pl x.v.nl x.v.cl, .slice x.v.pm x.v.nm x.v.cm] 46)).alloc (.cells #[.string x.name] 9)) (wr.heap.size + 1 + 1) encS 1 (.slice (some ⟨wr.heap.size + 1, 0, none⟩) 1 1) [x.name]) := Rd.one codecS (heap_alloc_at (by simp)) rfl (by omega)
      have hl : ((b.objs.take k).map (·.1)).length ≤ 1466015503658 := by simp; omega
      have HL := Lib.hid hl
      clear hx hp hpn hc1 hbr hsn hown hl
      go_wp2_with (at_builtin; refine wpList_append_rd slS codecS _ rfl _ _ rfl rfl rfl HO2.out HR2.out (by have := HL.out; simp only [List.length_singleton]; unfold maxLen; omega) (by have := HL.out; simp only [List.length_singleton]; omega) (by have := HBR.out.size; simp; omega) ?_; intro v1 w1 ho1 hg1 hat1)
      go_roundw
      case rel => exact ⟨k + 1, by omega, by go_num, by unfold Hid; rw [HSN.out]; exact ho1, Below.appended HB2.out hg1 HO2.out HB2.out.size⟩
      case measure => simp [intOf]; omega
    · obtain rfl : k = no := by omega
      go_wp2_with fail
      go_ret
      refine ⟨_, rfl, ?_, hbr⟩
      have h := hown.out
      rw [List.take_of_length_le (by have := HN.out; omega)] at h
      exact h
end Go.Proofs.Ythgkgjcnmahacaa
end

section
/- New boxes; a number as a value; lists of texts compared: walked. -/
set_option linter.unusedSimpArgs false
set_option linter.unusedVariables false
namespace Go.Proofs.Ythgkgjcnmahacaa
open Go.RowKit Go.OpenShut

/-- A number between two others. -/
def clampI (n hi : Int) : Int := if n < 0 then 0 else if hi < n then hi else n
theorem clamp_eq {n hi : Int} (h : 0 ≤ hi := by decide) : min (max n 0) hi = clampI n hi := by unfold clampI; split <;> (try split) <;> omega
def newB (start keep : Int) : BoxD := ⟨[], [], clampI start 9007199254740991, clampI start 9007199254740991, clampI keep 1000⟩
def newR (start keep : Int) : RB := ⟨none, 0, 0, none, 0, 0, clampI start 9007199254740991, clampI start 9007199254740991, clampI keep 1000⟩
theorem newB_of (w : World) (B : Nat) (start keep : Int) : BoxOf w B (newB start keep) (newR start keep) := ⟨ObjsOf.nil _ _, RdE.nil _ _, rfl, rfl, rfl⟩
def NewRetB (w : World) (start keep : Int) (e : Ending) (w' : World) : Prop := e = .returned (RB.val (newR start keep)) ∧ Below w.heap.size w w'
theorem ret_new {a b c d : Int} (h1 : a = b) (h2 : c = d) : Ending.returned (RB.val ⟨none, 0, 0, none, 0, 0, a, a, c⟩) = .returned (RB.val ⟨none, 0, 0, none, 0, 0, b, b, d⟩) := by rw [h1, h2]

set_option maxRecDepth 100000 in
set_option maxHeartbeats 2000000 in
theorem new_any (start keep : Int) (w : World) : Calls Try.prog 29 #[.int .i64 start, .int .i64 keep] w (NewRetB w start keep) := by
  have hZ0 : BoxAt (w.alloc (.cells #[.slice none 0 0, .slice none 0 0, .int .i64 0, .int .i64 0, .int .i64 0] 35)) w.heap.size RB.zero := heap_alloc_at rfl
  have hB0 : Below w.heap.size w (w.alloc (.cells #[.slice none 0 0, .slice none 0 0, .int .i64 0, .int .i64 0, .int .i64 0] 35)) := (Below.refl _ _).alloc (Nat.le_refl _) _
  go_enter Try.func29, Try.ntmps29
  go_upto_region 1 with fail
  obtain ⟨W0, hW0⟩ : ∃ W0, (w.alloc (.cells #[.slice none 0 0, .slice none 0 0, .int .i64 0, .int .i64 0, .int .i64 0] 35)) = W0 := ⟨_, rfl⟩
  rw [hW0] at hZ0 hB0 ⊢
  clear hW0
  have z0 := hZ0.cell 0 rfl
  have z1 := hZ0.cell 1 rfl
  have z2 := hZ0.cell 2 rfl
  have z3 := hZ0.cell 3 rfl
  have z4 := hZ0.cell 4 rfl
  dsimp only [RB.zero] at z0 z1 z2 z3 z4
  have y0 := hZ0.frozen 0
  have y1 := hZ0.frozen 1
  have y2 := hZ0.frozen 2
  have y3 := hZ0.frozen 3
  have y4 := hZ0.frozen 4
  have HZ := Lib.hid hZ0
  have HB := Lib.hid hB0
  clear hZ0 hB0
  go_wp2_with fail
  have hS := HZ.out.stored (newR start keep)
  have hg := grownBy_setB W0 w.heap.size (newR start keep)
  refine bodyPost_ret (v := RB.val (newR start keep)) (by simp [results, Try.results29, go_sem, newR, clamp_eq, z0, z1, z2, z3, z4]) rfl ⟨rfl, ?_⟩
  exact Below.setCell (Below.setCell (Below.setCell (Below.setCell (Below.setCell HB.out (Nat.le_refl _) _) (Nat.le_refl _) _) (Nat.le_refl _) _) (Nat.le_refl _) _) (Nat.le_refl _) _

set_option maxRecDepth 100000 in
set_option maxHeartbeats 2000000 in
theorem num_any (n : Int) (w : World) : Calls Try.prog 56 #[.int .i64 n] w fun e w' => e = .returned (RV.val ⟨3, n, ⟨#[]⟩, none, 0, 0, none, 0, 0⟩) ∧ Below w.heap.size w w' := by
  have hZ0 : VAt (w.alloc (.cells #[.int .i64 0, .int .i64 0, .string ⟨#[]⟩, .slice none 0 0, .slice none 0 0] 25)) w.heap.size RV.zero := heap_alloc_at rfl
  have hB0 : Below w.heap.size w (w.alloc (.cells #[.int .i64 0, .int .i64 0, .string ⟨#[]⟩, .slice none 0 0, .slice none 0 0] 25)) := (Below.refl _ _).alloc (Nat.le_refl _) _
  go_enter Try.func56, Try.ntmps56
  go_upto_region 1 with fail
  obtain ⟨W0, hW0⟩ : ∃ W0, (w.alloc (.cells #[.int .i64 0, .int .i64 0, .string ⟨#[]⟩, .slice none 0 0, .slice none 0 0] 25)) = W0 := ⟨_, rfl⟩
  rw [hW0] at hZ0 hB0 ⊢
  clear hW0
  have z0 := hZ0.cell 0 rfl
  have z1 := hZ0.cell 1 rfl
  have z2 := hZ0.cell 2 rfl
  have z3 := hZ0.cell 3 rfl
  have z4 := hZ0.cell 4 rfl
  dsimp only [RV.zero] at z0 z1 z2 z3 z4
  have y0 := hZ0.frozen 0
  have y1 := hZ0.frozen 1
  have y2 := hZ0.frozen 2
  have y3 := hZ0.frozen 3
  have y4 := hZ0.frozen 4
  have HB := Lib.hid hB0
  clear hZ0 hB0
  go_wp2_with fail
  refine bodyPost_ret (v := RV.val ⟨3, n, ⟨#[]⟩, none, 0, 0, none, 0, 0⟩) (by simp [results, Try.results56, go_sem, z0, z1, z2, z3, z4]) rfl ⟨rfl, ?_⟩
  exact Below.stored HB.out (Nat.le_refl _) ⟨3, n, ⟨#[]⟩, none, 0, 0, none, 0, 0⟩

set_option maxRecDepth 100000 in
set_option maxHeartbeats 2000000 in
theorem sameParts_any (w : World) (B : Nat) (u v : Value) (l m : List ByteArray) (hu : Rd w B encS 1 u l) (hv : Rd w B encS 1 v m) :
    Calls Try.prog 49 #[u, v] w fun e w' => e = .returned (.bool (decide (l = m))) ∧ ∃ n, w' = w.drewN n := by
  obtain ⟨p, c, rfl, hlc, hcm⟩ := rd_len hu
  obtain ⟨q, d, rfl, hmd, hdm⟩ := rd_len hv
  have HU := Lib.hid hu
  have HV := Lib.hid hv
  clear hu hv
  by_cases hlen : l.length = m.length
  · have hb : ((l.length : Int) != (m.length : Int)) = false := by simp [hlen]
    have HL := Lib.hid hlen
    have hle : l.length ≤ m.length := by omega
    have hle2 : m.length ≤ l.length := by omega
    clear hlen
    go_enter Try.func49, Try.ntmps49
    go_wp2_with fail
    go_loopw [5] (fun i wr => ∃ k : Nat, k ≤ l.length ∧ i = .int .i64 k ∧ Hid (l.take k = m.take k) ∧ ∃ n, wr = w.drewN n) (fun i _ => l.length - (intOf i).toNat)
    case atStart => exact ⟨0, Nat.zero_le _, rfl, rfl, 0, rfl⟩
    case round =>
      obtain ⟨k, hk, rfl, htk, nr, rfl⟩ := hrel
      by_cases hlt : k < l.length
      · obtain ⟨x, hx⟩ : ∃ x, l[k]? = some x := ⟨_, List.getElem?_eq_getElem hlt⟩
        obtain ⟨y, hy⟩ : ∃ x, m[k]? = some x := ⟨_, List.getElem?_eq_getElem (by omega)⟩
        obtain ⟨b1, o1, rfl, hb1, hc1⟩ := rd_at HU.out hx
        obtain ⟨b2, o2, rfl, hb2, hc2⟩ := rd_at HV.out hy
        have f0 := hc1 0 _ rfl
        have g0 := hc2 0 _ rfl
        rw [Nat.add_zero, Nat.mul_one] at f0 g0
        have hk0 : (0 : Int) ≤ (k : Int) := Int.natCast_nonneg _
        have hk1 : (k : Int) < (l.length : Int) := by omega
        have hk2 : (k : Int) < (m.length : Int) := by omega
        have hq := str_beq x y
        by_cases hxy : x = y
        · have e2 : (x.toList == y.toList) = true := by rw [hq]; simpa using hxy
          have e1 : (x.toList != y.toList) = false := by rw [bne, e2]; rfl
          have HTK : Hid (l.take (k + 1) = m.take (k + 1)) := by
            unfold Hid
            rw [List.take_add_one, List.take_add_one, hx, hy, htk.out, hxy]
          clear hx hy hc1 hc2 hq hxy htk
          go_wp2_with fail
          go_quiet (fail)
          go_wp2_with fail
          go_roundw
          case rel => exact ⟨k + 1, by omega, by go_num, HTK, _, rfl⟩
          case measure => simp [intOf]; omega
        · have e2 : (x.toList == y.toList) = false := by rw [hq]; simpa using hxy
          have e1 : (x.toList != y.toList) = true := by rw [bne, e2]; rfl
          have HNO : Hid (decide (l = m) = false) := eqTake_ne hx hy hxy
          clear hx hy hc1 hc2 hq hxy htk
          go_wp2_with fail
          go_quiet (fail)
          go_wp2_with fail
          go_ret
          exact ⟨ret_bool HNO.out.symm, _, World.drewN_drewN _ _ _⟩
      · obtain rfl : k = l.length := by omega
        have HYES : Hid (decide (l = m) = true) := by
          have h := htk.out
          rw [List.take_of_length_le (Nat.le_refl _), List.take_of_length_le hle2] at h
          unfold Hid
          simpa using h
        go_wp2_with fail
        go_ret
        exact ⟨ret_bool HYES.out.symm, _, rfl⟩
  · have hb : ((l.length : Int) != (m.length : Int)) = true := by simp; omega
    have HNO : Hid (decide (l = m) = false) := by unfold Hid; rw [decide_eq_false_iff_not]; exact fun h => hlen (by rw [h])
    clear hlen
    go_enter Try.func49, Try.ntmps49
    go_wp2_with fail
    go_ret
    exact ⟨ret_bool HNO.out.symm, 0, rfl⟩
end Go.Proofs.Ythgkgjcnmahacaa
end

section
/- Whether a box is right, told by the last entry of each id. -/
set_option linter.unusedSimpArgs false
set_option linter.unusedVariables false
namespace Go.Proofs.Ythgkgjcnmahacaa
open Go.RowKit Go.OpenShut

theorem lastW_fold (id : ByteArray) : ∀ (l : List En) (a : Int), l.foldl (fun a e => if e.id = id then e.what else a) a = if toldB l id = true then lastW l id else a
  | [], a => by simp [toldB]
  | e :: r, a => by
    have h1 := lastW_fold id r (if e.id = id then e.what else a)
    have h2 := lastW_fold id r (if e.id = id then e.what else 0)
    unfold lastW at h1 h2 ⊢
    rw [List.foldl_cons, List.foldl_cons, h1, h2]
    unfold toldB
    rw [List.any_cons]
    by_cases h3 : r.any (fun e => decide (e.id = id)) = true
    · simp [h3, toldB]
    · by_cases h4 : e.id = id <;> simp [h3, h4, toldB]
theorem lastW_cons (e : En) (r : List En) (id : ByteArray) : lastW (e :: r) id = if toldB r id = true then lastW r id else if e.id = id then e.what else 0 := by
  unfold lastW
  rw [List.foldl_cons, lastW_fold]
  rfl
theorem since_told {sq : Int} {l : List En} {p : Pa} (hp : p ∈ sinceL sq l) : toldB l p.id = true := by
  obtain ⟨y, hy, h, _⟩ := (sinceL_id sq p.id l).1 ⟨p, hp, rfl⟩
  exact List.any_eq_true.2 ⟨y, hy, by simpa using h⟩
theorem upd_isb (e : En) (p : Pa) : (updP e p).isb = p.isb := by unfold updP; split <;> rfl
theorem since_isb (sq : Int) : ∀ l : List En, (∀ e ∈ l, sq < e.seq) → ∀ p ∈ sinceL sq l, p.isb = (lastW l p.id != 3)
  | [], _, p, hp => by simp [sinceL] at hp
  | e :: r, h, p, hp => by
    have ih := since_isb sq r (fun x hx => h x (List.mem_cons_of_mem _ hx))
    have he := h e (by simp)
    rw [sinceL_cons, if_neg (by omega)] at hp
    rw [lastW_cons]
    split at hp
    · obtain ⟨q, hq, rfl⟩ := List.mem_map.1 hp
      rw [upd_isb, upd_id, if_pos (since_told hq)]
      exact ih q hq
    · rename_i hk
      rcases List.mem_cons.1 hp with rfl | hp
      · have hn : ¬ toldB r (newP e).id = true := by
          intro ht
          obtain ⟨y, hy, hi⟩ := List.any_eq_true.1 ht
          obtain ⟨q, hq, e2⟩ := (sinceL_id sq e.id r).2 ⟨y, hy, (by simpa using hi : y.id = (newP e).id), h y (List.mem_cons_of_mem _ hy)⟩
          exact hk (List.any_eq_true.2 ⟨q, hq, by simpa using e2⟩)
        rw [if_neg hn, if_pos (show e.id = (newP e).id from rfl)]
        rfl
      · rw [if_pos (since_told hp)]
        exact ih p hp
theorem right_seq {l : List En} {floor seq : Int} (h : rightB l floor seq = true) : ∀ e ∈ l, floor < e.seq := by
  intro e he
  obtain ⟨k, hk⟩ := List.getElem?_of_mem he
  unfold rightB at h
  simp only [Bool.and_eq_true, List.all_eq_true, List.mem_range] at h
  have := h.2 k (List.getElem?_eq_some_iff.1 hk).1
  rw [okAt_of hk] at this
  simp only [Bool.and_eq_true, beq_iff_eq] at this
  omega
/-- A box is right, told by the last entry of each id. -/
def RightQ (b : BoxD) : Prop := Rising b.objs ∧ 0 ≤ b.keep ∧ b.keep ≤ 1000 ∧ (b.trail.length : Int) ≤ b.keep ∧ rightB b.trail b.floor b.seq = true ∧ ∀ e ∈ b.trail, (findJ b.objs e.id).isSome = (lastW b.trail e.id != 3)
theorem rightBx_iff (b : BoxD) : RightBx b ↔ RightQ b := by
  unfold RightBx RightQ
  constructor
  · rintro ⟨h1, h2, h3, h4, h5, h6⟩
    refine ⟨h1, h2, h3, h4, h5, fun e he => ?_⟩
    rw [findJ_isSome (rise_iff.1 h1)]
    obtain ⟨p, hp, hi⟩ := (sinceL_id b.floor e.id b.trail).2 ⟨e, he, rfl, right_seq h5 e he⟩
    rw [← hi, h6 p hp]
    exact since_isb b.floor b.trail (right_seq h5) p hp
  · rintro ⟨h1, h2, h3, h4, h5, h6⟩
    refine ⟨h1, h2, h3, h4, h5, fun p hp => ?_⟩
    obtain ⟨e, he, hi⟩ := List.any_eq_true.1 (since_told hp)
    have hi : e.id = p.id := by simpa using hi
    rw [← findJ_isSome (rise_iff.1 h1), ← hi, h6 e he, since_isb b.floor b.trail (right_seq h5) p hp, hi]
/-- New boxes are right. -/
theorem newB_right (start keep : Int) : RightBx (newB start keep) := by
  have h1 : 0 ≤ clampI start 9007199254740991 ∧ clampI start 9007199254740991 ≤ 9007199254740991 := by unfold clampI; split <;> (try split) <;> omega
  have h2 : 0 ≤ clampI keep 1000 ∧ clampI keep 1000 ≤ 1000 := by unfold clampI; split <;> (try split) <;> omega
  refine ⟨fun i j p q _ h => by simp [newB] at h, h2.1, h2.2, by simpa [newB] using h2.1, ?_, fun p hp => by simp [newB, sinceL] at hp⟩
  simp [rightB, headB, newB, h1]
end Go.Proofs.Ythgkgjcnmahacaa
end
