import Derived.Test.YtanemojiaahbgaaGreatDoorSf07
import Derived.Test.YtanemojiaahbgaaGreatDoorSf24
import Derived.Test.YtanemojiaahbgaaGreatDoorSf08
import Derived.Test.YtanemojiaahbgaaGreatDoorSf13
import Derived.Test.YtanemojiaahbgaaGreatDoorSf15
section
/- A list of texts as a value: fetch.texts, ref26.Texts; walked. -/
set_option linter.unusedSimpArgs false
set_option linter.unusedVariables false
namespace Go.Proofs.YtanemojiaahbgaaGreatDoor
open Go Go.RowKit Go.OpenShut

/-- A list of texts, in memory of the call's own. -/
def TextsRet (w : World) (l : List ByteArray) (e : Ending) (w' : World) : Prop := ∃ p n c, e = .returned (RV.val ⟨5, 0, ⟨#[]⟩, p, n, c, none, 0, 0⟩) ∧ Own w' w.heap.size 31 encV 5 (.slice p n c) (l.map textR) ∧ Below w.heap.size w w'
set_option maxRecDepth 100000 in
set_option maxHeartbeats 4000000 in
theorem texts_any (l : List ByteArray) (p : Option Addr) (n c : Nat) (w : World) (hr : Rd w w.heap.size encS 1 (.slice p n c) l) (hl : l.length ≤ 100000) : Calls Tryz.prog 30 #[.slice p n c] w (TextsRet w l) := by
  have hn := rd_nlen hr
  have hZ0 : VAt ((w.alloc (.cells #[.int .i64 0, .int .i64 0, .string ⟨#[]⟩, .slice none 0 0, .slice none 0 0] 31)).alloc (.cells #[.int .i64 5, .int .i64 0, .string ⟨#[]⟩, .slice none 0 0, .slice none 0 0] 31)) w.heap.size RV.zero := heap_alloc_lt (by simp) (heap_alloc_at rfl)
  have hV0 : VAt ((w.alloc (.cells #[.int .i64 0, .int .i64 0, .string ⟨#[]⟩, .slice none 0 0, .slice none 0 0] 31)).alloc (.cells #[.int .i64 5, .int .i64 0, .string ⟨#[]⟩, .slice none 0 0, .slice none 0 0] 31)) (w.heap.size + 1) ⟨5, 0, ⟨#[]⟩, none, 0, 0, none, 0, 0⟩ := heap_alloc_at (by simp)
  have hB0 := below2 w (.cells #[.int .i64 0, .int .i64 0, .string ⟨#[]⟩, .slice none 0 0, .slice none 0 0] 31) (.cells #[.int .i64 5, .int .i64 0, .string ⟨#[]⟩, .slice none 0 0, .slice none 0 0] 31)
  have HR := Lib.hid hr
  have hno : n ≤ 100000 := by omega
  have HN : Hid (l.length = n) := hn.symm
  clear hr hn hl
  go_enter Tryz.func30, Tryz.ntmps30
  go_upto_region 2 with fail
  obtain ⟨W0, hW0⟩ : ∃ W0, ((w.alloc (.cells #[.int .i64 0, .int .i64 0, .string ⟨#[]⟩, .slice none 0 0, .slice none 0 0] 31)).alloc (.cells #[.int .i64 5, .int .i64 0, .string ⟨#[]⟩, .slice none 0 0, .slice none 0 0] 31)) = W0 := ⟨_, rfl⟩
  rw [hW0] at hZ0 hV0 hB0 ⊢
  clear hW0
  have HZ0 := Lib.hid hZ0
  have HV0 := Lib.hid hV0
  have HB0 := Lib.hid hB0
  clear hZ0 hV0 hB0
  go_wp2_with fail
  go_loopw [9] (fun i wr => ∃ k : Nat, k ≤ n ∧ i = .int .i64 k ∧ Hid (∃ q m d, VAt wr (w.heap.size + 1) ⟨5, 0, ⟨#[]⟩, q, m, d, none, 0, 0⟩ ∧ VAt wr w.heap.size RV.zero ∧ Own wr (w.heap.size + 2) 31 encV 5 (.slice q m d) ((l.take k).map textR) ∧ Below w.heap.size w wr)) (fun i _ => n - (intOf i).toNat)
  case atStart => exact ⟨0, Nat.zero_le _, rfl, none, 0, 0, HV0.out, HZ0.out, Own.nil _ _ _, HB0.out⟩
  case round =>
    obtain ⟨k, hk, rfl, hH⟩ := hrel
    obtain ⟨q, m, d, hV, hZ, hO, hB⟩ := hH.out
    clear hH
    by_cases hlt : k < n
    · obtain ⟨x, hx⟩ : ∃ x, l[k]? = some x := ⟨_, List.getElem?_eq_getElem (by have := HN.out; omega)⟩
      obtain ⟨b1, o1, rfl, hb1, hc1⟩ := rd_at' (HR.out.below hB (Nat.le_refl _)) hx
      have f0 := hc1 0 _ rfl
      rw [Nat.add_zero, Nat.mul_one] at f0
      have hk0 : (0 : Int) ≤ (k : Int) := Int.natCast_nonneg _
      have hk1 : (k : Int) < (n : Int) := by omega
      have HX := Lib.hid hx
      go_upto_region 5 with fail
      have c3 := hV.cell 3 rfl
      have y3 := hV.frozen 3
      dsimp only at c3
      have hzz := hV.lt
      have HV := Lib.hid hV
      have HZ := Lib.hid hZ
      have HO := Lib.hid hO
      have HB := Lib.hid hB
      have hlk : ((l.take k).map textR).length ≤ 100000 := by simp; omega
      have HLK := Lib.hid hlk
      clear hV hZ hO hB hx hc1 hlk
      have hc3 : (fun w' : World => w'.cell? ⟨w.heap.size + 1, 3, none⟩ = some (.slice q m d)) wr.drew := c3
      refine wp_region_K 7 (fun w' : World => w'.cell? ⟨w.heap.size + 1, 3, none⟩ = some (.slice q m d)) (by kernel_rfl) hc3 ?_
      intro hHeld
      refine wpAnyK_take (v := ?vv1) 0 rfl (by kernel_rfl) (by kernel_rfl) (by kernel_rfl) (by kernel_rfl) (by kernel_rfl) (fun _ _ _ h => h) (by assumption) (Or.inl ⟨by rfl, ?hy1⟩) ?rest1
      case hy1 => (intro w' hSw; (try dsimp only at hSw); first | (go_simp; done) | (go_simp; with_reducible rfl))
      try simp only [Act.put, List.setIfInBounds_toArray, List.set_cons_zero, List.set_cons_succ]
      refine wpAnyK_take (v := ?vv2) 1 rfl (by kernel_rfl) (by kernel_rfl) (by kernel_rfl) (by kernel_rfl) (by kernel_rfl) (fun _ _ _ h => h) (by assumption) (Or.inl ⟨by rfl, ?hy2⟩) ?rest2
      case hy2 => (intro w' hSw; (try dsimp only at hSw); first | (go_simp; done) | (go_simp; with_reducible rfl))
      try simp only [Act.put, List.setIfInBounds_toArray, List.set_cons_zero, List.set_cons_succ]
      refine wpAnyK_take (v := ?vv3) 2 rfl (by kernel_rfl) (by kernel_rfl) (by kernel_rfl) (by kernel_rfl) (by kernel_rfl) (fun _ _ _ h => h) (by assumption) (Or.inl ⟨by rfl, ?hy3⟩) ?rest3
      case hy3 => (intro w' hSw; (try dsimp only at hSw); first | (go_simp; done) | (go_simp; with_reducible rfl))
      try simp only [Act.put, List.setIfInBounds_toArray, List.set_cons_zero, List.set_cons_succ]
      refine wpAnyK_eff 3 rfl (by kernel_rfl) (fun K hK => ?_)
      go_simp
      go_at_call 28
      refine (textV_any x _).mono ?_
      rintro e w3 ⟨rfl, hb3'⟩
      have hb3 : Below wr.heap.size wr w3 := (Below.refl _ _).drew.trans hb3'
      refine hK.out _ _ (bcs hb3 hzz c3) (fun hHeld => ?_)
      clear hK K hb3'
      try simp only [Act.put, List.setIfInBounds_toArray, List.set_cons_zero, List.set_cons_succ]
      refine wpAnyK_eff 4 rfl (by kernel_rfl) (fun K hK => ?_)
      go_simp
      have hb4 : Below wr.heap.size wr (w3.alloc (.cells #[.int .i64 4, .int .i64 0, .string x, .slice none 0 0, .slice none 0 0] 31)) := hb3.alloc hb3.size _
      refine hK.out _ _ (bcs hb4 hzz c3) (fun hHeld => ?_)
      clear hK K
      try simp only [Act.put, List.setIfInBounds_toArray, List.set_cons_zero, List.set_cons_succ]
      have ho4 : Own (w3.alloc (.cells #[.int .i64 4, .int .i64 0, .string x, .slice none 0 0, .slice none 0 0] 31)) (w.heap.size + 2) 31 encV 5 (.slice q m d) ((l.take k).map textR) := HO.out.below hb4 (Nat.le_refl _)
      have hz4 : w.heap.size + 2 ≤ (w3.alloc (.cells #[.int .i64 4, .int .i64 0, .string x, .slice none 0 0, .slice none 0 0] 31)).heap.size := by have := hb4.size; omega
      refine wpAnyK_eff 5 rfl (by kernel_rfl) (fun K hK => ?_)
      refine step_append_rd slV codecV (w3.alloc (.cells #[.int .i64 4, .int .i64 0, .string x, .slice none 0 0, .slice none 0 0] 31)) (by rfl) (.tmp 14) (.tmp 17) (by rfl) (v := .slice q m d) (by rfl) (by rfl) ho4 (Rd.one (B := w3.heap.size + 1) (x := textR x) codecV (heap_alloc_new _ _) rfl (by omega)) (by have := HLK.out; simp only [List.length_singleton]; unfold maxLen; omega) (by have := HLK.out; simp only [List.length_singleton]; omega) hz4 ?_
      intro v7 w7 ho7 hg7 hat7
      obtain ⟨q7, m7, d7, rfl⟩ : ∃ p n c, v7 = Value.slice p n c := by obtain ⟨p, c, hv, _, _⟩ := ho7.len; exact ⟨p, _, c, hv⟩
      have hV7 : VAt w7 (w.heap.size + 1) ⟨5, 0, ⟨#[]⟩, q, m, d, none, 0, 0⟩ := (HV.out.under hb4 hzz).keep (hg7.block _ (by have := hb4.size; omega) (fun e => by have := (ho4.lt _ e.symm).1; omega))
      have hZ7 : VAt w7 w.heap.size RV.zero := (HZ.out.under hb4 HZ.out.lt).keep (hg7.block _ (by have := hb4.size; omega) (fun e => by have := (ho4.lt _ e.symm).1; omega))
      have hb7 : Below w.heap.size w w7 := Below.appended (HB.out.trans (hb4.mono HB.out.size)) hg7 (ho4.mono (by omega)) (by omega)
      refine hK.out _ _ (hV7.cell 3 rfl) (fun hHeld => ?_)
      clear hK K
      try simp only [Act.put, List.setIfInBounds_toArray, List.set_cons_zero, List.set_cons_succ]
      refine wpAnyK_take (v := ?vv4) 6 rfl (by kernel_rfl) (by kernel_rfl) (by kernel_rfl) (by kernel_rfl) (by kernel_rfl) (fun _ _ _ h => h) (by assumption) (Or.inl ⟨by rfl, ?hy4⟩) ?rest4
      case hy4 => (intro w' hSw; (try dsimp only at hSw); first | (go_simp; done) | (go_simp; with_reducible rfl))
      try simp only [Act.put, List.setIfInBounds_toArray, List.set_cons_zero, List.set_cons_succ]
      have c37 := hV7.cell 3 rfl
      have y37 := hV7.frozen 3
      refine wpAnyK_last rfl (by kernel_rfl) (by kernel_rfl) (fun K hK => ?_)
      go_simp
      refine hK.out _ _ ?_
      have hV8 := hV7.setLs q7 m7 d7
      have hZ8 : VAt (w7.setCell ⟨w.heap.size + 1, 3, none⟩ (.slice q7 m7 d7)) w.heap.size RV.zero := hZ7.keep ((grownBy_set w7 (w.heap.size + 1) 3 _).block _ hZ7.lt (by simp))
      have ho8 := ho7.kept (grownBy_set w7 (w.heap.size + 1) 3 (.slice q7 m7 d7)) (.inr (fun e => by have := (ho7.lt _ e).1; omega))
      have hb8 := hb7.setCell (by omega : w.heap.size ≤ w.heap.size + 1) (p := ⟨w.heap.size + 1, 3, none⟩) (.slice q7 m7 d7)
      have hs8 : (l.take (k + 1)).map textR = (l.take k).map textR ++ [textR x] := by rw [List.take_add_one, HX.out]; simp
      have HR8 : Hid (∃ q m d, VAt (w7.setCell ⟨w.heap.size + 1, 3, none⟩ (.slice q7 m7 d7)) (w.heap.size + 1) ⟨5, 0, ⟨#[]⟩, q, m, d, none, 0, 0⟩ ∧ VAt (w7.setCell ⟨w.heap.size + 1, 3, none⟩ (.slice q7 m7 d7)) w.heap.size RV.zero ∧ Own (w7.setCell ⟨w.heap.size + 1, 3, none⟩ (.slice q7 m7 d7)) (w.heap.size + 2) 31 encV 5 (.slice q m d) ((l.take (k + 1)).map textR) ∧ Below w.heap.size w (w7.setCell ⟨w.heap.size + 1, 3, none⟩ (.slice q7 m7 d7))) := ⟨q7, m7, d7, hV8, hZ8, by rw [hs8]; exact ho8, hb8⟩
      clear hV8 hZ8 ho8 hb8 hs8 hV7 hZ7 ho7 hb7 hg7 hat7 ho4 hb4 hb3 hK
      go_wp2_with fail
      go_roundw
      case rel => exact ⟨k + 1, by omega, by go_num, HR8⟩
      case measure => simp [intOf]; omega
    · obtain rfl : k = n := by omega
      have hta : l.take k = l := List.take_of_length_le (by have := HN.out; omega)
      rw [hta] at hO
      have v0 := hV.cell 0 rfl
      have v1 := hV.cell 1 rfl
      have v2 := hV.cell 2 rfl
      have v3 := hV.cell 3 rfl
      have v4 := hV.cell 4 rfl
      have z0 := hZ.cell 0 rfl
      have z1 := hZ.cell 1 rfl
      have z2 := hZ.cell 2 rfl
      have z3 := hZ.cell 3 rfl
      have z4 := hZ.cell 4 rfl
      have y0 := hZ.frozen 0
      have y1 := hZ.frozen 1
      have y2 := hZ.frozen 2
      have y3 := hZ.frozen 3
      have y4 := hZ.frozen 4
      dsimp only [RV.zero] at v0 v1 v2 v3 v4 z0 z1 z2 z3 z4
      have HZ := Lib.hid hZ
      have HO := Lib.hid hO
      have HB := Lib.hid hB
      clear hV hZ hO hB hta
      go_wp2_with fail
      have HZ2 := HZ.out.stored ⟨5, 0, ⟨#[]⟩, q, m, d, none, 0, 0⟩
      refine bodyPost_ret (v := RV.val ⟨5, 0, ⟨#[]⟩, q, m, d, none, 0, 0⟩) (by simp [results, Tryz.results30, go_sem, z0, z1, z2, z3, z4]) rfl ⟨q, m, d, rfl, ?_, Below.stored HB.out (Nat.le_refl _) ⟨5, 0, ⟨#[]⟩, q, m, d, none, 0, 0⟩⟩
      exact (HO.out.kept (grownBy_set5 wr w.heap.size ⟨5, 0, ⟨#[]⟩, q, m, d, none, 0, 0⟩) (.inr (fun e => by have := (HO.out.lt _ e).1; omega))).mono (by omega)
set_option maxRecDepth 100000 in
set_option maxHeartbeats 4000000 in
theorem refTexts_any (l : List ByteArray) (p : Option Addr) (n c : Nat) (w : World) (hr : Rd w w.heap.size encS 1 (.slice p n c) l) (hl : l.length ≤ 100000) : Calls Tryz.prog 13 #[.slice p n c] w (TextsRet w l) := by
  have hn := rd_nlen hr
  have hZ0 : VAt ((w.alloc (.cells #[.int .i64 0, .int .i64 0, .string ⟨#[]⟩, .slice none 0 0, .slice none 0 0] 31)).alloc (.cells #[.int .i64 5, .int .i64 0, .string ⟨#[]⟩, .slice none 0 0, .slice none 0 0] 31)) w.heap.size RV.zero := heap_alloc_lt (by simp) (heap_alloc_at rfl)
  have hV0 : VAt ((w.alloc (.cells #[.int .i64 0, .int .i64 0, .string ⟨#[]⟩, .slice none 0 0, .slice none 0 0] 31)).alloc (.cells #[.int .i64 5, .int .i64 0, .string ⟨#[]⟩, .slice none 0 0, .slice none 0 0] 31)) (w.heap.size + 1) ⟨5, 0, ⟨#[]⟩, none, 0, 0, none, 0, 0⟩ := heap_alloc_at (by simp)
  have hB0 := below2 w (.cells #[.int .i64 0, .int .i64 0, .string ⟨#[]⟩, .slice none 0 0, .slice none 0 0] 31) (.cells #[.int .i64 5, .int .i64 0, .string ⟨#[]⟩, .slice none 0 0, .slice none 0 0] 31)
  have HR := Lib.hid hr
  have hno : n ≤ 100000 := by omega
  have HN : Hid (l.length = n) := hn.symm
  clear hr hn hl
  go_enter Tryz.func13, Tryz.ntmps13
  go_upto_region 2 with fail
  obtain ⟨W0, hW0⟩ : ∃ W0, ((w.alloc (.cells #[.int .i64 0, .int .i64 0, .string ⟨#[]⟩, .slice none 0 0, .slice none 0 0] 31)).alloc (.cells #[.int .i64 5, .int .i64 0, .string ⟨#[]⟩, .slice none 0 0, .slice none 0 0] 31)) = W0 := ⟨_, rfl⟩
  rw [hW0] at hZ0 hV0 hB0 ⊢
  clear hW0
  have HZ0 := Lib.hid hZ0
  have HV0 := Lib.hid hV0
  have HB0 := Lib.hid hB0
  clear hZ0 hV0 hB0
  go_wp2_with fail
  go_loopw [4] (fun i wr => ∃ k : Nat, k ≤ n ∧ i = .int .i64 k ∧ Hid (∃ q m d, VAt wr (w.heap.size + 1) ⟨5, 0, ⟨#[]⟩, q, m, d, none, 0, 0⟩ ∧ VAt wr w.heap.size RV.zero ∧ Own wr (w.heap.size + 2) 31 encV 5 (.slice q m d) ((l.take k).map textR) ∧ Below w.heap.size w wr)) (fun i _ => n - (intOf i).toNat)
  case atStart => exact ⟨0, Nat.zero_le _, rfl, none, 0, 0, HV0.out, HZ0.out, Own.nil _ _ _, HB0.out⟩
  case round =>
    obtain ⟨k, hk, rfl, hH⟩ := hrel
    obtain ⟨q, m, d, hV, hZ, hO, hB⟩ := hH.out
    clear hH
    by_cases hlt : k < n
    · obtain ⟨x, hx⟩ : ∃ x, l[k]? = some x := ⟨_, List.getElem?_eq_getElem (by have := HN.out; omega)⟩
      obtain ⟨b1, o1, rfl, hb1, hc1⟩ := rd_at' (HR.out.below hB (Nat.le_refl _)) hx
      have f0 := hc1 0 _ rfl
      rw [Nat.add_zero, Nat.mul_one] at f0
      have hk0 : (0 : Int) ≤ (k : Int) := Int.natCast_nonneg _
      have hk1 : (k : Int) < (n : Int) := by omega
      have HX := Lib.hid hx
      go_upto_region 5 with fail
      have c3 := hV.cell 3 rfl
      have y3 := hV.frozen 3
      dsimp only at c3
      have hzz := hV.lt
      have HV := Lib.hid hV
      have HZ := Lib.hid hZ
      have HO := Lib.hid hO
      have HB := Lib.hid hB
      have hlk : ((l.take k).map textR).length ≤ 100000 := by simp; omega
      have HLK := Lib.hid hlk
      clear hV hZ hO hB hx hc1 hlk
      have hbs : b1 < wr.heap.size := by have := HB.out.size; omega
      have hc3 : (fun w' : World => w'.cell? ⟨w.heap.size + 1, 3, none⟩ = some (.slice q m d) ∧ w'.cell? ⟨b1, o1 + k, none⟩ = some (.string x)) wr.drew := ⟨c3, f0⟩
      refine wp_region_K 10 (fun w' : World => w'.cell? ⟨w.heap.size + 1, 3, none⟩ = some (.slice q m d) ∧ w'.cell? ⟨b1, o1 + k, none⟩ = some (.string x)) (by kernel_rfl) hc3 ?_
      intro hHeld
      refine wpAnyK_take (v := ?vv5) 0 rfl (by kernel_rfl) (by kernel_rfl) (by kernel_rfl) (by kernel_rfl) (by kernel_rfl) (fun _ _ _ h => h) (by assumption) (Or.inl ⟨by rfl, ?hy5⟩) ?rest5
      case hy5 => (intro w' hSw; (try dsimp only at hSw); first | (go_simp; done) | (go_simp; with_reducible rfl))
      try simp only [Act.put, List.setIfInBounds_toArray, List.set_cons_zero, List.set_cons_succ]
      refine wpAnyK_take (v := ?vv6) 1 rfl (by kernel_rfl) (by kernel_rfl) (by kernel_rfl) (by kernel_rfl) (by kernel_rfl) (fun _ _ _ h => h) (by assumption) (Or.inl ⟨by rfl, ?hy6⟩) ?rest6
      case hy6 => (intro w' hSw; (try dsimp only at hSw); first | (go_simp; done) | (go_simp; with_reducible rfl))
      try simp only [Act.put, List.setIfInBounds_toArray, List.set_cons_zero, List.set_cons_succ]
      refine wpAnyK_take (v := ?vv7) 2 rfl (by kernel_rfl) (by kernel_rfl) (by kernel_rfl) (by kernel_rfl) (by kernel_rfl) (fun _ _ _ h => h) (by assumption) (Or.inl ⟨by rfl, ?hy7⟩) ?rest7
      case hy7 => (intro w' hSw; (try dsimp only at hSw); first | (go_simp; done) | (go_simp; with_reducible rfl))
      try simp only [Act.put, List.setIfInBounds_toArray, List.set_cons_zero, List.set_cons_succ]
      refine wpAnyK_take (v := ?vv8) 3 rfl (by kernel_rfl) (by kernel_rfl) (by kernel_rfl) (by kernel_rfl) (by kernel_rfl) (fun _ _ _ h => h) (by assumption) (Or.inl ⟨by rfl, ?hy8⟩) ?rest8
      case hy8 => (intro w' hSw; (try dsimp only at hSw); first | (go_simp; done) | (go_simp; with_reducible rfl))
      try simp only [Act.put, List.setIfInBounds_toArray, List.set_cons_zero, List.set_cons_succ]
      refine wpAnyK_take (v := ?vv9) 4 rfl (by kernel_rfl) (by kernel_rfl) (by kernel_rfl) (by kernel_rfl) (by kernel_rfl) (fun _ _ _ h => h) (by assumption) (Or.inl ⟨by rfl, ?hy9⟩) ?rest9
      case hy9 => (intro w' hSw; (try dsimp only at hSw); first | (go_simp; done) | (go_simp; with_reducible rfl))
      try simp only [Act.put, List.setIfInBounds_toArray, List.set_cons_zero, List.set_cons_succ]
      refine wpAnyK_take (v := ?vv10) 5 rfl (by kernel_rfl) (by kernel_rfl) (by kernel_rfl) (by kernel_rfl) (by kernel_rfl) (fun _ _ _ h => h) (by assumption) (Or.inl ⟨by rfl, ?hy10⟩) ?rest10
      case hy10 => (intro w' hSw; (try dsimp only at hSw); first | (go_simp; done) | (go_simp; with_reducible rfl))
      try simp only [Act.put, List.setIfInBounds_toArray, List.set_cons_zero, List.set_cons_succ]
      refine wpAnyK_eff 6 rfl (by kernel_rfl) (fun K hK => ?_)
      go_simp
      go_at_call 35
      refine (textV25_any x _).mono ?_
      rintro e w3 ⟨rfl, hb3'⟩
      have hb3 : Below wr.heap.size wr w3 := (Below.refl _ _).drew.trans hb3'
      refine hK.out _ _ ⟨bcs hb3 hzz c3, bcs hb3 hbs f0⟩ (fun hHeld => ?_)
      clear hK K hb3'
      try simp only [Act.put, List.setIfInBounds_toArray, List.set_cons_zero, List.set_cons_succ]
      refine wpAnyK_eff 7 rfl (by kernel_rfl) (fun K hK => ?_)
      go_simp
      have hb4 : Below wr.heap.size wr (w3.alloc (.cells #[.int .i64 4, .int .i64 0, .string x, .slice none 0 0, .slice none 0 0] 31)) := hb3.alloc hb3.size _
      refine hK.out _ _ ⟨bcs hb4 hzz c3, bcs hb4 hbs f0⟩ (fun hHeld => ?_)
      clear hK K
      try simp only [Act.put, List.setIfInBounds_toArray, List.set_cons_zero, List.set_cons_succ]
      have ho4 : Own (w3.alloc (.cells #[.int .i64 4, .int .i64 0, .string x, .slice none 0 0, .slice none 0 0] 31)) (w.heap.size + 2) 31 encV 5 (.slice q m d) ((l.take k).map textR) := HO.out.below hb4 (Nat.le_refl _)
      have hz4 : w.heap.size + 2 ≤ (w3.alloc (.cells #[.int .i64 4, .int .i64 0, .string x, .slice none 0 0, .slice none 0 0] 31)).heap.size := by have := hb4.size; omega
      refine wpAnyK_eff 8 rfl (by kernel_rfl) (fun K hK => ?_)
      refine step_append_rd slV codecV (w3.alloc (.cells #[.int .i64 4, .int .i64 0, .string x, .slice none 0 0, .slice none 0 0] 31)) (by rfl) (.tmp 13) (.tmp 19) (by rfl) (v := .slice q m d) (by rfl) (by rfl) ho4 (Rd.one (B := w3.heap.size + 1) (x := textR x) codecV (heap_alloc_new _ _) rfl (by omega)) (by have := HLK.out; simp only [List.length_singleton]; unfold maxLen; omega) (by have := HLK.out; simp only [List.length_singleton]; omega) hz4 ?_
      intro v7 w7 ho7 hg7 hat7
      obtain ⟨q7, m7, d7, rfl⟩ : ∃ p n c, v7 = Value.slice p n c := by obtain ⟨p, c, hv, _, _⟩ := ho7.len; exact ⟨p, _, c, hv⟩
      have hV7 : VAt w7 (w.heap.size + 1) ⟨5, 0, ⟨#[]⟩, q, m, d, none, 0, 0⟩ := (HV.out.under hb4 hzz).keep (hg7.block _ (by have := hb4.size; omega) (fun e => by have := (ho4.lt _ e.symm).1; omega))
      have hZ7 : VAt w7 w.heap.size RV.zero := (HZ.out.under hb4 HZ.out.lt).keep (hg7.block _ (by have := hb4.size; omega) (fun e => by have := (ho4.lt _ e.symm).1; omega))
      have hb7 : Below w.heap.size w w7 := Below.appended (HB.out.trans (hb4.mono HB.out.size)) hg7 (ho4.mono (by omega)) (by omega)
      have f07 : w7.cell? ⟨b1, o1 + k, none⟩ = some (.string x) := (World.cell?_of_block (a := ⟨b1, o1 + k, none⟩) (hg7.block b1 (by have := hb4.size; omega) (fun e => by have := (ho4.lt _ e.symm).1; omega))).trans (bcs hb4 hbs f0)
      refine hK.out _ _ ⟨hV7.cell 3 rfl, f07⟩ (fun hHeld => ?_)
      clear hK K
      try simp only [Act.put, List.setIfInBounds_toArray, List.set_cons_zero, List.set_cons_succ]
      refine wpAnyK_take (v := ?vv11) 9 rfl (by kernel_rfl) (by kernel_rfl) (by kernel_rfl) (by kernel_rfl) (by kernel_rfl) (fun _ _ _ h => h) (by assumption) (Or.inl ⟨by rfl, ?hy11⟩) ?rest11
      case hy11 => (intro w' hSw; (try dsimp only at hSw); first | (go_simp; done) | (go_simp; with_reducible rfl))
      try simp only [Act.put, List.setIfInBounds_toArray, List.set_cons_zero, List.set_cons_succ]
      have c37 := hV7.cell 3 rfl
      have y37 := hV7.frozen 3
      refine wpAnyK_last rfl (by kernel_rfl) (by kernel_rfl) (fun K hK => ?_)
      go_simp
      refine hK.out _ _ ?_
      have hV8 := hV7.setLs q7 m7 d7
      have hZ8 : VAt (w7.setCell ⟨w.heap.size + 1, 3, none⟩ (.slice q7 m7 d7)) w.heap.size RV.zero := hZ7.keep ((grownBy_set w7 (w.heap.size + 1) 3 _).block _ hZ7.lt (by simp))
      have ho8 := ho7.kept (grownBy_set w7 (w.heap.size + 1) 3 (.slice q7 m7 d7)) (.inr (fun e => by have := (ho7.lt _ e).1; omega))
      have hb8 := hb7.setCell (by omega : w.heap.size ≤ w.heap.size + 1) (p := ⟨w.heap.size + 1, 3, none⟩) (.slice q7 m7 d7)
      have hs8 : (l.take (k + 1)).map textR = (l.take k).map textR ++ [textR x] := by rw [List.take_add_one, HX.out]; simp
      have HR8 : Hid (∃ q m d, VAt (w7.setCell ⟨w.heap.size + 1, 3, none⟩ (.slice q7 m7 d7)) (w.heap.size + 1) ⟨5, 0, ⟨#[]⟩, q, m, d, none, 0, 0⟩ ∧ VAt (w7.setCell ⟨w.heap.size + 1, 3, none⟩ (.slice q7 m7 d7)) w.heap.size RV.zero ∧ Own (w7.setCell ⟨w.heap.size + 1, 3, none⟩ (.slice q7 m7 d7)) (w.heap.size + 2) 31 encV 5 (.slice q m d) ((l.take (k + 1)).map textR) ∧ Below w.heap.size w (w7.setCell ⟨w.heap.size + 1, 3, none⟩ (.slice q7 m7 d7))) := ⟨q7, m7, d7, hV8, hZ8, by rw [hs8]; exact ho8, hb8⟩
      clear hV8 hZ8 ho8 hb8 hs8 hV7 hZ7 ho7 hb7 hg7 hat7 ho4 hb4 hb3 hK
      go_wp2_with fail
      go_roundw
      case rel => exact ⟨k + 1, by omega, by go_num, HR8⟩
      case measure => simp [intOf]; omega
    · obtain rfl : k = n := by omega
      have hta : l.take k = l := List.take_of_length_le (by have := HN.out; omega)
      rw [hta] at hO
      have v0 := hV.cell 0 rfl
      have v1 := hV.cell 1 rfl
      have v2 := hV.cell 2 rfl
      have v3 := hV.cell 3 rfl
      have v4 := hV.cell 4 rfl
      have z0 := hZ.cell 0 rfl
      have z1 := hZ.cell 1 rfl
      have z2 := hZ.cell 2 rfl
      have z3 := hZ.cell 3 rfl
      have z4 := hZ.cell 4 rfl
      have y0 := hZ.frozen 0
      have y1 := hZ.frozen 1
      have y2 := hZ.frozen 2
      have y3 := hZ.frozen 3
      have y4 := hZ.frozen 4
      dsimp only [RV.zero] at v0 v1 v2 v3 v4 z0 z1 z2 z3 z4
      have HZ := Lib.hid hZ
      have HO := Lib.hid hO
      have HB := Lib.hid hB
      clear hV hZ hO hB hta
      go_wp2_with fail
      have HZ2 := HZ.out.stored ⟨5, 0, ⟨#[]⟩, q, m, d, none, 0, 0⟩
      refine bodyPost_ret (v := RV.val ⟨5, 0, ⟨#[]⟩, q, m, d, none, 0, 0⟩) (by simp [results, Tryz.results13, go_sem, z0, z1, z2, z3, z4]) rfl ⟨q, m, d, rfl, ?_, Below.stored HB.out (Nat.le_refl _) ⟨5, 0, ⟨#[]⟩, q, m, d, none, 0, 0⟩⟩
      exact (HO.out.kept (grownBy_set5 wr w.heap.size ⟨5, 0, ⟨#[]⟩, q, m, d, none, 0, 0⟩) (.inr (fun e => by have := (HO.out.lt _ e).1; omega))).mono (by omega)
end Go.Proofs.YtanemojiaahbgaaGreatDoor
end

section
/- cardboxref18.Find and cardboxref18.New, walked. -/
set_option linter.unusedSimpArgs false
set_option linter.unusedVariables false
namespace Go.Proofs.YtanemojiaahbgaaGreatDoor
open Go.RowKit Go.OpenShut

set_option maxRecDepth 100000 in
set_option maxHeartbeats 2000000 in
theorem refFind_any (b : BoxD) (r : RB) (id : ByteArray) (w : World) (hb : BoxOf w w.heap.size b r) (ob : b.Ok) :
    Calls Tryz.prog 33 #[r.val, .string id] w (FindRet w (findJ b.objs id)) := by
  have ho := hb.objs
  have hlo := ob.objs
  obtain ⟨po, no, co, pt, nt, ct, sq, fl, kp⟩ := r
  dsimp only [RB.val] at *
  obtain ⟨rms, hrd, hms⟩ := ho
  have hn := rd_nlen hrd
  have hlm := hms.len
  have hA0 : BoxAt ((w.alloc (.cells #[.slice po no co, .slice pt nt ct, .int .i64 sq, .int .i64 fl, .int .i64 kp] 25)).alloc (.cells #[.int .i64 0, .int .i64 0, .string ⟨#[]⟩, .slice none 0 0, .slice none 0 0] 31)) w.heap.size ⟨po, no, co, pt, nt, ct, sq, fl, kp⟩ := heap_alloc_lt (by simp) (heap_alloc_at rfl)
  have hZ0 : VAt ((w.alloc (.cells #[.slice po no co, .slice pt nt ct, .int .i64 sq, .int .i64 fl, .int .i64 kp] 25)).alloc (.cells #[.int .i64 0, .int .i64 0, .string ⟨#[]⟩, .slice none 0 0, .slice none 0 0] 31)) (w.heap.size + 1) RV.zero := heap_alloc_at (by simp)
  have hB0 : Below w.heap.size w ((w.alloc (.cells #[.slice po no co, .slice pt nt ct, .int .i64 sq, .int .i64 fl, .int .i64 kp] 25)).alloc (.cells #[.int .i64 0, .int .i64 0, .string ⟨#[]⟩, .slice none 0 0, .slice none 0 0] 31)) := below2 w _ _
  have HRD := Lib.hid hrd
  have HMS := Lib.hid hms
  have HN : Hid (b.objs.length = no ∧ rms.length = no) := ⟨by omega, by omega⟩
  have hno : no ≤ 1466015503658 := by omega
  clear hb ob hrd hms hn hlm hlo
  go_enter Tryz.func33, Tryz.ntmps33
  go_upto_region 1 with fail
  obtain ⟨W0, hW0⟩ : ∃ W0, ((w.alloc (.cells #[.slice po no co, .slice pt nt ct, .int .i64 sq, .int .i64 fl, .int .i64 kp] 25)).alloc (.cells #[.int .i64 0, .int .i64 0, .string ⟨#[]⟩, .slice none 0 0, .slice none 0 0] 31)) = W0 := ⟨_, rfl⟩
  rw [hW0] at hA0 hZ0 hB0 ⊢
  clear hW0
  have c0 := hA0.cell 0 rfl
  dsimp only at c0
  have hz1 := hZ0.lt
  have z0 := hZ0.cell 0 rfl
  have z1 := hZ0.cell 1 rfl
  have z2 := hZ0.cell 2 rfl
  have z3 := hZ0.cell 3 rfl
  have z4 := hZ0.cell 4 rfl
  have y0 := hZ0.frozen 0
  have y1 := hZ0.frozen 1
  have y2 := hZ0.frozen 2
  have y3 := hZ0.frozen 3
  have y4 := hZ0.frozen 4
  dsimp only [RV.zero] at z0 z1 z2 z3 z4
  have HZ := Lib.hid hZ0
  have HB := Lib.hid hB0
  clear hA0 hZ0 hB0
  go_wp2_with fail
  go_loopw [6] (fun i wr => ∃ k : Nat, k ≤ no ∧ i = .int .i64 k ∧ Hid (∀ (j : Nat) y, j < k → b.objs[j]? = some y → decide (y.1 = id) = false) ∧ wr = W0) (fun i _ => no - (intOf i).toNat)
  case atStart => exact ⟨0, Nat.zero_le _, rfl, fun j y h => by omega, rfl⟩
  case round =>
    obtain ⟨k, hk, rfl, htk, rfl⟩ := hrel
    by_cases hlt : k < no
    · obtain ⟨p, hp⟩ : ∃ x, b.objs[k]? = some x := ⟨_, List.getElem?_eq_getElem (by have := HN.out; omega)⟩
      obtain ⟨q, hq⟩ : ∃ q, rms[k]? = some q := ⟨_, List.getElem?_eq_getElem (by have := HN.out; omega)⟩
      have hpq := HMS.out.name k p q hp hq
      have hTq := HMS.out.val k p q hp hq
      have HTq := Lib.hid (hTq.under HB.out (Nat.le_refl _))
      obtain ⟨b1, o1, rfl, hb1, hc1⟩ := rd_at' (HRD.out.below HB.out (Nat.le_refl _)) hq
      have f0 := hc1 0 _ rfl
      have f1 := hc1 1 _ rfl
      have f2 := hc1 2 _ rfl
      have f3 := hc1 3 _ rfl
      have f4 := hc1 4 _ rfl
      have f5 := hc1 5 _ rfl
      rw [Nat.add_zero] at f0
      have hk0 : (0 : Int) ≤ (k : Int) := Int.natCast_nonneg _
      have hk1 : (k : Int) < (no : Int) := by omega
      have HP := Lib.hid hp
      have hne1 : b1 ≠ w.heap.size + 1 := by omega
      have hne2 : w.heap.size ≠ w.heap.size + 1 := by omega
      by_cases he : q.name = id
      · have he1 : (q.name.toList == id.toList) = true := by rw [str_beq]; simpa using he
        have HG : Hid (findJ b.objs id = some p.2) := by
          have h1 := find_at (p := fun y : ByteArray × JV => decide (y.1 = id)) HP.out (by simpa [hpq] using he) htk.out
          obtain ⟨p', h2, h3⟩ := findJ_some h1
          rw [HP.out] at h2
          cases h2
          exact h3
        clear he hp hq hpq hTq hc1 htk
        go_wp2_with fail
        have HZ2 := HZ.out.stored q.v
        refine bodyPost_ret (v := .tuple #[RV.val q.v, .bool true]) (by simp [results, Tryz.results33, go_sem, z0, z1, z2, z3, z4]) rfl ⟨q.v, by rw [HG.out]; rfl, ?_, Below.stored HB.out (by omega) q.v⟩
        rw [HG.out]
        exact HTq.out.under (Below.stored (Below.refl _ _) (by omega) q.v) (by have := HB.out.size; simp; omega)
      · have he1 : (q.name.toList == id.toList) = false := by rw [str_beq]; simpa using he
        have HNX : Hid (∀ (j : Nat) y, j < k + 1 → b.objs[j]? = some y → decide (y.1 = id) = false) := by
          intro j y hj hy
          by_cases e : j = k
          · subst e
            rw [hp] at hy
            cases hy
            simpa [hpq] using he
          · exact htk.out j y (by omega) hy
        clear he hp hq hpq hTq hc1 htk
        go_wp2_with fail
        go_roundw
        case rel => exact ⟨k + 1, by omega, by go_num, HNX, by trivial⟩
        case measure => simp [intOf]; omega
    · have hk2 : ¬ ((k : Int) < (no : Int)) := by omega
      have HG : Hid (findJ b.objs id = none) := findJ_none (find_not (p := fun y : ByteArray × JV => decide (y.1 = id)) (fun j y hy => htk.out j y (by have := (List.getElem?_eq_some_iff.1 hy).1; have := HN.out; omega) hy))
      go_wp2_with fail
      have HZ2 := HZ.out.stored RV.zero
      refine bodyPost_ret (v := .tuple #[RV.val RV.zero, .bool false]) (by simp [results, Tryz.results33, go_sem, RV.zero, z0, z1, z2, z3, z4]) rfl ⟨RV.zero, by rw [HG.out]; rfl, by rw [HG.out]; exact TreeOf.zero _ _, Below.stored HB.out (by omega) RV.zero⟩

theorem clamp_cases (n hi : Int) : ∃ s, clampI n hi = s ∧ ((decide (n < 0) = true ∧ Hid (s = 0)) ∨ (decide (n < 0) = false ∧ decide (hi < n) = true ∧ Hid (s = hi)) ∨ (decide (n < 0) = false ∧ decide (hi < n) = false ∧ Hid (s = n))) := by
  refine ⟨_, rfl, ?_⟩
  unfold clampI Hid
  by_cases h1 : n < 0
  · simp [h1]
  · by_cases h2 : hi < n
    · simp [h1, h2]
    · simp [h1, h2]
end Go.Proofs.YtanemojiaahbgaaGreatDoor
end

section
/- store.Find and ref18.Find, the found value under the bound that the box came with; walked. -/
set_option linter.unusedSimpArgs false
set_option linter.unusedVariables false
namespace Go.Proofs.YtanemojiaahbgaaGreatDoor
open Go.RowKit Go.OpenShut

set_option maxRecDepth 100000 in
set_option maxHeartbeats 2000000 in
theorem findB_any (b : BoxD) (r : RB) (id : ByteArray) (w : World) (B : Nat) (hBw : B ≤ w.heap.size) (hb : BoxOf w B b r) (ob : b.Ok) :
    Calls Tryz.prog 25 #[r.val, .string id] w (GetRetB w B (findJ b.objs id)) := by
  have ho := hb.objs
  have hlo := ob.objs
  obtain ⟨po, no, co, pt, nt, ct, sq, fl, kp⟩ := r
  dsimp only [RB.val] at *
  obtain ⟨rms, hrd, hms⟩ := ho
  have hn := rd_nlen hrd
  have hlm := hms.len
  have hA0 : BoxAt (((w.alloc (.cells #[.slice po no co, .slice pt nt ct, .int .i64 sq, .int .i64 fl, .int .i64 kp] 25)).alloc (.cells #[.string id] 9)).alloc (.cells #[.int .i64 0, .int .i64 0, .string ⟨#[]⟩, .slice none 0 0, .slice none 0 0] 31)) w.heap.size ⟨po, no, co, pt, nt, ct, sq, fl, kp⟩ := heap_alloc_lt (by simp; omega) (heap_alloc_lt (by simp) (heap_alloc_at rfl))
  have hS0 : (((w.alloc (.cells #[.slice po no co, .slice pt nt ct, .int .i64 sq, .int .i64 fl, .int .i64 kp] 25)).alloc (.cells #[.string id] 9)).alloc (.cells #[.int .i64 0, .int .i64 0, .string ⟨#[]⟩, .slice none 0 0, .slice none 0 0] 31)).heap[w.heap.size + 1]? = some (.cells #[.string id] 9 (0, 0)) := heap_alloc_lt (by simp) (heap_alloc_at (by simp))
  have hZ0 : VAt (((w.alloc (.cells #[.slice po no co, .slice pt nt ct, .int .i64 sq, .int .i64 fl, .int .i64 kp] 25)).alloc (.cells #[.string id] 9)).alloc (.cells #[.int .i64 0, .int .i64 0, .string ⟨#[]⟩, .slice none 0 0, .slice none 0 0] 31)) (w.heap.size + 1 + 1) RV.zero := heap_alloc_at (by simp)
  have hB0 : Below w.heap.size w (((w.alloc (.cells #[.slice po no co, .slice pt nt ct, .int .i64 sq, .int .i64 fl, .int .i64 kp] 25)).alloc (.cells #[.string id] 9)).alloc (.cells #[.int .i64 0, .int .i64 0, .string ⟨#[]⟩, .slice none 0 0, .slice none 0 0] 31)) := (below2 w _ _).alloc (by simp; omega) _
  have HRD := Lib.hid hrd
  have HMS := Lib.hid hms
  have HN : Hid (b.objs.length = no ∧ rms.length = no) := ⟨by omega, by omega⟩
  clear hb ob hrd hms hn hlm
  go_enter Tryz.func25, Tryz.ntmps25
  go_upto_region 1 with fail
  obtain ⟨W0, hW0⟩ : ∃ W0, (((w.alloc (.cells #[.slice po no co, .slice pt nt ct, .int .i64 sq, .int .i64 fl, .int .i64 kp] 25)).alloc (.cells #[.string id] 9)).alloc (.cells #[.int .i64 0, .int .i64 0, .string ⟨#[]⟩, .slice none 0 0, .slice none 0 0] 31)) = W0 := ⟨_, rfl⟩
  rw [hW0] at hA0 hS0 hZ0 hB0 ⊢
  clear hW0
  have c0 := hA0.cell 0 rfl
  have hs0 : W0.cell? ⟨w.heap.size + 1, 0, none⟩ = some (.string id) := by rw [cell_of_row W0 _ 0 _ _ _ hS0]; rfl
  have HS := Lib.hid hs0
  have HC := Lib.hid (indexO_any W0 po no co rms (HRD.out.below (hB0.mono hBw) (Nat.le_trans hBw hB0.size)) (w.heap.size + 1) id HS.out (by have := HN.out; omega))
  have HB := Lib.hid hB0
  clear hs0 hB0 hS0
  go_upto_region 2 with (go_at_call 56; refine HC.out.mono ?_; rintro e w1 ⟨rfl, hb1⟩)
  have hz0 := hZ0.lt
  have HA1 := hA0.under hb1 hA0.lt
  have HZ1 := hZ0.under hb1 hz0
  have HB1 := Lib.hid (HB.out.trans (hb1.mono HB.out.size))
  have hz1 := HZ1.lt
  have c0 := HA1.cell 0 rfl
  dsimp only at c0
  have z0 := HZ1.cell 0 rfl
  have z1 := HZ1.cell 1 rfl
  have z2 := HZ1.cell 2 rfl
  have z3 := HZ1.cell 3 rfl
  have z4 := HZ1.cell 4 rfl
  have y0 := HZ1.frozen 0
  have y1 := HZ1.frozen 1
  have y2 := HZ1.frozen 2
  have y3 := HZ1.frozen 3
  have y4 := HZ1.frozen 4
  dsimp only [RV.zero] at z0 z1 z2 z3 z4
  have HZ := Lib.hid HZ1
  clear HA1 HZ1 hA0 hZ0 hb1 HC HS hz0
  cases hf : rms.findIdx? (nameB id) with
  | none =>
    have HG : Hid (findJ b.objs id = none) := findJ_none (by rw [find_same (by have := HN.out; omega) HMS.out.name]; exact hf)
    have hn1 : placeI (none : Option Nat) = -1 := rfl
    rw [hn1]
    clear hf hn1
    go_wp2_with fail
    have HZ2 := HZ.out.stored RV.zero
    refine bodyPost_ret (v := .tuple #[RV.val RV.zero, .bool false]) (by simp [results, Tryz.results25, go_sem, RV.zero, z0, z1, z2, z3, z4]) rfl ⟨RV.zero, false, rfl, by rw [HG.out]; rfl, by rw [HG.out]; exact TreeOf.zero _ _, Below.stored HB1.out (by omega) RV.zero⟩
  | some i =>
    obtain ⟨p, hp, hg⟩ := findJ_some (by rw [find_same (by have := HN.out; omega) HMS.out.name]; exact hf)
    have HG := Lib.hid hg
    have hi := (List.getElem?_eq_some_iff.1 hp).1
    obtain ⟨q, hq⟩ : ∃ q, rms[i]? = some q := ⟨_, List.getElem?_eq_getElem (by have := HN.out; omega)⟩
    have hTq := HMS.out.val i p q hp hq
    have HTq := Lib.hid (hTq.under (HB1.out.mono hBw) (Nat.le_refl _))
    obtain ⟨b1, o1, rfl, hb1, hc1⟩ := rd_at' (HRD.out.below (HB1.out.mono hBw) (Nat.le_refl _)) hq
    have f0 := hc1 0 _ rfl
    have f1 := hc1 1 _ rfl
    have f2 := hc1 2 _ rfl
    have f3 := hc1 3 _ rfl
    have f4 := hc1 4 _ rfl
    have f5 := hc1 5 _ rfl
    have hn1 : placeI (some i) = (i : Int) := rfl
    rw [hn1]
    have hi0 : (0 : Int) ≤ (i : Int) := Int.natCast_nonneg _
    have hi1 : (i : Int) < (no : Int) := by have := HN.out; omega
    clear hf hp hg hq hTq hc1 hn1
    go_wp2_with fail
    have HZ2 := HZ.out.stored q.v
    refine bodyPost_ret (v := .tuple #[RV.val q.v, .bool true]) (by simp [results, Tryz.results25, go_sem, z0, z1, z2, z3, z4]) rfl ⟨q.v, true, rfl, by rw [HG.out]; rfl, ?_, Below.stored HB1.out (by omega) q.v⟩
    rw [HG.out]
    exact HTq.out.under (Below.stored (Below.refl _ _) (by omega) q.v) (Nat.le_refl _)

set_option maxRecDepth 100000 in
set_option maxHeartbeats 2000000 in
theorem refFindB_any (b : BoxD) (r : RB) (id : ByteArray) (w : World) (B : Nat) (hBw : B ≤ w.heap.size) (hb : BoxOf w B b r) (ob : b.Ok) :
    Calls Tryz.prog 33 #[r.val, .string id] w (GetRetB w B (findJ b.objs id)) := by
  have ho := hb.objs
  have hlo := ob.objs
  obtain ⟨po, no, co, pt, nt, ct, sq, fl, kp⟩ := r
  dsimp only [RB.val] at *
  obtain ⟨rms, hrd, hms⟩ := ho
  have hn := rd_nlen hrd
  have hlm := hms.len
  have hA0 : BoxAt ((w.alloc (.cells #[.slice po no co, .slice pt nt ct, .int .i64 sq, .int .i64 fl, .int .i64 kp] 25)).alloc (.cells #[.int .i64 0, .int .i64 0, .string ⟨#[]⟩, .slice none 0 0, .slice none 0 0] 31)) w.heap.size ⟨po, no, co, pt, nt, ct, sq, fl, kp⟩ := heap_alloc_lt (by simp) (heap_alloc_at rfl)
  have hZ0 : VAt ((w.alloc (.cells #[.slice po no co, .slice pt nt ct, .int .i64 sq, .int .i64 fl, .int .i64 kp] 25)).alloc (.cells #[.int .i64 0, .int .i64 0, .string ⟨#[]⟩, .slice none 0 0, .slice none 0 0] 31)) (w.heap.size + 1) RV.zero := heap_alloc_at (by simp)
  have hB0 : Below w.heap.size w ((w.alloc (.cells #[.slice po no co, .slice pt nt ct, .int .i64 sq, .int .i64 fl, .int .i64 kp] 25)).alloc (.cells #[.int .i64 0, .int .i64 0, .string ⟨#[]⟩, .slice none 0 0, .slice none 0 0] 31)) := below2 w _ _
  have HRD := Lib.hid hrd
  have HMS := Lib.hid hms
  have HN : Hid (b.objs.length = no ∧ rms.length = no) := ⟨by omega, by omega⟩
  have hno : no ≤ 1466015503658 := by omega
  clear hb ob hrd hms hn hlm hlo
  go_enter Tryz.func33, Tryz.ntmps33
  go_upto_region 1 with fail
  obtain ⟨W0, hW0⟩ : ∃ W0, ((w.alloc (.cells #[.slice po no co, .slice pt nt ct, .int .i64 sq, .int .i64 fl, .int .i64 kp] 25)).alloc (.cells #[.int .i64 0, .int .i64 0, .string ⟨#[]⟩, .slice none 0 0, .slice none 0 0] 31)) = W0 := ⟨_, rfl⟩
  rw [hW0] at hA0 hZ0 hB0 ⊢
  clear hW0
  have c0 := hA0.cell 0 rfl
  dsimp only at c0
  have hz1 := hZ0.lt
  have z0 := hZ0.cell 0 rfl
  have z1 := hZ0.cell 1 rfl
  have z2 := hZ0.cell 2 rfl
  have z3 := hZ0.cell 3 rfl
  have z4 := hZ0.cell 4 rfl
  have y0 := hZ0.frozen 0
  have y1 := hZ0.frozen 1
  have y2 := hZ0.frozen 2
  have y3 := hZ0.frozen 3
  have y4 := hZ0.frozen 4
  dsimp only [RV.zero] at z0 z1 z2 z3 z4
  have HZ := Lib.hid hZ0
  have HB := Lib.hid hB0
  clear hA0 hZ0 hB0
  go_wp2_with fail
  go_loopw [6] (fun i wr => ∃ k : Nat, k ≤ no ∧ i = .int .i64 k ∧ Hid (∀ (j : Nat) y, j < k → b.objs[j]? = some y → decide (y.1 = id) = false) ∧ wr = W0) (fun i _ => no - (intOf i).toNat)
  case atStart => exact ⟨0, Nat.zero_le _, rfl, fun j y h => by omega, rfl⟩
  case round =>
    obtain ⟨k, hk, rfl, htk, rfl⟩ := hrel
    by_cases hlt : k < no
    · obtain ⟨p, hp⟩ : ∃ x, b.objs[k]? = some x := ⟨_, List.getElem?_eq_getElem (by have := HN.out; omega)⟩
      obtain ⟨q, hq⟩ : ∃ q, rms[k]? = some q := ⟨_, List.getElem?_eq_getElem (by have := HN.out; omega)⟩
      have hpq := HMS.out.name k p q hp hq
      have hTq := HMS.out.val k p q hp hq
      have HTq := Lib.hid (hTq.under (HB.out.mono hBw) (Nat.le_refl _))
      obtain ⟨b1, o1, rfl, hb1, hc1⟩ := rd_at' (HRD.out.below (HB.out.mono hBw) (Nat.le_refl _)) hq
      have f0 := hc1 0 _ rfl
      have f1 := hc1 1 _ rfl
      have f2 := hc1 2 _ rfl
      have f3 := hc1 3 _ rfl
      have f4 := hc1 4 _ rfl
      have f5 := hc1 5 _ rfl
      rw [Nat.add_zero] at f0
      have hk0 : (0 : Int) ≤ (k : Int) := Int.natCast_nonneg _
      have hk1 : (k : Int) < (no : Int) := by omega
      have HP := Lib.hid hp
      have hne1 : b1 ≠ w.heap.size + 1 := by omega
      have hne2 : w.heap.size ≠ w.heap.size + 1 := by omega
      by_cases he : q.name = id
      · have he1 : (q.name.toList == id.toList) = true := by rw [str_beq]; simpa using he
        have HG : Hid (findJ b.objs id = some p.2) := by
          have h1 := find_at (p := fun y : ByteArray × JV => decide (y.1 = id)) HP.out (by simpa [hpq] using he) htk.out
          obtain ⟨p', h2, h3⟩ := findJ_some h1
          rw [HP.out] at h2
          cases h2
          exact h3
        clear he hp hq hpq hTq hc1 htk
        go_wp2_with fail
        have HZ2 := HZ.out.stored q.v
        refine bodyPost_ret (v := .tuple #[RV.val q.v, .bool true]) (by simp [results, Tryz.results33, go_sem, z0, z1, z2, z3, z4]) rfl ⟨q.v, true, rfl, by rw [HG.out]; rfl, ?_, Below.stored HB.out (by omega) q.v⟩
        rw [HG.out]
        exact HTq.out.under (Below.stored (Below.refl _ _) (by omega) q.v) (Nat.le_refl _)
      · have he1 : (q.name.toList == id.toList) = false := by rw [str_beq]; simpa using he
        have HNX : Hid (∀ (j : Nat) y, j < k + 1 → b.objs[j]? = some y → decide (y.1 = id) = false) := by
          intro j y hj hy
          by_cases e : j = k
          · subst e
            rw [hp] at hy
            cases hy
            simpa [hpq] using he
          · exact htk.out j y (by omega) hy
        clear he hp hq hpq hTq hc1 htk
        go_wp2_with fail
        go_roundw
        case rel => exact ⟨k + 1, by omega, by go_num, HNX, by trivial⟩
        case measure => simp [intOf]; omega
    · have hk2 : ¬ ((k : Int) < (no : Int)) := by omega
      have HG : Hid (findJ b.objs id = none) := findJ_none (find_not (p := fun y : ByteArray × JV => decide (y.1 = id)) (fun j y hy => htk.out j y (by have := (List.getElem?_eq_some_iff.1 hy).1; have := HN.out; omega) hy))
      go_wp2_with fail
      have HZ2 := HZ.out.stored RV.zero
      refine bodyPost_ret (v := .tuple #[RV.val RV.zero, .bool false]) (by simp [results, Tryz.results33, go_sem, RV.zero, z0, z1, z2, z3, z4]) rfl ⟨RV.zero, false, rfl, by rw [HG.out]; rfl, by rw [HG.out]; exact TreeOf.zero _ _, Below.stored HB.out (by omega) RV.zero⟩
end Go.Proofs.YtanemojiaahbgaaGreatDoor
end
