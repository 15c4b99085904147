import Derived.Test.YtfpgkiajggfadaaPas
import Derived.Deep.RegionHeld3
set_option linter.unusedSimpArgs false
set_option linter.unusedVariables false
namespace Go.Proofs.Ytfpgkiajggfadaa
open Go.RowKit Go.OpenShut

theorem infoP : (Try.prog.info? 62).map (fun i => (i.zero, i.size, i.bytes)) = some (some (.agg #[.string ByteArray.empty, .bool false, .bool false, .int .i64 0]), 4, 32) := by kernel_rfl

set_option maxRecDepth 100000 in
set_option maxHeartbeats 1000000 in
theorem pasts_any (w : World) (v : Value) (l : List Pa) (hv : Rd w w.heap.size encP 4 v l) (hsz : l.length * 32 ≤ 140737488355328) :
    Calls Try.prog 19 #[v] w (OwnRet w 62 encP 4 l) := by
  obtain ⟨p, c, rfl, hlc, hcm⟩ := rd_len hv
  have HV := Lib.hid hv
  have HS := Lib.hid hsz
  have hlen : l.length ≤ 4398046511104 := by omega
  obtain ⟨i0, hi, hz0, hz1, hz2⟩ := info_parts infoP
  clear hv hsz
  go_enter Try.func19, Try.ntmps19
  go_wp2
  go_loopw [3, 4] (fun o i wr => ∃ k : Nat, k ≤ l.length ∧ i = .int .i64 k ∧ Own wr w.heap.size 62 encP 4 o (l.take k) ∧ Below w.heap.size w wr) (fun _ i _ => l.length - (intOf i).toNat)
  case atStart => exact ⟨0, Nat.zero_le _, rfl, by rw [List.take_zero]; exact Own.nil _ _ _, Below.refl _ _⟩
  case round =>
    obtain ⟨k, hk, rfl, HO, HB⟩ := hrel
    by_cases hlt : k < l.length
    · obtain ⟨x, hx⟩ : ∃ x, l[k]? = some x := ⟨_, List.getElem?_eq_getElem hlt⟩
      obtain ⟨b1, o1, rfl, hb1, hc1⟩ := rd_at HV.out hx
      have f0 := bcs HB hb1 (hc1 0 _ rfl)
      have f1 := bcs HB hb1 (hc1 1 _ rfl)
      have f2 := bcs HB hb1 (hc1 2 _ rfl)
      have f3 := bcs HB hb1 (hc1 3 _ rfl)
      rw [Nat.add_zero] at f0
      have HT := Lib.hid (show l.take (k + 1) = l.take k ++ [x] by rw [List.take_add_one, hx]; rfl)
      clear hx hc1
      have hsz := HB.size
      have hb2 : b1 < wr.heap.size := by omega
      have hlto := HO.lt
      have htl : (l.take k).length ≤ k := List.length_take_le _ _
      have HM : Hid ((l.take k).length + 1 ≤ maxLen) := by unfold Hid maxLen; omega
      have HY : Hid (((l.take k).length + 1) * 32 ≤ 140737488355328) := by have := HS.out; unfold Hid; omega
      have hi0 : (0 : Int) ≤ (k : Int) := Int.natCast_nonneg _
      have hi1 : (k : Int) < (l.length : Int) := by omega
      have hag : u3.ownBlock ≠ some b1 := fun e => by have := (hlto _ e).1; omega
      go_wp2_with fail
      go_region_held3 (fun w' => w'.cell? ⟨b1, o1 + k * 4, none⟩ = some (.string x.id) ∧ w'.cell? ⟨b1, o1 + k * 4 + 1, none⟩ = some (.bool x.was) ∧ w'.cell? ⟨b1, o1 + k * 4 + 2, none⟩ = some (.bool x.isb) ∧ w'.cell? ⟨b1, o1 + k * 4 + 3, none⟩ = some (.int .i64 x.last))
        (first
          | go_keep
          | (go_split_ands
             refine ⟨?_, ?_, ?_, ?_⟩ <;> (rw [hgrow.cell_far _ (by simp; omega) (Ne.symm hag)]; first | assumption | simp [*])))
        ((refine step_append_lies _ (by rfl) _ _ _ (by rfl) w.heap.size 62 i0 _ 4 32 Try.underlying32 hi hz0 hz1 hz2 rfl (by omega) u3 (l.take k).length (cellsOf encP (l.take k)) (by rfl) ((HO.alloc _).drew)
            ⟨wr.heap.size, 0, none⟩ 1 1 (encP x) (by rfl) (by rfl) (World.news_of_block (cs := #[.string x.id, .bool x.was, .bool x.isb, .int .i64 x.last]) (t := 62) (fr := (0, 0)) (heap_alloc_new wr _)) (codecP.one x)
            (by omega) HM.out HY.out (by simp; omega) (wr.heap.size + 1) (by simp) ?_; intro gg cap w1 hown1 hgrow hat hlt))
      have hown2 : Own w1 w.heap.size 62 encP 4 (.slice (some ⟨gg, 0, none⟩) (k + 1) cap) (l.take (k + 1)) := by
        have e1 : (l.take k).length = k := by rw [List.length_take]; omega
        rw [HT.out]
        unfold Own
        rw [cellsOf_append, cellsOf_single, List.length_append, e1]
        rw [e1] at hown1
        exact hown1
      have HBz : Below w.heap.size w w1 := ((HB.alloc hsz _).drew).grown hgrow (by simp; omega) (fun j hj => (hlto j hj).1)
      clear hown1 hgrow hat
      go_wp2_with fail
      go_roundw
      case rel => exact ⟨k + 1, by omega, by go_num, hown2, HBz⟩
      case measure => simp [intOf]; omega
    · obtain rfl : k = l.length := by omega
      go_wp2
      go_ret
      rw [List.take_length] at HO
      exact ⟨_, rfl, HO, HB⟩
end Go.Proofs.Ytfpgkiajggfadaa
