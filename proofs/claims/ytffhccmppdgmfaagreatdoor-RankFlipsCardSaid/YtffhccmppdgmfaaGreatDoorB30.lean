import Derived.Test.YtffhccmppdgmfaaGreatDoorB27
set_option linter.unusedSimpArgs false
set_option linter.unusedVariables false
set_option maxRecDepth 200000
set_option maxHeartbeats 8000000
namespace Go.Proofs.YtffhccmppdgmfaaGreatDoor
section
open Go Go.RowKit Go.OpenShut
def flipJ (prop : ByteArray) (up : Int) : JV := JV.mk 5 0 ⟨#[]⟩ [JV.mk 6 0 ⟨#[]⟩ [] [(propN, JV.mk 4 0 prop [] []), (ascN, JV.mk 2 up ⟨#[]⟩ [] [])]] []
theorem leafT (w : World) (B : Nat) (k n : Int) (s : ByteArray) : TreeOf w B (JV.mk k n s [] []) ⟨k, n, s, none, 0, 0, none, 0, 0⟩ :=
 .mk (r := ⟨k, n, s, none, 0, 0, none, 0, 0⟩) (rs := []) (rms := []) (Rd.nil _ _) rfl (fun i t q h => by simp at h) (Rd.nil _ _) rfl (fun i p q h => by simp at h) (fun i p q h => by simp at h)
theorem two_at {α : Type} {a b x : α} {i : Nat} (h : [a, b][i]? = some x) : (i = 0 /\ x = a) \/ (i = 1 /\ x = b) := by
 match i, h with
 | 0, h => exact .inl ⟨rfl, (Option.some.inj h).symm⟩
 | 1, h => exact .inr ⟨rfl, (Option.some.inj h).symm⟩
 | i + 2, h => simp at h
theorem flipSort_any (prop : ByteArray) (up : Int) (w : World) (b : Nat) (hlt : b < w.heap.size) (hb : w.cell? ⟨b, 0, none⟩ = some (.string prop)) : Calls Tryz.prog 13 #[.int .i64 up, .pointer (some ⟨b, 0, none⟩)] w fun e w' => ∃ r, e = .returned r.val /\ TreeOf w' w'.heap.size (flipJ prop up) r /\ Below w.heap.size w w' := by
 obtain ⟨W0, hW0⟩ : ∃ W, w.alloc (.cells #[.int .i64 0, .int .i64 0, .string ⟨#[]⟩, .slice none 0 0, .slice none 0 0] 25) = W := ⟨_, rfl⟩
 have HZ : VAt W0 w.heap.size RV.zero := by rw [<- hW0]; exact heap_alloc_at rfl
 have HB0 : Hid (Below w.heap.size w W0) := by unfold Hid; rw [<- hW0]; exact (Below.refl _ _).alloc (Nat.le_refl _) _
 have hb0 := bcs HB0.out hlt hb
 have hz := HZ.lt
 have HZZ := Lib.hid HZ
 clear HZ
 go_enter Tryz.func13, Tryz.ntmps13
 go_upto_region 1 with fail
 try rw [hW0]
 clear hW0
 obtain ⟨z0, z1, z2, z3, z4⟩ := HZZ.out.cells5
 have y0 := HZZ.out.frozen 0
 have y1 := HZZ.out.frozen 1
 have y2 := HZZ.out.frozen 2
 have y3 := HZZ.out.frozen 3
 have y4 := HZZ.out.frozen 4
 dsimp only [RV.zero] at z0 z1 z2 z3 z4
 go_wp2_with fail
 have hst : Below w.heap.size w (((((W0.setCell ⟨w.heap.size, 0, none⟩ (.int .i64 (⟨5, 0, ⟨#[]⟩, some ⟨W0.heap.size + 1, 0, none⟩, 1, 1, none, 0, 0⟩ : RV).k)).setCell ⟨w.heap.size, 1, none⟩ (.int .i64 (⟨5, 0, ⟨#[]⟩, some ⟨W0.heap.size + 1, 0, none⟩, 1, 1, none, 0, 0⟩ : RV).n)).setCell ⟨w.heap.size, 2, none⟩ (.string (⟨5, 0, ⟨#[]⟩, some ⟨W0.heap.size + 1, 0, none⟩, 1, 1, none, 0, 0⟩ : RV).s)).setCell ⟨w.heap.size, 3, none⟩ (.slice (⟨5, 0, ⟨#[]⟩, some ⟨W0.heap.size + 1, 0, none⟩, 1, 1, none, 0, 0⟩ : RV).pl (⟨5, 0, ⟨#[]⟩, some ⟨W0.heap.size + 1, 0, none⟩, 1, 1, none, 0, 0⟩ : RV).nl (⟨5, 0, ⟨#[]⟩, some ⟨W0.heap.size + 1, 0, none⟩, 1, 1, none, 0, 0⟩ : RV).cl)).setCell ⟨w.heap.size, 4, none⟩ (.slice (⟨5, 0, ⟨#[]⟩, some ⟨W0.heap.size + 1, 0, none⟩, 1, 1, none, 0, 0⟩ : RV).pm (⟨5, 0, ⟨#[]⟩, some ⟨W0.heap.size + 1, 0, none⟩, 1, 1, none, 0, 0⟩ : RV).nm (⟨5, 0, ⟨#[]⟩, some ⟨W0.heap.size + 1, 0, none⟩, 1, 1, none, 0, 0⟩ : RV).cm)) := Below.stored HB0.out (Nat.le_refl _) ⟨5, 0, ⟨#[]⟩, some ⟨W0.heap.size + 1, 0, none⟩, 1, 1, none, 0, 0⟩
 have hsz : ((((((W0.setCell ⟨w.heap.size, 0, none⟩ (.int .i64 (⟨5, 0, ⟨#[]⟩, some ⟨W0.heap.size + 1, 0, none⟩, 1, 1, none, 0, 0⟩ : RV).k)).setCell ⟨w.heap.size, 1, none⟩ (.int .i64 (⟨5, 0, ⟨#[]⟩, some ⟨W0.heap.size + 1, 0, none⟩, 1, 1, none, 0, 0⟩ : RV).n)).setCell ⟨w.heap.size, 2, none⟩ (.string (⟨5, 0, ⟨#[]⟩, some ⟨W0.heap.size + 1, 0, none⟩, 1, 1, none, 0, 0⟩ : RV).s)).setCell ⟨w.heap.size, 3, none⟩ (.slice (⟨5, 0, ⟨#[]⟩, some ⟨W0.heap.size + 1, 0, none⟩, 1, 1, none, 0, 0⟩ : RV).pl (⟨5, 0, ⟨#[]⟩, some ⟨W0.heap.size + 1, 0, none⟩, 1, 1, none, 0, 0⟩ : RV).nl (⟨5, 0, ⟨#[]⟩, some ⟨W0.heap.size + 1, 0, none⟩, 1, 1, none, 0, 0⟩ : RV).cl)).setCell ⟨w.heap.size, 4, none⟩ (.slice (⟨5, 0, ⟨#[]⟩, some ⟨W0.heap.size + 1, 0, none⟩, 1, 1, none, 0, 0⟩ : RV).pm (⟨5, 0, ⟨#[]⟩, some ⟨W0.heap.size + 1, 0, none⟩, 1, 1, none, 0, 0⟩ : RV).nm (⟨5, 0, ⟨#[]⟩, some ⟨W0.heap.size + 1, 0, none⟩, 1, 1, none, 0, 0⟩ : RV).cm))).heap.size = W0.heap.size := by simp
 have hr0 := HB0.out.size
 have HST := Lib.hid hst
 have HSZ := Lib.hid hsz
 clear hst hsz
 refine bodyPost_ret (v := RV.val ⟨5, 0, ⟨#[]⟩, some ⟨W0.heap.size + 1, 0, none⟩, 1, 1, none, 0, 0⟩) (by simp [results, Tryz.results13, go_sem, z0, z1, z2, z3, z4, y0, y1, y2, y3, y4, hz]) rfl ⟨⟨5, 0, ⟨#[]⟩, some ⟨W0.heap.size + 1, 0, none⟩, 1, 1, none, 0, 0⟩, rfl, ?_, ?_⟩
 ·have hst := HST.out
  have hsz := HSZ.out
  dsimp only at hst hsz
  obtain ⟨W1, hW1⟩ : ∃ W, (((((W0.setCell ⟨w.heap.size, 0, none⟩ (.int .i64 (⟨5, 0, ⟨#[]⟩, some ⟨W0.heap.size + 1, 0, none⟩, 1, 1, none, 0, 0⟩ : RV).k)).setCell ⟨w.heap.size, 1, none⟩ (.int .i64 (⟨5, 0, ⟨#[]⟩, some ⟨W0.heap.size + 1, 0, none⟩, 1, 1, none, 0, 0⟩ : RV).n)).setCell ⟨w.heap.size, 2, none⟩ (.string (⟨5, 0, ⟨#[]⟩, some ⟨W0.heap.size + 1, 0, none⟩, 1, 1, none, 0, 0⟩ : RV).s)).setCell ⟨w.heap.size, 3, none⟩ (.slice (⟨5, 0, ⟨#[]⟩, some ⟨W0.heap.size + 1, 0, none⟩, 1, 1, none, 0, 0⟩ : RV).pl (⟨5, 0, ⟨#[]⟩, some ⟨W0.heap.size + 1, 0, none⟩, 1, 1, none, 0, 0⟩ : RV).nl (⟨5, 0, ⟨#[]⟩, some ⟨W0.heap.size + 1, 0, none⟩, 1, 1, none, 0, 0⟩ : RV).cl)).setCell ⟨w.heap.size, 4, none⟩ (.slice (⟨5, 0, ⟨#[]⟩, some ⟨W0.heap.size + 1, 0, none⟩, 1, 1, none, 0, 0⟩ : RV).pm (⟨5, 0, ⟨#[]⟩, some ⟨W0.heap.size + 1, 0, none⟩, 1, 1, none, 0, 0⟩ : RV).nm (⟨5, 0, ⟨#[]⟩, some ⟨W0.heap.size + 1, 0, none⟩, 1, 1, none, 0, 0⟩ : RV).cm)) = W := ⟨_, rfl⟩
  dsimp only at hW1
  rw [hW1] at hsz ⊢
  have hh1 : ((W1.alloc (.cells #[.string propN, .int .i64 4, .int .i64 0, .string prop, .slice none 0 0, .slice none 0 0, .string ascN, .int .i64 2, .int .i64 up, .string ⟨#[]⟩, .slice none 0 0, .slice none 0 0] 32)).alloc (.cells #[.int .i64 6, .int .i64 0, .string ⟨#[]⟩, .slice none 0 0, .slice (some ⟨W0.heap.size, 0, none⟩) 2 2] 25)).heap[W0.heap.size]? = some (.cells #[.string propN, .int .i64 4, .int .i64 0, .string prop, .slice none 0 0, .slice none 0 0, .string ascN, .int .i64 2, .int .i64 up, .string ⟨#[]⟩, .slice none 0 0, .slice none 0 0] 32 (0, 0)) := heap_alloc_lt (by simp; omega) (heap_alloc_at hsz.symm)
  have hh2 : ((W1.alloc (.cells #[.string propN, .int .i64 4, .int .i64 0, .string prop, .slice none 0 0, .slice none 0 0, .string ascN, .int .i64 2, .int .i64 up, .string ⟨#[]⟩, .slice none 0 0, .slice none 0 0] 32)).alloc (.cells #[.int .i64 6, .int .i64 0, .string ⟨#[]⟩, .slice none 0 0, .slice (some ⟨W0.heap.size, 0, none⟩) 2 2] 25)).heap[W0.heap.size + 1]? = some (.cells #[.int .i64 6, .int .i64 0, .string ⟨#[]⟩, .slice none 0 0, .slice (some ⟨W0.heap.size, 0, none⟩) 2 2] 25 (0, 0)) := heap_alloc_at (by simp; omega)
  have hs2 : ((W1.alloc (.cells #[.string propN, .int .i64 4, .int .i64 0, .string prop, .slice none 0 0, .slice none 0 0, .string ascN, .int .i64 2, .int .i64 up, .string ⟨#[]⟩, .slice none 0 0, .slice none 0 0] 32)).alloc (.cells #[.int .i64 6, .int .i64 0, .string ⟨#[]⟩, .slice none 0 0, .slice (some ⟨W0.heap.size, 0, none⟩) 2 2] 25)).heap.size = W0.heap.size + 2 := by simp; omega
  obtain ⟨W3, hW3⟩ : ∃ W, (W1.alloc (.cells #[.string propN, .int .i64 4, .int .i64 0, .string prop, .slice none 0 0, .slice none 0 0, .string ascN, .int .i64 2, .int .i64 up, .string ⟨#[]⟩, .slice none 0 0, .slice none 0 0] 32)).alloc (.cells #[.int .i64 6, .int .i64 0, .string ⟨#[]⟩, .slice none 0 0, .slice (some ⟨W0.heap.size, 0, none⟩) 2 2] 25) = W := ⟨_, rfl⟩
  rw [hW3] at hh1 hh2 hs2
  have hm : Rd W3 W3.heap.size encM 6 (.slice (some ⟨W0.heap.size, 0, none⟩) 2 2) [⟨propN, ⟨4, 0, prop, none, 0, 0, none, 0, 0⟩⟩, ⟨ascN, ⟨2, up, ⟨#[]⟩, none, 0, 0, none, 0, 0⟩⟩] := (Own.block (xs := [⟨propN, ⟨4, 0, prop, none, 0, 0, none, 0, 0⟩⟩, ⟨ascN, ⟨2, up, ⟨#[]⟩, none, 0, 0, none, 0, 0⟩⟩]) (base := W0.heap.size) codecM hh1 rfl rfl (Nat.le_refl _) (show 2 <= maxLen by decide)).rd codecM
  have hv : Rd W3 W3.heap.size encV 5 (.slice (some ⟨W0.heap.size + 1, 0, none⟩) 1 1) [⟨6, 0, ⟨#[]⟩, none, 0, 0, some ⟨W0.heap.size, 0, none⟩, 2, 2⟩] := Rd.one codecV hh2 rfl (by omega)
  have key : TreeOf W3 W3.heap.size (flipJ prop up) ⟨5, 0, ⟨#[]⟩, some ⟨W0.heap.size + 1, 0, none⟩, 1, 1, none, 0, 0⟩ := by
   refine .mk (r := ⟨5, 0, ⟨#[]⟩, some ⟨W0.heap.size + 1, 0, none⟩, 1, 1, none, 0, 0⟩) (rms := []) hv rfl (fun i x q h1 h2 => ?_) (Rd.nil _ _) rfl (fun i p q h => by simp at h) (fun i p q h => by simp at h)
   match i, h1, h2 with
   | 0, h1, h2 =>
     obtain rfl := Option.some.inj h1
     obtain rfl := Option.some.inj h2
     refine .mk (r := ⟨6, 0, ⟨#[]⟩, none, 0, 0, some ⟨W0.heap.size, 0, none⟩, 2, 2⟩) (rs := []) (Rd.nil _ _) rfl (fun i x q h => by simp at h) hm rfl (fun i p q h1 h2 => ?_) (fun i p q h1 h2 => ?_)
     ·match i, h1, h2 with
      | 0, h1, h2 => obtain rfl := Option.some.inj h1; obtain rfl := Option.some.inj h2; rfl
      | 1, h1, h2 => obtain rfl := Option.some.inj h1; obtain rfl := Option.some.inj h2; rfl
      | i + 2, h1, h2 => simp at h1
     ·match i, h1, h2 with
      | 0, h1, h2 => obtain rfl := Option.some.inj h1; obtain rfl := Option.some.inj h2; exact leafT _ _ _ _ _
      | 1, h1, h2 => obtain rfl := Option.some.inj h1; obtain rfl := Option.some.inj h2; exact leafT _ _ _ _ _
      | i + 2, h1, h2 => simp at h1
   | i + 1, h1, h2 => simp at h1
  rw [<- hW3] at key
  exact key
 ·exact (HST.out.alloc (by rw [HSZ.out]; exact hr0) _).alloc (by simp; omega) _
end
end Go.Proofs.YtffhccmppdgmfaaGreatDoor
