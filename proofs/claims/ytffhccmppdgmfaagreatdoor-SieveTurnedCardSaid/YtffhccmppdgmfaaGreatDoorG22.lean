import Derived.Test.YtffhccmppdgmfaaGreatDoorG20
import Derived.Test.YtffhccmppdgmfaaGreatDoorG21
import Derived.Test.YtffhccmppdgmfaaGreatDoorG19
import Derived.Test.YtffhccmppdgmfaaGreatDoorG09
import Derived.Test.YtffhccmppdgmfaaGreatDoorG14
import Derived.Test.YtffhccmppdgmfaaGreatDoorG04
import Derived.Test.YtffhccmppdgmfaaGreatDoorG12
import Derived.Test.YtffhccmppdgmfaaGreatDoorG13
import Derived.Sort.WalkB2
import Derived.Sort.WalkB12
import Derived.Deep.LoopGhost
import Derived.Lib.Hide
set_option linter.unusedSimpArgs false
set_option linter.unusedVariables false
set_option maxRecDepth 200000
set_option maxHeartbeats 8000000
namespace Go.Proofs.YtffhccmppdgmfaaGreatDoor
section
open Go Go.RowKit Go.OpenShut
def encN (x : Int) : List Value := [.int .i64 x]
theorem codecN : Codec encN 1 := ⟨fun _ => rfl, fun x u hu => by
 simp only [encN, List.mem_cons, List.not_mem_nil, or_false] at hu
 rw [hu]; rfl, by decide⟩
theorem cell_row {w w2 : World} {g : Nat} {a : Addr} {v : Value} (hg : w.grownBy w2 (some g)) (hl : a.block < w.heap.size) (hne : a.block ≠ g) (h : w.cell? a = some v) : w2.cell? a = some v := (World.cell?_of_block (w := w) (hg.block a.block hl (by simpa using hne))).trans h
theorem run_und {P : Program} {t : TypeId} {d : TypeDesc} (h : P.underlying t = some d) (w : World) : Sem.run P (Go.underlying t) w = .ok d w := by
 unfold Go.underlying
 simp [go_sem, h]
def dRT : RM := ⟨⟨#[]⟩, ⟨0, 0, ⟨#[]⟩, none, 0, 0, none, 0, 0⟩⟩
def rsT (rs : List RM) (i : Nat) : RM := rs.getD i dRT
def msT (m : List (ByteArray × JV)) (i : Nat) : ByteArray × JV := m.getD i (⟨#[]⟩, JV.zero)
theorem rangeT {α : Type} (l : List α) (d : α) : (List.range l.length).map (fun i => l.getD i d) = l := by
 apply List.ext_getElem
 ·simp
 ·intro i h1 h2
  simp [List.getD_eq_getElem?_getD, List.getElem?_eq_getElem h2]
theorem turnA (k no : Nat) (h : 0 < no) : ∃ a : Nat, (k : Int) % (no : Int) = (a : Int) /\ a < no := ⟨k % no, by omega, Nat.mod_lt _ h⟩
theorem turnB (z : Int) (no : Nat) (h : 0 < no) (hn : no <= 800) : ∃ b : Nat, wrap64 ((IntKind.u64.wrap z).tmod (no : Int)) = (b : Int) /\ b < no := by
 have h1 : 0 <= IntKind.u64.wrap z := by rw [show IntKind.u64.wrap z = z % 18446744073709551616 by simp [IntKind.wrap, IntKind.bits, IntKind.signed]]; omega
 obtain ⟨m, hm⟩ : ∃ m : Nat, IntKind.u64.wrap z = (m : Int) := ⟨(IntKind.u64.wrap z).toNat, by omega⟩
 refine ⟨m % no, ?_, Nat.mod_lt _ h⟩
 rw [hm, <- Int.ofNat_tmod]
 have h2 := Nat.mod_lt m h
 unfold wrap64
 omega
theorem grown_refl (w : World) (row : Option Nat) : w.grownBy w row := ⟨rfl, rfl, rfl, Nat.le_refl _, fun _ _ _ => rfl⟩
theorem Own.rdB {α : Type} {enc : α -> List Value} {sz : Nat} (C : Codec enc sz) {w : World} {base B : Nat} {e : TypeId} {v : Value} {xs : List α} (h : Own w base e enc sz v xs) (hB : ∀ k, v.ownBlock = some k -> k < B) : Rd w B enc sz v xs := by
 obtain ⟨p, cap, h1, h2, h3, h4, h5⟩ := h.rd C
 refine ⟨p, cap, h1, h2, h3, h4, fun a ha h0 => ?_⟩
 obtain ⟨b, o, e, hb, hr⟩ := h5 a ha h0
 exact ⟨b, o, e, hB b (by rw [h1, ha, e]; rfl), hr⟩
theorem LoneV.treeB {w : World} {S : Nat -> Prop} {t : JV} {r : RV} {B : Nat} (h : LoneV w S t r) : (∀ k, S k -> k < B) -> TreeOf w B t r := by
 induction h with
 | mk F hl hm sl sm dr el em cn cl cm ff dd ih1 ih2 =>
   intro hS
   exact .mk (hl.rdB codecV (fun k e => hS k (sl k e))) el (fun i t q h1 h2 => ih1 i t q h1 h2 (fun k hf => hS k (ff _ k hf).1)) (hm.rdB codecM (fun k e => hS k (sm k e))) em cn (fun i p q h1 h2 => ih2 i p q h1 h2 (fun k hf => hS k (ff _ k hf).1))
theorem kbZ {B : Nat} {W w : World} (h : KB B W w) : Below B W w := h.1
theorem own_apart2 {α : Type} {enc : α -> List Value} {sz : Nat} {e : TypeId} {w w' : World} {b2 g : Nat} {v : Value} {xs : List α} (h : Own w b2 e enc sz v xs) (hg : w.grownBy w' (some g)) (hlt : g < b2) : Own w' b2 e enc sz v xs := by
 refine h.kept hg ?_
 cases hb : v.ownBlock with
 | none => exact .inl rfl
 | some k =>
   refine .inr (fun e => ?_)
   have := (h.lt k hb).1
   injection e with e
   omega
theorem turn_ok {v : JV} (ov : v.Ok) (hk : v.k = 6) {ms : List (ByteArray × JV)} (h1 : ∀ p ∈ ms, p.1.size <= 140737488351232 /\ p.2.Ok) (h0 : ms.length <= 1466015503658) : (JV.mk 6 v.n v.s v.l ms).Ok := by
 cases ov with
 | mk hk' hn hs hl hm cl cs cm => exact .mk (by decide) hn hs hl h0 cl (fun i p h => (h1 p (List.mem_of_getElem? h)).1) (fun i p h => (h1 p (List.mem_of_getElem? h)).2)
theorem sizeT_M (v : JV) : sizeM v.m <= sizeT v := by
 cases v
 rw [sizeT]
 simp only [JV.m]
 omega
theorem lone_open {W : World} {S : Nat -> Prop} {t : JV} {q : RV} (h : LoneV W S t q) : ∃ rms, Own W 0 32 encM 6 (.slice q.pm q.nm q.cm) rms /\ (∀ k, (Value.slice q.pm q.nm q.cm).ownBlock = some k -> S k) /\ t.m.length = rms.length /\ q.nm = rms.length /\ q.k = t.k /\
 ∀ (w : World) (B : Nat) (js : List Nat), (∀ k, S k -> k < B /\ k < W.heap.size) -> js.Perm (List.range q.nm) -> Own w 0 32 encM 6 (.slice q.pm q.nm q.cm) (js.map (rsT rms)) -> W.grownBy w (Value.slice q.pm q.nm q.cm).ownBlock -> TreeOf w B (.mk t.k t.n t.s t.l (js.map (msT t.m))) q := by
 cases h with
 | @mk _ _ l m rs rms F hl hm sl sm dr el em cn cl cm ff dd =>
   have hnm : q.nm = rms.length := by
    obtain ⟨p, cap, hv, _⟩ := hm.len
    injection hv
   refine ⟨rms, hm, sm, em, hnm, rfl, fun w B js hS hj ho hg => ?_⟩
   have hkeep : ∀ a k, F a k -> w.heap[k]? = W.heap[k]? := fun a k hf => hg.block k (hS k (ff a k hf).1).2 (Ne.symm (ff a k hf).2.2)
   have hix : ∀ (i : Nat) (p : ByteArray × JV) (x : RM), (js.map (msT m))[i]? = some p -> (js.map (rsT rms))[i]? = some x -> ∃ j : Nat, m[j]? = some p /\ rms[j]? = some x := by
    intro i p x h1 h2
    rw [List.getElem?_map] at h1 h2
    cases hji : js[i]? with
    | none => rw [hji] at h1; cases h1
    | some j =>
      rw [hji] at h1 h2
      have hjl : j < rms.length := by
       have := hj.mem_iff.1 (List.mem_of_getElem? hji)
       rw [List.mem_range] at this
       omega
      refine ⟨j, ?_, ?_⟩
      ·simp only [Option.map_some, Option.some.injEq] at h1
       rw [<- h1]
       have hjm : j < m.length := by change m.length = rms.length at em; omega
       rw [List.getElem?_eq_getElem hjm]
       unfold msT
       rw [List.getD_eq_getElem?_getD, List.getElem?_eq_getElem hjm]
       rfl
      ·simp only [Option.map_some, Option.some.injEq] at h2
       rw [<- h2, List.getElem?_eq_getElem hjl]
       unfold rsT
       rw [List.getD_eq_getElem?_getD, List.getElem?_eq_getElem hjl]
       rfl
   have hlk : Own w 0 25 encV 5 (.slice q.pl q.nl q.cl) rs := hl.kept hg (by
    cases hb : (Value.slice q.pl q.nl q.cl).ownBlock with
    | none => exact .inl rfl
    | some k => exact .inr (fun e => dr k hb e.symm))
   refine TreeOf.mk (rs := rs) (rms := js.map (rsT rms)) (hlk.rdB codecV (fun k e => (hS k (sl k e)).1)) el (fun i t q h1 h2 => ?_) (ho.rdB codecM (fun k e => (hS k (sm k e)).1)) (by simp) (fun i p x h1 h2 => ?_) (fun i p x h1 h2 => ?_)
   ·exact ((cl i t q h1 h2).same (fun k hf => hkeep _ k hf)).treeB (fun k hf => (hS k (ff _ k hf).1).1)
   ·obtain ⟨j, h3, h4⟩ := hix i p x h1 h2
    exact cn j p x h3 h4
   ·obtain ⟨j, h3, h4⟩ := hix i p x h1 h2
    exact ((cm j p x h3 h4).same (fun k hf => hkeep _ k hf)).treeB (fun k hf => (hS k (ff _ k hf).1).1)
theorem sieveTurned_any (f v : JV) (r q : RV) (po : Option Addr) (ni ci : Nat) (is : List Int) (w : World) (hf : TreeOf w w.heap.size f r) (of : f.Ok) (hv : TreeOf w w.heap.size v q) (ov : v.Ok) (hi : Rd w w.heap.size encN 1 (.slice po ni ci) is) (hall : AllAt w) (hmax : MaxAt w) :
 Calls Tryz.prog 10 #[r.val, q.val, .slice po ni ci] w fun e w' => e = .returned (.bool true) /\ Below w.heap.size w w' := by
 obtain ⟨W0, hW0⟩ : ∃ W0, (w.alloc (.cells #[.int .i64 r.k, .int .i64 r.n, .string r.s, .slice r.pl r.nl r.cl, .slice r.pm r.nm r.cm] 25)).alloc (.cells #[.int .i64 q.k, .int .i64 q.n, .string q.s, .slice q.pl q.nl q.cl, .slice q.pm q.nm q.cm] 25) = W0 := ⟨_, rfl⟩
 have hA0 : VAt W0 w.heap.size r := by rw [<- hW0]; exact heap_alloc_lt (by simp) (heap_alloc_at rfl)
 have hC0 : VAt W0 (w.heap.size + 1) q := by rw [<- hW0]; exact heap_alloc_at (by simp)
 have hB0 : Below w.heap.size w W0 := by rw [<- hW0]; exact below2 w _ _
 have hw0 := hB0.size
 have hf0 : TreeOf W0 W0.heap.size f r := hf.under hB0 hw0
 have hv0 : TreeOf W0 W0.heap.size v q := hv.under hB0 hw0
 have HRI : Hid (Rd W0 W0.heap.size encN 1 (.slice po ni ci) is) := hi.below hB0 hw0
 have HIN : Hid (ni = is.length) := rd_nlen hi
 have hall0 := hall.below hB0
 have hmax0 := hmax.below hB0
 have HVA : Hid (∀ W, Below W0.heap.size W0 W -> VAt W w.heap.size r /\ VAt W (w.heap.size + 1) q) := fun W hb => ⟨hA0.under hb hA0.lt, hC0.under hb hC0.lt⟩
 have HAW : Hid (∀ W, Below W0.heap.size W0 W -> Calls Tryz.prog 17 #[] W fun e w' => e = .returned (.bool true) /\ Below W.heap.size W w') := fun W hb => awake20_any W (hall0.below hb) (hmax0.below hb)
 have HF : Hid (∀ W, Below W0.heap.size W0 W -> Calls Tryz.prog 21 #[r.val, q.val] W fun e w' => ∃ b : Bool, e = .returned (.bool b) /\ Hid (b = true -> (OwnN f /\ countT f <= 300) /\ OwnN v /\ countT v <= 800) /\ Below W.heap.size W w') := fun W hb => few20_any f v r q W (hf0.under hb hb.size) of (hv0.under hb hb.size) ov
 have HLF : Hid (∀ W, Below W0.heap.size W0 W -> Calls Tryz.prog 22 #[r.val, .int .i64 2000] W fun e w' => ∃ b : Bool, e = .returned (.bool b) /\ Hid (b = true -> sizeT f <= 2000) /\ Below W.heap.size W w') := fun W hb => light20_any f r 2000 W (by decide) (hf0.under hb hb.size) of
 have HLV : Hid (∀ W, Below W0.heap.size W0 W -> Calls Tryz.prog 22 #[q.val, .int .i64 8000] W fun e w' => ∃ b : Bool, e = .returned (.bool b) /\ Hid (b = true -> sizeT v <= 8000) /\ Below W.heap.size W w') := fun W hb => light20_any v q 8000 W (by decide) (hv0.under hb hb.size) ov
 have HCV : Hid (∀ W, Below W0.heap.size W0 W -> Calls Tryz.prog 33 #[q.val] W fun e w' => e = .returned (.int .i64 (checkE v)) /\ Below W.heap.size W w') := fun W hb => check_any v q W (hv0.under hb hb.size) ov
 have HYV : Hid (∀ W, Below W0.heap.size W0 W -> Calls Tryz.prog 34 #[q.val] W (NewTree W v)) := fun W hb => copy_any _ v q W (Nat.le_refl _) (hv0.under hb hb.size) ov
 have HSH : Hid (((OwnN f /\ countT f <= 300) /\ OwnN v /\ countT v <= 800) -> ∀ (u : JV) (x : RV) W, u.Ok -> countT u <= 100000 -> sizeT u <= 4000000000 -> Below W0.heap.size W0 W -> TreeOf W W.heap.size u x -> Calls Tryz.prog 23 #[r.val, x.val] W fun e w' => e = .returned (.bool (holdsJ f u)) /\ Below W.heap.size W w') := fun h1 u x W ou hcu hsu hb hx => svHolds_any f u r x W W.heap.size (Nat.le_refl _) (hf0.under hb hb.size) hx of ou (by omega) hcu hsu (fun h => h1.1.1.2 (by rw [h]; decide)) (hall0.below hb) (hmax0.below hb)
 have HTV : Hid (∀ W, Below W0.heap.size W0 W -> TreeOf W W.heap.size v q) := fun W hb => hv0.under hb hb.size
 have HKK := Lib.hid hv.kk.1
 have HOV : Hid (v.Ok) := ov
 obtain ⟨E2, hE2⟩ : ∃ E, checkE v = E := ⟨_, rfl⟩
 rw [hE2] at HCV
 have HE2 := Lib.hid hE2
 obtain ⟨c0, c1, c2, c3, c4⟩ := hA0.cells5
 obtain ⟨d0, d1, d2, d3, d4⟩ := hC0.cells5
 have HB0 := Lib.hid hB0
 have hb0 : Below W0.heap.size W0 W0 := Below.refl _ _
 have ni0 : (0 : Int) <= (ni : Int) := Int.natCast_nonneg _
 clear hf hv of ov hall hmax hA0 hC0 hf0 hv0 hall0 hmax0 hE2 hB0 hi
 go_enter Tryz.func10, Tryz.ntmps10
 go_upto_region 1 with fail
 try rw [hW0]
 clear hW0
 go_cut [43] from 11 to 43 (fun x wx => ∃ b : Bool, x = .bool b /\ Hid ((b = false -> (((OwnN f /\ countT f <= 300) /\ OwnN v /\ countT v <= 800) /\ sizeT v <= 8000) /\ checkE v = 0 /\ v.k = 6 /\ ni <= 200) /\ Below W0.heap.size W0 wx))
 case first =>
  obtain ⟨B1, hB1⟩ : ∃ b, (E2 != 0) = b := ⟨_, rfl⟩
  obtain ⟨B2, hB2⟩ : ∃ b, (q.k != 6) = b := ⟨_, rfl⟩
  obtain ⟨B3, hB3⟩ : ∃ b, decide ((200 : Int) < (ni : Int)) = b := ⟨_, rfl⟩
  have hB3' : decide (200 < ni) = B3 := by rw [<- hB3, decide_eq_decide]; omega
  have HYES : Hid (B1 = false -> B2 = false -> B3 = false -> checkE v = 0 /\ v.k = 6 /\ ni <= 200) := fun h1 h2 h3 => by
   rw [h1] at hB1
   rw [h2] at hB2
   rw [h3] at hB3
   refine ⟨HE2.out.trans (by simpa using hB1), HKK.out.symm.trans (by simpa using hB2), ?_⟩
   have := of_decide_eq_false hB3
   omega
  cases B1
  all_goals
   try cases B2
   all_goals
    try cases B3
    all_goals
     go_wp2_with (first
      | (go_at_call 17; (with_reducible refine (HAW.out _ hb0).mono ?_); rintro e w1 ⟨rfl, hbA⟩; (have hb1 := hb0.trans (hbA.mono hb0.size)); (have hAx := HVA.out _ hb1); (obtain ⟨c0, c1, c2, c3, c4⟩ := hAx.1.cells5); (obtain ⟨d0, d1, d2, d3, d4⟩ := hAx.2.cells5); clear hAx)
      | (go_at_call 21; (with_reducible refine (HF.out _ hb1).mono ?_); rintro e w2 ⟨b1, rfl, HL1, hbB⟩; (have hb2 := hb1.trans (hbB.mono hb1.size)); (have hAx := HVA.out _ hb2); (obtain ⟨c0, c1, c2, c3, c4⟩ := hAx.1.cells5); (obtain ⟨d0, d1, d2, d3, d4⟩ := hAx.2.cells5); clear hAx; cases b1)
      | (go_at_call 22; (with_reducible refine (HLF.out _ hb2).mono ?_); rintro e w3 ⟨b2, rfl, HL2, hbC⟩; (have hb3 := hb2.trans (hbC.mono hb2.size)); (have hAx := HVA.out _ hb3); (obtain ⟨c0, c1, c2, c3, c4⟩ := hAx.1.cells5); (obtain ⟨d0, d1, d2, d3, d4⟩ := hAx.2.cells5); clear hAx; cases b2)
      | (go_at_call 22; (with_reducible refine (HLV.out _ hb3).mono ?_); rintro e w4 ⟨b3, rfl, HL3, hbD⟩; (have hb4 := hb3.trans (hbD.mono hb3.size)); (have hAx := HVA.out _ hb4); (obtain ⟨c0, c1, c2, c3, c4⟩ := hAx.1.cells5); (obtain ⟨d0, d1, d2, d3, d4⟩ := hAx.2.cells5); clear hAx; cases b3)
      | (go_at_call 33; (with_reducible refine (HCV.out _ hb4).mono ?_); rintro e w6 ⟨rfl, hbF⟩; (have hb6 := hb4.trans (hbF.mono hb4.size)); (have hAx := HVA.out _ hb6); (obtain ⟨c0, c1, c2, c3, c4⟩ := hAx.1.cells5); (obtain ⟨d0, d1, d2, d3, d4⟩ := hAx.2.cells5); clear hAx))
     all_goals
      go_meet
      first
       | exact ⟨true, rfl, (fun h => by cases h), hb6⟩
       | exact ⟨true, rfl, (fun h => by cases h), hb4⟩
       | exact ⟨true, rfl, (fun h => by cases h), hb3⟩
       | exact ⟨true, rfl, (fun h => by cases h), hb2⟩
       | exact ⟨false, rfl, fun _ => ⟨⟨HL1.out (by trivial), HL3.out (by trivial)⟩, HYES.out (by trivial) (by trivial) (by trivial)⟩, hb6⟩
 case rest =>
 obtain ⟨b, rfl, hx9⟩ := hcut
 obtain ⟨Wa, rfl⟩ : ∃ W, W = wc := ⟨_, rfl⟩
 obtain ⟨hyes, hba⟩ := hx9.out
 clear hx9 c0 c1 c2 c3 c4 d0 d1 d2 d3 d4 HF HLF HLV HCV
 cases b with
 | true =>
   go_wp2_with (go_at_call 17; (with_reducible refine (HAW.out _ hba).mono ?_); rintro e w1 ⟨rfl, hbA⟩)
   go_ret
   exact ⟨rfl, HB0.out.trans ((hba.trans (hbA.mono hba.size)).mono hw0)⟩
 | false =>
   obtain ⟨⟨hfew, hsz⟩, hck, hvk, hni⟩ := hyes rfl
   have HSH2 := Lib.hid (HSH.out hfew)
   have HCT : Hid (countT v <= 800 /\ sizeT v <= 8000 /\ v.k = 6 /\ (v.m.map (·.1)).Nodup) := ⟨hfew.2.2, hsz, hvk, nodup_of_check hck hvk (by have := hfew.2.2; omega)⟩
   have hA9 := HVA.out _ hba
   obtain ⟨c0, c1, c2, c3, c4⟩ := hA9.1.cells5
   obtain ⟨d0, d1, d2, d3, d4⟩ := hA9.2.cells5
   clear HAW HSH hyes hfew hsz hck hvk hA9 hb0 HE2
   go_upto_region 4 with (go_at_call 34; (with_reducible refine (HYV.out _ hba).mono ?_); rintro e w5 ⟨⟨qk, qn, qS, qpl, qnl, qcl, qpm, qnm, qcm⟩, rfl, hl5, hb5⟩)
   have hv5 : VAt (w5.alloc (.cells #[.int .i64 qk, .int .i64 qn, .string qS, .slice qpl qnl qcl, .slice qpm qnm qcm] 25)) w5.heap.size ⟨qk, qn, qS, qpl, qnl, qcl, qpm, qnm, qcm⟩ := heap_alloc_at rfl
   have hb5a : Below Wa.heap.size Wa (w5.alloc (.cells #[.int .i64 qk, .int .i64 qn, .string qS, .slice qpl qnl qcl, .slice qpm qnm qcm] 25)) := hb5.alloc hb5.size _
   have hl5a : LoneV (w5.alloc (.cells #[.int .i64 qk, .int .i64 qn, .string qS, .slice qpl qnl qcl, .slice qpm qnm qcm] 25)) (Fresh Wa w5) v ⟨qk, qn, qS, qpl, qnl, qcl, qpm, qnm, qcm⟩ := hl5.same (fun k hk => Below.heap_alloc _ _ _ hk.2)
   obtain ⟨g5, hg5⟩ : ∃ g, w5.heap.size = g := ⟨_, rfl⟩
   have HFR : Hid (∀ k, Fresh Wa w5 k -> Wa.heap.size <= k /\ k < g5) := fun k hk => ⟨hk.1, by have := hk.2; omega⟩
   have hG5 : W0.heap.size <= g5 := by have h1 := hba.size; have h2 := hb5.size; omega
   obtain ⟨W5, hW5⟩ : ∃ W, w5.alloc (.cells #[.int .i64 qk, .int .i64 qn, .string qS, .slice qpl qnl qcl, .slice qpm qnm qcm] 25) = W := ⟨_, rfl⟩
   rw [hW5, hg5] at hv5
   rw [hW5] at hb5a hl5a
   try rw [hW5]
   try rw [hg5]
   have hb50 : Below W0.heap.size W0 W5 := hba.trans (hb5a.mono hba.size)
   obtain ⟨rms, hom, hsm, hml, hnm, hqk, HTT⟩ := lone_open hl5a
   dsimp only at hom hsm hnm hqk HTT
   have hgl5 := hv5.lt
   have HTT2 : Hid (∀ (wz : World) (js : List Nat), js.Perm (List.range qnm) -> Own wz 0 32 encM 6 (.slice qpm qnm qcm) (js.map (rsT rms)) -> W5.grownBy wz (Value.slice qpm qnm qcm).ownBlock -> TreeOf wz g5 (.mk v.k v.n v.s v.l (js.map (msT v.m))) ⟨qk, qn, qS, qpl, qnl, qcl, qpm, qnm, qcm⟩) := fun wz js h1 h2 h3 => HTT wz g5 js (fun k hk => ⟨(HFR.out k hk).2, Nat.lt_trans (HFR.out k hk).2 hgl5⟩) h1 h2 h3
   have HROW : Hid (∀ k, (Value.slice qpm qnm qcm).ownBlock = some k -> Wa.heap.size <= k /\ k < g5) := fun k hk => HFR.out k (hsm k hk)
   have hn8 : qnm <= 800 := by
    have h1 := countT_m v
    have h2 := countL_len (v.m.map (·.2))
    rw [List.length_map] at h2
    have := HCT.out.1
    omega
   have HNM : Hid (qnm = rms.length /\ qnm = v.m.length) := ⟨hnm, by omega⟩
   have HST0 : Hid ((List.range qnm).Perm (List.range qnm) /\ Own W5 0 32 encM 6 (.slice qpm qnm qcm) ((List.range qnm).map (rsT rms)) /\ W5.grownBy W5 (Value.slice qpm qnm qcm).ownBlock) := by
    refine ⟨List.Perm.refl _, ?_, grown_refl _ _⟩
    have e : (List.range qnm).map (rsT rms) = rms := by rw [hnm]; exact rangeT rms dRT
    rw [e]
    exact hom
   have HV5 : Hid (∀ wz, W5.grownBy wz (Value.slice qpm qnm qcm).ownBlock -> VAt wz g5 ⟨qk, qn, qS, qpl, qnl, qcl, qpm, qnm, qcm⟩ /\ Below W0.heap.size W0 wz /\ g5 < wz.heap.size) := fun wz hg => by
    refine ⟨(hg.block g5 hgl5 (fun e => ?_)).trans hv5, hb50.grown hg hb50.size (fun k e => ?_), Nat.lt_of_lt_of_le hgl5 hg.size⟩
    ·have := (HROW.out g5 e.symm).2
     omega
    ·have := (HROW.out k e).1
     have := hba.size
     omega
   have HBA := Lib.hid hba
   have HG5 : Hid (W0.heap.size <= g5) := hG5
   clear c0 c1 c2 c3 c4 d0 d1 d2 d3 d4 hW5 hg5 hb5 hl5 hl5a hv5 hb5a HTT hom hsm hml hnm hqk HFR HYV hba
   go_wp2_with fail
   go_loopw [8] (fun i wr => ∃ (k : Nat) (js : List Nat), k <= ni /\ i = .int .i64 (k : Int) /\ Hid (js.Perm (List.range qnm) /\ Own wr 0 32 encM 6 (.slice qpm qnm qcm) (js.map (rsT rms)) /\ W5.grownBy wr (Value.slice qpm qnm qcm).ownBlock)) (fun i _ => ni - (intOf i).toNat)
   case atStart => exact ⟨0, _, Nat.zero_le _, rfl, HST0.out⟩
   case round =>
    obtain ⟨k, js, hk, rfl, HJ⟩ := hrel
    have hk0 : (0 : Int) <= (k : Int) := Int.natCast_nonneg _
    have qn0 : (0 : Int) <= (qnm : Int) := Int.natCast_nonneg _
    obtain ⟨hvr, hbr, hglr⟩ := HV5.out _ HJ.out.2.2
    obtain ⟨t0, t1, t2, t3, t4⟩ := hvr.cells5
    dsimp only at t0 t1 t2 t3 t4
    by_cases hgo : k < ni /\ 0 < qnm
    ·obtain ⟨hlt, hn0⟩ := hgo
     have hk1 : (k : Int) < (ni : Int) := by omega
     have hn1 : (0 : Int) < (qnm : Int) := by omega
     have hn2 : (qnm : Int) ≠ 0 := by omega
     obtain ⟨z, hz1⟩ : ∃ z, is[k]? = some z := ⟨_, List.getElem?_eq_getElem (by have := HIN.out; omega)⟩
     obtain ⟨b1, o1, hp1, hb1, hc1⟩ := rd_at' (HRI.out.below hbr (Nat.le_refl _)) hz1
     obtain rfl := hp1
     have f0 := hc1 0 _ rfl
     rw [Nat.add_zero, Nat.mul_one] at f0
     clear hc1 hz1
     go_upto_region 8 with fail
     go_quiet (fail)
     go_wp2_with fail
     have hjo2 : Own (wr.drewN nq) 0 32 encM 6 (.slice qpm qnm qcm) (js.map (rsT rms)) := HJ.out.2.1
     have hjg2 : W5.grownBy (wr.drewN nq) (Value.slice qpm qnm qcm).ownBlock := ⟨HJ.out.2.2.os, HJ.out.2.2.tape, HJ.out.2.2.output, HJ.out.2.2.size, HJ.out.2.2.block⟩
     have hjp := HJ.out.1
     have t4' : (wr.drewN nq).cell? ⟨g5, 4, none⟩ = some (.slice qpm qnm qcm) := t4
     obtain ⟨a, ha, hal⟩ := turnA k qnm hn0
     obtain ⟨b, hb, hbl⟩ := turnB z qnm hn0 hn8
     rw [ha, hb]
     obtain ⟨Wq, hWq⟩ : ∃ W, wr.drewN nq = W := ⟨_, rfl⟩
     have hgq : g5 < (wr.drewN nq).heap.size := hglr
     rw [hWq] at hjo2 hjg2 t4' hgq ⊢
     clear hWq hvr hbr hglr t0 t1 t2 t3 t4 f0 hb1 HJ
     have hjl : js.length = qnm := by have h := hjp.length_eq; simpa using h
     obtain ⟨x, hx⟩ : ∃ x, js[a]? = some x := ⟨_, List.getElem?_eq_getElem (by omega)⟩
     obtain ⟨y, hy⟩ : ∃ x, js[b]? = some x := ⟨_, List.getElem?_eq_getElem (by omega)⟩
     have hxx : (js.map (rsT rms))[a]? = some (rsT rms x) := by rw [List.getElem?_map, hx]; rfl
     have hyy : (js.map (rsT rms))[b]? = some (rsT rms y) := by rw [List.getElem?_map, hy]; rfl
     obtain ⟨g, hpq, hq1, hg1, hq2, hq3, hq4⟩ := Own.at codecM hjo2 hxx
     clear hq1 hq2 hq3 hq4
     subst hpq
     have hgg : g < g5 := (HROW.out g rfl).2
     obtain ⟨z6, hz6⟩ : ∃ q, 6 = q := ⟨_, rfl⟩
     have CC : Codec encM z6 := hz6 ▸ codecM
     have hjq : Own Wq.drew 0 32 encM z6 (.slice (some ⟨g, 0, none⟩) qnm qcm) (js.map (rsT rms)) := hz6 ▸ (show Own Wq.drew 0 32 encM 6 (.slice (some ⟨g, 0, none⟩) qnm qcm) (js.map (rsT rms)) from hjo2)
     obtain ⟨s1, s2, o2, g2⟩ := Own.swapped CC Tryz.prog hjq hxx hyy
     have l1 := Own.loadRow CC Tryz.prog hjq hxx
     have l2 := Own.loadRow CC Tryz.prog hjq hyy
     have n1 : (encM (rsT rms x)).length = z6 := CC.len _
     have n2 : (encM (rsT rms y)).length = z6 := CC.len _
     have zE : ∀ w, (Go.sizeOf 32).run Tryz.prog w = .ok z6 w := hz6 ▸ Tryz.sizeOf32
     have aE := Tryz.isAgg32
     have t3 := Tryz.underlying3
     have a3 := Tryz.isAgg3
     have z3 := Tryz.sizeOf3
     have v3 := Tryz.zeroValue3
     have tS := Tryz.underlying23
     have aS := Tryz.isAgg23
     have zS := Tryz.sizeOf23
     have vS := Tryz.zeroValue23
     have tV := Tryz.underlying25
     have mixed : Tryz.prog.follows .mixedOrders = true := by kernel_rfl
     have hj2 : ((js.set a y).set b x).Perm js := by
      have ea : js[a]'(by omega) = x := (List.getElem?_eq_some_iff.1 hx).2
      have eb : js[b]'(by omega) = y := (List.getElem?_eq_some_iff.1 hy).2
      have haj : a < js.length := by omega
      have hbj : b < js.length := by omega
      have h := List.set_set_perm haj hbj
      rw [ea, eb] at h
      exact h
     have hgr : W5.grownBy ((Wq.drew.setCells g (a * z6) (encM (rsT rms y))).setCells g (b * z6) (encM (rsT rms x))) (some g) :=
      World.grownBy.trans (show W5.grownBy Wq.drew (some g) from ⟨hjg2.os, hjg2.tape, hjg2.output, hjg2.size, hjg2.block⟩) g2
     have HP : Hid (((js.set a y).set b x).Perm (List.range qnm) /\ Own ((Wq.drew.setCells g (a * z6) (encM (rsT rms y))).setCells g (b * z6) (encM (rsT rms x))) 0 32 encM z6 (.slice (some ⟨g, 0, none⟩) qnm qcm) (((js.set a y).set b x).map (rsT rms)) /\ W5.grownBy ((Wq.drew.setCells g (a * z6) (encM (rsT rms y))).setCells g (b * z6) (encM (rsT rms x))) (some g)) :=
      ⟨hj2.trans hjp, by rw [List.map_set, List.map_set]; exact o2, hgr⟩
     have HQ : Hid (6 = z6) := hz6
     have t4d : Wq.drew.cell? ⟨g5, 4, none⟩ = some (.slice (some ⟨g, 0, none⟩) qnm qcm) := t4'
     have hgn : g5 ≠ g := by omega
     obtain ⟨_, _, gA⟩ := Own.storeRow CC Tryz.prog hjq hxx (rsT rms y)
     have t4e : (Wq.drew.setCells g (a * z6) (encM (rsT rms y))).cell? ⟨g5, 4, none⟩ = some (.slice (some ⟨g, 0, none⟩) qnm qcm) := cell_row gA hgq hgn t4d
     have t4f : ((Wq.drew.setCells g (a * z6) (encM (rsT rms y))).setCells g (b * z6) (encM (rsT rms x))).cell? ⟨g5, 4, none⟩ = some (.slice (some ⟨g, 0, none⟩) qnm qcm) := cell_row g2 hgq hgn t4d
     clear gA o2 g2 hjq hjo2 hjg2 hjp hjl hx hy hxx hyy hz6 hg1 hj2 ha hb CC hgr t4'
     generalize encM (rsT rms x) = cx at *
     generalize encM (rsT rms y) = cy at *
     have i0 : (0 : Int) <= (a : Int) := Int.natCast_nonneg _
     have j0 : (0 : Int) <= (b : Int) := Int.natCast_nonneg _
     have i1 : (a : Int) < (qnm : Int) := by omega
     have j1 : (b : Int) < (qnm : Int) := by omega
     have ti : ((a : Int)).toNat = a := by omega
     have tj : ((b : Int)).toNat = b := by omega
     generalize hP : Tryz.prog = P at s1 s2 l1 l2 zE aE t3 a3 z3 v3 tS aS zS vS tV mixed ⊢
     have hU : ∀ w : World, Sem.run P (Go.underlying 25) w = .ok _ w := fun w => run_und tV w
     refine wp_region_held_drew (S := fun w' : World => w'.cell? ⟨g5, 4, none⟩ = some (.slice (some ⟨g, 0, none⟩) qnm qcm)) mixed t4d (fun hS => ?_)
     refine wpAnyH_take (i := 0) (v := ?vx0) rfl (by kernel_rfl) (by kernel_rfl) (by kernel_rfl) (fun _ _ _ h => h) (Or.inl ⟨by rfl, ?hyx0⟩) (by assumption) ?restx0
     case hyx0 => (intro w' hSw; (try dsimp only at hSw); first | (go_simp; done) | (go_simp; with_reducible rfl))
     try simp only [Act.put, List.setIfInBounds_toArray, List.set_cons_zero, List.set_cons_succ]
     refine wpAnyH_take (i := 1) (v := ?vx1) rfl (by kernel_rfl) (by kernel_rfl) (by kernel_rfl) (fun _ _ _ h => h) (Or.inl ⟨by rfl, ?hyx1⟩) (by assumption) ?restx1
     case hyx1 => (intro w' hSw; (try dsimp only at hSw); first | (go_simp; done) | (go_simp; with_reducible rfl))
     try simp only [Act.put, List.setIfInBounds_toArray, List.set_cons_zero, List.set_cons_succ]
     refine wpAnyH_take (i := 2) (v := ?vx2) rfl (by kernel_rfl) (by kernel_rfl) (by kernel_rfl) (fun _ _ _ h => h) (Or.inl ⟨by rfl, ?hyx2⟩) (by assumption) ?restx2
     case hyx2 => (intro w' hSw; (try dsimp only at hSw); first | (go_simp; done) | (go_simp; with_reducible rfl))
     try simp only [Act.put, List.setIfInBounds_toArray, List.set_cons_zero, List.set_cons_succ]
     refine wpAnyH_take (i := 3) (v := ?vx3) rfl (by kernel_rfl) (by kernel_rfl) (by kernel_rfl) (fun _ _ _ h => h) (Or.inl ⟨by rfl, ?hyx3⟩) (by assumption) ?restx3
     case hyx3 => (intro w' hSw; (try dsimp only at hSw); first | (go_simp; done) | (go_simp; with_reducible rfl))
     try simp only [Act.put, List.setIfInBounds_toArray, List.set_cons_zero, List.set_cons_succ]
     refine wpAnyH_take (i := 4) (v := ?vx4) rfl (by kernel_rfl) (by kernel_rfl) (by kernel_rfl) (fun _ _ _ h => h) (Or.inl ⟨by rfl, ?hyx4⟩) (by assumption) ?restx4
     case hyx4 => (intro w' hSw; (try dsimp only at hSw); first | (go_simp; done) | (go_simp; with_reducible rfl))
     try simp only [Act.put, List.setIfInBounds_toArray, List.set_cons_zero, List.set_cons_succ]
     refine wpAnyH_take (i := 5) (v := ?vx5) rfl (by kernel_rfl) (by kernel_rfl) (by kernel_rfl) (fun _ _ _ h => h) (Or.inl ⟨by rfl, ?hyx5⟩) (by assumption) ?restx5
     case hyx5 => (intro w' hSw; (try dsimp only at hSw); first | (go_simp; done) | (go_simp; with_reducible rfl))
     try simp only [Act.put, List.setIfInBounds_toArray, List.set_cons_zero, List.set_cons_succ]
     refine wpAnyH_take (i := 6) (v := ?vx6) rfl (by kernel_rfl) (by kernel_rfl) (by kernel_rfl) (fun _ _ _ h => h) (Or.inl ⟨by rfl, ?hyx6⟩) (by assumption) ?restx6
     case hyx6 => (intro w' hSw; (try dsimp only at hSw); first | (go_simp; done) | (go_simp; with_reducible rfl))
     try simp only [Act.put, List.setIfInBounds_toArray, List.set_cons_zero, List.set_cons_succ]
     refine wpAnyH_take (i := 7) (v := ?vx7) rfl (by kernel_rfl) (by kernel_rfl) (by kernel_rfl) (fun _ _ _ h => h) (Or.inl ⟨by rfl, ?hyx7⟩) (by assumption) ?restx7
     case hyx7 => (intro w' hSw; (try dsimp only at hSw); first | (go_simp; done) | (go_simp; with_reducible rfl))
     try simp only [Act.put, List.setIfInBounds_toArray, List.set_cons_zero, List.set_cons_succ]
     refine wpAnyH_take (i := 8) (v := ?vx8) rfl (by kernel_rfl) (by kernel_rfl) (by kernel_rfl) (fun _ _ _ h => h) (Or.inl ⟨by rfl, ?hyx8⟩) (by assumption) ?restx8
     case hyx8 => (intro w' hSw; (try dsimp only at hSw); first | (go_simp; done) | (go_simp; with_reducible rfl))
     try simp only [Act.put, List.setIfInBounds_toArray, List.set_cons_zero, List.set_cons_succ]
     refine wpAnyH_take (i := 9) (v := ?vx9) rfl (by kernel_rfl) (by kernel_rfl) (by kernel_rfl) (fun _ _ _ h => h) (Or.inl ⟨by rfl, ?hyx9⟩) (by assumption) ?restx9
     case hyx9 => (intro w' hSw; (try dsimp only at hSw); first | (go_simp; done) | (go_simp; with_reducible rfl))
     try simp only [Act.put, List.setIfInBounds_toArray, List.set_cons_zero, List.set_cons_succ]
     refine wpAnyH_take (i := 11) (v := ?vx11) rfl (by kernel_rfl) (by kernel_rfl) (by kernel_rfl) (fun _ _ _ h => h) (Or.inl ⟨by rfl, ?hyx11⟩) (by assumption) ?restx11
     case hyx11 => (intro w' hSw; (try dsimp only at hSw); first | (go_simp; done) | (go_simp; with_reducible rfl))
     try simp only [Act.put, List.setIfInBounds_toArray, List.set_cons_zero, List.set_cons_succ]
     refine wpAnyH_take (i := 12) (v := ?vx12) rfl (by kernel_rfl) (by kernel_rfl) (by kernel_rfl) (fun _ _ _ h => h) (Or.inl ⟨by rfl, ?hyx12⟩) (by assumption) ?restx12
     case hyx12 => (intro w' hSw; (try dsimp only at hSw); first | (go_simp; done) | (go_simp; with_reducible rfl))
     try simp only [Act.put, List.setIfInBounds_toArray, List.set_cons_zero, List.set_cons_succ]
     refine wpAnyH_take (i := 13) (v := ?vx13) rfl (by kernel_rfl) (by kernel_rfl) (by kernel_rfl) (fun _ _ _ h => h) (Or.inl ⟨by rfl, ?hyx13⟩) (by assumption) ?restx13
     case hyx13 => (intro w' hSw; (try dsimp only at hSw); first | (go_simp; done) | (go_simp; with_reducible rfl))
     try simp only [Act.put, List.setIfInBounds_toArray, List.set_cons_zero, List.set_cons_succ]
     refine wpAnyH_take (i := 14) (v := ?vx14) rfl (by kernel_rfl) (by kernel_rfl) (by kernel_rfl) (fun _ _ _ h => h) (Or.inl ⟨by rfl, ?hyx14⟩) (by assumption) ?restx14
     case hyx14 => (intro w' hSw; (try dsimp only at hSw); first | (go_simp; done) | (go_simp; with_reducible rfl))
     try simp only [Act.put, List.setIfInBounds_toArray, List.set_cons_zero, List.set_cons_succ]
     refine wpAnyH_ready (rs := [10, 15]) (by kernel_rfl) (by simp) ?_
     refine AllReadyH.cons (i := 10) rfl (fun K hK => ?b10) (AllReadyH.cons (i := 15) rfl (fun K hK => ?b15) AllReadyH.nil)
     case b10 =>
      go_simp
      refine hK.out _ _ t4d (fun hS2 => ?_)
      clear hK K
      try simp only [Act.put, List.setIfInBounds_toArray, List.set_cons_zero, List.set_cons_succ]
      refine wpAnyH_ready (rs := [15]) (by kernel_rfl) (by simp) ?_
      refine AllReadyH.cons (i := 15) rfl (fun K hK => ?_) AllReadyH.nil
      go_simp
      refine hK.out _ _ t4d (fun hS2 => ?_)
      clear hK K
      try simp only [Act.put, List.setIfInBounds_toArray, List.set_cons_zero, List.set_cons_succ]
      refine wpAnyH_take (i := 16) (v := ?vy16) rfl (by kernel_rfl) (by kernel_rfl) (by kernel_rfl) (fun _ _ _ h => h) (Or.inl ⟨by rfl, ?hyy16⟩) (by assumption) ?resty16
      case hyy16 => (intro w' hSw; (try dsimp only at hSw); first | (go_simp; done) | (go_simp; with_reducible rfl))
      try simp only [Act.put, List.setIfInBounds_toArray, List.set_cons_zero, List.set_cons_succ]
      refine wpAnyH_ready (rs := [17]) (by kernel_rfl) (by simp) ?_
      refine AllReadyH.cons (i := 17) rfl (fun K hK => ?_) AllReadyH.nil
      go_simp
      refine hK.out _ _ t4e (fun hS2 => ?_)
      clear hK K
      try simp only [Act.put, List.setIfInBounds_toArray, List.set_cons_zero, List.set_cons_succ]
      refine wpAnyH_take (i := 18) (v := ?vy18) rfl (by kernel_rfl) (by kernel_rfl) (by kernel_rfl) (fun _ _ _ h => h) (Or.inl ⟨by rfl, ?hyy18⟩) (by assumption) ?resty18
      case hyy18 => (intro w' hSw; (try dsimp only at hSw); first | (go_simp; done) | (go_simp; with_reducible rfl))
      try simp only [Act.put, List.setIfInBounds_toArray, List.set_cons_zero, List.set_cons_succ]
      refine wpAnyH_ready (rs := [19]) (by kernel_rfl) (by simp) ?_
      refine AllReadyH.cons (i := 19) rfl (fun K hK => ?_) AllReadyH.nil
      go_simp
      refine hK.out _ _ t4f (fun hS2 => ?_)
      clear hK K
      try simp only [Act.put, List.setIfInBounds_toArray, List.set_cons_zero, List.set_cons_succ]
      refine wpAnyH_done (by kernel_rfl) ?_ _
      subst hP
      obtain ⟨W6, hW6⟩ : ∃ W6, (Wq.drew.setCells g (a * z6) cy).setCells g (b * z6) cx = W6 := ⟨_, rfl⟩
      rw [hW6] at HP
      rw [hW6]
      clear hW6 s1 s2 l1 l2 zE aE t3 a3 z3 v3 tS aS zS vS tV mixed n1 n2 t4d t4e t4f
      have HP2 : Hid (((js.set a y).set b x).Perm (List.range qnm) /\ Own W6 0 32 encM 6 (.slice (some ⟨g, 0, none⟩) qnm qcm) (((js.set a y).set b x).map (rsT rms)) /\ W5.grownBy W6 (some g)) := by
       have h := HP.out
       rw [<- HQ.out] at h
       exact h
      clear HP HQ
      go_wp2_with fail
      go_roundw
      case rel => exact ⟨k + 1, _, by omega, by go_num, HP2.out⟩
      case measure => simp [intOf]; omega
     case b15 =>
      go_simp
      refine hK.out _ _ t4d (fun hS2 => ?_)
      clear hK K
      try simp only [Act.put, List.setIfInBounds_toArray, List.set_cons_zero, List.set_cons_succ]
      refine wpAnyH_ready (rs := [10]) (by kernel_rfl) (by simp) ?_
      refine AllReadyH.cons (i := 10) rfl (fun K hK => ?_) AllReadyH.nil
      go_simp
      refine hK.out _ _ t4d (fun hS2 => ?_)
      clear hK K
      try simp only [Act.put, List.setIfInBounds_toArray, List.set_cons_zero, List.set_cons_succ]
      refine wpAnyH_take (i := 16) (v := ?vz16) rfl (by kernel_rfl) (by kernel_rfl) (by kernel_rfl) (fun _ _ _ h => h) (Or.inl ⟨by rfl, ?hyz16⟩) (by assumption) ?restz16
      case hyz16 => (intro w' hSw; (try dsimp only at hSw); first | (go_simp; done) | (go_simp; with_reducible rfl))
      try simp only [Act.put, List.setIfInBounds_toArray, List.set_cons_zero, List.set_cons_succ]
      refine wpAnyH_ready (rs := [17]) (by kernel_rfl) (by simp) ?_
      refine AllReadyH.cons (i := 17) rfl (fun K hK => ?_) AllReadyH.nil
      go_simp
      refine hK.out _ _ t4e (fun hS2 => ?_)
      clear hK K
      try simp only [Act.put, List.setIfInBounds_toArray, List.set_cons_zero, List.set_cons_succ]
      refine wpAnyH_take (i := 18) (v := ?vz18) rfl (by kernel_rfl) (by kernel_rfl) (by kernel_rfl) (fun _ _ _ h => h) (Or.inl ⟨by rfl, ?hyz18⟩) (by assumption) ?restz18
      case hyz18 => (intro w' hSw; (try dsimp only at hSw); first | (go_simp; done) | (go_simp; with_reducible rfl))
      try simp only [Act.put, List.setIfInBounds_toArray, List.set_cons_zero, List.set_cons_succ]
      refine wpAnyH_ready (rs := [19]) (by kernel_rfl) (by simp) ?_
      refine AllReadyH.cons (i := 19) rfl (fun K hK => ?_) AllReadyH.nil
      go_simp
      refine hK.out _ _ t4f (fun hS2 => ?_)
      clear hK K
      try simp only [Act.put, List.setIfInBounds_toArray, List.set_cons_zero, List.set_cons_succ]
      refine wpAnyH_done (by kernel_rfl) ?_ _
      subst hP
      obtain ⟨W6, hW6⟩ : ∃ W6, (Wq.drew.setCells g (a * z6) cy).setCells g (b * z6) cx = W6 := ⟨_, rfl⟩
      rw [hW6] at HP
      rw [hW6]
      clear hW6 s1 s2 l1 l2 zE aE t3 a3 z3 v3 tS aS zS vS tV mixed n1 n2 t4d t4e t4f
      have HP2 : Hid (((js.set a y).set b x).Perm (List.range qnm) /\ Own W6 0 32 encM 6 (.slice (some ⟨g, 0, none⟩) qnm qcm) (((js.set a y).set b x).map (rsT rms)) /\ W5.grownBy W6 (some g)) := by
       have h := HP.out
       rw [<- HQ.out] at h
       exact h
      clear HP HQ
      go_wp2_with fail
      go_roundw
      case rel => exact ⟨k + 1, _, by omega, by go_num, HP2.out⟩
      case measure => simp [intOf]; omega
    ·have hjp := HJ.out.1
     have hT := HTT2.out wr js HJ.out.1 HJ.out.2.1 HJ.out.2.2
     obtain ⟨hct, hsz, hvk, hnd⟩ := HCT.out
     rw [hvk] at hT
     have hps : (js.map (msT v.m)).Perm v.m := by
      have h := hjp.map (msT v.m)
      have e : (List.range qnm).map (msT v.m) = v.m := by rw [HNM.out.2]; exact rangeT v.m _
      rw [e] at h
      exact h
     obtain ⟨ms, hms⟩ : ∃ m, js.map (msT v.m) = m := ⟨_, rfl⟩
     rw [hms] at hT hps
     have hmo := m_ok HOV.out
     have hmm : ∀ p ∈ ms, p.1.size <= 140737488351232 /\ p.2.Ok := fun p hp => by
      obtain ⟨i, hi⟩ := List.getElem?_of_mem (hps.mem_iff.1 hp)
      exact ⟨hmo.2.1 i p hi, hmo.2.2 i p hi⟩
     have hml : ms.length <= 800 := by
      have h1 := hps.length_eq
      have h2 := HNM.out.2
      omega
     have hto : (JV.mk 6 v.n v.s v.l ms).Ok := turn_ok HOV.out hvk hmm (by omega)
     have hxo : (JV.mk 4 0 ⟨#[120]⟩ [] []).Ok := JV.Ok.mk (by decide) (by decide) (by decide) (by decide) (by decide) (fun i x h => by simp at h) (fun i p h => by simp at h) (fun i p h => by simp at h)
     have HWI := Lib.hid (with_any (.mk 6 v.n v.s v.l ms) (.mk 4 0 ⟨#[120]⟩ [] []) ⟨qk, qn, qS, qpl, qnl, qcl, qpm, qnm, qcm⟩ ⟨4, 0, ⟨#[120]⟩, none, 0, 0, none, 0, 0⟩ ownName wr g5 (Nat.le_of_lt hglr) hT hto (leaf_tree wr g5 4 ⟨#[120]⟩) (by show ms.length <= _; omega))
     have hcm : countM ms <= 800 := by
      rw [countM_perm hps, countM_map]
      have := countT_m v
      omega
     have hsm : sizeM ms <= 8000 := by
      rw [sizeM_perm hps]
      have := sizeT_M v
      omega
     have HU : Hid ((putT (.mk 6 v.n v.s v.l ms) ownName (.mk 4 0 ⟨#[120]⟩ [] [])).Ok /\ countT (putT (.mk 6 v.n v.s v.l ms) ownName (.mk 4 0 ⟨#[120]⟩ [] [])) <= 100000 /\ sizeT (putT (.mk 6 v.n v.s v.l ms) ownName (.mk 4 0 ⟨#[120]⟩ [] [])) <= 4000000000 /\ holdsJ f (putT (.mk 6 v.n v.s v.l ms) ownName (.mk 4 0 ⟨#[120]⟩ [] [])) = holdsJ f v) := by
      refine ⟨put_okT (t := .mk 6 v.n v.s v.l ms) hmm hxo (by decide) (by show ms.length <= _; omega), ?_, ?_, alike_holds (alike_turned hvk hnd hps _) rfl hvk f⟩
      ·have h1 := count_put (.mk 6 v.n v.s v.l ms) (.mk 4 0 ⟨#[120]⟩ [] []) ownName
       have h2 : countM (JV.mk 6 v.n v.s v.l ms).mem = countM ms := rfl
       have h3 : countT (JV.mk 4 0 ⟨#[120]⟩ [] []) = 1 := by simp [countT, countL, countM]
       omega
      ·have h1 := size_put (.mk 6 v.n v.s v.l ms) (.mk 4 0 ⟨#[120]⟩ [] []) ownName
       have h2 : sizeM (JV.mk 6 v.n v.s v.l ms).mem = sizeM ms := rfl
       have h3 : sizeT (JV.mk 4 0 ⟨#[120]⟩ [] []) = 1 := by simp [sizeT, sizeL, sizeM]; rfl
       omega
     have HUT : Hid (∀ (x : RV) W, Below W0.heap.size W0 W -> TreeOf W W.heap.size (putT (.mk 6 v.n v.s v.l ms) ownName (.mk 4 0 ⟨#[120]⟩ [] [])) x -> Calls Tryz.prog 23 #[r.val, x.val] W fun e w' => e = .returned (.bool (holdsJ f v)) /\ Below W.heap.size W w') := fun x W hb hx => by
      have h := HSH2.out _ x W HU.out.1 HU.out.2.1 HU.out.2.2.1 hb hx
      rw [HU.out.2.2.2] at h
      exact h
     have HVT : Hid (∀ W, Below W0.heap.size W0 W -> Calls Tryz.prog 23 #[r.val, q.val] W fun e w' => e = .returned (.bool (holdsJ f v)) /\ Below W.heap.size W w') := fun W hb => HSH2.out v q W HOV.out (by omega) (by omega) hb (HTV.out W hb)
     obtain ⟨E, hE⟩ : ∃ E, holdsJ f v = E := ⟨_, rfl⟩
     rw [hE] at HUT HVT
     obtain ⟨MP, hMP⟩ : ∃ m, putM ((JV.mk 6 v.n v.s v.l ms).place ownName) (JV.mk 6 v.n v.s v.l ms).mem ownName (.mk 4 0 ⟨#[120]⟩ [] []) = m := ⟨_, rfl⟩
     have HPT : Hid (JV.mk 6 0 ⟨#[]⟩ [] MP = putT (.mk 6 v.n v.s v.l ms) ownName (.mk 4 0 ⟨#[120]⟩ [] [])) := by unfold Hid putT; rw [hMP]
     rw [hMP] at HWI
     unfold ownName at HWI
     dsimp only [RV.val] at HWI
     have hAc := HVA.out _ hbr
     obtain ⟨c0, c1, c2, c3, c4⟩ := hAc.1.cells5
     obtain ⟨d0, d1, d2, d3, d4⟩ := hAc.2.cells5
     have HVR := Lib.hid hvr
     have HGL := Lib.hid hglr
     have HBR := Lib.hid hbr
     have hc2 : decide ((k : Int) < (ni : Int)) = decide (k < ni) := by rw [decide_eq_decide]; omega
     clear hT hps hmo hmm hml hto hxo hcm hsm hE hMP hAc hms hjp HJ HU hvr hbr hct hsz hvk hnd HSH2 HTT2 HV5 HST0
     by_cases p1 : k < ni
     all_goals
      try (have p2 : ¬ ((0 : Int) < (qnm : Int)) := by omega)
      have p3 : ¬ (k < ni /\ 0 < qnm) := hgo
      clear hgo
      go_upto_region 11 with (go_at_call 37; (with_reducible refine HWI.out.mono ?_); rintro e w7 ⟨zpm, znm, zcm, rms2, rfl, ho7, hms7, hb7⟩; (have HV7 := Lib.hid (HVR.out.under hb7 HGL.out)); (have HO7 := Lib.hid ho7); (have HM7 := Lib.hid hms7); clear ho7 hms7; (obtain ⟨z0, z1, z2, z3, z4⟩ := HV7.out.cells5); (have y0 := HV7.out.frozen 0); (have y1 := HV7.out.frozen 1); (have y2 := HV7.out.frozen 2); (have y3 := HV7.out.frozen 3); (have y4 := HV7.out.frozen 4); dsimp only at z0 z1 z2 z3 z4)
      have hz7 := hb7.size
      have hgb := grownBy_set5 w7 g5 ⟨6, 0, ⟨#[]⟩, none, 0, 0, zpm, znm, zcm⟩
      have hb70 : Below W0.heap.size W0 w7 := HBR.out.trans (hb7.mono HBR.out.size)
      have hb8 : Below W0.heap.size W0 (((((w7.setCell ⟨g5, 0, none⟩ (.int .i64 (⟨6, 0, ⟨#[]⟩, none, 0, 0, zpm, znm, zcm⟩ : RV).k)).setCell ⟨g5, 1, none⟩ (.int .i64 (⟨6, 0, ⟨#[]⟩, none, 0, 0, zpm, znm, zcm⟩ : RV).n)).setCell ⟨g5, 2, none⟩ (.string (⟨6, 0, ⟨#[]⟩, none, 0, 0, zpm, znm, zcm⟩ : RV).s)).setCell ⟨g5, 3, none⟩ (.slice (⟨6, 0, ⟨#[]⟩, none, 0, 0, zpm, znm, zcm⟩ : RV).pl (⟨6, 0, ⟨#[]⟩, none, 0, 0, zpm, znm, zcm⟩ : RV).nl (⟨6, 0, ⟨#[]⟩, none, 0, 0, zpm, znm, zcm⟩ : RV).cl)).setCell ⟨g5, 4, none⟩ (.slice (⟨6, 0, ⟨#[]⟩, none, 0, 0, zpm, znm, zcm⟩ : RV).pm (⟨6, 0, ⟨#[]⟩, none, 0, 0, zpm, znm, zcm⟩ : RV).nm (⟨6, 0, ⟨#[]⟩, none, 0, 0, zpm, znm, zcm⟩ : RV).cm)) := Below.stored hb70 HG5.out ⟨6, 0, ⟨#[]⟩, none, 0, 0, zpm, znm, zcm⟩
      have hv8 : VAt (((((w7.setCell ⟨g5, 0, none⟩ (.int .i64 (⟨6, 0, ⟨#[]⟩, none, 0, 0, zpm, znm, zcm⟩ : RV).k)).setCell ⟨g5, 1, none⟩ (.int .i64 (⟨6, 0, ⟨#[]⟩, none, 0, 0, zpm, znm, zcm⟩ : RV).n)).setCell ⟨g5, 2, none⟩ (.string (⟨6, 0, ⟨#[]⟩, none, 0, 0, zpm, znm, zcm⟩ : RV).s)).setCell ⟨g5, 3, none⟩ (.slice (⟨6, 0, ⟨#[]⟩, none, 0, 0, zpm, znm, zcm⟩ : RV).pl (⟨6, 0, ⟨#[]⟩, none, 0, 0, zpm, znm, zcm⟩ : RV).nl (⟨6, 0, ⟨#[]⟩, none, 0, 0, zpm, znm, zcm⟩ : RV).cl)).setCell ⟨g5, 4, none⟩ (.slice (⟨6, 0, ⟨#[]⟩, none, 0, 0, zpm, znm, zcm⟩ : RV).pm (⟨6, 0, ⟨#[]⟩, none, 0, 0, zpm, znm, zcm⟩ : RV).nm (⟨6, 0, ⟨#[]⟩, none, 0, 0, zpm, znm, zcm⟩ : RV).cm)) g5 ⟨6, 0, ⟨#[]⟩, none, 0, 0, zpm, znm, zcm⟩ := HV7.out.stored ⟨6, 0, ⟨#[]⟩, none, 0, 0, zpm, znm, zcm⟩
      have ho8 : Own (((((w7.setCell ⟨g5, 0, none⟩ (.int .i64 (⟨6, 0, ⟨#[]⟩, none, 0, 0, zpm, znm, zcm⟩ : RV).k)).setCell ⟨g5, 1, none⟩ (.int .i64 (⟨6, 0, ⟨#[]⟩, none, 0, 0, zpm, znm, zcm⟩ : RV).n)).setCell ⟨g5, 2, none⟩ (.string (⟨6, 0, ⟨#[]⟩, none, 0, 0, zpm, znm, zcm⟩ : RV).s)).setCell ⟨g5, 3, none⟩ (.slice (⟨6, 0, ⟨#[]⟩, none, 0, 0, zpm, znm, zcm⟩ : RV).pl (⟨6, 0, ⟨#[]⟩, none, 0, 0, zpm, znm, zcm⟩ : RV).nl (⟨6, 0, ⟨#[]⟩, none, 0, 0, zpm, znm, zcm⟩ : RV).cl)).setCell ⟨g5, 4, none⟩ (.slice (⟨6, 0, ⟨#[]⟩, none, 0, 0, zpm, znm, zcm⟩ : RV).pm (⟨6, 0, ⟨#[]⟩, none, 0, 0, zpm, znm, zcm⟩ : RV).nm (⟨6, 0, ⟨#[]⟩, none, 0, 0, zpm, znm, zcm⟩ : RV).cm)) wr.heap.size 32 encM 6 (.slice zpm znm zcm) rms2 := own_apart2 HO7.out hgb HGL.out
      have hm8 : MemsOf (((((w7.setCell ⟨g5, 0, none⟩ (.int .i64 (⟨6, 0, ⟨#[]⟩, none, 0, 0, zpm, znm, zcm⟩ : RV).k)).setCell ⟨g5, 1, none⟩ (.int .i64 (⟨6, 0, ⟨#[]⟩, none, 0, 0, zpm, znm, zcm⟩ : RV).n)).setCell ⟨g5, 2, none⟩ (.string (⟨6, 0, ⟨#[]⟩, none, 0, 0, zpm, znm, zcm⟩ : RV).s)).setCell ⟨g5, 3, none⟩ (.slice (⟨6, 0, ⟨#[]⟩, none, 0, 0, zpm, znm, zcm⟩ : RV).pl (⟨6, 0, ⟨#[]⟩, none, 0, 0, zpm, znm, zcm⟩ : RV).nl (⟨6, 0, ⟨#[]⟩, none, 0, 0, zpm, znm, zcm⟩ : RV).cl)).setCell ⟨g5, 4, none⟩ (.slice (⟨6, 0, ⟨#[]⟩, none, 0, 0, zpm, znm, zcm⟩ : RV).pm (⟨6, 0, ⟨#[]⟩, none, 0, 0, zpm, znm, zcm⟩ : RV).nm (⟨6, 0, ⟨#[]⟩, none, 0, 0, zpm, znm, zcm⟩ : RV).cm)) g5 MP rms2 := HM7.out.under (Below.stored (Below.refl g5 w7) (Nat.le_refl g5) ⟨6, 0, ⟨#[]⟩, none, 0, 0, zpm, znm, zcm⟩) (Nat.le_refl _)
      have ht8 := TreeOf.map ho8 hm8 (Nat.le_of_lt hv8.lt)
      rw [HPT.out] at ht8
      dsimp only at hb8 hv8 ht8
      obtain ⟨W8, hW8⟩ : ∃ W : World, (((((w7.setCell ⟨g5, 0, none⟩ (.int .i64 (⟨6, 0, ⟨#[]⟩, none, 0, 0, zpm, znm, zcm⟩ : RV).k)).setCell ⟨g5, 1, none⟩ (.int .i64 (⟨6, 0, ⟨#[]⟩, none, 0, 0, zpm, znm, zcm⟩ : RV).n)).setCell ⟨g5, 2, none⟩ (.string (⟨6, 0, ⟨#[]⟩, none, 0, 0, zpm, znm, zcm⟩ : RV).s)).setCell ⟨g5, 3, none⟩ (.slice (⟨6, 0, ⟨#[]⟩, none, 0, 0, zpm, znm, zcm⟩ : RV).pl (⟨6, 0, ⟨#[]⟩, none, 0, 0, zpm, znm, zcm⟩ : RV).nl (⟨6, 0, ⟨#[]⟩, none, 0, 0, zpm, znm, zcm⟩ : RV).cl)).setCell ⟨g5, 4, none⟩ (.slice (⟨6, 0, ⟨#[]⟩, none, 0, 0, zpm, znm, zcm⟩ : RV).pm (⟨6, 0, ⟨#[]⟩, none, 0, 0, zpm, znm, zcm⟩ : RV).nm (⟨6, 0, ⟨#[]⟩, none, 0, 0, zpm, znm, zcm⟩ : RV).cm)) = W := ⟨_, rfl⟩
      dsimp only at hW8
      rw [hW8] at hb8 hv8 ht8
      rw [hW8]
      have HT8 := Lib.hid ht8
      have hA8 := HVA.out _ hb8
      clear c0 c1 c2 c3 c4 d0 d1 d2 d3 d4 t0 t1 t2 t3 t4 z0 z1 z2 z3 z4 y0 y1 y2 y3 y4
      obtain ⟨c0, c1, c2, c3, c4⟩ := hA8.1.cells5
      obtain ⟨d0, d1, d2, d3, d4⟩ := hA8.2.cells5
      obtain ⟨t0, t1, t2, t3, t4⟩ := hv8.cells5
      dsimp only at t0 t1 t2 t3 t4
      have hza := hA8.1.lt
      have hzc := hA8.2.lt
      have hzg := hv8.lt
      have HB8 := Lib.hid hb8
      have HU8 : Hid (∀ W, Below W8.heap.size W8 W -> Calls Tryz.prog 23 #[r.val, RV.val ⟨6, 0, ⟨#[]⟩, none, 0, 0, zpm, znm, zcm⟩] W fun e w' => e = .returned (.bool E) /\ Below W.heap.size W w') := fun W hb => HUT.out _ W (HB8.out.trans (hb.mono HB8.out.size)) (HT8.out.under hb hb.size)
      have HV8 : Hid (∀ W, Below W8.heap.size W8 W -> Calls Tryz.prog 23 #[r.val, q.val] W fun e w' => e = .returned (.bool E) /\ Below W.heap.size W w') := fun W hb => HVT.out W (HB8.out.trans (hb.mono HB8.out.size))
      dsimp only [RV.val] at HU8
      have hk8 := KB.drew W8
      clear hgb hb70 hb8 hv8 ho8 hm8 ht8 hW8 hA8 HV7 HO7 HM7 HUT HVT HWI HPT HT8 hb7 hz7
      cases E
      all_goals
       go_region_held3 (fun w' => Below W8.heap.size W8 w' /\ ∀ b o, b < W8.heap.size -> w'.cell? ⟨b, o, none⟩ = W8.cell? ⟨b, o, none⟩)
        (first | with_reducible exact kt_drew W8 | with_reducible exact kt_same hbk)
        (first
         | (go_at_call 23; (with_reducible refine (HU8.out _ (kbZ (by assumption))).mono ?_); rintro e w9 ⟨rfl, hb9⟩; (have hbk := KB.step (W := W8) (by assumption) hb9))
         | (go_at_call 23; (with_reducible refine (HV8.out _ (kbZ (by assumption))).mono ?_); rintro e w9 ⟨rfl, hb9⟩; (have hbk := KB.step (W := W8) (by assumption) hb9))
         | fail)
       all_goals
        go_wp2_with fail
        go_ret
        exact ⟨rfl, HB0.out.trans ((HB8.out.trans (hbk.1.mono HB8.out.size)).mono hw0)⟩
end
end Go.Proofs.YtffhccmppdgmfaaGreatDoor
