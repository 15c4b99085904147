import Derived.Test.YtffhccmppdgmfaaGreatDoorG11
import Derived.Test.YtffhccmppdgmfaaGreatDoorG08
import Derived.Test.YtffhccmppdgmfaaGreatDoorG03
import Derived.Test.YtffhccmppdgmfaaGreatDoorG04
import Derived.Test.YtffhccmppdgmfaaGreatDoorG02
import Derived.Test.YtffhccmppdgmfaaGreatDoorG10
import Derived.Deep.RegionHeld3
import Derived.Deep.QuietTactic
import Derived.BigQuiet
import Derived.Test.YtffhccmppdgmfaaGreatDoorG05
import Derived.Test.YtffhccmppdgmfaaGreatDoorG12
import Derived.Deep.RegionLaw
set_option linter.unusedSimpArgs false
set_option linter.unusedVariables false
set_option maxRecDepth 200000
set_option maxHeartbeats 8000000
namespace Go.Proofs.YtffhccmppdgmfaaGreatDoor
section
open Go Go.RowKit Go.OpenShut
theorem sizeL_tk {l : List JV} {j : Nat} {t : JV} (h : l[j]? = some t) : sizeL (l.take (j + 1)) = sizeL (l.take j) + sizeT t := by
 induction l generalizing j with
 | nil => simp at h
 | cons a l ih =>
   cases j with
   | zero =>
     simp only [List.getElem?_cons_zero, Option.some.injEq] at h
     subst h
     simp [sizeL]
   | succ j =>
     rw [List.getElem?_cons_succ] at h
     rw [List.take_succ_cons, List.take_succ_cons]
     unfold sizeL
     rw [ih h]
     omega
theorem sizeM_tk {l : List (ByteArray × JV)} {j : Nat} {t : ByteArray × JV} (h : l[j]? = some t) : sizeM (l.take (j + 1)) = sizeM (l.take j) + sizeT t.2 := by
 induction l generalizing j with
 | nil => simp at h
 | cons a l ih =>
   obtain ⟨a1, a2⟩ := a
   cases j with
   | zero =>
     simp only [List.getElem?_cons_zero, Option.some.injEq] at h
     subst h
     simp [sizeM]
   | succ j =>
     rw [List.getElem?_cons_succ] at h
     rw [List.take_succ_cons, List.take_succ_cons]
     unfold sizeM
     rw [ih h]
     omega
theorem sizeL_mono (l : List JV) (j : Nat) : sizeL (l.take j) <= sizeL l := by
 induction l generalizing j with
 | nil => simp
 | cons a l ih =>
   cases j with
   | zero => rw [List.take_zero, sizeL]; exact Nat.zero_le _
   | succ j => rw [List.take_succ_cons, sizeL, sizeL]; have := ih j; omega
theorem sizeM_mono (l : List (ByteArray × JV)) (j : Nat) : sizeM (l.take j) <= sizeM l := by
 induction l generalizing j with
 | nil => simp
 | cons a l ih =>
   obtain ⟨a1, a2⟩ := a
   cases j with
   | zero => rw [List.take_zero, sizeM]; exact Nat.zero_le _
   | succ j => rw [List.take_succ_cons, sizeM, sizeM]; have := ih j; omega
theorem size20_any (N : Nat) : ∀ (t : JV) (r : RV) (most : Nat) (w : World), SizeOf.sizeOf t <= N -> most <= 1000000 -> TreeOf w w.heap.size t r -> t.Ok ->
 Calls Tryz.prog 52 #[r.val, .int .i64 (most : Int)] w fun e w' => ∃ c : Nat, e = .returned (.int .i64 (c : Int)) /\ (c <= most + 140737488355328 /\ c <= sizeT t /\ (c <= most -> c = sizeT t)) /\ Below w.heap.size w w' := by
 induction N with
 | zero => intro t r most w hN; cases t; simp at hN
 | succ N ih =>
   intro t r most w hN hmost ht ot
   cases ht with
   | @mk _ l m rs rms hl el hcl hm em hcn hcm =>
   obtain ⟨k, n, s, pl, nl, cl, pm, nm, cm⟩ := r
   cases ot with
   | mk _ _ hss bl bm okl oks okm =>
   dsimp only [RV.val] at *
   have eL := rd_nlen hl
   have eM := rd_nlen hm
   have HT : Hid (∀ (i : Nat) t q, l[i]? = some t -> rs[i]? = some q -> ∀ W, Below w.heap.size w W -> ∀ (g : Nat) (k : Int), k = ((most - g : Nat) : Int) -> Calls Tryz.prog 52 #[q.val, .int .i64 k] W fun e w' => ∃ c : Nat, e = .returned (.int .i64 (c : Int)) /\ (c <= (most - g) + 140737488355328 /\ c <= sizeT t /\ (c <= most - g -> c = sizeT t)) /\ Below W.heap.size W w') :=
    fun i t q h1 h2 W hb g k' hk => by subst hk; exact ih t q (most - g) W (by have := JV.lt_l (k := k) (n := n) (s := s) (m := m) h1; omega) (by omega) ((hcl i t q h1 h2).under hb hb.size) (okl i t h1)
   have HS : Hid (∀ (i : Nat) p q, m[i]? = some p -> rms[i]? = some q -> ∀ W, Below w.heap.size w W -> ∀ (g : Nat) (k : Int), k = ((most - g : Nat) : Int) -> Calls Tryz.prog 52 #[q.v.val, .int .i64 k] W fun e w' => ∃ c : Nat, e = .returned (.int .i64 (c : Int)) /\ (c <= (most - g) + 140737488355328 /\ c <= sizeT p.2 /\ (c <= most - g -> c = sizeT p.2)) /\ Below W.heap.size W w') :=
    fun i p q h1 h2 W hb g k' hk => by subst hk; exact ih p.2 q.v (most - g) W (by have := JV.lt_m (k := k) (n := n) (s := s) (l := l) h1; omega) (by omega) ((hcm i p q h1 h2).under hb hb.size) (okm i p h1)
   have HFT : Hid (sizeT (.mk k n s l m) = s.size + sizeL l + sizeM m) := by unfold Hid; rw [sizeT]
   have HL := Lib.hid hl
   have HM := Lib.hid hm
   have E1 : Hid (l.length = nl /\ rs.length = nl) := ⟨by omega, by omega⟩
   have E2 : Hid (m.length = nm /\ rms.length = nm) := ⟨by omega, by omega⟩
   have hnl : nl <= 1759218604390 := by omega
   have hnm : nm <= 1466015503658 := by omega
   have hst : s.size <= 140737488355328 := by omega
   have hst0 : (0 : Int) <= ((s.size : Nat) : Int) := Int.natCast_nonneg _
   obtain ⟨R, hR⟩ : ∃ R, sizeT (.mk k n s l m) = R := ⟨_, rfl⟩
   rw [hR] at HFT ⊢
   clear hR
   have hA0 : VAt (w.alloc (.cells #[.int .i64 k, .int .i64 n, .string s, .slice pl nl cl, .slice pm nm cm] 25)) w.heap.size ⟨k, n, s, pl, nl, cl, pm, nm, cm⟩ := heap_alloc_at rfl
   have hB0 : Below w.heap.size w (w.alloc (.cells #[.int .i64 k, .int .i64 n, .string s, .slice pl nl cl, .slice pm nm cm] 25)) := (Below.refl _ _).alloc (Nat.le_refl _) _
   clear ih hcl hcn hcm hl hm okl oks okm el em bl bm eL eM hN
   go_enter Tryz.func52, Tryz.ntmps52
   go_upto_region 1 with fail
   obtain ⟨W0, hW0⟩ : ∃ W0, (w.alloc (.cells #[.int .i64 k, .int .i64 n, .string s, .slice pl nl cl, .slice pm nm cm] 25)) = W0 := ⟨_, rfl⟩
   rw [hW0] at hA0 hB0 ⊢
   clear hW0
   have hz := hA0.lt
   have c2 := hA0.cell 2 rfl
   have c3 := hA0.cell 3 rfl
   have c4 := hA0.cell 4 rfl
   dsimp only at c2 c3 c4
   clear hA0
   go_wp2_with fail
   go_loopw [5, 6] (fun a i wr => ∃ (g j : Nat), j <= nl /\ g <= most + 140737488355328 /\ Hid (g <= s.size + sizeL (l.take j) /\ (g <= most -> g = s.size + sizeL (l.take j))) /\ a = .int .i64 (g : Int) /\ i = .int .i64 j /\ Below W0.heap.size W0 wr) (fun _ i _ => nl - (intOf i).toNat)
   case atStart => exact ⟨s.size, 0, Nat.zero_le _, by omega, ⟨by rw [List.take_zero]; exact Nat.le_add_right _ _, fun _ => by (rw [List.take_zero, sizeL]; try omega)⟩, rfl, rfl, Below.refl _ _⟩
   case round =>
    obtain ⟨g, j, hj, hgb, HG, rfl, rfl, hbr⟩ := hrel
    have c3 := bcs hbr hz c3
    have hbw : Below w.heap.size w wr := hB0.trans (hbr.mono hB0.size)
    obtain ⟨wo, rfl⟩ : ∃ wo : World, wo = wr := ⟨_, rfl⟩
    have hg0 : (0 : Int) <= (g : Int) := Int.natCast_nonneg _
    by_cases hgo : j < nl /\ g <= most
    ·obtain ⟨hlt, hgm⟩ := hgo
     obtain ⟨tx, htx⟩ : ∃ x, l[j]? = some x := ⟨_, List.getElem?_eq_getElem (by have := E1.out; omega)⟩
     obtain ⟨x, hx⟩ : ∃ x, rs[j]? = some x := ⟨_, List.getElem?_eq_getElem (by have := E1.out; omega)⟩
     obtain ⟨b1, o1, rfl, hb1, hc1⟩ := rd_at' (HL.out.below hbw (Nat.le_refl _)) hx
     have f0 := hc1 0 _ rfl
     have f1 := hc1 1 _ rfl
     have f2 := hc1 2 _ rfl
     have f3 := hc1 3 _ rfl
     have f4 := hc1 4 _ rfl
     rw [Nat.add_zero] at f0
     have HC := Lib.hid (HT.out j tx x htx hx)
     have hk0 : (0 : Int) <= (j : Int) := Int.natCast_nonneg _
     have hk1 : (j : Int) < (nl : Int) := by omega
     have hgi : (g : Int) <= (most : Int) := by omega
     have hdg : decide ((g : Int) <= (most : Int)) = true := decide_eq_true hgi
     have hzr : W0.heap.size <= wo.heap.size := hbr.size
     have HBR := Lib.hid hbr
     have HTK := Lib.hid (sizeL_tk htx)
     clear hc1 htx hx hbr
     go_wp2_with (go_at_call 52; (with_reducible refine (HC.out _ hbw g _ ?num).mono ?_); (case num => (first | omega | (rw [IntKind.wrap_i64]; omega))); rintro e w1 ⟨c, rfl, ⟨hc1', hc2', hc3'⟩, hb1'⟩; (have hcc : (0 : Int) <= (c : Int) := Int.natCast_nonneg _))
     go_roundw
     case rel =>
      obtain ⟨hG1, hG2⟩ := HG.out
      exact ⟨g + c, j + 1, by omega, by omega, ⟨by rw [HTK.out]; omega, fun h => by rw [HTK.out, hG2 (by omega), hc3' (by omega)]; omega⟩, by go_num, by go_num, HBR.out.trans (hb1'.mono (by omega))⟩
     case measure => simp [intOf]; omega
    ·have hz1 : W0.heap.size <= wo.heap.size := hbr.size
     have c4 := bcs hbr hz c4
     have HG1 : Hid (g <= s.size + sizeL l /\ (g <= most -> g = s.size + sizeL l)) := by
      obtain ⟨hG1, hG2⟩ := HG.out
      have := sizeL_mono l j
      refine ⟨by omega, fun h => ?_⟩
      have hjn : j = nl := by omega
      have hln := E1.out.1
      rw [hG2 h, hjn, <- hln, List.take_length]
     clear HT HL E1 hbr HG
     by_cases p1 : j < nl
     all_goals (try (have hgm : ¬ g <= most := fun h => hgo ⟨p1, h⟩))
     all_goals (try (have hdg : decide ((g : Int) <= (most : Int)) = false := decide_eq_false (by omega)))
     all_goals clear hgo
     all_goals go_wp2_with fail
     all_goals clear c3
     all_goals (
     go_loopw [5, 7] (fun a i wq => ∃ (g j : Nat), j <= nm /\ g <= most + 140737488355328 /\ Hid (g <= s.size + sizeL l + sizeM (m.take j) /\ (g <= most -> g = s.size + sizeL l + sizeM (m.take j))) /\ a = .int .i64 (g : Int) /\ i = .int .i64 j /\ Below wo.heap.size wo wq) (fun _ i _ => nm - (intOf i).toNat)
     case atStart => exact ⟨g, 0, Nat.zero_le _, hgb, ⟨by rw [List.take_zero, sizeM]; exact HG1.out.1, fun h => by rw [List.take_zero, sizeM]; exact HG1.out.2 h⟩, rfl, rfl, Below.refl _ _⟩
     case round =>
      clear hgb hg0
      try clear hgm
      try clear hdg
      obtain ⟨g, j, hj, hgb, HG, rfl, rfl, hbr⟩ := hrel
      have hg0 : (0 : Int) <= (g : Int) := Int.natCast_nonneg _
      have hbw2 : Below w.heap.size w wr := hbw.trans (hbr.mono (by omega))
      have c4 := bcs hbr (by omega) c4
      obtain ⟨w3, rfl⟩ : ∃ w3 : World, w3 = wr := ⟨_, rfl⟩
      by_cases hgo : j < nm /\ g <= most
      ·obtain ⟨hlt, hgm⟩ := hgo
       obtain ⟨tx, htx⟩ : ∃ x, m[j]? = some x := ⟨_, List.getElem?_eq_getElem (by have := E2.out; omega)⟩
       obtain ⟨x, hx⟩ : ∃ x, rms[j]? = some x := ⟨_, List.getElem?_eq_getElem (by have := E2.out; omega)⟩
       obtain ⟨b1, o1, rfl, hb1, hc1⟩ := rd_at' (HM.out.below hbw2 (Nat.le_refl _)) hx
       have f0 := hc1 0 _ rfl
       have f1 := hc1 1 _ rfl
       have f2 := hc1 2 _ rfl
       have f3 := hc1 3 _ rfl
       have f4 := hc1 4 _ rfl
       have f5 := hc1 5 _ rfl
       rw [Nat.add_zero] at f0
       have HC := Lib.hid (HS.out j tx x htx hx)
       have hk0 : (0 : Int) <= (j : Int) := Int.natCast_nonneg _
       have hk1 : (j : Int) < (nm : Int) := by omega
       have hgi : (g : Int) <= (most : Int) := by omega
       have hdg : decide ((g : Int) <= (most : Int)) = true := decide_eq_true hgi
       have HBR := Lib.hid hbr
       have hzq : wo.heap.size <= w3.heap.size := hbr.size
       have HTK := Lib.hid (sizeM_tk htx)
       clear hc1 htx hx hbr
       go_wp2_with (go_at_call 52; (with_reducible refine (HC.out _ hbw2 g _ ?num).mono ?_); (case num => (first | omega | (rw [IntKind.wrap_i64]; omega))); rintro e w1 ⟨c, rfl, ⟨hc1', hc2', hc3'⟩, hb1'⟩; (have hcc : (0 : Int) <= (c : Int) := Int.natCast_nonneg _))
       go_roundw
       case rel =>
        obtain ⟨hG1, hG2⟩ := HG.out
        exact ⟨g + c, j + 1, by omega, by omega, ⟨by rw [HTK.out]; omega, fun h => by rw [HTK.out, hG2 (by omega), hc3' (by omega)]; omega⟩, by go_num, by go_num, HBR.out.trans (hb1'.mono (by omega))⟩
       case measure => simp [intOf]; omega
      ·have HG2 : Hid (g <= R /\ (g <= most -> g = R)) := by
        obtain ⟨hG1, hG2⟩ := HG.out
        have := sizeM_mono m j
        unfold Hid
        rw [HFT.out]
        refine ⟨by omega, fun h => ?_⟩
        have hjn : j = nm := by omega
        have hln := E2.out.1
        rw [hG2 h, hjn, <- hln, List.take_length]
       by_cases p1 : j < nm
       all_goals (try (have hgm : ¬ g <= most := fun h => hgo ⟨p1, h⟩))
       all_goals (try (have hdg : decide ((g : Int) <= (most : Int)) = false := decide_eq_false (by omega)))
       all_goals clear hgo
       all_goals go_wp2_with fail
       all_goals go_ret
       all_goals exact ⟨g, rfl, ⟨hgb, HG2.out.1, HG2.out.2⟩, hbw2⟩)
end
section
open Go.RowKit Go.OpenShut
def goodN (l : List ByteArray) : Bool := l.all (fun n => badF n == n.size) && decide l.Nodup
def nameF (l : List ByteArray) (u : List UInt8) : Option Value := if u ∈ l.map (·.data.toList) then some (.bool true) else none
theorem nameF_snoc (l : List ByteArray) (n : ByteArray) : nameF (l ++ [n]) = fun u => if u = n.data.toList then some (.bool true) else nameF l u := by
 funext u
 unfold nameF
 rw [List.map_append, List.map_singleton]
 by_cases h : u = n.data.toList <;> simp [h]
theorem mem_bytes (l : List ByteArray) (n : ByteArray) : n.data.toList ∈ l.map (·.data.toList) ↔ n ∈ l := by
 rw [List.mem_map]
 constructor
 ·rintro ⟨a, ha, h⟩
  obtain rfl : a = n := by
   have := Array.ext' h
   cases a; cases n; simp_all
  exact ha
 ·exact fun h => ⟨n, h, rfl⟩
theorem goodN_snoc (l : List ByteArray) (n : ByteArray) : goodN (l ++ [n]) = true ↔ goodN l = true /\ badF n = n.size /\ n ∉ l := by
 unfold goodN
 simp only [List.all_append, List.all_cons, List.all_nil, Bool.and_true, Bool.and_eq_true, decide_eq_true_eq, List.nodup_append, List.nodup_cons, List.mem_singleton, List.not_mem_nil, not_false_eq_true, List.nodup_nil, and_true, true_and, beq_iff_eq]
 constructor
 ·rintro ⟨⟨a, b⟩, c, d⟩
  exact ⟨⟨a, c⟩, b, fun h => d n h n rfl rfl⟩
 ·rintro ⟨⟨a, c⟩, b, d⟩
  exact ⟨⟨a, b⟩, c, fun x hx y hy => by subst hy; exact fun e => d (e ▸ hx)⟩
theorem goodN_left (a b : List ByteArray) (h : goodN a = false) : goodN (a ++ b) = false := by
 cases e : goodN (a ++ b) with
 | false => rfl
 | true =>
   unfold goodN at e h
   rw [List.all_append, Bool.and_eq_true, Bool.and_eq_true, decide_eq_true_eq, List.nodup_append] at e
   rw [e.1.1, decide_eq_true e.2.1] at h
   cases h
theorem take_split {α : Type} {l : List α} {k : Nat} {x : α} (h : l[k]? = some x) : l.take (k + 1) = l.take k ++ [x] := by
 rw [List.take_add_one, h]; rfl
theorem names_any (p : Option Addr) (n c : Nat) (rms : List RM) (w : World) (hm : Rd w w.heap.size encM 6 (.slice p n c) rms) (hs : ∀ (i : Nat) q, rms[i]? = some q -> q.name.size <= maxLen) (hn : n <= 1466015503658) :
 Calls Tryz.prog 136 #[.slice p n c] w fun e w' => e = .returned (.bool (goodN (rms.map (·.name)))) /\ Below w.heap.size w w' := by
 have eM := rd_nlen hm
 have HM := Lib.hid hm
 have HZ := Lib.hid hs
 have E2 := Lib.hid eM
 have hM0 : Hid (MapF (w.alloc (.map #[] 0)) Tryz.prog 9 w.heap.size 0 (nameF [])) := MapF.made w Tryz.prog 9
 have hB0 : Below w.heap.size w (w.alloc (.map #[] 0)) := (Below.refl _ _).alloc (Nat.le_refl _) _
 clear hm hs eM
 go_enter Tryz.func136, Tryz.ntmps136
 have hmm := @run_makeMap Tryz.prog
 go_upto_region 2 with fail
 clear hmm
 obtain ⟨W0, hW0⟩ : ∃ W, w.alloc (.map #[] 0) = W := ⟨_, rfl⟩
 rw [hW0] at hM0 hB0 ⊢
 clear hW0
 go_wp2_with fail
 go_loopw [9] (fun i wr => ∃ k : Nat, k <= n /\ i = .int .i64 k /\ Hid (MapF wr Tryz.prog 9 w.heap.size k (nameF ((rms.take k).map (·.name)))) /\ Hid (goodN ((rms.take k).map (·.name)) = true) /\ Below w.heap.size w wr) (fun i _ => n - (intOf i).toNat)
 case atStart => exact ⟨0, Nat.zero_le _, rfl, hM0, rfl, hB0⟩
 case round =>
  obtain ⟨k, hk, rfl, hMF, hgd, hbr⟩ := hrel
  by_cases hlt : k < n
  ·obtain ⟨x, hx⟩ : ∃ x, rms[k]? = some x := ⟨_, List.getElem?_eq_getElem (by have := E2.out; omega)⟩
   obtain ⟨b1, o1, rfl, hb1, hc1⟩ := rd_at' (HM.out.below hbr (Nat.le_refl _)) hx
   have f0 := hc1 0 _ rfl
   have f1 := hc1 1 _ rfl
   have f2 := hc1 2 _ rfl
   have f3 := hc1 3 _ rfl
   have f4 := hc1 4 _ rfl
   have f5 := hc1 5 _ rfl
   rw [Nat.add_zero] at f0
   have HX := Lib.hid hx
   have hzx := HZ.out k x hx
   have hz := hbr.size
   have HBR : Hid (Below w.heap.size w (wr.alloc (.cells #[.string x.name, .int .i64 x.v.k, .int .i64 x.v.n, .string x.v.s, .slice x.v.pl x.v.nl x.v.cl, .slice x.v.pm x.v.nm x.v.cm] 32))) := hbr.alloc hz _
   have HMA : ∀ m, Hid (MapF ((wr.alloc (.cells #[.string x.name, .int .i64 x.v.k, .int .i64 x.v.n, .string x.v.s, .slice x.v.pl x.v.nl x.v.cl, .slice x.v.pm x.v.nm x.v.cm] 32)).drewN m) Tryz.prog 9 w.heap.size k (nameF ((rms.take k).map (·.name)))) := fun m => MapF.of_block (hMF.out.alloc _) rfl
   have hk0 : (0 : Int) <= (k : Int) := Int.natCast_nonneg _
   have hk1 : (k : Int) < (n : Int) := by omega
   have hlk := fun m => (HMA m).out.look Tryz.underlying9 Tryz.underlying152 (Tryz.zeroValue4 _) hzx
   clear hc1 hx hbr hMF
   have HSP := Lib.hid (take_split HX.out)
   have hBad : ∀ W, Calls Tryz.prog 135 #[.string x.name] W fun e w' => e = .returned (.int .i64 (badF x.name : Nat)) /\ w' = W := fun W => (bad_any x.name W hzx).mono fun e w' h => ⟨h.1, h.2.symm⟩
   have HBAD := Lib.hid hBad
   have hble := badF_le x.name
   unfold maxLen at hzx
   clear hBad
   by_cases hin : x.name ∈ (rms.take k).map (·.name)
   ·have HR : Hid (goodN (rms.map (·.name)) = false) := by
     have h : goodN ((rms.take (k + 1)).map (·.name)) = false := by
      rw [HSP.out, List.map_append, List.map_singleton]
      cases e : goodN ((rms.take k).map (·.name) ++ [x.name]) with
      | false => rfl
      | true => exact absurd hin ((goodN_snoc _ _).1 e).2.2
     have h2 := goodN_left _ ((rms.drop (k + 1)).map (·.name)) h
     rw [<- List.map_append, List.take_append_drop] at h2
     exact h2
    have hv : (nameF ((rms.take k).map (·.name)) x.name.data.toList).getD (.bool false) = .bool true := by unfold nameF; rw [if_pos ((mem_bytes _ _).2 hin)]; rfl
    rw [hv] at hlk
    clear hv hin HMA
    go_wp2_with fail
    go_quiet (fail)
    go_wp2_with fail
    go_ret
    exact ⟨ret_boolU HR.out.symm, bdn HBR.out _⟩
   ·have hv : (nameF ((rms.take k).map (·.name)) x.name.data.toList).getD (.bool false) = .bool false := by unfold nameF; rw [if_neg (fun h => hin ((mem_bytes _ _).1 h))]; rfl
    rw [hv] at hlk
    have HIN := Lib.hid hin
    clear hv hin
    by_cases hbd : badF x.name = x.name.size
    ·have HBD := Lib.hid hbd
     have q1 : ((badF x.name : Int) != (x.name.size : Int)) = false := by simp; omega
     have HG : Hid (goodN ((rms.take (k + 1)).map (·.name)) = true) := by
      unfold Hid
      rw [HSP.out, List.map_append, List.map_singleton]
      exact (goodN_snoc _ _).2 ⟨hgd.out, HBD.out, HIN.out⟩
     clear hbd
     go_wp2_with fail
     go_quiet ((go_at_call 135; exact Calls.quiet_of_same (HBAD.out _)))
     have HMQ := Lib.hid (HMA nq).out
     have HMK := Lib.hid (hzx : x.name.size <= maxLen)
     have HZ0 := Lib.hid hz
     clear hlk HMA q1
     go_wp2_with (at_mapUpdate; refine wpList_store_F _ rfl _ _ _ _ rfl 9 4 Tryz.underlying9 Tryz.underlying152 _ k _ rfl HMQ.out (by unfold maxLen; omega) x.name rfl HMK.out (.bool true) rfl ?_; intro w1 hM1 hG1; go_frame)
     go_roundw
     case rel =>
      refine ⟨k + 1, by omega, by go_num, ?_, HG, (bdn HBR.out nq).grown hG1 (by have := HZ0.out; simp; omega) (fun a e => by cases e; exact Nat.le_refl _)⟩
      unfold Hid
      rw [HSP.out, List.map_append, List.map_singleton, nameF_snoc]
      exact hM1
     case measure => simp [intOf]; omega
    ·have HR : Hid (goodN (rms.map (·.name)) = false) := by
      have h : goodN ((rms.take (k + 1)).map (·.name)) = false := by
       rw [HSP.out, List.map_append, List.map_singleton]
       cases e : goodN ((rms.take k).map (·.name) ++ [x.name]) with
       | false => rfl
       | true => exact absurd ((goodN_snoc _ _).1 e).2.1 hbd
      have h2 := goodN_left _ ((rms.drop (k + 1)).map (·.name)) h
      rw [<- List.map_append, List.take_append_drop] at h2
      exact h2
     have q1 : ((badF x.name : Int) != (x.name.size : Int)) = true := by simp; omega
     clear hbd
     go_wp2_with fail
     go_quiet ((go_at_call 135; exact Calls.quiet_of_same (HBAD.out _)))
     go_wp2_with fail
     go_ret
     exact ⟨ret_boolU HR.out.symm, bdn HBR.out _⟩
  ·obtain rfl : k = n := by omega
   go_wp2_with fail
   go_ret
   refine ⟨ret_boolU ?_, hbr⟩
   have h := hgd.out
   rw [List.take_of_length_le (by have := E2.out; omega)] at h
   exact h.symm
def NewTree (w : World) (t : JV) (e : Ending) (w' : World) : Prop := ∃ q : RV, e = .returned q.val /\ LoneV w' (Fresh w w') t q /\ Below w.heap.size w w'
theorem set_getE {α : Type} {l : List α} {j : Nat} {x : α} (h : l[j]? = some x) : l.set j x = l := by
 apply List.ext_getElem?
 intro i
 by_cases hij : i = j
 ·subst hij
  rw [List.getElem?_set_self (List.getElem?_eq_some_iff.1 h).1, h]
 ·rw [get_set_ne _ _ hij]
theorem Parts.less {W : World} {b0 g : Nat} {D D' : Nat ⊕ Nat -> Prop} {l : List JV} {m : List (ByteArray × JV)} {ds : List RV} {dms : List RM} {r : RV} {F : Nat ⊕ Nat -> Nat -> Prop} (h : Parts W b0 g D l m ds dms r F) (hD : ∀ a, D' a -> D a) : Parts W b0 g D' l m ds dms r F :=
 ⟨h.box, h.ownL, h.ownM, h.bL, h.bM, h.dr, h.los, h.el, h.em, h.cn, fun i t q hd => h.cl i t q (hD _ hd), fun i t q hd => h.cm i t q (hD _ hd), h.ff, h.dd⟩
structure CopyS (w W : World) (jl jm : Nat) (l : List JV) (m : List (ByteArray × JV)) (rs : List RV) (rms : List RM) (ds : List RV) (dms : List RM) (r : RV) (F : Nat ⊕ Nat -> Nat -> Prop) : Prop where
 parts : Parts W (w.heap.size + 1 + 1) w.heap.size (fun a => (∃ i, a = .inl i /\ i < jl) \/ ∃ i, a = .inr i /\ i < jm) l m ds dms r F
 rl : ∀ i, jl <= i -> ds[i]? = rs[i]?
 rm : ∀ i, jm <= i -> dms[i]? = rms[i]?
 below : Below w.heap.size w W
 out : VAt W (w.heap.size + 1) RV.zero
theorem Parts.drew {W : World} {b0 g : Nat} {D : Nat ⊕ Nat -> Prop} {l : List JV} {m : List (ByteArray × JV)} {ds : List RV} {dms : List RM} {r : RV} {F : Nat ⊕ Nat -> Nat -> Prop} (h : Parts W b0 g D l m ds dms r F) : Parts W.drew b0 g D l m ds dms r F :=
 ⟨h.box, h.ownL, h.ownM, h.bL, h.bM, h.dr, h.los, h.el, h.em, h.cn, fun i t q h1 h2 h3 => (h.cl i t q h1 h2 h3).same fun _ _ => rfl, fun i t q h1 h2 h3 => (h.cm i t q h1 h2 h3).same fun _ _ => rfl, h.ff, h.dd⟩
theorem VAt.set3 {W : World} {g : Nat} {r : RV} (h : VAt W g r) (p : Option Addr) (n c : Nat) : VAt (W.setCell ⟨g, 3, none⟩ (.slice p n c)) g { r with pl := p, nl := n, cl := c } := by
 unfold VAt at h ⊢
 simp [World.setCell, Array.getElem?_modify, h]
theorem CopyS.start {w w1 w2 : World} {b1 : Nat} {k n : Int} {s : ByteArray} {pl pm p' p2 : Option Addr} {nl cl nm cm c' c2 : Nat} {l : List JV} {m : List (ByteArray × JV)} {rs : List RV} {rms : List RM}
 (hA : VAt w2 w.heap.size ⟨k, n, s, pl, nl, cl, pm, nm, cm⟩) (hZ : VAt w2 (w.heap.size + 1) RV.zero) (ho1 : Own w1 b1 25 encV 5 (.slice p' nl c') rs) (hb1 : w.heap.size + 1 + 1 <= b1) (ho2 : Own w2 w1.heap.size 32 encM 6 (.slice p2 nm c2) rms)
 (hb2 : Below w1.heap.size w1 w2) (hb : Below w.heap.size w w2) (hw : w.heap.size + 1 + 1 <= w1.heap.size) (el : l.length = rs.length) (em : m.length = rms.length) (cn : ∀ (i : Nat) (p : ByteArray × JV) (q : RM), m[i]? = some p -> rms[i]? = some q -> p.1 = q.name) :
 CopyS w ((w2.setCell ⟨w.heap.size, 3, none⟩ (.slice p' nl c')).setCell ⟨w.heap.size, 4, none⟩ (.slice p2 nm c2)) 0 0 l m rs rms rs rms ⟨k, n, s, p', nl, c', p2, nm, c2⟩ (fun _ _ => False) := by
 have hg : w2.grownBy ((w2.setCell ⟨w.heap.size, 3, none⟩ (.slice p' nl c')).setCell ⟨w.heap.size, 4, none⟩ (.slice p2 nm c2)) (some w.heap.size) := (grownBy_set w2 w.heap.size 3 _).trans (grownBy_set _ w.heap.size 4 _)
 have hsz : ((w2.setCell ⟨w.heap.size, 3, none⟩ (.slice p' nl c')).setCell ⟨w.heap.size, 4, none⟩ (.slice p2 nm c2)).heap.size = w2.heap.size := by simp
 have hs2 := hb2.size
 have l1 := ho1.lt
 have l2 := ho2.lt
 refine ⟨⟨(hA.set3 p' nl c').set4 p2 nm c2, ((ho1.mono hb1).below hb2 (Nat.le_refl _)).kept hg ?_, (ho2.mono hw).kept hg ?_, ?_, ?_, ?_, by omega, el, em, cn, ?_, ?_, ?_, ?_⟩, fun _ _ => rfl, fun _ _ => rfl, ?_, ?_⟩
 ·cases h : (Value.slice p' nl c').ownBlock with
  | none => exact .inl rfl
  | some j => exact .inr (fun e => by have := (l1 j h).1; cases e; omega)
 ·cases h : (Value.slice p2 nm c2).ownBlock with
  | none => exact .inl rfl
  | some j => exact .inr (fun e => by have := (l2 j h).1; cases e; omega)
 ·intro k h; have := l1 k h; omega
 ·intro k h; have := l2 k h; omega
 ·intro k h h'; have := l1 k h; have := l2 k h'; omega
 ·rintro i t q (⟨_, _, h⟩ | ⟨_, _, h⟩) <;> omega
 ·rintro i t q (⟨_, _, h⟩ | ⟨_, _, h⟩) <;> omega
 ·intro a k h; exact h.elim
 ·intro a b k h; exact h.elim
 ·exact (hb.setCell (p := ⟨w.heap.size, 3, none⟩) (Nat.le_refl _) _).setCell (p := ⟨w.heap.size, 4, none⟩) (Nat.le_refl _) _
 ·exact (hg.block (w.heap.size + 1) (by omega) (fun e => by injection e with e; omega)).trans hZ
theorem CopyS.stepL {w W w1 W2 : World} {j jm : Nat} {l : List JV} {m : List (ByteArray × JV)} {rs ds : List RV} {rms dms : List RM} {r : RV} {F : Nat ⊕ Nat -> Nat -> Prop} (h : CopyS w W j jm l m rs rms ds dms r F) (hb : Below W.drew.heap.size W.drew w1) {t : JV} {x q : RV} (hq : LoneV w1 (Fresh W.drew w1) t q) (ht : l[j]? = some t) (hx : ds[j]? = some x)
 {g2 : Nat} (hg2 : r.pl = some ⟨g2, 0, none⟩) (ho : Own W2 (w.heap.size + 1 + 1) 25 encV 5 (.slice r.pl r.nl r.cl) (ds.set j q)) (hg : w1.grownBy W2 (some g2)) :
 CopyS w W2 (j + 1) jm l m rs rms (ds.set j q) dms r (fun a k => if a = .inl j then Fresh W.drew w1 k else F a k) := by
 have hob : (Value.slice r.pl r.nl r.cl).ownBlock = some g2 := by rw [hg2]; rfl
 have hp := Parts.setL h.parts.drew hb hq hob ho hg (List.getElem?_eq_some_iff.1 hx).1
 rw [set_getE ht] at hp
 have hg2b := (h.parts.ownL.lt g2 hob).1
 have hsz : W.drew.heap.size = W.heap.size := rfl
 have hbs := hb.size
 have hg2s := (h.parts.ownL.lt g2 hob).2
 refine ⟨hp.less ?_, ?_, h.rm, ?_, ?_⟩
 ·rintro a (⟨i, rfl, hi⟩ | hi)
  ·rcases Nat.lt_or_ge i j with h1 | h1
   ·exact .inl (.inl ⟨i, rfl, h1⟩)
   ·exact .inr (by rw [show i = j by omega])
  ·exact .inl (.inr hi)
 ·intro i hi
  rw [get_set_ne _ _ (by omega)]
  exact h.rl i (by omega)
 ·exact (h.below.drew.trans (hb.mono h.below.size)).trans ((Below.refl _ _).grown hg (Nat.le_trans h.below.size hbs) (fun k e => by cases e; omega))
 ·have h1 : VAt w1 (w.heap.size + 1) RV.zero := VAt.under (W := W.drew) h.out hb (by have := h.out.lt; omega)
  exact (hg.block (w.heap.size + 1) h1.lt (fun e => by injection e with e; omega)).trans h1
theorem CopyS.stepM {w W w1 W2 : World} {j jl : Nat} {l : List JV} {m : List (ByteArray × JV)} {rs ds : List RV} {rms dms : List RM} {r : RV} {F : Nat ⊕ Nat -> Nat -> Prop} (h : CopyS w W jl j l m rs rms ds dms r F) (hb : Below W.drew.heap.size W.drew w1) {p : ByteArray × JV} {x : RM} {q : RV} (hq : LoneV w1 (Fresh W.drew w1) p.2 q) (ht : m[j]? = some p) (hx : dms[j]? = some x)
 {g2 : Nat} (hg2 : r.pm = some ⟨g2, 0, none⟩) (ho : Own W2 (w.heap.size + 1 + 1) 32 encM 6 (.slice r.pm r.nm r.cm) (dms.set j ⟨x.name, q⟩)) (hg : w1.grownBy W2 (some g2)) :
 CopyS w W2 jl (j + 1) l m rs rms ds (dms.set j ⟨x.name, q⟩) r (fun a k => if a = .inr j then Fresh W.drew w1 k else F a k) := by
 have hob : (Value.slice r.pm r.nm r.cm).ownBlock = some g2 := by rw [hg2]; rfl
 have hp := Parts.setM h.parts.drew hb hq hob ht hx ho hg
 rw [show (p.1, p.2) = p from rfl, set_getE ht] at hp
 have hg2b := (h.parts.ownM.lt g2 hob).1
 have hsz : W.drew.heap.size = W.heap.size := rfl
 have hbs := hb.size
 have hg2s := (h.parts.ownM.lt g2 hob).2
 refine ⟨hp.less ?_, h.rl, ?_, ?_, ?_⟩
 ·rintro a (hi | ⟨i, rfl, hi⟩)
  ·exact .inl (.inl hi)
  ·rcases Nat.lt_or_ge i j with h1 | h1
   ·exact .inl (.inr ⟨i, rfl, h1⟩)
   ·exact .inr (by rw [show i = j by omega])
 ·intro i hi
  rw [get_set_ne _ _ (by omega)]
  exact h.rm i (by omega)
 ·exact (h.below.drew.trans (hb.mono h.below.size)).trans ((Below.refl _ _).grown hg (Nat.le_trans h.below.size hbs) (fun k e => by cases e; omega))
 ·have h1 : VAt w1 (w.heap.size + 1) RV.zero := VAt.under (W := W.drew) h.out hb (by have := h.out.lt; omega)
  exact (hg.block (w.heap.size + 1) h1.lt (fun e => by injection e with e; omega)).trans h1
theorem Parts.fin {w W : World} {l : List JV} {m : List (ByteArray × JV)} {ds : List RV} {dms : List RM} {r : RV} {D : Nat ⊕ Nat -> Prop} {F : Nat ⊕ Nat -> Nat -> Prop} (h : Parts W (w.heap.size + 1 + 1) w.heap.size D l m ds dms r F) (hD : ∀ i, (i < l.length -> D (.inl i)) /\ (i < m.length -> D (.inr i))) (hb : Below w.heap.size w W) :
 NewTree w (.mk r.k r.n r.s l m) (.returned r.val) (((((W.setCell ⟨w.heap.size + 1, 0, none⟩ (.int .i64 r.k)).setCell ⟨w.heap.size + 1, 1, none⟩ (.int .i64 r.n)).setCell ⟨w.heap.size + 1, 2, none⟩ (.string r.s)).setCell ⟨w.heap.size + 1, 3, none⟩ (.slice r.pl r.nl r.cl)).setCell ⟨w.heap.size + 1, 4, none⟩ (.slice r.pm r.nm r.cm)) := by
 have hg := grownBy_set5 W (w.heap.size + 1) r
 have h1 := h.whole hD
 refine ⟨r, rfl, (h1.same fun k hk => hg.block k hk.2 (fun e => by have := hk.1; injection e with e; omega)).mono fun k hk => ⟨by omega, Nat.lt_of_lt_of_le hk.2 hg.size⟩, Below.stored hb (by omega) r⟩
theorem copy_any (N : Nat) : ∀ (t : JV) (r : RV) (w : World), SizeOf.sizeOf t <= N -> TreeOf w w.heap.size t r -> t.Ok ->
 Calls Tryz.prog 34 #[r.val] w (NewTree w t) := by
 induction N with
 | zero => intro t r w hN; cases t; simp at hN
 | succ N ih =>
   intro t r w hN ht ot
   cases ht with
   | @mk _ l m rs rms hl el hcl hm em hcn hcm =>
   obtain ⟨k, n, s, pl, nl, cl, pm, nm, cm⟩ := r
   cases ot with
   | mk _ _ _ bl bm okl oks okm =>
   dsimp only [RV.val] at *
   have eL := rd_nlen hl
   have eM := rd_nlen hm
   have HT : Hid (∀ (i : Nat) t q, l[i]? = some t -> rs[i]? = some q -> ∀ W, Below w.heap.size w W -> Calls Tryz.prog 34 #[q.val] W (NewTree W t)) :=
    fun i t q h1 h2 W hb => ih t q W (by have := JV.lt_l (k := k) (n := n) (s := s) (m := m) h1; omega) ((hcl i t q h1 h2).under hb hb.size) (okl i t h1)
   have HS : Hid (∀ (i : Nat) p q, m[i]? = some p -> rms[i]? = some q -> ∀ W, Below w.heap.size w W -> Calls Tryz.prog 34 #[q.v.val] W (NewTree W p.2)) :=
    fun i p q h1 h2 W hb => ih p.2 q.v W (by have := JV.lt_m (k := k) (n := n) (s := s) (l := l) h1; omega) ((hcm i p q h1 h2).under hb hb.size) (okm i p h1)
   have HL := Lib.hid hl
   have HM := Lib.hid hm
   have HCN := Lib.hid hcn
   have E1 : Hid (l.length = nl /\ rs.length = nl) := ⟨by omega, by omega⟩
   have E2 : Hid (m.length = nm /\ rms.length = nm) := ⟨by omega, by omega⟩
   have hnl : nl <= 1759218604390 := by omega
   have hnm : nm <= 1466015503658 := by omega
   have hA0 : VAt ((w.alloc (.cells #[.int .i64 k, .int .i64 n, .string s, .slice pl nl cl, .slice pm nm cm] 25)).alloc (.cells #[.int .i64 0, .int .i64 0, .string ⟨#[]⟩, .slice none 0 0, .slice none 0 0] 25)) w.heap.size ⟨k, n, s, pl, nl, cl, pm, nm, cm⟩ := heap_alloc_lt (by simp) (heap_alloc_at rfl)
   have hA1 : VAt ((w.alloc (.cells #[.int .i64 k, .int .i64 n, .string s, .slice pl nl cl, .slice pm nm cm] 25)).alloc (.cells #[.int .i64 0, .int .i64 0, .string ⟨#[]⟩, .slice none 0 0, .slice none 0 0] 25)) (w.heap.size + 1) RV.zero := heap_alloc_at (by simp)
   have hB0 := below2 w (.cells #[.int .i64 k, .int .i64 n, .string s, .slice pl nl cl, .slice pm nm cm] 25) (.cells #[.int .i64 0, .int .i64 0, .string ⟨#[]⟩, .slice none 0 0, .slice none 0 0] 25)
   clear ih hcl hcn hcm hl hm okl oks okm el em bl bm eL eM hN
   go_enter Tryz.func34, Tryz.ntmps34
   go_upto_region 1 with fail
   have hws : ((w.alloc (.cells #[.int .i64 k, .int .i64 n, .string s, .slice pl nl cl, .slice pm nm cm] 25)).alloc (.cells #[.int .i64 0, .int .i64 0, .string ⟨#[]⟩, .slice none 0 0, .slice none 0 0] 25)).heap.size = w.heap.size + 1 + 1 := by simp
   obtain ⟨W0, hW0⟩ : ∃ W0, ((w.alloc (.cells #[.int .i64 k, .int .i64 n, .string s, .slice pl nl cl, .slice pm nm cm] 25)).alloc (.cells #[.int .i64 0, .int .i64 0, .string ⟨#[]⟩, .slice none 0 0, .slice none 0 0] 25)) = W0 := ⟨_, rfl⟩
   rw [hW0] at hA0 hA1 hB0 hws ⊢
   clear hW0
   have HWS := Lib.hid hws
   have c3 := hA0.cell 3 rfl
   have c4 := hA0.cell 4 rfl
   dsimp only at c3 c4
   have hz := hA0.lt
   have HA0 := Lib.hid hA0
   have HA1 := Lib.hid hA1
   have HB0 := Lib.hid hB0
   have HAD : Hid (VAt W0.drew w.heap.size ⟨k, n, s, pl, nl, cl, pm, nm, cm⟩) := hA0
   have HZD : Hid (VAt W0.drew (w.heap.size + 1) RV.zero) := hA1
   clear hA0 hA1 hB0 hws
   go_cut [12] from 5 to 12 (fun v wr => v = .pointer (some ⟨w.heap.size, 4, none⟩) /\ ∃ p' c' p2 c2, Hid (CopyS w wr 0 0 l m rs rms rs rms ⟨k, n, s, p', nl, c', p2, nm, c2⟩ (fun _ _ => False)))
   case first =>
    go_region_law (first
     | (go_simp; go_at_call 69; refine (cloneV_any codecV _ pl nl cl rs (HL.out.below HB0.out.drew HB0.out.size) (by have := E1.out; omega)).mono ?_; rintro e w1 ⟨p', c', rfl, hpn1, ho1, hb1⟩; (have c3' := bcs hb1 hz c3); (have c4' := bcs hb1 hz c4))
     | (go_simp; go_at_call 70; refine (cloneM_any codecM _ pm nm cm rms (HM.out.below (HB0.out.drew.trans (hb1.mono HB0.out.size)) (HB0.out.drew.trans (hb1.mono HB0.out.size)).size) (by have := E2.out; omega)).mono ?_; rintro e w2 ⟨p2, c2, rfl, hpn2, ho2, hb2⟩; (have hA2 := (HAD.out.under hb1 hz).under hb2 (Nat.lt_of_lt_of_le hz hb1.size)); (have d3 := hA2.cell 3 rfl); (have d4 := hA2.cell 4 rfl); (have x3 := hA2.frozen 3); (have x4 := hA2.frozen 4)))
    all_goals go_wp2_with fail
    all_goals (
     go_meet
     exact ⟨rfl, p', c', p2, c2, CopyS.start hA2 (VAt.under (VAt.under (W := W0.drew) HZD.out hb1 HZD.out.lt) hb2 (Nat.lt_of_lt_of_le HZD.out.lt hb1.size)) ho1 (by have := HWS.out; simp; omega) ho2 hb2 ((HB0.out.drew.trans (hb1.mono HB0.out.size)).trans (hb2.mono (Nat.le_trans HB0.out.size hb1.size))) (by have := HWS.out; have := hb1.size; simp at this; omega) (by have := E1.out; omega) (by have := E2.out; omega) HCN.out⟩)
   case rest =>
   obtain ⟨rfl, p', c', p2, c2, hC0⟩ := hcut
   have HC0 := hC0
   have hC0 := HC0.out
   have c3 := hC0.parts.box.cell 3 rfl
   dsimp only at c3
   clear hC0 HA0 HA1 HB0 HAD HZD HWS c4
   go_wp2_with fail
   go_loopw [16] (fun i wr => ∃ (j : Nat) (ds : List RV) (F : Nat ⊕ Nat -> Nat -> Prop), j <= nl /\ i = .int .i64 j /\ Hid (CopyS w wr j 0 l m rs rms ds rms ⟨k, n, s, p', nl, c', p2, nm, c2⟩ F)) (fun i _ => nl - (intOf i).toNat)
   case atStart => exact ⟨0, rs, _, Nat.zero_le _, rfl, HC0⟩
   case round =>
    obtain ⟨j, ds, F, hj, rfl, HC⟩ := hrel
    have hbr := HC.out.below
    by_cases hlt : j < nl
    ·obtain ⟨tx, htx⟩ : ∃ x, l[j]? = some x := ⟨_, List.getElem?_eq_getElem (by have := E1.out; omega)⟩
     obtain ⟨x, hx⟩ : ∃ x, rs[j]? = some x := ⟨_, List.getElem?_eq_getElem (by have := E1.out; omega)⟩
     have hds : ds[j]? = some x := (HC.out.rl j (Nat.le_refl _)).trans hx
     obtain ⟨g2, e2, e3, hg1, hg2, hcell, hfr⟩ := Own.at codecV HC.out.parts.ownL hds
     dsimp only at e2
     subst e2
     have c3 := HC.out.parts.box.cell 3 rfl
     dsimp only at c3
     have hgb := HC.out.parts.box.lt
     have f0 := hcell 0 _ rfl
     have f1 := hcell 1 _ rfl
     have f2 := hcell 2 _ rfl
     have f3 := hcell 3 _ rfl
     have f4 := hcell 4 _ rfl
     rw [Nat.add_zero] at f0
     have HR := Lib.hid (HT.out j tx x htx hx)
     have hk0 : (0 : Int) <= (j : Int) := Int.natCast_nonneg _
     have hk1 : (j : Int) < (nl : Int) := by omega
     have HTX := Lib.hid htx
     have HDS := Lib.hid hds
     have HG1 := Lib.hid hg1
     clear hcell hfr htx hx hds e3 hg1
     go_wp2_with fail
     go_region_law (first
      | (go_simp; go_at_call 34; refine (HR.out _ hbr.drew).mono ?_; rintro e w1 ⟨q, rfl, hq, hb1⟩; (have HP1 := Lib.hid (HC.out.parts.drew.below hb1)); (have c3' := HP1.out.box.cell 3 rfl); dsimp only at c3'; obtain ⟨g3, e4, e5, hg3, hg4, hcell1, hfr1⟩ := Own.at codecV HP1.out.ownL HDS.out; dsimp only at e4; cases e4; (have k0 := hcell1 0 _ rfl); (have k1 := hcell1 1 _ rfl); (have k2 := hcell1 2 _ rfl); (have k3 := hcell1 3 _ rfl); (have k4 := hcell1 4 _ rfl); (have y0 := hfr1 (j * 5)); (have y1 := hfr1 (j * 5 + 1)); (have y2 := hfr1 (j * 5 + 2)); (have y3 := hfr1 (j * 5 + 3)); (have y4 := hfr1 (j * 5 + 4)); rw [Nat.add_zero] at k0; (have HQ := Lib.hid hq); clear hcell1 hfr1 e5 hg3 hg4 hq))
     all_goals (have HS := Lib.hid (Own.storedL HP1.out.ownL HDS.out q))
     all_goals (have HN := Lib.hid (HC.out.stepL hb1 HQ.out HTX.out HDS.out rfl HS.out.1 HS.out.2))
     all_goals go_wp2_with fail
     all_goals (
      go_roundw
      case rel => exact ⟨j + 1, _, _, by omega, by go_num, HN⟩
      case measure => simp [intOf]; omega)
    ·obtain rfl : j = nl := by omega
     have c4 := HC.out.parts.box.cell 4 rfl
     dsimp only at c4
     clear HT hbr c3 HC0
     go_wp2_with fail
     go_loopw [33] (fun i wr => ∃ (i2 : Nat) (dms : List RM) (F : Nat ⊕ Nat -> Nat -> Prop), i2 <= nm /\ i = .int .i64 i2 /\ Hid (CopyS w wr j i2 l m rs rms ds dms ⟨k, n, s, p', j, c', p2, nm, c2⟩ F)) (fun i _ => nm - (intOf i).toNat)
     case atStart => exact ⟨0, rms, F, Nat.zero_le _, rfl, HC⟩
     case round =>
      obtain ⟨i2, dms, F, hi2, rfl, HC⟩ := hrel
      have hbr := HC.out.below
      by_cases hlt2 : i2 < nm
      ·obtain ⟨tx, htx⟩ : ∃ x, m[i2]? = some x := ⟨_, List.getElem?_eq_getElem (by have := E2.out; omega)⟩
       obtain ⟨x, hx⟩ : ∃ x, rms[i2]? = some x := ⟨_, List.getElem?_eq_getElem (by have := E2.out; omega)⟩
       have hds : dms[i2]? = some x := (HC.out.rm i2 (Nat.le_refl _)).trans hx
       obtain ⟨g2, e2, e3, hg1, hg2, hcell, hfr⟩ := Own.at codecM HC.out.parts.ownM hds
       dsimp only at e2
       subst e2
       have c4 := HC.out.parts.box.cell 4 rfl
       dsimp only at c4
       have hgb := HC.out.parts.box.lt
       have f0 := hcell 0 _ rfl
       have f1 := hcell 1 _ rfl
       have f2 := hcell 2 _ rfl
       have f3 := hcell 3 _ rfl
       have f4 := hcell 4 _ rfl
       have f5 := hcell 5 _ rfl
       rw [Nat.add_zero] at f0
       have HR := Lib.hid (HS.out i2 tx x htx hx)
       have hk0 : (0 : Int) <= (i2 : Int) := Int.natCast_nonneg _
       have hk1 : (i2 : Int) < (nm : Int) := by omega
       have HTX := Lib.hid htx
       have HDS := Lib.hid hds
       clear hcell hfr htx hx hds e3 hg1
       go_wp2_with fail
       go_region_law (first
        | (go_simp; go_at_call 34; refine (HR.out _ hbr.drew).mono ?_; rintro e w1 ⟨q, rfl, hq, hb1⟩; (have HP1 := Lib.hid (HC.out.parts.drew.below hb1)); (have c4' := HP1.out.box.cell 4 rfl); dsimp only at c4'; obtain ⟨g3, e4, e5, hg3, hg4, hcell1, hfr1⟩ := Own.at codecM HP1.out.ownM HDS.out; dsimp only at e4; cases e4; (have k0 := hcell1 1 _ rfl); (have k1 := hcell1 2 _ rfl); (have k2 := hcell1 3 _ rfl); (have k3 := hcell1 4 _ rfl); (have k4 := hcell1 5 _ rfl); (have y0 := hfr1 (i2 * 6 + 1)); (have y1 := hfr1 (i2 * 6 + 2)); (have y2 := hfr1 (i2 * 6 + 3)); (have y3 := hfr1 (i2 * 6 + 4)); (have y4 := hfr1 (i2 * 6 + 5)); (have HQ := Lib.hid hq); clear hcell1 hfr1 e5 hg3 hg4 hq))
       all_goals (have HST := Lib.hid (Own.storedV HP1.out.ownM HDS.out q))
       all_goals (have HN := Lib.hid (HC.out.stepM hb1 HQ.out HTX.out HDS.out rfl HST.out.1 HST.out.2))
       all_goals go_wp2_with fail
       all_goals (
        go_roundw
        case rel => exact ⟨i2 + 1, _, _, by omega, by go_num, HN⟩
        case measure => simp [intOf]; omega)
      ·obtain rfl : i2 = nm := by omega
       have HZ := HC.out.out
       obtain ⟨b0, b1, b2, b3, b4⟩ := HC.out.parts.box.cells5
       obtain ⟨z0, z1, z2, z3, z4⟩ := HZ.cells5
       dsimp only [RV.zero] at b0 b1 b2 b3 b4 z0 z1 z2 z3 z4
       have y0 := HZ.frozen 0
       have y1 := HZ.frozen 1
       have y2 := HZ.frozen 2
       have y3 := HZ.frozen 3
       have y4 := HZ.frozen 4
       have HFI := Lib.hid (HC.out.parts.fin (fun a => ⟨fun h => .inl ⟨a, rfl, by have := E1.out; omega⟩, fun h => .inr ⟨a, rfl, by have := E2.out; omega⟩⟩) HC.out.below)
       have HZZ := Lib.hid (HC.out.out.stored ⟨k, n, s, p', j, c', p2, i2, c2⟩)
       clear HZ HC HS
       go_wp2_with fail
       obtain ⟨q0, q1, q2, q3, q4⟩ := HZZ.out.cells5
       refine bodyPost_ret (v := RV.val ⟨k, n, s, p', j, c', p2, i2, c2⟩) (by simp [results, Tryz.results34, go_sem, q0, q1, q2, q3, q4]) rfl HFI.out
end
end Go.Proofs.YtffhccmppdgmfaaGreatDoor
