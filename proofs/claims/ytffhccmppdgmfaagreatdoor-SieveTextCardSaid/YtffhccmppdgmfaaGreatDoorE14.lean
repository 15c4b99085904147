import Derived.Test.YtffhccmppdgmfaaGreatDoorE12
import Derived.Test.YtffhccmppdgmfaaGreatDoorE09
import Derived.Test.YtffhccmppdgmfaaGreatDoorE11
import Derived.Test.YtffhccmppdgmfaaGreatDoorE10
import Derived.Test.YtffhccmppdgmfaaGreatDoorE05
set_option linter.unusedSimpArgs false
set_option linter.unusedVariables false
set_option maxRecDepth 200000
set_option maxHeartbeats 8000000
namespace Go.Proofs.YtffhccmppdgmfaaGreatDoor
section
open Go Go.RowKit Go.OpenShut
theorem sizeL_tk {l : List JV} {j : Nat} {t : JV} (h : l[j]? = some t) : sizeL (l.take (j + 1)) = sizeL (l.take j) + sizeT t := by
 induction l generalizing j with
 | nil => simp at h
 | cons a l ih =>
   cases j with
   | zero =>
     simp only [List.getElem?_cons_zero, Option.some.injEq] at h
     subst h
     simp [sizeL]
   | succ j =>
     rw [List.getElem?_cons_succ] at h
     rw [List.take_succ_cons, List.take_succ_cons]
     unfold sizeL
     rw [ih h]
     omega
theorem sizeM_tk {l : List (ByteArray × JV)} {j : Nat} {t : ByteArray × JV} (h : l[j]? = some t) : sizeM (l.take (j + 1)) = sizeM (l.take j) + sizeT t.2 := by
 induction l generalizing j with
 | nil => simp at h
 | cons a l ih =>
   obtain ⟨a1, a2⟩ := a
   cases j with
   | zero =>
     simp only [List.getElem?_cons_zero, Option.some.injEq] at h
     subst h
     simp [sizeM]
   | succ j =>
     rw [List.getElem?_cons_succ] at h
     rw [List.take_succ_cons, List.take_succ_cons]
     unfold sizeM
     rw [ih h]
     omega
theorem sizeL_mono (l : List JV) (j : Nat) : sizeL (l.take j) <= sizeL l := by
 induction l generalizing j with
 | nil => simp
 | cons a l ih =>
   cases j with
   | zero => rw [List.take_zero, sizeL]; exact Nat.zero_le _
   | succ j => rw [List.take_succ_cons, sizeL, sizeL]; have := ih j; omega
theorem sizeM_mono (l : List (ByteArray × JV)) (j : Nat) : sizeM (l.take j) <= sizeM l := by
 induction l generalizing j with
 | nil => simp
 | cons a l ih =>
   obtain ⟨a1, a2⟩ := a
   cases j with
   | zero => rw [List.take_zero, sizeM]; exact Nat.zero_le _
   | succ j => rw [List.take_succ_cons, sizeM, sizeM]; have := ih j; omega
theorem size20_any (N : Nat) : ∀ (t : JV) (r : RV) (most : Nat) (w : World), SizeOf.sizeOf t <= N -> most <= 1000000 -> TreeOf w w.heap.size t r -> t.Ok ->
 Calls Tryz.prog 52 #[r.val, .int .i64 (most : Int)] w fun e w' => ∃ c : Nat, e = .returned (.int .i64 (c : Int)) /\ (c <= most + 140737488355328 /\ c <= sizeT t /\ (c <= most -> c = sizeT t)) /\ Below w.heap.size w w' := by
 induction N with
 | zero => intro t r most w hN; cases t; simp at hN
 | succ N ih =>
   intro t r most w hN hmost ht ot
   cases ht with
   | @mk _ l m rs rms hl el hcl hm em hcn hcm =>
   obtain ⟨k, n, s, pl, nl, cl, pm, nm, cm⟩ := r
   cases ot with
   | mk _ _ hss bl bm okl oks okm =>
   dsimp only [RV.val] at *
   have eL := rd_nlen hl
   have eM := rd_nlen hm
   have HT : Hid (∀ (i : Nat) t q, l[i]? = some t -> rs[i]? = some q -> ∀ W, Below w.heap.size w W -> ∀ (g : Nat) (k : Int), k = ((most - g : Nat) : Int) -> Calls Tryz.prog 52 #[q.val, .int .i64 k] W fun e w' => ∃ c : Nat, e = .returned (.int .i64 (c : Int)) /\ (c <= (most - g) + 140737488355328 /\ c <= sizeT t /\ (c <= most - g -> c = sizeT t)) /\ Below W.heap.size W w') :=
    fun i t q h1 h2 W hb g k' hk => by subst hk; exact ih t q (most - g) W (by have := JV.lt_l (k := k) (n := n) (s := s) (m := m) h1; omega) (by omega) ((hcl i t q h1 h2).under hb hb.size) (okl i t h1)
   have HS : Hid (∀ (i : Nat) p q, m[i]? = some p -> rms[i]? = some q -> ∀ W, Below w.heap.size w W -> ∀ (g : Nat) (k : Int), k = ((most - g : Nat) : Int) -> Calls Tryz.prog 52 #[q.v.val, .int .i64 k] W fun e w' => ∃ c : Nat, e = .returned (.int .i64 (c : Int)) /\ (c <= (most - g) + 140737488355328 /\ c <= sizeT p.2 /\ (c <= most - g -> c = sizeT p.2)) /\ Below W.heap.size W w') :=
    fun i p q h1 h2 W hb g k' hk => by subst hk; exact ih p.2 q.v (most - g) W (by have := JV.lt_m (k := k) (n := n) (s := s) (l := l) h1; omega) (by omega) ((hcm i p q h1 h2).under hb hb.size) (okm i p h1)
   have HFT : Hid (sizeT (.mk k n s l m) = s.size + sizeL l + sizeM m) := by unfold Hid; rw [sizeT]
   have HL := Lib.hid hl
   have HM := Lib.hid hm
   have E1 : Hid (l.length = nl /\ rs.length = nl) := ⟨by omega, by omega⟩
   have E2 : Hid (m.length = nm /\ rms.length = nm) := ⟨by omega, by omega⟩
   have hnl : nl <= 1759218604390 := by omega
   have hnm : nm <= 1466015503658 := by omega
   have hst : s.size <= 140737488355328 := by omega
   have hst0 : (0 : Int) <= ((s.size : Nat) : Int) := Int.natCast_nonneg _
   obtain ⟨R, hR⟩ : ∃ R, sizeT (.mk k n s l m) = R := ⟨_, rfl⟩
   rw [hR] at HFT ⊢
   clear hR
   have hA0 : VAt (w.alloc (.cells #[.int .i64 k, .int .i64 n, .string s, .slice pl nl cl, .slice pm nm cm] 25)) w.heap.size ⟨k, n, s, pl, nl, cl, pm, nm, cm⟩ := heap_alloc_at rfl
   have hB0 : Below w.heap.size w (w.alloc (.cells #[.int .i64 k, .int .i64 n, .string s, .slice pl nl cl, .slice pm nm cm] 25)) := (Below.refl _ _).alloc (Nat.le_refl _) _
   clear ih hcl hcn hcm hl hm okl oks okm el em bl bm eL eM hN
   go_enter Tryz.func52, Tryz.ntmps52
   go_upto_region 1 with fail
   obtain ⟨W0, hW0⟩ : ∃ W0, (w.alloc (.cells #[.int .i64 k, .int .i64 n, .string s, .slice pl nl cl, .slice pm nm cm] 25)) = W0 := ⟨_, rfl⟩
   rw [hW0] at hA0 hB0 ⊢
   clear hW0
   have hz := hA0.lt
   have c2 := hA0.cell 2 rfl
   have c3 := hA0.cell 3 rfl
   have c4 := hA0.cell 4 rfl
   dsimp only at c2 c3 c4
   clear hA0
   go_wp2_with fail
   go_loopw [5, 6] (fun a i wr => ∃ (g j : Nat), j <= nl /\ g <= most + 140737488355328 /\ Hid (g <= s.size + sizeL (l.take j) /\ (g <= most -> g = s.size + sizeL (l.take j))) /\ a = .int .i64 (g : Int) /\ i = .int .i64 j /\ Below W0.heap.size W0 wr) (fun _ i _ => nl - (intOf i).toNat)
   case atStart => exact ⟨s.size, 0, Nat.zero_le _, by omega, ⟨by rw [List.take_zero]; exact Nat.le_add_right _ _, fun _ => by (rw [List.take_zero, sizeL]; try omega)⟩, rfl, rfl, Below.refl _ _⟩
   case round =>
    obtain ⟨g, j, hj, hgb, HG, rfl, rfl, hbr⟩ := hrel
    have c3 := bcs hbr hz c3
    have hbw : Below w.heap.size w wr := hB0.trans (hbr.mono hB0.size)
    obtain ⟨wo, rfl⟩ : ∃ wo : World, wo = wr := ⟨_, rfl⟩
    have hg0 : (0 : Int) <= (g : Int) := Int.natCast_nonneg _
    by_cases hgo : j < nl /\ g <= most
    ·obtain ⟨hlt, hgm⟩ := hgo
     obtain ⟨tx, htx⟩ : ∃ x, l[j]? = some x := ⟨_, List.getElem?_eq_getElem (by have := E1.out; omega)⟩
     obtain ⟨x, hx⟩ : ∃ x, rs[j]? = some x := ⟨_, List.getElem?_eq_getElem (by have := E1.out; omega)⟩
     obtain ⟨b1, o1, rfl, hb1, hc1⟩ := rd_at' (HL.out.below hbw (Nat.le_refl _)) hx
     have f0 := hc1 0 _ rfl
     have f1 := hc1 1 _ rfl
     have f2 := hc1 2 _ rfl
     have f3 := hc1 3 _ rfl
     have f4 := hc1 4 _ rfl
     rw [Nat.add_zero] at f0
     have HC := Lib.hid (HT.out j tx x htx hx)
     have hk0 : (0 : Int) <= (j : Int) := Int.natCast_nonneg _
     have hk1 : (j : Int) < (nl : Int) := by omega
     have hgi : (g : Int) <= (most : Int) := by omega
     have hdg : decide ((g : Int) <= (most : Int)) = true := decide_eq_true hgi
     have hzr : W0.heap.size <= wo.heap.size := hbr.size
     have HBR := Lib.hid hbr
     have HTK := Lib.hid (sizeL_tk htx)
     clear hc1 htx hx hbr
     go_wp2_with (go_at_call 52; (with_reducible refine (HC.out _ hbw g _ ?num).mono ?_); (case num => (first | omega | (rw [IntKind.wrap_i64]; omega))); rintro e w1 ⟨c, rfl, ⟨hc1', hc2', hc3'⟩, hb1'⟩; (have hcc : (0 : Int) <= (c : Int) := Int.natCast_nonneg _))
     go_roundw
     case rel =>
      obtain ⟨hG1, hG2⟩ := HG.out
      exact ⟨g + c, j + 1, by omega, by omega, ⟨by rw [HTK.out]; omega, fun h => by rw [HTK.out, hG2 (by omega), hc3' (by omega)]; omega⟩, by go_num, by go_num, HBR.out.trans (hb1'.mono (by omega))⟩
     case measure => simp [intOf]; omega
    ·have hz1 : W0.heap.size <= wo.heap.size := hbr.size
     have c4 := bcs hbr hz c4
     have HG1 : Hid (g <= s.size + sizeL l /\ (g <= most -> g = s.size + sizeL l)) := by
      obtain ⟨hG1, hG2⟩ := HG.out
      have := sizeL_mono l j
      refine ⟨by omega, fun h => ?_⟩
      have hjn : j = nl := by omega
      have hln := E1.out.1
      rw [hG2 h, hjn, <- hln, List.take_length]
     clear HT HL E1 hbr HG
     by_cases p1 : j < nl
     all_goals (try (have hgm : ¬ g <= most := fun h => hgo ⟨p1, h⟩))
     all_goals (try (have hdg : decide ((g : Int) <= (most : Int)) = false := decide_eq_false (by omega)))
     all_goals clear hgo
     all_goals go_wp2_with fail
     all_goals clear c3
     all_goals (
     go_loopw [5, 7] (fun a i wq => ∃ (g j : Nat), j <= nm /\ g <= most + 140737488355328 /\ Hid (g <= s.size + sizeL l + sizeM (m.take j) /\ (g <= most -> g = s.size + sizeL l + sizeM (m.take j))) /\ a = .int .i64 (g : Int) /\ i = .int .i64 j /\ Below wo.heap.size wo wq) (fun _ i _ => nm - (intOf i).toNat)
     case atStart => exact ⟨g, 0, Nat.zero_le _, hgb, ⟨by rw [List.take_zero, sizeM]; exact HG1.out.1, fun h => by rw [List.take_zero, sizeM]; exact HG1.out.2 h⟩, rfl, rfl, Below.refl _ _⟩
     case round =>
      clear hgb hg0
      try clear hgm
      try clear hdg
      obtain ⟨g, j, hj, hgb, HG, rfl, rfl, hbr⟩ := hrel
      have hg0 : (0 : Int) <= (g : Int) := Int.natCast_nonneg _
      have hbw2 : Below w.heap.size w wr := hbw.trans (hbr.mono (by omega))
      have c4 := bcs hbr (by omega) c4
      obtain ⟨w3, rfl⟩ : ∃ w3 : World, w3 = wr := ⟨_, rfl⟩
      by_cases hgo : j < nm /\ g <= most
      ·obtain ⟨hlt, hgm⟩ := hgo
       obtain ⟨tx, htx⟩ : ∃ x, m[j]? = some x := ⟨_, List.getElem?_eq_getElem (by have := E2.out; omega)⟩
       obtain ⟨x, hx⟩ : ∃ x, rms[j]? = some x := ⟨_, List.getElem?_eq_getElem (by have := E2.out; omega)⟩
       obtain ⟨b1, o1, rfl, hb1, hc1⟩ := rd_at' (HM.out.below hbw2 (Nat.le_refl _)) hx
       have f0 := hc1 0 _ rfl
       have f1 := hc1 1 _ rfl
       have f2 := hc1 2 _ rfl
       have f3 := hc1 3 _ rfl
       have f4 := hc1 4 _ rfl
       have f5 := hc1 5 _ rfl
       rw [Nat.add_zero] at f0
       have HC := Lib.hid (HS.out j tx x htx hx)
       have hk0 : (0 : Int) <= (j : Int) := Int.natCast_nonneg _
       have hk1 : (j : Int) < (nm : Int) := by omega
       have hgi : (g : Int) <= (most : Int) := by omega
       have hdg : decide ((g : Int) <= (most : Int)) = true := decide_eq_true hgi
       have HBR := Lib.hid hbr
       have hzq : wo.heap.size <= w3.heap.size := hbr.size
       have HTK := Lib.hid (sizeM_tk htx)
       clear hc1 htx hx hbr
       go_wp2_with (go_at_call 52; (with_reducible refine (HC.out _ hbw2 g _ ?num).mono ?_); (case num => (first | omega | (rw [IntKind.wrap_i64]; omega))); rintro e w1 ⟨c, rfl, ⟨hc1', hc2', hc3'⟩, hb1'⟩; (have hcc : (0 : Int) <= (c : Int) := Int.natCast_nonneg _))
       go_roundw
       case rel =>
        obtain ⟨hG1, hG2⟩ := HG.out
        exact ⟨g + c, j + 1, by omega, by omega, ⟨by rw [HTK.out]; omega, fun h => by rw [HTK.out, hG2 (by omega), hc3' (by omega)]; omega⟩, by go_num, by go_num, HBR.out.trans (hb1'.mono (by omega))⟩
       case measure => simp [intOf]; omega
      ·have HG2 : Hid (g <= R /\ (g <= most -> g = R)) := by
        obtain ⟨hG1, hG2⟩ := HG.out
        have := sizeM_mono m j
        unfold Hid
        rw [HFT.out]
        refine ⟨by omega, fun h => ?_⟩
        have hjn : j = nm := by omega
        have hln := E2.out.1
        rw [hG2 h, hjn, <- hln, List.take_length]
       by_cases p1 : j < nm
       all_goals (try (have hgm : ¬ g <= most := fun h => hgo ⟨p1, h⟩))
       all_goals (try (have hdg : decide ((g : Int) <= (most : Int)) = false := decide_eq_false (by omega)))
       all_goals clear hgo
       all_goals go_wp2_with fail
       all_goals go_ret
       all_goals exact ⟨g, rfl, ⟨hgb, HG2.out.1, HG2.out.2⟩, hbw2⟩)
def askT (nm q : ByteArray) : JV := .mk 6 0 ⟨#[]⟩ [] [(nm, .mk 4 0 q [] [])]
theorem leaf_tree (w : World) (B : Nat) (k : Int) (q : ByteArray) : TreeOf w B (.mk k 0 q [] []) ⟨k, 0, q, none, 0, 0, none, 0, 0⟩ :=
 TreeOf.mk (r := ⟨k, 0, q, none, 0, 0, none, 0, 0⟩) (rs := []) (rms := []) (Rd.nil _ _) rfl (fun i t q h => by simp at h) (Rd.nil _ _) rfl (fun i p q h => by simp at h) (fun i p q h => by simp at h)
theorem ask_tree {w : World} {B g : Nat} {nm q : ByteArray} (h : w.heap[g]? = some (.cells #[.string nm, .int .i64 4, .int .i64 0, .string q, .slice none 0 0, .slice none 0 0] 32)) (hg : g < B) : TreeOf w B (askT nm q) ⟨6, 0, ⟨#[]⟩, none, 0, 0, some ⟨g, 0, none⟩, 1, 1⟩ :=
 TreeOf.mk (r := ⟨6, 0, ⟨#[]⟩, none, 0, 0, some ⟨g, 0, none⟩, 1, 1⟩) (rs := []) (rms := [⟨nm, ⟨4, 0, q, none, 0, 0, none, 0, 0⟩⟩]) (Rd.nil _ _) rfl (fun i t q h => by simp at h)
  (Rd.one (x := (⟨nm, ⟨4, 0, q, none, 0, 0, none, 0, 0⟩⟩ : RM)) codecM h rfl hg) rfl
  (fun i p u h1 h2 => by
   cases i with
   | zero => simp at h1 h2; subst h1 h2; rfl
   | succ i => simp at h1)
  (fun i p u h1 h2 => by
   cases i with
   | zero => simp at h1 h2; subst h1 h2; exact leaf_tree w B 4 q
   | succ i => simp at h1)
theorem ask_any (nm q : ByteArray) (g : Nat) (w : World) (hg : w.cell? ⟨g, 0, none⟩ = some (.string q)) :
 Calls Tryz.prog 31 #[.string nm, .pointer (some ⟨g, 0, none⟩)] w fun e w' => ∃ r : RV, e = .returned r.val /\ TreeOf w' w'.heap.size (askT nm q) r /\ Below w.heap.size w w' := by
 have hgl := (cell_some hg).2
 obtain ⟨W1, hW1⟩ : ∃ W1, w.alloc (.cells #[.int .i64 0, .int .i64 0, .string ⟨#[]⟩, .slice none 0 0, .slice none 0 0] 25) = W1 := ⟨_, rfl⟩
 have hz1 : VAt W1 w.heap.size RV.zero := by rw [<- hW1]; exact heap_alloc_at rfl
 have hb1 : Below w.heap.size w W1 := by rw [<- hW1]; exact (Below.refl _ _).alloc (Nat.le_refl _) _
 have hg1 := bcs hb1 hgl hg
 have hs1 : W1.heap.size = w.heap.size + 1 := by rw [<- hW1, World.size_alloc]
 have hz2 : VAt (W1.alloc (.cells #[.string nm, .int .i64 4, .int .i64 0, .string q, .slice none 0 0, .slice none 0 0] 32)) w.heap.size RV.zero := heap_alloc_lt hz1.lt hz1
 obtain ⟨WS, hWS⟩ : ∃ W : World, (((((W1.setCell ⟨w.heap.size, 0, none⟩ (.int .i64 (⟨6, 0, ⟨#[]⟩, none, 0, 0, some ⟨W1.heap.size, 0, none⟩, 1, 1⟩ : RV).k)).setCell ⟨w.heap.size, 1, none⟩ (.int .i64 (⟨6, 0, ⟨#[]⟩, none, 0, 0, some ⟨W1.heap.size, 0, none⟩, 1, 1⟩ : RV).n)).setCell ⟨w.heap.size, 2, none⟩ (.string (⟨6, 0, ⟨#[]⟩, none, 0, 0, some ⟨W1.heap.size, 0, none⟩, 1, 1⟩ : RV).s)).setCell ⟨w.heap.size, 3, none⟩ (.slice (⟨6, 0, ⟨#[]⟩, none, 0, 0, some ⟨W1.heap.size, 0, none⟩, 1, 1⟩ : RV).pl (⟨6, 0, ⟨#[]⟩, none, 0, 0, some ⟨W1.heap.size, 0, none⟩, 1, 1⟩ : RV).nl (⟨6, 0, ⟨#[]⟩, none, 0, 0, some ⟨W1.heap.size, 0, none⟩, 1, 1⟩ : RV).cl)).setCell ⟨w.heap.size, 4, none⟩ (.slice (⟨6, 0, ⟨#[]⟩, none, 0, 0, some ⟨W1.heap.size, 0, none⟩, 1, 1⟩ : RV).pm (⟨6, 0, ⟨#[]⟩, none, 0, 0, some ⟨W1.heap.size, 0, none⟩, 1, 1⟩ : RV).nm (⟨6, 0, ⟨#[]⟩, none, 0, 0, some ⟨W1.heap.size, 0, none⟩, 1, 1⟩ : RV).cm)) = W := ⟨_, rfl⟩
 have hvS : VAt WS w.heap.size ⟨6, 0, ⟨#[]⟩, none, 0, 0, some ⟨W1.heap.size, 0, none⟩, 1, 1⟩ := by rw [<- hWS]; exact hz1.stored _
 have hsS : WS.heap.size = W1.heap.size := by rw [<- hWS]; simp
 have hbS : Below w.heap.size w WS := by rw [<- hWS]; exact Below.stored hb1 (Nat.le_refl _) _
 have hvF : VAt (WS.alloc (.cells #[.string nm, .int .i64 4, .int .i64 0, .string q, .slice none 0 0, .slice none 0 0] 32)) w.heap.size ⟨6, 0, ⟨#[]⟩, none, 0, 0, some ⟨W1.heap.size, 0, none⟩, 1, 1⟩ := heap_alloc_lt hvS.lt hvS
 have HF : Hid (TreeOf (WS.alloc (.cells #[.string nm, .int .i64 4, .int .i64 0, .string q, .slice none 0 0, .slice none 0 0] 32)) (WS.alloc (.cells #[.string nm, .int .i64 4, .int .i64 0, .string q, .slice none 0 0, .slice none 0 0] 32)).heap.size (askT nm q) ⟨6, 0, ⟨#[]⟩, none, 0, 0, some ⟨W1.heap.size, 0, none⟩, 1, 1⟩ /\ Below w.heap.size w (WS.alloc (.cells #[.string nm, .int .i64 4, .int .i64 0, .string q, .slice none 0 0, .slice none 0 0] 32))) := ⟨ask_tree (heap_alloc_at hsS.symm) (by rw [World.size_alloc, hsS]; omega), hbS.alloc hbS.size _⟩
 obtain ⟨f0, f1, f2, f3, f4⟩ := hvF.cells5
 dsimp only at f0 f1 f2 f3 f4
 obtain ⟨z0, z1, z2, z3, z4⟩ := hz1.cells5
 have y0 := hz1.frozen 0
 have y1 := hz1.frozen 1
 have y2 := hz1.frozen 2
 have y3 := hz1.frozen 3
 have y4 := hz1.frozen 4
 obtain ⟨s0, s1, s2, s3, s4⟩ := hz2.cells5
 have r0 := hz2.frozen 0
 have r1 := hz2.frozen 1
 have r2 := hz2.frozen 2
 have r3 := hz2.frozen 3
 have r4 := hz2.frozen 4
 dsimp only [RV.zero] at s0 s1 s2 s3 s4
 have hlt : w.heap.size < W1.heap.size := hz1.lt
 have hne : w.heap.size ≠ W1.heap.size := by omega
 dsimp only [RV.zero] at z0 z1 z2 z3 z4
 clear hz1 hz2 hg hs1 hvS hsS hvF
 go_enter Tryz.func31, Tryz.ntmps31
 go_upto_region 1 with fail
 try rw [hW1]
 clear hW1
 go_wp2_with fail
 try rw [hWS]
 refine bodyPost_ret (v := RV.val ⟨6, 0, ⟨#[]⟩, none, 0, 0, some ⟨W1.heap.size, 0, none⟩, 1, 1⟩) (by simp [results, Tryz.results31, go_sem, f0, f1, f2, f3, f4]) rfl ?_
 exact ⟨_, rfl, HF.out.1, HF.out.2⟩
theorem radd_any (t : JV) (r : RV) (name : ByteArray) (u : Value) (L : List ByteArray) (w : World) (B base : Nat) (hBw : B <= base) (hbw : base <= w.heap.size) (ht : TreeOf w B t r) (ot : t.Ok) (hO : Own w base 9 encS 1 u L) (hL : L.length <= 2000000000000) :
 Calls Tryz.prog 63 #[u, r.val, .string name] w fun e w' => ∃ v, e = .returned v /\ Own w' base 9 encS 1 v (L ++ textM t name) /\ Below base w w' := by
 obtain ⟨W0, hW0⟩ : ∃ W0, w.alloc r.obj = W0 := ⟨_, rfl⟩
 have hA0 : VAt W0 w.heap.size r := by rw [<- hW0]; exact heap_alloc_at rfl
 have hB0 : Below w.heap.size w W0 := by rw [<- hW0]; exact (Below.refl _ _).alloc (Nat.le_refl _) _
 have hO0 : Own W0 base 9 encS 1 u L := by rw [<- hW0]; exact hO.alloc _
 have HC : Hid (Calls Tryz.prog 61 #[r.val, .string name] W0 (GetRetB W0 B (t.get name))) := refGetB_any t r name W0 B (Nat.le_trans (Nat.le_trans hBw hbw) hB0.size) (ht.under (hB0.mono (Nat.le_trans hBw hbw)) (Nat.le_refl _)) ot
 have HTX := Lib.hid (textM_of t name)
 obtain ⟨R, hR⟩ : ∃ R, textM t name = R := ⟨_, rfl⟩
 rw [hR] at HTX
 rw [hR]
 obtain ⟨o, ho⟩ : ∃ o, t.get name = o := ⟨_, rfl⟩
 rw [ho] at HC HTX
 obtain ⟨k, n, s, pl, nl, cl, pm, nm, cm⟩ := r
 dsimp only [RV.val, RV.obj] at *
 have HW := Lib.hid hW0
 have HB0 := Lib.hid hB0
 have HO0 := Lib.hid hO0
 have hw0 := hB0.size
 have HLN : Hid (L.length + [(o.getD JV.zero).s].length <= maxLen /\ (L.length + [(o.getD JV.zero).s].length) * 16 <= 140737488355328) := by
  simp only [List.length_singleton]
  exact ⟨by unfold maxLen; omega, by omega⟩
 clear hW0 hB0 ht ot hR ho hO hO0 hL
 go_enter Tryz.func63, Tryz.ntmps63
 go_upto_region 1 with fail
 rw [HW.out]
 clear HW
 obtain ⟨a0, a1, a2, a3, a4⟩ := hA0.cells5
 go_upto_region 2 with (go_at_call 61; refine HC.out.mono ?_; rintro e w1 ⟨rv, bb, rfl, hbb, ht1, hb1⟩; obtain ⟨rk, rn, rS, rpl, rnl, rcl, rpm, rnm, rcm⟩ := rv)
 obtain ⟨hkk, hss⟩ := ht1.kk
 dsimp only at hkk hss
 have hz1 := hb1.size
 have hb2 : Below W0.heap.size W0 (w1.alloc (.cells #[.int .i64 rk, .int .i64 rn, .string rS, .slice rpl rnl rcl, .slice rpm rnm rcm] 25)) := hb1.alloc hz1 _
 have hv2 : VAt (w1.alloc (.cells #[.int .i64 rk, .int .i64 rn, .string rS, .slice rpl rnl rcl, .slice rpm rnm rcm] 25)) w1.heap.size ⟨rk, rn, rS, rpl, rnl, rcl, rpm, rnm, rcm⟩ := heap_alloc_at rfl
 have hO2 := HO0.out.below hb2 (Nat.le_refl _)
 obtain ⟨g, hg⟩ : ∃ g, w1.heap.size = g := ⟨_, rfl⟩
 obtain ⟨W2, hW2⟩ : ∃ W, w1.alloc (.cells #[.int .i64 rk, .int .i64 rn, .string rS, .slice rpl rnl rcl, .slice rpm rnm rcm] 25) = W := ⟨_, rfl⟩
 rw [hW2] at hb2 hv2 hO2
 rw [hg] at hv2
 try rw [hW2]
 try rw [hg]
 obtain ⟨v0, v1, v2, v3, v4⟩ := hv2.cells5
 dsimp only at v0 v1 v2 v3 v4
 have hbw2 := (HB0.out.trans (hb2.mono hw0)).mono hbw
 have HX := Lib.hid hbw2
 have HO2 := Lib.hid hO2
 have hz2 : base <= W2.heap.size := Nat.le_trans hbw (HB0.out.trans (hb2.mono hw0)).size
 clear hW2 hg hb1 ht1 hb2 hv2 hz1 hbw2 hO2
 cases o with
 | none =>
   obtain rfl : bb = false := hbb
   have HR : Hid (R = []) := by unfold Hid; rw [HTX.out]; exact if_neg (by decide)
   clear hkk hss
   go_wp2_with fail
   rw [HR.out]
   go_ret
   exact ⟨_, rfl, by rw [List.append_nil]; exact HO2.out, HX.out⟩
 | some x =>
   obtain rfl : bb = true := hbb
   by_cases hk4 : rk = 4
   ·subst hk4
    have HR : Hid (R = [rS]) := by unfold Hid; rw [HTX.out, <- hkk, if_pos rfl, hss]
    have HR1 : Hid (Rd (W2.alloc (.cells #[.string rS] 9)) (W2.heap.size + 1) encS 1 (.slice (some ⟨W2.heap.size, 0, none⟩) 1 1) [rS]) := Rd.one codecS (heap_alloc_at rfl) rfl (by omega)
    have HO3 := Lib.hid (HO2.out.alloc (.cells #[.string rS] 9))
    clear hkk hss
    go_wp2_with (at_builtin; refine wpList_append_rd slS codecS (W2.alloc (.cells #[.string rS] 9)) rfl (.tmp 21) (.tmp 24) rfl (v := u) rfl rfl HO3.out HR1.out HLN.out.1 HLN.out.2 (by simp; omega) ?_; intro v8 w8 ho8 hg8 hat8)
    rw [HR.out]
    go_ret
    exact ⟨_, rfl, ho8, Below.appended (HX.out.alloc hz2 _) hg8 HO3.out (by simp; omega)⟩
   ·have q1 : (rk == 4) = false := by simpa using hk4
    have HR : Hid (R = []) := by unfold Hid; rw [HTX.out, <- hkk, if_neg hk4]
    clear hkk hss
    go_wp2_with fail
    rw [HR.out]
    go_ret
    exact ⟨_, rfl, by rw [List.append_nil]; exact HO2.out, HX.out⟩
theorem partOk_of (kind : ByteArray) (y : JV) : partOk kind y = (decide (kind.size = 0) || (decide (((y.get kindN).getD JV.zero).k = 4) && decide (((y.get kindN).getD JV.zero).s = kind))) := by
 unfold partOk
 rw [textM_of]
 congr 1
 split
 ·rename_i h
  rw [decide_eq_true h, Bool.true_and]
  simp
 ·rename_i h
  rw [decide_eq_false h]
  simp
theorem raddEach_any (t : JV) (r : RV) (kind : ByteArray) (w : World) (B : Nat) (hBw : B <= w.heap.size) (ht : TreeOf w B t r) (ot : t.Ok) :
 Calls Tryz.prog 62 #[.slice none 0 0, r.val, .string compN, .string valueN, .string kind] w (OwnRet w 9 encS 1 (partsJ t kind)) := by
 rw [partsJ_of]
 obtain ⟨W0, hW0⟩ : ∃ W0, w.alloc r.obj = W0 := ⟨_, rfl⟩
 have hA0 : VAt W0 w.heap.size r := by rw [<- hW0]; exact heap_alloc_at rfl
 have hB0 : Below w.heap.size w W0 := by rw [<- hW0]; exact (Below.refl _ _).alloc (Nat.le_refl _) _
 have HC : Hid (Calls Tryz.prog 61 #[r.val, .string compN] W0 (GetRetB W0 B (t.get compN))) := refGetB_any t r compN W0 B (Nat.le_trans hBw hB0.size) (ht.under (hB0.mono hBw) (Nat.le_refl _)) ot
 have HIN := Lib.hid (inJ_of t compN)
 have HIO := Lib.hid (inJ_ok (name := compN) ot)
 obtain ⟨cs, hcs⟩ : ∃ cs, inJ t compN = cs := ⟨_, rfl⟩
 rw [hcs] at HIN HIO
 rw [hcs]
 obtain ⟨k, n, s, pl, nl, cl, pm, nm, cm⟩ := r
 dsimp only [RV.val, RV.obj] at *
 have HW := Lib.hid hW0
 have HB0 := Lib.hid hB0
 have hw0 := hB0.size
 obtain ⟨X, hX⟩ : ∃ X, t.get compN = X := ⟨_, rfl⟩
 rw [hX] at HC HIN
 unfold compN at HC
 unfold compN valueN
 clear hW0 hB0 ht ot hcs hX
 go_enter Tryz.func62, Tryz.ntmps62
 go_upto_region 1 with fail
 rw [HW.out]
 clear HW
 obtain ⟨a0, a1, a2, a3, a4⟩ := hA0.cells5
 go_upto_region 3 with (go_at_call 61; refine HC.out.mono ?_; rintro e w1 ⟨rv, bb, rfl, hbb, ht1, hb1⟩; obtain ⟨rk, rn, rS, rpl, rnl, rcl, rpm, rnm, rcm⟩ := rv)
 obtain ⟨hkk, hss⟩ := ht1.kk
 dsimp only at hkk hss
 have hz1 := hb1.size
 have hb2 : Below W0.heap.size W0 (w1.alloc (.cells #[.int .i64 rk, .int .i64 rn, .string rS, .slice rpl rnl rcl, .slice rpm rnm rcm] 25)) := hb1.alloc hz1 _
 have hv2 : VAt (w1.alloc (.cells #[.int .i64 rk, .int .i64 rn, .string rS, .slice rpl rnl rcl, .slice rpm rnm rcm] 25)) w1.heap.size ⟨rk, rn, rS, rpl, rnl, rcl, rpm, rnm, rcm⟩ := heap_alloc_at rfl
 have ht2 := (ht1.tl).under ((Below.refl B w1).alloc (Nat.le_trans (Nat.le_trans hBw hw0) hz1) (.cells #[.int .i64 rk, .int .i64 rn, .string rS, .slice rpl rnl rcl, .slice rpm rnm rcm] 25)) (Nat.le_refl _)
 dsimp only at ht2
 obtain ⟨g, hg⟩ : ∃ g, w1.heap.size = g := ⟨_, rfl⟩
 obtain ⟨W2, hW2⟩ : ∃ W, w1.alloc (.cells #[.int .i64 rk, .int .i64 rn, .string rS, .slice rpl rnl rcl, .slice rpm rnm rcm] 25) = W := ⟨_, rfl⟩
 rw [hW2] at hb2 hv2 ht2
 rw [hg] at hv2
 try rw [hW2]
 try rw [hg]
 obtain ⟨v0, v1, v2, v3, v4⟩ := hv2.cells5
 dsimp only at v0 v1 v2 v3 v4
 have hbw2 := HB0.out.trans (hb2.mono hw0)
 have HX := Lib.hid hbw2
 have HV2 := Lib.hid hv2
 have hgl := hv2.lt
 have hz2 : w.heap.size <= W2.heap.size := hbw2.size
 have HTL := Lib.hid ht2
 clear hW2 hg hb1 ht1 hb2 hv2 hz1 hbw2 ht2
 by_cases hk5 : rk = 5
 ·subst hk5
  have HCS : Hid (cs = (X.getD JV.zero).l) := by unfold Hid; rw [HIN.out, <- hkk, if_pos rfl]
  obtain ⟨rs, hr, hlen, htl⟩ := HTL.out
  rw [<- HCS.out] at hlen htl
  have hrl : rs.length = rnl := (rd_nlen hr).symm
  have HN : Hid (cs.length = rnl) := by unfold Hid; omega
  have hno : rnl <= 1759218604390 := by have := HIO.out.1; omega
  have HTT := Lib.hid htl
  have HRD := Lib.hid hr
  have hBw2 : B <= W2.heap.size := Nat.le_trans hBw hz2
  clear hr hlen htl hkk hss HTL HCS v0 v1 v2 v3 v4
  go_loopw [0, 13] (fun u i wr => ∃ j : Nat, j <= rnl /\ i = .int .i64 (j : Int) /\ Hid (Own wr W2.heap.size 9 encS 1 u (partsL (cs.take j) kind) /\ Below W2.heap.size W2 wr)) (fun _ i _ => rnl - (intOf i).toNat)
  case atStart => exact ⟨0, by omega, rfl, by rw [List.take_zero]; exact Own.nil _ _ _, Below.refl _ _⟩
  case round =>
   obtain ⟨j, hj, rfl, hH⟩ := hrel
   obtain ⟨hO, hbr⟩ := hH.out
   clear hH
   have hvr := HV2.out.under hbr hgl
   obtain ⟨v0, v1, v2, v3, v4⟩ := hvr.cells5
   dsimp only at v0 v1 v2 v3 v4
   have hj0 : (0 : Int) <= (j : Int) := Int.natCast_nonneg _
   by_cases hlt : j < rnl
   ·obtain ⟨y, hy⟩ : ∃ y, cs[j]? = some y := ⟨_, List.getElem?_eq_getElem (by have := HN.out; omega)⟩
    obtain ⟨⟨xk, xn, xs, xpl, xnl, xcl, xpm, xnm, xcm⟩, hx⟩ : ∃ x, rs[j]? = some x := ⟨_, List.getElem?_eq_getElem (by omega)⟩
    have hyok := HIO.out.2 j y hy
    have hty := HTT.out j y _ hy hx
    have HPS := Lib.hid (partsL_succ (kind := kind) hy)
    have hpl : (partsL (cs.take j) kind).length <= j := Nat.le_trans (partsL_len _ _) (List.length_take_le _ _)
    have hBwr : B <= wr.heap.size := Nat.le_trans hBw2 hbr.size
    obtain ⟨b1, o1, rfl, hb1, hc1⟩ := rd_at' (HRD.out.below (hbr.mono hBw2) (Nat.le_refl _)) hx
    have f0 := hc1 0 _ rfl
    have f1 := hc1 1 _ rfl
    have f2 := hc1 2 _ rfl
    have f3 := hc1 3 _ rfl
    have f4 := hc1 4 _ rfl
    rw [Nat.add_zero] at f0
    dsimp only at f0 f1 f2 f3 f4
    have hj1 : (j : Int) < (rnl : Int) := by omega
    have HGK := Lib.hid (refGetB_any y ⟨xk, xn, xs, xpl, xnl, xcl, xpm, xnm, xcm⟩ kindN wr B hBwr (hty.under (hbr.mono hBw2) (Nat.le_refl _)) hyok)
    dsimp only [RV.val] at HGK
    have hpo := partOk_of kind y
    obtain ⟨Z, hZ⟩ : ∃ Z, y.get kindN = Z := ⟨_, rfl⟩
    rw [hZ] at HGK hpo
    unfold kindN at HGK
    have hq1 : (5 == 5) = true := rfl
    clear hx hy hZ
    go_upto_region 6 with (go_at_call 61; refine HGK.out.mono ?_; rintro e w3 ⟨rv2, bb2, rfl, hbb2, ht3, hb3⟩; obtain ⟨yk, yn, ys, ypl, ynl, ycl, ypm, ynm, ycm⟩ := rv2)
    obtain ⟨hkk2, hss2⟩ := ht3.kk
    dsimp only at hkk2 hss2
    have hb4 : Below wr.heap.size wr (w3.alloc (.cells #[.int .i64 yk, .int .i64 yn, .string ys, .slice ypl ynl ycl, .slice ypm ynm ycm] 25)) := hb3.alloc hb3.size _
    have hb5 : Below W2.heap.size W2 (w3.alloc (.cells #[.int .i64 yk, .int .i64 yn, .string ys, .slice ypl ynl ycl, .slice ypm ynm ycm] 25)) := hbr.trans (hb4.mono hbr.size)
    have hv4 : VAt (w3.alloc (.cells #[.int .i64 yk, .int .i64 yn, .string ys, .slice ypl ynl ycl, .slice ypm ynm ycm] 25)) w3.heap.size ⟨yk, yn, ys, ypl, ynl, ycl, ypm, ynm, ycm⟩ := heap_alloc_at rfl
    have hvw := HV2.out.under hb5 hgl
    have hO4 := hO.below hb4 (Nat.le_refl _)
    have h0 := bcs hb4 (by omega) f0
    have h1 := bcs hb4 (by omega) f1
    have h2 := bcs hb4 (by omega) f2
    have h3 := bcs hb4 (by omega) f3
    have h4 := bcs hb4 (by omega) f4
    have HAD := Lib.hid (radd_any y ⟨xk, xn, xs, xpl, xnl, xcl, xpm, xnm, xcm⟩ valueN _ _ (w3.alloc (.cells #[.int .i64 yk, .int .i64 yn, .string ys, .slice ypl ynl ycl, .slice ypm ynm ycm] 25)) B W2.heap.size hBw2 hb5.size (hty.under (hb5.mono hBw2) (Nat.le_refl _)) hyok hO4 (by omega))
    dsimp only [RV.val] at HAD
    obtain ⟨g4, hg4⟩ : ∃ g, w3.heap.size = g := ⟨_, rfl⟩
    obtain ⟨W4, hW4⟩ : ∃ W, w3.alloc (.cells #[.int .i64 yk, .int .i64 yn, .string ys, .slice ypl ynl ycl, .slice ypm ynm ycm] 25) = W := ⟨_, rfl⟩
    rw [hW4] at hb4 hb5 hv4 hvw hO4 h0 h1 h2 h3 h4 HAD
    rw [hg4] at hv4
    try rw [hW4]
    try rw [hg4]
    obtain ⟨e0, e1, e2, e3, e4⟩ := hv4.cells5
    obtain ⟨p0, p1, p2, p3, p4⟩ := hvw.cells5
    dsimp only at e0 e1 e2 e3 e4 p0 p1 p2 p3 p4
    obtain ⟨LV, hLV⟩ : ∃ L, textM y valueN = L := ⟨_, rfl⟩
    rw [hLV] at HAD HPS
    unfold valueN at HAD
    rw [<- hkk2, <- hss2] at hpo
    obtain ⟨d, hd⟩ : ∃ d, partOk kind y = d := ⟨_, rfl⟩
    rw [hd] at HPS hpo
    clear hd hLV hkk2 hss2 hg4 hW4 ht3 hb3 hv4 hvw f0 f1 f2 f3 f4 v0 v1 v2 v3 v4 hc1 hty hyok HGK
    have HO4 := Lib.hid hO4
    have HB5 := Lib.hid hb5
    have HPO := Lib.hid hpo
    have hz4 := hb5.size
    clear hpo hO4 hb5 hb4 hO hbr hq1
    go_cut [55] from 43 to 55 (fun v wq => v = .bool d /\ wq = W4)
    case first =>
     obtain ⟨kz, hkz⟩ : ∃ b, (kind.toList == []) = b := ⟨_, rfl⟩
     obtain ⟨zs, hzs⟩ : ∃ b, (ys.toList == kind.toList) = b := ⟨_, rfl⟩
     have HKZ : Hid (decide (kind.size = 0) = kz) := by
      unfold Hid
      rw [<- hkz, ByteArray.toList_eq, <- str_len]
      cases kind.data.toList with
      | nil => rfl
      | cons a r => rfl
     have HZS : Hid (decide (ys = kind) = zs) := by
      unfold Hid
      rw [<- hzs, ByteArray.toList_eq, ByteArray.toList_eq]
      by_cases h : ys = kind
      ·rw [decide_eq_true h, h]; simp
      ·rw [decide_eq_false h]
       have h2 : ys.data.toList ≠ kind.data.toList := fun e => h (ByteArray.ext (Array.toList_inj.1 e))
       simpa using h2
     have HD : Hid (d = (kz || (decide (yk = 4) && zs))) := by
      unfold Hid
      rw [HPO.out, HKZ.out, HZS.out]
     by_cases hk4 : yk = 4
     ·subst hk4
      cases kz <;> cases zs
      all_goals
       go_wp2_with fail
       go_meet
       exact ⟨by rw [HD.out]; rfl, rfl⟩
     ·have q1 : (yk == 4) = false := by simpa using hk4
      have HD2 : Hid (d = kz) := by unfold Hid; rw [HD.out, decide_eq_false hk4]; simp
      cases kz
      all_goals
       go_wp2_with fail
       go_meet
       exact ⟨by rw [HD2.out], rfl⟩
    case rest =>
    obtain ⟨rfl, hwc⟩ := hcut
    obtain rfl : W4 = wc := hwc.symm
    cases d with
    | true =>
      go_wp2_with (go_at_call 63; (with_reducible refine HAD.out.mono ?_); rintro e w8 ⟨u8, rfl, ho8, hb8⟩)
      go_roundw
      case rel =>
       refine ⟨j + 1, by omega, by go_num, ?_, HB5.out.trans hb8⟩
       rw [HPS.out]
       exact ho8
      case measure => simp [intOf]; omega
    | false =>
      go_wp2_with fail
      go_roundw
      case rel =>
       refine ⟨j + 1, by omega, by go_num, ?_, HB5.out⟩
       rw [HPS.out]
       exact (List.append_nil (partsL (cs.take j) kind)).symm ▸ HO4.out
      case measure => simp [intOf]; omega
   ·obtain rfl : j = rnl := by omega
    have hta : cs.take j = cs := List.take_of_length_le (by have := HN.out; omega)
    rw [hta] at hO
    have HY := Lib.hid (And.intro (hO.mono hz2) (HX.out.trans (hbr.mono hz2)))
    clear hO hbr hta
    go_wp2_with fail
    go_ret
    exact ⟨_, rfl, HY.out.1, HY.out.2⟩
 ·have q1 : (rk == 5) = false := by simpa using hk5
  have HR : Hid (cs = []) := by unfold Hid; rw [HIN.out, <- hkk, if_neg hk5]
  obtain ⟨z, hz⟩ : ∃ b, decide ((0 : Int) < (rnl : Int)) = b := ⟨_, rfl⟩
  clear hkk hss
  go_loopw [0, 13] (fun u i wr => u = .slice none 0 0 /\ i = .int .i64 0 /\ W2 = wr) (fun _ i _ => 0)
  case atStart => exact ⟨rfl, rfl, rfl⟩
  case round =>
   obtain ⟨rfl, rfl, rfl⟩ := hrel
   clear hz z
   go_wp2_with fail
   all_goals go_ret
   all_goals exact ⟨_, rfl, by rw [HR.out]; exact Own.nil _ _ _, HX.out⟩
def KeepO (w w' : World) (u v : Value) : Prop := (∀ k, k < w.heap.size -> u.ownBlock ≠ some k -> w'.heap[k]? = w.heap[k]?) /\ ∀ k, v.ownBlock = some k -> u.ownBlock = some k \/ w.heap.size <= k
theorem KeepO.refl (w : World) (u : Value) : KeepO w w u u := ⟨fun _ _ _ => rfl, fun k h => .inl h⟩
theorem KeepO.below {w w' : World} {u : Value} (h : Below w.heap.size w w') : KeepO w w' u u := ⟨fun k hk _ => h.block k hk, fun k h => .inl h⟩
theorem KeepO.trans {w w1 w2 : World} {u v z : Value} (h : KeepO w w1 u v) (h2 : KeepO w1 w2 v z) (hz : w.heap.size <= w1.heap.size) : KeepO w w2 u z :=
 ⟨fun k hk hu => (h2.1 k (Nat.lt_of_lt_of_le hk hz) (fun e => by
  rcases h.2 k e with e | e
  ·exact hu e
  ·omega)).trans (h.1 k hk hu), fun k e => by
  rcases h2.2 k e with e | e
  ·exact h.2 k e
  ·exact .inr (Nat.le_trans hz e)⟩
theorem KeepO.box {w w' : World} {u v : Value} {g : Nat} {r : RV} (h : KeepO w w' u v) (hv : VAt w g r) (hn : u.ownBlock ≠ some g) : VAt w' g r := (h.1 g hv.lt hn).trans hv
theorem KeepO.ne {w w' : World} {u v : Value} {g : Nat} (h : KeepO w w' u v) (hg : g < w.heap.size) (hn : u.ownBlock ≠ some g) : v.ownBlock ≠ some g := fun e => by
 rcases h.2 g e with e | e
 ·exact hn e
 ·omega
theorem KeepO.app {w w1 w2 : World} {u v : Value} (hb : Below w.heap.size w w1) (hg : w1.grownBy w2 u.ownBlock) (hat : v.ownBlock = u.ownBlock \/ v.ownBlock = some w1.heap.size) : KeepO w w2 u v :=
 ⟨fun k hk hu => (hg.block k (Nat.lt_of_lt_of_le hk hb.size) (fun e => hu e.symm)).trans (hb.block k hk), fun k e => by
  rcases hat with h | h
  ·exact .inl (h ▸ e)
  ·rw [e] at h
   have := Option.some.inj h
   have := hb.size
   exact .inr (by omega)⟩
theorem radd2_any (t : JV) (r : RV) (name : ByteArray) (u : Value) (L : List ByteArray) (w : World) (B base : Nat) (hBw : B <= base) (hbw : base <= w.heap.size) (ht : TreeOf w B t r) (ot : t.Ok) (hO : Own w base 9 encS 1 u L) (hL : L.length <= 2000000000000) :
 Calls Tryz.prog 63 #[u, r.val, .string name] w fun e w' => ∃ v, e = .returned v /\ Own w' base 9 encS 1 v (L ++ textM t name) /\ Below base w w' /\ KeepO w w' u v := by
 obtain ⟨W0, hW0⟩ : ∃ W0, w.alloc r.obj = W0 := ⟨_, rfl⟩
 have hA0 : VAt W0 w.heap.size r := by rw [<- hW0]; exact heap_alloc_at rfl
 have hB0 : Below w.heap.size w W0 := by rw [<- hW0]; exact (Below.refl _ _).alloc (Nat.le_refl _) _
 have hO0 : Own W0 base 9 encS 1 u L := by rw [<- hW0]; exact hO.alloc _
 have HC : Hid (Calls Tryz.prog 61 #[r.val, .string name] W0 (GetRetB W0 B (t.get name))) := refGetB_any t r name W0 B (Nat.le_trans (Nat.le_trans hBw hbw) hB0.size) (ht.under (hB0.mono (Nat.le_trans hBw hbw)) (Nat.le_refl _)) ot
 have HTX := Lib.hid (textM_of t name)
 obtain ⟨R, hR⟩ : ∃ R, textM t name = R := ⟨_, rfl⟩
 rw [hR] at HTX
 rw [hR]
 obtain ⟨o, ho⟩ : ∃ o, t.get name = o := ⟨_, rfl⟩
 rw [ho] at HC HTX
 obtain ⟨k, n, s, pl, nl, cl, pm, nm, cm⟩ := r
 dsimp only [RV.val, RV.obj] at *
 have HW := Lib.hid hW0
 have HB0 := Lib.hid hB0
 have HO0 := Lib.hid hO0
 have hw0 := hB0.size
 have HLN : Hid (L.length + [(o.getD JV.zero).s].length <= maxLen /\ (L.length + [(o.getD JV.zero).s].length) * 16 <= 140737488355328) := by
  simp only [List.length_singleton]
  exact ⟨by unfold maxLen; omega, by omega⟩
 clear hW0 hB0 ht ot hR ho hO hO0 hL
 go_enter Tryz.func63, Tryz.ntmps63
 go_upto_region 1 with fail
 rw [HW.out]
 clear HW
 obtain ⟨a0, a1, a2, a3, a4⟩ := hA0.cells5
 go_upto_region 2 with (go_at_call 61; refine HC.out.mono ?_; rintro e w1 ⟨rv, bb, rfl, hbb, ht1, hb1⟩; obtain ⟨rk, rn, rS, rpl, rnl, rcl, rpm, rnm, rcm⟩ := rv)
 obtain ⟨hkk, hss⟩ := ht1.kk
 dsimp only at hkk hss
 have hz1 := hb1.size
 have hb2 : Below W0.heap.size W0 (w1.alloc (.cells #[.int .i64 rk, .int .i64 rn, .string rS, .slice rpl rnl rcl, .slice rpm rnm rcm] 25)) := hb1.alloc hz1 _
 have hv2 : VAt (w1.alloc (.cells #[.int .i64 rk, .int .i64 rn, .string rS, .slice rpl rnl rcl, .slice rpm rnm rcm] 25)) w1.heap.size ⟨rk, rn, rS, rpl, rnl, rcl, rpm, rnm, rcm⟩ := heap_alloc_at rfl
 have hO2 := HO0.out.below hb2 (Nat.le_refl _)
 obtain ⟨g, hg⟩ : ∃ g, w1.heap.size = g := ⟨_, rfl⟩
 obtain ⟨W2, hW2⟩ : ∃ W, w1.alloc (.cells #[.int .i64 rk, .int .i64 rn, .string rS, .slice rpl rnl rcl, .slice rpm rnm rcm] 25) = W := ⟨_, rfl⟩
 rw [hW2] at hb2 hv2 hO2
 rw [hg] at hv2
 try rw [hW2]
 try rw [hg]
 obtain ⟨v0, v1, v2, v3, v4⟩ := hv2.cells5
 dsimp only at v0 v1 v2 v3 v4
 have HKO := Lib.hid (HB0.out.trans (hb2.mono hw0))
 have hbw2 := (HB0.out.trans (hb2.mono hw0)).mono hbw
 have HX := Lib.hid hbw2
 have HO2 := Lib.hid hO2
 have hz2 : base <= W2.heap.size := Nat.le_trans hbw (HB0.out.trans (hb2.mono hw0)).size
 clear hW2 hg hb1 ht1 hb2 hv2 hz1 hbw2 hO2
 cases o with
 | none =>
   obtain rfl : bb = false := hbb
   have HR : Hid (R = []) := by unfold Hid; rw [HTX.out]; exact if_neg (by decide)
   clear hkk hss
   go_wp2_with fail
   rw [HR.out]
   go_ret
   exact ⟨_, rfl, by rw [List.append_nil]; exact HO2.out, HX.out, KeepO.below HKO.out⟩
 | some x =>
   obtain rfl : bb = true := hbb
   by_cases hk4 : rk = 4
   ·subst hk4
    have HR : Hid (R = [rS]) := by unfold Hid; rw [HTX.out, <- hkk, if_pos rfl, hss]
    have HR1 : Hid (Rd (W2.alloc (.cells #[.string rS] 9)) (W2.heap.size + 1) encS 1 (.slice (some ⟨W2.heap.size, 0, none⟩) 1 1) [rS]) := Rd.one codecS (heap_alloc_at rfl) rfl (by omega)
    have HO3 := Lib.hid (HO2.out.alloc (.cells #[.string rS] 9))
    clear hkk hss
    go_wp2_with (at_builtin; refine wpList_append_rd slS codecS (W2.alloc (.cells #[.string rS] 9)) rfl (.tmp 21) (.tmp 24) rfl (v := u) rfl rfl HO3.out HR1.out HLN.out.1 HLN.out.2 (by simp; omega) ?_; intro v8 w8 ho8 hg8 hat8)
    rw [HR.out]
    go_ret
    exact ⟨_, rfl, ho8, Below.appended (HX.out.alloc hz2 _) hg8 HO3.out (by simp; omega), KeepO.app (HKO.out.alloc HKO.out.size _) hg8 hat8⟩
   ·have q1 : (rk == 4) = false := by simpa using hk4
    have HR : Hid (R = []) := by unfold Hid; rw [HTX.out, <- hkk, if_neg hk4]
    clear hkk hss
    go_wp2_with fail
    rw [HR.out]
    go_ret
    exact ⟨_, rfl, by rw [List.append_nil]; exact HO2.out, HX.out, KeepO.below HKO.out⟩
def eadL (cs : List JV) (nm kind : ByteArray) : List ByteArray := (cs.filter (partOk kind)).flatMap (fun c => textM c nm)
theorem eadL_succ {cs : List JV} {nm kind : ByteArray} {k : Nat} {c : JV} (h : cs[k]? = some c) : eadL (cs.take (k + 1)) nm kind = eadL (cs.take k) nm kind ++ (if partOk kind c then textM c nm else []) := by
 unfold eadL
 rw [List.take_add_one, h, Option.toList_some, List.filter_append, List.flatMap_append]
 congr 1
 cases hp : partOk kind c
 ·rw [List.filter_cons, hp]; rfl
 ·rw [List.filter_cons, hp]; simp
theorem eadL_len (cs : List JV) (nm kind : ByteArray) : (eadL cs nm kind).length <= cs.length := by
 unfold eadL
 have h1 := flat_len (f := fun c => textM c nm) (n := 1) (fun c => textM_len c nm) (cs.filter (partOk kind))
 have h2 := List.length_filter_le (partOk kind) cs
 omega
theorem partOk_all (c : JV) : partOk ⟨#[]⟩ c = true := rfl
theorem eadL_all (cs : List JV) (nm : ByteArray) : eadL cs nm ⟨#[]⟩ = cs.flatMap (fun c => textM c nm) := by
 unfold eadL
 rw [List.filter_eq_self.2 (fun c _ => partOk_all c)]
theorem addE_any (t : JV) (r : RV) (ls nme kind : ByteArray) (u : Value) (LL : List ByteArray) (w : World) (B base : Nat) (hBb : B <= base) (hbs : base <= w.heap.size) (ht : TreeOf w B t r) (ot : t.Ok) (hct : countT t <= 100000) (hO0 : Own w base 9 encS 1 u LL) (hLL : LL.length <= 2000000) :
 Calls Tryz.prog 62 #[u, r.val, .string ls, .string nme, .string kind] w fun e w' => ∃ v, e = .returned v /\ Own w' base 9 encS 1 v (LL ++ eadL (inJ t ls) nme kind) /\ Below base w w' /\ KeepO w w' u v := by
 have hBw : B <= w.heap.size := Nat.le_trans hBb hbs
 have hil := inJ_len t ls
 obtain ⟨W0, hW0⟩ : ∃ W0, w.alloc r.obj = W0 := ⟨_, rfl⟩
 have hA0 : VAt W0 w.heap.size r := by rw [<- hW0]; exact heap_alloc_at rfl
 have hB0 : Below w.heap.size w W0 := by rw [<- hW0]; exact (Below.refl _ _).alloc (Nat.le_refl _) _
 have HC : Hid (Calls Tryz.prog 61 #[r.val, .string ls] W0 (GetRetB W0 B (t.get ls))) := refGetB_any t r ls W0 B (Nat.le_trans hBw hB0.size) (ht.under (hB0.mono hBw) (Nat.le_refl _)) ot
 have HIN := Lib.hid (inJ_of t ls)
 have HIO := Lib.hid (inJ_ok (name := ls) ot)
 obtain ⟨cs, hcs⟩ : ∃ cs, inJ t ls = cs := ⟨_, rfl⟩
 rw [hcs] at HIN HIO hil
 have HSM : Hid (cs.length <= 100000) := by unfold Hid; omega
 have HO0 := Lib.hid hO0
 clear hil hct hO0
 rw [hcs]
 obtain ⟨k, n, s, pl, nl, cl, pm, nm, cm⟩ := r
 dsimp only [RV.val, RV.obj] at *
 have HW := Lib.hid hW0
 have HB0 := Lib.hid hB0
 have hw0 := hB0.size
 obtain ⟨X, hX⟩ : ∃ X, t.get ls = X := ⟨_, rfl⟩
 rw [hX] at HC HIN
 clear hW0 hB0 ht ot hcs hX
 go_enter Tryz.func62, Tryz.ntmps62
 go_upto_region 1 with fail
 rw [HW.out]
 clear HW
 obtain ⟨a0, a1, a2, a3, a4⟩ := hA0.cells5
 go_upto_region 3 with (go_at_call 61; refine HC.out.mono ?_; rintro e w1 ⟨rv, bb, rfl, hbb, ht1, hb1⟩; obtain ⟨rk, rn, rS, rpl, rnl, rcl, rpm, rnm, rcm⟩ := rv)
 obtain ⟨hkk, hss⟩ := ht1.kk
 dsimp only at hkk hss
 have hz1 := hb1.size
 have hb2 : Below W0.heap.size W0 (w1.alloc (.cells #[.int .i64 rk, .int .i64 rn, .string rS, .slice rpl rnl rcl, .slice rpm rnm rcm] 25)) := hb1.alloc hz1 _
 have hv2 : VAt (w1.alloc (.cells #[.int .i64 rk, .int .i64 rn, .string rS, .slice rpl rnl rcl, .slice rpm rnm rcm] 25)) w1.heap.size ⟨rk, rn, rS, rpl, rnl, rcl, rpm, rnm, rcm⟩ := heap_alloc_at rfl
 have ht2 := (ht1.tl).under ((Below.refl B w1).alloc (Nat.le_trans (Nat.le_trans hBw hw0) hz1) (.cells #[.int .i64 rk, .int .i64 rn, .string rS, .slice rpl rnl rcl, .slice rpm rnm rcm] 25)) (Nat.le_refl _)
 dsimp only at ht2
 obtain ⟨g, hg⟩ : ∃ g, w1.heap.size = g := ⟨_, rfl⟩
 obtain ⟨W2, hW2⟩ : ∃ W, w1.alloc (.cells #[.int .i64 rk, .int .i64 rn, .string rS, .slice rpl rnl rcl, .slice rpm rnm rcm] 25) = W := ⟨_, rfl⟩
 rw [hW2] at hb2 hv2 ht2
 rw [hg] at hv2
 try rw [hW2]
 try rw [hg]
 obtain ⟨v0, v1, v2, v3, v4⟩ := hv2.cells5
 dsimp only at v0 v1 v2 v3 v4
 have hbw2 := HB0.out.trans (hb2.mono hw0)
 have HX := Lib.hid hbw2
 have HV2 := Lib.hid hv2
 have hgl := hv2.lt
 have hz2 : w.heap.size <= W2.heap.size := hbw2.size
 have HO2 : Hid (Own W2 base 9 encS 1 u LL) := HO0.out.below hbw2 (Nat.le_refl _)
 have HNE : Hid (u.ownBlock ≠ some g) := fun e => by have := (HO0.out.lt _ e).2; omega
 have HTL := Lib.hid ht2
 clear hW2 hg hb1 ht1 hb2 hv2 hz1 hbw2 ht2
 by_cases hk5 : rk = 5
 ·subst hk5
  have HCS : Hid (cs = (X.getD JV.zero).l) := by unfold Hid; rw [HIN.out, <- hkk, if_pos rfl]
  obtain ⟨rs, hr, hlen, htl⟩ := HTL.out
  rw [<- HCS.out] at hlen htl
  have hrl : rs.length = rnl := (rd_nlen hr).symm
  have HN : Hid (cs.length = rnl) := by unfold Hid; omega
  have hno : rnl <= 1759218604390 := by have := HIO.out.1; omega
  have HTT := Lib.hid htl
  have HRD := Lib.hid hr
  have hBw2 : B <= W2.heap.size := Nat.le_trans hBw hz2
  clear hr hlen htl hkk hss HTL HCS v0 v1 v2 v3 v4
  go_loopw [0, 13] (fun v i wr => ∃ j : Nat, j <= rnl /\ i = .int .i64 (j : Int) /\ Hid (Own wr base 9 encS 1 v (LL ++ eadL (cs.take j) nme kind) /\ Below base W2 wr /\ KeepO W2 wr u v)) (fun _ i _ => rnl - (intOf i).toNat)
  case atStart => exact ⟨0, by omega, rfl, by rw [List.take_zero]; unfold eadL; rw [List.filter_nil, List.flatMap_nil, List.append_nil]; exact HO2.out, Below.refl _ _, KeepO.refl _ _⟩
  case round =>
   obtain ⟨j, hj, rfl, hH⟩ := hrel
   obtain ⟨hO, hbr, hkr⟩ := hH.out
   clear hH
   have hvr := hkr.box HV2.out HNE.out
   obtain ⟨v0, v1, v2, v3, v4⟩ := hvr.cells5
   dsimp only at v0 v1 v2 v3 v4
   have hj0 : (0 : Int) <= (j : Int) := Int.natCast_nonneg _
   by_cases hlt : j < rnl
   ·obtain ⟨y, hy⟩ : ∃ y, cs[j]? = some y := ⟨_, List.getElem?_eq_getElem (by have := HN.out; omega)⟩
    obtain ⟨⟨xk, xn, xs, xpl, xnl, xcl, xpm, xnm, xcm⟩, hx⟩ : ∃ x, rs[j]? = some x := ⟨_, List.getElem?_eq_getElem (by omega)⟩
    have hyok := HIO.out.2 j y hy
    have hty := HTT.out j y _ hy hx
    have HPS := Lib.hid (eadL_succ (nm := nme) (kind := kind) hy)
    have hpl : (LL ++ eadL (cs.take j) nme kind).length <= 2100000 := by
     rw [List.length_append]
     have h1 := eadL_len (cs.take j) nme kind
     have h2 := List.length_take_le j cs
     have h3 : (cs.take j).length <= cs.length := by rw [List.length_take]; exact Nat.min_le_right _ _
     have h4 := HSM.out
     omega
    have hBwr : B <= wr.heap.size := Nat.le_trans hBw2 hbr.size
    have hbwr : base <= wr.heap.size := Nat.le_trans (Nat.le_trans hbs hz2) hbr.size
    obtain ⟨b1, o1, rfl, hb1, hc1⟩ := rd_at' (HRD.out.below (hbr.mono hBb) (Nat.le_refl _)) hx
    have f0 := hc1 0 _ rfl
    have f1 := hc1 1 _ rfl
    have f2 := hc1 2 _ rfl
    have f3 := hc1 3 _ rfl
    have f4 := hc1 4 _ rfl
    rw [Nat.add_zero] at f0
    dsimp only at f0 f1 f2 f3 f4
    have hj1 : (j : Int) < (rnl : Int) := by omega
    have HGK := Lib.hid (refGetB_any y ⟨xk, xn, xs, xpl, xnl, xcl, xpm, xnm, xcm⟩ kindN wr B hBwr (hty.under (hbr.mono hBb) (Nat.le_refl _)) hyok)
    dsimp only [RV.val] at HGK
    have hpo := partOk_of kind y
    obtain ⟨Z, hZ⟩ : ∃ Z, y.get kindN = Z := ⟨_, rfl⟩
    rw [hZ] at HGK hpo
    unfold kindN at HGK
    have hq1 : (5 == 5) = true := rfl
    clear hx hy hZ
    go_upto_region 6 with (go_at_call 61; refine HGK.out.mono ?_; rintro e w3 ⟨rv2, bb2, rfl, hbb2, ht3, hb3⟩; obtain ⟨yk, yn, ys, ypl, ynl, ycl, ypm, ynm, ycm⟩ := rv2)
    obtain ⟨hkk2, hss2⟩ := ht3.kk
    dsimp only at hkk2 hss2
    have hb4 : Below wr.heap.size wr (w3.alloc (.cells #[.int .i64 yk, .int .i64 yn, .string ys, .slice ypl ynl ycl, .slice ypm ynm ycm] 25)) := hb3.alloc hb3.size _
    have hb5 : Below base W2 (w3.alloc (.cells #[.int .i64 yk, .int .i64 yn, .string ys, .slice ypl ynl ycl, .slice ypm ynm ycm] 25)) := hbr.trans (hb4.mono hbwr)
    have hk4 := hkr.trans (KeepO.below hb4) hbr.size
    have hb5s : base <= (w3.alloc (.cells #[.int .i64 yk, .int .i64 yn, .string ys, .slice ypl ynl ycl, .slice ypm ynm ycm] 25)).heap.size := Nat.le_trans hbwr hb4.size
    have hv4 : VAt (w3.alloc (.cells #[.int .i64 yk, .int .i64 yn, .string ys, .slice ypl ynl ycl, .slice ypm ynm ycm] 25)) w3.heap.size ⟨yk, yn, ys, ypl, ynl, ycl, ypm, ynm, ycm⟩ := heap_alloc_at rfl
    have hvw := hk4.box HV2.out HNE.out
    have hO4 := hO.below hb4 (Nat.le_refl _)
    have h0 := bcs hb4 (by omega) f0
    have h1 := bcs hb4 (by omega) f1
    have h2 := bcs hb4 (by omega) f2
    have h3 := bcs hb4 (by omega) f3
    have h4 := bcs hb4 (by omega) f4
    have HAD := Lib.hid (radd2_any y ⟨xk, xn, xs, xpl, xnl, xcl, xpm, xnm, xcm⟩ nme _ _ (w3.alloc (.cells #[.int .i64 yk, .int .i64 yn, .string ys, .slice ypl ynl ycl, .slice ypm ynm ycm] 25)) B base hBb hb5s (hty.under (hb5.mono hBb) (Nat.le_refl _)) hyok hO4 (by omega))
    dsimp only [RV.val] at HAD
    obtain ⟨g4, hg4⟩ : ∃ g, w3.heap.size = g := ⟨_, rfl⟩
    obtain ⟨W4, hW4⟩ : ∃ W, w3.alloc (.cells #[.int .i64 yk, .int .i64 yn, .string ys, .slice ypl ynl ycl, .slice ypm ynm ycm] 25) = W := ⟨_, rfl⟩
    rw [hW4] at hb4 hb5 hv4 hvw hO4 h0 h1 h2 h3 h4 HAD hk4 hb5s
    rw [hg4] at hv4
    try rw [hW4]
    try rw [hg4]
    obtain ⟨e0, e1, e2, e3, e4⟩ := hv4.cells5
    obtain ⟨p0, p1, p2, p3, p4⟩ := hvw.cells5
    dsimp only at e0 e1 e2 e3 e4 p0 p1 p2 p3 p4
    obtain ⟨LV, hLV⟩ : ∃ L, textM y nme = L := ⟨_, rfl⟩
    rw [hLV] at HAD HPS
    rw [<- hkk2, <- hss2] at hpo
    obtain ⟨d, hd⟩ : ∃ d, partOk kind y = d := ⟨_, rfl⟩
    rw [hd] at HPS hpo
    clear hd hLV hkk2 hss2 hg4 hW4 ht3 hb3 hv4 hvw f0 f1 f2 f3 f4 v0 v1 v2 v3 v4 hc1 hty hyok HGK
    have HO4 := Lib.hid hO4
    have HB5 := Lib.hid hb5
    have HK4 := Lib.hid hk4
    have HPO := Lib.hid hpo
    have hz4 := hb5.size
    clear hpo hO4 hb5 hb4 hO hbr hq1 hk4 hkr
    go_cut [55] from 43 to 55 (fun v wq => v = .bool d /\ wq = W4)
    case first =>
     obtain ⟨kz, hkz⟩ : ∃ b, (kind.toList == []) = b := ⟨_, rfl⟩
     obtain ⟨zs, hzs⟩ : ∃ b, (ys.toList == kind.toList) = b := ⟨_, rfl⟩
     have HKZ : Hid (decide (kind.size = 0) = kz) := by
      unfold Hid
      rw [<- hkz, ByteArray.toList_eq, <- str_len]
      cases kind.data.toList with
      | nil => rfl
      | cons a r => rfl
     have HZS : Hid (decide (ys = kind) = zs) := by
      unfold Hid
      rw [<- hzs, ByteArray.toList_eq, ByteArray.toList_eq]
      by_cases h : ys = kind
      ·rw [decide_eq_true h, h]; simp
      ·rw [decide_eq_false h]
       have h2 : ys.data.toList ≠ kind.data.toList := fun e => h (ByteArray.ext (Array.toList_inj.1 e))
       simpa using h2
     have HD : Hid (d = (kz || (decide (yk = 4) && zs))) := by
      unfold Hid
      rw [HPO.out, HKZ.out, HZS.out]
     by_cases hk4 : yk = 4
     ·subst hk4
      cases kz <;> cases zs
      all_goals
       go_wp2_with fail
       go_meet
       exact ⟨by rw [HD.out]; rfl, rfl⟩
     ·have q1 : (yk == 4) = false := by simpa using hk4
      have HD2 : Hid (d = kz) := by unfold Hid; rw [HD.out, decide_eq_false hk4]; simp
      cases kz
      all_goals
       go_wp2_with fail
       go_meet
       exact ⟨by rw [HD2.out], rfl⟩
    case rest =>
    obtain ⟨rfl, hwc⟩ := hcut
    obtain rfl : W4 = wc := hwc.symm
    cases d with
    | true =>
      go_wp2_with (go_at_call 63; (with_reducible refine HAD.out.mono ?_); rintro e w8 ⟨u8, rfl, ho8, hb8, hk8⟩)
      go_roundw
      case rel =>
       refine ⟨j + 1, by omega, by go_num, ?_, HB5.out.trans hb8, HK4.out.trans hk8 hz4⟩
       rw [HPS.out, <- List.append_assoc]
       exact ho8
      case measure => simp [intOf]; omega
    | false =>
      go_wp2_with fail
      go_roundw
      case rel =>
       refine ⟨j + 1, by omega, by go_num, ?_, HB5.out, HK4.out⟩
       rw [HPS.out, <- List.append_assoc]
       exact (List.append_nil (LL ++ eadL (cs.take j) nme kind)).symm ▸ HO4.out
      case measure => simp [intOf]; omega
   ·obtain rfl : j = rnl := by omega
    have hta : cs.take j = cs := List.take_of_length_le (by have := HN.out; omega)
    rw [hta] at hO
    have HY := Lib.hid (And.intro hO (And.intro ((HX.out.mono hbs).trans hbr) ((KeepO.below HX.out).trans hkr hz2)))
    clear hO hbr hta hkr
    go_wp2_with fail
    go_ret
    exact ⟨_, rfl, HY.out.1, HY.out.2.1, HY.out.2.2⟩
 ·have q1 : (rk == 5) = false := by simpa using hk5
  have HR : Hid (cs = []) := by unfold Hid; rw [HIN.out, <- hkk, if_neg hk5]
  obtain ⟨z, hz⟩ : ∃ b, decide ((0 : Int) < (rnl : Int)) = b := ⟨_, rfl⟩
  clear hkk hss
  go_loopw [0, 13] (fun v i wr => v = u /\ i = .int .i64 0 /\ W2 = wr) (fun _ i _ => 0)
  case atStart => exact ⟨rfl, rfl, rfl⟩
  case round =>
   obtain ⟨rfl, rfl, rfl⟩ := hrel
   clear hz z
   go_wp2_with fail
   all_goals go_ret
   all_goals exact ⟨_, rfl, by rw [HR.out]; unfold eadL; rw [List.filter_nil, List.flatMap_nil, List.append_nil]; exact HO2.out, HX.out.mono hbs, KeepO.below HX.out⟩
theorem rntexts_any (t : JV) (r : RV) (p : ByteArray) (hp : p = givenN \/ p = surN \/ p = sur2N) (w : World) (B : Nat) (hBw : B <= w.heap.size) (ht : TreeOf w B t r) (ot : t.Ok) :
 Calls Tryz.prog 27 #[r.val, .string p] w (OwnRet w 9 encS 1 (partsJ (nameV t) (p.extract 5 p.size))) := by
 obtain ⟨W0, hW0⟩ : ∃ W0, w.alloc r.obj = W0 := ⟨_, rfl⟩
 have hA0 : VAt W0 w.heap.size r := by rw [<- hW0]; exact heap_alloc_at rfl
 have hB0 : Below w.heap.size w W0 := by rw [<- hW0]; exact (Below.refl _ _).alloc (Nat.le_refl _) _
 have HC : Hid (Calls Tryz.prog 61 #[r.val, .string nameN] W0 (GetRetB W0 B (t.get nameN))) := refGetB_any t r nameN W0 B (Nat.le_trans hBw hB0.size) (ht.under (hB0.mono hBw) (Nat.le_refl _)) ot
 have hno : (nameV t).Ok := nameV_ok ot
 obtain ⟨L, hL⟩ : ∃ L, partsJ (nameV t) (p.extract 5 p.size) = L := ⟨_, rfl⟩
 have HP : Hid (∀ (q : RV) (W : World), B <= W.heap.size -> TreeOf W B (nameV t) q -> Calls Tryz.prog 62 #[.slice none 0 0, q.val, .string compN, .string valueN, .string (p.extract 5 p.size)] W (OwnRet W 9 encS 1 L)) := fun q W hB hq => by
  rw [<- hL]
  exact raddEach_any (nameV t) q _ W B hB hq hno
 rw [hL]
 obtain ⟨k, n, s, pl, nl, cl, pm, nm, cm⟩ := r
 dsimp only [RV.val, RV.obj] at *
 have HW := Lib.hid hW0
 have HB0 := Lib.hid hB0
 have hw0 := hB0.size
 unfold nameN at HC
 unfold compN valueN at HP
 clear hW0 hB0 ht ot hL hno
 rcases hp with rfl | rfl | rfl
 all_goals
  try unfold givenN at *
  try unfold surN at *
  try unfold sur2N at *
  go_enter Tryz.func27, Tryz.ntmps27
  go_upto_region 1 with fail
  rw [HW.out]
  clear HW
  obtain ⟨a0, a1, a2, a3, a4⟩ := hA0.cells5
  go_upto_region 3 with (go_at_call 61; refine HC.out.mono ?_; rintro e w1 ⟨rv, bb, rfl, hbb, ht1, hb1⟩; obtain ⟨rk, rn, rS, rpl, rnl, rcl, rpm, rnm, rcm⟩ := rv)
  have hz1 := hb1.size
  have hb2 : Below W0.heap.size W0 (w1.alloc (.cells #[.int .i64 rk, .int .i64 rn, .string rS, .slice rpl rnl rcl, .slice rpm rnm rcm] 25)) := hb1.alloc hz1 _
  have hv2 : VAt (w1.alloc (.cells #[.int .i64 rk, .int .i64 rn, .string rS, .slice rpl rnl rcl, .slice rpm rnm rcm] 25)) w1.heap.size ⟨rk, rn, rS, rpl, rnl, rcl, rpm, rnm, rcm⟩ := heap_alloc_at rfl
  have ht2 := ht1.under ((Below.refl B w1).alloc (Nat.le_trans (Nat.le_trans hBw hw0) hz1) (.cells #[.int .i64 rk, .int .i64 rn, .string rS, .slice rpl rnl rcl, .slice rpm rnm rcm] 25)) (Nat.le_refl _)
  obtain ⟨g, hg⟩ : ∃ g, w1.heap.size = g := ⟨_, rfl⟩
  obtain ⟨W2, hW2⟩ : ∃ W, w1.alloc (.cells #[.int .i64 rk, .int .i64 rn, .string rS, .slice rpl rnl rcl, .slice rpm rnm rcm] 25) = W := ⟨_, rfl⟩
  rw [hW2] at hb2 hv2 ht2
  rw [hg] at hv2
  try rw [hW2]
  try rw [hg]
  obtain ⟨v0, v1, v2, v3, v4⟩ := hv2.cells5
  dsimp only at v0 v1 v2 v3 v4
  have hbw := HB0.out.trans (hb2.mono hw0)
  have HX := Lib.hid hbw
  have hw2 := hbw.size
  have HP1 : Hid (∀ W : World, Below W2.heap.size W2 W -> Calls Tryz.prog 62 _ W (OwnRet W 9 encS 1 L)) := fun W hW => HP.out ⟨rk, rn, rS, rpl, rnl, rcl, rpm, rnm, rcm⟩ W (Nat.le_trans (Nat.le_trans hBw hw2) hW.size) (ht2.under (hW.mono (Nat.le_trans hBw hw2)) (Nat.le_refl _))
  dsimp only [RV.val] at HP1
  clear hW2 hg hb1 ht1 hb2 hv2 hz1 hbw ht2 HP
  go_upto_region 6 with fail
  go_region_with (first
   | (go_at_call 62; refine (HP1.out _ (by first | exact Below.refl _ _ | exact (Below.refl _ _).drew | exact bdn (Below.refl _ _) _)).mono ?_; rintro e w3 ⟨u3, rfl, ho3, hb3⟩)
   | fail)
  all_goals
   first
    | go_ret
    | (go_wp2_with fail; go_ret)
   first
    | exact ⟨u3, rfl, ho3.mono hw2, HX.out.drew.trans (hb3.mono hw2)⟩
    | exact ⟨u3, rfl, ho3.mono hw2, HX.out.trans (hb3.mono hw2)⟩
    | exact ⟨u3, rfl, ho3.mono hw2, (bdn HX.out _).trans (hb3.mono hw2)⟩
end
end Go.Proofs.YtffhccmppdgmfaaGreatDoor
