import Derived.Test.YtfgjimpmpckgpaaGreatDoorSg00
import Derived.Deep.RegionHeld3
import Derived.Deep.DeepCutAuto
import Derived.Deep.CutRange
import Derived.BigQuiet
import Derived.Deep.QuietTactic
import Derived.Outline
import Derived.OpenShut
set_option linter.unusedSimpArgs false
set_option linter.unusedVariables false
set_option maxRecDepth 200000
set_option maxHeartbeats 8000000
namespace Go.Proofs.YtfgjimpmpckgpaaGreatDoor
section
open Go.RowKit Go.OpenShut
def Said (w : World) (p : Prop) (e : Ending) (w' : World) : Prop := ∃ b : Bool, e = .returned (.bool b) /\ (b = true ↔ p) /\ Below w.heap.size w w'
theorem below2 (w : World) (o o' : Obj) : Below w.heap.size w ((w.alloc o).alloc o') := ((Below.refl _ _).alloc (Nat.le_refl _) _).alloc (by simp) _
theorem str_beq (a b : ByteArray) : (a.toList == b.toList) = decide (a = b) := by
 rw [ByteArray.toList_eq, ByteArray.toList_eq]
 obtain ⟨⟨x⟩⟩ := a
 obtain ⟨⟨y⟩⟩ := b
 by_cases h : x = y
 ·simp [h]
 ·simp [h]
theorem Said.yes {w : World} {p : Prop} {e : Ending} {w' : World} (h : Said w p e w') (hp : p) : e = .returned (.bool true) /\ Below w.heap.size w w' := by
 obtain ⟨b, rfl, hb, h⟩ := h
 rw [hb.2 hp]; exact ⟨rfl, h⟩
theorem Said.no {w : World} {p : Prop} {e : Ending} {w' : World} (h : Said w p e w') (hp : ¬ p) : e = .returned (.bool false) /\ Below w.heap.size w w' := by
 obtain ⟨b, rfl, hb, h⟩ := h
 cases b with
 | true => exact absurd (hb.1 rfl) hp
 | false => exact ⟨rfl, h⟩
def VAt (W : World) (g : Nat) (r : RV) : Prop := W.heap[g]? = some (.cells #[.int .i64 r.k, .int .i64 r.n, .string r.s, .slice r.pl r.nl r.cl, .slice r.pm r.nm r.cm] 31 (0, 0))
theorem VAt.cell {W : World} {g : Nat} {r : RV} (h : VAt W g r) (j : Nat) {u : Value} (hu : (encV r)[j]? = some u) : W.cell? ⟨g, j, none⟩ = some u := by
 unfold VAt at h
 rw [cell_of_row W g j _ _ _ h, <- Array.getElem?_toList]
 exact hu
theorem VAt.cells5 {W : World} {g : Nat} {r : RV} (h : VAt W g r) : W.cell? ⟨g, 0, none⟩ = some (.int .i64 r.k) /\ W.cell? ⟨g, 1, none⟩ = some (.int .i64 r.n) /\ W.cell? ⟨g, 2, none⟩ = some (.string r.s) /\ W.cell? ⟨g, 3, none⟩ = some (.slice r.pl r.nl r.cl) /\ W.cell? ⟨g, 4, none⟩ = some (.slice r.pm r.nm r.cm) := ⟨h.cell 0 rfl, h.cell 1 rfl, h.cell 2 rfl, h.cell 3 rfl, h.cell 4 rfl⟩
theorem VAt.under {W W' : World} {g B : Nat} {r : RV} (h : VAt W g r) (hb : Below B W W') (hg : g < B) : VAt W' g r := (hb.block g hg).trans h
theorem VAt.lt {W : World} {g : Nat} {r : RV} (h : VAt W g r) : g < W.heap.size := (Array.getElem?_eq_some_iff.1 h).1
theorem rd_nlen {α : Type} {enc : α -> List Value} {sz B n c : Nat} {p : Option Addr} {w : World} {xs : List α} (h : Rd w B enc sz (.slice p n c) xs) : n = xs.length := by
 obtain ⟨_, _, e, _⟩ := h
 simp only [Value.slice.injEq] at e; exact e.2.1
theorem rd_at' {α : Type} {enc : α -> List Value} {sz n cap k B : Nat} {w : World} {p : Option Addr} {xs : List α} (h : Rd w B enc sz (.slice p n cap) xs) {x : α} (hx : xs[k]? = some x) :
 ∃ b o, p = some ⟨b, o, none⟩ /\ b < B /\ ∀ j u, (enc x)[j]? = some u -> w.cell? ⟨b, o + k * sz + j, none⟩ = some u := by
 obtain ⟨p', cap', he, h1, h2, h3, h4⟩ := h
 simp only [Value.slice.injEq] at he
 obtain ⟨rfl, rfl, rfl⟩ := he
 have hk := (List.getElem?_eq_some_iff.1 hx).1
 cases p with
 | none => have := h3 rfl; omega
 | some a =>
   obtain ⟨b, o, rfl, hb, hr⟩ := h4 a rfl (by omega)
   exact ⟨b, o, rfl, hb, hr k x hx⟩
theorem take_eq {α : Type} {l m : List α} {k : Nat} {x : α} (hx : l[k]? = some x) (hy : m[k]? = some x) (h : l.take k = m.take k) : l.take (k + 1) = m.take (k + 1) := by
 rw [List.take_add_one, List.take_add_one, hx, hy, h]
theorem ne_of_at {α : Type} {l m : List α} {k : Nat} {x y : α} (hx : l[k]? = some x) (hy : m[k]? = some y) (h : x ≠ y) : l ≠ m := by
 rintro rfl
 rw [hx] at hy
 exact h (by simpa using hy)
theorem same5_no (r q : RV) (w : World) (p : Prop) (hp : p -> r.k = q.k /\ r.n = q.n /\ r.s = q.s /\ r.nl = q.nl /\ r.nm = q.nm) (hno : ¬ (r.k = q.k /\ r.n = q.n /\ r.s = q.s /\ r.nl = q.nl /\ r.nm = q.nm)) :
 Calls Tryz.prog 10 #[r.val, q.val] w (Said w p) := by
 obtain ⟨k1, n1, s1, pl1, nl1, cl1, pm1, nm1, cm1⟩ := r
 obtain ⟨k2, n2, s2, pl2, nl2, cl2, pm2, nm2, cm2⟩ := q
 dsimp only [RV.val] at *
 have hfin : ∀ W', Below w.heap.size w W' -> Said w p (.returned (.bool false)) W' := fun W' hb => ⟨false, rfl, by simp; exact fun h => hno (hp h), hb⟩
 have HF := Lib.hid hfin
 have hB := below2 w
 clear hfin hp
 by_cases a1 : k1 = k2
 ·subst a1
  by_cases a2 : n1 = n2
  ·subst a2
   by_cases a3 : s1 = s2
   ·subst a3
    by_cases a4 : nl1 = nl2
    ·subst a4
     have a5 : ((nm1 : Int) != (nm2 : Int)) = true := by
      rw [bne_iff_ne]
      intro h
      exact hno ⟨rfl, rfl, rfl, rfl, by omega⟩
     clear hno
     go_enter Tryz.func10, Tryz.ntmps10
     go_wp2_with fail
     go_ret
     exact HF.out _ (hB _ _)
    ·have a5 : ((nl1 : Int) != (nl2 : Int)) = true := by rw [bne_iff_ne]; omega
     clear hno a4
     go_enter Tryz.func10, Tryz.ntmps10
     go_wp2_with fail
     go_ret
     exact HF.out _ (hB _ _)
   ·have a5 : (s1.toList == s2.toList) = false := by rw [str_beq]; simpa using a3
    clear hno a3
    go_enter Tryz.func10, Tryz.ntmps10
    go_wp2_with fail
    go_ret
    exact HF.out _ (hB _ _)
  ·have a5 : (n1 != n2) = true := by simpa using a2
   clear hno a2
   go_enter Tryz.func10, Tryz.ntmps10
   go_wp2_with fail
   go_ret
   exact HF.out _ (hB _ _)
 ·have a5 : (k1 != k2) = true := by simpa using a1
  clear hno a1
  go_enter Tryz.func10, Tryz.ntmps10
  go_wp2_with fail
  go_ret
  exact HF.out _ (hB _ _)
def JV.mem : JV -> List (ByteArray × JV) | .mk k _ _ _ m => if k = 6 then m else []
def JV.place (t : JV) (name : ByteArray) : Option Nat := t.mem.findIdx? (fun p => decide (p.1 = name))
def JV.get (t : JV) (name : ByteArray) : Option JV := (t.place name).bind fun i => t.mem[i]?.map (·.2)
def JV.zero : JV := .mk 0 0 ⟨#[]⟩ [] []
def RV.zero : RV := ⟨0, 0, ⟨#[]⟩, none, 0, 0, none, 0, 0⟩
theorem TreeOf.zero (w : World) (B : Nat) : TreeOf w B JV.zero RV.zero :=
 TreeOf.mk (r := RV.zero) (rs := []) (rms := []) (Rd.nil _ _) rfl (fun i t q h => by simp at h) (Rd.nil _ _) rfl (fun i p q h => by simp at h) (fun i p q h => by simp at h)
def placeI (o : Option Nat) : Int := match o with
 | some i => i
 | none => -1
theorem find_at {α : Type} {p : α -> Bool} {l : List α} {k : Nat} {x : α} (hx : l[k]? = some x) (hp : p x = true) (hno : ∀ (j : Nat) (y : α), j < k -> l[j]? = some y -> p y = false) : l.findIdx? p = some k := by
 rw [List.findIdx?_eq_some_iff_getElem]
 obtain ⟨h, e⟩ := List.getElem?_eq_some_iff.1 hx
 refine ⟨h, by rw [e]; exact hp, fun j hj => ?_⟩
 have := hno j _ hj (List.getElem?_eq_getElem (by omega))
 simpa using this
theorem find_not {α : Type} {p : α -> Bool} {l : List α} (hno : ∀ (j : Nat) (y : α), l[j]? = some y -> p y = false) : l.findIdx? p = none := by
 rw [List.findIdx?_eq_none_iff]
 intro x hx
 obtain ⟨i, hi⟩ := List.getElem?_of_mem hx
 exact hno i x hi
theorem ret_int {k : IntKind} {a b : Int} (h : a = b) : Ending.returned (.int k a) = .returned (.int k b) := by rw [h]
theorem place_any (t : JV) (r : RV) (name : ByteArray) (w : World) (ht : TreeOf w w.heap.size t r) (ot : t.Ok) :
 Calls Tryz.prog 102 #[r.val, .string name] w fun e w' => e = .returned (.int .i64 (placeI (t.place name))) /\ Below w.heap.size w w' := by
 cases ht with
 | @mk _ l m rs rms hl el hcl hm em hcn hcm =>
 obtain ⟨k, n, s, pl, nl, cl, pm, nm, cm⟩ := r
 cases ot with
 | mk _ _ _ bl bm okl oks okm =>
 dsimp only [RV.val] at *
 have eM := rd_nlen hm
 have hA0 : VAt (w.alloc (.cells #[.int .i64 k, .int .i64 n, .string s, .slice pl nl cl, .slice pm nm cm] 31)) w.heap.size ⟨k, n, s, pl, nl, cl, pm, nm, cm⟩ := heap_alloc_at rfl
 have hB0 : Below w.heap.size w (w.alloc (.cells #[.int .i64 k, .int .i64 n, .string s, .slice pl nl cl, .slice pm nm cm] 31)) := (Below.refl _ _).alloc (Nat.le_refl _) _
 have HN := Lib.hid hcn
 have HM := Lib.hid hm
 have E2 : Hid (m.length = nm /\ rms.length = nm) := ⟨by omega, by omega⟩
 have hnm : nm <= 1466015503658 := by omega
 clear hcl hcn hcm hl hm okl oks okm el em bl bm eM
 by_cases hk : k = 6
 ·subst hk
  have hpl : (JV.mk 6 n s l m).place name = m.findIdx? (fun p => decide (p.1 = name)) := by simp [JV.place, JV.mem]
  rw [hpl]
  clear hpl
  go_enter Tryz.func102, Tryz.ntmps102
  go_wp2_with fail
  go_loopw [13] (fun i wr => ∃ k : Nat, k <= nm /\ i = .int .i64 k /\ Hid (∀ j y, j < k -> m[j]? = some y -> decide (y.1 = name) = false) /\ Below w.heap.size w wr) (fun i _ => nm - (intOf i).toNat)
  case atStart => exact ⟨0, Nat.zero_le _, rfl, fun j y h => by omega, hB0⟩
  case round =>
   obtain ⟨k, hk, rfl, hno, hbr⟩ := hrel
   have HNO := Lib.hid hno.out
   clear hno
   by_cases hlt : k < nm
   ·obtain ⟨tx, htx⟩ : ∃ x, m[k]? = some x := ⟨_, List.getElem?_eq_getElem (by have := E2.out; omega)⟩
    obtain ⟨x, hx⟩ : ∃ x, rms[k]? = some x := ⟨_, List.getElem?_eq_getElem (by have := E2.out; omega)⟩
    obtain ⟨b1, o1, rfl, hb1, hc1⟩ := rd_at' (HM.out.below hbr (Nat.le_refl _)) hx
    have f0 := hc1 0 _ rfl
    have f1 := hc1 1 _ rfl
    have f2 := hc1 2 _ rfl
    have f3 := hc1 3 _ rfl
    have f4 := hc1 4 _ rfl
    have f5 := hc1 5 _ rfl
    rw [Nat.add_zero] at f0
    have en := HN.out k tx x htx hx
    have HTX := Lib.hid htx
    have hz := hbr.size
    have HBR := Lib.hid hbr
    clear hc1 htx hx hbr
    by_cases hnx : x.name = name
    ·have hq : (x.name.toList == name.toList) = true := by rw [str_beq]; simpa using hnx
     have HF := Lib.hid (find_at (p := fun p : ByteArray × JV => decide (p.1 = name)) HTX.out (by rw [en]; simpa using hnx) HNO.out)
     clear hnx en
     go_wp2_with fail
     go_ret
     exact ⟨ret_int (by rw [HF.out]; rfl), HBR.out.alloc hz _⟩
    ·have hq : (x.name.toList == name.toList) = false := by rw [str_beq]; simpa using hnx
     have HNX : Hid (∀ j y, j < k + 1 -> m[j]? = some y -> decide (y.1 = name) = false) := by
      intro j y hj hy
      by_cases e : j = k
      ·subst e
       have h := HTX.out
       rw [hy] at h
       cases h
       rw [en]; simpa using hnx
      ·exact HNO.out j y (by omega) hy
     clear hnx en
     go_wp2_with fail
     go_roundw
     case rel => exact ⟨k + 1, by omega, by go_num, HNX, HBR.out.alloc hz _⟩
     case measure => simp [intOf]; omega
   ·obtain rfl : k = nm := by omega
    have HF := Lib.hid (find_not (p := fun p : ByteArray × JV => decide (p.1 = name)) (l := m) (fun j y hy => HNO.out j y (by have := (List.getElem?_eq_some_iff.1 hy).1; have := E2.out; omega) hy))
    go_wp2_with fail
    go_ret
    exact ⟨ret_int (by rw [HF.out]; rfl), hbr⟩
 ·have hpl : placeI ((JV.mk k n s l m).place name) = -1 := by simp [JV.place, JV.mem, hk, placeI]
  have HP := Lib.hid hpl
  have hq : (k != 6) = true := by simpa using hk
  clear hpl hk
  go_enter Tryz.func102, Tryz.ntmps102
  go_wp2_with fail
  go_ret
  exact ⟨ret_int HP.out.symm, hB0⟩
end
end Go.Proofs.YtfgjimpmpckgpaaGreatDoor
