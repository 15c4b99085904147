import Derived.Test.YthgkgjcnmahacaaSc01
import Derived.Test.YthgkgjcnmahacaaSc00
import Derived.ProofKit
import Derived.Below
import Derived.Test.YthgkgjcnmahacaaProg
import Derived.WalkKit
import Derived.WalkSpells
import Derived.WalkLawsBesides
import Derived.BigQuiet
import Derived.Deep.QuietTactic
import Derived.Lib.Hide
import Derived.Maps.OwnSet
import Derived.StringKeys
import Derived.Deep.Draws
import Derived.OpenShut
import Derived.Laws.AppendOwnNone
section
/- Where a member stands; what is found; walked. -/
set_option linter.unusedSimpArgs false
set_option linter.unusedVariables false
namespace Go.Proofs.Ythgkgjcnmahacaa
open Go.RowKit Go.OpenShut

/-- A map's members (of another value: none). -/
def JV.mem : JV → List (ByteArray × JV) | .mk k _ _ _ m => if k = 6 then m else []
/-- The place of the first member of a name. -/
def JV.place (t : JV) (name : ByteArray) : Option Nat := t.mem.findIdx? (fun p => decide (p.1 = name))
def JV.get (t : JV) (name : ByteArray) : Option JV := (t.place name).bind fun i => t.mem[i]?.map (·.2)
def JV.zero : JV := .mk 0 0 ⟨#[]⟩ [] []
def RV.zero : RV := ⟨0, 0, ⟨#[]⟩, none, 0, 0, none, 0, 0⟩
theorem TreeOf.zero (w : World) (B : Nat) : TreeOf w B JV.zero RV.zero :=
  TreeOf.mk (r := RV.zero) (rs := []) (rms := []) (Rd.nil _ _) rfl (fun i t q h => by simp at h) (Rd.nil _ _) rfl (fun i p q h => by simp at h) (fun i p q h => by simp at h)
def placeI (o : Option Nat) : Int := match o with
  | some i => i
  | none => -1
theorem find_at {α : Type} {p : α → Bool} {l : List α} {k : Nat} {x : α} (hx : l[k]? = some x) (hp : p x = true) (hno : ∀ (j : Nat) (y : α), j < k → l[j]? = some y → p y = false) : l.findIdx? p = some k := by
  rw [List.findIdx?_eq_some_iff_getElem]
  obtain ⟨h, e⟩ := List.getElem?_eq_some_iff.1 hx
  refine ⟨h, by rw [e]; exact hp, fun j hj => ?_⟩
  have := hno j _ hj (List.getElem?_eq_getElem (by omega))
  simpa using this
theorem find_not {α : Type} {p : α → Bool} {l : List α} (hno : ∀ (j : Nat) (y : α), l[j]? = some y → p y = false) : l.findIdx? p = none := by
  rw [List.findIdx?_eq_none_iff]
  intro x hx
  obtain ⟨i, hi⟩ := List.getElem?_of_mem hx
  exact hno i x hi
theorem ret_int {k : IntKind} {a b : Int} (h : a = b) : Ending.returned (.int k a) = .returned (.int k b) := by rw [h]

set_option maxRecDepth 100000 in
set_option maxHeartbeats 2000000 in
theorem place_any (t : JV) (r : RV) (name : ByteArray) (w : World) (ht : TreeOf w w.heap.size t r) (ot : t.Ok) :
    Calls Try.prog 78 #[r.val, .string name] w fun e w' => e = .returned (.int .i64 (placeI (t.place name))) ∧ Below w.heap.size w w' := by
  cases ht with
  | @mk _ l m rs rms hl el hcl hm em hcn hcm =>
  obtain ⟨k, n, s, pl, nl, cl, pm, nm, cm⟩ := r
  cases ot with
  | mk _ _ _ bl bm okl oks okm =>
  dsimp only [RV.val] at *
  have eM := rd_nlen hm
  have hA0 : VAt (w.alloc (.cells #[.int .i64 k, .int .i64 n, .string s, .slice pl nl cl, .slice pm nm cm] 25)) w.heap.size ⟨k, n, s, pl, nl, cl, pm, nm, cm⟩ := heap_alloc_at rfl
  have hB0 : Below w.heap.size w (w.alloc (.cells #[.int .i64 k, .int .i64 n, .string s, .slice pl nl cl, .slice pm nm cm] 25)) := (Below.refl _ _).alloc (Nat.le_refl _) _
  have HN := Lib.hid hcn
  have HM := Lib.hid hm
  have E2 : Hid (m.length = nm ∧ rms.length = nm) := ⟨by omega, by omega⟩
  have hnm : nm ≤ 1466015503658 := by omega
  clear hcl hcn hcm hl hm okl oks okm el em bl bm eM
  by_cases hk : k = 6
  · subst hk
    have hpl : (JV.mk 6 n s l m).place name = m.findIdx? (fun p => decide (p.1 = name)) := by simp [JV.place, JV.mem]
    rw [hpl]
    clear hpl
    go_enter Try.func78, Try.ntmps78
    go_wp2_with fail
    go_loopw [13] (fun i wr => ∃ k : Nat, k ≤ nm ∧ i = .int .i64 k ∧ Hid (∀ j y, j < k → m[j]? = some y → decide (y.1 = name) = false) ∧ Below w.heap.size w wr) (fun i _ => nm - (intOf i).toNat)
    case atStart => exact ⟨0, Nat.zero_le _, rfl, fun j y h => by omega, hB0⟩
    case round =>
      obtain ⟨k, hk, rfl, hno, hbr⟩ := hrel
      have HNO := Lib.hid hno.out
      clear hno
      by_cases hlt : k < nm
      · obtain ⟨tx, htx⟩ : ∃ x, m[k]? = some x := ⟨_, List.getElem?_eq_getElem (by have := E2.out; omega)⟩
        obtain ⟨x, hx⟩ : ∃ x, rms[k]? = some x := ⟨_, List.getElem?_eq_getElem (by have := E2.out; omega)⟩
        obtain ⟨b1, o1, rfl, hb1, hc1⟩ := rd_at' (HM.out.below hbr (Nat.le_refl _)) hx
        have f0 := hc1 0 _ rfl
        have f1 := hc1 1 _ rfl
        have f2 := hc1 2 _ rfl
        have f3 := hc1 3 _ rfl
        have f4 := hc1 4 _ rfl
        have f5 := hc1 5 _ rfl
        rw [Nat.add_zero] at f0
        have en := HN.out k tx x htx hx
        have HTX := Lib.hid htx
        have hz := hbr.size
        have HBR := Lib.hid hbr
        clear hc1 htx hx hbr
        by_cases hnx : x.name = name
        · have hq : (x.name.toList == name.toList) = true := by rw [str_beq]; simpa using hnx
          have HF := Lib.hid (find_at (p := fun p : ByteArray × JV => decide (p.1 = name)) HTX.out (by rw [en]; simpa using hnx) HNO.out)
          clear hnx en
          go_wp2_with fail
          go_ret
          exact ⟨ret_int (by rw [HF.out]; rfl), HBR.out.alloc hz _⟩
        · have hq : (x.name.toList == name.toList) = false := by rw [str_beq]; simpa using hnx
          have HNX : Hid (∀ j y, j < k + 1 → m[j]? = some y → decide (y.1 = name) = false) := by
            intro j y hj hy
            by_cases e : j = k
            · subst e
              have h := HTX.out
              rw [hy] at h
              cases h
              rw [en]; simpa using hnx
            · exact HNO.out j y (by omega) hy
          clear hnx en
          go_wp2_with fail
          go_roundw
          case rel => exact ⟨k + 1, by omega, by go_num, HNX, HBR.out.alloc hz _⟩
          case measure => simp [intOf]; omega
      · obtain rfl : k = nm := by omega
        have HF := Lib.hid (find_not (p := fun p : ByteArray × JV => decide (p.1 = name)) (l := m) (fun j y hy => HNO.out j y (by have := (List.getElem?_eq_some_iff.1 hy).1; have := E2.out; omega) hy))
        go_wp2_with fail
        go_ret
        exact ⟨ret_int (by rw [HF.out]; rfl), hbr⟩
  · have hpl : placeI ((JV.mk k n s l m).place name) = -1 := by simp [JV.place, JV.mem, hk, placeI]
    have HP := Lib.hid hpl
    have hq : (k != 6) = true := by simpa using hk
    clear hpl hk
    go_enter Try.func78, Try.ntmps78
    go_wp2_with fail
    go_ret
    exact ⟨ret_int HP.out.symm, hB0⟩
end Go.Proofs.Ythgkgjcnmahacaa
end

section
/- slices.Clone at api.Member, walked: a slice of the call's own with the same elements. -/
set_option linter.unusedSimpArgs false
set_option linter.unusedVariables false
namespace Go.Proofs.Ythgkgjcnmahacaa
open Go.RowKit

set_option maxRecDepth 100000 in
set_option maxHeartbeats 400000 in
theorem cloneM_any {α : Type} {enc : α → List Value} (C : Codec enc 6) (w : World) (p : Option Addr) (n c : Nat) (xs : List α) (hv : Rd w w.heap.size enc 6 (.slice p n c) xs) (hsz : xs.length * 96 ≤ 140737488355328) :
    Calls Try.prog 76 #[.slice p n c] w fun e w' => ∃ p' c', e = .returned (.slice p' n c') ∧ (p = none ↔ p' = none) ∧ Own w' w.heap.size 90 enc 6 (.slice p' n c') xs ∧ Below w.heap.size w w' := by
  have hn : n = xs.length := by
    obtain ⟨_, _, e, _⟩ := hv
    simp only [Value.slice.injEq] at e; exact e.2.1
  subst hn
  have HS := Lib.hid hsz
  have HV := Lib.hid hv
  cases p with
  | none =>
    have h0 : xs.length = 0 ∧ c = 0 := by
      obtain ⟨p', cap, he, hlc, hcm, hp0, hp⟩ := hv
      simp only [Value.slice.injEq] at he
      obtain ⟨rfl, h1, rfl⟩ := he
      have := hp0 rfl
      omega
    obtain ⟨h0, rfl⟩ := h0
    obtain rfl := List.eq_nil_of_length_eq_zero h0
    have hnil : ∀ W, (Go.binOp .eql 23 (.slice none 0 0) (.slice none 0 0)).run Try.prog W = .ok (.bool true) W := fun W => Lib.run_eql_slice_nil W 23 90 none 0 0 0 0 Try.underlying23
    clear hv
    go_enter Try.func76, Try.ntmps76
    go_wp2
    go_ret
    exact ⟨none, 0, rfl, by simp, Own.nil w _ _, Below.refl _ _⟩
  | some a =>
    have hnil : ∀ W, (Go.binOp .eql 23 (.slice (some a) xs.length c) (.slice none 0 0)).run Try.prog W = .ok (.bool false) W := fun W => Lib.run_eql_slice_nil W 23 90 (some a) xs.length c 0 0 Try.underlying23
    have hO : Own (w.alloc (.cells #[] 90)) w.heap.size 90 enc 6 (.slice (some ⟨w.heap.size, 0, none⟩) 0 0) ([] : List α) := Own.made (Nat.le_refl _)
    have hB0 : Below w.heap.size w (w.alloc (.cells #[] 90)) := (Below.refl _ _).alloc (Nat.le_refl _) _
    have HR := Lib.hid (HV.out.below hB0 (Nat.le_refl _))
    clear hv
    go_enter Try.func76, Try.ntmps76
    go_wp2_with (at_builtin; refine wpList_append_rd slM C (w.alloc (.cells #[] 90)) rfl (.tmp 5) (.tmp 6) rfl (v := .slice (some ⟨w.heap.size, 0, none⟩) 0 0) rfl rfl hO HR.out (by have := HS.out; simp; unfold maxLen; omega) (by have := HS.out; simp; omega) (by simp) ?_; intro v1 w1 ho1 hg1 hat1)
    have hb1 : Below w.heap.size w w1 := Below.appended hB0 hg1 hO (by simp)
    rw [List.nil_append] at ho1
    obtain ⟨p1, c1, rfl, _, _⟩ := ho1.len
    have hp1 : p1 ≠ none := by
      rintro rfl
      rcases hat1 with h | h <;> simp [Value.ownBlock] at h
    go_ret
    refine ⟨p1, c1, rfl, ⟨(fun h => by cases h), (fun h => absurd h hp1)⟩, ho1, hb1⟩
end Go.Proofs.Ythgkgjcnmahacaa
end

section
/- A member found; a map's own list of members; walked. -/
set_option linter.unusedSimpArgs false
set_option linter.unusedVariables false
namespace Go.Proofs.Ythgkgjcnmahacaa
open Go.RowKit Go.OpenShut

/-- A value and a truth are told. -/
def GetRet (w : World) (o : Option JV) (e : Ending) (w' : World) : Prop :=
  ∃ r b, e = .returned (.tuple #[RV.val r, .bool b]) ∧ b = o.isSome ∧ TreeOf w' w'.heap.size (o.getD JV.zero) r ∧ Below w.heap.size w w'

theorem getM {m : List (ByteArray × JV)} {name : ByteArray} {i : Nat} (h : m.findIdx? (fun p => decide (p.1 = name)) = some i) : ∃ p, m[i]? = some p ∧ p.1 = name := by
  rw [List.findIdx?_eq_some_iff_getElem] at h
  obtain ⟨h1, h2, _⟩ := h
  exact ⟨m[i], List.getElem?_eq_getElem h1, by simpa using h2⟩
theorem place_mem {t : JV} {name : ByteArray} {i : Nat} (h : t.place name = some i) : ∃ p, t.m[i]? = some p ∧ t.k = 6 ∧ t.get name = some p.2 := by
  obtain ⟨k, n, s, l, m⟩ := t
  have hp := h
  by_cases hk : k = 6
  · subst hk
    have e : (JV.mk 6 n s l m).mem = m := rfl
    unfold JV.place at h
    rw [e] at h
    obtain ⟨p, h1, h2⟩ := getM h
    refine ⟨p, h1, rfl, ?_⟩
    unfold JV.get
    rw [hp, e]
    simp [h1]
  · have e : (JV.mk k n s l m).mem = [] := by simp [JV.mem, hk]
    unfold JV.place at h
    rw [e] at h
    simp at h
/-- Five cells stored. -/
theorem VAt.stored {W : World} {g : Nat} {r : RV} (h : VAt W g r) (q : RV) :
    VAt (((((W.setCell ⟨g, 0, none⟩ (.int .i64 q.k)).setCell ⟨g, 1, none⟩ (.int .i64 q.n)).setCell ⟨g, 2, none⟩ (.string q.s)).setCell ⟨g, 3, none⟩ (.slice q.pl q.nl q.cl)).setCell ⟨g, 4, none⟩ (.slice q.pm q.nm q.cm)) g q := by
  unfold VAt at h ⊢
  simp [World.setCell, Array.getElem?_modify, h]
theorem VAt.frozen {W : World} {g : Nat} {r : RV} (h : VAt W g r) (j : Nat) : W.frozen? ⟨g, j, none⟩ = false := by
  unfold VAt at h
  simp [World.frozen?, h]
theorem Below.stored {B g : Nat} {w W : World} (h : Below B w W) (hg : B ≤ g) (q : RV) :
    Below B w (((((W.setCell ⟨g, 0, none⟩ (.int .i64 q.k)).setCell ⟨g, 1, none⟩ (.int .i64 q.n)).setCell ⟨g, 2, none⟩ (.string q.s)).setCell ⟨g, 3, none⟩ (.slice q.pl q.nl q.cl)).setCell ⟨g, 4, none⟩ (.slice q.pm q.nm q.cm)) :=
  ((((h.setCell (p := ⟨g, 0, none⟩) hg _).setCell (p := ⟨g, 1, none⟩) hg _).setCell (p := ⟨g, 2, none⟩) hg _).setCell (p := ⟨g, 3, none⟩) hg _).setCell (p := ⟨g, 4, none⟩) hg _

set_option maxRecDepth 100000 in
set_option maxHeartbeats 2000000 in
theorem get_any (t : JV) (r : RV) (name : ByteArray) (w : World) (ht : TreeOf w w.heap.size t r) (ot : t.Ok) :
    Calls Try.prog 51 #[r.val, .string name] w (GetRet w (t.get name)) := by
  obtain ⟨k, n, s, pl, nl, cl, pm, nm, cm⟩ := r
  dsimp only [RV.val] at *
  have HT := Lib.hid ht
  have HO := Lib.hid ot
  have hA0 : VAt ((w.alloc (.cells #[.int .i64 k, .int .i64 n, .string s, .slice pl nl cl, .slice pm nm cm] 25)).alloc (.cells #[.int .i64 0, .int .i64 0, .string ⟨#[]⟩, .slice none 0 0, .slice none 0 0] 25)) w.heap.size ⟨k, n, s, pl, nl, cl, pm, nm, cm⟩ := heap_alloc_lt (by simp) (heap_alloc_at rfl)
  have hA1 : VAt ((w.alloc (.cells #[.int .i64 k, .int .i64 n, .string s, .slice pl nl cl, .slice pm nm cm] 25)).alloc (.cells #[.int .i64 0, .int .i64 0, .string ⟨#[]⟩, .slice none 0 0, .slice none 0 0] 25)) (w.heap.size + 1) RV.zero := heap_alloc_at (by simp)
  have hB0 := below2 w (.cells #[.int .i64 k, .int .i64 n, .string s, .slice pl nl cl, .slice pm nm cm] 25) (.cells #[.int .i64 0, .int .i64 0, .string ⟨#[]⟩, .slice none 0 0, .slice none 0 0] 25)
  clear ht ot
  go_enter Try.func51, Try.ntmps51
  go_upto_region 1 with fail
  obtain ⟨W0, hW0⟩ : ∃ W0, ((w.alloc (.cells #[.int .i64 k, .int .i64 n, .string s, .slice pl nl cl, .slice pm nm cm] 25)).alloc (.cells #[.int .i64 0, .int .i64 0, .string ⟨#[]⟩, .slice none 0 0, .slice none 0 0] 25)) = W0 := ⟨_, rfl⟩
  rw [hW0] at hA0 hA1 hB0 ⊢
  clear hW0
  have p0 := hA0.cell 0 rfl
  have p1 := hA0.cell 1 rfl
  have p2 := hA0.cell 2 rfl
  have p3 := hA0.cell 3 rfl
  have p4 := hA0.cell 4 rfl
  go_upto_region 2 with (go_at_call 78; refine (place_any t ⟨k, n, s, pl, nl, cl, pm, nm, cm⟩ name _ (HT.out.under hB0 hB0.size) HO.out).mono ?_; rintro e w1 ⟨rfl, hb1⟩)
  have hzz : w.heap.size + 1 < W0.heap.size := hA1.lt
  have HA1 : VAt w1 (w.heap.size + 1) RV.zero := hA1.under hb1 hzz
  have HA0 : VAt w1 w.heap.size ⟨k, n, s, pl, nl, cl, pm, nm, cm⟩ := hA0.under hb1 (by omega)
  have HB1 := hB0.trans (hb1.mono hB0.size)
  have hTw := Lib.hid (HT.out.under HB1 (Nat.le_refl _))
  clear p0 p1 p2 p3 p4 hA0 hA1 hB0 hb1
  have z0 := HA1.cell 0 rfl
  have z1 := HA1.cell 1 rfl
  have z2 := HA1.cell 2 rfl
  have z3 := HA1.cell 3 rfl
  have z4 := HA1.cell 4 rfl
  have y0 := HA1.frozen 0
  have y1 := HA1.frozen 1
  have y2 := HA1.frozen 2
  have y3 := HA1.frozen 3
  have y4 := HA1.frozen 4
  have p4 := HA0.cell 4 rfl
  dsimp only [RV.zero] at z0 z1 z2 z3 z4 p4
  have HZ := Lib.hid HA1
  clear HA1 HA0
  generalize hp : t.place name = o
  cases o with
  | none =>
    have HG : Hid (t.get name = none) := by unfold Hid JV.get; rw [hp]; rfl
    have hn : placeI (none : Option Nat) = -1 := rfl
    rw [hn]
    clear hp hn
    go_wp2_with fail
    have HZ2 := HZ.out.stored RV.zero
    refine bodyPost_ret (v := .tuple #[RV.val RV.zero, .bool false]) (by simp [results, Try.results51, go_sem, RV.zero, z0, z1, z2, z3, z4]) rfl ⟨RV.zero, false, rfl, by rw [HG.out]; rfl, by rw [HG.out]; exact TreeOf.zero _ _, Below.stored HB1 (by omega) RV.zero⟩
  | some i =>
    obtain ⟨p, hm1, hk6, hget⟩ := place_mem hp
    have HG := Lib.hid hget
    have hn : placeI (some i) = (i : Int) := rfl
    rw [hn]
    clear hp hn hget
    have hT2 := hTw.out
    generalize hr : (⟨k, n, s, pl, nl, cl, pm, nm, cm⟩ : RV) = r at hT2
    cases hT2 with
    | @mk _ l m rs rms hl el hcl hm em hcn hcm =>
    subst hr
    dsimp only [JV.m] at *
    have hi := (List.getElem?_eq_some_iff.1 hm1).1
    obtain ⟨q, hq⟩ : ∃ q, rms[i]? = some q := ⟨_, List.getElem?_eq_getElem (by omega)⟩
    obtain ⟨b1, o1, rfl, hb1, hc1⟩ := rd_at' hm hq
    have HTq := Lib.hid (hcm i p q hm1 hq)
    have f0 := hc1 0 _ rfl
    have f1 := hc1 1 _ rfl
    have f2 := hc1 2 _ rfl
    have f3 := hc1 3 _ rfl
    have f4 := hc1 4 _ rfl
    have f5 := hc1 5 _ rfl
    have hi0 : (0 : Int) ≤ (i : Int) := Int.natCast_nonneg _
    have hi1 : (i : Int) < (nm : Int) := by have := rd_nlen hm; omega
    clear hcl hcn hcm hl hm em el hc1 hm1 hq
    go_wp2_with fail
    have HZ2 := HZ.out.stored q.v
    have HBs : Below w1.heap.size w1 w1 := Below.refl _ _
    refine bodyPost_ret (v := .tuple #[RV.val q.v, .bool true]) (by simp [results, Try.results51, go_sem, z0, z1, z2, z3, z4]) rfl ⟨q.v, true, rfl, by rw [HG.out]; rfl, ?_, Below.stored HB1 (by omega) q.v⟩
    rw [HG.out]
    exact HTq.out.under (Below.stored (Below.refl _ _) (by omega) q.v) (by have := HB1.size; simp; omega)
end Go.Proofs.Ythgkgjcnmahacaa
end

section
/- A map with another member; walked. -/
set_option linter.unusedSimpArgs false
set_option linter.unusedVariables false
namespace Go.Proofs.Ythgkgjcnmahacaa
open Go.RowKit Go.OpenShut

/-- Members' cells read as members. -/
structure MemsOf (w : World) (B : Nat) (ms : List (ByteArray × JV)) (rms : List RM) : Prop where
  len : ms.length = rms.length
  name : ∀ (i : Nat) (p : ByteArray × JV) (q : RM), ms[i]? = some p → rms[i]? = some q → p.1 = q.name
  val : ∀ (i : Nat) (p : ByteArray × JV) (q : RM), ms[i]? = some p → rms[i]? = some q → TreeOf w B p.2 q.v
theorem MemsOf.under {w w' : World} {B B' : Nat} {ms : List (ByteArray × JV)} {rms : List RM} (h : MemsOf w B ms rms) (hb : Below B w w') (hB : B ≤ B') : MemsOf w' B' ms rms :=
  ⟨h.len, h.name, fun i p q h1 h2 => (h.val i p q h1 h2).under hb hB⟩
theorem MemsOf.nil (w : World) (B : Nat) : MemsOf w B [] [] := ⟨rfl, fun i p q h => by simp at h, fun i p q h => by simp at h⟩
theorem MemsOf.set {w : World} {B : Nat} {ms : List (ByteArray × JV)} {rms : List RM} (h : MemsOf w B ms rms) (i : Nat) {p : ByteArray × JV} {q : RM} (hn : p.1 = q.name) (ht : TreeOf w B p.2 q.v) : MemsOf w B (ms.set i p) (rms.set i q) := by
  refine ⟨by rw [List.length_set, List.length_set, h.len], fun j a b h1 h2 => ?_, fun j a b h1 h2 => ?_⟩
  · rw [List.getElem?_set] at h1 h2
    split at h1
    · rename_i e
      rw [if_pos e] at h2
      split at h1
      · rw [if_pos (by rw [← h.len]; assumption)] at h2
        cases h1; cases h2; exact hn
      · cases h1
    · rename_i e
      rw [if_neg e] at h2
      exact h.name j a b h1 h2
  · rw [List.getElem?_set] at h1 h2
    split at h1
    · rename_i e
      rw [if_pos e] at h2
      split at h1
      · rw [if_pos (by rw [← h.len]; assumption)] at h2
        cases h1; cases h2; exact ht
      · cases h1
    · rename_i e
      rw [if_neg e] at h2
      exact h.val j a b h1 h2
theorem MemsOf.snoc {w : World} {B : Nat} {ms : List (ByteArray × JV)} {rms : List RM} (h : MemsOf w B ms rms) {p : ByteArray × JV} {q : RM} (hn : p.1 = q.name) (ht : TreeOf w B p.2 q.v) : MemsOf w B (ms ++ [p]) (rms ++ [q]) := by
  have key : ∀ (j : Nat) (a : ByteArray × JV) (b : RM), (ms ++ [p])[j]? = some a → (rms ++ [q])[j]? = some b → (ms[j]? = some a ∧ rms[j]? = some b) ∨ (a = p ∧ b = q) := by
    intro j a b h1 h2
    have hl := h.len
    by_cases hj : j < ms.length
    · rw [List.getElem?_append_left hj] at h1
      rw [List.getElem?_append_left (by omega)] at h2
      exact .inl ⟨h1, h2⟩
    · rw [List.getElem?_append_right (by omega)] at h1 h2
      have : j - ms.length = 0 := by
        have := (List.getElem?_eq_some_iff.1 h1).1
        simp at this; omega
      rw [this] at h1
      rw [← hl, this] at h2
      simp at h1 h2
      exact .inr ⟨h1.symm, h2.symm⟩
  refine ⟨by simp [h.len], fun j a b h1 h2 => ?_, fun j a b h1 h2 => ?_⟩
  · rcases key j a b h1 h2 with ⟨h1, h2⟩ | ⟨rfl, rfl⟩
    · exact h.name j a b h1 h2
    · exact hn
  · rcases key j a b h1 h2 with ⟨h1, h2⟩ | ⟨rfl, rfl⟩
    · exact h.val j a b h1 h2
    · exact ht
theorem TreeOf.mems {w : World} {B : Nat} {t : JV} {r : RV} (h : TreeOf w B t r) : ∃ rms, Rd w B encM 6 (.slice r.pm r.nm r.cm) rms ∧ MemsOf w B t.m rms ∧ t.k = r.k := by
  cases h with
  | mk hl el hcl hm em hcn hcm => exact ⟨_, hm, ⟨em, hcn, hcm⟩, rfl⟩
theorem TreeOf.map {w : World} {B base : Nat} {ms : List (ByteArray × JV)} {rms : List RM} {pm : Option Addr} {nm cm : Nat} (h : Own w base 90 encM 6 (.slice pm nm cm) rms) (hm : MemsOf w B ms rms) (hB : B ≤ w.heap.size) :
    TreeOf w w.heap.size (.mk 6 0 ⟨#[]⟩ [] ms) ⟨6, 0, ⟨#[]⟩, none, 0, 0, pm, nm, cm⟩ :=
  TreeOf.mk (r := ⟨6, 0, ⟨#[]⟩, none, 0, 0, pm, nm, cm⟩) (rs := []) (rms := rms) (Rd.nil _ _) rfl (fun i t q h => by simp at h) (h.rd codecM) hm.len hm.name (fun i p q h1 h2 => (hm.val i p q h1 h2).mono hB)

/-- What a map with a member of a name has. -/
def putM (o : Option Nat) (ms : List (ByteArray × JV)) (name : ByteArray) (x : JV) : List (ByteArray × JV) := match o with
  | some i => ms.set i (name, x)
  | none => ms ++ [(name, x)]
/-- A map is told: its list of members is the call's own. -/
def MapRet (w : World) (B : Nat) (ms : List (ByteArray × JV)) (e : Ending) (w' : World) : Prop :=
  ∃ pm nm cm rms, e = .returned (RV.val ⟨6, 0, ⟨#[]⟩, none, 0, 0, pm, nm, cm⟩) ∧ Own w' w.heap.size 90 encM 6 (.slice pm nm cm) rms ∧ MemsOf w' B ms rms ∧ Below w.heap.size w w'

theorem grownBy_set (W : World) (b o : Nat) (v : Value) : W.grownBy (W.setCell ⟨b, o, none⟩ v) (some b) :=
  ⟨rfl, rfl, rfl, by simp, fun k _ hk => heap_setCell_other W ⟨b, o, none⟩ k v (fun e => hk (by simp [e]))⟩
theorem grownBy_set5 (W : World) (g : Nat) (q : RV) : W.grownBy (((((W.setCell ⟨g, 0, none⟩ (.int .i64 q.k)).setCell ⟨g, 1, none⟩ (.int .i64 q.n)).setCell ⟨g, 2, none⟩ (.string q.s)).setCell ⟨g, 3, none⟩ (.slice q.pl q.nl q.cl)).setCell ⟨g, 4, none⟩ (.slice q.pm q.nm q.cm)) (some g) :=
  ((((grownBy_set W g 0 _).trans (grownBy_set _ g 1 _)).trans (grownBy_set _ g 2 _)).trans (grownBy_set _ g 3 _)).trans (grownBy_set _ g 4 _)
/-- A member's value stored into a list of the call's own. -/
theorem Own.storedV {w : World} {base : Nat} {g n cap : Nat} {xs : List RM} (h : Own w base 90 encM 6 (.slice (some ⟨g, 0, none⟩) n cap) xs) {k : Nat} {x : RM} (hx : xs[k]? = some x) (q : RV) :
    Own (((((w.setCell ⟨g, k * 6 + 1, none⟩ (.int .i64 q.k)).setCell ⟨g, k * 6 + 2, none⟩ (.int .i64 q.n)).setCell ⟨g, k * 6 + 3, none⟩ (.string q.s)).setCell ⟨g, k * 6 + 4, none⟩ (.slice q.pl q.nl q.cl)).setCell ⟨g, k * 6 + 5, none⟩ (.slice q.pm q.nm q.cm)) base 90 encM 6 (.slice (some ⟨g, 0, none⟩) n cap) (xs.set k ⟨x.name, q⟩) ∧
    w.grownBy (((((w.setCell ⟨g, k * 6 + 1, none⟩ (.int .i64 q.k)).setCell ⟨g, k * 6 + 2, none⟩ (.int .i64 q.n)).setCell ⟨g, k * 6 + 3, none⟩ (.string q.s)).setCell ⟨g, k * 6 + 4, none⟩ (.slice q.pl q.nl q.cl)).setCell ⟨g, k * 6 + 5, none⟩ (.slice q.pm q.nm q.cm)) (some g) := by
  have hk := (List.getElem?_eq_some_iff.1 hx).1
  have gs : ∀ (ys : List RM) (y : RM), k < ys.length → (ys.set k y)[k]? = some y := fun ys y hy => by simp [List.getElem?_set, hy]
  have s1 := Own.storedAt codecM h (j := 1) (y := ⟨x.name, { x.v with k := q.k }⟩) (u := .int .i64 q.k) hx (by decide) rfl
  have s2 := Own.storedAt codecM s1.1 (j := 2) (y := ⟨x.name, { x.v with k := q.k, n := q.n }⟩) (u := .int .i64 q.n) (gs _ _ hk) (by decide) rfl
  have s3 := Own.storedAt codecM s2.1 (j := 3) (y := ⟨x.name, { x.v with k := q.k, n := q.n, s := q.s }⟩) (u := .string q.s) (gs _ _ (by simpa using hk)) (by decide) rfl
  have s4 := Own.storedAt codecM s3.1 (j := 4) (y := ⟨x.name, { x.v with k := q.k, n := q.n, s := q.s, pl := q.pl, nl := q.nl, cl := q.cl }⟩) (u := .slice q.pl q.nl q.cl) (gs _ _ (by simpa using hk)) (by decide) rfl
  have s5 := Own.storedAt codecM s4.1 (j := 5) (y := ⟨x.name, q⟩) (u := .slice q.pm q.nm q.cm) (gs _ _ (by simpa using hk)) (by decide) rfl
  simp only [List.set_set] at s5
  exact ⟨s5.1, (((s1.2.trans s2.2).trans s3.2).trans s4.2).trans s5.2⟩

set_option maxRecDepth 100000 in
set_option maxHeartbeats 2000000 in
theorem members_any (t : JV) (r : RV) (w : World) (B : Nat) (hBw : B ≤ w.heap.size) (ht : TreeOf w B t r) (ot : t.Ok) :
    Calls Try.prog 77 #[r.val] w fun e w' => ∃ p n c rms, e = .returned (.slice p n c) ∧ Own w' w.heap.size 90 encM 6 (.slice p n c) rms ∧ MemsOf w' B t.mem rms ∧ Below w.heap.size w w' := by
  obtain ⟨rms, hm, hms, hk⟩ := ht.mems
  obtain ⟨k, n, s, pl, nl, cl, pm, nm, cm⟩ := r
  obtain ⟨tk, tn, ts, tl, tm⟩ := t
  cases ot with
  | mk _ _ _ bl bm okl oks okm =>
  dsimp only [RV.val, JV.k, JV.m] at *
  subst hk
  have hlen : rms.length ≤ 1466015503658 := by have := hms.len; omega
  have HMS := Lib.hid hms
  have hB0 : Below w.heap.size w (w.alloc (.cells #[.int .i64 tk, .int .i64 n, .string s, .slice pl nl cl, .slice pm nm cm] 25)) := (Below.refl _ _).alloc (Nat.le_refl _) _
  have HM := Lib.hid ((hm.below (hB0.mono hBw) (Nat.le_refl _)).mono (Nat.le_trans hBw hB0.size))
  clear hms hm oks okl okm ht
  by_cases h6 : tk = 6
  · subst h6
    have HE : Hid ((JV.mk 6 tn ts tl tm).mem = tm) := rfl
    go_enter Try.func77, Try.ntmps77
    go_wp2_with (go_at_call 76; refine (cloneM_any codecM _ pm nm cm rms HM.out (by omega)).mono ?_; rintro e w1 ⟨p1, c1, rfl, _, ho1, hb1⟩)
    go_ret
    exact ⟨p1, nm, c1, rms, rfl, ho1.mono hB0.size, by rw [HE.out]; exact HMS.out.under ((hB0.trans (hb1.mono hB0.size)).mono hBw) (Nat.le_refl _), hB0.trans (hb1.mono hB0.size)⟩
  · have HE : Hid ((JV.mk tk tn ts tl tm).mem = []) := by show (if tk = 6 then tm else []) = []; rw [if_neg h6]
    have hq : (tk != 6) = true := by simpa using h6
    clear h6
    go_enter Try.func77, Try.ntmps77
    go_wp2_with fail
    go_ret
    exact ⟨none, 0, 0, [], rfl, Own.nil _ _ _, by rw [HE.out]; exact MemsOf.nil _ _, hB0⟩
end Go.Proofs.Ythgkgjcnmahacaa
end

section
/- A value of JSON that came in reads as a tree. -/
set_option linter.unusedSimpArgs false
set_option linter.unusedVariables false
set_option maxRecDepth 100000
namespace Go.Proofs.Ythgkgjcnmahacaa
open Go Go.RowKit Go.ChangeShapes Go.WideShapes Go.Deep

section
variable {H : Type} {enc : TypeId × Value → H} {W : World} {base b0 : Nat} {spare : Nat → Bool} {held : Bool}
theorem cel1 : Try.prog.cellsOf 2 = 1 := by kernel_rfl
theorem cel2 : Try.prog.cellsOf 3 = 1 := by kernel_rfl
theorem cel3 : Try.prog.cellsOf 9 = 1 := by kernel_rfl
theorem cel4 : Try.prog.cellsOf 22 = 1 := by kernel_rfl
theorem cel5 : Try.prog.cellsOf 23 = 1 := by kernel_rfl

theorem weights_string {t : TypeId} {s : ByteArray} {R : Nat} (h : ∀ n ∈ (DataW.lit (H := H) (.string s.data.toList)).weights Try.prog t, n ≤ R) : s.size ≤ R := by
  have := h s.data.toList.length (by simp [DataW.weights])
  simpa using this

theorem open_val : ∀ (fuel : Nat) (cs : List Value) (x : DataW H × List MemPlace), DataW.trod enc Try.prog W base spare held fuel 25 cs = some x →
    ∃ r t, cs = encV r ∧ TreeOf W W.heap.size t r ∧ ((∀ n ∈ x.1.weights Try.prog 25, n ≤ 140737488351232) → t.Ok) := by
  intro fuel
  induction fuel using Nat.strongRecOn with
  | ind fuel ih =>
    intro cs x h
    obtain ⟨y0, y1, y2, y3, y4, n, rfl, hx1, hlen, t0, t1, t2, t3, t4⟩ := trodF5 Try.underlying25 h
    rw [cellsV] at hlen
    obtain ⟨c0, c1, c2, c3, c4, rfl⟩ : ∃ c0 c1 c2 c3 c4, cs = [c0, c1, c2, c3, c4] := by
      match cs, hlen with
      | [a, b, c, d, e], _ => exact ⟨a, b, c, d, e, rfl⟩
    rw [hx1]
    dsimp only at t0 t1 t2 t3 t4
    rw [cel2] at t0
    rw [cel1] at t1
    rw [cel3] at t2
    rw [cel4] at t3
    rw [cel5] at t4
    simp only [List.drop_zero, List.drop_succ_cons, List.take_succ_cons, List.take_zero] at t0 t1 t2 t3 t4
    obtain ⟨k, e0, f0, w0⟩ := DataW.trod_int Try.underlying3 t0
    obtain ⟨n', e1, f1, w1⟩ := DataW.trod_int Try.underlying2 t1
    obtain ⟨s, e2, f2, w2⟩ := DataW.trod_string Try.underlying9 t2
    simp only [List.cons.injEq, and_true] at e0 e1 e2
    subst e0 e1 e2 f0 f1 f2
    obtain ⟨pl, nl, cl, rs, e3, hr3, hd3⟩ := open_list (Q := fun (r : RV) (d : DataW H) => ∃ t, TreeOf W W.heap.size t r ∧ ((∀ n ∈ d.weights Try.prog 25, n ≤ 140737488351232) → t.Ok)) Try.underlying22 cellsV codecV t3
      (fun m hm cs y hy => by
        obtain ⟨r, t, h1, h2⟩ := ih m (by omega) cs y hy
        exact ⟨r, h1, t, h2⟩)
    obtain ⟨pm, nm, cm, rms, e4, hr4, hd4⟩ := open_list (Q := fun (r : RM) (d : DataW H) => ∃ t, TreeOf W W.heap.size t r.v ∧ ((∀ n ∈ d.weights Try.prog 90, n ≤ 140737488351232) → r.name.size ≤ 140737488351232 ∧ t.Ok)) Try.underlying23 cellsM codecM t4
      (fun m hm cs y hy => by
        obtain ⟨z0, z1, j, rfl, hy1, hlen, u0, u1⟩ := trodF2 Try.underlying90 hy
        rw [cellsM] at hlen
        obtain ⟨a0, a1, a2, a3, a4, a5, rfl⟩ : ∃ a0 a1 a2 a3 a4 a5, cs = [a0, a1, a2, a3, a4, a5] := by
          match cs, hlen with
          | [a, b, c, d, e, f], _ => exact ⟨a, b, c, d, e, f, rfl⟩
        rw [hy1]
        dsimp only at u0 u1
        rw [cel3] at u0
        rw [cellsV] at u1
        simp only [List.drop_zero, List.drop_succ_cons, List.take_succ_cons, List.take_zero] at u0 u1
        obtain ⟨nm, g0, g1, g2⟩ := DataW.trod_string Try.underlying9 u0
        simp only [List.cons.injEq, and_true] at g0
        subst g0 g1
        obtain ⟨r, t, h1, h2, h3⟩ := ih j (by omega) _ _ u1
        refine ⟨⟨nm, r⟩, by rw [h1]; rfl, t, h2, fun hw => ⟨weights_string (weights_struct Try.underlying90 hw (i := 0) rfl rfl), h3 (weights_struct Try.underlying90 hw (i := 1) rfl rfl)⟩⟩)
    simp only [List.cons.injEq, and_true] at e3 e4
    subst e3 e4
    have nl_eq : nl = rs.length := by
      obtain ⟨_, _, e, _⟩ := hr3
      simp only [Value.slice.injEq] at e; exact e.2.1
    have nm_eq : nm = rms.length := by
      obtain ⟨_, _, e, _⟩ := hr4
      simp only [Value.slice.injEq] at e; exact e.2.1
    have hL : ∀ i, i < rs.length → ∃ t : JV, ∀ q, rs[i]? = some q → TreeOf W W.heap.size t q ∧ ((∀ n ∈ y3.1.weights Try.prog 22, n ≤ 140737488351232) → t.Ok) := by
      intro i hi
      obtain ⟨q, hq⟩ : ∃ q, rs[i]? = some q := ⟨_, List.getElem?_eq_getElem hi⟩
      rcases hd3 with ⟨rfl, _⟩ | ⟨es, sp, h1, h2, h3⟩
      · simp at hi
      · obtain ⟨d, hd, t, ht1, ht2⟩ := h3 i q hq
        refine ⟨t, fun q' hq' => ?_⟩
        rw [hq] at hq'
        cases hq'
        refine ⟨ht1, fun hw => ht2 ?_⟩
        rw [h1] at hw
        exact (weights_slice Try.underlying22 hw).2 d (List.mem_of_getElem? hd)
    have hM : ∀ i, i < rms.length → ∃ p : ByteArray × JV, ∀ q, rms[i]? = some q → p.1 = q.name ∧ TreeOf W W.heap.size p.2 q.v ∧ ((∀ n ∈ y4.1.weights Try.prog 23, n ≤ 140737488351232) → p.1.size ≤ 140737488351232 ∧ p.2.Ok) := by
      intro i hi
      obtain ⟨q, hq⟩ : ∃ q, rms[i]? = some q := ⟨_, List.getElem?_eq_getElem hi⟩
      rcases hd4 with ⟨rfl, _⟩ | ⟨es, sp, h1, h2, h3⟩
      · simp at hi
      · obtain ⟨d, hd, t, ht1, ht2⟩ := h3 i q hq
        refine ⟨(q.name, t), fun q' hq' => ?_⟩
        rw [hq] at hq'
        cases hq'
        refine ⟨rfl, ht1, fun hw => ht2 ?_⟩
        rw [h1] at hw
        exact (weights_slice Try.underlying23 hw).2 d (List.mem_of_getElem? hd)
    obtain ⟨ts, hts, hts2⟩ := list_of rs.length hL
    obtain ⟨ps, hps, hps2⟩ := list_of rms.length hM
    refine ⟨⟨k, n', s, pl, nl, cl, pm, nm, cm⟩, .mk k n' s ts ps, rfl, ?_, fun hw => ?_⟩
    · exact TreeOf.mk (r := ⟨k, n', s, pl, nl, cl, pm, nm, cm⟩) hr3 hts (fun i t q h1 h2 => (hts2 i t h1 q h2).1) hr4 hps (fun i p q h1 h2 => (hps2 i p h1 q h2).1) (fun i p q h1 h2 => (hps2 i p h1 q h2).2.1)
    · have v2 := weights_string (weights_struct Try.underlying25 hw (i := 2) rfl rfl)
      have v3 : ∀ n ∈ y3.1.weights Try.prog 22, n ≤ 140737488351232 := weights_struct Try.underlying25 hw (i := 3) rfl rfl
      have v4 : ∀ n ∈ y4.1.weights Try.prog 23, n ≤ 140737488351232 := weights_struct Try.underlying25 hw (i := 4) rfl rfl
      refine .mk w0 w1 v2 ?_ ?_ (fun i x hx => ?_) (fun i p hp => ?_) (fun i p hp => ?_)
      · rcases hd3 with ⟨rfl, _⟩ | ⟨es, sp, h1, h2, _⟩
        · rw [hts]; simp
        · rw [h1] at v3
          have := (weights_slice Try.underlying22 v3).1
          rw [bytesV] at this
          omega
      · rcases hd4 with ⟨rfl, _⟩ | ⟨es, sp, h1, h2, _⟩
        · rw [hps]; simp
        · rw [h1] at v4
          have := (weights_slice Try.underlying23 v4).1
          rw [bytesM] at this
          omega
      · obtain ⟨q, hq⟩ : ∃ q, rs[i]? = some q := ⟨_, List.getElem?_eq_getElem (by have := (List.getElem?_eq_some_iff.1 hx).1; omega)⟩
        exact (hts2 i x hx q hq).2 v3
      · obtain ⟨q, hq⟩ : ∃ q, rms[i]? = some q := ⟨_, List.getElem?_eq_getElem (by have := (List.getElem?_eq_some_iff.1 hp).1; omega)⟩
        exact ((hps2 i p hp q hq).2.2 v4).1
      · obtain ⟨q, hq⟩ : ∃ q, rms[i]? = some q := ⟨_, List.getElem?_eq_getElem (by have := (List.getElem?_eq_some_iff.1 hp).1; omega)⟩
        exact ((hps2 i p hp q hq).2.2 v4).2

theorem open_value {v : Value} {d : DataW H} {p : List MemPlace} (hval : Value.okWide Try.prog W .any b0 25 v) (h : DataW.Trod enc Try.prog W base spare held 25 v d p) :
    ∃ r t, v = RV.val r ∧ TreeOf W W.heap.size t r ∧ ((∀ n ∈ d.weights Try.prog 25, n ≤ 140737488351232) → t.Ok) := by
  obtain ⟨cs, rfl, hsz⟩ := okWide_struct Try.underlying25 hval
  obtain ⟨fuel, hf⟩ := h
  obtain ⟨r, t, h1, h2, h3⟩ := open_val fuel _ _ hf
  refine ⟨r, t, ?_, h2, h3⟩
  have : cs = (encV r).toArray := by
    apply Array.ext'
    simpa [Value.cells] using h1
  rw [this]
  rfl
end
#print axioms open_value
end Go.Proofs.Ythgkgjcnmahacaa
end

section
set_option linter.unusedSimpArgs false
set_option linter.unusedVariables false
namespace Go.Proofs.Ythgkgjcnmahacaa
open Go.RowKit

theorem ret_bool {a b : Bool} (h : a = b) : Ending.returned (.bool a) = .returned (.bool b) := by rw [h]

/-- May something become of an object behind something else? -/
def mayB (was what : Int) : Bool := if what = 1 then was == 0 else if what = 2 ∨ what = 3 then was != 3 else false

set_option maxHeartbeats 400000 in
theorem may_any (was what : Int) (w : World) :
    Calls Try.prog 90 #[.int .i64 was, .int .i64 what] w fun e w' => e = .returned (.bool (mayB was what)) ∧ w = w' := by
  go_enter Try.func90, Try.ntmps90
  go_wp2
  all_goals (go_ret; refine ⟨ret_bool ?_, rfl⟩; simp_all [mayB])

/-- An entry of a trail. -/
structure En where
  seq : Int
  id : ByteArray
  what : Int
deriving DecidableEq

/-- Its numbers fit, its text has a length that may be. -/
def En.ok (e : En) : Prop := (Lit.int .i64 e.seq).wf = true ∧ e.id.size ≤ maxLen ∧ (Lit.int .i64 e.what).wf = true

theorem toList_beq (a b : ByteArray) : (a.toList == b.toList) = decide (a = b) := by
  rw [ByteArray.toList_eq, ByteArray.toList_eq]
  obtain ⟨⟨x⟩⟩ := a
  obtain ⟨⟨y⟩⟩ := b
  by_cases h : x = y
  · simp [h]
  · simp [h]

def En.eqv (a b : En) : Bool := a.seq == b.seq && a.id.toList == b.id.toList && a.what == b.what

/-- An entry, as it lies in three cells. -/
def enAt (w : World) (b o : Nat) (e : Option En) : Prop := ∃ x, e = some x ∧ w.cell? ⟨b, o, none⟩ = some (.int .i64 x.seq) ∧ w.cell? ⟨b, o + 1, none⟩ = some (.string x.id) ∧ w.cell? ⟨b, o + 2, none⟩ = some (.int .i64 x.what)

/-- A slice of entries, as it lies in memory below block B. -/
def RdE (w : World) (B : Nat) (v : Value) (es : List En) : Prop :=
  (∀ e ∈ es, e.ok) ∧ ∃ (p : Option Addr) (cap : Nat), v = .slice p es.length cap ∧ es.length ≤ cap ∧ cap ≤ maxLen ∧ (p = none → cap = 0) ∧
    ∀ a, p = some a → 0 < es.length → ∃ b o, a = ⟨b, o, none⟩ ∧ b < B ∧ ∀ i, i < es.length → enAt w b (o + i * 3) es[i]?

def sameE : List En → List En → Bool
  | [], [] => true
  | a :: l, b :: m => a.eqv b && sameE l m
  | _, _ => false

theorem slice_at {p : Option Addr} {cap n k B : Nat} {C : Nat → Nat → Nat → Prop} (h0 : p = none → cap = 0)
    (h : ∀ a, p = some a → 0 < n → ∃ b o, a = ⟨b, o, none⟩ ∧ b < B ∧ ∀ i, i < n → C b o i) (hk : k < n ∧ n ≤ cap) : ∃ b o, p = some ⟨b, o, none⟩ ∧ b < B ∧ ∀ i, i < n → C b o i := by
  cases p with
  | none => have := h0 rfl; omega
  | some a => obtain ⟨b, o, rfl, hb, hc⟩ := h a rfl (by omega); exact ⟨b, o, rfl, hb, hc⟩

theorem guardE : Try.prog.eqGuardType Try.prog.depth 48 = false := by kernel_rfl
theorem stoodE : Try.prog.stoodInHeld 48 = false := by kernel_rfl
theorem eqlE (a b : Int) (s t : ByteArray) (c d : Int) (w : World) : (Go.binOp .eql 48 (.agg #[.int .i64 a, .string s, .int .i64 c]) (.agg #[.int .i64 b, .string t, .int .i64 d])).run Try.prog w =
    .ok (.bool (a == b && s.toList == t.toList && c == d)) w := by
  have h1 := stoodE
  rw [run_eql_struct]
  simp [go_sem, h1, Try.underlying48]
  by_cases e1 : a = b <;> by_cases e2 : s.toList = t.toList <;> by_cases e3 : c = d <;> simp [e1, e2, e3]
theorem neqE (a b : Int) (s t : ByteArray) (c d : Int) (w : World) : (Go.binOp .neq 48 (.agg #[.int .i64 a, .string s, .int .i64 c]) (.agg #[.int .i64 b, .string t, .int .i64 d])).run Try.prog w =
    .ok (.bool (!(a == b && s.toList == t.toList && c == d))) w := by
  have h1 := stoodE
  rw [run_neq_struct]
  simp [go_sem, h1, Try.underlying48]
  by_cases e1 : a = b <;> by_cases e2 : s.toList = t.toList <;> by_cases e3 : c = d <;> simp [e1, e2, e3]

theorem sameE_snoc {l m : List En} {k : Nat} {x y : En} (hx : l[k]? = some x) (hy : m[k]? = some y) : sameE (l.take (k + 1)) (m.take (k + 1)) = (sameE (l.take k) (m.take k) && x.eqv y) := by
  induction k generalizing l m with
  | zero => cases l <;> cases m <;> simp_all [sameE]
  | succ k ih => 
    cases l with
    | nil => simp at hx
    | cons a l => cases m with
      | nil => simp at hy
      | cons b m => simp only [List.getElem?_cons_succ] at hx hy; simp only [List.take_succ_cons, sameE]; rw [ih hx hy, Bool.and_assoc]
theorem sameE_false {l m : List En} {k : Nat} {x y : En} (hx : l[k]? = some x) (hy : m[k]? = some y) (h : x.eqv y = false) : sameE l m = false := by
  induction k generalizing l m with
  | zero => cases l <;> cases m <;> simp_all [sameE]
  | succ k ih =>
    cases l with
    | nil => simp at hx
    | cons a l => cases m with
      | nil => simp at hy
      | cons b m => simp only [List.getElem?_cons_succ] at hx hy; simp only [sameE]; rw [ih hx hy, Bool.and_false]
theorem sameE_len {l m : List En} (h : l.length ≠ m.length) : sameE l m = false := by
  induction l generalizing m with
  | nil => cases m <;> simp_all [sameE]
  | cons a l ih => cases m with
    | nil => simp [sameE]
    | cons b m => simp only [sameE]; rw [ih (by simpa using h), Bool.and_false]

set_option maxHeartbeats 400000 in
theorem sameEntries_any (w : World) (B : Nat) (v u : Value) (l m : List En) (hv : RdE w B v l) (hu : RdE w B u m) :
    Calls Try.prog 69 #[v, u] w fun e w' => e = .returned (.bool (sameE l m)) ∧ ∃ n, w' = w.drewN n := by
  obtain ⟨_, p, c, rfl, hlc, hcm, hp0, hp⟩ := hv
  obtain ⟨_, q, d, rfl, hmd, hdm, hq0, hq⟩ := hu
  unfold maxLen at hcm hdm
  by_cases hlen : l.length = m.length
  · have hb : ((l.length : Int) != (m.length : Int)) = false := by simp [hlen]
    have hle1 : l.length ≤ m.length := by omega
    have hle2 : m.length ≤ l.length := by omega
    have HL := Lib.hid hlen
    clear hlen
    go_enter Try.func69, Try.ntmps69
    go_wp2
    go_loopw [5] (fun i wr => ∃ k : Nat, k ≤ l.length ∧ i = .int .i64 k ∧ sameE (l.take k) (m.take k) = true ∧ ∃ n, wr = w.drewN n) (fun i _ => l.length - (intOf i).toNat)
    case atStart => exact ⟨0, Nat.zero_le _, rfl, by simp [sameE], 0, rfl⟩
    case round =>
      obtain ⟨k, hk, rfl, hsm, nr, rfl⟩ := hrel
      by_cases hlt : k < l.length
      · obtain ⟨b1, o1, rfl, hb1, hc1⟩ := slice_at (k := k) hp0 hp (by omega)
        obtain ⟨b2, o2, rfl, hb2, hc2⟩ := slice_at (k := k) hq0 hq (by omega)
        have hkm : k < m.length := by omega
        obtain ⟨x, hx, g10, g11, g12⟩ := hc1 k hlt
        obtain ⟨y, hy, g20, g21, g22⟩ := hc2 k (by omega)
        have HX := Lib.hid hx
        have HY := Lib.hid hy
        clear hx hy
        clear hp hq hc1 hc2 hp0 hq0
        have hg := guardE
        have hq := fun W => neqE x.seq y.seq x.id y.id x.what y.what W
        cases hxy : x.eqv y with
        | true =>
          have hq2 : (!(x.seq == y.seq && x.id.toList == y.id.toList && x.what == y.what)) = false := by unfold En.eqv at hxy; rw [hxy]; rfl
          have HS := Lib.hid (sameE_snoc HX.out HY.out)
          rw [hsm, hxy] at HS
          clear hxy
          go_wp2
          go_quiet (fail)
          go_wp2
          go_roundw
          case rel => exact ⟨k + 1, by omega, by go_num, HS.out, _, rfl⟩
          case measure => simp [intOf]; omega
        | false =>
          have hq2 : (!(x.seq == y.seq && x.id.toList == y.id.toList && x.what == y.what)) = true := by unfold En.eqv at hxy; rw [hxy]; rfl
          have HS := Lib.hid (sameE_false HX.out HY.out hxy)
          clear hxy
          go_wp2
          go_quiet (fail)
          go_wp2
          go_ret
          exact ⟨ret_bool HS.out.symm, _, World.drewN_drewN _ _ _⟩
      · go_wp2
        go_ret
        refine ⟨ret_bool ?_, _, rfl⟩
        have e := HL.out
        rw [List.take_of_length_le (by omega), List.take_of_length_le (by omega)] at hsm
        exact hsm.symm
  · have hb : ((l.length : Int) != (m.length : Int)) = true := by simp; omega
    go_enter Try.func69, Try.ntmps69
    go_wp2
    go_ret
    exact ⟨ret_bool (sameE_len hlen).symm, 0, rfl⟩
theorem eqv_eq (a b : En) : a.eqv b = decide (a = b) := by
  obtain ⟨s, i, x⟩ := a
  obtain ⟨t, j, y⟩ := b
  unfold En.eqv
  rw [toList_beq]
  by_cases h1 : s = t <;> by_cases h2 : i = j <;> by_cases h3 : x = y <;> simp [h1, h2, h3]
theorem sameE_eq (l m : List En) : sameE l m = decide (l = m) := by
  induction l generalizing m with
  | nil => cases m <;> simp [sameE]
  | cons a l ih => cases m with
    | nil => simp [sameE]
    | cons b m => simp only [sameE, ih, eqv_eq]; by_cases h1 : a = b <;> by_cases h2 : l = m <;> simp [h1, h2]

theorem same_any (w : World) (B : Nat) (v u : Value) (l m : List En) (hv : RdE w B v l) (hu : RdE w B u m) :
    Calls Try.prog 69 #[v, u] w fun e w' => e = .returned (.bool (decide (l = m))) ∧ ∃ n, w' = w.drewN n := by
  rw [← sameE_eq]
  exact sameEntries_any w B v u l m hv hu
end Go.Proofs.Ythgkgjcnmahacaa
end

section
/- Maps keyed by strings whose elements are values of whatever shape, seen as functions from the key's bytes. Plain laws over any program. -/
set_option linter.unusedSimpArgs false
set_option linter.unusedVariables false
namespace Go.Proofs.Ythgkgjcnmahacaa
open Go Go.Maps Go.WideMaps Go.ChangeMaps Go.MapKept Go.WideShapes Go.RowKit

/-- How an element of whatever shape reads: as itself. -/
def anyElem (v : Value) : Option (DataW Value × List MemPlace) := some (.held v, [])

def mget (D : DataW Value) (s : List UInt8) : Option Value := match D.atKey (.string s) .nil with
  | .held v => some v
  | _ => none

theorem find_insert {H : Type} (x : Lit × DataW H) (q : Lit × DataW H → Bool) (hq : q x = false) : ∀ l : List (Lit × DataW H), (DataW.insert x l).find? q = l.find? q
  | [] => by simp [DataW.insert, hq]
  | y :: r => by
    unfold DataW.insert
    split
    · simp [List.find?_cons, hq]
    · simp only [List.find?_cons]; split
      · rfl
      · exact find_insert x q hq r

theorem find_insert_self {H : Type} (x : Lit × DataW H) (q : Lit × DataW H → Bool) (hq : q x = true) : ∀ l : List (Lit × DataW H), (∀ y ∈ l, q y = false) → (DataW.insert x l).find? q = some x
  | [], _ => by simp [DataW.insert, hq]
  | y :: r, h => by
    unfold DataW.insert
    split
    · simp [List.find?_cons, hq]
    · simp only [List.find?_cons, h y (by simp)]
      exact find_insert_self x q hq r (fun z hz => h z (by simp [hz]))

theorem find_filter {α : Type} (p q : α → Bool) (h : ∀ x, q x = true → p x = true) : ∀ l : List α, (l.filter p).find? q = l.find? q
  | [] => rfl
  | y :: r => by
    simp only [List.filter_cons, List.find?_cons]
    cases hp : p y with
    | true =>
      simp only [if_true, List.find?_cons]
      cases hq : q y with
      | true => rfl
      | false => exact find_filter p q h r
    | false =>
      cases hq : q y with
      | true => rw [h y hq] at hp; cases hp
      | false => simpa using find_filter p q h r

theorem mget_put (E : List (Lit × DataW Value)) (s t : List UInt8) (v : Value) : mget ((DataW.map E).put (.string s) (.held v)) t = if t = s then some v else mget (.map E) t := by
  unfold mget DataW.atKey DataW.put
  dsimp only
  by_cases h : t = s
  · subst h
    rw [find_insert_self _ _ (by simp [Lit.sameKey]) _ (fun y hy => by simpa using (List.mem_filter.1 hy).2)]
    simp
  · rw [find_insert _ _ (by simp [Lit.sameKey]; exact fun e => h e.symm), find_filter _ _ (fun x hx => by
      cases hxk : x.1 <;> simp_all [Lit.sameKey])]
    simp [h]

theorem mget_nil (s : List UInt8) : mget (.map []) s = none := rfl

/-- Block b is a map of at most n entries that holds f's values. -/
def MapF (w : World) (P : Program) (k : TypeId) (b n : Nat) (f : List UInt8 → Option Value) : Prop :=
  ∃ E : List (Lit × DataW Value), w.ownsMap P k anyElem b n (.map E) ∧ ∀ s, mget (.map E) s = f s

section
variable {P : Program} {k : TypeId} {w : World} {b n : Nat} {f : List UInt8 → Option Value}
theorem MapF.made (w : World) (P : Program) (k : TypeId) : MapF (w.alloc (.map #[] 0)) P k w.heap.size 0 (fun _ => none) :=
  ⟨[], World.ownsMap_made w P k anyElem, fun _ => rfl⟩
theorem MapF.lt (h : MapF w P k b n f) : b < w.heap.size := by
  obtain ⟨E, h, _⟩ := h
  exact h.lt
theorem MapF.kept {w' : World} {row : Option Nat} (h : MapF w P k b n f) (hg : w.grownBy w' row) (hne : some b ≠ row) : MapF w' P k b n f := by
  obtain ⟨E, h, he⟩ := h
  exact ⟨E, h.kept hg hne, he⟩
theorem MapF.alloc (h : MapF w P k b n f) (o : Obj) : MapF (w.alloc o) P k b n f := by
  obtain ⟨E, h, he⟩ := h
  exact ⟨E, h.alloc o, he⟩
theorem MapF.drewN (h : MapF w P k b n f) (m : Nat) : MapF (w.drewN m) P k b n f := h
theorem MapF.of_block {w' : World} (h : MapF w P k b n f) (hb : w'.heap[b]? = w.heap[b]?) : MapF w' P k b n f := by
  obtain ⟨E, ⟨es, clock, h1, h2⟩, he⟩ := h
  exact ⟨E, ⟨es, clock, hb.trans h1, h2⟩, he⟩
theorem MapF.below {B : Nat} {w' : World} (h : MapF w P k b n f) (hb : Below B w w') (hB : b < B) : MapF w' P k b n f := h.of_block (hb.block b hB)
theorem MapF.mono (h : MapF w P k b n f) {m : Nat} (hm : n ≤ m) : MapF w P k b m f := by
  obtain ⟨E, h, he⟩ := h
  exact ⟨E, h.mono hm, he⟩

theorem mget_find (E : List (Lit × DataW Value)) (s : List UInt8) : (∃ p, E.find? (fun p => p.1.sameKey (.string s)) = some p ∧ ∀ z : DataW Value, (DataW.map E).atKey (.string s) z = p.2) ∨
    (E.find? (fun p => p.1.sameKey (.string s)) = none ∧ ∀ z : DataW Value, (DataW.map E).atKey (.string s) z = z) := by
  unfold DataW.atKey
  cases h : E.find? (fun p => p.1.sameKey (.string s)) with
  | none => exact .inr ⟨rfl, fun z => by simp [h]⟩
  | some p => exact .inl ⟨p, rfl, fun z => by simp [h]⟩

theorem MapF.look {t e : TypeId} (h : MapF w P k b n f) (hk : P.underlying k = some .string) (ht : P.underlying t = some (.map k e)) {z : Value} (hz : (zeroValue e).run P w = .ok z w) {s : ByteArray} (hs : s.size ≤ maxLen) :
    (Instr.lookup t (.map (some b)) (.string s) false).run P w = .ok ((f s.data.toList).getD z) w := by
  obtain ⟨E, h, he⟩ := h
  obtain ⟨v, ps, hrun, hv⟩ := h.lookup (string_keyed hk) ht hz (zd := .held z) (zp := []) rfl (keyOf_string_mk hk hs)
  rw [hrun, ← he]
  simp only [anyElem, Option.some.injEq, Prod.mk.injEq] at hv
  have hv1 := hv.1
  unfold mget
  rcases mget_find E s.data.toList with ⟨p, _, hp⟩ | ⟨_, hp⟩
  · rw [hp] at hv1 ⊢
    rw [← hv1]; rfl
  · rw [hp] at hv1 ⊢
    cases hv1; rfl
theorem MapF.look_ok {t e : TypeId} (h : MapF w P k b n f) (hk : P.underlying k = some .string) (ht : P.underlying t = some (.map k e)) {z : Value} (hz : (zeroValue e).run P w = .ok z w) {s : ByteArray} (hs : s.size ≤ maxLen) :
    (Instr.lookup t (.map (some b)) (.string s) true).run P w = .ok (.tuple #[(f s.data.toList).getD z, .bool (f s.data.toList).isSome]) w := by
  obtain ⟨E, h, he⟩ := h
  obtain ⟨v, ps, hrun, hv⟩ := h.look_ok (string_keyed hk) ht hz (zd := .held z) (zp := []) rfl (keyOf_string_mk hk hs)
  rw [hrun, ← he]
  simp only [anyElem, Option.some.injEq, Prod.mk.injEq] at hv
  have hv1 := hv.1
  unfold mget
  rcases mget_find E s.data.toList with ⟨p, _, hp⟩ | ⟨_, hp⟩
  · rw [has_true_of_atKey hp]
    rw [hp] at hv1 ⊢
    rw [← hv1]; rfl
  · rw [has_false_of_atKey hp]
    rw [hp] at hv1 ⊢
    cases hv1; rfl
theorem MapF.store {t e : TypeId} (h : MapF w P k b n f) (hk : P.underlying k = some .string) (ht : P.underlying t = some (.map k e)) (hn : n < maxLen) {s : ByteArray} (hs : s.size ≤ maxLen) (v : Value) :
    ∃ w', (Instr.mapUpdate t (.map (some b)) (.string s) v).run P w = .ok () w' ∧ MapF w' P k b (n + 1) (fun u => if u = s.data.toList then some v else f u) ∧ w.grownBy w' (some b) := by
  obtain ⟨E, h, he⟩ := h
  obtain ⟨w', hrun, hown, hg⟩ := h.update (string_keyed hk) ht hn (kl := .string s.data.toList) (keyOf_string_mk hk hs) (d := .held v) (ps := []) rfl
  refine ⟨w', hrun, ⟨_, hown, fun u => ?_⟩, hg⟩
  refine (mget_put E s.data.toList u v).trans ?_
  rw [he u]
end

section
variable {P : Program} (w : World) {ops : Array Oper} {rest : List Oper} {o : Oper} {a : Act} {Q : Exit → Act → World → Prop}
theorem wpList_look_F (hg : o.guard = none) (m x : Operand) (t : TypeId) (hop : o.op = Op.lookup t m x false) (k e : TypeId) (hk : P.underlying k = some .string) (ht : P.underlying t = some (.map k e)) {z : Value} (hz : (zeroValue e).run P w = .ok z w)
    (b n : Nat) (f : List UInt8 → Option Value) (hm : a.eval m = .map (some b)) (hown : MapF w P k b n f) (s : ByteArray) (hx : a.eval x = .string s) (hs : s.size ≤ maxLen) {v : Value} (hv : (f s.data.toList).getD z = v)
    (hK : wpList P ops Q rest (a.put o.dst v) w) : wpList P ops Q (o :: rest) a w := by
  refine wpList_plain hg fun K' hK' => ?_
  have hrun := hown.look hk ht hz hs
  rw [hv] at hrun
  unfold Oper.wp
  simp [execOp, hop, hm, hx, hrun, Result.andThen]
  exact hK' _ _ hK
theorem wpList_store_F (hg : o.guard = none) (m x v : Operand) (t : TypeId) (hop : o.op = Op.mapUpdate t m x v) (k e : TypeId) (hk : P.underlying k = some .string) (ht : P.underlying t = some (.map k e)) 
    (b n : Nat) (f : List UInt8 → Option Value) (hm : a.eval m = .map (some b)) (hown : MapF w P k b n f) (hn : n < maxLen) (s : ByteArray) (hx : a.eval x = .string s) (hs : s.size ≤ maxLen) (val : Value) (hv : a.eval v = val)
    (hK : ∀ w', MapF w' P k b (n + 1) (fun u => if u = s.data.toList then some val else f u) → w.grownBy w' (some b) → wpList P ops Q rest (a.put o.dst undef) w') : wpList P ops Q (o :: rest) a w := by
  refine wpList_plain hg fun K' hK' => ?_
  obtain ⟨w', hrun, h1, h2⟩ := hown.store hk ht hn hs val
  unfold Oper.wp
  simp [execOp, hop, hm, hx, hv, hrun, Result.andThen]
  exact hK' _ _ (hK w' h1 h2)
end
end Go.Proofs.Ythgkgjcnmahacaa
end

section
set_option linter.unusedSimpArgs false
set_option linter.unusedVariables false
namespace Go.Proofs.Ythgkgjcnmahacaa
open Go.RowKit Go.OpenShut

/-- What became last of an id. -/
def lastW (l : List En) (id : ByteArray) : Int := l.foldl (fun a e => if e.id = id then e.what else a) 0
theorem lastW_snoc (l : List En) (e : En) (id : ByteArray) : lastW (l ++ [e]) id = if e.id = id then e.what else lastW l id := by simp [lastW]

/-- Is the entry of place k as it must be? -/
def okAt (l : List En) (floor : Int) (k : Nat) : Bool := match l[k]? with
  | some e => e.seq == floor + 1 + k && mayB (lastW (l.take k) e.id) e.what
  | none => true

def headB (n : Nat) (floor seq : Int) : Bool := decide (0 ≤ floor ∧ floor ≤ seq ∧ seq ≤ 9007199254740991 ∧ seq - floor = n)

def rightB (l : List En) (floor seq : Int) : Bool := headB l.length floor seq && (List.range l.length).all (okAt l floor)

theorem rightB_no {l : List En} {floor seq : Int} (h : headB l.length floor seq = false) : rightB l floor seq = false := by simp [rightB, h]
theorem rightB_yes {l : List En} {floor seq : Int} (h : headB l.length floor seq = true) (ha : ∀ k, k < l.length → okAt l floor k = true) : rightB l floor seq = true := by
  simp only [rightB, h, Bool.true_and, List.all_eq_true, List.mem_range]
  exact ha
theorem rightB_bad {l : List En} {floor seq : Int} {k : Nat} (hk : k < l.length) (h : okAt l floor k = false) : rightB l floor seq = false := by
  unfold rightB
  rw [Bool.and_eq_false_iff]
  right
  rw [Bool.eq_false_iff]
  intro ha
  rw [List.all_eq_true] at ha
  have := ha k (by simpa using hk)
  rw [h] at this
  cases this

set_option maxHeartbeats 1000000 in
theorem refRight_head (w : World) (B : Nat) (v : Value) (l : List En) (floor seq : Int) (hv : RdE w B v l) (hf : (Lit.int .i64 floor).wf = true) (hs : (Lit.int .i64 seq).wf = true) (hh : headB l.length floor seq = false) :
    Calls Try.prog 72 #[v, .int .i64 floor, .int .i64 seq] w fun e w' => e = .returned (.bool (rightB l floor seq)) ∧ ∃ n, w' = w.drewN n := by
  rw [rightB_no hh]
  obtain ⟨_, p, c, rfl, hlc, hcm, hp0, hp⟩ := hv
  unfold maxLen at hcm
  have b1 := bounds_i64 hf
  have b2 := bounds_i64 hs
  have hd : 0 ≤ floor → floor ≤ seq → seq ≤ 9007199254740991 → ((seq - floor != (l.length : Int)) = true) := by
    intro h1 h2 h3
    unfold headB at hh
    simp only [decide_eq_false_iff_not] at hh
    rw [bne_iff_ne]
    intro h4
    exact hh ⟨h1, h2, h3, h4⟩
  clear hh hp hp0
  go_enter Try.func72, Try.ntmps72
  go_wp2_with fail
  all_goals (go_ret; exact ⟨rfl, 0, rfl⟩)

theorem okAt_of {l : List En} {floor : Int} {k : Nat} {x : En} (hx : l[k]? = some x) : okAt l floor k = (x.seq == floor + 1 + k && mayB (lastW (l.take k) x.id) x.what) := by simp [okAt, hx]
theorem okAt_bad {l : List En} {floor : Int} {k : Nat} {x : En} (hx : l[k]? = some x) (h : x.seq ≠ floor + 1 + k ∨ x.what < 1 ∨ 3 < x.what) : okAt l floor k = false := by
  rw [okAt_of hx]
  rcases h with h | h | h
  · simp [h]
  · simp [mayB, show ¬ x.what = 1 by omega, show ¬ x.what = 2 by omega, show ¬ x.what = 3 by omega]
  · simp [mayB, show ¬ x.what = 1 by omega, show ¬ x.what = 2 by omega, show ¬ x.what = 3 by omega]
theorem lastW_take {l : List En} {j : Nat} {y : En} (hy : l[j]? = some y) (id : ByteArray) : lastW (l.take (j + 1)) id = if y.id = id then y.what else lastW (l.take j) id := by
  rw [List.take_add_one, hy]
  exact lastW_snoc _ _ _
theorem lastW_wf {l : List En} (h : ∀ e ∈ l, e.ok) (id : ByteArray) : (Lit.int .i64 (lastW l id)).wf = true := by
  suffices ∀ (l : List En) (a : Int), (∀ e ∈ l, e.ok) → (Lit.int .i64 a).wf = true → (Lit.int .i64 (l.foldl (fun a e => if e.id = id then e.what else a) a)).wf = true from this l 0 h (by decide)
  intro l
  induction l with
  | nil => intro a _ ha; exact ha
  | cons e l ih =>
    intro a h ha
    simp only [List.foldl_cons]
    refine ih _ (fun x hx => h x (by simp [hx])) ?_
    split
    · exact (h e (by simp)).2.2
    · exact ha
theorem get_ok {l : List En} {k : Nat} {x : En} (h : ∀ e ∈ l, e.ok) (hx : l[k]? = some x) : x.ok := h x (List.mem_of_getElem? hx)

end Go.Proofs.Ythgkgjcnmahacaa
end

section
set_option linter.unusedSimpArgs false
set_option linter.unusedVariables false
namespace Go.Proofs.Ythgkgjcnmahacaa
open Go.RowKit

/-- What is returned is a slice of the call's own that reads as xs; nothing that was has turned. -/
def OwnRet {α : Type} (w : World) (t : TypeId) (enc : α → List Value) (sz : Nat) (xs : List α) (e : Ending) (w' : World) : Prop :=
  ∃ u, e = .returned u ∧ Own w' w.heap.size t enc sz u xs ∧ Below w.heap.size w w'

theorem infoE : (Try.prog.info? 48).map (fun i => (i.zero, i.size, i.bytes)) = some (some (.agg #[.int .i64 0, .string ByteArray.empty, .int .i64 0]), 3, 32) := by kernel_rfl

set_option maxRecDepth 100000 in
set_option maxHeartbeats 400000 in
theorem cloneE_any {α : Type} {enc : α → List Value} (C : Codec enc 3) (w : World) (v : Value) (xs : List α) (hv : Rd w w.heap.size enc 3 v xs) (hsz : xs.length * 32 ≤ 140737488355328) :
    Calls Try.prog 99 #[v] w (OwnRet w 48 enc 3 xs) := by
  obtain ⟨p, cap, rfl, hlc, hcm, hp0, hp⟩ := hv
  have HS := Lib.hid hsz
  have HC := Lib.hid hcm
  clear hsz hcm
  cases p with
  | none =>
    have h0 : xs.length = 0 := by have := hp0 rfl; omega
    obtain rfl := List.eq_nil_of_length_eq_zero h0
    obtain rfl : cap = 0 := hp0 rfl
    have hnil : ∀ W n, (Go.binOp .eql 33 (.slice none n 0) (.slice none 0 0)).run Try.prog W = .ok (.bool true) W := fun W n => Lib.run_eql_slice_nil W 33 48 none n 0 0 0 Try.underlying33
    clear hp hp0 h0 hlc
    go_enter Try.func99, Try.ntmps99
    go_wp2
    go_ret
    exact ⟨_, rfl, Own.nil w _ _, Below.refl _ _⟩
  | some a =>
    obtain ⟨i0, hi, hz0, hz1, hz2⟩ := info_parts infoE
    have hnil : ∀ W n c, (Go.binOp .eql 33 (.slice (some a) n c) (.slice none 0 0)).run Try.prog W = .ok (.bool false) W := fun W n c => Lib.run_eql_slice_nil W 33 48 (some a) n c 0 0 Try.underlying33
    have hO := World.ownsRow_made (base := w.heap.size) (e := 48) (size := 3) w #[] 0 (Nat.le_refl _) (Nat.zero_le _) rfl
    have hN : ∀ ob j u, (cellsOf enc xs)[j]? = some u → (w.alloc ob).cell? (a.add j) = some u := by
      intro ob j u hu
      by_cases h0 : 0 < xs.length
      · obtain ⟨b, o, rfl, hb, hr⟩ := hp a rfl h0
        exact (hr.below ((Below.refl w.heap.size w).alloc (Nat.le_refl _) ob) hb).news C j u hu
      · have : xs = [] := List.eq_nil_of_length_eq_zero (by omega)
        subst this
        simp [cellsOf] at hu
    clear hp hp0
    have hL := cellsOf_len C xs
    have h1 := cellsOf_one C xs
    have HK : Hid (0 + xs.length ≤ maxLen) := by have := HC.out; unfold Hid; omega
    have HY : Hid ((0 + xs.length) * 32 ≤ 140737488355328) := by have := HS.out; unfold Hid; omega
    go_enter Try.func99, Try.ntmps99
    go_wp2_with (at_builtin; refine wpList_append_own _ rfl _ _ 33 rfl w.heap.size 48 i0 _ 3 32 Try.underlying33 hi hz0 hz1 hz2 rfl (by decide) (.slice (some ⟨w.heap.size, 0, none⟩) 0 0) 0 [] rfl hO a xs.length cap (cellsOf enc xs) rfl hL (hN _) h1 HK.out HY.out (by simp) ?_; intro v1 w1 hown1 hg1 _)
    go_ret
    rw [Nat.zero_add, List.nil_append] at hown1
    exact ⟨v1, rfl, hown1, ((Below.refl w.heap.size w).alloc (Nat.le_refl _) _).grown hg1 (by simp) (fun k e => by cases e; exact Nat.le_refl _)⟩
end Go.Proofs.Ythgkgjcnmahacaa
end
