import Derived.Test.YtanemojiaahbgaaGreatDoorSf01
/- Where a member stands; what is found; walked. -/
set_option linter.unusedSimpArgs false
set_option linter.unusedVariables false
namespace Go.Proofs.YtanemojiaahbgaaGreatDoor
open Go.RowKit Go.OpenShut

/-- A map's members (of another value: none). -/
def JV.mem : JV → List (ByteArray × JV) | .mk k _ _ _ m => if k = 6 then m else []
/-- The place of the first member of a name. -/
def JV.place (t : JV) (name : ByteArray) : Option Nat := t.mem.findIdx? (fun p => decide (p.1 = name))
def JV.get (t : JV) (name : ByteArray) : Option JV := (t.place name).bind fun i => t.mem[i]?.map (·.2)
def JV.zero : JV := .mk 0 0 ⟨#[]⟩ [] []
def RV.zero : RV := ⟨0, 0, ⟨#[]⟩, none, 0, 0, none, 0, 0⟩
theorem TreeOf.zero (w : World) (B : Nat) : TreeOf w B JV.zero RV.zero :=
  TreeOf.mk (r := RV.zero) (rs := []) (rms := []) (Rd.nil _ _) rfl (fun i t q h => by simp at h) (Rd.nil _ _) rfl (fun i p q h => by simp at h) (fun i p q h => by simp at h)
def placeI (o : Option Nat) : Int := match o with
  | some i => i
  | none => -1
theorem find_at {α : Type} {p : α → Bool} {l : List α} {k : Nat} {x : α} (hx : l[k]? = some x) (hp : p x = true) (hno : ∀ (j : Nat) (y : α), j < k → l[j]? = some y → p y = false) : l.findIdx? p = some k := by
  rw [List.findIdx?_eq_some_iff_getElem]
  obtain ⟨h, e⟩ := List.getElem?_eq_some_iff.1 hx
  refine ⟨h, by rw [e]; exact hp, fun j hj => ?_⟩
  have := hno j _ hj (List.getElem?_eq_getElem (by omega))
  simpa using this
theorem find_not {α : Type} {p : α → Bool} {l : List α} (hno : ∀ (j : Nat) (y : α), l[j]? = some y → p y = false) : l.findIdx? p = none := by
  rw [List.findIdx?_eq_none_iff]
  intro x hx
  obtain ⟨i, hi⟩ := List.getElem?_of_mem hx
  exact hno i x hi
theorem ret_int {k : IntKind} {a b : Int} (h : a = b) : Ending.returned (.int k a) = .returned (.int k b) := by rw [h]

set_option maxRecDepth 100000 in
set_option maxHeartbeats 2000000 in
theorem place_any (t : JV) (r : RV) (name : ByteArray) (w : World) (ht : TreeOf w w.heap.size t r) (ot : t.Ok) :
    Calls Tryz.prog 66 #[r.val, .string name] w fun e w' => e = .returned (.int .i64 (placeI (t.place name))) ∧ Below w.heap.size w w' := by
  cases ht with
  | @mk _ l m rs rms hl el hcl hm em hcn hcm =>
  obtain ⟨k, n, s, pl, nl, cl, pm, nm, cm⟩ := r
  cases ot with
  | mk _ _ _ bl bm okl oks okm =>
  dsimp only [RV.val] at *
  have eM := rd_nlen hm
  have hA0 : VAt (w.alloc (.cells #[.int .i64 k, .int .i64 n, .string s, .slice pl nl cl, .slice pm nm cm] 31)) w.heap.size ⟨k, n, s, pl, nl, cl, pm, nm, cm⟩ := heap_alloc_at rfl
  have hB0 : Below w.heap.size w (w.alloc (.cells #[.int .i64 k, .int .i64 n, .string s, .slice pl nl cl, .slice pm nm cm] 31)) := (Below.refl _ _).alloc (Nat.le_refl _) _
  have HN := Lib.hid hcn
  have HM := Lib.hid hm
  have E2 : Hid (m.length = nm ∧ rms.length = nm) := ⟨by omega, by omega⟩
  have hnm : nm ≤ 1466015503658 := by omega
  clear hcl hcn hcm hl hm okl oks okm el em bl bm eM
  by_cases hk : k = 6
  · subst hk
    have hpl : (JV.mk 6 n s l m).place name = m.findIdx? (fun p => decide (p.1 = name)) := by simp [JV.place, JV.mem]
    rw [hpl]
    clear hpl
    go_enter Tryz.func66, Tryz.ntmps66
    go_wp2_with fail
    go_loopw [13] (fun i wr => ∃ k : Nat, k ≤ nm ∧ i = .int .i64 k ∧ Hid (∀ j y, j < k → m[j]? = some y → decide (y.1 = name) = false) ∧ Below w.heap.size w wr) (fun i _ => nm - (intOf i).toNat)
    case atStart => exact ⟨0, Nat.zero_le _, rfl, fun j y h => by omega, hB0⟩
    case round =>
      obtain ⟨k, hk, rfl, hno, hbr⟩ := hrel
      have HNO := Lib.hid hno.out
      clear hno
      by_cases hlt : k < nm
      · obtain ⟨tx, htx⟩ : ∃ x, m[k]? = some x := ⟨_, List.getElem?_eq_getElem (by have := E2.out; omega)⟩
        obtain ⟨x, hx⟩ : ∃ x, rms[k]? = some x := ⟨_, List.getElem?_eq_getElem (by have := E2.out; omega)⟩
        obtain ⟨b1, o1, rfl, hb1, hc1⟩ := rd_at' (HM.out.below hbr (Nat.le_refl _)) hx
        have f0 := hc1 0 _ rfl
        have f1 := hc1 1 _ rfl
        have f2 := hc1 2 _ rfl
        have f3 := hc1 3 _ rfl
        have f4 := hc1 4 _ rfl
        have f5 := hc1 5 _ rfl
        rw [Nat.add_zero] at f0
        have en := HN.out k tx x htx hx
        have HTX := Lib.hid htx
        have hz := hbr.size
        have HBR := Lib.hid hbr
        clear hc1 htx hx hbr
        by_cases hnx : x.name = name
        · have hq : (x.name.toList == name.toList) = true := by rw [str_beq]; simpa using hnx
          have HF := Lib.hid (find_at (p := fun p : ByteArray × JV => decide (p.1 = name)) HTX.out (by rw [en]; simpa using hnx) HNO.out)
          clear hnx en
          go_wp2_with fail
          go_ret
          exact ⟨ret_int (by rw [HF.out]; rfl), HBR.out.alloc hz _⟩
        · have hq : (x.name.toList == name.toList) = false := by rw [str_beq]; simpa using hnx
          have HNX : Hid (∀ j y, j < k + 1 → m[j]? = some y → decide (y.1 = name) = false) := by
            intro j y hj hy
            by_cases e : j = k
            · subst e
              have h := HTX.out
              rw [hy] at h
              cases h
              rw [en]; simpa using hnx
            · exact HNO.out j y (by omega) hy
          clear hnx en
          go_wp2_with fail
          go_roundw
          case rel => exact ⟨k + 1, by omega, by go_num, HNX, HBR.out.alloc hz _⟩
          case measure => simp [intOf]; omega
      · obtain rfl : k = nm := by omega
        have HF := Lib.hid (find_not (p := fun p : ByteArray × JV => decide (p.1 = name)) (l := m) (fun j y hy => HNO.out j y (by have := (List.getElem?_eq_some_iff.1 hy).1; have := E2.out; omega) hy))
        go_wp2_with fail
        go_ret
        exact ⟨ret_int (by rw [HF.out]; rfl), hbr⟩
  · have hpl : placeI ((JV.mk k n s l m).place name) = -1 := by simp [JV.place, JV.mem, hk, placeI]
    have HP := Lib.hid hpl
    have hq : (k != 6) = true := by simpa using hk
    clear hpl hk
    go_enter Tryz.func66, Tryz.ntmps66
    go_wp2_with fail
    go_ret
    exact ⟨ret_int HP.out.symm, hB0⟩
end Go.Proofs.YtanemojiaahbgaaGreatDoor
