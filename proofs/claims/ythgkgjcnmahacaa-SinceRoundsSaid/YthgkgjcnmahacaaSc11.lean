import Derived.Test.YthgkgjcnmahacaaSc10
import Derived.Test.YthgkgjcnmahacaaSc04
import Derived.Deep.RegionLaw
import Derived.Outline
section
/- slices.Insert of one object into a slice of the call's own, walked. -/
set_option linter.unusedSimpArgs false
set_option linter.unusedVariables false
namespace Go.Proofs.Ythgkgjcnmahacaa
open Go.RowKit Go.OpenShut

theorem gb_drew {w w' : World} {row : Option Nat} (h : w.drew.grownBy w' row) : w.grownBy w' row := ⟨h.os, h.tape, h.output, h.size, h.block⟩
def InsRet (w : World) (base : Nat) (row : Option Nat) (n : Nat) (ys : List RM) (e : Ending) (w' : World) : Prop :=
  ∃ p' c', e = .returned (.slice p' n c') ∧ Own w' base 46 encM 6 (.slice p' n c') ys ∧ w.grownBy w' row
/-- An object in a block of its own. -/
def ObAt (W : World) (g : Nat) (x : RM) : Prop := W.heap[g]? = some (.cells #[.string x.name, .int .i64 x.v.k, .int .i64 x.v.n, .string x.v.s, .slice x.v.pl x.v.nl x.v.cl, .slice x.v.pm x.v.nm x.v.cm] 46 (0, 0))

set_option maxRecDepth 100000 in
set_option maxHeartbeats 1000000 in
theorem insert_end (w : World) (base : Nat) (p : Option Addr) (n c vb : Nat) (xs : List RM) (x : RM) (ho : Own w base 46 encM 6 (.slice p n c) xs) (hb : base ≤ w.heap.size) (hx : ObAt w vb x) (hsz : (n + 1) * 96 ≤ 140737488355328) :
    Calls Try.prog 67 #[.slice p n c, .int .i64 n, .slice (some ⟨vb, 0, none⟩) 1 1] w (InsRet w base (Value.slice p n c).ownBlock (n + 1) (xs ++ [x])) := by
  have hn := rd_nlen (ho.rd codecM)
  have hvb : vb < w.heap.size := (Array.getElem?_eq_some_iff.1 hx).1
  have hR : Rd w w.heap.size encM 6 (.slice (some ⟨vb, 0, none⟩) 1 1) [x] := Rd.one codecM hx rfl hvb
  have HO := Lib.hid ho
  have HR := Lib.hid hR
  have HN := Lib.hid hn
  have HX := Lib.hid hsz
  have hn63 : (n : Int) ≤ 9223372036854775806 := by omega
  have hsl := fun W => run_slice_low (P := Try.prog) slO p n c n (Nat.le_refl _) W
  obtain ⟨row, hrow⟩ : ∃ row, (Value.slice p n c).ownBlock = row := ⟨_, rfl⟩
  rw [hrow]
  have HROW := Lib.hid hrow
  clear ho hR hn hx hsz hrow
  go_enter Try.func67, Try.ntmps67
  go_wp2_with (at_builtin; refine wpList_append_rd slO codecM w rfl (.tmp 23) (.tmp 24) rfl (v := .slice p n c) rfl rfl HO.out HR.out (by have := HN.out; have := HX.out; simp; unfold maxLen; omega) (by have := HN.out; have := HX.out; simp; omega) hb ?_; intro v1 w1 ho1 hg1 hat1)
  all_goals obtain ⟨p1, c1, hv1, _, _⟩ := ho1.len
  all_goals have hl : (xs ++ [x]).length = n + 1 := by have := HN.out; simp; omega
  all_goals rw [hl] at hv1
  all_goals subst hv1
  all_goals go_ret
  all_goals exact ⟨p1, c1, rfl, ho1, by rw [← HROW.out]; exact hg1⟩

set_option maxRecDepth 100000 in
set_option maxHeartbeats 2000000 in
theorem insert_shift (w : World) (base : Nat) (g n c vb i : Nat) (cur : Array Value) (xs : List RM) (x : RM) (hh : w.heap[g]? = some (.cells cur 46 (0, 0))) (hg : base ≤ g) (hn : n = xs.length) (hcm : c ≤ maxLen) (hcs : cur.size = c * 6) (ht : cur.toList.take (n * 6) = cellsOf encM xs)
    (hi : i < n) (hroom : n + 1 ≤ c) (hx : ObAt w vb x) (hne : vb ≠ g) :
    Calls Try.prog 67 #[.slice (some ⟨g, 0, none⟩) n c, .int .i64 i, .slice (some ⟨vb, 0, none⟩) 1 1] w (InsRet w base (some g) (n + 1) (xs.take i ++ x :: xs.drop i)) := by
  have hcn : cur.toList.length = c * 6 := by simpa using hcs
  have htk : cur.toList.take (i * 6) = cellsOf encM (xs.take i) := by
    rw [← cells_take codecM, ← ht, List.take_take, Nat.min_eq_left (by omega)]
  have hszO : (Try.prog.info? 46).map (·.size) = some 6 := by kernel_rfl
  have hshA : w.shape? vb = some (46, 6) := by
    unfold ObAt at hx
    simp [World.shape?, hx]
  have hshB : w.shape? g = some (46, c * 6) := by simp [World.shape?, hh, hcs]
  have hsizeO : ∀ w, (Go.sizeOf 46).run Try.prog w = .ok 6 w := fun w => by kernel_rfl
  have hov : ∀ lb cb, (callFunc 102 #[.slice (some ⟨vb, 0, none⟩) 1 1, .slice (some ⟨g, (i + 1) * 6, none⟩) lb cb]).run Try.prog w = .ok (.value (.bool false)) w := fun lb cb => by
    rw [run_callFunc_extern Try.func102 (by kernel_rfl) (by kernel_rfl) (by kernel_rfl) (e := Extern.SlicesOverlaps.overlaps #[32, 32] #[4]) (by kernel_rfl),
      Lib.run_overlaps_apart w 32 4 46 Try.underlying32 6 hsizeO ⟨vb, 0, none⟩ ⟨g, (i + 1) * 6, none⟩ 1 1 lb cb hne 46 46 6 (c * 6) hshA hshB (by omega) (by unfold ObAt at hx; simp [World.frozen?, hx]) (by unfold ObAt at hx; simp [World.frozen?, hx])]
    rfl
  have hd : (cellsOf encM (xs.drop i)).length = (n - i) * 6 := by rw [cellsOf_len codecM, List.length_drop, hn]
  have hcell : ∀ j, w.cell? ⟨g, j, none⟩ = cur.toList[j]? := fun j => by rw [cell_of_row w g j _ _ _ hh, Array.getElem?_toList]
  have hcells : ∀ j v, (cellsOf encM (xs.drop i))[j]? = some v → w.cell? ((⟨g, i * 6, none⟩ : Addr).add j) = some v := fun j v hv => by
    rw [add_eq, hcell]
    have h1 : (cellsOf encM xs)[i * 6 + j]? = some v := by
      have e : cellsOf encM xs = cellsOf encM (xs.take i) ++ cellsOf encM (xs.drop i) := by rw [← cellsOf_append, List.take_append_drop]
      have hl : (cellsOf encM (xs.take i)).length = i * 6 := by rw [cellsOf_len codecM, List.length_take]; omega
      rw [e, List.getElem?_append_right (by omega), hl]
      simpa using hv
    rw [← ht, List.getElem?_take] at h1
    split at h1
    · exact h1
    · cases h1
  obtain ⟨row1, hrow1⟩ : ∃ r : Array Value, r = (cur.toList.take ((i + 1) * 6) ++ cellsOf encM (xs.drop i) ++ cur.toList.drop ((i + 1) * 6 + (cellsOf encM (xs.drop i)).length)).toArray := ⟨_, rfl⟩
  have hr1s : row1.size = c * 6 := by
    rw [hrow1]
    simp only [List.size_toArray, List.length_append, List.length_take, List.length_drop, hd, hcn]
    omega
  have hcp1 : ∀ ty dc sc, (Builtin.copy_ #[32, 32] ty #[.slice (some ⟨g, (i + 1) * 6, none⟩) (n - i) dc, .slice (some ⟨g, i * 6, none⟩) (n + 1 - i) sc]).run Try.prog w.drew = .ok (goInt ((n - i : Nat) : Int)) (w.drew.setRow g row1) := fun ty dc sc => by
    rw [hrow1]
    exact run_copy_rowN w.drew _ _ ty 46 g ((i + 1) * 6) (n - i) dc ⟨g, i * 6, none⟩ (n + 1 - i) sc (n - i) cur 46 _ Try.underlying32 hszO hh (by simp only [Nat.min_def]; split <;> omega) hd hcells (by rw [hd]; omega) (cellsOf_one codecM _)
  obtain ⟨row2, hrow2⟩ : ∃ r : Array Value, r = (row1.toList.take (i * 6) ++ encM x ++ row1.toList.drop (i * 6 + (encM x).length)).toArray := ⟨_, rfl⟩
  have hxc : ∀ j v, (encM x)[j]? = some v → w.cell? ((⟨vb, 0, none⟩ : Addr).add j) = some v := fun j v hv => by
    unfold ObAt at hx
    rw [add_eq, Nat.zero_add, cell_of_row w vb j _ _ _ hx, ← Array.getElem?_toList]
    exact hv
  have hcp2 : ∀ (W : World), W.heap[g]? = some (.cells row1 46 (0, 0)) → W.heap[vb]? = w.heap[vb]? → ∀ ty dc, (Builtin.copy_ #[32, 32] ty #[.slice (some ⟨g, i * 6, none⟩) (n + 1 - i) dc, .slice (some ⟨vb, 0, none⟩) 1 1]).run Try.prog W = .ok (goInt 1) (W.setRow g row2) := fun W hW hV ty dc => by
    rw [hrow2]
    exact run_copy_rowN W _ _ ty 46 g (i * 6) (n + 1 - i) dc ⟨vb, 0, none⟩ 1 1 1 row1 46 (encM x) Try.underlying32 hszO hW (by simp only [Nat.min_def]; split <;> omega) rfl (fun j v hv => (World.cell?_of_block (w := w) (a := (⟨vb, 0, none⟩ : Addr).add j) (by rw [add_eq]; exact hV)).trans (hxc j v hv)) (by rw [hr1s]; show i * 6 + 6 ≤ _; omega) (codecM.one x)
  have hfin : row2.toList.take ((n + 1) * 6) = cellsOf encM (xs.take i ++ x :: xs.drop i) := by
    rw [hrow2, hrow1]
    exact row_insert (cap := c) codecM hn htk (by omega) (by omega)
  have hr2s : row2.size = c * 6 := by
    rw [hrow2]
    have : (encM x).length = 6 := rfl
    simp only [List.size_toArray, List.length_append, List.length_take, List.length_drop, this, Array.length_toList, hr1s]
    omega
  have HFIN : Hid (∀ W : World, W.heap[g]? = some (.cells row2 46 (0, 0)) → Own W base 46 encM 6 (.slice (some ⟨g, 0, none⟩) (n + 1) c) (xs.take i ++ x :: xs.drop i)) := fun W hW =>
    Own.ofRow codecM hW hfin (by simp; omega) hg hroom hcm hr2s
  have HH := Lib.hid hh
  have HHX := Lib.hid hx
  have HNE := Lib.hid hne
  have hw1 : IntKind.i64.wrap ((i : Int) + 1) = (i : Int) + 1 := by rw [IntKind.wrap_i64]; unfold maxLen at hcm; omega
  have hb1 : (0 : Int) ≤ (i : Int) + 1 := by omega
  have hin : i ≤ n := by omega
  have htn : ((i : Int) + 1).toNat = i + 1 := by omega
  have htn2 : ((n : Int) + 1).toNat = n + 1 := by omega
  have hz2 : ¬ ((i : Int) = (n : Int)) := by omega
  have hb2 : ¬ (c = i + 1) := by omega
  have hb3 : (i : Int) ≤ (n : Int) + 1 := by omega
  have hb4 : ¬ (c = i) := by omega
  have hcm2 : c ≤ 9223372036854775807 := by unfold maxLen at hcm; omega
  clear hh hx hne hcm hcn htk hszO hshA hshB hsizeO hd hcell hcells hrow1 hrow2 hxc hfin hr1s hr2s hcs ht hn
  go_enter Try.func67, Try.ntmps67
  go_wp2_with (simp only [hov])
  go_region_law (refine step_copy_runI rfl _ _ 32 32 rfl _ _ (by simp [Act.eval, Act.put]) (by simp [Act.eval, Act.put]) (hcp1 _ _ _) ?_)
  have hW1 := setRow_at w.drew g cur row1 46 (0, 0) HH.out
  have hV1 : (w.drew.setRow g row1).heap[vb]? = w.heap[vb]? := (setRow_grown w.drew g row1).block vb (by have := (Array.getElem?_eq_some_iff.1 HHX.out).1; exact this) (by simpa using HNE.out)
  have hc2 := hcp2 _ hW1 hV1
  have hW2 := setRow_at _ g row1 row2 46 (0, 0) hW1
  have HW2 := Lib.hid hW2
  have hg0 : w.grownBy (w.drew.setRow g row1) (some g) := gb_drew (setRow_grown w.drew g row1)
  have hG2 : w.grownBy ((w.drew.setRow g row1).setRow g row2) (some g) := hg0.trans (setRow_grown _ g row2)
  clear hg0
  have HG2 := Lib.hid hG2
  clear hW1 hV1 hW2 hG2
  go_wp2_with (at_builtin; refine wpList_copy_runI _ rfl _ _ 32 32 rfl _ _ rfl rfl (hc2 _ _) ?_)
  go_ret
  exact ⟨_, _, rfl, HFIN.out _ HW2.out, HG2.out⟩
end Go.Proofs.Ythgkgjcnmahacaa
end

section
/- slices.Insert of one object where there is no room; the roads joined. -/
set_option linter.unusedSimpArgs false
set_option linter.unusedVariables false
namespace Go.Proofs.Ythgkgjcnmahacaa
open Go.RowKit Go.OpenShut

set_option maxRecDepth 100000 in
set_option maxHeartbeats 2000000 in
theorem insert_grow (w : World) (base : Nat) (g n c vb i : Nat) (cur : Array Value) (xs : List RM) (x : RM) (hh : w.heap[g]? = some (.cells cur 46 (0, 0))) (hb : base ≤ w.heap.size) (hn : n = xs.length) (hnc : n ≤ c) (hcm : c ≤ maxLen) (hcs : cur.size = c * 6) (ht : cur.toList.take (n * 6) = cellsOf encM xs)
    (hi : i < n) (hroom : c < n + 1) (hx : ObAt w vb x) (hsz : (n + 1) * 96 ≤ 140737488355328) :
    Calls Try.prog 67 #[.slice (some ⟨g, 0, none⟩) n c, .int .i64 i, .slice (some ⟨vb, 0, none⟩) 1 1] w (InsRet w base (some g) (n + 1) (xs.take i ++ x :: xs.drop i)) := by
  obtain rfl : c = n := by omega
  have hcn : cur.toList.length = c * 6 := by simpa using hcs
  have htk : cur.toList.take (i * 6) = cellsOf encM (xs.take i) := by
    rw [← cells_take codecM, ← ht, List.take_take, Nat.min_eq_left (by omega)]
  have hgl : g < w.heap.size := (Array.getElem?_eq_some_iff.1 hh).1
  have hvl : vb < w.heap.size := (Array.getElem?_eq_some_iff.1 hx).1
  have hi0 : (Try.prog.info? 46).map (fun i => (i.zero, i.size, i.bytes)) = some (some (.agg #[.string ByteArray.empty, .int .i64 0, .int .i64 0, .string ByteArray.empty, .slice none 0 0, .slice none 0 0]), 6, 96) := by kernel_rfl
  obtain ⟨i0, hi0, hz0, hzs, hzb⟩ := info_parts hi0
  have hszO : (Try.prog.info? 46).map (·.size) = some 6 := by rw [hi0]; simp [hzs]
  have hcell : ∀ j, w.cell? ⟨g, j, none⟩ = cur.toList[j]? := fun j => by rw [cell_of_row w g j _ _ _ hh, Array.getElem?_toList]
  have hold : (Builtin.firstCells i0.size i (.slice (some ⟨g, 0, none⟩) i c)).run Try.prog w.drew = .ok (cellsOf encM (xs.take i)).toArray w.drew := by
    rw [hzs]
    refine run_firstCells_some w.drew 6 i ⟨g, 0, none⟩ i c (cellsOf encM (xs.take i)) (by rw [cellsOf_len codecM, List.length_take]; omega) (fun j v hj => ?_)
    rw [add_eq, Nat.zero_add]
    show w.cell? _ = _
    rw [hcell]
    rw [← htk, List.getElem?_take] at hj
    split at hj
    · exact hj
    · cases hj
  have hkk : (c : Int) + 1 - (i : Int) = ((c + 1 - i : Nat) : Int) := by omega
  have hik : i + (c + 1 - i) = c + 1 := by omega
  obtain ⟨Z, hZ⟩ : ∃ Z : Value, Z = .agg #[.string ByteArray.empty, .int .i64 0, .int .i64 0, .string ByteArray.empty, .slice none 0 0, .slice none 0 0] := ⟨_, rfl⟩
  have hZs : Z.cells.size = 6 := by rw [hZ]; rfl
  rw [← hZ] at hz0
  obtain ⟨G, hG⟩ : ∃ G, G = grownCap w (c + 1) c 46 := ⟨_, rfl⟩
  obtain ⟨ROW, hROW⟩ : ∃ ROW : Array Value, ROW = (cellsOf encM (xs.take i)).toArray ++ Builtin.zeroCells Z.cells (c + 1 - i) ++ Builtin.zeroCells Z.cells (G - (c + 1)) := ⟨_, rfl⟩
  have hrz : ∀ ty, (Builtin.append_ #[32, 3] ty #[.slice (some ⟨g, 0, none⟩) i c, .int .i64 ((c : Int) + 1 - (i : Int))]).run Try.prog w =
      .ok (.slice (some ⟨w.heap.size, 0, none⟩) (c + 1) G) (w.drew.alloc (.cells ROW 46)) := fun ty => by
    have h := Lib.run_append_grow_zeros w 32 3 ty 46 i0 Z .i64 .i64 Try.underlying32 Try.underlying3 hi0 hz0 (some ⟨g, 0, none⟩) i c _ hold (c + 1 - i) (by omega) (by omega) (by omega) (by omega) (by rw [hzb]; omega) (by rw [hzb, hik]; exact growslice_fits (by omega) hsz)
    rw [hik] at h
    rw [hkk, hROW, hG]
    exact h
  have hGn : c + 1 ≤ G := by rw [hG]; exact grownCap_ge w _ _ _
  have hG63 : G ≤ maxLen := by rw [hG]; exact grownCap_le_maxLen w (c + 1) c 46 (by unfold maxLen; omega)
  have hRs : ROW.size = G * 6 := by
    rw [hROW]
    simp only [Array.size_append, size_zeroCells, hZs, List.size_toArray, cellsOf_len codecM, List.length_take]
    omega
  have hRl : ROW.toList.length = G * 6 := by simpa using hRs
  have hRt : ROW.toList.take (i * 6) = cellsOf encM (xs.take i) := by
    have hl : (cellsOf encM (xs.take i)).length = i * 6 := by rw [cellsOf_len codecM, List.length_take]; omega
    rw [hROW]
    simp only [Array.toList_append]
    rw [List.append_assoc, ← hl, List.take_left]
  obtain ⟨W1, hW1⟩ : ∃ W1, W1 = w.drew.alloc (.cells ROW 46) := ⟨_, rfl⟩
  rw [← hW1] at hrz
  have hN1 : W1.heap[w.heap.size]? = some (.cells ROW 46 (0, 0)) := by rw [hW1]; exact heap_alloc_at (w := w.drew) rfl
  have hold1 : ∀ k, k < w.heap.size → W1.heap[k]? = w.heap[k]? := fun k hk => by rw [hW1]; exact Below.heap_alloc w.drew _ k hk
  have hd : (cellsOf encM (xs.drop i)).length = (c - i) * 6 := by rw [cellsOf_len codecM, List.length_drop, hn]
  have hxc : ∀ j v, (encM x)[j]? = some v → w.cell? ((⟨vb, 0, none⟩ : Addr).add j) = some v := fun j v hv => by
    unfold ObAt at hx
    rw [add_eq, Nat.zero_add, cell_of_row w vb j _ _ _ hx, ← Array.getElem?_toList]
    exact hv
  have hcells : ∀ j v, (cellsOf encM (xs.drop i))[j]? = some v → w.cell? ((⟨g, i * 6, none⟩ : Addr).add j) = some v := fun j v hv => by
    rw [add_eq, hcell]
    have h1 : (cellsOf encM xs)[i * 6 + j]? = some v := by
      have e : cellsOf encM xs = cellsOf encM (xs.take i) ++ cellsOf encM (xs.drop i) := by rw [← cellsOf_append, List.take_append_drop]
      have hl : (cellsOf encM (xs.take i)).length = i * 6 := by rw [cellsOf_len codecM, List.length_take]; omega
      rw [e, List.getElem?_append_right (by omega), hl]
      simpa using hv
    rw [← ht, List.getElem?_take] at h1
    split at h1
    · exact h1
    · cases h1
  obtain ⟨row1, hrow1⟩ : ∃ r : Array Value, r = (ROW.toList.take (i * 6) ++ encM x ++ ROW.toList.drop (i * 6 + (encM x).length)).toArray := ⟨_, rfl⟩
  have hr1s : row1.size = G * 6 := by
    rw [hrow1]
    have : (encM x).length = 6 := rfl
    simp only [List.size_toArray, List.length_append, List.length_take, List.length_drop, this, hRl]
    omega
  obtain ⟨row2, hrow2⟩ : ∃ r : Array Value, r = (row1.toList.take ((i + 1) * 6) ++ cellsOf encM (xs.drop i) ++ row1.toList.drop ((i + 1) * 6 + (cellsOf encM (xs.drop i)).length)).toArray := ⟨_, rfl⟩
  have hr2s : row2.size = G * 6 := by
    rw [hrow2]
    simp only [List.size_toArray, List.length_append, List.length_take, List.length_drop, hd, Array.length_toList, hr1s]
    omega
  have hcpA : ∀ (W : World), (∀ k : Nat, W.heap[k]? = W1.heap[k]?) → ∀ ty dc, (Builtin.copy_ #[32, 32] ty #[.slice (some ⟨w.heap.size, i * 6, none⟩) (c + 1 - i) dc, .slice (some ⟨vb, 0, none⟩) 1 1]).run Try.prog W = .ok (goInt 1) (W.setRow w.heap.size row1) := fun W hW ty dc => by
    rw [hrow1]
    exact run_copy_rowN W _ _ ty 46 w.heap.size (i * 6) (c + 1 - i) dc ⟨vb, 0, none⟩ 1 1 1 ROW 46 (encM x) Try.underlying32 hszO ((hW _).trans hN1) (by simp only [Nat.min_def]; split <;> omega) rfl (fun j v hv => (World.cell?_of_block (w := w) (a := (⟨vb, 0, none⟩ : Addr).add j) (by rw [add_eq]; exact (hW _).trans (hold1 _ hvl))).trans (hxc j v hv)) (by rw [hRs]; show i * 6 + 6 ≤ _; omega) (codecM.one x)
  have hcpB : ∀ (W : World), W.heap[w.heap.size]? = some (.cells row1 46 (0, 0)) → W.heap[g]? = w.heap[g]? → ∀ ty dc sc, (Builtin.copy_ #[32, 32] ty #[.slice (some ⟨w.heap.size, (i + 1) * 6, none⟩) (c - i) dc, .slice (some ⟨g, i * 6, none⟩) (c - i) sc]).run Try.prog W = .ok (goInt ((c - i : Nat) : Int)) (W.setRow w.heap.size row2) := fun W hW hV ty dc sc => by
    rw [hrow2]
    exact run_copy_rowN W _ _ ty 46 w.heap.size ((i + 1) * 6) (c - i) dc ⟨g, i * 6, none⟩ (c - i) sc (c - i) row1 46 _ Try.underlying32 hszO hW (by simp only [Nat.min_def]; split <;> omega) hd (fun j v hv => (World.cell?_of_block (w := w) (a := (⟨g, i * 6, none⟩ : Addr).add j) (by rw [add_eq]; exact hV)).trans (hcells j v hv)) (by rw [hr1s, hd]; omega) (cellsOf_one codecM _)
  have hfin : row2.toList.take ((c + 1) * 6) = cellsOf encM (xs.take i ++ x :: xs.drop i) := by
    rw [hrow2, hrow1]
    exact row_insert2 (cap := G) codecM hn hRt (by omega) (by omega)
  have HFIN : Hid (∀ W : World, W.heap[w.heap.size]? = some (.cells row2 46 (0, 0)) → Own W base 46 encM 6 (.slice (some ⟨w.heap.size, 0, none⟩) (c + 1) G) (xs.take i ++ x :: xs.drop i)) := fun W hW =>
    Own.ofRow codecM hW hfin (by simp; omega) hb hGn hG63 hr2s
  have HG1 : Hid (w.grownBy W1 none) := by rw [hW1]; exact ⟨rfl, rfl, rfl, by simp, fun k hk _ => Below.heap_alloc w.drew _ k hk⟩
  have HN1 := Lib.hid hN1
  have HO1 := Lib.hid hold1
  have HB := Lib.hid hb
  have HGL := Lib.hid hgl
  have hG63' : G ≤ 9223372036854775807 := by unfold maxLen at hG63; omega
  have hw1 : IntKind.i64.wrap ((i : Int) + 1) = (i : Int) + 1 := by rw [IntKind.wrap_i64]; omega
  have hb1 : (0 : Int) ≤ (i : Int) + 1 := by omega
  have hin : i ≤ c := by omega
  have htn : ((i : Int) + 1).toNat = i + 1 := by omega
  have htn2 : ((c : Int) + 1).toNat = c + 1 := by omega
  have hz3 : ¬ ((i : Int) = (c : Int)) := by omega
  have hb2 : ¬ (G = i + 1) := by omega
  have hb3 : (i : Int) ≤ (c : Int) + 1 := by omega
  have hb4 : ¬ (c = i) := by omega
  have hb5 : ¬ (G = i) := by omega
  have hc63 : (c : Int) ≤ 9223372036854775806 := by omega
  have hq : decide ((c : Int) < (c : Int) + 1) = true := by simp; omega
  have hz1 : W1.heap.size = w.heap.size + 1 := by rw [hW1]; simp
  have hBW : Below w.heap.size w W1 := by rw [hW1]; exact (Below.refl w.heap.size w).drew.alloc (Nat.le_refl _) _
  have hcA := hcpA W1 (fun _ => rfl)
  have hN2 : (W1.setRow w.heap.size row1).heap[w.heap.size]? = some (.cells row1 46 (0, 0)) := setRow_at _ _ ROW row1 _ (0, 0) hN1
  have hK2 : (W1.setRow w.heap.size row1).heap[g]? = w.heap[g]? := ((setRow_grown _ _ row1).block g (by omega) (by simp; omega)).trans (hold1 g hgl)
  obtain ⟨W2, hW2⟩ : ∃ W2, W1.setRow w.heap.size row1 = W2 := ⟨_, rfl⟩
  have hBW2 : Below w.heap.size w W2 := by rw [← hW2]; exact hBW.grown (setRow_grown _ _ row1) (by omega) (fun a e => by cases e; exact Nat.le_refl _)
  have hz2 : W2.heap.size = w.heap.size + 1 := by rw [← hW2]; simp [hz1]
  rw [hW2] at hN2 hK2
  have HF2 : Hid ((W2.drew.setRow w.heap.size row2).heap[w.heap.size]? = some (.cells row2 46 (0, 0))) := setRow_at W2.drew _ row1 row2 _ (0, 0) hN2
  have HB2 : Hid (Below w.heap.size w (W2.drew.setRow w.heap.size row2)) := hBW2.drew.grown (setRow_grown _ _ row2) (by show w.heap.size ≤ W2.heap.size; omega) (fun a e => by cases e; exact Nat.le_refl _)
  have hcB := hcpB W2.drew hN2 hK2
  clear hN2 hK2 hW1 hz1 hz2 hBW hBW2
  clear hh hx hcm hcn htk hi0 hz0 hzs hzb hszO hcell hold hkk hik hZs hZ hRs hRl hRt hd hxc hcells hr1s hr2s hfin hcs ht hn hG hROW hrow1 hrow2 hN1 hold1 hcpA hcpB hroom hnc hb hgl hvl hsz
  go_enter Try.func67, Try.ntmps67
  go_wp2_with (first
    | (at_builtin; refine Lib.wpList_append_run _ rfl _ _ _ _ rfl _ _ rfl rfl _ _ (hrz _) ?_)
    | (at_builtin; refine wpList_copy_runI _ rfl _ _ 32 32 rfl _ _ rfl rfl (hcA _ _) ?_; rw [hW2]))
  clear hW2
  go_region_law (refine step_copy_runI rfl _ _ 32 32 rfl _ _ (by simp [Act.eval, Act.put]) (by simp [Act.eval, Act.put]) (hcB _ _ _) ?_)
  go_wp2_with fail
  go_ret
  exact ⟨_, _, rfl, HFIN.out _ HF2.out, ⟨HB2.out.os, HB2.out.tape, HB2.out.output, HB2.out.size, fun k hk _ => HB2.out.block k hk⟩⟩

set_option maxRecDepth 100000 in
theorem insertO_any (w : World) (base : Nat) (p : Option Addr) (n c vb i : Nat) (xs : List RM) (x : RM) (ho : Own w base 46 encM 6 (.slice p n c) xs) (hb : base ≤ w.heap.size) (hi : i ≤ n) (hx : ObAt w vb x) (hne : p ≠ some ⟨vb, 0, none⟩) (hsz : (n + 1) * 96 ≤ 140737488355328) :
    Calls Try.prog 67 #[.slice p n c, .int .i64 i, .slice (some ⟨vb, 0, none⟩) 1 1] w (InsRet w base (Value.slice p n c).ownBlock (n + 1) (xs.take i ++ x :: xs.drop i)) := by
  have hn := rd_nlen (ho.rd codecM)
  by_cases h : i = n
  · subst h
    have e : xs.take i ++ x :: xs.drop i = xs ++ [x] := by rw [List.take_of_length_le (by omega), List.drop_of_length_le (by omega)]
    rw [e]
    exact insert_end w base p i c vb xs x ho hb hx hsz
  · obtain ⟨g, cur, rfl, hg, hh, hnx, hnc, hcm, hcs, ht⟩ := ho.row (.inl (by
      obtain ⟨_, _, e, h1, _⟩ := ho.rd codecM
      simp only [Value.slice.injEq] at e
      omega))
    by_cases hr : n + 1 ≤ c
    · exact insert_shift w base g n c vb i cur xs x hh hg hn hcm hcs ht (by omega) hr hx (fun e => hne (by rw [e]))
    · exact insert_grow w base g n c vb i cur xs x hh hb hn hnc hcm hcs ht (by omega) (by omega) hx hsz
end Go.Proofs.Ythgkgjcnmahacaa
end

section
/- Whether a trail has an entry of an id, walked: the library's ContainsFunc at entries. -/
set_option linter.unusedSimpArgs false
set_option linter.unusedVariables false
namespace Go.Proofs.Ythgkgjcnmahacaa
open Go.RowKit Go.OpenShut

/-- Has a trail an entry of an id? -/
def toldB (l : List En) (id : ByteArray) : Bool := l.any (fun e => decide (e.id = id))
def entB (id : ByteArray) (e : En) : Bool := decide (e.id = id)
abbrev isEntV (g : Nat) : Value := .func (.func 65) #[] #[.pointer (some ⟨g, 0, none⟩)]
set_option maxRecDepth 100000 in
theorem isEnt_any (x : En) (g : Nat) (name : ByteArray) (w : World) (hg : w.cell? ⟨g, 0, none⟩ = some (.string name)) :
    Calls Try.prog 65 #[.agg #[.int .i64 x.seq, .string x.id, .int .i64 x.what], .pointer (some ⟨g, 0, none⟩)] w fun e w' => e = .returned (.bool (decide (x.id = name))) ∧ Below w.heap.size w w' := by
  obtain ⟨sq, nm, wh⟩ := x
  dsimp only
  have hlt := (cell_some hg).2
  have hne := World.new_ne w ⟨g, 0, none⟩ hg
  have hB : Below w.heap.size w (w.alloc (.cells #[.int .i64 sq, .string nm, .int .i64 wh] 48)) := (Below.refl _ _).alloc (Nat.le_refl _) _
  have hc := bcs hB hlt hg
  have hq := str_beq nm name
  have HQ := Lib.hid hq
  clear hq
  go_enter Try.func65, Try.ntmps65
  go_wp2_with fail
  go_ret
  exact ⟨by rw [← HQ.out]; rfl, hB⟩

set_option maxRecDepth 100000 in
set_option maxHeartbeats 1000000 in
theorem indexE_any (w : World) (p : Option Addr) (n c : Nat) (l : List En) (hv : Rd w w.heap.size encE 3 (.slice p n c) l) (g : Nat) (name : ByteArray) (hg : w.cell? ⟨g, 0, none⟩ = some (.string name)) (hlen : l.length ≤ 4398046510976) :
    Calls Try.prog 100 #[.slice p n c, isEntV g] w fun e w' => e = .returned (.int .i64 (placeI (l.findIdx? (entB name)))) ∧ Below w.heap.size w w' := by
  have hn := rd_nlen hv
  subst hn
  have HV := Lib.hid hv
  have hgl := (cell_some hg).2
  clear hv
  go_enter Try.func100, Try.ntmps100
  go_wp2_with fail
  go_loopw [8] (fun i wr => ∃ k : Nat, k ≤ l.length ∧ i = .int .i64 k ∧ Hid (∀ (j : Nat) y, j < k → l[j]? = some y → entB name y = false) ∧ Below w.heap.size w wr) (fun i _ => l.length - (intOf i).toNat)
  case atStart => exact ⟨0, Nat.zero_le _, rfl, fun j y h => by omega, Below.refl _ _⟩
  case round =>
    obtain ⟨k, hk, rfl, hno, hbr⟩ := hrel
    by_cases hlt : k < l.length
    · obtain ⟨x, hx⟩ : ∃ x, l[k]? = some x := ⟨_, List.getElem?_eq_getElem hlt⟩
      obtain ⟨b1, o1, rfl, hb1, hc1⟩ := rd_at' (HV.out.below hbr (Nat.le_refl _)) hx
      have f0 := hc1 0 _ rfl
      have f1 := hc1 1 _ rfl
      have f2 := hc1 2 _ rfl
      rw [Nat.add_zero] at f0
      have HX := Lib.hid hx
      have hz := hbr.size
      have HBR := Lib.hid hbr
      have hgr := Lib.hid (bcs hbr hgl hg)
      cases hnb : entB name x with
      | true =>
        have HF := Lib.hid (find_at HX.out hnb hno.out)
        have HNB : Hid (decide (x.id = name) = true) := hnb
        clear hx hc1 hbr hnb hno hg
        go_wp2_with (go_at_call 65; refine (isEnt_any x g name _ hgr.out).mono ?_; rintro e w1 ⟨rfl, hb1'⟩; rw [HNB.out])
        go_ret
        exact ⟨ret_int (by rw [HF.out]; rfl), HBR.out.trans (hb1'.mono HBR.out.size)⟩
      | false =>
        have HNB : Hid (decide (x.id = name) = false) := hnb
        have HNX : Hid (∀ (j : Nat) y, j < k + 1 → l[j]? = some y → entB name y = false) := by
          intro j y hj hy
          by_cases e : j = k
          · subst e
            rw [hx] at hy
            cases hy
            exact hnb
          · exact hno.out j y (by omega) hy
        clear hx hc1 hbr hnb hno hg
        go_wp2_with (go_at_call 65; refine (isEnt_any x g name _ hgr.out).mono ?_; rintro e w1 ⟨rfl, hb1'⟩; rw [HNB.out])
        go_roundw
        case rel => exact ⟨k + 1, by omega, by go_num, HNX, HBR.out.trans (hb1'.mono HBR.out.size)⟩
        case measure => simp [intOf]; omega
    · obtain rfl : k = l.length := by omega
      have HF := Lib.hid (find_not (p := entB name) (l := l) (fun j y hy => hno.out j y (List.getElem?_eq_some_iff.1 hy).1 hy))
      go_wp2_with fail
      go_ret
      exact ⟨ret_int (by rw [HF.out]; rfl), hbr⟩

theorem told_idx (l : List En) (id : ByteArray) : toldB l id = (l.findIdx? (entB id)).isSome := by
  unfold toldB
  rw [List.findIdx?_isSome]
  rfl
set_option maxRecDepth 100000 in
set_option maxHeartbeats 1000000 in
theorem containsE_any (w : World) (p : Option Addr) (n c : Nat) (l : List En) (hv : Rd w w.heap.size encE 3 (.slice p n c) l) (g : Nat) (name : ByteArray) (hg : w.cell? ⟨g, 0, none⟩ = some (.string name)) (hlen : l.length ≤ 4398046510976) :
    Calls Try.prog 64 #[.slice p n c, isEntV g] w fun e w' => e = .returned (.bool (toldB l name)) ∧ Below w.heap.size w w' := by
  have HC := Lib.hid (indexE_any w p n c l hv g name hg hlen)
  have HT := Lib.hid (told_idx l name)
  clear hv hg hlen
  generalize l.findIdx? (entB name) = o at HC HT
  cases o with
  | none =>
    have hd : decide ((0 : Int) ≤ placeI none) = false := by decide
    go_enter Try.func64, Try.ntmps64
    go_wp2_with (go_at_call 100; refine HC.out.mono ?_; rintro e w1 ⟨rfl, hb1⟩)
    go_ret
    exact ⟨ret_bool (by rw [HT.out]; rfl), hb1⟩
  | some i =>
    have hd : decide ((0 : Int) ≤ placeI (some i)) = true := by simp [placeI]
    go_enter Try.func64, Try.ntmps64
    go_wp2_with (go_at_call 100; refine HC.out.mono ?_; rintro e w1 ⟨rfl, hb1⟩)
    go_ret
    exact ⟨ret_bool (by rw [HT.out]; simp), hb1⟩
end Go.Proofs.Ythgkgjcnmahacaa
end
