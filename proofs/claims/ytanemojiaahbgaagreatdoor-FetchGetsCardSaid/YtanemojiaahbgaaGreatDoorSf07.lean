import Derived.Test.YtanemojiaahbgaaGreatDoorSf06
import Derived.Test.YtanemojiaahbgaaGreatDoorSf04
import Derived.Test.YtanemojiaahbgaaGreatDoorSf00
section
/- Small makers: fetch.text, ref25.Text, fetch.member; walked. -/
set_option linter.unusedSimpArgs false
set_option linter.unusedVariables false
namespace Go.Proofs.YtanemojiaahbgaaGreatDoor
open Go Go.RowKit Go.OpenShut

/-- A text as a value. -/
def textR (s : ByteArray) : RV := ⟨4, 0, s, none, 0, 0, none, 0, 0⟩
def textJ (s : ByteArray) : JV := .mk 4 0 s [] []
theorem textR_of (w : World) (S : Nat → Prop) (s : ByteArray) : TreeS w S (textJ s) (textR s) := TreeS.leaf w S 4 0 s

set_option maxRecDepth 100000 in
set_option maxHeartbeats 2000000 in
theorem textV_any (s : ByteArray) (w : World) : Calls Tryz.prog 28 #[.string s] w fun e w' => e = .returned (RV.val (textR s)) ∧ Below w.heap.size w w' := by
  have hZ0 : VAt (w.alloc (.cells #[.int .i64 0, .int .i64 0, .string ⟨#[]⟩, .slice none 0 0, .slice none 0 0] 31)) w.heap.size RV.zero := heap_alloc_at rfl
  have hB0 : Below w.heap.size w (w.alloc (.cells #[.int .i64 0, .int .i64 0, .string ⟨#[]⟩, .slice none 0 0, .slice none 0 0] 31)) := (Below.refl _ _).alloc (Nat.le_refl _) _
  go_enter Tryz.func28, Tryz.ntmps28
  go_upto_region 1 with fail
  obtain ⟨W0, hW0⟩ : ∃ W0, (w.alloc (.cells #[.int .i64 0, .int .i64 0, .string ⟨#[]⟩, .slice none 0 0, .slice none 0 0] 31)) = W0 := ⟨_, rfl⟩
  rw [hW0] at hZ0 hB0 ⊢
  clear hW0
  have z0 := hZ0.cell 0 rfl
  have z1 := hZ0.cell 1 rfl
  have z2 := hZ0.cell 2 rfl
  have z3 := hZ0.cell 3 rfl
  have z4 := hZ0.cell 4 rfl
  dsimp only [RV.zero] at z0 z1 z2 z3 z4
  have y0 := hZ0.frozen 0
  have y1 := hZ0.frozen 1
  have y2 := hZ0.frozen 2
  have y3 := hZ0.frozen 3
  have y4 := hZ0.frozen 4
  have HB := Lib.hid hB0
  clear hZ0 hB0
  go_wp2_with fail
  refine bodyPost_ret (v := RV.val ⟨4, 0, s, none, 0, 0, none, 0, 0⟩) (by simp [results, Tryz.results28, go_sem, z0, z1, z2, z3, z4]) rfl ⟨rfl, ?_⟩
  exact Below.stored HB.out (Nat.le_refl _) ⟨4, 0, s, none, 0, 0, none, 0, 0⟩

set_option maxRecDepth 100000 in
set_option maxHeartbeats 2000000 in
theorem textV25_any (s : ByteArray) (w : World) : Calls Tryz.prog 35 #[.string s] w fun e w' => e = .returned (RV.val (textR s)) ∧ Below w.heap.size w w' := by
  have hZ0 : VAt (w.alloc (.cells #[.int .i64 0, .int .i64 0, .string ⟨#[]⟩, .slice none 0 0, .slice none 0 0] 31)) w.heap.size RV.zero := heap_alloc_at rfl
  have hB0 : Below w.heap.size w (w.alloc (.cells #[.int .i64 0, .int .i64 0, .string ⟨#[]⟩, .slice none 0 0, .slice none 0 0] 31)) := (Below.refl _ _).alloc (Nat.le_refl _) _
  go_enter Tryz.func35, Tryz.ntmps35
  go_upto_region 1 with fail
  obtain ⟨W0, hW0⟩ : ∃ W0, (w.alloc (.cells #[.int .i64 0, .int .i64 0, .string ⟨#[]⟩, .slice none 0 0, .slice none 0 0] 31)) = W0 := ⟨_, rfl⟩
  rw [hW0] at hZ0 hB0 ⊢
  clear hW0
  have z0 := hZ0.cell 0 rfl
  have z1 := hZ0.cell 1 rfl
  have z2 := hZ0.cell 2 rfl
  have z3 := hZ0.cell 3 rfl
  have z4 := hZ0.cell 4 rfl
  dsimp only [RV.zero] at z0 z1 z2 z3 z4
  have y0 := hZ0.frozen 0
  have y1 := hZ0.frozen 1
  have y2 := hZ0.frozen 2
  have y3 := hZ0.frozen 3
  have y4 := hZ0.frozen 4
  have HB := Lib.hid hB0
  clear hZ0 hB0
  go_wp2_with fail
  refine bodyPost_ret (v := RV.val ⟨4, 0, s, none, 0, 0, none, 0, 0⟩) (by simp [results, Tryz.results35, go_sem, z0, z1, z2, z3, z4]) rfl ⟨rfl, ?_⟩
  exact Below.stored HB.out (Nat.le_refl _) ⟨4, 0, s, none, 0, 0, none, 0, 0⟩

/-- A member's cells in a block. -/
abbrev RM.obj (r : RM) : Obj := .cells #[.string r.name, .int .i64 r.v.k, .int .i64 r.v.n, .string r.v.s, .slice r.v.pl r.v.nl r.v.cl, .slice r.v.pm r.v.nm r.v.cm] 48
def RV.oval (k n : Int) (s : ByteArray) (pl : Option Addr) (nl cl : Nat) (pm : Option Addr) (nm cm : Nat) : RV := ⟨k, n, s, pl, nl, cl, pm, nm, cm⟩
set_option maxRecDepth 100000 in
set_option maxHeartbeats 4000000 in
theorem member_any (name : ByteArray) (r : RV) (w : World) : Calls Tryz.prog 27 #[.string name, RV.val r] w fun e w' => e = .returned (RM.val ⟨name, r⟩) ∧ Below w.heap.size w w' := by
  obtain ⟨k, n, s, pl, nl, cl, pm, nm, cm⟩ := r
  have hV0 : VAt ((w.alloc (.cells #[.int .i64 k, .int .i64 n, .string s, .slice pl nl cl, .slice pm nm cm] 31)).alloc (.cells #[.string ⟨#[]⟩, .int .i64 0, .int .i64 0, .string ⟨#[]⟩, .slice none 0 0, .slice none 0 0] 48)) w.heap.size ⟨k, n, s, pl, nl, cl, pm, nm, cm⟩ := heap_alloc_lt (by simp) (heap_alloc_at rfl)
  have hZ0 : ((w.alloc (.cells #[.int .i64 k, .int .i64 n, .string s, .slice pl nl cl, .slice pm nm cm] 31)).alloc (.cells #[.string ⟨#[]⟩, .int .i64 0, .int .i64 0, .string ⟨#[]⟩, .slice none 0 0, .slice none 0 0] 48)).heap[w.heap.size + 1]? = some (.cells #[.string ⟨#[]⟩, .int .i64 0, .int .i64 0, .string ⟨#[]⟩, .slice none 0 0, .slice none 0 0] 48) := heap_alloc_at (by simp)
  have hB0 : Below w.heap.size w ((w.alloc (.cells #[.int .i64 k, .int .i64 n, .string s, .slice pl nl cl, .slice pm nm cm] 31)).alloc (.cells #[.string ⟨#[]⟩, .int .i64 0, .int .i64 0, .string ⟨#[]⟩, .slice none 0 0, .slice none 0 0] 48)) := ((Below.refl _ _).alloc (Nat.le_refl _) _).alloc (by simp) _
  go_enter Tryz.func27, Tryz.ntmps27
  go_upto_region 1 with fail
  obtain ⟨W0, hW0⟩ : ∃ W0, ((w.alloc (.cells #[.int .i64 k, .int .i64 n, .string s, .slice pl nl cl, .slice pm nm cm] 31)).alloc (.cells #[.string ⟨#[]⟩, .int .i64 0, .int .i64 0, .string ⟨#[]⟩, .slice none 0 0, .slice none 0 0] 48)) = W0 := ⟨_, rfl⟩
  rw [hW0] at hV0 hZ0 hB0 ⊢
  clear hW0
  have v0 := hV0.cell 0 rfl
  have v1 := hV0.cell 1 rfl
  have v2 := hV0.cell 2 rfl
  have v3 := hV0.cell 3 rfl
  have v4 := hV0.cell 4 rfl
  dsimp only at v0 v1 v2 v3 v4
  have z0 : W0.cell? ⟨w.heap.size + 1, 0, none⟩ = some (.string ⟨#[]⟩) := (cell_of_row W0 (w.heap.size + 1) 0 _ _ _ hZ0).trans rfl
  have z1 : W0.cell? ⟨w.heap.size + 1, 1, none⟩ = some (.int .i64 0) := (cell_of_row W0 (w.heap.size + 1) 1 _ _ _ hZ0).trans rfl
  have z2 : W0.cell? ⟨w.heap.size + 1, 2, none⟩ = some (.int .i64 0) := (cell_of_row W0 (w.heap.size + 1) 2 _ _ _ hZ0).trans rfl
  have z3 : W0.cell? ⟨w.heap.size + 1, 3, none⟩ = some (.string ⟨#[]⟩) := (cell_of_row W0 (w.heap.size + 1) 3 _ _ _ hZ0).trans rfl
  have z4 : W0.cell? ⟨w.heap.size + 1, 4, none⟩ = some (.slice none 0 0) := (cell_of_row W0 (w.heap.size + 1) 4 _ _ _ hZ0).trans rfl
  have z5 : W0.cell? ⟨w.heap.size + 1, 5, none⟩ = some (.slice none 0 0) := (cell_of_row W0 (w.heap.size + 1) 5 _ _ _ hZ0).trans rfl
  have yy : ∀ j, W0.frozen? ⟨w.heap.size + 1, j, none⟩ = false := fun j => by simp [World.frozen?, hZ0]
  have y0 := yy 0
  have y1 := yy 1
  have y2 := yy 2
  have y3 := yy 3
  have y4 := yy 4
  have y5 := yy 5
  have HB := Lib.hid hB0
  clear hV0 hZ0 hB0 yy
  go_wp2_with fail
  refine bodyPost_ret (v := RM.val ⟨name, ⟨k, n, s, pl, nl, cl, pm, nm, cm⟩⟩) (by simp [results, Tryz.results27, go_sem, z0, z1, z2, z3, z4, z5]) rfl ⟨rfl, ?_⟩
  exact Below.setCell (Below.setCell (Below.setCell (Below.setCell (Below.setCell (Below.setCell HB.out (Nat.le_succ _) _) (Nat.le_succ _) _) (Nat.le_succ _) _) (Nat.le_succ _) _) (Nat.le_succ _) _) (Nat.le_succ _) _

end Go.Proofs.YtanemojiaahbgaaGreatDoor
end

section
/- Which members are shown: fetch.Show's closure, ContainsFunc with it; walked; what is shown, as data. -/
set_option linter.unusedSimpArgs false
set_option linter.unusedVariables false
namespace Go.Proofs.YtanemojiaahbgaaGreatDoor
open Go Go.RowKit Go.OpenShut

def idN : ByteArray := ⟨#[105, 100]⟩
/-- Is a name told by names (or are there none)? -/
def nameIn (names : JV) (n : ByteArray) : Bool := decide (names.k ≠ 5) || names.l.any (fun x => decide (x.k = 4) && decide (x.s = n))
def showP (names : JV) (p : ByteArray × JV) : Bool := nameIn names p.1 && decide (p.1 ≠ idN)
def showM (v names : JV) : List (ByteArray × JV) := v.m.filter (showP names)
def showJ (id : ByteArray) (v names : JV) : JV := .mk 6 0 ⟨#[]⟩ [] ((idN, textJ id) :: showM v names)
def isTx (n : ByteArray) (x : RV) : Bool := decide (x.k = 4) && decide (x.s = n)
theorem any_same {α β : Type} {f : α → Bool} {g : β → Bool} : ∀ {l : List α} {m : List β}, l.length = m.length → (∀ (i : Nat) a b, l[i]? = some a → m[i]? = some b → f a = g b) → l.any f = m.any g
  | [], [], _, _ => rfl
  | [], _ :: _, h, _ => by simp at h
  | _ :: _, [], h, _ => by simp at h
  | a :: l, b :: m, h, k => by
    rw [List.any_cons, List.any_cons, k 0 a b rfl rfl, any_same (by simpa using h) (fun i a b h1 h2 => k (i + 1) a b (by simpa using h1) (by simpa using h2))]
theorem nameIn_rs {w : World} {B : Nat} {names : JV} {rs : List RV} (el : names.l.length = rs.length) (ht : ∀ (i : Nat) (x : JV) (q : RV), names.l[i]? = some x → rs[i]? = some q → TreeOf w B x q) (n : ByteArray) : nameIn names n = (decide (names.k ≠ 5) || anyV (isTx n) rs) := by
  unfold nameIn anyV
  congr 1
  refine any_same el (fun i a b h1 h2 => ?_)
  obtain ⟨hk, _, hs⟩ := (ht i a b h1 h2).head
  unfold isTx
  rw [hk, hs]

set_option maxRecDepth 100000 in
set_option maxHeartbeats 1000000 in
theorem showX_any (x : RV) (g : Nat) (name : ByteArray) (w : World) (hg : w.cell? ⟨g, 0, none⟩ = some (.string name)) :
    Calls Tryz.prog 41 #[x.val, .pointer (some ⟨g, 0, none⟩)] w fun e w' => e = .returned (.bool (isTx name x)) ∧ Below w.heap.size w w' := by
  obtain ⟨k, n, s, pl, nl, cl, pm, nm, cm⟩ := x
  dsimp only [RV.val] at *
  have hlt := (cell_some hg).2
  have hB : Below w.heap.size w (w.alloc (.cells #[.int .i64 k, .int .i64 n, .string s, .slice pl nl cl, .slice pm nm cm] 31)) := (Below.refl _ _).alloc (Nat.le_refl _) _
  have hc := bcs hB hlt hg
  have hA : VAt (w.alloc (.cells #[.int .i64 k, .int .i64 n, .string s, .slice pl nl cl, .slice pm nm cm] 31)) w.heap.size ⟨k, n, s, pl, nl, cl, pm, nm, cm⟩ := heap_alloc_at rfl
  obtain ⟨W0, hW0⟩ : ∃ W, w.alloc (.cells #[.int .i64 k, .int .i64 n, .string s, .slice pl nl cl, .slice pm nm cm] 31) = W := ⟨_, rfl⟩
  rw [hW0] at hB hc hA
  have HB := Lib.hid hB
  have HA := Lib.hid hA
  clear hB hA hg
  by_cases h4 : k = 4
  · subst h4
    have HT : Hid (isTx name ⟨4, n, s, pl, nl, cl, pm, nm, cm⟩ = decide (s = name)) := by unfold Hid isTx; simp
    have hq : (s.toList == name.toList) = decide (s = name) := str_beq s name
    rw [HT.out]
    generalize decide (s = name) = b at hq
    clear HT
    cases b
    all_goals
      go_enter Tryz.func41, Tryz.ntmps41
      go_upto_region 1 with fail
      try rw [hW0]
      clear hW0
      have a0 := HA.out.cell 0 rfl
      have a1 := HA.out.cell 1 rfl
      have a2 := HA.out.cell 2 rfl
      have a3 := HA.out.cell 3 rfl
      have a4 := HA.out.cell 4 rfl
      go_wp2_with fail
      go_ret
      exact ⟨rfl, HB.out⟩
  · have hq : (k == 4) = false := by simpa using h4
    have HR : Hid (isTx name ⟨k, n, s, pl, nl, cl, pm, nm, cm⟩ = false) := by unfold Hid isTx; rw [decide_eq_false h4]; rfl
    rw [HR.out]
    clear HR h4
    go_enter Tryz.func41, Tryz.ntmps41
    go_upto_region 1 with fail
    try rw [hW0]
    clear hW0
    have a0 := HA.out.cell 0 rfl
    have a1 := HA.out.cell 1 rfl
    have a2 := HA.out.cell 2 rfl
    have a3 := HA.out.cell 3 rfl
    have a4 := HA.out.cell 4 rfl
    go_wp2_with fail
    go_ret
    exact ⟨rfl, HB.out⟩

set_option maxRecDepth 100000 in
set_option maxHeartbeats 1000000 in
theorem indexSh_any (w : World) (p : Option Addr) (n c g : Nat) (rs : List RV) (pb : RV → Bool) (hv : Rd w w.heap.size encV 5 (.slice p n c) rs) (hlen : rs.length ≤ 1759218604390)
    (HP : ∀ (i : Nat) x, rs[i]? = some x → ∀ W, Below w.heap.size w W → Calls Tryz.prog 41 #[x.val, .pointer (some ⟨g, 0, none⟩)] W fun e w' => e = .returned (.bool (pb x)) ∧ Below W.heap.size W w') :
    Calls Tryz.prog 65 #[.slice p n c, .func (.func 41) #[] #[.pointer (some ⟨g, 0, none⟩)]] w fun e w' => e = .returned (.int .i64 (placeI (rs.findIdx? pb))) ∧ Below w.heap.size w w' := by
  have hn := rd_nlen hv
  subst hn
  have HV := Lib.hid hv
  have HPB := Lib.hid HP
  clear hv HP
  go_enter Tryz.func65, Tryz.ntmps65
  go_wp2_with fail
  go_loopw [8] (fun i wr => ∃ k : Nat, k ≤ rs.length ∧ i = .int .i64 k ∧ Hid (∀ (j : Nat) y, j < k → rs[j]? = some y → pb y = false) ∧ Below w.heap.size w wr) (fun i _ => rs.length - (intOf i).toNat)
  case atStart => exact ⟨0, Nat.zero_le _, rfl, fun j y h => by omega, Below.refl _ _⟩
  case round =>
    obtain ⟨k, hk, rfl, hno, hbr⟩ := hrel
    by_cases hlt : k < rs.length
    · obtain ⟨x, hx⟩ : ∃ x, rs[k]? = some x := ⟨_, List.getElem?_eq_getElem hlt⟩
      obtain ⟨b1, o1, rfl, hb1, hc1⟩ := rd_at' (HV.out.below hbr (Nat.le_refl _)) hx
      have f0 := hc1 0 _ rfl
      have f1 := hc1 1 _ rfl
      have f2 := hc1 2 _ rfl
      have f3 := hc1 3 _ rfl
      have f4 := hc1 4 _ rfl
      rw [Nat.add_zero] at f0
      have HX := Lib.hid hx
      have HBR := Lib.hid hbr
      have HQ : Hid (∀ W, Below w.heap.size w W → Calls Tryz.prog 41 #[x.val, .pointer (some ⟨g, 0, none⟩)] W fun e w' => e = .returned (.bool (pb x)) ∧ Below W.heap.size W w') := HPB.out k x hx
      cases hnb : pb x
      all_goals
        rw [hnb] at HQ
        have HNB := Lib.hid hnb
        have HNO := Lib.hid hno.out
        clear hx hc1 hbr hnb hno
        go_wp2_with (go_at_call 41; refine (HQ.out _ HBR.out).mono ?_; rintro e w1 ⟨rfl, hb1'⟩)
        first
          | (go_roundw
             case rel =>
               refine ⟨k + 1, by omega, by go_num, ?_, HBR.out.trans (hb1'.mono HBR.out.size)⟩
               intro j y hj hy
               by_cases e : j = k
               · subst e
                 have h2 := HX.out
                 rw [hy] at h2
                 cases h2
                 exact HNB.out
               · exact HNO.out j y (by omega) hy
             case measure => simp [intOf]; omega)
          | (go_ret
             have HF := find_at HX.out HNB.out HNO.out
             exact ⟨ret_int (by rw [HF]; rfl), HBR.out.trans (hb1'.mono HBR.out.size)⟩)
    · obtain rfl : k = rs.length := by omega
      have HF := Lib.hid (find_not (p := pb) (l := rs) (fun j y hy => hno.out j y (List.getElem?_eq_some_iff.1 hy).1 hy))
      go_wp2_with fail
      go_ret
      exact ⟨ret_int (by rw [HF.out]; rfl), hbr⟩
set_option maxRecDepth 100000 in
set_option maxHeartbeats 1000000 in
theorem containsSh_any (w : World) (p : Option Addr) (n c g : Nat) (rs : List RV) (pb : RV → Bool) (hv : Rd w w.heap.size encV 5 (.slice p n c) rs) (hlen : rs.length ≤ 1759218604390)
    (HP : ∀ (i : Nat) x, rs[i]? = some x → ∀ W, Below w.heap.size w W → Calls Tryz.prog 41 #[x.val, .pointer (some ⟨g, 0, none⟩)] W fun e w' => e = .returned (.bool (pb x)) ∧ Below W.heap.size W w') :
    Calls Tryz.prog 40 #[.slice p n c, .func (.func 41) #[] #[.pointer (some ⟨g, 0, none⟩)]] w fun e w' => e = .returned (.bool (anyV pb rs)) ∧ Below w.heap.size w w' := by
  have HC := Lib.hid (indexSh_any w p n c g rs pb hv hlen HP)
  have HT := Lib.hid (anyV_idx pb rs)
  clear hv HP hlen
  generalize rs.findIdx? pb = o at HC HT
  cases o with
  | none =>
    have hd : decide ((0 : Int) ≤ placeI none) = false := by decide
    go_enter Tryz.func40, Tryz.ntmps40
    go_wp2_with (go_at_call 65; refine HC.out.mono ?_; rintro e w1 ⟨rfl, hb1⟩)
    go_ret
    exact ⟨ret_boolI (by rw [HT.out]; rfl), hb1⟩
  | some i =>
    have hd : decide ((0 : Int) ≤ placeI (some i)) = true := by simp [placeI]
    go_enter Tryz.func40, Tryz.ntmps40
    go_wp2_with (go_at_call 65; refine HC.out.mono ?_; rintro e w1 ⟨rfl, hb1⟩)
    go_ret
    exact ⟨ret_boolI (by rw [HT.out]; simp), hb1⟩

end Go.Proofs.YtanemojiaahbgaaGreatDoor
end

section
/- The tokens of a plain text of JSON, in plain lists: texts of plain letters, words and marks. -/
set_option linter.unusedSimpArgs false
set_option linter.unusedVariables false
namespace Go.Proofs.YtanemojiaahbgaaGreatDoor
open Go Go.RowKit

/-- A token. -/
structure Tok where
  kind : Int
  n : Int
  s : ByteArray
  pos : Nat
def encTok (t : Tok) : List Value := [.int .i64 t.kind, .int .i64 t.n, .string t.s, .int .i64 t.pos]
theorem codecTok : Codec encTok 4 := ⟨fun _ => rfl, fun x u hu => by
  simp only [encTok, List.mem_cons, List.not_mem_nil, or_false] at hu
  rcases hu with rfl | rfl | rfl | rfl <;> rfl, by decide⟩
/-- A letter of a plain text; a space; a mark. -/
def okCh (c : UInt8) : Bool := decide (32 ≤ c.toNat) && decide (c.toNat < 128) && decide (c.toNat ≠ 34) && decide (c.toNat ≠ 92)
def spCh (c : UInt8) : Bool := decide (c.toNat = 32) || decide (c.toNat = 9) || decide (c.toNat = 10) || decide (c.toNat = 13)
def mkCh (c : UInt8) : Bool := decide (c.toNat = 123) || decide (c.toNat = 125) || decide (c.toNat = 91) || decide (c.toNat = 93) || decide (c.toNat = 58) || decide (c.toNat = 44)
def wTrue : ByteArray := ⟨#[116, 114, 117, 101]⟩
def wFalse : ByteArray := ⟨#[102, 97, 108, 115, 101]⟩
def wNull : ByteArray := ⟨#[110, 117, 108, 108]⟩
/-- Can a byte go on a word? -/
def partCh (c : UInt8) : Bool := decide (97 ≤ c.toNat) && decide (c.toNat ≤ 122) || decide (65 ≤ c.toNat) && decide (c.toNat ≤ 90) || decide (48 ≤ c.toNat) && decide (c.toNat ≤ 57) || decide (c.toNat = 95)
/-- A word stands at a place. -/
def wordAt (s : ByteArray) (i : Nat) (w : ByteArray) : Bool := decide ((s.data.toList.drop i).take w.size = w.data.toList) && (decide (i + w.size = s.size) || (decide (i + w.size < s.size) && !partCh s[i + w.size]!))
/-- A part of a text. -/
def cutB (s : ByteArray) (a b : Nat) : ByteArray := ⟨((s.data.toList.drop a).take (b - a)).toArray⟩
/-- Where a plain text's letters end. -/
def endT (s : ByteArray) : Nat → Nat → Nat
  | 0, i => i
  | f + 1, i => if decide (i < s.size) && okCh s[i]! then endT s f (i + 1) else i
inductive Toks (s : ByteArray) : Nat → List Tok → Prop
  | done : Toks s s.size []
  | space {i : Nat} {l : List Tok} : i < s.size → spCh s[i]! = true → Toks s (i + 1) l → Toks s i l
  | mark {i : Nat} {l : List Tok} : i < s.size → mkCh s[i]! = true → Toks s (i + 1) l → Toks s i (⟨1, 0, ⟨#[s[i]!]⟩, i⟩ :: l)
  | text {i j : Nat} {l : List Tok} : i < j → j < s.size → s[i]!.toNat = 34 → (∀ k, i < k → k < j → okCh s[k]! = true) → s[j]!.toNat = 34 → Toks s (j + 1) l → Toks s i (⟨4, 0, cutB s (i + 1) j, i⟩ :: l)
  | word {i : Nat} {w : ByteArray} {l : List Tok} : w = wTrue ∨ w = wFalse ∨ w = wNull → i < s.size → wordAt s i w = true → Toks s (i + w.size) l → Toks s i (⟨2, 0, w, i⟩ :: l)
/-- The same by a program. -/
def toksF (s : ByteArray) : Nat → Nat → Option (List Tok)
  | 0, _ => none
  | f + 1, i =>
    if i < s.size then
      if spCh s[i]! then toksF s f (i + 1)
      else if mkCh s[i]! then (toksF s f (i + 1)).map (⟨1, 0, ⟨#[s[i]!]⟩, i⟩ :: ·)
      else if s[i]!.toNat = 34 then
        if decide (endT s s.size (i + 1) < s.size) && decide (s[endT s s.size (i + 1)]!.toNat = 34) then (toksF s f (endT s s.size (i + 1) + 1)).map (⟨4, 0, cutB s (i + 1) (endT s s.size (i + 1)), i⟩ :: ·) else none
      else if wordAt s i wTrue then (toksF s f (i + wTrue.size)).map (⟨2, 0, wTrue, i⟩ :: ·)
      else if wordAt s i wFalse then (toksF s f (i + wFalse.size)).map (⟨2, 0, wFalse, i⟩ :: ·)
      else if wordAt s i wNull then (toksF s f (i + wNull.size)).map (⟨2, 0, wNull, i⟩ :: ·)
      else none
    else if i = s.size then some [] else none
theorem endT_ok (s : ByteArray) : ∀ (f i : Nat), i ≤ endT s f i ∧ ∀ k, i ≤ k → k < endT s f i → okCh s[k]! = true
  | 0, i => ⟨Nat.le_refl _, fun k h1 h2 => by unfold endT at h2; omega⟩
  | f + 1, i => by
    unfold endT
    split
    · rename_i h
      rw [Bool.and_eq_true] at h
      have ih := endT_ok s f (i + 1)
      refine ⟨by omega, fun k h1 h2 => ?_⟩
      by_cases e : k = i
      · subst e; exact h.2
      · exact ih.2 k (by omega) h2
    · exact ⟨Nat.le_refl _, fun k h1 h2 => by omega⟩
theorem toksF_ok (s : ByteArray) : ∀ (f i : Nat) (l : List Tok), toksF s f i = some l → Toks s i l
  | 0, i, l, h => by simp [toksF] at h
  | f + 1, i, l, h => by
    unfold toksF at h
    split at h
    · rename_i h0
      split at h
      · rename_i h1
        exact .space h0 h1 (toksF_ok s f _ l h)
      · split at h
        · rename_i h2
          obtain ⟨l', h3, rfl⟩ := Option.map_eq_some_iff.1 h
          exact .mark h0 h2 (toksF_ok s f _ l' h3)
        · split at h
          · rename_i h2
            split at h
            · rename_i h4
              rw [Bool.and_eq_true] at h4
              obtain ⟨l', h3, rfl⟩ := Option.map_eq_some_iff.1 h
              have he := endT_ok s s.size (i + 1)
              exact .text (by omega) (of_decide_eq_true h4.1) h2 (fun k h5 h6 => he.2 k (by omega) h6) (of_decide_eq_true h4.2) (toksF_ok s f _ l' h3)
            · cases h
          · split at h
            · rename_i h2
              obtain ⟨l', h3, rfl⟩ := Option.map_eq_some_iff.1 h
              exact .word (.inl rfl) h0 h2 (toksF_ok s f _ l' h3)
            · split at h
              · rename_i h2
                obtain ⟨l', h3, rfl⟩ := Option.map_eq_some_iff.1 h
                exact .word (.inr (.inl rfl)) h0 h2 (toksF_ok s f _ l' h3)
              · split at h
                · rename_i h2
                  obtain ⟨l', h3, rfl⟩ := Option.map_eq_some_iff.1 h
                  exact .word (.inr (.inr rfl)) h0 h2 (toksF_ok s f _ l' h3)
                · cases h
    · split at h
      · rename_i h1
        cases h
        subst h1
        exact .done
      · cases h
end Go.Proofs.YtanemojiaahbgaaGreatDoor
end

section
/- Values out of tokens, in plain lists. -/
set_option linter.unusedSimpArgs false
set_option linter.unusedVariables false
namespace Go.Proofs.YtanemojiaahbgaaGreatDoor
open Go Go.RowKit

/-- A token is a mark. -/
def isM (t : Tok) (c : UInt8) : Bool := decide (t.kind = 1) && decide (t.s = ⟨#[c]⟩)
def bareJ (k n : Int) : JV := .mk k n ⟨#[]⟩ [] []
mutual
/-- The value that begins with a token, so deep, behind so many values. -/
def parV : Nat → Nat → Nat → List Tok → Option (JV × Nat × List Tok)
  | 0, _, _, _ => none
  | _ + 1, _, _, [] => none
  | f + 1, deep, parts, t :: ts =>
    if 16 < deep ∨ 8192 ≤ parts then none
    else if t.kind = 4 then some (.mk 4 0 t.s [] [], parts + 1, ts)
    else if t.kind = 2 then if t.s = wNull then some (bareJ 1 0, parts + 1, ts) else if t.s = wTrue then some (bareJ 2 1, parts + 1, ts) else some (bareJ 2 0, parts + 1, ts)
    else if isM t 91 then
      match ts with
      | [] => none
      | c :: r => if isM c 93 then some (.mk 5 0 ⟨#[]⟩ [] [], parts + 1, r) else (parL f deep (parts + 1) (c :: r)).map (fun x => (.mk 5 0 ⟨#[]⟩ x.1 [], x.2.1, x.2.2))
    else if isM t 123 then
      match ts with
      | [] => none
      | c :: r => if isM c 125 then some (.mk 6 0 ⟨#[]⟩ [] [], parts + 1, r) else (parM f deep (parts + 1) [] (c :: r)).map (fun x => (.mk 6 0 ⟨#[]⟩ [] x.1, x.2.1, x.2.2))
    else none
/-- What stands behind [. -/
def parL : Nat → Nat → Nat → List Tok → Option (List JV × Nat × List Tok)
  | 0, _, _, _ => none
  | f + 1, deep, parts, ts =>
    match parV f (deep + 1) parts ts with
    | some (v, p, c :: r) => if isM c 93 then some ([v], p, r) else if isM c 44 then (parL f deep p r).map (fun x => (v :: x.1, x.2.1, x.2.2)) else none
    | _ => none
/-- What stands behind {. -/
def parM : Nat → Nat → Nat → List ByteArray → List Tok → Option (List (ByteArray × JV) × Nat × List Tok)
  | f + 1, deep, parts, known, n :: col :: ts =>
    if (decide (n.kind = 4) && !(known.any (fun x => decide (x = n.s))) && decide (n.s.size ≤ 1048576) && isM col 58) = true then
      match parV f (deep + 1) parts ts with
      | some (v, p, c :: r) => if isM c 125 then some ([(n.s, v)], p, r) else if isM c 44 then (parM f deep p (n.s :: known) r).map (fun x => ((n.s, v) :: x.1, x.2.1, x.2.2)) else none
      | _ => none
    else none
  | _, _, _, _, _ => none
end
/-- A whole text. -/
def readF (s : ByteArray) : Option JV := match toksF s (s.size + 1) 0 with
  | none => none
  | some ts => match parV (ts.length + 1) 1 0 ts with
    | some (v, _, []) => some v
    | _ => none
end Go.Proofs.YtanemojiaahbgaaGreatDoor
end

section
/- The reader of tokens: the next one, a look at it; walked. -/
set_option linter.unusedSimpArgs false
set_option linter.unusedVariables false
namespace Go.Proofs.YtanemojiaahbgaaGreatDoor
open Go Go.RowKit Go.OpenShut

abbrev Tok.val (t : Tok) : Value := .agg #[.int .i64 t.kind, .int .i64 t.n, .string t.s, .int .i64 t.pos]
abbrev Tok.obj (t : Tok) : Obj := .cells #[.int .i64 t.kind, .int .i64 t.n, .string t.s, .int .i64 t.pos] 84
def TokAt (W : World) (g : Nat) (t : Tok) : Prop := W.heap[g]? = some (.cells #[.int .i64 t.kind, .int .i64 t.n, .string t.s, .int .i64 t.pos] 84 (0, 0))
theorem TokAt.lt {W : World} {g : Nat} {t : Tok} (h : TokAt W g t) : g < W.heap.size := (Array.getElem?_eq_some_iff.1 h).1
theorem TokAt.cell {W : World} {g : Nat} {t : Tok} (h : TokAt W g t) (j : Nat) {u : Value} (hu : (encTok t)[j]? = some u) : W.cell? ⟨g, j, none⟩ = some u := by
  unfold TokAt at h
  rw [cell_of_row W g j _ _ _ h, ← Array.getElem?_toList]
  exact hu
theorem TokAt.frozen {W : World} {g : Nat} {t : Tok} (h : TokAt W g t) (j : Nat) : W.frozen? ⟨g, j, none⟩ = false := by
  unfold TokAt at h
  simp [World.frozen?, h]
theorem TokAt.keep {W W' : World} {g : Nat} {t : Tok} (h : TokAt W g t) (hk : W'.heap[g]? = W.heap[g]?) : TokAt W' g t := hk.trans h
theorem TokAt.stored {W : World} {g : Nat} {t : Tok} (h : TokAt W g t) (q : Tok) : TokAt ((((W.setCell ⟨g, 0, none⟩ (.int .i64 q.kind)).setCell ⟨g, 1, none⟩ (.int .i64 q.n)).setCell ⟨g, 2, none⟩ (.string q.s)).setCell ⟨g, 3, none⟩ (.int .i64 q.pos)) g q := by
  unfold TokAt at h ⊢
  simp [World.setCell, Array.getElem?_modify, h]
theorem grownBy_setT (W : World) (g : Nat) (q : Tok) : W.grownBy ((((W.setCell ⟨g, 0, none⟩ (.int .i64 q.kind)).setCell ⟨g, 1, none⟩ (.int .i64 q.n)).setCell ⟨g, 2, none⟩ (.string q.s)).setCell ⟨g, 3, none⟩ (.int .i64 q.pos)) (some g) :=
  (((grownBy_set W g 0 _).trans (grownBy_set _ g 1 _)).trans (grownBy_set _ g 2 _)).trans (grownBy_set _ g 3 _)
theorem rd_lens {α : Type} {enc : α → List Value} {sz B : Nat} {w : World} {v : Value} {xs : List α} (h : Rd w B enc sz v xs) : ∃ p cap, v = .slice p xs.length cap ∧ xs.length ≤ cap ∧ cap ≤ 9223372036854775807 := by
  obtain ⟨p, cap, he, h1, h2, _⟩ := h
  exact ⟨p, cap, he, h1, h2⟩
def Tok.zero : Tok := ⟨0, 0, ⟨#[]⟩, 0⟩
theorem infoTk : (Tryz.prog.info? 84).map (fun i => (i.zero, i.size, i.bytes)) = some (some (.agg #[.int .i64 0, .int .i64 0, .string ByteArray.empty, .int .i64 0]), 4, 40) := by kernel_rfl
theorem slTk : SlT Tryz.prog 73 84 4 40 := SlT.mk Tryz.underlying73 infoTk rfl
/-- The reader: what is left, where the text ends, how many values there were. -/
def RdrAt (W : World) (g : Nat) (v : Value) (en pa : Nat) : Prop := W.heap[g]? = some (.cells #[v, .int .i64 en, .int .i64 pa] 81 (0, 0))
theorem RdrAt.lt {W : World} {g en pa : Nat} {v : Value} (h : RdrAt W g v en pa) : g < W.heap.size := (Array.getElem?_eq_some_iff.1 h).1
theorem RdrAt.cell {W : World} {g en pa : Nat} {v : Value} (h : RdrAt W g v en pa) (j : Nat) {u : Value} (hu : [v, Value.int .i64 en, .int .i64 pa][j]? = some u) : W.cell? ⟨g, j, none⟩ = some u := by
  unfold RdrAt at h
  rw [cell_of_row W g j _ _ _ h, ← Array.getElem?_toList]
  exact hu
theorem RdrAt.frozen {W : World} {g en pa : Nat} {v : Value} (h : RdrAt W g v en pa) (j : Nat) : W.frozen? ⟨g, j, none⟩ = false := by
  unfold RdrAt at h
  simp [World.frozen?, h]
theorem RdrAt.keep {W W' : World} {g en pa : Nat} {v : Value} (h : RdrAt W g v en pa) (hk : W'.heap[g]? = W.heap[g]?) : RdrAt W' g v en pa := hk.trans h
theorem RdrAt.set0 {W : World} {g en pa : Nat} {v : Value} (h : RdrAt W g v en pa) (u : Value) : RdrAt (W.setCell ⟨g, 0, none⟩ u) g u en pa := by
  unfold RdrAt at h ⊢
  simp [World.setCell, Array.getElem?_modify, h]
theorem RdrAt.set2 {W : World} {g en pa : Nat} {v : Value} (h : RdrAt W g v en pa) (k : Nat) : RdrAt (W.setCell ⟨g, 2, none⟩ (.int .i64 k)) g v en k := by
  unfold RdrAt at h ⊢
  simp [World.setCell, Array.getElem?_modify, h]
/-- The reader with the tokens that are left. -/
structure RdS (W : World) (g : Nat) (ts : List Tok) (en pa : Nat) : Prop where
  ex : ∃ p n c, RdrAt W g (.slice p n c) en pa ∧ Rd W g encTok 4 (.slice p n c) ts
theorem RdS.lt {W : World} {g en pa : Nat} {ts : List Tok} (h : RdS W g ts en pa) : g < W.heap.size := by
  obtain ⟨p, n, c, h1, _⟩ := h.ex
  exact h1.lt
theorem below_of {B : Nat} {w w' : World} {row : Option Nat} (h : w.grownBy w' row) (hb : B ≤ w.heap.size) (hr : ∀ k, row = some k → B ≤ k) : Below B w w' := (Below.refl B w).grown h hb hr
/-- Something else is written. -/
theorem RdS.kept {W W' : World} {g en pa : Nat} {ts : List Tok} {row : Option Nat} (h : RdS W g ts en pa) (hg : W.grownBy W' row) (hr : ∀ k, row = some k → g < k) : RdS W' g ts en pa := by
  have hl := h.lt
  obtain ⟨p, n, c, h1, h2⟩ := h.ex
  exact ⟨p, n, c, h1.keep (hg.block g hl (fun e => by have := hr g e.symm; omega)), h2.below (below_of hg (by omega) (fun k e => by have := hr k e; omega)) (Nat.le_refl _)⟩
theorem RdS.len {W : World} {g en pa : Nat} {ts : List Tok} (h : RdS W g ts en pa) : ∃ p c, RdrAt W g (.slice p ts.length c) en pa ∧ Rd W g encTok 4 (.slice p ts.length c) ts ∧ ts.length ≤ 9223372036854775807 := by
  obtain ⟨p, n, c, h1, h2⟩ := h.ex
  have hl := rd_nlen h2
  obtain ⟨p', c', hv, h3, h4⟩ := rd_lens h2
  simp only [Value.slice.injEq] at hv
  obtain ⟨rfl, rfl, rfl⟩ := hv
  exact ⟨p, c, h1, h2, by omega⟩

set_option maxRecDepth 100000 in
set_option maxHeartbeats 1000000 in
theorem is_any (t : Tok) (c : UInt8) (w : World) (b : Bool) (hb : isM t c = b) : Calls Tryz.prog 69 #[t.val, .string ⟨#[c]⟩] w fun e w' => e = .returned (.bool b) ∧ Below w.heap.size w w' := by
  subst hb
  unfold isM
  obtain ⟨k, n, s, p⟩ := t
  dsimp only [Tok.val]
  by_cases h1 : k = 1
  · subst h1
    by_cases h2 : s = ⟨#[c]⟩
    · subst h2
      go_enter Tryz.func69, Tryz.ntmps69
      go_wp2_with fail
      go_ret
      exact ⟨by simp, (Below.refl _ _).alloc (Nat.le_refl _) _⟩
    · have hq : (s.toList == (⟨#[c]⟩ : ByteArray).toList) = false := by rw [str_beq]; simpa using h2
      have HR : Hid ((decide ((1 : Int) = 1) && decide (s = ⟨#[c]⟩)) = false) := by simp [Hid, h2]
      rw [HR.out]
      clear h2
      obtain ⟨m, hm⟩ : ∃ m : ByteArray, ⟨#[c]⟩ = m := ⟨_, rfl⟩
      rw [hm] at hq ⊢
      clear HR hm
      go_enter Tryz.func69, Tryz.ntmps69
      go_wp2_with fail
      go_ret
      exact ⟨rfl, (Below.refl _ _).alloc (Nat.le_refl _) _⟩
  · have HR : Hid ((decide (k = 1) && decide (s = ⟨#[c]⟩)) = false) := by simp [Hid, h1]
    rw [HR.out]
    have hq : (k == 1) = false := by simpa using h1
    clear h1 HR
    go_enter Tryz.func69, Tryz.ntmps69
    go_wp2_with fail
    go_ret
    exact ⟨rfl, (Below.refl _ _).alloc (Nat.le_refl _) _⟩

theorem _root_.Go.World.grownBy.keep_none {w w' : World} {row : Option Nat} (h : w.grownBy w' row) (g : Nat) (hg : g < w.heap.size) (hne : row ≠ some g := by (first | assumption | simp)) : w'.heap[g]? = w.heap[g]? := h.block g hg (fun e => hne e.symm)
theorem _root_.Go.World.grownBy.keep_some {w w1 w2 : World} {g : Nat} (h : w.grownBy w1 none) (h2 : w1.grownBy w2 (some g)) : w.grownBy w2 (some g) :=
  ⟨h2.os.trans h.os, h2.tape.trans h.tape, h2.output.trans h.output, Nat.le_trans h.size h2.size, fun k hk hne => (h2.block k (Nat.lt_of_lt_of_le hk h.size) hne).trans (h.block k hk (by simp))⟩
/-- What is written in new blocks alone. -/
theorem _root_.Go.World.grownBy.new_row {w w1 w2 : World} {row : Option Nat} {x : Nat} (h : w.grownBy w1 row) (h2 : w1.grownBy w2 (some x)) (hx : w.heap.size ≤ x) : w.grownBy w2 row :=
  ⟨h2.os.trans h.os, h2.tape.trans h.tape, h2.output.trans h.output, Nat.le_trans h.size h2.size, fun k hk hne => (h2.block k (Nat.lt_of_lt_of_le hk h.size) (fun e => by cases e; omega)).trans (h.block k hk hne)⟩
/-- A token is taken. -/
def NxtRet (w : World) (g : Nat) (t : Tok) (ts : List Tok) (en pa : Nat) (e : Ending) (w' : World) : Prop := e = .returned t.val ∧ RdS w' g ts en pa ∧ w.grownBy w' (some g)
set_option maxRecDepth 100000 in
set_option maxHeartbeats 2000000 in
theorem next_any (w : World) (g en pa : Nat) (t : Tok) (ts : List Tok) (h : RdS w g (t :: ts) en pa) : Calls Tryz.prog 46 #[.pointer (some ⟨g, 0, none⟩)] w (NxtRet w g t ts en pa) := by
  obtain ⟨p, c, h1, h2, h3⟩ := h.len
  have hgl := h1.lt
  obtain ⟨N, hN⟩ : ∃ N, (t :: ts).length = N := ⟨_, rfl⟩
  rw [hN] at h1 h2 h3
  have hN1 : 1 ≤ N := by rw [← hN]; simp
  have hr0 := h2
  obtain ⟨v1, hrun, hr1⟩ := slice_l slTk hr0 1 hN1
  obtain ⟨q1, n1, c1, rfl⟩ : ∃ q n c, v1 = Value.slice q n c := (by obtain ⟨p, c, hv, _, _⟩ := rd_lens hr1; exact ⟨p, _, c, hv⟩)
  rw [List.drop_one, List.tail_cons] at hr1
  obtain ⟨b, o, rfl, hb, hc0⟩ := rd_at' (k := 0) h2 (x := t) rfl
  rw [Nat.zero_mul, Nat.add_zero] at hc0
  obtain ⟨tk, tn, tS, tp⟩ := t
  have f0 : w.cell? ⟨b, o, none⟩ = some (.int .i64 tk) := hc0 0 _ rfl
  have f1 : w.cell? ⟨b, o + 1, none⟩ = some (.int .i64 tn) := hc0 1 _ rfl
  have f2 : w.cell? ⟨b, o + 2, none⟩ = some (.string tS) := hc0 2 _ rfl
  have f3 : w.cell? ⟨b, o + 3, none⟩ = some (.int .i64 tp) := hc0 3 _ rfl
  have c0 := h1.cell 0 rfl
  have z0 := h1.frozen 0
  have e0 : ((N : Int) == 0) = false := by simp; omega
  have e1 : (0 : Int) < (N : Int) := by omega
  have HR1 := Lib.hid hr1
  have H1 := Lib.hid h1
  clear hr0 hr1 h2 hc0 h1 hN h
  have hg0 := World.grownBy_alloc w (.cells #[.int .i64 0, .int .i64 0, .string ⟨#[]⟩, .int .i64 0] 84) none
  have hT0 : TokAt (w.alloc (.cells #[.int .i64 0, .int .i64 0, .string ⟨#[]⟩, .int .i64 0] 84)) w.heap.size Tok.zero := heap_alloc_at rfl
  have hs0 : (w.alloc (.cells #[.int .i64 0, .int .i64 0, .string ⟨#[]⟩, .int .i64 0] 84)).heap.size = w.heap.size + 1 := by simp
  have k0 : ∀ b o, b < w.heap.size → (w.alloc (.cells #[.int .i64 0, .int .i64 0, .string ⟨#[]⟩, .int .i64 0] 84)).cell? ⟨b, o, none⟩ = w.cell? ⟨b, o, none⟩ := fun b o hb => ((Below.refl w.heap.size w).alloc (Nat.le_refl _) _).cell (p := ⟨b, o, none⟩) hb
  go_enter Tryz.func46, Tryz.ntmps46
  go_upto_region 1 with fail
  obtain ⟨W0, hW0⟩ : ∃ W0, w.alloc (.cells #[.int .i64 0, .int .i64 0, .string ⟨#[]⟩, .int .i64 0] 84) = W0 := ⟨_, rfl⟩
  rw [hW0] at hg0 hT0 hs0 k0
  try rw [hW0]
  clear hW0
  have p0 := (k0 g 0 hgl).trans c0
  have g0 := (k0 b o (by omega)).trans f0
  have g1 := (k0 b (o + 1) (by omega)).trans f1
  have g2 := (k0 b (o + 2) (by omega)).trans f2
  have g3 := (k0 b (o + 3) (by omega)).trans f3
  have hrun1 : ∀ W, (Instr.sliceAt 73 (.slice (some ⟨b, o, none⟩) N c) (some (.int .i64 1)) none none).run Tryz.prog W = .ok (.slice q1 n1 c1) W := hrun
  have HG0 := Lib.hid hg0
  have HT0 := Lib.hid hT0
  have HS0 := Lib.hid hs0
  have hgW : g < W0.heap.size := by omega
  clear c0 f0 f1 f2 f3 k0 hrun hg0 hT0 hs0 z0
  have hg1 := World.grownBy_alloc W0 (.cells #[.int .i64 tk, .int .i64 tn, .string tS, .int .i64 tp] 84) none
  have hT1 : TokAt (W0.alloc (.cells #[.int .i64 tk, .int .i64 tn, .string tS, .int .i64 tp] 84)) W0.heap.size ⟨tk, tn, tS, tp⟩ := heap_alloc_at rfl
  have hT2 : TokAt (W0.alloc (.cells #[.int .i64 tk, .int .i64 tn, .string tS, .int .i64 tp] 84)) w.heap.size Tok.zero := HT0.out.keep (hg1.keep_none _ HT0.out.lt)
  have hR1 : RdrAt (W0.alloc (.cells #[.int .i64 tk, .int .i64 tn, .string tS, .int .i64 tp] 84)) g (.slice (some ⟨b, o, none⟩) N c) en pa := (H1.out.keep (HG0.out.keep_none g (by omega))).keep (hg1.keep_none g hgW)
  go_upto_region 4 with fail
  have hz1 : (W0.alloc (.cells #[.int .i64 tk, .int .i64 tn, .string tS, .int .i64 tp] 84)).heap.size = w.heap.size + 2 := by have := HS0.out; simp; omega
  have hg1' := HG0.out.trans hg1
  obtain ⟨q0, hq0⟩ : ∃ q, W0.heap.size = q := ⟨_, rfl⟩
  have hqn : g ≠ q0 ∧ w.heap.size ≠ q0 ∧ g ≠ w.heap.size := by have := HS0.out; omega
  obtain ⟨W1, hW1⟩ : ∃ W1, W0.alloc (.cells #[.int .i64 tk, .int .i64 tn, .string tS, .int .i64 tp] 84) = W1 := ⟨_, rfl⟩
  rw [hW1] at hT1 hT2 hR1 hz1 hg1'
  rw [hq0] at hT1
  try rw [hW1]
  try rw [hq0]
  clear hg1 hW1 hq0 p0 g0 g1 g2 g3 HT0
  have p0 := hR1.cell 0 rfl
  have z0 := hR1.frozen 0
  have hR2 := hR1.set0 (.slice q1 n1 c1)
  have hg2 := grownBy_set W1 g 0 (.slice q1 n1 c1)
  have hT3 := hT1.keep (hg2.block q0 hT1.lt (by simp; omega))
  have hT4 := hT2.keep (hg2.block w.heap.size hT2.lt (by simp; omega))
  go_upto_region 5 with fail
  obtain ⟨W2, hW2⟩ : ∃ W2, W1.setCell ⟨g, 0, none⟩ (.slice q1 n1 c1) = W2 := ⟨_, rfl⟩
  rw [hW2] at hR2 hg2 hT3 hT4
  try rw [hW2]
  clear hW2 p0 z0 hrun1
  have a0 := hT3.cell 0 rfl
  have a1 := hT3.cell 1 rfl
  have a2 := hT3.cell 2 rfl
  have a3 := hT3.cell 3 rfl
  have b0 := hT4.cell 0 rfl
  have b1 := hT4.cell 1 rfl
  have b2 := hT4.cell 2 rfl
  have b3 := hT4.cell 3 rfl
  have y0 := hT4.frozen 0
  have y1 := hT4.frozen 1
  have y2 := hT4.frozen 2
  have y3 := hT4.frozen 3
  dsimp only [Tok.zero] at a0 a1 a2 a3 b0 b1 b2 b3
  have HR2 := Lib.hid hR2
  have HG2 := Lib.hid (hg1'.keep_some hg2)
  have HZ1 := Lib.hid hz1
  have HS2 := Lib.hid hg2.size
  clear hT1 hT2 hT3 hT4 hR1 hg1' hg2 hR2 hz1
  go_wp2_with fail
  refine bodyPost_ret (v := Tok.val ⟨tk, tn, tS, tp⟩) (by simp [results, Tryz.results46, go_sem, b0, b1, b2, b3]) rfl ⟨rfl, ?_, ?_⟩
  · have hg3 := grownBy_setT W2 w.heap.size ⟨tk, tn, tS, tp⟩
    obtain ⟨p', n', c', h1, h2⟩ := (⟨_, _, _, HR2.out, (HR1.out.below (below_of HG2.out (by omega) (fun k e => by cases e; exact Nat.le_refl _)) (Nat.le_refl _))⟩ : ∃ p n c, RdrAt W2 g (.slice p n c) en pa ∧ Rd W2 g encTok 4 (.slice p n c) ts)
    exact RdS.kept ⟨p', n', c', h1, h2⟩ hg3 (fun k e => by cases e; exact hgl)
  · exact HG2.out.new_row (grownBy_setT W2 w.heap.size ⟨tk, tn, tS, tp⟩) (Nat.le_refl _)
end Go.Proofs.YtanemojiaahbgaaGreatDoor
end
