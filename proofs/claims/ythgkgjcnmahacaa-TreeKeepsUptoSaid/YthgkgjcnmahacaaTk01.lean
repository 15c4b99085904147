import Derived.Test.YthgkgjcnmahacaaProg
import Derived.Test.YthgkgjcnmahacaaTk00
import Derived.WalkKit
import Derived.WalkSpells
import Derived.Lib.Hide
import Derived.Deep.RegionHeld3
import Derived.Deep.DeepCutAuto
import Derived.Deep.CutRange
import Derived.BigQuiet
import Derived.Deep.QuietTactic
import Derived.Outline
import Derived.OpenShut
import Derived.Maps.OwnSet
import Derived.StringKeys
import Derived.Deep.Draws
section
/- Values of JSON as trees, and how they lie in memory. -/
set_option linter.unusedSimpArgs false
set_option linter.unusedVariables false
set_option maxRecDepth 100000
namespace Go.Proofs.Ythgkgjcnmahacaa
open Go Go.RowKit Go.ChangeShapes Go.WideShapes Go.Deep

/-- A value of JSON, as data. -/
inductive JV where
  | mk (k n : Int) (s : ByteArray) (l : List JV) (m : List (ByteArray × JV))

namespace JV
def k : JV → Int | .mk k _ _ _ _ => k
def n : JV → Int | .mk _ n _ _ _ => n
def s : JV → ByteArray | .mk _ _ s _ _ => s
def l : JV → List JV | .mk _ _ _ l _ => l
def m : JV → List (ByteArray × JV) | .mk _ _ _ _ m => m
theorem lt_l {k n : Int} {s : ByteArray} {l : List JV} {m : List (ByteArray × JV)} {i : Nat} {x : JV} (h : l[i]? = some x) : SizeOf.sizeOf x < SizeOf.sizeOf (JV.mk k n s l m) := by
  have := List.sizeOf_lt_of_mem (List.mem_of_getElem? h)
  simp only [JV.mk.sizeOf_spec]
  omega
theorem lt_m {k n : Int} {s : ByteArray} {l : List JV} {m : List (ByteArray × JV)} {i : Nat} {p : ByteArray × JV} (h : m[i]? = some p) : SizeOf.sizeOf p.2 < SizeOf.sizeOf (JV.mk k n s l m) := by
  have := List.sizeOf_lt_of_mem (List.mem_of_getElem? h)
  obtain ⟨a, b⟩ := p
  simp only [JV.mk.sizeOf_spec, Prod.mk.sizeOf_spec] at this ⊢
  omega
/-- Its numbers fit, its texts and lists have lengths that may be. -/
inductive Ok : JV → Prop
  | mk {k n : Int} {s : ByteArray} {l : List JV} {m : List (ByteArray × JV)} (hk : (Lit.int .i64 k).wf = true) (hn : (Lit.int .i64 n).wf = true) (hs : s.size ≤ 140737488351232) (hl : l.length ≤ 1759218604390) (hm : m.length ≤ 1466015503658)
      (cl : ∀ (i : Nat) (x : JV), l[i]? = some x → Ok x) (cs : ∀ (i : Nat) (p : ByteArray × JV), m[i]? = some p → p.1.size ≤ 140737488351232) (cm : ∀ (i : Nat) (p : ByteArray × JV), m[i]? = some p → Ok p.2) : Ok (.mk k n s l m)
end JV

/-- A value's own cells; a member's. -/
structure RV where
  k : Int
  n : Int
  s : ByteArray
  pl : Option Addr
  nl : Nat
  cl : Nat
  pm : Option Addr
  nm : Nat
  cm : Nat
abbrev RV.val (r : RV) : Value := .agg #[.int .i64 r.k, .int .i64 r.n, .string r.s, .slice r.pl r.nl r.cl, .slice r.pm r.nm r.cm]
def encV (r : RV) : List Value := [.int .i64 r.k, .int .i64 r.n, .string r.s, .slice r.pl r.nl r.cl, .slice r.pm r.nm r.cm]
structure RM where
  name : ByteArray
  v : RV
abbrev RM.val (r : RM) : Value := .agg #[.string r.name, .int .i64 r.v.k, .int .i64 r.v.n, .string r.v.s, .slice r.v.pl r.v.nl r.v.cl, .slice r.v.pm r.v.nm r.v.cm]
def encM (r : RM) : List Value := .string r.name :: encV r.v
theorem codecV : Codec encV 5 := ⟨fun _ => rfl, fun x u hu => by
  simp only [encV, List.mem_cons, List.not_mem_nil, or_false] at hu
  rcases hu with rfl | rfl | rfl | rfl | rfl <;> rfl, by decide⟩
theorem codecM : Codec encM 6 := ⟨fun _ => rfl, fun x u hu => by
  simp only [encM, encV, List.mem_cons, List.not_mem_nil, or_false] at hu
  rcases hu with rfl | rfl | rfl | rfl | rfl | rfl <;> rfl, by decide⟩

/-- The cells r read as the tree t, through blocks below B. -/
inductive TreeOf (w : World) (B : Nat) : JV → RV → Prop
  | mk {r : RV} {l : List JV} {m : List (ByteArray × JV)} {rs : List RV} {rms : List RM} (hl : Rd w B encV 5 (.slice r.pl r.nl r.cl) rs) (el : l.length = rs.length) (cl : ∀ (i : Nat) (t : JV) (q : RV), l[i]? = some t → rs[i]? = some q → TreeOf w B t q)
      (hm : Rd w B encM 6 (.slice r.pm r.nm r.cm) rms) (em : m.length = rms.length) (cn : ∀ (i : Nat) (p : ByteArray × JV) (q : RM), m[i]? = some p → rms[i]? = some q → p.1 = q.name)
      (cm : ∀ (i : Nat) (p : ByteArray × JV) (q : RM), m[i]? = some p → rms[i]? = some q → TreeOf w B p.2 q.v) : TreeOf w B (.mk r.k r.n r.s l m) r

theorem TreeOf.under {w w' : World} {B B' : Nat} {t : JV} {r : RV} (h : TreeOf w B t r) (hb : Below B w w') (hB : B ≤ B') : TreeOf w' B' t r := by
  induction h with
  | mk hl el cl hm em cn cm ih1 ih2 => exact .mk (hl.below hb hB) el ih1 (hm.below hb hB) em cn ih2
theorem TreeOf.mono {w : World} {B B' : Nat} {t : JV} {r : RV} (h : TreeOf w B t r) (hB : B ≤ B') : TreeOf w B' t r := h.under (Below.refl _ _) hB
theorem TreeOf.drewN {w : World} {B : Nat} {t : JV} {r : RV} (h : TreeOf w B t r) (n : Nat) : TreeOf (w.drewN n) B t r := h.under (bdn (Below.refl _ _) n) (Nat.le_refl _)

theorem slV : SlT Try.prog 22 25 5 80 := SlT.mk (z := .agg #[.int .i64 0, .int .i64 0, .string ByteArray.empty, .slice none 0 0, .slice none 0 0]) Try.underlying22 (by kernel_rfl) rfl
theorem slM : SlT Try.prog 23 90 6 96 := SlT.mk (z := .agg #[.string ByteArray.empty, .int .i64 0, .int .i64 0, .string ByteArray.empty, .slice none 0 0, .slice none 0 0]) Try.underlying23 (by kernel_rfl) rfl
theorem cellsV : Try.prog.cellsOf 25 = 5 := by kernel_rfl
theorem cellsM : Try.prog.cellsOf 90 = 6 := by kernel_rfl
theorem bytesV : Try.prog.bytesOf 25 = 80 := by kernel_rfl
theorem bytesM : Try.prog.bytesOf 90 = 96 := by kernel_rfl

#print axioms slV
end Go.Proofs.Ythgkgjcnmahacaa
end

section
/- The document's comparison of two values, walked: they are the same to the letter. -/
set_option linter.unusedSimpArgs false
set_option linter.unusedVariables false
namespace Go.Proofs.Ythgkgjcnmahacaa
open Go.RowKit Go.OpenShut

/-- A truth is told; nothing that was has turned. -/
def Said (w : World) (p : Prop) (e : Ending) (w' : World) : Prop := ∃ b : Bool, e = .returned (.bool b) ∧ (b = true ↔ p) ∧ Below w.heap.size w w'
theorem below2 (w : World) (o o' : Obj) : Below w.heap.size w ((w.alloc o).alloc o') := ((Below.refl _ _).alloc (Nat.le_refl _) _).alloc (by simp) _
theorem str_beq (a b : ByteArray) : (a.toList == b.toList) = decide (a = b) := by
  rw [ByteArray.toList_eq, ByteArray.toList_eq]
  obtain ⟨⟨x⟩⟩ := a
  obtain ⟨⟨y⟩⟩ := b
  by_cases h : x = y
  · simp [h]
  · simp [h]

theorem Said.yes {w : World} {p : Prop} {e : Ending} {w' : World} (h : Said w p e w') (hp : p) : e = .returned (.bool true) ∧ Below w.heap.size w w' := by
  obtain ⟨b, rfl, hb, h⟩ := h
  rw [hb.2 hp]; exact ⟨rfl, h⟩
theorem Said.no {w : World} {p : Prop} {e : Ending} {w' : World} (h : Said w p e w') (hp : ¬ p) : e = .returned (.bool false) ∧ Below w.heap.size w w' := by
  obtain ⟨b, rfl, hb, h⟩ := h
  cases b with
  | true => exact absurd (hb.1 rfl) hp
  | false => exact ⟨rfl, h⟩
/-- A value in a block of its own. -/
def VAt (W : World) (g : Nat) (r : RV) : Prop := W.heap[g]? = some (.cells #[.int .i64 r.k, .int .i64 r.n, .string r.s, .slice r.pl r.nl r.cl, .slice r.pm r.nm r.cm] 25 (0, 0))
theorem VAt.cell {W : World} {g : Nat} {r : RV} (h : VAt W g r) (j : Nat) {u : Value} (hu : (encV r)[j]? = some u) : W.cell? ⟨g, j, none⟩ = some u := by
  unfold VAt at h
  rw [cell_of_row W g j _ _ _ h, ← Array.getElem?_toList]
  exact hu
theorem VAt.under {W W' : World} {g B : Nat} {r : RV} (h : VAt W g r) (hb : Below B W W') (hg : g < B) : VAt W' g r := (hb.block g hg).trans h
theorem VAt.lt {W : World} {g : Nat} {r : RV} (h : VAt W g r) : g < W.heap.size := (Array.getElem?_eq_some_iff.1 h).1
theorem rd_nlen {α : Type} {enc : α → List Value} {sz B n c : Nat} {p : Option Addr} {w : World} {xs : List α} (h : Rd w B enc sz (.slice p n c) xs) : n = xs.length := by
  obtain ⟨_, _, e, _⟩ := h
  simp only [Value.slice.injEq] at e; exact e.2.1
theorem rd_at' {α : Type} {enc : α → List Value} {sz n cap k B : Nat} {w : World} {p : Option Addr} {xs : List α} (h : Rd w B enc sz (.slice p n cap) xs) {x : α} (hx : xs[k]? = some x) :
    ∃ b o, p = some ⟨b, o, none⟩ ∧ b < B ∧ ∀ j u, (enc x)[j]? = some u → w.cell? ⟨b, o + k * sz + j, none⟩ = some u := by
  obtain ⟨p', cap', he, h1, h2, h3, h4⟩ := h
  simp only [Value.slice.injEq] at he
  obtain ⟨rfl, rfl, rfl⟩ := he
  have hk := (List.getElem?_eq_some_iff.1 hx).1
  cases p with
  | none => have := h3 rfl; omega
  | some a =>
    obtain ⟨b, o, rfl, hb, hr⟩ := h4 a rfl (by omega)
    exact ⟨b, o, rfl, hb, hr k x hx⟩
theorem take_eq {α : Type} {l m : List α} {k : Nat} {x : α} (hx : l[k]? = some x) (hy : m[k]? = some x) (h : l.take k = m.take k) : l.take (k + 1) = m.take (k + 1) := by
  rw [List.take_add_one, List.take_add_one, hx, hy, h]
theorem ne_of_at {α : Type} {l m : List α} {k : Nat} {x y : α} (hx : l[k]? = some x) (hy : m[k]? = some y) (h : x ≠ y) : l ≠ m := by
  rintro rfl
  rw [hx] at hy
  exact h (by simpa using hy)

set_option maxRecDepth 100000 in
set_option maxHeartbeats 1000000 in
theorem same5_no (r q : RV) (w : World) (p : Prop) (hp : p → r.k = q.k ∧ r.n = q.n ∧ r.s = q.s ∧ r.nl = q.nl ∧ r.nm = q.nm) (hno : ¬ (r.k = q.k ∧ r.n = q.n ∧ r.s = q.s ∧ r.nl = q.nl ∧ r.nm = q.nm)) :
    Calls Try.prog 31 #[r.val, q.val] w (Said w p) := by
  obtain ⟨k1, n1, s1, pl1, nl1, cl1, pm1, nm1, cm1⟩ := r
  obtain ⟨k2, n2, s2, pl2, nl2, cl2, pm2, nm2, cm2⟩ := q
  dsimp only [RV.val] at *
  have hfin : ∀ W', Below w.heap.size w W' → Said w p (.returned (.bool false)) W' := fun W' hb => ⟨false, rfl, by simp; exact fun h => hno (hp h), hb⟩
  have HF := Lib.hid hfin
  have hB := below2 w
  clear hfin hp
  by_cases a1 : k1 = k2
  · subst a1
    by_cases a2 : n1 = n2
    · subst a2
      by_cases a3 : s1 = s2
      · subst a3
        by_cases a4 : nl1 = nl2
        · subst a4
          have a5 : ((nm1 : Int) != (nm2 : Int)) = true := by
            rw [bne_iff_ne]
            intro h
            exact hno ⟨rfl, rfl, rfl, rfl, by omega⟩
          clear hno
          go_enter Try.func31, Try.ntmps31
          go_wp2_with fail
          go_ret
          exact HF.out _ (hB _ _)
        · have a5 : ((nl1 : Int) != (nl2 : Int)) = true := by rw [bne_iff_ne]; omega
          clear hno a4
          go_enter Try.func31, Try.ntmps31
          go_wp2_with fail
          go_ret
          exact HF.out _ (hB _ _)
      · have a5 : (s1.toList == s2.toList) = false := by rw [str_beq]; simpa using a3
        clear hno a3
        go_enter Try.func31, Try.ntmps31
        go_wp2_with fail
        go_ret
        exact HF.out _ (hB _ _)
    · have a5 : (n1 != n2) = true := by simpa using a2
      clear hno a2
      go_enter Try.func31, Try.ntmps31
      go_wp2_with fail
      go_ret
      exact HF.out _ (hB _ _)
  · have a5 : (k1 != k2) = true := by simpa using a1
    clear hno a1
    go_enter Try.func31, Try.ntmps31
    go_wp2_with fail
    go_ret
    exact HF.out _ (hB _ _)

set_option maxRecDepth 100000 in
set_option maxHeartbeats 4000000 in
theorem same5_any (N : Nat) : ∀ (t u : JV) (r q : RV) (w : World), SizeOf.sizeOf t ≤ N → TreeOf w w.heap.size t r → TreeOf w w.heap.size u q → t.Ok → u.Ok →
    Calls Try.prog 31 #[r.val, q.val] w (Said w (t = u)) := by
  induction N with
  | zero => intro t u r q w hN; cases t; simp at hN
  | succ N ih =>
    intro t u r q w hN ht hu ot ou
    cases ht with
    | @mk _ l1 m1 rs1 rms1 hl1 el1 hcl1 hm1 em1 hcn1 hcm1 =>
    cases hu with
    | @mk _ l2 m2 rs2 rms2 hl2 el2 hcl2 hm2 em2 hcn2 hcm2 =>
    have eL1 := rd_nlen hl1
    have eL2 := rd_nlen hl2
    have eM1 := rd_nlen hm1
    have eM2 := rd_nlen hm2
    by_cases hall : r.k = q.k ∧ r.n = q.n ∧ r.s = q.s ∧ r.nl = q.nl ∧ r.nm = q.nm
    · obtain ⟨k1, n1, s1, pl1, nl1, cl1, pm1, nm1, cm1⟩ := r
      obtain ⟨k2, n2, s2, pl2, nl2, cl2, pm2, nm2, cm2⟩ := q
      dsimp only [RV.val] at *
      obtain ⟨rfl, rfl, rfl, rfl, rfl⟩ := hall
      cases ot with
      | mk _ _ _ bl1 bm1 okl1 oks1 okm1 =>
      cases ou with
      | mk _ _ _ bl2 bm2 okl2 oks2 okm2 =>
      have HT : Hid (∀ (k : Nat) tx ty x y, l1[k]? = some tx → l2[k]? = some ty → rs1[k]? = some x → rs2[k]? = some y → ∀ W, Below w.heap.size w W → Calls Try.prog 31 #[x.val, y.val] W (Said W (tx = ty))) :=
        fun k tx ty x y h1 h2 h3 h4 W hb => ih tx ty x y W (by have := JV.lt_l (k := k1) (n := n1) (s := s1) (m := m1) h1; omega) ((hcl1 k tx x h1 h3).under hb hb.size) ((hcl2 k ty y h2 h4).under hb hb.size) (okl1 k tx h1) (okl2 k ty h2)
      have HS : Hid (∀ (k : Nat) tx ty x y, m1[k]? = some tx → m2[k]? = some ty → rms1[k]? = some x → rms2[k]? = some y → ∀ W, Below w.heap.size w W → Calls Try.prog 31 #[x.v.val, y.v.val] W (Said W (tx.2 = ty.2))) :=
        fun k tx ty x y h1 h2 h3 h4 W hb => ih tx.2 ty.2 x.v y.v W (by have := JV.lt_m (k := k1) (n := n1) (s := s1) (l := l1) h1; omega) ((hcm1 k tx x h1 h3).under hb hb.size) ((hcm2 k ty y h2 h4).under hb hb.size) (okm1 k tx h1) (okm2 k ty h2)
      have HN1 := Lib.hid hcn1
      have HN2 := Lib.hid hcn2
      have HL1 := Lib.hid hl1
      have HL2 := Lib.hid hl2
      have HM1 := Lib.hid hm1
      have HM2 := Lib.hid hm2
      have hnl : nl1 ≤ 1759218604390 := by omega
      have hnm : nm1 ≤ 1466015503658 := by omega
      have E1 : Hid (l1.length = nl1 ∧ l2.length = nl1 ∧ rs1.length = nl1 ∧ rs2.length = nl1) := ⟨by omega, by omega, by omega, by omega⟩
      have E2 : Hid (m1.length = nm1 ∧ m2.length = nm1 ∧ rms1.length = nm1 ∧ rms2.length = nm1) := ⟨by omega, by omega, by omega, by omega⟩
      clear ih hcl1 hcl2 hcm1 hcm2 hcn1 hcn2 hl1 hl2 hm1 hm2 okl1 okl2 okm1 okm2 oks1 oks2 el1 el2 em1 em2 eL1 eL2 eM1 eM2 bl1 bl2 bm1 bm2 hN
      go_enter Try.func31, Try.ntmps31
      go_upto_region 1 with fail
      have hA0 : VAt ((w.alloc (.cells #[.int .i64 k1, .int .i64 n1, .string s1, .slice pl1 nl1 cl1, .slice pm1 nm1 cm1] 25)).alloc (.cells #[.int .i64 k1, .int .i64 n1, .string s1, .slice pl2 nl1 cl2, .slice pm2 nm1 cm2] 25)) w.heap.size ⟨k1, n1, s1, pl1, nl1, cl1, pm1, nm1, cm1⟩ := heap_alloc_lt (by simp) (heap_alloc_at rfl)
      have hA1 : VAt ((w.alloc (.cells #[.int .i64 k1, .int .i64 n1, .string s1, .slice pl1 nl1 cl1, .slice pm1 nm1 cm1] 25)).alloc (.cells #[.int .i64 k1, .int .i64 n1, .string s1, .slice pl2 nl1 cl2, .slice pm2 nm1 cm2] 25)) (w.heap.size + 1) ⟨k1, n1, s1, pl2, nl1, cl2, pm2, nm1, cm2⟩ := heap_alloc_at (by simp)
      have hB0 := below2 w (.cells #[.int .i64 k1, .int .i64 n1, .string s1, .slice pl1 nl1 cl1, .slice pm1 nm1 cm1] 25) (.cells #[.int .i64 k1, .int .i64 n1, .string s1, .slice pl2 nl1 cl2, .slice pm2 nm1 cm2] 25)
      obtain ⟨W0, hW0⟩ : ∃ W0, ((w.alloc (.cells #[.int .i64 k1, .int .i64 n1, .string s1, .slice pl1 nl1 cl1, .slice pm1 nm1 cm1] 25)).alloc (.cells #[.int .i64 k1, .int .i64 n1, .string s1, .slice pl2 nl1 cl2, .slice pm2 nm1 cm2] 25)) = W0 := ⟨_, rfl⟩
      rw [hW0] at hA0 hA1 hB0 ⊢
      clear hW0
      have HA0 := Lib.hid hA0
      have HA1 := Lib.hid hA1
      have p0 := hA0.cell 0 rfl
      have p1 := hA0.cell 1 rfl
      have p2 := hA0.cell 2 rfl
      have p3 := hA0.cell 3 rfl
      have p4 := hA0.cell 4 rfl
      have q0 := hA1.cell 0 rfl
      have q1 := hA1.cell 1 rfl
      have q2 := hA1.cell 2 rfl
      have q3 := hA1.cell 3 rfl
      have q4 := hA1.cell 4 rfl
      have hz := hA1.lt
      clear hA0 hA1
      go_wp2_with fail
      go_loopw [5] (fun i wr => ∃ k : Nat, k ≤ nl1 ∧ i = .int .i64 k ∧ Hid (l1.take k = l2.take k) ∧ Below W0.heap.size W0 wr) (fun i _ => nl1 - (intOf i).toNat)
      case atStart => exact ⟨0, Nat.zero_le _, rfl, rfl, Below.refl _ _⟩
      case round =>
        obtain ⟨k, hk, rfl, hsm, hbr⟩ := hrel
        have hbw : Below w.heap.size w wr := hB0.trans (hbr.mono (by omega))
        have p3 := bcs hbr (by omega) p3
        have q3 := bcs hbr (by omega) q3
        by_cases hlt : k < nl1
        · obtain ⟨tx, htx⟩ : ∃ x, l1[k]? = some x := ⟨_, List.getElem?_eq_getElem (by have := E1.out; omega)⟩
          obtain ⟨ty, hty⟩ : ∃ x, l2[k]? = some x := ⟨_, List.getElem?_eq_getElem (by have := E1.out; omega)⟩
          obtain ⟨x, hx⟩ : ∃ x, rs1[k]? = some x := ⟨_, List.getElem?_eq_getElem (by have := E1.out; omega)⟩
          obtain ⟨y, hy⟩ : ∃ x, rs2[k]? = some x := ⟨_, List.getElem?_eq_getElem (by have := E1.out; omega)⟩
          obtain ⟨b1, o1, rfl, hb1, hc1⟩ := rd_at' (HL1.out.below hbw (Nat.le_refl _)) hx
          obtain ⟨b2, o2, rfl, hb2, hc2⟩ := rd_at' (HL2.out.below hbw (Nat.le_refl _)) hy
          have f0 := hc1 0 _ rfl
          have f1 := hc1 1 _ rfl
          have f2 := hc1 2 _ rfl
          have f3 := hc1 3 _ rfl
          have f4 := hc1 4 _ rfl
          have g0 := hc2 0 _ rfl
          have g1 := hc2 1 _ rfl
          have g2 := hc2 2 _ rfl
          have g3 := hc2 3 _ rfl
          have g4 := hc2 4 _ rfl
          rw [Nat.add_zero] at f0 g0
          have HC := Lib.hid (HT.out k tx ty x y htx hty hx hy)
          have hk0 : (0 : Int) ≤ (k : Int) := Int.natCast_nonneg _
          have hk1 : (k : Int) < (nl1 : Int) := by omega
          have HTX := Lib.hid htx
          have HTY := Lib.hid hty
          clear hc1 hc2 htx hty hx hy
          have hzr : W0.heap.size ≤ wr.heap.size := hbr.size
          have HBR := Lib.hid hbr
          by_cases hxy : tx = ty
          · have HXY := Lib.hid hxy
            have HNX := Lib.hid (take_eq HTX.out (hxy ▸ HTY.out) hsm.out)
            clear hxy hbr
            go_wp2_with fail
            go_region_held3 (fun w' => w'.cell? ⟨w.heap.size, 3, none⟩ = some (.slice (some ⟨b1, o1, none⟩) nl1 cl1) ∧ w'.cell? ⟨w.heap.size + 1, 3, none⟩ = some (.slice (some ⟨b2, o2, none⟩) nl1 cl2) ∧
              w'.cell? ⟨b1, o1 + k * 5, none⟩ = some (.int .i64 x.k) ∧ w'.cell? ⟨b1, o1 + k * 5 + 1, none⟩ = some (.int .i64 x.n) ∧ w'.cell? ⟨b1, o1 + k * 5 + 2, none⟩ = some (.string x.s) ∧ w'.cell? ⟨b1, o1 + k * 5 + 3, none⟩ = some (.slice x.pl x.nl x.cl) ∧ w'.cell? ⟨b1, o1 + k * 5 + 4, none⟩ = some (.slice x.pm x.nm x.cm) ∧
              w'.cell? ⟨b2, o2 + k * 5, none⟩ = some (.int .i64 y.k) ∧ w'.cell? ⟨b2, o2 + k * 5 + 1, none⟩ = some (.int .i64 y.n) ∧ w'.cell? ⟨b2, o2 + k * 5 + 2, none⟩ = some (.string y.s) ∧ w'.cell? ⟨b2, o2 + k * 5 + 3, none⟩ = some (.slice y.pl y.nl y.cl) ∧ w'.cell? ⟨b2, o2 + k * 5 + 4, none⟩ = some (.slice y.pm y.nm y.cm))
              (first | go_keep | (go_split_ands; refine ⟨?_, ?_, ?_, ?_, ?_, ?_, ?_, ?_, ?_, ?_, ?_, ?_⟩ <;> (rw [hb1'.cell (by simp; omega)]; assumption)))
              ((go_at_call 31; refine (HC.out _ ?_).mono ?_; (repeat (first | exact hbw | apply Below.drew)); intro e w1 hs1; obtain ⟨rfl, hb1'⟩ := hs1.yes HXY.out))
            go_wp2_with fail
            go_roundw
            case rel => exact ⟨k + 1, by omega, by go_num, HNX, HBR.out.drew.trans (hb1'.mono (by simp; omega))⟩
            case measure => simp [intOf]; omega
          · have HXY := Lib.hid hxy
            have HNX := Lib.hid (ne_of_at HTX.out HTY.out hxy)
            clear hxy hbr
            go_wp2_with fail
            go_region_held3 (fun w' => w'.cell? ⟨w.heap.size, 3, none⟩ = some (.slice (some ⟨b1, o1, none⟩) nl1 cl1) ∧ w'.cell? ⟨w.heap.size + 1, 3, none⟩ = some (.slice (some ⟨b2, o2, none⟩) nl1 cl2) ∧
              w'.cell? ⟨b1, o1 + k * 5, none⟩ = some (.int .i64 x.k) ∧ w'.cell? ⟨b1, o1 + k * 5 + 1, none⟩ = some (.int .i64 x.n) ∧ w'.cell? ⟨b1, o1 + k * 5 + 2, none⟩ = some (.string x.s) ∧ w'.cell? ⟨b1, o1 + k * 5 + 3, none⟩ = some (.slice x.pl x.nl x.cl) ∧ w'.cell? ⟨b1, o1 + k * 5 + 4, none⟩ = some (.slice x.pm x.nm x.cm) ∧
              w'.cell? ⟨b2, o2 + k * 5, none⟩ = some (.int .i64 y.k) ∧ w'.cell? ⟨b2, o2 + k * 5 + 1, none⟩ = some (.int .i64 y.n) ∧ w'.cell? ⟨b2, o2 + k * 5 + 2, none⟩ = some (.string y.s) ∧ w'.cell? ⟨b2, o2 + k * 5 + 3, none⟩ = some (.slice y.pl y.nl y.cl) ∧ w'.cell? ⟨b2, o2 + k * 5 + 4, none⟩ = some (.slice y.pm y.nm y.cm))
              (first | go_keep | (go_split_ands; refine ⟨?_, ?_, ?_, ?_, ?_, ?_, ?_, ?_, ?_, ?_, ?_, ?_⟩ <;> (rw [hb1'.cell (by simp; omega)]; assumption)))
              ((go_at_call 31; refine (HC.out _ ?_).mono ?_; (repeat (first | exact hbw | apply Below.drew)); intro e w1 hs1; obtain ⟨rfl, hb1'⟩ := hs1.no HXY.out))
            go_wp2_with fail
            go_ret
            exact ⟨false, rfl, by simp; exact fun h => absurd h HNX.out, hbw.drew.trans (hb1'.mono hbw.size)⟩
        · obtain rfl : k = nl1 := by omega
          have hll : l1 = l2 := by
            have h := hsm.out
            have h1 := E1.out
            rw [List.take_of_length_le (by omega), List.take_of_length_le (by omega)] at h
            exact h
          subst hll
          have hz1 : W0.heap.size ≤ wr.heap.size := hbr.size
          have HB1 := Lib.hid hbr
          have p4 := bcs hbr (by omega) p4
          have q4 := bcs hbr (by omega) q4
          clear HT HL1 HL2 E1 hsm hbr
          obtain ⟨wo, rfl⟩ : ∃ wo : World, wo = wr := ⟨_, rfl⟩
          go_wp2_with fail
          clear p3 q3
          go_loopw [6] (fun i wq => ∃ k : Nat, k ≤ nm1 ∧ i = .int .i64 k ∧ Hid (m1.take k = m2.take k) ∧ Below wo.heap.size wo wq) (fun i _ => nm1 - (intOf i).toNat)
          case atStart => exact ⟨0, Nat.zero_le _, rfl, rfl, Below.refl _ _⟩
          case round =>
            obtain ⟨wq, rfl⟩ : ∃ wq : World, wq = wr := ⟨_, rfl⟩
            obtain ⟨k, hk, rfl, hsm, hbr⟩ := hrel
            have hbw2 : Below w.heap.size w wq := hbw.trans (hbr.mono (by omega))
            have p4 := bcs hbr (by omega) p4
            have q4 := bcs hbr (by omega) q4
            by_cases hlt : k < nm1
            · obtain ⟨tx, htx⟩ : ∃ x, m1[k]? = some x := ⟨_, List.getElem?_eq_getElem (by have := E2.out; omega)⟩
              obtain ⟨ty, hty⟩ : ∃ x, m2[k]? = some x := ⟨_, List.getElem?_eq_getElem (by have := E2.out; omega)⟩
              obtain ⟨x, hx⟩ : ∃ x, rms1[k]? = some x := ⟨_, List.getElem?_eq_getElem (by have := E2.out; omega)⟩
              obtain ⟨y, hy⟩ : ∃ x, rms2[k]? = some x := ⟨_, List.getElem?_eq_getElem (by have := E2.out; omega)⟩
              obtain ⟨b1, o1, rfl, hb1, hc1⟩ := rd_at' (HM1.out.below hbw2 (Nat.le_refl _)) hx
              obtain ⟨b2, o2, rfl, hb2, hc2⟩ := rd_at' (HM2.out.below hbw2 (Nat.le_refl _)) hy
              have f0 := hc1 0 _ rfl
              have f1 := hc1 1 _ rfl
              have f2 := hc1 2 _ rfl
              have f3 := hc1 3 _ rfl
              have f4 := hc1 4 _ rfl
              have f5 := hc1 5 _ rfl
              have g0 := hc2 0 _ rfl
              have g1 := hc2 1 _ rfl
              have g2 := hc2 2 _ rfl
              have g3 := hc2 3 _ rfl
              have g4 := hc2 4 _ rfl
              have g5 := hc2 5 _ rfl
              rw [Nat.add_zero] at f0 g0
              have HC := Lib.hid (HS.out k tx ty x y htx hty hx hy)
              have hk0 : (0 : Int) ≤ (k : Int) := Int.natCast_nonneg _
              have hk1 : (k : Int) < (nm1 : Int) := by omega
              have HTX := Lib.hid htx
              have HTY := Lib.hid hty
              have en1 := HN1.out k tx x htx hx
              have en2 := HN2.out k ty y hty hy
              clear hc1 hc2 htx hty hx hy
              have hzr : W0.heap.size ≤ wq.heap.size := by have := hbr.size; omega
              have hzq : wo.heap.size ≤ wq.heap.size := hbr.size
              have HBR := Lib.hid hbr
              by_cases hnm : x.name = y.name
              · have hq : (x.name.toList == y.name.toList) = true := by rw [str_beq]; simpa using hnm
                have hqn : (x.name.toList != y.name.toList) = false := by rw [bne, hq]; rfl
                by_cases hxy : tx.2 = ty.2
                · have HXY := Lib.hid hxy
                  have hxe : tx = ty := Prod.ext (by rw [en1, en2]; exact hnm) hxy
                  have HNX := Lib.hid (take_eq HTX.out (hxe ▸ HTY.out) hsm.out)
                  clear hxy hxe en1 en2 hbr hnm
                  go_wp2_with fail
                  go_region_held3 (fun w' => w'.cell? ⟨w.heap.size, 4, none⟩ = some (.slice (some ⟨b1, o1, none⟩) nm1 cm1) ∧ w'.cell? ⟨w.heap.size + 1, 4, none⟩ = some (.slice (some ⟨b2, o2, none⟩) nm1 cm2) ∧
                w'.cell? ⟨b1, o1 + k * 6, none⟩ = some (.string x.name) ∧ w'.cell? ⟨b1, o1 + k * 6 + 1, none⟩ = some (.int .i64 x.v.k) ∧ w'.cell? ⟨b1, o1 + k * 6 + 2, none⟩ = some (.int .i64 x.v.n) ∧ w'.cell? ⟨b1, o1 + k * 6 + 3, none⟩ = some (.string x.v.s) ∧ w'.cell? ⟨b1, o1 + k * 6 + 4, none⟩ = some (.slice x.v.pl x.v.nl x.v.cl) ∧ w'.cell? ⟨b1, o1 + k * 6 + 5, none⟩ = some (.slice x.v.pm x.v.nm x.v.cm) ∧
                w'.cell? ⟨b2, o2 + k * 6, none⟩ = some (.string y.name) ∧ w'.cell? ⟨b2, o2 + k * 6 + 1, none⟩ = some (.int .i64 y.v.k) ∧ w'.cell? ⟨b2, o2 + k * 6 + 2, none⟩ = some (.int .i64 y.v.n) ∧ w'.cell? ⟨b2, o2 + k * 6 + 3, none⟩ = some (.string y.v.s) ∧ w'.cell? ⟨b2, o2 + k * 6 + 4, none⟩ = some (.slice y.v.pl y.v.nl y.v.cl) ∧ w'.cell? ⟨b2, o2 + k * 6 + 5, none⟩ = some (.slice y.v.pm y.v.nm y.v.cm))
                    (first | go_keep | (go_split_ands; refine ⟨?_, ?_, ?_, ?_, ?_, ?_, ?_, ?_, ?_, ?_, ?_, ?_, ?_, ?_⟩ <;> (rw [hb1'.cell (by simp; omega)]; assumption)))
                    ((go_at_call 31; refine (HC.out _ ?_).mono ?_; (repeat (first | exact hbw2 | apply Below.drew)); intro e w1 hs1; obtain ⟨rfl, hb1'⟩ := hs1.yes HXY.out))
                  go_wp2_with fail
                  go_roundw
                  case rel => exact ⟨k + 1, by omega, by go_num, HNX, HBR.out.drew.trans (hb1'.mono (by simp; omega))⟩
                  case measure => simp [intOf]; omega
                · have HXY := Lib.hid hxy
                  have HNX := Lib.hid (ne_of_at HTX.out HTY.out (fun e => hxy (by rw [e])))
                  clear hxy en1 en2 hbr hnm
                  go_wp2_with fail
                  go_region_held3 (fun w' => w'.cell? ⟨w.heap.size, 4, none⟩ = some (.slice (some ⟨b1, o1, none⟩) nm1 cm1) ∧ w'.cell? ⟨w.heap.size + 1, 4, none⟩ = some (.slice (some ⟨b2, o2, none⟩) nm1 cm2) ∧
                w'.cell? ⟨b1, o1 + k * 6, none⟩ = some (.string x.name) ∧ w'.cell? ⟨b1, o1 + k * 6 + 1, none⟩ = some (.int .i64 x.v.k) ∧ w'.cell? ⟨b1, o1 + k * 6 + 2, none⟩ = some (.int .i64 x.v.n) ∧ w'.cell? ⟨b1, o1 + k * 6 + 3, none⟩ = some (.string x.v.s) ∧ w'.cell? ⟨b1, o1 + k * 6 + 4, none⟩ = some (.slice x.v.pl x.v.nl x.v.cl) ∧ w'.cell? ⟨b1, o1 + k * 6 + 5, none⟩ = some (.slice x.v.pm x.v.nm x.v.cm) ∧
                w'.cell? ⟨b2, o2 + k * 6, none⟩ = some (.string y.name) ∧ w'.cell? ⟨b2, o2 + k * 6 + 1, none⟩ = some (.int .i64 y.v.k) ∧ w'.cell? ⟨b2, o2 + k * 6 + 2, none⟩ = some (.int .i64 y.v.n) ∧ w'.cell? ⟨b2, o2 + k * 6 + 3, none⟩ = some (.string y.v.s) ∧ w'.cell? ⟨b2, o2 + k * 6 + 4, none⟩ = some (.slice y.v.pl y.v.nl y.v.cl) ∧ w'.cell? ⟨b2, o2 + k * 6 + 5, none⟩ = some (.slice y.v.pm y.v.nm y.v.cm))
                    (first | go_keep | (go_split_ands; refine ⟨?_, ?_, ?_, ?_, ?_, ?_, ?_, ?_, ?_, ?_, ?_, ?_, ?_, ?_⟩ <;> (rw [hb1'.cell (by simp; omega)]; assumption)))
                    ((go_at_call 31; refine (HC.out _ ?_).mono ?_; (repeat (first | exact hbw2 | apply Below.drew)); intro e w1 hs1; obtain ⟨rfl, hb1'⟩ := hs1.no HXY.out))
                  go_wp2_with fail
                  go_ret
                  exact ⟨false, rfl, by simp; exact fun h => absurd h HNX.out, hbw2.drew.trans (hb1'.mono hbw2.size)⟩
              · have hq : (x.name.toList == y.name.toList) = false := by rw [str_beq]; simpa using hnm
                have hqn : (x.name.toList != y.name.toList) = true := by rw [bne, hq]; rfl
                have HNX := Lib.hid (ne_of_at HTX.out HTY.out (fun e => hnm (by rw [← en1, ← en2, e])))
                clear hnm en1 en2 hbr
                go_wp2_with fail
                go_quiet (fail)
                go_wp2_with fail
                go_ret
                exact ⟨false, rfl, by simp; exact fun h => absurd h HNX.out, bdn hbw2 _⟩
            · obtain rfl : k = nm1 := by omega
              have hmm : m1 = m2 := by
                have h := hsm.out
                have h1 := E2.out
                rw [List.take_of_length_le (by omega), List.take_of_length_le (by omega)] at h
                exact h
              have HMM := Lib.hid hmm
              clear hmm
              go_wp2_with fail
              go_ret
              exact ⟨true, rfl, by rw [HMM.out]; simp, hbw2⟩
    · refine same5_no r q w _ (fun h => ?_) hall
      simp only [JV.mk.injEq] at h
      obtain ⟨h1, h2, h3, h4, h5⟩ := h
      subst h4 h5
      exact ⟨h1, h2, h3, by omega, by omega⟩
end Go.Proofs.Ythgkgjcnmahacaa
end

section
/- Where a member stands; what is found; walked. -/
set_option linter.unusedSimpArgs false
set_option linter.unusedVariables false
namespace Go.Proofs.Ythgkgjcnmahacaa
open Go.RowKit Go.OpenShut

/-- A map's members (of another value: none). -/
def JV.mem : JV → List (ByteArray × JV) | .mk k _ _ _ m => if k = 6 then m else []
/-- The place of the first member of a name. -/
def JV.place (t : JV) (name : ByteArray) : Option Nat := t.mem.findIdx? (fun p => decide (p.1 = name))
def JV.get (t : JV) (name : ByteArray) : Option JV := (t.place name).bind fun i => t.mem[i]?.map (·.2)
def JV.zero : JV := .mk 0 0 ⟨#[]⟩ [] []
def RV.zero : RV := ⟨0, 0, ⟨#[]⟩, none, 0, 0, none, 0, 0⟩
theorem TreeOf.zero (w : World) (B : Nat) : TreeOf w B JV.zero RV.zero :=
  TreeOf.mk (r := RV.zero) (rs := []) (rms := []) (Rd.nil _ _) rfl (fun i t q h => by simp at h) (Rd.nil _ _) rfl (fun i p q h => by simp at h) (fun i p q h => by simp at h)
def placeI (o : Option Nat) : Int := match o with
  | some i => i
  | none => -1
theorem find_at {α : Type} {p : α → Bool} {l : List α} {k : Nat} {x : α} (hx : l[k]? = some x) (hp : p x = true) (hno : ∀ (j : Nat) (y : α), j < k → l[j]? = some y → p y = false) : l.findIdx? p = some k := by
  rw [List.findIdx?_eq_some_iff_getElem]
  obtain ⟨h, e⟩ := List.getElem?_eq_some_iff.1 hx
  refine ⟨h, by rw [e]; exact hp, fun j hj => ?_⟩
  have := hno j _ hj (List.getElem?_eq_getElem (by omega))
  simpa using this
theorem find_not {α : Type} {p : α → Bool} {l : List α} (hno : ∀ (j : Nat) (y : α), l[j]? = some y → p y = false) : l.findIdx? p = none := by
  rw [List.findIdx?_eq_none_iff]
  intro x hx
  obtain ⟨i, hi⟩ := List.getElem?_of_mem hx
  exact hno i x hi
theorem ret_int {k : IntKind} {a b : Int} (h : a = b) : Ending.returned (.int k a) = .returned (.int k b) := by rw [h]

set_option maxRecDepth 100000 in
set_option maxHeartbeats 2000000 in
theorem place_any (t : JV) (r : RV) (name : ByteArray) (w : World) (ht : TreeOf w w.heap.size t r) (ot : t.Ok) :
    Calls Try.prog 78 #[r.val, .string name] w fun e w' => e = .returned (.int .i64 (placeI (t.place name))) ∧ Below w.heap.size w w' := by
  cases ht with
  | @mk _ l m rs rms hl el hcl hm em hcn hcm =>
  obtain ⟨k, n, s, pl, nl, cl, pm, nm, cm⟩ := r
  cases ot with
  | mk _ _ _ bl bm okl oks okm =>
  dsimp only [RV.val] at *
  have eM := rd_nlen hm
  have hA0 : VAt (w.alloc (.cells #[.int .i64 k, .int .i64 n, .string s, .slice pl nl cl, .slice pm nm cm] 25)) w.heap.size ⟨k, n, s, pl, nl, cl, pm, nm, cm⟩ := heap_alloc_at rfl
  have hB0 : Below w.heap.size w (w.alloc (.cells #[.int .i64 k, .int .i64 n, .string s, .slice pl nl cl, .slice pm nm cm] 25)) := (Below.refl _ _).alloc (Nat.le_refl _) _
  have HN := Lib.hid hcn
  have HM := Lib.hid hm
  have E2 : Hid (m.length = nm ∧ rms.length = nm) := ⟨by omega, by omega⟩
  have hnm : nm ≤ 1466015503658 := by omega
  clear hcl hcn hcm hl hm okl oks okm el em bl bm eM
  by_cases hk : k = 6
  · subst hk
    have hpl : (JV.mk 6 n s l m).place name = m.findIdx? (fun p => decide (p.1 = name)) := by simp [JV.place, JV.mem]
    rw [hpl]
    clear hpl
    go_enter Try.func78, Try.ntmps78
    go_wp2_with fail
    go_loopw [13] (fun i wr => ∃ k : Nat, k ≤ nm ∧ i = .int .i64 k ∧ Hid (∀ j y, j < k → m[j]? = some y → decide (y.1 = name) = false) ∧ Below w.heap.size w wr) (fun i _ => nm - (intOf i).toNat)
    case atStart => exact ⟨0, Nat.zero_le _, rfl, fun j y h => by omega, hB0⟩
    case round =>
      obtain ⟨k, hk, rfl, hno, hbr⟩ := hrel
      have HNO := Lib.hid hno.out
      clear hno
      by_cases hlt : k < nm
      · obtain ⟨tx, htx⟩ : ∃ x, m[k]? = some x := ⟨_, List.getElem?_eq_getElem (by have := E2.out; omega)⟩
        obtain ⟨x, hx⟩ : ∃ x, rms[k]? = some x := ⟨_, List.getElem?_eq_getElem (by have := E2.out; omega)⟩
        obtain ⟨b1, o1, rfl, hb1, hc1⟩ := rd_at' (HM.out.below hbr (Nat.le_refl _)) hx
        have f0 := hc1 0 _ rfl
        have f1 := hc1 1 _ rfl
        have f2 := hc1 2 _ rfl
        have f3 := hc1 3 _ rfl
        have f4 := hc1 4 _ rfl
        have f5 := hc1 5 _ rfl
        rw [Nat.add_zero] at f0
        have en := HN.out k tx x htx hx
        have HTX := Lib.hid htx
        have hz := hbr.size
        have HBR := Lib.hid hbr
        clear hc1 htx hx hbr
        by_cases hnx : x.name = name
        · have hq : (x.name.toList == name.toList) = true := by rw [str_beq]; simpa using hnx
          have HF := Lib.hid (find_at (p := fun p : ByteArray × JV => decide (p.1 = name)) HTX.out (by rw [en]; simpa using hnx) HNO.out)
          clear hnx en
          go_wp2_with fail
          go_ret
          exact ⟨ret_int (by rw [HF.out]; rfl), HBR.out.alloc hz _⟩
        · have hq : (x.name.toList == name.toList) = false := by rw [str_beq]; simpa using hnx
          have HNX : Hid (∀ j y, j < k + 1 → m[j]? = some y → decide (y.1 = name) = false) := by
            intro j y hj hy
            by_cases e : j = k
            · subst e
              have h := HTX.out
              rw [hy] at h
              cases h
              rw [en]; simpa using hnx
            · exact HNO.out j y (by omega) hy
          clear hnx en
          go_wp2_with fail
          go_roundw
          case rel => exact ⟨k + 1, by omega, by go_num, HNX, HBR.out.alloc hz _⟩
          case measure => simp [intOf]; omega
      · obtain rfl : k = nm := by omega
        have HF := Lib.hid (find_not (p := fun p : ByteArray × JV => decide (p.1 = name)) (l := m) (fun j y hy => HNO.out j y (by have := (List.getElem?_eq_some_iff.1 hy).1; have := E2.out; omega) hy))
        go_wp2_with fail
        go_ret
        exact ⟨ret_int (by rw [HF.out]; rfl), hbr⟩
  · have hpl : placeI ((JV.mk k n s l m).place name) = -1 := by simp [JV.place, JV.mem, hk, placeI]
    have HP := Lib.hid hpl
    have hq : (k != 6) = true := by simpa using hk
    clear hpl hk
    go_enter Try.func78, Try.ntmps78
    go_wp2_with fail
    go_ret
    exact ⟨ret_int HP.out.symm, hB0⟩
end Go.Proofs.Ythgkgjcnmahacaa
end

section
/- Maps keyed by strings whose elements are values of whatever shape, seen as functions from the key's bytes. Plain laws over any program. -/
set_option linter.unusedSimpArgs false
set_option linter.unusedVariables false
namespace Go.Proofs.Ythgkgjcnmahacaa
open Go Go.Maps Go.WideMaps Go.ChangeMaps Go.MapKept Go.WideShapes Go.RowKit

/-- How an element of whatever shape reads: as itself. -/
def anyElem (v : Value) : Option (DataW Value × List MemPlace) := some (.held v, [])

def mget (D : DataW Value) (s : List UInt8) : Option Value := match D.atKey (.string s) .nil with
  | .held v => some v
  | _ => none

theorem find_insert {H : Type} (x : Lit × DataW H) (q : Lit × DataW H → Bool) (hq : q x = false) : ∀ l : List (Lit × DataW H), (DataW.insert x l).find? q = l.find? q
  | [] => by simp [DataW.insert, hq]
  | y :: r => by
    unfold DataW.insert
    split
    · simp [List.find?_cons, hq]
    · simp only [List.find?_cons]; split
      · rfl
      · exact find_insert x q hq r

theorem find_insert_self {H : Type} (x : Lit × DataW H) (q : Lit × DataW H → Bool) (hq : q x = true) : ∀ l : List (Lit × DataW H), (∀ y ∈ l, q y = false) → (DataW.insert x l).find? q = some x
  | [], _ => by simp [DataW.insert, hq]
  | y :: r, h => by
    unfold DataW.insert
    split
    · simp [List.find?_cons, hq]
    · simp only [List.find?_cons, h y (by simp)]
      exact find_insert_self x q hq r (fun z hz => h z (by simp [hz]))

theorem find_filter {α : Type} (p q : α → Bool) (h : ∀ x, q x = true → p x = true) : ∀ l : List α, (l.filter p).find? q = l.find? q
  | [] => rfl
  | y :: r => by
    simp only [List.filter_cons, List.find?_cons]
    cases hp : p y with
    | true =>
      simp only [if_true, List.find?_cons]
      cases hq : q y with
      | true => rfl
      | false => exact find_filter p q h r
    | false =>
      cases hq : q y with
      | true => rw [h y hq] at hp; cases hp
      | false => simpa using find_filter p q h r

theorem mget_put (E : List (Lit × DataW Value)) (s t : List UInt8) (v : Value) : mget ((DataW.map E).put (.string s) (.held v)) t = if t = s then some v else mget (.map E) t := by
  unfold mget DataW.atKey DataW.put
  dsimp only
  by_cases h : t = s
  · subst h
    rw [find_insert_self _ _ (by simp [Lit.sameKey]) _ (fun y hy => by simpa using (List.mem_filter.1 hy).2)]
    simp
  · rw [find_insert _ _ (by simp [Lit.sameKey]; exact fun e => h e.symm), find_filter _ _ (fun x hx => by
      cases hxk : x.1 <;> simp_all [Lit.sameKey])]
    simp [h]

theorem mget_nil (s : List UInt8) : mget (.map []) s = none := rfl

/-- Block b is a map of at most n entries that holds f's values. -/
def MapF (w : World) (P : Program) (k : TypeId) (b n : Nat) (f : List UInt8 → Option Value) : Prop :=
  ∃ E : List (Lit × DataW Value), w.ownsMap P k anyElem b n (.map E) ∧ ∀ s, mget (.map E) s = f s

section
variable {P : Program} {k : TypeId} {w : World} {b n : Nat} {f : List UInt8 → Option Value}
theorem MapF.made (w : World) (P : Program) (k : TypeId) : MapF (w.alloc (.map #[] 0)) P k w.heap.size 0 (fun _ => none) :=
  ⟨[], World.ownsMap_made w P k anyElem, fun _ => rfl⟩
theorem MapF.lt (h : MapF w P k b n f) : b < w.heap.size := by
  obtain ⟨E, h, _⟩ := h
  exact h.lt
theorem MapF.kept {w' : World} {row : Option Nat} (h : MapF w P k b n f) (hg : w.grownBy w' row) (hne : some b ≠ row) : MapF w' P k b n f := by
  obtain ⟨E, h, he⟩ := h
  exact ⟨E, h.kept hg hne, he⟩
theorem MapF.alloc (h : MapF w P k b n f) (o : Obj) : MapF (w.alloc o) P k b n f := by
  obtain ⟨E, h, he⟩ := h
  exact ⟨E, h.alloc o, he⟩
theorem MapF.drewN (h : MapF w P k b n f) (m : Nat) : MapF (w.drewN m) P k b n f := h
theorem MapF.of_block {w' : World} (h : MapF w P k b n f) (hb : w'.heap[b]? = w.heap[b]?) : MapF w' P k b n f := by
  obtain ⟨E, ⟨es, clock, h1, h2⟩, he⟩ := h
  exact ⟨E, ⟨es, clock, hb.trans h1, h2⟩, he⟩
theorem MapF.below {B : Nat} {w' : World} (h : MapF w P k b n f) (hb : Below B w w') (hB : b < B) : MapF w' P k b n f := h.of_block (hb.block b hB)
theorem MapF.mono (h : MapF w P k b n f) {m : Nat} (hm : n ≤ m) : MapF w P k b m f := by
  obtain ⟨E, h, he⟩ := h
  exact ⟨E, h.mono hm, he⟩

theorem mget_find (E : List (Lit × DataW Value)) (s : List UInt8) : (∃ p, E.find? (fun p => p.1.sameKey (.string s)) = some p ∧ ∀ z : DataW Value, (DataW.map E).atKey (.string s) z = p.2) ∨
    (E.find? (fun p => p.1.sameKey (.string s)) = none ∧ ∀ z : DataW Value, (DataW.map E).atKey (.string s) z = z) := by
  unfold DataW.atKey
  cases h : E.find? (fun p => p.1.sameKey (.string s)) with
  | none => exact .inr ⟨rfl, fun z => by simp [h]⟩
  | some p => exact .inl ⟨p, rfl, fun z => by simp [h]⟩

theorem MapF.look {t e : TypeId} (h : MapF w P k b n f) (hk : P.underlying k = some .string) (ht : P.underlying t = some (.map k e)) {z : Value} (hz : (zeroValue e).run P w = .ok z w) {s : ByteArray} (hs : s.size ≤ maxLen) :
    (Instr.lookup t (.map (some b)) (.string s) false).run P w = .ok ((f s.data.toList).getD z) w := by
  obtain ⟨E, h, he⟩ := h
  obtain ⟨v, ps, hrun, hv⟩ := h.lookup (string_keyed hk) ht hz (zd := .held z) (zp := []) rfl (keyOf_string_mk hk hs)
  rw [hrun, ← he]
  simp only [anyElem, Option.some.injEq, Prod.mk.injEq] at hv
  have hv1 := hv.1
  unfold mget
  rcases mget_find E s.data.toList with ⟨p, _, hp⟩ | ⟨_, hp⟩
  · rw [hp] at hv1 ⊢
    rw [← hv1]; rfl
  · rw [hp] at hv1 ⊢
    cases hv1; rfl
theorem MapF.look_ok {t e : TypeId} (h : MapF w P k b n f) (hk : P.underlying k = some .string) (ht : P.underlying t = some (.map k e)) {z : Value} (hz : (zeroValue e).run P w = .ok z w) {s : ByteArray} (hs : s.size ≤ maxLen) :
    (Instr.lookup t (.map (some b)) (.string s) true).run P w = .ok (.tuple #[(f s.data.toList).getD z, .bool (f s.data.toList).isSome]) w := by
  obtain ⟨E, h, he⟩ := h
  obtain ⟨v, ps, hrun, hv⟩ := h.look_ok (string_keyed hk) ht hz (zd := .held z) (zp := []) rfl (keyOf_string_mk hk hs)
  rw [hrun, ← he]
  simp only [anyElem, Option.some.injEq, Prod.mk.injEq] at hv
  have hv1 := hv.1
  unfold mget
  rcases mget_find E s.data.toList with ⟨p, _, hp⟩ | ⟨_, hp⟩
  · rw [has_true_of_atKey hp]
    rw [hp] at hv1 ⊢
    rw [← hv1]; rfl
  · rw [has_false_of_atKey hp]
    rw [hp] at hv1 ⊢
    cases hv1; rfl
theorem MapF.store {t e : TypeId} (h : MapF w P k b n f) (hk : P.underlying k = some .string) (ht : P.underlying t = some (.map k e)) (hn : n < maxLen) {s : ByteArray} (hs : s.size ≤ maxLen) (v : Value) :
    ∃ w', (Instr.mapUpdate t (.map (some b)) (.string s) v).run P w = .ok () w' ∧ MapF w' P k b (n + 1) (fun u => if u = s.data.toList then some v else f u) ∧ w.grownBy w' (some b) := by
  obtain ⟨E, h, he⟩ := h
  obtain ⟨w', hrun, hown, hg⟩ := h.update (string_keyed hk) ht hn (kl := .string s.data.toList) (keyOf_string_mk hk hs) (d := .held v) (ps := []) rfl
  refine ⟨w', hrun, ⟨_, hown, fun u => ?_⟩, hg⟩
  refine (mget_put E s.data.toList u v).trans ?_
  rw [he u]
end

section
variable {P : Program} (w : World) {ops : Array Oper} {rest : List Oper} {o : Oper} {a : Act} {Q : Exit → Act → World → Prop}
theorem wpList_look_F (hg : o.guard = none) (m x : Operand) (t : TypeId) (hop : o.op = Op.lookup t m x false) (k e : TypeId) (hk : P.underlying k = some .string) (ht : P.underlying t = some (.map k e)) {z : Value} (hz : (zeroValue e).run P w = .ok z w)
    (b n : Nat) (f : List UInt8 → Option Value) (hm : a.eval m = .map (some b)) (hown : MapF w P k b n f) (s : ByteArray) (hx : a.eval x = .string s) (hs : s.size ≤ maxLen) {v : Value} (hv : (f s.data.toList).getD z = v)
    (hK : wpList P ops Q rest (a.put o.dst v) w) : wpList P ops Q (o :: rest) a w := by
  refine wpList_plain hg fun K' hK' => ?_
  have hrun := hown.look hk ht hz hs
  rw [hv] at hrun
  unfold Oper.wp
  simp [execOp, hop, hm, hx, hrun, Result.andThen]
  exact hK' _ _ hK
theorem wpList_store_F (hg : o.guard = none) (m x v : Operand) (t : TypeId) (hop : o.op = Op.mapUpdate t m x v) (k e : TypeId) (hk : P.underlying k = some .string) (ht : P.underlying t = some (.map k e)) 
    (b n : Nat) (f : List UInt8 → Option Value) (hm : a.eval m = .map (some b)) (hown : MapF w P k b n f) (hn : n < maxLen) (s : ByteArray) (hx : a.eval x = .string s) (hs : s.size ≤ maxLen) (val : Value) (hv : a.eval v = val)
    (hK : ∀ w', MapF w' P k b (n + 1) (fun u => if u = s.data.toList then some val else f u) → w.grownBy w' (some b) → wpList P ops Q rest (a.put o.dst undef) w') : wpList P ops Q (o :: rest) a w := by
  refine wpList_plain hg fun K' hK' => ?_
  obtain ⟨w', hrun, h1, h2⟩ := hown.store hk ht hn hs val
  unfold Oper.wp
  simp [execOp, hop, hm, hx, hv, hrun, Result.andThen]
  exact hK' _ _ (hK w' h1 h2)
end
end Go.Proofs.Ythgkgjcnmahacaa
end
