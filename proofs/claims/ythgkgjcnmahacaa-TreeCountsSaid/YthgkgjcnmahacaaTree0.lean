/- Values of JSON as trees, and how they lie in memory. -/
import Derived.Test.YthgkgjcnmahacaaProg
import Derived.Test.YthgkgjcnmahacaaOwn2
import Derived.Test.YthgkgjcnmahacaaLst
import Derived.WalkKit
import Derived.WalkSpells
import Derived.Lib.Hide
set_option linter.unusedSimpArgs false
set_option linter.unusedVariables false
set_option maxRecDepth 100000
namespace Go.Proofs.Ythgkgjcnmahacaa
open Go Go.RowKit Go.ChangeShapes Go.WideShapes Go.Deep

/-- A value of JSON, as data. -/
inductive JV where
  | mk (k n : Int) (s : ByteArray) (l : List JV) (m : List (ByteArray × JV))

namespace JV
def k : JV → Int | .mk k _ _ _ _ => k
def n : JV → Int | .mk _ n _ _ _ => n
def s : JV → ByteArray | .mk _ _ s _ _ => s
def l : JV → List JV | .mk _ _ _ l _ => l
def m : JV → List (ByteArray × JV) | .mk _ _ _ _ m => m
theorem lt_l {k n : Int} {s : ByteArray} {l : List JV} {m : List (ByteArray × JV)} {i : Nat} {x : JV} (h : l[i]? = some x) : SizeOf.sizeOf x < SizeOf.sizeOf (JV.mk k n s l m) := by
  have := List.sizeOf_lt_of_mem (List.mem_of_getElem? h)
  simp only [JV.mk.sizeOf_spec]
  omega
theorem lt_m {k n : Int} {s : ByteArray} {l : List JV} {m : List (ByteArray × JV)} {i : Nat} {p : ByteArray × JV} (h : m[i]? = some p) : SizeOf.sizeOf p.2 < SizeOf.sizeOf (JV.mk k n s l m) := by
  have := List.sizeOf_lt_of_mem (List.mem_of_getElem? h)
  obtain ⟨a, b⟩ := p
  simp only [JV.mk.sizeOf_spec, Prod.mk.sizeOf_spec] at this ⊢
  omega
/-- Its numbers fit, its texts and lists have lengths that may be. -/
inductive Ok : JV → Prop
  | mk {k n : Int} {s : ByteArray} {l : List JV} {m : List (ByteArray × JV)} (hk : (Lit.int .i64 k).wf = true) (hn : (Lit.int .i64 n).wf = true) (hs : s.size ≤ 140737488351232) (hl : l.length ≤ 1759218604390) (hm : m.length ≤ 1466015503658)
      (cl : ∀ (i : Nat) (x : JV), l[i]? = some x → Ok x) (cs : ∀ (i : Nat) (p : ByteArray × JV), m[i]? = some p → p.1.size ≤ 140737488351232) (cm : ∀ (i : Nat) (p : ByteArray × JV), m[i]? = some p → Ok p.2) : Ok (.mk k n s l m)
end JV

/-- A value's own cells; a member's. -/
structure RV where
  k : Int
  n : Int
  s : ByteArray
  pl : Option Addr
  nl : Nat
  cl : Nat
  pm : Option Addr
  nm : Nat
  cm : Nat
abbrev RV.val (r : RV) : Value := .agg #[.int .i64 r.k, .int .i64 r.n, .string r.s, .slice r.pl r.nl r.cl, .slice r.pm r.nm r.cm]
def encV (r : RV) : List Value := [.int .i64 r.k, .int .i64 r.n, .string r.s, .slice r.pl r.nl r.cl, .slice r.pm r.nm r.cm]
structure RM where
  name : ByteArray
  v : RV
abbrev RM.val (r : RM) : Value := .agg #[.string r.name, .int .i64 r.v.k, .int .i64 r.v.n, .string r.v.s, .slice r.v.pl r.v.nl r.v.cl, .slice r.v.pm r.v.nm r.v.cm]
def encM (r : RM) : List Value := .string r.name :: encV r.v
theorem codecV : Codec encV 5 := ⟨fun _ => rfl, fun x u hu => by
  simp only [encV, List.mem_cons, List.not_mem_nil, or_false] at hu
  rcases hu with rfl | rfl | rfl | rfl | rfl <;> rfl, by decide⟩
theorem codecM : Codec encM 6 := ⟨fun _ => rfl, fun x u hu => by
  simp only [encM, encV, List.mem_cons, List.not_mem_nil, or_false] at hu
  rcases hu with rfl | rfl | rfl | rfl | rfl | rfl <;> rfl, by decide⟩

/-- The cells r read as the tree t, through blocks below B. -/
inductive TreeOf (w : World) (B : Nat) : JV → RV → Prop
  | mk {r : RV} {l : List JV} {m : List (ByteArray × JV)} {rs : List RV} {rms : List RM} (hl : Rd w B encV 5 (.slice r.pl r.nl r.cl) rs) (el : l.length = rs.length) (cl : ∀ (i : Nat) (t : JV) (q : RV), l[i]? = some t → rs[i]? = some q → TreeOf w B t q)
      (hm : Rd w B encM 6 (.slice r.pm r.nm r.cm) rms) (em : m.length = rms.length) (cn : ∀ (i : Nat) (p : ByteArray × JV) (q : RM), m[i]? = some p → rms[i]? = some q → p.1 = q.name)
      (cm : ∀ (i : Nat) (p : ByteArray × JV) (q : RM), m[i]? = some p → rms[i]? = some q → TreeOf w B p.2 q.v) : TreeOf w B (.mk r.k r.n r.s l m) r

theorem TreeOf.under {w w' : World} {B B' : Nat} {t : JV} {r : RV} (h : TreeOf w B t r) (hb : Below B w w') (hB : B ≤ B') : TreeOf w' B' t r := by
  induction h with
  | mk hl el cl hm em cn cm ih1 ih2 => exact .mk (hl.below hb hB) el ih1 (hm.below hb hB) em cn ih2
theorem TreeOf.mono {w : World} {B B' : Nat} {t : JV} {r : RV} (h : TreeOf w B t r) (hB : B ≤ B') : TreeOf w B' t r := h.under (Below.refl _ _) hB
theorem TreeOf.drewN {w : World} {B : Nat} {t : JV} {r : RV} (h : TreeOf w B t r) (n : Nat) : TreeOf (w.drewN n) B t r := h.under (bdn (Below.refl _ _) n) (Nat.le_refl _)

theorem slV : SlT Try.prog 22 25 5 80 := SlT.mk (z := .agg #[.int .i64 0, .int .i64 0, .string ByteArray.empty, .slice none 0 0, .slice none 0 0]) Try.underlying22 (by kernel_rfl) rfl
theorem slM : SlT Try.prog 23 90 6 96 := SlT.mk (z := .agg #[.string ByteArray.empty, .int .i64 0, .int .i64 0, .string ByteArray.empty, .slice none 0 0, .slice none 0 0]) Try.underlying23 (by kernel_rfl) rfl
theorem cellsV : Try.prog.cellsOf 25 = 5 := by kernel_rfl
theorem cellsM : Try.prog.cellsOf 90 = 6 := by kernel_rfl
theorem bytesV : Try.prog.bytesOf 25 = 80 := by kernel_rfl
theorem bytesM : Try.prog.bytesOf 90 = 96 := by kernel_rfl

#print axioms slV
end Go.Proofs.Ythgkgjcnmahacaa
