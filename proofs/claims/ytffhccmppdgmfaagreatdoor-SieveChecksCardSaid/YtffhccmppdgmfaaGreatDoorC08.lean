import Derived.Test.YtffhccmppdgmfaaGreatDoorC07
import Derived.Test.YtffhccmppdgmfaaGreatDoorC04
import Derived.Test.YtffhccmppdgmfaaGreatDoorC06
import Derived.Laws.IdiomStrings
import Derived.Test.YtffhccmppdgmfaaGreatDoorProg
import Derived.Test.YtffhccmppdgmfaaGreatDoorC00
import Derived.WalkSpells
import Derived.Laws.AppendOwnNone
import Derived.Lib.Hide
import Derived.WalkKit
import Derived.WalkLawsBesides
import Derived.BigQuiet
import Derived.Deep.QuietTactic
import Derived.Maps.OwnSet
import Derived.StringKeys
import Derived.Deep.Draws
set_option linter.unusedSimpArgs false
set_option linter.unusedVariables false
set_option maxRecDepth 200000
set_option maxHeartbeats 8000000
namespace Go.Proofs.YtffhccmppdgmfaaGreatDoor
section
open Go Go.RowKit Go.OpenShut
section
variable {α : Type} {enc : α -> List Value} {sz : Nat}
def RdI (w : World) (S : Nat -> Prop) (enc : α -> List Value) (sz : Nat) (v : Value) (xs : List α) : Prop :=
 ∃ (p : Option Addr) (cap : Nat), v = .slice p xs.length cap /\ xs.length <= cap /\ cap <= maxLen /\ (p = none -> cap = 0) /\
   ∀ a, p = some a -> 0 < xs.length -> ∃ b o, a = ⟨b, o, none⟩ /\ S b /\ RowAt w b o enc sz xs
theorem RdI.same {w w' : World} {S : Nat -> Prop} {v : Value} {xs : List α} (h : RdI w S enc sz v xs) (hk : ∀ k, S k -> w'.heap[k]? = w.heap[k]?) : RdI w' S enc sz v xs := by
 obtain ⟨p, cap, h1, h2, h3, h4, h5⟩ := h
 refine ⟨p, cap, h1, h2, h3, h4, fun a ha h0 => ?_⟩
 obtain ⟨b, o, e, hb, hr⟩ := h5 a ha h0
 exact ⟨b, o, e, hb, fun i x hx j u hu => (World.cell?_of_block (w := w) (a := ⟨b, o + i * sz + j, none⟩) (hk b hb)).trans (hr i x hx j u hu)⟩
theorem RdI.mono {w : World} {S S' : Nat -> Prop} {v : Value} {xs : List α} (h : RdI w S enc sz v xs) (hs : ∀ k, S k -> S' k) : RdI w S' enc sz v xs := by
 obtain ⟨p, cap, h1, h2, h3, h4, h5⟩ := h
 refine ⟨p, cap, h1, h2, h3, h4, fun a ha h0 => ?_⟩
 obtain ⟨b, o, e, hb, hr⟩ := h5 a ha h0
 exact ⟨b, o, e, hs b hb, hr⟩
theorem RdI.rd {w : World} {S : Nat -> Prop} {B : Nat} {v : Value} {xs : List α} (h : RdI w S enc sz v xs) (hs : ∀ k, S k -> k < B) : Rd w B enc sz v xs := by
 obtain ⟨p, cap, h1, h2, h3, h4, h5⟩ := h
 refine ⟨p, cap, h1, h2, h3, h4, fun a ha h0 => ?_⟩
 obtain ⟨b, o, e, hb, hr⟩ := h5 a ha h0
 exact ⟨b, o, e, hs b hb, hr⟩
theorem RdI.nil (w : World) (S : Nat -> Prop) : RdI w S enc sz (.slice none 0 0) ([] : List α) := ⟨none, 0, rfl, Nat.le_refl _, Nat.zero_le _, fun _ => rfl, fun a h _ => by cases h⟩
theorem Own.rdI (C : Codec enc sz) {w : World} {base : Nat} {e : TypeId} {S : Nat -> Prop} {v : Value} {xs : List α} (h : Own w base e enc sz v xs) (hs : ∀ k, v.ownBlock = some k -> S k) : RdI w S enc sz v xs := by
 have hrd := h.rd C
 obtain ⟨p, cap, h1, h2, h3, h4, h5⟩ := hrd
 refine ⟨p, cap, h1, h2, h3, h4, fun a ha h0 => ?_⟩
 obtain ⟨b, o, e, hb, hr⟩ := h5 a ha h0
 exact ⟨b, o, e, hs b (by rw [h1, ha, e]; rfl), hr⟩
end
inductive TreeS (w : World) (S : Nat -> Prop) : JV -> RV -> Prop
 | mk {r : RV} {l : List JV} {m : List (ByteArray × JV)} {rs : List RV} {rms : List RM} (hl : RdI w S encV 5 (.slice r.pl r.nl r.cl) rs) (el : l.length = rs.length) (cl : ∀ (i : Nat) (t : JV) (q : RV), l[i]? = some t -> rs[i]? = some q -> TreeS w S t q)
  (hm : RdI w S encM 6 (.slice r.pm r.nm r.cm) rms) (em : m.length = rms.length) (cn : ∀ (i : Nat) (p : ByteArray × JV) (q : RM), m[i]? = some p -> rms[i]? = some q -> p.1 = q.name)
  (cm : ∀ (i : Nat) (p : ByteArray × JV) (q : RM), m[i]? = some p -> rms[i]? = some q -> TreeS w S p.2 q.v) : TreeS w S (.mk r.k r.n r.s l m) r
theorem TreeS.same {w w' : World} {S : Nat -> Prop} {t : JV} {r : RV} (h : TreeS w S t r) (hk : ∀ k, S k -> w'.heap[k]? = w.heap[k]?) : TreeS w' S t r := by
 induction h with
 | mk hl el cl hm em cn cm ih1 ih2 => exact .mk (hl.same hk) el ih1 (hm.same hk) em cn ih2
theorem TreeS.mono {w : World} {S S' : Nat -> Prop} {t : JV} {r : RV} (h : TreeS w S t r) (hs : ∀ k, S k -> S' k) : TreeS w S' t r := by
 induction h with
 | mk hl el cl hm em cn cm ih1 ih2 => exact .mk (hl.mono hs) el ih1 (hm.mono hs) em cn ih2
theorem TreeS.tree {w : World} {S : Nat -> Prop} {B : Nat} {t : JV} {r : RV} (h : TreeS w S t r) (hs : ∀ k, S k -> k < B) : TreeOf w B t r := by
 induction h with
 | mk hl el cl hm em cn cm ih1 ih2 => exact .mk (hl.rd hs) el ih1 (hm.rd hs) em cn ih2
theorem TreeS.leaf (w : World) (S : Nat -> Prop) (k n : Int) (s : ByteArray) : TreeS w S (.mk k n s [] []) ⟨k, n, s, none, 0, 0, none, 0, 0⟩ :=
 .mk (r := ⟨k, n, s, none, 0, 0, none, 0, 0⟩) (rs := []) (rms := []) (RdI.nil _ _) rfl (fun i t q h => by simp at h) (RdI.nil _ _) rfl (fun i p q h => by simp at h) (fun i p q h => by simp at h)
structure GrL (w : World) (base : Nat) (v : Value) (l : List JV) : Prop where
 ex : ∃ rs, Own w base 25 encV 5 v rs /\ l.length = rs.length /\ ∀ (i : Nat) (t : JV) (q : RV), l[i]? = some t -> rs[i]? = some q -> TreeS w (fun k => base <= k /\ k < w.heap.size /\ v.ownBlock ≠ some k) t q
structure GrM (w : World) (base : Nat) (v : Value) (m : List (ByteArray × JV)) : Prop where
 ex : ∃ rms, Own w base 32 encM 6 v rms /\ m.length = rms.length /\ (∀ (i : Nat) (p : ByteArray × JV) (q : RM), m[i]? = some p -> rms[i]? = some q -> p.1 = q.name) /\ ∀ (i : Nat) (p : ByteArray × JV) (q : RM), m[i]? = some p -> rms[i]? = some q -> TreeS w (fun k => base <= k /\ k < w.heap.size /\ v.ownBlock ≠ some k) p.2 q.v
theorem GrL.nil (w : World) (base : Nat) : GrL w base (.slice none 0 0) [] := ⟨[], Own.nil _ _ _, rfl, fun i t q h => by simp at h⟩
theorem GrM.nil (w : World) (base : Nat) : GrM w base (.slice none 0 0) [] := ⟨[], Own.nil _ _ _, rfl, fun i t q h => by simp at h, fun i t q h => by simp at h⟩
theorem GrL.out {w w' : World} {base : Nat} {v : Value} {l : List JV} (h : GrL w base v l) (hk : ∀ k, base <= k -> k < w.heap.size -> w'.heap[k]? = w.heap[k]?) (hs : w.heap.size <= w'.heap.size) : GrL w' base v l := by
 obtain ⟨rs, h1, h2, h3⟩ := h.ex
 exact ⟨rs, h1.same (fun k e => hk k (h1.lt k e).1 (h1.lt k e).2), h2, fun i t q a b => ((h3 i t q a b).same (fun k e => hk k e.1 e.2.1)).mono (fun k e => ⟨e.1, by omega, e.2.2⟩)⟩
theorem GrM.out {w w' : World} {base : Nat} {v : Value} {m : List (ByteArray × JV)} (h : GrM w base v m) (hk : ∀ k, base <= k -> k < w.heap.size -> w'.heap[k]? = w.heap[k]?) (hs : w.heap.size <= w'.heap.size) : GrM w' base v m := by
 obtain ⟨rs, h1, h2, h4, h3⟩ := h.ex
 exact ⟨rs, h1.same (fun k e => hk k (h1.lt k e).1 (h1.lt k e).2), h2, h4, fun i t q a b => ((h3 i t q a b).same (fun k e => hk k e.1 e.2.1)).mono (fun k e => ⟨e.1, by omega, e.2.2⟩)⟩
theorem snoc_get {α : Type} {l : List α} {x a : α} {j : Nat} (h : (l ++ [x])[j]? = some a) : (j < l.length /\ l[j]? = some a) \/ (j = l.length /\ a = x) := by
 by_cases hj : j < l.length
 ·rw [List.getElem?_append_left hj] at h; exact .inl ⟨hj, h⟩
 ·rw [List.getElem?_append_right (by omega)] at h
  have h2 : j - l.length = 0 := by have := (List.getElem?_eq_some_iff.1 h).1; simp at this; omega
  rw [h2] at h
  simp at h
  exact .inr ⟨by omega, h.symm⟩
theorem GrL.snoc {w1 w2 : World} {base : Nat} {v v2 : Value} {l : List JV} {t : JV} {q : RV} {rs : List RV} (h1 : Own w1 base 25 encV 5 v rs) (h2 : l.length = rs.length) (h3 : ∀ (i : Nat) (t : JV) (q : RV), l[i]? = some t -> rs[i]? = some q -> TreeS w1 (fun k => base <= k /\ k < w1.heap.size /\ v.ownBlock ≠ some k) t q)
 (ht : TreeS w1 (fun k => base <= k /\ k < w1.heap.size /\ v.ownBlock ≠ some k) t q) (ho : Own w2 base 25 encV 5 v2 (rs ++ [q])) (hg : w1.grownBy w2 v.ownBlock) (hat : ∀ k, v2.ownBlock = some k -> v.ownBlock = some k \/ w1.heap.size <= k) : GrL w2 base v2 (l ++ [t]) := by
 have hs := hg.size
 have key : ∀ (t : JV) (q : RV), TreeS w1 (fun k => base <= k /\ k < w1.heap.size /\ v.ownBlock ≠ some k) t q -> TreeS w2 (fun k => base <= k /\ k < w2.heap.size /\ v2.ownBlock ≠ some k) t q :=
  fun t q h => (h.same (fun k e => hg.block k e.2.1 (fun e2 => e.2.2 e2.symm))).mono (fun k e => ⟨e.1, by omega, fun e2 => by
   rcases hat k e2 with h | h
   ·exact e.2.2 h
   ·omega⟩)
 refine ⟨rs ++ [q], ho, by simp [h2], fun i t' q' a b => ?_⟩
 rcases snoc_get a with ⟨ha, a⟩ | ⟨ha, rfl⟩
 ·rcases snoc_get b with ⟨hb, b⟩ | ⟨hb, _⟩
  ·exact key _ _ (h3 i t' q' a b)
  ·omega
 ·rcases snoc_get b with ⟨hb, b⟩ | ⟨hb, rfl⟩
  ·omega
  ·exact key _ _ ht
theorem GrM.snoc {w1 w2 : World} {base : Nat} {v v2 : Value} {m : List (ByteArray × JV)} {n : ByteArray} {t : JV} {q : RV} {rms : List RM} (h1 : Own w1 base 32 encM 6 v rms) (h2 : m.length = rms.length) (h4 : ∀ (i : Nat) (p : ByteArray × JV) (q : RM), m[i]? = some p -> rms[i]? = some q -> p.1 = q.name)
 (h3 : ∀ (i : Nat) (p : ByteArray × JV) (q : RM), m[i]? = some p -> rms[i]? = some q -> TreeS w1 (fun k => base <= k /\ k < w1.heap.size /\ v.ownBlock ≠ some k) p.2 q.v)
 (ht : TreeS w1 (fun k => base <= k /\ k < w1.heap.size /\ v.ownBlock ≠ some k) t q) (ho : Own w2 base 32 encM 6 v2 (rms ++ [⟨n, q⟩])) (hg : w1.grownBy w2 v.ownBlock) (hat : ∀ k, v2.ownBlock = some k -> v.ownBlock = some k \/ w1.heap.size <= k) : GrM w2 base v2 (m ++ [(n, t)]) := by
 have hs := hg.size
 have key : ∀ (t : JV) (q : RV), TreeS w1 (fun k => base <= k /\ k < w1.heap.size /\ v.ownBlock ≠ some k) t q -> TreeS w2 (fun k => base <= k /\ k < w2.heap.size /\ v2.ownBlock ≠ some k) t q :=
  fun t q h => (h.same (fun k e => hg.block k e.2.1 (fun e2 => e.2.2 e2.symm))).mono (fun k e => ⟨e.1, by omega, fun e2 => by
   rcases hat k e2 with h | h
   ·exact e.2.2 h
   ·omega⟩)
 refine ⟨rms ++ [⟨n, q⟩], ho, by simp [h2], fun i p' q' a b => ?_, fun i p' q' a b => ?_⟩
 ·rcases snoc_get a with ⟨ha, a⟩ | ⟨ha, rfl⟩
  ·rcases snoc_get b with ⟨hb, b⟩ | ⟨hb, _⟩
   ·exact h4 i p' q' a b
   ·omega
  ·rcases snoc_get b with ⟨hb, b⟩ | ⟨hb, rfl⟩
   ·omega
   ·rfl
 ·rcases snoc_get a with ⟨ha, a⟩ | ⟨ha, rfl⟩
  ·rcases snoc_get b with ⟨hb, b⟩ | ⟨hb, _⟩
   ·exact key _ _ (h3 i p' q' a b)
   ·omega
  ·rcases snoc_get b with ⟨hb, b⟩ | ⟨hb, rfl⟩
   ·omega
   ·exact key _ _ ht
theorem GrL.whole {w : World} {base : Nat} {p : Option Addr} {n c : Nat} {l : List JV} (h : GrL w base (.slice p n c) l) : TreeS w (fun k => base <= k /\ k < w.heap.size) (.mk 5 0 ⟨#[]⟩ l []) ⟨5, 0, ⟨#[]⟩, p, n, c, none, 0, 0⟩ := by
 obtain ⟨rs, h1, h2, h3⟩ := h.ex
 exact .mk (r := ⟨5, 0, ⟨#[]⟩, p, n, c, none, 0, 0⟩) (rs := rs) (rms := []) (h1.rdI codecV (fun k e => h1.lt k e)) h2 (fun i t q a b => (h3 i t q a b).mono (fun k e => ⟨e.1, e.2.1⟩)) (RdI.nil _ _) rfl (fun i p q h => by simp at h) (fun i p q h => by simp at h)
theorem GrM.whole {w : World} {base : Nat} {p : Option Addr} {n c : Nat} {m : List (ByteArray × JV)} (h : GrM w base (.slice p n c) m) : TreeS w (fun k => base <= k /\ k < w.heap.size) (.mk 6 0 ⟨#[]⟩ [] m) ⟨6, 0, ⟨#[]⟩, none, 0, 0, p, n, c⟩ := by
 obtain ⟨rs, h1, h2, h4, h3⟩ := h.ex
 exact .mk (r := ⟨6, 0, ⟨#[]⟩, none, 0, 0, p, n, c⟩) (rs := []) (rms := rs) (RdI.nil _ _) rfl (fun i p q h => by simp at h) (h1.rdI codecM (fun k e => h1.lt k e)) h2 h4 (fun i t q a b => (h3 i t q a b).mono (fun k e => ⟨e.1, e.2.1⟩))
def textR (s : ByteArray) : RV := ⟨4, 0, s, none, 0, 0, none, 0, 0⟩
def textJ (s : ByteArray) : JV := .mk 4 0 s [] []
theorem textR_of (w : World) (S : Nat -> Prop) (s : ByteArray) : TreeS w S (textJ s) (textR s) := TreeS.leaf w S 4 0 s
abbrev RM.obj (r : RM) : Obj := .cells #[.string r.name, .int .i64 r.v.k, .int .i64 r.v.n, .string r.v.s, .slice r.v.pl r.v.nl r.v.cl, .slice r.v.pm r.v.nm r.v.cm] 32
def RV.oval (k n : Int) (s : ByteArray) (pl : Option Addr) (nl cl : Nat) (pm : Option Addr) (nm cm : Nat) : RV := ⟨k, n, s, pl, nl, cl, pm, nm, cm⟩
end
section
structure CmpOk {β : Type} (c : β -> β -> Int) : Prop where
 refl : ∀ x, c x x = 0
 anti : ∀ x y, c y x = - c x y
 trans : ∀ x y z, c x y <= 0 -> c y z <= 0 -> c x z <= 0
theorem CmpOk.on {β γ : Type} {c : β -> β -> Int} (h : CmpOk c) (f : γ -> β) : CmpOk (fun x y => c (f x) (f y)) := ⟨fun x => h.refl _, fun x y => h.anti _ _, fun x y z a b => h.trans _ _ _ a b⟩
theorem CmpOk.neg {β : Type} {c : β -> β -> Int} (h : CmpOk c) : CmpOk (fun x y => - c x y) :=
 ⟨fun x => by rw [h.refl]; rfl, fun x y => by rw [h.anti], fun x y z a b => by
  have h1 := h.anti x y
  have h2 := h.anti y z
  have h3 := h.anti x z
  have h4 := h.trans z y x (by omega) (by omega)
  omega⟩
theorem CmpOk.eqT {β : Type} {c : β -> β -> Int} (h : CmpOk c) {x y z : β} (h1 : c x y = 0) : c x z = c y z /\ True -> True := fun _ => trivial
theorem CmpOk.lex {β : Type} {c d : β -> β -> Int} (hc : CmpOk c) (hd : CmpOk d) : CmpOk (fun x y => if c x y ≠ 0 then c x y else d x y) := by
 refine ⟨fun x => by rw [if_neg (by rw [hc.refl]; simp), hd.refl], fun x y => ?_, fun x y z => ?_⟩
 ·have h1 := hc.anti x y
  by_cases h : c x y = 0
  ·rw [if_neg (by omega), if_neg (by omega)]; exact hd.anti x y
  ·rw [if_pos (by omega), if_pos (by omega)]; exact h1
 ·have axy := hc.anti x y
  have ayz := hc.anti y z
  have axz := hc.anti x z
  intro h1 h2
  have c1 : c x y <= 0 := by split at h1 <;> omega
  have c2 : c y z <= 0 := by split at h2 <;> omega
  have c3 := hc.trans x y z c1 c2
  by_cases h : c x z = 0
  ·have e1 : c x y = 0 := by
    have := hc.trans y z x c2 (by omega)
    omega
   have e2 : c y z = 0 := by
    have := hc.trans z x y (by omega) c1
    omega
   rw [if_neg (by omega)] at h1 h2
   rw [if_neg (by omega)]
   exact hd.trans x y z h1 h2
  ·rw [if_pos (by omega)]
   omega
theorem cmpBytes_ok : CmpOk Go.Lib.compareBytes := by
 refine ⟨cmpB_self, fun x y => cmpB_neg x y, ?_⟩
 intro x
 induction x with
 | nil =>
   intro y z h1 h2
   cases z with
   | nil => exact Int.le_refl _
   | cons c z => show (-1 : Int) <= 0; decide
 | cons a x ih =>
   intro y z h1 h2
   cases y with
   | nil => exact absurd h1 (by show ¬ (1 : Int) <= 0; decide)
   | cons b y =>
     cases z with
     | nil => exact absurd h2 (by show ¬ (1 : Int) <= 0; decide)
     | cons c z =>
       unfold Go.Lib.compareBytes at h1 h2 ⊢
       by_cases ab : a < b
       ·by_cases bc : b < c
        ·rw [if_pos (UInt8.lt_trans ab bc)]; decide
        ·rw [if_neg bc] at h2
         by_cases cb : c < b
         ·rw [if_pos cb] at h2; exact absurd h2 (by decide)
         ·have : b = c := UInt8.le_antisymm (UInt8.not_lt.1 cb) (UInt8.not_lt.1 bc)
          subst this
          rw [if_pos ab]; decide
       ·rw [if_neg ab] at h1
        by_cases ba : b < a
        ·rw [if_pos ba] at h1; exact absurd h1 (by decide)
        ·have : a = b := UInt8.le_antisymm (UInt8.not_lt.1 ba) (UInt8.not_lt.1 ab)
         subst this
         rw [if_neg ba] at h1
         by_cases bc : a < c
         ·rw [if_pos bc]; decide
         ·rw [if_neg bc] at h2 ⊢
          by_cases cb : c < a
          ·rw [if_pos cb] at h2; exact absurd h2 (by decide)
          ·rw [if_neg cb] at h2 ⊢
           exact ih y z h1 h2
theorem cmpS_ok : CmpOk cmpS := by
 refine ⟨fun x => ?_, fun x y => ?_, fun x y z => ?_⟩
 ·unfold cmpS
  cases secF x with
  | none => exact cmpB_self _
  | some a => dsimp only; rw [if_neg (by omega), if_neg (by omega)]; exact cmpB_self _
 ·unfold cmpS
  cases secF x with
  | none => cases secF y with
    | none => exact cmpB_neg _ _
    | some b => rfl
  | some a => cases secF y with
    | none => rfl
    | some b =>
      dsimp only
      by_cases h1 : a < b
      ·rw [if_neg (by omega), if_pos h1, if_pos h1]; decide
      ·by_cases h2 : b < a
       ·rw [if_pos h2, if_neg h1, if_pos h2]
       ·rw [if_neg h2, if_neg h1, if_neg h1, if_neg h2]; exact cmpB_neg _ _
 ·unfold cmpS
  cases hx : secF x with
  | none => cases hy : secF y with
    | none => cases hz : secF z with
      | none => exact cmpBytes_ok.trans _ _ _
      | some c => intro _ _; show (-1 : Int) <= 0; decide
    | some b => cases hz : secF z with
      | none => intro _ h; exact absurd h (show ¬ (1 : Int) <= 0 by decide)
      | some c => intro _ _; show (-1 : Int) <= 0; decide
  | some a => cases hy : secF y with
    | none => intro h; exact absurd h (show ¬ (1 : Int) <= 0 by decide)
    | some b => cases hz : secF z with
      | none => intro _ h; exact absurd h (show ¬ (1 : Int) <= 0 by decide)
      | some c =>
        dsimp only
        intro h1 h2
        by_cases ab : a < b
        ·by_cases cb : c < b
         ·rw [if_neg (by omega), if_pos cb] at h2; exact absurd h2 (by decide)
         ·rw [if_pos (by omega)]; decide
        ·rw [if_neg ab] at h1
         by_cases ba : b < a
         ·rw [if_pos ba] at h1; exact absurd h1 (by decide)
         ·rw [if_neg ba] at h1
          have : a = b := by omega
          subst this
          by_cases ac : a < c
          ·rw [if_pos ac]; decide
          ·rw [if_neg ac] at h2 ⊢
           by_cases ca : c < a
           ·rw [if_pos ca] at h2; exact absurd h2 (by decide)
           ·rw [if_neg ca] at h2 ⊢
            exact cmpBytes_ok.trans _ _ _ h1 h2
structure CmpD where
 prop : ByteArray
 down : Bool
def createdN : ByteArray := ⟨#[99, 114, 101, 97, 116, 101, 100]⟩
def updatedN : ByteArray := ⟨#[117, 112, 100, 97, 116, 101, 100]⟩
def givenN : ByteArray := ⟨#[110, 97, 109, 101, 47, 103, 105, 118, 101, 110]⟩
def surN : ByteArray := ⟨#[110, 97, 109, 101, 47, 115, 117, 114, 110, 97, 109, 101]⟩
def sur2N : ByteArray := ⟨#[110, 97, 109, 101, 47, 115, 117, 114, 110, 97, 109, 101, 50]⟩
def datedB (p : ByteArray) : Bool := decide (p = createdN) || decide (p = updatedN)
def nameN : ByteArray := ⟨#[110, 97, 109, 101]⟩
def compN : ByteArray := ⟨#[99, 111, 109, 112, 111, 110, 101, 110, 116, 115]⟩
def kindN : ByteArray := ⟨#[107, 105, 110, 100]⟩
def valueN : ByteArray := ⟨#[118, 97, 108, 117, 101]⟩
def textM (v : JV) (name : ByteArray) : List ByteArray := match v.get name with | some x => if x.k = 4 then [x.s] else [] | none => []
def partsJ (v : JV) (kind : ByteArray) : List ByteArray := match v.get compN with | some x => if x.k = 5 then (x.l.filter (fun c => decide (kind.size = 0) || decide (textM c kindN = [kind]))).flatMap (fun c => textM c valueN) else [] | none => []
def zeroJ : JV := .mk 0 0 ⟨#[]⟩ [] []
def nameK (v : JV) (p : ByteArray) : ByteArray := (partsJ ((v.get nameN).getD zeroJ) (p.extract 5 p.size)).headD ⟨#[]⟩
def stampK (v : JV) (p : ByteArray) : ByteArray := (textM v p).headD ⟨#[]⟩
def foldC (c : UInt8) : UInt8 := if 65 <= c /\ c <= 90 then c + 32 else c
def foldL (l : List UInt8) : List UInt8 := l.map foldC
def cmpK (c : CmpD) (a b : JV) : Int :=
 let n := if datedB c.prop then cmpS (stampK a c.prop).data.toList (stampK b c.prop).data.toList else Go.Lib.compareBytes (foldL (nameK a c.prop).data.toList) (foldL (nameK b c.prop).data.toList)
 if c.down then -n else n
theorem cmpK_ok (c : CmpD) : CmpOk (cmpK c) := by
 have h : CmpOk (fun a b => if datedB c.prop then cmpS (stampK a c.prop).data.toList (stampK b c.prop).data.toList else Go.Lib.compareBytes (foldL (nameK a c.prop).data.toList) (foldL (nameK b c.prop).data.toList)) := by
  cases datedB c.prop
  ·exact cmpBytes_ok.on (fun a => foldL (nameK a c.prop).data.toList)
  ·exact cmpS_ok.on (fun a => (stampK a c.prop).data.toList)
 unfold cmpK
 cases c.down
 ·exact h
 ·exact h.neg
def cmpO : List CmpD -> ByteArray × JV -> ByteArray × JV -> Int
 | [], a, b => Go.Lib.compareBytes a.1.data.toList b.1.data.toList
 | c :: cs, a, b => if cmpK c a.2 b.2 ≠ 0 then cmpK c a.2 b.2 else cmpO cs a b
theorem cmpO_ok : ∀ cs : List CmpD, CmpOk (cmpO cs)
 | [] => cmpBytes_ok.on (fun a : ByteArray × JV => a.1.data.toList)
 | c :: cs => ((cmpK_ok c).on (fun a : ByteArray × JV => a.2)).lex (cmpO_ok cs)
def aheadJ (cs : List CmpD) (a b : ByteArray × JV) : Bool := decide (cmpO cs a b < 0)
theorem CmpOk.lt {β : Type} {c : β -> β -> Int} (h : CmpOk c) : LtOk (fun a b => decide (c a b < 0)) :=
 ⟨fun a b h1 => by
  have h2 := of_decide_eq_true h1
  have h3 := h.anti a b
  exact decide_eq_false (by omega), fun a b x h1 h2 => by
  have h3 := of_decide_eq_false h1
  have h4 := of_decide_eq_false h2
  have h5 := h.anti b a
  have h6 := h.anti x b
  have h7 := h.trans a b x (by omega) (by omega)
  have h8 := h.anti a x
  exact decide_eq_false (by omega)⟩
theorem aheadJ_ok (cs : List CmpD) : LtOk (aheadJ cs) := (cmpO_ok cs).lt
theorem cmpO_id : ∀ (cs : List CmpD) {a b : ByteArray × JV}, cmpO cs a b = 0 -> a.1 = b.1
 | [], a, b, h => cmpN_eq h
 | c :: cs, a, b, h => by
   unfold cmpO at h
   split at h
   ·contradiction
   ·exact cmpO_id cs h
end
section
open Go Go.RowKit Go.OpenShut
theorem small_any (c : UInt8) (w : World) : Calls Tryz.prog 133 #[.int .u8 c.toNat] w fun e w' => e = .returned (.int .u8 (foldC c).toNat) /\ w = w' := by
 have hc := c.toNat_lt
 have hF : (foldC c).toNat = if 65 <= c.toNat /\ c.toNat <= 90 then c.toNat + 32 else c.toNat := by
  unfold foldC
  have h1 : (65 <= c /\ c <= 90) ↔ (65 <= c.toNat /\ c.toNat <= 90) := by rw [UInt8.le_iff_toNat_le, UInt8.le_iff_toNat_le]; rfl
  by_cases h : 65 <= c.toNat /\ c.toNat <= 90
  ·rw [if_pos (h1.2 h), if_pos h, UInt8.toNat_add]
   show (c.toNat + 32) % 256 = _
   omega
  ·rw [if_neg (fun e => h (h1.1 e)), if_neg h]
 obtain ⟨n, hn⟩ : ∃ n, c.toNat = n := ⟨_, rfl⟩
 obtain ⟨R, hR⟩ : ∃ n, (foldC c).toNat = n := ⟨_, rfl⟩
 rw [hn] at hF hc
 rw [hn, hR]
 rw [hR] at hF
 have HF := Lib.hid hF
 clear hF hR hn
 have hc' : (n : Int) < 256 := by omega
 have n0 : (0 : Int) <= (n : Int) := Int.natCast_nonneg _
 by_cases h1 : 65 <= n
 ·have q1 : decide ((65 : Int) <= (n : Int)) = true := decide_eq_true (by omega)
  by_cases h2 : n <= 90
  ·have q2 : decide ((n : Int) <= 90) = true := decide_eq_true (by omega)
   have HR : Hid (R = n + 32) := by unfold Hid; rw [HF.out, if_pos ⟨h1, h2⟩]
   have h2' : (n : Int) <= 90 := by omega
   go_enter Tryz.func133, Tryz.ntmps133
   go_wp2_with fail
   rw [HR.out]
   go_ret
   exact ⟨by simp, rfl⟩
  ·have q2 : decide ((n : Int) <= 90) = false := decide_eq_false (by omega)
   have HR : Hid (R = n) := by unfold Hid; rw [HF.out, if_neg (fun e => h2 e.2)]
   go_enter Tryz.func133, Tryz.ntmps133
   go_wp2_with fail
   rw [HR.out]
   go_ret
   exact ⟨rfl, rfl⟩
 ·have q1 : decide ((65 : Int) <= (n : Int)) = false := decide_eq_false (by omega)
  have HR : Hid (R = n) := by unfold Hid; rw [HF.out, if_neg (fun e => h1 e.1)]
  go_enter Tryz.func133, Tryz.ntmps133
  go_wp2_with fail
  rw [HR.out]
  go_ret
  exact ⟨rfl, rfl⟩
def encBt (l : List UInt8) : List Value := l.map (fun b => Value.int .u8 b.toNat)
def BtAt (W : World) (g : Nat) (l : List UInt8) : Prop := ∃ cs : Array Value, W.heap[g]? = some (.cells cs 5 (cs.size, cs.size + 1)) /\ cs.toList.take l.length = encBt l /\ l.length <= cs.size
theorem BtAt.lt {W : World} {g : Nat} {l : List UInt8} (h : BtAt W g l) : g < W.heap.size := by
 obtain ⟨cs, h1, _⟩ := h
 exact (Array.getElem?_eq_some_iff.1 h1).1
theorem BtAt.cell {W : World} {g : Nat} {l : List UInt8} (h : BtAt W g l) {j : Nat} (hj : j < l.length) : W.cell? ⟨g, j, none⟩ = some (.int .u8 (l[j].toNat : Int)) := by
 obtain ⟨cs, h1, h2, h3⟩ := h
 rw [cell_of_row W g j _ _ _ h1]
 have h4 := congrArg (fun x => x[j]?) h2
 simp only [List.getElem?_take, if_pos hj] at h4
 rw [<- Array.getElem?_toList, h4]
 unfold encBt
 rw [List.getElem?_map, List.getElem?_eq_getElem hj]
 rfl
theorem BtAt.frozen {W : World} {g : Nat} {l : List UInt8} (h : BtAt W g l) {j : Nat} (hj : j < l.length) : W.frozen? ⟨g, j, none⟩ = false := by
 obtain ⟨cs, h1, h2, h3⟩ := h
 simp [World.frozen?, h1]
 omega
theorem BtAt.set {W : World} {g : Nat} {l : List UInt8} (h : BtAt W g l) {j : Nat} (hj : j < l.length) (c : UInt8) : BtAt (W.setCell ⟨g, j, none⟩ (.int .u8 c.toNat)) g (l.set j c) := by
 obtain ⟨cs, h1, h2, h3⟩ := h
 refine ⟨cs.setIfInBounds j (.int .u8 c.toNat), ?_, ?_, by simpa using h3⟩
 ·simp [World.setCell, Array.getElem?_modify, h1]
  try omega
 ·rw [List.length_set, Array.toList_setIfInBounds, List.take_set, h2]
  unfold encBt
  rw [List.map_set]
theorem BtAt.fresh (w : World) (s : ByteArray) (n : Nat) : BtAt (w.alloc (.cells (bytesRow s n) 5 ((bytesRow s n).size, (bytesRow s n).size + 1))) w.heap.size s.data.toList := by
 refine ⟨bytesRow s n, heap_alloc_at rfl, ?_, ?_⟩
 ·unfold bytesRow encBt
  rw [Array.toList_append, Array.toList_map, List.take_left' (by simp)]
 ·unfold bytesRow
  simp
theorem BtAt.back {W : World} {g : Nat} {l : List UInt8} (h : BtAt W g l) {n : Nat} (hn : n = l.length) (c : Nat) : (convert 160 9 (.slice (some ⟨g, 0, none⟩) n c)).run Tryz.prog W = .ok (.string (toB l)) W := by
 subst hn
 refine run_convert_bytes_back W _ _ _ _ c l Tryz.underlying160 Tryz.underlying5 Tryz.underlying9 (fun j hj => ?_)
 have e : (⟨g, 0, none⟩ : Addr).add j = ⟨g, j, none⟩ := by simp [Addr.add]; try (intro h; exact h.symm)
 rw [e]
 exact h.cell hj
def foldN (l : List UInt8) (k : Nat) : List UInt8 := foldL (l.take k) ++ l.drop k
theorem foldN_len (l : List UInt8) (k : Nat) : (foldN l k).length = l.length := by unfold foldN foldL; rw [List.length_append, List.length_map, List.length_take, List.length_drop]; omega
theorem foldN_get {l : List UInt8} {k : Nat} (h : k < l.length) : (foldN l k)[k]? = some l[k] := by
 unfold foldN foldL
 rw [List.getElem?_append_right (by rw [List.length_map, List.length_take]; omega), List.length_map, List.length_take, show k - min k l.length = 0 by omega, List.getElem?_drop]
 simp [List.getElem?_eq_getElem h]
theorem foldN_succ {l : List UInt8} {k : Nat} (h : k < l.length) : foldN l (k + 1) = (foldN l k).set k (foldC l[k]) := by
 unfold foldN foldL
 have hlen : (List.map foldC (l.take k)).length = k := by rw [List.length_map, List.length_take]; omega
 rw [List.set_append_right _ _ (by omega), hlen, Nat.sub_self, List.take_succ_eq_append_getElem h, List.map_append, List.append_assoc, List.drop_eq_getElem_cons h]
 rfl
theorem foldN_all (l : List UInt8) : foldN l l.length = foldL l := by unfold foldN; rw [List.take_length, List.drop_length, List.append_nil]
theorem fold_any (s : ByteArray) (w : World) (hs : s.size <= maxLen) : Calls Tryz.prog 100 #[.string s] w fun e w' => e = .returned (.string (toB (foldL s.data.toList))) /\ Below w.heap.size w w' := by
 have hsz : s.data.toList.length = s.size := by rw [Array.length_toList]; rfl
 unfold maxLen at hs
 have hconv := run_bytes_of_string (P := Tryz.prog) w 9 160 5 s Tryz.underlying9 Tryz.underlying160 Tryz.underlying5
 have hF := BtAt.fresh w s (grownCap w s.size 0 5)
 have hB : Below w.heap.size w (w.alloc (.cells (bytesRow s (grownCap w s.size 0 5)) 5 ((bytesRow s (grownCap w s.size 0 5)).size, (bytesRow s (grownCap w s.size 0 5)).size + 1))) := (Below.refl _ _).alloc (Nat.le_refl _) _
 obtain ⟨K, hK⟩ : ∃ K, grownCap w s.size 0 5 = K := ⟨_, rfl⟩
 rw [hK] at hconv hF hB
 obtain ⟨C, hC⟩ : ∃ C, bytesRow s K = C := ⟨_, rfl⟩
 rw [hC] at hconv hF hB
 have HF := Lib.hid hF
 have HB := Lib.hid hB
 have HSZ := Lib.hid hsz
 have s0 : (0 : Int) <= (s.size : Int) := Int.natCast_nonneg _
 clear hF hB hK hC hsz
 go_enter Tryz.func100, Tryz.ntmps100
 go_upto_region 2 with fail
 obtain ⟨W1, hW1⟩ : ∃ W1, (w.alloc (.cells C 5 (C.size, C.size + 1))) = W1 := ⟨_, rfl⟩
 rw [hW1] at HF HB
 try rw [hW1]
 clear hconv
 go_wp2_with fail
 have HF1 : Hid (BtAt W1.drew w.heap.size s.data.toList) := HF.out
 have HB1 : Hid (Below w.heap.size w W1.drew) := HB.out.drew
 clear HF HB
 have hw1 : w.heap.size < W1.drew.heap.size := HF1.out.lt
 obtain ⟨W2, hW2⟩ : ∃ W2, W1.drew = W2 := ⟨_, rfl⟩
 rw [hW2] at HF1 HB1 hw1
 rw [hW2]
 clear hW2 hW1 W1 hw1
 go_loopw [10] (fun i wr => ∃ k : Nat, k <= s.size /\ i = .int .i64 (k : Int) /\ Hid (BtAt wr w.heap.size (foldN s.data.toList k)) /\ Hid (Below w.heap.size w wr)) (fun i _ => s.size - (intOf i).toNat)
 case atStart =>
  refine ⟨0, by omega, rfl, ?_, HB1.out⟩
  have e : foldN s.data.toList 0 = s.data.toList := by unfold foldN foldL; simp
  rw [e]
  exact HF1.out
 case round =>
  obtain ⟨k, hk, rfl, hbt, hbl⟩ := hrel
  have hk0 : (0 : Int) <= (k : Int) := Int.natCast_nonneg _
  by_cases hlt : k < s.size
  ·have hks : (k : Int) < (s.size : Int) := by omega
   have q1 : decide ((k : Int) < (s.size : Int)) = true := decide_eq_true hks
   have hlt' : k < s.data.toList.length := by rw [HSZ.out]; exact hlt
   have hj : k < (foldN s.data.toList k).length := by rw [foldN_len]; exact hlt'
   have hcl := hbt.out.cell hj
   have hgx : (foldN s.data.toList k)[k] = s.data.toList[k] := by
    have h1 := foldN_get hlt'
    rw [List.getElem?_eq_getElem hj] at h1
    exact Option.some.inj h1
   have hst := hbt.out.set hj (foldC s.data.toList[k])
   rw [<- foldN_succ hlt'] at hst
   rw [hgx] at hcl
   have hfz := hbt.out.frozen hj
   have hwl := hbt.out.lt
   obtain ⟨c, hc⟩ : ∃ c, s.data.toList[k] = c := ⟨_, rfl⟩
   rw [hc] at hcl hst
   have HST := Lib.hid hst
   have HSM : Hid (∀ W, Calls Tryz.prog 133 #[.int .u8 c.toNat] W fun e w' => e = .returned (.int .u8 (foldC c).toNat) /\ W = w') := fun W => small_any c W
   have hsb := (foldC c).toNat_lt
   obtain ⟨d, hd⟩ : ∃ d, (foldC c).toNat = d := ⟨_, rfl⟩
   rw [hd] at HST HSM hsb
   have hd256 : (d : Int) < 256 := by omega
   have hd0 : (0 : Int) <= (d : Int) := Int.natCast_nonneg _
   clear hst hc hgx hj hlt' hd hsb
   go_wp2_with (first | (go_at_call 133; refine (HSM.out _).mono ?_; rintro e w1 ⟨rfl, rfl⟩) | fail)
   go_roundw
   case rel =>
    refine ⟨k + 1, by omega, by go_num, HST.out, hbl.out.setCell (p := ⟨w.heap.size, k, none⟩) (Nat.le_refl _) _⟩
   case measure => simp [intOf]; omega
  ·obtain rfl : k = s.size := by omega
   have q1 : decide ((s.size : Int) < (s.size : Int)) = false := decide_eq_false (by omega)
   have e : foldN s.data.toList s.size = foldL s.data.toList := by rw [<- HSZ.out]; exact foldN_all _
   rw [e] at hbt
   have hback := hbt.out.back (n := s.size) (by unfold foldL; rw [List.length_map, HSZ.out]) K
   go_wp2_with fail
   go_ret
   exact ⟨rfl, hbl.out⟩
theorem fcomp_any (s t : ByteArray) (w : World) (hs : s.size <= maxLen) (ht : t.size <= maxLen) : Calls Tryz.prog 109 #[.string s, .string t] w fun e w' => e = .returned (.int .i64 (Go.Lib.compareBytes (foldL s.data.toList) (foldL t.data.toList))) /\ Below w.heap.size w w' := by
 have HA : Hid (∀ W, Calls Tryz.prog 100 #[.string s] W fun e w' => e = .returned (.string (toB (foldL s.data.toList))) /\ Below W.heap.size W w') := fun W => fold_any s W hs
 have HB : Hid (∀ W, Calls Tryz.prog 100 #[.string t] W fun e w' => e = .returned (.string (toB (foldL t.data.toList))) /\ Below W.heap.size W w') := fun W => fold_any t W ht
 have HC : Hid (∀ W, Calls Tryz.prog 143 #[.string (toB (foldL s.data.toList)), .string (toB (foldL t.data.toList))] W fun e w' => e = .returned (.int .i64 (Go.Lib.compareBytes (foldL s.data.toList) (foldL t.data.toList))) /\ W = w') := fun W => comp_any _ _ W
 obtain ⟨X, hX⟩ : ∃ X, toB (foldL s.data.toList) = X := ⟨_, rfl⟩
 obtain ⟨Y, hY⟩ : ∃ X, toB (foldL t.data.toList) = X := ⟨_, rfl⟩
 obtain ⟨R, hR⟩ : ∃ X, Go.Lib.compareBytes (foldL s.data.toList) (foldL t.data.toList) = X := ⟨_, rfl⟩
 rw [hX] at HA HC
 rw [hY] at HB HC
 rw [hR] at HC
 rw [hR]
 clear hX hY hR hs ht
 go_enter Tryz.func109, Tryz.ntmps109
 go_wp2_with (first | (go_at_call 100; with_reducible refine (HA.out _).mono ?_; rintro e w1 ⟨rfl, hb1⟩) | (go_at_call 100; with_reducible refine (HB.out _).mono ?_; rintro e w2 ⟨rfl, hb2⟩) | (go_at_call 143; refine (HC.out _).mono ?_; rintro e w3 ⟨rfl, rfl⟩) | fail)
 go_ret
 exact ⟨rfl, hb1.trans (hb2.mono hb1.size)⟩
end
section
open Go.RowKit
def OwnRet {α : Type} (w : World) (t : TypeId) (enc : α -> List Value) (sz : Nat) (xs : List α) (e : Ending) (w' : World) : Prop :=
 ∃ u, e = .returned u /\ Own w' w.heap.size t enc sz u xs /\ Below w.heap.size w w'
theorem ret_bool {a b : Bool} (h : a = b) : Ending.returned (.bool a) = .returned (.bool b) := by rw [h]
def mayB (was what : Int) : Bool := if what = 1 then was == 0 else if what = 2 \/ what = 3 then was != 3 else false
structure En where
 seq : Int
 id : ByteArray
 what : Int
deriving DecidableEq
def En.ok (e : En) : Prop := (Lit.int .i64 e.seq).wf = true /\ e.id.size <= maxLen /\ (Lit.int .i64 e.what).wf = true
theorem toList_beq (a b : ByteArray) : (a.toList == b.toList) = decide (a = b) := by
 rw [ByteArray.toList_eq, ByteArray.toList_eq]
 obtain ⟨⟨x⟩⟩ := a
 obtain ⟨⟨y⟩⟩ := b
 by_cases h : x = y
 ·simp [h]
 ·simp [h]
def En.eqv (a b : En) : Bool := a.seq == b.seq && a.id.toList == b.id.toList && a.what == b.what
def enAt (w : World) (b o : Nat) (e : Option En) : Prop := ∃ x, e = some x /\ w.cell? ⟨b, o, none⟩ = some (.int .i64 x.seq) /\ w.cell? ⟨b, o + 1, none⟩ = some (.string x.id) /\ w.cell? ⟨b, o + 2, none⟩ = some (.int .i64 x.what)
def RdE (w : World) (B : Nat) (v : Value) (es : List En) : Prop :=
 (∀ e ∈ es, e.ok) /\ ∃ (p : Option Addr) (cap : Nat), v = .slice p es.length cap /\ es.length <= cap /\ cap <= maxLen /\ (p = none -> cap = 0) /\
  ∀ a, p = some a -> 0 < es.length -> ∃ b o, a = ⟨b, o, none⟩ /\ b < B /\ ∀ i, i < es.length -> enAt w b (o + i * 3) es[i]?
def sameE : List En -> List En -> Bool
 | [], [] => true
 | a :: l, b :: m => a.eqv b && sameE l m
 | _, _ => false
theorem slice_at {p : Option Addr} {cap n k B : Nat} {C : Nat -> Nat -> Nat -> Prop} (h0 : p = none -> cap = 0)
 (h : ∀ a, p = some a -> 0 < n -> ∃ b o, a = ⟨b, o, none⟩ /\ b < B /\ ∀ i, i < n -> C b o i) (hk : k < n /\ n <= cap) : ∃ b o, p = some ⟨b, o, none⟩ /\ b < B /\ ∀ i, i < n -> C b o i := by
 cases p with
 | none => have := h0 rfl; omega
 | some a => obtain ⟨b, o, rfl, hb, hc⟩ := h a rfl (by omega); exact ⟨b, o, rfl, hb, hc⟩
theorem sameE_snoc {l m : List En} {k : Nat} {x y : En} (hx : l[k]? = some x) (hy : m[k]? = some y) : sameE (l.take (k + 1)) (m.take (k + 1)) = (sameE (l.take k) (m.take k) && x.eqv y) := by
 induction k generalizing l m with
 | zero => cases l <;> cases m <;> simp_all [sameE]
 | succ k ih =>
   cases l with
   | nil => simp at hx
   | cons a l => cases m with
     | nil => simp at hy
     | cons b m => simp only [List.getElem?_cons_succ] at hx hy; simp only [List.take_succ_cons, sameE]; rw [ih hx hy, Bool.and_assoc]
theorem sameE_false {l m : List En} {k : Nat} {x y : En} (hx : l[k]? = some x) (hy : m[k]? = some y) (h : x.eqv y = false) : sameE l m = false := by
 induction k generalizing l m with
 | zero => cases l <;> cases m <;> simp_all [sameE]
 | succ k ih =>
   cases l with
   | nil => simp at hx
   | cons a l => cases m with
     | nil => simp at hy
     | cons b m => simp only [List.getElem?_cons_succ] at hx hy; simp only [sameE]; rw [ih hx hy, Bool.and_false]
theorem sameE_len {l m : List En} (h : l.length ≠ m.length) : sameE l m = false := by
 induction l generalizing m with
 | nil => cases m <;> simp_all [sameE]
 | cons a l ih => cases m with
   | nil => simp [sameE]
   | cons b m => simp only [sameE]; rw [ih (by simpa using h), Bool.and_false]
theorem eqv_eq (a b : En) : a.eqv b = decide (a = b) := by
 obtain ⟨s, i, x⟩ := a
 obtain ⟨t, j, y⟩ := b
 unfold En.eqv
 rw [toList_beq]
 by_cases h1 : s = t <;> by_cases h2 : i = j <;> by_cases h3 : x = y <;> simp [h1, h2, h3]
theorem sameE_eq (l m : List En) : sameE l m = decide (l = m) := by
 induction l generalizing m with
 | nil => cases m <;> simp [sameE]
 | cons a l ih => cases m with
   | nil => simp [sameE]
   | cons b m => simp only [sameE, ih, eqv_eq]; by_cases h1 : a = b <;> by_cases h2 : l = m <;> simp [h1, h2]
end
section
open Go Go.Maps Go.WideMaps Go.ChangeMaps Go.MapKept Go.WideShapes Go.RowKit
def anyElem (v : Value) : Option (DataW Value × List MemPlace) := some (.held v, [])
def mget (D : DataW Value) (s : List UInt8) : Option Value := match D.atKey (.string s) .nil with
 | .held v => some v
 | _ => none
theorem find_insert {H : Type} (x : Lit × DataW H) (q : Lit × DataW H -> Bool) (hq : q x = false) : ∀ l : List (Lit × DataW H), (DataW.insert x l).find? q = l.find? q
 | [] => by simp [DataW.insert, hq]
 | y :: r => by
   unfold DataW.insert
   split
   ·simp [List.find?_cons, hq]
   ·simp only [List.find?_cons]; split
    ·rfl
    ·exact find_insert x q hq r
theorem find_insert_self {H : Type} (x : Lit × DataW H) (q : Lit × DataW H -> Bool) (hq : q x = true) : ∀ l : List (Lit × DataW H), (∀ y ∈ l, q y = false) -> (DataW.insert x l).find? q = some x
 | [], _ => by simp [DataW.insert, hq]
 | y :: r, h => by
   unfold DataW.insert
   split
   ·simp [List.find?_cons, hq]
   ·simp only [List.find?_cons, h y (by simp)]
    exact find_insert_self x q hq r (fun z hz => h z (by simp [hz]))
theorem find_filter {α : Type} (p q : α -> Bool) (h : ∀ x, q x = true -> p x = true) : ∀ l : List α, (l.filter p).find? q = l.find? q
 | [] => rfl
 | y :: r => by
   simp only [List.filter_cons, List.find?_cons]
   cases hp : p y with
   | true =>
     simp only [if_true, List.find?_cons]
     cases hq : q y with
     | true => rfl
     | false => exact find_filter p q h r
   | false =>
     cases hq : q y with
     | true => rw [h y hq] at hp; cases hp
     | false => simpa using find_filter p q h r
theorem mget_put (E : List (Lit × DataW Value)) (s t : List UInt8) (v : Value) : mget ((DataW.map E).put (.string s) (.held v)) t = if t = s then some v else mget (.map E) t := by
 unfold mget DataW.atKey DataW.put
 dsimp only
 by_cases h : t = s
 ·subst h
  rw [find_insert_self _ _ (by simp [Lit.sameKey]) _ (fun y hy => by simpa using (List.mem_filter.1 hy).2)]
  simp
 ·rw [find_insert _ _ (by simp [Lit.sameKey]; exact fun e => h e.symm), find_filter _ _ (fun x hx => by
   cases hxk : x.1 <;> simp_all [Lit.sameKey])]
  simp [h]
theorem mget_nil (s : List UInt8) : mget (.map []) s = none := rfl
def MapF (w : World) (P : Program) (k : TypeId) (b n : Nat) (f : List UInt8 -> Option Value) : Prop :=
 ∃ E : List (Lit × DataW Value), w.ownsMap P k anyElem b n (.map E) /\ ∀ s, mget (.map E) s = f s
section
variable {P : Program} {k : TypeId} {w : World} {b n : Nat} {f : List UInt8 -> Option Value}
theorem MapF.made (w : World) (P : Program) (k : TypeId) : MapF (w.alloc (.map #[] 0)) P k w.heap.size 0 (fun _ => none) :=
 ⟨[], World.ownsMap_made w P k anyElem, fun _ => rfl⟩
theorem MapF.lt (h : MapF w P k b n f) : b < w.heap.size := by
 obtain ⟨E, h, _⟩ := h
 exact h.lt
theorem MapF.kept {w' : World} {row : Option Nat} (h : MapF w P k b n f) (hg : w.grownBy w' row) (hne : some b ≠ row) : MapF w' P k b n f := by
 obtain ⟨E, h, he⟩ := h
 exact ⟨E, h.kept hg hne, he⟩
theorem MapF.alloc (h : MapF w P k b n f) (o : Obj) : MapF (w.alloc o) P k b n f := by
 obtain ⟨E, h, he⟩ := h
 exact ⟨E, h.alloc o, he⟩
theorem MapF.drewN (h : MapF w P k b n f) (m : Nat) : MapF (w.drewN m) P k b n f := h
theorem MapF.of_block {w' : World} (h : MapF w P k b n f) (hb : w'.heap[b]? = w.heap[b]?) : MapF w' P k b n f := by
 obtain ⟨E, ⟨es, clock, h1, h2⟩, he⟩ := h
 exact ⟨E, ⟨es, clock, hb.trans h1, h2⟩, he⟩
theorem MapF.below {B : Nat} {w' : World} (h : MapF w P k b n f) (hb : Below B w w') (hB : b < B) : MapF w' P k b n f := h.of_block (hb.block b hB)
theorem MapF.mono (h : MapF w P k b n f) {m : Nat} (hm : n <= m) : MapF w P k b m f := by
 obtain ⟨E, h, he⟩ := h
 exact ⟨E, h.mono hm, he⟩
theorem mget_find (E : List (Lit × DataW Value)) (s : List UInt8) : (∃ p, E.find? (fun p => p.1.sameKey (.string s)) = some p /\ ∀ z : DataW Value, (DataW.map E).atKey (.string s) z = p.2) \/
 (E.find? (fun p => p.1.sameKey (.string s)) = none /\ ∀ z : DataW Value, (DataW.map E).atKey (.string s) z = z) := by
 unfold DataW.atKey
 cases h : E.find? (fun p => p.1.sameKey (.string s)) with
 | none => exact .inr ⟨rfl, fun z => by simp [h]⟩
 | some p => exact .inl ⟨p, rfl, fun z => by simp [h]⟩
theorem MapF.look {t e : TypeId} (h : MapF w P k b n f) (hk : P.underlying k = some .string) (ht : P.underlying t = some (.map k e)) {z : Value} (hz : (zeroValue e).run P w = .ok z w) {s : ByteArray} (hs : s.size <= maxLen) :
 (Instr.lookup t (.map (some b)) (.string s) false).run P w = .ok ((f s.data.toList).getD z) w := by
 obtain ⟨E, h, he⟩ := h
 obtain ⟨v, ps, hrun, hv⟩ := h.lookup (string_keyed hk) ht hz (zd := .held z) (zp := []) rfl (keyOf_string_mk hk hs)
 rw [hrun, <- he]
 simp only [anyElem, Option.some.injEq, Prod.mk.injEq] at hv
 have hv1 := hv.1
 unfold mget
 rcases mget_find E s.data.toList with ⟨p, _, hp⟩ | ⟨_, hp⟩
 ·rw [hp] at hv1 ⊢
  rw [<- hv1]; rfl
 ·rw [hp] at hv1 ⊢
  cases hv1; rfl
theorem MapF.look_ok {t e : TypeId} (h : MapF w P k b n f) (hk : P.underlying k = some .string) (ht : P.underlying t = some (.map k e)) {z : Value} (hz : (zeroValue e).run P w = .ok z w) {s : ByteArray} (hs : s.size <= maxLen) :
 (Instr.lookup t (.map (some b)) (.string s) true).run P w = .ok (.tuple #[(f s.data.toList).getD z, .bool (f s.data.toList).isSome]) w := by
 obtain ⟨E, h, he⟩ := h
 obtain ⟨v, ps, hrun, hv⟩ := h.look_ok (string_keyed hk) ht hz (zd := .held z) (zp := []) rfl (keyOf_string_mk hk hs)
 rw [hrun, <- he]
 simp only [anyElem, Option.some.injEq, Prod.mk.injEq] at hv
 have hv1 := hv.1
 unfold mget
 rcases mget_find E s.data.toList with ⟨p, _, hp⟩ | ⟨_, hp⟩
 ·rw [has_true_of_atKey hp]
  rw [hp] at hv1 ⊢
  rw [<- hv1]; rfl
 ·rw [has_false_of_atKey hp]
  rw [hp] at hv1 ⊢
  cases hv1; rfl
theorem MapF.store {t e : TypeId} (h : MapF w P k b n f) (hk : P.underlying k = some .string) (ht : P.underlying t = some (.map k e)) (hn : n < maxLen) {s : ByteArray} (hs : s.size <= maxLen) (v : Value) :
 ∃ w', (Instr.mapUpdate t (.map (some b)) (.string s) v).run P w = .ok () w' /\ MapF w' P k b (n + 1) (fun u => if u = s.data.toList then some v else f u) /\ w.grownBy w' (some b) := by
 obtain ⟨E, h, he⟩ := h
 obtain ⟨w', hrun, hown, hg⟩ := h.update (string_keyed hk) ht hn (kl := .string s.data.toList) (keyOf_string_mk hk hs) (d := .held v) (ps := []) rfl
 refine ⟨w', hrun, ⟨_, hown, fun u => ?_⟩, hg⟩
 refine (mget_put E s.data.toList u v).trans ?_
 rw [he u]
end
section
variable {P : Program} (w : World) {ops : Array Oper} {rest : List Oper} {o : Oper} {a : Act} {Q : Exit -> Act -> World -> Prop}
theorem wpList_look_F (hg : o.guard = none) (m x : Operand) (t : TypeId) (hop : o.op = Op.lookup t m x false) (k e : TypeId) (hk : P.underlying k = some .string) (ht : P.underlying t = some (.map k e)) {z : Value} (hz : (zeroValue e).run P w = .ok z w)
 (b n : Nat) (f : List UInt8 -> Option Value) (hm : a.eval m = .map (some b)) (hown : MapF w P k b n f) (s : ByteArray) (hx : a.eval x = .string s) (hs : s.size <= maxLen) {v : Value} (hv : (f s.data.toList).getD z = v)
 (hK : wpList P ops Q rest (a.put o.dst v) w) : wpList P ops Q (o :: rest) a w := by
 refine wpList_plain hg fun K' hK' => ?_
 have hrun := hown.look hk ht hz hs
 rw [hv] at hrun
 unfold Oper.wp
 simp [execOp, hop, hm, hx, hrun, Result.andThen]
 exact hK' _ _ hK
theorem wpList_store_F (hg : o.guard = none) (m x v : Operand) (t : TypeId) (hop : o.op = Op.mapUpdate t m x v) (k e : TypeId) (hk : P.underlying k = some .string) (ht : P.underlying t = some (.map k e))
 (b n : Nat) (f : List UInt8 -> Option Value) (hm : a.eval m = .map (some b)) (hown : MapF w P k b n f) (hn : n < maxLen) (s : ByteArray) (hx : a.eval x = .string s) (hs : s.size <= maxLen) (val : Value) (hv : a.eval v = val)
 (hK : ∀ w', MapF w' P k b (n + 1) (fun u => if u = s.data.toList then some val else f u) -> w.grownBy w' (some b) -> wpList P ops Q rest (a.put o.dst undef) w') : wpList P ops Q (o :: rest) a w := by
 refine wpList_plain hg fun K' hK' => ?_
 obtain ⟨w', hrun, h1, h2⟩ := hown.store hk ht hn hs val
 unfold Oper.wp
 simp [execOp, hop, hm, hx, hv, hrun, Result.andThen]
 exact hK' _ _ (hK w' h1 h2)
end
end
end Go.Proofs.YtffhccmppdgmfaaGreatDoor
