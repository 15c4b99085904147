import Derived.Test.YtffhccmppdgmfaaGreatDoorG05
import Derived.Test.YtffhccmppdgmfaaGreatDoorG04
import Derived.Laws.IdiomStrings
import Derived.Test.YtffhccmppdgmfaaGreatDoorG03
import Derived.Test.YtffhccmppdgmfaaGreatDoorG00
set_option linter.unusedSimpArgs false
set_option linter.unusedVariables false
set_option maxRecDepth 200000
set_option maxHeartbeats 8000000
namespace Go.Proofs.YtffhccmppdgmfaaGreatDoor
section
open Go Go.RowKit Go.OpenShut
section
variable {α : Type} {enc : α -> List Value} {sz : Nat}
def RdI (w : World) (S : Nat -> Prop) (enc : α -> List Value) (sz : Nat) (v : Value) (xs : List α) : Prop :=
 ∃ (p : Option Addr) (cap : Nat), v = .slice p xs.length cap /\ xs.length <= cap /\ cap <= maxLen /\ (p = none -> cap = 0) /\
   ∀ a, p = some a -> 0 < xs.length -> ∃ b o, a = ⟨b, o, none⟩ /\ S b /\ RowAt w b o enc sz xs
theorem RdI.same {w w' : World} {S : Nat -> Prop} {v : Value} {xs : List α} (h : RdI w S enc sz v xs) (hk : ∀ k, S k -> w'.heap[k]? = w.heap[k]?) : RdI w' S enc sz v xs := by
 obtain ⟨p, cap, h1, h2, h3, h4, h5⟩ := h
 refine ⟨p, cap, h1, h2, h3, h4, fun a ha h0 => ?_⟩
 obtain ⟨b, o, e, hb, hr⟩ := h5 a ha h0
 exact ⟨b, o, e, hb, fun i x hx j u hu => (World.cell?_of_block (w := w) (a := ⟨b, o + i * sz + j, none⟩) (hk b hb)).trans (hr i x hx j u hu)⟩
theorem RdI.mono {w : World} {S S' : Nat -> Prop} {v : Value} {xs : List α} (h : RdI w S enc sz v xs) (hs : ∀ k, S k -> S' k) : RdI w S' enc sz v xs := by
 obtain ⟨p, cap, h1, h2, h3, h4, h5⟩ := h
 refine ⟨p, cap, h1, h2, h3, h4, fun a ha h0 => ?_⟩
 obtain ⟨b, o, e, hb, hr⟩ := h5 a ha h0
 exact ⟨b, o, e, hs b hb, hr⟩
theorem RdI.rd {w : World} {S : Nat -> Prop} {B : Nat} {v : Value} {xs : List α} (h : RdI w S enc sz v xs) (hs : ∀ k, S k -> k < B) : Rd w B enc sz v xs := by
 obtain ⟨p, cap, h1, h2, h3, h4, h5⟩ := h
 refine ⟨p, cap, h1, h2, h3, h4, fun a ha h0 => ?_⟩
 obtain ⟨b, o, e, hb, hr⟩ := h5 a ha h0
 exact ⟨b, o, e, hs b hb, hr⟩
theorem RdI.nil (w : World) (S : Nat -> Prop) : RdI w S enc sz (.slice none 0 0) ([] : List α) := ⟨none, 0, rfl, Nat.le_refl _, Nat.zero_le _, fun _ => rfl, fun a h _ => by cases h⟩
theorem Own.rdI (C : Codec enc sz) {w : World} {base : Nat} {e : TypeId} {S : Nat -> Prop} {v : Value} {xs : List α} (h : Own w base e enc sz v xs) (hs : ∀ k, v.ownBlock = some k -> S k) : RdI w S enc sz v xs := by
 have hrd := h.rd C
 obtain ⟨p, cap, h1, h2, h3, h4, h5⟩ := hrd
 refine ⟨p, cap, h1, h2, h3, h4, fun a ha h0 => ?_⟩
 obtain ⟨b, o, e, hb, hr⟩ := h5 a ha h0
 exact ⟨b, o, e, hs b (by rw [h1, ha, e]; rfl), hr⟩
end
inductive TreeS (w : World) (S : Nat -> Prop) : JV -> RV -> Prop
 | mk {r : RV} {l : List JV} {m : List (ByteArray × JV)} {rs : List RV} {rms : List RM} (hl : RdI w S encV 5 (.slice r.pl r.nl r.cl) rs) (el : l.length = rs.length) (cl : ∀ (i : Nat) (t : JV) (q : RV), l[i]? = some t -> rs[i]? = some q -> TreeS w S t q)
  (hm : RdI w S encM 6 (.slice r.pm r.nm r.cm) rms) (em : m.length = rms.length) (cn : ∀ (i : Nat) (p : ByteArray × JV) (q : RM), m[i]? = some p -> rms[i]? = some q -> p.1 = q.name)
  (cm : ∀ (i : Nat) (p : ByteArray × JV) (q : RM), m[i]? = some p -> rms[i]? = some q -> TreeS w S p.2 q.v) : TreeS w S (.mk r.k r.n r.s l m) r
theorem TreeS.same {w w' : World} {S : Nat -> Prop} {t : JV} {r : RV} (h : TreeS w S t r) (hk : ∀ k, S k -> w'.heap[k]? = w.heap[k]?) : TreeS w' S t r := by
 induction h with
 | mk hl el cl hm em cn cm ih1 ih2 => exact .mk (hl.same hk) el ih1 (hm.same hk) em cn ih2
theorem TreeS.mono {w : World} {S S' : Nat -> Prop} {t : JV} {r : RV} (h : TreeS w S t r) (hs : ∀ k, S k -> S' k) : TreeS w S' t r := by
 induction h with
 | mk hl el cl hm em cn cm ih1 ih2 => exact .mk (hl.mono hs) el ih1 (hm.mono hs) em cn ih2
theorem TreeS.tree {w : World} {S : Nat -> Prop} {B : Nat} {t : JV} {r : RV} (h : TreeS w S t r) (hs : ∀ k, S k -> k < B) : TreeOf w B t r := by
 induction h with
 | mk hl el cl hm em cn cm ih1 ih2 => exact .mk (hl.rd hs) el ih1 (hm.rd hs) em cn ih2
theorem TreeS.leaf (w : World) (S : Nat -> Prop) (k n : Int) (s : ByteArray) : TreeS w S (.mk k n s [] []) ⟨k, n, s, none, 0, 0, none, 0, 0⟩ :=
 .mk (r := ⟨k, n, s, none, 0, 0, none, 0, 0⟩) (rs := []) (rms := []) (RdI.nil _ _) rfl (fun i t q h => by simp at h) (RdI.nil _ _) rfl (fun i p q h => by simp at h) (fun i p q h => by simp at h)
structure GrL (w : World) (base : Nat) (v : Value) (l : List JV) : Prop where
 ex : ∃ rs, Own w base 25 encV 5 v rs /\ l.length = rs.length /\ ∀ (i : Nat) (t : JV) (q : RV), l[i]? = some t -> rs[i]? = some q -> TreeS w (fun k => base <= k /\ k < w.heap.size /\ v.ownBlock ≠ some k) t q
structure GrM (w : World) (base : Nat) (v : Value) (m : List (ByteArray × JV)) : Prop where
 ex : ∃ rms, Own w base 32 encM 6 v rms /\ m.length = rms.length /\ (∀ (i : Nat) (p : ByteArray × JV) (q : RM), m[i]? = some p -> rms[i]? = some q -> p.1 = q.name) /\ ∀ (i : Nat) (p : ByteArray × JV) (q : RM), m[i]? = some p -> rms[i]? = some q -> TreeS w (fun k => base <= k /\ k < w.heap.size /\ v.ownBlock ≠ some k) p.2 q.v
theorem GrL.nil (w : World) (base : Nat) : GrL w base (.slice none 0 0) [] := ⟨[], Own.nil _ _ _, rfl, fun i t q h => by simp at h⟩
theorem GrM.nil (w : World) (base : Nat) : GrM w base (.slice none 0 0) [] := ⟨[], Own.nil _ _ _, rfl, fun i t q h => by simp at h, fun i t q h => by simp at h⟩
theorem GrL.out {w w' : World} {base : Nat} {v : Value} {l : List JV} (h : GrL w base v l) (hk : ∀ k, base <= k -> k < w.heap.size -> w'.heap[k]? = w.heap[k]?) (hs : w.heap.size <= w'.heap.size) : GrL w' base v l := by
 obtain ⟨rs, h1, h2, h3⟩ := h.ex
 exact ⟨rs, h1.same (fun k e => hk k (h1.lt k e).1 (h1.lt k e).2), h2, fun i t q a b => ((h3 i t q a b).same (fun k e => hk k e.1 e.2.1)).mono (fun k e => ⟨e.1, by omega, e.2.2⟩)⟩
theorem GrM.out {w w' : World} {base : Nat} {v : Value} {m : List (ByteArray × JV)} (h : GrM w base v m) (hk : ∀ k, base <= k -> k < w.heap.size -> w'.heap[k]? = w.heap[k]?) (hs : w.heap.size <= w'.heap.size) : GrM w' base v m := by
 obtain ⟨rs, h1, h2, h4, h3⟩ := h.ex
 exact ⟨rs, h1.same (fun k e => hk k (h1.lt k e).1 (h1.lt k e).2), h2, h4, fun i t q a b => ((h3 i t q a b).same (fun k e => hk k e.1 e.2.1)).mono (fun k e => ⟨e.1, by omega, e.2.2⟩)⟩
theorem snoc_get {α : Type} {l : List α} {x a : α} {j : Nat} (h : (l ++ [x])[j]? = some a) : (j < l.length /\ l[j]? = some a) \/ (j = l.length /\ a = x) := by
 by_cases hj : j < l.length
 ·rw [List.getElem?_append_left hj] at h; exact .inl ⟨hj, h⟩
 ·rw [List.getElem?_append_right (by omega)] at h
  have h2 : j - l.length = 0 := by have := (List.getElem?_eq_some_iff.1 h).1; simp at this; omega
  rw [h2] at h
  simp at h
  exact .inr ⟨by omega, h.symm⟩
theorem GrL.snoc {w1 w2 : World} {base : Nat} {v v2 : Value} {l : List JV} {t : JV} {q : RV} {rs : List RV} (h1 : Own w1 base 25 encV 5 v rs) (h2 : l.length = rs.length) (h3 : ∀ (i : Nat) (t : JV) (q : RV), l[i]? = some t -> rs[i]? = some q -> TreeS w1 (fun k => base <= k /\ k < w1.heap.size /\ v.ownBlock ≠ some k) t q)
 (ht : TreeS w1 (fun k => base <= k /\ k < w1.heap.size /\ v.ownBlock ≠ some k) t q) (ho : Own w2 base 25 encV 5 v2 (rs ++ [q])) (hg : w1.grownBy w2 v.ownBlock) (hat : ∀ k, v2.ownBlock = some k -> v.ownBlock = some k \/ w1.heap.size <= k) : GrL w2 base v2 (l ++ [t]) := by
 have hs := hg.size
 have key : ∀ (t : JV) (q : RV), TreeS w1 (fun k => base <= k /\ k < w1.heap.size /\ v.ownBlock ≠ some k) t q -> TreeS w2 (fun k => base <= k /\ k < w2.heap.size /\ v2.ownBlock ≠ some k) t q :=
  fun t q h => (h.same (fun k e => hg.block k e.2.1 (fun e2 => e.2.2 e2.symm))).mono (fun k e => ⟨e.1, by omega, fun e2 => by
   rcases hat k e2 with h | h
   ·exact e.2.2 h
   ·omega⟩)
 refine ⟨rs ++ [q], ho, by simp [h2], fun i t' q' a b => ?_⟩
 rcases snoc_get a with ⟨ha, a⟩ | ⟨ha, rfl⟩
 ·rcases snoc_get b with ⟨hb, b⟩ | ⟨hb, _⟩
  ·exact key _ _ (h3 i t' q' a b)
  ·omega
 ·rcases snoc_get b with ⟨hb, b⟩ | ⟨hb, rfl⟩
  ·omega
  ·exact key _ _ ht
theorem GrM.snoc {w1 w2 : World} {base : Nat} {v v2 : Value} {m : List (ByteArray × JV)} {n : ByteArray} {t : JV} {q : RV} {rms : List RM} (h1 : Own w1 base 32 encM 6 v rms) (h2 : m.length = rms.length) (h4 : ∀ (i : Nat) (p : ByteArray × JV) (q : RM), m[i]? = some p -> rms[i]? = some q -> p.1 = q.name)
 (h3 : ∀ (i : Nat) (p : ByteArray × JV) (q : RM), m[i]? = some p -> rms[i]? = some q -> TreeS w1 (fun k => base <= k /\ k < w1.heap.size /\ v.ownBlock ≠ some k) p.2 q.v)
 (ht : TreeS w1 (fun k => base <= k /\ k < w1.heap.size /\ v.ownBlock ≠ some k) t q) (ho : Own w2 base 32 encM 6 v2 (rms ++ [⟨n, q⟩])) (hg : w1.grownBy w2 v.ownBlock) (hat : ∀ k, v2.ownBlock = some k -> v.ownBlock = some k \/ w1.heap.size <= k) : GrM w2 base v2 (m ++ [(n, t)]) := by
 have hs := hg.size
 have key : ∀ (t : JV) (q : RV), TreeS w1 (fun k => base <= k /\ k < w1.heap.size /\ v.ownBlock ≠ some k) t q -> TreeS w2 (fun k => base <= k /\ k < w2.heap.size /\ v2.ownBlock ≠ some k) t q :=
  fun t q h => (h.same (fun k e => hg.block k e.2.1 (fun e2 => e.2.2 e2.symm))).mono (fun k e => ⟨e.1, by omega, fun e2 => by
   rcases hat k e2 with h | h
   ·exact e.2.2 h
   ·omega⟩)
 refine ⟨rms ++ [⟨n, q⟩], ho, by simp [h2], fun i p' q' a b => ?_, fun i p' q' a b => ?_⟩
 ·rcases snoc_get a with ⟨ha, a⟩ | ⟨ha, rfl⟩
  ·rcases snoc_get b with ⟨hb, b⟩ | ⟨hb, _⟩
   ·exact h4 i p' q' a b
   ·omega
  ·rcases snoc_get b with ⟨hb, b⟩ | ⟨hb, rfl⟩
   ·omega
   ·rfl
 ·rcases snoc_get a with ⟨ha, a⟩ | ⟨ha, rfl⟩
  ·rcases snoc_get b with ⟨hb, b⟩ | ⟨hb, _⟩
   ·exact key _ _ (h3 i p' q' a b)
   ·omega
  ·rcases snoc_get b with ⟨hb, b⟩ | ⟨hb, rfl⟩
   ·omega
   ·exact key _ _ ht
theorem GrL.whole {w : World} {base : Nat} {p : Option Addr} {n c : Nat} {l : List JV} (h : GrL w base (.slice p n c) l) : TreeS w (fun k => base <= k /\ k < w.heap.size) (.mk 5 0 ⟨#[]⟩ l []) ⟨5, 0, ⟨#[]⟩, p, n, c, none, 0, 0⟩ := by
 obtain ⟨rs, h1, h2, h3⟩ := h.ex
 exact .mk (r := ⟨5, 0, ⟨#[]⟩, p, n, c, none, 0, 0⟩) (rs := rs) (rms := []) (h1.rdI codecV (fun k e => h1.lt k e)) h2 (fun i t q a b => (h3 i t q a b).mono (fun k e => ⟨e.1, e.2.1⟩)) (RdI.nil _ _) rfl (fun i p q h => by simp at h) (fun i p q h => by simp at h)
theorem GrM.whole {w : World} {base : Nat} {p : Option Addr} {n c : Nat} {m : List (ByteArray × JV)} (h : GrM w base (.slice p n c) m) : TreeS w (fun k => base <= k /\ k < w.heap.size) (.mk 6 0 ⟨#[]⟩ [] m) ⟨6, 0, ⟨#[]⟩, none, 0, 0, p, n, c⟩ := by
 obtain ⟨rs, h1, h2, h4, h3⟩ := h.ex
 exact .mk (r := ⟨6, 0, ⟨#[]⟩, none, 0, 0, p, n, c⟩) (rs := []) (rms := rs) (RdI.nil _ _) rfl (fun i p q h => by simp at h) (h1.rdI codecM (fun k e => h1.lt k e)) h2 h4 (fun i t q a b => (h3 i t q a b).mono (fun k e => ⟨e.1, e.2.1⟩))
abbrev RM.obj (r : RM) : Obj := .cells #[.string r.name, .int .i64 r.v.k, .int .i64 r.v.n, .string r.v.s, .slice r.v.pl r.v.nl r.v.cl, .slice r.v.pm r.v.nm r.v.cm] 32
end
section
structure CmpOk {β : Type} (c : β -> β -> Int) : Prop where
 refl : ∀ x, c x x = 0
 anti : ∀ x y, c y x = - c x y
 trans : ∀ x y z, c x y <= 0 -> c y z <= 0 -> c x z <= 0
def createdN : ByteArray := ⟨#[99, 114, 101, 97, 116, 101, 100]⟩
def updatedN : ByteArray := ⟨#[117, 112, 100, 97, 116, 101, 100]⟩
def givenN : ByteArray := ⟨#[110, 97, 109, 101, 47, 103, 105, 118, 101, 110]⟩
def surN : ByteArray := ⟨#[110, 97, 109, 101, 47, 115, 117, 114, 110, 97, 109, 101]⟩
def sur2N : ByteArray := ⟨#[110, 97, 109, 101, 47, 115, 117, 114, 110, 97, 109, 101, 50]⟩
def nameN : ByteArray := ⟨#[110, 97, 109, 101]⟩
def compN : ByteArray := ⟨#[99, 111, 109, 112, 111, 110, 101, 110, 116, 115]⟩
def kindN : ByteArray := ⟨#[107, 105, 110, 100]⟩
def valueN : ByteArray := ⟨#[118, 97, 108, 117, 101]⟩
def textM (v : JV) (name : ByteArray) : List ByteArray := match v.get name with | some x => if x.k = 4 then [x.s] else [] | none => []
def partsJ (v : JV) (kind : ByteArray) : List ByteArray := match v.get compN with | some x => if x.k = 5 then (x.l.filter (fun c => decide (kind.size = 0) || decide (textM c kindN = [kind]))).flatMap (fun c => textM c valueN) else [] | none => []
def foldC (c : UInt8) : UInt8 := if 65 <= c /\ c <= 90 then c + 32 else c
def foldL (l : List UInt8) : List UInt8 := l.map foldC
theorem CmpOk.lt {β : Type} {c : β -> β -> Int} (h : CmpOk c) : LtOk (fun a b => decide (c a b < 0)) :=
 ⟨fun a b h1 => by
  have h2 := of_decide_eq_true h1
  have h3 := h.anti a b
  exact decide_eq_false (by omega), fun a b x h1 h2 => by
  have h3 := of_decide_eq_false h1
  have h4 := of_decide_eq_false h2
  have h5 := h.anti b a
  have h6 := h.anti x b
  have h7 := h.trans a b x (by omega) (by omega)
  have h8 := h.anti a x
  exact decide_eq_false (by omega)⟩
end
section
open Go Go.RowKit Go.OpenShut
theorem small_any (c : UInt8) (w : World) : Calls Tryz.prog 133 #[.int .u8 c.toNat] w fun e w' => e = .returned (.int .u8 (foldC c).toNat) /\ w = w' := by
 have hc := c.toNat_lt
 have hF : (foldC c).toNat = if 65 <= c.toNat /\ c.toNat <= 90 then c.toNat + 32 else c.toNat := by
  unfold foldC
  have h1 : (65 <= c /\ c <= 90) ↔ (65 <= c.toNat /\ c.toNat <= 90) := by rw [UInt8.le_iff_toNat_le, UInt8.le_iff_toNat_le]; rfl
  by_cases h : 65 <= c.toNat /\ c.toNat <= 90
  ·rw [if_pos (h1.2 h), if_pos h, UInt8.toNat_add]
   show (c.toNat + 32) % 256 = _
   omega
  ·rw [if_neg (fun e => h (h1.1 e)), if_neg h]
 obtain ⟨n, hn⟩ : ∃ n, c.toNat = n := ⟨_, rfl⟩
 obtain ⟨R, hR⟩ : ∃ n, (foldC c).toNat = n := ⟨_, rfl⟩
 rw [hn] at hF hc
 rw [hn, hR]
 rw [hR] at hF
 have HF := Lib.hid hF
 clear hF hR hn
 have hc' : (n : Int) < 256 := by omega
 have n0 : (0 : Int) <= (n : Int) := Int.natCast_nonneg _
 by_cases h1 : 65 <= n
 ·have q1 : decide ((65 : Int) <= (n : Int)) = true := decide_eq_true (by omega)
  by_cases h2 : n <= 90
  ·have q2 : decide ((n : Int) <= 90) = true := decide_eq_true (by omega)
   have HR : Hid (R = n + 32) := by unfold Hid; rw [HF.out, if_pos ⟨h1, h2⟩]
   have h2' : (n : Int) <= 90 := by omega
   go_enter Tryz.func133, Tryz.ntmps133
   go_wp2_with fail
   rw [HR.out]
   go_ret
   exact ⟨by simp, rfl⟩
  ·have q2 : decide ((n : Int) <= 90) = false := decide_eq_false (by omega)
   have HR : Hid (R = n) := by unfold Hid; rw [HF.out, if_neg (fun e => h2 e.2)]
   go_enter Tryz.func133, Tryz.ntmps133
   go_wp2_with fail
   rw [HR.out]
   go_ret
   exact ⟨rfl, rfl⟩
 ·have q1 : decide ((65 : Int) <= (n : Int)) = false := decide_eq_false (by omega)
  have HR : Hid (R = n) := by unfold Hid; rw [HF.out, if_neg (fun e => h1 e.1)]
  go_enter Tryz.func133, Tryz.ntmps133
  go_wp2_with fail
  rw [HR.out]
  go_ret
  exact ⟨rfl, rfl⟩
def encBt (l : List UInt8) : List Value := l.map (fun b => Value.int .u8 b.toNat)
def BtAt (W : World) (g : Nat) (l : List UInt8) : Prop := ∃ cs : Array Value, W.heap[g]? = some (.cells cs 5 (cs.size, cs.size + 1)) /\ cs.toList.take l.length = encBt l /\ l.length <= cs.size
theorem BtAt.lt {W : World} {g : Nat} {l : List UInt8} (h : BtAt W g l) : g < W.heap.size := by
 obtain ⟨cs, h1, _⟩ := h
 exact (Array.getElem?_eq_some_iff.1 h1).1
theorem BtAt.cell {W : World} {g : Nat} {l : List UInt8} (h : BtAt W g l) {j : Nat} (hj : j < l.length) : W.cell? ⟨g, j, none⟩ = some (.int .u8 (l[j].toNat : Int)) := by
 obtain ⟨cs, h1, h2, h3⟩ := h
 rw [cell_of_row W g j _ _ _ h1]
 have h4 := congrArg (fun x => x[j]?) h2
 simp only [List.getElem?_take, if_pos hj] at h4
 rw [<- Array.getElem?_toList, h4]
 unfold encBt
 rw [List.getElem?_map, List.getElem?_eq_getElem hj]
 rfl
theorem BtAt.frozen {W : World} {g : Nat} {l : List UInt8} (h : BtAt W g l) {j : Nat} (hj : j < l.length) : W.frozen? ⟨g, j, none⟩ = false := by
 obtain ⟨cs, h1, h2, h3⟩ := h
 simp [World.frozen?, h1]
 omega
theorem BtAt.set {W : World} {g : Nat} {l : List UInt8} (h : BtAt W g l) {j : Nat} (hj : j < l.length) (c : UInt8) : BtAt (W.setCell ⟨g, j, none⟩ (.int .u8 c.toNat)) g (l.set j c) := by
 obtain ⟨cs, h1, h2, h3⟩ := h
 refine ⟨cs.setIfInBounds j (.int .u8 c.toNat), ?_, ?_, by simpa using h3⟩
 ·simp [World.setCell, Array.getElem?_modify, h1]
  try omega
 ·rw [List.length_set, Array.toList_setIfInBounds, List.take_set, h2]
  unfold encBt
  rw [List.map_set]
theorem BtAt.fresh (w : World) (s : ByteArray) (n : Nat) : BtAt (w.alloc (.cells (bytesRow s n) 5 ((bytesRow s n).size, (bytesRow s n).size + 1))) w.heap.size s.data.toList := by
 refine ⟨bytesRow s n, heap_alloc_at rfl, ?_, ?_⟩
 ·unfold bytesRow encBt
  rw [Array.toList_append, Array.toList_map, List.take_left' (by simp)]
 ·unfold bytesRow
  simp
theorem BtAt.back {W : World} {g : Nat} {l : List UInt8} (h : BtAt W g l) {n : Nat} (hn : n = l.length) (c : Nat) : (convert 160 9 (.slice (some ⟨g, 0, none⟩) n c)).run Tryz.prog W = .ok (.string (toB l)) W := by
 subst hn
 refine run_convert_bytes_back W _ _ _ _ c l Tryz.underlying160 Tryz.underlying5 Tryz.underlying9 (fun j hj => ?_)
 have e : (⟨g, 0, none⟩ : Addr).add j = ⟨g, j, none⟩ := by simp [Addr.add]; try (intro h; exact h.symm)
 rw [e]
 exact h.cell hj
def foldN (l : List UInt8) (k : Nat) : List UInt8 := foldL (l.take k) ++ l.drop k
theorem foldN_len (l : List UInt8) (k : Nat) : (foldN l k).length = l.length := by unfold foldN foldL; rw [List.length_append, List.length_map, List.length_take, List.length_drop]; omega
theorem foldN_get {l : List UInt8} {k : Nat} (h : k < l.length) : (foldN l k)[k]? = some l[k] := by
 unfold foldN foldL
 rw [List.getElem?_append_right (by rw [List.length_map, List.length_take]; omega), List.length_map, List.length_take, show k - min k l.length = 0 by omega, List.getElem?_drop]
 simp [List.getElem?_eq_getElem h]
theorem foldN_succ {l : List UInt8} {k : Nat} (h : k < l.length) : foldN l (k + 1) = (foldN l k).set k (foldC l[k]) := by
 unfold foldN foldL
 have hlen : (List.map foldC (l.take k)).length = k := by rw [List.length_map, List.length_take]; omega
 rw [List.set_append_right _ _ (by omega), hlen, Nat.sub_self, List.take_succ_eq_append_getElem h, List.map_append, List.append_assoc, List.drop_eq_getElem_cons h]
 rfl
theorem foldN_all (l : List UInt8) : foldN l l.length = foldL l := by unfold foldN; rw [List.take_length, List.drop_length, List.append_nil]
theorem fold_any (s : ByteArray) (w : World) (hs : s.size <= maxLen) : Calls Tryz.prog 100 #[.string s] w fun e w' => e = .returned (.string (toB (foldL s.data.toList))) /\ Below w.heap.size w w' := by
 have hsz : s.data.toList.length = s.size := by rw [Array.length_toList]; rfl
 unfold maxLen at hs
 have hconv := run_bytes_of_string (P := Tryz.prog) w 9 160 5 s Tryz.underlying9 Tryz.underlying160 Tryz.underlying5
 have hF := BtAt.fresh w s (grownCap w s.size 0 5)
 have hB : Below w.heap.size w (w.alloc (.cells (bytesRow s (grownCap w s.size 0 5)) 5 ((bytesRow s (grownCap w s.size 0 5)).size, (bytesRow s (grownCap w s.size 0 5)).size + 1))) := (Below.refl _ _).alloc (Nat.le_refl _) _
 obtain ⟨K, hK⟩ : ∃ K, grownCap w s.size 0 5 = K := ⟨_, rfl⟩
 rw [hK] at hconv hF hB
 obtain ⟨C, hC⟩ : ∃ C, bytesRow s K = C := ⟨_, rfl⟩
 rw [hC] at hconv hF hB
 have HF := Lib.hid hF
 have HB := Lib.hid hB
 have HSZ := Lib.hid hsz
 have s0 : (0 : Int) <= (s.size : Int) := Int.natCast_nonneg _
 clear hF hB hK hC hsz
 go_enter Tryz.func100, Tryz.ntmps100
 go_upto_region 2 with fail
 obtain ⟨W1, hW1⟩ : ∃ W1, (w.alloc (.cells C 5 (C.size, C.size + 1))) = W1 := ⟨_, rfl⟩
 rw [hW1] at HF HB
 try rw [hW1]
 clear hconv
 go_wp2_with fail
 have HF1 : Hid (BtAt W1.drew w.heap.size s.data.toList) := HF.out
 have HB1 : Hid (Below w.heap.size w W1.drew) := HB.out.drew
 clear HF HB
 have hw1 : w.heap.size < W1.drew.heap.size := HF1.out.lt
 obtain ⟨W2, hW2⟩ : ∃ W2, W1.drew = W2 := ⟨_, rfl⟩
 rw [hW2] at HF1 HB1 hw1
 rw [hW2]
 clear hW2 hW1 W1 hw1
 go_loopw [10] (fun i wr => ∃ k : Nat, k <= s.size /\ i = .int .i64 (k : Int) /\ Hid (BtAt wr w.heap.size (foldN s.data.toList k)) /\ Hid (Below w.heap.size w wr)) (fun i _ => s.size - (intOf i).toNat)
 case atStart =>
  refine ⟨0, by omega, rfl, ?_, HB1.out⟩
  have e : foldN s.data.toList 0 = s.data.toList := by unfold foldN foldL; simp
  rw [e]
  exact HF1.out
 case round =>
  obtain ⟨k, hk, rfl, hbt, hbl⟩ := hrel
  have hk0 : (0 : Int) <= (k : Int) := Int.natCast_nonneg _
  by_cases hlt : k < s.size
  ·have hks : (k : Int) < (s.size : Int) := by omega
   have q1 : decide ((k : Int) < (s.size : Int)) = true := decide_eq_true hks
   have hlt' : k < s.data.toList.length := by rw [HSZ.out]; exact hlt
   have hj : k < (foldN s.data.toList k).length := by rw [foldN_len]; exact hlt'
   have hcl := hbt.out.cell hj
   have hgx : (foldN s.data.toList k)[k] = s.data.toList[k] := by
    have h1 := foldN_get hlt'
    rw [List.getElem?_eq_getElem hj] at h1
    exact Option.some.inj h1
   have hst := hbt.out.set hj (foldC s.data.toList[k])
   rw [<- foldN_succ hlt'] at hst
   rw [hgx] at hcl
   have hfz := hbt.out.frozen hj
   have hwl := hbt.out.lt
   obtain ⟨c, hc⟩ : ∃ c, s.data.toList[k] = c := ⟨_, rfl⟩
   rw [hc] at hcl hst
   have HST := Lib.hid hst
   have HSM : Hid (∀ W, Calls Tryz.prog 133 #[.int .u8 c.toNat] W fun e w' => e = .returned (.int .u8 (foldC c).toNat) /\ W = w') := fun W => small_any c W
   have hsb := (foldC c).toNat_lt
   obtain ⟨d, hd⟩ : ∃ d, (foldC c).toNat = d := ⟨_, rfl⟩
   rw [hd] at HST HSM hsb
   have hd256 : (d : Int) < 256 := by omega
   have hd0 : (0 : Int) <= (d : Int) := Int.natCast_nonneg _
   clear hst hc hgx hj hlt' hd hsb
   go_wp2_with (first | (go_at_call 133; refine (HSM.out _).mono ?_; rintro e w1 ⟨rfl, rfl⟩) | fail)
   go_roundw
   case rel =>
    refine ⟨k + 1, by omega, by go_num, HST.out, hbl.out.setCell (p := ⟨w.heap.size, k, none⟩) (Nat.le_refl _) _⟩
   case measure => simp [intOf]; omega
  ·obtain rfl : k = s.size := by omega
   have q1 : decide ((s.size : Int) < (s.size : Int)) = false := decide_eq_false (by omega)
   have e : foldN s.data.toList s.size = foldL s.data.toList := by rw [<- HSZ.out]; exact foldN_all _
   rw [e] at hbt
   have hback := hbt.out.back (n := s.size) (by unfold foldL; rw [List.length_map, HSZ.out]) K
   go_wp2_with fail
   go_ret
   exact ⟨rfl, hbl.out⟩
end
section
open Go.RowKit Go.OpenShut
def nameB (name : ByteArray) (x : RM) : Bool := decide (x.name = name)
def MAt (W : World) (g : Nat) (x : RM) : Prop := W.heap[g]? = some (.cells #[.string x.name, .int .i64 x.v.k, .int .i64 x.v.n, .string x.v.s, .slice x.v.pl x.v.nl x.v.cl, .slice x.v.pm x.v.nm x.v.cm] 32 (0, 0))
theorem MAt.cell {W : World} {g : Nat} {r : RM} (h : MAt W g r) (j : Nat) {u : Value} (hu : (encM r)[j]? = some u) : W.cell? ⟨g, j, none⟩ = some u := by
 unfold MAt at h
 rw [cell_of_row W g j _ _ _ h, <- Array.getElem?_toList]
 exact hu
theorem MAt.cells6 {W : World} {g : Nat} {r : RM} (h : MAt W g r) : W.cell? ⟨g, 0, none⟩ = some (.string r.name) /\ W.cell? ⟨g, 1, none⟩ = some (.int .i64 r.v.k) /\ W.cell? ⟨g, 2, none⟩ = some (.int .i64 r.v.n) /\ W.cell? ⟨g, 3, none⟩ = some (.string r.v.s) /\ W.cell? ⟨g, 4, none⟩ = some (.slice r.v.pl r.v.nl r.v.cl) /\ W.cell? ⟨g, 5, none⟩ = some (.slice r.v.pm r.v.nm r.v.cm) := ⟨h.cell 0 rfl, h.cell 1 rfl, h.cell 2 rfl, h.cell 3 rfl, h.cell 4 rfl, h.cell 5 rfl⟩
theorem MAt.under {W W' : World} {g B : Nat} {r : RM} (h : MAt W g r) (hb : Below B W W') (hg : g < B) : MAt W' g r := (hb.block g hg).trans h
structure DelRel (rms : List RM) (name : ByteArray) (a b : Nat) (cur : List RM) : Prop where
 lt : a < b
 len : cur.length = rms.length
 head : cur.take a = (rms.take b).filter (fun x => !nameB name x)
 tail : cur.drop b = rms.drop b
theorem DelRel.start {rms : List RM} {name : ByteArray} {i : Nat} (h : rms.findIdx? (nameB name) = some i) : DelRel rms name i (i + 1) rms := by
 rw [List.findIdx?_eq_some_iff_getElem] at h
 obtain ⟨h1, h2, h3⟩ := h
 refine ⟨by omega, rfl, ?_, rfl⟩
 rw [List.take_add_one, List.getElem?_eq_getElem h1, List.filter_append]
 have e1 : (rms.take i).filter (fun x => !nameB name x) = rms.take i := by
  rw [List.filter_eq_self]
  intro x hx
  obtain ⟨j, hj⟩ := List.getElem?_of_mem hx
  rw [List.getElem?_take] at hj
  split at hj
  ·have := h3 j (by assumption)
   rw [List.getElem?_eq_getElem (by omega)] at hj
   cases hj
   simpa using this
  ·cases hj
 rw [e1]
 simp [h2]
theorem DelRel.at {rms cur : List RM} {name : ByteArray} {a b : Nat} (h : DelRel rms name a b cur) {x : RM} (hx : rms[b]? = some x) : cur[b]? = some x := by
 have h1 : (cur.drop b)[0]? = (rms.drop b)[0]? := by rw [h.tail]
 simpa [List.getElem?_drop, hx] using h1
theorem DelRel.keep {rms cur : List RM} {name : ByteArray} {a b : Nat} (h : DelRel rms name a b cur) {x : RM} (hx : rms[b]? = some x) (hn : nameB name x = false) : DelRel rms name (a + 1) (b + 1) (cur.set a x) := by
 have hl := h.lt
 have hbl := (List.getElem?_eq_some_iff.1 hx).1
 refine ⟨by omega, by rw [List.length_set, h.len], ?_, ?_⟩
 ·rw [List.take_add_one, List.take_set_of_le (Nat.le_refl _), List.getElem?_set_self (by have := h.len; omega), List.take_add_one, hx, List.filter_append, <- h.head]
  simp [hn]
 ·rw [List.drop_set_of_lt (by omega), <- List.drop_drop (i := 1) (j := b), <- List.drop_drop (i := 1) (j := b), h.tail]
theorem DelRel.done {rms cur : List RM} {name : ByteArray} {a : Nat} (h : DelRel rms name a rms.length cur) : cur.take a = rms.filter (fun x => !nameB name x) := by
 have := h.head
 rwa [List.take_length] at this
end
section
open Go Go.RowKit Go.OpenShut
def letters : List Nat := [105, 73, 115, 108, 116, 119, 110, 112, 122, 98]
theorem TreeOf.head {w : World} {B : Nat} {t : JV} {r : RV} (h : TreeOf w B t r) : t.k = r.k /\ t.n = r.n /\ t.s = r.s := by
 cases h with
 | mk hl el hcl hm em hcn hcm => exact ⟨rfl, rfl, rfl⟩
theorem JV.Ok.at_l {t : JV} (h : t.Ok) {i : Nat} {x : JV} (hx : t.l[i]? = some x) : x.Ok := by
 cases h with
 | mk _ _ _ _ _ cl _ _ => exact cl i x hx
theorem JV.Ok.s_le {t : JV} (h : t.Ok) : t.s.size <= 140737488351232 /\ t.l.length <= 1759218604390 := by
 cases h with
 | mk _ _ hs hl _ _ _ _ => exact ⟨hs, hl⟩
end
section
open Go.RowKit Go.OpenShut
mutual
def countT : JV -> Nat
 | .mk _ _ _ l m => 1 + countL l + countM m
def countL : List JV -> Nat
 | [] => 0
 | t :: l => countT t + countL l
def countM : List (ByteArray × JV) -> Nat
 | [] => 0
 | (_, t) :: m => countT t + countM m
end
theorem countL_take {l : List JV} {j : Nat} {t : JV} (h : l[j]? = some t) : countL (l.take (j + 1)) = countL (l.take j) + countT t := by
 induction l generalizing j with
 | nil => simp at h
 | cons a l ih =>
   cases j with
   | zero =>
     simp at h
     subst h
     simp [countL]
   | succ j =>
     rw [List.getElem?_cons_succ] at h
     rw [List.take_succ_cons, List.take_succ_cons]
     unfold countL
     rw [ih h]
     omega
theorem countM_take {m : List (ByteArray × JV)} {j : Nat} {p : ByteArray × JV} (h : m[j]? = some p) : countM (m.take (j + 1)) = countM (m.take j) + countT p.2 := by
 induction m generalizing j with
 | nil => simp at h
 | cons a m ih =>
   obtain ⟨a, b⟩ := a
   cases j with
   | zero =>
     simp at h
     subst h
     simp [countM]
   | succ j =>
     rw [List.getElem?_cons_succ] at h
     rw [List.take_succ_cons, List.take_succ_cons]
     unfold countM
     rw [ih h]
     omega
def CountRet (w : World) (t : JV) (e : Ending) (w' : World) : Prop := e = .returned (.int .i64 (IntKind.i64.wrap (countT t))) /\ Below w.heap.size w w'
theorem wrap_step (a b c : Int) (h : a + b = c) : wrap64 (IntKind.i64.wrap a + wrap64 b) = IntKind.i64.wrap c := by
 subst h
 rw [IntKind.wrap_i64, IntKind.wrap_i64]
 unfold wrap64
 omega
theorem countT_any (N : Nat) : ∀ (t : JV) (r : RV) (w : World), SizeOf.sizeOf t <= N -> TreeOf w w.heap.size t r -> t.Ok ->
 Calls Tryz.prog 28 #[r.val] w (CountRet w t) := by
 induction N with
 | zero => intro t r w hN; cases t; simp at hN
 | succ N ih =>
   intro t r w hN ht ot
   cases ht with
   | @mk _ l m rs rms hl el hcl hm em hcn hcm =>
   obtain ⟨k, n, s, pl, nl, cl, pm, nm, cm⟩ := r
   cases ot with
   | mk _ _ _ bl bm okl oks okm =>
   dsimp only [RV.val] at *
   have eL := rd_nlen hl
   have eM := rd_nlen hm
   have HT : Hid (∀ (i : Nat) t q, l[i]? = some t -> rs[i]? = some q -> ∀ W, Below w.heap.size w W -> Calls Tryz.prog 28 #[q.val] W (CountRet W t)) :=
    fun i t q h1 h2 W hb => ih t q W (by have := JV.lt_l (k := k) (n := n) (s := s) (m := m) h1; omega) ((hcl i t q h1 h2).under hb hb.size) (okl i t h1)
   have HS : Hid (∀ (i : Nat) p q, m[i]? = some p -> rms[i]? = some q -> ∀ W, Below w.heap.size w W -> Calls Tryz.prog 28 #[q.v.val] W (CountRet W p.2)) :=
    fun i p q h1 h2 W hb => ih p.2 q.v W (by have := JV.lt_m (k := k) (n := n) (s := s) (l := l) h1; omega) ((hcm i p q h1 h2).under hb hb.size) (okm i p h1)
   have HL := Lib.hid hl
   have HM := Lib.hid hm
   have E1 : Hid (l.length = nl /\ rs.length = nl) := ⟨by omega, by omega⟩
   have E2 : Hid (m.length = nm /\ rms.length = nm) := ⟨by omega, by omega⟩
   have hnl : nl <= 1759218604390 := by omega
   have hnm : nm <= 1466015503658 := by omega
   have hA0 : VAt (w.alloc (.cells #[.int .i64 k, .int .i64 n, .string s, .slice pl nl cl, .slice pm nm cm] 25)) w.heap.size ⟨k, n, s, pl, nl, cl, pm, nm, cm⟩ := heap_alloc_at rfl
   have hB0 : Below w.heap.size w (w.alloc (.cells #[.int .i64 k, .int .i64 n, .string s, .slice pl nl cl, .slice pm nm cm] 25)) := (Below.refl _ _).alloc (Nat.le_refl _) _
   clear ih hcl hcn hcm hl hm okl oks okm el em bl bm eL eM hN
   go_enter Tryz.func28, Tryz.ntmps28
   go_upto_region 1 with fail
   obtain ⟨W0, hW0⟩ : ∃ W0, (w.alloc (.cells #[.int .i64 k, .int .i64 n, .string s, .slice pl nl cl, .slice pm nm cm] 25)) = W0 := ⟨_, rfl⟩
   rw [hW0] at hA0 hB0 ⊢
   clear hW0
   have hz := hA0.lt
   have c3 := hA0.cell 3 rfl
   have c4 := hA0.cell 4 rfl
   dsimp only at c3 c4
   clear hA0
   go_wp2_with fail
   go_loopw [3, 11] (fun a i wr => ∃ (g : Int) (j : Nat), j <= nl /\ a = .int .i64 g /\ i = .int .i64 j /\ Hid (g = IntKind.i64.wrap ((1 + countL (l.take j) : Nat) : Int)) /\ Below W0.heap.size W0 wr) (fun _ i _ => nl - (intOf i).toNat)
   case atStart => exact ⟨1, 0, Nat.zero_le _, rfl, rfl, by unfold Hid; simp [countL]; decide, Below.refl _ _⟩
   case round =>
    obtain ⟨g, j, hj, rfl, rfl, hg, hbr⟩ := hrel
    have hbw : Below w.heap.size w wr := hB0.trans (hbr.mono hB0.size)
    by_cases hlt : j < nl
    ·obtain ⟨tx, htx⟩ : ∃ x, l[j]? = some x := ⟨_, List.getElem?_eq_getElem (by have := E1.out; omega)⟩
     obtain ⟨x, hx⟩ : ∃ x, rs[j]? = some x := ⟨_, List.getElem?_eq_getElem (by have := E1.out; omega)⟩
     obtain ⟨b1, o1, rfl, hb1, hc1⟩ := rd_at' (HL.out.below hbw (Nat.le_refl _)) hx
     have f0 := hc1 0 _ rfl
     have f1 := hc1 1 _ rfl
     have f2 := hc1 2 _ rfl
     have f3 := hc1 3 _ rfl
     have f4 := hc1 4 _ rfl
     rw [Nat.add_zero] at f0
     have HC := Lib.hid (HT.out j tx x htx hx)
     have HTX := Lib.hid (countL_take htx)
     have hk0 : (0 : Int) <= (j : Int) := Int.natCast_nonneg _
     have hk1 : (j : Int) < (nl : Int) := by omega
     have HBR := Lib.hid hbr
     have hbx : Below w.heap.size w (wr.alloc (.cells #[.int .i64 x.k, .int .i64 x.n, .string x.s, .slice x.pl x.nl x.cl, .slice x.pm x.nm x.cm] 25)) := hbw.alloc hbw.size _
     have HBX := Lib.hid hbx
     clear hc1 htx hx hbr hbx
     go_wp2_with (go_at_call 28; refine (HC.out _ HBX.out).mono ?_; rintro e w1 ⟨rfl, hb1'⟩)
     go_roundw
     case rel =>
      refine ⟨_, j + 1, by omega, rfl, by go_num, ?_, (HBR.out.alloc HBR.out.size _).trans (hb1'.mono (by have := HBR.out.size; simp; omega))⟩
      unfold Hid
      rw [HTX.out, hg.out]
      exact wrap_step _ _ _ (by omega)
     case measure => simp [intOf]; omega
    ·obtain rfl : j = nl := by omega
     have c4 := bcs hbr hz c4
     have hsz : W0.heap.size <= wr.heap.size := hbr.size
     have hg2 : Hid (g = IntKind.i64.wrap ((1 + countL l : Nat) : Int)) := by
      have h := hg.out
      rw [List.take_of_length_le (by have := E1.out; omega)] at h
      exact h
     clear HT HL E1 hbr hg c3
     obtain ⟨wo, rfl⟩ : ∃ wo : World, wo = wr := ⟨_, rfl⟩
     go_wp2_with fail
     go_loopw [3, 23] (fun a i wr => ∃ (g : Int) (j : Nat), j <= nm /\ a = .int .i64 g /\ i = .int .i64 j /\ Hid (g = IntKind.i64.wrap ((1 + countL l + countM (m.take j) : Nat) : Int)) /\ Below wo.heap.size wo wr) (fun _ i _ => nm - (intOf i).toNat)
     case atStart => exact ⟨g, 0, Nat.zero_le _, rfl, rfl, by unfold Hid; simpa [countM] using hg2.out, Below.refl _ _⟩
     case round =>
      obtain ⟨g, j, hj, rfl, rfl, hg, hbr⟩ := hrel
      have hbw2 : Below w.heap.size w wr := hbw.trans (hbr.mono (by omega))
      by_cases hlt : j < nm
      ·obtain ⟨tx, htx⟩ : ∃ x, m[j]? = some x := ⟨_, List.getElem?_eq_getElem (by have := E2.out; omega)⟩
       obtain ⟨x, hx⟩ : ∃ x, rms[j]? = some x := ⟨_, List.getElem?_eq_getElem (by have := E2.out; omega)⟩
       obtain ⟨b1, o1, rfl, hb1, hc1⟩ := rd_at' (HM.out.below hbw2 (Nat.le_refl _)) hx
       have f0 := hc1 0 _ rfl
       have f1 := hc1 1 _ rfl
       have f2 := hc1 2 _ rfl
       have f3 := hc1 3 _ rfl
       have f4 := hc1 4 _ rfl
       have f5 := hc1 5 _ rfl
       rw [Nat.add_zero] at f0
       have HC := Lib.hid (HS.out j tx x htx hx)
       have HTX := Lib.hid (countM_take htx)
       have hk0 : (0 : Int) <= (j : Int) := Int.natCast_nonneg _
       have hk1 : (j : Int) < (nm : Int) := by omega
       have HBR := Lib.hid hbr
       have hbx : Below w.heap.size w (wr.alloc (.cells #[.string x.name, .int .i64 x.v.k, .int .i64 x.v.n, .string x.v.s, .slice x.v.pl x.v.nl x.v.cl, .slice x.v.pm x.v.nm x.v.cm] 32)) := hbw2.alloc hbw2.size _
       have HBX := Lib.hid hbx
       clear hc1 htx hx hbr hbx
       go_wp2_with (go_at_call 28; refine (HC.out _ HBX.out).mono ?_; rintro e w1 ⟨rfl, hb1'⟩)
       go_roundw
       case rel =>
        refine ⟨_, j + 1, by omega, rfl, by go_num, ?_, (HBR.out.alloc HBR.out.size _).trans (hb1'.mono (by have := HBR.out.size; simp; omega))⟩
        unfold Hid
        rw [HTX.out, hg.out]
        exact wrap_step _ _ _ (by omega)
       case measure => simp [intOf]; omega
      ·obtain rfl : j = nm := by omega
       go_wp2_with fail
       go_ret
       refine ⟨?_, hbw2⟩
       have h := hg.out
       rw [List.take_of_length_le (by have := E2.out; omega)] at h
       show Ending.returned (.int .i64 g) = _
       rw [h]
       unfold countT
       rfl
end
section
open Go Go.RowKit
structure Tok where
 kind : Int
 n : Int
 s : ByteArray
 pos : Nat
def encTok (t : Tok) : List Value := [.int .i64 t.kind, .int .i64 t.n, .string t.s, .int .i64 t.pos]
theorem codecTok : Codec encTok 4 := ⟨fun _ => rfl, fun x u hu => by
 simp only [encTok, List.mem_cons, List.not_mem_nil, or_false] at hu
 rcases hu with rfl | rfl | rfl | rfl <;> rfl, by decide⟩
def okCh (c : UInt8) : Bool := decide (32 <= c.toNat) && decide (c.toNat < 128) && decide (c.toNat ≠ 34) && decide (c.toNat ≠ 92)
def spCh (c : UInt8) : Bool := decide (c.toNat = 32) || decide (c.toNat = 9) || decide (c.toNat = 10) || decide (c.toNat = 13)
def mkCh (c : UInt8) : Bool := decide (c.toNat = 123) || decide (c.toNat = 125) || decide (c.toNat = 91) || decide (c.toNat = 93) || decide (c.toNat = 58) || decide (c.toNat = 44)
def wTrue : ByteArray := ⟨#[116, 114, 117, 101]⟩
def wFalse : ByteArray := ⟨#[102, 97, 108, 115, 101]⟩
def wNull : ByteArray := ⟨#[110, 117, 108, 108]⟩
def partCh (c : UInt8) : Bool := decide (97 <= c.toNat) && decide (c.toNat <= 122) || decide (65 <= c.toNat) && decide (c.toNat <= 90) || decide (48 <= c.toNat) && decide (c.toNat <= 57) || decide (c.toNat = 95)
def wordAt (s : ByteArray) (i : Nat) (w : ByteArray) : Bool := decide ((s.data.toList.drop i).take w.size = w.data.toList) && (decide (i + w.size = s.size) || (decide (i + w.size < s.size) && !partCh s[i + w.size]!))
def cutB (s : ByteArray) (a b : Nat) : ByteArray := ⟨((s.data.toList.drop a).take (b - a)).toArray⟩
def endT (s : ByteArray) : Nat -> Nat -> Nat
 | 0, i => i
 | f + 1, i => if decide (i < s.size) && okCh s[i]! then endT s f (i + 1) else i
inductive Toks (s : ByteArray) : Nat -> List Tok -> Prop
 | done : Toks s s.size []
 | space {i : Nat} {l : List Tok} : i < s.size -> spCh s[i]! = true -> Toks s (i + 1) l -> Toks s i l
 | mark {i : Nat} {l : List Tok} : i < s.size -> mkCh s[i]! = true -> Toks s (i + 1) l -> Toks s i (⟨1, 0, ⟨#[s[i]!]⟩, i⟩ :: l)
 | text {i j : Nat} {l : List Tok} : i < j -> j < s.size -> s[i]!.toNat = 34 -> (∀ k, i < k -> k < j -> okCh s[k]! = true) -> s[j]!.toNat = 34 -> Toks s (j + 1) l -> Toks s i (⟨4, 0, cutB s (i + 1) j, i⟩ :: l)
 | num {i : Nat} {l : List Tok} : i + 1 < s.size -> 49 <= s[i]!.toNat -> s[i]!.toNat <= 57 -> s[i + 1]!.toNat = 125 -> Toks s (i + 1) l -> Toks s i (⟨3, (s[i]!.toNat : Int) - 48, ⟨#[]⟩, i⟩ :: l)
 | word {i : Nat} {w : ByteArray} {l : List Tok} : w = wTrue \/ w = wFalse \/ w = wNull -> i < s.size -> wordAt s i w = true -> Toks s (i + w.size) l -> Toks s i (⟨2, 0, w, i⟩ :: l)
def toksF (s : ByteArray) : Nat -> Nat -> Option (List Tok)
 | 0, _ => none
 | f + 1, i =>
   if i < s.size then
    if spCh s[i]! then toksF s f (i + 1)
    else if mkCh s[i]! then (toksF s f (i + 1)).map (⟨1, 0, ⟨#[s[i]!]⟩, i⟩ :: ·)
    else if s[i]!.toNat = 34 then
     if decide (endT s s.size (i + 1) < s.size) && decide (s[endT s s.size (i + 1)]!.toNat = 34) then (toksF s f (endT s s.size (i + 1) + 1)).map (⟨4, 0, cutB s (i + 1) (endT s s.size (i + 1)), i⟩ :: ·) else none
    else if wordAt s i wTrue then (toksF s f (i + wTrue.size)).map (⟨2, 0, wTrue, i⟩ :: ·)
    else if wordAt s i wFalse then (toksF s f (i + wFalse.size)).map (⟨2, 0, wFalse, i⟩ :: ·)
    else if wordAt s i wNull then (toksF s f (i + wNull.size)).map (⟨2, 0, wNull, i⟩ :: ·)
    else if i + 1 < s.size /\ 49 <= s[i]!.toNat /\ s[i]!.toNat <= 57 /\ s[i + 1]!.toNat = 125 then (toksF s f (i + 1)).map (⟨3, (s[i]!.toNat : Int) - 48, ⟨#[]⟩, i⟩ :: ·)
    else none
   else if i = s.size then some [] else none
theorem endT_ok (s : ByteArray) : ∀ (f i : Nat), i <= endT s f i /\ ∀ k, i <= k -> k < endT s f i -> okCh s[k]! = true
 | 0, i => ⟨Nat.le_refl _, fun k h1 h2 => by unfold endT at h2; omega⟩
 | f + 1, i => by
   unfold endT
   split
   ·rename_i h
    rw [Bool.and_eq_true] at h
    have ih := endT_ok s f (i + 1)
    refine ⟨by omega, fun k h1 h2 => ?_⟩
    by_cases e : k = i
    ·subst e; exact h.2
    ·exact ih.2 k (by omega) h2
   ·exact ⟨Nat.le_refl _, fun k h1 h2 => by omega⟩
theorem toksF_ok (s : ByteArray) : ∀ (f i : Nat) (l : List Tok), toksF s f i = some l -> Toks s i l
 | 0, i, l, h => by simp [toksF] at h
 | f + 1, i, l, h => by
   unfold toksF at h
   split at h
   ·rename_i h0
    split at h
    ·rename_i h1
     exact .space h0 h1 (toksF_ok s f _ l h)
    ·split at h
     ·rename_i h2
      obtain ⟨l', h3, rfl⟩ := Option.map_eq_some_iff.1 h
      exact .mark h0 h2 (toksF_ok s f _ l' h3)
     ·split at h
      ·rename_i h2
       split at h
       ·rename_i h4
        rw [Bool.and_eq_true] at h4
        obtain ⟨l', h3, rfl⟩ := Option.map_eq_some_iff.1 h
        have he := endT_ok s s.size (i + 1)
        exact .text (by omega) (of_decide_eq_true h4.1) h2 (fun k h5 h6 => he.2 k (by omega) h6) (of_decide_eq_true h4.2) (toksF_ok s f _ l' h3)
       ·cases h
      ·split at h
       ·rename_i h2
        obtain ⟨l', h3, rfl⟩ := Option.map_eq_some_iff.1 h
        exact .word (.inl rfl) h0 h2 (toksF_ok s f _ l' h3)
       ·split at h
        ·rename_i h2
         obtain ⟨l', h3, rfl⟩ := Option.map_eq_some_iff.1 h
         exact .word (.inr (.inl rfl)) h0 h2 (toksF_ok s f _ l' h3)
        ·split at h
         ·rename_i h2
          obtain ⟨l', h3, rfl⟩ := Option.map_eq_some_iff.1 h
          exact .word (.inr (.inr rfl)) h0 h2 (toksF_ok s f _ l' h3)
         ·split at h
          ·rename_i h2
           obtain ⟨l', h3, rfl⟩ := Option.map_eq_some_iff.1 h
           exact .num h2.1 h2.2.1 h2.2.2.1 h2.2.2.2 (toksF_ok s f _ l' h3)
          ·cases h
   ·split at h
    ·rename_i h1
     cases h
     subst h1
     exact .done
    ·cases h
end
end Go.Proofs.YtffhccmppdgmfaaGreatDoor
