import Derived.Test.YtffhccmppdgmfaaGreatDoorRows
import Derived.Carry
import Derived.ProofKit
import Derived.SizedLaws
import Derived.WalkKit
import Derived.Deep.Draws
import Derived.Maps.AppendAt
import Derived.Deep.AppendLies
import Derived.RegionTactic
import Derived.OwnWalk
import Derived.Deep.Slices
import Derived.Deep.Fields
import Derived.Deep.Strs
import Derived.ChangeSame
import Derived.Test.YtffhccmppdgmfaaGreatDoorProg
import Derived.WalkSpells
import Derived.Lib.Hide
import Derived.Below
import Derived.Deep.RegionHeld3
import Derived.Deep.DeepCutAuto
import Derived.Deep.CutRange
import Derived.BigQuiet
import Derived.Deep.QuietTactic
import Derived.Outline
import Derived.OpenShut
set_option linter.unusedSimpArgs false
set_option linter.unusedVariables false
set_option maxRecDepth 200000
set_option maxHeartbeats 8000000
namespace Go.Proofs.YtffhccmppdgmfaaGreatDoor
section
open Go.ChangeShapes Go.WideShapes Go.ChangeAt Go.RowKit
section
variable {H : Type} {enc : TypeId × Value -> H} {P : Program}
theorem trodAll_below (hl : laidOutB P = true) {W W' : World} (hb : Below W.heap.size W W') :
 ∀ (ts : List TypeId) (vs : List Value) (ds : List (DataW H)) (ps : List MemPlace), (∀ t ∈ ts, P.readableRec t = true /\ t < P.types.size) -> (∀ x ∈ ps, x.block < W.heap.size) ->
   DataW.TrodAll enc P W 0 (fun _ => true) true ts vs ds ps -> DataW.TrodAll enc P W' 0 (fun b => decide (b < W.heap.size)) true ts vs ds ps
 | [], [], [], ps, _, _, h => h
 | t :: ts, v :: vs, d :: ds, ps, hr, hlt, h => by
   obtain ⟨p, q, h1, h2, rfl⟩ := h
   exact ⟨p, q, Below.trod hl (hr t (by simp)).1 (hr t (by simp)).2 h1 hb (fun x hx => hlt x (List.mem_append_left _ hx)),
    trodAll_below hl hb ts vs ds q (fun x hx => hr x (by simp [hx])) (fun x hx => hlt x (List.mem_append_right _ hx)) h2, rfl⟩
 | [], _ :: _, _, _, _, _, h => by cases h
 | [], [], _ :: _, _, _, _, h => by cases h
 | _ :: _, [], _, _, _, _, h => by cases h
 | _ :: _, _ :: _, [], _, _, _, h => by cases h
theorem trodAll_length {W : World} {base : Nat} {spare : Nat -> Bool} {held : Bool} : ∀ {ts : List TypeId} {vs : List Value} {ds : List (DataW H)} {ps : List MemPlace}, DataW.TrodAll enc P W base spare held ts vs ds ps -> ds.length = ts.length
 | [], [], [], _, _ => rfl
 | t :: ts, v :: vs, d :: ds, ps, h => by
   obtain ⟨p, q, h1, h2, rfl⟩ := h
   simp [trodAll_length h2]
 | [], _ :: _, _, _, h => by cases h
 | [], [], _ :: _, _, h => by cases h
 | _ :: _, [], _, _, h => by cases h
 | _ :: _, _ :: _, [], _, h => by cases h
theorem law_post {fn : Func} {s : ChangeSpec} {tb : TypeId} (hv : s.vars = []) (hs : ∀ ds : List (DataW H), ds.length = fn.params.toList.length -> s.fn H ds = { results := [.lit (.bool true)], args := ds })
 (hres : fn.resultTypes = #[tb]) (hbool : P.underlying tb = some .bool) (hl : laidOutB P = true) (hr : ∀ t ∈ fn.params.toList, P.readableRec t = true /\ t < P.types.size)
 {W W' : World} {args : Array Value} {ds gs : List (DataW H)} {before : List MemPlace} (hW : DataW.Whole enc P fn.params.toList s.vars false W args.toList ds gs before) (hb : Below W.heap.size W W') :
 s.post enc P fn false true false false W args (.bool true) W' := by
 have hW' := hW
 obtain ⟨p, q, hA, hV, rfl, hfz, hnd⟩ := hW
 rw [hv] at hV
 obtain ⟨rfl, rfl⟩ := trodVars_none hV
 have hlt : ∀ x ∈ p, x.block < W.heap.size := fun x hx => hW'.lt x (by simpa using hx)
 have hall := trodAll_below hl hb _ _ _ _ hr hlt hA
 have hfn := hs ds (trodAll_length hA)
 have hfn' : s.fn H (ds ++ []) = { results := [.lit (.bool true)], args := ds } := by rw [List.append_nil]; exact hfn
 unfold ChangeSpec.post
 refine ⟨ds, [], _, [], p, [], hW', ?_, ?_, ?_, hb.frame _, fun h => by cases h⟩
 ·rw [hfn', hres]
  exact trodAll_mk1 (shut_bool hbool true)
 ·rw [hfn']
  exact hall
 ·rw [hfn', hv]
  rfl
end
theorem len3 {α : Type} {l : List α} (h : l.length = 3) : ∃ a b c, l = [a, b, c] := by
 match l, h with
 | [a, b, c], _ => exact ⟨a, b, c, rfl⟩
end
section
open Go Go.RowKit
theorem add_eq (b o j : Nat) : (⟨b, o, none⟩ : Addr).add j = ⟨b, o + j, none⟩ := by
 unfold Addr.add
 split <;> simp_all
theorem bcs {B : Nat} {w w' : World} {b o : Nat} {v : Value} (hb : Below B w w') (hB : b < B) (h : w.cell? ⟨b, o, none⟩ = some v) : w'.cell? ⟨b, o, none⟩ = some v := (hb.cell (p := ⟨b, o, none⟩) hB).trans h
theorem bdn {B : Nat} {w w' : World} (h : Below B w w') (n : Nat) : Below B w (w'.drewN n) := ⟨h.os, h.tape, h.output, h.size, h.block⟩
def cellsOf {α : Type} (enc : α -> List Value) (xs : List α) : List Value := xs.flatMap enc
structure Codec {α : Type} (enc : α -> List Value) (sz : Nat) : Prop where
 len : ∀ x, (enc x).length = sz
 one : ∀ x, ∀ u ∈ enc x, u.oneCell' = true
 pos : 0 < sz
section
variable {α : Type} {enc : α -> List Value} {sz : Nat}
theorem cellsOf_len (C : Codec enc sz) (xs : List α) : (cellsOf enc xs).length = xs.length * sz := by
 induction xs with
 | nil => simp [cellsOf]
 | cons x xs ih => simp only [cellsOf, List.flatMap_cons, List.length_append, C.len, List.length_cons] at ih ⊢; rw [ih, Nat.add_mul]; omega
theorem cellsOf_one (C : Codec enc sz) (xs : List α) : ∀ u ∈ cellsOf enc xs, u.oneCell' = true := by
 intro u hu
 obtain ⟨x, _, hx⟩ := List.mem_flatMap.1 hu
 exact C.one x u hx
theorem cellsOf_append (xs ys : List α) : cellsOf enc (xs ++ ys) = cellsOf enc xs ++ cellsOf enc ys := by simp [cellsOf]
theorem cellsOf_single (x : α) : cellsOf enc [x] = enc x := by simp [cellsOf]
theorem cellsOf_get (C : Codec enc sz) (xs : List α) : ∀ (i : Nat) (x : α), xs[i]? = some x -> ∀ j, j < sz -> (cellsOf enc xs)[i * sz + j]? = (enc x)[j]? := by
 induction xs with
 | nil => intro i x h; simp at h
 | cons y xs ih =>
   intro i x h j hj
   cases i with
   | zero =>
     simp only [List.getElem?_cons_zero, Option.some.injEq] at h
     subst h
     simp only [cellsOf, List.flatMap_cons, Nat.zero_mul, Nat.zero_add]
     exact List.getElem?_append_left (by rw [C.len]; exact hj)
   | succ i =>
     simp only [List.getElem?_cons_succ] at h
     have := ih i x h j hj
     rw [<- this]
     simp only [cellsOf, List.flatMap_cons]
     rw [List.getElem?_append_right (by rw [C.len, Nat.add_mul]; omega), C.len]
     congr 1
     rw [Nat.add_mul]; omega
theorem cellsOf_inv (C : Codec enc sz) (xs : List α) (k : Nat) (u : Value) (h : (cellsOf enc xs)[k]? = some u) : ∃ x, xs[k / sz]? = some x /\ (enc x)[k % sz]? = some u := by
 have hk : k < xs.length * sz := by rw [<- cellsOf_len C]; exact (List.getElem?_eq_some_iff.1 h).1
 have h1 : k / sz < xs.length := (Nat.div_lt_iff_lt_mul C.pos).2 hk
 have h2 : k / sz * sz + k % sz = k := by rw [Nat.mul_comm]; exact Nat.div_add_mod k sz
 refine ⟨xs[k / sz], List.getElem?_eq_getElem h1, ?_⟩
 rw [<- cellsOf_get C xs _ _ (List.getElem?_eq_getElem h1) _ (Nat.mod_lt _ C.pos), h2, h]
def RowAt (w : World) (b o : Nat) (enc : α -> List Value) (sz : Nat) (xs : List α) : Prop :=
 ∀ i x, xs[i]? = some x -> ∀ j u, (enc x)[j]? = some u -> w.cell? ⟨b, o + i * sz + j, none⟩ = some u
def Rd (w : World) (B : Nat) (enc : α -> List Value) (sz : Nat) (v : Value) (xs : List α) : Prop :=
 ∃ (p : Option Addr) (cap : Nat), v = .slice p xs.length cap /\ xs.length <= cap /\ cap <= maxLen /\ (p = none -> cap = 0) /\
   ∀ a, p = some a -> 0 < xs.length -> ∃ b o, a = ⟨b, o, none⟩ /\ b < B /\ RowAt w b o enc sz xs
def Own (w : World) (base : Nat) (e : TypeId) (enc : α -> List Value) (sz : Nat) (v : Value) (xs : List α) : Prop :=
 w.ownsRow base e sz v xs.length (cellsOf enc xs)
theorem RowAt.below {w w' : World} {B b o : Nat} {xs : List α} (h : RowAt w b o enc sz xs) (hb : Below B w w') (hB : b < B) : RowAt w' b o enc sz xs :=
 fun i x hx j u hu => (hb.cell (p := ⟨b, _, none⟩) hB).trans (h i x hx j u hu)
theorem Rd.below {w w' : World} {B B' : Nat} {v : Value} {xs : List α} (h : Rd w B enc sz v xs) (hb : Below B w w') (hB : B <= B') : Rd w' B' enc sz v xs := by
 obtain ⟨p, cap, h1, h2, h3, h4, h5⟩ := h
 refine ⟨p, cap, h1, h2, h3, h4, fun a ha h0 => ?_⟩
 obtain ⟨b, o, e, hb', hr⟩ := h5 a ha h0
 exact ⟨b, o, e, by omega, hr.below hb hb'⟩
theorem Rd.drewN {w : World} {B : Nat} {v : Value} {xs : List α} (h : Rd w B enc sz v xs) (n : Nat) : Rd (w.drewN n) B enc sz v xs := h
theorem Rd.nil (w : World) (B : Nat) : Rd w B enc sz (.slice none 0 0) ([] : List α) := ⟨none, 0, rfl, Nat.le_refl _, Nat.zero_le _, fun _ => rfl, fun a h _ => by cases h⟩
theorem Rd.mono {w : World} {B B' : Nat} {v : Value} {xs : List α} (h : Rd w B enc sz v xs) (hB : B <= B') : Rd w B' enc sz v xs := by
 obtain ⟨p, cap, h1, h2, h3, h4, h5⟩ := h
 refine ⟨p, cap, h1, h2, h3, h4, fun a ha h0 => ?_⟩
 obtain ⟨b, o, e, hb', hr⟩ := h5 a ha h0
 exact ⟨b, o, e, by omega, hr⟩
theorem Own.nil (w : World) (base : Nat) (e : TypeId) : Own w base e enc sz (.slice none 0 0) ([] : List α) := World.ownsRow_nil w base e sz
theorem Own.lt {w : World} {base : Nat} {e : TypeId} {v : Value} {xs : List α} (h : Own w base e enc sz v xs) : ∀ k, v.ownBlock = some k -> base <= k /\ k < w.heap.size := World.ownsRow.lt h
theorem Own.rd (C : Codec enc sz) {w : World} {base : Nat} {e : TypeId} {v : Value} {xs : List α} (h : Own w base e enc sz v xs) : Rd w w.heap.size enc sz v xs := by
 have hlt := h.lt
 obtain ⟨hl, h⟩ := h
 rcases h with ⟨rfl, hn⟩ | ⟨g, cap, cur, rfl, hg, hh, hnc, hcm, hcs, ht⟩
 ·have : xs = [] := List.eq_nil_of_length_eq_zero hn
  subst this
  exact Rd.nil w _
 ·refine ⟨_, cap, rfl, hnc, hcm, (fun e => by cases e), fun a ha _ => ?_⟩
  cases ha
  refine ⟨g, 0, rfl, (hlt g rfl).2, fun i x hx j u hu => ?_⟩
  have hj : j < sz := by rw [<- C.len x]; exact (List.getElem?_eq_some_iff.1 hu).1
  have h1 := cellsOf_get C xs i x hx j hj
  have h2 : w.cell? ((⟨g, 0, none⟩ : Addr).add (i * sz + j)) = some u :=
   World.ownsRow.cells (w := w) (base := base) (e := e) (size := sz) (n := xs.length) (xs := cellsOf enc xs) ⟨hl, .inr ⟨g, cap, cur, rfl, hg, hh, hnc, hcm, hcs, ht⟩⟩ rfl _ u (h1.trans hu)
  rw [add_eq] at h2
  simpa [Nat.add_assoc] using h2
theorem Own.below {w w' : World} {base B : Nat} {e : TypeId} {v : Value} {xs : List α} (h : Own w base e enc sz v xs) (hb : Below B w w') (hB : w.heap.size <= B) : Own w' base e enc sz v xs := by
 have hlt := h.lt
 obtain ⟨hl, h⟩ := h
 refine ⟨hl, ?_⟩
 rcases h with h | ⟨g, cap, cur, rfl, hg, hh, r⟩
 ·exact .inl h
 ·exact .inr ⟨g, cap, cur, rfl, hg, (hb.block g (by have := (hlt g rfl).2; omega)).trans hh, r⟩
theorem Own.kept {w w' : World} {base : Nat} {e : TypeId} {v : Value} {xs : List α} {row : Option Nat} (h : Own w base e enc sz v xs) (hg : w.grownBy w' row) (hne : v.ownBlock = none \/ v.ownBlock ≠ row) : Own w' base e enc sz v xs := World.ownsRow.kept h hg hne
theorem Own.alloc {w : World} {base : Nat} {e : TypeId} {v : Value} {xs : List α} (h : Own w base e enc sz v xs) (o : Obj) : Own (w.alloc o) base e enc sz v xs := World.ownsRow.alloc h o
theorem Own.mono {w : World} {base base' : Nat} {e : TypeId} {v : Value} {xs : List α} (h : Own w base e enc sz v xs) (hb : base' <= base) : Own w base' e enc sz v xs := by
 obtain ⟨hl, h⟩ := h
 refine ⟨hl, ?_⟩
 rcases h with h | ⟨g, cap, cur, rfl, hg, r⟩
 ·exact .inl h
 ·exact .inr ⟨g, cap, cur, rfl, by omega, r⟩
theorem Own.len {w : World} {base : Nat} {e : TypeId} {v : Value} {xs : List α} (h : Own w base e enc sz v xs) : ∃ p cap, v = .slice p xs.length cap /\ xs.length <= cap /\ cap <= maxLen := by
 obtain ⟨_, h⟩ := h
 rcases h with ⟨rfl, hn⟩ | ⟨g, cap, cur, rfl, hg, hh, hnc, hcm, _⟩
 ·exact ⟨none, 0, by rw [hn], by omega, Nat.zero_le _⟩
 ·exact ⟨_, cap, rfl, hnc, hcm⟩
theorem RowAt.news {w : World} {b o : Nat} {xs : List α} (C : Codec enc sz) (h : RowAt w b o enc sz xs) : ∀ j u, (cellsOf enc xs)[j]? = some u -> w.cell? ((⟨b, o, none⟩ : Addr).add j) = some u := by
 intro j u hu
 obtain ⟨x, hx, hj⟩ := cellsOf_inv C xs j u hu
 have := h _ x hx _ u hj
 rw [Nat.add_assoc, show j / sz * sz + j % sz = j from by rw [Nat.mul_comm]; exact Nat.div_add_mod j sz] at this
 rw [add_eq]
 exact this
theorem RowAt.drop {w : World} {b o : Nat} {xs : List α} (h : RowAt w b o enc sz xs) (k : Nat) : RowAt w b (o + k * sz) enc sz (xs.drop k) := by
 intro i x hx j u hu
 rw [List.getElem?_drop] at hx
 have := h _ x hx j u hu
 rw [Nat.add_mul] at this
 rw [Nat.add_assoc o]
 exact this
theorem RowAt.take {w : World} {b o : Nat} {xs : List α} (h : RowAt w b o enc sz xs) (k : Nat) : RowAt w b o enc sz (xs.take k) := by
 intro i x hx j u hu
 rw [List.getElem?_take] at hx
 split at hx
 ·exact h i x hx j u hu
 ·cases hx
theorem Rd.sliced {w : World} {B : Nat} {a : Option Addr} {n cap : Nat} {xs : List α} (h : Rd w B enc sz (.slice a n cap) xs) (l : Nat) (hl : l <= n) : Rd w B enc sz (sliced a l n cap sz) (xs.drop l) := by
 obtain ⟨p, c, hv, h1, h2, h3, h4⟩ := h
 simp only [Value.slice.injEq] at hv
 obtain ⟨rfl, rfl, rfl⟩ := hv
 refine ⟨if cap = l then a else a.map (·.add (l * sz)), cap - l, by simp [Go.sliced, List.length_drop], by simp only [List.length_drop]; omega, by omega, fun hn => ?_, fun ad ha h0 => ?_⟩
 ·have hp : a = none := by
   split at hn
   ·exact hn
   ·simpa using hn
  have := h3 hp
  omega
 ·split at ha
  ·rename_i e
   rw [List.length_drop] at h0
   obtain ⟨b, o, rfl, hb, hr⟩ := h4 ad ha (by omega)
   refine ⟨b, o, rfl, hb, fun i x hx j u hu => ?_⟩
   have := (List.getElem?_eq_some_iff.1 hx).1
   simp only [List.length_drop] at this
   omega
  ·cases a with
   | none => simp at ha
   | some a' =>
     rw [List.length_drop] at h0
     obtain ⟨b, o, rfl, hb, hr⟩ := h4 a' rfl (by omega)
     simp only [Option.map_some, Option.some.injEq, add_eq] at ha
     exact ⟨b, o + l * sz, ha.symm, hb, hr.drop l⟩
theorem slice_from {P : Program} {t e : TypeId} {i : TypeInfo} (ht : P.underlying t = some (.slice e)) (hi : P.info? e = some i) (hsz : i.size = sz) {w : World} {B : Nat} {a : Option Addr} {n cap : Nat} {xs : List α} (h : Rd w B enc sz (.slice a n cap) xs) (l : Nat) (hl : l <= n) :
 ∃ v, (∀ W, (Instr.sliceAt t (.slice a n cap) (some (.int .i64 l)) none none).run P W = .ok v W) /\ Rd w B enc sz v (xs.drop l) := by
 refine ⟨_, fun W => ?_, h.sliced l hl⟩
 have he : P.elem t = e := by simp [Program.elem, ht]
 have ht' : P.underlying t = some (.slice (P.elem t)) := by rw [he]; exact ht
 rw [run_sliceAt_slice _ _ _ _ _ _ ht', run_slice_l W t a n cap ht' .i64 l (by omega) (by omega), he]
 simp [sizeOf, typeInfo, hi, hsz, Result.andThen]
end
def SlT (P : Program) (t e : TypeId) (sz bytes : Nat) : Prop := P.underlying t = some (.slice e) /\ ∃ i z, P.info? e = some i /\ i.zero = some z /\ i.size = sz /\ i.bytes = bytes /\ z.cells.size = sz
theorem SlT.mk {P : Program} {t e : TypeId} {sz bytes : Nat} {z : Value} (ht : P.underlying t = some (.slice e)) (hi : (P.info? e).map (fun i => (i.zero, i.size, i.bytes)) = some (some z, sz, bytes)) (hz : z.cells.size = sz) : SlT P t e sz bytes := by
 obtain ⟨i, h1, h2, h3, h4⟩ := info_parts hi
 exact ⟨ht, i, z, h1, h2, h3, h4, hz⟩
theorem heap_alloc_at {w : World} {o : Obj} {g : Nat} (h : g = w.heap.size) : (w.alloc o).heap[g]? = some o := by subst h; exact heap_alloc_new w o
theorem heap_alloc_lt {w : World} {o o' : Obj} {g : Nat} (h : g < w.heap.size) (h' : w.heap[g]? = some o') : (w.alloc o).heap[g]? = some o' := (Below.heap_alloc w o g h).trans h'
section
variable {P : Program} {α : Type} {enc : α -> List Value} {sz bytes : Nat} {t e : TypeId}
theorem Rd.block {w : World} {B g : Nat} {te : TypeId} {xs : List α} {cs : Array Value} (C : Codec enc sz) (h : w.heap[g]? = some (.cells cs te (0, 0))) (hc : cs.toList = cellsOf enc xs) (hg : g < B) (hm : xs.length <= maxLen) : Rd w B enc sz (.slice (some ⟨g, 0, none⟩) xs.length xs.length) xs := by
 refine ⟨_, _, rfl, Nat.le_refl _, hm, (fun h => by cases h), fun a ha _ => ?_⟩
 cases ha
 refine ⟨g, 0, rfl, hg, fun i x hx j u hu => ?_⟩
 have hj : j < sz := by rw [<- C.len x]; exact (List.getElem?_eq_some_iff.1 hu).1
 have h1 := cellsOf_get C xs i x hx j hj
 rw [cell_of_row w g _ cs te (0, 0) h, Nat.zero_add, <- Array.getElem?_toList, hc, h1, hu]
theorem Rd.one {w : World} {B g : Nat} {te : TypeId} {x : α} {cs : Array Value} (C : Codec enc sz) (h : w.heap[g]? = some (.cells cs te (0, 0))) (hc : cs.toList = enc x) (hg : g < B) : Rd w B enc sz (.slice (some ⟨g, 0, none⟩) 1 1) [x] :=
 Rd.block (xs := [x]) C h (by rw [cellsOf_single]; exact hc) hg (show 1 <= maxLen by decide)
theorem Own.made {w : World} {base : Nat} (h : base <= w.heap.size) : Own (w.alloc (.cells #[] e)) base e enc sz (.slice (some ⟨w.heap.size, 0, none⟩) 0 0) ([] : List α) :=
 World.ownsRow_made (base := base) (e := e) (size := sz) w #[] 0 h (Nat.zero_le _) (by simp)
theorem Own.block {w : World} {base g : Nat} {xs : List α} {cs : Array Value} {n : Nat} (C : Codec enc sz) (h : w.heap[g]? = some (.cells cs e (0, 0))) (hc : cs.toList = cellsOf enc xs) (hn : n = xs.length) (hg : base <= g) (hm : xs.length <= maxLen) : Own w base e enc sz (.slice (some ⟨g, 0, none⟩) n n) xs := by
 subst hn
 refine ⟨cellsOf_len C xs, .inr ⟨g, xs.length, cs, rfl, hg, h, Nat.le_refl _, hm, ?_, ?_⟩⟩
 ·rw [<- Array.length_toList, hc, cellsOf_len C]
 ·rw [hc, <- cellsOf_len C, List.take_length]
theorem run_append_rd (S : SlT P t e sz bytes) (C : Codec enc sz) (w : World) (ty : TypeId) {base B : Nat} {v u : Value} {xs ys : List α} (hown : Own w base e enc sz v xs) (hr : Rd w B enc sz u ys)
 (h63 : xs.length + ys.length <= maxLen) (hbytes : (xs.length + ys.length) * bytes <= 140737488355328) (hbase : base <= w.heap.size) :
 ∃ v' w', (Builtin.append_ #[t, t] ty #[v, u]).run P w = .ok v' w' /\ Own w' base e enc sz v' (xs ++ ys) /\ w.grownBy w' v.ownBlock /\ (v'.ownBlock = v.ownBlock \/ v'.ownBlock = some w.heap.size) := by
 obtain ⟨ht, i, z, hi, hz, hs1, hs2, hzs⟩ := S
 obtain ⟨p, c, rfl, hc1, hc2, hc3, hp⟩ := hr
 have hO : w.ownsRow base e sz v xs.length (cellsOf enc xs) := hown
 rcases p with _ | a
 ·have : ys = [] := List.eq_nil_of_length_eq_zero (by have := hc3 rfl; omega)
  subst this
  refine ⟨v, w, ?_, by rw [List.append_nil]; exact hown, World.grownBy.refl w _, .inl rfl⟩
  rcases hO.2 with ⟨rfl, hn⟩ | ⟨g, cap, cur, rfl, _, _, hnc, _⟩
  ·simp [Builtin.append_, run_underlying ht, sizeOf, typeInfo, hi, Builtin.lenOf, Builtin.firstCells]
  ·simp [Builtin.append_, run_underlying ht, sizeOf, typeInfo, hi, Builtin.lenOf, Builtin.firstCells, hnc, storeCells]
 ·have hnews : ∀ j u, (cellsOf enc ys)[j]? = some u -> w.cell? (a.add j) = some u := by
   intro j u hu
   by_cases h0 : 0 < ys.length
   ·obtain ⟨b, o, rfl, hb, hrow⟩ := hp a rfl h0
    exact hrow.news C j u hu
   ·have : ys = [] := List.eq_nil_of_length_eq_zero (by omega)
    subst this
    simp [cellsOf] at hu
  obtain ⟨v', w', hrun, h2, h3, _, h5⟩ := run_append_own_at (P := P) w base t ty e i z sz bytes ht hi hz hs1 hs2 hzs C.pos v xs.length (cellsOf enc xs) hO a ys.length c (cellsOf enc ys) (cellsOf_len C ys) hnews (cellsOf_one C ys) h63 hbytes hbase
  refine ⟨v', w', hrun, ?_, h3, h5⟩
  unfold Own
  rw [cellsOf_append, List.length_append]
  exact h2
theorem wp_append_rd {o : Oper} {a : Act} {K : Act -> World -> Prop} {Q : Exit -> Act -> World -> Prop} (S : SlT P t e sz bytes) (C : Codec enc sz) (w : World) (s x : Operand)
 (ho : o.op = .call { callee := .builtin .append, args := #[s, x], argTypes := #[t, t] }) {base B : Nat} {v u : Value} {xs ys : List α} (hs : a.eval s = v) (hx : a.eval x = u) (hown : Own w base e enc sz v xs) (hr : Rd w B enc sz u ys)
 (h63 : xs.length + ys.length <= maxLen) (hbytes : (xs.length + ys.length) * bytes <= 140737488355328) (hbase : base <= w.heap.size)
 (h : ∀ v' w', Own w' base e enc sz v' (xs ++ ys) -> w.grownBy w' v.ownBlock -> (v'.ownBlock = v.ownBlock \/ v'.ownBlock = some w.heap.size) -> K (a.put o.dst v') w') : o.wp P a w K Q := by
 obtain ⟨v', w', hrun, h2, h3, h4⟩ := run_append_rd S C w o.type hown hr h63 hbytes hbase
 unfold Oper.wp execOp
 simp only [ho, resolve, invoke, builtin, Sem.run_bind, Sem.run_pure, Result.andThen_ok, List.map_toArray, List.map_cons, List.map_nil, hs, hx, hrun]
 exact h v' w' h2 h3 h4
theorem wpList_append_rd {ops : Array Oper} {rest : List Oper} {o : Oper} {a : Act} {Q : Exit -> Act -> World -> Prop} (S : SlT P t e sz bytes) (C : Codec enc sz) (w : World) (hgd : o.guard = none) (s x : Operand)
 (ho : o.op = .call { callee := .builtin .append, args := #[s, x], argTypes := #[t, t] }) {base B : Nat} {v u : Value} {xs ys : List α} (hs : a.eval s = v) (hx : a.eval x = u) (hown : Own w base e enc sz v xs) (hr : Rd w B enc sz u ys)
 (h63 : xs.length + ys.length <= maxLen) (hbytes : (xs.length + ys.length) * bytes <= 140737488355328) (hbase : base <= w.heap.size)
 (h : ∀ v' w', Own w' base e enc sz v' (xs ++ ys) -> w.grownBy w' v.ownBlock -> (v'.ownBlock = v.ownBlock \/ v'.ownBlock = some w.heap.size) -> wpList P ops Q rest (a.put o.dst v') w') : wpList P ops Q (o :: rest) a w :=
 wpList_plain hgd fun _ hK => wp_append_rd S C w s x ho hs hx hown hr h63 hbytes hbase fun v' w' h2 h3 h4 => hK _ _ (h v' w' h2 h3 h4)
theorem step_append_rd {ops : Array Oper} {o : Oper} {a : Act} {K : Act -> World -> Prop} {Q : Exit -> Act -> World -> Prop} {E : Prop} (S : SlT P t e sz bytes) (C : Codec enc sz) (w : World) (hgd : o.guard = none) (s x : Operand)
 (ho : o.op = .call { callee := .builtin .append, args := #[s, x], argTypes := #[t, t] }) {base B : Nat} {v u : Value} {xs ys : List α} (hs : a.eval s = v) (hx : a.eval x = u) (hown : Own w base e enc sz v xs) (hr : Rd w B enc sz u ys)
 (h63 : xs.length + ys.length <= maxLen) (hbytes : (xs.length + ys.length) * bytes <= 140737488355328) (hbase : base <= w.heap.size)
 (h : ∀ v' w', Own w' base e enc sz v' (xs ++ ys) -> w.grownBy w' v.ownBlock -> (v'.ownBlock = v.ownBlock \/ v'.ownBlock = some w.heap.size) -> K (a.put o.dst v') w') :
 if Region.wanted o (yielded ops a.tmps) = true then Oper.wp P o a w K Q else E := by
 have hw : Region.wanted o (yielded ops a.tmps) = true := by simp [Region.wanted, hgd]
 rw [if_pos hw]
 exact wp_append_rd S C w s x ho hs hx hown hr h63 hbytes hbase h
theorem Below.appended {base : Nat} {w w' w0 : World} {v : Value} {xs : List α} (hb : Below base w0 w) (hg : w.grownBy w' v.ownBlock) (hown : Own w base e enc sz v xs) (hbase : base <= w.heap.size) : Below base w0 w' :=
 hb.grown hg hbase (fun k e => (hown.lt k e).1)
end
section
variable {P : Program} {α : Type} {enc : α -> List Value} {sz bytes : Nat} {t e : TypeId}
theorem Own.at (C : Codec enc sz) {w : World} {base : Nat} {p : Option Addr} {n cap : Nat} {xs : List α} (h : Own w base e enc sz (.slice p n cap) xs) {k : Nat} {x : α} (hx : xs[k]? = some x) :
 ∃ g, p = some ⟨g, 0, none⟩ /\ n = xs.length /\ base <= g /\ g < w.heap.size /\ (∀ j u, (enc x)[j]? = some u -> w.cell? ⟨g, k * sz + j, none⟩ = some u) /\ ∀ j, w.frozen? ⟨g, j, none⟩ = false := by
 have hlt := h.lt
 have hk := (List.getElem?_eq_some_iff.1 hx).1
 have h' := h
 obtain ⟨hl, h0⟩ := h
 rcases h0 with ⟨hv, hn⟩ | ⟨g, cap', cur, hv, hg, hh, hnc, hcm, hcs, ht⟩
 ·omega
 ·simp only [Value.slice.injEq] at hv
  obtain ⟨rfl, rfl, rfl⟩ := hv
  refine ⟨g, rfl, rfl, hg, (hlt g rfl).2, fun j u hu => ?_, fun j => World.ownsRow.frozenAt h' j⟩
  have hj : j < sz := by rw [<- C.len x]; exact (List.getElem?_eq_some_iff.1 hu).1
  have h1 := cellsOf_get C xs k x hx j hj
  rw [hu] at h1
  have hb : k * sz + j < xs.length * sz := by
   have := (List.getElem?_eq_some_iff.1 h1).1
   rw [cellsOf_len C] at this
   exact this
  rw [World.ownsRow.cellAt h' _ hb, h1]
theorem cellsOf_set (C : Codec enc sz) : ∀ (xs : List α) (k j : Nat) (x y : α) (u : Value), xs[k]? = some x -> j < sz -> (enc x).set j u = enc y -> (cellsOf enc xs).set (k * sz + j) u = cellsOf enc (xs.set k y)
 | [], k, j, x, y, u, h, _, _ => by simp at h
 | a :: xs, 0, j, x, y, u, h, hj, hy => by
   simp only [List.getElem?_cons_zero, Option.some.injEq] at h
   subst h
   simp only [cellsOf, List.flatMap_cons, Nat.zero_mul, Nat.zero_add, List.set_cons_zero]
   rw [List.set_append_left _ _ (by rw [C.len]; exact hj), hy]
 | a :: xs, k + 1, j, x, y, u, h, hj, hy => by
   have ih := cellsOf_set C xs k j x y u (by simpa using h) hj hy
   simp only [cellsOf, List.flatMap_cons, List.set_cons_succ] at ih ⊢
   rw [List.set_append_right _ _ (by rw [C.len, Nat.add_mul]; omega), C.len, <- ih]
   congr 2
   rw [Nat.add_mul]; omega
theorem Own.storedAt (C : Codec enc sz) {w : World} {base : Nat} {g n cap : Nat} {xs : List α} (h : Own w base e enc sz (.slice (some ⟨g, 0, none⟩) n cap) xs) {k j : Nat} {x y : α} {u : Value} (hx : xs[k]? = some x) (hj : j < sz) (hy : (enc x).set j u = enc y) :
 Own (w.setCell ⟨g, k * sz + j, none⟩ u) base e enc sz (.slice (some ⟨g, 0, none⟩) n cap) (xs.set k y) /\ w.grownBy (w.setCell ⟨g, k * sz + j, none⟩ u) (some g) := by
 have hn : n = xs.length := by
  obtain ⟨_, _, hn, _⟩ := Own.at C h hx
  exact hn
 subst hn
 have h1 := World.ownsRow.stored h (k * sz + j) u
 rw [cellsOf_set C xs k j x y u hx hj hy] at h1
 unfold Own
 rw [List.length_set]
 exact h1
theorem Rd.take {w : World} {B : Nat} {a : Option Addr} {n cap : Nat} {xs : List α} (h : Rd w B enc sz (.slice a n cap) xs) (m : Nat) (hm : m <= n) : Rd w B enc sz (.slice a m cap) (xs.take m) := by
 obtain ⟨p, c, hv, h1, h2, h3, h4⟩ := h
 simp only [Value.slice.injEq] at hv
 obtain ⟨rfl, rfl, rfl⟩ := hv
 refine ⟨a, cap, by rw [List.length_take, Nat.min_eq_left hm], by rw [List.length_take]; omega, h2, h3, fun ad ha h0 => ?_⟩
 rw [List.length_take] at h0
 obtain ⟨b, o, e1, hb, hr⟩ := h4 ad ha (by omega)
 exact ⟨b, o, e1, hb, hr.take m⟩
theorem slice_l (S : SlT P t e sz bytes) {w : World} {B : Nat} {a : Option Addr} {n cap : Nat} {xs : List α} (h : Rd w B enc sz (.slice a n cap) xs) (l : Nat) (hl : l <= n) :
 ∃ v, (∀ W, (Instr.sliceAt t (.slice a n cap) (some (.int .i64 l)) none none).run P W = .ok v W) /\ Rd w B enc sz v (xs.drop l) := by
 obtain ⟨ht, i, z, hi, hz, hs1, hs2, hzs⟩ := S
 exact slice_from ht hi hs1 h l hl
end
end
section
open Go Go.RowKit Go.ChangeShapes Go.WideShapes Go.Deep
theorem cell_some {w : World} {a : Addr} {v : Value} (h : w.cell? a = some v) : a.spot = none /\ a.block < w.heap.size := by
 unfold World.cell? at h
 split at h
 ·rename_i c _ _ hb
  refine ⟨?_, (Array.getElem?_eq_some_iff.1 hb).1⟩
  split at h
  ·cases h
  ·rename_i hs; simpa using hs
 ·cases h
theorem list_of {α : Type} {C : Nat -> α -> Prop} : ∀ n : Nat, (∀ i, i < n -> ∃ e : α, C i e) -> ∃ l : List α, l.length = n /\ ∀ i e, l[i]? = some e -> C i e
 | 0, _ => ⟨[], rfl, fun i e h => by simp at h⟩
 | n + 1, h => by
   obtain ⟨l, h1, h2⟩ := list_of n (fun i hi => h i (by omega))
   obtain ⟨e, he⟩ := h n (by omega)
   refine ⟨l ++ [e], by simp [h1], fun i x hx => ?_⟩
   by_cases hi : i < n
   ·rw [List.getElem?_append_left (by omega)] at hx
    exact h2 i x hx
   ·have : i = n := by
     have := (List.getElem?_eq_some_iff.1 hx).1
     simp at this; omega
    subst this
    rw [<- h1, List.getElem?_append_right (Nat.le_refl _)] at hx
    simp at hx
    subst hx
    exact he
section
variable {H : Type} {E : TypeId × Value -> H} {P : Program} {w : World} {base : Nat} {spare : Nat -> Bool} {held : Bool} {α : Type} {enc : α -> List Value} {sz : Nat}
theorem open_list {t e : TypeId} (ht : P.underlying t = some (.slice e)) (hC : P.cellsOf e = sz) (C : Codec enc sz) {Q : α -> DataW H -> Prop} {fuel : Nat} {cs : List Value} {x : DataW H × List MemPlace}
 (h : DataW.trod E P w base spare held fuel t cs = some x)
 (helem : ∀ n, n < fuel -> ∀ cs y, DataW.trod E P w base spare held n e cs = some y -> ∃ a : α, cs = enc a /\ Q a y.1) :
 ∃ p n cap, ∃ xs : List α, cs = [.slice p n cap] /\ Rd w w.heap.size enc sz (.slice p n cap) xs /\
   ((xs = [] /\ x.1 = .nil) \/ ∃ es sp, x.1 = .slice es sp /\ es.length = xs.length /\ ∀ (i : Nat) (a : α), xs[i]? = some a -> ∃ d, es[i]? = some d /\ Q a d) := by
 rcases DataW.trod_slice ht h with ⟨rfl, rfl⟩ | ⟨a, len, cap, elems, rest, n, rfl, rfl, rfl, hb, hl, hm, hlen, hel, _, _⟩
 ·exact ⟨none, 0, 0, [], rfl, Rd.nil _ _, .inl ⟨rfl, rfl⟩⟩
 ·have h1 : ∀ i, i < len -> ∃ x : α, w.cells? base (a.add (i * sz)) sz = some (enc x) /\ ∃ d, elems[i]? = some d /\ Q x d.1 := by
   intro i hi
   have h2 := hel i hi
   rw [hC] at h2
   obtain ⟨y, hy⟩ : ∃ y, elems[i]? = some y := ⟨_, List.getElem?_eq_getElem (by omega)⟩
   rw [hy] at h2
   cases hc : w.cells? base (a.add (i * sz)) sz with
   | none => rw [hc] at h2; cases h2
   | some cs' =>
     rw [hc] at h2
     obtain ⟨x, rfl, hq⟩ := helem n (Nat.lt_succ_self _) cs' y h2
     exact ⟨x, rfl, y, hy, hq⟩
  obtain ⟨xs, hxl, hxs⟩ := list_of len h1
  have hpos := C.pos
  refine ⟨some a, len, cap, xs, rfl, ⟨some a, cap, by rw [hxl], by omega, hm, by simp, fun a' ha h0 => ?_⟩, .inr ⟨elems.map (·.1), rest.map (·.1), rfl, by simp [hxl, hlen], fun i x hx => ?_⟩⟩
  ·cases ha
   have hcell : ∀ i x, xs[i]? = some x -> ∀ j, j < sz -> w.cell? ((a.add (i * sz)).add j) = (enc x)[j]? := fun i x hx => (World.cells?_some (hxs i x hx).1).2.2
   obtain ⟨x0, hx0⟩ : ∃ x0, xs[0]? = some x0 := ⟨_, List.getElem?_eq_getElem h0⟩
   have h00 := hcell 0 x0 hx0 0 hpos
   rw [List.getElem?_eq_getElem (by rw [C.len]; exact hpos)] at h00
   obtain ⟨hs, hbl⟩ := cell_some h00
   obtain ⟨b, o, sp⟩ := a
   have e0 : ((⟨b, o, sp⟩ : Addr).add (0 * sz)).add 0 = ⟨b, o, sp⟩ := by simp [Addr.add]
   rw [e0] at hs hbl
   dsimp only at hs hbl
   subst hs
   refine ⟨b, o, rfl, hbl, fun i x hx j u hu => ?_⟩
   have hj : j < sz := by rw [<- C.len x]; exact (List.getElem?_eq_some_iff.1 hu).1
   have := hcell i x hx j hj
   rw [add_eq, add_eq, hu] at this
   exact this
  ·obtain ⟨_, d, hd, hq⟩ := hxs i x hx
   exact ⟨d.1, by rw [List.getElem?_map, hd]; rfl, hq⟩
theorem trodF2 {t : TypeId} {f0 f1 : Field} {fuel : Nat} {cs : List Value} {x : DataW H × List MemPlace} (ht : P.underlying t = some (.struct #[f0, f1])) (h : DataW.trod E P w base spare held fuel t cs = some x) :
 ∃ y0 y1 n, fuel = n + 1 /\ x.1 = .agg [y0.1, y1.1] /\ cs.length = P.cellsOf t /\ DataW.trod E P w base spare held n f0.type ((cs.drop f0.offset).take (P.cellsOf f0.type)) = some y0 /\ DataW.trod E P w base spare held n f1.type ((cs.drop f1.offset).take (P.cellsOf f1.type)) = some y1 := by
 obtain ⟨xs, n, hfu, rfl, hl, hlen, hf⟩ := DataW.trod_struct ht h
 match xs, hlen with
 | [y0, y1], _ => exact ⟨y0, y1, n, hfu, by simp, hl, by simpa using hf 0 f0 rfl, by simpa using hf 1 f1 rfl⟩
theorem trodF5 {t : TypeId} {f0 f1 f2 f3 f4 : Field} {fuel : Nat} {cs : List Value} {x : DataW H × List MemPlace} (ht : P.underlying t = some (.struct #[f0, f1, f2, f3, f4])) (h : DataW.trod E P w base spare held fuel t cs = some x) :
 ∃ y0 y1 y2 y3 y4 n, fuel = n + 1 /\ x.1 = .agg [y0.1, y1.1, y2.1, y3.1, y4.1] /\ cs.length = P.cellsOf t /\ DataW.trod E P w base spare held n f0.type ((cs.drop f0.offset).take (P.cellsOf f0.type)) = some y0 /\ DataW.trod E P w base spare held n f1.type ((cs.drop f1.offset).take (P.cellsOf f1.type)) = some y1 /\ DataW.trod E P w base spare held n f2.type ((cs.drop f2.offset).take (P.cellsOf f2.type)) = some y2 /\ DataW.trod E P w base spare held n f3.type ((cs.drop f3.offset).take (P.cellsOf f3.type)) = some y3 /\ DataW.trod E P w base spare held n f4.type ((cs.drop f4.offset).take (P.cellsOf f4.type)) = some y4 := by
 obtain ⟨xs, n, hfu, rfl, hl, hlen, hf⟩ := DataW.trod_struct ht h
 match xs, hlen with
 | [y0, y1, y2, y3, y4], _ => exact ⟨y0, y1, y2, y3, y4, n, hfu, by simp, hl, by simpa using hf 0 f0 rfl, by simpa using hf 1 f1 rfl, by simpa using hf 2 f2 rfl, by simpa using hf 3 f3 rfl, by simpa using hf 4 f4 rfl⟩
theorem weights_slice {t e : TypeId} (ht : P.underlying t = some (.slice e)) {es sp : List (DataW H)} {R : Nat} (h : ∀ n ∈ (DataW.slice es sp).weights P t, n <= R) : es.length * P.bytesOf e <= R /\ ∀ d ∈ es, ∀ n ∈ d.weights P e, n <= R := by
 simp only [DataW.weights, ht, List.mem_cons, List.mem_append] at h
 refine ⟨?_, fun d hd n hn => h n (.inr (.inl ?_))⟩
 ·have := h _ (.inl rfl)
  rw [Nat.add_mul] at this
  omega
 ·clear h
  induction es with
  | nil => cases hd
  | cons d' es ih =>
    rw [DataW.weightsAll, List.mem_append]
    rcases List.mem_cons.1 hd with rfl | hd
    ·exact .inl hn
    ·exact .inr (ih hd)
theorem weights_struct {t : TypeId} {fs : Array Field} (ht : P.underlying t = some (.struct fs)) {ds : List (DataW H)} {R : Nat} (h : ∀ n ∈ (DataW.agg ds).weights P t, n <= R) {i : Nat} {f : Field} {d : DataW H} (hf : fs[i]? = some f) (hd : ds[i]? = some d) :
 ∀ n ∈ d.weights P f.type, n <= R := by
 intro n hn
 refine h n ?_
 simp only [DataW.weights, ht]
 exact DataW.weights_mem_each (j := i) (t := f.type) (d := d) (by simp [List.getElem?_map, hf]) hd n hn
end
inductive JV where
 | mk (k n : Int) (s : ByteArray) (l : List JV) (m : List (ByteArray × JV))
namespace JV
def k : JV -> Int | .mk k _ _ _ _ => k
def n : JV -> Int | .mk _ n _ _ _ => n
def s : JV -> ByteArray | .mk _ _ s _ _ => s
def l : JV -> List JV | .mk _ _ _ l _ => l
def m : JV -> List (ByteArray × JV) | .mk _ _ _ _ m => m
theorem lt_l {k n : Int} {s : ByteArray} {l : List JV} {m : List (ByteArray × JV)} {i : Nat} {x : JV} (h : l[i]? = some x) : SizeOf.sizeOf x < SizeOf.sizeOf (JV.mk k n s l m) := by
 have := List.sizeOf_lt_of_mem (List.mem_of_getElem? h)
 simp only [JV.mk.sizeOf_spec]
 omega
theorem lt_m {k n : Int} {s : ByteArray} {l : List JV} {m : List (ByteArray × JV)} {i : Nat} {p : ByteArray × JV} (h : m[i]? = some p) : SizeOf.sizeOf p.2 < SizeOf.sizeOf (JV.mk k n s l m) := by
 have := List.sizeOf_lt_of_mem (List.mem_of_getElem? h)
 obtain ⟨a, b⟩ := p
 simp only [JV.mk.sizeOf_spec, Prod.mk.sizeOf_spec] at this ⊢
 omega
inductive Ok : JV -> Prop
 | mk {k n : Int} {s : ByteArray} {l : List JV} {m : List (ByteArray × JV)} (hk : (Lit.int .i64 k).wf = true) (hn : (Lit.int .i64 n).wf = true) (hs : s.size <= 140737488351232) (hl : l.length <= 1759218604390) (hm : m.length <= 1466015503658)
  (cl : ∀ (i : Nat) (x : JV), l[i]? = some x -> Ok x) (cs : ∀ (i : Nat) (p : ByteArray × JV), m[i]? = some p -> p.1.size <= 140737488351232) (cm : ∀ (i : Nat) (p : ByteArray × JV), m[i]? = some p -> Ok p.2) : Ok (.mk k n s l m)
end JV
structure RV where
 k : Int
 n : Int
 s : ByteArray
 pl : Option Addr
 nl : Nat
 cl : Nat
 pm : Option Addr
 nm : Nat
 cm : Nat
abbrev RV.val (r : RV) : Value := .agg #[.int .i64 r.k, .int .i64 r.n, .string r.s, .slice r.pl r.nl r.cl, .slice r.pm r.nm r.cm]
def encV (r : RV) : List Value := [.int .i64 r.k, .int .i64 r.n, .string r.s, .slice r.pl r.nl r.cl, .slice r.pm r.nm r.cm]
structure RM where
 name : ByteArray
 v : RV
abbrev RM.val (r : RM) : Value := .agg #[.string r.name, .int .i64 r.v.k, .int .i64 r.v.n, .string r.v.s, .slice r.v.pl r.v.nl r.v.cl, .slice r.v.pm r.v.nm r.v.cm]
def encM (r : RM) : List Value := .string r.name :: encV r.v
theorem codecV : Codec encV 5 := ⟨fun _ => rfl, fun x u hu => by
 simp only [encV, List.mem_cons, List.not_mem_nil, or_false] at hu
 rcases hu with rfl | rfl | rfl | rfl | rfl <;> rfl, by decide⟩
theorem codecM : Codec encM 6 := ⟨fun _ => rfl, fun x u hu => by
 simp only [encM, encV, List.mem_cons, List.not_mem_nil, or_false] at hu
 rcases hu with rfl | rfl | rfl | rfl | rfl | rfl <;> rfl, by decide⟩
inductive TreeOf (w : World) (B : Nat) : JV -> RV -> Prop
 | mk {r : RV} {l : List JV} {m : List (ByteArray × JV)} {rs : List RV} {rms : List RM} (hl : Rd w B encV 5 (.slice r.pl r.nl r.cl) rs) (el : l.length = rs.length) (cl : ∀ (i : Nat) (t : JV) (q : RV), l[i]? = some t -> rs[i]? = some q -> TreeOf w B t q)
  (hm : Rd w B encM 6 (.slice r.pm r.nm r.cm) rms) (em : m.length = rms.length) (cn : ∀ (i : Nat) (p : ByteArray × JV) (q : RM), m[i]? = some p -> rms[i]? = some q -> p.1 = q.name)
  (cm : ∀ (i : Nat) (p : ByteArray × JV) (q : RM), m[i]? = some p -> rms[i]? = some q -> TreeOf w B p.2 q.v) : TreeOf w B (.mk r.k r.n r.s l m) r
theorem TreeOf.under {w w' : World} {B B' : Nat} {t : JV} {r : RV} (h : TreeOf w B t r) (hb : Below B w w') (hB : B <= B') : TreeOf w' B' t r := by
 induction h with
 | mk hl el cl hm em cn cm ih1 ih2 => exact .mk (hl.below hb hB) el ih1 (hm.below hb hB) em cn ih2
theorem TreeOf.mono {w : World} {B B' : Nat} {t : JV} {r : RV} (h : TreeOf w B t r) (hB : B <= B') : TreeOf w B' t r := h.under (Below.refl _ _) hB
theorem TreeOf.drewN {w : World} {B : Nat} {t : JV} {r : RV} (h : TreeOf w B t r) (n : Nat) : TreeOf (w.drewN n) B t r := h.under (bdn (Below.refl _ _) n) (Nat.le_refl _)
theorem slV : SlT Tryz.prog 22 25 5 80 := SlT.mk (z := .agg #[.int .i64 0, .int .i64 0, .string ByteArray.empty, .slice none 0 0, .slice none 0 0]) Tryz.underlying22 (by kernel_rfl) rfl
theorem slM : SlT Tryz.prog 23 32 6 96 := SlT.mk (z := .agg #[.string ByteArray.empty, .int .i64 0, .int .i64 0, .string ByteArray.empty, .slice none 0 0, .slice none 0 0]) Tryz.underlying23 (by kernel_rfl) rfl
theorem cellsV : Tryz.prog.cellsOf 25 = 5 := by kernel_rfl
theorem cellsM : Tryz.prog.cellsOf 32 = 6 := by kernel_rfl
theorem bytesV : Tryz.prog.bytesOf 25 = 80 := by kernel_rfl
theorem bytesM : Tryz.prog.bytesOf 32 = 96 := by kernel_rfl
#print axioms slV
section
variable {H : Type} {enc : TypeId × Value -> H} {W : World} {base b0 : Nat} {spare : Nat -> Bool} {held : Bool}
theorem cel1 : Tryz.prog.cellsOf 2 = 1 := by kernel_rfl
theorem cel2 : Tryz.prog.cellsOf 3 = 1 := by kernel_rfl
theorem cel3 : Tryz.prog.cellsOf 9 = 1 := by kernel_rfl
theorem cel4 : Tryz.prog.cellsOf 22 = 1 := by kernel_rfl
theorem cel5 : Tryz.prog.cellsOf 23 = 1 := by kernel_rfl
theorem weights_string {t : TypeId} {s : ByteArray} {R : Nat} (h : ∀ n ∈ (DataW.lit (H := H) (.string s.data.toList)).weights Tryz.prog t, n <= R) : s.size <= R := by
 have := h s.data.toList.length (by simp [DataW.weights])
 simpa using this
theorem open_val : ∀ (fuel : Nat) (cs : List Value) (x : DataW H × List MemPlace), DataW.trod enc Tryz.prog W base spare held fuel 25 cs = some x ->
 ∃ r t, cs = encV r /\ TreeOf W W.heap.size t r /\ ((∀ n ∈ x.1.weights Tryz.prog 25, n <= 140737488351232) -> t.Ok) := by
 intro fuel
 induction fuel using Nat.strongRecOn with
 | ind fuel ih =>
   intro cs x h
   obtain ⟨y0, y1, y2, y3, y4, n, rfl, hx1, hlen, t0, t1, t2, t3, t4⟩ := trodF5 Tryz.underlying25 h
   rw [cellsV] at hlen
   obtain ⟨c0, c1, c2, c3, c4, rfl⟩ : ∃ c0 c1 c2 c3 c4, cs = [c0, c1, c2, c3, c4] := by
    match cs, hlen with
    | [a, b, c, d, e], _ => exact ⟨a, b, c, d, e, rfl⟩
   rw [hx1]
   dsimp only at t0 t1 t2 t3 t4
   rw [cel2] at t0
   rw [cel1] at t1
   rw [cel3] at t2
   rw [cel4] at t3
   rw [cel5] at t4
   simp only [List.drop_zero, List.drop_succ_cons, List.take_succ_cons, List.take_zero] at t0 t1 t2 t3 t4
   obtain ⟨k, e0, f0, w0⟩ := DataW.trod_int Tryz.underlying3 t0
   obtain ⟨n', e1, f1, w1⟩ := DataW.trod_int Tryz.underlying2 t1
   obtain ⟨s, e2, f2, w2⟩ := DataW.trod_string Tryz.underlying9 t2
   simp only [List.cons.injEq, and_true] at e0 e1 e2
   subst e0 e1 e2 f0 f1 f2
   obtain ⟨pl, nl, cl, rs, e3, hr3, hd3⟩ := open_list (Q := fun (r : RV) (d : DataW H) => ∃ t, TreeOf W W.heap.size t r /\ ((∀ n ∈ d.weights Tryz.prog 25, n <= 140737488351232) -> t.Ok)) Tryz.underlying22 cellsV codecV t3
    (fun m hm cs y hy => by
     obtain ⟨r, t, h1, h2⟩ := ih m (by omega) cs y hy
     exact ⟨r, h1, t, h2⟩)
   obtain ⟨pm, nm, cm, rms, e4, hr4, hd4⟩ := open_list (Q := fun (r : RM) (d : DataW H) => ∃ t, TreeOf W W.heap.size t r.v /\ ((∀ n ∈ d.weights Tryz.prog 32, n <= 140737488351232) -> r.name.size <= 140737488351232 /\ t.Ok)) Tryz.underlying23 cellsM codecM t4
    (fun m hm cs y hy => by
     obtain ⟨z0, z1, j, rfl, hy1, hlen, u0, u1⟩ := trodF2 Tryz.underlying32 hy
     rw [cellsM] at hlen
     obtain ⟨a0, a1, a2, a3, a4, a5, rfl⟩ : ∃ a0 a1 a2 a3 a4 a5, cs = [a0, a1, a2, a3, a4, a5] := by
      match cs, hlen with
      | [a, b, c, d, e, f], _ => exact ⟨a, b, c, d, e, f, rfl⟩
     rw [hy1]
     dsimp only at u0 u1
     rw [cel3] at u0
     rw [cellsV] at u1
     simp only [List.drop_zero, List.drop_succ_cons, List.take_succ_cons, List.take_zero] at u0 u1
     obtain ⟨nm, g0, g1, g2⟩ := DataW.trod_string Tryz.underlying9 u0
     simp only [List.cons.injEq, and_true] at g0
     subst g0 g1
     obtain ⟨r, t, h1, h2, h3⟩ := ih j (by omega) _ _ u1
     refine ⟨⟨nm, r⟩, by rw [h1]; rfl, t, h2, fun hw => ⟨weights_string (weights_struct Tryz.underlying32 hw (i := 0) rfl rfl), h3 (weights_struct Tryz.underlying32 hw (i := 1) rfl rfl)⟩⟩)
   simp only [List.cons.injEq, and_true] at e3 e4
   subst e3 e4
   have nl_eq : nl = rs.length := by
    obtain ⟨_, _, e, _⟩ := hr3
    simp only [Value.slice.injEq] at e; exact e.2.1
   have nm_eq : nm = rms.length := by
    obtain ⟨_, _, e, _⟩ := hr4
    simp only [Value.slice.injEq] at e; exact e.2.1
   have hL : ∀ i, i < rs.length -> ∃ t : JV, ∀ q, rs[i]? = some q -> TreeOf W W.heap.size t q /\ ((∀ n ∈ y3.1.weights Tryz.prog 22, n <= 140737488351232) -> t.Ok) := by
    intro i hi
    obtain ⟨q, hq⟩ : ∃ q, rs[i]? = some q := ⟨_, List.getElem?_eq_getElem hi⟩
    rcases hd3 with ⟨rfl, _⟩ | ⟨es, sp, h1, h2, h3⟩
    ·simp at hi
    ·obtain ⟨d, hd, t, ht1, ht2⟩ := h3 i q hq
     refine ⟨t, fun q' hq' => ?_⟩
     rw [hq] at hq'
     cases hq'
     refine ⟨ht1, fun hw => ht2 ?_⟩
     rw [h1] at hw
     exact (weights_slice Tryz.underlying22 hw).2 d (List.mem_of_getElem? hd)
   have hM : ∀ i, i < rms.length -> ∃ p : ByteArray × JV, ∀ q, rms[i]? = some q -> p.1 = q.name /\ TreeOf W W.heap.size p.2 q.v /\ ((∀ n ∈ y4.1.weights Tryz.prog 23, n <= 140737488351232) -> p.1.size <= 140737488351232 /\ p.2.Ok) := by
    intro i hi
    obtain ⟨q, hq⟩ : ∃ q, rms[i]? = some q := ⟨_, List.getElem?_eq_getElem hi⟩
    rcases hd4 with ⟨rfl, _⟩ | ⟨es, sp, h1, h2, h3⟩
    ·simp at hi
    ·obtain ⟨d, hd, t, ht1, ht2⟩ := h3 i q hq
     refine ⟨(q.name, t), fun q' hq' => ?_⟩
     rw [hq] at hq'
     cases hq'
     refine ⟨rfl, ht1, fun hw => ht2 ?_⟩
     rw [h1] at hw
     exact (weights_slice Tryz.underlying23 hw).2 d (List.mem_of_getElem? hd)
   obtain ⟨ts, hts, hts2⟩ := list_of rs.length hL
   obtain ⟨ps, hps, hps2⟩ := list_of rms.length hM
   refine ⟨⟨k, n', s, pl, nl, cl, pm, nm, cm⟩, .mk k n' s ts ps, rfl, ?_, fun hw => ?_⟩
   ·exact TreeOf.mk (r := ⟨k, n', s, pl, nl, cl, pm, nm, cm⟩) hr3 hts (fun i t q h1 h2 => (hts2 i t h1 q h2).1) hr4 hps (fun i p q h1 h2 => (hps2 i p h1 q h2).1) (fun i p q h1 h2 => (hps2 i p h1 q h2).2.1)
   ·have v2 := weights_string (weights_struct Tryz.underlying25 hw (i := 2) rfl rfl)
    have v3 : ∀ n ∈ y3.1.weights Tryz.prog 22, n <= 140737488351232 := weights_struct Tryz.underlying25 hw (i := 3) rfl rfl
    have v4 : ∀ n ∈ y4.1.weights Tryz.prog 23, n <= 140737488351232 := weights_struct Tryz.underlying25 hw (i := 4) rfl rfl
    refine .mk w0 w1 v2 ?_ ?_ (fun i x hx => ?_) (fun i p hp => ?_) (fun i p hp => ?_)
    ·rcases hd3 with ⟨rfl, _⟩ | ⟨es, sp, h1, h2, _⟩
     ·rw [hts]; simp
     ·rw [h1] at v3
      have := (weights_slice Tryz.underlying22 v3).1
      rw [bytesV] at this
      omega
    ·rcases hd4 with ⟨rfl, _⟩ | ⟨es, sp, h1, h2, _⟩
     ·rw [hps]; simp
     ·rw [h1] at v4
      have := (weights_slice Tryz.underlying23 v4).1
      rw [bytesM] at this
      omega
    ·obtain ⟨q, hq⟩ : ∃ q, rs[i]? = some q := ⟨_, List.getElem?_eq_getElem (by have := (List.getElem?_eq_some_iff.1 hx).1; omega)⟩
     exact (hts2 i x hx q hq).2 v3
    ·obtain ⟨q, hq⟩ : ∃ q, rms[i]? = some q := ⟨_, List.getElem?_eq_getElem (by have := (List.getElem?_eq_some_iff.1 hp).1; omega)⟩
     exact ((hps2 i p hp q hq).2.2 v4).1
    ·obtain ⟨q, hq⟩ : ∃ q, rms[i]? = some q := ⟨_, List.getElem?_eq_getElem (by have := (List.getElem?_eq_some_iff.1 hp).1; omega)⟩
     exact ((hps2 i p hp q hq).2.2 v4).2
theorem open_value {v : Value} {d : DataW H} {p : List MemPlace} (hval : Value.okWide Tryz.prog W .any b0 25 v) (h : DataW.Trod enc Tryz.prog W base spare held 25 v d p) :
 ∃ r t, v = RV.val r /\ TreeOf W W.heap.size t r /\ ((∀ n ∈ d.weights Tryz.prog 25, n <= 140737488351232) -> t.Ok) := by
 obtain ⟨cs, rfl, hsz⟩ := okWide_struct Tryz.underlying25 hval
 obtain ⟨fuel, hf⟩ := h
 obtain ⟨r, t, h1, h2, h3⟩ := open_val fuel _ _ hf
 refine ⟨r, t, ?_, h2, h3⟩
 have : cs = (encV r).toArray := by
  apply Array.ext'
  simpa [Value.cells] using h1
 rw [this]
 rfl
end
#print axioms open_value
end
section
open Go.RowKit Go.OpenShut
def Said (w : World) (p : Prop) (e : Ending) (w' : World) : Prop := ∃ b : Bool, e = .returned (.bool b) /\ (b = true ↔ p) /\ Below w.heap.size w w'
theorem below2 (w : World) (o o' : Obj) : Below w.heap.size w ((w.alloc o).alloc o') := ((Below.refl _ _).alloc (Nat.le_refl _) _).alloc (by simp) _
theorem str_beq (a b : ByteArray) : (a.toList == b.toList) = decide (a = b) := by
 rw [ByteArray.toList_eq, ByteArray.toList_eq]
 obtain ⟨⟨x⟩⟩ := a
 obtain ⟨⟨y⟩⟩ := b
 by_cases h : x = y
 ·simp [h]
 ·simp [h]
theorem Said.no {w : World} {p : Prop} {e : Ending} {w' : World} (h : Said w p e w') (hp : ¬ p) : e = .returned (.bool false) /\ Below w.heap.size w w' := by
 obtain ⟨b, rfl, hb, h⟩ := h
 cases b with
 | true => exact absurd (hb.1 rfl) hp
 | false => exact ⟨rfl, h⟩
def VAt (W : World) (g : Nat) (r : RV) : Prop := W.heap[g]? = some (.cells #[.int .i64 r.k, .int .i64 r.n, .string r.s, .slice r.pl r.nl r.cl, .slice r.pm r.nm r.cm] 25 (0, 0))
theorem VAt.cell {W : World} {g : Nat} {r : RV} (h : VAt W g r) (j : Nat) {u : Value} (hu : (encV r)[j]? = some u) : W.cell? ⟨g, j, none⟩ = some u := by
 unfold VAt at h
 rw [cell_of_row W g j _ _ _ h, <- Array.getElem?_toList]
 exact hu
theorem VAt.cells5 {W : World} {g : Nat} {r : RV} (h : VAt W g r) : W.cell? ⟨g, 0, none⟩ = some (.int .i64 r.k) /\ W.cell? ⟨g, 1, none⟩ = some (.int .i64 r.n) /\ W.cell? ⟨g, 2, none⟩ = some (.string r.s) /\ W.cell? ⟨g, 3, none⟩ = some (.slice r.pl r.nl r.cl) /\ W.cell? ⟨g, 4, none⟩ = some (.slice r.pm r.nm r.cm) := ⟨h.cell 0 rfl, h.cell 1 rfl, h.cell 2 rfl, h.cell 3 rfl, h.cell 4 rfl⟩
theorem VAt.under {W W' : World} {g B : Nat} {r : RV} (h : VAt W g r) (hb : Below B W W') (hg : g < B) : VAt W' g r := (hb.block g hg).trans h
theorem VAt.lt {W : World} {g : Nat} {r : RV} (h : VAt W g r) : g < W.heap.size := (Array.getElem?_eq_some_iff.1 h).1
theorem rd_nlen {α : Type} {enc : α -> List Value} {sz B n c : Nat} {p : Option Addr} {w : World} {xs : List α} (h : Rd w B enc sz (.slice p n c) xs) : n = xs.length := by
 obtain ⟨_, _, e, _⟩ := h
 simp only [Value.slice.injEq] at e; exact e.2.1
theorem rd_at' {α : Type} {enc : α -> List Value} {sz n cap k B : Nat} {w : World} {p : Option Addr} {xs : List α} (h : Rd w B enc sz (.slice p n cap) xs) {x : α} (hx : xs[k]? = some x) :
 ∃ b o, p = some ⟨b, o, none⟩ /\ b < B /\ ∀ j u, (enc x)[j]? = some u -> w.cell? ⟨b, o + k * sz + j, none⟩ = some u := by
 obtain ⟨p', cap', he, h1, h2, h3, h4⟩ := h
 simp only [Value.slice.injEq] at he
 obtain ⟨rfl, rfl, rfl⟩ := he
 have hk := (List.getElem?_eq_some_iff.1 hx).1
 cases p with
 | none => have := h3 rfl; omega
 | some a =>
   obtain ⟨b, o, rfl, hb, hr⟩ := h4 a rfl (by omega)
   exact ⟨b, o, rfl, hb, hr k x hx⟩
end
end Go.Proofs.YtffhccmppdgmfaaGreatDoor
