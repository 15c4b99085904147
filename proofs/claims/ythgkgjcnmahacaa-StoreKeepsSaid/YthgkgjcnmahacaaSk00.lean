import Derived.Test.YthgkgjcnmahacaaRows
import Derived.Carry
import Derived.ProofKit
import Derived.SizedLaws
import Derived.WalkKit
import Derived.Deep.Draws
import Derived.Maps.AppendAt
import Derived.Deep.AppendLies
import Derived.RegionTactic
import Derived.OwnWalk
import Derived.Deep.Slices
import Derived.Deep.Fields
import Derived.Deep.Strs
import Derived.ChangeSame
import Derived.Test.YthgkgjcnmahacaaProg
import Derived.WalkSpells
import Derived.Lib.Hide
import Derived.Deep.RegionHeld3
import Derived.Deep.DeepCutAuto
import Derived.Deep.CutRange
import Derived.BigQuiet
import Derived.Deep.QuietTactic
import Derived.Outline
import Derived.OpenShut
import Derived.Below
import Derived.WalkLawsBesides
import Derived.Maps.OwnSet
import Derived.StringKeys
import Derived.Laws.AppendOwnNone
import Derived.StillTactics
import Derived.Sort.LotA
import Derived.Shelf.SlSortCmp.Insertion
section
/- A law that answers true and leaves memory alone: from its contract to its row, once for all laws. Plain laws over any program. -/
set_option linter.unusedSimpArgs false
set_option linter.unusedVariables false
namespace Go.Proofs.Ythgkgjcnmahacaa
open Go.ChangeShapes Go.WideShapes Go.ChangeAt Go.RowKit

section
variable {H : Type} {enc : TypeId × Value → H} {P : Program}
theorem trodAll_below (hl : laidOutB P = true) {W W' : World} (hb : Below W.heap.size W W') :
    ∀ (ts : List TypeId) (vs : List Value) (ds : List (DataW H)) (ps : List MemPlace), (∀ t ∈ ts, P.readableRec t = true ∧ t < P.types.size) → (∀ x ∈ ps, x.block < W.heap.size) →
      DataW.TrodAll enc P W 0 (fun _ => true) true ts vs ds ps → DataW.TrodAll enc P W' 0 (fun b => decide (b < W.heap.size)) true ts vs ds ps
  | [], [], [], ps, _, _, h => h
  | t :: ts, v :: vs, d :: ds, ps, hr, hlt, h => by
    obtain ⟨p, q, h1, h2, rfl⟩ := h
    exact ⟨p, q, Below.trod hl (hr t (by simp)).1 (hr t (by simp)).2 h1 hb (fun x hx => hlt x (List.mem_append_left _ hx)),
      trodAll_below hl hb ts vs ds q (fun x hx => hr x (by simp [hx])) (fun x hx => hlt x (List.mem_append_right _ hx)) h2, rfl⟩
  | [], _ :: _, _, _, _, _, h => by cases h
  | [], [], _ :: _, _, _, _, h => by cases h
  | _ :: _, [], _, _, _, _, h => by cases h
  | _ :: _, _ :: _, [], _, _, _, h => by cases h
theorem trodAll_length {W : World} {base : Nat} {spare : Nat → Bool} {held : Bool} : ∀ {ts : List TypeId} {vs : List Value} {ds : List (DataW H)} {ps : List MemPlace}, DataW.TrodAll enc P W base spare held ts vs ds ps → ds.length = ts.length
  | [], [], [], _, _ => rfl
  | t :: ts, v :: vs, d :: ds, ps, h => by
    obtain ⟨p, q, h1, h2, rfl⟩ := h
    simp [trodAll_length h2]
  | [], _ :: _, _, _, h => by cases h
  | [], [], _ :: _, _, h => by cases h
  | _ :: _, [], _, _, h => by cases h
  | _ :: _, _ :: _, [], _, h => by cases h

theorem law_post {fn : Func} {s : ChangeSpec} {tb : TypeId} (hv : s.vars = []) (hs : ∀ ds : List (DataW H), ds.length = fn.params.toList.length → s.fn H ds = { results := [.lit (.bool true)], args := ds })
    (hres : fn.resultTypes = #[tb]) (hbool : P.underlying tb = some .bool) (hl : laidOutB P = true) (hr : ∀ t ∈ fn.params.toList, P.readableRec t = true ∧ t < P.types.size)
    {W W' : World} {args : Array Value} {ds gs : List (DataW H)} {before : List MemPlace} (hW : DataW.Whole enc P fn.params.toList s.vars false W args.toList ds gs before) (hb : Below W.heap.size W W') :
    s.post enc P fn false true false false W args (.bool true) W' := by
  have hW' := hW
  obtain ⟨p, q, hA, hV, rfl, hfz, hnd⟩ := hW
  rw [hv] at hV
  obtain ⟨rfl, rfl⟩ := trodVars_none hV
  have hlt : ∀ x ∈ p, x.block < W.heap.size := fun x hx => hW'.lt x (by simpa using hx)
  have hall := trodAll_below hl hb _ _ _ _ hr hlt hA
  have hfn := hs ds (trodAll_length hA)
  have hfn' : s.fn H (ds ++ []) = { results := [.lit (.bool true)], args := ds } := by rw [List.append_nil]; exact hfn
  unfold ChangeSpec.post
  refine ⟨ds, [], _, [], p, [], hW', ?_, ?_, ?_, hb.frame _, fun h => by cases h⟩
  · rw [hfn', hres]
    exact trodAll_mk1 (shut_bool hbool true)
  · rw [hfn']
    exact hall
  · rw [hfn', hv]
    rfl

theorem law_lifted {C : Checked} {os : Os} {f : FuncId} {fn : Func} {s : ChangeSpec} {conds : List PathCond} {tb : TypeId}
    (own : ownKnob C.prog.godebug = none) (started : os.Started) (noInit : C.prog.inits.idxOf? f = none) (hfn : C.prog.funcs[f]? = some fn)
    (hv : s.vars = []) (hs : ∀ ds : List (DataW H), ds.length = fn.params.toList.length → s.fn H ds = { results := [.lit (.bool true)], args := ds })
    (hres : fn.resultTypes = #[tb]) (hbool : C.prog.underlying tb = some .bool) (hl : laidOutB C.prog = true) (hr : ∀ t ∈ fn.params.toList, C.prog.readableRec t = true ∧ t < C.prog.types.size)
    (witness : ∃ (w : World) (tape : Tape) (i : Input), w.os = os ∧ (w.forCall tape i).Shaped C.prog ∧ i.vars = [] ∧ Input.okWide C.prog (w.forCall tape i) .any w.heap.size f i ∧
      s.pre6 enc C.prog fn conds false (w.forCall tape i).memory i.args ∧ Assume.holds {} C.prog (lone (Frame.enter C.prog f i.args .normal) [] (w.forCall tape i)))
    (law : ∀ (W : World) (base : Nat) (args : Array Value) (ds : List (DataW H)) (p : List MemPlace),
      (∀ (j : Nat) t v, fn.params[j]? = some t → args[j]? = some v → Value.okWide C.prog W .any base t v) →
      DataW.TrodAll enc C.prog W 0 (fun _ => true) true fn.params.toList args.toList ds p →
      (DataW.weightsEach C.prog (fn.params.toList ++ s.plain.varTypes C.prog) ds).all (· ≤ reachBytes) = true →
      Calls C.prog f args W fun e W' => e = .returned (.bool true) ∧ Below W.heap.size W W') :
    ReturnsInHanded {} C os f .any (s.pre6 enc C.prog fn conds false) (s.post enc C.prog fn false true false false) := by
  refine returnsInHanded_of_change_sized (C := C) own started noInit hfn witness ?_
  intro W base args ds gs before hval hW hcnd hsz _
  have hW' := hW
  obtain ⟨p, q, hA, hV, rfl, hfz, hnd⟩ := hW
  have hV' := hV
  rw [hv] at hV'
  obtain ⟨rfl, rfl⟩ := trodVars_none hV'
  rw [List.append_nil] at hsz
  refine (law W base args ds p hval hA hsz).mono fun e W' ⟨he, hb⟩ => ?_
  exact ⟨_, he, law_post hv hs hres hbool hl hr hW' hb⟩
end

theorem len1 {α : Type} {l : List α} (h : l.length = 1) : ∃ a, l = [a] := by
  match l, h with
  | [a], _ => exact ⟨a, rfl⟩
theorem len2 {α : Type} {l : List α} (h : l.length = 2) : ∃ a b, l = [a, b] := by
  match l, h with
  | [a, b], _ => exact ⟨a, b, rfl⟩
theorem len3 {α : Type} {l : List α} (h : l.length = 3) : ∃ a b c, l = [a, b, c] := by
  match l, h with
  | [a, b, c], _ => exact ⟨a, b, c, rfl⟩
theorem len4 {α : Type} {l : List α} (h : l.length = 4) : ∃ a b c d, l = [a, b, c, d] := by
  match l, h with
  | [a, b, c, d], _ => exact ⟨a, b, c, d, rfl⟩
theorem len5 {α : Type} {l : List α} (h : l.length = 5) : ∃ a b c d e, l = [a, b, c, d, e] := by
  match l, h with
  | [a, b, c, d, e], _ => exact ⟨a, b, c, d, e, rfl⟩
end Go.Proofs.Ythgkgjcnmahacaa
end

section
/- Slices of elements that lie in a fixed number of cells each, as lists: read anywhere, or owned by the call. Plain laws over any program. -/
set_option linter.unusedSimpArgs false
set_option linter.unusedVariables false
namespace Go.Proofs.Ythgkgjcnmahacaa
open Go Go.RowKit

theorem add_eq (b o j : Nat) : (⟨b, o, none⟩ : Addr).add j = ⟨b, o + j, none⟩ := by
  unfold Addr.add
  split <;> simp_all

theorem bcs {B : Nat} {w w' : World} {b o : Nat} {v : Value} (hb : Below B w w') (hB : b < B) (h : w.cell? ⟨b, o, none⟩ = some v) : w'.cell? ⟨b, o, none⟩ = some v := (hb.cell (p := ⟨b, o, none⟩) hB).trans h

theorem bdn {B : Nat} {w w' : World} (h : Below B w w') (n : Nat) : Below B w (w'.drewN n) := ⟨h.os, h.tape, h.output, h.size, h.block⟩
/-- The cells of a list of elements. -/
def cellsOf {α : Type} (enc : α → List Value) (xs : List α) : List Value := xs.flatMap enc

structure Codec {α : Type} (enc : α → List Value) (sz : Nat) : Prop where
  len : ∀ x, (enc x).length = sz
  one : ∀ x, ∀ u ∈ enc x, u.oneCell' = true
  pos : 0 < sz

section
variable {α : Type} {enc : α → List Value} {sz : Nat}
theorem cellsOf_len (C : Codec enc sz) (xs : List α) : (cellsOf enc xs).length = xs.length * sz := by
  induction xs with
  | nil => simp [cellsOf]
  | cons x xs ih => simp only [cellsOf, List.flatMap_cons, List.length_append, C.len, List.length_cons] at ih ⊢; rw [ih, Nat.add_mul]; omega
theorem cellsOf_one (C : Codec enc sz) (xs : List α) : ∀ u ∈ cellsOf enc xs, u.oneCell' = true := by
  intro u hu
  obtain ⟨x, _, hx⟩ := List.mem_flatMap.1 hu
  exact C.one x u hx
theorem cellsOf_append (xs ys : List α) : cellsOf enc (xs ++ ys) = cellsOf enc xs ++ cellsOf enc ys := by simp [cellsOf]
theorem cellsOf_single (x : α) : cellsOf enc [x] = enc x := by simp [cellsOf]
theorem cellsOf_get (C : Codec enc sz) (xs : List α) : ∀ (i : Nat) (x : α), xs[i]? = some x → ∀ j, j < sz → (cellsOf enc xs)[i * sz + j]? = (enc x)[j]? := by
  induction xs with
  | nil => intro i x h; simp at h
  | cons y xs ih =>
    intro i x h j hj
    cases i with
    | zero =>
      simp only [List.getElem?_cons_zero, Option.some.injEq] at h
      subst h
      simp only [cellsOf, List.flatMap_cons, Nat.zero_mul, Nat.zero_add]
      exact List.getElem?_append_left (by rw [C.len]; exact hj)
    | succ i =>
      simp only [List.getElem?_cons_succ] at h
      have := ih i x h j hj
      rw [← this]
      simp only [cellsOf, List.flatMap_cons]
      rw [List.getElem?_append_right (by rw [C.len, Nat.add_mul]; omega), C.len]
      congr 1
      rw [Nat.add_mul]; omega
theorem cellsOf_inv (C : Codec enc sz) (xs : List α) (k : Nat) (u : Value) (h : (cellsOf enc xs)[k]? = some u) : ∃ x, xs[k / sz]? = some x ∧ (enc x)[k % sz]? = some u := by
  have hk : k < xs.length * sz := by rw [← cellsOf_len C]; exact (List.getElem?_eq_some_iff.1 h).1
  have h1 : k / sz < xs.length := (Nat.div_lt_iff_lt_mul C.pos).2 hk
  have h2 : k / sz * sz + k % sz = k := by rw [Nat.mul_comm]; exact Nat.div_add_mod k sz
  refine ⟨xs[k / sz], List.getElem?_eq_getElem h1, ?_⟩
  rw [← cellsOf_get C xs _ _ (List.getElem?_eq_getElem h1) _ (Nat.mod_lt _ C.pos), h2, h]

/-- The row of a list lies at block b from offset o on. -/
def RowAt (w : World) (b o : Nat) (enc : α → List Value) (sz : Nat) (xs : List α) : Prop :=
  ∀ i x, xs[i]? = some x → ∀ j u, (enc x)[j]? = some u → w.cell? ⟨b, o + i * sz + j, none⟩ = some u

/-- The value v is a slice below block B that reads as the list xs. -/
def Rd (w : World) (B : Nat) (enc : α → List Value) (sz : Nat) (v : Value) (xs : List α) : Prop :=
  ∃ (p : Option Addr) (cap : Nat), v = .slice p xs.length cap ∧ xs.length ≤ cap ∧ cap ≤ maxLen ∧ (p = none → cap = 0) ∧
    ∀ a, p = some a → 0 < xs.length → ∃ b o, a = ⟨b, o, none⟩ ∧ b < B ∧ RowAt w b o enc sz xs

/-- The call's own slice, from block base on. -/
def Own (w : World) (base : Nat) (e : TypeId) (enc : α → List Value) (sz : Nat) (v : Value) (xs : List α) : Prop :=
  w.ownsRow base e sz v xs.length (cellsOf enc xs)

theorem RowAt.below {w w' : World} {B b o : Nat} {xs : List α} (h : RowAt w b o enc sz xs) (hb : Below B w w') (hB : b < B) : RowAt w' b o enc sz xs :=
  fun i x hx j u hu => (hb.cell (p := ⟨b, _, none⟩) hB).trans (h i x hx j u hu)

theorem Rd.below {w w' : World} {B B' : Nat} {v : Value} {xs : List α} (h : Rd w B enc sz v xs) (hb : Below B w w') (hB : B ≤ B') : Rd w' B' enc sz v xs := by
  obtain ⟨p, cap, h1, h2, h3, h4, h5⟩ := h
  refine ⟨p, cap, h1, h2, h3, h4, fun a ha h0 => ?_⟩
  obtain ⟨b, o, e, hb', hr⟩ := h5 a ha h0
  exact ⟨b, o, e, by omega, hr.below hb hb'⟩
theorem Rd.drewN {w : World} {B : Nat} {v : Value} {xs : List α} (h : Rd w B enc sz v xs) (n : Nat) : Rd (w.drewN n) B enc sz v xs := h
theorem Rd.nil (w : World) (B : Nat) : Rd w B enc sz (.slice none 0 0) ([] : List α) := ⟨none, 0, rfl, Nat.le_refl _, Nat.zero_le _, fun _ => rfl, fun a h _ => by cases h⟩
theorem Rd.mono {w : World} {B B' : Nat} {v : Value} {xs : List α} (h : Rd w B enc sz v xs) (hB : B ≤ B') : Rd w B' enc sz v xs := by
  obtain ⟨p, cap, h1, h2, h3, h4, h5⟩ := h
  refine ⟨p, cap, h1, h2, h3, h4, fun a ha h0 => ?_⟩
  obtain ⟨b, o, e, hb', hr⟩ := h5 a ha h0
  exact ⟨b, o, e, by omega, hr⟩

theorem Own.nil (w : World) (base : Nat) (e : TypeId) : Own w base e enc sz (.slice none 0 0) ([] : List α) := World.ownsRow_nil w base e sz
theorem Own.lt {w : World} {base : Nat} {e : TypeId} {v : Value} {xs : List α} (h : Own w base e enc sz v xs) : ∀ k, v.ownBlock = some k → base ≤ k ∧ k < w.heap.size := World.ownsRow.lt h

/-- What is owned can be read. -/
theorem Own.rd (C : Codec enc sz) {w : World} {base : Nat} {e : TypeId} {v : Value} {xs : List α} (h : Own w base e enc sz v xs) : Rd w w.heap.size enc sz v xs := by
  have hlt := h.lt
  obtain ⟨hl, h⟩ := h
  rcases h with ⟨rfl, hn⟩ | ⟨g, cap, cur, rfl, hg, hh, hnc, hcm, hcs, ht⟩
  · have : xs = [] := List.eq_nil_of_length_eq_zero hn
    subst this
    exact Rd.nil w _
  · refine ⟨_, cap, rfl, hnc, hcm, (fun e => by cases e), fun a ha _ => ?_⟩
    cases ha
    refine ⟨g, 0, rfl, (hlt g rfl).2, fun i x hx j u hu => ?_⟩
    have hj : j < sz := by rw [← C.len x]; exact (List.getElem?_eq_some_iff.1 hu).1
    have h1 := cellsOf_get C xs i x hx j hj
    have h2 : w.cell? ((⟨g, 0, none⟩ : Addr).add (i * sz + j)) = some u :=
      World.ownsRow.cells (w := w) (base := base) (e := e) (size := sz) (n := xs.length) (xs := cellsOf enc xs) ⟨hl, .inr ⟨g, cap, cur, rfl, hg, hh, hnc, hcm, hcs, ht⟩⟩ rfl _ u (h1.trans hu)
    rw [add_eq] at h2
    simpa [Nat.add_assoc] using h2
theorem Own.below {w w' : World} {base B : Nat} {e : TypeId} {v : Value} {xs : List α} (h : Own w base e enc sz v xs) (hb : Below B w w') (hB : w.heap.size ≤ B) : Own w' base e enc sz v xs := by
  have hlt := h.lt
  obtain ⟨hl, h⟩ := h
  refine ⟨hl, ?_⟩
  rcases h with h | ⟨g, cap, cur, rfl, hg, hh, r⟩
  · exact .inl h
  · exact .inr ⟨g, cap, cur, rfl, hg, (hb.block g (by have := (hlt g rfl).2; omega)).trans hh, r⟩
theorem Own.kept {w w' : World} {base : Nat} {e : TypeId} {v : Value} {xs : List α} {row : Option Nat} (h : Own w base e enc sz v xs) (hg : w.grownBy w' row) (hne : v.ownBlock = none ∨ v.ownBlock ≠ row) : Own w' base e enc sz v xs := World.ownsRow.kept h hg hne
theorem Own.alloc {w : World} {base : Nat} {e : TypeId} {v : Value} {xs : List α} (h : Own w base e enc sz v xs) (o : Obj) : Own (w.alloc o) base e enc sz v xs := World.ownsRow.alloc h o
theorem Own.mono {w : World} {base base' : Nat} {e : TypeId} {v : Value} {xs : List α} (h : Own w base e enc sz v xs) (hb : base' ≤ base) : Own w base' e enc sz v xs := by
  obtain ⟨hl, h⟩ := h
  refine ⟨hl, ?_⟩
  rcases h with h | ⟨g, cap, cur, rfl, hg, r⟩
  · exact .inl h
  · exact .inr ⟨g, cap, cur, rfl, by omega, r⟩
theorem Own.len {w : World} {base : Nat} {e : TypeId} {v : Value} {xs : List α} (h : Own w base e enc sz v xs) : ∃ p cap, v = .slice p xs.length cap ∧ xs.length ≤ cap ∧ cap ≤ maxLen := by
  obtain ⟨_, h⟩ := h
  rcases h with ⟨rfl, hn⟩ | ⟨g, cap, cur, rfl, hg, hh, hnc, hcm, _⟩
  · exact ⟨none, 0, by rw [hn], by omega, Nat.zero_le _⟩
  · exact ⟨_, cap, rfl, hnc, hcm⟩

/-- What an append wants of its source. -/
theorem RowAt.news {w : World} {b o : Nat} {xs : List α} (C : Codec enc sz) (h : RowAt w b o enc sz xs) : ∀ j u, (cellsOf enc xs)[j]? = some u → w.cell? ((⟨b, o, none⟩ : Addr).add j) = some u := by
  intro j u hu
  obtain ⟨x, hx, hj⟩ := cellsOf_inv C xs j u hu
  have := h _ x hx _ u hj
  rw [Nat.add_assoc, show j / sz * sz + j % sz = j from by rw [Nat.mul_comm]; exact Nat.div_add_mod j sz] at this
  rw [add_eq]
  exact this
theorem RowAt.drop {w : World} {b o : Nat} {xs : List α} (h : RowAt w b o enc sz xs) (k : Nat) : RowAt w b (o + k * sz) enc sz (xs.drop k) := by
  intro i x hx j u hu
  rw [List.getElem?_drop] at hx
  have := h _ x hx j u hu
  rw [Nat.add_mul] at this
  rw [Nat.add_assoc o]
  exact this
theorem RowAt.take {w : World} {b o : Nat} {xs : List α} (h : RowAt w b o enc sz xs) (k : Nat) : RowAt w b o enc sz (xs.take k) := by
  intro i x hx j u hu
  rw [List.getElem?_take] at hx
  split at hx
  · exact h i x hx j u hu
  · cases hx
/-- A slice of a slice. -/
theorem Rd.sliced {w : World} {B : Nat} {a : Option Addr} {n cap : Nat} {xs : List α} (h : Rd w B enc sz (.slice a n cap) xs) (l : Nat) (hl : l ≤ n) : Rd w B enc sz (sliced a l n cap sz) (xs.drop l) := by
  obtain ⟨p, c, hv, h1, h2, h3, h4⟩ := h
  simp only [Value.slice.injEq] at hv
  obtain ⟨rfl, rfl, rfl⟩ := hv
  refine ⟨if cap = l then a else a.map (·.add (l * sz)), cap - l, by simp [Go.sliced, List.length_drop], by simp only [List.length_drop]; omega, by omega, fun hn => ?_, fun ad ha h0 => ?_⟩
  · have hp : a = none := by
      split at hn
      · exact hn
      · simpa using hn
    have := h3 hp
    omega
  · split at ha
    · rename_i e
      rw [List.length_drop] at h0
      obtain ⟨b, o, rfl, hb, hr⟩ := h4 ad ha (by omega)
      refine ⟨b, o, rfl, hb, fun i x hx j u hu => ?_⟩
      have := (List.getElem?_eq_some_iff.1 hx).1
      simp only [List.length_drop] at this
      omega
    · cases a with
      | none => simp at ha
      | some a' =>
        rw [List.length_drop] at h0
        obtain ⟨b, o, rfl, hb, hr⟩ := h4 a' rfl (by omega)
        simp only [Option.map_some, Option.some.injEq, add_eq] at ha
        exact ⟨b, o + l * sz, ha.symm, hb, hr.drop l⟩

theorem slice_from {P : Program} {t e : TypeId} {i : TypeInfo} (ht : P.underlying t = some (.slice e)) (hi : P.info? e = some i) (hsz : i.size = sz) {w : World} {B : Nat} {a : Option Addr} {n cap : Nat} {xs : List α} (h : Rd w B enc sz (.slice a n cap) xs) (l : Nat) (hl : l ≤ n) :
    ∃ v, (∀ W, (Instr.sliceAt t (.slice a n cap) (some (.int .i64 l)) none none).run P W = .ok v W) ∧ Rd w B enc sz v (xs.drop l) := by
  refine ⟨_, fun W => ?_, h.sliced l hl⟩
  have he : P.elem t = e := by simp [Program.elem, ht]
  have ht' : P.underlying t = some (.slice (P.elem t)) := by rw [he]; exact ht
  rw [run_sliceAt_slice _ _ _ _ _ _ ht', run_slice_l W t a n cap ht' .i64 l (by omega) (by omega), he]
  simp [sizeOf, typeInfo, hi, hsz, Result.andThen]
end
end Go.Proofs.Ythgkgjcnmahacaa
end

section
/- append onto a slice of the call's own, whatever the source (nil, empty or not), said of lists. Plain laws over any program. -/
set_option linter.unusedSimpArgs false
set_option linter.unusedVariables false
namespace Go.Proofs.Ythgkgjcnmahacaa
open Go Go.RowKit

/-- The facts on a slice type that an append asks. -/
def SlT (P : Program) (t e : TypeId) (sz bytes : Nat) : Prop := P.underlying t = some (.slice e) ∧ ∃ i z, P.info? e = some i ∧ i.zero = some z ∧ i.size = sz ∧ i.bytes = bytes ∧ z.cells.size = sz
theorem SlT.mk {P : Program} {t e : TypeId} {sz bytes : Nat} {z : Value} (ht : P.underlying t = some (.slice e)) (hi : (P.info? e).map (fun i => (i.zero, i.size, i.bytes)) = some (some z, sz, bytes)) (hz : z.cells.size = sz) : SlT P t e sz bytes := by
  obtain ⟨i, h1, h2, h3, h4⟩ := info_parts hi
  exact ⟨ht, i, z, h1, h2, h3, h4, hz⟩

theorem heap_alloc_at {w : World} {o : Obj} {g : Nat} (h : g = w.heap.size) : (w.alloc o).heap[g]? = some o := by subst h; exact heap_alloc_new w o
theorem heap_alloc_lt {w : World} {o o' : Obj} {g : Nat} (h : g < w.heap.size) (h' : w.heap[g]? = some o') : (w.alloc o).heap[g]? = some o' := (Below.heap_alloc w o g h).trans h'
section
variable {P : Program} {α : Type} {enc : α → List Value} {sz bytes : Nat} {t e : TypeId}
theorem Rd.block {w : World} {B g : Nat} {te : TypeId} {xs : List α} {cs : Array Value} (C : Codec enc sz) (h : w.heap[g]? = some (.cells cs te (0, 0))) (hc : cs.toList = cellsOf enc xs) (hg : g < B) (hm : xs.length ≤ maxLen) : Rd w B enc sz (.slice (some ⟨g, 0, none⟩) xs.length xs.length) xs := by
  refine ⟨_, _, rfl, Nat.le_refl _, hm, (fun h => by cases h), fun a ha _ => ?_⟩
  cases ha
  refine ⟨g, 0, rfl, hg, fun i x hx j u hu => ?_⟩
  have hj : j < sz := by rw [← C.len x]; exact (List.getElem?_eq_some_iff.1 hu).1
  have h1 := cellsOf_get C xs i x hx j hj
  rw [cell_of_row w g _ cs te (0, 0) h, Nat.zero_add, ← Array.getElem?_toList, hc, h1, hu]
theorem Rd.one {w : World} {B g : Nat} {te : TypeId} {x : α} {cs : Array Value} (C : Codec enc sz) (h : w.heap[g]? = some (.cells cs te (0, 0))) (hc : cs.toList = enc x) (hg : g < B) : Rd w B enc sz (.slice (some ⟨g, 0, none⟩) 1 1) [x] :=
  Rd.block (xs := [x]) C h (by rw [cellsOf_single]; exact hc) hg (show 1 ≤ maxLen by decide)
theorem Own.made {w : World} {base : Nat} (h : base ≤ w.heap.size) : Own (w.alloc (.cells #[] e)) base e enc sz (.slice (some ⟨w.heap.size, 0, none⟩) 0 0) ([] : List α) :=
  World.ownsRow_made (base := base) (e := e) (size := sz) w #[] 0 h (Nat.zero_le _) (by simp)
/-- A block of the call's own that is known whole is owned. -/
theorem Own.block {w : World} {base g : Nat} {xs : List α} {cs : Array Value} {n : Nat} (C : Codec enc sz) (h : w.heap[g]? = some (.cells cs e (0, 0))) (hc : cs.toList = cellsOf enc xs) (hn : n = xs.length) (hg : base ≤ g) (hm : xs.length ≤ maxLen) : Own w base e enc sz (.slice (some ⟨g, 0, none⟩) n n) xs := by
  subst hn
  refine ⟨cellsOf_len C xs, .inr ⟨g, xs.length, cs, rfl, hg, h, Nat.le_refl _, hm, ?_, ?_⟩⟩
  · rw [← Array.length_toList, hc, cellsOf_len C]
  · rw [hc, ← cellsOf_len C, List.take_length]

theorem run_append_rd (S : SlT P t e sz bytes) (C : Codec enc sz) (w : World) (ty : TypeId) {base B : Nat} {v u : Value} {xs ys : List α} (hown : Own w base e enc sz v xs) (hr : Rd w B enc sz u ys)
    (h63 : xs.length + ys.length ≤ maxLen) (hbytes : (xs.length + ys.length) * bytes ≤ 140737488355328) (hbase : base ≤ w.heap.size) :
    ∃ v' w', (Builtin.append_ #[t, t] ty #[v, u]).run P w = .ok v' w' ∧ Own w' base e enc sz v' (xs ++ ys) ∧ w.grownBy w' v.ownBlock ∧ (v'.ownBlock = v.ownBlock ∨ v'.ownBlock = some w.heap.size) := by
  obtain ⟨ht, i, z, hi, hz, hs1, hs2, hzs⟩ := S
  obtain ⟨p, c, rfl, hc1, hc2, hc3, hp⟩ := hr
  have hO : w.ownsRow base e sz v xs.length (cellsOf enc xs) := hown
  rcases p with _ | a
  · have : ys = [] := List.eq_nil_of_length_eq_zero (by have := hc3 rfl; omega)
    subst this
    refine ⟨v, w, ?_, by rw [List.append_nil]; exact hown, World.grownBy.refl w _, .inl rfl⟩
    rcases hO.2 with ⟨rfl, hn⟩ | ⟨g, cap, cur, rfl, _, _, hnc, _⟩
    · simp [Builtin.append_, run_underlying ht, sizeOf, typeInfo, hi, Builtin.lenOf, Builtin.firstCells]
    · simp [Builtin.append_, run_underlying ht, sizeOf, typeInfo, hi, Builtin.lenOf, Builtin.firstCells, hnc, storeCells]
  · have hnews : ∀ j u, (cellsOf enc ys)[j]? = some u → w.cell? (a.add j) = some u := by
      intro j u hu
      by_cases h0 : 0 < ys.length
      · obtain ⟨b, o, rfl, hb, hrow⟩ := hp a rfl h0
        exact hrow.news C j u hu
      · have : ys = [] := List.eq_nil_of_length_eq_zero (by omega)
        subst this
        simp [cellsOf] at hu
    obtain ⟨v', w', hrun, h2, h3, _, h5⟩ := run_append_own_at (P := P) w base t ty e i z sz bytes ht hi hz hs1 hs2 hzs C.pos v xs.length (cellsOf enc xs) hO a ys.length c (cellsOf enc ys) (cellsOf_len C ys) hnews (cellsOf_one C ys) h63 hbytes hbase
    refine ⟨v', w', hrun, ?_, h3, h5⟩
    unfold Own
    rw [cellsOf_append, List.length_append]
    exact h2

theorem wp_append_rd {o : Oper} {a : Act} {K : Act → World → Prop} {Q : Exit → Act → World → Prop} (S : SlT P t e sz bytes) (C : Codec enc sz) (w : World) (s x : Operand)
    (ho : o.op = .call { callee := .builtin .append, args := #[s, x], argTypes := #[t, t] }) {base B : Nat} {v u : Value} {xs ys : List α} (hs : a.eval s = v) (hx : a.eval x = u) (hown : Own w base e enc sz v xs) (hr : Rd w B enc sz u ys)
    (h63 : xs.length + ys.length ≤ maxLen) (hbytes : (xs.length + ys.length) * bytes ≤ 140737488355328) (hbase : base ≤ w.heap.size)
    (h : ∀ v' w', Own w' base e enc sz v' (xs ++ ys) → w.grownBy w' v.ownBlock → (v'.ownBlock = v.ownBlock ∨ v'.ownBlock = some w.heap.size) → K (a.put o.dst v') w') : o.wp P a w K Q := by
  obtain ⟨v', w', hrun, h2, h3, h4⟩ := run_append_rd S C w o.type hown hr h63 hbytes hbase
  unfold Oper.wp execOp
  simp only [ho, resolve, invoke, builtin, Sem.run_bind, Sem.run_pure, Result.andThen_ok, List.map_toArray, List.map_cons, List.map_nil, hs, hx, hrun]
  exact h v' w' h2 h3 h4
theorem wpList_append_rd {ops : Array Oper} {rest : List Oper} {o : Oper} {a : Act} {Q : Exit → Act → World → Prop} (S : SlT P t e sz bytes) (C : Codec enc sz) (w : World) (hgd : o.guard = none) (s x : Operand)
    (ho : o.op = .call { callee := .builtin .append, args := #[s, x], argTypes := #[t, t] }) {base B : Nat} {v u : Value} {xs ys : List α} (hs : a.eval s = v) (hx : a.eval x = u) (hown : Own w base e enc sz v xs) (hr : Rd w B enc sz u ys)
    (h63 : xs.length + ys.length ≤ maxLen) (hbytes : (xs.length + ys.length) * bytes ≤ 140737488355328) (hbase : base ≤ w.heap.size)
    (h : ∀ v' w', Own w' base e enc sz v' (xs ++ ys) → w.grownBy w' v.ownBlock → (v'.ownBlock = v.ownBlock ∨ v'.ownBlock = some w.heap.size) → wpList P ops Q rest (a.put o.dst v') w') : wpList P ops Q (o :: rest) a w :=
  wpList_plain hgd fun _ hK => wp_append_rd S C w s x ho hs hx hown hr h63 hbytes hbase fun v' w' h2 h3 h4 => hK _ _ (h v' w' h2 h3 h4)
theorem step_append_rd {ops : Array Oper} {o : Oper} {a : Act} {K : Act → World → Prop} {Q : Exit → Act → World → Prop} {E : Prop} (S : SlT P t e sz bytes) (C : Codec enc sz) (w : World) (hgd : o.guard = none) (s x : Operand)
    (ho : o.op = .call { callee := .builtin .append, args := #[s, x], argTypes := #[t, t] }) {base B : Nat} {v u : Value} {xs ys : List α} (hs : a.eval s = v) (hx : a.eval x = u) (hown : Own w base e enc sz v xs) (hr : Rd w B enc sz u ys)
    (h63 : xs.length + ys.length ≤ maxLen) (hbytes : (xs.length + ys.length) * bytes ≤ 140737488355328) (hbase : base ≤ w.heap.size)
    (h : ∀ v' w', Own w' base e enc sz v' (xs ++ ys) → w.grownBy w' v.ownBlock → (v'.ownBlock = v.ownBlock ∨ v'.ownBlock = some w.heap.size) → K (a.put o.dst v') w') :
    if Region.wanted o (yielded ops a.tmps) = true then Oper.wp P o a w K Q else E := by
  have hw : Region.wanted o (yielded ops a.tmps) = true := by simp [Region.wanted, hgd]
  rw [if_pos hw]
  exact wp_append_rd S C w s x ho hs hx hown hr h63 hbytes hbase h
/-- What was appended to stays within the call's own blocks. -/
theorem Below.appended {base : Nat} {w w' w0 : World} {v : Value} {xs : List α} (hb : Below base w0 w) (hg : w.grownBy w' v.ownBlock) (hown : Own w base e enc sz v xs) (hbase : base ≤ w.heap.size) : Below base w0 w' :=
  hb.grown hg hbase (fun k e => (hown.lt k e).1)
end
end Go.Proofs.Ythgkgjcnmahacaa
end

section
/- Slices of the call's own: reading one element, storing one cell, reslicing. Plain laws over any program. -/
set_option linter.unusedSimpArgs false
set_option linter.unusedVariables false
namespace Go.Proofs.Ythgkgjcnmahacaa
open Go Go.RowKit

section
variable {P : Program} {α : Type} {enc : α → List Value} {sz bytes : Nat} {t e : TypeId}
/-- An element of a slice of the call's own. -/
theorem Own.at (C : Codec enc sz) {w : World} {base : Nat} {p : Option Addr} {n cap : Nat} {xs : List α} (h : Own w base e enc sz (.slice p n cap) xs) {k : Nat} {x : α} (hx : xs[k]? = some x) :
    ∃ g, p = some ⟨g, 0, none⟩ ∧ n = xs.length ∧ base ≤ g ∧ g < w.heap.size ∧ (∀ j u, (enc x)[j]? = some u → w.cell? ⟨g, k * sz + j, none⟩ = some u) ∧ ∀ j, w.frozen? ⟨g, j, none⟩ = false := by
  have hlt := h.lt
  have hk := (List.getElem?_eq_some_iff.1 hx).1
  have h' := h
  obtain ⟨hl, h0⟩ := h
  rcases h0 with ⟨hv, hn⟩ | ⟨g, cap', cur, hv, hg, hh, hnc, hcm, hcs, ht⟩
  · omega
  · simp only [Value.slice.injEq] at hv
    obtain ⟨rfl, rfl, rfl⟩ := hv
    refine ⟨g, rfl, rfl, hg, (hlt g rfl).2, fun j u hu => ?_, fun j => World.ownsRow.frozenAt h' j⟩
    have hj : j < sz := by rw [← C.len x]; exact (List.getElem?_eq_some_iff.1 hu).1
    have h1 := cellsOf_get C xs k x hx j hj
    rw [hu] at h1
    have hb : k * sz + j < xs.length * sz := by
      have := (List.getElem?_eq_some_iff.1 h1).1
      rw [cellsOf_len C] at this
      exact this
    rw [World.ownsRow.cellAt h' _ hb, h1]

theorem cellsOf_set (C : Codec enc sz) : ∀ (xs : List α) (k j : Nat) (x y : α) (u : Value), xs[k]? = some x → j < sz → (enc x).set j u = enc y → (cellsOf enc xs).set (k * sz + j) u = cellsOf enc (xs.set k y)
  | [], k, j, x, y, u, h, _, _ => by simp at h
  | a :: xs, 0, j, x, y, u, h, hj, hy => by
    simp only [List.getElem?_cons_zero, Option.some.injEq] at h
    subst h
    simp only [cellsOf, List.flatMap_cons, Nat.zero_mul, Nat.zero_add, List.set_cons_zero]
    rw [List.set_append_left _ _ (by rw [C.len]; exact hj), hy]
  | a :: xs, k + 1, j, x, y, u, h, hj, hy => by
    have ih := cellsOf_set C xs k j x y u (by simpa using h) hj hy
    simp only [cellsOf, List.flatMap_cons, List.set_cons_succ] at ih ⊢
    rw [List.set_append_right _ _ (by rw [C.len, Nat.add_mul]; omega), C.len, ← ih]
    congr 2
    rw [Nat.add_mul]; omega

/-- A store of one cell into an element of a slice of the call's own. -/
theorem Own.storedAt (C : Codec enc sz) {w : World} {base : Nat} {g n cap : Nat} {xs : List α} (h : Own w base e enc sz (.slice (some ⟨g, 0, none⟩) n cap) xs) {k j : Nat} {x y : α} {u : Value} (hx : xs[k]? = some x) (hj : j < sz) (hy : (enc x).set j u = enc y) :
    Own (w.setCell ⟨g, k * sz + j, none⟩ u) base e enc sz (.slice (some ⟨g, 0, none⟩) n cap) (xs.set k y) ∧ w.grownBy (w.setCell ⟨g, k * sz + j, none⟩ u) (some g) := by
  have hn : n = xs.length := by
    obtain ⟨_, _, hn, _⟩ := Own.at C h hx
    exact hn
  subst hn
  have h1 := World.ownsRow.stored h (k * sz + j) u
  rw [cellsOf_set C xs k j x y u hx hj hy] at h1
  unfold Own
  rw [List.length_set]
  exact h1

theorem Rd.take {w : World} {B : Nat} {a : Option Addr} {n cap : Nat} {xs : List α} (h : Rd w B enc sz (.slice a n cap) xs) (m : Nat) (hm : m ≤ n) : Rd w B enc sz (.slice a m cap) (xs.take m) := by
  obtain ⟨p, c, hv, h1, h2, h3, h4⟩ := h
  simp only [Value.slice.injEq] at hv
  obtain ⟨rfl, rfl, rfl⟩ := hv
  refine ⟨a, cap, by rw [List.length_take, Nat.min_eq_left hm], by rw [List.length_take]; omega, h2, h3, fun ad ha h0 => ?_⟩
  rw [List.length_take] at h0
  obtain ⟨b, o, e1, hb, hr⟩ := h4 ad ha (by omega)
  exact ⟨b, o, e1, hb, hr.take m⟩
/-- A slice expression of both bounds, or of one. -/
theorem slice_lh (S : SlT P t e sz bytes) {w : World} {B : Nat} {a : Option Addr} {n cap : Nat} {xs : List α} (h : Rd w B enc sz (.slice a n cap) xs) (l m : Nat) (hl : l ≤ m) (hm : m ≤ n) :
    ∃ v, (∀ W, (Instr.sliceAt t (.slice a n cap) (some (.int .i64 l)) (some (.int .i64 m)) none).run P W = .ok v W) ∧ Rd w B enc sz v ((xs.take m).drop l) := by
  obtain ⟨ht, i, z, hi, hz, hs1, hs2, hzs⟩ := S
  have hcap : n ≤ cap := by
    obtain ⟨p, c, hv, h1, _⟩ := h
    simp only [Value.slice.injEq] at hv
    omega
  refine ⟨_, fun W => ?_, (h.take m hm).sliced l hl⟩
  have he : P.elem t = e := by simp [Program.elem, ht]
  have ht' : P.underlying t = some (.slice (P.elem t)) := by rw [he]; exact ht
  rw [run_sliceAt_slice _ _ _ _ _ _ ht', run_slice_lh W t a n cap ht' .i64 .i64 l m (by omega) (by omega) (by omega), he]
  simp [sizeOf, typeInfo, hi, hs1, Result.andThen]
theorem slice_h (S : SlT P t e sz bytes) {w : World} {B : Nat} {a : Option Addr} {n cap : Nat} {xs : List α} (h : Rd w B enc sz (.slice a n cap) xs) (m : Nat) (hm : m ≤ n) :
    ∃ v, (∀ W, (Instr.sliceAt t (.slice a n cap) none (some (.int .i64 m)) none).run P W = .ok v W) ∧ Rd w B enc sz v (xs.take m) := by
  obtain ⟨ht, i, z, hi, hz, hs1, hs2, hzs⟩ := S
  have hcap : n ≤ cap := by
    obtain ⟨p, c, hv, h1, _⟩ := h
    simp only [Value.slice.injEq] at hv
    omega
  refine ⟨_, fun W => ?_, (by have := (h.take m hm).sliced 0 (Nat.zero_le _); rw [List.drop_zero] at this; exact this)⟩
  have he : P.elem t = e := by simp [Program.elem, ht]
  have ht' : P.underlying t = some (.slice (P.elem t)) := by rw [he]; exact ht
  rw [run_sliceAt_slice _ _ _ _ _ _ ht', run_slice_h W t a n cap ht' .i64 m (by omega) (by omega), he]
  simp [sizeOf, typeInfo, hi, hs1, Result.andThen]
theorem slice_l (S : SlT P t e sz bytes) {w : World} {B : Nat} {a : Option Addr} {n cap : Nat} {xs : List α} (h : Rd w B enc sz (.slice a n cap) xs) (l : Nat) (hl : l ≤ n) :
    ∃ v, (∀ W, (Instr.sliceAt t (.slice a n cap) (some (.int .i64 l)) none none).run P W = .ok v W) ∧ Rd w B enc sz v (xs.drop l) := by
  obtain ⟨ht, i, z, hi, hz, hs1, hs2, hzs⟩ := S
  exact slice_from ht hi hs1 h l hl
end
end Go.Proofs.Ythgkgjcnmahacaa
end

section
/- A slice that came in, however deep it lies, reads as a list. Plain laws over any program. -/
set_option linter.unusedSimpArgs false
set_option linter.unusedVariables false
namespace Go.Proofs.Ythgkgjcnmahacaa
open Go Go.RowKit Go.ChangeShapes Go.WideShapes Go.Deep

theorem cell_some {w : World} {a : Addr} {v : Value} (h : w.cell? a = some v) : a.spot = none ∧ a.block < w.heap.size := by
  unfold World.cell? at h
  split at h
  · rename_i c _ _ hb
    refine ⟨?_, (Array.getElem?_eq_some_iff.1 hb).1⟩
    split at h
    · cases h
    · rename_i hs; simpa using hs
  · cases h
theorem list_of {α : Type} {C : Nat → α → Prop} : ∀ n : Nat, (∀ i, i < n → ∃ e : α, C i e) → ∃ l : List α, l.length = n ∧ ∀ i e, l[i]? = some e → C i e
  | 0, _ => ⟨[], rfl, fun i e h => by simp at h⟩
  | n + 1, h => by
    obtain ⟨l, h1, h2⟩ := list_of n (fun i hi => h i (by omega))
    obtain ⟨e, he⟩ := h n (by omega)
    refine ⟨l ++ [e], by simp [h1], fun i x hx => ?_⟩
    by_cases hi : i < n
    · rw [List.getElem?_append_left (by omega)] at hx
      exact h2 i x hx
    · have : i = n := by
        have := (List.getElem?_eq_some_iff.1 hx).1
        simp at this; omega
      subst this
      rw [← h1, List.getElem?_append_right (Nat.le_refl _)] at hx
      simp at hx
      subst hx
      exact he

section
variable {H : Type} {E : TypeId × Value → H} {P : Program} {w : World} {base : Nat} {spare : Nat → Bool} {held : Bool} {α : Type} {enc : α → List Value} {sz : Nat}
theorem open_list {t e : TypeId} (ht : P.underlying t = some (.slice e)) (hC : P.cellsOf e = sz) (C : Codec enc sz) {Q : α → DataW H → Prop} {fuel : Nat} {cs : List Value} {x : DataW H × List MemPlace}
    (h : DataW.trod E P w base spare held fuel t cs = some x)
    (helem : ∀ n, n < fuel → ∀ cs y, DataW.trod E P w base spare held n e cs = some y → ∃ a : α, cs = enc a ∧ Q a y.1) :
    ∃ p n cap, ∃ xs : List α, cs = [.slice p n cap] ∧ Rd w w.heap.size enc sz (.slice p n cap) xs ∧
      ((xs = [] ∧ x.1 = .nil) ∨ ∃ es sp, x.1 = .slice es sp ∧ es.length = xs.length ∧ ∀ (i : Nat) (a : α), xs[i]? = some a → ∃ d, es[i]? = some d ∧ Q a d) := by
  rcases DataW.trod_slice ht h with ⟨rfl, rfl⟩ | ⟨a, len, cap, elems, rest, n, rfl, rfl, rfl, hb, hl, hm, hlen, hel, _, _⟩
  · exact ⟨none, 0, 0, [], rfl, Rd.nil _ _, .inl ⟨rfl, rfl⟩⟩
  · have h1 : ∀ i, i < len → ∃ x : α, w.cells? base (a.add (i * sz)) sz = some (enc x) ∧ ∃ d, elems[i]? = some d ∧ Q x d.1 := by
      intro i hi
      have h2 := hel i hi
      rw [hC] at h2
      obtain ⟨y, hy⟩ : ∃ y, elems[i]? = some y := ⟨_, List.getElem?_eq_getElem (by omega)⟩
      rw [hy] at h2
      cases hc : w.cells? base (a.add (i * sz)) sz with
      | none => rw [hc] at h2; cases h2
      | some cs' =>
        rw [hc] at h2
        obtain ⟨x, rfl, hq⟩ := helem n (Nat.lt_succ_self _) cs' y h2
        exact ⟨x, rfl, y, hy, hq⟩
    obtain ⟨xs, hxl, hxs⟩ := list_of len h1
    have hpos := C.pos
    refine ⟨some a, len, cap, xs, rfl, ⟨some a, cap, by rw [hxl], by omega, hm, by simp, fun a' ha h0 => ?_⟩, .inr ⟨elems.map (·.1), rest.map (·.1), rfl, by simp [hxl, hlen], fun i x hx => ?_⟩⟩
    · cases ha
      have hcell : ∀ i x, xs[i]? = some x → ∀ j, j < sz → w.cell? ((a.add (i * sz)).add j) = (enc x)[j]? := fun i x hx => (World.cells?_some (hxs i x hx).1).2.2
      obtain ⟨x0, hx0⟩ : ∃ x0, xs[0]? = some x0 := ⟨_, List.getElem?_eq_getElem h0⟩
      have h00 := hcell 0 x0 hx0 0 hpos
      rw [List.getElem?_eq_getElem (by rw [C.len]; exact hpos)] at h00
      obtain ⟨hs, hbl⟩ := cell_some h00
      obtain ⟨b, o, sp⟩ := a
      have e0 : ((⟨b, o, sp⟩ : Addr).add (0 * sz)).add 0 = ⟨b, o, sp⟩ := by simp [Addr.add]
      rw [e0] at hs hbl
      dsimp only at hs hbl
      subst hs
      refine ⟨b, o, rfl, hbl, fun i x hx j u hu => ?_⟩
      have hj : j < sz := by rw [← C.len x]; exact (List.getElem?_eq_some_iff.1 hu).1
      have := hcell i x hx j hj
      rw [add_eq, add_eq, hu] at this
      exact this
    · obtain ⟨_, d, hd, hq⟩ := hxs i x hx
      exact ⟨d.1, by rw [List.getElem?_map, hd]; rfl, hq⟩

theorem trodF2 {t : TypeId} {f0 f1 : Field} {fuel : Nat} {cs : List Value} {x : DataW H × List MemPlace} (ht : P.underlying t = some (.struct #[f0, f1])) (h : DataW.trod E P w base spare held fuel t cs = some x) :
    ∃ y0 y1 n, fuel = n + 1 ∧ x.1 = .agg [y0.1, y1.1] ∧ cs.length = P.cellsOf t ∧ DataW.trod E P w base spare held n f0.type ((cs.drop f0.offset).take (P.cellsOf f0.type)) = some y0 ∧ DataW.trod E P w base spare held n f1.type ((cs.drop f1.offset).take (P.cellsOf f1.type)) = some y1 := by
  obtain ⟨xs, n, hfu, rfl, hl, hlen, hf⟩ := DataW.trod_struct ht h
  match xs, hlen with
  | [y0, y1], _ => exact ⟨y0, y1, n, hfu, by simp, hl, by simpa using hf 0 f0 rfl, by simpa using hf 1 f1 rfl⟩
theorem trodF3 {t : TypeId} {f0 f1 f2 : Field} {fuel : Nat} {cs : List Value} {x : DataW H × List MemPlace} (ht : P.underlying t = some (.struct #[f0, f1, f2])) (h : DataW.trod E P w base spare held fuel t cs = some x) :
    ∃ y0 y1 y2 n, fuel = n + 1 ∧ x.1 = .agg [y0.1, y1.1, y2.1] ∧ cs.length = P.cellsOf t ∧ DataW.trod E P w base spare held n f0.type ((cs.drop f0.offset).take (P.cellsOf f0.type)) = some y0 ∧ DataW.trod E P w base spare held n f1.type ((cs.drop f1.offset).take (P.cellsOf f1.type)) = some y1 ∧ DataW.trod E P w base spare held n f2.type ((cs.drop f2.offset).take (P.cellsOf f2.type)) = some y2 := by
  obtain ⟨xs, n, hfu, rfl, hl, hlen, hf⟩ := DataW.trod_struct ht h
  match xs, hlen with
  | [y0, y1, y2], _ => exact ⟨y0, y1, y2, n, hfu, by simp, hl, by simpa using hf 0 f0 rfl, by simpa using hf 1 f1 rfl, by simpa using hf 2 f2 rfl⟩
theorem trodF4 {t : TypeId} {f0 f1 f2 f3 : Field} {fuel : Nat} {cs : List Value} {x : DataW H × List MemPlace} (ht : P.underlying t = some (.struct #[f0, f1, f2, f3])) (h : DataW.trod E P w base spare held fuel t cs = some x) :
    ∃ y0 y1 y2 y3 n, fuel = n + 1 ∧ x.1 = .agg [y0.1, y1.1, y2.1, y3.1] ∧ cs.length = P.cellsOf t ∧ DataW.trod E P w base spare held n f0.type ((cs.drop f0.offset).take (P.cellsOf f0.type)) = some y0 ∧ DataW.trod E P w base spare held n f1.type ((cs.drop f1.offset).take (P.cellsOf f1.type)) = some y1 ∧ DataW.trod E P w base spare held n f2.type ((cs.drop f2.offset).take (P.cellsOf f2.type)) = some y2 ∧ DataW.trod E P w base spare held n f3.type ((cs.drop f3.offset).take (P.cellsOf f3.type)) = some y3 := by
  obtain ⟨xs, n, hfu, rfl, hl, hlen, hf⟩ := DataW.trod_struct ht h
  match xs, hlen with
  | [y0, y1, y2, y3], _ => exact ⟨y0, y1, y2, y3, n, hfu, by simp, hl, by simpa using hf 0 f0 rfl, by simpa using hf 1 f1 rfl, by simpa using hf 2 f2 rfl, by simpa using hf 3 f3 rfl⟩
theorem trodF5 {t : TypeId} {f0 f1 f2 f3 f4 : Field} {fuel : Nat} {cs : List Value} {x : DataW H × List MemPlace} (ht : P.underlying t = some (.struct #[f0, f1, f2, f3, f4])) (h : DataW.trod E P w base spare held fuel t cs = some x) :
    ∃ y0 y1 y2 y3 y4 n, fuel = n + 1 ∧ x.1 = .agg [y0.1, y1.1, y2.1, y3.1, y4.1] ∧ cs.length = P.cellsOf t ∧ DataW.trod E P w base spare held n f0.type ((cs.drop f0.offset).take (P.cellsOf f0.type)) = some y0 ∧ DataW.trod E P w base spare held n f1.type ((cs.drop f1.offset).take (P.cellsOf f1.type)) = some y1 ∧ DataW.trod E P w base spare held n f2.type ((cs.drop f2.offset).take (P.cellsOf f2.type)) = some y2 ∧ DataW.trod E P w base spare held n f3.type ((cs.drop f3.offset).take (P.cellsOf f3.type)) = some y3 ∧ DataW.trod E P w base spare held n f4.type ((cs.drop f4.offset).take (P.cellsOf f4.type)) = some y4 := by
  obtain ⟨xs, n, hfu, rfl, hl, hlen, hf⟩ := DataW.trod_struct ht h
  match xs, hlen with
  | [y0, y1, y2, y3, y4], _ => exact ⟨y0, y1, y2, y3, y4, n, hfu, by simp, hl, by simpa using hf 0 f0 rfl, by simpa using hf 1 f1 rfl, by simpa using hf 2 f2 rfl, by simpa using hf 3 f3 rfl, by simpa using hf 4 f4 rfl⟩
theorem weights_slice {t e : TypeId} (ht : P.underlying t = some (.slice e)) {es sp : List (DataW H)} {R : Nat} (h : ∀ n ∈ (DataW.slice es sp).weights P t, n ≤ R) : es.length * P.bytesOf e ≤ R ∧ ∀ d ∈ es, ∀ n ∈ d.weights P e, n ≤ R := by
  simp only [DataW.weights, ht, List.mem_cons, List.mem_append] at h
  refine ⟨?_, fun d hd n hn => h n (.inr (.inl ?_))⟩
  · have := h _ (.inl rfl)
    rw [Nat.add_mul] at this
    omega
  · clear h
    induction es with
    | nil => cases hd
    | cons d' es ih =>
      rw [DataW.weightsAll, List.mem_append]
      rcases List.mem_cons.1 hd with rfl | hd
      · exact .inl hn
      · exact .inr (ih hd)
theorem weights_struct {t : TypeId} {fs : Array Field} (ht : P.underlying t = some (.struct fs)) {ds : List (DataW H)} {R : Nat} (h : ∀ n ∈ (DataW.agg ds).weights P t, n ≤ R) {i : Nat} {f : Field} {d : DataW H} (hf : fs[i]? = some f) (hd : ds[i]? = some d) :
    ∀ n ∈ d.weights P f.type, n ≤ R := by
  intro n hn
  refine h n ?_
  simp only [DataW.weights, ht]
  exact DataW.weights_mem_each (j := i) (t := f.type) (d := d) (by simp [List.getElem?_map, hf]) hd n hn
end
end Go.Proofs.Ythgkgjcnmahacaa
end

section
/- Values of JSON as trees, and how they lie in memory. -/
set_option linter.unusedSimpArgs false
set_option linter.unusedVariables false
set_option maxRecDepth 100000
namespace Go.Proofs.Ythgkgjcnmahacaa
open Go Go.RowKit Go.ChangeShapes Go.WideShapes Go.Deep

/-- A value of JSON, as data. -/
inductive JV where
  | mk (k n : Int) (s : ByteArray) (l : List JV) (m : List (ByteArray × JV))

namespace JV
def k : JV → Int | .mk k _ _ _ _ => k
def n : JV → Int | .mk _ n _ _ _ => n
def s : JV → ByteArray | .mk _ _ s _ _ => s
def l : JV → List JV | .mk _ _ _ l _ => l
def m : JV → List (ByteArray × JV) | .mk _ _ _ _ m => m
theorem lt_l {k n : Int} {s : ByteArray} {l : List JV} {m : List (ByteArray × JV)} {i : Nat} {x : JV} (h : l[i]? = some x) : SizeOf.sizeOf x < SizeOf.sizeOf (JV.mk k n s l m) := by
  have := List.sizeOf_lt_of_mem (List.mem_of_getElem? h)
  simp only [JV.mk.sizeOf_spec]
  omega
theorem lt_m {k n : Int} {s : ByteArray} {l : List JV} {m : List (ByteArray × JV)} {i : Nat} {p : ByteArray × JV} (h : m[i]? = some p) : SizeOf.sizeOf p.2 < SizeOf.sizeOf (JV.mk k n s l m) := by
  have := List.sizeOf_lt_of_mem (List.mem_of_getElem? h)
  obtain ⟨a, b⟩ := p
  simp only [JV.mk.sizeOf_spec, Prod.mk.sizeOf_spec] at this ⊢
  omega
/-- Its numbers fit, its texts and lists have lengths that may be. -/
inductive Ok : JV → Prop
  | mk {k n : Int} {s : ByteArray} {l : List JV} {m : List (ByteArray × JV)} (hk : (Lit.int .i64 k).wf = true) (hn : (Lit.int .i64 n).wf = true) (hs : s.size ≤ 140737488351232) (hl : l.length ≤ 1759218604390) (hm : m.length ≤ 1466015503658)
      (cl : ∀ (i : Nat) (x : JV), l[i]? = some x → Ok x) (cs : ∀ (i : Nat) (p : ByteArray × JV), m[i]? = some p → p.1.size ≤ 140737488351232) (cm : ∀ (i : Nat) (p : ByteArray × JV), m[i]? = some p → Ok p.2) : Ok (.mk k n s l m)
end JV

/-- A value's own cells; a member's. -/
structure RV where
  k : Int
  n : Int
  s : ByteArray
  pl : Option Addr
  nl : Nat
  cl : Nat
  pm : Option Addr
  nm : Nat
  cm : Nat
abbrev RV.val (r : RV) : Value := .agg #[.int .i64 r.k, .int .i64 r.n, .string r.s, .slice r.pl r.nl r.cl, .slice r.pm r.nm r.cm]
def encV (r : RV) : List Value := [.int .i64 r.k, .int .i64 r.n, .string r.s, .slice r.pl r.nl r.cl, .slice r.pm r.nm r.cm]
structure RM where
  name : ByteArray
  v : RV
abbrev RM.val (r : RM) : Value := .agg #[.string r.name, .int .i64 r.v.k, .int .i64 r.v.n, .string r.v.s, .slice r.v.pl r.v.nl r.v.cl, .slice r.v.pm r.v.nm r.v.cm]
def encM (r : RM) : List Value := .string r.name :: encV r.v
theorem codecV : Codec encV 5 := ⟨fun _ => rfl, fun x u hu => by
  simp only [encV, List.mem_cons, List.not_mem_nil, or_false] at hu
  rcases hu with rfl | rfl | rfl | rfl | rfl <;> rfl, by decide⟩
theorem codecM : Codec encM 6 := ⟨fun _ => rfl, fun x u hu => by
  simp only [encM, encV, List.mem_cons, List.not_mem_nil, or_false] at hu
  rcases hu with rfl | rfl | rfl | rfl | rfl | rfl <;> rfl, by decide⟩

/-- The cells r read as the tree t, through blocks below B. -/
inductive TreeOf (w : World) (B : Nat) : JV → RV → Prop
  | mk {r : RV} {l : List JV} {m : List (ByteArray × JV)} {rs : List RV} {rms : List RM} (hl : Rd w B encV 5 (.slice r.pl r.nl r.cl) rs) (el : l.length = rs.length) (cl : ∀ (i : Nat) (t : JV) (q : RV), l[i]? = some t → rs[i]? = some q → TreeOf w B t q)
      (hm : Rd w B encM 6 (.slice r.pm r.nm r.cm) rms) (em : m.length = rms.length) (cn : ∀ (i : Nat) (p : ByteArray × JV) (q : RM), m[i]? = some p → rms[i]? = some q → p.1 = q.name)
      (cm : ∀ (i : Nat) (p : ByteArray × JV) (q : RM), m[i]? = some p → rms[i]? = some q → TreeOf w B p.2 q.v) : TreeOf w B (.mk r.k r.n r.s l m) r

theorem TreeOf.under {w w' : World} {B B' : Nat} {t : JV} {r : RV} (h : TreeOf w B t r) (hb : Below B w w') (hB : B ≤ B') : TreeOf w' B' t r := by
  induction h with
  | mk hl el cl hm em cn cm ih1 ih2 => exact .mk (hl.below hb hB) el ih1 (hm.below hb hB) em cn ih2
theorem TreeOf.mono {w : World} {B B' : Nat} {t : JV} {r : RV} (h : TreeOf w B t r) (hB : B ≤ B') : TreeOf w B' t r := h.under (Below.refl _ _) hB
theorem TreeOf.drewN {w : World} {B : Nat} {t : JV} {r : RV} (h : TreeOf w B t r) (n : Nat) : TreeOf (w.drewN n) B t r := h.under (bdn (Below.refl _ _) n) (Nat.le_refl _)

theorem slV : SlT Try.prog 22 25 5 80 := SlT.mk (z := .agg #[.int .i64 0, .int .i64 0, .string ByteArray.empty, .slice none 0 0, .slice none 0 0]) Try.underlying22 (by kernel_rfl) rfl
theorem slM : SlT Try.prog 23 90 6 96 := SlT.mk (z := .agg #[.string ByteArray.empty, .int .i64 0, .int .i64 0, .string ByteArray.empty, .slice none 0 0, .slice none 0 0]) Try.underlying23 (by kernel_rfl) rfl
theorem cellsV : Try.prog.cellsOf 25 = 5 := by kernel_rfl
theorem cellsM : Try.prog.cellsOf 90 = 6 := by kernel_rfl
theorem bytesV : Try.prog.bytesOf 25 = 80 := by kernel_rfl
theorem bytesM : Try.prog.bytesOf 90 = 96 := by kernel_rfl

#print axioms slV
end Go.Proofs.Ythgkgjcnmahacaa
end

section
/- The document's comparison of two values, walked: they are the same to the letter. -/
set_option linter.unusedSimpArgs false
set_option linter.unusedVariables false
namespace Go.Proofs.Ythgkgjcnmahacaa
open Go.RowKit Go.OpenShut

/-- A truth is told; nothing that was has turned. -/
def Said (w : World) (p : Prop) (e : Ending) (w' : World) : Prop := ∃ b : Bool, e = .returned (.bool b) ∧ (b = true ↔ p) ∧ Below w.heap.size w w'
theorem below2 (w : World) (o o' : Obj) : Below w.heap.size w ((w.alloc o).alloc o') := ((Below.refl _ _).alloc (Nat.le_refl _) _).alloc (by simp) _
theorem str_beq (a b : ByteArray) : (a.toList == b.toList) = decide (a = b) := by
  rw [ByteArray.toList_eq, ByteArray.toList_eq]
  obtain ⟨⟨x⟩⟩ := a
  obtain ⟨⟨y⟩⟩ := b
  by_cases h : x = y
  · simp [h]
  · simp [h]

theorem Said.yes {w : World} {p : Prop} {e : Ending} {w' : World} (h : Said w p e w') (hp : p) : e = .returned (.bool true) ∧ Below w.heap.size w w' := by
  obtain ⟨b, rfl, hb, h⟩ := h
  rw [hb.2 hp]; exact ⟨rfl, h⟩
theorem Said.no {w : World} {p : Prop} {e : Ending} {w' : World} (h : Said w p e w') (hp : ¬ p) : e = .returned (.bool false) ∧ Below w.heap.size w w' := by
  obtain ⟨b, rfl, hb, h⟩ := h
  cases b with
  | true => exact absurd (hb.1 rfl) hp
  | false => exact ⟨rfl, h⟩
/-- A value in a block of its own. -/
def VAt (W : World) (g : Nat) (r : RV) : Prop := W.heap[g]? = some (.cells #[.int .i64 r.k, .int .i64 r.n, .string r.s, .slice r.pl r.nl r.cl, .slice r.pm r.nm r.cm] 25 (0, 0))
theorem VAt.cell {W : World} {g : Nat} {r : RV} (h : VAt W g r) (j : Nat) {u : Value} (hu : (encV r)[j]? = some u) : W.cell? ⟨g, j, none⟩ = some u := by
  unfold VAt at h
  rw [cell_of_row W g j _ _ _ h, ← Array.getElem?_toList]
  exact hu
theorem VAt.under {W W' : World} {g B : Nat} {r : RV} (h : VAt W g r) (hb : Below B W W') (hg : g < B) : VAt W' g r := (hb.block g hg).trans h
theorem VAt.lt {W : World} {g : Nat} {r : RV} (h : VAt W g r) : g < W.heap.size := (Array.getElem?_eq_some_iff.1 h).1
theorem rd_nlen {α : Type} {enc : α → List Value} {sz B n c : Nat} {p : Option Addr} {w : World} {xs : List α} (h : Rd w B enc sz (.slice p n c) xs) : n = xs.length := by
  obtain ⟨_, _, e, _⟩ := h
  simp only [Value.slice.injEq] at e; exact e.2.1
theorem rd_at' {α : Type} {enc : α → List Value} {sz n cap k B : Nat} {w : World} {p : Option Addr} {xs : List α} (h : Rd w B enc sz (.slice p n cap) xs) {x : α} (hx : xs[k]? = some x) :
    ∃ b o, p = some ⟨b, o, none⟩ ∧ b < B ∧ ∀ j u, (enc x)[j]? = some u → w.cell? ⟨b, o + k * sz + j, none⟩ = some u := by
  obtain ⟨p', cap', he, h1, h2, h3, h4⟩ := h
  simp only [Value.slice.injEq] at he
  obtain ⟨rfl, rfl, rfl⟩ := he
  have hk := (List.getElem?_eq_some_iff.1 hx).1
  cases p with
  | none => have := h3 rfl; omega
  | some a =>
    obtain ⟨b, o, rfl, hb, hr⟩ := h4 a rfl (by omega)
    exact ⟨b, o, rfl, hb, hr k x hx⟩
theorem take_eq {α : Type} {l m : List α} {k : Nat} {x : α} (hx : l[k]? = some x) (hy : m[k]? = some x) (h : l.take k = m.take k) : l.take (k + 1) = m.take (k + 1) := by
  rw [List.take_add_one, List.take_add_one, hx, hy, h]
theorem ne_of_at {α : Type} {l m : List α} {k : Nat} {x y : α} (hx : l[k]? = some x) (hy : m[k]? = some y) (h : x ≠ y) : l ≠ m := by
  rintro rfl
  rw [hx] at hy
  exact h (by simpa using hy)

set_option maxRecDepth 100000 in
set_option maxHeartbeats 1000000 in
theorem same5_no (r q : RV) (w : World) (p : Prop) (hp : p → r.k = q.k ∧ r.n = q.n ∧ r.s = q.s ∧ r.nl = q.nl ∧ r.nm = q.nm) (hno : ¬ (r.k = q.k ∧ r.n = q.n ∧ r.s = q.s ∧ r.nl = q.nl ∧ r.nm = q.nm)) :
    Calls Try.prog 31 #[r.val, q.val] w (Said w p) := by
  obtain ⟨k1, n1, s1, pl1, nl1, cl1, pm1, nm1, cm1⟩ := r
  obtain ⟨k2, n2, s2, pl2, nl2, cl2, pm2, nm2, cm2⟩ := q
  dsimp only [RV.val] at *
  have hfin : ∀ W', Below w.heap.size w W' → Said w p (.returned (.bool false)) W' := fun W' hb => ⟨false, rfl, by simp; exact fun h => hno (hp h), hb⟩
  have HF := Lib.hid hfin
  have hB := below2 w
  clear hfin hp
  by_cases a1 : k1 = k2
  · subst a1
    by_cases a2 : n1 = n2
    · subst a2
      by_cases a3 : s1 = s2
      · subst a3
        by_cases a4 : nl1 = nl2
        · subst a4
          have a5 : ((nm1 : Int) != (nm2 : Int)) = true := by
            rw [bne_iff_ne]
            intro h
            exact hno ⟨rfl, rfl, rfl, rfl, by omega⟩
          clear hno
          go_enter Try.func31, Try.ntmps31
          go_wp2_with fail
          go_ret
          exact HF.out _ (hB _ _)
        · have a5 : ((nl1 : Int) != (nl2 : Int)) = true := by rw [bne_iff_ne]; omega
          clear hno a4
          go_enter Try.func31, Try.ntmps31
          go_wp2_with fail
          go_ret
          exact HF.out _ (hB _ _)
      · have a5 : (s1.toList == s2.toList) = false := by rw [str_beq]; simpa using a3
        clear hno a3
        go_enter Try.func31, Try.ntmps31
        go_wp2_with fail
        go_ret
        exact HF.out _ (hB _ _)
    · have a5 : (n1 != n2) = true := by simpa using a2
      clear hno a2
      go_enter Try.func31, Try.ntmps31
      go_wp2_with fail
      go_ret
      exact HF.out _ (hB _ _)
  · have a5 : (k1 != k2) = true := by simpa using a1
    clear hno a1
    go_enter Try.func31, Try.ntmps31
    go_wp2_with fail
    go_ret
    exact HF.out _ (hB _ _)

set_option maxRecDepth 100000 in
set_option maxHeartbeats 4000000 in
theorem same5_any (N : Nat) : ∀ (t u : JV) (r q : RV) (w : World), SizeOf.sizeOf t ≤ N → TreeOf w w.heap.size t r → TreeOf w w.heap.size u q → t.Ok → u.Ok →
    Calls Try.prog 31 #[r.val, q.val] w (Said w (t = u)) := by
  induction N with
  | zero => intro t u r q w hN; cases t; simp at hN
  | succ N ih =>
    intro t u r q w hN ht hu ot ou
    cases ht with
    | @mk _ l1 m1 rs1 rms1 hl1 el1 hcl1 hm1 em1 hcn1 hcm1 =>
    cases hu with
    | @mk _ l2 m2 rs2 rms2 hl2 el2 hcl2 hm2 em2 hcn2 hcm2 =>
    have eL1 := rd_nlen hl1
    have eL2 := rd_nlen hl2
    have eM1 := rd_nlen hm1
    have eM2 := rd_nlen hm2
    by_cases hall : r.k = q.k ∧ r.n = q.n ∧ r.s = q.s ∧ r.nl = q.nl ∧ r.nm = q.nm
    · obtain ⟨k1, n1, s1, pl1, nl1, cl1, pm1, nm1, cm1⟩ := r
      obtain ⟨k2, n2, s2, pl2, nl2, cl2, pm2, nm2, cm2⟩ := q
      dsimp only [RV.val] at *
      obtain ⟨rfl, rfl, rfl, rfl, rfl⟩ := hall
      cases ot with
      | mk _ _ _ bl1 bm1 okl1 oks1 okm1 =>
      cases ou with
      | mk _ _ _ bl2 bm2 okl2 oks2 okm2 =>
      have HT : Hid (∀ (k : Nat) tx ty x y, l1[k]? = some tx → l2[k]? = some ty → rs1[k]? = some x → rs2[k]? = some y → ∀ W, Below w.heap.size w W → Calls Try.prog 31 #[x.val, y.val] W (Said W (tx = ty))) :=
        fun k tx ty x y h1 h2 h3 h4 W hb => ih tx ty x y W (by have := JV.lt_l (k := k1) (n := n1) (s := s1) (m := m1) h1; omega) ((hcl1 k tx x h1 h3).under hb hb.size) ((hcl2 k ty y h2 h4).under hb hb.size) (okl1 k tx h1) (okl2 k ty h2)
      have HS : Hid (∀ (k : Nat) tx ty x y, m1[k]? = some tx → m2[k]? = some ty → rms1[k]? = some x → rms2[k]? = some y → ∀ W, Below w.heap.size w W → Calls Try.prog 31 #[x.v.val, y.v.val] W (Said W (tx.2 = ty.2))) :=
        fun k tx ty x y h1 h2 h3 h4 W hb => ih tx.2 ty.2 x.v y.v W (by have := JV.lt_m (k := k1) (n := n1) (s := s1) (l := l1) h1; omega) ((hcm1 k tx x h1 h3).under hb hb.size) ((hcm2 k ty y h2 h4).under hb hb.size) (okm1 k tx h1) (okm2 k ty h2)
      have HN1 := Lib.hid hcn1
      have HN2 := Lib.hid hcn2
      have HL1 := Lib.hid hl1
      have HL2 := Lib.hid hl2
      have HM1 := Lib.hid hm1
      have HM2 := Lib.hid hm2
      have hnl : nl1 ≤ 1759218604390 := by omega
      have hnm : nm1 ≤ 1466015503658 := by omega
      have E1 : Hid (l1.length = nl1 ∧ l2.length = nl1 ∧ rs1.length = nl1 ∧ rs2.length = nl1) := ⟨by omega, by omega, by omega, by omega⟩
      have E2 : Hid (m1.length = nm1 ∧ m2.length = nm1 ∧ rms1.length = nm1 ∧ rms2.length = nm1) := ⟨by omega, by omega, by omega, by omega⟩
      clear ih hcl1 hcl2 hcm1 hcm2 hcn1 hcn2 hl1 hl2 hm1 hm2 okl1 okl2 okm1 okm2 oks1 oks2 el1 el2 em1 em2 eL1 eL2 eM1 eM2 bl1 bl2 bm1 bm2 hN
      go_enter Try.func31, Try.ntmps31
      go_upto_region 1 with fail
      have hA0 : VAt ((w.alloc (.cells #[.int .i64 k1, .int .i64 n1, .string s1, .slice pl1 nl1 cl1, .slice pm1 nm1 cm1] 25)).alloc (.cells #[.int .i64 k1, .int .i64 n1, .string s1, .slice pl2 nl1 cl2, .slice pm2 nm1 cm2] 25)) w.heap.size ⟨k1, n1, s1, pl1, nl1, cl1, pm1, nm1, cm1⟩ := heap_alloc_lt (by simp) (heap_alloc_at rfl)
      have hA1 : VAt ((w.alloc (.cells #[.int .i64 k1, .int .i64 n1, .string s1, .slice pl1 nl1 cl1, .slice pm1 nm1 cm1] 25)).alloc (.cells #[.int .i64 k1, .int .i64 n1, .string s1, .slice pl2 nl1 cl2, .slice pm2 nm1 cm2] 25)) (w.heap.size + 1) ⟨k1, n1, s1, pl2, nl1, cl2, pm2, nm1, cm2⟩ := heap_alloc_at (by simp)
      have hB0 := below2 w (.cells #[.int .i64 k1, .int .i64 n1, .string s1, .slice pl1 nl1 cl1, .slice pm1 nm1 cm1] 25) (.cells #[.int .i64 k1, .int .i64 n1, .string s1, .slice pl2 nl1 cl2, .slice pm2 nm1 cm2] 25)
      obtain ⟨W0, hW0⟩ : ∃ W0, ((w.alloc (.cells #[.int .i64 k1, .int .i64 n1, .string s1, .slice pl1 nl1 cl1, .slice pm1 nm1 cm1] 25)).alloc (.cells #[.int .i64 k1, .int .i64 n1, .string s1, .slice pl2 nl1 cl2, .slice pm2 nm1 cm2] 25)) = W0 := ⟨_, rfl⟩
      rw [hW0] at hA0 hA1 hB0 ⊢
      clear hW0
      have HA0 := Lib.hid hA0
      have HA1 := Lib.hid hA1
      have p0 := hA0.cell 0 rfl
      have p1 := hA0.cell 1 rfl
      have p2 := hA0.cell 2 rfl
      have p3 := hA0.cell 3 rfl
      have p4 := hA0.cell 4 rfl
      have q0 := hA1.cell 0 rfl
      have q1 := hA1.cell 1 rfl
      have q2 := hA1.cell 2 rfl
      have q3 := hA1.cell 3 rfl
      have q4 := hA1.cell 4 rfl
      have hz := hA1.lt
      clear hA0 hA1
      go_wp2_with fail
      go_loopw [5] (fun i wr => ∃ k : Nat, k ≤ nl1 ∧ i = .int .i64 k ∧ Hid (l1.take k = l2.take k) ∧ Below W0.heap.size W0 wr) (fun i _ => nl1 - (intOf i).toNat)
      case atStart => exact ⟨0, Nat.zero_le _, rfl, rfl, Below.refl _ _⟩
      case round =>
        obtain ⟨k, hk, rfl, hsm, hbr⟩ := hrel
        have hbw : Below w.heap.size w wr := hB0.trans (hbr.mono (by omega))
        have p3 := bcs hbr (by omega) p3
        have q3 := bcs hbr (by omega) q3
        by_cases hlt : k < nl1
        · obtain ⟨tx, htx⟩ : ∃ x, l1[k]? = some x := ⟨_, List.getElem?_eq_getElem (by have := E1.out; omega)⟩
          obtain ⟨ty, hty⟩ : ∃ x, l2[k]? = some x := ⟨_, List.getElem?_eq_getElem (by have := E1.out; omega)⟩
          obtain ⟨x, hx⟩ : ∃ x, rs1[k]? = some x := ⟨_, List.getElem?_eq_getElem (by have := E1.out; omega)⟩
          obtain ⟨y, hy⟩ : ∃ x, rs2[k]? = some x := ⟨_, List.getElem?_eq_getElem (by have := E1.out; omega)⟩
          obtain ⟨b1, o1, rfl, hb1, hc1⟩ := rd_at' (HL1.out.below hbw (Nat.le_refl _)) hx
          obtain ⟨b2, o2, rfl, hb2, hc2⟩ := rd_at' (HL2.out.below hbw (Nat.le_refl _)) hy
          have f0 := hc1 0 _ rfl
          have f1 := hc1 1 _ rfl
          have f2 := hc1 2 _ rfl
          have f3 := hc1 3 _ rfl
          have f4 := hc1 4 _ rfl
          have g0 := hc2 0 _ rfl
          have g1 := hc2 1 _ rfl
          have g2 := hc2 2 _ rfl
          have g3 := hc2 3 _ rfl
          have g4 := hc2 4 _ rfl
          rw [Nat.add_zero] at f0 g0
          have HC := Lib.hid (HT.out k tx ty x y htx hty hx hy)
          have hk0 : (0 : Int) ≤ (k : Int) := Int.natCast_nonneg _
          have hk1 : (k : Int) < (nl1 : Int) := by omega
          have HTX := Lib.hid htx
          have HTY := Lib.hid hty
          clear hc1 hc2 htx hty hx hy
          have hzr : W0.heap.size ≤ wr.heap.size := hbr.size
          have HBR := Lib.hid hbr
          by_cases hxy : tx = ty
          · have HXY := Lib.hid hxy
            have HNX := Lib.hid (take_eq HTX.out (hxy ▸ HTY.out) hsm.out)
            clear hxy hbr
            go_wp2_with fail
            go_region_held3 (fun w' => w'.cell? ⟨w.heap.size, 3, none⟩ = some (.slice (some ⟨b1, o1, none⟩) nl1 cl1) ∧ w'.cell? ⟨w.heap.size + 1, 3, none⟩ = some (.slice (some ⟨b2, o2, none⟩) nl1 cl2) ∧
              w'.cell? ⟨b1, o1 + k * 5, none⟩ = some (.int .i64 x.k) ∧ w'.cell? ⟨b1, o1 + k * 5 + 1, none⟩ = some (.int .i64 x.n) ∧ w'.cell? ⟨b1, o1 + k * 5 + 2, none⟩ = some (.string x.s) ∧ w'.cell? ⟨b1, o1 + k * 5 + 3, none⟩ = some (.slice x.pl x.nl x.cl) ∧ w'.cell? ⟨b1, o1 + k * 5 + 4, none⟩ = some (.slice x.pm x.nm x.cm) ∧
              w'.cell? ⟨b2, o2 + k * 5, none⟩ = some (.int .i64 y.k) ∧ w'.cell? ⟨b2, o2 + k * 5 + 1, none⟩ = some (.int .i64 y.n) ∧ w'.cell? ⟨b2, o2 + k * 5 + 2, none⟩ = some (.string y.s) ∧ w'.cell? ⟨b2, o2 + k * 5 + 3, none⟩ = some (.slice y.pl y.nl y.cl) ∧ w'.cell? ⟨b2, o2 + k * 5 + 4, none⟩ = some (.slice y.pm y.nm y.cm))
              (first | go_keep | (go_split_ands; refine ⟨?_, ?_, ?_, ?_, ?_, ?_, ?_, ?_, ?_, ?_, ?_, ?_⟩ <;> (rw [hb1'.cell (by simp; omega)]; assumption)))
              ((go_at_call 31; refine (HC.out _ ?_).mono ?_; (repeat (first | exact hbw | apply Below.drew)); intro e w1 hs1; obtain ⟨rfl, hb1'⟩ := hs1.yes HXY.out))
            go_wp2_with fail
            go_roundw
            case rel => exact ⟨k + 1, by omega, by go_num, HNX, HBR.out.drew.trans (hb1'.mono (by simp; omega))⟩
            case measure => simp [intOf]; omega
          · have HXY := Lib.hid hxy
            have HNX := Lib.hid (ne_of_at HTX.out HTY.out hxy)
            clear hxy hbr
            go_wp2_with fail
            go_region_held3 (fun w' => w'.cell? ⟨w.heap.size, 3, none⟩ = some (.slice (some ⟨b1, o1, none⟩) nl1 cl1) ∧ w'.cell? ⟨w.heap.size + 1, 3, none⟩ = some (.slice (some ⟨b2, o2, none⟩) nl1 cl2) ∧
              w'.cell? ⟨b1, o1 + k * 5, none⟩ = some (.int .i64 x.k) ∧ w'.cell? ⟨b1, o1 + k * 5 + 1, none⟩ = some (.int .i64 x.n) ∧ w'.cell? ⟨b1, o1 + k * 5 + 2, none⟩ = some (.string x.s) ∧ w'.cell? ⟨b1, o1 + k * 5 + 3, none⟩ = some (.slice x.pl x.nl x.cl) ∧ w'.cell? ⟨b1, o1 + k * 5 + 4, none⟩ = some (.slice x.pm x.nm x.cm) ∧
              w'.cell? ⟨b2, o2 + k * 5, none⟩ = some (.int .i64 y.k) ∧ w'.cell? ⟨b2, o2 + k * 5 + 1, none⟩ = some (.int .i64 y.n) ∧ w'.cell? ⟨b2, o2 + k * 5 + 2, none⟩ = some (.string y.s) ∧ w'.cell? ⟨b2, o2 + k * 5 + 3, none⟩ = some (.slice y.pl y.nl y.cl) ∧ w'.cell? ⟨b2, o2 + k * 5 + 4, none⟩ = some (.slice y.pm y.nm y.cm))
              (first | go_keep | (go_split_ands; refine ⟨?_, ?_, ?_, ?_, ?_, ?_, ?_, ?_, ?_, ?_, ?_, ?_⟩ <;> (rw [hb1'.cell (by simp; omega)]; assumption)))
              ((go_at_call 31; refine (HC.out _ ?_).mono ?_; (repeat (first | exact hbw | apply Below.drew)); intro e w1 hs1; obtain ⟨rfl, hb1'⟩ := hs1.no HXY.out))
            go_wp2_with fail
            go_ret
            exact ⟨false, rfl, by simp; exact fun h => absurd h HNX.out, hbw.drew.trans (hb1'.mono hbw.size)⟩
        · obtain rfl : k = nl1 := by omega
          have hll : l1 = l2 := by
            have h := hsm.out
            have h1 := E1.out
            rw [List.take_of_length_le (by omega), List.take_of_length_le (by omega)] at h
            exact h
          subst hll
          have hz1 : W0.heap.size ≤ wr.heap.size := hbr.size
          have HB1 := Lib.hid hbr
          have p4 := bcs hbr (by omega) p4
          have q4 := bcs hbr (by omega) q4
          clear HT HL1 HL2 E1 hsm hbr
          obtain ⟨wo, rfl⟩ : ∃ wo : World, wo = wr := ⟨_, rfl⟩
          go_wp2_with fail
          clear p3 q3
          go_loopw [6] (fun i wq => ∃ k : Nat, k ≤ nm1 ∧ i = .int .i64 k ∧ Hid (m1.take k = m2.take k) ∧ Below wo.heap.size wo wq) (fun i _ => nm1 - (intOf i).toNat)
          case atStart => exact ⟨0, Nat.zero_le _, rfl, rfl, Below.refl _ _⟩
          case round =>
            obtain ⟨wq, rfl⟩ : ∃ wq : World, wq = wr := ⟨_, rfl⟩
            obtain ⟨k, hk, rfl, hsm, hbr⟩ := hrel
            have hbw2 : Below w.heap.size w wq := hbw.trans (hbr.mono (by omega))
            have p4 := bcs hbr (by omega) p4
            have q4 := bcs hbr (by omega) q4
            by_cases hlt : k < nm1
            · obtain ⟨tx, htx⟩ : ∃ x, m1[k]? = some x := ⟨_, List.getElem?_eq_getElem (by have := E2.out; omega)⟩
              obtain ⟨ty, hty⟩ : ∃ x, m2[k]? = some x := ⟨_, List.getElem?_eq_getElem (by have := E2.out; omega)⟩
              obtain ⟨x, hx⟩ : ∃ x, rms1[k]? = some x := ⟨_, List.getElem?_eq_getElem (by have := E2.out; omega)⟩
              obtain ⟨y, hy⟩ : ∃ x, rms2[k]? = some x := ⟨_, List.getElem?_eq_getElem (by have := E2.out; omega)⟩
              obtain ⟨b1, o1, rfl, hb1, hc1⟩ := rd_at' (HM1.out.below hbw2 (Nat.le_refl _)) hx
              obtain ⟨b2, o2, rfl, hb2, hc2⟩ := rd_at' (HM2.out.below hbw2 (Nat.le_refl _)) hy
              have f0 := hc1 0 _ rfl
              have f1 := hc1 1 _ rfl
              have f2 := hc1 2 _ rfl
              have f3 := hc1 3 _ rfl
              have f4 := hc1 4 _ rfl
              have f5 := hc1 5 _ rfl
              have g0 := hc2 0 _ rfl
              have g1 := hc2 1 _ rfl
              have g2 := hc2 2 _ rfl
              have g3 := hc2 3 _ rfl
              have g4 := hc2 4 _ rfl
              have g5 := hc2 5 _ rfl
              rw [Nat.add_zero] at f0 g0
              have HC := Lib.hid (HS.out k tx ty x y htx hty hx hy)
              have hk0 : (0 : Int) ≤ (k : Int) := Int.natCast_nonneg _
              have hk1 : (k : Int) < (nm1 : Int) := by omega
              have HTX := Lib.hid htx
              have HTY := Lib.hid hty
              have en1 := HN1.out k tx x htx hx
              have en2 := HN2.out k ty y hty hy
              clear hc1 hc2 htx hty hx hy
              have hzr : W0.heap.size ≤ wq.heap.size := by have := hbr.size; omega
              have hzq : wo.heap.size ≤ wq.heap.size := hbr.size
              have HBR := Lib.hid hbr
              by_cases hnm : x.name = y.name
              · have hq : (x.name.toList == y.name.toList) = true := by rw [str_beq]; simpa using hnm
                have hqn : (x.name.toList != y.name.toList) = false := by rw [bne, hq]; rfl
                by_cases hxy : tx.2 = ty.2
                · have HXY := Lib.hid hxy
                  have hxe : tx = ty := Prod.ext (by rw [en1, en2]; exact hnm) hxy
                  have HNX := Lib.hid (take_eq HTX.out (hxe ▸ HTY.out) hsm.out)
                  clear hxy hxe en1 en2 hbr hnm
                  go_wp2_with fail
                  go_region_held3 (fun w' => w'.cell? ⟨w.heap.size, 4, none⟩ = some (.slice (some ⟨b1, o1, none⟩) nm1 cm1) ∧ w'.cell? ⟨w.heap.size + 1, 4, none⟩ = some (.slice (some ⟨b2, o2, none⟩) nm1 cm2) ∧
                w'.cell? ⟨b1, o1 + k * 6, none⟩ = some (.string x.name) ∧ w'.cell? ⟨b1, o1 + k * 6 + 1, none⟩ = some (.int .i64 x.v.k) ∧ w'.cell? ⟨b1, o1 + k * 6 + 2, none⟩ = some (.int .i64 x.v.n) ∧ w'.cell? ⟨b1, o1 + k * 6 + 3, none⟩ = some (.string x.v.s) ∧ w'.cell? ⟨b1, o1 + k * 6 + 4, none⟩ = some (.slice x.v.pl x.v.nl x.v.cl) ∧ w'.cell? ⟨b1, o1 + k * 6 + 5, none⟩ = some (.slice x.v.pm x.v.nm x.v.cm) ∧
                w'.cell? ⟨b2, o2 + k * 6, none⟩ = some (.string y.name) ∧ w'.cell? ⟨b2, o2 + k * 6 + 1, none⟩ = some (.int .i64 y.v.k) ∧ w'.cell? ⟨b2, o2 + k * 6 + 2, none⟩ = some (.int .i64 y.v.n) ∧ w'.cell? ⟨b2, o2 + k * 6 + 3, none⟩ = some (.string y.v.s) ∧ w'.cell? ⟨b2, o2 + k * 6 + 4, none⟩ = some (.slice y.v.pl y.v.nl y.v.cl) ∧ w'.cell? ⟨b2, o2 + k * 6 + 5, none⟩ = some (.slice y.v.pm y.v.nm y.v.cm))
                    (first | go_keep | (go_split_ands; refine ⟨?_, ?_, ?_, ?_, ?_, ?_, ?_, ?_, ?_, ?_, ?_, ?_, ?_, ?_⟩ <;> (rw [hb1'.cell (by simp; omega)]; assumption)))
                    ((go_at_call 31; refine (HC.out _ ?_).mono ?_; (repeat (first | exact hbw2 | apply Below.drew)); intro e w1 hs1; obtain ⟨rfl, hb1'⟩ := hs1.yes HXY.out))
                  go_wp2_with fail
                  go_roundw
                  case rel => exact ⟨k + 1, by omega, by go_num, HNX, HBR.out.drew.trans (hb1'.mono (by simp; omega))⟩
                  case measure => simp [intOf]; omega
                · have HXY := Lib.hid hxy
                  have HNX := Lib.hid (ne_of_at HTX.out HTY.out (fun e => hxy (by rw [e])))
                  clear hxy en1 en2 hbr hnm
                  go_wp2_with fail
                  go_region_held3 (fun w' => w'.cell? ⟨w.heap.size, 4, none⟩ = some (.slice (some ⟨b1, o1, none⟩) nm1 cm1) ∧ w'.cell? ⟨w.heap.size + 1, 4, none⟩ = some (.slice (some ⟨b2, o2, none⟩) nm1 cm2) ∧
                w'.cell? ⟨b1, o1 + k * 6, none⟩ = some (.string x.name) ∧ w'.cell? ⟨b1, o1 + k * 6 + 1, none⟩ = some (.int .i64 x.v.k) ∧ w'.cell? ⟨b1, o1 + k * 6 + 2, none⟩ = some (.int .i64 x.v.n) ∧ w'.cell? ⟨b1, o1 + k * 6 + 3, none⟩ = some (.string x.v.s) ∧ w'.cell? ⟨b1, o1 + k * 6 + 4, none⟩ = some (.slice x.v.pl x.v.nl x.v.cl) ∧ w'.cell? ⟨b1, o1 + k * 6 + 5, none⟩ = some (.slice x.v.pm x.v.nm x.v.cm) ∧
                w'.cell? ⟨b2, o2 + k * 6, none⟩ = some (.string y.name) ∧ w'.cell? ⟨b2, o2 + k * 6 + 1, none⟩ = some (.int .i64 y.v.k) ∧ w'.cell? ⟨b2, o2 + k * 6 + 2, none⟩ = some (.int .i64 y.v.n) ∧ w'.cell? ⟨b2, o2 + k * 6 + 3, none⟩ = some (.string y.v.s) ∧ w'.cell? ⟨b2, o2 + k * 6 + 4, none⟩ = some (.slice y.v.pl y.v.nl y.v.cl) ∧ w'.cell? ⟨b2, o2 + k * 6 + 5, none⟩ = some (.slice y.v.pm y.v.nm y.v.cm))
                    (first | go_keep | (go_split_ands; refine ⟨?_, ?_, ?_, ?_, ?_, ?_, ?_, ?_, ?_, ?_, ?_, ?_, ?_, ?_⟩ <;> (rw [hb1'.cell (by simp; omega)]; assumption)))
                    ((go_at_call 31; refine (HC.out _ ?_).mono ?_; (repeat (first | exact hbw2 | apply Below.drew)); intro e w1 hs1; obtain ⟨rfl, hb1'⟩ := hs1.no HXY.out))
                  go_wp2_with fail
                  go_ret
                  exact ⟨false, rfl, by simp; exact fun h => absurd h HNX.out, hbw2.drew.trans (hb1'.mono hbw2.size)⟩
              · have hq : (x.name.toList == y.name.toList) = false := by rw [str_beq]; simpa using hnm
                have hqn : (x.name.toList != y.name.toList) = true := by rw [bne, hq]; rfl
                have HNX := Lib.hid (ne_of_at HTX.out HTY.out (fun e => hnm (by rw [← en1, ← en2, e])))
                clear hnm en1 en2 hbr
                go_wp2_with fail
                go_quiet (fail)
                go_wp2_with fail
                go_ret
                exact ⟨false, rfl, by simp; exact fun h => absurd h HNX.out, bdn hbw2 _⟩
            · obtain rfl : k = nm1 := by omega
              have hmm : m1 = m2 := by
                have h := hsm.out
                have h1 := E2.out
                rw [List.take_of_length_le (by omega), List.take_of_length_le (by omega)] at h
                exact h
              have HMM := Lib.hid hmm
              clear hmm
              go_wp2_with fail
              go_ret
              exact ⟨true, rfl, by rw [HMM.out]; simp, hbw2⟩
    · refine same5_no r q w _ (fun h => ?_) hall
      simp only [JV.mk.injEq] at h
      obtain ⟨h1, h2, h3, h4, h5⟩ := h
      subst h4 h5
      exact ⟨h1, h2, h3, by omega, by omega⟩
end Go.Proofs.Ythgkgjcnmahacaa
end

section
/- Where a member stands; what is found; walked. -/
set_option linter.unusedSimpArgs false
set_option linter.unusedVariables false
namespace Go.Proofs.Ythgkgjcnmahacaa
open Go.RowKit Go.OpenShut

/-- A map's members (of another value: none). -/
def JV.mem : JV → List (ByteArray × JV) | .mk k _ _ _ m => if k = 6 then m else []
/-- The place of the first member of a name. -/
def JV.place (t : JV) (name : ByteArray) : Option Nat := t.mem.findIdx? (fun p => decide (p.1 = name))
def JV.get (t : JV) (name : ByteArray) : Option JV := (t.place name).bind fun i => t.mem[i]?.map (·.2)
def JV.zero : JV := .mk 0 0 ⟨#[]⟩ [] []
def RV.zero : RV := ⟨0, 0, ⟨#[]⟩, none, 0, 0, none, 0, 0⟩
theorem TreeOf.zero (w : World) (B : Nat) : TreeOf w B JV.zero RV.zero :=
  TreeOf.mk (r := RV.zero) (rs := []) (rms := []) (Rd.nil _ _) rfl (fun i t q h => by simp at h) (Rd.nil _ _) rfl (fun i p q h => by simp at h) (fun i p q h => by simp at h)
def placeI (o : Option Nat) : Int := match o with
  | some i => i
  | none => -1
theorem find_at {α : Type} {p : α → Bool} {l : List α} {k : Nat} {x : α} (hx : l[k]? = some x) (hp : p x = true) (hno : ∀ (j : Nat) (y : α), j < k → l[j]? = some y → p y = false) : l.findIdx? p = some k := by
  rw [List.findIdx?_eq_some_iff_getElem]
  obtain ⟨h, e⟩ := List.getElem?_eq_some_iff.1 hx
  refine ⟨h, by rw [e]; exact hp, fun j hj => ?_⟩
  have := hno j _ hj (List.getElem?_eq_getElem (by omega))
  simpa using this
theorem find_not {α : Type} {p : α → Bool} {l : List α} (hno : ∀ (j : Nat) (y : α), l[j]? = some y → p y = false) : l.findIdx? p = none := by
  rw [List.findIdx?_eq_none_iff]
  intro x hx
  obtain ⟨i, hi⟩ := List.getElem?_of_mem hx
  exact hno i x hi
theorem ret_int {k : IntKind} {a b : Int} (h : a = b) : Ending.returned (.int k a) = .returned (.int k b) := by rw [h]

set_option maxRecDepth 100000 in
set_option maxHeartbeats 2000000 in
theorem place_any (t : JV) (r : RV) (name : ByteArray) (w : World) (ht : TreeOf w w.heap.size t r) (ot : t.Ok) :
    Calls Try.prog 78 #[r.val, .string name] w fun e w' => e = .returned (.int .i64 (placeI (t.place name))) ∧ Below w.heap.size w w' := by
  cases ht with
  | @mk _ l m rs rms hl el hcl hm em hcn hcm =>
  obtain ⟨k, n, s, pl, nl, cl, pm, nm, cm⟩ := r
  cases ot with
  | mk _ _ _ bl bm okl oks okm =>
  dsimp only [RV.val] at *
  have eM := rd_nlen hm
  have hA0 : VAt (w.alloc (.cells #[.int .i64 k, .int .i64 n, .string s, .slice pl nl cl, .slice pm nm cm] 25)) w.heap.size ⟨k, n, s, pl, nl, cl, pm, nm, cm⟩ := heap_alloc_at rfl
  have hB0 : Below w.heap.size w (w.alloc (.cells #[.int .i64 k, .int .i64 n, .string s, .slice pl nl cl, .slice pm nm cm] 25)) := (Below.refl _ _).alloc (Nat.le_refl _) _
  have HN := Lib.hid hcn
  have HM := Lib.hid hm
  have E2 : Hid (m.length = nm ∧ rms.length = nm) := ⟨by omega, by omega⟩
  have hnm : nm ≤ 1466015503658 := by omega
  clear hcl hcn hcm hl hm okl oks okm el em bl bm eM
  by_cases hk : k = 6
  · subst hk
    have hpl : (JV.mk 6 n s l m).place name = m.findIdx? (fun p => decide (p.1 = name)) := by simp [JV.place, JV.mem]
    rw [hpl]
    clear hpl
    go_enter Try.func78, Try.ntmps78
    go_wp2_with fail
    go_loopw [13] (fun i wr => ∃ k : Nat, k ≤ nm ∧ i = .int .i64 k ∧ Hid (∀ j y, j < k → m[j]? = some y → decide (y.1 = name) = false) ∧ Below w.heap.size w wr) (fun i _ => nm - (intOf i).toNat)
    case atStart => exact ⟨0, Nat.zero_le _, rfl, fun j y h => by omega, hB0⟩
    case round =>
      obtain ⟨k, hk, rfl, hno, hbr⟩ := hrel
      have HNO := Lib.hid hno.out
      clear hno
      by_cases hlt : k < nm
      · obtain ⟨tx, htx⟩ : ∃ x, m[k]? = some x := ⟨_, List.getElem?_eq_getElem (by have := E2.out; omega)⟩
        obtain ⟨x, hx⟩ : ∃ x, rms[k]? = some x := ⟨_, List.getElem?_eq_getElem (by have := E2.out; omega)⟩
        obtain ⟨b1, o1, rfl, hb1, hc1⟩ := rd_at' (HM.out.below hbr (Nat.le_refl _)) hx
        have f0 := hc1 0 _ rfl
        have f1 := hc1 1 _ rfl
        have f2 := hc1 2 _ rfl
        have f3 := hc1 3 _ rfl
        have f4 := hc1 4 _ rfl
        have f5 := hc1 5 _ rfl
        rw [Nat.add_zero] at f0
        have en := HN.out k tx x htx hx
        have HTX := Lib.hid htx
        have hz := hbr.size
        have HBR := Lib.hid hbr
        clear hc1 htx hx hbr
        by_cases hnx : x.name = name
        · have hq : (x.name.toList == name.toList) = true := by rw [str_beq]; simpa using hnx
          have HF := Lib.hid (find_at (p := fun p : ByteArray × JV => decide (p.1 = name)) HTX.out (by rw [en]; simpa using hnx) HNO.out)
          clear hnx en
          go_wp2_with fail
          go_ret
          exact ⟨ret_int (by rw [HF.out]; rfl), HBR.out.alloc hz _⟩
        · have hq : (x.name.toList == name.toList) = false := by rw [str_beq]; simpa using hnx
          have HNX : Hid (∀ j y, j < k + 1 → m[j]? = some y → decide (y.1 = name) = false) := by
            intro j y hj hy
            by_cases e : j = k
            · subst e
              have h := HTX.out
              rw [hy] at h
              cases h
              rw [en]; simpa using hnx
            · exact HNO.out j y (by omega) hy
          clear hnx en
          go_wp2_with fail
          go_roundw
          case rel => exact ⟨k + 1, by omega, by go_num, HNX, HBR.out.alloc hz _⟩
          case measure => simp [intOf]; omega
      · obtain rfl : k = nm := by omega
        have HF := Lib.hid (find_not (p := fun p : ByteArray × JV => decide (p.1 = name)) (l := m) (fun j y hy => HNO.out j y (by have := (List.getElem?_eq_some_iff.1 hy).1; have := E2.out; omega) hy))
        go_wp2_with fail
        go_ret
        exact ⟨ret_int (by rw [HF.out]; rfl), hbr⟩
  · have hpl : placeI ((JV.mk k n s l m).place name) = -1 := by simp [JV.place, JV.mem, hk, placeI]
    have HP := Lib.hid hpl
    have hq : (k != 6) = true := by simpa using hk
    clear hpl hk
    go_enter Try.func78, Try.ntmps78
    go_wp2_with fail
    go_ret
    exact ⟨ret_int HP.out.symm, hB0⟩
end Go.Proofs.Ythgkgjcnmahacaa
end

section
/- slices.Clone at api.Member, walked: a slice of the call's own with the same elements. -/
set_option linter.unusedSimpArgs false
set_option linter.unusedVariables false
namespace Go.Proofs.Ythgkgjcnmahacaa
open Go.RowKit

set_option maxRecDepth 100000 in
set_option maxHeartbeats 400000 in
theorem cloneM_any {α : Type} {enc : α → List Value} (C : Codec enc 6) (w : World) (p : Option Addr) (n c : Nat) (xs : List α) (hv : Rd w w.heap.size enc 6 (.slice p n c) xs) (hsz : xs.length * 96 ≤ 140737488355328) :
    Calls Try.prog 76 #[.slice p n c] w fun e w' => ∃ p' c', e = .returned (.slice p' n c') ∧ (p = none ↔ p' = none) ∧ Own w' w.heap.size 90 enc 6 (.slice p' n c') xs ∧ Below w.heap.size w w' := by
  have hn : n = xs.length := by
    obtain ⟨_, _, e, _⟩ := hv
    simp only [Value.slice.injEq] at e; exact e.2.1
  subst hn
  have HS := Lib.hid hsz
  have HV := Lib.hid hv
  cases p with
  | none =>
    have h0 : xs.length = 0 ∧ c = 0 := by
      obtain ⟨p', cap, he, hlc, hcm, hp0, hp⟩ := hv
      simp only [Value.slice.injEq] at he
      obtain ⟨rfl, h1, rfl⟩ := he
      have := hp0 rfl
      omega
    obtain ⟨h0, rfl⟩ := h0
    obtain rfl := List.eq_nil_of_length_eq_zero h0
    have hnil : ∀ W, (Go.binOp .eql 23 (.slice none 0 0) (.slice none 0 0)).run Try.prog W = .ok (.bool true) W := fun W => Lib.run_eql_slice_nil W 23 90 none 0 0 0 0 Try.underlying23
    clear hv
    go_enter Try.func76, Try.ntmps76
    go_wp2
    go_ret
    exact ⟨none, 0, rfl, by simp, Own.nil w _ _, Below.refl _ _⟩
  | some a =>
    have hnil : ∀ W, (Go.binOp .eql 23 (.slice (some a) xs.length c) (.slice none 0 0)).run Try.prog W = .ok (.bool false) W := fun W => Lib.run_eql_slice_nil W 23 90 (some a) xs.length c 0 0 Try.underlying23
    have hO : Own (w.alloc (.cells #[] 90)) w.heap.size 90 enc 6 (.slice (some ⟨w.heap.size, 0, none⟩) 0 0) ([] : List α) := Own.made (Nat.le_refl _)
    have hB0 : Below w.heap.size w (w.alloc (.cells #[] 90)) := (Below.refl _ _).alloc (Nat.le_refl _) _
    have HR := Lib.hid (HV.out.below hB0 (Nat.le_refl _))
    clear hv
    go_enter Try.func76, Try.ntmps76
    go_wp2_with (at_builtin; refine wpList_append_rd slM C (w.alloc (.cells #[] 90)) rfl (.tmp 5) (.tmp 6) rfl (v := .slice (some ⟨w.heap.size, 0, none⟩) 0 0) rfl rfl hO HR.out (by have := HS.out; simp; unfold maxLen; omega) (by have := HS.out; simp; omega) (by simp) ?_; intro v1 w1 ho1 hg1 hat1)
    have hb1 : Below w.heap.size w w1 := Below.appended hB0 hg1 hO (by simp)
    rw [List.nil_append] at ho1
    obtain ⟨p1, c1, rfl, _, _⟩ := ho1.len
    have hp1 : p1 ≠ none := by
      rintro rfl
      rcases hat1 with h | h <;> simp [Value.ownBlock] at h
    go_ret
    refine ⟨p1, c1, rfl, ⟨(fun h => by cases h), (fun h => absurd h hp1)⟩, ho1, hb1⟩
end Go.Proofs.Ythgkgjcnmahacaa
end

section
/- A member found; a map's own list of members; walked. -/
set_option linter.unusedSimpArgs false
set_option linter.unusedVariables false
namespace Go.Proofs.Ythgkgjcnmahacaa
open Go.RowKit Go.OpenShut

/-- A value and a truth are told. -/
def GetRet (w : World) (o : Option JV) (e : Ending) (w' : World) : Prop :=
  ∃ r b, e = .returned (.tuple #[RV.val r, .bool b]) ∧ b = o.isSome ∧ TreeOf w' w'.heap.size (o.getD JV.zero) r ∧ Below w.heap.size w w'

theorem getM {m : List (ByteArray × JV)} {name : ByteArray} {i : Nat} (h : m.findIdx? (fun p => decide (p.1 = name)) = some i) : ∃ p, m[i]? = some p ∧ p.1 = name := by
  rw [List.findIdx?_eq_some_iff_getElem] at h
  obtain ⟨h1, h2, _⟩ := h
  exact ⟨m[i], List.getElem?_eq_getElem h1, by simpa using h2⟩
theorem place_mem {t : JV} {name : ByteArray} {i : Nat} (h : t.place name = some i) : ∃ p, t.m[i]? = some p ∧ t.k = 6 ∧ t.get name = some p.2 := by
  obtain ⟨k, n, s, l, m⟩ := t
  have hp := h
  by_cases hk : k = 6
  · subst hk
    have e : (JV.mk 6 n s l m).mem = m := rfl
    unfold JV.place at h
    rw [e] at h
    obtain ⟨p, h1, h2⟩ := getM h
    refine ⟨p, h1, rfl, ?_⟩
    unfold JV.get
    rw [hp, e]
    simp [h1]
  · have e : (JV.mk k n s l m).mem = [] := by simp [JV.mem, hk]
    unfold JV.place at h
    rw [e] at h
    simp at h
/-- Five cells stored. -/
theorem VAt.stored {W : World} {g : Nat} {r : RV} (h : VAt W g r) (q : RV) :
    VAt (((((W.setCell ⟨g, 0, none⟩ (.int .i64 q.k)).setCell ⟨g, 1, none⟩ (.int .i64 q.n)).setCell ⟨g, 2, none⟩ (.string q.s)).setCell ⟨g, 3, none⟩ (.slice q.pl q.nl q.cl)).setCell ⟨g, 4, none⟩ (.slice q.pm q.nm q.cm)) g q := by
  unfold VAt at h ⊢
  simp [World.setCell, Array.getElem?_modify, h]
theorem VAt.frozen {W : World} {g : Nat} {r : RV} (h : VAt W g r) (j : Nat) : W.frozen? ⟨g, j, none⟩ = false := by
  unfold VAt at h
  simp [World.frozen?, h]
theorem Below.stored {B g : Nat} {w W : World} (h : Below B w W) (hg : B ≤ g) (q : RV) :
    Below B w (((((W.setCell ⟨g, 0, none⟩ (.int .i64 q.k)).setCell ⟨g, 1, none⟩ (.int .i64 q.n)).setCell ⟨g, 2, none⟩ (.string q.s)).setCell ⟨g, 3, none⟩ (.slice q.pl q.nl q.cl)).setCell ⟨g, 4, none⟩ (.slice q.pm q.nm q.cm)) :=
  ((((h.setCell (p := ⟨g, 0, none⟩) hg _).setCell (p := ⟨g, 1, none⟩) hg _).setCell (p := ⟨g, 2, none⟩) hg _).setCell (p := ⟨g, 3, none⟩) hg _).setCell (p := ⟨g, 4, none⟩) hg _

set_option maxRecDepth 100000 in
set_option maxHeartbeats 2000000 in
theorem get_any (t : JV) (r : RV) (name : ByteArray) (w : World) (ht : TreeOf w w.heap.size t r) (ot : t.Ok) :
    Calls Try.prog 51 #[r.val, .string name] w (GetRet w (t.get name)) := by
  obtain ⟨k, n, s, pl, nl, cl, pm, nm, cm⟩ := r
  dsimp only [RV.val] at *
  have HT := Lib.hid ht
  have HO := Lib.hid ot
  have hA0 : VAt ((w.alloc (.cells #[.int .i64 k, .int .i64 n, .string s, .slice pl nl cl, .slice pm nm cm] 25)).alloc (.cells #[.int .i64 0, .int .i64 0, .string ⟨#[]⟩, .slice none 0 0, .slice none 0 0] 25)) w.heap.size ⟨k, n, s, pl, nl, cl, pm, nm, cm⟩ := heap_alloc_lt (by simp) (heap_alloc_at rfl)
  have hA1 : VAt ((w.alloc (.cells #[.int .i64 k, .int .i64 n, .string s, .slice pl nl cl, .slice pm nm cm] 25)).alloc (.cells #[.int .i64 0, .int .i64 0, .string ⟨#[]⟩, .slice none 0 0, .slice none 0 0] 25)) (w.heap.size + 1) RV.zero := heap_alloc_at (by simp)
  have hB0 := below2 w (.cells #[.int .i64 k, .int .i64 n, .string s, .slice pl nl cl, .slice pm nm cm] 25) (.cells #[.int .i64 0, .int .i64 0, .string ⟨#[]⟩, .slice none 0 0, .slice none 0 0] 25)
  clear ht ot
  go_enter Try.func51, Try.ntmps51
  go_upto_region 1 with fail
  obtain ⟨W0, hW0⟩ : ∃ W0, ((w.alloc (.cells #[.int .i64 k, .int .i64 n, .string s, .slice pl nl cl, .slice pm nm cm] 25)).alloc (.cells #[.int .i64 0, .int .i64 0, .string ⟨#[]⟩, .slice none 0 0, .slice none 0 0] 25)) = W0 := ⟨_, rfl⟩
  rw [hW0] at hA0 hA1 hB0 ⊢
  clear hW0
  have p0 := hA0.cell 0 rfl
  have p1 := hA0.cell 1 rfl
  have p2 := hA0.cell 2 rfl
  have p3 := hA0.cell 3 rfl
  have p4 := hA0.cell 4 rfl
  go_upto_region 2 with (go_at_call 78; refine (place_any t ⟨k, n, s, pl, nl, cl, pm, nm, cm⟩ name _ (HT.out.under hB0 hB0.size) HO.out).mono ?_; rintro e w1 ⟨rfl, hb1⟩)
  have hzz : w.heap.size + 1 < W0.heap.size := hA1.lt
  have HA1 : VAt w1 (w.heap.size + 1) RV.zero := hA1.under hb1 hzz
  have HA0 : VAt w1 w.heap.size ⟨k, n, s, pl, nl, cl, pm, nm, cm⟩ := hA0.under hb1 (by omega)
  have HB1 := hB0.trans (hb1.mono hB0.size)
  have hTw := Lib.hid (HT.out.under HB1 (Nat.le_refl _))
  clear p0 p1 p2 p3 p4 hA0 hA1 hB0 hb1
  have z0 := HA1.cell 0 rfl
  have z1 := HA1.cell 1 rfl
  have z2 := HA1.cell 2 rfl
  have z3 := HA1.cell 3 rfl
  have z4 := HA1.cell 4 rfl
  have y0 := HA1.frozen 0
  have y1 := HA1.frozen 1
  have y2 := HA1.frozen 2
  have y3 := HA1.frozen 3
  have y4 := HA1.frozen 4
  have p4 := HA0.cell 4 rfl
  dsimp only [RV.zero] at z0 z1 z2 z3 z4 p4
  have HZ := Lib.hid HA1
  clear HA1 HA0
  generalize hp : t.place name = o
  cases o with
  | none =>
    have HG : Hid (t.get name = none) := by unfold Hid JV.get; rw [hp]; rfl
    have hn : placeI (none : Option Nat) = -1 := rfl
    rw [hn]
    clear hp hn
    go_wp2_with fail
    have HZ2 := HZ.out.stored RV.zero
    refine bodyPost_ret (v := .tuple #[RV.val RV.zero, .bool false]) (by simp [results, Try.results51, go_sem, RV.zero, z0, z1, z2, z3, z4]) rfl ⟨RV.zero, false, rfl, by rw [HG.out]; rfl, by rw [HG.out]; exact TreeOf.zero _ _, Below.stored HB1 (by omega) RV.zero⟩
  | some i =>
    obtain ⟨p, hm1, hk6, hget⟩ := place_mem hp
    have HG := Lib.hid hget
    have hn : placeI (some i) = (i : Int) := rfl
    rw [hn]
    clear hp hn hget
    have hT2 := hTw.out
    generalize hr : (⟨k, n, s, pl, nl, cl, pm, nm, cm⟩ : RV) = r at hT2
    cases hT2 with
    | @mk _ l m rs rms hl el hcl hm em hcn hcm =>
    subst hr
    dsimp only [JV.m] at *
    have hi := (List.getElem?_eq_some_iff.1 hm1).1
    obtain ⟨q, hq⟩ : ∃ q, rms[i]? = some q := ⟨_, List.getElem?_eq_getElem (by omega)⟩
    obtain ⟨b1, o1, rfl, hb1, hc1⟩ := rd_at' hm hq
    have HTq := Lib.hid (hcm i p q hm1 hq)
    have f0 := hc1 0 _ rfl
    have f1 := hc1 1 _ rfl
    have f2 := hc1 2 _ rfl
    have f3 := hc1 3 _ rfl
    have f4 := hc1 4 _ rfl
    have f5 := hc1 5 _ rfl
    have hi0 : (0 : Int) ≤ (i : Int) := Int.natCast_nonneg _
    have hi1 : (i : Int) < (nm : Int) := by have := rd_nlen hm; omega
    clear hcl hcn hcm hl hm em el hc1 hm1 hq
    go_wp2_with fail
    have HZ2 := HZ.out.stored q.v
    have HBs : Below w1.heap.size w1 w1 := Below.refl _ _
    refine bodyPost_ret (v := .tuple #[RV.val q.v, .bool true]) (by simp [results, Try.results51, go_sem, z0, z1, z2, z3, z4]) rfl ⟨q.v, true, rfl, by rw [HG.out]; rfl, ?_, Below.stored HB1 (by omega) q.v⟩
    rw [HG.out]
    exact HTq.out.under (Below.stored (Below.refl _ _) (by omega) q.v) (by have := HB1.size; simp; omega)
end Go.Proofs.Ythgkgjcnmahacaa
end

section
/- A map with another member; walked. -/
set_option linter.unusedSimpArgs false
set_option linter.unusedVariables false
namespace Go.Proofs.Ythgkgjcnmahacaa
open Go.RowKit Go.OpenShut

/-- Members' cells read as members. -/
structure MemsOf (w : World) (B : Nat) (ms : List (ByteArray × JV)) (rms : List RM) : Prop where
  len : ms.length = rms.length
  name : ∀ (i : Nat) (p : ByteArray × JV) (q : RM), ms[i]? = some p → rms[i]? = some q → p.1 = q.name
  val : ∀ (i : Nat) (p : ByteArray × JV) (q : RM), ms[i]? = some p → rms[i]? = some q → TreeOf w B p.2 q.v
theorem MemsOf.under {w w' : World} {B B' : Nat} {ms : List (ByteArray × JV)} {rms : List RM} (h : MemsOf w B ms rms) (hb : Below B w w') (hB : B ≤ B') : MemsOf w' B' ms rms :=
  ⟨h.len, h.name, fun i p q h1 h2 => (h.val i p q h1 h2).under hb hB⟩
theorem MemsOf.nil (w : World) (B : Nat) : MemsOf w B [] [] := ⟨rfl, fun i p q h => by simp at h, fun i p q h => by simp at h⟩
theorem MemsOf.set {w : World} {B : Nat} {ms : List (ByteArray × JV)} {rms : List RM} (h : MemsOf w B ms rms) (i : Nat) {p : ByteArray × JV} {q : RM} (hn : p.1 = q.name) (ht : TreeOf w B p.2 q.v) : MemsOf w B (ms.set i p) (rms.set i q) := by
  refine ⟨by rw [List.length_set, List.length_set, h.len], fun j a b h1 h2 => ?_, fun j a b h1 h2 => ?_⟩
  · rw [List.getElem?_set] at h1 h2
    split at h1
    · rename_i e
      rw [if_pos e] at h2
      split at h1
      · rw [if_pos (by rw [← h.len]; assumption)] at h2
        cases h1; cases h2; exact hn
      · cases h1
    · rename_i e
      rw [if_neg e] at h2
      exact h.name j a b h1 h2
  · rw [List.getElem?_set] at h1 h2
    split at h1
    · rename_i e
      rw [if_pos e] at h2
      split at h1
      · rw [if_pos (by rw [← h.len]; assumption)] at h2
        cases h1; cases h2; exact ht
      · cases h1
    · rename_i e
      rw [if_neg e] at h2
      exact h.val j a b h1 h2
theorem MemsOf.snoc {w : World} {B : Nat} {ms : List (ByteArray × JV)} {rms : List RM} (h : MemsOf w B ms rms) {p : ByteArray × JV} {q : RM} (hn : p.1 = q.name) (ht : TreeOf w B p.2 q.v) : MemsOf w B (ms ++ [p]) (rms ++ [q]) := by
  have key : ∀ (j : Nat) (a : ByteArray × JV) (b : RM), (ms ++ [p])[j]? = some a → (rms ++ [q])[j]? = some b → (ms[j]? = some a ∧ rms[j]? = some b) ∨ (a = p ∧ b = q) := by
    intro j a b h1 h2
    have hl := h.len
    by_cases hj : j < ms.length
    · rw [List.getElem?_append_left hj] at h1
      rw [List.getElem?_append_left (by omega)] at h2
      exact .inl ⟨h1, h2⟩
    · rw [List.getElem?_append_right (by omega)] at h1 h2
      have : j - ms.length = 0 := by
        have := (List.getElem?_eq_some_iff.1 h1).1
        simp at this; omega
      rw [this] at h1
      rw [← hl, this] at h2
      simp at h1 h2
      exact .inr ⟨h1.symm, h2.symm⟩
  refine ⟨by simp [h.len], fun j a b h1 h2 => ?_, fun j a b h1 h2 => ?_⟩
  · rcases key j a b h1 h2 with ⟨h1, h2⟩ | ⟨rfl, rfl⟩
    · exact h.name j a b h1 h2
    · exact hn
  · rcases key j a b h1 h2 with ⟨h1, h2⟩ | ⟨rfl, rfl⟩
    · exact h.val j a b h1 h2
    · exact ht
theorem TreeOf.mems {w : World} {B : Nat} {t : JV} {r : RV} (h : TreeOf w B t r) : ∃ rms, Rd w B encM 6 (.slice r.pm r.nm r.cm) rms ∧ MemsOf w B t.m rms ∧ t.k = r.k := by
  cases h with
  | mk hl el hcl hm em hcn hcm => exact ⟨_, hm, ⟨em, hcn, hcm⟩, rfl⟩
theorem TreeOf.map {w : World} {B base : Nat} {ms : List (ByteArray × JV)} {rms : List RM} {pm : Option Addr} {nm cm : Nat} (h : Own w base 90 encM 6 (.slice pm nm cm) rms) (hm : MemsOf w B ms rms) (hB : B ≤ w.heap.size) :
    TreeOf w w.heap.size (.mk 6 0 ⟨#[]⟩ [] ms) ⟨6, 0, ⟨#[]⟩, none, 0, 0, pm, nm, cm⟩ :=
  TreeOf.mk (r := ⟨6, 0, ⟨#[]⟩, none, 0, 0, pm, nm, cm⟩) (rs := []) (rms := rms) (Rd.nil _ _) rfl (fun i t q h => by simp at h) (h.rd codecM) hm.len hm.name (fun i p q h1 h2 => (hm.val i p q h1 h2).mono hB)

/-- What a map with a member of a name has. -/
def putM (o : Option Nat) (ms : List (ByteArray × JV)) (name : ByteArray) (x : JV) : List (ByteArray × JV) := match o with
  | some i => ms.set i (name, x)
  | none => ms ++ [(name, x)]
/-- A map is told: its list of members is the call's own. -/
def MapRet (w : World) (B : Nat) (ms : List (ByteArray × JV)) (e : Ending) (w' : World) : Prop :=
  ∃ pm nm cm rms, e = .returned (RV.val ⟨6, 0, ⟨#[]⟩, none, 0, 0, pm, nm, cm⟩) ∧ Own w' w.heap.size 90 encM 6 (.slice pm nm cm) rms ∧ MemsOf w' B ms rms ∧ Below w.heap.size w w'

theorem grownBy_set (W : World) (b o : Nat) (v : Value) : W.grownBy (W.setCell ⟨b, o, none⟩ v) (some b) :=
  ⟨rfl, rfl, rfl, by simp, fun k _ hk => heap_setCell_other W ⟨b, o, none⟩ k v (fun e => hk (by simp [e]))⟩
theorem grownBy_set5 (W : World) (g : Nat) (q : RV) : W.grownBy (((((W.setCell ⟨g, 0, none⟩ (.int .i64 q.k)).setCell ⟨g, 1, none⟩ (.int .i64 q.n)).setCell ⟨g, 2, none⟩ (.string q.s)).setCell ⟨g, 3, none⟩ (.slice q.pl q.nl q.cl)).setCell ⟨g, 4, none⟩ (.slice q.pm q.nm q.cm)) (some g) :=
  ((((grownBy_set W g 0 _).trans (grownBy_set _ g 1 _)).trans (grownBy_set _ g 2 _)).trans (grownBy_set _ g 3 _)).trans (grownBy_set _ g 4 _)
/-- A member's value stored into a list of the call's own. -/
theorem Own.storedV {w : World} {base : Nat} {g n cap : Nat} {xs : List RM} (h : Own w base 90 encM 6 (.slice (some ⟨g, 0, none⟩) n cap) xs) {k : Nat} {x : RM} (hx : xs[k]? = some x) (q : RV) :
    Own (((((w.setCell ⟨g, k * 6 + 1, none⟩ (.int .i64 q.k)).setCell ⟨g, k * 6 + 2, none⟩ (.int .i64 q.n)).setCell ⟨g, k * 6 + 3, none⟩ (.string q.s)).setCell ⟨g, k * 6 + 4, none⟩ (.slice q.pl q.nl q.cl)).setCell ⟨g, k * 6 + 5, none⟩ (.slice q.pm q.nm q.cm)) base 90 encM 6 (.slice (some ⟨g, 0, none⟩) n cap) (xs.set k ⟨x.name, q⟩) ∧
    w.grownBy (((((w.setCell ⟨g, k * 6 + 1, none⟩ (.int .i64 q.k)).setCell ⟨g, k * 6 + 2, none⟩ (.int .i64 q.n)).setCell ⟨g, k * 6 + 3, none⟩ (.string q.s)).setCell ⟨g, k * 6 + 4, none⟩ (.slice q.pl q.nl q.cl)).setCell ⟨g, k * 6 + 5, none⟩ (.slice q.pm q.nm q.cm)) (some g) := by
  have hk := (List.getElem?_eq_some_iff.1 hx).1
  have gs : ∀ (ys : List RM) (y : RM), k < ys.length → (ys.set k y)[k]? = some y := fun ys y hy => by simp [List.getElem?_set, hy]
  have s1 := Own.storedAt codecM h (j := 1) (y := ⟨x.name, { x.v with k := q.k }⟩) (u := .int .i64 q.k) hx (by decide) rfl
  have s2 := Own.storedAt codecM s1.1 (j := 2) (y := ⟨x.name, { x.v with k := q.k, n := q.n }⟩) (u := .int .i64 q.n) (gs _ _ hk) (by decide) rfl
  have s3 := Own.storedAt codecM s2.1 (j := 3) (y := ⟨x.name, { x.v with k := q.k, n := q.n, s := q.s }⟩) (u := .string q.s) (gs _ _ (by simpa using hk)) (by decide) rfl
  have s4 := Own.storedAt codecM s3.1 (j := 4) (y := ⟨x.name, { x.v with k := q.k, n := q.n, s := q.s, pl := q.pl, nl := q.nl, cl := q.cl }⟩) (u := .slice q.pl q.nl q.cl) (gs _ _ (by simpa using hk)) (by decide) rfl
  have s5 := Own.storedAt codecM s4.1 (j := 5) (y := ⟨x.name, q⟩) (u := .slice q.pm q.nm q.cm) (gs _ _ (by simpa using hk)) (by decide) rfl
  simp only [List.set_set] at s5
  exact ⟨s5.1, (((s1.2.trans s2.2).trans s3.2).trans s4.2).trans s5.2⟩

set_option maxRecDepth 100000 in
set_option maxHeartbeats 2000000 in
theorem members_any (t : JV) (r : RV) (w : World) (B : Nat) (hBw : B ≤ w.heap.size) (ht : TreeOf w B t r) (ot : t.Ok) :
    Calls Try.prog 77 #[r.val] w fun e w' => ∃ p n c rms, e = .returned (.slice p n c) ∧ Own w' w.heap.size 90 encM 6 (.slice p n c) rms ∧ MemsOf w' B t.mem rms ∧ Below w.heap.size w w' := by
  obtain ⟨rms, hm, hms, hk⟩ := ht.mems
  obtain ⟨k, n, s, pl, nl, cl, pm, nm, cm⟩ := r
  obtain ⟨tk, tn, ts, tl, tm⟩ := t
  cases ot with
  | mk _ _ _ bl bm okl oks okm =>
  dsimp only [RV.val, JV.k, JV.m] at *
  subst hk
  have hlen : rms.length ≤ 1466015503658 := by have := hms.len; omega
  have HMS := Lib.hid hms
  have hB0 : Below w.heap.size w (w.alloc (.cells #[.int .i64 tk, .int .i64 n, .string s, .slice pl nl cl, .slice pm nm cm] 25)) := (Below.refl _ _).alloc (Nat.le_refl _) _
  have HM := Lib.hid ((hm.below (hB0.mono hBw) (Nat.le_refl _)).mono (Nat.le_trans hBw hB0.size))
  clear hms hm oks okl okm ht
  by_cases h6 : tk = 6
  · subst h6
    have HE : Hid ((JV.mk 6 tn ts tl tm).mem = tm) := rfl
    go_enter Try.func77, Try.ntmps77
    go_wp2_with (go_at_call 76; refine (cloneM_any codecM _ pm nm cm rms HM.out (by omega)).mono ?_; rintro e w1 ⟨p1, c1, rfl, _, ho1, hb1⟩)
    go_ret
    exact ⟨p1, nm, c1, rms, rfl, ho1.mono hB0.size, by rw [HE.out]; exact HMS.out.under ((hB0.trans (hb1.mono hB0.size)).mono hBw) (Nat.le_refl _), hB0.trans (hb1.mono hB0.size)⟩
  · have HE : Hid ((JV.mk tk tn ts tl tm).mem = []) := by show (if tk = 6 then tm else []) = []; rw [if_neg h6]
    have hq : (tk != 6) = true := by simpa using h6
    clear h6
    go_enter Try.func77, Try.ntmps77
    go_wp2_with fail
    go_ret
    exact ⟨none, 0, 0, [], rfl, Own.nil _ _ _, by rw [HE.out]; exact MemsOf.nil _ _, hB0⟩
end Go.Proofs.Ythgkgjcnmahacaa
end

section
/- A value of JSON that came in reads as a tree. -/
set_option linter.unusedSimpArgs false
set_option linter.unusedVariables false
set_option maxRecDepth 100000
namespace Go.Proofs.Ythgkgjcnmahacaa
open Go Go.RowKit Go.ChangeShapes Go.WideShapes Go.Deep

section
variable {H : Type} {enc : TypeId × Value → H} {W : World} {base b0 : Nat} {spare : Nat → Bool} {held : Bool}
theorem cel1 : Try.prog.cellsOf 2 = 1 := by kernel_rfl
theorem cel2 : Try.prog.cellsOf 3 = 1 := by kernel_rfl
theorem cel3 : Try.prog.cellsOf 9 = 1 := by kernel_rfl
theorem cel4 : Try.prog.cellsOf 22 = 1 := by kernel_rfl
theorem cel5 : Try.prog.cellsOf 23 = 1 := by kernel_rfl

theorem weights_string {t : TypeId} {s : ByteArray} {R : Nat} (h : ∀ n ∈ (DataW.lit (H := H) (.string s.data.toList)).weights Try.prog t, n ≤ R) : s.size ≤ R := by
  have := h s.data.toList.length (by simp [DataW.weights])
  simpa using this

theorem open_val : ∀ (fuel : Nat) (cs : List Value) (x : DataW H × List MemPlace), DataW.trod enc Try.prog W base spare held fuel 25 cs = some x →
    ∃ r t, cs = encV r ∧ TreeOf W W.heap.size t r ∧ ((∀ n ∈ x.1.weights Try.prog 25, n ≤ 140737488351232) → t.Ok) := by
  intro fuel
  induction fuel using Nat.strongRecOn with
  | ind fuel ih =>
    intro cs x h
    obtain ⟨y0, y1, y2, y3, y4, n, rfl, hx1, hlen, t0, t1, t2, t3, t4⟩ := trodF5 Try.underlying25 h
    rw [cellsV] at hlen
    obtain ⟨c0, c1, c2, c3, c4, rfl⟩ : ∃ c0 c1 c2 c3 c4, cs = [c0, c1, c2, c3, c4] := by
      match cs, hlen with
      | [a, b, c, d, e], _ => exact ⟨a, b, c, d, e, rfl⟩
    rw [hx1]
    dsimp only at t0 t1 t2 t3 t4
    rw [cel2] at t0
    rw [cel1] at t1
    rw [cel3] at t2
    rw [cel4] at t3
    rw [cel5] at t4
    simp only [List.drop_zero, List.drop_succ_cons, List.take_succ_cons, List.take_zero] at t0 t1 t2 t3 t4
    obtain ⟨k, e0, f0, w0⟩ := DataW.trod_int Try.underlying3 t0
    obtain ⟨n', e1, f1, w1⟩ := DataW.trod_int Try.underlying2 t1
    obtain ⟨s, e2, f2, w2⟩ := DataW.trod_string Try.underlying9 t2
    simp only [List.cons.injEq, and_true] at e0 e1 e2
    subst e0 e1 e2 f0 f1 f2
    obtain ⟨pl, nl, cl, rs, e3, hr3, hd3⟩ := open_list (Q := fun (r : RV) (d : DataW H) => ∃ t, TreeOf W W.heap.size t r ∧ ((∀ n ∈ d.weights Try.prog 25, n ≤ 140737488351232) → t.Ok)) Try.underlying22 cellsV codecV t3
      (fun m hm cs y hy => by
        obtain ⟨r, t, h1, h2⟩ := ih m (by omega) cs y hy
        exact ⟨r, h1, t, h2⟩)
    obtain ⟨pm, nm, cm, rms, e4, hr4, hd4⟩ := open_list (Q := fun (r : RM) (d : DataW H) => ∃ t, TreeOf W W.heap.size t r.v ∧ ((∀ n ∈ d.weights Try.prog 90, n ≤ 140737488351232) → r.name.size ≤ 140737488351232 ∧ t.Ok)) Try.underlying23 cellsM codecM t4
      (fun m hm cs y hy => by
        obtain ⟨z0, z1, j, rfl, hy1, hlen, u0, u1⟩ := trodF2 Try.underlying90 hy
        rw [cellsM] at hlen
        obtain ⟨a0, a1, a2, a3, a4, a5, rfl⟩ : ∃ a0 a1 a2 a3 a4 a5, cs = [a0, a1, a2, a3, a4, a5] := by
          match cs, hlen with
          | [a, b, c, d, e, f], _ => exact ⟨a, b, c, d, e, f, rfl⟩
        rw [hy1]
        dsimp only at u0 u1
        rw [cel3] at u0
        rw [cellsV] at u1
        simp only [List.drop_zero, List.drop_succ_cons, List.take_succ_cons, List.take_zero] at u0 u1
        obtain ⟨nm, g0, g1, g2⟩ := DataW.trod_string Try.underlying9 u0
        simp only [List.cons.injEq, and_true] at g0
        subst g0 g1
        obtain ⟨r, t, h1, h2, h3⟩ := ih j (by omega) _ _ u1
        refine ⟨⟨nm, r⟩, by rw [h1]; rfl, t, h2, fun hw => ⟨weights_string (weights_struct Try.underlying90 hw (i := 0) rfl rfl), h3 (weights_struct Try.underlying90 hw (i := 1) rfl rfl)⟩⟩)
    simp only [List.cons.injEq, and_true] at e3 e4
    subst e3 e4
    have nl_eq : nl = rs.length := by
      obtain ⟨_, _, e, _⟩ := hr3
      simp only [Value.slice.injEq] at e; exact e.2.1
    have nm_eq : nm = rms.length := by
      obtain ⟨_, _, e, _⟩ := hr4
      simp only [Value.slice.injEq] at e; exact e.2.1
    have hL : ∀ i, i < rs.length → ∃ t : JV, ∀ q, rs[i]? = some q → TreeOf W W.heap.size t q ∧ ((∀ n ∈ y3.1.weights Try.prog 22, n ≤ 140737488351232) → t.Ok) := by
      intro i hi
      obtain ⟨q, hq⟩ : ∃ q, rs[i]? = some q := ⟨_, List.getElem?_eq_getElem hi⟩
      rcases hd3 with ⟨rfl, _⟩ | ⟨es, sp, h1, h2, h3⟩
      · simp at hi
      · obtain ⟨d, hd, t, ht1, ht2⟩ := h3 i q hq
        refine ⟨t, fun q' hq' => ?_⟩
        rw [hq] at hq'
        cases hq'
        refine ⟨ht1, fun hw => ht2 ?_⟩
        rw [h1] at hw
        exact (weights_slice Try.underlying22 hw).2 d (List.mem_of_getElem? hd)
    have hM : ∀ i, i < rms.length → ∃ p : ByteArray × JV, ∀ q, rms[i]? = some q → p.1 = q.name ∧ TreeOf W W.heap.size p.2 q.v ∧ ((∀ n ∈ y4.1.weights Try.prog 23, n ≤ 140737488351232) → p.1.size ≤ 140737488351232 ∧ p.2.Ok) := by
      intro i hi
      obtain ⟨q, hq⟩ : ∃ q, rms[i]? = some q := ⟨_, List.getElem?_eq_getElem hi⟩
      rcases hd4 with ⟨rfl, _⟩ | ⟨es, sp, h1, h2, h3⟩
      · simp at hi
      · obtain ⟨d, hd, t, ht1, ht2⟩ := h3 i q hq
        refine ⟨(q.name, t), fun q' hq' => ?_⟩
        rw [hq] at hq'
        cases hq'
        refine ⟨rfl, ht1, fun hw => ht2 ?_⟩
        rw [h1] at hw
        exact (weights_slice Try.underlying23 hw).2 d (List.mem_of_getElem? hd)
    obtain ⟨ts, hts, hts2⟩ := list_of rs.length hL
    obtain ⟨ps, hps, hps2⟩ := list_of rms.length hM
    refine ⟨⟨k, n', s, pl, nl, cl, pm, nm, cm⟩, .mk k n' s ts ps, rfl, ?_, fun hw => ?_⟩
    · exact TreeOf.mk (r := ⟨k, n', s, pl, nl, cl, pm, nm, cm⟩) hr3 hts (fun i t q h1 h2 => (hts2 i t h1 q h2).1) hr4 hps (fun i p q h1 h2 => (hps2 i p h1 q h2).1) (fun i p q h1 h2 => (hps2 i p h1 q h2).2.1)
    · have v2 := weights_string (weights_struct Try.underlying25 hw (i := 2) rfl rfl)
      have v3 : ∀ n ∈ y3.1.weights Try.prog 22, n ≤ 140737488351232 := weights_struct Try.underlying25 hw (i := 3) rfl rfl
      have v4 : ∀ n ∈ y4.1.weights Try.prog 23, n ≤ 140737488351232 := weights_struct Try.underlying25 hw (i := 4) rfl rfl
      refine .mk w0 w1 v2 ?_ ?_ (fun i x hx => ?_) (fun i p hp => ?_) (fun i p hp => ?_)
      · rcases hd3 with ⟨rfl, _⟩ | ⟨es, sp, h1, h2, _⟩
        · rw [hts]; simp
        · rw [h1] at v3
          have := (weights_slice Try.underlying22 v3).1
          rw [bytesV] at this
          omega
      · rcases hd4 with ⟨rfl, _⟩ | ⟨es, sp, h1, h2, _⟩
        · rw [hps]; simp
        · rw [h1] at v4
          have := (weights_slice Try.underlying23 v4).1
          rw [bytesM] at this
          omega
      · obtain ⟨q, hq⟩ : ∃ q, rs[i]? = some q := ⟨_, List.getElem?_eq_getElem (by have := (List.getElem?_eq_some_iff.1 hx).1; omega)⟩
        exact (hts2 i x hx q hq).2 v3
      · obtain ⟨q, hq⟩ : ∃ q, rms[i]? = some q := ⟨_, List.getElem?_eq_getElem (by have := (List.getElem?_eq_some_iff.1 hp).1; omega)⟩
        exact ((hps2 i p hp q hq).2.2 v4).1
      · obtain ⟨q, hq⟩ : ∃ q, rms[i]? = some q := ⟨_, List.getElem?_eq_getElem (by have := (List.getElem?_eq_some_iff.1 hp).1; omega)⟩
        exact ((hps2 i p hp q hq).2.2 v4).2

theorem open_value {v : Value} {d : DataW H} {p : List MemPlace} (hval : Value.okWide Try.prog W .any b0 25 v) (h : DataW.Trod enc Try.prog W base spare held 25 v d p) :
    ∃ r t, v = RV.val r ∧ TreeOf W W.heap.size t r ∧ ((∀ n ∈ d.weights Try.prog 25, n ≤ 140737488351232) → t.Ok) := by
  obtain ⟨cs, rfl, hsz⟩ := okWide_struct Try.underlying25 hval
  obtain ⟨fuel, hf⟩ := h
  obtain ⟨r, t, h1, h2, h3⟩ := open_val fuel _ _ hf
  refine ⟨r, t, ?_, h2, h3⟩
  have : cs = (encV r).toArray := by
    apply Array.ext'
    simpa [Value.cells] using h1
  rw [this]
  rfl
end
#print axioms open_value
end Go.Proofs.Ythgkgjcnmahacaa
end

section
set_option linter.unusedSimpArgs false
set_option linter.unusedVariables false
namespace Go.Proofs.Ythgkgjcnmahacaa
open Go.RowKit

theorem ret_bool {a b : Bool} (h : a = b) : Ending.returned (.bool a) = .returned (.bool b) := by rw [h]

/-- May something become of an object behind something else? -/
def mayB (was what : Int) : Bool := if what = 1 then was == 0 else if what = 2 ∨ what = 3 then was != 3 else false

set_option maxHeartbeats 400000 in
theorem may_any (was what : Int) (w : World) :
    Calls Try.prog 90 #[.int .i64 was, .int .i64 what] w fun e w' => e = .returned (.bool (mayB was what)) ∧ w = w' := by
  go_enter Try.func90, Try.ntmps90
  go_wp2
  all_goals (go_ret; refine ⟨ret_bool ?_, rfl⟩; simp_all [mayB])

/-- An entry of a trail. -/
structure En where
  seq : Int
  id : ByteArray
  what : Int
deriving DecidableEq

/-- Its numbers fit, its text has a length that may be. -/
def En.ok (e : En) : Prop := (Lit.int .i64 e.seq).wf = true ∧ e.id.size ≤ maxLen ∧ (Lit.int .i64 e.what).wf = true

theorem toList_beq (a b : ByteArray) : (a.toList == b.toList) = decide (a = b) := by
  rw [ByteArray.toList_eq, ByteArray.toList_eq]
  obtain ⟨⟨x⟩⟩ := a
  obtain ⟨⟨y⟩⟩ := b
  by_cases h : x = y
  · simp [h]
  · simp [h]

def En.eqv (a b : En) : Bool := a.seq == b.seq && a.id.toList == b.id.toList && a.what == b.what

/-- An entry, as it lies in three cells. -/
def enAt (w : World) (b o : Nat) (e : Option En) : Prop := ∃ x, e = some x ∧ w.cell? ⟨b, o, none⟩ = some (.int .i64 x.seq) ∧ w.cell? ⟨b, o + 1, none⟩ = some (.string x.id) ∧ w.cell? ⟨b, o + 2, none⟩ = some (.int .i64 x.what)

/-- A slice of entries, as it lies in memory below block B. -/
def RdE (w : World) (B : Nat) (v : Value) (es : List En) : Prop :=
  (∀ e ∈ es, e.ok) ∧ ∃ (p : Option Addr) (cap : Nat), v = .slice p es.length cap ∧ es.length ≤ cap ∧ cap ≤ maxLen ∧ (p = none → cap = 0) ∧
    ∀ a, p = some a → 0 < es.length → ∃ b o, a = ⟨b, o, none⟩ ∧ b < B ∧ ∀ i, i < es.length → enAt w b (o + i * 3) es[i]?

def sameE : List En → List En → Bool
  | [], [] => true
  | a :: l, b :: m => a.eqv b && sameE l m
  | _, _ => false

theorem slice_at {p : Option Addr} {cap n k B : Nat} {C : Nat → Nat → Nat → Prop} (h0 : p = none → cap = 0)
    (h : ∀ a, p = some a → 0 < n → ∃ b o, a = ⟨b, o, none⟩ ∧ b < B ∧ ∀ i, i < n → C b o i) (hk : k < n ∧ n ≤ cap) : ∃ b o, p = some ⟨b, o, none⟩ ∧ b < B ∧ ∀ i, i < n → C b o i := by
  cases p with
  | none => have := h0 rfl; omega
  | some a => obtain ⟨b, o, rfl, hb, hc⟩ := h a rfl (by omega); exact ⟨b, o, rfl, hb, hc⟩

theorem guardE : Try.prog.eqGuardType Try.prog.depth 48 = false := by kernel_rfl
theorem stoodE : Try.prog.stoodInHeld 48 = false := by kernel_rfl
theorem eqlE (a b : Int) (s t : ByteArray) (c d : Int) (w : World) : (Go.binOp .eql 48 (.agg #[.int .i64 a, .string s, .int .i64 c]) (.agg #[.int .i64 b, .string t, .int .i64 d])).run Try.prog w =
    .ok (.bool (a == b && s.toList == t.toList && c == d)) w := by
  have h1 := stoodE
  rw [run_eql_struct]
  simp [go_sem, h1, Try.underlying48]
  by_cases e1 : a = b <;> by_cases e2 : s.toList = t.toList <;> by_cases e3 : c = d <;> simp [e1, e2, e3]
theorem neqE (a b : Int) (s t : ByteArray) (c d : Int) (w : World) : (Go.binOp .neq 48 (.agg #[.int .i64 a, .string s, .int .i64 c]) (.agg #[.int .i64 b, .string t, .int .i64 d])).run Try.prog w =
    .ok (.bool (!(a == b && s.toList == t.toList && c == d))) w := by
  have h1 := stoodE
  rw [run_neq_struct]
  simp [go_sem, h1, Try.underlying48]
  by_cases e1 : a = b <;> by_cases e2 : s.toList = t.toList <;> by_cases e3 : c = d <;> simp [e1, e2, e3]

theorem sameE_snoc {l m : List En} {k : Nat} {x y : En} (hx : l[k]? = some x) (hy : m[k]? = some y) : sameE (l.take (k + 1)) (m.take (k + 1)) = (sameE (l.take k) (m.take k) && x.eqv y) := by
  induction k generalizing l m with
  | zero => cases l <;> cases m <;> simp_all [sameE]
  | succ k ih => 
    cases l with
    | nil => simp at hx
    | cons a l => cases m with
      | nil => simp at hy
      | cons b m => simp only [List.getElem?_cons_succ] at hx hy; simp only [List.take_succ_cons, sameE]; rw [ih hx hy, Bool.and_assoc]
theorem sameE_false {l m : List En} {k : Nat} {x y : En} (hx : l[k]? = some x) (hy : m[k]? = some y) (h : x.eqv y = false) : sameE l m = false := by
  induction k generalizing l m with
  | zero => cases l <;> cases m <;> simp_all [sameE]
  | succ k ih =>
    cases l with
    | nil => simp at hx
    | cons a l => cases m with
      | nil => simp at hy
      | cons b m => simp only [List.getElem?_cons_succ] at hx hy; simp only [sameE]; rw [ih hx hy, Bool.and_false]
theorem sameE_len {l m : List En} (h : l.length ≠ m.length) : sameE l m = false := by
  induction l generalizing m with
  | nil => cases m <;> simp_all [sameE]
  | cons a l ih => cases m with
    | nil => simp [sameE]
    | cons b m => simp only [sameE]; rw [ih (by simpa using h), Bool.and_false]

set_option maxHeartbeats 400000 in
theorem sameEntries_any (w : World) (B : Nat) (v u : Value) (l m : List En) (hv : RdE w B v l) (hu : RdE w B u m) :
    Calls Try.prog 69 #[v, u] w fun e w' => e = .returned (.bool (sameE l m)) ∧ ∃ n, w' = w.drewN n := by
  obtain ⟨_, p, c, rfl, hlc, hcm, hp0, hp⟩ := hv
  obtain ⟨_, q, d, rfl, hmd, hdm, hq0, hq⟩ := hu
  unfold maxLen at hcm hdm
  by_cases hlen : l.length = m.length
  · have hb : ((l.length : Int) != (m.length : Int)) = false := by simp [hlen]
    have hle1 : l.length ≤ m.length := by omega
    have hle2 : m.length ≤ l.length := by omega
    have HL := Lib.hid hlen
    clear hlen
    go_enter Try.func69, Try.ntmps69
    go_wp2
    go_loopw [5] (fun i wr => ∃ k : Nat, k ≤ l.length ∧ i = .int .i64 k ∧ sameE (l.take k) (m.take k) = true ∧ ∃ n, wr = w.drewN n) (fun i _ => l.length - (intOf i).toNat)
    case atStart => exact ⟨0, Nat.zero_le _, rfl, by simp [sameE], 0, rfl⟩
    case round =>
      obtain ⟨k, hk, rfl, hsm, nr, rfl⟩ := hrel
      by_cases hlt : k < l.length
      · obtain ⟨b1, o1, rfl, hb1, hc1⟩ := slice_at (k := k) hp0 hp (by omega)
        obtain ⟨b2, o2, rfl, hb2, hc2⟩ := slice_at (k := k) hq0 hq (by omega)
        have hkm : k < m.length := by omega
        obtain ⟨x, hx, g10, g11, g12⟩ := hc1 k hlt
        obtain ⟨y, hy, g20, g21, g22⟩ := hc2 k (by omega)
        have HX := Lib.hid hx
        have HY := Lib.hid hy
        clear hx hy
        clear hp hq hc1 hc2 hp0 hq0
        have hg := guardE
        have hq := fun W => neqE x.seq y.seq x.id y.id x.what y.what W
        cases hxy : x.eqv y with
        | true =>
          have hq2 : (!(x.seq == y.seq && x.id.toList == y.id.toList && x.what == y.what)) = false := by unfold En.eqv at hxy; rw [hxy]; rfl
          have HS := Lib.hid (sameE_snoc HX.out HY.out)
          rw [hsm, hxy] at HS
          clear hxy
          go_wp2
          go_quiet (fail)
          go_wp2
          go_roundw
          case rel => exact ⟨k + 1, by omega, by go_num, HS.out, _, rfl⟩
          case measure => simp [intOf]; omega
        | false =>
          have hq2 : (!(x.seq == y.seq && x.id.toList == y.id.toList && x.what == y.what)) = true := by unfold En.eqv at hxy; rw [hxy]; rfl
          have HS := Lib.hid (sameE_false HX.out HY.out hxy)
          clear hxy
          go_wp2
          go_quiet (fail)
          go_wp2
          go_ret
          exact ⟨ret_bool HS.out.symm, _, World.drewN_drewN _ _ _⟩
      · go_wp2
        go_ret
        refine ⟨ret_bool ?_, _, rfl⟩
        have e := HL.out
        rw [List.take_of_length_le (by omega), List.take_of_length_le (by omega)] at hsm
        exact hsm.symm
  · have hb : ((l.length : Int) != (m.length : Int)) = true := by simp; omega
    go_enter Try.func69, Try.ntmps69
    go_wp2
    go_ret
    exact ⟨ret_bool (sameE_len hlen).symm, 0, rfl⟩
theorem eqv_eq (a b : En) : a.eqv b = decide (a = b) := by
  obtain ⟨s, i, x⟩ := a
  obtain ⟨t, j, y⟩ := b
  unfold En.eqv
  rw [toList_beq]
  by_cases h1 : s = t <;> by_cases h2 : i = j <;> by_cases h3 : x = y <;> simp [h1, h2, h3]
theorem sameE_eq (l m : List En) : sameE l m = decide (l = m) := by
  induction l generalizing m with
  | nil => cases m <;> simp [sameE]
  | cons a l ih => cases m with
    | nil => simp [sameE]
    | cons b m => simp only [sameE, ih, eqv_eq]; by_cases h1 : a = b <;> by_cases h2 : l = m <;> simp [h1, h2]

theorem same_any (w : World) (B : Nat) (v u : Value) (l m : List En) (hv : RdE w B v l) (hu : RdE w B u m) :
    Calls Try.prog 69 #[v, u] w fun e w' => e = .returned (.bool (decide (l = m))) ∧ ∃ n, w' = w.drewN n := by
  rw [← sameE_eq]
  exact sameEntries_any w B v u l m hv hu
end Go.Proofs.Ythgkgjcnmahacaa
end

section
/- Maps keyed by strings whose elements are values of whatever shape, seen as functions from the key's bytes. Plain laws over any program. -/
set_option linter.unusedSimpArgs false
set_option linter.unusedVariables false
namespace Go.Proofs.Ythgkgjcnmahacaa
open Go Go.Maps Go.WideMaps Go.ChangeMaps Go.MapKept Go.WideShapes Go.RowKit

/-- How an element of whatever shape reads: as itself. -/
def anyElem (v : Value) : Option (DataW Value × List MemPlace) := some (.held v, [])

def mget (D : DataW Value) (s : List UInt8) : Option Value := match D.atKey (.string s) .nil with
  | .held v => some v
  | _ => none

theorem find_insert {H : Type} (x : Lit × DataW H) (q : Lit × DataW H → Bool) (hq : q x = false) : ∀ l : List (Lit × DataW H), (DataW.insert x l).find? q = l.find? q
  | [] => by simp [DataW.insert, hq]
  | y :: r => by
    unfold DataW.insert
    split
    · simp [List.find?_cons, hq]
    · simp only [List.find?_cons]; split
      · rfl
      · exact find_insert x q hq r

theorem find_insert_self {H : Type} (x : Lit × DataW H) (q : Lit × DataW H → Bool) (hq : q x = true) : ∀ l : List (Lit × DataW H), (∀ y ∈ l, q y = false) → (DataW.insert x l).find? q = some x
  | [], _ => by simp [DataW.insert, hq]
  | y :: r, h => by
    unfold DataW.insert
    split
    · simp [List.find?_cons, hq]
    · simp only [List.find?_cons, h y (by simp)]
      exact find_insert_self x q hq r (fun z hz => h z (by simp [hz]))

theorem find_filter {α : Type} (p q : α → Bool) (h : ∀ x, q x = true → p x = true) : ∀ l : List α, (l.filter p).find? q = l.find? q
  | [] => rfl
  | y :: r => by
    simp only [List.filter_cons, List.find?_cons]
    cases hp : p y with
    | true =>
      simp only [if_true, List.find?_cons]
      cases hq : q y with
      | true => rfl
      | false => exact find_filter p q h r
    | false =>
      cases hq : q y with
      | true => rw [h y hq] at hp; cases hp
      | false => simpa using find_filter p q h r

theorem mget_put (E : List (Lit × DataW Value)) (s t : List UInt8) (v : Value) : mget ((DataW.map E).put (.string s) (.held v)) t = if t = s then some v else mget (.map E) t := by
  unfold mget DataW.atKey DataW.put
  dsimp only
  by_cases h : t = s
  · subst h
    rw [find_insert_self _ _ (by simp [Lit.sameKey]) _ (fun y hy => by simpa using (List.mem_filter.1 hy).2)]
    simp
  · rw [find_insert _ _ (by simp [Lit.sameKey]; exact fun e => h e.symm), find_filter _ _ (fun x hx => by
      cases hxk : x.1 <;> simp_all [Lit.sameKey])]
    simp [h]

theorem mget_nil (s : List UInt8) : mget (.map []) s = none := rfl

/-- Block b is a map of at most n entries that holds f's values. -/
def MapF (w : World) (P : Program) (k : TypeId) (b n : Nat) (f : List UInt8 → Option Value) : Prop :=
  ∃ E : List (Lit × DataW Value), w.ownsMap P k anyElem b n (.map E) ∧ ∀ s, mget (.map E) s = f s

section
variable {P : Program} {k : TypeId} {w : World} {b n : Nat} {f : List UInt8 → Option Value}
theorem MapF.made (w : World) (P : Program) (k : TypeId) : MapF (w.alloc (.map #[] 0)) P k w.heap.size 0 (fun _ => none) :=
  ⟨[], World.ownsMap_made w P k anyElem, fun _ => rfl⟩
theorem MapF.lt (h : MapF w P k b n f) : b < w.heap.size := by
  obtain ⟨E, h, _⟩ := h
  exact h.lt
theorem MapF.kept {w' : World} {row : Option Nat} (h : MapF w P k b n f) (hg : w.grownBy w' row) (hne : some b ≠ row) : MapF w' P k b n f := by
  obtain ⟨E, h, he⟩ := h
  exact ⟨E, h.kept hg hne, he⟩
theorem MapF.alloc (h : MapF w P k b n f) (o : Obj) : MapF (w.alloc o) P k b n f := by
  obtain ⟨E, h, he⟩ := h
  exact ⟨E, h.alloc o, he⟩
theorem MapF.drewN (h : MapF w P k b n f) (m : Nat) : MapF (w.drewN m) P k b n f := h
theorem MapF.of_block {w' : World} (h : MapF w P k b n f) (hb : w'.heap[b]? = w.heap[b]?) : MapF w' P k b n f := by
  obtain ⟨E, ⟨es, clock, h1, h2⟩, he⟩ := h
  exact ⟨E, ⟨es, clock, hb.trans h1, h2⟩, he⟩
theorem MapF.below {B : Nat} {w' : World} (h : MapF w P k b n f) (hb : Below B w w') (hB : b < B) : MapF w' P k b n f := h.of_block (hb.block b hB)
theorem MapF.mono (h : MapF w P k b n f) {m : Nat} (hm : n ≤ m) : MapF w P k b m f := by
  obtain ⟨E, h, he⟩ := h
  exact ⟨E, h.mono hm, he⟩

theorem mget_find (E : List (Lit × DataW Value)) (s : List UInt8) : (∃ p, E.find? (fun p => p.1.sameKey (.string s)) = some p ∧ ∀ z : DataW Value, (DataW.map E).atKey (.string s) z = p.2) ∨
    (E.find? (fun p => p.1.sameKey (.string s)) = none ∧ ∀ z : DataW Value, (DataW.map E).atKey (.string s) z = z) := by
  unfold DataW.atKey
  cases h : E.find? (fun p => p.1.sameKey (.string s)) with
  | none => exact .inr ⟨rfl, fun z => by simp [h]⟩
  | some p => exact .inl ⟨p, rfl, fun z => by simp [h]⟩

theorem MapF.look {t e : TypeId} (h : MapF w P k b n f) (hk : P.underlying k = some .string) (ht : P.underlying t = some (.map k e)) {z : Value} (hz : (zeroValue e).run P w = .ok z w) {s : ByteArray} (hs : s.size ≤ maxLen) :
    (Instr.lookup t (.map (some b)) (.string s) false).run P w = .ok ((f s.data.toList).getD z) w := by
  obtain ⟨E, h, he⟩ := h
  obtain ⟨v, ps, hrun, hv⟩ := h.lookup (string_keyed hk) ht hz (zd := .held z) (zp := []) rfl (keyOf_string_mk hk hs)
  rw [hrun, ← he]
  simp only [anyElem, Option.some.injEq, Prod.mk.injEq] at hv
  have hv1 := hv.1
  unfold mget
  rcases mget_find E s.data.toList with ⟨p, _, hp⟩ | ⟨_, hp⟩
  · rw [hp] at hv1 ⊢
    rw [← hv1]; rfl
  · rw [hp] at hv1 ⊢
    cases hv1; rfl
theorem MapF.look_ok {t e : TypeId} (h : MapF w P k b n f) (hk : P.underlying k = some .string) (ht : P.underlying t = some (.map k e)) {z : Value} (hz : (zeroValue e).run P w = .ok z w) {s : ByteArray} (hs : s.size ≤ maxLen) :
    (Instr.lookup t (.map (some b)) (.string s) true).run P w = .ok (.tuple #[(f s.data.toList).getD z, .bool (f s.data.toList).isSome]) w := by
  obtain ⟨E, h, he⟩ := h
  obtain ⟨v, ps, hrun, hv⟩ := h.look_ok (string_keyed hk) ht hz (zd := .held z) (zp := []) rfl (keyOf_string_mk hk hs)
  rw [hrun, ← he]
  simp only [anyElem, Option.some.injEq, Prod.mk.injEq] at hv
  have hv1 := hv.1
  unfold mget
  rcases mget_find E s.data.toList with ⟨p, _, hp⟩ | ⟨_, hp⟩
  · rw [has_true_of_atKey hp]
    rw [hp] at hv1 ⊢
    rw [← hv1]; rfl
  · rw [has_false_of_atKey hp]
    rw [hp] at hv1 ⊢
    cases hv1; rfl
theorem MapF.store {t e : TypeId} (h : MapF w P k b n f) (hk : P.underlying k = some .string) (ht : P.underlying t = some (.map k e)) (hn : n < maxLen) {s : ByteArray} (hs : s.size ≤ maxLen) (v : Value) :
    ∃ w', (Instr.mapUpdate t (.map (some b)) (.string s) v).run P w = .ok () w' ∧ MapF w' P k b (n + 1) (fun u => if u = s.data.toList then some v else f u) ∧ w.grownBy w' (some b) := by
  obtain ⟨E, h, he⟩ := h
  obtain ⟨w', hrun, hown, hg⟩ := h.update (string_keyed hk) ht hn (kl := .string s.data.toList) (keyOf_string_mk hk hs) (d := .held v) (ps := []) rfl
  refine ⟨w', hrun, ⟨_, hown, fun u => ?_⟩, hg⟩
  refine (mget_put E s.data.toList u v).trans ?_
  rw [he u]
end

section
variable {P : Program} (w : World) {ops : Array Oper} {rest : List Oper} {o : Oper} {a : Act} {Q : Exit → Act → World → Prop}
theorem wpList_look_F (hg : o.guard = none) (m x : Operand) (t : TypeId) (hop : o.op = Op.lookup t m x false) (k e : TypeId) (hk : P.underlying k = some .string) (ht : P.underlying t = some (.map k e)) {z : Value} (hz : (zeroValue e).run P w = .ok z w)
    (b n : Nat) (f : List UInt8 → Option Value) (hm : a.eval m = .map (some b)) (hown : MapF w P k b n f) (s : ByteArray) (hx : a.eval x = .string s) (hs : s.size ≤ maxLen) {v : Value} (hv : (f s.data.toList).getD z = v)
    (hK : wpList P ops Q rest (a.put o.dst v) w) : wpList P ops Q (o :: rest) a w := by
  refine wpList_plain hg fun K' hK' => ?_
  have hrun := hown.look hk ht hz hs
  rw [hv] at hrun
  unfold Oper.wp
  simp [execOp, hop, hm, hx, hrun, Result.andThen]
  exact hK' _ _ hK
theorem wpList_store_F (hg : o.guard = none) (m x v : Operand) (t : TypeId) (hop : o.op = Op.mapUpdate t m x v) (k e : TypeId) (hk : P.underlying k = some .string) (ht : P.underlying t = some (.map k e)) 
    (b n : Nat) (f : List UInt8 → Option Value) (hm : a.eval m = .map (some b)) (hown : MapF w P k b n f) (hn : n < maxLen) (s : ByteArray) (hx : a.eval x = .string s) (hs : s.size ≤ maxLen) (val : Value) (hv : a.eval v = val)
    (hK : ∀ w', MapF w' P k b (n + 1) (fun u => if u = s.data.toList then some val else f u) → w.grownBy w' (some b) → wpList P ops Q rest (a.put o.dst undef) w') : wpList P ops Q (o :: rest) a w := by
  refine wpList_plain hg fun K' hK' => ?_
  obtain ⟨w', hrun, h1, h2⟩ := hown.store hk ht hn hs val
  unfold Oper.wp
  simp [execOp, hop, hm, hx, hv, hrun, Result.andThen]
  exact hK' _ _ (hK w' h1 h2)
end
end Go.Proofs.Ythgkgjcnmahacaa
end

section
set_option linter.unusedSimpArgs false
set_option linter.unusedVariables false
namespace Go.Proofs.Ythgkgjcnmahacaa
open Go.RowKit Go.OpenShut

/-- What became last of an id. -/
def lastW (l : List En) (id : ByteArray) : Int := l.foldl (fun a e => if e.id = id then e.what else a) 0
theorem lastW_snoc (l : List En) (e : En) (id : ByteArray) : lastW (l ++ [e]) id = if e.id = id then e.what else lastW l id := by simp [lastW]

/-- Is the entry of place k as it must be? -/
def okAt (l : List En) (floor : Int) (k : Nat) : Bool := match l[k]? with
  | some e => e.seq == floor + 1 + k && mayB (lastW (l.take k) e.id) e.what
  | none => true

def headB (n : Nat) (floor seq : Int) : Bool := decide (0 ≤ floor ∧ floor ≤ seq ∧ seq ≤ 9007199254740991 ∧ seq - floor = n)

def rightB (l : List En) (floor seq : Int) : Bool := headB l.length floor seq && (List.range l.length).all (okAt l floor)

theorem rightB_no {l : List En} {floor seq : Int} (h : headB l.length floor seq = false) : rightB l floor seq = false := by simp [rightB, h]
theorem rightB_yes {l : List En} {floor seq : Int} (h : headB l.length floor seq = true) (ha : ∀ k, k < l.length → okAt l floor k = true) : rightB l floor seq = true := by
  simp only [rightB, h, Bool.true_and, List.all_eq_true, List.mem_range]
  exact ha
theorem rightB_bad {l : List En} {floor seq : Int} {k : Nat} (hk : k < l.length) (h : okAt l floor k = false) : rightB l floor seq = false := by
  unfold rightB
  rw [Bool.and_eq_false_iff]
  right
  rw [Bool.eq_false_iff]
  intro ha
  rw [List.all_eq_true] at ha
  have := ha k (by simpa using hk)
  rw [h] at this
  cases this

set_option maxHeartbeats 1000000 in
theorem refRight_head (w : World) (B : Nat) (v : Value) (l : List En) (floor seq : Int) (hv : RdE w B v l) (hf : (Lit.int .i64 floor).wf = true) (hs : (Lit.int .i64 seq).wf = true) (hh : headB l.length floor seq = false) :
    Calls Try.prog 72 #[v, .int .i64 floor, .int .i64 seq] w fun e w' => e = .returned (.bool (rightB l floor seq)) ∧ ∃ n, w' = w.drewN n := by
  rw [rightB_no hh]
  obtain ⟨_, p, c, rfl, hlc, hcm, hp0, hp⟩ := hv
  unfold maxLen at hcm
  have b1 := bounds_i64 hf
  have b2 := bounds_i64 hs
  have hd : 0 ≤ floor → floor ≤ seq → seq ≤ 9007199254740991 → ((seq - floor != (l.length : Int)) = true) := by
    intro h1 h2 h3
    unfold headB at hh
    simp only [decide_eq_false_iff_not] at hh
    rw [bne_iff_ne]
    intro h4
    exact hh ⟨h1, h2, h3, h4⟩
  clear hh hp hp0
  go_enter Try.func72, Try.ntmps72
  go_wp2_with fail
  all_goals (go_ret; exact ⟨rfl, 0, rfl⟩)

theorem okAt_of {l : List En} {floor : Int} {k : Nat} {x : En} (hx : l[k]? = some x) : okAt l floor k = (x.seq == floor + 1 + k && mayB (lastW (l.take k) x.id) x.what) := by simp [okAt, hx]
theorem okAt_bad {l : List En} {floor : Int} {k : Nat} {x : En} (hx : l[k]? = some x) (h : x.seq ≠ floor + 1 + k ∨ x.what < 1 ∨ 3 < x.what) : okAt l floor k = false := by
  rw [okAt_of hx]
  rcases h with h | h | h
  · simp [h]
  · simp [mayB, show ¬ x.what = 1 by omega, show ¬ x.what = 2 by omega, show ¬ x.what = 3 by omega]
  · simp [mayB, show ¬ x.what = 1 by omega, show ¬ x.what = 2 by omega, show ¬ x.what = 3 by omega]
theorem lastW_take {l : List En} {j : Nat} {y : En} (hy : l[j]? = some y) (id : ByteArray) : lastW (l.take (j + 1)) id = if y.id = id then y.what else lastW (l.take j) id := by
  rw [List.take_add_one, hy]
  exact lastW_snoc _ _ _
theorem lastW_wf {l : List En} (h : ∀ e ∈ l, e.ok) (id : ByteArray) : (Lit.int .i64 (lastW l id)).wf = true := by
  suffices ∀ (l : List En) (a : Int), (∀ e ∈ l, e.ok) → (Lit.int .i64 a).wf = true → (Lit.int .i64 (l.foldl (fun a e => if e.id = id then e.what else a) a)).wf = true from this l 0 h (by decide)
  intro l
  induction l with
  | nil => intro a _ ha; exact ha
  | cons e l ih =>
    intro a h ha
    simp only [List.foldl_cons]
    refine ih _ (fun x hx => h x (by simp [hx])) ?_
    split
    · exact (h e (by simp)).2.2
    · exact ha
theorem get_ok {l : List En} {k : Nat} {x : En} (h : ∀ e ∈ l, e.ok) (hx : l[k]? = some x) : x.ok := h x (List.mem_of_getElem? hx)

end Go.Proofs.Ythgkgjcnmahacaa
end

section
set_option linter.unusedSimpArgs false
set_option linter.unusedVariables false
namespace Go.Proofs.Ythgkgjcnmahacaa
open Go.RowKit

/-- What is returned is a slice of the call's own that reads as xs; nothing that was has turned. -/
def OwnRet {α : Type} (w : World) (t : TypeId) (enc : α → List Value) (sz : Nat) (xs : List α) (e : Ending) (w' : World) : Prop :=
  ∃ u, e = .returned u ∧ Own w' w.heap.size t enc sz u xs ∧ Below w.heap.size w w'

theorem infoE : (Try.prog.info? 48).map (fun i => (i.zero, i.size, i.bytes)) = some (some (.agg #[.int .i64 0, .string ByteArray.empty, .int .i64 0]), 3, 32) := by kernel_rfl

set_option maxRecDepth 100000 in
set_option maxHeartbeats 400000 in
theorem cloneE_any {α : Type} {enc : α → List Value} (C : Codec enc 3) (w : World) (v : Value) (xs : List α) (hv : Rd w w.heap.size enc 3 v xs) (hsz : xs.length * 32 ≤ 140737488355328) :
    Calls Try.prog 99 #[v] w (OwnRet w 48 enc 3 xs) := by
  obtain ⟨p, cap, rfl, hlc, hcm, hp0, hp⟩ := hv
  have HS := Lib.hid hsz
  have HC := Lib.hid hcm
  clear hsz hcm
  cases p with
  | none =>
    have h0 : xs.length = 0 := by have := hp0 rfl; omega
    obtain rfl := List.eq_nil_of_length_eq_zero h0
    obtain rfl : cap = 0 := hp0 rfl
    have hnil : ∀ W n, (Go.binOp .eql 33 (.slice none n 0) (.slice none 0 0)).run Try.prog W = .ok (.bool true) W := fun W n => Lib.run_eql_slice_nil W 33 48 none n 0 0 0 Try.underlying33
    clear hp hp0 h0 hlc
    go_enter Try.func99, Try.ntmps99
    go_wp2
    go_ret
    exact ⟨_, rfl, Own.nil w _ _, Below.refl _ _⟩
  | some a =>
    obtain ⟨i0, hi, hz0, hz1, hz2⟩ := info_parts infoE
    have hnil : ∀ W n c, (Go.binOp .eql 33 (.slice (some a) n c) (.slice none 0 0)).run Try.prog W = .ok (.bool false) W := fun W n c => Lib.run_eql_slice_nil W 33 48 (some a) n c 0 0 Try.underlying33
    have hO := World.ownsRow_made (base := w.heap.size) (e := 48) (size := 3) w #[] 0 (Nat.le_refl _) (Nat.zero_le _) rfl
    have hN : ∀ ob j u, (cellsOf enc xs)[j]? = some u → (w.alloc ob).cell? (a.add j) = some u := by
      intro ob j u hu
      by_cases h0 : 0 < xs.length
      · obtain ⟨b, o, rfl, hb, hr⟩ := hp a rfl h0
        exact (hr.below ((Below.refl w.heap.size w).alloc (Nat.le_refl _) ob) hb).news C j u hu
      · have : xs = [] := List.eq_nil_of_length_eq_zero (by omega)
        subst this
        simp [cellsOf] at hu
    clear hp hp0
    have hL := cellsOf_len C xs
    have h1 := cellsOf_one C xs
    have HK : Hid (0 + xs.length ≤ maxLen) := by have := HC.out; unfold Hid; omega
    have HY : Hid ((0 + xs.length) * 32 ≤ 140737488355328) := by have := HS.out; unfold Hid; omega
    go_enter Try.func99, Try.ntmps99
    go_wp2_with (at_builtin; refine wpList_append_own _ rfl _ _ 33 rfl w.heap.size 48 i0 _ 3 32 Try.underlying33 hi hz0 hz1 hz2 rfl (by decide) (.slice (some ⟨w.heap.size, 0, none⟩) 0 0) 0 [] rfl hO a xs.length cap (cellsOf enc xs) rfl hL (hN _) h1 HK.out HY.out (by simp) ?_; intro v1 w1 hown1 hg1 _)
    go_ret
    rw [Nat.zero_add, List.nil_append] at hown1
    exact ⟨v1, rfl, hown1, ((Below.refl w.heap.size w).alloc (Nat.le_refl _) _).grown hg1 (by simp) (fun k e => by cases e; exact Nat.le_refl _)⟩
end Go.Proofs.Ythgkgjcnmahacaa
end

section
set_option linter.unusedSimpArgs false
set_option linter.unusedVariables false
namespace Go.Proofs.Ythgkgjcnmahacaa
open Go.RowKit Go.OpenShut

def encE (e : En) : List Value := [.int .i64 e.seq, .string e.id, .int .i64 e.what]
theorem codecE : Codec encE 3 := ⟨fun _ => rfl, fun x u hu => by
  simp only [encE, List.mem_cons, List.not_mem_nil, or_false] at hu
  rcases hu with rfl | rfl | rfl <;> rfl, by decide⟩

theorem rowE {w : World} {b o : Nat} {es : List En} : RowAt w b o encE 3 es ↔ ∀ i, i < es.length → enAt w b (o + i * 3) es[i]? := by
  constructor
  · intro h i hi
    have hx : es[i]? = some es[i] := List.getElem?_eq_getElem hi
    have := h i es[i] hx
    exact ⟨es[i], hx, this 0 _ rfl, this 1 _ rfl, this 2 _ rfl⟩
  · intro h i x hx j u hu
    obtain ⟨y, hy, h0, h1, h2⟩ := h i (List.getElem?_eq_some_iff.1 hx).1
    rw [hx] at hy
    cases hy
    match j, hu with
    | 0, hu => cases hu; exact h0
    | 1, hu => cases hu; exact h1
    | 2, hu => cases hu; exact h2
    | _ + 3, hu => simp [encE] at hu
theorem rdE_iff {w : World} {B : Nat} {v : Value} {es : List En} : RdE w B v es ↔ (∀ e ∈ es, e.ok) ∧ Rd w B encE 3 v es := by
  unfold RdE Rd
  simp only [rowE]

/-- How many entries go; what is left; the floor. -/
def addGone (n : Nat) (keep : Int) : Nat := n + 1 - keep.toNat
def addL (l : List En) (keep : Int) (e : En) : List En := (l ++ [e]).drop (addGone l.length keep)
def addF (l : List En) (floor keep : Int) (e : En) : Int := if addGone l.length keep = 0 then floor else (((l ++ [e])[addGone l.length keep - 1]?).map En.seq).getD 0

def AddRet (w : World) (l : List En) (f : Int) (en : Ending) (w' : World) : Prop :=
  ∃ u, en = .returned (.tuple #[u, .int .i64 f]) ∧ Own w' w.heap.size 48 encE 3 u l ∧ Below w.heap.size w w'

theorem ret_pair {u : Value} {k : IntKind} {a b : Int} (h : a = b) : Ending.returned (.tuple #[u, .int k a]) = .returned (.tuple #[u, .int k b]) := by rw [h]

def AddMid (w : World) (l : List En) (e : En) (s : Value) (wr : World) : Prop :=
  ∃ gg cap, s = .slice (some ⟨gg, 0, none⟩) (l.length + 1) cap ∧ wr.ownsRow w.heap.size 48 3 (.slice (some ⟨gg, 0, none⟩) (l.length + 1) cap) (l.length + 1) (cellsOf encE l ++ encE e) ∧ Below w.heap.size w wr

set_option maxRecDepth 100000 in
set_option maxHeartbeats 1000000 in
theorem add_any (w : World) (v : Value) (l : List En) (floor keep : Int) (e : En) (hv : Rd w w.heap.size encE 3 v l) (hf : (Lit.int .i64 floor).wf = true) (hk : (Lit.int .i64 keep).wf = true) (hsz : (l.length + 1) * 32 ≤ 140737488355328) :
    Calls Try.prog 101 #[v, .int .i64 floor, .int .i64 keep, .agg #[.int .i64 e.seq, .string e.id, .int .i64 e.what]] w (AddRet w (addL l keep e) (addF l floor keep e)) := by
  have bk := bounds_i64 hk
  have hlen : l.length ≤ 4398046511104 := by omega
  have HS := Lib.hid hsz
  obtain ⟨i0, hi, hz0, hz1, hz2⟩ := info_parts infoE
  clear hsz hk hf
  have HM : Hid (l.length + 1 ≤ maxLen) := by unfold Hid maxLen; omega
  have HV := Lib.hid hv
  clear hv
  go_enter Try.func101, Try.ntmps101
  go_upto_region 1 with fail
  have HCL := Lib.hid (show ∀ W, Below w.heap.size w W → Calls Try.prog 99 #[v] W (OwnRet W 48 encE 3 l) from fun W h => cloneE_any codecE W v l (HV.out.below h h.size) (by have := HS.out; omega))
  go_cut [10] from 12 to 16 (fun s wr => AddMid w l e s wr)
  case first =>
    go_region_held3 (fun w' => w'.cell? ⟨w.heap.size, 0, none⟩ = some (.int .i64 e.seq) ∧ w'.cell? ⟨w.heap.size, 1, none⟩ = some (.string e.id) ∧ w'.cell? ⟨w.heap.size, 2, none⟩ = some (.int .i64 e.what))
      (first
        | go_keep
        | (refine ⟨?_, ?_, ?_⟩ <;> (rw [hb.cell (by simp; try omega)]; first | assumption | simp [*]))
        | (go_split_ands
           refine ⟨?_, ?_, ?_⟩ <;> (rw [hgrow.cell_far _ (by have := hb.size; simp at this ⊢; omega) (fun hh => absurd (ho.lt _ hh.symm).1 (by simp; try omega))]; first | assumption | simp [*])))
      (first
        | (go_at_call 99; refine (HCL.out _ ?_).mono ?_; (repeat (first | exact Below.refl _ _ | apply Below.drew | refine Below.alloc ?_ (by simp) _)); rintro e1 w1 ⟨u, rfl, ho, hb⟩)
        | (have _t := hb
           have q3 := World.ownsRow.alloc (ho.mono (base' := w.heap.size) (by simp; try omega)) (.cells #[.int .i64 e.seq, .string e.id, .int .i64 e.what] 48)
           have q5 := World.news_of_block (w := w1.alloc (.cells #[.int .i64 e.seq, .string e.id, .int .i64 e.what] 48)) (cs := #[.int .i64 e.seq, .string e.id, .int .i64 e.what]) (t := 48) (fr := (0, 0)) (heap_alloc_new w1 _)
           refine step_append_lies _ (by rfl) _ _ _ (by rfl) w.heap.size 48 i0 _ 3 32 Try.underlying33 hi hz0 hz1 hz2 rfl (by omega) u l.length (cellsOf encE l) (by rfl) q3 ⟨w1.heap.size, 0, none⟩ 1 1 (encE e) (by rfl) (by rfl) q5 (codecE.one e) Nat.one_pos HM.out HS.out (by have := hb.size; simp at this ⊢; omega) (w1.heap.size + 1) (by simp) ?_
           intro gg cap w2 hown2 hgrow hat hlt)
        | (have _t := hb
           have q3 := ho.mono (base' := w.heap.size) (by simp; try omega)
           have q5 : ∀ j u, (encE e)[j]? = some u → w1.cell? ((⟨w.heap.size + 1, 0, none⟩ : Addr).add j) = some u := by
             intro j u hu
             rw [add_eq, Nat.zero_add, hb.cell (p := ⟨w.heap.size + 1, j, none⟩) (by simp), ← World.news_of_block (w := ((w.alloc (.cells #[.int .i64 e.seq, .string e.id, .int .i64 e.what] 48)).alloc (.cells #[.int .i64 e.seq, .string e.id, .int .i64 e.what] 48))) (B := w.heap.size + 1) (cs := #[.int .i64 e.seq, .string e.id, .int .i64 e.what]) (t := 48) (fr := (0, 0)) (by have := heap_alloc_new (w.alloc (.cells #[.int .i64 e.seq, .string e.id, .int .i64 e.what] 48)) (.cells #[.int .i64 e.seq, .string e.id, .int .i64 e.what] 48); simpa using this) j u hu, add_eq, Nat.zero_add]
             rfl
           refine step_append_lies _ (by rfl) _ _ _ (by rfl) w.heap.size 48 i0 _ 3 32 Try.underlying33 hi hz0 hz1 hz2 rfl (by omega) u l.length (cellsOf encE l) (by rfl) q3 ⟨w.heap.size + 1, 0, none⟩ 1 1 (encE e) (by rfl) (by rfl) q5 (codecE.one e) Nat.one_pos HM.out HS.out (by have := hb.size; simp at this ⊢; omega) w1.heap.size rfl ?_
           intro gg cap w2 hown2 hgrow hat hlt))
    all_goals
      go_wp2_with fail
      go_meet
      refine ⟨gg, cap, rfl, hown2, ?_⟩
      first
        | exact ((((Below.refl _ _).alloc (Nat.le_refl _) _).drew.trans (hb.mono (by simp))).alloc (by have := hb.size; simp at this; omega) _).grown hgrow (by have := hb.size; simp at this ⊢; omega) (fun k hk => by have := (ho.lt k hk).1; simp at this; omega)
        | exact (((((Below.refl _ _).alloc (Nat.le_refl _) _).alloc (by simp) _).drew.trans (hb.mono (by simp; omega)))).grown hgrow (by have := hb.size; simp at this ⊢; omega) (fun k hk => by have := (ho.lt k hk).1; simp at this; omega)
  case rest =>
  obtain ⟨gg, cap, rfl, hown2, hB2⟩ := hcut
  have HO : Own wc w.heap.size 48 encE 3 (.slice (some ⟨gg, 0, none⟩) (l ++ [e]).length cap) (l ++ [e]) := by
    unfold Own
    rw [cellsOf_append, cellsOf_single, List.length_append]
    exact hown2
  have HRD := HO.rd codecE
  have hL : (l ++ [e]).length = l.length + 1 := by simp
  rw [hL] at HRD
  clear hown2 HO hL
  have HRD' := Lib.hid HRD
  have hcell : ∀ k x, (l ++ [e])[k]? = some x → wc.cell? ⟨gg, k * 3, none⟩ = some (.int .i64 x.seq) := by
    obtain ⟨p, c, he, _, _, _, hp⟩ := HRD
    simp only [Value.slice.injEq] at he
    obtain ⟨rfl, _, rfl⟩ := he
    obtain ⟨b, o, hbo, _, hr⟩ := hp _ rfl (by simp)
    cases hbo
    intro k x hx
    simpa using hr k x hx 0 _ rfl
  have HCE := Lib.hid hcell
  clear hcell HRD
  have HF : ∀ (g : Nat) (v2 : Value), Rd wc wc.heap.size encE 3 v2 ((l ++ [e]).drop g) → Calls Try.prog 99 #[v2] wc (OwnRet wc 48 encE 3 ((l ++ [e]).drop g)) := fun g v2 h2 => cloneE_any codecE wc v2 _ h2 (by have := HS.out; simp only [List.length_drop, List.length_append, List.length_singleton]; omega)
  have HFF := Lib.hid HF
  clear HF
  by_cases hg0 : addGone l.length keep = 0
  · have h1 : (l.length : Int) + 1 ≤ keep := by unfold addGone at hg0; omega
    obtain ⟨v2, hsl, hr2⟩ := slice_from Try.underlying33 hi hz1 HRD'.out 0 (Nat.zero_le _)
    have HR2 := Lib.hid hr2
    have hsl0 : ∀ W, (Instr.sliceAt 33 (.slice (some ⟨gg, 0, none⟩) (l.length + 1) cap) (some (.int .i64 0)) none none).run Try.prog W = .ok v2 W := hsl
    have HE : Hid (addF l floor keep e = floor ∧ addL l keep e = (l ++ [e]).drop 0) := by unfold Hid addF addL; rw [if_pos hg0, hg0]; exact ⟨rfl, rfl⟩
    clear hsl hr2 hi hz0 hz1 hz2 hg0
    go_wp2_with (go_at_call 99; refine (HFF.out 0 v2 HR2.out).mono ?_; rintro e3 w3 ⟨u3, rfl, ho3, hb3⟩)
    go_ret2
    exact ⟨u3, ret_pair HE.out.1.symm, by rw [HE.out.2]; exact ho3.mono hB2.size, hB2.trans (hb3.mono hB2.size)⟩
  · have h1 : keep ≤ (l.length : Int) := by unfold addGone at hg0; omega
    have hgl : addGone l.length keep - 1 < (l ++ [e]).length := by unfold addGone; simp; omega
    obtain ⟨x, hx⟩ : ∃ x, (l ++ [e])[addGone l.length keep - 1]? = some x := ⟨_, List.getElem?_eq_getElem hgl⟩
    obtain ⟨v2, hsl, hr2⟩ := slice_from Try.underlying33 hi hz1 HRD'.out (addGone l.length keep) (by unfold addGone; omega)
    have HR2 := Lib.hid hr2
    have HE : Hid (addF l floor keep e = x.seq ∧ addL l keep e = (l ++ [e]).drop (addGone l.length keep)) := by unfold Hid addF addL; rw [if_neg hg0, hx]; exact ⟨rfl, rfl⟩
    have hc := HCE.out _ x hx
    clear hr2 hi hz0 hz1 hz2 hg0 hgl hx
    by_cases hk0 : 0 ≤ keep
    · obtain ⟨K, rfl⟩ := Int.eq_ofNat_of_zero_le hk0
      have h2 : K ≤ l.length := by omega
      have e1 : addGone l.length (K : Int) = l.length + 1 - K := by unfold addGone; simp
      have e2 : ((l.length + 1 - K : Nat) : Int) = (l.length : Int) + 1 - K := by omega
      rw [e1] at hc hsl HR2 HE
      rw [e2] at hsl
      clear e1 e2
      go_wp2_with (go_at_call 99; refine (HFF.out _ v2 HR2.out).mono ?_; rintro e3 w3 ⟨u3, rfl, ho3, hb3⟩)
      go_ret2
      exact ⟨u3, ret_pair HE.out.1.symm, by rw [HE.out.2]; exact ho3.mono hB2.size, hB2.trans (hb3.mono hB2.size)⟩
    · have e1 : addGone l.length keep = l.length + 1 := by unfold addGone; omega
      have e2 : ((l.length + 1 : Nat) : Int) = (l.length : Int) + 1 := by omega
      rw [e1] at hc hsl HR2 HE
      rw [e2] at hsl
      rw [Nat.add_sub_cancel] at hc
      clear e1 e2
      go_wp2_with (go_at_call 99; refine (HFF.out _ v2 HR2.out).mono ?_; rintro e3 w3 ⟨u3, rfl, ho3, hb3⟩)
      go_ret2
      exact ⟨u3, ret_pair HE.out.1.symm, by rw [HE.out.2]; exact ho3.mono hB2.size, hB2.trans (hb3.mono hB2.size)⟩
end Go.Proofs.Ythgkgjcnmahacaa
end

section
/- A slice of entries that came in reads as a list. -/
set_option linter.unusedSimpArgs false
set_option linter.unusedVariables false
set_option maxRecDepth 100000
namespace Go.Proofs.Ythgkgjcnmahacaa
open Go.ChangeShapes Go.WideShapes Go.Deep Go.RowKit Go.Lib

theorem cells2 : Try.prog.cellsOf 2 = 1 := by kernel_rfl
theorem cells3 : Try.prog.cellsOf 3 = 1 := by kernel_rfl
theorem cells9 : Try.prog.cellsOf 9 = 1 := by kernel_rfl
theorem cellsOf26 : Try.prog.cellsOf 48 = 3 := by kernel_rfl
theorem bytesOf26 : Try.prog.bytesOf 48 = 32 := by kernel_rfl

section
variable {H : Type} {enc : TypeId × Value → H} {W : World} {base b0 : Nat} {spare : Nat → Bool} {held : Bool}
theorem open_entry {n : Nat} {cs : List Value} {y : DataW H × List MemPlace} (h : DataW.trod enc Try.prog W base spare held n 48 cs = some y) : ∃ a : En, cs = encE a ∧ a.ok := by
  obtain ⟨y0, y1, y2, n, _, hlen, t0, t1, t2⟩ := trod_struct3 Try.underlying48 h
  rw [cellsOf26] at hlen
  obtain ⟨x0, x1, x2, rfl⟩ : ∃ x0 x1 x2, cs = [x0, x1, x2] := by
    match cs, hlen with
    | [x0, x1, x2], _ => exact ⟨x0, x1, x2, rfl⟩
  dsimp only at t0 t1 t2
  rw [cells2] at t0
  rw [cells9] at t1
  rw [cells3] at t2
  obtain ⟨s, e0, _, w0⟩ := DataW.trod_int Try.underlying2 t0
  obtain ⟨t, e1, _, w1⟩ := DataW.trod_string Try.underlying9 t1
  obtain ⟨u, e2, _, w2⟩ := DataW.trod_int Try.underlying3 t2
  simp at e0 e1 e2
  subst e0 e1 e2
  exact ⟨⟨s, t, u⟩, rfl, w0, w1, w2⟩
theorem open_ents_cells {fuel : Nat} {cs : List Value} {x : DataW H × List MemPlace} (h : DataW.trod enc Try.prog W base spare held fuel 33 cs = some x) :
    ∃ p n c, ∃ l : List En, cs = [.slice p n c] ∧ RdE W W.heap.size (.slice p n c) l ∧ (l = [] ∨ ∃ es sp, x.1 = .slice es sp ∧ es.length = l.length) := by
  obtain ⟨p, n, c, l, e, hr, hd⟩ := open_list (Q := fun (a : En) _ => a.ok) Try.underlying33 cellsOf26 codecE h (fun n _ cs y hy => open_entry hy)
  rcases hd with ⟨rfl, _⟩ | ⟨es, sp, h1, h2, h3⟩
  · exact ⟨p, n, c, [], e, rdE_iff.2 ⟨by simp, hr⟩, .inl rfl⟩
  · refine ⟨p, n, c, l, e, rdE_iff.2 ⟨fun a ha => ?_, hr⟩, .inr ⟨es, sp, h1, h2⟩⟩
    obtain ⟨i, hi⟩ := List.getElem?_of_mem ha
    obtain ⟨_, _, hq⟩ := h3 i a hi
    exact hq
theorem open_ents {v : Value} {d : DataW H} {p : List MemPlace} (hval : Value.okWide Try.prog W .any b0 33 v) (h : DataW.Trod enc Try.prog W base spare held 33 v d p) :
    ∃ l : List En, RdE W W.heap.size v l ∧ (l = [] ∨ ∃ es sp, d = .slice es sp ∧ es.length = l.length) := by
  obtain ⟨fuel, hf⟩ := h
  obtain ⟨a, len, cap, rfl⟩ := okWide_slice Try.underlying33 hval
  obtain ⟨p', n', c', l, e, h1, h2⟩ := open_ents_cells hf
  have hcs : (Value.slice a len cap).cells.toList = [.slice a len cap] := rfl
  rw [hcs] at e
  simp only [List.cons.injEq, Value.slice.injEq, and_true] at e
  obtain ⟨rfl, rfl, rfl⟩ := e
  exact ⟨l, h1, h2⟩
end
end Go.Proofs.Ythgkgjcnmahacaa
end

section
/- Boxes of objects, and how they lie in memory; a box that came in reads as one. -/
set_option linter.unusedSimpArgs false
set_option linter.unusedVariables false
set_option maxRecDepth 100000
namespace Go.Proofs.Ythgkgjcnmahacaa
open Go Go.RowKit Go.ChangeShapes Go.WideShapes Go.Deep

/-- A box, as data. -/
structure BoxD where
  objs : List (ByteArray × JV)
  trail : List En
  seq : Int
  floor : Int
  keep : Int
/-- A box's own cells. -/
structure RB where
  po : Option Addr
  no : Nat
  co : Nat
  pt : Option Addr
  nt : Nat
  ct : Nat
  sq : Int
  fl : Int
  kp : Int
abbrev RB.val (r : RB) : Value := .agg #[.slice r.po r.no r.co, .slice r.pt r.nt r.ct, .int .i64 r.sq, .int .i64 r.fl, .int .i64 r.kp]
def encB (r : RB) : List Value := [.slice r.po r.no r.co, .slice r.pt r.nt r.ct, .int .i64 r.sq, .int .i64 r.fl, .int .i64 r.kp]
abbrev RB.obj (r : RB) : Obj := .cells #[.slice r.po r.no r.co, .slice r.pt r.nt r.ct, .int .i64 r.sq, .int .i64 r.fl, .int .i64 r.kp] 35
def RB.zero : RB := ⟨none, 0, 0, none, 0, 0, 0, 0, 0⟩
def BoxD.zero : BoxD := ⟨[], [], 0, 0, 0⟩

/-- The value reads as a list of objects. -/
def ObjsOf (w : World) (B : Nat) (os : List (ByteArray × JV)) (v : Value) : Prop := ∃ ros, Rd w B encM 6 v ros ∧ MemsOf w B os ros
theorem ObjsOf.under {w w' : World} {B B' : Nat} {os : List (ByteArray × JV)} {v : Value} (h : ObjsOf w B os v) (hb : Below B w w') (hB : B ≤ B') : ObjsOf w' B' os v := by
  obtain ⟨ros, h1, h2⟩ := h
  exact ⟨ros, h1.below hb hB, h2.under hb hB⟩
theorem ObjsOf.nlen {w : World} {B n c : Nat} {os : List (ByteArray × JV)} {p : Option Addr} (h : ObjsOf w B os (.slice p n c)) : os.length = n := by
  obtain ⟨ros, h1, h2⟩ := h
  have := rd_nlen h1
  have := h2.len
  omega
theorem ObjsOf.nil (w : World) (B : Nat) : ObjsOf w B [] (.slice none 0 0) := ⟨[], Rd.nil _ _, MemsOf.nil _ _⟩
theorem RdE.under {w w' : World} {B B' : Nat} {v : Value} {l : List En} (h : RdE w B v l) (hb : Below B w w') (hB : B ≤ B') : RdE w' B' v l :=
  rdE_iff.2 ⟨(rdE_iff.1 h).1, (rdE_iff.1 h).2.below hb hB⟩
theorem RdE.nlen {w : World} {B n c : Nat} {l : List En} {p : Option Addr} (h : RdE w B (.slice p n c) l) : l.length = n := (rd_nlen (rdE_iff.1 h).2).symm
theorem RdE.nil (w : World) (B : Nat) : RdE w B (.slice none 0 0) [] := rdE_iff.2 ⟨fun e h => by simp at h, Rd.nil _ _⟩

structure BoxOf (w : World) (B : Nat) (b : BoxD) (r : RB) : Prop where
  objs : ObjsOf w B b.objs (.slice r.po r.no r.co)
  trail : RdE w B (.slice r.pt r.nt r.ct) b.trail
  seq : b.seq = r.sq
  floor : b.floor = r.fl
  keep : b.keep = r.kp
theorem BoxOf.under {w w' : World} {B B' : Nat} {b : BoxD} {r : RB} (h : BoxOf w B b r) (hb : Below B w w') (hB : B ≤ B') : BoxOf w' B' b r :=
  ⟨h.objs.under hb hB, h.trail.under hb hB, h.seq, h.floor, h.keep⟩
theorem BoxOf.zero (w : World) (B : Nat) : BoxOf w B BoxD.zero RB.zero := ⟨ObjsOf.nil _ _, RdE.nil _ _, rfl, rfl, rfl⟩

/-- Its numbers fit, its texts and lists have lengths that may be. -/
structure BoxD.Ok (b : BoxD) : Prop where
  objs : b.objs.length ≤ 1466015503658
  each : ∀ p ∈ b.objs, p.1.size ≤ 140737488351232 ∧ p.2.Ok
  trail : b.trail.length ≤ 4398046510976
  seq : (Lit.int .i64 b.seq).wf = true
  floor : (Lit.int .i64 b.floor).wf = true
  keep : (Lit.int .i64 b.keep).wf = true
theorem BoxD.zero_ok : BoxD.zero.Ok := ⟨by decide, fun p h => by simp [BoxD.zero] at h, by decide, by decide, by decide, by decide⟩

theorem slO : SlT Try.prog 32 46 6 96 := SlT.mk (z := .agg #[.string ByteArray.empty, .int .i64 0, .int .i64 0, .string ByteArray.empty, .slice none 0 0, .slice none 0 0]) Try.underlying32 (by kernel_rfl) rfl
theorem slEn : SlT Try.prog 33 48 3 32 := SlT.mk Try.underlying33 infoE rfl
theorem cellsO : Try.prog.cellsOf 46 = 6 := by kernel_rfl
theorem bytesO : Try.prog.bytesOf 46 = 96 := by kernel_rfl
theorem celO : Try.prog.cellsOf 32 = 1 := by kernel_rfl
theorem celE : Try.prog.cellsOf 33 = 1 := by kernel_rfl
theorem cellsB : Try.prog.cellsOf 35 = 5 := by kernel_rfl

section
variable {H : Type} {enc : TypeId × Value → H} {W : World} {base b0 : Nat} {spare : Nat → Bool} {held : Bool}
theorem open_objs {fuel : Nat} {cs : List Value} {x : DataW H × List MemPlace} (h : DataW.trod enc Try.prog W base spare held fuel 32 cs = some x) :
    ∃ p n c os, cs = [.slice p n c] ∧ ObjsOf W W.heap.size os (.slice p n c) ∧ ((∀ n ∈ x.1.weights Try.prog 32, n ≤ 140737488351232) → os.length ≤ 1466015503658 ∧ ∀ p ∈ os, p.1.size ≤ 140737488351232 ∧ p.2.Ok) := by
  obtain ⟨pm, nm, cm, rms, e4, hr4, hd4⟩ := open_list (Q := fun (r : RM) (d : DataW H) => ∃ t, TreeOf W W.heap.size t r.v ∧ ((∀ n ∈ d.weights Try.prog 46, n ≤ 140737488351232) → r.name.size ≤ 140737488351232 ∧ t.Ok)) Try.underlying32 cellsO codecM h
    (fun m hm cs y hy => by
      obtain ⟨z0, z1, j, rfl, hy1, hlen, u0, u1⟩ := trodF2 Try.underlying46 hy
      rw [cellsO] at hlen
      obtain ⟨a0, a1, a2, a3, a4, a5, rfl⟩ : ∃ a0 a1 a2 a3 a4 a5, cs = [a0, a1, a2, a3, a4, a5] := by
        match cs, hlen with
        | [a, b, c, d, e, f], _ => exact ⟨a, b, c, d, e, f, rfl⟩
      rw [hy1]
      dsimp only at u0 u1
      rw [cel3] at u0
      rw [cellsV] at u1
      simp only [List.drop_zero, List.drop_succ_cons, List.take_succ_cons, List.take_zero] at u0 u1
      obtain ⟨nm, g0, g1, g2⟩ := DataW.trod_string Try.underlying9 u0
      simp only [List.cons.injEq, and_true] at g0
      subst g0 g1
      obtain ⟨r, t, h1, h2, h3⟩ := open_val j _ _ u1
      refine ⟨⟨nm, r⟩, by rw [h1]; rfl, t, h2, fun hw => ⟨weights_string (weights_struct Try.underlying46 hw (i := 0) rfl rfl), h3 (weights_struct Try.underlying46 hw (i := 1) rfl rfl)⟩⟩)
  have hM : ∀ i, i < rms.length → ∃ p : ByteArray × JV, ∀ q, rms[i]? = some q → p.1 = q.name ∧ TreeOf W W.heap.size p.2 q.v ∧ ((∀ n ∈ x.1.weights Try.prog 32, n ≤ 140737488351232) → p.1.size ≤ 140737488351232 ∧ p.2.Ok) := by
    intro i hi
    obtain ⟨q, hq⟩ : ∃ q, rms[i]? = some q := ⟨_, List.getElem?_eq_getElem hi⟩
    rcases hd4 with ⟨rfl, _⟩ | ⟨es, sp, h1, h2, h3⟩
    · simp at hi
    · obtain ⟨d, hd, t, ht1, ht2⟩ := h3 i q hq
      refine ⟨(q.name, t), fun q' hq' => ?_⟩
      rw [hq] at hq'
      cases hq'
      refine ⟨rfl, ht1, fun hw => ht2 ?_⟩
      rw [h1] at hw
      exact (weights_slice Try.underlying32 hw).2 d (List.mem_of_getElem? hd)
  obtain ⟨ps, hps, hps2⟩ := list_of rms.length hM
  refine ⟨pm, nm, cm, ps, e4, ⟨rms, hr4, hps, fun i p q h1 h2 => (hps2 i p h1 q h2).1, fun i p q h1 h2 => (hps2 i p h1 q h2).2.1⟩, fun hw => ⟨?_, fun p hp => ?_⟩⟩
  · rcases hd4 with ⟨rfl, _⟩ | ⟨es, sp, h1, h2, _⟩
    · rw [hps]; simp
    · rw [h1] at hw
      have := (weights_slice Try.underlying32 hw).1
      rw [bytesO] at this
      omega
  · obtain ⟨i, hi⟩ := List.getElem?_of_mem hp
    obtain ⟨q, hq⟩ : ∃ q, rms[i]? = some q := ⟨_, List.getElem?_eq_getElem (by have := (List.getElem?_eq_some_iff.1 hi).1; omega)⟩
    exact (hps2 i p hi q hq).2.2 hw

theorem open_box_cells {fuel : Nat} {cs : List Value} {x : DataW H × List MemPlace} (h : DataW.trod enc Try.prog W base spare held fuel 35 cs = some x) :
    ∃ r b, cs = encB r ∧ BoxOf W W.heap.size b r ∧ ((∀ n ∈ x.1.weights Try.prog 35, n ≤ 140737488351232) → b.Ok) := by
  obtain ⟨y0, y1, y2, y3, y4, n, rfl, hx1, hlen, t0, t1, t2, t3, t4⟩ := trodF5 Try.underlying35 h
  rw [cellsB] at hlen
  obtain ⟨c0, c1, c2, c3, c4, rfl⟩ : ∃ c0 c1 c2 c3 c4, cs = [c0, c1, c2, c3, c4] := by
    match cs, hlen with
    | [a, b, c, d, e], _ => exact ⟨a, b, c, d, e, rfl⟩
  rw [hx1]
  dsimp only at t0 t1 t2 t3 t4
  rw [celO] at t0
  rw [celE] at t1
  rw [cel1] at t2 t3
  rw [cel2] at t4
  simp only [List.drop_zero, List.drop_succ_cons, List.take_succ_cons, List.take_zero] at t0 t1 t2 t3 t4
  obtain ⟨sq, e2, f2, w2⟩ := DataW.trod_int Try.underlying2 t2
  obtain ⟨fl, e3, f3, w3⟩ := DataW.trod_int Try.underlying2 t3
  obtain ⟨kp, e4, f4, w4⟩ := DataW.trod_int Try.underlying3 t4
  simp only [List.cons.injEq, and_true] at e2 e3 e4
  subst e2 e3 e4 f2 f3 f4
  obtain ⟨po, no, co, os, e0, ho, wo⟩ := open_objs t0
  obtain ⟨pt, nt, ct, l, e1, hl, wl⟩ := open_ents_cells t1
  simp only [List.cons.injEq, and_true] at e0 e1
  subst e0 e1
  refine ⟨⟨po, no, co, pt, nt, ct, sq, fl, kp⟩, ⟨os, l, sq, fl, kp⟩, rfl, ⟨ho, hl, rfl, rfl, rfl⟩, fun hw => ?_⟩
  have hwo := wo (weights_struct Try.underlying35 hw (i := 0) rfl rfl)
  have hwl : ∀ n ∈ y1.1.weights Try.prog 33, n ≤ 140737488351232 := weights_struct Try.underlying35 hw (i := 1) rfl rfl
  refine ⟨hwo.1, hwo.2, ?_, w2, w3, w4⟩
  rcases wl with rfl | ⟨es, sp, h1, h2⟩
  · simp
  · rw [h1] at hwl
    have := (weights_slice Try.underlying33 hwl).1
    rw [bytesOf26] at this
    show l.length ≤ _
    omega
theorem open_box {v : Value} {d : DataW H} {p : List MemPlace} (hval : Value.okWide Try.prog W .any b0 35 v) (h : DataW.Trod enc Try.prog W base spare held 35 v d p) :
    ∃ r b, v = RB.val r ∧ BoxOf W W.heap.size b r ∧ ((∀ n ∈ d.weights Try.prog 35, n ≤ 140737488351232) → b.Ok) := by
  obtain ⟨cs, rfl, hsz⟩ := okWide_struct Try.underlying35 hval
  obtain ⟨fuel, hf⟩ := h
  obtain ⟨r, b, h1, h2, h3⟩ := open_box_cells hf
  refine ⟨r, b, ?_, h2, h3⟩
  have : cs = (encB r).toArray := by
    apply Array.ext'
    simpa [Value.cells] using h1
  rw [this]
  rfl
end
end Go.Proofs.Ythgkgjcnmahacaa
end

section
/- The plain laws of a stable sort by blocks and symmetric merges: exchanges of ranges, rotations, insertions; no program in sight. -/
set_option linter.unusedSimpArgs false
set_option linter.unusedVariables false
namespace Go.Proofs.Ythgkgjcnmahacaa
open Go.Sort
open Go.Proofs (ltOf)
variable {α : Type} [Inhabited α]

/-- n rounds of an exchange of [a, a+n) and [b, b+n). -/
def swr (d : Array α) (a b : Nat) : Nat → Array α
  | 0 => d
  | n + 1 => swp (swr d a b n) (a + n) (b + n)
theorem size_swr (d : Array α) (a b n : Nat) : (swr d a b n).size = d.size := by
  induction n with
  | zero => rfl
  | succ n ih => rw [swr, size_swp, ih]
theorem swr_get (d : Array α) (a b n : Nat) (h : a + n ≤ b) (hb : b + n ≤ d.size) (t : Nat) :
    (swr d a b n)[t]! = if a ≤ t ∧ t < a + n then d[b + (t - a)]! else if b ≤ t ∧ t < b + n then d[a + (t - b)]! else d[t]! := by
  induction n generalizing t with
  | zero => rw [if_neg (by omega), if_neg (by omega)]; rfl
  | succ n ih =>
    have ih' := fun t => ih (by omega) (by omega) t
    rw [swr, swp_get _ (by rw [size_swr]; omega) (by rw [size_swr]; omega), ih', ih', ih']
    rw [if_neg (by omega : ¬ (a ≤ a + n ∧ a + n < a + n)), if_neg (by omega : ¬ (b ≤ a + n ∧ a + n < b + n)), if_neg (by omega : ¬ (a ≤ b + n ∧ b + n < a + n)), if_neg (by omega : ¬ (b ≤ b + n ∧ b + n < b + n))]
    by_cases h1 : t = b + n
    · rw [if_pos h1, if_neg (by omega), if_pos (by omega)]; congr 1; omega
    · rw [if_neg h1]
      by_cases h2 : t = a + n
      · rw [if_pos h2, if_pos (by omega)]; congr 1; omega
      · rw [if_neg h2]
        by_cases h3 : a ≤ t ∧ t < a + n
        · rw [if_pos h3, if_pos (by omega)]
        · rw [if_neg h3, if_neg (by omega : ¬ (a ≤ t ∧ t < a + (n + 1)))]
          by_cases h4 : b ≤ t ∧ t < b + n
          · rw [if_pos h4, if_pos (by omega)]
          · rw [if_neg h4, if_neg (by omega)]
theorem swr_perm (d : Array α) (a b n lo hi : Nat) (h1 : lo ≤ a) (h2 : a + n ≤ hi) (h3 : lo ≤ b) (h4 : b + n ≤ hi) (h5 : hi ≤ d.size) : PermIn lo hi d (swr d a b n) := by
  induction n with
  | zero => exact permIn_refl _ _ _
  | succ n ih => exact permIn_trans _ _ _ _ _ (ih (by omega) (by omega)) (swp_permIn _ _ _ _ _ (by omega) (by omega) (by omega) (by omega) (by rw [size_swr]; exact h5))

/-- The place t behind a rotation of [a, b) round m. -/
def rotG (d : Array α) (a m b t : Nat) : α := if a ≤ t ∧ t < a + (b - m) then d[t + (m - a)]! else if a + (b - m) ≤ t ∧ t < b then d[t - (b - m)]! else d[t]!

theorem rot_gt (d : Array α) (m i j t : Nat) (hij : j < i) (him : i ≤ m) (hm : m + j ≤ d.size) : rotG (swr d (m - i) m j) (m - (i - j)) m (m + j) t = rotG d (m - i) m (m + j) t := by
  unfold rotG
  simp only [swr_get d (m - i) m j (by omega) hm]
  by_cases h1 : m - (i - j) ≤ t ∧ t < m - (i - j) + (m + j - m)
  · rw [if_pos h1]
    by_cases h2 : m - i ≤ t ∧ t < m - i + (m + j - m)
    · omega
    · rw [if_neg h2, if_pos (by omega : m - i + (m + j - m) ≤ t ∧ t < m + j), if_neg (by omega), if_pos (by omega)]; congr 1; omega
  · rw [if_neg h1]
    by_cases h2 : m - (i - j) + (m + j - m) ≤ t ∧ t < m + j
    · rw [if_pos h2, if_neg (by omega : ¬ (m - i ≤ t ∧ t < m - i + (m + j - m))), if_pos (by omega : m - i + (m + j - m) ≤ t ∧ t < m + j), if_neg (by omega), if_neg (by omega)]
    · rw [if_neg h2]
      by_cases h3 : m - i ≤ t ∧ t < m - i + j
      · rw [if_pos h3, if_pos (by omega : m - i ≤ t ∧ t < m - i + (m + j - m))]; congr 1; omega
      · rw [if_neg h3, if_neg (by omega : ¬ (m ≤ t ∧ t < m + j)), if_neg (by omega : ¬ (m - i ≤ t ∧ t < m - i + (m + j - m))), if_neg (by omega : ¬ (m - i + (m + j - m) ≤ t ∧ t < m + j))]
theorem rot_lt (d : Array α) (m i j t : Nat) (hij : i < j) (him : i ≤ m) (hm : m + j ≤ d.size) : rotG (swr d (m - i) (m + j - i) i) (m - i) m (m + (j - i)) t = rotG d (m - i) m (m + j) t := by
  unfold rotG
  simp only [swr_get d (m - i) (m + j - i) i (by omega) (by omega)]
  by_cases h1 : m - i ≤ t ∧ t < m - i + (m + (j - i) - m)
  · rw [if_pos h1, if_pos (by omega : m - i ≤ t ∧ t < m - i + (m + j - m)), if_neg (by omega), if_neg (by omega)]
  · rw [if_neg h1]
    by_cases h2 : m - i + (m + (j - i) - m) ≤ t ∧ t < m + (j - i)
    · rw [if_pos h2, if_pos (by omega : m - i ≤ t ∧ t < m - i + (m + j - m)), if_pos (by omega)]; congr 1; omega
    · rw [if_neg h2]
      by_cases h3 : m + j - i ≤ t ∧ t < m + j - i + i
      · rw [if_neg (by omega : ¬ (m - i ≤ t ∧ t < m - i + i)), if_pos h3, if_neg (by omega : ¬ (m - i ≤ t ∧ t < m - i + (m + j - m))), if_pos (by omega : m - i + (m + j - m) ≤ t ∧ t < m + j)]; congr 1; omega
      · rw [if_neg (by omega : ¬ (m - i ≤ t ∧ t < m - i + i)), if_neg h3, if_neg (by omega : ¬ (m - i ≤ t ∧ t < m - i + (m + j - m))), if_neg (by omega : ¬ (m - i + (m + j - m) ≤ t ∧ t < m + j))]
theorem rot_eq (d : Array α) (m i t : Nat) (him : i ≤ m) (hm : m + i ≤ d.size) : (swr d (m - i) m i)[t]! = rotG d (m - i) m (m + i) t := by
  unfold rotG
  rw [swr_get d (m - i) m i (by omega) hm]
  by_cases h1 : m - i ≤ t ∧ t < m - i + i
  · rw [if_pos h1, if_pos (by omega)]; congr 1; omega
  · rw [if_neg h1, if_neg (by omega : ¬ (m - i ≤ t ∧ t < m - i + (m + i - m)))]
    by_cases h2 : m ≤ t ∧ t < m + i
    · rw [if_pos h2, if_pos (by omega)]; congr 1; omega
    · rw [if_neg h2, if_neg (by omega)]

/-- data[k] is carried up c places; down c places. -/
def bubUp (d : Array α) (k : Nat) : Nat → Array α
  | 0 => d
  | c + 1 => swp (bubUp d k c) (k + c) (k + c + 1)
theorem size_bubUp (d : Array α) (k c : Nat) : (bubUp d k c).size = d.size := by
  induction c with
  | zero => rfl
  | succ c ih => rw [bubUp, size_swp, ih]
theorem bubUp_get (d : Array α) (k c : Nat) (h : k + c < d.size) (t : Nat) : (bubUp d k c)[t]! = if k ≤ t ∧ t < k + c then d[t + 1]! else if t = k + c then d[k]! else d[t]! := by
  induction c generalizing t with
  | zero =>
              rw [if_neg (by omega)]
              by_cases e : t = k + 0
              · rw [if_pos e]; simp [bubUp, e]
              · rw [if_neg e]; rfl
  | succ c ih =>
    have ih' := fun t => ih (by omega) t
    rw [bubUp, swp_get _ (by rw [size_bubUp]; omega) (by rw [size_bubUp]; omega), ih', ih', ih']
    rw [if_neg (by omega : ¬ (k ≤ k + c ∧ k + c < k + c)), if_pos rfl, if_neg (by omega : ¬ (k ≤ k + c + 1 ∧ k + c + 1 < k + c)), if_neg (by omega : ¬ k + c + 1 = k + c)]
    by_cases h1 : t = k + c + 1
    · rw [if_pos h1, if_neg (by omega), if_pos (by omega)]
    · rw [if_neg h1]
      by_cases h2 : t = k + c
      · rw [if_pos h2, if_pos (by omega)]; congr 1; omega
      · rw [if_neg h2]
        by_cases h3 : k ≤ t ∧ t < k + c
        · rw [if_pos h3, if_pos (by omega)]
        · rw [if_neg h3, if_neg (by omega : ¬ t = k + c), if_neg (by omega), if_neg (by omega)]
theorem bubUp_perm (d : Array α) (k c lo hi : Nat) (h1 : lo ≤ k) (h2 : k + c < hi) (h3 : hi ≤ d.size) : PermIn lo hi d (bubUp d k c) := by
  induction c with
  | zero => exact permIn_refl _ _ _
  | succ c ih => exact permIn_trans _ _ _ _ _ (ih (by omega)) (swp_permIn _ _ _ _ _ (by omega) (by omega) (by omega) (by omega) (by rw [size_bubUp]; exact h3))
def bubDn (d : Array α) (k : Nat) : Nat → Array α
  | 0 => d
  | c + 1 => swp (bubDn d k c) (k - c) (k - c - 1)
theorem size_bubDn (d : Array α) (k c : Nat) : (bubDn d k c).size = d.size := by
  induction c with
  | zero => rfl
  | succ c ih => rw [bubDn, size_swp, ih]
theorem bubDn_get (d : Array α) (k c : Nat) (hc : c ≤ k) (h : k < d.size) (t : Nat) : (bubDn d k c)[t]! = if t = k - c then d[k]! else if k - c < t ∧ t ≤ k then d[t - 1]! else d[t]! := by
  induction c generalizing t with
  | zero => 
    by_cases e : t = k - 0
    · rw [if_pos e]; simp [bubDn, e]
    · rw [if_neg e, if_neg (by omega)]; rfl
  | succ c ih =>
    have ih' := fun t => ih (by omega) t
    rw [bubDn, swp_get _ (by rw [size_bubDn]; omega) (by rw [size_bubDn]; omega), ih', ih', ih']
    rw [if_pos rfl, if_neg (by omega : ¬ k - c - 1 = k - c), if_neg (by omega : ¬ (k - c < k - c - 1 ∧ k - c - 1 ≤ k))]
    by_cases h1 : t = k - c - 1
    · rw [if_pos h1, if_pos (by omega)]
    · rw [if_neg h1]
      by_cases h2 : t = k - c
      · rw [if_pos h2, if_neg (by omega), if_pos (by omega)]; congr 1; omega
      · rw [if_neg h2, if_neg h2]
        by_cases h3 : k - c < t ∧ t ≤ k
        · rw [if_pos h3, if_neg (by omega), if_pos (by omega)]
        · rw [if_neg h3, if_neg (by omega), if_neg (by omega)]
theorem bubDn_perm (d : Array α) (k c lo hi : Nat) (hc : c ≤ k) (h1 : lo ≤ k - c) (h2 : k < hi) (h3 : hi ≤ d.size) : PermIn lo hi d (bubDn d k c) := by
  induction c with
  | zero => exact permIn_refl _ _ _
  | succ c ih => exact permIn_trans _ _ _ _ _ (ih (by omega) (by omega)) (swp_permIn _ _ _ _ _ (by omega) (by omega) (by omega) (by omega) (by rw [size_bubDn]; exact h3))
end Go.Proofs.Ythgkgjcnmahacaa
end

section
/- The symmetric merge: what its search finds, and that behind the rotation the halves are apart. Plain. -/
set_option linter.unusedSimpArgs false
set_option linter.unusedVariables false
namespace Go.Proofs.Ythgkgjcnmahacaa
open Go.Sort
open Go.Proofs (ltOf)
variable {α : Type} [Inhabited α] {lt : α → α → Bool}

theorem sorted_le (S : SWO lt) {a b : Nat} {d : Array α} (h : SortedIn lt a b d) {i j : Nat} (hi : a ≤ i) (hij : i ≤ j) (hj : j < b) : lt d[j]! d[i]! = false := by
  rcases Nat.lt_or_ge i j with h1 | h1
  · exact h i j hi h1 hj
  · obtain rfl : i = j := by omega
    exact S.irrefl _
theorem sorted_sub {a b a' b' : Nat} {d : Array α} (h : SortedIn lt a b d) (ha : a ≤ a') (hb : b' ≤ b) : SortedIn lt a' b' d := fun i j h1 h2 h3 => h i j (by omega) h2 (by omega)

/-- The four parts behind the rotation. -/
theorem sym_parts {d d1 : Array α} {a m b start e mid : Nat} (h1 : SortedIn lt a m d) (h2 : SortedIn lt m b d) (ha : a ≤ start) (hs : start ≤ m) (hm : m ≤ e) (he : e ≤ b) (hmid : start + e = mid + m)
    (hd : ∀ t, d1[t]! = rotG d start m e t) : SortedIn lt a start d1 ∧ SortedIn lt start mid d1 ∧ SortedIn lt mid e d1 ∧ SortedIn lt e b d1 := by
  have p1 : ∀ t, t < start → d1[t]! = d[t]! := fun t ht => by rw [hd, rotG, if_neg (by omega), if_neg (by omega)]
  have p2 : ∀ t, start ≤ t → t < mid → d1[t]! = d[t + (m - start)]! := fun t h1 h2 => by rw [hd, rotG, if_pos (by omega)]
  have p3 : ∀ t, mid ≤ t → t < e → d1[t]! = d[t - (e - m)]! := fun t h1 h2 => by rw [hd, rotG, if_neg (by omega), if_pos (by omega)]
  have p4 : ∀ t, e ≤ t → d1[t]! = d[t]! := fun t ht => by rw [hd, rotG, if_neg (by omega), if_neg (by omega)]
  refine ⟨fun i j x y z => ?_, fun i j x y z => ?_, fun i j x y z => ?_, fun i j x y z => ?_⟩
  · rw [p1 i (by omega), p1 j (by omega)]; exact h1 i j (by omega) y (by omega)
  · rw [p2 i (by omega) (by omega), p2 j (by omega) (by omega)]; exact h2 _ _ (by omega) (by omega) (by omega)
  · rw [p3 i (by omega) (by omega), p3 j (by omega) (by omega)]; exact h1 _ _ (by omega) (by omega) (by omega)
  · rw [p4 i (by omega), p4 j (by omega)]; exact h2 _ _ (by omega) y (by omega)

theorem sym_cross (S : SWO lt) {d d1 : Array α} {a m b start e mid s0 r0 : Nat} (h1 : SortedIn lt a m d) (h2 : SortedIn lt m b d) (ha : a ≤ start) (hs : start ≤ m) (hm : m ≤ e) (he : e ≤ b) (hmid : start + e = mid + m)
    (hd : ∀ t, d1[t]! = rotG d start m e t) (hA : s0 < start → lt d[e]! d[start - 1]! = false) (hB : start < r0 → lt d[e - 1]! d[start]! = true)
    (hA0 : start = s0 → start = a ∨ e = b) (hB0 : start = r0 → start = m ∨ e = m) (hs0 : s0 ≤ start) (hr0 : start ≤ r0) :
    ∀ i j, a ≤ i → i < mid → mid ≤ j → j < b → lt d1[j]! d1[i]! = false := by
  have p1 : ∀ t, t < start → d1[t]! = d[t]! := fun t ht => by rw [hd, rotG, if_neg (by omega), if_neg (by omega)]
  have p2 : ∀ t, start ≤ t → t < mid → d1[t]! = d[t + (m - start)]! := fun t h1 h2 => by rw [hd, rotG, if_pos (by omega)]
  have p3 : ∀ t, mid ≤ t → t < e → d1[t]! = d[t - (e - m)]! := fun t h1 h2 => by rw [hd, rotG, if_neg (by omega), if_pos (by omega)]
  have p4 : ∀ t, e ≤ t → d1[t]! = d[t]! := fun t ht => by rw [hd, rotG, if_neg (by omega), if_neg (by omega)]
  have LR : ∀ x y, a ≤ x → x < start → e ≤ y → y < b → lt d[y]! d[x]! = false := by
    intro x y q1 q2 q3 q4
    by_cases hs' : s0 < start
    · exact S.ntrans _ _ _ (sorted_le S h2 (by omega) q3 q4) (S.ntrans _ _ _ (hA hs') (sorted_le S h1 q1 (by omega) (by omega)))
    · rcases hA0 (by omega) with h | h <;> omega
  have RL : ∀ x y, m ≤ x → x < e → start ≤ y → y < m → lt d[y]! d[x]! = false := by
    intro x y q1 q2 q3 q4
    by_cases hr' : start < r0
    · exact S.ntrans _ _ _ (sorted_le S h1 ha q3 q4) (S.ntrans _ _ _ (S.asymmA (hB hr')) (sorted_le S h2 q1 (by omega) (by omega)))
    · rcases hB0 (by omega) with h | h <;> omega
  intro i j q1 q2 q3 q4
  by_cases hi : i < start
  · rw [p1 i hi]
    by_cases hj : j < e
    · rw [p3 j q3 hj]; exact sorted_le S h1 q1 (by omega) (by omega)
    · rw [p4 j (by omega)]; exact LR i j q1 hi (by omega) q4
  · rw [p2 i (by omega) q2]
    by_cases hj : j < e
    · rw [p3 j q3 hj]; exact RL _ _ (by omega) (by omega) (by omega) (by omega)
    · rw [p4 j (by omega)]; exact sorted_le S h2 (by omega) (by omega) q4

theorem perm_out {a b : Nat} {d d' : Array α} (h : PermIn a b d d') {t : Nat} (ht : t < a ∨ b ≤ t) : d'[t]! = d[t]! := h.2.1 t ht
theorem perm_size {a b : Nat} {d d' : Array α} (h : PermIn a b d d') : d'.size = d.size := h.1

/-- The two halves merged by themselves make the whole. -/
theorem sym_whole {d1 d2 d3 : Array α} {a mid b : Nat} (ham : a ≤ mid) (hmb : mid ≤ b) (hsz : b ≤ d1.size) (hx : ∀ i j, a ≤ i → i < mid → mid ≤ j → j < b → lt d1[j]! d1[i]! = false)
    (hp2 : PermIn a mid d1 d2) (hs2 : SortedIn lt a mid d2) (hp3 : PermIn mid b d2 d3) (hs3 : SortedIn lt mid b d3) : SortedIn lt a b d3 ∧ PermIn a b d1 d3 := by
  have hz2 := hp2.1
  refine ⟨fun i j q1 q2 q3 => ?_, permIn_trans _ _ _ _ _ (permIn_mono _ _ _ _ _ _ (Nat.le_refl _) hmb hsz hp2) (permIn_mono _ _ _ _ _ _ ham (Nat.le_refl _) (by omega) hp3)⟩
  by_cases hj : j < mid
  · rw [perm_out hp3 (.inl hj), perm_out hp3 (.inl (by omega))]; exact hs2 i j q1 q2 hj
  · by_cases hi : i < mid
    · have e1 : d3[i]! = d2[i]! := perm_out hp3 (.inl hi)
      rw [e1]
      have step1 : ∀ y, mid ≤ y → y < b → ∀ x, a ≤ x → x < mid → lt d1[y]! d2[x]! = false := fun y y1 y2 =>
        permIn_all d1 d2 a mid (fun v => lt d1[y]! v = false) (by omega) hp2 (fun x x1 x2 => hx x y x1 x2 y1 y2)
      have step2 : ∀ y, mid ≤ y → y < b → lt d2[y]! d2[i]! = false := fun y y1 y2 => by
        rw [perm_out hp2 (.inr y1)]; exact step1 y y1 y2 i q1 hi
      exact permIn_all d2 d3 mid b (fun v => lt v d2[i]! = false) (by omega) hp3 step2 j (by omega) q3
    · exact hs3 i j (by omega) q2 q3

/-- One element of the left is laid into the right. -/
theorem ins_left (S : SWO lt) {d : Array α} {a b i : Nat} (h2 : SortedIn lt (a + 1) b d) (hi : a + 1 ≤ i) (hib : i ≤ b) (hb : b ≤ d.size) (hlo : a + 1 < i → lt d[i - 1]! d[a]! = true) (hhi : i < b → lt d[i]! d[a]! = false) :
    SortedIn lt a b (bubUp d a (i - 1 - a)) := by
  intro x y q1 q2 q3
  simp only [bubUp_get d a (i - 1 - a) (by omega)]
  by_cases hy : y < i - 1
  · rw [if_pos (by omega), if_pos (by omega)]; exact h2 _ _ (by omega) (by omega) (by omega)
  · by_cases hy2 : y = i - 1
    · rw [if_neg (by omega), if_pos (by omega), if_pos (by omega)]
      exact S.asymmA (by
        have h3 := hlo (by omega)
        have h4 := sorted_le S h2 (show a + 1 ≤ x + 1 by omega) (show x + 1 ≤ i - 1 by omega) (by omega)
        cases h5 : lt d[x + 1]! d[a]! with
        | true => rfl
        | false => rw [S.ntrans _ _ _ h4 h5] at h3; cases h3)
    · rw [if_neg (by omega), if_neg (by omega)]
      have hyy : lt d[y]! d[a]! = false := S.ntrans _ _ _ (sorted_le S h2 (show a + 1 ≤ i by omega) (by omega : i ≤ y) q3) (hhi (by omega))
      by_cases hx : x < i - 1
      · rw [if_pos (by omega)]; exact h2 _ _ (by omega) (by omega) (by omega)
      · by_cases hx2 : x = i - 1
        · rw [if_neg (by omega), if_pos (by omega)]; exact hyy
        · rw [if_neg (by omega), if_neg (by omega)]; exact h2 _ _ (by omega) q2 q3
/-- One element of the right is laid into the left. -/
theorem ins_right (S : SWO lt) {d : Array α} {a m i : Nat} (h1 : SortedIn lt a m d) (hi : a ≤ i) (him : i ≤ m) (hb : m < d.size) (hlo : a < i → lt d[m]! d[i - 1]! = false) (hhi : i < m → lt d[m]! d[i]! = true) :
    SortedIn lt a (m + 1) (bubDn d m (m - i)) := by
  have hmi : m - (m - i) = i := by omega
  intro x y q1 q2 q3
  simp only [bubDn_get d m (m - i) (by omega) hb, hmi]
  by_cases hx : x < i
  · rw [if_neg (by omega : ¬ x = i), if_neg (by omega : ¬ (i < x ∧ x ≤ m))]
    by_cases hy : y < i
    · rw [if_neg (by omega), if_neg (by omega)]; exact h1 _ _ q1 q2 (by omega)
    · by_cases hy2 : y = i
      · rw [if_pos hy2]; exact S.ntrans _ _ _ (hlo (by omega)) (sorted_le S h1 q1 (by omega : x ≤ i - 1) (by omega))
      · rw [if_neg hy2, if_pos (by omega)]; exact sorted_le S h1 q1 (by omega) (by omega)
  · by_cases hx2 : x = i
    · rw [if_pos hx2, if_neg (by omega), if_pos (by omega)]
      have h3 := hhi (by omega)
      exact S.asymmA (by
        have h4 := sorted_le S h1 hi (show i ≤ y - 1 by omega) (by omega)
        cases h5 : lt d[m]! d[y - 1]! with
        | true => rfl
        | false => rw [S.ntrans _ _ _ h5 h4] at h3; cases h3)
    · rw [if_neg hx2, if_neg (by omega : ¬ y = i), if_pos (by omega : i < y ∧ y ≤ m), if_pos (by omega : i < x ∧ x ≤ m)]; exact h1 _ _ (by omega) (by omega) (by omega)
end Go.Proofs.Ythgkgjcnmahacaa
end
