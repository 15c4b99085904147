/- What became of ids: the state of the loop, and what its steps do to it. -/
import Derived.Test.YtfpgkiajggfadaaBack
import Derived.Test.YtfpgkiajggfadaaMapF
import Derived.Test.YtfpgkiajggfadaaPas
import Derived.Test.YtfpgkiajggfadaaTrB3
set_option linter.unusedSimpArgs false
set_option linter.unusedVariables false
namespace Go.Proofs.Ytfpgkiajggfadaa
open Go.RowKit Go.Shelf

/-! ### The plain answer -/
def updP (e : En) (p : Pa) : Pa := if p.id = e.id then { p with was := e.what != 1 } else p
def newP (e : En) : Pa := ⟨e.id, e.what != 1, e.what != 3, e.seq⟩
def stepP (sq : Int) (acc : List Pa) (e : En) : List Pa :=
  if e.seq ≤ sq then acc
  else if acc.any (fun p => decide (p.id = e.id)) then acc.map (updP e)
  else acc ++ [newP e]

/-! ### Blocks -/
def PaAt (W : World) (b : Nat) (p : Pa) : Prop := W.heap[b]? = some (.cells #[.string p.id, .bool p.was, .bool p.isb, .int .i64 p.last] 39 (0, 0))
def EnAt (W : World) (b : Nat) (e : En) : Prop := W.heap[b]? = some (.cells #[.int .i64 e.seq, .string e.id, .int .i64 e.what] 26 (0, 0))
theorem obj_ne {W : World} {i j : Nat} {o o' : Obj} (h : W.heap[i]? = some o) (h' : W.heap[j]? = some o') (hne : o ≠ o') : some i ≠ some j := by
  intro e
  simp only [Option.some.injEq] at e
  subst e
  rw [h] at h'
  exact hne (by simpa using h')
theorem PaAt.lt {W : World} {b : Nat} {p : Pa} (h : PaAt W b p) : b < W.heap.size := (Array.getElem?_eq_some_iff.1 h).1
theorem PaAt.cell {W : World} {b : Nat} {p : Pa} (h : PaAt W b p) (j : Nat) {u : Value} (hu : (encP p)[j]? = some u) : W.cell? ⟨b, j, none⟩ = some u := by
  unfold PaAt at h
  rw [← hu]
  simp [World.cell?, h, encP]
theorem EnAt.cell {W : World} {b : Nat} {e : En} (h : EnAt W b e) (j : Nat) {u : Value} (hu : (encE e)[j]? = some u) : W.cell? ⟨b, j, none⟩ = some u := by
  unfold EnAt at h
  rw [← hu]
  simp [World.cell?, h, encE]
theorem PaAt.frozen {W : World} {b : Nat} {p : Pa} (h : PaAt W b p) (j : Nat) : W.frozen? ⟨b, j, none⟩ = false := by
  unfold PaAt at h
  simp [World.frozen?, h]
theorem PaAt.kept {W W' : World} {row : Option Nat} {b : Nat} {p : Pa} (h : PaAt W b p) (hg : W.grownBy W' row) (hne : some b ≠ row) : PaAt W' b p := (hg.block b h.lt hne).trans h
theorem PaAt.set {W : World} {b : Nat} {p : Pa} (h : PaAt W b p) (x : Bool) : PaAt (W.setCell ⟨b, 1, none⟩ (.bool x)) b { p with was := x } := by
  obtain ⟨hlt, hk⟩ := Array.getElem?_eq_some_iff.1 h
  show (W.heap.modify b _)[b]? = _
  rw [Array.getElem?_eq_getElem (by rw [Array.size_modify]; exact hlt), Array.getElem_modify_self, hk]
  rfl
theorem grownBy_setCell1 (W : World) (b o : Nat) (v : Value) : W.grownBy (W.setCell ⟨b, o, none⟩ v) (some b) :=
  ⟨rfl, rfl, rfl, (KeepsWalks.setCell W _ v).size, fun k _ hk => Below.heap_setCell _ _ _ k (fun e => hk (by rw [e]))⟩

/-! ### What a step leaves as it was -/
def keepO (mb k : Nat) : Obj → Prop
  | .cells _ t _ => t ≠ 39 ∧ t ≠ 65 ∧ t ≠ 69
  | _ => k ≠ mb
structure Trn (base mb : Nat) (W W' : World) : Prop where
  below : Below base W W'
  keep : ∀ k o, W.heap[k]? = some o → keepO mb k o → W'.heap[k]? = some o
theorem Trn.refl (base mb : Nat) (W : World) : Trn base mb W W := ⟨Below.refl _ _, fun _ _ h _ => h⟩
theorem Trn.trans {base mb : Nat} {A B C : World} (h : Trn base mb A B) (k : Trn base mb B C) : Trn base mb A C := ⟨h.below.trans k.below, fun i o h1 h2 => k.keep i o (h.keep i o h1 h2) h2⟩
theorem Trn.alloc {base mb : Nat} {W : World} (hb : base ≤ W.heap.size) (o : Obj) : Trn base mb W (W.alloc o) :=
  ⟨(Below.refl _ W).alloc hb o, fun k o' h1 _ => (Below.heap_alloc W o k (Array.getElem?_eq_some_iff.1 h1).1).trans h1⟩
/-- A turn of one block, which is none of those to be kept. -/
theorem Trn.grown {base mb : Nat} {W W' : World} {row : Option Nat} (hb : base ≤ W.heap.size) (hg : W.grownBy W' row) (hr : ∀ r, row = some r → base ≤ r ∧ ∀ o, W.heap[r]? = some o → ¬ keepO mb r o) : Trn base mb W W' :=
  ⟨(Below.refl _ W).grown hg hb (fun k e => (hr k e).1), fun k o h1 h2 => (hg.block k (Array.getElem?_eq_some_iff.1 h1).1 (fun e => (hr k e.symm).2 o h1 h2)).trans h1⟩
theorem Trn.from {base mb B : Nat} {W W' : World} (h : Trn base mb W W') (hm : mb < B) : KeepsFrom B W W' :=
  ⟨h.below.size, fun k o hB h1 h2 => h.keep k o h1 (by cases o <;> simp_all [Obj.isCells, keepO] <;> omega)⟩
theorem Trn.boxed {base mb : Nat} {W W' : World} (h : Trn base mb W W') {B : Nat} {t : TypeId} {v : Value} (hb : Boxed W B t v) (ht : t ≠ 39 ∧ t ≠ 65 ∧ t ≠ 69) : Boxed W' B t v := h.keep _ _ hb ht
theorem Trn.en {base mb : Nat} {W W' : World} (h : Trn base mb W W') {B : Nat} {e : En} (hb : EnAt W B e) : EnAt W' B e := h.keep _ _ hb ⟨by decide, by decide, by decide⟩

/-! ### The state -/
structure SQ (base mb n : Nat) (Q : List (Nat × Pa)) (f : List UInt8 → Option Value) (v : Value) (t6 : Nat) (R : List Nat) (W : World) : Prop where
  map : MapF W Try.prog 9 mb n f
  fq : ∀ q ∈ Q, f q.2.id.data.toList = some (.pointer (some ⟨q.1, 0, none⟩))
  fn : ∀ s u, f s = some u → ∃ q ∈ Q, q.2.id.data.toList = s
  inj : ∀ q ∈ Q, ∀ q' ∈ Q, (q.1 = q'.1 ↔ q.2.id = q'.2.id)
  pas : ∀ q ∈ Q, base ≤ q.1 ∧ PaAt W q.1 q.2
  box : Boxed W t6 65 v
  own : Own W base 69 encPt 1 v R
  len : Q.length ≤ n

theorem MapF.obj {w : World} {P : Program} {k : TypeId} {b n : Nat} {f : List UInt8 → Option Value} (h : MapF w P k b n f) : ∃ es c, w.heap[b]? = some (.map es c) := by
  obtain ⟨E, ⟨es, clock, h1, h2⟩, he⟩ := h
  exact ⟨_, _, h1⟩
theorem Own.blk {α : Type} {enc : α → List Value} {sz : Nat} {w : World} {base : Nat} {e : TypeId} {v : Value} {xs : List α} (h : Own w base e enc sz v xs) : ∀ r, v.ownBlock = some r → base ≤ r ∧ ∃ cur, w.heap[r]? = some (.cells cur e (0, 0)) := by
  intro r hr
  rcases h.2 with ⟨rfl, _⟩ | ⟨g, cap, cur, rfl, hb, hgb, _⟩
  · simp [Value.ownBlock] at hr
  · obtain rfl : g = r := by simpa [Value.ownBlock] using hr
    exact ⟨hb, cur, hgb⟩

section
variable {base mb n t6 : Nat} {Q : List (Nat × Pa)} {f : List UInt8 → Option Value} {v : Value} {R : List Nat} {W : World}
theorem SQ.kept {W' : World} {row : Option Nat} (h : SQ base mb n Q f v t6 R W) (hg : W.grownBy W' row) (hr : ∀ r, row = some r → r ≠ mb ∧ ∃ o : Obj, W.heap[r]? = some o ∧ o.isCells = false) : SQ base mb n Q f v t6 R W' := by
  refine ⟨h.map.kept hg (fun e => (hr _ e.symm).1 rfl), h.fq, h.fn, h.inj, fun q hq => ⟨(h.pas q hq).1, (h.pas q hq).2.kept hg (fun e => ?_)⟩, h.box.kept hg (fun e => ?_), h.own.kept hg ?_, h.len⟩
  · obtain ⟨_, o, ho, hc⟩ := hr _ e.symm
    rw [show W.heap[q.1]? = _ from (h.pas q hq).2] at ho; cases ho; cases hc
  · obtain ⟨_, o, ho, hc⟩ := hr _ e.symm
    rw [show W.heap[t6]? = _ from h.box] at ho; cases ho; cases hc
  · cases hv : v.ownBlock with
    | none => exact .inl rfl
    | some r =>
      refine .inr fun e => ?_
      obtain ⟨_, cur, hc⟩ := h.own.blk r hv
      obtain ⟨_, o, ho, hoc⟩ := hr _ e.symm
      rw [hc] at ho; cases ho; cases hoc

/-- An id that is known: its mark is set. -/
theorem SQ.known (h : SQ base mb n Q f v t6 R W) (hb : base ≤ W.heap.size) {q : Nat × Pa} (hq : q ∈ Q) (e : En) (he : q.2.id = e.id) :
    SQ base mb n (Q.map fun q => (q.1, updP e q.2)) f v t6 R (W.setCell ⟨q.1, 1, none⟩ (.bool (e.what != 1))) ∧ Trn base mb W (W.setCell ⟨q.1, 1, none⟩ (.bool (e.what != 1))) := by
  have hg := grownBy_setCell1 W q.1 1 (.bool (e.what != 1))
  have hid : ∀ p : Pa, (updP e p).id = p.id := fun p => by unfold updP; split <;> rfl
  have hQ := (h.pas q hq).2
  refine ⟨⟨h.map.kept hg (fun e' => ?_), ?_, ?_, ?_, ?_, h.box.kept hg (fun e' => ?_), h.own.kept hg ?_, by simpa using h.len⟩, Trn.grown hb hg (fun r er => ?_)⟩
  · obtain ⟨es, c, hm⟩ := h.map.obj
    exact obj_ne hm hQ (by simp) e'
  · intro q' hq'
    obtain ⟨q1, h1, rfl⟩ := List.mem_map.1 hq'
    show f (updP e q1.2).id.data.toList = _
    rw [hid]
    exact h.fq q1 h1
  · intro s u hs
    obtain ⟨q1, h1, h2⟩ := h.fn s u hs
    exact ⟨_, List.mem_map.2 ⟨q1, h1, rfl⟩, by show (updP e q1.2).id.data.toList = _; rw [hid]; exact h2⟩
  · intro q1 h1 q2 h2
    obtain ⟨q1, h1', rfl⟩ := List.mem_map.1 h1
    obtain ⟨q2, h2', rfl⟩ := List.mem_map.1 h2
    show q1.1 = q2.1 ↔ (updP e q1.2).id = (updP e q2.2).id
    rw [hid, hid]
    exact h.inj q1 h1' q2 h2'
  · intro q1 h1
    obtain ⟨q1, h1', rfl⟩ := List.mem_map.1 h1
    clear h1
    have h1 := h1'
    refine ⟨(h.pas q1 h1).1, ?_⟩
    show PaAt _ q1.1 (updP e q1.2)
    by_cases hi : q1.2.id = e.id
    · have e1 : q1.1 = q.1 := (h.inj q1 h1 q hq).2 (hi.trans he.symm)
      unfold updP
      rw [if_pos hi, ← e1]
      exact (h.pas q1 h1).2.set _
    · have e1 : q1.1 ≠ q.1 := fun e2 => hi (((h.inj q1 h1 q hq).1 e2).trans he)
      unfold updP
      rw [if_neg hi]
      exact (h.pas q1 h1).2.kept hg (fun e2 => e1 (by simpa using e2))
  · exact obj_ne h.box hQ (by simp) e'
  · cases hv : v.ownBlock with
    | none => exact .inl rfl
    | some r =>
      refine .inr fun e' => ?_
      obtain ⟨_, cur, hc⟩ := h.own.blk r hv
      exact obj_ne hc hQ (by simp) e'
  · cases er
    refine ⟨(h.pas q hq).1, fun o ho hk => ?_⟩
    rw [show W.heap[q.1]? = _ from hQ] at ho; cases ho
    exact hk.1 rfl

/-- An id that is new: its block is laid, and the map is told. -/
theorem SQ.fresh (h : SQ base mb n Q f v t6 R W) (hb : base ≤ W.heap.size) (hm : base ≤ mb) (p : Pa) (hf : f p.id.data.toList = none) {W2 : World}
    (hg : (W.alloc (.cells #[.string p.id, .bool p.was, .bool p.isb, .int .i64 p.last] 39)).grownBy W2 (some mb)) (hM : MapF W2 Try.prog 9 mb (n + 1) (fun u => if u = p.id.data.toList then some (.pointer (some ⟨W.heap.size, 0, none⟩)) else f u)) :
    SQ base mb (n + 1) (Q ++ [(W.heap.size, p)]) (fun u => if u = p.id.data.toList then some (.pointer (some ⟨W.heap.size, 0, none⟩)) else f u) v t6 R W2 ∧ Trn base mb W W2 := by
  have hnew : PaAt (W.alloc (.cells #[.string p.id, .bool p.was, .bool p.isb, .int .i64 p.last] 39)) W.heap.size p := World.alloc_heap_new W _
  obtain ⟨W1, hW1⟩ : ∃ W1, W.alloc (.cells #[.string p.id, .bool p.was, .bool p.isb, .int .i64 p.last] 39) = W1 := ⟨_, rfl⟩
  have hga : W.grownBy W1 none := by rw [← hW1]; exact World.grownBy_alloc W _ none
  have hta : Trn base mb W W1 := by rw [← hW1]; exact Trn.alloc hb _
  rw [hW1] at hg hnew
  obtain ⟨es, c, hmo⟩ := (h.map.kept hga (by simp)).obj
  have hno : ∀ q ∈ Q, q.2.id ≠ p.id := fun q hq e => by
    have := h.fq q hq
    rw [e, hf] at this; cases this
  have hlt : ∀ q ∈ Q, q.1 < W.heap.size := fun q hq => (h.pas q hq).2.lt
  have hnm : ∀ b p', PaAt W1 b p' → some b ≠ some mb := fun b p' hp => obj_ne hp hmo (by simp)
  refine ⟨⟨hM, ?_, ?_, ?_, ?_, (h.box.kept hga (by simp)).kept hg (fun e => ?_), (h.own.kept hga ?_).kept hg ?_, by simp; exact h.len⟩, hta.trans (Trn.grown (Nat.le_trans hb hta.below.size) hg (fun r er => ?_))⟩
  · intro q hq
    rcases List.mem_append.1 hq with h1 | h1
    · show (if _ then _ else _) = _
      rw [if_neg (fun e => hno q h1 ((data_inj _ _).1 e))]
      exact h.fq q h1
    · obtain rfl : q = (W.heap.size, p) := by simpa using h1
      simp
  · intro s u hs
    split at hs
    · rename_i e
      exact ⟨_, List.mem_append_right _ (List.mem_singleton.2 rfl), e.symm⟩
    · obtain ⟨q, h1, h2⟩ := h.fn s u hs
      exact ⟨q, List.mem_append_left _ h1, h2⟩
  · intro q1 h1 q2 h2
    rcases List.mem_append.1 h1 with h1 | h1 <;> rcases List.mem_append.1 h2 with h2 | h2
    · exact h.inj q1 h1 q2 h2
    · obtain rfl : q2 = (W.heap.size, p) := by simpa using h2
      have := hlt q1 h1
      exact ⟨fun e => by dsimp only at e; omega, fun e => absurd e (hno q1 h1)⟩
    · obtain rfl : q1 = (W.heap.size, p) := by simpa using h1
      have := hlt q2 h2
      exact ⟨fun e => by dsimp only at e; omega, fun e => absurd e.symm (hno q2 h2)⟩
    · obtain rfl : q1 = (W.heap.size, p) := by simpa using h1
      obtain rfl : q2 = (W.heap.size, p) := by simpa using h2
      simp
  · intro q hq
    rcases List.mem_append.1 hq with h1 | h1
    · have hk := (h.pas q h1).2.kept hga (by simp)
      exact ⟨(h.pas q h1).1, hk.kept hg (hnm _ _ hk)⟩
    · obtain rfl : q = (W.heap.size, p) := by simpa using h1
      exact ⟨hb, hnew.kept hg (hnm _ _ hnew)⟩
  · exact obj_ne (h.box.kept hga (by simp)) hmo (by simp) e
  · cases v.ownBlock <;> simp
  · cases hv : v.ownBlock with
    | none => exact .inl rfl
    | some r =>
      refine .inr fun e' => ?_
      obtain ⟨_, cur, hc⟩ := (h.own.kept hga (by cases v.ownBlock <;> simp)).blk r hv
      exact obj_ne hc hmo (by simp) e'
  · cases er
    refine ⟨hm, fun o ho hk => ?_⟩
    rw [hmo] at ho; cases ho
    exact hk rfl

/-- A pointer is appended, and the slice is stored. -/
theorem SQ.append (h : SQ base mb n Q f v t6 R W) (hb : base ≤ W.heap.size) (ht : base ≤ t6) (tmp : Obj) {W4 : World} {v' : Value} {R' : List Nat} (hg : (W.alloc tmp).grownBy W4 v.ownBlock) (ho : Own W4 base 69 encPt 1 v' R') :
    Boxed W4 t6 65 v ∧ SQ base mb n Q f v' t6 R' (W4.setCell ⟨t6, 0, none⟩ v') ∧ Trn base mb W (W4.setCell ⟨t6, 0, none⟩ v') := by
  obtain ⟨W1, hW1⟩ : ∃ W1, W.alloc tmp = W1 := ⟨_, rfl⟩
  have hga : W.grownBy W1 none := by rw [← hW1]; exact World.grownBy_alloc W _ none
  have hta : Trn base mb W W1 := by rw [← hW1]; exact Trn.alloc hb _
  rw [hW1] at hg
  have hO := h.own.kept hga (by cases v.ownBlock <;> simp)
  have hrow : ∀ b o, W1.heap[b]? = some o → (∀ cur, o ≠ .cells cur 69 (0, 0)) → some b ≠ v.ownBlock := fun b o hbo hne e => by
    obtain ⟨_, cur, hc⟩ := hO.blk b e.symm
    rw [hbo] at hc; cases hc
    exact hne cur rfl
  have hbox1 : Boxed W1 t6 65 v := h.box.kept hga (by simp)
  have hbox4 : Boxed W4 t6 65 v := hbox1.kept hg (hrow _ _ hbox1 (by simp))
  have hg5 := grownBy_setCell1 W4 t6 0 v'
  have hmp : MapF W4 Try.prog 9 mb n f := (h.map.kept hga (by simp)).kept hg (by
    obtain ⟨es, c, hmo⟩ := (h.map.kept hga (by simp)).obj
    exact hrow _ _ hmo (by simp))
  have hp4 : ∀ q ∈ Q, PaAt W4 q.1 q.2 := fun q hq => by
    have hk := (h.pas q hq).2.kept hga (by simp)
    exact hk.kept hg (hrow _ _ hk (by simp))
  have hs1 : Trn base mb W1 W4 := Trn.grown (Nat.le_trans hb hta.below.size) hg (fun r er => by
    obtain ⟨h1, cur, hc⟩ := hO.blk r er
    refine ⟨h1, fun o ho hk => ?_⟩
    rw [hc] at ho; cases ho
    exact hk.2.2 rfl)
  refine ⟨hbox4, ⟨hmp.kept hg5 (fun e => ?_), h.fq, h.fn, h.inj, fun q hq => ⟨(h.pas q hq).1, (hp4 q hq).kept hg5 (fun e => ?_)⟩, hbox4.set v', ho.kept hg5 ?_, h.len⟩, (hta.trans hs1).trans (Trn.grown (Nat.le_trans hb (hta.trans hs1).below.size) hg5 (fun r er => ?_))⟩
  · obtain ⟨es, c, hm⟩ := hmp.obj
    exact obj_ne hm hbox4 (by simp) e
  · exact obj_ne (hp4 q hq) hbox4 (by simp) e
  · cases hv : v'.ownBlock with
    | none => exact .inl rfl
    | some r =>
      refine .inr fun e' => ?_
      obtain ⟨_, cur, hc⟩ := ho.blk r hv
      exact obj_ne hc hbox4 (by simp) e'
  · cases er
    refine ⟨ht, fun o ho hk => ?_⟩
    rw [show W4.heap[t6]? = _ from hbox4] at ho; cases ho
    exact hk.2.1 rfl
end

section
variable {F : Fence} {nF : Nat} {P : Program} (w : World) {ops : Array Oper} {rest : List Oper} {o : Oper} {a : Act} {Q : Exit → Act → World → Prop}
theorem wpListIn_look_F (hg : o.guard = none) (m x : Operand) (t : TypeId) (hop : o.op = Op.lookup t m x false) (k e : TypeId) (hk : P.underlying k = some .string) (ht : P.underlying t = some (.map k e)) {z : Value} (hz : (zeroValue e).run P w = .ok z w)
    (b n : Nat) (f : List UInt8 → Option Value) (hm : a.eval m = .map (some b)) (hown : MapF w P k b n f) (s : ByteArray) (hx : a.eval x = .string s) (hs : s.size ≤ maxLen) {v : Value} (hv : (f s.data.toList).getD z = v)
    (hK : wpListIn F nF P ops Q rest (a.put o.dst v) w) : wpListIn F nF P ops Q (o :: rest) a w := by
  refine wpListIn_plain hg fun K' hK' => ?_
  have hrun := hown.look hk ht hz hs
  rw [hv] at hrun
  unfold Oper.wpIn
  refine ⟨by simp [Oper.about, hop], ?_⟩
  rw [Oper.semAt_plain F _ _ (by rw [hop]; intro c hc'; cases hc')]
  simp [execOp, hop, hm, hx, hrun, Result.andThen]
  exact hK' _ _ hK
theorem wpListIn_store_F (hg : o.guard = none) (m x v : Operand) (t : TypeId) (hop : o.op = Op.mapUpdate t m x v) (k e : TypeId) (hk : P.underlying k = some .string) (ht : P.underlying t = some (.map k e)) 
    (b n : Nat) (f : List UInt8 → Option Value) (hm : a.eval m = .map (some b)) (hown : MapF w P k b n f) (hn : n < maxLen) (s : ByteArray) (hx : a.eval x = .string s) (hs : s.size ≤ maxLen) (val : Value) (hv : a.eval v = val)
    (hK : ∀ w', MapF w' P k b (n + 1) (fun u => if u = s.data.toList then some val else f u) → w.grownBy w' (some b) → wpListIn F nF P ops Q rest (a.put o.dst undef) w') : wpListIn F nF P ops Q (o :: rest) a w := by
  refine wpListIn_plain hg fun K' hK' => ?_
  obtain ⟨w', hrun, h1, h2⟩ := hown.store hk ht hn hs val
  unfold Oper.wpIn
  refine ⟨by simp [Oper.about, hop], ?_⟩
  rw [Oper.semAt_plain F _ _ (by rw [hop]; intro c hc'; cases hc')]
  simp [execOp, hop, hm, hx, hv, hrun, Result.andThen]
  exact hK' _ _ (hK w' h1 h2)
end
end Go.Proofs.Ytfpgkiajggfadaa
