import Derived.Test.YthgkgjcnmahacaaSc02
import Derived.Deep.DeepMust
import Derived.Test.YthgkgjcnmahacaaSc15
import Derived.Test.YthgkgjcnmahacaaProg
import Derived.Test.YthgkgjcnmahacaaSc04
import Derived.Shelf.SlSortCmp.KitK
import Derived.Sort.WalkB2
import Derived.Sort.WalkB12
import Derived.Deep.LoopGhost
import Derived.WalkKit
import Derived.Lib.Hide
section
set_option linter.unusedSimpArgs false
set_option linter.unusedVariables false
namespace Go.Proofs.Ythgkgjcnmahacaa
open Go.RowKit Go.OpenShut

def lastF (l : List En) (s : List UInt8) : Option Value := l.foldl (fun a e => if s = e.id.data.toList then some (.int .i64 e.what) else a) none
theorem lastF_take {l : List En} {j : Nat} {y : En} (hy : l[j]? = some y) : lastF (l.take (j + 1)) = fun s => if s = y.id.data.toList then some (.int .i64 y.what) else lastF (l.take j) s := by
  funext s
  rw [List.take_add_one, hy]
  simp [lastF]
theorem data_inj (a b : ByteArray) : a.data.toList = b.data.toList ↔ a = b := by
  obtain ⟨⟨x⟩⟩ := a
  obtain ⟨⟨y⟩⟩ := b
  simp
theorem lastF_W (l : List En) (id : ByteArray) : (lastF l id.data.toList).getD (.int .i64 0) = .int .i64 (lastW l id) := by
  suffices ∀ (l : List En) (o : Option Value) (a : Int), o.getD (.int .i64 0) = .int .i64 a →
    (l.foldl (fun a e => if id.data.toList = e.id.data.toList then some (.int .i64 e.what) else a) o).getD (.int .i64 0) = .int .i64 (l.foldl (fun a e => if e.id = id then e.what else a) a) from this l none 0 rfl
  intro l
  induction l with
  | nil => intro o a h; exact h
  | cons e l ih =>
    intro o a h
    simp only [List.foldl_cons]
    refine ih _ _ ?_
    by_cases h1 : e.id = id
    · rw [if_pos h1, if_pos (by rw [h1])]; rfl
    · rw [if_neg h1, if_neg (fun e1 => h1 ((data_inj _ _).1 e1).symm)]; exact h
theorem zeroInt (w : World) : (zeroValue 3).run Try.prog w = .ok (.int .i64 0) w := by kernel_rfl

set_option maxRecDepth 100000 in
set_option maxHeartbeats 1000000 in
theorem right_head (w : World) (B : Nat) (v : Value) (l : List En) (floor seq : Int) (hv : RdE w B v l) (hf : (Lit.int .i64 floor).wf = true) (hs : (Lit.int .i64 seq).wf = true) (hh : headB l.length floor seq = false) :
    Calls Try.prog 57 #[v, .int .i64 floor, .int .i64 seq] w fun e w' => e = .returned (.bool (rightB l floor seq)) ∧ Below w.heap.size w w' := by
  rw [rightB_no hh]
  obtain ⟨_, p, c, rfl, hlc, hcm, hp0, hp⟩ := hv
  unfold maxLen at hcm
  have b1 := bounds_i64 hf
  have b2 := bounds_i64 hs
  have hd : 0 ≤ floor → floor ≤ seq → seq ≤ 9007199254740991 → ((seq - floor != (l.length : Int)) = true) := by
    intro h1 h2 h3
    unfold headB at hh
    simp only [decide_eq_false_iff_not] at hh
    rw [bne_iff_ne]
    intro h4
    exact hh ⟨h1, h2, h3, h4⟩
  clear hh hp hp0
  go_enter Try.func57, Try.ntmps57
  go_wp2_with fail
  all_goals (go_ret; exact ⟨rfl, Below.refl _ _⟩)

set_option maxRecDepth 100000 in
set_option maxHeartbeats 1000000 in
theorem right_yes (w : World) (v : Value) (l : List En) (floor seq : Int) (hv : RdE w w.heap.size v l) (hf : (Lit.int .i64 floor).wf = true) (hs : (Lit.int .i64 seq).wf = true) (hh : headB l.length floor seq = true) :
    Calls Try.prog 57 #[v, .int .i64 floor, .int .i64 seq] w fun e w' => e = .returned (.bool (rightB l floor seq)) ∧ Below w.heap.size w w' := by
  obtain ⟨hok, p, c, rfl, hlc, hcm, hp0, hp⟩ := hv
  unfold maxLen at hcm
  have HH := Lib.hid hh
  unfold headB at hh
  simp only [decide_eq_true_eq] at hh
  obtain ⟨h1, h2, h3, h4⟩ := hh
  have hne : (seq - floor != (l.length : Int)) = false := by rw [bne_eq_false_iff_eq]; exact h4
  have hlen : (l.length : Int) ≤ 9007199254740991 := by omega
  have h5 : 0 ≤ seq := by omega
  have hok' := Lib.hid hok
  clear h4 hf hs hok
  have hmm := @run_makeMap Try.prog
  have HM0 := MapF.made w Try.prog 9
  have HB0 : Below w.heap.size w (w.alloc (.map #[] 0)) := (Below.refl _ w).alloc (Nat.le_refl _) _
  go_enter Try.func57, Try.ntmps57
  go_wp2_with fail
  clear hmm
  go_loopw [32] (fun i wr => ∃ k : Nat, k ≤ l.length ∧ i = .int .i64 k ∧ Hid (∀ j, j < k → okAt l floor j = true) ∧ MapF wr Try.prog 9 w.heap.size k (lastF (l.take k)) ∧ Below w.heap.size w wr) (fun i _ => l.length - (intOf i).toNat)
  case atStart => exact ⟨0, Nat.zero_le _, rfl, fun j hj => by omega, HM0, HB0⟩
  case round =>
    obtain ⟨k, hk, rfl, HO, HM, HB⟩ := hrel
    by_cases hlt : k < l.length
    · obtain ⟨b1, o1, rfl, hb1, hc1⟩ := slice_at (k := k) hp0 hp (by omega)
      obtain ⟨x, hx, g10, g11, g12⟩ := hc1 k hlt
      have okx := get_ok hok'.out hx
      have HX := Lib.hid hx
      have bx := bounds_i64 okx.1
      have bw := bounds_i64 okx.2.2
      have hxs := okx.2.1
      clear hx okx hp hp0 hc1
      rw [← HB.cell (p := ⟨_, _, none⟩) hb1] at g10 g11 g12
      have hlook : ∀ o, (Instr.lookup 132 (.map (some w.heap.size)) (.string x.id) false).run Try.prog (wr.alloc o) = .ok (.int .i64 (lastW (l.take k) x.id)) (wr.alloc o) := by
        intro o
        rw [(HM.alloc o).look Try.underlying9 Try.underlying132 (zeroInt _) hxs, lastF_W]
      have HT := Lib.hid (lastF_take HX.out)
      have HOK := Lib.hid (okAt_of (floor := floor) HX.out)
      cases hsq : (x.seq != floor + 1 + k) with
      | true =>
        have HBAD : Hid (okAt l floor k = false) := by
          rw [bne_iff_ne] at hsq
          exact okAt_bad HX.out (.inl hsq)
        go_wp2_with fail
        go_ret
        exact ⟨ret_bool (rightB_bad hlt HBAD.out).symm, HB.alloc HB.size _⟩
      | false =>
        cases hmay : mayB (lastW (l.take k) x.id) x.what with
        | false =>
          have HBAD : Hid (okAt l floor k = false) := by
            have := HOK.out
            rw [hmay, Bool.and_false] at this
            exact this
          go_wp2_with (go_at_call 90; refine (may_any _ _ _).mono ?_; rintro e w' ⟨rfl, rfl⟩)
          go_ret
          exact ⟨ret_bool (rightB_bad hlt HBAD.out).symm, HB.alloc HB.size _⟩
        | true =>
          have hnx : Hid (∀ j, j < k + 1 → okAt l floor j = true) := by
            intro j hj
            by_cases e : j = k
            · rw [e]
              have := HOK.out
              rw [hmay] at this
              rw [bne_eq_false_iff_eq] at hsq
              rw [this, hsq]; simp
            · exact HO.out j (by omega)
          have hkm : k < maxLen := by unfold maxLen; omega
          have HM1 := HM.alloc (.cells #[.int .i64 x.seq, .string x.id, .int .i64 x.what] 48)
          go_wp2_with (first | (go_at_call 90; refine (may_any _ _ _).mono ?_; rintro e w' ⟨rfl, rfl⟩) | (at_mapUpdate; go_must (refine wpList_store_F _ rfl _ _ _ _ rfl 9 3 Try.underlying9 Try.underlying132 _ _ _ rfl HM1 hkm _ rfl hxs _ rfl ?_); intro w1 hM2 hg2))
          go_roundw
          case rel => exact ⟨k + 1, by omega, by go_num, hnx, by rw [HT.out]; exact hM2, (HB.alloc HB.size _).grown hg2 (by simp; have := HB.size; omega) (fun j e => by cases e; exact Nat.le_refl _)⟩
          case measure => simp [intOf]; omega
    · obtain rfl : k = l.length := by omega
      have HR := Lib.hid (rightB_yes HH.out HO.out)
      go_wp2_with fail
      go_ret
      exact ⟨ret_bool HR.out.symm, HB⟩

theorem right_any (w : World) (v : Value) (l : List En) (floor seq : Int) (hv : RdE w w.heap.size v l) (hf : (Lit.int .i64 floor).wf = true) (hs : (Lit.int .i64 seq).wf = true) :
    Calls Try.prog 57 #[v, .int .i64 floor, .int .i64 seq] w fun e w' => e = .returned (.bool (rightB l floor seq)) ∧ Below w.heap.size w w' := by
  cases hh : headB l.length floor seq with
  | true => exact right_yes w v l floor seq hv hf hs hh
  | false => exact right_head w _ v l floor seq hv hf hs hh
end Go.Proofs.Ythgkgjcnmahacaa
end

section
/- What became of ids: the state of the loop, and what its steps do to it. -/
set_option linter.unusedSimpArgs false
set_option linter.unusedVariables false
namespace Go.Proofs.Ythgkgjcnmahacaa
open Go.RowKit Go.Shelf

/-! ### The plain answer -/
def updP (e : En) (p : Pa) : Pa := if p.id = e.id then { p with was := e.what != 1 } else p
def newP (e : En) : Pa := ⟨e.id, e.what != 1, e.what != 3, e.seq⟩
def stepP (sq : Int) (acc : List Pa) (e : En) : List Pa :=
  if e.seq ≤ sq then acc
  else if acc.any (fun p => decide (p.id = e.id)) then acc.map (updP e)
  else acc ++ [newP e]

/-! ### Blocks -/
def PaAt (W : World) (b : Nat) (p : Pa) : Prop := W.heap[b]? = some (.cells #[.string p.id, .bool p.was, .bool p.isb, .int .i64 p.last] 99 (0, 0))
def EnAt (W : World) (b : Nat) (e : En) : Prop := W.heap[b]? = some (.cells #[.int .i64 e.seq, .string e.id, .int .i64 e.what] 48 (0, 0))
theorem obj_ne {W : World} {i j : Nat} {o o' : Obj} (h : W.heap[i]? = some o) (h' : W.heap[j]? = some o') (hne : o ≠ o') : some i ≠ some j := by
  intro e
  simp only [Option.some.injEq] at e
  subst e
  rw [h] at h'
  exact hne (by simpa using h')
theorem PaAt.lt {W : World} {b : Nat} {p : Pa} (h : PaAt W b p) : b < W.heap.size := (Array.getElem?_eq_some_iff.1 h).1
theorem PaAt.cell {W : World} {b : Nat} {p : Pa} (h : PaAt W b p) (j : Nat) {u : Value} (hu : (encP p)[j]? = some u) : W.cell? ⟨b, j, none⟩ = some u := by
  unfold PaAt at h
  rw [← hu]
  simp [World.cell?, h, encP]
theorem EnAt.cell {W : World} {b : Nat} {e : En} (h : EnAt W b e) (j : Nat) {u : Value} (hu : (encE e)[j]? = some u) : W.cell? ⟨b, j, none⟩ = some u := by
  unfold EnAt at h
  rw [← hu]
  simp [World.cell?, h, encE]
theorem PaAt.frozen {W : World} {b : Nat} {p : Pa} (h : PaAt W b p) (j : Nat) : W.frozen? ⟨b, j, none⟩ = false := by
  unfold PaAt at h
  simp [World.frozen?, h]
theorem PaAt.kept {W W' : World} {row : Option Nat} {b : Nat} {p : Pa} (h : PaAt W b p) (hg : W.grownBy W' row) (hne : some b ≠ row) : PaAt W' b p := (hg.block b h.lt hne).trans h
theorem PaAt.set {W : World} {b : Nat} {p : Pa} (h : PaAt W b p) (x : Bool) : PaAt (W.setCell ⟨b, 1, none⟩ (.bool x)) b { p with was := x } := by
  obtain ⟨hlt, hk⟩ := Array.getElem?_eq_some_iff.1 h
  show (W.heap.modify b _)[b]? = _
  rw [Array.getElem?_eq_getElem (by rw [Array.size_modify]; exact hlt), Array.getElem_modify_self, hk]
  rfl
theorem grownBy_setCell1 (W : World) (b o : Nat) (v : Value) : W.grownBy (W.setCell ⟨b, o, none⟩ v) (some b) :=
  ⟨rfl, rfl, rfl, (KeepsWalks.setCell W _ v).size, fun k _ hk => Below.heap_setCell _ _ _ k (fun e => hk (by rw [e]))⟩

/-! ### What a step leaves as it was -/
def keepO (mb k : Nat) : Obj → Prop
  | .cells _ t _ => t ≠ 99 ∧ t ≠ 135 ∧ t ≠ 139
  | _ => k ≠ mb
structure Trn (base mb : Nat) (W W' : World) : Prop where
  below : Below base W W'
  keep : ∀ k o, W.heap[k]? = some o → keepO mb k o → W'.heap[k]? = some o
theorem Trn.refl (base mb : Nat) (W : World) : Trn base mb W W := ⟨Below.refl _ _, fun _ _ h _ => h⟩
theorem Trn.trans {base mb : Nat} {A B C : World} (h : Trn base mb A B) (k : Trn base mb B C) : Trn base mb A C := ⟨h.below.trans k.below, fun i o h1 h2 => k.keep i o (h.keep i o h1 h2) h2⟩
theorem Trn.alloc {base mb : Nat} {W : World} (hb : base ≤ W.heap.size) (o : Obj) : Trn base mb W (W.alloc o) :=
  ⟨(Below.refl _ W).alloc hb o, fun k o' h1 _ => (Below.heap_alloc W o k (Array.getElem?_eq_some_iff.1 h1).1).trans h1⟩
/-- A turn of one block, which is none of those to be kept. -/
theorem Trn.grown {base mb : Nat} {W W' : World} {row : Option Nat} (hb : base ≤ W.heap.size) (hg : W.grownBy W' row) (hr : ∀ r, row = some r → base ≤ r ∧ ∀ o, W.heap[r]? = some o → ¬ keepO mb r o) : Trn base mb W W' :=
  ⟨(Below.refl _ W).grown hg hb (fun k e => (hr k e).1), fun k o h1 h2 => (hg.block k (Array.getElem?_eq_some_iff.1 h1).1 (fun e => (hr k e.symm).2 o h1 h2)).trans h1⟩
theorem Trn.from {base mb B : Nat} {W W' : World} (h : Trn base mb W W') (hm : mb < B) : KeepsFrom B W W' :=
  ⟨h.below.size, fun k o hB h1 h2 => h.keep k o h1 (by cases o <;> simp_all [Obj.isCells, keepO] <;> omega)⟩
theorem Trn.boxed {base mb : Nat} {W W' : World} (h : Trn base mb W W') {B : Nat} {t : TypeId} {v : Value} (hb : Boxed W B t v) (ht : t ≠ 99 ∧ t ≠ 135 ∧ t ≠ 139) : Boxed W' B t v := h.keep _ _ hb ht
theorem Trn.en {base mb : Nat} {W W' : World} (h : Trn base mb W W') {B : Nat} {e : En} (hb : EnAt W B e) : EnAt W' B e := h.keep _ _ hb ⟨by decide, by decide, by decide⟩

/-! ### The state -/
structure SQ (base mb n : Nat) (Q : List (Nat × Pa)) (f : List UInt8 → Option Value) (v : Value) (t6 : Nat) (R : List Nat) (W : World) : Prop where
  map : MapF W Try.prog 9 mb n f
  fq : ∀ q ∈ Q, f q.2.id.data.toList = some (.pointer (some ⟨q.1, 0, none⟩))
  fn : ∀ s u, f s = some u → ∃ q ∈ Q, q.2.id.data.toList = s
  inj : ∀ q ∈ Q, ∀ q' ∈ Q, (q.1 = q'.1 ↔ q.2.id = q'.2.id)
  pas : ∀ q ∈ Q, base ≤ q.1 ∧ PaAt W q.1 q.2
  box : Boxed W t6 135 v
  own : Own W base 139 encPt 1 v R
  len : Q.length ≤ n

theorem MapF.obj {w : World} {P : Program} {k : TypeId} {b n : Nat} {f : List UInt8 → Option Value} (h : MapF w P k b n f) : ∃ es c, w.heap[b]? = some (.map es c) := by
  obtain ⟨E, ⟨es, clock, h1, h2⟩, he⟩ := h
  exact ⟨_, _, h1⟩
theorem Own.blk {α : Type} {enc : α → List Value} {sz : Nat} {w : World} {base : Nat} {e : TypeId} {v : Value} {xs : List α} (h : Own w base e enc sz v xs) : ∀ r, v.ownBlock = some r → base ≤ r ∧ ∃ cur, w.heap[r]? = some (.cells cur e (0, 0)) := by
  intro r hr
  rcases h.2 with ⟨rfl, _⟩ | ⟨g, cap, cur, rfl, hb, hgb, _⟩
  · simp [Value.ownBlock] at hr
  · obtain rfl : g = r := by simpa [Value.ownBlock] using hr
    exact ⟨hb, cur, hgb⟩

section
variable {base mb n t6 : Nat} {Q : List (Nat × Pa)} {f : List UInt8 → Option Value} {v : Value} {R : List Nat} {W : World}
theorem SQ.kept {W' : World} {row : Option Nat} (h : SQ base mb n Q f v t6 R W) (hg : W.grownBy W' row) (hr : ∀ r, row = some r → r ≠ mb ∧ ∃ o : Obj, W.heap[r]? = some o ∧ o.isCells = false) : SQ base mb n Q f v t6 R W' := by
  refine ⟨h.map.kept hg (fun e => (hr _ e.symm).1 rfl), h.fq, h.fn, h.inj, fun q hq => ⟨(h.pas q hq).1, (h.pas q hq).2.kept hg (fun e => ?_)⟩, h.box.kept hg (fun e => ?_), h.own.kept hg ?_, h.len⟩
  · obtain ⟨_, o, ho, hc⟩ := hr _ e.symm
    rw [show W.heap[q.1]? = _ from (h.pas q hq).2] at ho; cases ho; cases hc
  · obtain ⟨_, o, ho, hc⟩ := hr _ e.symm
    rw [show W.heap[t6]? = _ from h.box] at ho; cases ho; cases hc
  · cases hv : v.ownBlock with
    | none => exact .inl rfl
    | some r =>
      refine .inr fun e => ?_
      obtain ⟨_, cur, hc⟩ := h.own.blk r hv
      obtain ⟨_, o, ho, hoc⟩ := hr _ e.symm
      rw [hc] at ho; cases ho; cases hoc

/-- An id that is known: its mark is set. -/
theorem SQ.known (h : SQ base mb n Q f v t6 R W) (hb : base ≤ W.heap.size) {q : Nat × Pa} (hq : q ∈ Q) (e : En) (he : q.2.id = e.id) :
    SQ base mb n (Q.map fun q => (q.1, updP e q.2)) f v t6 R (W.setCell ⟨q.1, 1, none⟩ (.bool (e.what != 1))) ∧ Trn base mb W (W.setCell ⟨q.1, 1, none⟩ (.bool (e.what != 1))) := by
  have hg := grownBy_setCell1 W q.1 1 (.bool (e.what != 1))
  have hid : ∀ p : Pa, (updP e p).id = p.id := fun p => by unfold updP; split <;> rfl
  have hQ := (h.pas q hq).2
  refine ⟨⟨h.map.kept hg (fun e' => ?_), ?_, ?_, ?_, ?_, h.box.kept hg (fun e' => ?_), h.own.kept hg ?_, by simpa using h.len⟩, Trn.grown hb hg (fun r er => ?_)⟩
  · obtain ⟨es, c, hm⟩ := h.map.obj
    exact obj_ne hm hQ (by simp) e'
  · intro q' hq'
    obtain ⟨q1, h1, rfl⟩ := List.mem_map.1 hq'
    show f (updP e q1.2).id.data.toList = _
    rw [hid]
    exact h.fq q1 h1
  · intro s u hs
    obtain ⟨q1, h1, h2⟩ := h.fn s u hs
    exact ⟨_, List.mem_map.2 ⟨q1, h1, rfl⟩, by show (updP e q1.2).id.data.toList = _; rw [hid]; exact h2⟩
  · intro q1 h1 q2 h2
    obtain ⟨q1, h1', rfl⟩ := List.mem_map.1 h1
    obtain ⟨q2, h2', rfl⟩ := List.mem_map.1 h2
    show q1.1 = q2.1 ↔ (updP e q1.2).id = (updP e q2.2).id
    rw [hid, hid]
    exact h.inj q1 h1' q2 h2'
  · intro q1 h1
    obtain ⟨q1, h1', rfl⟩ := List.mem_map.1 h1
    clear h1
    have h1 := h1'
    refine ⟨(h.pas q1 h1).1, ?_⟩
    show PaAt _ q1.1 (updP e q1.2)
    by_cases hi : q1.2.id = e.id
    · have e1 : q1.1 = q.1 := (h.inj q1 h1 q hq).2 (hi.trans he.symm)
      unfold updP
      rw [if_pos hi, ← e1]
      exact (h.pas q1 h1).2.set _
    · have e1 : q1.1 ≠ q.1 := fun e2 => hi (((h.inj q1 h1 q hq).1 e2).trans he)
      unfold updP
      rw [if_neg hi]
      exact (h.pas q1 h1).2.kept hg (fun e2 => e1 (by simpa using e2))
  · exact obj_ne h.box hQ (by simp) e'
  · cases hv : v.ownBlock with
    | none => exact .inl rfl
    | some r =>
      refine .inr fun e' => ?_
      obtain ⟨_, cur, hc⟩ := h.own.blk r hv
      exact obj_ne hc hQ (by simp) e'
  · cases er
    refine ⟨(h.pas q hq).1, fun o ho hk => ?_⟩
    rw [show W.heap[q.1]? = _ from hQ] at ho; cases ho
    exact hk.1 rfl

/-- An id that is new: its block is laid, and the map is told. -/
theorem SQ.fresh (h : SQ base mb n Q f v t6 R W) (hb : base ≤ W.heap.size) (hm : base ≤ mb) (p : Pa) (hf : f p.id.data.toList = none) {W2 : World}
    (hg : (W.alloc (.cells #[.string p.id, .bool p.was, .bool p.isb, .int .i64 p.last] 99)).grownBy W2 (some mb)) (hM : MapF W2 Try.prog 9 mb (n + 1) (fun u => if u = p.id.data.toList then some (.pointer (some ⟨W.heap.size, 0, none⟩)) else f u)) :
    SQ base mb (n + 1) (Q ++ [(W.heap.size, p)]) (fun u => if u = p.id.data.toList then some (.pointer (some ⟨W.heap.size, 0, none⟩)) else f u) v t6 R W2 ∧ Trn base mb W W2 := by
  have hnew : PaAt (W.alloc (.cells #[.string p.id, .bool p.was, .bool p.isb, .int .i64 p.last] 99)) W.heap.size p := World.alloc_heap_new W _
  obtain ⟨W1, hW1⟩ : ∃ W1, W.alloc (.cells #[.string p.id, .bool p.was, .bool p.isb, .int .i64 p.last] 99) = W1 := ⟨_, rfl⟩
  have hga : W.grownBy W1 none := by rw [← hW1]; exact World.grownBy_alloc W _ none
  have hta : Trn base mb W W1 := by rw [← hW1]; exact Trn.alloc hb _
  rw [hW1] at hg hnew
  obtain ⟨es, c, hmo⟩ := (h.map.kept hga (by simp)).obj
  have hno : ∀ q ∈ Q, q.2.id ≠ p.id := fun q hq e => by
    have := h.fq q hq
    rw [e, hf] at this; cases this
  have hlt : ∀ q ∈ Q, q.1 < W.heap.size := fun q hq => (h.pas q hq).2.lt
  have hnm : ∀ b p', PaAt W1 b p' → some b ≠ some mb := fun b p' hp => obj_ne hp hmo (by simp)
  refine ⟨⟨hM, ?_, ?_, ?_, ?_, (h.box.kept hga (by simp)).kept hg (fun e => ?_), (h.own.kept hga ?_).kept hg ?_, by simp; exact h.len⟩, hta.trans (Trn.grown (Nat.le_trans hb hta.below.size) hg (fun r er => ?_))⟩
  · intro q hq
    rcases List.mem_append.1 hq with h1 | h1
    · show (if _ then _ else _) = _
      rw [if_neg (fun e => hno q h1 ((data_inj _ _).1 e))]
      exact h.fq q h1
    · obtain rfl : q = (W.heap.size, p) := by simpa using h1
      simp
  · intro s u hs
    split at hs
    · rename_i e
      exact ⟨_, List.mem_append_right _ (List.mem_singleton.2 rfl), e.symm⟩
    · obtain ⟨q, h1, h2⟩ := h.fn s u hs
      exact ⟨q, List.mem_append_left _ h1, h2⟩
  · intro q1 h1 q2 h2
    rcases List.mem_append.1 h1 with h1 | h1 <;> rcases List.mem_append.1 h2 with h2 | h2
    · exact h.inj q1 h1 q2 h2
    · obtain rfl : q2 = (W.heap.size, p) := by simpa using h2
      have := hlt q1 h1
      exact ⟨fun e => by dsimp only at e; omega, fun e => absurd e (hno q1 h1)⟩
    · obtain rfl : q1 = (W.heap.size, p) := by simpa using h1
      have := hlt q2 h2
      exact ⟨fun e => by dsimp only at e; omega, fun e => absurd e.symm (hno q2 h2)⟩
    · obtain rfl : q1 = (W.heap.size, p) := by simpa using h1
      obtain rfl : q2 = (W.heap.size, p) := by simpa using h2
      simp
  · intro q hq
    rcases List.mem_append.1 hq with h1 | h1
    · have hk := (h.pas q h1).2.kept hga (by simp)
      exact ⟨(h.pas q h1).1, hk.kept hg (hnm _ _ hk)⟩
    · obtain rfl : q = (W.heap.size, p) := by simpa using h1
      exact ⟨hb, hnew.kept hg (hnm _ _ hnew)⟩
  · exact obj_ne (h.box.kept hga (by simp)) hmo (by simp) e
  · cases v.ownBlock <;> simp
  · cases hv : v.ownBlock with
    | none => exact .inl rfl
    | some r =>
      refine .inr fun e' => ?_
      obtain ⟨_, cur, hc⟩ := (h.own.kept hga (by cases v.ownBlock <;> simp)).blk r hv
      exact obj_ne hc hmo (by simp) e'
  · cases er
    refine ⟨hm, fun o ho hk => ?_⟩
    rw [hmo] at ho; cases ho
    exact hk rfl

/-- A pointer is appended, and the slice is stored. -/
theorem SQ.append (h : SQ base mb n Q f v t6 R W) (hb : base ≤ W.heap.size) (ht : base ≤ t6) (tmp : Obj) {W4 : World} {v' : Value} {R' : List Nat} (hg : (W.alloc tmp).grownBy W4 v.ownBlock) (ho : Own W4 base 139 encPt 1 v' R') :
    Boxed W4 t6 135 v ∧ SQ base mb n Q f v' t6 R' (W4.setCell ⟨t6, 0, none⟩ v') ∧ Trn base mb W (W4.setCell ⟨t6, 0, none⟩ v') := by
  obtain ⟨W1, hW1⟩ : ∃ W1, W.alloc tmp = W1 := ⟨_, rfl⟩
  have hga : W.grownBy W1 none := by rw [← hW1]; exact World.grownBy_alloc W _ none
  have hta : Trn base mb W W1 := by rw [← hW1]; exact Trn.alloc hb _
  rw [hW1] at hg
  have hO := h.own.kept hga (by cases v.ownBlock <;> simp)
  have hrow : ∀ b o, W1.heap[b]? = some o → (∀ cur, o ≠ .cells cur 139 (0, 0)) → some b ≠ v.ownBlock := fun b o hbo hne e => by
    obtain ⟨_, cur, hc⟩ := hO.blk b e.symm
    rw [hbo] at hc; cases hc
    exact hne cur rfl
  have hbox1 : Boxed W1 t6 135 v := h.box.kept hga (by simp)
  have hbox4 : Boxed W4 t6 135 v := hbox1.kept hg (hrow _ _ hbox1 (by simp))
  have hg5 := grownBy_setCell1 W4 t6 0 v'
  have hmp : MapF W4 Try.prog 9 mb n f := (h.map.kept hga (by simp)).kept hg (by
    obtain ⟨es, c, hmo⟩ := (h.map.kept hga (by simp)).obj
    exact hrow _ _ hmo (by simp))
  have hp4 : ∀ q ∈ Q, PaAt W4 q.1 q.2 := fun q hq => by
    have hk := (h.pas q hq).2.kept hga (by simp)
    exact hk.kept hg (hrow _ _ hk (by simp))
  have hs1 : Trn base mb W1 W4 := Trn.grown (Nat.le_trans hb hta.below.size) hg (fun r er => by
    obtain ⟨h1, cur, hc⟩ := hO.blk r er
    refine ⟨h1, fun o ho hk => ?_⟩
    rw [hc] at ho; cases ho
    exact hk.2.2 rfl)
  refine ⟨hbox4, ⟨hmp.kept hg5 (fun e => ?_), h.fq, h.fn, h.inj, fun q hq => ⟨(h.pas q hq).1, (hp4 q hq).kept hg5 (fun e => ?_)⟩, hbox4.set v', ho.kept hg5 ?_, h.len⟩, (hta.trans hs1).trans (Trn.grown (Nat.le_trans hb (hta.trans hs1).below.size) hg5 (fun r er => ?_))⟩
  · obtain ⟨es, c, hm⟩ := hmp.obj
    exact obj_ne hm hbox4 (by simp) e
  · exact obj_ne (hp4 q hq) hbox4 (by simp) e
  · cases hv : v'.ownBlock with
    | none => exact .inl rfl
    | some r =>
      refine .inr fun e' => ?_
      obtain ⟨_, cur, hc⟩ := ho.blk r hv
      exact obj_ne hc hbox4 (by simp) e'
  · cases er
    refine ⟨ht, fun o ho hk => ?_⟩
    rw [show W4.heap[t6]? = _ from hbox4] at ho; cases ho
    exact hk.2.1 rfl
end

section
variable {F : Fence} {nF : Nat} {P : Program} (w : World) {ops : Array Oper} {rest : List Oper} {o : Oper} {a : Act} {Q : Exit → Act → World → Prop}
theorem wpListIn_look_F (hg : o.guard = none) (m x : Operand) (t : TypeId) (hop : o.op = Op.lookup t m x false) (k e : TypeId) (hk : P.underlying k = some .string) (ht : P.underlying t = some (.map k e)) {z : Value} (hz : (zeroValue e).run P w = .ok z w)
    (b n : Nat) (f : List UInt8 → Option Value) (hm : a.eval m = .map (some b)) (hown : MapF w P k b n f) (s : ByteArray) (hx : a.eval x = .string s) (hs : s.size ≤ maxLen) {v : Value} (hv : (f s.data.toList).getD z = v)
    (hK : wpListIn F nF P ops Q rest (a.put o.dst v) w) : wpListIn F nF P ops Q (o :: rest) a w := by
  refine wpListIn_plain hg fun K' hK' => ?_
  have hrun := hown.look hk ht hz hs
  rw [hv] at hrun
  unfold Oper.wpIn
  refine ⟨by simp [Oper.about, hop], ?_⟩
  rw [Oper.semAt_plain F _ _ (by rw [hop]; intro c hc'; cases hc')]
  simp [execOp, hop, hm, hx, hrun, Result.andThen]
  exact hK' _ _ hK
theorem wpListIn_store_F (hg : o.guard = none) (m x v : Operand) (t : TypeId) (hop : o.op = Op.mapUpdate t m x v) (k e : TypeId) (hk : P.underlying k = some .string) (ht : P.underlying t = some (.map k e)) 
    (b n : Nat) (f : List UInt8 → Option Value) (hm : a.eval m = .map (some b)) (hown : MapF w P k b n f) (hn : n < maxLen) (s : ByteArray) (hx : a.eval x = .string s) (hs : s.size ≤ maxLen) (val : Value) (hv : a.eval v = val)
    (hK : ∀ w', MapF w' P k b (n + 1) (fun u => if u = s.data.toList then some val else f u) → w.grownBy w' (some b) → wpListIn F nF P ops Q rest (a.put o.dst undef) w') : wpListIn F nF P ops Q (o :: rest) a w := by
  refine wpListIn_plain hg fun K' hK' => ?_
  obtain ⟨w', hrun, h1, h2⟩ := hown.store hk ht hn hs val
  unfold Oper.wpIn
  refine ⟨by simp [Oper.about, hop], ?_⟩
  rw [Oper.semAt_plain F _ _ (by rw [hop]; intro c hc'; cases hc')]
  simp [execOp, hop, hm, hx, hv, hrun, Result.andThen]
  exact hK' _ _ (hK w' h1 h2)
end
end Go.Proofs.Ythgkgjcnmahacaa
end

section
/- The exchange of two ranges, as the library's stable sort has it, at elements of 4 cells. -/
set_option linter.unusedSimpArgs false
set_option linter.unusedVariables false
namespace Go.Proofs.Ythgkgjcnmahacaa
open Go.Shelf Go.RowKit Go.Lib Go.Sort
namespace SP
def ren : Ren := ⟨fun | 20 => 135 | n => n, fun | 24 => 99 | 22 => 96 | 3 => 3 | 25 => 144 | 4 => 4 | 0 => 0 | n => n, fun | n => n⟩

/-- What the walks ask of a program: its bodies, its types. (The element's cells are k, a variable: the walk then takes them by runs.) -/
structure Lays (P : Program) (k : Nat) : Prop where
  mixed : P.follows .mixedOrders = true
  fSwap : P.funcs[150]? = some Try.f150
  fRot : P.funcs[148]? = some Try.f148
  fSym : P.funcs[136]? = some Try.f136
  fStab : P.funcs[118]? = some Try.f118
  fTop : P.funcs[93]? = some Try.f93
  ins : SlLaysF0.n20 P ren
  aE : ∀ w, (isAgg 99).run P w = .ok true w
  zE : ∀ w, (Go.sizeOf 99).run P w = .ok k w
  t0 : P.underlying 0 = some (TypeDesc.tuple #[])
  a0 : ∀ w, (isAgg 0).run P w = .ok false w
  z0 : ∀ w, (Go.sizeOf 0).run P w = .ok 1 w
  v0 : ∀ w, (zeroValue 0).run P w = .ok (Value.tuple #[]) w
  t3 : P.underlying 3 = some (TypeDesc.int IntKind.i64)
  a3 : ∀ w, (isAgg 3).run P w = .ok false w
  z3 : ∀ w, (Go.sizeOf 3).run P w = .ok 1 w
  v3 : ∀ w, (zeroValue 3).run P w = .ok (Value.int IntKind.i64 0) w
  t4 : P.underlying 4 = some (TypeDesc.bool)
  a4 : ∀ w, (isAgg 4).run P w = .ok false w
  z4 : ∀ w, (Go.sizeOf 4).run P w = .ok 1 w
  v4 : ∀ w, (zeroValue 4).run P w = .ok (Value.bool false) w
  tu : P.underlying 161 = some (TypeDesc.int IntKind.u64)
  au : ∀ w, (isAgg 161).run P w = .ok false w
  zu : ∀ w, (Go.sizeOf 161).run P w = .ok 1 w
  vu : ∀ w, (zeroValue 161).run P w = .ok (Value.int IntKind.u64 0) w
  tS : P.underlying 96 = some (TypeDesc.slice 99)
  aS : ∀ w, (isAgg 96).run P w = .ok false w
  zS : ∀ w, (Go.sizeOf 96).run P w = .ok 1 w
  vS : ∀ w, (zeroValue 96).run P w = .ok (Value.slice none 0 0) w
  tC : P.underlying 144 = some (TypeDesc.func #[99, 99] #[3] false)
  aC : ∀ w, (isAgg 144).run P w = .ok false w
  zC : ∀ w, (Go.sizeOf 144).run P w = .ok 1 w
  vC : ∀ w, (zeroValue 144).run P w = .ok (Value.nilFunc) w

theorem insLays : SlLaysF0.n20 Try.prog ren := {
  mixed := by kernel_rfl
  f20 := ⟨Try.f135.name, by decide, Try.func135.trans (congrArg some (by kernel_rfl))⟩
  t0 := Try.underlying0
  a0 := Try.isAgg0
  z0 := Try.sizeOf0
  v0 := Try.zeroValue0
  t3 := Try.underlying3
  a3 := Try.isAgg3
  z3 := Try.sizeOf3
  v3 := Try.zeroValue3
  t4 := Try.underlying4
  a4 := Try.isAgg4
  z4 := Try.sizeOf4
  v4 := Try.zeroValue4
  t22 := Try.underlying96
  a22 := Try.isAgg96
  z22 := Try.sizeOf96
  v22 := Try.zeroValue96
  t25 := Try.underlying144
  a25 := Try.isAgg144
  z25 := Try.sizeOf144
  v25 := Try.zeroValue144 }

theorem lays : Lays Try.prog 4 := {
  mixed := by kernel_rfl
  fSwap := Try.func150
  fRot := Try.func148
  fSym := Try.func136
  fStab := Try.func118
  fTop := Try.func93
  ins := insLays
  aE := Try.isAgg99
  zE := Try.sizeOf99
  t0 := Try.underlying0
  a0 := Try.isAgg0
  z0 := Try.sizeOf0
  v0 := Try.zeroValue0
  t3 := Try.underlying3
  a3 := Try.isAgg3
  z3 := Try.sizeOf3
  v3 := Try.zeroValue3
  t4 := Try.underlying4
  a4 := Try.isAgg4
  z4 := Try.sizeOf4
  v4 := Try.zeroValue4
  tu := Try.underlying161
  au := Try.isAgg161
  zu := Try.sizeOf161
  vu := Try.zeroValue161
  tS := Try.underlying96
  aS := Try.isAgg96
  zS := Try.sizeOf96
  vS := Try.zeroValue96
  tC := Try.underlying144
  aC := Try.isAgg144
  zC := Try.sizeOf144
  vC := Try.zeroValue144 }

variable {P : Program} {α : Type} [Inhabited α]

set_option maxHeartbeats 4000000 in
set_option maxRecDepth 1000000 in
theorem swapRange_any (k : Nat) (L : Lays P k) (enc : α → List Value) (g : Nat) (cb : Array Value) (blk off cap a b n : Nat) (d0 d : Array α) (w0 w : World)
    (R : RowK enc k w0 blk off d0) (hs : d0.size = d.size) (S : SWK enc k w0 blk off d w) (hab : a + n ≤ b) (hb : b + n ≤ d.size) (hsz : d.size < 4611686018427387904) :
    Calls P 150 #[.slice (some ⟨blk, off, none⟩) d.size cap, .int .i64 a, .int .i64 b, .int .i64 n, .func (.func g) #[] cb] w fun e w' => e = .returned (.tuple #[]) ∧ SWK enc k w0 blk off (swr d a b n) w' := by
  have mixed := L.mixed; have aE := L.aE; have zE := L.zE; have t0 := L.t0; have a0 := L.a0; have z0 := L.z0; have v0 := L.v0; have t3 := L.t3; have a3 := L.a3; have z3 := L.z3; have v3 := L.v3; have t4 := L.t4; have a4 := L.a4; have z4 := L.z4; have v4 := L.v4; have tS := L.tS; have aS := L.aS; have zS := L.zS; have vS := L.vS; have tC := L.tC; have aC := L.aC; have zC := L.zC; have vC := L.vC
  have FG := L.fSwap
  have S0 : Aside (SWK enc k w0 blk off d w) := S
  clear S
  go_enter FG, Try.ntmps150
  go_wp2
  go_loopg [10] n (fun kx s10 wr => ∃ (i : Nat), s10 = .int .i64 i ∧ i ≤ n ∧ n - i ≤ kx ∧ Aside (SWK enc k w0 blk off (swr d a b i) wr))
  case atStart => exact ⟨0, rfl, Nat.zero_le _, by omega, S0⟩
  case round =>
    clear S0
    obtain ⟨i, rfl, hin, hkx, S1⟩ := hrel
    by_cases hlt : i < n
    · have hltz : (i : Int) < (n : Int) := by omega
      have hds : (swr d a b i).size = d.size := size_swr _ _ _ _
      generalize hdk : swr d a b i = dk at S1 hds
      have HDK := Lib.hid hdk
      clear hdk
      go_wp2_with fail
      have ea44 : ((a : Int) + (i : Int)).toNat = a + i := by omega
      have pa44 : (0 : Int) ≤ (a : Int) + (i : Int) := by omega
      have ba44 : (a : Int) + (i : Int) < (d.size : Int) := by omega
      have ec44 : ((b : Int) + (i : Int)).toNat = b + i := by omega
      have pc44 : (0 : Int) ≤ (b : Int) + (i : Int) := by omega
      have bc44 : (b : Int) + (i : Int) < (d.size : Int) := by omega
      have S2 : Aside (SWK enc k w0 blk off (swp dk (a + i) (b + i)) ((wr.drew.setCells blk (off + (a + i) * k) (enc dk[b + i]!)).setCells blk (off + (b + i) * k) (enc dk[a + i]!))) := S1.out.swapped R (a + i) (b + i) (by omega) (by omega)
      have l44a := S1.out.ld1 R (by omega) P (a + i) (by omega)
      have l44b := S1.out.ld1 R (by omega) P (b + i) (by omega)
      have s44a := S1.out.st1 R (by omega) P (a + i) (by omega) dk[b + i]!
      have s44b := S1.out.st2 R (by omega) P (a + i) (b + i) (by omega) (by omega) dk[b + i]! dk[a + i]!
      have n44a : (enc dk[a + i]!).length = k := R.hk _
      have n44b : (enc dk[b + i]!).length = k := R.hk _
      generalize enc dk[a + i]! = cI44 at S2 l44a s44b n44a
      generalize enc dk[b + i]! = cJ44 at S2 l44b s44a s44b n44b
      clear S1
      go_big_region_o
      clear l44a l44b s44a s44b
      generalize (wr.drew.setCells blk (off + (a + i) * k) cJ44).setCells blk (off + (b + i) * k) cI44 = w2 at S2 ⊢
      go_wp2
      go_roundg (n - (i + 1))
      case measure => omega
      case rel => exact ⟨i + 1, by go_num, by omega, by omega, by rw [← HDK.out] at S2; exact S2⟩
    · obtain rfl : i = n := by omega
      go_wp2
      go_end0
      exact ⟨rfl, S1.out⟩
end SP
end Go.Proofs.Ythgkgjcnmahacaa
end

section
/- The rotation, as the library's stable sort has it. -/
set_option linter.unusedSimpArgs false
set_option linter.unusedVariables false
namespace Go.Proofs.Ythgkgjcnmahacaa
open Go.Shelf Go.RowKit Go.Lib Go.Sort
namespace SP
variable {P : Program} {α : Type} [Inhabited α]

theorem swapRange_z (k : Nat) (L : Lays P k) (enc : α → List Value) (g : Nat) (cb : Array Value) (blk off cap a b n : Nat) (d0 d : Array α) (w0 w : World)
    (R : RowK enc k w0 blk off d0) (hs : d0.size = d.size) (S : SWK enc k w0 blk off d w) (hab : a + n ≤ b) (hb : b + n ≤ d.size) (hsz : d.size < 4611686018427387904) (s : Nat) (az bz nz : Int) (h0 : s = d.size) (h1 : az = a) (h2 : bz = b) (h3 : nz = n) :
    Calls P 150 #[.slice (some ⟨blk, off, none⟩) s cap, .int .i64 az, .int .i64 bz, .int .i64 nz, .func (.func g) #[] cb] w fun e w' => e = .returned (.tuple #[]) ∧ SWK enc k w0 blk off (swr d a b n) w' := by
  subst h0 h1 h2 h3
  exact swapRange_any k L enc g cb blk off cap a b n d0 d w0 w R hs S hab hb hsz

def RotPost (enc : α → List Value) (k : Nat) (w0 : World) (blk off : Nat) (d : Array α) (a m b : Nat) (e : Ending) (w' : World) : Prop :=
  e = .returned (.tuple #[]) ∧ ∃ d' : Array α, SWK enc k w0 blk off d' w' ∧ PermIn a b d d' ∧ ∀ t, d'[t]! = rotG d a m b t

set_option maxHeartbeats 4000000 in
set_option maxRecDepth 1000000 in
theorem rotate_any (k : Nat) (L : Lays P k) (enc : α → List Value) (g : Nat) (cb : Array Value) (blk off cap a m b : Nat) (d0 d : Array α) (w0 w : World)
    (R : RowK enc k w0 blk off d0) (hs : d0.size = d.size) (S : SWK enc k w0 blk off d w) (ham : a < m) (hmb : m < b) (hb : b ≤ d.size) (hsz : d.size < 4611686018427387904) :
    Calls P 148 #[.slice (some ⟨blk, off, none⟩) d.size cap, .int .i64 a, .int .i64 m, .int .i64 b, .func (.func g) #[] cb] w (RotPost enc k w0 blk off d a m b) := by
  have mixed := L.mixed; have aE := L.aE; have zE := L.zE; have t0 := L.t0; have a0 := L.a0; have z0 := L.z0; have v0 := L.v0; have t3 := L.t3; have a3 := L.a3; have z3 := L.z3; have v3 := L.v3; have t4 := L.t4; have a4 := L.a4; have z4 := L.z4; have v4 := L.v4; have tS := L.tS; have aS := L.aS; have zS := L.zS; have vS := L.vS; have tC := L.tC; have aC := L.aC; have zC := L.zC; have vC := L.vC
  have FG := L.fRot
  have eSwap : ∀ args w, (callFunc 150 args).run P w = .ok (.enter 150 args) w := enters_of L.fSwap (by kernel_rfl) rfl
  have S0 : Aside (SWK enc k w0 blk off d w) := S
  have HSW := Lib.hid (fun a b n (d : Array α) w => swapRange_z k L enc g cb blk off cap a b n d0 d w0 w R)
  clear S
  have hslot : Hid (m - (m - a) = a ∧ m + (b - m) = b) := by unfold Hid; omega
  go_enter FG, Try.ntmps148
  go_wp2_with fail
  go_loopg [10, 11] (m - a + (b - m)) (fun kx s10 s11 wr => ∃ (i j : Nat) (dk : Array α), s10 = .int .i64 i ∧ s11 = .int .i64 j ∧ 0 < i ∧ i ≤ m - a ∧ 0 < j ∧ j ≤ b - m ∧ i + j ≤ kx ∧ dk.size = d.size ∧ Aside (SWK enc k w0 blk off dk wr) ∧ Hid (PermIn a b d dk ∧ ∀ t, rotG dk (m - i) m (m + j) t = rotG d a m b t))
  case atStart => exact ⟨m - a, b - m, d, by congr 1; omega, by congr 1; omega, by omega, Nat.le_refl _, by omega, Nat.le_refl _, Nat.le_refl _, rfl, S0, permIn_refl _ _ _, fun t => by rw [hslot.out.1, hslot.out.2]⟩
  case round =>
    clear S0
    obtain ⟨i, j, dk, rfl, rfl, hi0, hi, hj0, hj, hkx, hds, S1, HP⟩ := hrel
    rcases Nat.lt_trichotomy i j with hlt | heq | hgt
    · have hne : ((i : Int) != (j : Int)) = true := by rw [bne_iff_ne]; omega
      have hnz : ¬ (j : Int) < (i : Int) := by omega
      have HX : Hid (PermIn a b d (swr dk (m - i) (m + j - i) i) ∧ ∀ t, rotG (swr dk (m - i) (m + j - i) i) (m - i) m (m + (j - i)) t = rotG d a m b t) :=
        ⟨permIn_trans _ _ _ _ _ HP.out.1 (swr_perm dk _ _ i a b (by omega) (by omega) (by omega) (by omega) (by omega)), fun t => (rot_lt dk m i j t hlt (by omega) (by omega)).trans (HP.out.2 t)⟩
      go_wp2_with fail
      refine (HSW.out (m - i) (m + j - i) i dk _ (by omega) S1.out (by omega) (by omega) (by omega) _ _ _ _ (by omega) (by omega) (by omega) (by omega)).mono ?_
      rintro e w1 ⟨rfl, S2⟩
      go_wp2_with fail
      have S2' : Aside (SWK enc k w0 blk off (swr dk (m - i) (m + j - i) i) w1) := S2
      clear S2
      go_roundg (i + (j - i))
      case measure => omega
      case rel => exact ⟨i, j - i, _, rfl, by congr 1; omega, by omega, by omega, by omega, by omega, by omega, by rw [size_swr]; exact hds, S2', HX⟩
    · subst heq
      have hne : ((i : Int) != (i : Int)) = false := by simp
      have HX : Hid (PermIn a b d (swr dk (m - i) m i) ∧ ∀ t, (swr dk (m - i) m i)[t]! = rotG d a m b t) :=
        ⟨permIn_trans _ _ _ _ _ HP.out.1 (swr_perm dk _ _ i a b (by omega) (by omega) (by omega) (by omega) (by omega)), fun t => (rot_eq dk m i t (by omega) (by omega)).trans (HP.out.2 t)⟩
      go_wp2_with fail
      refine (HSW.out (m - i) m i dk _ (by omega) S1.out (by omega) (by omega) (by omega) _ _ _ _ (by omega) (by omega) (by omega) (by omega)).mono ?_
      rintro e w1 ⟨rfl, S2⟩
      go_wp2_with fail
      go_end0
      exact ⟨rfl, _, S2, HX.out.1, HX.out.2⟩
    · have hne : ((i : Int) != (j : Int)) = true := by rw [bne_iff_ne]; omega
      have hnz : (j : Int) < (i : Int) := by omega
      have HX : Hid (PermIn a b d (swr dk (m - i) m j) ∧ ∀ t, rotG (swr dk (m - i) m j) (m - (i - j)) m (m + j) t = rotG d a m b t) :=
        ⟨permIn_trans _ _ _ _ _ HP.out.1 (swr_perm dk _ _ j a b (by omega) (by omega) (by omega) (by omega) (by omega)), fun t => (rot_gt dk m i j t hgt (by omega) (by omega)).trans (HP.out.2 t)⟩
      go_wp2_with fail
      refine (HSW.out (m - i) m j dk _ (by omega) S1.out (by omega) (by omega) (by omega) _ _ _ _ (by omega) (by omega) (by omega) (by omega)).mono ?_
      rintro e w1 ⟨rfl, S2⟩
      go_wp2_with fail
      have S2' : Aside (SWK enc k w0 blk off (swr dk (m - i) m j) w1) := S2
      clear S2
      go_roundg (i - j + j)
      case measure => omega
      case rel => exact ⟨i - j, j, _, by congr 1; omega, rfl, by omega, by omega, by omega, by omega, by omega, by rw [size_swr]; exact hds, S2', HX⟩
end SP
end Go.Proofs.Ythgkgjcnmahacaa
end
