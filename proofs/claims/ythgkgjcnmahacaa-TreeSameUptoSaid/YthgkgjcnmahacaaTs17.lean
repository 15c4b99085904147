import Derived.Test.YthgkgjcnmahacaaTs01
import Derived.ProofKit
import Derived.Below
import Derived.Test.YthgkgjcnmahacaaRows
import Derived.Test.YthgkgjcnmahacaaTs00
import Derived.Deep.CondSized
import Derived.Test.YthgkgjcnmahacaaTs13
section
/- A value of JSON that came in reads as a tree. -/
set_option linter.unusedSimpArgs false
set_option linter.unusedVariables false
set_option maxRecDepth 100000
namespace Go.Proofs.Ythgkgjcnmahacaa
open Go Go.RowKit Go.ChangeShapes Go.WideShapes Go.Deep

section
variable {H : Type} {enc : TypeId × Value → H} {W : World} {base b0 : Nat} {spare : Nat → Bool} {held : Bool}
theorem cel1 : Try.prog.cellsOf 2 = 1 := by kernel_rfl
theorem cel2 : Try.prog.cellsOf 3 = 1 := by kernel_rfl
theorem cel3 : Try.prog.cellsOf 9 = 1 := by kernel_rfl
theorem cel4 : Try.prog.cellsOf 22 = 1 := by kernel_rfl
theorem cel5 : Try.prog.cellsOf 23 = 1 := by kernel_rfl

theorem weights_string {t : TypeId} {s : ByteArray} {R : Nat} (h : ∀ n ∈ (DataW.lit (H := H) (.string s.data.toList)).weights Try.prog t, n ≤ R) : s.size ≤ R := by
  have := h s.data.toList.length (by simp [DataW.weights])
  simpa using this

theorem open_val : ∀ (fuel : Nat) (cs : List Value) (x : DataW H × List MemPlace), DataW.trod enc Try.prog W base spare held fuel 25 cs = some x →
    ∃ r t, cs = encV r ∧ TreeOf W W.heap.size t r ∧ ((∀ n ∈ x.1.weights Try.prog 25, n ≤ 140737488351232) → t.Ok) := by
  intro fuel
  induction fuel using Nat.strongRecOn with
  | ind fuel ih =>
    intro cs x h
    obtain ⟨y0, y1, y2, y3, y4, n, rfl, hx1, hlen, t0, t1, t2, t3, t4⟩ := trodF5 Try.underlying25 h
    rw [cellsV] at hlen
    obtain ⟨c0, c1, c2, c3, c4, rfl⟩ : ∃ c0 c1 c2 c3 c4, cs = [c0, c1, c2, c3, c4] := by
      match cs, hlen with
      | [a, b, c, d, e], _ => exact ⟨a, b, c, d, e, rfl⟩
    rw [hx1]
    dsimp only at t0 t1 t2 t3 t4
    rw [cel2] at t0
    rw [cel1] at t1
    rw [cel3] at t2
    rw [cel4] at t3
    rw [cel5] at t4
    simp only [List.drop_zero, List.drop_succ_cons, List.take_succ_cons, List.take_zero] at t0 t1 t2 t3 t4
    obtain ⟨k, e0, f0, w0⟩ := DataW.trod_int Try.underlying3 t0
    obtain ⟨n', e1, f1, w1⟩ := DataW.trod_int Try.underlying2 t1
    obtain ⟨s, e2, f2, w2⟩ := DataW.trod_string Try.underlying9 t2
    simp only [List.cons.injEq, and_true] at e0 e1 e2
    subst e0 e1 e2 f0 f1 f2
    obtain ⟨pl, nl, cl, rs, e3, hr3, hd3⟩ := open_list (Q := fun (r : RV) (d : DataW H) => ∃ t, TreeOf W W.heap.size t r ∧ ((∀ n ∈ d.weights Try.prog 25, n ≤ 140737488351232) → t.Ok)) Try.underlying22 cellsV codecV t3
      (fun m hm cs y hy => by
        obtain ⟨r, t, h1, h2⟩ := ih m (by omega) cs y hy
        exact ⟨r, h1, t, h2⟩)
    obtain ⟨pm, nm, cm, rms, e4, hr4, hd4⟩ := open_list (Q := fun (r : RM) (d : DataW H) => ∃ t, TreeOf W W.heap.size t r.v ∧ ((∀ n ∈ d.weights Try.prog 90, n ≤ 140737488351232) → r.name.size ≤ 140737488351232 ∧ t.Ok)) Try.underlying23 cellsM codecM t4
      (fun m hm cs y hy => by
        obtain ⟨z0, z1, j, rfl, hy1, hlen, u0, u1⟩ := trodF2 Try.underlying90 hy
        rw [cellsM] at hlen
        obtain ⟨a0, a1, a2, a3, a4, a5, rfl⟩ : ∃ a0 a1 a2 a3 a4 a5, cs = [a0, a1, a2, a3, a4, a5] := by
          match cs, hlen with
          | [a, b, c, d, e, f], _ => exact ⟨a, b, c, d, e, f, rfl⟩
        rw [hy1]
        dsimp only at u0 u1
        rw [cel3] at u0
        rw [cellsV] at u1
        simp only [List.drop_zero, List.drop_succ_cons, List.take_succ_cons, List.take_zero] at u0 u1
        obtain ⟨nm, g0, g1, g2⟩ := DataW.trod_string Try.underlying9 u0
        simp only [List.cons.injEq, and_true] at g0
        subst g0 g1
        obtain ⟨r, t, h1, h2, h3⟩ := ih j (by omega) _ _ u1
        refine ⟨⟨nm, r⟩, by rw [h1]; rfl, t, h2, fun hw => ⟨weights_string (weights_struct Try.underlying90 hw (i := 0) rfl rfl), h3 (weights_struct Try.underlying90 hw (i := 1) rfl rfl)⟩⟩)
    simp only [List.cons.injEq, and_true] at e3 e4
    subst e3 e4
    have nl_eq : nl = rs.length := by
      obtain ⟨_, _, e, _⟩ := hr3
      simp only [Value.slice.injEq] at e; exact e.2.1
    have nm_eq : nm = rms.length := by
      obtain ⟨_, _, e, _⟩ := hr4
      simp only [Value.slice.injEq] at e; exact e.2.1
    have hL : ∀ i, i < rs.length → ∃ t : JV, ∀ q, rs[i]? = some q → TreeOf W W.heap.size t q ∧ ((∀ n ∈ y3.1.weights Try.prog 22, n ≤ 140737488351232) → t.Ok) := by
      intro i hi
      obtain ⟨q, hq⟩ : ∃ q, rs[i]? = some q := ⟨_, List.getElem?_eq_getElem hi⟩
      rcases hd3 with ⟨rfl, _⟩ | ⟨es, sp, h1, h2, h3⟩
      · simp at hi
      · obtain ⟨d, hd, t, ht1, ht2⟩ := h3 i q hq
        refine ⟨t, fun q' hq' => ?_⟩
        rw [hq] at hq'
        cases hq'
        refine ⟨ht1, fun hw => ht2 ?_⟩
        rw [h1] at hw
        exact (weights_slice Try.underlying22 hw).2 d (List.mem_of_getElem? hd)
    have hM : ∀ i, i < rms.length → ∃ p : ByteArray × JV, ∀ q, rms[i]? = some q → p.1 = q.name ∧ TreeOf W W.heap.size p.2 q.v ∧ ((∀ n ∈ y4.1.weights Try.prog 23, n ≤ 140737488351232) → p.1.size ≤ 140737488351232 ∧ p.2.Ok) := by
      intro i hi
      obtain ⟨q, hq⟩ : ∃ q, rms[i]? = some q := ⟨_, List.getElem?_eq_getElem hi⟩
      rcases hd4 with ⟨rfl, _⟩ | ⟨es, sp, h1, h2, h3⟩
      · simp at hi
      · obtain ⟨d, hd, t, ht1, ht2⟩ := h3 i q hq
        refine ⟨(q.name, t), fun q' hq' => ?_⟩
        rw [hq] at hq'
        cases hq'
        refine ⟨rfl, ht1, fun hw => ht2 ?_⟩
        rw [h1] at hw
        exact (weights_slice Try.underlying23 hw).2 d (List.mem_of_getElem? hd)
    obtain ⟨ts, hts, hts2⟩ := list_of rs.length hL
    obtain ⟨ps, hps, hps2⟩ := list_of rms.length hM
    refine ⟨⟨k, n', s, pl, nl, cl, pm, nm, cm⟩, .mk k n' s ts ps, rfl, ?_, fun hw => ?_⟩
    · exact TreeOf.mk (r := ⟨k, n', s, pl, nl, cl, pm, nm, cm⟩) hr3 hts (fun i t q h1 h2 => (hts2 i t h1 q h2).1) hr4 hps (fun i p q h1 h2 => (hps2 i p h1 q h2).1) (fun i p q h1 h2 => (hps2 i p h1 q h2).2.1)
    · have v2 := weights_string (weights_struct Try.underlying25 hw (i := 2) rfl rfl)
      have v3 : ∀ n ∈ y3.1.weights Try.prog 22, n ≤ 140737488351232 := weights_struct Try.underlying25 hw (i := 3) rfl rfl
      have v4 : ∀ n ∈ y4.1.weights Try.prog 23, n ≤ 140737488351232 := weights_struct Try.underlying25 hw (i := 4) rfl rfl
      refine .mk w0 w1 v2 ?_ ?_ (fun i x hx => ?_) (fun i p hp => ?_) (fun i p hp => ?_)
      · rcases hd3 with ⟨rfl, _⟩ | ⟨es, sp, h1, h2, _⟩
        · rw [hts]; simp
        · rw [h1] at v3
          have := (weights_slice Try.underlying22 v3).1
          rw [bytesV] at this
          omega
      · rcases hd4 with ⟨rfl, _⟩ | ⟨es, sp, h1, h2, _⟩
        · rw [hps]; simp
        · rw [h1] at v4
          have := (weights_slice Try.underlying23 v4).1
          rw [bytesM] at this
          omega
      · obtain ⟨q, hq⟩ : ∃ q, rs[i]? = some q := ⟨_, List.getElem?_eq_getElem (by have := (List.getElem?_eq_some_iff.1 hx).1; omega)⟩
        exact (hts2 i x hx q hq).2 v3
      · obtain ⟨q, hq⟩ : ∃ q, rms[i]? = some q := ⟨_, List.getElem?_eq_getElem (by have := (List.getElem?_eq_some_iff.1 hp).1; omega)⟩
        exact ((hps2 i p hp q hq).2.2 v4).1
      · obtain ⟨q, hq⟩ : ∃ q, rms[i]? = some q := ⟨_, List.getElem?_eq_getElem (by have := (List.getElem?_eq_some_iff.1 hp).1; omega)⟩
        exact ((hps2 i p hp q hq).2.2 v4).2

theorem open_value {v : Value} {d : DataW H} {p : List MemPlace} (hval : Value.okWide Try.prog W .any b0 25 v) (h : DataW.Trod enc Try.prog W base spare held 25 v d p) :
    ∃ r t, v = RV.val r ∧ TreeOf W W.heap.size t r ∧ ((∀ n ∈ d.weights Try.prog 25, n ≤ 140737488351232) → t.Ok) := by
  obtain ⟨cs, rfl, hsz⟩ := okWide_struct Try.underlying25 hval
  obtain ⟨fuel, hf⟩ := h
  obtain ⟨r, t, h1, h2, h3⟩ := open_val fuel _ _ hf
  refine ⟨r, t, ?_, h2, h3⟩
  have : cs = (encV r).toArray := by
    apply Array.ext'
    simpa [Value.cells] using h1
  rw [this]
  rfl
end
#print axioms open_value
end Go.Proofs.Ythgkgjcnmahacaa
end

section
/- A law that answers true and leaves memory alone, at what is of little bulk: from its contract to its row, once for all laws. -/
set_option linter.unusedSimpArgs false
set_option linter.unusedVariables false
namespace Go.Proofs.Ythgkgjcnmahacaa
open Go.ChangeShapes Go.WideShapes Go.ChangeAt Go.RowKit

section
variable {H : Type} {enc : TypeId × Value → H}
theorem law_upto {C : Checked} {os : Os} {f : FuncId} {fn : Func} {s : ChangeSpec} {conds : List PathCond} {tb : TypeId} (F : Stop.Interp)
    (own : ownKnob C.prog.godebug = none) (started : os.Started) (noInit : C.prog.inits.idxOf? f = none) (hfn : C.prog.funcs[f]? = some fn)
    (hv : s.vars = []) (hs : ∀ ds : List (DataW H), ds.length = fn.params.toList.length → s.fn H ds = { results := [.lit (.bool true)], args := ds })
    (hres : fn.resultTypes = #[tb]) (hbool : C.prog.underlying tb = some .bool) (hl : laidOutB C.prog = true) (hr : ∀ t ∈ fn.params.toList, C.prog.readableRec t = true ∧ t < C.prog.types.size)
    (witness : ∃ (w : World) (tape : Tape) (i : Input), w.os = os ∧ (w.forCall tape i).Shaped C.prog ∧ i.vars = [] ∧ Input.okWide C.prog (w.forCall tape i) .any w.heap.size f i ∧
      (Rows.OpenSpec.upto s).pre6 enc C.prog fn conds false (w.forCall tape i).memory i.args ∧ Assume.holds {} C.prog (lone (Frame.enter C.prog f i.args .normal) [] (w.forCall tape i)))
    (law : ∀ (W : World) (base : Nat) (args : Array Value) (ds : List (DataW H)) (p : List MemPlace),
      (∀ (j : Nat) t v, fn.params[j]? = some t → args[j]? = some v → Value.okWide C.prog W .any base t v) →
      DataW.TrodAll enc C.prog W 0 (fun _ => true) true fn.params.toList args.toList ds p →
      (DataW.weightsEach C.prog (fn.params.toList ++ s.plain.varTypes C.prog) ds).all (· ≤ reachBytes) = true → Rows.uptoBulkAll ds ≤ 1048576 →
      Calls C.prog f args W fun e W' => e = .returned (.bool true) ∧ Below W.heap.size W W') :
    ReturnsInHanded {} C os f .any ((Rows.OpenSpec.upto s).pre6 enc C.prog fn conds false) (((Rows.OpenSpec.upto s).at F).post enc C.prog fn false true false false) := by
  refine returnsInHanded_of_cond_sized (C := C) (s := Rows.OpenSpec.upto s) (k := Rows.uptoSmall) rfl own started noInit hfn witness ?_
  intro W base args ds gs before hval hW hcnd hk hsz _
  have hW0 : DataW.Whole enc C.prog fn.params.toList s.vars false W args.toList ds gs before := hW
  have hW' := hW0
  obtain ⟨p, q, hA, hV, rfl, hfz, hnd⟩ := hW0
  rw [hv] at hV
  obtain ⟨rfl, rfl⟩ := trodVars_none hV
  rw [List.append_nil] at hsz hk
  have hk2 : Rows.uptoBulkAll ds ≤ 1048576 := of_decide_eq_true hk
  refine (law W base args ds p hval hA hsz hk2).mono fun e W' ⟨he, hb⟩ => ?_
  exact ⟨_, he, law_post hv hs hres hbool hl hr hW' hb⟩
end
end Go.Proofs.Ythgkgjcnmahacaa
end

section
/- A value of JSON that came in reads as a tree, what it holds counted (printed by gen/bulk.py). -/
set_option linter.unusedSimpArgs false
set_option linter.unusedVariables false
set_option maxRecDepth 100000
namespace Go.Proofs.Ythgkgjcnmahacaa
open Go Go.RowKit Go.ChangeShapes Go.WideShapes Go.Deep

theorem bulk_pos {H : Type} (d : DataW H) : 1 ≤ Rows.uptoBulk d := by
  cases d with
  | lit l => cases l <;> simp [Rows.uptoBulk]
  | nil => simp [Rows.uptoBulk]
  | ptr d => simp [Rows.uptoBulk]
  | slice elems spare => simp [Rows.uptoBulk]
  | agg parts => simp [Rows.uptoBulk]
  | iface t d => simp [Rows.uptoBulk]
  | map entries => simp [Rows.uptoBulk]
  | held h => simp [Rows.uptoBulk]
theorem bulkL_ge {H : Type} : ∀ (l : List JV) (es : List (DataW H)), (∀ (i : Nat) (t : JV), l[i]? = some t → ∃ d, es[i]? = some d ∧ 1 + bkT t ≤ Rows.uptoBulk d) → bkL l ≤ Rows.uptoBulkAll es
  | [], es, _ => by rw [bkL]; omega
  | t :: l, [], h => by obtain ⟨d, hd, _⟩ := h 0 t rfl; simp at hd
  | t :: l, e :: es, h => by
    obtain ⟨d, hd, hb⟩ := h 0 t rfl
    simp at hd
    subst hd
    have := bulkL_ge l es (fun i x hx => by have := h (i + 1) x (by simpa using hx); simpa using this)
    rw [bkL]
    simp only [Rows.uptoBulkAll]
    omega
theorem bulkM_ge {H : Type} : ∀ (l : List (ByteArray × JV)) (es : List (DataW H)), (∀ (i : Nat) (t : ByteArray × JV), l[i]? = some t → ∃ d, es[i]? = some d ∧ 2 + t.1.size + bkT t.2 ≤ Rows.uptoBulk d) → bkM l ≤ Rows.uptoBulkAll es
  | [], es, _ => by rw [bkM]; omega
  | t :: l, [], h => by obtain ⟨d, hd, _⟩ := h 0 t rfl; simp at hd
  | (s, t) :: l, e :: es, h => by
    obtain ⟨d, hd, hb⟩ := h 0 (s, t) rfl
    simp at hd
    subst hd
    have := bulkM_ge l es (fun i x hx => by have := h (i + 1) x (by simpa using hx); simpa using this)
    rw [bkM]
    simp only [Rows.uptoBulkAll]
    dsimp only at hb
    omega
section
variable {H : Type} {enc : TypeId × Value → H} {W : World} {base b0 : Nat} {spare : Nat → Bool} {held : Bool}
theorem open_valB : ∀ (fuel : Nat) (cs : List Value) (x : DataW H × List MemPlace), DataW.trod enc Try.prog W base spare held fuel 25 cs = some x →
    ∃ r t, cs = encV r ∧ TreeOf W W.heap.size t r ∧ ((∀ n ∈ x.1.weights Try.prog 25, n ≤ 140737488351232) → t.Ok) ∧ bkT t + 5 ≤ Rows.uptoBulk x.1 := by
  intro fuel
  induction fuel using Nat.strongRecOn with
  | ind fuel ih =>
    intro cs x h
    obtain ⟨y0, y1, y2, y3, y4, n, rfl, hx1, hlen, t0, t1, t2, t3, t4⟩ := trodF5 Try.underlying25 h
    rw [cellsV] at hlen
    obtain ⟨c0, c1, c2, c3, c4, rfl⟩ : ∃ c0 c1 c2 c3 c4, cs = [c0, c1, c2, c3, c4] := by
      match cs, hlen with
      | [a, b, c, d, e], _ => exact ⟨a, b, c, d, e, rfl⟩
    rw [hx1]
    dsimp only at t0 t1 t2 t3 t4
    rw [cel2] at t0
    rw [cel1] at t1
    rw [cel3] at t2
    rw [cel4] at t3
    rw [cel5] at t4
    simp only [List.drop_zero, List.drop_succ_cons, List.take_succ_cons, List.take_zero] at t0 t1 t2 t3 t4
    obtain ⟨k, e0, f0, w0⟩ := DataW.trod_int Try.underlying3 t0
    obtain ⟨n', e1, f1, w1⟩ := DataW.trod_int Try.underlying2 t1
    obtain ⟨s, e2, f2, w2⟩ := DataW.trod_string Try.underlying9 t2
    simp only [List.cons.injEq, and_true] at e0 e1 e2
    subst e0 e1 e2
    obtain ⟨pl, nl, cl, rs, e3, hr3, hd3⟩ := open_list (Q := fun (r : RV) (d : DataW H) => ∃ t, TreeOf W W.heap.size t r ∧ ((∀ n ∈ d.weights Try.prog 25, n ≤ 140737488351232) → t.Ok) ∧ bkT t + 5 ≤ Rows.uptoBulk d) Try.underlying22 cellsV codecV t3
      (fun m hm cs y hy => by
        obtain ⟨r, t, h1, h2⟩ := ih m (by omega) cs y hy
        exact ⟨r, h1, t, h2⟩)
    obtain ⟨pm, nm, cm, rms, e4, hr4, hd4⟩ := open_list (Q := fun (r : RM) (d : DataW H) => ∃ t, TreeOf W W.heap.size t r.v ∧ ((∀ n ∈ d.weights Try.prog 90, n ≤ 140737488351232) → r.name.size ≤ 140737488351232 ∧ t.Ok) ∧ 2 + r.name.size + bkT t ≤ Rows.uptoBulk d) Try.underlying23 cellsM codecM t4
      (fun m hm cs y hy => by
        obtain ⟨z0, z1, j, rfl, hy1, hlen, u0, u1⟩ := trodF2 Try.underlying90 hy
        rw [cellsM] at hlen
        obtain ⟨a0, a1, a2, a3, a4, a5, rfl⟩ : ∃ a0 a1 a2 a3 a4 a5, cs = [a0, a1, a2, a3, a4, a5] := by
          match cs, hlen with
          | [a, b, c, d, e, f], _ => exact ⟨a, b, c, d, e, f, rfl⟩
        rw [hy1]
        dsimp only at u0 u1
        rw [cel3] at u0
        rw [cellsV] at u1
        simp only [List.drop_zero, List.drop_succ_cons, List.take_succ_cons, List.take_zero] at u0 u1
        obtain ⟨nm, g0, g1, g2⟩ := DataW.trod_string Try.underlying9 u0
        simp only [List.cons.injEq, and_true] at g0
        subst g0
        obtain ⟨r, t, h1, h2, h3, h4⟩ := ih j (by omega) _ _ u1
        refine ⟨⟨nm, r⟩, by rw [h1]; rfl, t, h2, fun hw => ⟨weights_string (by have := weights_struct Try.underlying90 hw (i := 0) rfl rfl; rw [g1] at this; exact this), h3 (weights_struct Try.underlying90 hw (i := 1) rfl rfl)⟩, by rw [g1]; simp only [Rows.uptoBulk, Rows.uptoBulkAll, str_len]; omega⟩)
    simp only [List.cons.injEq, and_true] at e3 e4
    subst e3 e4
    have nl_eq : nl = rs.length := by
      obtain ⟨_, _, e, _⟩ := hr3
      simp only [Value.slice.injEq] at e; exact e.2.1
    have nm_eq : nm = rms.length := by
      obtain ⟨_, _, e, _⟩ := hr4
      simp only [Value.slice.injEq] at e; exact e.2.1
    have hL : ∀ i, i < rs.length → ∃ t : JV, ∀ q, rs[i]? = some q → TreeOf W W.heap.size t q ∧ ((∀ n ∈ y3.1.weights Try.prog 22, n ≤ 140737488351232) → t.Ok) ∧ ∀ es sp, y3.1 = .slice es sp → ∃ d, es[i]? = some d ∧ bkT t + 5 ≤ Rows.uptoBulk d := by
      intro i hi
      obtain ⟨q, hq⟩ : ∃ q, rs[i]? = some q := ⟨_, List.getElem?_eq_getElem hi⟩
      rcases hd3 with ⟨rfl, _⟩ | ⟨es, sp, h1, h2, h3⟩
      · simp at hi
      · obtain ⟨d, hd, t, ht1, ht2, ht3⟩ := h3 i q hq
        refine ⟨t, fun q' hq' => ?_⟩
        rw [hq] at hq'
        cases hq'
        refine ⟨ht1, fun hw => ht2 ?_, fun es' sp' he => ?_⟩
        · rw [h1] at hw
          exact (weights_slice Try.underlying22 hw).2 d (List.mem_of_getElem? hd)
        · rw [h1] at he
          cases he
          exact ⟨d, hd, ht3⟩
    have hM : ∀ i, i < rms.length → ∃ p : ByteArray × JV, ∀ q, rms[i]? = some q → p.1 = q.name ∧ TreeOf W W.heap.size p.2 q.v ∧ ((∀ n ∈ y4.1.weights Try.prog 23, n ≤ 140737488351232) → p.1.size ≤ 140737488351232 ∧ p.2.Ok) ∧ ∀ es sp, y4.1 = .slice es sp → ∃ d, es[i]? = some d ∧ 2 + p.1.size + bkT p.2 ≤ Rows.uptoBulk d := by
      intro i hi
      obtain ⟨q, hq⟩ : ∃ q, rms[i]? = some q := ⟨_, List.getElem?_eq_getElem hi⟩
      rcases hd4 with ⟨rfl, _⟩ | ⟨es, sp, h1, h2, h3⟩
      · simp at hi
      · obtain ⟨d, hd, t, ht1, ht2, ht3⟩ := h3 i q hq
        refine ⟨(q.name, t), fun q' hq' => ?_⟩
        rw [hq] at hq'
        cases hq'
        refine ⟨rfl, ht1, fun hw => ht2 ?_, fun es' sp' he => ?_⟩
        · rw [h1] at hw
          exact (weights_slice Try.underlying23 hw).2 d (List.mem_of_getElem? hd)
        · rw [h1] at he
          cases he
          exact ⟨d, hd, ht3⟩
    obtain ⟨ts, hts, hts2⟩ := list_of rs.length hL
    obtain ⟨ps, hps, hps2⟩ := list_of rms.length hM
    refine ⟨⟨k, n', s, pl, nl, cl, pm, nm, cm⟩, .mk k n' s ts ps, rfl, ?_, fun hw => ?_, ?_⟩
    · exact TreeOf.mk (r := ⟨k, n', s, pl, nl, cl, pm, nm, cm⟩) hr3 hts (fun i t q h1 h2 => (hts2 i t h1 q h2).1) hr4 hps (fun i p q h1 h2 => (hps2 i p h1 q h2).1) (fun i p q h1 h2 => (hps2 i p h1 q h2).2.1)
    · have v2 : s.size ≤ 140737488351232 := weights_string (t := 9) (by have := weights_struct Try.underlying25 hw (i := 2) rfl rfl; rw [f2] at this; exact this)
      have v3 : ∀ n ∈ y3.1.weights Try.prog 22, n ≤ 140737488351232 := weights_struct Try.underlying25 hw (i := 3) rfl rfl
      have v4 : ∀ n ∈ y4.1.weights Try.prog 23, n ≤ 140737488351232 := weights_struct Try.underlying25 hw (i := 4) rfl rfl
      refine .mk w0 w1 v2 ?_ ?_ (fun i x hx => ?_) (fun i p hp => ?_) (fun i p hp => ?_)
      · rcases hd3 with ⟨rfl, _⟩ | ⟨es, sp, h1, h2, _⟩
        · rw [hts]; simp
        · rw [h1] at v3
          have := (weights_slice Try.underlying22 v3).1
          rw [bytesV] at this
          omega
      · rcases hd4 with ⟨rfl, _⟩ | ⟨es, sp, h1, h2, _⟩
        · rw [hps]; simp
        · rw [h1] at v4
          have := (weights_slice Try.underlying23 v4).1
          rw [bytesM] at this
          omega
      · obtain ⟨q, hq⟩ : ∃ q, rs[i]? = some q := ⟨_, List.getElem?_eq_getElem (by have := (List.getElem?_eq_some_iff.1 hx).1; omega)⟩
        exact (hts2 i x hx q hq).2.1 v3
      · obtain ⟨q, hq⟩ : ∃ q, rms[i]? = some q := ⟨_, List.getElem?_eq_getElem (by have := (List.getElem?_eq_some_iff.1 hp).1; omega)⟩
        exact ((hps2 i p hp q hq).2.2.1 v4).1
      · obtain ⟨q, hq⟩ : ∃ q, rms[i]? = some q := ⟨_, List.getElem?_eq_getElem (by have := (List.getElem?_eq_some_iff.1 hp).1; omega)⟩
        exact ((hps2 i p hp q hq).2.2.1 v4).2
    · have b3 : bkL ts + 1 ≤ Rows.uptoBulk y3.1 := by
        rcases hd3 with ⟨rfl, _⟩ | ⟨es, sp, h1, h2, _⟩
        · have e : ts = [] := List.eq_nil_of_length_eq_zero (by simpa using hts)
          rw [e, bkL]
          exact bulk_pos _
        · rw [h1]
          simp only [Rows.uptoBulk]
          have := bulkL_ge ts es (fun i x hx => by
            obtain ⟨q, hq⟩ : ∃ q, rs[i]? = some q := ⟨_, List.getElem?_eq_getElem (by have := (List.getElem?_eq_some_iff.1 hx).1; omega)⟩
            obtain ⟨d, hd, hb⟩ := (hts2 i x hx q hq).2.2 es sp h1
            exact ⟨d, hd, by omega⟩)
          omega
      have b4 : bkM ps + 1 ≤ Rows.uptoBulk y4.1 := by
        rcases hd4 with ⟨rfl, _⟩ | ⟨es, sp, h1, h2, _⟩
        · have e : ps = [] := List.eq_nil_of_length_eq_zero (by simpa using hps)
          rw [e, bkM]
          exact bulk_pos _
        · rw [h1]
          simp only [Rows.uptoBulk]
          have := bulkM_ge ps es (fun i x hx => by
            obtain ⟨q, hq⟩ : ∃ q, rms[i]? = some q := ⟨_, List.getElem?_eq_getElem (by have := (List.getElem?_eq_some_iff.1 hx).1; omega)⟩
            obtain ⟨d, hd, hb⟩ := (hps2 i x hx q hq).2.2.2 es sp h1
            exact ⟨d, hd, by omega⟩)
          omega
      have b0 := bulk_pos y0.1
      have b1 := bulk_pos y1.1
      have b2 : Rows.uptoBulk y2.1 = s.size + 1 := by rw [f2]; simp only [Rows.uptoBulk, str_len]
      rw [bkT]
      simp only [Rows.uptoBulk, Rows.uptoBulkAll]
      omega

theorem open_valueB {v : Value} {d : DataW H} {p : List MemPlace} (hval : Value.okWide Try.prog W .any b0 25 v) (h : DataW.Trod enc Try.prog W base spare held 25 v d p) :
    ∃ r t, v = RV.val r ∧ TreeOf W W.heap.size t r ∧ ((∀ n ∈ d.weights Try.prog 25, n ≤ 140737488351232) → t.Ok) ∧ bkT t + 5 ≤ Rows.uptoBulk d := by
  obtain ⟨cs, rfl, hsz⟩ := okWide_struct Try.underlying25 hval
  obtain ⟨fuel, hf⟩ := h
  obtain ⟨r, t, h1, h2, h3, h4⟩ := open_valB fuel _ _ hf
  refine ⟨r, t, ?_, h2, h3, h4⟩
  have : cs = (encV r).toArray := by
    apply Array.ext'
    simpa [Value.cells] using h1
  rw [this]
  rfl
end
end Go.Proofs.Ythgkgjcnmahacaa
end
