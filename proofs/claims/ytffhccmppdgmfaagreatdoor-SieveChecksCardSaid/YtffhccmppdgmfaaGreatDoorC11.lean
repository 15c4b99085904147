import Derived.Test.YtffhccmppdgmfaaGreatDoorC10
import Derived.Test.YtffhccmppdgmfaaGreatDoorC00
import Derived.ProofKit
import Derived.Below
import Derived.Test.YtffhccmppdgmfaaGreatDoorC03
import Derived.Test.YtffhccmppdgmfaaGreatDoorC07
import Derived.Test.YtffhccmppdgmfaaGreatDoorC01
set_option linter.unusedSimpArgs false
set_option linter.unusedVariables false
set_option maxRecDepth 200000
set_option maxHeartbeats 8000000
namespace Go.Proofs.YtffhccmppdgmfaaGreatDoor
section
open Go.ChangeShapes Go.WideShapes Go.Deep Go.RowKit Go.Lib
theorem cells2 : Tryz.prog.cellsOf 2 = 1 := by kernel_rfl
theorem cells3 : Tryz.prog.cellsOf 3 = 1 := by kernel_rfl
theorem cells9 : Tryz.prog.cellsOf 9 = 1 := by kernel_rfl
section
variable {H : Type} {enc : TypeId × Value -> H} {W : World} {base b0 : Nat} {spare : Nat -> Bool} {held : Bool}
end
end
section
open Go Go.RowKit Go.ChangeShapes Go.WideShapes Go.Deep
structure BoxD where
 objs : List (ByteArray × JV)
 trail : List En
 seq : Int
 floor : Int
 keep : Int
structure RB where
 po : Option Addr
 no : Nat
 co : Nat
 pt : Option Addr
 nt : Nat
 ct : Nat
 sq : Int
 fl : Int
 kp : Int
abbrev RB.val (r : RB) : Value := .agg #[.slice r.po r.no r.co, .slice r.pt r.nt r.ct, .int .i64 r.sq, .int .i64 r.fl, .int .i64 r.kp]
def encB (r : RB) : List Value := [.slice r.po r.no r.co, .slice r.pt r.nt r.ct, .int .i64 r.sq, .int .i64 r.fl, .int .i64 r.kp]
def RB.zero : RB := ⟨none, 0, 0, none, 0, 0, 0, 0, 0⟩
def BoxD.zero : BoxD := ⟨[], [], 0, 0, 0⟩
def ObjsOf (w : World) (B : Nat) (os : List (ByteArray × JV)) (v : Value) : Prop := ∃ ros, Rd w B encM 6 v ros /\ MemsOf w B os ros
theorem ObjsOf.under {w w' : World} {B B' : Nat} {os : List (ByteArray × JV)} {v : Value} (h : ObjsOf w B os v) (hb : Below B w w') (hB : B <= B') : ObjsOf w' B' os v := by
 obtain ⟨ros, h1, h2⟩ := h
 exact ⟨ros, h1.below hb hB, h2.under hb hB⟩
theorem ObjsOf.nlen {w : World} {B n c : Nat} {os : List (ByteArray × JV)} {p : Option Addr} (h : ObjsOf w B os (.slice p n c)) : os.length = n := by
 obtain ⟨ros, h1, h2⟩ := h
 have := rd_nlen h1
 have := h2.len
 omega
theorem ObjsOf.nil (w : World) (B : Nat) : ObjsOf w B [] (.slice none 0 0) := ⟨[], Rd.nil _ _, MemsOf.nil _ _⟩
theorem RdE.under {w w' : World} {B B' : Nat} {v : Value} {l : List En} (h : RdE w B v l) (hb : Below B w w') (hB : B <= B') : RdE w' B' v l :=
 rdE_iff.2 ⟨(rdE_iff.1 h).1, (rdE_iff.1 h).2.below hb hB⟩
theorem RdE.nlen {w : World} {B n c : Nat} {l : List En} {p : Option Addr} (h : RdE w B (.slice p n c) l) : l.length = n := (rd_nlen (rdE_iff.1 h).2).symm
theorem RdE.nil (w : World) (B : Nat) : RdE w B (.slice none 0 0) [] := rdE_iff.2 ⟨fun e h => by simp at h, Rd.nil _ _⟩
structure BoxOf (w : World) (B : Nat) (b : BoxD) (r : RB) : Prop where
 objs : ObjsOf w B b.objs (.slice r.po r.no r.co)
 trail : RdE w B (.slice r.pt r.nt r.ct) b.trail
 seq : b.seq = r.sq
 floor : b.floor = r.fl
 keep : b.keep = r.kp
theorem BoxOf.under {w w' : World} {B B' : Nat} {b : BoxD} {r : RB} (h : BoxOf w B b r) (hb : Below B w w') (hB : B <= B') : BoxOf w' B' b r :=
 ⟨h.objs.under hb hB, h.trail.under hb hB, h.seq, h.floor, h.keep⟩
theorem BoxOf.zero (w : World) (B : Nat) : BoxOf w B BoxD.zero RB.zero := ⟨ObjsOf.nil _ _, RdE.nil _ _, rfl, rfl, rfl⟩
structure BoxD.Ok (b : BoxD) : Prop where
 objs : b.objs.length <= 1466015503658
 each : ∀ p ∈ b.objs, p.1.size <= 140737488351232 /\ p.2.Ok
 trail : b.trail.length <= 4398046510976
 seq : (Lit.int .i64 b.seq).wf = true
 floor : (Lit.int .i64 b.floor).wf = true
 keep : (Lit.int .i64 b.keep).wf = true
theorem BoxD.zero_ok : BoxD.zero.Ok := ⟨by decide, fun p h => by simp [BoxD.zero] at h, by decide, by decide, by decide, by decide⟩
theorem slO : SlT Tryz.prog 30 27 6 96 := SlT.mk (z := .agg #[.string ByteArray.empty, .int .i64 0, .int .i64 0, .string ByteArray.empty, .slice none 0 0, .slice none 0 0]) Tryz.underlying30 (by kernel_rfl) rfl
theorem cellsO : Tryz.prog.cellsOf 27 = 6 := by kernel_rfl
theorem bytesO : Tryz.prog.bytesOf 27 = 96 := by kernel_rfl
theorem celO : Tryz.prog.cellsOf 30 = 1 := by kernel_rfl
section
variable {H : Type} {enc : TypeId × Value -> H} {W : World} {base b0 : Nat} {spare : Nat -> Bool} {held : Bool}
theorem open_objs {fuel : Nat} {cs : List Value} {x : DataW H × List MemPlace} (h : DataW.trod enc Tryz.prog W base spare held fuel 30 cs = some x) :
 ∃ p n c os, cs = [.slice p n c] /\ ObjsOf W W.heap.size os (.slice p n c) /\ ((∀ n ∈ x.1.weights Tryz.prog 30, n <= 140737488351232) -> os.length <= 1466015503658 /\ ∀ p ∈ os, p.1.size <= 140737488351232 /\ p.2.Ok) := by
 obtain ⟨pm, nm, cm, rms, e4, hr4, hd4⟩ := open_list (Q := fun (r : RM) (d : DataW H) => ∃ t, TreeOf W W.heap.size t r.v /\ ((∀ n ∈ d.weights Tryz.prog 27, n <= 140737488351232) -> r.name.size <= 140737488351232 /\ t.Ok)) Tryz.underlying30 cellsO codecM h
  (fun m hm cs y hy => by
   obtain ⟨z0, z1, j, rfl, hy1, hlen, u0, u1⟩ := trodF2 Tryz.underlying27 hy
   rw [cellsO] at hlen
   obtain ⟨a0, a1, a2, a3, a4, a5, rfl⟩ : ∃ a0 a1 a2 a3 a4 a5, cs = [a0, a1, a2, a3, a4, a5] := by
    match cs, hlen with
    | [a, b, c, d, e, f], _ => exact ⟨a, b, c, d, e, f, rfl⟩
   rw [hy1]
   dsimp only at u0 u1
   rw [cel3] at u0
   rw [cellsV] at u1
   simp only [List.drop_zero, List.drop_succ_cons, List.take_succ_cons, List.take_zero] at u0 u1
   obtain ⟨nm, g0, g1, g2⟩ := DataW.trod_string Tryz.underlying9 u0
   simp only [List.cons.injEq, and_true] at g0
   subst g0 g1
   obtain ⟨r, t, h1, h2, h3⟩ := open_val j _ _ u1
   refine ⟨⟨nm, r⟩, by rw [h1]; rfl, t, h2, fun hw => ⟨weights_string (weights_struct Tryz.underlying27 hw (i := 0) rfl rfl), h3 (weights_struct Tryz.underlying27 hw (i := 1) rfl rfl)⟩⟩)
 have hM : ∀ i, i < rms.length -> ∃ p : ByteArray × JV, ∀ q, rms[i]? = some q -> p.1 = q.name /\ TreeOf W W.heap.size p.2 q.v /\ ((∀ n ∈ x.1.weights Tryz.prog 30, n <= 140737488351232) -> p.1.size <= 140737488351232 /\ p.2.Ok) := by
  intro i hi
  obtain ⟨q, hq⟩ : ∃ q, rms[i]? = some q := ⟨_, List.getElem?_eq_getElem hi⟩
  rcases hd4 with ⟨rfl, _⟩ | ⟨es, sp, h1, h2, h3⟩
  ·simp at hi
  ·obtain ⟨d, hd, t, ht1, ht2⟩ := h3 i q hq
   refine ⟨(q.name, t), fun q' hq' => ?_⟩
   rw [hq] at hq'
   cases hq'
   refine ⟨rfl, ht1, fun hw => ht2 ?_⟩
   rw [h1] at hw
   exact (weights_slice Tryz.underlying30 hw).2 d (List.mem_of_getElem? hd)
 obtain ⟨ps, hps, hps2⟩ := list_of rms.length hM
 refine ⟨pm, nm, cm, ps, e4, ⟨rms, hr4, hps, fun i p q h1 h2 => (hps2 i p h1 q h2).1, fun i p q h1 h2 => (hps2 i p h1 q h2).2.1⟩, fun hw => ⟨?_, fun p hp => ?_⟩⟩
 ·rcases hd4 with ⟨rfl, _⟩ | ⟨es, sp, h1, h2, _⟩
  ·rw [hps]; simp
  ·rw [h1] at hw
   have := (weights_slice Tryz.underlying30 hw).1
   rw [bytesO] at this
   omega
 ·obtain ⟨i, hi⟩ := List.getElem?_of_mem hp
  obtain ⟨q, hq⟩ : ∃ q, rms[i]? = some q := ⟨_, List.getElem?_eq_getElem (by have := (List.getElem?_eq_some_iff.1 hi).1; omega)⟩
  exact (hps2 i p hi q hq).2.2 hw
end
end
section
open Go Go.RowKit
theorem setCells_tail (g m : Nat) (e : TypeId) : ∀ (vs : List Value) (o : Nat) (w : World) (cur : Array Value), m <= o -> w.heap[g]? = some (.cells cur e (0, 0)) ->
 ∃ cur', (w.setCells g o vs).heap[g]? = some (.cells cur' e (0, 0)) /\ cur'.size = cur.size /\ cur'.toList.take m = cur.toList.take m /\ w.grownBy (w.setCells g o vs) (some g)
 | [], o, w, cur, ho, h => ⟨cur, h, rfl, rfl, World.grownBy.refl w _⟩
 | v :: r, o, w, cur, ho, h => by
   obtain ⟨cur', h1, h2, h3, h4⟩ := setCells_tail g m e r (o + 1) (w.setCell ⟨g, o, none⟩ v) (cur.setIfInBounds o v) (by omega) (heap_setCell_same w g o cur e v h)
   refine ⟨cur', h1, by simpa using h2, ?_, ?_⟩
   ·rw [h3, Array.toList_setIfInBounds, List.take_set_of_le ho]
   ·have hg1 : w.grownBy (w.setCell ⟨g, o, none⟩ v) (some g) := ⟨rfl, rfl, rfl, by simp, fun k _ hk => heap_setCell_other w ⟨g, o, none⟩ k v (fun e => hk (by simp [e]))⟩
    exact hg1.trans h4
theorem zeroCells_mem (z : Array Value) (n : Nat) (h : ∀ u ∈ z.toList, u.oneCell' = true) : ∀ u ∈ (Builtin.zeroCells z n).toList, u.oneCell' = true := by
 intro u hu
 simp only [Builtin.zeroCells, Array.toList_map, Array.toList_range, List.mem_map, List.mem_range] at hu
 obtain ⟨i, hi, rfl⟩ := hu
 have hz : 0 < z.size := by
  rcases Nat.eq_zero_or_pos z.size with h0 | h0
  ·rw [h0, Nat.mul_zero] at hi; omega
  ·exact h0
 have hlt : i % z.size < z.size := Nat.mod_lt _ hz
 rw [getElem!_pos z (i % z.size) hlt]
 exact h _ (by simp)
section
variable {P : Program} {α : Type} {enc : α -> List Value} {sz bytes : Nat} {t e : TypeId}
theorem Own.take {w : World} {base : Nat} {p : Option Addr} {n cap : Nat} {xs : List α} (C : Codec enc sz) (h : Own w base e enc sz (.slice p n cap) xs) (m : Nat) (hm : m <= n) : Own w base e enc sz (.slice p m cap) (xs.take m) := by
 obtain ⟨hl, h⟩ := h
 rcases h with ⟨hv, hn⟩ | ⟨g, cap', cur, hv, hg, hh, hnc, hcm, hcs, ht⟩
 ·simp only [Value.slice.injEq] at hv
  obtain ⟨rfl, rfl, rfl⟩ := hv
  obtain rfl : m = 0 := by omega
  rw [List.take_zero]
  exact Own.nil w base e
 ·simp only [Value.slice.injEq] at hv
  obtain ⟨rfl, rfl, rfl⟩ := hv
  have hlen : (xs.take m).length = m := by rw [List.length_take]; omega
  refine ⟨cellsOf_len C _, .inr ⟨g, cap, cur, by rw [hlen], hg, hh, by omega, hcm, hcs, ?_⟩⟩
  rw [hlen]
  have h1 : cellsOf enc xs = cellsOf enc (xs.take m) ++ cellsOf enc (xs.drop m) := by rw [<- cellsOf_append, List.take_append_drop]
  have h2 : cur.toList.take (m * sz) = (cur.toList.take (xs.length * sz)).take (m * sz) := by
   rw [List.take_take, Nat.min_eq_left (Nat.mul_le_mul_right _ hm)]
  rw [h2, ht, h1]
  have h3 : (cellsOf enc (xs.take m)).length = m * sz := by rw [cellsOf_len C, hlen]
  rw [<- h3, List.take_left]
theorem run_clear_own (S : SlT P t e sz bytes) (hone : ∀ i z, P.info? e = some i -> i.zero = some z -> ∀ u ∈ z.cells.toList, u.oneCell' = true) (C : Codec enc sz) (w : World) (ty : TypeId) {base : Nat} {p : Option Addr} {n cap m : Nat} {xs : List α}
 (h : Own w base e enc sz (.slice p n cap) xs) (hm : m <= n) {v : Value} (hv : v = sliced p m n cap sz) :
 ∃ w', (Builtin.clear_ #[t] ty #[v]).run P w = .ok (.tuple #[]) w' /\ Own w' base e enc sz (.slice p m cap) (xs.take m) /\ w.grownBy w' (Value.slice p n cap).ownBlock := by
 have hT := h.take C m hm
 obtain ⟨ht, i, z, hi, hz, hs1, hs2, hzs⟩ := S
 by_cases hmn : m = n
 ·subst hmn
  refine ⟨w, ?_, hT, World.grownBy.refl w _⟩
  rw [hv]
  unfold sliced
  rw [Nat.sub_self]
  cases (if cap = m then p else p.map (·.add (m * sz))) <;> simp [Builtin.clear_, run_underlying ht]
 ·obtain ⟨hl, h'⟩ := h
  rcases h' with ⟨hv', hn⟩ | ⟨g, cap', cur, hv', hg, hh, hnc, hcm, hcs, htk⟩
  ·simp only [Value.slice.injEq] at hv'
   omega
  ·simp only [Value.slice.injEq] at hv'
   obtain ⟨rfl, hnx, rfl⟩ := hv'
   have hsl : v = .slice (some ⟨g, m * sz, none⟩) (n - m) (cap - m) := by
    rw [hv]; unfold sliced
    rw [if_neg (by omega)]
    simp [add_eq]
   have hszn : (Builtin.zeroCells z.cells (n - m)).size = (n - m) * sz := by rw [size_zeroCells, hzs]
   have hcell : ∀ j, j < (n - m) * sz -> (w.cell? ⟨g, m * sz + j, none⟩).isSome = true := by
    intro j hj
    rw [cell_of_row w g _ cur e (0, 0) hh]
    have h1 : (n - m) * sz + m * sz <= cap * sz := by rw [<- Nat.add_mul]; exact Nat.mul_le_mul_right _ (by omega)
    rw [Array.getElem?_eq_getElem (by omega)]
    rfl
   have hst := run_storeCells_cells (P := P) g (m * sz) (Builtin.zeroCells z.cells (n - m)).toList 0 w (by intro j hj; rw [Array.length_toList, hszn] at hj; simpa using hcell j hj) (fun j hj => frozen_of_row w g _ cur e hh) (zeroCells_mem z.cells _ (hone i z hi hz))
   rw [Nat.add_zero] at hst
   obtain ⟨cur', h1, h2, h3, h4⟩ := setCells_tail g (m * sz) e (Builtin.zeroCells z.cells (n - m)).toList (m * sz) w cur (Nat.le_refl _) hh
   refine ⟨_, ?_, ?_, h4⟩
   ·rw [hsl]
    obtain ⟨k, hk⟩ : ∃ k, n - m = k + 1 := ⟨n - m - 1, by omega⟩
    rw [hk] at hst ⊢
    simp [Builtin.clear_, run_underlying ht, zeroValue, typeInfo, hi, hz, hst]
   ·have hlen : (xs.take m).length = m := by rw [List.length_take]; omega
    obtain ⟨hl2, h2'⟩ := hT
    rcases h2' with ⟨hv2, _⟩ | ⟨g2, cap2, cur2, hv2, _, hh2, _, _, _, ht2⟩
    ·simp at hv2
    ·simp only [Value.slice.injEq, Option.some.injEq, Addr.mk.injEq, and_true, true_and] at hv2
     obtain ⟨rfl, _, rfl⟩ := hv2
     rw [hh] at hh2
     cases hh2
     refine ⟨hl2, .inr ⟨g, cap, cur', by rw [hlen], hg, h1, by omega, hcm, by omega, ?_⟩⟩
     rw [hlen] at ht2 ⊢
     rw [h3]
     exact ht2
theorem wpList_clear_own {ops : Array Oper} {rest : List Oper} {o : Oper} {a : Act} {Q : Exit -> Act -> World -> Prop} (S : SlT P t e sz bytes) (hone : ∀ i z, P.info? e = some i -> i.zero = some z -> ∀ u ∈ z.cells.toList, u.oneCell' = true) (C : Codec enc sz) (w : World) (hgd : o.guard = none) (s : Operand)
 (ho : o.op = .call { callee := .builtin .clear, args := #[s], argTypes := #[t] }) {base : Nat} {p : Option Addr} {n cap m : Nat} {xs : List α} {v : Value} (hs : a.eval s = v) (hv : v = sliced p m n cap sz) (hown : Own w base e enc sz (.slice p n cap) xs) (hm : m <= n)
 (h : ∀ w', Own w' base e enc sz (.slice p m cap) (xs.take m) -> w.grownBy w' (Value.slice p n cap).ownBlock -> wpList P ops Q rest (a.put o.dst (.tuple #[])) w') : wpList P ops Q (o :: rest) a w :=
 wpList_plain hgd fun K hK => by
  obtain ⟨w', hrun, h2, h3⟩ := run_clear_own S hone C w o.type hown hm hv
  unfold Oper.wp execOp
  simp only [ho, resolve, invoke, builtin, Sem.run_bind, Sem.run_pure, Result.andThen_ok, List.map_toArray, List.map_cons, List.map_nil, hs, hrun]
  exact hK _ _ (h w' h2 h3)
theorem run_slice_low (S : SlT P t e sz bytes) (p : Option Addr) (n cap m : Nat) (hm : m <= n) (W : World) : (Instr.sliceAt t (.slice p n cap) (some (.int .i64 m)) none none).run P W = .ok (sliced p m n cap sz) W := by
 obtain ⟨ht, i, z, hi, hz, hs1, hs2, hzs⟩ := S
 have he : P.elem t = e := by simp [Program.elem, ht]
 have ht' : P.underlying t = some (.slice (P.elem t)) := by rw [he]; exact ht
 rw [run_sliceAt_slice _ _ _ _ _ _ ht', run_slice_l W t p n cap ht' .i64 m (by omega) (by omega), he]
 simp [sizeOf, typeInfo, hi, hs1, Result.andThen]
theorem run_slice_high (S : SlT P t e sz bytes) (p : Option Addr) (n cap m : Nat) (hm : m <= cap) (W : World) : (Instr.sliceAt t (.slice p n cap) none (some (.int .i64 m)) none).run P W = .ok (.slice p m cap) W := by
 obtain ⟨ht, i, z, hi, hz, hs1, hs2, hzs⟩ := S
 have he : P.elem t = e := by simp [Program.elem, ht]
 have ht' : P.underlying t = some (.slice (P.elem t)) := by rw [he]; exact ht
 rw [run_sliceAt_slice _ _ _ _ _ _ ht', run_slice_h W t p n cap ht' .i64 m (by omega) (by omega), he]
 have hp : p.map (fun a => a.add 0) = p := by cases p <;> simp [Addr.add]
 have hsl : sliced p 0 m cap sz = .slice p m cap := by unfold sliced; simp [hp]
 simp [sizeOf, typeInfo, hi, hs1, Result.andThen, hsl]
end
end
section
open Go.RowKit Go.OpenShut
def nameB (name : ByteArray) (x : RM) : Bool := decide (x.name = name)
theorem Own.storedM {w : World} {base : Nat} {g n cap : Nat} {xs : List RM} (h : Own w base 32 encM 6 (.slice (some ⟨g, 0, none⟩) n cap) xs) {k : Nat} {x : RM} (hx : xs[k]? = some x) (nm : ByteArray) (q : RV) :
 Own ((((((w.setCell ⟨g, k * 6, none⟩ (.string nm)).setCell ⟨g, k * 6 + 1, none⟩ (.int .i64 q.k)).setCell ⟨g, k * 6 + 2, none⟩ (.int .i64 q.n)).setCell ⟨g, k * 6 + 3, none⟩ (.string q.s)).setCell ⟨g, k * 6 + 4, none⟩ (.slice q.pl q.nl q.cl)).setCell ⟨g, k * 6 + 5, none⟩ (.slice q.pm q.nm q.cm)) base 32 encM 6 (.slice (some ⟨g, 0, none⟩) n cap) (xs.set k ⟨nm, q⟩) /\
 w.grownBy ((((((w.setCell ⟨g, k * 6, none⟩ (.string nm)).setCell ⟨g, k * 6 + 1, none⟩ (.int .i64 q.k)).setCell ⟨g, k * 6 + 2, none⟩ (.int .i64 q.n)).setCell ⟨g, k * 6 + 3, none⟩ (.string q.s)).setCell ⟨g, k * 6 + 4, none⟩ (.slice q.pl q.nl q.cl)).setCell ⟨g, k * 6 + 5, none⟩ (.slice q.pm q.nm q.cm)) (some g) := by
 have hk := (List.getElem?_eq_some_iff.1 hx).1
 have s1 := Own.storedAt codecM h (j := 0) (y := ⟨nm, x.v⟩) (u := .string nm) hx (by decide) rfl
 have s2 := Own.storedV s1.1 (k := k) (x := ⟨nm, x.v⟩) (by simp [List.getElem?_set, hk]) q
 simp only [List.set_set] at s2
 exact ⟨s2.1, s1.2.trans s2.2⟩
def MAt (W : World) (g : Nat) (x : RM) : Prop := W.heap[g]? = some (.cells #[.string x.name, .int .i64 x.v.k, .int .i64 x.v.n, .string x.v.s, .slice x.v.pl x.v.nl x.v.cl, .slice x.v.pm x.v.nm x.v.cm] 32 (0, 0))
theorem MAt.cell {W : World} {g : Nat} {r : RM} (h : MAt W g r) (j : Nat) {u : Value} (hu : (encM r)[j]? = some u) : W.cell? ⟨g, j, none⟩ = some u := by
 unfold MAt at h
 rw [cell_of_row W g j _ _ _ h, <- Array.getElem?_toList]
 exact hu
theorem MAt.cells6 {W : World} {g : Nat} {r : RM} (h : MAt W g r) : W.cell? ⟨g, 0, none⟩ = some (.string r.name) /\ W.cell? ⟨g, 1, none⟩ = some (.int .i64 r.v.k) /\ W.cell? ⟨g, 2, none⟩ = some (.int .i64 r.v.n) /\ W.cell? ⟨g, 3, none⟩ = some (.string r.v.s) /\ W.cell? ⟨g, 4, none⟩ = some (.slice r.v.pl r.v.nl r.v.cl) /\ W.cell? ⟨g, 5, none⟩ = some (.slice r.v.pm r.v.nm r.v.cm) := ⟨h.cell 0 rfl, h.cell 1 rfl, h.cell 2 rfl, h.cell 3 rfl, h.cell 4 rfl, h.cell 5 rfl⟩
theorem MAt.under {W W' : World} {g B : Nat} {r : RM} (h : MAt W g r) (hb : Below B W W') (hg : g < B) : MAt W' g r := (hb.block g hg).trans h
theorem oneM : ∀ i z, Tryz.prog.info? 32 = some i -> i.zero = some z -> ∀ u ∈ z.cells.toList, u.oneCell' = true := by
 intro i z hi hz
 have h : (Tryz.prog.info? 32).map (fun i => (i.zero, i.size, i.bytes)) = some (some (.agg #[.string ByteArray.empty, .int .i64 0, .int .i64 0, .string ByteArray.empty, .slice none 0 0, .slice none 0 0]), 6, 96) := by kernel_rfl
 rw [hi] at h
 simp only [Option.map_some, Option.some.injEq, Prod.mk.injEq] at h
 rw [hz] at h
 simp only [Option.some.injEq] at h
 rw [h.1]
 intro u hu
 simp [Value.cells] at hu
 rcases hu with rfl | rfl | rfl | rfl | rfl | rfl <;> rfl
structure DelRel (rms : List RM) (name : ByteArray) (a b : Nat) (cur : List RM) : Prop where
 lt : a < b
 len : cur.length = rms.length
 head : cur.take a = (rms.take b).filter (fun x => !nameB name x)
 tail : cur.drop b = rms.drop b
theorem DelRel.start {rms : List RM} {name : ByteArray} {i : Nat} (h : rms.findIdx? (nameB name) = some i) : DelRel rms name i (i + 1) rms := by
 rw [List.findIdx?_eq_some_iff_getElem] at h
 obtain ⟨h1, h2, h3⟩ := h
 refine ⟨by omega, rfl, ?_, rfl⟩
 rw [List.take_add_one, List.getElem?_eq_getElem h1, List.filter_append]
 have e1 : (rms.take i).filter (fun x => !nameB name x) = rms.take i := by
  rw [List.filter_eq_self]
  intro x hx
  obtain ⟨j, hj⟩ := List.getElem?_of_mem hx
  rw [List.getElem?_take] at hj
  split at hj
  ·have := h3 j (by assumption)
   rw [List.getElem?_eq_getElem (by omega)] at hj
   cases hj
   simpa using this
  ·cases hj
 rw [e1]
 simp [h2]
theorem DelRel.at {rms cur : List RM} {name : ByteArray} {a b : Nat} (h : DelRel rms name a b cur) {x : RM} (hx : rms[b]? = some x) : cur[b]? = some x := by
 have h1 : (cur.drop b)[0]? = (rms.drop b)[0]? := by rw [h.tail]
 simpa [List.getElem?_drop, hx] using h1
theorem DelRel.skip {rms cur : List RM} {name : ByteArray} {a b : Nat} (h : DelRel rms name a b cur) {x : RM} (hx : rms[b]? = some x) (hn : nameB name x = true) : DelRel rms name a (b + 1) cur := by
 refine ⟨by have := h.lt; omega, h.len, ?_, ?_⟩
 ·rw [List.take_add_one, hx, List.filter_append, <- h.head]
  simp [hn]
 ·rw [<- List.drop_drop (i := 1) (j := b), <- List.drop_drop (i := 1) (j := b), h.tail]
theorem DelRel.keep {rms cur : List RM} {name : ByteArray} {a b : Nat} (h : DelRel rms name a b cur) {x : RM} (hx : rms[b]? = some x) (hn : nameB name x = false) : DelRel rms name (a + 1) (b + 1) (cur.set a x) := by
 have hl := h.lt
 have hbl := (List.getElem?_eq_some_iff.1 hx).1
 refine ⟨by omega, by rw [List.length_set, h.len], ?_, ?_⟩
 ·rw [List.take_add_one, List.take_set_of_le (Nat.le_refl _), List.getElem?_set_self (by have := h.len; omega), List.take_add_one, hx, List.filter_append, <- h.head]
  simp [hn]
 ·rw [List.drop_set_of_lt (by omega), <- List.drop_drop (i := 1) (j := b), <- List.drop_drop (i := 1) (j := b), h.tail]
theorem DelRel.done {rms cur : List RM} {name : ByteArray} {a : Nat} (h : DelRel rms name a rms.length cur) : cur.take a = rms.filter (fun x => !nameB name x) := by
 have := h.head
 rwa [List.take_length] at this
def lowN (os : List (ByteArray × JV)) (id : ByteArray) : Nat := (os.takeWhile (fun p => decide (cmpN p.1 id < 0))).length
def isAt (os : List (ByteArray × JV)) (id : ByteArray) : Bool := match os[lowN os id]? with
 | some p => decide (p.1 = id)
 | none => false
def Rising (os : List (ByteArray × JV)) : Prop := ∀ (i j : Nat) p q, i < j -> os[i]? = some p -> os[j]? = some q -> cmpN p.1 q.1 < 0
theorem lowN_of : ∀ {os : List (ByteArray × JV)} {id : ByteArray} {a : Nat}, a <= os.length -> (∀ k x, k < a -> os[k]? = some x -> cmpN x.1 id < 0) -> (∀ k x, a <= k -> os[k]? = some x -> ¬ cmpN x.1 id < 0) -> lowN os id = a
 | [], id, a, h, _, _ => by simp [lowN]; simp at h; omega
 | p :: os, id, 0, h, h1, h2 => by
   have := h2 0 p (Nat.le_refl _) rfl
   simp [lowN, List.takeWhile_cons, this]
 | p :: os, id, a + 1, h, h1, h2 => by
   have h0 := h1 0 p (by omega) rfl
   have ih := lowN_of (os := os) (id := id) (a := a) (by simpa using h) (fun k x hk hx => h1 (k + 1) x (by omega) (by simpa using hx)) (fun k x hk hx => h2 (k + 1) x (by omega) (by simpa using hx))
   unfold lowN at ih ⊢
   rw [List.takeWhile_cons, if_pos (by simpa using h0)]
   simp [ih]
theorem cmpN_lt_trans {a b c : ByteArray} (h1 : cmpN a b < 0) (h2 : ¬ cmpN c b < 0) : cmpN a c < 0 := by
 by_cases h : cmpN a c < 0
 ·exact h
 ·exact absurd h1 (cmpB_ntrans _ _ _ h h2)
theorem Rising.low {os : List (ByteArray × JV)} (hr : Rising os) {id : ByteArray} {h : Nat} {x : ByteArray × JV} (hx : os[h]? = some x) (hc : cmpN x.1 id < 0) : ∀ k y, k < h + 1 -> os[k]? = some y -> cmpN y.1 id < 0 := by
 intro k y hk hy
 by_cases e : k = h
 ·subst e
  rw [hx] at hy
  cases hy
  exact hc
 ·have := hr k h y x (by omega) hy hx
  by_cases g : cmpN y.1 id < 0
  ·exact g
  ·have h3 := cmpN_neg y.1 x.1
   have : ¬ cmpN y.1 x.1 < 0 := cmpB_ntrans _ _ _ g (by have h4 := cmpN_neg x.1 id; show ¬ cmpN id x.1 < 0; omega)
   omega
theorem Rising.high {os : List (ByteArray × JV)} (hr : Rising os) {id : ByteArray} {h : Nat} {x : ByteArray × JV} (hx : os[h]? = some x) (hc : ¬ cmpN x.1 id < 0) : ∀ k y, h <= k -> os[k]? = some y -> ¬ cmpN y.1 id < 0 := by
 intro k y hk hy
 by_cases e : k = h
 ·subst e
  rw [hx] at hy
  cases hy
  exact hc
 ·have h1 := hr h k x y (by omega) hx hy
  have h2 := cmpN_neg x.1 y.1
  exact cmpB_ntrans _ _ _ (by show ¬ cmpN y.1 x.1 < 0; omega) hc
def Lows (os : List (ByteArray × JV)) (id : ByteArray) (a : Nat) : Prop := ∀ k x, k < a -> os[k]? = some x -> cmpN x.1 id < 0
def Highs (os : List (ByteArray × JV)) (id : ByteArray) (b : Nat) : Prop := ∀ k x, b <= k -> os[k]? = some x -> ¬ cmpN x.1 id < 0
def findJ (os : List (ByteArray × JV)) (id : ByteArray) : Option JV := (os.find? (fun p => decide (p.1 = id))).map (·.2)
theorem find_same {os : List (ByteArray × JV)} {rms : List RM} (hl : os.length = rms.length) (hn : ∀ (i : Nat) p q, os[i]? = some p -> rms[i]? = some q -> p.1 = q.name) (id : ByteArray) : os.findIdx? (fun p => decide (p.1 = id)) = rms.findIdx? (nameB id) := by
 induction os generalizing rms with
 | nil =>
   have := List.eq_nil_of_length_eq_zero hl.symm
   subst this
   rfl
 | cons p os ih =>
   cases rms with
   | nil => simp at hl
   | cons q rms =>
     have h0 := hn 0 p q rfl rfl
     have ih := ih (rms := rms) (by simpa using hl) (fun i a b h1 h2 => hn (i + 1) a b (by simpa using h1) (by simpa using h2))
     rw [List.findIdx?_cons, List.findIdx?_cons, ih]
     unfold nameB
     rw [h0]
theorem findJ_some {os : List (ByteArray × JV)} {id : ByteArray} {i : Nat} (h : os.findIdx? (fun p => decide (p.1 = id)) = some i) : ∃ p, os[i]? = some p /\ findJ os id = some p.2 := by
 induction os generalizing i with
 | nil => simp at h
 | cons p os ih =>
   rw [List.findIdx?_cons] at h
   unfold findJ at ih ⊢
   by_cases e : p.1 = id
   ·simp [e] at h
    subst h
    exact ⟨p, rfl, by simp [List.find?_cons, e]⟩
   ·simp [e] at h
    obtain ⟨j, hj, rfl⟩ := h
    obtain ⟨q, h1, h2⟩ := ih hj
    exact ⟨q, by simpa using h1, by simpa [List.find?_cons, e] using h2⟩
theorem findJ_none {os : List (ByteArray × JV)} {id : ByteArray} (h : os.findIdx? (fun p => decide (p.1 = id)) = none) : findJ os id = none := by
 unfold findJ
 rw [List.findIdx?_eq_none_iff] at h
 rw [List.find?_eq_none.2 (fun x hx => by have := h x hx; simpa using this)]
 rfl
def FindRet (w : World) (o : Option JV) (e : Ending) (w' : World) : Prop :=
 ∃ r, e = .returned (.tuple #[RV.val r, .bool o.isSome]) /\ TreeOf w' w'.heap.size (o.getD JV.zero) r /\ Below w.heap.size w w'
def encS (s : ByteArray) : List Value := [.string s]
theorem codecS : Codec encS 1 := ⟨fun _ => rfl, fun x u hu => by
 simp only [encS, List.mem_cons, List.not_mem_nil, or_false] at hu
 subst hu; rfl, by decide⟩
theorem slS : SlT Tryz.prog 46 9 1 16 := SlT.mk (z := .string ByteArray.empty) Tryz.underlying46 (by kernel_rfl) rfl
def IdsRet (w : World) (l : List ByteArray) (e : Ending) (w' : World) : Prop := ∃ u, e = .returned u /\ Own w' w.heap.size 9 encS 1 u l /\ Below w.heap.size w w'
end
end Go.Proofs.YtffhccmppdgmfaaGreatDoor
