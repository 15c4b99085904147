import Derived.Test.YtjhginendpjimaaGreatDoorB18
import Derived.Test.YtjhginendpjimaaGreatDoorB00
import Derived.ProofKit
import Derived.Below
import Derived.Test.YtjhginendpjimaaGreatDoorB02
import Derived.Test.YtjhginendpjimaaGreatDoorB16
import Derived.Test.YtjhginendpjimaaGreatDoorB12
import Derived.Shelf.Slices.Turned
import Derived.Test.YtjhginendpjimaaGreatDoorProg
import Derived.Test.YtjhginendpjimaaGreatDoorB11
set_option linter.unusedSimpArgs false
set_option linter.unusedVariables false
set_option maxRecDepth 200000
set_option maxHeartbeats 8000000
namespace Go.Proofs.YtjhginendpjimaaGreatDoor
section
open Go.ChangeShapes Go.WideShapes Go.Deep Go.RowKit Go.Lib
theorem cells2 : Tryz.prog.cellsOf 2 = 1 := by kernel_rfl
theorem cells3 : Tryz.prog.cellsOf 3 = 1 := by kernel_rfl
theorem cells9 : Tryz.prog.cellsOf 9 = 1 := by kernel_rfl
section
variable {H : Type} {enc : TypeId × Value -> H} {W : World} {base b0 : Nat} {spare : Nat -> Bool} {held : Bool}
end
end
section
open Go Go.RowKit Go.ChangeShapes Go.WideShapes Go.Deep
structure BoxD where
 objs : List (ByteArray × JV)
 trail : List En
 seq : Int
 floor : Int
 keep : Int
structure RB where
 po : Option Addr
 no : Nat
 co : Nat
 pt : Option Addr
 nt : Nat
 ct : Nat
 sq : Int
 fl : Int
 kp : Int
abbrev RB.val (r : RB) : Value := .agg #[.slice r.po r.no r.co, .slice r.pt r.nt r.ct, .int .i64 r.sq, .int .i64 r.fl, .int .i64 r.kp]
def encB (r : RB) : List Value := [.slice r.po r.no r.co, .slice r.pt r.nt r.ct, .int .i64 r.sq, .int .i64 r.fl, .int .i64 r.kp]
def RB.zero : RB := ⟨none, 0, 0, none, 0, 0, 0, 0, 0⟩
def BoxD.zero : BoxD := ⟨[], [], 0, 0, 0⟩
def ObjsOf (w : World) (B : Nat) (os : List (ByteArray × JV)) (v : Value) : Prop := ∃ ros, Rd w B encM 6 v ros /\ MemsOf w B os ros
theorem ObjsOf.under {w w' : World} {B B' : Nat} {os : List (ByteArray × JV)} {v : Value} (h : ObjsOf w B os v) (hb : Below B w w') (hB : B <= B') : ObjsOf w' B' os v := by
 obtain ⟨ros, h1, h2⟩ := h
 exact ⟨ros, h1.below hb hB, h2.under hb hB⟩
theorem ObjsOf.nlen {w : World} {B n c : Nat} {os : List (ByteArray × JV)} {p : Option Addr} (h : ObjsOf w B os (.slice p n c)) : os.length = n := by
 obtain ⟨ros, h1, h2⟩ := h
 have := rd_nlen h1
 have := h2.len
 omega
theorem ObjsOf.nil (w : World) (B : Nat) : ObjsOf w B [] (.slice none 0 0) := ⟨[], Rd.nil _ _, MemsOf.nil _ _⟩
theorem RdE.under {w w' : World} {B B' : Nat} {v : Value} {l : List En} (h : RdE w B v l) (hb : Below B w w') (hB : B <= B') : RdE w' B' v l :=
 rdE_iff.2 ⟨(rdE_iff.1 h).1, (rdE_iff.1 h).2.below hb hB⟩
theorem RdE.nlen {w : World} {B n c : Nat} {l : List En} {p : Option Addr} (h : RdE w B (.slice p n c) l) : l.length = n := (rd_nlen (rdE_iff.1 h).2).symm
theorem RdE.nil (w : World) (B : Nat) : RdE w B (.slice none 0 0) [] := rdE_iff.2 ⟨fun e h => by simp at h, Rd.nil _ _⟩
structure BoxOf (w : World) (B : Nat) (b : BoxD) (r : RB) : Prop where
 objs : ObjsOf w B b.objs (.slice r.po r.no r.co)
 trail : RdE w B (.slice r.pt r.nt r.ct) b.trail
 seq : b.seq = r.sq
 floor : b.floor = r.fl
 keep : b.keep = r.kp
theorem BoxOf.under {w w' : World} {B B' : Nat} {b : BoxD} {r : RB} (h : BoxOf w B b r) (hb : Below B w w') (hB : B <= B') : BoxOf w' B' b r :=
 ⟨h.objs.under hb hB, h.trail.under hb hB, h.seq, h.floor, h.keep⟩
theorem BoxOf.zero (w : World) (B : Nat) : BoxOf w B BoxD.zero RB.zero := ⟨ObjsOf.nil _ _, RdE.nil _ _, rfl, rfl, rfl⟩
structure BoxD.Ok (b : BoxD) : Prop where
 objs : b.objs.length <= 1466015503658
 each : ∀ p ∈ b.objs, p.1.size <= 140737488351232 /\ p.2.Ok
 trail : b.trail.length <= 4398046510976
 seq : (Lit.int .i64 b.seq).wf = true
 floor : (Lit.int .i64 b.floor).wf = true
 keep : (Lit.int .i64 b.keep).wf = true
theorem BoxD.zero_ok : BoxD.zero.Ok := ⟨by decide, fun p h => by simp [BoxD.zero] at h, by decide, by decide, by decide, by decide⟩
theorem slO : SlT Tryz.prog 32 36 6 96 := SlT.mk (z := .agg #[.string ByteArray.empty, .int .i64 0, .int .i64 0, .string ByteArray.empty, .slice none 0 0, .slice none 0 0]) Tryz.underlying32 (by kernel_rfl) rfl
theorem cellsO : Tryz.prog.cellsOf 36 = 6 := by kernel_rfl
theorem bytesO : Tryz.prog.bytesOf 36 = 96 := by kernel_rfl
theorem celO : Tryz.prog.cellsOf 32 = 1 := by kernel_rfl
section
variable {H : Type} {enc : TypeId × Value -> H} {W : World} {base b0 : Nat} {spare : Nat -> Bool} {held : Bool}
theorem open_objs {fuel : Nat} {cs : List Value} {x : DataW H × List MemPlace} (h : DataW.trod enc Tryz.prog W base spare held fuel 32 cs = some x) :
 ∃ p n c os, cs = [.slice p n c] /\ ObjsOf W W.heap.size os (.slice p n c) /\ ((∀ n ∈ x.1.weights Tryz.prog 32, n <= 140737488351232) -> os.length <= 1466015503658 /\ ∀ p ∈ os, p.1.size <= 140737488351232 /\ p.2.Ok) := by
 obtain ⟨pm, nm, cm, rms, e4, hr4, hd4⟩ := open_list (Q := fun (r : RM) (d : DataW H) => ∃ t, TreeOf W W.heap.size t r.v /\ ((∀ n ∈ d.weights Tryz.prog 36, n <= 140737488351232) -> r.name.size <= 140737488351232 /\ t.Ok)) Tryz.underlying32 cellsO codecM h
  (fun m hm cs y hy => by
   obtain ⟨z0, z1, j, rfl, hy1, hlen, u0, u1⟩ := trodF2 Tryz.underlying36 hy
   rw [cellsO] at hlen
   obtain ⟨a0, a1, a2, a3, a4, a5, rfl⟩ : ∃ a0 a1 a2 a3 a4 a5, cs = [a0, a1, a2, a3, a4, a5] := by
    match cs, hlen with
    | [a, b, c, d, e, f], _ => exact ⟨a, b, c, d, e, f, rfl⟩
   rw [hy1]
   dsimp only at u0 u1
   rw [cel3] at u0
   rw [cellsV] at u1
   simp only [List.drop_zero, List.drop_succ_cons, List.take_succ_cons, List.take_zero] at u0 u1
   obtain ⟨nm, g0, g1, g2⟩ := DataW.trod_string Tryz.underlying9 u0
   simp only [List.cons.injEq, and_true] at g0
   subst g0 g1
   obtain ⟨r, t, h1, h2, h3⟩ := open_val j _ _ u1
   refine ⟨⟨nm, r⟩, by rw [h1]; rfl, t, h2, fun hw => ⟨weights_string (weights_struct Tryz.underlying36 hw (i := 0) rfl rfl), h3 (weights_struct Tryz.underlying36 hw (i := 1) rfl rfl)⟩⟩)
 have hM : ∀ i, i < rms.length -> ∃ p : ByteArray × JV, ∀ q, rms[i]? = some q -> p.1 = q.name /\ TreeOf W W.heap.size p.2 q.v /\ ((∀ n ∈ x.1.weights Tryz.prog 32, n <= 140737488351232) -> p.1.size <= 140737488351232 /\ p.2.Ok) := by
  intro i hi
  obtain ⟨q, hq⟩ : ∃ q, rms[i]? = some q := ⟨_, List.getElem?_eq_getElem hi⟩
  rcases hd4 with ⟨rfl, _⟩ | ⟨es, sp, h1, h2, h3⟩
  ·simp at hi
  ·obtain ⟨d, hd, t, ht1, ht2⟩ := h3 i q hq
   refine ⟨(q.name, t), fun q' hq' => ?_⟩
   rw [hq] at hq'
   cases hq'
   refine ⟨rfl, ht1, fun hw => ht2 ?_⟩
   rw [h1] at hw
   exact (weights_slice Tryz.underlying32 hw).2 d (List.mem_of_getElem? hd)
 obtain ⟨ps, hps, hps2⟩ := list_of rms.length hM
 refine ⟨pm, nm, cm, ps, e4, ⟨rms, hr4, hps, fun i p q h1 h2 => (hps2 i p h1 q h2).1, fun i p q h1 h2 => (hps2 i p h1 q h2).2.1⟩, fun hw => ⟨?_, fun p hp => ?_⟩⟩
 ·rcases hd4 with ⟨rfl, _⟩ | ⟨es, sp, h1, h2, _⟩
  ·rw [hps]; simp
  ·rw [h1] at hw
   have := (weights_slice Tryz.underlying32 hw).1
   rw [bytesO] at this
   omega
 ·obtain ⟨i, hi⟩ := List.getElem?_of_mem hp
  obtain ⟨q, hq⟩ : ∃ q, rms[i]? = some q := ⟨_, List.getElem?_eq_getElem (by have := (List.getElem?_eq_some_iff.1 hi).1; omega)⟩
  exact (hps2 i p hi q hq).2.2 hw
end
end
section
open Go Go.RowKit
theorem setCells_tail (g m : Nat) (e : TypeId) : ∀ (vs : List Value) (o : Nat) (w : World) (cur : Array Value), m <= o -> w.heap[g]? = some (.cells cur e (0, 0)) ->
 ∃ cur', (w.setCells g o vs).heap[g]? = some (.cells cur' e (0, 0)) /\ cur'.size = cur.size /\ cur'.toList.take m = cur.toList.take m /\ w.grownBy (w.setCells g o vs) (some g)
 | [], o, w, cur, ho, h => ⟨cur, h, rfl, rfl, World.grownBy.refl w _⟩
 | v :: r, o, w, cur, ho, h => by
   obtain ⟨cur', h1, h2, h3, h4⟩ := setCells_tail g m e r (o + 1) (w.setCell ⟨g, o, none⟩ v) (cur.setIfInBounds o v) (by omega) (heap_setCell_same w g o cur e v h)
   refine ⟨cur', h1, by simpa using h2, ?_, ?_⟩
   ·rw [h3, Array.toList_setIfInBounds, List.take_set_of_le ho]
   ·have hg1 : w.grownBy (w.setCell ⟨g, o, none⟩ v) (some g) := ⟨rfl, rfl, rfl, by simp, fun k _ hk => heap_setCell_other w ⟨g, o, none⟩ k v (fun e => hk (by simp [e]))⟩
    exact hg1.trans h4
theorem zeroCells_mem (z : Array Value) (n : Nat) (h : ∀ u ∈ z.toList, u.oneCell' = true) : ∀ u ∈ (Builtin.zeroCells z n).toList, u.oneCell' = true := by
 intro u hu
 simp only [Builtin.zeroCells, Array.toList_map, Array.toList_range, List.mem_map, List.mem_range] at hu
 obtain ⟨i, hi, rfl⟩ := hu
 have hz : 0 < z.size := by
  rcases Nat.eq_zero_or_pos z.size with h0 | h0
  ·rw [h0, Nat.mul_zero] at hi; omega
  ·exact h0
 have hlt : i % z.size < z.size := Nat.mod_lt _ hz
 rw [getElem!_pos z (i % z.size) hlt]
 exact h _ (by simp)
section
variable {P : Program} {α : Type} {enc : α -> List Value} {sz bytes : Nat} {t e : TypeId}
theorem Own.take {w : World} {base : Nat} {p : Option Addr} {n cap : Nat} {xs : List α} (C : Codec enc sz) (h : Own w base e enc sz (.slice p n cap) xs) (m : Nat) (hm : m <= n) : Own w base e enc sz (.slice p m cap) (xs.take m) := by
 obtain ⟨hl, h⟩ := h
 rcases h with ⟨hv, hn⟩ | ⟨g, cap', cur, hv, hg, hh, hnc, hcm, hcs, ht⟩
 ·simp only [Value.slice.injEq] at hv
  obtain ⟨rfl, rfl, rfl⟩ := hv
  obtain rfl : m = 0 := by omega
  rw [List.take_zero]
  exact Own.nil w base e
 ·simp only [Value.slice.injEq] at hv
  obtain ⟨rfl, rfl, rfl⟩ := hv
  have hlen : (xs.take m).length = m := by rw [List.length_take]; omega
  refine ⟨cellsOf_len C _, .inr ⟨g, cap, cur, by rw [hlen], hg, hh, by omega, hcm, hcs, ?_⟩⟩
  rw [hlen]
  have h1 : cellsOf enc xs = cellsOf enc (xs.take m) ++ cellsOf enc (xs.drop m) := by rw [<- cellsOf_append, List.take_append_drop]
  have h2 : cur.toList.take (m * sz) = (cur.toList.take (xs.length * sz)).take (m * sz) := by
   rw [List.take_take, Nat.min_eq_left (Nat.mul_le_mul_right _ hm)]
  rw [h2, ht, h1]
  have h3 : (cellsOf enc (xs.take m)).length = m * sz := by rw [cellsOf_len C, hlen]
  rw [<- h3, List.take_left]
theorem run_clear_own (S : SlT P t e sz bytes) (hone : ∀ i z, P.info? e = some i -> i.zero = some z -> ∀ u ∈ z.cells.toList, u.oneCell' = true) (C : Codec enc sz) (w : World) (ty : TypeId) {base : Nat} {p : Option Addr} {n cap m : Nat} {xs : List α}
 (h : Own w base e enc sz (.slice p n cap) xs) (hm : m <= n) {v : Value} (hv : v = sliced p m n cap sz) :
 ∃ w', (Builtin.clear_ #[t] ty #[v]).run P w = .ok (.tuple #[]) w' /\ Own w' base e enc sz (.slice p m cap) (xs.take m) /\ w.grownBy w' (Value.slice p n cap).ownBlock := by
 have hT := h.take C m hm
 obtain ⟨ht, i, z, hi, hz, hs1, hs2, hzs⟩ := S
 by_cases hmn : m = n
 ·subst hmn
  refine ⟨w, ?_, hT, World.grownBy.refl w _⟩
  rw [hv]
  unfold sliced
  rw [Nat.sub_self]
  cases (if cap = m then p else p.map (·.add (m * sz))) <;> simp [Builtin.clear_, run_underlying ht]
 ·obtain ⟨hl, h'⟩ := h
  rcases h' with ⟨hv', hn⟩ | ⟨g, cap', cur, hv', hg, hh, hnc, hcm, hcs, htk⟩
  ·simp only [Value.slice.injEq] at hv'
   omega
  ·simp only [Value.slice.injEq] at hv'
   obtain ⟨rfl, hnx, rfl⟩ := hv'
   have hsl : v = .slice (some ⟨g, m * sz, none⟩) (n - m) (cap - m) := by
    rw [hv]; unfold sliced
    rw [if_neg (by omega)]
    simp [add_eq]
   have hszn : (Builtin.zeroCells z.cells (n - m)).size = (n - m) * sz := by rw [size_zeroCells, hzs]
   have hcell : ∀ j, j < (n - m) * sz -> (w.cell? ⟨g, m * sz + j, none⟩).isSome = true := by
    intro j hj
    rw [cell_of_row w g _ cur e (0, 0) hh]
    have h1 : (n - m) * sz + m * sz <= cap * sz := by rw [<- Nat.add_mul]; exact Nat.mul_le_mul_right _ (by omega)
    rw [Array.getElem?_eq_getElem (by omega)]
    rfl
   have hst := run_storeCells_cells (P := P) g (m * sz) (Builtin.zeroCells z.cells (n - m)).toList 0 w (by intro j hj; rw [Array.length_toList, hszn] at hj; simpa using hcell j hj) (fun j hj => frozen_of_row w g _ cur e hh) (zeroCells_mem z.cells _ (hone i z hi hz))
   rw [Nat.add_zero] at hst
   obtain ⟨cur', h1, h2, h3, h4⟩ := setCells_tail g (m * sz) e (Builtin.zeroCells z.cells (n - m)).toList (m * sz) w cur (Nat.le_refl _) hh
   refine ⟨_, ?_, ?_, h4⟩
   ·rw [hsl]
    obtain ⟨k, hk⟩ : ∃ k, n - m = k + 1 := ⟨n - m - 1, by omega⟩
    rw [hk] at hst ⊢
    simp [Builtin.clear_, run_underlying ht, zeroValue, typeInfo, hi, hz, hst]
   ·have hlen : (xs.take m).length = m := by rw [List.length_take]; omega
    obtain ⟨hl2, h2'⟩ := hT
    rcases h2' with ⟨hv2, _⟩ | ⟨g2, cap2, cur2, hv2, _, hh2, _, _, _, ht2⟩
    ·simp at hv2
    ·simp only [Value.slice.injEq, Option.some.injEq, Addr.mk.injEq, and_true, true_and] at hv2
     obtain ⟨rfl, _, rfl⟩ := hv2
     rw [hh] at hh2
     cases hh2
     refine ⟨hl2, .inr ⟨g, cap, cur', by rw [hlen], hg, h1, by omega, hcm, by omega, ?_⟩⟩
     rw [hlen] at ht2 ⊢
     rw [h3]
     exact ht2
theorem wpList_clear_own {ops : Array Oper} {rest : List Oper} {o : Oper} {a : Act} {Q : Exit -> Act -> World -> Prop} (S : SlT P t e sz bytes) (hone : ∀ i z, P.info? e = some i -> i.zero = some z -> ∀ u ∈ z.cells.toList, u.oneCell' = true) (C : Codec enc sz) (w : World) (hgd : o.guard = none) (s : Operand)
 (ho : o.op = .call { callee := .builtin .clear, args := #[s], argTypes := #[t] }) {base : Nat} {p : Option Addr} {n cap m : Nat} {xs : List α} {v : Value} (hs : a.eval s = v) (hv : v = sliced p m n cap sz) (hown : Own w base e enc sz (.slice p n cap) xs) (hm : m <= n)
 (h : ∀ w', Own w' base e enc sz (.slice p m cap) (xs.take m) -> w.grownBy w' (Value.slice p n cap).ownBlock -> wpList P ops Q rest (a.put o.dst (.tuple #[])) w') : wpList P ops Q (o :: rest) a w :=
 wpList_plain hgd fun K hK => by
  obtain ⟨w', hrun, h2, h3⟩ := run_clear_own S hone C w o.type hown hm hv
  unfold Oper.wp execOp
  simp only [ho, resolve, invoke, builtin, Sem.run_bind, Sem.run_pure, Result.andThen_ok, List.map_toArray, List.map_cons, List.map_nil, hs, hrun]
  exact hK _ _ (h w' h2 h3)
theorem run_slice_low (S : SlT P t e sz bytes) (p : Option Addr) (n cap m : Nat) (hm : m <= n) (W : World) : (Instr.sliceAt t (.slice p n cap) (some (.int .i64 m)) none none).run P W = .ok (sliced p m n cap sz) W := by
 obtain ⟨ht, i, z, hi, hz, hs1, hs2, hzs⟩ := S
 have he : P.elem t = e := by simp [Program.elem, ht]
 have ht' : P.underlying t = some (.slice (P.elem t)) := by rw [he]; exact ht
 rw [run_sliceAt_slice _ _ _ _ _ _ ht', run_slice_l W t p n cap ht' .i64 m (by omega) (by omega), he]
 simp [sizeOf, typeInfo, hi, hs1, Result.andThen]
theorem run_slice_high (S : SlT P t e sz bytes) (p : Option Addr) (n cap m : Nat) (hm : m <= cap) (W : World) : (Instr.sliceAt t (.slice p n cap) none (some (.int .i64 m)) none).run P W = .ok (.slice p m cap) W := by
 obtain ⟨ht, i, z, hi, hz, hs1, hs2, hzs⟩ := S
 have he : P.elem t = e := by simp [Program.elem, ht]
 have ht' : P.underlying t = some (.slice (P.elem t)) := by rw [he]; exact ht
 rw [run_sliceAt_slice _ _ _ _ _ _ ht', run_slice_h W t p n cap ht' .i64 m (by omega) (by omega), he]
 have hp : p.map (fun a => a.add 0) = p := by cases p <;> simp [Addr.add]
 have hsl : sliced p 0 m cap sz = .slice p m cap := by unfold sliced; simp [hp]
 simp [sizeOf, typeInfo, hi, hs1, Result.andThen, hsl]
end
end
section
open Go.RowKit Go.OpenShut
def nameB (name : ByteArray) (x : RM) : Bool := decide (x.name = name)
theorem Own.storedM {w : World} {base : Nat} {g n cap : Nat} {xs : List RM} (h : Own w base 46 encM 6 (.slice (some ⟨g, 0, none⟩) n cap) xs) {k : Nat} {x : RM} (hx : xs[k]? = some x) (nm : ByteArray) (q : RV) :
 Own ((((((w.setCell ⟨g, k * 6, none⟩ (.string nm)).setCell ⟨g, k * 6 + 1, none⟩ (.int .i64 q.k)).setCell ⟨g, k * 6 + 2, none⟩ (.int .i64 q.n)).setCell ⟨g, k * 6 + 3, none⟩ (.string q.s)).setCell ⟨g, k * 6 + 4, none⟩ (.slice q.pl q.nl q.cl)).setCell ⟨g, k * 6 + 5, none⟩ (.slice q.pm q.nm q.cm)) base 46 encM 6 (.slice (some ⟨g, 0, none⟩) n cap) (xs.set k ⟨nm, q⟩) /\
 w.grownBy ((((((w.setCell ⟨g, k * 6, none⟩ (.string nm)).setCell ⟨g, k * 6 + 1, none⟩ (.int .i64 q.k)).setCell ⟨g, k * 6 + 2, none⟩ (.int .i64 q.n)).setCell ⟨g, k * 6 + 3, none⟩ (.string q.s)).setCell ⟨g, k * 6 + 4, none⟩ (.slice q.pl q.nl q.cl)).setCell ⟨g, k * 6 + 5, none⟩ (.slice q.pm q.nm q.cm)) (some g) := by
 have hk := (List.getElem?_eq_some_iff.1 hx).1
 have s1 := Own.storedAt codecM h (j := 0) (y := ⟨nm, x.v⟩) (u := .string nm) hx (by decide) rfl
 have s2 := Own.storedV s1.1 (k := k) (x := ⟨nm, x.v⟩) (by simp [List.getElem?_set, hk]) q
 simp only [List.set_set] at s2
 exact ⟨s2.1, s1.2.trans s2.2⟩
def MAt (W : World) (g : Nat) (x : RM) : Prop := W.heap[g]? = some (.cells #[.string x.name, .int .i64 x.v.k, .int .i64 x.v.n, .string x.v.s, .slice x.v.pl x.v.nl x.v.cl, .slice x.v.pm x.v.nm x.v.cm] 46 (0, 0))
theorem MAt.cell {W : World} {g : Nat} {r : RM} (h : MAt W g r) (j : Nat) {u : Value} (hu : (encM r)[j]? = some u) : W.cell? ⟨g, j, none⟩ = some u := by
 unfold MAt at h
 rw [cell_of_row W g j _ _ _ h, <- Array.getElem?_toList]
 exact hu
theorem MAt.cells6 {W : World} {g : Nat} {r : RM} (h : MAt W g r) : W.cell? ⟨g, 0, none⟩ = some (.string r.name) /\ W.cell? ⟨g, 1, none⟩ = some (.int .i64 r.v.k) /\ W.cell? ⟨g, 2, none⟩ = some (.int .i64 r.v.n) /\ W.cell? ⟨g, 3, none⟩ = some (.string r.v.s) /\ W.cell? ⟨g, 4, none⟩ = some (.slice r.v.pl r.v.nl r.v.cl) /\ W.cell? ⟨g, 5, none⟩ = some (.slice r.v.pm r.v.nm r.v.cm) := ⟨h.cell 0 rfl, h.cell 1 rfl, h.cell 2 rfl, h.cell 3 rfl, h.cell 4 rfl, h.cell 5 rfl⟩
theorem MAt.under {W W' : World} {g B : Nat} {r : RM} (h : MAt W g r) (hb : Below B W W') (hg : g < B) : MAt W' g r := (hb.block g hg).trans h
theorem oneM : ∀ i z, Tryz.prog.info? 46 = some i -> i.zero = some z -> ∀ u ∈ z.cells.toList, u.oneCell' = true := by
 intro i z hi hz
 have h : (Tryz.prog.info? 46).map (fun i => (i.zero, i.size, i.bytes)) = some (some (.agg #[.string ByteArray.empty, .int .i64 0, .int .i64 0, .string ByteArray.empty, .slice none 0 0, .slice none 0 0]), 6, 96) := by kernel_rfl
 rw [hi] at h
 simp only [Option.map_some, Option.some.injEq, Prod.mk.injEq] at h
 rw [hz] at h
 simp only [Option.some.injEq] at h
 rw [h.1]
 intro u hu
 simp [Value.cells] at hu
 rcases hu with rfl | rfl | rfl | rfl | rfl | rfl <;> rfl
structure DelRel (rms : List RM) (name : ByteArray) (a b : Nat) (cur : List RM) : Prop where
 lt : a < b
 len : cur.length = rms.length
 head : cur.take a = (rms.take b).filter (fun x => !nameB name x)
 tail : cur.drop b = rms.drop b
theorem DelRel.start {rms : List RM} {name : ByteArray} {i : Nat} (h : rms.findIdx? (nameB name) = some i) : DelRel rms name i (i + 1) rms := by
 rw [List.findIdx?_eq_some_iff_getElem] at h
 obtain ⟨h1, h2, h3⟩ := h
 refine ⟨by omega, rfl, ?_, rfl⟩
 rw [List.take_add_one, List.getElem?_eq_getElem h1, List.filter_append]
 have e1 : (rms.take i).filter (fun x => !nameB name x) = rms.take i := by
  rw [List.filter_eq_self]
  intro x hx
  obtain ⟨j, hj⟩ := List.getElem?_of_mem hx
  rw [List.getElem?_take] at hj
  split at hj
  ·have := h3 j (by assumption)
   rw [List.getElem?_eq_getElem (by omega)] at hj
   cases hj
   simpa using this
  ·cases hj
 rw [e1]
 simp [h2]
theorem DelRel.at {rms cur : List RM} {name : ByteArray} {a b : Nat} (h : DelRel rms name a b cur) {x : RM} (hx : rms[b]? = some x) : cur[b]? = some x := by
 have h1 : (cur.drop b)[0]? = (rms.drop b)[0]? := by rw [h.tail]
 simpa [List.getElem?_drop, hx] using h1
theorem DelRel.skip {rms cur : List RM} {name : ByteArray} {a b : Nat} (h : DelRel rms name a b cur) {x : RM} (hx : rms[b]? = some x) (hn : nameB name x = true) : DelRel rms name a (b + 1) cur := by
 refine ⟨by have := h.lt; omega, h.len, ?_, ?_⟩
 ·rw [List.take_add_one, hx, List.filter_append, <- h.head]
  simp [hn]
 ·rw [<- List.drop_drop (i := 1) (j := b), <- List.drop_drop (i := 1) (j := b), h.tail]
theorem DelRel.keep {rms cur : List RM} {name : ByteArray} {a b : Nat} (h : DelRel rms name a b cur) {x : RM} (hx : rms[b]? = some x) (hn : nameB name x = false) : DelRel rms name (a + 1) (b + 1) (cur.set a x) := by
 have hl := h.lt
 have hbl := (List.getElem?_eq_some_iff.1 hx).1
 refine ⟨by omega, by rw [List.length_set, h.len], ?_, ?_⟩
 ·rw [List.take_add_one, List.take_set_of_le (Nat.le_refl _), List.getElem?_set_self (by have := h.len; omega), List.take_add_one, hx, List.filter_append, <- h.head]
  simp [hn]
 ·rw [List.drop_set_of_lt (by omega), <- List.drop_drop (i := 1) (j := b), <- List.drop_drop (i := 1) (j := b), h.tail]
theorem DelRel.done {rms cur : List RM} {name : ByteArray} {a : Nat} (h : DelRel rms name a rms.length cur) : cur.take a = rms.filter (fun x => !nameB name x) := by
 have := h.head
 rwa [List.take_length] at this
def lowN (os : List (ByteArray × JV)) (id : ByteArray) : Nat := (os.takeWhile (fun p => decide (cmpN p.1 id < 0))).length
def isAt (os : List (ByteArray × JV)) (id : ByteArray) : Bool := match os[lowN os id]? with
 | some p => decide (p.1 = id)
 | none => false
def Rising (os : List (ByteArray × JV)) : Prop := ∀ (i j : Nat) p q, i < j -> os[i]? = some p -> os[j]? = some q -> cmpN p.1 q.1 < 0
theorem lowN_of : ∀ {os : List (ByteArray × JV)} {id : ByteArray} {a : Nat}, a <= os.length -> (∀ k x, k < a -> os[k]? = some x -> cmpN x.1 id < 0) -> (∀ k x, a <= k -> os[k]? = some x -> ¬ cmpN x.1 id < 0) -> lowN os id = a
 | [], id, a, h, _, _ => by simp [lowN]; simp at h; omega
 | p :: os, id, 0, h, h1, h2 => by
   have := h2 0 p (Nat.le_refl _) rfl
   simp [lowN, List.takeWhile_cons, this]
 | p :: os, id, a + 1, h, h1, h2 => by
   have h0 := h1 0 p (by omega) rfl
   have ih := lowN_of (os := os) (id := id) (a := a) (by simpa using h) (fun k x hk hx => h1 (k + 1) x (by omega) (by simpa using hx)) (fun k x hk hx => h2 (k + 1) x (by omega) (by simpa using hx))
   unfold lowN at ih ⊢
   rw [List.takeWhile_cons, if_pos (by simpa using h0)]
   simp [ih]
theorem cmpN_lt_trans {a b c : ByteArray} (h1 : cmpN a b < 0) (h2 : ¬ cmpN c b < 0) : cmpN a c < 0 := by
 by_cases h : cmpN a c < 0
 ·exact h
 ·exact absurd h1 (cmpB_ntrans _ _ _ h h2)
theorem Rising.low {os : List (ByteArray × JV)} (hr : Rising os) {id : ByteArray} {h : Nat} {x : ByteArray × JV} (hx : os[h]? = some x) (hc : cmpN x.1 id < 0) : ∀ k y, k < h + 1 -> os[k]? = some y -> cmpN y.1 id < 0 := by
 intro k y hk hy
 by_cases e : k = h
 ·subst e
  rw [hx] at hy
  cases hy
  exact hc
 ·have := hr k h y x (by omega) hy hx
  by_cases g : cmpN y.1 id < 0
  ·exact g
  ·have h3 := cmpN_neg y.1 x.1
   have : ¬ cmpN y.1 x.1 < 0 := cmpB_ntrans _ _ _ g (by have h4 := cmpN_neg x.1 id; show ¬ cmpN id x.1 < 0; omega)
   omega
theorem Rising.high {os : List (ByteArray × JV)} (hr : Rising os) {id : ByteArray} {h : Nat} {x : ByteArray × JV} (hx : os[h]? = some x) (hc : ¬ cmpN x.1 id < 0) : ∀ k y, h <= k -> os[k]? = some y -> ¬ cmpN y.1 id < 0 := by
 intro k y hk hy
 by_cases e : k = h
 ·subst e
  rw [hx] at hy
  cases hy
  exact hc
 ·have h1 := hr h k x y (by omega) hx hy
  have h2 := cmpN_neg x.1 y.1
  exact cmpB_ntrans _ _ _ (by show ¬ cmpN y.1 x.1 < 0; omega) hc
def Lows (os : List (ByteArray × JV)) (id : ByteArray) (a : Nat) : Prop := ∀ k x, k < a -> os[k]? = some x -> cmpN x.1 id < 0
def Highs (os : List (ByteArray × JV)) (id : ByteArray) (b : Nat) : Prop := ∀ k x, b <= k -> os[k]? = some x -> ¬ cmpN x.1 id < 0
def findJ (os : List (ByteArray × JV)) (id : ByteArray) : Option JV := (os.find? (fun p => decide (p.1 = id))).map (·.2)
theorem find_same {os : List (ByteArray × JV)} {rms : List RM} (hl : os.length = rms.length) (hn : ∀ (i : Nat) p q, os[i]? = some p -> rms[i]? = some q -> p.1 = q.name) (id : ByteArray) : os.findIdx? (fun p => decide (p.1 = id)) = rms.findIdx? (nameB id) := by
 induction os generalizing rms with
 | nil =>
   have := List.eq_nil_of_length_eq_zero hl.symm
   subst this
   rfl
 | cons p os ih =>
   cases rms with
   | nil => simp at hl
   | cons q rms =>
     have h0 := hn 0 p q rfl rfl
     have ih := ih (rms := rms) (by simpa using hl) (fun i a b h1 h2 => hn (i + 1) a b (by simpa using h1) (by simpa using h2))
     rw [List.findIdx?_cons, List.findIdx?_cons, ih]
     unfold nameB
     rw [h0]
theorem findJ_some {os : List (ByteArray × JV)} {id : ByteArray} {i : Nat} (h : os.findIdx? (fun p => decide (p.1 = id)) = some i) : ∃ p, os[i]? = some p /\ findJ os id = some p.2 := by
 induction os generalizing i with
 | nil => simp at h
 | cons p os ih =>
   rw [List.findIdx?_cons] at h
   unfold findJ at ih ⊢
   by_cases e : p.1 = id
   ·simp [e] at h
    subst h
    exact ⟨p, rfl, by simp [List.find?_cons, e]⟩
   ·simp [e] at h
    obtain ⟨j, hj, rfl⟩ := h
    obtain ⟨q, h1, h2⟩ := ih hj
    exact ⟨q, by simpa using h1, by simpa [List.find?_cons, e] using h2⟩
theorem findJ_none {os : List (ByteArray × JV)} {id : ByteArray} (h : os.findIdx? (fun p => decide (p.1 = id)) = none) : findJ os id = none := by
 unfold findJ
 rw [List.findIdx?_eq_none_iff] at h
 rw [List.find?_eq_none.2 (fun x hx => by have := h x hx; simpa using this)]
 rfl
def FindRet (w : World) (o : Option JV) (e : Ending) (w' : World) : Prop :=
 ∃ r, e = .returned (.tuple #[RV.val r, .bool o.isSome]) /\ TreeOf w' w'.heap.size (o.getD JV.zero) r /\ Below w.heap.size w w'
def encS (s : ByteArray) : List Value := [.string s]
theorem codecS : Codec encS 1 := ⟨fun _ => rfl, fun x u hu => by
 simp only [encS, List.mem_cons, List.not_mem_nil, or_false] at hu
 subst hu; rfl, by decide⟩
theorem slS : SlT Tryz.prog 38 9 1 16 := SlT.mk (z := .string ByteArray.empty) Tryz.underlying38 (by kernel_rfl) rfl
def IdsRet (w : World) (l : List ByteArray) (e : Ending) (w' : World) : Prop := ∃ u, e = .returned u /\ Own w' w.heap.size 9 encS 1 u l /\ Below w.heap.size w w'
end
section
open Go Go.RowKit Go.OpenShut
theorem TreeOf.kk {w : World} {B : Nat} {t : JV} {r : RV} (h : TreeOf w B t r) : r.k = t.k /\ r.s = t.s := by cases h; exact ⟨rfl, rfl⟩
theorem textM_of (t : JV) (name : ByteArray) : textM t name = if ((t.get name).getD JV.zero).k = 4 then [((t.get name).getD JV.zero).s] else [] := by
 unfold textM
 cases t.get name with
 | none => exact (if_neg (by decide)).symm
 | some x => rfl
def TlOf (w : World) (B : Nat) (v : Value) (l : List JV) : Prop := ∃ rs, Rd w B encV 5 v rs /\ l.length = rs.length /\ ∀ (i : Nat) (t : JV) (q : RV), l[i]? = some t -> rs[i]? = some q -> TreeOf w B t q
theorem TlOf.under {w w' : World} {B B' : Nat} {v : Value} {l : List JV} (h : TlOf w B v l) (hb : Below B w w') (hB : B <= B') : TlOf w' B' v l := by
 obtain ⟨rs, h1, h2, h3⟩ := h
 exact ⟨rs, h1.below hb hB, h2, fun i t q a b => (h3 i t q a b).under hb hB⟩
theorem TlOf.nil (w : World) (B : Nat) : TlOf w B (.slice none 0 0) [] := ⟨[], Rd.nil w B, rfl, fun i t q a _ => by simp at a⟩
theorem TreeOf.tl {w : World} {B : Nat} {t : JV} {r : RV} (h : TreeOf w B t r) : TlOf w B (.slice r.pl r.nl r.cl) t.l := by
 cases h with
 | mk hl el cl hm em cn cm => exact ⟨_, hl, el, cl⟩
def inJ (t : JV) (name : ByteArray) : List JV := match t.get name with | some x => if x.k = 5 then x.l else [] | none => []
theorem inJ_of (t : JV) (name : ByteArray) : inJ t name = if ((t.get name).getD JV.zero).k = 5 then ((t.get name).getD JV.zero).l else [] := by
 unfold inJ
 cases t.get name with
 | none => exact (if_neg (by decide)).symm
 | some x => rfl
theorem text_any (t : JV) (r : RV) (name : ByteArray) (w : World) (B : Nat) (hBw : B <= w.heap.size) (ht : TreeOf w B t r) (ot : t.Ok) :
 Calls Tryz.prog 114 #[r.val, .string name] w (OwnRet w 9 encS 1 (textM t name)) := by
 obtain ⟨W0, hW0⟩ : ∃ W0, w.alloc r.obj = W0 := ⟨_, rfl⟩
 have hA0 : VAt W0 w.heap.size r := by rw [<- hW0]; exact heap_alloc_at rfl
 have hB0 : Below w.heap.size w W0 := by rw [<- hW0]; exact (Below.refl _ _).alloc (Nat.le_refl _) _
 have HC : Hid (Calls Tryz.prog 22 #[r.val, .string name] W0 (GetRetB W0 B (t.get name))) := getB_any t r name W0 B (Nat.le_trans hBw hB0.size) (ht.under (hB0.mono hBw) (Nat.le_refl _)) ot
 have HTX := Lib.hid (textM_of t name)
 obtain ⟨R, hR⟩ : ∃ R, textM t name = R := ⟨_, rfl⟩
 rw [hR] at HTX
 rw [hR]
 obtain ⟨k, n, s, pl, nl, cl, pm, nm, cm⟩ := r
 dsimp only [RV.val, RV.obj] at *
 have HW := Lib.hid hW0
 have HB0 := Lib.hid hB0
 clear hW0 hB0 ht ot hR
 go_enter Tryz.func114, Tryz.ntmps114
 go_upto_region 1 with fail
 rw [HW.out]
 clear HW
 obtain ⟨a0, a1, a2, a3, a4⟩ := hA0.cells5
 go_upto_region 2 with (go_at_call 22; refine HC.out.mono ?_; rintro e w1 ⟨rv, bb, rfl, hbb, ht1, hb1⟩; obtain ⟨rk, rn, rS, rpl, rnl, rcl, rpm, rnm, rcm⟩ := rv)
 obtain ⟨hkk, hss⟩ := ht1.kk
 dsimp only at hkk hss
 have hz1 := hb1.size
 have hb2 : Below W0.heap.size W0 (w1.alloc (.cells #[.int .i64 rk, .int .i64 rn, .string rS, .slice rpl rnl rcl, .slice rpm rnm rcm] 25)) := hb1.alloc hz1 _
 have hv2 : VAt (w1.alloc (.cells #[.int .i64 rk, .int .i64 rn, .string rS, .slice rpl rnl rcl, .slice rpm rnm rcm] 25)) w1.heap.size ⟨rk, rn, rS, rpl, rnl, rcl, rpm, rnm, rcm⟩ := heap_alloc_at rfl
 obtain ⟨g, hg⟩ : ∃ g, w1.heap.size = g := ⟨_, rfl⟩
 obtain ⟨W2, hW2⟩ : ∃ W, w1.alloc (.cells #[.int .i64 rk, .int .i64 rn, .string rS, .slice rpl rnl rcl, .slice rpm rnm rcm] 25) = W := ⟨_, rfl⟩
 rw [hW2] at hb2 hv2
 rw [hg] at hv2
 try rw [hW2]
 try rw [hg]
 obtain ⟨v0, v1, v2, v3, v4⟩ := hv2.cells5
 dsimp only at v0 v1 v2 v3 v4
 have hbw := HB0.out.trans (hb2.mono HB0.out.size)
 have HX := Lib.hid hbw
 clear hW2 hg hb1 ht1 hb2 hv2 hz1 hbw
 by_cases hk4 : rk = 4
 ·subst hk4
  have HR : Hid (R = [rS]) := by unfold Hid; rw [HTX.out, <- hkk, if_pos rfl, hss]
  clear hkk hss
  go_wp2_with fail
  rw [HR.out]
  go_ret
  exact ⟨_, rfl, Own.block codecS (heap_alloc_at rfl) rfl rfl HX.out.size (show 1 <= maxLen by decide), HX.out.alloc HX.out.size _⟩
 ·have q1 : (rk == 4) = false := by simpa using hk4
  have q2 : (rk != 4) = true := by simpa using hk4
  have HR : Hid (R = []) := by unfold Hid; rw [HTX.out, <- hkk, if_neg hk4]
  clear hkk hss
  go_wp2_with fail
  rw [HR.out]
  go_ret
  exact ⟨_, rfl, Own.nil _ _ _, HX.out⟩
theorem in_any (t : JV) (r : RV) (name : ByteArray) (w : World) (B : Nat) (hBw : B <= w.heap.size) (ht : TreeOf w B t r) (ot : t.Ok) :
 Calls Tryz.prog 115 #[r.val, .string name] w fun e w' => ∃ v, e = .returned v /\ TlOf w' B v (inJ t name) /\ Below w.heap.size w w' := by
 obtain ⟨W0, hW0⟩ : ∃ W0, w.alloc r.obj = W0 := ⟨_, rfl⟩
 have hA0 : VAt W0 w.heap.size r := by rw [<- hW0]; exact heap_alloc_at rfl
 have hB0 : Below w.heap.size w W0 := by rw [<- hW0]; exact (Below.refl _ _).alloc (Nat.le_refl _) _
 have HC : Hid (Calls Tryz.prog 22 #[r.val, .string name] W0 (GetRetB W0 B (t.get name))) := getB_any t r name W0 B (Nat.le_trans hBw hB0.size) (ht.under (hB0.mono hBw) (Nat.le_refl _)) ot
 have HTX := Lib.hid (inJ_of t name)
 obtain ⟨R, hR⟩ : ∃ R, inJ t name = R := ⟨_, rfl⟩
 rw [hR] at HTX
 rw [hR]
 obtain ⟨k, n, s, pl, nl, cl, pm, nm, cm⟩ := r
 dsimp only [RV.val, RV.obj] at *
 have HW := Lib.hid hW0
 have HB0 := Lib.hid hB0
 clear hW0 hB0 ht ot hR
 go_enter Tryz.func115, Tryz.ntmps115
 go_upto_region 1 with fail
 rw [HW.out]
 clear HW
 obtain ⟨a0, a1, a2, a3, a4⟩ := hA0.cells5
 go_upto_region 2 with (go_at_call 22; refine HC.out.mono ?_; rintro e w1 ⟨rv, bb, rfl, hbb, ht1, hb1⟩; obtain ⟨rk, rn, rS, rpl, rnl, rcl, rpm, rnm, rcm⟩ := rv)
 obtain ⟨hkk, hss⟩ := ht1.kk
 dsimp only at hkk hss
 have hz1 := hb1.size
 have hb2 : Below W0.heap.size W0 (w1.alloc (.cells #[.int .i64 rk, .int .i64 rn, .string rS, .slice rpl rnl rcl, .slice rpm rnm rcm] 25)) := hb1.alloc hz1 _
 have hv2 : VAt (w1.alloc (.cells #[.int .i64 rk, .int .i64 rn, .string rS, .slice rpl rnl rcl, .slice rpm rnm rcm] 25)) w1.heap.size ⟨rk, rn, rS, rpl, rnl, rcl, rpm, rnm, rcm⟩ := heap_alloc_at rfl
 have ht2 := (ht1.tl).under ((Below.refl B w1).alloc (Nat.le_trans (Nat.le_trans hBw HB0.out.size) hz1) (.cells #[.int .i64 rk, .int .i64 rn, .string rS, .slice rpl rnl rcl, .slice rpm rnm rcm] 25)) (Nat.le_refl _)
 dsimp only at ht2
 obtain ⟨g, hg⟩ : ∃ g, w1.heap.size = g := ⟨_, rfl⟩
 obtain ⟨W2, hW2⟩ : ∃ W, w1.alloc (.cells #[.int .i64 rk, .int .i64 rn, .string rS, .slice rpl rnl rcl, .slice rpm rnm rcm] 25) = W := ⟨_, rfl⟩
 rw [hW2] at hb2 hv2 ht2
 rw [hg] at hv2
 try rw [hW2]
 try rw [hg]
 obtain ⟨v0, v1, v2, v3, v4⟩ := hv2.cells5
 dsimp only at v0 v1 v2 v3 v4
 have hbw := HB0.out.trans (hb2.mono HB0.out.size)
 have HX := Lib.hid hbw
 have HL := Lib.hid ht2
 clear hW2 hg hb1 ht1 hb2 hv2 hz1 hbw ht2
 by_cases hk4 : rk = 5
 ·subst hk4
  have HR : Hid (R = ((t.get name).getD JV.zero).l) := by unfold Hid; rw [HTX.out, <- hkk, if_pos rfl]
  clear hkk hss
  go_wp2_with fail
  rw [HR.out]
  go_ret
  exact ⟨_, rfl, HL.out, HX.out⟩
 ·have q1 : (rk == 5) = false := by simpa using hk4
  have q2 : (rk != 5) = true := by simpa using hk4
  have HR : Hid (R = []) := by unfold Hid; rw [HTX.out, <- hkk, if_neg hk4]
  clear hkk hss
  go_wp2_with fail
  rw [HR.out]
  go_ret
  exact ⟨_, rfl, TlOf.nil _ _, HX.out⟩
end
section
open Go Go.Shelf
def lays110_ren : Go.Shelf.Ren := ⟨fun | 110 => 71 | 109 => 89 | n => n, fun | 31 => 38 | 9 => 9 | 4 => 4 | 3 => 3 | 0 => 0 | n => n, fun | n => n⟩
theorem lays110 : Go.Proofs.Lays.n110 Tryz.prog lays110_ren := {
 mixed := by kernel_rfl
 f109 := Tryz.func89.trans (congrArg some (by kernel_rfl))
 f110 := Tryz.func71.trans (congrArg some (by kernel_rfl))
 t0 := Tryz.underlying0
 a0 := Tryz.isAgg0
 z0 := Tryz.sizeOf0
 v0 := Tryz.zeroValue0
 t3 := Tryz.underlying3
 a3 := Tryz.isAgg3
 z3 := Tryz.sizeOf3
 v3 := Tryz.zeroValue3
 t4 := Tryz.underlying4
 a4 := Tryz.isAgg4
 z4 := Tryz.sizeOf4
 v4 := Tryz.zeroValue4
 t9 := Tryz.underlying9
 a9 := Tryz.isAgg9
 z9 := Tryz.sizeOf9
 v9 := Tryz.zeroValue9
 t31 := Tryz.underlying38
 a31 := Tryz.isAgg38
 z31 := Tryz.sizeOf38
 v31 := Tryz.zeroValue38 }
open Go.Lib in
theorem slices_Contains_string (b off n c : Nat) (zs : List ByteArray) (x : ByteArray) (w : World) (hz : n <= zs.length) (hbig : n <= 9223372036854775807) (hc : ∀ j, j < zs.length -> w.cell? ⟨b, off + j, none⟩ = some (.string (zs.getD j ByteArray.empty))) :
 Calls Tryz.prog 71 #[.slice (some ⟨b, off, none⟩) n c, .string x] w fun e w' => e = .returned (.bool (Lib.containsS (zs.take n) x)) /\ w' = w := Any.slices_Contains_string lays110 b off n c zs x w hz hbig hc
open Go.Lib in
theorem slices_Contains_string_empty (a : Option Addr) (c : Nat) (x : ByteArray) (w : World) :
 Calls Tryz.prog 71 #[.slice a 0 c, .string x] w fun e w' => e = .returned (.bool false) /\ w' = w := Any.slices_Contains_string_empty lays110 a c x w
end
section
open Go Go.RowKit Go.OpenShut
def anyV (pb : RV -> Bool) (rs : List RV) : Bool := rs.any pb
theorem anyV_idx (pb : RV -> Bool) (rs : List RV) : anyV pb rs = (rs.findIdx? pb).isSome := by
 unfold anyV
 rw [List.findIdx?_isSome]
def mayK (c : Nat) (t : JV) : Bool :=
 if t.k = 1 then decide (c ≠ 105) && decide (c ≠ 115) && decide (c ≠ 118)
 else if c = 105 \/ c = 73 then decide (t.k = 4) && idB t.s
 else if c = 115 then decide (t.k = 4)
 else if c = 119 then true
 else if c = 108 then decide (t.k = 5) && t.l.all (fun x => decide (x.k = 4) && idB x.s)
 else if c = 116 then decide (t.k = 5) && t.l.all (fun x => decide (x.k = 4) && true)
 else if c = 110 then decide (t.k = 3) && decide (0 <= t.n)
 else if c = 112 then decide (t.k = 3) && decide (1 <= t.n)
 else if c = 122 then decide (t.k = 3)
 else if c = 98 then decide (t.k = 2)
 else false
def letters : List Nat := [105, 73, 115, 108, 116, 119, 110, 112, 122, 98]
theorem TreeOf.head {w : World} {B : Nat} {t : JV} {r : RV} (h : TreeOf w B t r) : t.k = r.k /\ t.n = r.n /\ t.s = r.s := by
 cases h with
 | mk hl el hcl hm em hcn hcm => exact ⟨rfl, rfl, rfl⟩
theorem TreeOf.lst {w : World} {B : Nat} {t : JV} {r : RV} (h : TreeOf w B t r) : ∃ rs, Rd w B encV 5 (.slice r.pl r.nl r.cl) rs /\ t.l.length = rs.length /\ ∀ (i : Nat) x q, t.l[i]? = some x -> rs[i]? = some q -> TreeOf w B x q := by
 cases h with
 | mk hl el hcl hm em hcn hcm => exact ⟨_, hl, el, hcl⟩
theorem all_same {l : List JV} {rs : List RV} {p : JV -> Bool} {q : RV -> Bool} (hlen : l.length = rs.length) (h : ∀ (i : Nat) x y, l[i]? = some x -> rs[i]? = some y -> p x = q y) : l.all p = rs.all q := by
 induction l generalizing rs with
 | nil => cases rs with
   | nil => rfl
   | cons a b => simp at hlen
 | cons a l ih => cases rs with
   | nil => simp at hlen
   | cons b rs =>
     rw [List.all_cons, List.all_cons, h 0 a b rfl rfl, ih (by simpa using hlen) (fun i x y h1 h2 => h (i + 1) x y (by simpa using h1) (by simpa using h2))]
theorem JV.Ok.at_l {t : JV} (h : t.Ok) {i : Nat} {x : JV} (hx : t.l[i]? = some x) : x.Ok := by
 cases h with
 | mk _ _ _ _ _ cl _ _ => exact cl i x hx
theorem JV.Ok.s_le {t : JV} (h : t.Ok) : t.s.size <= 140737488351232 /\ t.l.length <= 1759218604390 := by
 cases h with
 | mk _ _ hs hl _ _ _ _ => exact ⟨hs, hl⟩
def inB (l : List ByteArray) (x : ByteArray) : Bool := l.any (fun y => decide (y = x))
theorem inB_iff {l : List ByteArray} {x : ByteArray} : inB l x = true ↔ x ∈ l := by
 unfold inB
 rw [List.any_eq_true]
 constructor
 ·rintro ⟨y, hy, h⟩
  have : y = x := of_decide_eq_true h
  subst this
  exact hy
 ·intro h
  exact ⟨x, h, decide_eq_true rfl⟩
theorem containsS_dec (l : List ByteArray) (x : ByteArray) : Lib.containsS l x = inB l x := by
 have h := Lib.containsS_iff l x
 cases hx : inB l x with
 | true => exact h.2 (inB_iff.1 hx)
 | false =>
   cases hc : Lib.containsS l x with
   | false => rfl
   | true =>
     have h2 := inB_iff.2 (h.1 hc)
     rw [hx] at h2
     cases h2
theorem containsS_rd {w : World} {B : Nat} {p : Option Addr} {n c : Nat} {l : List ByteArray} (hr : Rd w B encS 1 (.slice p n c) l) (hn : l.length <= 1000000) (x : ByteArray) : Calls Tryz.prog 71 #[.slice p n c, .string x] w fun e w' => e = .returned (.bool (inB l x)) /\ w' = w := by
 have hnl := rd_nlen hr
 by_cases h0 : 0 < l.length
 ·obtain ⟨x0, hx0⟩ : ∃ x, l[0]? = some x := ⟨_, List.getElem?_eq_getElem h0⟩
  obtain ⟨b1, o1, rfl, hb1, _⟩ := rd_at' hr hx0
  refine (slices_Contains_string b1 o1 n c l x w (by omega) (by omega) (fun j hj => ?_)).mono (fun e w' h => ⟨?_, h.2⟩)
  ·obtain ⟨y, hy⟩ : ∃ y, l[j]? = some y := ⟨_, List.getElem?_eq_getElem hj⟩
   obtain ⟨b2, o2, he, _, hc2⟩ := rd_at' hr hy
   injection he with he
   injection he with h1 h2
   subst h1 h2
   have h3 := hc2 0 _ rfl
   rw [Nat.add_zero, Nat.mul_one] at h3
   rw [h3, List.getD_eq_getElem?_getD, hy]
   rfl
  ·rw [h.1, List.take_of_length_le (by omega), containsS_dec]
 ·have : l = [] := List.eq_nil_of_length_eq_zero (by omega)
  subst this
  simp only [List.length_nil] at hnl
  subst hnl
  refine (slices_Contains_string_empty p c x w).mono (fun e w' h => ⟨?_, h.2⟩)
  rw [h.1]
  rfl
def partOk (kind : ByteArray) (c : JV) : Bool := decide (kind.size = 0) || decide (textM c kindN = [kind])
def partsL (cs : List JV) (kind : ByteArray) : List ByteArray := (cs.filter (partOk kind)).flatMap (fun c => textM c valueN)
theorem partsJ_of (t : JV) (kind : ByteArray) : partsJ t kind = partsL (inJ t compN) kind := by
 unfold partsJ partsL inJ
 cases t.get compN with
 | none => rfl
 | some x =>
   dsimp only
   by_cases h : x.k = 5
   ·rw [if_pos h, if_pos h]; rfl
   ·rw [if_neg h, if_neg h]; rfl
theorem textM_len (t : JV) (name : ByteArray) : (textM t name).length <= 1 := by rw [textM_of]; split <;> simp
theorem partsL_succ {cs : List JV} {kind : ByteArray} {k : Nat} {c : JV} (h : cs[k]? = some c) : partsL (cs.take (k + 1)) kind = partsL (cs.take k) kind ++ (if partOk kind c then textM c valueN else []) := by
 unfold partsL
 rw [List.take_add_one, h, Option.toList_some, List.filter_append, List.flatMap_append]
 congr 1
 cases hp : partOk kind c
 ·rw [List.filter_cons, hp]; rfl
 ·rw [List.filter_cons, hp]; simp
theorem partsL_len (cs : List JV) (kind : ByteArray) : (partsL cs kind).length <= cs.length := by
 unfold partsL
 induction cs with
 | nil => simp
 | cons a r ih =>
   rw [List.filter_cons]
   split
   ·rw [List.flatMap_cons, List.length_append, List.length_cons]
    have := textM_len a valueN
    omega
   ·rw [List.length_cons]
    omega
theorem textM_in (c : JV) (name x : ByteArray) : inB (textM c name) x = decide (textM c name = [x]) := by
 rw [textM_of]
 unfold inB
 split
 ·simp
 ·simp
theorem JV.Ok.get {t x : JV} {name : ByteArray} (h : t.Ok) (hx : t.get name = some x) : x.Ok := by
 unfold JV.get at hx
 cases hp : t.place name with
 | none => rw [hp] at hx; cases hx
 | some i =>
   obtain ⟨p, h1, _, h3⟩ := place_mem hp
   have e : t.get name = some p.2 := h3
   unfold JV.get at e
   rw [hx] at e
   injection e with e
   subst e
   cases h with
   | mk _ _ _ _ _ _ _ cm => exact cm i p h1
theorem inJ_ok {t : JV} {name : ByteArray} (h : t.Ok) : (inJ t name).length <= 1759218604390 /\ ∀ (i : Nat) (x : JV), (inJ t name)[i]? = some x -> x.Ok := by
 unfold inJ
 cases hx : t.get name with
 | none => exact ⟨by simp, fun i x a => by simp at a⟩
 | some v =>
   dsimp only
   have hv := h.get hx
   split
   ·exact ⟨hv.s_le.2, fun i x a => hv.at_l a⟩
   ·exact ⟨by simp, fun i x a => by simp at a⟩
theorem parts_any (t : JV) (r : RV) (kind : ByteArray) (w : World) (B : Nat) (hBw : B <= w.heap.size) (ht : TreeOf w B t r) (ot : t.Ok) (hk : kind.size <= maxLen) :
 Calls Tryz.prog 111 #[r.val, .string kind] w (OwnRet w 9 encS 1 (partsJ t kind)) := by
 obtain ⟨W0, hW0⟩ : ∃ W0, w.alloc r.obj = W0 := ⟨_, rfl⟩
 have hA0 : VAt W0 w.heap.size r := by rw [<- hW0]; exact heap_alloc_at rfl
 have hB0 : Below w.heap.size w W0 := by rw [<- hW0]; exact (Below.refl _ _).alloc (Nat.le_refl _) _
 have HC : Hid (Calls Tryz.prog 115 #[r.val, .string compN] W0 fun e w' => ∃ v, e = .returned v /\ TlOf w' B v (inJ t compN) /\ Below W0.heap.size W0 w') := in_any t r compN W0 B (Nat.le_trans hBw hB0.size) (ht.under (hB0.mono hBw) (Nat.le_refl _)) ot
 obtain ⟨hcl, hco⟩ := inJ_ok (name := compN) ot
 rw [partsJ_of]
 obtain ⟨cs, hcs⟩ : ∃ cs, inJ t compN = cs := ⟨_, rfl⟩
 rw [hcs] at HC hcl hco
 rw [hcs]
 unfold compN at HC
 obtain ⟨k, n, s, pl, nl, cl, pm, nm, cm⟩ := r
 dsimp only [RV.val, RV.obj] at *
 have HW := Lib.hid hW0
 have HB0 := Lib.hid hB0
 have HCO := Lib.hid hco
 have hbz := hB0.size
 clear hW0 hB0 ht ot hcs hco
 obtain ⟨kz, hkz⟩ : ∃ b, (kind.toList == []) = b := ⟨_, rfl⟩
 have HKZ : Hid (decide (kind.size = 0) = kz) := by
  unfold Hid
  rw [<- hkz, ByteArray.toList_eq, <- str_len]
  cases kind.data.toList with
  | nil => rfl
  | cons a r => rfl
 have hw0 := HB0.out.size
 go_enter Tryz.func111, Tryz.ntmps111
 go_upto_region 2 with fail
 rw [HW.out]
 clear HW
 obtain ⟨a0, a1, a2, a3, a4⟩ := hA0.cells5
 go_wp2_with (go_at_call 115; refine HC.out.mono ?_; rintro e w1 ⟨v9, rfl, ⟨rs, hr, hlen, htl⟩, hb1⟩; obtain ⟨p9, n9, c9, rfl⟩ : ∃ p n c, v9 = Value.slice p n c := by (obtain ⟨p, c, h, _⟩ := hr; exact ⟨p, _, c, h⟩))
 have hn9 := rd_nlen hr
 have HN : Hid (cs.length = n9) := by unfold Hid; omega
 have hno : n9 <= 1759218604390 := by omega
 have HTL := Lib.hid htl
 have HRD := Lib.hid hr
 have hrl : rs.length = n9 := hn9.symm
 have hbw1 := HB0.out.trans (hb1.mono hbz)
 have HBW := Lib.hid hbw1
 have hw1 := hbw1.size
 have hBw1 : B <= w1.heap.size := Nat.le_trans hBw hw1
 clear hr htl hb1 hbw1 hn9 hlen hcl a0 a1 a2 a3 a4 hA0 HC HB0 hbz
 go_loopw [5, 11] (fun u i wr => ∃ j : Nat, j <= n9 /\ i = .int .i64 (j : Int) /\ Hid (Own wr w1.heap.size 9 encS 1 u (partsL (cs.take j) kind) /\ Below w1.heap.size w1 wr)) (fun _ i _ => n9 - (intOf i).toNat)
 case atStart => exact ⟨0, by omega, rfl, by rw [List.take_zero]; exact Own.nil _ _ _, Below.refl _ _⟩
 case round =>
  obtain ⟨j, hj, rfl, hH⟩ := hrel
  obtain ⟨hO, hbr⟩ := hH.out
  clear hH
  by_cases hlt : j < n9
  ·obtain ⟨y, hy⟩ : ∃ y, cs[j]? = some y := ⟨_, List.getElem?_eq_getElem (by have := HN.out; omega)⟩
   obtain ⟨⟨xk, xn, xs, xpl, xnl, xcl, xpm, xnm, xcm⟩, hx⟩ : ∃ x, rs[j]? = some x := ⟨_, List.getElem?_eq_getElem (by omega)⟩
   have hyok := HCO.out j y hy
   have hty := HTL.out j y _ hy hx
   have HPS := Lib.hid (partsL_succ (kind := kind) hy)
   have hpl : (partsL (cs.take j) kind).length <= j := Nat.le_trans (partsL_len _ _) (List.length_take_le _ _)
   obtain ⟨b1, o1, rfl, hb1, hc1⟩ := rd_at' (HRD.out.below (hbr.mono hBw1) (Nat.le_refl _)) hx
   have f0 := hc1 0 _ rfl
   have f1 := hc1 1 _ rfl
   have f2 := hc1 2 _ rfl
   have f3 := hc1 3 _ rfl
   have f4 := hc1 4 _ rfl
   rw [Nat.add_zero] at f0
   dsimp only at f0 f1 f2 f3 f4
   have hj0 : (0 : Int) <= (j : Int) := Int.natCast_nonneg _
   have hj1 : (j : Int) < (n9 : Int) := by omega
   have hb2 : Below w1.heap.size w1 (wr.alloc (.cells #[.int .i64 xk, .int .i64 xn, .string xs, .slice xpl xnl xcl, .slice xpm xnm xcm] 25)) := hbr.alloc hbr.size _
   have hO1 := hO.alloc (.cells #[.int .i64 xk, .int .i64 xn, .string xs, .slice xpl xnl xcl, .slice xpm xnm xcm] 25)
   have hTy : TreeOf (wr.alloc (.cells #[.int .i64 xk, .int .i64 xn, .string xs, .slice xpl xnl xcl, .slice xpm xnm xcm] 25)) B y ⟨xk, xn, xs, xpl, xnl, xcl, xpm, xnm, xcm⟩ := hty.under (hb2.mono hBw1) (Nat.le_refl _)
   have hV1 : VAt (wr.alloc (.cells #[.int .i64 xk, .int .i64 xn, .string xs, .slice xpl xnl xcl, .slice xpm xnm xcm] 25)) wr.heap.size ⟨xk, xn, xs, xpl, xnl, xcl, xpm, xnm, xcm⟩ := heap_alloc_at rfl
   obtain ⟨L, hL⟩ : ∃ L, partsL (cs.take j) kind = L := ⟨_, rfl⟩
   obtain ⟨LK, hLK⟩ : ∃ L, textM y kindN = L := ⟨_, rfl⟩
   obtain ⟨LV, hLV⟩ : ∃ L, textM y valueN = L := ⟨_, rfl⟩
   have hk1 := textM_len y kindN
   have hv1 := textM_len y valueN
   have hin := textM_in y kindN kind
   have hpo : partOk kind y = (kz || decide (LK = [kind])) := by unfold partOk; rw [HKZ.out, hLK]
   rw [hLK] at hk1 hin
   rw [hLV] at hv1 HPS
   rw [hL] at hO1 hpl HPS
   have HLN : Hid (L.length + LV.length <= maxLen /\ (L.length + LV.length) * 16 <= 140737488355328) := ⟨by unfold maxLen; omega, by omega⟩
   have HTK : Hid (∀ W, Below w1.heap.size (wr.alloc (.cells #[.int .i64 xk, .int .i64 xn, .string xs, .slice xpl xnl xcl, .slice xpm xnm xcm] 25)) W -> (wr.alloc (.cells #[.int .i64 xk, .int .i64 xn, .string xs, .slice xpl xnl xcl, .slice xpm xnm xcm] 25)).heap.size <= W.heap.size -> Calls Tryz.prog 114 #[.agg #[.int .i64 xk, .int .i64 xn, .string xs, .slice xpl xnl xcl, .slice xpm xnm xcm], .string kindN] W (OwnRet W 9 encS 1 LK)) := fun W hW hs => by
    have h := text_any y ⟨xk, xn, xs, xpl, xnl, xcl, xpm, xnm, xcm⟩ kindN W B (Nat.le_trans hBw1 (Nat.le_trans hb2.size hs)) (hTy.under (hW.mono hBw1) (Nat.le_refl _)) hyok
    rw [hLK] at h
    exact h
   have HTV : Hid (∀ W, Below w1.heap.size (wr.alloc (.cells #[.int .i64 xk, .int .i64 xn, .string xs, .slice xpl xnl xcl, .slice xpm xnm xcm] 25)) W -> (wr.alloc (.cells #[.int .i64 xk, .int .i64 xn, .string xs, .slice xpl xnl xcl, .slice xpm xnm xcm] 25)).heap.size <= W.heap.size -> Calls Tryz.prog 114 #[.agg #[.int .i64 xk, .int .i64 xn, .string xs, .slice xpl xnl xcl, .slice xpm xnm xcm], .string valueN] W (OwnRet W 9 encS 1 LV)) := fun W hW hs => by
    have h := text_any y ⟨xk, xn, xs, xpl, xnl, xcl, xpm, xnm, xcm⟩ valueN W B (Nat.le_trans hBw1 (Nat.le_trans hb2.size hs)) (hTy.under (hW.mono hBw1) (Nat.le_refl _)) hyok
    rw [hLV] at h
    exact h
   obtain ⟨d, hd⟩ : ∃ d, inB LK kind = d := ⟨_, rfl⟩
   have HCT : Hid (∀ p n c W, Rd W W.heap.size encS 1 (.slice p n c) LK -> Calls Tryz.prog 71 #[.slice p n c, .string kind] W fun e w' => e = .returned (.bool d) /\ W = w') := fun p n c W h => (containsS_rd h (by omega) kind).mono (fun e w' h => ⟨by rw [h.1, hd], h.2.symm⟩)
   rw [hd] at hin
   rw [<- hin] at hpo
   have HPO := Lib.hid hpo
   have HO1 := Lib.hid hO1
   have HB2 := Lib.hid hb2
   have hz1 : w1.heap.size <= (wr.alloc (.cells #[.int .i64 xk, .int .i64 xn, .string xs, .slice xpl xnl xcl, .slice xpm xnm xcm] 25)).heap.size := hb2.size
   unfold kindN at HTK
   unfold valueN at HTV
   clear hpo hin hd hL hLK hLV hTy hO hbr hc1 hx hy hty hyok hO1 hb2
   cases kz with
   | true =>
     go_upto_region 5 with fail
     obtain ⟨W1, hW1⟩ : ∃ W, wr.alloc (.cells #[.int .i64 xk, .int .i64 xn, .string xs, .slice xpl xnl xcl, .slice xpm xnm xcm] 25) = W := ⟨_, rfl⟩
     obtain ⟨g7, hg7⟩ : ∃ g, wr.heap.size = g := ⟨_, rfl⟩
     rw [hW1] at HTK HTV HO1 HB2 hz1
     rw [hW1, hg7] at hV1
     try rw [hW1]
     try rw [hg7]
     clear hW1 hg7
     obtain ⟨e0, e1, e2, e3, e4⟩ := hV1.cells5
     dsimp only at e0 e1 e2 e3 e4
     have HTV1 := Lib.hid (HTV.out W1 (Below.refl _ _) (Nat.le_refl _))
     go_wp2_with (first
      | (go_at_call 114; (with_reducible refine HTV1.out.mono ?_); rintro e w2 ⟨u2, rfl, ho2, hb2⟩; (have ho3 := HO1.out.below hb2 (Nat.le_refl _)); (have hz2 : w1.heap.size <= w2.heap.size := Nat.le_trans hz1 hb2.size))
      | (at_builtin; refine wpList_append_rd slS codecS w2 rfl (.tmp 23) (.tmp 25) rfl (v := u5) rfl rfl ho3 (ho2.rd codecS) HLN.out.1 HLN.out.2 (by omega) ?_; intro v8 w8 ho8 hg8 hat8)
      | fail)
     go_roundw
     case rel =>
      refine ⟨j + 1, by omega, by go_num, ?_, Below.appended (HB2.out.trans (hb2.mono hz1)) hg8 ho3 hz2⟩
      rw [HPS.out, if_pos (by rw [HPO.out]; rfl)]
      exact ho8
     case measure => simp [intOf]; omega
   | false =>
     cases d with
     | true =>
       go_upto_region 5 with fail
       obtain ⟨W1, hW1⟩ : ∃ W, wr.alloc (.cells #[.int .i64 xk, .int .i64 xn, .string xs, .slice xpl xnl xcl, .slice xpm xnm xcm] 25) = W := ⟨_, rfl⟩
       obtain ⟨g7, hg7⟩ : ∃ g, wr.heap.size = g := ⟨_, rfl⟩
       rw [hW1] at HTK HTV HO1 HB2 hz1
       rw [hW1, hg7] at hV1
       try rw [hW1]
       try rw [hg7]
       clear hW1 hg7
       have hV1l := hV1.lt
       obtain ⟨e0, e1, e2, e3, e4⟩ := hV1.cells5
       dsimp only at e0 e1 e2 e3 e4
       have HTK1 := Lib.hid (HTK.out W1 (Below.refl _ _) (Nat.le_refl _))
       go_wp2_with (first
        | (go_at_call 114; (with_reducible refine HTK1.out.mono ?_); rintro e w2 ⟨u2, rfl, ho2, hb2⟩; (have ho3 := HO1.out.below hb2 (Nat.le_refl _)); (have hz2 : W1.heap.size <= w2.heap.size := hb2.size); obtain ⟨p2, n2, c2, rfl⟩ : ∃ p n c, u2 = Value.slice p n c := by (obtain ⟨p, c, hv, _, _⟩ := ho2.len; exact ⟨p, _, c, hv⟩))
        | (go_at_call 71; refine (HCT.out _ _ _ _ (ho2.rd codecS)).mono ?_; rintro e w3 ⟨rfl, rfl⟩; (have hV2 := hV1.under hb2 hV1l); (obtain ⟨g0, g1, g2, g3, g4⟩ := hV2.cells5); dsimp only at g0 g1 g2 g3 g4)
        | (go_at_call 114; (have HV2 := HTV.out w2 (hb2.mono hz1) hz2); (with_reducible refine HV2.mono ?_); rintro e w4 ⟨u4, rfl, ho4, hb4⟩; (have ho5 := ho3.below hb4 (Nat.le_refl _)); (have hz4 : w2.heap.size <= w4.heap.size := hb4.size))
        | (at_builtin; refine wpList_append_rd slS codecS w4 rfl (.tmp 23) (.tmp 25) rfl (v := u5) rfl rfl ho5 (ho4.rd codecS) HLN.out.1 HLN.out.2 (by omega) ?_; intro v8 w8 ho8 hg8 hat8)
        | fail)
       go_roundw
       case rel =>
        have hbb := HB2.out.trans (hb2.mono hz1)
        refine ⟨j + 1, by omega, by go_num, ?_, Below.appended (hbb.trans (hb4.mono (Nat.le_trans hz1 hz2))) hg8 ho5 (by omega)⟩
        rw [HPS.out, if_pos (by rw [HPO.out]; rfl)]
        exact ho8
       case measure => simp [intOf]; omega
     | false =>
       go_upto_region 5 with fail
       obtain ⟨W1, hW1⟩ : ∃ W, wr.alloc (.cells #[.int .i64 xk, .int .i64 xn, .string xs, .slice xpl xnl xcl, .slice xpm xnm xcm] 25) = W := ⟨_, rfl⟩
       obtain ⟨g7, hg7⟩ : ∃ g, wr.heap.size = g := ⟨_, rfl⟩
       rw [hW1] at HTK HTV HO1 HB2 hz1
       rw [hW1, hg7] at hV1
       try rw [hW1]
       try rw [hg7]
       clear hW1 hg7
       obtain ⟨e0, e1, e2, e3, e4⟩ := hV1.cells5
       dsimp only at e0 e1 e2 e3 e4
       have HTK1 := Lib.hid (HTK.out W1 (Below.refl _ _) (Nat.le_refl _))
       go_wp2_with (first
        | (go_at_call 114; (with_reducible refine HTK1.out.mono ?_); rintro e w2 ⟨u2, rfl, ho2, hb2⟩; (have ho3 := HO1.out.below hb2 (Nat.le_refl _)); (have hz2 : W1.heap.size <= w2.heap.size := hb2.size); obtain ⟨p2, n2, c2, rfl⟩ : ∃ p n c, u2 = Value.slice p n c := by (obtain ⟨p, c, hv, _, _⟩ := ho2.len; exact ⟨p, _, c, hv⟩))
        | (go_at_call 71; refine (HCT.out _ _ _ _ (ho2.rd codecS)).mono ?_; rintro e w3 ⟨rfl, rfl⟩)
        | fail)
       go_roundw
       case rel =>
        refine ⟨j + 1, by omega, by go_num, ?_, HB2.out.trans (hb2.mono hz1)⟩
        rw [HPS.out, if_neg (by rw [HPO.out]; decide), List.append_nil]
        exact ho3
       case measure => simp [intOf]; omega
  ·obtain rfl : j = n9 := by omega
   have hta : cs.take j = cs := List.take_of_length_le (by have := HN.out; omega)
   rw [hta] at hO
   have HX := Lib.hid (And.intro (hO.mono hw1) (HBW.out.trans (hbr.mono hw1)))
   clear hO hbr hta
   go_wp2_with fail
   go_ret
   exact ⟨_, rfl, HX.out.1, HX.out.2⟩
end
end Go.Proofs.YtjhginendpjimaaGreatDoor
