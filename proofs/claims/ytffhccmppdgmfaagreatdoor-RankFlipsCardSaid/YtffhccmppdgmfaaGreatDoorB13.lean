import Derived.Test.YtffhccmppdgmfaaGreatDoorB00
import Derived.ProofKit
import Derived.Below
import Derived.Test.YtffhccmppdgmfaaGreatDoorProg
import Derived.WalkKit
import Derived.WalkSpells
import Derived.WalkLawsBesides
import Derived.BigQuiet
import Derived.Deep.QuietTactic
import Derived.Lib.Hide
import Derived.Test.YtffhccmppdgmfaaGreatDoorB03
import Derived.OpenShut
set_option linter.unusedSimpArgs false
set_option linter.unusedVariables false
set_option maxRecDepth 200000
set_option maxHeartbeats 8000000
namespace Go.Proofs.YtffhccmppdgmfaaGreatDoor
section
open Go Go.RowKit Go.ChangeShapes Go.WideShapes Go.Deep
section
variable {H : Type} {enc : TypeId × Value -> H} {W : World} {base b0 : Nat} {spare : Nat -> Bool} {held : Bool}
theorem cel1 : Tryz.prog.cellsOf 2 = 1 := by kernel_rfl
theorem cel2 : Tryz.prog.cellsOf 3 = 1 := by kernel_rfl
theorem cel3 : Tryz.prog.cellsOf 9 = 1 := by kernel_rfl
theorem cel4 : Tryz.prog.cellsOf 22 = 1 := by kernel_rfl
theorem cel5 : Tryz.prog.cellsOf 23 = 1 := by kernel_rfl
theorem weights_string {t : TypeId} {s : ByteArray} {R : Nat} (h : ∀ n ∈ (DataW.lit (H := H) (.string s.data.toList)).weights Tryz.prog t, n <= R) : s.size <= R := by
 have := h s.data.toList.length (by simp [DataW.weights])
 simpa using this
theorem open_val : ∀ (fuel : Nat) (cs : List Value) (x : DataW H × List MemPlace), DataW.trod enc Tryz.prog W base spare held fuel 25 cs = some x ->
 ∃ r t, cs = encV r /\ TreeOf W W.heap.size t r /\ ((∀ n ∈ x.1.weights Tryz.prog 25, n <= 140737488351232) -> t.Ok) := by
 intro fuel
 induction fuel using Nat.strongRecOn with
 | ind fuel ih =>
   intro cs x h
   obtain ⟨y0, y1, y2, y3, y4, n, rfl, hx1, hlen, t0, t1, t2, t3, t4⟩ := trodF5 Tryz.underlying25 h
   rw [cellsV] at hlen
   obtain ⟨c0, c1, c2, c3, c4, rfl⟩ : ∃ c0 c1 c2 c3 c4, cs = [c0, c1, c2, c3, c4] := by
    match cs, hlen with
    | [a, b, c, d, e], _ => exact ⟨a, b, c, d, e, rfl⟩
   rw [hx1]
   dsimp only at t0 t1 t2 t3 t4
   rw [cel2] at t0
   rw [cel1] at t1
   rw [cel3] at t2
   rw [cel4] at t3
   rw [cel5] at t4
   simp only [List.drop_zero, List.drop_succ_cons, List.take_succ_cons, List.take_zero] at t0 t1 t2 t3 t4
   obtain ⟨k, e0, f0, w0⟩ := DataW.trod_int Tryz.underlying3 t0
   obtain ⟨n', e1, f1, w1⟩ := DataW.trod_int Tryz.underlying2 t1
   obtain ⟨s, e2, f2, w2⟩ := DataW.trod_string Tryz.underlying9 t2
   simp only [List.cons.injEq, and_true] at e0 e1 e2
   subst e0 e1 e2 f0 f1 f2
   obtain ⟨pl, nl, cl, rs, e3, hr3, hd3⟩ := open_list (Q := fun (r : RV) (d : DataW H) => ∃ t, TreeOf W W.heap.size t r /\ ((∀ n ∈ d.weights Tryz.prog 25, n <= 140737488351232) -> t.Ok)) Tryz.underlying22 cellsV codecV t3
    (fun m hm cs y hy => by
     obtain ⟨r, t, h1, h2⟩ := ih m (by omega) cs y hy
     exact ⟨r, h1, t, h2⟩)
   obtain ⟨pm, nm, cm, rms, e4, hr4, hd4⟩ := open_list (Q := fun (r : RM) (d : DataW H) => ∃ t, TreeOf W W.heap.size t r.v /\ ((∀ n ∈ d.weights Tryz.prog 32, n <= 140737488351232) -> r.name.size <= 140737488351232 /\ t.Ok)) Tryz.underlying23 cellsM codecM t4
    (fun m hm cs y hy => by
     obtain ⟨z0, z1, j, rfl, hy1, hlen, u0, u1⟩ := trodF2 Tryz.underlying32 hy
     rw [cellsM] at hlen
     obtain ⟨a0, a1, a2, a3, a4, a5, rfl⟩ : ∃ a0 a1 a2 a3 a4 a5, cs = [a0, a1, a2, a3, a4, a5] := by
      match cs, hlen with
      | [a, b, c, d, e, f], _ => exact ⟨a, b, c, d, e, f, rfl⟩
     rw [hy1]
     dsimp only at u0 u1
     rw [cel3] at u0
     rw [cellsV] at u1
     simp only [List.drop_zero, List.drop_succ_cons, List.take_succ_cons, List.take_zero] at u0 u1
     obtain ⟨nm, g0, g1, g2⟩ := DataW.trod_string Tryz.underlying9 u0
     simp only [List.cons.injEq, and_true] at g0
     subst g0 g1
     obtain ⟨r, t, h1, h2, h3⟩ := ih j (by omega) _ _ u1
     refine ⟨⟨nm, r⟩, by rw [h1]; rfl, t, h2, fun hw => ⟨weights_string (weights_struct Tryz.underlying32 hw (i := 0) rfl rfl), h3 (weights_struct Tryz.underlying32 hw (i := 1) rfl rfl)⟩⟩)
   simp only [List.cons.injEq, and_true] at e3 e4
   subst e3 e4
   have nl_eq : nl = rs.length := by
    obtain ⟨_, _, e, _⟩ := hr3
    simp only [Value.slice.injEq] at e; exact e.2.1
   have nm_eq : nm = rms.length := by
    obtain ⟨_, _, e, _⟩ := hr4
    simp only [Value.slice.injEq] at e; exact e.2.1
   have hL : ∀ i, i < rs.length -> ∃ t : JV, ∀ q, rs[i]? = some q -> TreeOf W W.heap.size t q /\ ((∀ n ∈ y3.1.weights Tryz.prog 22, n <= 140737488351232) -> t.Ok) := by
    intro i hi
    obtain ⟨q, hq⟩ : ∃ q, rs[i]? = some q := ⟨_, List.getElem?_eq_getElem hi⟩
    rcases hd3 with ⟨rfl, _⟩ | ⟨es, sp, h1, h2, h3⟩
    ·simp at hi
    ·obtain ⟨d, hd, t, ht1, ht2⟩ := h3 i q hq
     refine ⟨t, fun q' hq' => ?_⟩
     rw [hq] at hq'
     cases hq'
     refine ⟨ht1, fun hw => ht2 ?_⟩
     rw [h1] at hw
     exact (weights_slice Tryz.underlying22 hw).2 d (List.mem_of_getElem? hd)
   have hM : ∀ i, i < rms.length -> ∃ p : ByteArray × JV, ∀ q, rms[i]? = some q -> p.1 = q.name /\ TreeOf W W.heap.size p.2 q.v /\ ((∀ n ∈ y4.1.weights Tryz.prog 23, n <= 140737488351232) -> p.1.size <= 140737488351232 /\ p.2.Ok) := by
    intro i hi
    obtain ⟨q, hq⟩ : ∃ q, rms[i]? = some q := ⟨_, List.getElem?_eq_getElem hi⟩
    rcases hd4 with ⟨rfl, _⟩ | ⟨es, sp, h1, h2, h3⟩
    ·simp at hi
    ·obtain ⟨d, hd, t, ht1, ht2⟩ := h3 i q hq
     refine ⟨(q.name, t), fun q' hq' => ?_⟩
     rw [hq] at hq'
     cases hq'
     refine ⟨rfl, ht1, fun hw => ht2 ?_⟩
     rw [h1] at hw
     exact (weights_slice Tryz.underlying23 hw).2 d (List.mem_of_getElem? hd)
   obtain ⟨ts, hts, hts2⟩ := list_of rs.length hL
   obtain ⟨ps, hps, hps2⟩ := list_of rms.length hM
   refine ⟨⟨k, n', s, pl, nl, cl, pm, nm, cm⟩, .mk k n' s ts ps, rfl, ?_, fun hw => ?_⟩
   ·exact TreeOf.mk (r := ⟨k, n', s, pl, nl, cl, pm, nm, cm⟩) hr3 hts (fun i t q h1 h2 => (hts2 i t h1 q h2).1) hr4 hps (fun i p q h1 h2 => (hps2 i p h1 q h2).1) (fun i p q h1 h2 => (hps2 i p h1 q h2).2.1)
   ·have v2 := weights_string (weights_struct Tryz.underlying25 hw (i := 2) rfl rfl)
    have v3 : ∀ n ∈ y3.1.weights Tryz.prog 22, n <= 140737488351232 := weights_struct Tryz.underlying25 hw (i := 3) rfl rfl
    have v4 : ∀ n ∈ y4.1.weights Tryz.prog 23, n <= 140737488351232 := weights_struct Tryz.underlying25 hw (i := 4) rfl rfl
    refine .mk w0 w1 v2 ?_ ?_ (fun i x hx => ?_) (fun i p hp => ?_) (fun i p hp => ?_)
    ·rcases hd3 with ⟨rfl, _⟩ | ⟨es, sp, h1, h2, _⟩
     ·rw [hts]; simp
     ·rw [h1] at v3
      have := (weights_slice Tryz.underlying22 v3).1
      rw [bytesV] at this
      omega
    ·rcases hd4 with ⟨rfl, _⟩ | ⟨es, sp, h1, h2, _⟩
     ·rw [hps]; simp
     ·rw [h1] at v4
      have := (weights_slice Tryz.underlying23 v4).1
      rw [bytesM] at this
      omega
    ·obtain ⟨q, hq⟩ : ∃ q, rs[i]? = some q := ⟨_, List.getElem?_eq_getElem (by have := (List.getElem?_eq_some_iff.1 hx).1; omega)⟩
     exact (hts2 i x hx q hq).2 v3
    ·obtain ⟨q, hq⟩ : ∃ q, rms[i]? = some q := ⟨_, List.getElem?_eq_getElem (by have := (List.getElem?_eq_some_iff.1 hp).1; omega)⟩
     exact ((hps2 i p hp q hq).2.2 v4).1
    ·obtain ⟨q, hq⟩ : ∃ q, rms[i]? = some q := ⟨_, List.getElem?_eq_getElem (by have := (List.getElem?_eq_some_iff.1 hp).1; omega)⟩
     exact ((hps2 i p hp q hq).2.2 v4).2
theorem open_value {v : Value} {d : DataW H} {p : List MemPlace} (hval : Value.okWide Tryz.prog W .any b0 25 v) (h : DataW.Trod enc Tryz.prog W base spare held 25 v d p) :
 ∃ r t, v = RV.val r /\ TreeOf W W.heap.size t r /\ ((∀ n ∈ d.weights Tryz.prog 25, n <= 140737488351232) -> t.Ok) := by
 obtain ⟨cs, rfl, hsz⟩ := okWide_struct Tryz.underlying25 hval
 obtain ⟨fuel, hf⟩ := h
 obtain ⟨r, t, h1, h2, h3⟩ := open_val fuel _ _ hf
 refine ⟨r, t, ?_, h2, h3⟩
 have : cs = (encV r).toArray := by
  apply Array.ext'
  simpa [Value.cells] using h1
 rw [this]
 rfl
end
#print axioms open_value
end
section
open Go.RowKit
theorem ret_bool {a b : Bool} (h : a = b) : Ending.returned (.bool a) = .returned (.bool b) := by rw [h]
def mayB (was what : Int) : Bool := if what = 1 then was == 0 else if what = 2 \/ what = 3 then was != 3 else false
structure En where
 seq : Int
 id : ByteArray
 what : Int
deriving DecidableEq
def En.ok (e : En) : Prop := (Lit.int .i64 e.seq).wf = true /\ e.id.size <= maxLen /\ (Lit.int .i64 e.what).wf = true
theorem toList_beq (a b : ByteArray) : (a.toList == b.toList) = decide (a = b) := by
 rw [ByteArray.toList_eq, ByteArray.toList_eq]
 obtain ⟨⟨x⟩⟩ := a
 obtain ⟨⟨y⟩⟩ := b
 by_cases h : x = y
 ·simp [h]
 ·simp [h]
def En.eqv (a b : En) : Bool := a.seq == b.seq && a.id.toList == b.id.toList && a.what == b.what
def enAt (w : World) (b o : Nat) (e : Option En) : Prop := ∃ x, e = some x /\ w.cell? ⟨b, o, none⟩ = some (.int .i64 x.seq) /\ w.cell? ⟨b, o + 1, none⟩ = some (.string x.id) /\ w.cell? ⟨b, o + 2, none⟩ = some (.int .i64 x.what)
def RdE (w : World) (B : Nat) (v : Value) (es : List En) : Prop :=
 (∀ e ∈ es, e.ok) /\ ∃ (p : Option Addr) (cap : Nat), v = .slice p es.length cap /\ es.length <= cap /\ cap <= maxLen /\ (p = none -> cap = 0) /\
  ∀ a, p = some a -> 0 < es.length -> ∃ b o, a = ⟨b, o, none⟩ /\ b < B /\ ∀ i, i < es.length -> enAt w b (o + i * 3) es[i]?
def sameE : List En -> List En -> Bool
 | [], [] => true
 | a :: l, b :: m => a.eqv b && sameE l m
 | _, _ => false
theorem slice_at {p : Option Addr} {cap n k B : Nat} {C : Nat -> Nat -> Nat -> Prop} (h0 : p = none -> cap = 0)
 (h : ∀ a, p = some a -> 0 < n -> ∃ b o, a = ⟨b, o, none⟩ /\ b < B /\ ∀ i, i < n -> C b o i) (hk : k < n /\ n <= cap) : ∃ b o, p = some ⟨b, o, none⟩ /\ b < B /\ ∀ i, i < n -> C b o i := by
 cases p with
 | none => have := h0 rfl; omega
 | some a => obtain ⟨b, o, rfl, hb, hc⟩ := h a rfl (by omega); exact ⟨b, o, rfl, hb, hc⟩
theorem sameE_snoc {l m : List En} {k : Nat} {x y : En} (hx : l[k]? = some x) (hy : m[k]? = some y) : sameE (l.take (k + 1)) (m.take (k + 1)) = (sameE (l.take k) (m.take k) && x.eqv y) := by
 induction k generalizing l m with
 | zero => cases l <;> cases m <;> simp_all [sameE]
 | succ k ih =>
   cases l with
   | nil => simp at hx
   | cons a l => cases m with
     | nil => simp at hy
     | cons b m => simp only [List.getElem?_cons_succ] at hx hy; simp only [List.take_succ_cons, sameE]; rw [ih hx hy, Bool.and_assoc]
theorem sameE_false {l m : List En} {k : Nat} {x y : En} (hx : l[k]? = some x) (hy : m[k]? = some y) (h : x.eqv y = false) : sameE l m = false := by
 induction k generalizing l m with
 | zero => cases l <;> cases m <;> simp_all [sameE]
 | succ k ih =>
   cases l with
   | nil => simp at hx
   | cons a l => cases m with
     | nil => simp at hy
     | cons b m => simp only [List.getElem?_cons_succ] at hx hy; simp only [sameE]; rw [ih hx hy, Bool.and_false]
theorem sameE_len {l m : List En} (h : l.length ≠ m.length) : sameE l m = false := by
 induction l generalizing m with
 | nil => cases m <;> simp_all [sameE]
 | cons a l ih => cases m with
   | nil => simp [sameE]
   | cons b m => simp only [sameE]; rw [ih (by simpa using h), Bool.and_false]
theorem eqv_eq (a b : En) : a.eqv b = decide (a = b) := by
 obtain ⟨s, i, x⟩ := a
 obtain ⟨t, j, y⟩ := b
 unfold En.eqv
 rw [toList_beq]
 by_cases h1 : s = t <;> by_cases h2 : i = j <;> by_cases h3 : x = y <;> simp [h1, h2, h3]
theorem sameE_eq (l m : List En) : sameE l m = decide (l = m) := by
 induction l generalizing m with
 | nil => cases m <;> simp [sameE]
 | cons a l ih => cases m with
   | nil => simp [sameE]
   | cons b m => simp only [sameE, ih, eqv_eq]; by_cases h1 : a = b <;> by_cases h2 : l = m <;> simp [h1, h2]
end
section
open Go.RowKit Go.OpenShut
def lastW (l : List En) (id : ByteArray) : Int := l.foldl (fun a e => if e.id = id then e.what else a) 0
theorem lastW_snoc (l : List En) (e : En) (id : ByteArray) : lastW (l ++ [e]) id = if e.id = id then e.what else lastW l id := by simp [lastW]
def okAt (l : List En) (floor : Int) (k : Nat) : Bool := match l[k]? with
 | some e => e.seq == floor + 1 + k && mayB (lastW (l.take k) e.id) e.what
 | none => true
def headB (n : Nat) (floor seq : Int) : Bool := decide (0 <= floor /\ floor <= seq /\ seq <= 9007199254740991 /\ seq - floor = n)
def rightB (l : List En) (floor seq : Int) : Bool := headB l.length floor seq && (List.range l.length).all (okAt l floor)
theorem rightB_no {l : List En} {floor seq : Int} (h : headB l.length floor seq = false) : rightB l floor seq = false := by simp [rightB, h]
theorem rightB_yes {l : List En} {floor seq : Int} (h : headB l.length floor seq = true) (ha : ∀ k, k < l.length -> okAt l floor k = true) : rightB l floor seq = true := by
 simp only [rightB, h, Bool.true_and, List.all_eq_true, List.mem_range]
 exact ha
theorem rightB_bad {l : List En} {floor seq : Int} {k : Nat} (hk : k < l.length) (h : okAt l floor k = false) : rightB l floor seq = false := by
 unfold rightB
 rw [Bool.and_eq_false_iff]
 right
 rw [Bool.eq_false_iff]
 intro ha
 rw [List.all_eq_true] at ha
 have := ha k (by simpa using hk)
 rw [h] at this
 cases this
theorem okAt_of {l : List En} {floor : Int} {k : Nat} {x : En} (hx : l[k]? = some x) : okAt l floor k = (x.seq == floor + 1 + k && mayB (lastW (l.take k) x.id) x.what) := by simp [okAt, hx]
theorem okAt_bad {l : List En} {floor : Int} {k : Nat} {x : En} (hx : l[k]? = some x) (h : x.seq ≠ floor + 1 + k \/ x.what < 1 \/ 3 < x.what) : okAt l floor k = false := by
 rw [okAt_of hx]
 rcases h with h | h | h
 ·simp [h]
 ·simp [mayB, show ¬ x.what = 1 by omega, show ¬ x.what = 2 by omega, show ¬ x.what = 3 by omega]
 ·simp [mayB, show ¬ x.what = 1 by omega, show ¬ x.what = 2 by omega, show ¬ x.what = 3 by omega]
theorem lastW_take {l : List En} {j : Nat} {y : En} (hy : l[j]? = some y) (id : ByteArray) : lastW (l.take (j + 1)) id = if y.id = id then y.what else lastW (l.take j) id := by
 rw [List.take_add_one, hy]
 exact lastW_snoc _ _ _
theorem lastW_wf {l : List En} (h : ∀ e ∈ l, e.ok) (id : ByteArray) : (Lit.int .i64 (lastW l id)).wf = true := by
 suffices ∀ (l : List En) (a : Int), (∀ e ∈ l, e.ok) -> (Lit.int .i64 a).wf = true -> (Lit.int .i64 (l.foldl (fun a e => if e.id = id then e.what else a) a)).wf = true from this l 0 h (by decide)
 intro l
 induction l with
 | nil => intro a _ ha; exact ha
 | cons e l ih =>
   intro a h ha
   simp only [List.foldl_cons]
   refine ih _ (fun x hx => h x (by simp [hx])) ?_
   split
   ·exact (h e (by simp)).2.2
   ·exact ha
theorem get_ok {l : List En} {k : Nat} {x : En} (h : ∀ e ∈ l, e.ok) (hx : l[k]? = some x) : x.ok := h x (List.mem_of_getElem? hx)
end
end Go.Proofs.YtffhccmppdgmfaaGreatDoor
