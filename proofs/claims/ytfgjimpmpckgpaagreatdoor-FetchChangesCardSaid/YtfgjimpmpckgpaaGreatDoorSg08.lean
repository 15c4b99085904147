import Derived.Test.YtfgjimpmpckgpaaGreatDoorSg07
import Derived.Test.YtfgjimpmpckgpaaGreatDoorSg00
import Derived.ProofKit
import Derived.Below
import Derived.Test.YtfgjimpmpckgpaaGreatDoorSg03
import Derived.Test.YtfgjimpmpckgpaaGreatDoorSg05
import Derived.Sort.LotA
import Derived.Shelf.SlSortCmp.Insertion
import Derived.Test.YtfgjimpmpckgpaaGreatDoorProg
import Derived.Shelf.SlSortCmp.KitK
import Derived.Sort.WalkB2
import Derived.Sort.WalkB12
import Derived.Deep.LoopGhost
import Derived.WalkKit
import Derived.Lib.Hide
import Derived.Shelf.SlSortCmp.QuietGrown
import Derived.Deep.Cut
import Derived.Deep.CutRange
set_option linter.unusedSimpArgs false
set_option linter.unusedVariables false
set_option maxRecDepth 200000
set_option maxHeartbeats 8000000
namespace Go.Proofs.YtfgjimpmpckgpaaGreatDoor
section
open Go.ChangeShapes Go.WideShapes Go.Deep Go.RowKit Go.Lib
theorem cells2 : Tryz.prog.cellsOf 2 = 1 := by kernel_rfl
theorem cells3 : Tryz.prog.cellsOf 3 = 1 := by kernel_rfl
theorem cells9 : Tryz.prog.cellsOf 9 = 1 := by kernel_rfl
theorem cellsOf26 : Tryz.prog.cellsOf 104 = 3 := by kernel_rfl
theorem bytesOf26 : Tryz.prog.bytesOf 104 = 32 := by kernel_rfl
section
variable {H : Type} {enc : TypeId × Value -> H} {W : World} {base b0 : Nat} {spare : Nat -> Bool} {held : Bool}
theorem open_entry {n : Nat} {cs : List Value} {y : DataW H × List MemPlace} (h : DataW.trod enc Tryz.prog W base spare held n 104 cs = some y) : ∃ a : En, cs = encE a /\ a.ok := by
 obtain ⟨y0, y1, y2, n, _, hlen, t0, t1, t2⟩ := trod_struct3 Tryz.underlying104 h
 rw [cellsOf26] at hlen
 obtain ⟨x0, x1, x2, rfl⟩ : ∃ x0 x1 x2, cs = [x0, x1, x2] := by
  match cs, hlen with
  | [x0, x1, x2], _ => exact ⟨x0, x1, x2, rfl⟩
 dsimp only at t0 t1 t2
 rw [cells2] at t0
 rw [cells9] at t1
 rw [cells3] at t2
 obtain ⟨s, e0, _, w0⟩ := DataW.trod_int Tryz.underlying2 t0
 obtain ⟨t, e1, _, w1⟩ := DataW.trod_string Tryz.underlying9 t1
 obtain ⟨u, e2, _, w2⟩ := DataW.trod_int Tryz.underlying3 t2
 simp at e0 e1 e2
 subst e0 e1 e2
 exact ⟨⟨s, t, u⟩, rfl, w0, w1, w2⟩
theorem open_ents_cells {fuel : Nat} {cs : List Value} {x : DataW H × List MemPlace} (h : DataW.trod enc Tryz.prog W base spare held fuel 23 cs = some x) :
 ∃ p n c, ∃ l : List En, cs = [.slice p n c] /\ RdE W W.heap.size (.slice p n c) l /\ (l = [] \/ ∃ es sp, x.1 = .slice es sp /\ es.length = l.length) := by
 obtain ⟨p, n, c, l, e, hr, hd⟩ := open_list (Q := fun (a : En) _ => a.ok) Tryz.underlying23 cellsOf26 codecE h (fun n _ cs y hy => open_entry hy)
 rcases hd with ⟨rfl, _⟩ | ⟨es, sp, h1, h2, h3⟩
 ·exact ⟨p, n, c, [], e, rdE_iff.2 ⟨by simp, hr⟩, .inl rfl⟩
 ·refine ⟨p, n, c, l, e, rdE_iff.2 ⟨fun a ha => ?_, hr⟩, .inr ⟨es, sp, h1, h2⟩⟩
  obtain ⟨i, hi⟩ := List.getElem?_of_mem ha
  obtain ⟨_, _, hq⟩ := h3 i a hi
  exact hq
end
end
section
open Go Go.RowKit Go.ChangeShapes Go.WideShapes Go.Deep
structure BoxD where
 objs : List (ByteArray × JV)
 trail : List En
 seq : Int
 floor : Int
 keep : Int
structure RB where
 po : Option Addr
 no : Nat
 co : Nat
 pt : Option Addr
 nt : Nat
 ct : Nat
 sq : Int
 fl : Int
 kp : Int
abbrev RB.val (r : RB) : Value := .agg #[.slice r.po r.no r.co, .slice r.pt r.nt r.ct, .int .i64 r.sq, .int .i64 r.fl, .int .i64 r.kp]
def encB (r : RB) : List Value := [.slice r.po r.no r.co, .slice r.pt r.nt r.ct, .int .i64 r.sq, .int .i64 r.fl, .int .i64 r.kp]
abbrev RB.obj (r : RB) : Obj := .cells #[.slice r.po r.no r.co, .slice r.pt r.nt r.ct, .int .i64 r.sq, .int .i64 r.fl, .int .i64 r.kp] 25
def RB.zero : RB := ⟨none, 0, 0, none, 0, 0, 0, 0, 0⟩
def BoxD.zero : BoxD := ⟨[], [], 0, 0, 0⟩
def ObjsOf (w : World) (B : Nat) (os : List (ByteArray × JV)) (v : Value) : Prop := ∃ ros, Rd w B encM 6 v ros /\ MemsOf w B os ros
theorem ObjsOf.under {w w' : World} {B B' : Nat} {os : List (ByteArray × JV)} {v : Value} (h : ObjsOf w B os v) (hb : Below B w w') (hB : B <= B') : ObjsOf w' B' os v := by
 obtain ⟨ros, h1, h2⟩ := h
 exact ⟨ros, h1.below hb hB, h2.under hb hB⟩
theorem ObjsOf.nlen {w : World} {B n c : Nat} {os : List (ByteArray × JV)} {p : Option Addr} (h : ObjsOf w B os (.slice p n c)) : os.length = n := by
 obtain ⟨ros, h1, h2⟩ := h
 have := rd_nlen h1
 have := h2.len
 omega
theorem ObjsOf.nil (w : World) (B : Nat) : ObjsOf w B [] (.slice none 0 0) := ⟨[], Rd.nil _ _, MemsOf.nil _ _⟩
theorem RdE.under {w w' : World} {B B' : Nat} {v : Value} {l : List En} (h : RdE w B v l) (hb : Below B w w') (hB : B <= B') : RdE w' B' v l :=
 rdE_iff.2 ⟨(rdE_iff.1 h).1, (rdE_iff.1 h).2.below hb hB⟩
theorem RdE.nlen {w : World} {B n c : Nat} {l : List En} {p : Option Addr} (h : RdE w B (.slice p n c) l) : l.length = n := (rd_nlen (rdE_iff.1 h).2).symm
theorem RdE.nil (w : World) (B : Nat) : RdE w B (.slice none 0 0) [] := rdE_iff.2 ⟨fun e h => by simp at h, Rd.nil _ _⟩
structure BoxOf (w : World) (B : Nat) (b : BoxD) (r : RB) : Prop where
 objs : ObjsOf w B b.objs (.slice r.po r.no r.co)
 trail : RdE w B (.slice r.pt r.nt r.ct) b.trail
 seq : b.seq = r.sq
 floor : b.floor = r.fl
 keep : b.keep = r.kp
theorem BoxOf.under {w w' : World} {B B' : Nat} {b : BoxD} {r : RB} (h : BoxOf w B b r) (hb : Below B w w') (hB : B <= B') : BoxOf w' B' b r :=
 ⟨h.objs.under hb hB, h.trail.under hb hB, h.seq, h.floor, h.keep⟩
theorem BoxOf.zero (w : World) (B : Nat) : BoxOf w B BoxD.zero RB.zero := ⟨ObjsOf.nil _ _, RdE.nil _ _, rfl, rfl, rfl⟩
structure BoxD.Ok (b : BoxD) : Prop where
 objs : b.objs.length <= 1466015503658
 each : ∀ p ∈ b.objs, p.1.size <= 140737488351232 /\ p.2.Ok
 trail : b.trail.length <= 4398046510976
 seq : (Lit.int .i64 b.seq).wf = true
 floor : (Lit.int .i64 b.floor).wf = true
 keep : (Lit.int .i64 b.keep).wf = true
theorem BoxD.zero_ok : BoxD.zero.Ok := ⟨by decide, fun p h => by simp [BoxD.zero] at h, by decide, by decide, by decide, by decide⟩
theorem cellsO : Tryz.prog.cellsOf 44 = 6 := by kernel_rfl
theorem bytesO : Tryz.prog.bytesOf 44 = 96 := by kernel_rfl
theorem celO : Tryz.prog.cellsOf 22 = 1 := by kernel_rfl
theorem celE : Tryz.prog.cellsOf 23 = 1 := by kernel_rfl
theorem cellsB : Tryz.prog.cellsOf 25 = 5 := by kernel_rfl
section
variable {H : Type} {enc : TypeId × Value -> H} {W : World} {base b0 : Nat} {spare : Nat -> Bool} {held : Bool}
theorem open_objs {fuel : Nat} {cs : List Value} {x : DataW H × List MemPlace} (h : DataW.trod enc Tryz.prog W base spare held fuel 22 cs = some x) :
 ∃ p n c os, cs = [.slice p n c] /\ ObjsOf W W.heap.size os (.slice p n c) /\ ((∀ n ∈ x.1.weights Tryz.prog 22, n <= 140737488351232) -> os.length <= 1466015503658 /\ ∀ p ∈ os, p.1.size <= 140737488351232 /\ p.2.Ok) := by
 obtain ⟨pm, nm, cm, rms, e4, hr4, hd4⟩ := open_list (Q := fun (r : RM) (d : DataW H) => ∃ t, TreeOf W W.heap.size t r.v /\ ((∀ n ∈ d.weights Tryz.prog 44, n <= 140737488351232) -> r.name.size <= 140737488351232 /\ t.Ok)) Tryz.underlying22 cellsO codecM h
  (fun m hm cs y hy => by
   obtain ⟨z0, z1, j, rfl, hy1, hlen, u0, u1⟩ := trodF2 Tryz.underlying44 hy
   rw [cellsO] at hlen
   obtain ⟨a0, a1, a2, a3, a4, a5, rfl⟩ : ∃ a0 a1 a2 a3 a4 a5, cs = [a0, a1, a2, a3, a4, a5] := by
    match cs, hlen with
    | [a, b, c, d, e, f], _ => exact ⟨a, b, c, d, e, f, rfl⟩
   rw [hy1]
   dsimp only at u0 u1
   rw [cel3] at u0
   rw [cellsV] at u1
   simp only [List.drop_zero, List.drop_succ_cons, List.take_succ_cons, List.take_zero] at u0 u1
   obtain ⟨nm, g0, g1, g2⟩ := DataW.trod_string Tryz.underlying9 u0
   simp only [List.cons.injEq, and_true] at g0
   subst g0 g1
   obtain ⟨r, t, h1, h2, h3⟩ := open_val j _ _ u1
   refine ⟨⟨nm, r⟩, by rw [h1]; rfl, t, h2, fun hw => ⟨weights_string (weights_struct Tryz.underlying44 hw (i := 0) rfl rfl), h3 (weights_struct Tryz.underlying44 hw (i := 1) rfl rfl)⟩⟩)
 have hM : ∀ i, i < rms.length -> ∃ p : ByteArray × JV, ∀ q, rms[i]? = some q -> p.1 = q.name /\ TreeOf W W.heap.size p.2 q.v /\ ((∀ n ∈ x.1.weights Tryz.prog 22, n <= 140737488351232) -> p.1.size <= 140737488351232 /\ p.2.Ok) := by
  intro i hi
  obtain ⟨q, hq⟩ : ∃ q, rms[i]? = some q := ⟨_, List.getElem?_eq_getElem hi⟩
  rcases hd4 with ⟨rfl, _⟩ | ⟨es, sp, h1, h2, h3⟩
  ·simp at hi
  ·obtain ⟨d, hd, t, ht1, ht2⟩ := h3 i q hq
   refine ⟨(q.name, t), fun q' hq' => ?_⟩
   rw [hq] at hq'
   cases hq'
   refine ⟨rfl, ht1, fun hw => ht2 ?_⟩
   rw [h1] at hw
   exact (weights_slice Tryz.underlying22 hw).2 d (List.mem_of_getElem? hd)
 obtain ⟨ps, hps, hps2⟩ := list_of rms.length hM
 refine ⟨pm, nm, cm, ps, e4, ⟨rms, hr4, hps, fun i p q h1 h2 => (hps2 i p h1 q h2).1, fun i p q h1 h2 => (hps2 i p h1 q h2).2.1⟩, fun hw => ⟨?_, fun p hp => ?_⟩⟩
 ·rcases hd4 with ⟨rfl, _⟩ | ⟨es, sp, h1, h2, _⟩
  ·rw [hps]; simp
  ·rw [h1] at hw
   have := (weights_slice Tryz.underlying22 hw).1
   rw [bytesO] at this
   omega
 ·obtain ⟨i, hi⟩ := List.getElem?_of_mem hp
  obtain ⟨q, hq⟩ : ∃ q, rms[i]? = some q := ⟨_, List.getElem?_eq_getElem (by have := (List.getElem?_eq_some_iff.1 hi).1; omega)⟩
  exact (hps2 i p hi q hq).2.2 hw
theorem open_box_cells {fuel : Nat} {cs : List Value} {x : DataW H × List MemPlace} (h : DataW.trod enc Tryz.prog W base spare held fuel 25 cs = some x) :
 ∃ r b, cs = encB r /\ BoxOf W W.heap.size b r /\ ((∀ n ∈ x.1.weights Tryz.prog 25, n <= 140737488351232) -> b.Ok) := by
 obtain ⟨y0, y1, y2, y3, y4, n, rfl, hx1, hlen, t0, t1, t2, t3, t4⟩ := trodF5 Tryz.underlying25 h
 rw [cellsB] at hlen
 obtain ⟨c0, c1, c2, c3, c4, rfl⟩ : ∃ c0 c1 c2 c3 c4, cs = [c0, c1, c2, c3, c4] := by
  match cs, hlen with
  | [a, b, c, d, e], _ => exact ⟨a, b, c, d, e, rfl⟩
 rw [hx1]
 dsimp only at t0 t1 t2 t3 t4
 rw [celO] at t0
 rw [celE] at t1
 rw [cel1] at t2 t3
 rw [cel2] at t4
 simp only [List.drop_zero, List.drop_succ_cons, List.take_succ_cons, List.take_zero] at t0 t1 t2 t3 t4
 obtain ⟨sq, e2, f2, w2⟩ := DataW.trod_int Tryz.underlying2 t2
 obtain ⟨fl, e3, f3, w3⟩ := DataW.trod_int Tryz.underlying2 t3
 obtain ⟨kp, e4, f4, w4⟩ := DataW.trod_int Tryz.underlying3 t4
 simp only [List.cons.injEq, and_true] at e2 e3 e4
 subst e2 e3 e4 f2 f3 f4
 obtain ⟨po, no, co, os, e0, ho, wo⟩ := open_objs t0
 obtain ⟨pt, nt, ct, l, e1, hl, wl⟩ := open_ents_cells t1
 simp only [List.cons.injEq, and_true] at e0 e1
 subst e0 e1
 refine ⟨⟨po, no, co, pt, nt, ct, sq, fl, kp⟩, ⟨os, l, sq, fl, kp⟩, rfl, ⟨ho, hl, rfl, rfl, rfl⟩, fun hw => ?_⟩
 have hwo := wo (weights_struct Tryz.underlying25 hw (i := 0) rfl rfl)
 have hwl : ∀ n ∈ y1.1.weights Tryz.prog 23, n <= 140737488351232 := weights_struct Tryz.underlying25 hw (i := 1) rfl rfl
 refine ⟨hwo.1, hwo.2, ?_, w2, w3, w4⟩
 rcases wl with rfl | ⟨es, sp, h1, h2⟩
 ·simp
 ·rw [h1] at hwl
  have := (weights_slice Tryz.underlying23 hwl).1
  rw [bytesOf26] at this
  show l.length <= _
  omega
end
end
section
open Go.Sort
open Go.Proofs (ltOf)
variable {α : Type} [Inhabited α]
def swr (d : Array α) (a b : Nat) : Nat -> Array α
 | 0 => d
 | n + 1 => swp (swr d a b n) (a + n) (b + n)
theorem size_swr (d : Array α) (a b n : Nat) : (swr d a b n).size = d.size := by
 induction n with
 | zero => rfl
 | succ n ih => rw [swr, size_swp, ih]
theorem swr_get (d : Array α) (a b n : Nat) (h : a + n <= b) (hb : b + n <= d.size) (t : Nat) :
 (swr d a b n)[t]! = if a <= t /\ t < a + n then d[b + (t - a)]! else if b <= t /\ t < b + n then d[a + (t - b)]! else d[t]! := by
 induction n generalizing t with
 | zero => rw [if_neg (by omega), if_neg (by omega)]; rfl
 | succ n ih =>
   have ih' := fun t => ih (by omega) (by omega) t
   rw [swr, swp_get _ (by rw [size_swr]; omega) (by rw [size_swr]; omega), ih', ih', ih']
   rw [if_neg (by omega : ¬ (a <= a + n /\ a + n < a + n)), if_neg (by omega : ¬ (b <= a + n /\ a + n < b + n)), if_neg (by omega : ¬ (a <= b + n /\ b + n < a + n)), if_neg (by omega : ¬ (b <= b + n /\ b + n < b + n))]
   by_cases h1 : t = b + n
   ·rw [if_pos h1, if_neg (by omega), if_pos (by omega)]; congr 1; omega
   ·rw [if_neg h1]
    by_cases h2 : t = a + n
    ·rw [if_pos h2, if_pos (by omega)]; congr 1; omega
    ·rw [if_neg h2]
     by_cases h3 : a <= t /\ t < a + n
     ·rw [if_pos h3, if_pos (by omega)]
     ·rw [if_neg h3, if_neg (by omega : ¬ (a <= t /\ t < a + (n + 1)))]
      by_cases h4 : b <= t /\ t < b + n
      ·rw [if_pos h4, if_pos (by omega)]
      ·rw [if_neg h4, if_neg (by omega)]
theorem swr_perm (d : Array α) (a b n lo hi : Nat) (h1 : lo <= a) (h2 : a + n <= hi) (h3 : lo <= b) (h4 : b + n <= hi) (h5 : hi <= d.size) : PermIn lo hi d (swr d a b n) := by
 induction n with
 | zero => exact permIn_refl _ _ _
 | succ n ih => exact permIn_trans _ _ _ _ _ (ih (by omega) (by omega)) (swp_permIn _ _ _ _ _ (by omega) (by omega) (by omega) (by omega) (by rw [size_swr]; exact h5))
def rotG (d : Array α) (a m b t : Nat) : α := if a <= t /\ t < a + (b - m) then d[t + (m - a)]! else if a + (b - m) <= t /\ t < b then d[t - (b - m)]! else d[t]!
theorem rot_gt (d : Array α) (m i j t : Nat) (hij : j < i) (him : i <= m) (hm : m + j <= d.size) : rotG (swr d (m - i) m j) (m - (i - j)) m (m + j) t = rotG d (m - i) m (m + j) t := by
 unfold rotG
 simp only [swr_get d (m - i) m j (by omega) hm]
 by_cases h1 : m - (i - j) <= t /\ t < m - (i - j) + (m + j - m)
 ·rw [if_pos h1]
  by_cases h2 : m - i <= t /\ t < m - i + (m + j - m)
  ·omega
  ·rw [if_neg h2, if_pos (by omega : m - i + (m + j - m) <= t /\ t < m + j), if_neg (by omega), if_pos (by omega)]; congr 1; omega
 ·rw [if_neg h1]
  by_cases h2 : m - (i - j) + (m + j - m) <= t /\ t < m + j
  ·rw [if_pos h2, if_neg (by omega : ¬ (m - i <= t /\ t < m - i + (m + j - m))), if_pos (by omega : m - i + (m + j - m) <= t /\ t < m + j), if_neg (by omega), if_neg (by omega)]
  ·rw [if_neg h2]
   by_cases h3 : m - i <= t /\ t < m - i + j
   ·rw [if_pos h3, if_pos (by omega : m - i <= t /\ t < m - i + (m + j - m))]; congr 1; omega
   ·rw [if_neg h3, if_neg (by omega : ¬ (m <= t /\ t < m + j)), if_neg (by omega : ¬ (m - i <= t /\ t < m - i + (m + j - m))), if_neg (by omega : ¬ (m - i + (m + j - m) <= t /\ t < m + j))]
theorem rot_lt (d : Array α) (m i j t : Nat) (hij : i < j) (him : i <= m) (hm : m + j <= d.size) : rotG (swr d (m - i) (m + j - i) i) (m - i) m (m + (j - i)) t = rotG d (m - i) m (m + j) t := by
 unfold rotG
 simp only [swr_get d (m - i) (m + j - i) i (by omega) (by omega)]
 by_cases h1 : m - i <= t /\ t < m - i + (m + (j - i) - m)
 ·rw [if_pos h1, if_pos (by omega : m - i <= t /\ t < m - i + (m + j - m)), if_neg (by omega), if_neg (by omega)]
 ·rw [if_neg h1]
  by_cases h2 : m - i + (m + (j - i) - m) <= t /\ t < m + (j - i)
  ·rw [if_pos h2, if_pos (by omega : m - i <= t /\ t < m - i + (m + j - m)), if_pos (by omega)]; congr 1; omega
  ·rw [if_neg h2]
   by_cases h3 : m + j - i <= t /\ t < m + j - i + i
   ·rw [if_neg (by omega : ¬ (m - i <= t /\ t < m - i + i)), if_pos h3, if_neg (by omega : ¬ (m - i <= t /\ t < m - i + (m + j - m))), if_pos (by omega : m - i + (m + j - m) <= t /\ t < m + j)]; congr 1; omega
   ·rw [if_neg (by omega : ¬ (m - i <= t /\ t < m - i + i)), if_neg h3, if_neg (by omega : ¬ (m - i <= t /\ t < m - i + (m + j - m))), if_neg (by omega : ¬ (m - i + (m + j - m) <= t /\ t < m + j))]
theorem rot_eq (d : Array α) (m i t : Nat) (him : i <= m) (hm : m + i <= d.size) : (swr d (m - i) m i)[t]! = rotG d (m - i) m (m + i) t := by
 unfold rotG
 rw [swr_get d (m - i) m i (by omega) hm]
 by_cases h1 : m - i <= t /\ t < m - i + i
 ·rw [if_pos h1, if_pos (by omega)]; congr 1; omega
 ·rw [if_neg h1, if_neg (by omega : ¬ (m - i <= t /\ t < m - i + (m + i - m)))]
  by_cases h2 : m <= t /\ t < m + i
  ·rw [if_pos h2, if_pos (by omega)]; congr 1; omega
  ·rw [if_neg h2, if_neg (by omega)]
def bubUp (d : Array α) (k : Nat) : Nat -> Array α
 | 0 => d
 | c + 1 => swp (bubUp d k c) (k + c) (k + c + 1)
theorem size_bubUp (d : Array α) (k c : Nat) : (bubUp d k c).size = d.size := by
 induction c with
 | zero => rfl
 | succ c ih => rw [bubUp, size_swp, ih]
theorem bubUp_get (d : Array α) (k c : Nat) (h : k + c < d.size) (t : Nat) : (bubUp d k c)[t]! = if k <= t /\ t < k + c then d[t + 1]! else if t = k + c then d[k]! else d[t]! := by
 induction c generalizing t with
 | zero =>
  rw [if_neg (by omega)]
  by_cases e : t = k + 0
  ·rw [if_pos e]; simp [bubUp, e]
  ·rw [if_neg e]; rfl
 | succ c ih =>
   have ih' := fun t => ih (by omega) t
   rw [bubUp, swp_get _ (by rw [size_bubUp]; omega) (by rw [size_bubUp]; omega), ih', ih', ih']
   rw [if_neg (by omega : ¬ (k <= k + c /\ k + c < k + c)), if_pos rfl, if_neg (by omega : ¬ (k <= k + c + 1 /\ k + c + 1 < k + c)), if_neg (by omega : ¬ k + c + 1 = k + c)]
   by_cases h1 : t = k + c + 1
   ·rw [if_pos h1, if_neg (by omega), if_pos (by omega)]
   ·rw [if_neg h1]
    by_cases h2 : t = k + c
    ·rw [if_pos h2, if_pos (by omega)]; congr 1; omega
    ·rw [if_neg h2]
     by_cases h3 : k <= t /\ t < k + c
     ·rw [if_pos h3, if_pos (by omega)]
     ·rw [if_neg h3, if_neg (by omega : ¬ t = k + c), if_neg (by omega), if_neg (by omega)]
theorem bubUp_perm (d : Array α) (k c lo hi : Nat) (h1 : lo <= k) (h2 : k + c < hi) (h3 : hi <= d.size) : PermIn lo hi d (bubUp d k c) := by
 induction c with
 | zero => exact permIn_refl _ _ _
 | succ c ih => exact permIn_trans _ _ _ _ _ (ih (by omega)) (swp_permIn _ _ _ _ _ (by omega) (by omega) (by omega) (by omega) (by rw [size_bubUp]; exact h3))
def bubDn (d : Array α) (k : Nat) : Nat -> Array α
 | 0 => d
 | c + 1 => swp (bubDn d k c) (k - c) (k - c - 1)
theorem size_bubDn (d : Array α) (k c : Nat) : (bubDn d k c).size = d.size := by
 induction c with
 | zero => rfl
 | succ c ih => rw [bubDn, size_swp, ih]
theorem bubDn_get (d : Array α) (k c : Nat) (hc : c <= k) (h : k < d.size) (t : Nat) : (bubDn d k c)[t]! = if t = k - c then d[k]! else if k - c < t /\ t <= k then d[t - 1]! else d[t]! := by
 induction c generalizing t with
 | zero =>
   by_cases e : t = k - 0
   ·rw [if_pos e]; simp [bubDn, e]
   ·rw [if_neg e, if_neg (by omega)]; rfl
 | succ c ih =>
   have ih' := fun t => ih (by omega) t
   rw [bubDn, swp_get _ (by rw [size_bubDn]; omega) (by rw [size_bubDn]; omega), ih', ih', ih']
   rw [if_pos rfl, if_neg (by omega : ¬ k - c - 1 = k - c), if_neg (by omega : ¬ (k - c < k - c - 1 /\ k - c - 1 <= k))]
   by_cases h1 : t = k - c - 1
   ·rw [if_pos h1, if_pos (by omega)]
   ·rw [if_neg h1]
    by_cases h2 : t = k - c
    ·rw [if_pos h2, if_neg (by omega), if_pos (by omega)]; congr 1; omega
    ·rw [if_neg h2, if_neg h2]
     by_cases h3 : k - c < t /\ t <= k
     ·rw [if_pos h3, if_neg (by omega), if_pos (by omega)]
     ·rw [if_neg h3, if_neg (by omega), if_neg (by omega)]
theorem bubDn_perm (d : Array α) (k c lo hi : Nat) (hc : c <= k) (h1 : lo <= k - c) (h2 : k < hi) (h3 : hi <= d.size) : PermIn lo hi d (bubDn d k c) := by
 induction c with
 | zero => exact permIn_refl _ _ _
 | succ c ih => exact permIn_trans _ _ _ _ _ (ih (by omega) (by omega)) (swp_permIn _ _ _ _ _ (by omega) (by omega) (by omega) (by omega) (by rw [size_bubDn]; exact h3))
variable {α : Type} [Inhabited α] {lt : α -> α -> Bool}
theorem sorted_le (S : SWO lt) {a b : Nat} {d : Array α} (h : SortedIn lt a b d) {i j : Nat} (hi : a <= i) (hij : i <= j) (hj : j < b) : lt d[j]! d[i]! = false := by
 rcases Nat.lt_or_ge i j with h1 | h1
 ·exact h i j hi h1 hj
 ·obtain rfl : i = j := by omega
  exact S.irrefl _
theorem sym_parts {d d1 : Array α} {a m b start e mid : Nat} (h1 : SortedIn lt a m d) (h2 : SortedIn lt m b d) (ha : a <= start) (hs : start <= m) (hm : m <= e) (he : e <= b) (hmid : start + e = mid + m)
 (hd : ∀ t, d1[t]! = rotG d start m e t) : SortedIn lt a start d1 /\ SortedIn lt start mid d1 /\ SortedIn lt mid e d1 /\ SortedIn lt e b d1 := by
 have p1 : ∀ t, t < start -> d1[t]! = d[t]! := fun t ht => by rw [hd, rotG, if_neg (by omega), if_neg (by omega)]
 have p2 : ∀ t, start <= t -> t < mid -> d1[t]! = d[t + (m - start)]! := fun t h1 h2 => by rw [hd, rotG, if_pos (by omega)]
 have p3 : ∀ t, mid <= t -> t < e -> d1[t]! = d[t - (e - m)]! := fun t h1 h2 => by rw [hd, rotG, if_neg (by omega), if_pos (by omega)]
 have p4 : ∀ t, e <= t -> d1[t]! = d[t]! := fun t ht => by rw [hd, rotG, if_neg (by omega), if_neg (by omega)]
 refine ⟨fun i j x y z => ?_, fun i j x y z => ?_, fun i j x y z => ?_, fun i j x y z => ?_⟩
 ·rw [p1 i (by omega), p1 j (by omega)]; exact h1 i j (by omega) y (by omega)
 ·rw [p2 i (by omega) (by omega), p2 j (by omega) (by omega)]; exact h2 _ _ (by omega) (by omega) (by omega)
 ·rw [p3 i (by omega) (by omega), p3 j (by omega) (by omega)]; exact h1 _ _ (by omega) (by omega) (by omega)
 ·rw [p4 i (by omega), p4 j (by omega)]; exact h2 _ _ (by omega) y (by omega)
theorem sym_cross (S : SWO lt) {d d1 : Array α} {a m b start e mid s0 r0 : Nat} (h1 : SortedIn lt a m d) (h2 : SortedIn lt m b d) (ha : a <= start) (hs : start <= m) (hm : m <= e) (he : e <= b) (hmid : start + e = mid + m)
 (hd : ∀ t, d1[t]! = rotG d start m e t) (hA : s0 < start -> lt d[e]! d[start - 1]! = false) (hB : start < r0 -> lt d[e - 1]! d[start]! = true)
 (hA0 : start = s0 -> start = a \/ e = b) (hB0 : start = r0 -> start = m \/ e = m) (hs0 : s0 <= start) (hr0 : start <= r0) :
 ∀ i j, a <= i -> i < mid -> mid <= j -> j < b -> lt d1[j]! d1[i]! = false := by
 have p1 : ∀ t, t < start -> d1[t]! = d[t]! := fun t ht => by rw [hd, rotG, if_neg (by omega), if_neg (by omega)]
 have p2 : ∀ t, start <= t -> t < mid -> d1[t]! = d[t + (m - start)]! := fun t h1 h2 => by rw [hd, rotG, if_pos (by omega)]
 have p3 : ∀ t, mid <= t -> t < e -> d1[t]! = d[t - (e - m)]! := fun t h1 h2 => by rw [hd, rotG, if_neg (by omega), if_pos (by omega)]
 have p4 : ∀ t, e <= t -> d1[t]! = d[t]! := fun t ht => by rw [hd, rotG, if_neg (by omega), if_neg (by omega)]
 have LR : ∀ x y, a <= x -> x < start -> e <= y -> y < b -> lt d[y]! d[x]! = false := by
  intro x y q1 q2 q3 q4
  by_cases hs' : s0 < start
  ·exact S.ntrans _ _ _ (sorted_le S h2 (by omega) q3 q4) (S.ntrans _ _ _ (hA hs') (sorted_le S h1 q1 (by omega) (by omega)))
  ·rcases hA0 (by omega) with h | h <;> omega
 have RL : ∀ x y, m <= x -> x < e -> start <= y -> y < m -> lt d[y]! d[x]! = false := by
  intro x y q1 q2 q3 q4
  by_cases hr' : start < r0
  ·exact S.ntrans _ _ _ (sorted_le S h1 ha q3 q4) (S.ntrans _ _ _ (S.asymmA (hB hr')) (sorted_le S h2 q1 (by omega) (by omega)))
  ·rcases hB0 (by omega) with h | h <;> omega
 intro i j q1 q2 q3 q4
 by_cases hi : i < start
 ·rw [p1 i hi]
  by_cases hj : j < e
  ·rw [p3 j q3 hj]; exact sorted_le S h1 q1 (by omega) (by omega)
  ·rw [p4 j (by omega)]; exact LR i j q1 hi (by omega) q4
 ·rw [p2 i (by omega) q2]
  by_cases hj : j < e
  ·rw [p3 j q3 hj]; exact RL _ _ (by omega) (by omega) (by omega) (by omega)
  ·rw [p4 j (by omega)]; exact sorted_le S h2 (by omega) (by omega) q4
theorem perm_out {a b : Nat} {d d' : Array α} (h : PermIn a b d d') {t : Nat} (ht : t < a \/ b <= t) : d'[t]! = d[t]! := h.2.1 t ht
theorem sym_whole {d1 d2 d3 : Array α} {a mid b : Nat} (ham : a <= mid) (hmb : mid <= b) (hsz : b <= d1.size) (hx : ∀ i j, a <= i -> i < mid -> mid <= j -> j < b -> lt d1[j]! d1[i]! = false)
 (hp2 : PermIn a mid d1 d2) (hs2 : SortedIn lt a mid d2) (hp3 : PermIn mid b d2 d3) (hs3 : SortedIn lt mid b d3) : SortedIn lt a b d3 /\ PermIn a b d1 d3 := by
 have hz2 := hp2.1
 refine ⟨fun i j q1 q2 q3 => ?_, permIn_trans _ _ _ _ _ (permIn_mono _ _ _ _ _ _ (Nat.le_refl _) hmb hsz hp2) (permIn_mono _ _ _ _ _ _ ham (Nat.le_refl _) (by omega) hp3)⟩
 by_cases hj : j < mid
 ·rw [perm_out hp3 (.inl hj), perm_out hp3 (.inl (by omega))]; exact hs2 i j q1 q2 hj
 ·by_cases hi : i < mid
  ·have e1 : d3[i]! = d2[i]! := perm_out hp3 (.inl hi)
   rw [e1]
   have step1 : ∀ y, mid <= y -> y < b -> ∀ x, a <= x -> x < mid -> lt d1[y]! d2[x]! = false := fun y y1 y2 =>
    permIn_all d1 d2 a mid (fun v => lt d1[y]! v = false) (by omega) hp2 (fun x x1 x2 => hx x y x1 x2 y1 y2)
   have step2 : ∀ y, mid <= y -> y < b -> lt d2[y]! d2[i]! = false := fun y y1 y2 => by
    rw [perm_out hp2 (.inr y1)]; exact step1 y y1 y2 i q1 hi
   exact permIn_all d2 d3 mid b (fun v => lt v d2[i]! = false) (by omega) hp3 step2 j (by omega) q3
  ·exact hs3 i j (by omega) q2 q3
theorem ins_left (S : SWO lt) {d : Array α} {a b i : Nat} (h2 : SortedIn lt (a + 1) b d) (hi : a + 1 <= i) (hib : i <= b) (hb : b <= d.size) (hlo : a + 1 < i -> lt d[i - 1]! d[a]! = true) (hhi : i < b -> lt d[i]! d[a]! = false) :
 SortedIn lt a b (bubUp d a (i - 1 - a)) := by
 intro x y q1 q2 q3
 simp only [bubUp_get d a (i - 1 - a) (by omega)]
 by_cases hy : y < i - 1
 ·rw [if_pos (by omega), if_pos (by omega)]; exact h2 _ _ (by omega) (by omega) (by omega)
 ·by_cases hy2 : y = i - 1
  ·rw [if_neg (by omega), if_pos (by omega), if_pos (by omega)]
   exact S.asymmA (by
    have h3 := hlo (by omega)
    have h4 := sorted_le S h2 (show a + 1 <= x + 1 by omega) (show x + 1 <= i - 1 by omega) (by omega)
    cases h5 : lt d[x + 1]! d[a]! with
    | true => rfl
    | false => rw [S.ntrans _ _ _ h4 h5] at h3; cases h3)
  ·rw [if_neg (by omega), if_neg (by omega)]
   have hyy : lt d[y]! d[a]! = false := S.ntrans _ _ _ (sorted_le S h2 (show a + 1 <= i by omega) (by omega : i <= y) q3) (hhi (by omega))
   by_cases hx : x < i - 1
   ·rw [if_pos (by omega)]; exact h2 _ _ (by omega) (by omega) (by omega)
   ·by_cases hx2 : x = i - 1
    ·rw [if_neg (by omega), if_pos (by omega)]; exact hyy
    ·rw [if_neg (by omega), if_neg (by omega)]; exact h2 _ _ (by omega) q2 q3
theorem ins_right (S : SWO lt) {d : Array α} {a m i : Nat} (h1 : SortedIn lt a m d) (hi : a <= i) (him : i <= m) (hb : m < d.size) (hlo : a < i -> lt d[m]! d[i - 1]! = false) (hhi : i < m -> lt d[m]! d[i]! = true) :
 SortedIn lt a (m + 1) (bubDn d m (m - i)) := by
 have hmi : m - (m - i) = i := by omega
 intro x y q1 q2 q3
 simp only [bubDn_get d m (m - i) (by omega) hb, hmi]
 by_cases hx : x < i
 ·rw [if_neg (by omega : ¬ x = i), if_neg (by omega : ¬ (i < x /\ x <= m))]
  by_cases hy : y < i
  ·rw [if_neg (by omega), if_neg (by omega)]; exact h1 _ _ q1 q2 (by omega)
  ·by_cases hy2 : y = i
   ·rw [if_pos hy2]; exact S.ntrans _ _ _ (hlo (by omega)) (sorted_le S h1 q1 (by omega : x <= i - 1) (by omega))
   ·rw [if_neg hy2, if_pos (by omega)]; exact sorted_le S h1 q1 (by omega) (by omega)
 ·by_cases hx2 : x = i
  ·rw [if_pos hx2, if_neg (by omega), if_pos (by omega)]
   have h3 := hhi (by omega)
   exact S.asymmA (by
    have h4 := sorted_le S h1 hi (show i <= y - 1 by omega) (by omega)
    cases h5 : lt d[m]! d[y - 1]! with
    | true => rfl
    | false => rw [S.ntrans _ _ _ h5 h4] at h3; cases h3)
  ·rw [if_neg hx2, if_neg (by omega : ¬ y = i), if_pos (by omega : i < y /\ y <= m), if_pos (by omega : i < x /\ x <= m)]; exact h1 _ _ (by omega) (by omega) (by omega)
end
section
open Go.Shelf Go.RowKit Go.Lib Go.Sort
namespace SM
variable {P : Program} {α : Type} [Inhabited α]
def RotPost (enc : α -> List Value) (k : Nat) (w0 : World) (blk off : Nat) (d : Array α) (a m b : Nat) (e : Ending) (w' : World) : Prop :=
 e = .returned (.tuple #[]) /\ ∃ d' : Array α, SWK enc k w0 blk off d' w' /\ PermIn a b d d' /\ ∀ t, d'[t]! = rotG d a m b t
end SM
namespace SM
variable {P : Program} {α : Type} [Inhabited α]
def SymPost (enc : α -> List Value) (k : Nat) (w0 : World) (blk off : Nat) (lt : α -> α -> Bool) (d : Array α) (a b : Nat) (e : Ending) (w' : World) : Prop :=
 e = .returned (.tuple #[]) /\ ∃ d' : Array α, SWK enc k w0 blk off d' w' /\ PermIn a b d d' /\ SortedIn lt a b d'
end SM
namespace SM
variable {P : Program} {α : Type} [Inhabited α]
def SymPre (cf : α -> α -> Int) (lt : α -> α -> Bool) (d : Array α) (a m b : Nat) : Prop :=
 SortedIn lt a m d /\ SortedIn lt m b d /\ ∀ i j, a <= i -> i < m -> m <= j -> j < b -> ltOf cf d[j]! d[i]! = lt d[j]! d[i]!
theorem rot_triv (d : Array α) (s m e t : Nat) (h : s = m \/ m = e) (hs : s <= m) (he : m <= e) : d[t]! = rotG d s m e t := by
 unfold rotG
 rcases h with rfl | rfl
 ·by_cases h1 : s <= t /\ t < s + (e - s)
  ·rw [if_pos h1, Nat.sub_self, Nat.add_zero]
  ·rw [if_neg h1, if_neg (by omega)]
 ·rw [if_neg (by omega), Nat.sub_self]
  by_cases h1 : s + 0 <= t /\ t < m
  ·rw [if_pos h1, Nat.sub_zero]
  ·rw [if_neg h1]
end SM
end
end Go.Proofs.YtfgjimpmpckgpaaGreatDoor
