import Derived.Test.YthgkgjcnmahacaaSc09
import Derived.Test.YthgkgjcnmahacaaSc02
import Derived.Test.YthgkgjcnmahacaaSc04
import Derived.Deep.RegionLaw
import Derived.Test.YthgkgjcnmahacaaSc03
import Derived.Test.YthgkgjcnmahacaaSc00
import Derived.Test.YthgkgjcnmahacaaSc08
import Derived.Laws.CopyRow
import Derived.Laws.CopyOwn
import Derived.Shelf.Spec.SlicesInsertGrow
section
/- store.Find, walked: the library's IndexFunc at objects. -/
set_option linter.unusedSimpArgs false
set_option linter.unusedVariables false
namespace Go.Proofs.Ythgkgjcnmahacaa
open Go.RowKit Go.OpenShut

/-- A box in a block of its own. -/
def BoxAt (W : World) (g : Nat) (r : RB) : Prop := W.heap[g]? = some (.cells #[.slice r.po r.no r.co, .slice r.pt r.nt r.ct, .int .i64 r.sq, .int .i64 r.fl, .int .i64 r.kp] 35 (0, 0))
theorem BoxAt.cell {W : World} {g : Nat} {r : RB} (h : BoxAt W g r) (j : Nat) {u : Value} (hu : (encB r)[j]? = some u) : W.cell? ⟨g, j, none⟩ = some u := by
  unfold BoxAt at h
  rw [cell_of_row W g j _ _ _ h, ← Array.getElem?_toList]
  exact hu
theorem BoxAt.frozen {W : World} {g : Nat} {r : RB} (h : BoxAt W g r) (j : Nat) : W.frozen? ⟨g, j, none⟩ = false := by
  unfold BoxAt at h
  simp [World.frozen?, h]
theorem BoxAt.under {W W' : World} {g B : Nat} {r : RB} (h : BoxAt W g r) (hb : Below B W W') (hg : g < B) : BoxAt W' g r := (hb.block g hg).trans h
theorem BoxAt.lt {W : World} {g : Nat} {r : RB} (h : BoxAt W g r) : g < W.heap.size := (Array.getElem?_eq_some_iff.1 h).1

/-- The object of an id. -/
def findJ (os : List (ByteArray × JV)) (id : ByteArray) : Option JV := (os.find? (fun p => decide (p.1 = id))).map (·.2)
abbrev isIdV (g : Nat) : Value := .func (.func 71) #[] #[.pointer (some ⟨g, 0, none⟩)]

set_option maxRecDepth 100000 in
theorem isIdO_any (x : RM) (g : Nat) (name : ByteArray) (w : World) (hg : w.cell? ⟨g, 0, none⟩ = some (.string name)) :
    Calls Try.prog 71 #[x.val, .pointer (some ⟨g, 0, none⟩)] w fun e w' => e = .returned (.bool (decide (x.name = name))) ∧ Below w.heap.size w w' := by
  obtain ⟨nm, k, n, s, pl, nl, cl, pm, nm', cm⟩ := x
  dsimp only [RM.val]
  have hlt := (cell_some hg).2
  have hne := World.new_ne w ⟨g, 0, none⟩ hg
  have hB : Below w.heap.size w (w.alloc (.cells #[.string nm, .int .i64 k, .int .i64 n, .string s, .slice pl nl cl, .slice pm nm' cm] 46)) := (Below.refl _ _).alloc (Nat.le_refl _) _
  have hc := bcs hB hlt hg
  have hq := str_beq nm name
  have HQ := Lib.hid hq
  clear hq
  go_enter Try.func71, Try.ntmps71
  go_wp2_with fail
  go_ret
  exact ⟨by rw [← HQ.out]; rfl, hB⟩

set_option maxRecDepth 100000 in
set_option maxHeartbeats 1000000 in
theorem indexO_any (w : World) (p : Option Addr) (n c : Nat) (rms : List RM) (hv : Rd w w.heap.size encM 6 (.slice p n c) rms) (g : Nat) (name : ByteArray) (hg : w.cell? ⟨g, 0, none⟩ = some (.string name)) (hlen : rms.length ≤ 1466015503658) :
    Calls Try.prog 70 #[.slice p n c, isIdV g] w fun e w' => e = .returned (.int .i64 (placeI (rms.findIdx? (nameB name)))) ∧ Below w.heap.size w w' := by
  have hn := rd_nlen hv
  subst hn
  have HV := Lib.hid hv
  have hgl := (cell_some hg).2
  clear hv
  go_enter Try.func70, Try.ntmps70
  go_wp2_with fail
  go_loopw [8] (fun i wr => ∃ k : Nat, k ≤ rms.length ∧ i = .int .i64 k ∧ Hid (∀ (j : Nat) y, j < k → rms[j]? = some y → nameB name y = false) ∧ Below w.heap.size w wr) (fun i _ => rms.length - (intOf i).toNat)
  case atStart => exact ⟨0, Nat.zero_le _, rfl, fun j y h => by omega, Below.refl _ _⟩
  case round =>
    obtain ⟨k, hk, rfl, hno, hbr⟩ := hrel
    by_cases hlt : k < rms.length
    · obtain ⟨x, hx⟩ : ∃ x, rms[k]? = some x := ⟨_, List.getElem?_eq_getElem hlt⟩
      obtain ⟨b1, o1, rfl, hb1, hc1⟩ := rd_at' (HV.out.below hbr (Nat.le_refl _)) hx
      have f0 := hc1 0 _ rfl
      have f1 := hc1 1 _ rfl
      have f2 := hc1 2 _ rfl
      have f3 := hc1 3 _ rfl
      have f4 := hc1 4 _ rfl
      have f5 := hc1 5 _ rfl
      rw [Nat.add_zero] at f0
      have HX := Lib.hid hx
      have hz := hbr.size
      have HBR := Lib.hid hbr
      have hgr := Lib.hid (bcs hbr hgl hg)
      cases hnb : nameB name x with
      | true =>
        have HF := Lib.hid (find_at HX.out hnb hno.out)
        have HNB : Hid (decide (x.name = name) = true) := hnb
        clear hx hc1 hbr hnb hno hg
        go_wp2_with (go_at_call 71; refine (isIdO_any x g name _ hgr.out).mono ?_; rintro e w1 ⟨rfl, hb1'⟩; rw [HNB.out])
        go_ret
        exact ⟨ret_int (by rw [HF.out]; rfl), HBR.out.trans (hb1'.mono HBR.out.size)⟩
      | false =>
        have HNB : Hid (decide (x.name = name) = false) := hnb
        have HNX : Hid (∀ (j : Nat) y, j < k + 1 → rms[j]? = some y → nameB name y = false) := by
          intro j y hj hy
          by_cases e : j = k
          · subst e
            rw [hx] at hy
            cases hy
            exact hnb
          · exact hno.out j y (by omega) hy
        clear hx hc1 hbr hnb hno hg
        go_wp2_with (go_at_call 71; refine (isIdO_any x g name _ hgr.out).mono ?_; rintro e w1 ⟨rfl, hb1'⟩; rw [HNB.out])
        go_roundw
        case rel => exact ⟨k + 1, by omega, by go_num, HNX, HBR.out.trans (hb1'.mono HBR.out.size)⟩
        case measure => simp [intOf]; omega
    · obtain rfl : k = rms.length := by omega
      have HF := Lib.hid (find_not (p := nameB name) (l := rms) (fun j y hy => hno.out j y (List.getElem?_eq_some_iff.1 hy).1 hy))
      go_wp2_with fail
      go_ret
      exact ⟨ret_int (by rw [HF.out]; rfl), hbr⟩

theorem find_same {os : List (ByteArray × JV)} {rms : List RM} (hl : os.length = rms.length) (hn : ∀ (i : Nat) p q, os[i]? = some p → rms[i]? = some q → p.1 = q.name) (id : ByteArray) : os.findIdx? (fun p => decide (p.1 = id)) = rms.findIdx? (nameB id) := by
  induction os generalizing rms with
  | nil =>
    have := List.eq_nil_of_length_eq_zero hl.symm
    subst this
    rfl
  | cons p os ih =>
    cases rms with
    | nil => simp at hl
    | cons q rms =>
      have h0 := hn 0 p q rfl rfl
      have ih := ih (rms := rms) (by simpa using hl) (fun i a b h1 h2 => hn (i + 1) a b (by simpa using h1) (by simpa using h2))
      rw [List.findIdx?_cons, List.findIdx?_cons, ih]
      unfold nameB
      rw [h0]
theorem findJ_some {os : List (ByteArray × JV)} {id : ByteArray} {i : Nat} (h : os.findIdx? (fun p => decide (p.1 = id)) = some i) : ∃ p, os[i]? = some p ∧ findJ os id = some p.2 := by
  induction os generalizing i with
  | nil => simp at h
  | cons p os ih =>
    rw [List.findIdx?_cons] at h
    unfold findJ at ih ⊢
    by_cases e : p.1 = id
    · simp [e] at h
      subst h
      exact ⟨p, rfl, by simp [List.find?_cons, e]⟩
    · simp [e] at h
      obtain ⟨j, hj, rfl⟩ := h
      obtain ⟨q, h1, h2⟩ := ih hj
      exact ⟨q, by simpa using h1, by simpa [List.find?_cons, e] using h2⟩
theorem findJ_none {os : List (ByteArray × JV)} {id : ByteArray} (h : os.findIdx? (fun p => decide (p.1 = id)) = none) : findJ os id = none := by
  unfold findJ
  rw [List.findIdx?_eq_none_iff] at h
  rw [List.find?_eq_none.2 (fun x hx => by have := h x hx; simpa using this)]
  rfl

/-- What Find answers. -/
def FindRet (w : World) (o : Option JV) (e : Ending) (w' : World) : Prop :=
  ∃ r, e = .returned (.tuple #[RV.val r, .bool o.isSome]) ∧ TreeOf w' w'.heap.size (o.getD JV.zero) r ∧ Below w.heap.size w w'

set_option maxRecDepth 100000 in
set_option maxHeartbeats 2000000 in
theorem find_any (b : BoxD) (r : RB) (id : ByteArray) (w : World) (hb : BoxOf w w.heap.size b r) (ob : b.Ok) :
    Calls Try.prog 26 #[r.val, .string id] w (FindRet w (findJ b.objs id)) := by
  have ho := hb.objs
  have hlo := ob.objs
  obtain ⟨po, no, co, pt, nt, ct, sq, fl, kp⟩ := r
  dsimp only [RB.val] at *
  obtain ⟨rms, hrd, hms⟩ := ho
  have hn := rd_nlen hrd
  have hlm := hms.len
  have hA0 : BoxAt (((w.alloc (.cells #[.slice po no co, .slice pt nt ct, .int .i64 sq, .int .i64 fl, .int .i64 kp] 35)).alloc (.cells #[.string id] 9)).alloc (.cells #[.int .i64 0, .int .i64 0, .string ⟨#[]⟩, .slice none 0 0, .slice none 0 0] 25)) w.heap.size ⟨po, no, co, pt, nt, ct, sq, fl, kp⟩ := heap_alloc_lt (by simp; omega) (heap_alloc_lt (by simp) (heap_alloc_at rfl))
  have hS0 : (((w.alloc (.cells #[.slice po no co, .slice pt nt ct, .int .i64 sq, .int .i64 fl, .int .i64 kp] 35)).alloc (.cells #[.string id] 9)).alloc (.cells #[.int .i64 0, .int .i64 0, .string ⟨#[]⟩, .slice none 0 0, .slice none 0 0] 25)).heap[w.heap.size + 1]? = some (.cells #[.string id] 9 (0, 0)) := heap_alloc_lt (by simp) (heap_alloc_at (by simp))
  have hZ0 : VAt (((w.alloc (.cells #[.slice po no co, .slice pt nt ct, .int .i64 sq, .int .i64 fl, .int .i64 kp] 35)).alloc (.cells #[.string id] 9)).alloc (.cells #[.int .i64 0, .int .i64 0, .string ⟨#[]⟩, .slice none 0 0, .slice none 0 0] 25)) (w.heap.size + 1 + 1) RV.zero := heap_alloc_at (by simp)
  have hB0 : Below w.heap.size w (((w.alloc (.cells #[.slice po no co, .slice pt nt ct, .int .i64 sq, .int .i64 fl, .int .i64 kp] 35)).alloc (.cells #[.string id] 9)).alloc (.cells #[.int .i64 0, .int .i64 0, .string ⟨#[]⟩, .slice none 0 0, .slice none 0 0] 25)) := (below2 w _ _).alloc (by simp; omega) _
  have HRD := Lib.hid hrd
  have HMS := Lib.hid hms
  have HN : Hid (b.objs.length = no ∧ rms.length = no) := ⟨by omega, by omega⟩
  clear hb ob hrd hms hn hlm
  go_enter Try.func26, Try.ntmps26
  go_upto_region 1 with fail
  obtain ⟨W0, hW0⟩ : ∃ W0, (((w.alloc (.cells #[.slice po no co, .slice pt nt ct, .int .i64 sq, .int .i64 fl, .int .i64 kp] 35)).alloc (.cells #[.string id] 9)).alloc (.cells #[.int .i64 0, .int .i64 0, .string ⟨#[]⟩, .slice none 0 0, .slice none 0 0] 25)) = W0 := ⟨_, rfl⟩
  rw [hW0] at hA0 hS0 hZ0 hB0 ⊢
  clear hW0
  have c0 := hA0.cell 0 rfl
  have hs0 : W0.cell? ⟨w.heap.size + 1, 0, none⟩ = some (.string id) := by rw [cell_of_row W0 _ 0 _ _ _ hS0]; rfl
  have HS := Lib.hid hs0
  have HC := Lib.hid (indexO_any W0 po no co rms (HRD.out.below hB0 hB0.size) (w.heap.size + 1) id HS.out (by have := HN.out; omega))
  have HB := Lib.hid hB0
  clear hs0 hB0 hS0
  go_upto_region 2 with (go_at_call 70; refine HC.out.mono ?_; rintro e w1 ⟨rfl, hb1⟩)
  have hz0 := hZ0.lt
  have HA1 := hA0.under hb1 hA0.lt
  have HZ1 := hZ0.under hb1 hz0
  have HB1 := Lib.hid (HB.out.trans (hb1.mono HB.out.size))
  have hz1 := HZ1.lt
  have c0 := HA1.cell 0 rfl
  dsimp only at c0
  have z0 := HZ1.cell 0 rfl
  have z1 := HZ1.cell 1 rfl
  have z2 := HZ1.cell 2 rfl
  have z3 := HZ1.cell 3 rfl
  have z4 := HZ1.cell 4 rfl
  have y0 := HZ1.frozen 0
  have y1 := HZ1.frozen 1
  have y2 := HZ1.frozen 2
  have y3 := HZ1.frozen 3
  have y4 := HZ1.frozen 4
  dsimp only [RV.zero] at z0 z1 z2 z3 z4
  have HZ := Lib.hid HZ1
  clear HA1 HZ1 hA0 hZ0 hb1 HC HS hz0
  cases hf : rms.findIdx? (nameB id) with
  | none =>
    have HG : Hid (findJ b.objs id = none) := findJ_none (by rw [find_same (by have := HN.out; omega) HMS.out.name]; exact hf)
    have hn1 : placeI (none : Option Nat) = -1 := rfl
    rw [hn1]
    clear hf hn1
    go_wp2_with fail
    have HZ2 := HZ.out.stored RV.zero
    refine bodyPost_ret (v := .tuple #[RV.val RV.zero, .bool false]) (by simp [results, Try.results26, go_sem, RV.zero, z0, z1, z2, z3, z4]) rfl ⟨RV.zero, by rw [HG.out]; rfl, by rw [HG.out]; exact TreeOf.zero _ _, Below.stored HB1.out (by omega) RV.zero⟩
  | some i =>
    obtain ⟨p, hp, hg⟩ := findJ_some (by rw [find_same (by have := HN.out; omega) HMS.out.name]; exact hf)
    have HG := Lib.hid hg
    have hi := (List.getElem?_eq_some_iff.1 hp).1
    obtain ⟨q, hq⟩ : ∃ q, rms[i]? = some q := ⟨_, List.getElem?_eq_getElem (by have := HN.out; omega)⟩
    have hTq := HMS.out.val i p q hp hq
    have HTq := Lib.hid (hTq.under HB1.out (Nat.le_refl _))
    obtain ⟨b1, o1, rfl, hb1, hc1⟩ := rd_at' (HRD.out.below HB1.out (Nat.le_refl _)) hq
    have f0 := hc1 0 _ rfl
    have f1 := hc1 1 _ rfl
    have f2 := hc1 2 _ rfl
    have f3 := hc1 3 _ rfl
    have f4 := hc1 4 _ rfl
    have f5 := hc1 5 _ rfl
    have hn1 : placeI (some i) = (i : Int) := rfl
    rw [hn1]
    have hi0 : (0 : Int) ≤ (i : Int) := Int.natCast_nonneg _
    have hi1 : (i : Int) < (no : Int) := by have := HN.out; omega
    clear hf hp hg hq hTq hc1 hn1
    go_wp2_with fail
    have HZ2 := HZ.out.stored q.v
    refine bodyPost_ret (v := .tuple #[RV.val q.v, .bool true]) (by simp [results, Try.results26, go_sem, z0, z1, z2, z3, z4]) rfl ⟨q.v, by rw [HG.out]; rfl, ?_, Below.stored HB1.out (by omega) q.v⟩
    rw [HG.out]
    exact HTq.out.under (Below.stored (Below.refl _ _) (by omega) q.v) (by have := HB1.out.size; simp; omega)
end Go.Proofs.Ythgkgjcnmahacaa
end

section
/- An act that came in reads as one. -/
set_option linter.unusedSimpArgs false
set_option linter.unusedVariables false
set_option maxRecDepth 100000
namespace Go.Proofs.Ythgkgjcnmahacaa
open Go Go.RowKit Go.ChangeShapes Go.WideShapes Go.Deep

/-- An act's own cells. -/
structure RO where
  k : Int
  id : ByteArray
  v : RV
abbrev RO.val (r : RO) : Value := .agg #[.int .i64 r.k, .string r.id, .int .i64 r.v.k, .int .i64 r.v.n, .string r.v.s, .slice r.v.pl r.v.nl r.v.cl, .slice r.v.pm r.v.nm r.v.cm]
abbrev RO.obj (r : RO) : Obj := .cells #[.int .i64 r.k, .string r.id, .int .i64 r.v.k, .int .i64 r.v.n, .string r.v.s, .slice r.v.pl r.v.nl r.v.cl, .slice r.v.pm r.v.nm r.v.cm] 37
def encOp (r : RO) : List Value := .int .i64 r.k :: .string r.id :: encV r.v
theorem codecOp : Codec encOp 7 := ⟨fun _ => rfl, fun x u hu => by
  simp only [encOp, encV, List.mem_cons, List.not_mem_nil, or_false] at hu
  rcases hu with rfl | rfl | rfl | rfl | rfl | rfl | rfl <;> rfl, by decide⟩
/-- Its text and its value have lengths that may be. -/
def OpOk (r : RO) (t : JV) : Prop := r.id.size ≤ 140737488351232 ∧ t.Ok
theorem cellsOp : Try.prog.cellsOf 37 = 7 := by kernel_rfl
section
variable {H : Type} {enc : TypeId × Value → H} {W : World} {base b0 : Nat} {spare : Nat → Bool} {held : Bool}
theorem open_op_cells {fuel : Nat} {cs : List Value} {x : DataW H × List MemPlace} (h : DataW.trod enc Try.prog W base spare held fuel 37 cs = some x) :
    ∃ r t, cs = encOp r ∧ TreeOf W W.heap.size t r.v ∧ ((∀ n ∈ x.1.weights Try.prog 37, n ≤ 140737488351232) → OpOk r t) := by
  obtain ⟨y0, y1, y2, n, rfl, hx1, hlen, t0, t1, t2⟩ := trodF3 Try.underlying37 h
  rw [cellsOp] at hlen
  obtain ⟨a0, a1, a2, a3, a4, a5, a6, rfl⟩ : ∃ a0 a1 a2 a3 a4 a5 a6, cs = [a0, a1, a2, a3, a4, a5, a6] := by
    match cs, hlen with
    | [a, b, c, d, e, f, g], _ => exact ⟨a, b, c, d, e, f, g, rfl⟩
  rw [hx1]
  dsimp only at t0 t1 t2
  rw [cel2] at t0
  rw [cel3] at t1
  rw [cellsV] at t2
  simp only [List.drop_zero, List.drop_succ_cons, List.take_succ_cons, List.take_zero] at t0 t1 t2
  obtain ⟨k, e0, f0, w0⟩ := DataW.trod_int Try.underlying3 t0
  obtain ⟨s, e1, f1, w1⟩ := DataW.trod_string Try.underlying9 t1
  simp only [List.cons.injEq, and_true] at e0 e1
  subst e0 e1 f0 f1
  obtain ⟨r, t, h1, h2, h3⟩ := open_val n _ _ t2
  refine ⟨⟨k, s, r⟩, t, by rw [h1]; rfl, h2, fun hw => ⟨weights_string (weights_struct Try.underlying37 hw (i := 1) rfl rfl), h3 (weights_struct Try.underlying37 hw (i := 2) rfl rfl)⟩⟩
theorem open_op {v : Value} {d : DataW H} {p : List MemPlace} (hval : Value.okWide Try.prog W .any b0 37 v) (h : DataW.Trod enc Try.prog W base spare held 37 v d p) :
    ∃ r t, v = RO.val r ∧ TreeOf W W.heap.size t r.v ∧ ((∀ n ∈ d.weights Try.prog 37, n ≤ 140737488351232) → OpOk r t) := by
  obtain ⟨cs, rfl, hsz⟩ := okWide_struct Try.underlying37 hval
  obtain ⟨fuel, hf⟩ := h
  obtain ⟨r, t, h1, h2, h3⟩ := open_op_cells hf
  refine ⟨r, t, ?_, h2, h3⟩
  have : cs = (encOp r).toArray := by
    apply Array.ext'
    simpa [Value.cells] using h1
  rw [this]
  rfl
end
end Go.Proofs.Ythgkgjcnmahacaa
end

section
/- The arguments of the laws of layer 18 in their blocks. -/
set_option linter.unusedSimpArgs false
set_option linter.unusedVariables false
namespace Go.Proofs.Ythgkgjcnmahacaa
open Go.RowKit Go.OpenShut

def OpAt (W : World) (g : Nat) (r : RO) : Prop := W.heap[g]? = some (.cells #[.int .i64 r.k, .string r.id, .int .i64 r.v.k, .int .i64 r.v.n, .string r.v.s, .slice r.v.pl r.v.nl r.v.cl, .slice r.v.pm r.v.nm r.v.cm] 37 (0, 0))
theorem OpAt.cell {W : World} {g : Nat} {r : RO} (h : OpAt W g r) (j : Nat) {u : Value} (hu : (encOp r)[j]? = some u) : W.cell? ⟨g, j, none⟩ = some u := by
  unfold OpAt at h
  rw [cell_of_row W g j _ _ _ h, ← Array.getElem?_toList]
  exact hu
theorem OpAt.lt {W : World} {g : Nat} {r : RO} (h : OpAt W g r) : g < W.heap.size := (Array.getElem?_eq_some_iff.1 h).1
/-- The law's arguments in boxes. -/
structure PreS (w W : World) (r : RB) (o : RO) : Prop where
  box : BoxAt W w.heap.size r
  op : OpAt W (w.heap.size + 1) o
  below : Below w.heap.size w W
theorem PreS.go {w W W' : World} {r : RB} {o : RO} (h : PreS w W r o) (hb : Below W.heap.size W W') : PreS w W' r o := ⟨h.box.under hb h.box.lt, (hb.block _ h.op.lt).trans h.op, h.below.trans (hb.mono h.below.size)⟩
theorem PreS.row {w W W' : World} {r : RB} {o : RO} {row : Option Nat} (h : PreS w W r o) (hg : W.grownBy W' row) (hr : ∀ k, row = some k → w.heap.size + 1 < k) : PreS w W' r o := by
  have hz := h.op.lt
  have hb : ∀ k, k ≤ w.heap.size + 1 → W'.heap[k]? = W.heap[k]? := fun k hk => hg.block k (by omega) (fun e => by have := hr k e.symm; omega)
  exact ⟨(hb _ (by omega)).trans h.box, (hb _ (Nat.le_refl _)).trans h.op, h.below.grown hg h.below.size (fun a e => by have := hr a e; omega)⟩
theorem PreS.start (w : World) (r : RB) (o : RO) : PreS w ((w.alloc r.obj).alloc o.obj) r o := ⟨heap_alloc_lt (by simp) (heap_alloc_at rfl), heap_alloc_at (by simp), below2 _ _ _⟩
end Go.Proofs.Ythgkgjcnmahacaa
end

section
/- slices.Clone at api.Object, walked: a slice of the call's own with the same elements. -/
set_option linter.unusedSimpArgs false
set_option linter.unusedVariables false
namespace Go.Proofs.Ythgkgjcnmahacaa
open Go.RowKit

set_option maxRecDepth 100000 in
set_option maxHeartbeats 400000 in
theorem cloneO_any {α : Type} {enc : α → List Value} (C : Codec enc 6) (w : World) (p : Option Addr) (n c : Nat) (xs : List α) (hv : Rd w w.heap.size enc 6 (.slice p n c) xs) (hsz : xs.length * 96 ≤ 140737488355328) :
    Calls Try.prog 98 #[.slice p n c] w fun e w' => ∃ p' c', e = .returned (.slice p' n c') ∧ (p = none ↔ p' = none) ∧ Own w' w.heap.size 46 enc 6 (.slice p' n c') xs ∧ Below w.heap.size w w' := by
  have hn : n = xs.length := by
    obtain ⟨_, _, e, _⟩ := hv
    simp only [Value.slice.injEq] at e; exact e.2.1
  subst hn
  have HS := Lib.hid hsz
  have HV := Lib.hid hv
  cases p with
  | none =>
    have h0 : xs.length = 0 ∧ c = 0 := by
      obtain ⟨p', cap, he, hlc, hcm, hp0, hp⟩ := hv
      simp only [Value.slice.injEq] at he
      obtain ⟨rfl, h1, rfl⟩ := he
      have := hp0 rfl
      omega
    obtain ⟨h0, rfl⟩ := h0
    obtain rfl := List.eq_nil_of_length_eq_zero h0
    have hnil : ∀ W, (Go.binOp .eql 32 (.slice none 0 0) (.slice none 0 0)).run Try.prog W = .ok (.bool true) W := fun W => Lib.run_eql_slice_nil W 32 46 none 0 0 0 0 Try.underlying32
    clear hv
    go_enter Try.func98, Try.ntmps98
    go_wp2
    go_ret
    exact ⟨none, 0, rfl, by simp, Own.nil w _ _, Below.refl _ _⟩
  | some a =>
    have hnil : ∀ W, (Go.binOp .eql 32 (.slice (some a) xs.length c) (.slice none 0 0)).run Try.prog W = .ok (.bool false) W := fun W => Lib.run_eql_slice_nil W 32 46 (some a) xs.length c 0 0 Try.underlying32
    have hO : Own (w.alloc (.cells #[] 46)) w.heap.size 46 enc 6 (.slice (some ⟨w.heap.size, 0, none⟩) 0 0) ([] : List α) := Own.made (Nat.le_refl _)
    have hB0 : Below w.heap.size w (w.alloc (.cells #[] 46)) := (Below.refl _ _).alloc (Nat.le_refl _) _
    have HR := Lib.hid (HV.out.below hB0 (Nat.le_refl _))
    clear hv
    go_enter Try.func98, Try.ntmps98
    go_wp2_with (at_builtin; refine wpList_append_rd slO C (w.alloc (.cells #[] 46)) rfl (.tmp 5) (.tmp 6) rfl (v := .slice (some ⟨w.heap.size, 0, none⟩) 0 0) rfl rfl hO HR.out (by have := HS.out; simp; unfold maxLen; omega) (by have := HS.out; simp; omega) (by simp) ?_; intro v1 w1 ho1 hg1 hat1)
    have hb1 : Below w.heap.size w w1 := Below.appended hB0 hg1 hO (by simp)
    rw [List.nil_append] at ho1
    obtain ⟨p1, c1, rfl, _, _⟩ := ho1.len
    have hp1 : p1 ≠ none := by
      rintro rfl
      rcases hat1 with h | h <;> simp [Value.ownBlock] at h
    go_ret
    refine ⟨p1, c1, rfl, ⟨(fun h => by cases h), (fun h => absurd h hp1)⟩, ho1, hb1⟩
end Go.Proofs.Ythgkgjcnmahacaa
end

section
/- store.own: a box with lists of its own, walked. -/
set_option linter.unusedSimpArgs false
set_option linter.unusedVariables false
namespace Go.Proofs.Ythgkgjcnmahacaa
open Go.RowKit Go.OpenShut

/-- A box whose lists are the call's own, from block base on; its values lie below B. -/
structure NewBox (W : World) (base B : Nat) (b : BoxD) (r : RB) : Prop where
  objs : ∃ ros, Own W base 46 encM 6 (.slice r.po r.no r.co) ros ∧ MemsOf W B b.objs ros
  trail : Own W base 48 encE 3 (.slice r.pt r.nt r.ct) b.trail
  ok : ∀ e ∈ b.trail, e.ok
  seq : b.seq = r.sq
  floor : b.floor = r.fl
  keep : b.keep = r.kp
theorem NewBox.box {W : World} {base B : Nat} {b : BoxD} {r : RB} (h : NewBox W base B b r) (hB : B ≤ W.heap.size) : BoxOf W W.heap.size b r := by
  obtain ⟨ros, h1, h2⟩ := h.objs
  exact ⟨⟨ros, h1.rd codecM, h2.len, h2.name, fun i p q a c => (h2.val i p q a c).mono hB⟩, rdE_iff.2 ⟨h.ok, h.trail.rd codecE⟩, h.seq, h.floor, h.keep⟩
theorem NewBox.below {W W' : World} {base B : Nat} {b : BoxD} {r : RB} (h : NewBox W base B b r) (hb : Below W.heap.size W W') (hB : B ≤ W.heap.size) : NewBox W' base B b r := by
  obtain ⟨ros, h1, h2⟩ := h.objs
  exact ⟨⟨ros, h1.below hb (Nat.le_refl _), h2.under (hb.mono hB) (Nat.le_refl _)⟩, h.trail.below hb (Nat.le_refl _), h.ok, h.seq, h.floor, h.keep⟩
theorem NewBox.mono {W : World} {base base' B B' : Nat} {b : BoxD} {r : RB} (h : NewBox W base B b r) (hb : base' ≤ base) (hB : B ≤ B') : NewBox W base' B' b r := by
  obtain ⟨ros, h1, h2⟩ := h.objs
  exact ⟨⟨ros, h1.mono hb, h2.len, h2.name, fun i p q a c => (h2.val i p q a c).mono hB⟩, h.trail.mono hb, h.ok, h.seq, h.floor, h.keep⟩
/-- A store into another block than its lists'. -/
theorem NewBox.kept {W W' : World} {base B g : Nat} {b : BoxD} {r : RB} (h : NewBox W base B b r) (hg : W.grownBy W' (some g)) (h1 : (Value.slice r.po r.no r.co).ownBlock ≠ some g) (h2 : (Value.slice r.pt r.nt r.ct).ownBlock ≠ some g) (hBW : B ≤ W.heap.size) (hB : B ≤ g) : NewBox W' base B b r := by
  obtain ⟨ros, h3, h4⟩ := h.objs
  exact ⟨⟨ros, h3.kept hg (.inr h1), h4.under ((Below.refl B W).grown hg hBW (fun a e => by cases e; exact hB)) (Nat.le_refl _)⟩, h.trail.kept hg (.inr h2), h.ok, h.seq, h.floor, h.keep⟩

theorem BoxAt.set {W : World} {g : Nat} {r : RB} (h : BoxAt W g r) (p p' : Option Addr) (n n' c c' : Nat) :
    BoxAt ((W.setCell ⟨g, 0, none⟩ (.slice p n c)).setCell ⟨g, 1, none⟩ (.slice p' n' c')) g { r with po := p, no := n, co := c, pt := p', nt := n', ct := c' } := by
  unfold BoxAt at h ⊢
  simp [World.setCell, Array.getElem?_modify, h]
theorem BoxAt.stored {W : World} {g : Nat} {r : RB} (h : BoxAt W g r) (q : RB) :
    BoxAt (((((W.setCell ⟨g, 0, none⟩ (.slice q.po q.no q.co)).setCell ⟨g, 1, none⟩ (.slice q.pt q.nt q.ct)).setCell ⟨g, 2, none⟩ (.int .i64 q.sq)).setCell ⟨g, 3, none⟩ (.int .i64 q.fl)).setCell ⟨g, 4, none⟩ (.int .i64 q.kp)) g q := by
  unfold BoxAt at h ⊢
  simp [World.setCell, Array.getElem?_modify, h]
theorem BoxAt.kept {W W' : World} {g x : Nat} {r : RB} (h : BoxAt W x r) (hg : W.grownBy W' (some g)) (hne : x ≠ g) : BoxAt W' x r := (hg.block x h.lt (by simpa using hne)).trans h
theorem grownBy_setB (W : World) (g : Nat) (q : RB) :
    W.grownBy (((((W.setCell ⟨g, 0, none⟩ (.slice q.po q.no q.co)).setCell ⟨g, 1, none⟩ (.slice q.pt q.nt q.ct)).setCell ⟨g, 2, none⟩ (.int .i64 q.sq)).setCell ⟨g, 3, none⟩ (.int .i64 q.fl)).setCell ⟨g, 4, none⟩ (.int .i64 q.kp)) (some g) :=
  ((((grownBy_set W g 0 _).trans (grownBy_set _ g 1 _)).trans (grownBy_set _ g 2 _)).trans (grownBy_set _ g 3 _)).trans (grownBy_set _ g 4 _)

def NewRet (w : World) (B : Nat) (b : BoxD) (e : Ending) (w' : World) : Prop := ∃ r, e = .returned (RB.val r) ∧ NewBox w' w.heap.size B b r ∧ Below w.heap.size w w'

/-- Behind both clones. -/
structure OwnMid (w W : World) (B : Nat) (b : BoxD) (q : RB) : Prop where
  box : BoxAt W w.heap.size q
  zero : BoxAt W (w.heap.size + 1) RB.zero
  new : NewBox W w.heap.size B b q
  below : Below w.heap.size w W
  b1 : (Value.slice q.po q.no q.co).ownBlock ≠ some (w.heap.size + 1)
  b2 : (Value.slice q.pt q.nt q.ct).ownBlock ≠ some (w.heap.size + 1)
theorem OwnMid.mk' {w w0 w1 w2 : World} {B : Nat} {b : BoxD} {po p' p2 pt : Option Addr} {no co nt ct c' c2 : Nat} {sq fl kp : Int} {ros : List RM} (hA : BoxAt w0 w.heap.size ⟨po, no, co, pt, nt, ct, sq, fl, kp⟩) (hZ : BoxAt w0 (w.heap.size + 1) RB.zero) (hB0 : Below w.heap.size w w0) (hw : w0.heap.size = w.heap.size + 1 + 1)
    (ho1 : Own w1 w0.heap.size 46 encM 6 (.slice p' no c') ros) (hb1 : Below w0.heap.size w0 w1) (ho2 : Own w2 w1.heap.size 48 encE 3 (.slice p2 nt c2) b.trail) (hb2 : Below w1.heap.size w1 w2) (hms : MemsOf w B b.objs ros) (hBw : B ≤ w.heap.size) (hok : ∀ e ∈ b.trail, e.ok) (he : b.seq = sq ∧ b.floor = fl ∧ b.keep = kp) :
    OwnMid w ((w2.setCell ⟨w.heap.size, 0, none⟩ (.slice p' no c')).setCell ⟨w.heap.size, 1, none⟩ (.slice p2 nt c2)) B b ⟨p', no, c', p2, nt, c2, sq, fl, kp⟩ := by
  have hz1 := hb1.size
  have hz2 := hb2.size
  have hA2 : BoxAt w2 w.heap.size ⟨po, no, co, pt, nt, ct, sq, fl, kp⟩ := (hA.under hb1 (by omega)).under hb2 (by omega)
  have hZ2 : BoxAt w2 (w.heap.size + 1) RB.zero := (hZ.under hb1 (by omega)).under hb2 (by omega)
  have hg : w2.grownBy ((w2.setCell ⟨w.heap.size, 0, none⟩ (.slice p' no c')).setCell ⟨w.heap.size, 1, none⟩ (.slice p2 nt c2)) (some w.heap.size) := (grownBy_set w2 _ 0 _).trans (grownBy_set _ _ 1 _)
  have ho1' : Own w2 w.heap.size 46 encM 6 (.slice p' no c') ros := (ho1.below hb2 (Nat.le_refl _)).mono (by omega)
  have hbb : Below w.heap.size w w2 := (hB0.trans (hb1.mono (by omega))).trans (hb2.mono (by omega))
  have n1 : (Value.slice p' no c').ownBlock ≠ some w.heap.size := fun e => by have := (ho1.lt _ e).1; omega
  have n2 : (Value.slice p2 nt c2).ownBlock ≠ some w.heap.size := fun e => by have := (ho2.lt _ e).1; omega
  refine ⟨hA2.set _ _ _ _ _ _, hZ2.kept hg (by omega), ?_, hbb.grown hg (by omega) (fun a e => by cases e; exact Nat.le_refl _), fun e => by have := (ho1.lt _ e).1; omega, fun e => by have := (ho2.lt _ e).1; omega⟩
  exact NewBox.kept (W := w2) (g := w.heap.size) ⟨⟨ros, ho1', hms.under (hbb.mono hBw) (Nat.le_refl _)⟩, ho2.mono (by omega), hok, he.1, he.2.1, he.2.2⟩ hg n1 n2 (by omega) hBw

set_option maxRecDepth 100000 in
set_option maxHeartbeats 4000000 in
theorem own_any (b : BoxD) (r : RB) (w : World) (B : Nat) (hBw : B ≤ w.heap.size) (hb : BoxOf w B b r) (ob : b.Ok) :
    Calls Try.prog 63 #[r.val] w (NewRet w B b) := by
  obtain ⟨po, no, co, pt, nt, ct, sq, fl, kp⟩ := r
  obtain ⟨⟨ros, hro, hms⟩, htr, hsq, hfl, hkp⟩ := hb
  dsimp only [RB.val] at *
  have hlo := hms.len
  have hno := rd_nlen hro
  have hnt := htr.nlen
  have hzo := ob.objs
  have hzt := ob.trail
  obtain ⟨hok, hrt⟩ := rdE_iff.1 htr
  have hA0 : BoxAt ((w.alloc (.cells #[.slice po no co, .slice pt nt ct, .int .i64 sq, .int .i64 fl, .int .i64 kp] 35)).alloc (.cells #[.slice none 0 0, .slice none 0 0, .int .i64 0, .int .i64 0, .int .i64 0] 35)) w.heap.size ⟨po, no, co, pt, nt, ct, sq, fl, kp⟩ := heap_alloc_lt (by simp) (heap_alloc_at rfl)
  have hZ0 : BoxAt ((w.alloc (.cells #[.slice po no co, .slice pt nt ct, .int .i64 sq, .int .i64 fl, .int .i64 kp] 35)).alloc (.cells #[.slice none 0 0, .slice none 0 0, .int .i64 0, .int .i64 0, .int .i64 0] 35)) (w.heap.size + 1) RB.zero := heap_alloc_at (by simp)
  have hB0 := below2 w (.cells #[.slice po no co, .slice pt nt ct, .int .i64 sq, .int .i64 fl, .int .i64 kp] 35) (.cells #[.slice none 0 0, .slice none 0 0, .int .i64 0, .int .i64 0, .int .i64 0] 35)
  have HRO := Lib.hid hro
  have HRT := Lib.hid hrt
  have HOK := Lib.hid hok
  have HMS := Lib.hid hms
  have HZO : Hid (ros.length * 96 ≤ 140737488355328) := by unfold Hid; omega
  have HZT : Hid (b.trail.length * 32 ≤ 140737488355328) := by unfold Hid; omega
  have HEQ : Hid (b.seq = sq ∧ b.floor = fl ∧ b.keep = kp) := ⟨hsq, hfl, hkp⟩
  have HNT := Lib.hid hnt
  clear hlo hno hnt hzo hzt hok hrt htr hro hms hsq hfl hkp ob
  go_enter Try.func63, Try.ntmps63
  go_upto_region 1 with fail
  obtain ⟨W0, hW0⟩ : ∃ W0, ((w.alloc (.cells #[.slice po no co, .slice pt nt ct, .int .i64 sq, .int .i64 fl, .int .i64 kp] 35)).alloc (.cells #[.slice none 0 0, .slice none 0 0, .int .i64 0, .int .i64 0, .int .i64 0] 35)) = W0 := ⟨_, rfl⟩
  have hws : W0.heap.size = w.heap.size + 1 + 1 := by rw [← hW0]; simp
  rw [hW0] at hA0 hZ0 hB0 ⊢
  clear hW0
  have HWS := Lib.hid hws
  have c0 := hA0.cell 0 rfl
  have c1 := hA0.cell 1 rfl
  dsimp only at c0 c1
  have hz := hA0.lt
  have HAD : Hid (BoxAt W0.drew w.heap.size ⟨po, no, co, pt, nt, ct, sq, fl, kp⟩) := hA0
  have HZD : Hid (BoxAt W0.drew (w.heap.size + 1) RB.zero) := hZ0
  have HB0 := Lib.hid hB0
  clear hA0 hZ0 hB0 hws
  go_region_law (first
    | (go_simp; go_at_call 98; refine (cloneO_any codecM _ po no co ros (HRO.out.below (HB0.out.drew.mono hBw) (Nat.le_trans hBw HB0.out.size)) HZO.out).mono ?_; rintro e w1 ⟨p', c', rfl, hpn1, ho1, hb1⟩; (have c0' := bcs hb1 hz c0); (have c1' := bcs hb1 hz c1))
    | (go_simp; go_at_call 99; refine (cloneE_any codecE _ _ b.trail (HRT.out.below ((HB0.out.drew.trans (hb1.mono HB0.out.size)).mono hBw) (Nat.le_trans hBw (HB0.out.drew.trans (hb1.mono HB0.out.size)).size)) HZT.out).mono ?_; rintro e w2 ⟨u2, rfl, ho2, hb2⟩; obtain ⟨p2, c2, hu2, _, _⟩ := ho2.len; rw [HNT.out] at hu2; subst hu2; (have hA2 := (HAD.out.under hb1 hz).under hb2 (Nat.lt_of_lt_of_le hz hb1.size)); (have d0 := hA2.cell 0 rfl); (have d1 := hA2.cell 1 rfl); (have x0 := hA2.frozen 0); (have x1 := hA2.frozen 1)))
  all_goals (
    have hM := OwnMid.mk' (w := w) HAD.out HZD.out HB0.out.drew HWS.out ho1 hb1 ho2 hb2 HMS.out hBw HOK.out HEQ.out
    obtain ⟨W3, hW3⟩ : ∃ W3, (w2.setCell ⟨w.heap.size, 0, none⟩ (.slice p' no c')).setCell ⟨w.heap.size, 1, none⟩ (.slice p2 nt c2) = W3 := ⟨_, rfl⟩
    rw [hW3] at hM ⊢
    clear hW3 c0 c1 c0' c1' d0 d1 x0 x1 hA2 ho1 ho2 hb1 hb2 hz
    have HM := Lib.hid hM
    have a0 := hM.box.cell 0 rfl
    have a1 := hM.box.cell 1 rfl
    have a2 := hM.box.cell 2 rfl
    have a3 := hM.box.cell 3 rfl
    have a4 := hM.box.cell 4 rfl
    have z0 := hM.zero.cell 0 rfl
    have z1 := hM.zero.cell 1 rfl
    have z2 := hM.zero.cell 2 rfl
    have z3 := hM.zero.cell 3 rfl
    have z4 := hM.zero.cell 4 rfl
    dsimp only [RB.zero] at a0 a1 a2 a3 a4 z0 z1 z2 z3 z4
    have y0 := hM.zero.frozen 0
    have y1 := hM.zero.frozen 1
    have y2 := hM.zero.frozen 2
    have y3 := hM.zero.frozen 3
    have y4 := hM.zero.frozen 4
    clear hM
    go_wp2_with fail
    have hS := HM.out.zero.stored ⟨p', no, c', p2, nt, c2, sq, fl, kp⟩
    have hg := grownBy_setB W3 (w.heap.size + 1) ⟨p', no, c', p2, nt, c2, sq, fl, kp⟩
    refine bodyPost_ret (v := RB.val ⟨p', no, c', p2, nt, c2, sq, fl, kp⟩) (by simp [results, Try.results63, go_sem, z0, z1, z2, z3, z4]) rfl ⟨⟨p', no, c', p2, nt, c2, sq, fl, kp⟩, rfl, HM.out.new.kept hg HM.out.b1 HM.out.b2 (by have := HM.out.below.size; omega) (by omega), HM.out.below.grown hg (by have := HM.out.below.size; omega) (fun a e => by cases e; omega)⟩)
end Go.Proofs.Ythgkgjcnmahacaa
end

section
/- store.changed: a box with an entry more, walked. -/
set_option linter.unusedSimpArgs false
set_option linter.unusedVariables false
namespace Go.Proofs.Ythgkgjcnmahacaa
open Go.RowKit Go.OpenShut

/-- A box with other objects, and an entry more. -/
def chgB (b : BoxD) (os : List (ByteArray × JV)) (id : ByteArray) (what : Int) : BoxD :=
  ⟨os, addL b.trail b.keep ⟨b.seq + 1, id, what⟩, b.seq + 1, addF b.trail b.floor b.keep ⟨b.seq + 1, id, what⟩, b.keep⟩
theorem addL_oks {l : List En} {keep : Int} {e : En} (hl : ∀ x ∈ l, x.ok) (he : e.ok) : ∀ x ∈ addL l keep e, x.ok := fun x hx => by
  rcases List.mem_append.1 (List.mem_of_mem_drop hx) with h | h
  · exact hl x h
  · obtain rfl : x = e := by simpa using h
    exact he
theorem BoxAt.set2 {W : World} {g : Nat} {r : RB} (h : BoxAt W g r) (q : Int) : BoxAt (W.setCell ⟨g, 2, none⟩ (.int .i64 q)) g { r with sq := q } := by
  unfold BoxAt at h ⊢
  simp [World.setCell, Array.getElem?_modify, h]
theorem BoxAt.set13 {W : World} {g : Nat} {r : RB} (h : BoxAt W g r) (p : Option Addr) (n c : Nat) (f : Int) : BoxAt ((W.setCell ⟨g, 1, none⟩ (.slice p n c)).setCell ⟨g, 3, none⟩ (.int .i64 f)) g { r with pt := p, nt := n, ct := c, fl := f } := by
  unfold BoxAt at h ⊢
  simp [World.setCell, Array.getElem?_modify, h]
theorem wf_bounds {n : Int} (h : (Lit.int .i64 n).wf = true) : -9223372036854775808 ≤ n ∧ n ≤ 9223372036854775807 := by
  simp [Lit.wf, IntKind.min, IntKind.max, IntKind.signed, IntKind.bits] at h
  omega
theorem wf_of {n : Int} (h0 : -9223372036854775808 ≤ n) (h1 : n ≤ 9223372036854775807) : (Lit.int .i64 n).wf = true := by
  simp [Lit.wf, IntKind.min, IntKind.max, IntKind.signed, IntKind.bits]
  omega

/-- What the trail says is in the call's own list. -/
structure ChgMid (w W : World) (base B : Nat) (b : BoxD) (q : RB) : Prop where
  box : BoxAt W w.heap.size q
  zero : BoxAt W (w.heap.size + 1) RB.zero
  new : NewBox W base B b q
  below : Below w.heap.size w W
  b1 : (Value.slice q.po q.no q.co).ownBlock ≠ some (w.heap.size + 1)
  b2 : (Value.slice q.pt q.nt q.ct).ownBlock ≠ some (w.heap.size + 1)

set_option maxRecDepth 100000 in
set_option maxHeartbeats 4000000 in
theorem changed_any (b : BoxD) (r : RB) (w : World) (base B : Nat) (id : ByteArray) (what : Int) (hBw : B ≤ w.heap.size) (hbase : base ≤ w.heap.size) (hb : NewBox w base B b r) (hs0 : (Lit.int .i64 b.seq).wf = true) (hs1 : b.seq < 9007199254740991) (hf : (Lit.int .i64 b.floor).wf = true) (hk : (Lit.int .i64 b.keep).wf = true)
    (hid : id.size ≤ maxLen) (hwh : (Lit.int .i64 what).wf = true) (hlen : (b.trail.length + 1) * 32 ≤ 140737488355328) :
    Calls Try.prog 66 #[r.val, .string id, .int .i64 what] w fun e w' => ∃ q, e = .returned (RB.val q) ∧ NewBox w' base B (chgB b b.objs id what) q ∧ Below w.heap.size w w' := by
  obtain ⟨po, no, co, pt, nt, ct, sq, fl, kp⟩ := r
  obtain ⟨⟨ros, hro, hms⟩, htr, hok, hsq, hfl, hkp⟩ := hb
  dsimp only [RB.val] at *
  have hws := wf_bounds hs0
  rw [hsq] at hws hs1
  have hA0 : BoxAt ((w.alloc (.cells #[.slice po no co, .slice pt nt ct, .int .i64 sq, .int .i64 fl, .int .i64 kp] 35)).alloc (.cells #[.slice none 0 0, .slice none 0 0, .int .i64 0, .int .i64 0, .int .i64 0] 35)) w.heap.size ⟨po, no, co, pt, nt, ct, sq, fl, kp⟩ := heap_alloc_lt (by simp) (heap_alloc_at rfl)
  have hZ0 : BoxAt ((w.alloc (.cells #[.slice po no co, .slice pt nt ct, .int .i64 sq, .int .i64 fl, .int .i64 kp] 35)).alloc (.cells #[.slice none 0 0, .slice none 0 0, .int .i64 0, .int .i64 0, .int .i64 0] 35)) (w.heap.size + 1) RB.zero := heap_alloc_at (by simp)
  have hB0 := below2 w (.cells #[.slice po no co, .slice pt nt ct, .int .i64 sq, .int .i64 fl, .int .i64 kp] 35) (.cells #[.slice none 0 0, .slice none 0 0, .int .i64 0, .int .i64 0, .int .i64 0] 35)
  have hwq : (Lit.int .i64 (b.seq + 1)).wf = true := wf_of (by rw [hsq]; omega) (by rw [hsq]; omega)
  have HQ : Hid (En.ok ⟨b.seq + 1, id, what⟩) := ⟨hwq, hid, hwh⟩
  have HRO := Lib.hid hro
  have HRT := Lib.hid htr
  have HOK := Lib.hid hok
  have HMS := Lib.hid hms
  have HEQ : Hid (b.seq = sq ∧ b.floor = fl ∧ b.keep = kp) := ⟨hsq, hfl, hkp⟩
  have HF : Hid ((Lit.int .i64 b.floor).wf = true ∧ (Lit.int .i64 b.keep).wf = true ∧ (b.trail.length + 1) * 32 ≤ 140737488355328) := ⟨hf, hk, hlen⟩
  clear hok hro hms hsq hfl hkp hs0 hf hk hwq hid hwh hlen
  go_enter Try.func66, Try.ntmps66
  go_upto_region 1 with fail
  obtain ⟨W0, hW0⟩ : ∃ W0, ((w.alloc (.cells #[.slice po no co, .slice pt nt ct, .int .i64 sq, .int .i64 fl, .int .i64 kp] 35)).alloc (.cells #[.slice none 0 0, .slice none 0 0, .int .i64 0, .int .i64 0, .int .i64 0] 35)) = W0 := ⟨_, rfl⟩
  have hws0 : W0.heap.size = w.heap.size + 1 + 1 := by rw [← hW0]; simp
  rw [hW0] at hA0 hZ0 hB0 ⊢
  clear hW0
  have c2 := hA0.cell 2 rfl
  have x2 := hA0.frozen 2
  dsimp only at c2
  have hws1 := hws.1
  clear hws
  go_upto_region 2 with fail
  have hA1 := hA0.set2 (sq + 1)
  have hZ1 := hZ0.kept (grownBy_set W0 w.heap.size 2 (.int .i64 (sq + 1))) (by omega)
  have hB1 : Below w.heap.size w (W0.setCell ⟨w.heap.size, 2, none⟩ (.int .i64 (sq + 1))) := hB0.setCell (Nat.le_refl _) _
  obtain ⟨W1, hW1⟩ : ∃ W1, W0.setCell ⟨w.heap.size, 2, none⟩ (.int .i64 (sq + 1)) = W1 := ⟨_, rfl⟩
  have hz1 : W1.heap.size = w.heap.size + 1 + 1 := by rw [← hW1]; simp [hws0]
  rw [hW1] at hA1 hZ1 hB1 ⊢
  clear hW1 hA0 hZ0 hB0 hws0 c2 x2 hws1
  have a0 := hA1.cell 0 rfl
  have a1 := hA1.cell 1 rfl
  have a2 := hA1.cell 2 rfl
  have a3 := hA1.cell 3 rfl
  have a4 := hA1.cell 4 rfl
  dsimp only at a0 a1 a2 a3 a4
  have hadd := add_any W1 (.slice pt nt ct) b.trail fl kp ⟨sq + 1, id, what⟩ ((HRT.out.rd codecE).below hB1 hB1.size) (by rw [← HEQ.out.2.1]; exact HF.out.1) (by rw [← HEQ.out.2.2]; exact HF.out.2.1) HF.out.2.2
  have HADD := Lib.hid hadd
  have HA := Lib.hid hA1
  have HZ := Lib.hid hZ1
  have HB := Lib.hid hB1
  have HZ1 := Lib.hid hz1
  have hz := hA1.lt
  clear hadd hA1 hZ1 hB1 hz1
  go_upto_region 3 with (go_at_call 101; refine HADD.out.mono ?_; rintro e w2 ⟨u, rfl, ho2, hb2⟩; obtain ⟨p2, c2, hu2, _, _⟩ := ho2.len; subst hu2; (have hA2 := HA.out.under hb2 hz); (have d1 := hA2.cell 1 rfl); (have d3 := hA2.cell 3 rfl); (have x1 := hA2.frozen 1); (have x3 := hA2.frozen 3))
  have hA3 := hA2.set13 p2 (addL b.trail kp ⟨sq + 1, id, what⟩).length c2 (addF b.trail fl kp ⟨sq + 1, id, what⟩)
  obtain ⟨W3, hW3⟩ : ∃ W3, (w2.setCell ⟨w.heap.size, 1, none⟩ (.slice p2 (addL b.trail kp ⟨sq + 1, id, what⟩).length c2)).setCell ⟨w.heap.size, 3, none⟩ (.int .i64 (addF b.trail fl kp ⟨sq + 1, id, what⟩)) = W3 := ⟨_, rfl⟩
  have hg3 : w2.grownBy W3 (some w.heap.size) := by rw [← hW3]; exact (grownBy_set w2 _ 1 _).trans (grownBy_set _ _ 3 _)
  rw [hW3] at hA3 ⊢
  clear hW3
  have hz2 := hb2.size
  have hZ3 : BoxAt W3 (w.heap.size + 1) RB.zero := (HZ.out.under hb2 (by have := HZ1.out; omega)).kept hg3 (by omega)
  have hbb2 : Below w.heap.size w w2 := HB.out.trans (hb2.mono (by have := HZ1.out; omega))
  have hlt1 := fun k (e : (Value.slice po no co).ownBlock = some k) => (HRO.out.lt k e).2
  have n1 : (Value.slice po no co).ownBlock ≠ some w.heap.size := fun e => by have := hlt1 _ e; omega
  have n2 : (Value.slice p2 (addL b.trail kp ⟨sq + 1, id, what⟩).length c2).ownBlock ≠ some w.heap.size := fun e => by have := (ho2.lt _ e).1; have := HZ1.out; omega
  have hM : ChgMid w W3 base B (chgB b b.objs id what) ⟨po, no, co, p2, (addL b.trail kp ⟨sq + 1, id, what⟩).length, c2, sq + 1, addF b.trail fl kp ⟨sq + 1, id, what⟩, kp⟩ := by
    obtain ⟨e1, e2, e3⟩ := HEQ.out
    refine ⟨hA3, hZ3, ?_, hbb2.grown hg3 (by have := HZ1.out; omega) (fun a e => by cases e; exact Nat.le_refl _), fun e => by have := hlt1 _ e; omega, fun e => by have := (ho2.lt _ e).1; have := HZ1.out; omega⟩
    refine NewBox.kept (W := w2) (g := w.heap.size) ⟨⟨ros, HRO.out.below hbb2 (Nat.le_refl _), HMS.out.under (hbb2.mono hBw) (Nat.le_refl _)⟩, ?_, ?_, ?_, ?_, ?_⟩ hg3 n1 n2 (by have := hbb2.size; omega) hBw
    · show Own w2 base 48 encE 3 _ (addL b.trail b.keep ⟨b.seq + 1, id, what⟩)
      rw [e1, e3]
      exact ho2.mono (by have := HZ1.out; omega)
    · exact addL_oks HOK.out HQ.out
    · show b.seq + 1 = sq + 1
      rw [e1]
    · show addF b.trail b.floor b.keep ⟨b.seq + 1, id, what⟩ = _
      rw [e1, e2, e3]
    · exact e3
  have HM := Lib.hid hM
  have g0 := hM.box.cell 0 rfl
  have g1 := hM.box.cell 1 rfl
  have g2 := hM.box.cell 2 rfl
  have g3 := hM.box.cell 3 rfl
  have g4 := hM.box.cell 4 rfl
  have z0 := hM.zero.cell 0 rfl
  have z1 := hM.zero.cell 1 rfl
  have z2 := hM.zero.cell 2 rfl
  have z3 := hM.zero.cell 3 rfl
  have z4 := hM.zero.cell 4 rfl
  dsimp only [RB.zero] at g0 g1 g2 g3 g4 z0 z1 z2 z3 z4
  have y0 := hM.zero.frozen 0
  have y1 := hM.zero.frozen 1
  have y2 := hM.zero.frozen 2
  have y3 := hM.zero.frozen 3
  have y4 := hM.zero.frozen 4
  clear hM a0 a1 a2 a3 a4 d1 d3 x1 x3 hA2 hA3 hZ3 hbb2 hlt1 n1 n2 ho2 hb2 hg3 hz hz2
  go_wp2_with fail
  have hg := grownBy_setB W3 (w.heap.size + 1) ⟨po, no, co, p2, (addL b.trail kp ⟨sq + 1, id, what⟩).length, c2, sq + 1, addF b.trail fl kp ⟨sq + 1, id, what⟩, kp⟩
  refine bodyPost_ret (v := RB.val ⟨po, no, co, p2, (addL b.trail kp ⟨sq + 1, id, what⟩).length, c2, sq + 1, addF b.trail fl kp ⟨sq + 1, id, what⟩, kp⟩) (by simp [results, Try.results66, go_sem, z0, z1, z2, z3, z4]) rfl ⟨_, rfl, HM.out.new.kept hg HM.out.b1 HM.out.b2 (by have := HM.out.below.size; omega) (by omega), HM.out.below.grown hg (by have := HM.out.below.size; omega) (fun a e => by cases e; omega)⟩
end Go.Proofs.Ythgkgjcnmahacaa
end

section
/- copy at elements of several cells, and what becomes of a row. Plain laws over any program. -/
set_option linter.unusedSimpArgs false
set_option linter.unusedVariables false
namespace Go.Proofs.Ythgkgjcnmahacaa
open Go Go.RowKit

theorem setRow_at (w : World) (g : Nat) (cur c : Array Value) (t : TypeId) (fr : Nat × Nat) (h : w.heap[g]? = some (.cells cur t fr)) : (w.setRow g c).heap[g]? = some (.cells c t fr) := by
  simp [World.setRow, Array.getElem?_modify, h]
theorem setRow_grown (w : World) (g : Nat) (c : Array Value) : w.grownBy (w.setRow g c) (some g) :=
  ⟨rfl, rfl, rfl, by simp, fun k _ hk => by
    simp only [World.setRow, Array.getElem?_modify]
    rw [if_neg (fun e => hk (by rw [e]))]⟩
section
variable {P : Program} {α : Type} {enc : α → List Value} {sz bytes : Nat} {t e : TypeId}
theorem run_copy_rowN (w : World) (dT sT ty elem : TypeId) (g o dLen dCap : Nat) (a : Addr) (sLen sCap n : Nat) (cur : Array Value) (t : TypeId) (cs : List Value)
    (hu : P.underlying dT = some (.slice elem)) (hs : (P.info? elem).map (·.size) = some sz)
    (hg : w.heap[g]? = some (.cells cur t (0, 0))) (hm : Nat.min sLen dLen = n) (hn : cs.length = n * sz)
    (hsrc : ∀ j v, cs[j]? = some v → w.cell? (a.add j) = some v) (hfit : o + cs.length ≤ cur.size) (h1 : ∀ v ∈ cs, v.oneCell' = true) :
    (Builtin.copy_ #[dT, sT] ty #[.slice (some ⟨g, o, none⟩) dLen dCap, .slice (some a) sLen sCap]).run P w =
      .ok (goInt n) (w.setRow g (cur.toList.take o ++ cs ++ cur.toList.drop (o + cs.length)).toArray) := by
  have hl := run_loadCells_list (P := P) w a cs hsrc
  have hst := run_storeCells_at P g o t cs 0 cur w hg (by simpa using hfit) h1
  cases hq : P.info? elem with
  | none => simp [hq] at hs
  | some i =>
    have hi : i.size = sz := by simpa [hq] using hs
    simp [Builtin.copy_, run_underlying hu, Builtin.lenOf, Builtin.firstCells, sizeOf, typeInfo, hq, hi, hm, ← hn, hl, hst]

/-- A row known whole is owned. -/
theorem Own.ofRow {w : World} {base g n cap : Nat} {xs : List α} {cs : Array Value} (C : Codec enc sz) (h : w.heap[g]? = some (.cells cs e (0, 0))) (hc : cs.toList.take (n * sz) = cellsOf enc xs) (hn : n = xs.length) (hg : base ≤ g) (hnc : n ≤ cap) (hm : cap ≤ maxLen) (hs : cs.size = cap * sz) :
    Own w base e enc sz (.slice (some ⟨g, 0, none⟩) n cap) xs := by
  subst hn
  exact ⟨cellsOf_len C xs, .inr ⟨g, cap, cs, rfl, hg, h, hnc, hm, hs, hc⟩⟩
theorem Own.row {w : World} {base n cap : Nat} {p : Option Addr} {xs : List α} (h : Own w base e enc sz (.slice p n cap) xs) (hp : 0 < cap ∨ p ≠ none) :
    ∃ g cur, p = some ⟨g, 0, none⟩ ∧ base ≤ g ∧ w.heap[g]? = some (.cells cur e (0, 0)) ∧ n = xs.length ∧ n ≤ cap ∧ cap ≤ maxLen ∧ cur.size = cap * sz ∧ cur.toList.take (n * sz) = cellsOf enc xs := by
  obtain ⟨_, h⟩ := h
  rcases h with ⟨hv, _⟩ | ⟨g, cap', cur, hv, hg, hh, hnc, hcm, hcs, ht⟩
  · simp only [Value.slice.injEq] at hv
    obtain ⟨rfl, _, rfl⟩ := hv
    rcases hp with h | h
    · omega
    · exact absurd rfl h
  · simp only [Value.slice.injEq] at hv
    obtain ⟨rfl, rfl, rfl⟩ := hv
    exact ⟨g, cur, rfl, hg, hh, rfl, hnc, hcm, hcs, ht⟩
theorem cells_take (C : Codec enc sz) (xs : List α) (k : Nat) : (cellsOf enc xs).take (k * sz) = cellsOf enc (xs.take k) := by
  have h1 : cellsOf enc xs = cellsOf enc (xs.take k) ++ cellsOf enc (xs.drop k) := by rw [← cellsOf_append, List.take_append_drop]
  by_cases h : k ≤ xs.length
  · have h3 : (cellsOf enc (xs.take k)).length = k * sz := by rw [cellsOf_len C, List.length_take, Nat.min_eq_left h]
    rw [h1, ← h3, List.take_left]
  · rw [List.take_of_length_le (l := xs) (by omega), List.take_of_length_le]
    rw [cellsOf_len C]
    exact Nat.mul_le_mul_right _ (by omega)
/-- A row whose head is opened at element i for one more: the copies of Insert. -/
theorem row_insert (C : Codec enc sz) {cur : List Value} {xs : List α} {n cap i : Nat} {x : α} (hn : n = xs.length) (ht : cur.take (i * sz) = cellsOf enc (xs.take i)) (hi : i ≤ n) (hl : (n + 1) * sz ≤ cur.length) :
    let row1 := cur.take ((i + 1) * sz) ++ cellsOf enc (xs.drop i) ++ cur.drop ((i + 1) * sz + (cellsOf enc (xs.drop i)).length)
    (row1.take (i * sz) ++ enc x ++ row1.drop (i * sz + (enc x).length)).take ((n + 1) * sz) = cellsOf enc (xs.take i ++ x :: xs.drop i) := by
  intro row1
  have hx := C.len x
  have hd : (cellsOf enc (xs.drop i)).length = (n - i) * sz := by rw [cellsOf_len C, List.length_drop, hn]
  have hi1 : (i + 1) * sz = i * sz + sz := by rw [Nat.add_mul, Nat.one_mul]
  have hn1 : (n + 1) * sz = i * sz + sz + (n - i) * sz := by
    have : n + 1 = i + 1 + (n - i) := by omega
    rw [this, Nat.add_mul, Nat.add_mul, Nat.one_mul]
  have h1 : row1.take (i * sz) = cellsOf enc (xs.take i) := by
    rw [← ht]
    show (cur.take ((i + 1) * sz) ++ cellsOf enc (xs.drop i) ++ _).take (i * sz) = _
    rw [List.append_assoc, List.take_append_of_le_length (by rw [List.length_take]; omega), List.take_take, Nat.min_eq_left (by omega)]
  have hlt : (cur.take ((i + 1) * sz)).length = i * sz + sz := by rw [List.length_take]; omega
  have h2 : row1.drop (i * sz + (enc x).length) = cellsOf enc (xs.drop i) ++ cur.drop ((i + 1) * sz + (cellsOf enc (xs.drop i)).length) := by
    rw [hx, ← hlt]
    show (cur.take ((i + 1) * sz) ++ cellsOf enc (xs.drop i) ++ _).drop _ = _
    rw [List.append_assoc, List.drop_left]
  rw [h1, h2, cellsOf_append]
  have e1 : cellsOf enc (x :: xs.drop i) = enc x ++ cellsOf enc (xs.drop i) := by simp [cellsOf]
  have hl1 : (cellsOf enc (xs.take i)).length = i * sz := by rw [← ht, List.length_take]; omega
  rw [e1, ← List.append_assoc (cellsOf enc (xs.take i)), ← List.append_assoc (cellsOf enc (xs.take i) ++ enc x), List.take_append_of_le_length (by simp only [List.length_append]; omega), List.take_of_length_le (by simp only [List.length_append]; omega)]
/-- The same where the element is laid first. -/
theorem row_insert2 (C : Codec enc sz) {cur : List Value} {xs : List α} {n cap i : Nat} {x : α} (hn : n = xs.length) (ht : cur.take (i * sz) = cellsOf enc (xs.take i)) (hi : i ≤ n) (hl : (n + 1) * sz ≤ cur.length) :
    let row1 := cur.take (i * sz) ++ enc x ++ cur.drop (i * sz + (enc x).length)
    (row1.take ((i + 1) * sz) ++ cellsOf enc (xs.drop i) ++ row1.drop ((i + 1) * sz + (cellsOf enc (xs.drop i)).length)).take ((n + 1) * sz) = cellsOf enc (xs.take i ++ x :: xs.drop i) := by
  intro row1
  have hx := C.len x
  have hd : (cellsOf enc (xs.drop i)).length = (n - i) * sz := by rw [cellsOf_len C, List.length_drop, hn]
  have hi1 : (i + 1) * sz = i * sz + sz := by rw [Nat.add_mul, Nat.one_mul]
  have hn1 : (n + 1) * sz = i * sz + sz + (n - i) * sz := by
    have : n + 1 = i + 1 + (n - i) := by omega
    rw [this, Nat.add_mul, Nat.add_mul, Nat.one_mul]
  have hl1 : (cur.take (i * sz)).length = i * sz := by rw [List.length_take]; omega
  have h1 : row1.take ((i + 1) * sz) = cellsOf enc (xs.take i) ++ enc x := by
    rw [← ht, hi1]
    show (cur.take (i * sz) ++ enc x ++ _).take (i * sz + sz) = _
    rw [List.take_append_of_le_length (by simp only [List.length_append]; omega), List.take_of_length_le (by simp only [List.length_append]; omega)]
  rw [h1, cellsOf_append]
  have e1 : cellsOf enc (x :: xs.drop i) = enc x ++ cellsOf enc (xs.drop i) := by simp [cellsOf]
  have hl2 : (cellsOf enc (xs.take i)).length = i * sz := by rw [← ht, hl1]
  rw [e1, List.take_append_of_le_length (by simp only [List.length_append]; omega), List.take_of_length_le (by simp only [List.length_append]; omega), List.append_assoc]
end
end Go.Proofs.Ythgkgjcnmahacaa
end
