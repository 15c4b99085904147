import Derived.Test.YthgkgjcnmahacaaTs12
import Derived.Test.YthgkgjcnmahacaaTs15
import Derived.Test.YthgkgjcnmahacaaTs02
import Derived.Test.YthgkgjcnmahacaaTs09
import Derived.BigQuiet
import Derived.Deep.RegionHeld3
section
/- Whether a trail has an entry of an id, walked: the library's ContainsFunc at entries. -/
set_option linter.unusedSimpArgs false
set_option linter.unusedVariables false
namespace Go.Proofs.Ythgkgjcnmahacaa
open Go.RowKit Go.OpenShut

/-- Has a trail an entry of an id? -/
def toldB (l : List En) (id : ByteArray) : Bool := l.any (fun e => decide (e.id = id))
def entB (id : ByteArray) (e : En) : Bool := decide (e.id = id)
abbrev isEntV (g : Nat) : Value := .func (.func 65) #[] #[.pointer (some ⟨g, 0, none⟩)]
set_option maxRecDepth 100000 in
theorem isEnt_any (x : En) (g : Nat) (name : ByteArray) (w : World) (hg : w.cell? ⟨g, 0, none⟩ = some (.string name)) :
    Calls Try.prog 65 #[.agg #[.int .i64 x.seq, .string x.id, .int .i64 x.what], .pointer (some ⟨g, 0, none⟩)] w fun e w' => e = .returned (.bool (decide (x.id = name))) ∧ Below w.heap.size w w' := by
  obtain ⟨sq, nm, wh⟩ := x
  dsimp only
  have hlt := (cell_some hg).2
  have hne := World.new_ne w ⟨g, 0, none⟩ hg
  have hB : Below w.heap.size w (w.alloc (.cells #[.int .i64 sq, .string nm, .int .i64 wh] 48)) := (Below.refl _ _).alloc (Nat.le_refl _) _
  have hc := bcs hB hlt hg
  have hq := str_beq nm name
  have HQ := Lib.hid hq
  clear hq
  go_enter Try.func65, Try.ntmps65
  go_wp2_with fail
  go_ret
  exact ⟨by rw [← HQ.out]; rfl, hB⟩

set_option maxRecDepth 100000 in
set_option maxHeartbeats 1000000 in
theorem indexE_any (w : World) (p : Option Addr) (n c : Nat) (l : List En) (hv : Rd w w.heap.size encE 3 (.slice p n c) l) (g : Nat) (name : ByteArray) (hg : w.cell? ⟨g, 0, none⟩ = some (.string name)) (hlen : l.length ≤ 4398046510976) :
    Calls Try.prog 100 #[.slice p n c, isEntV g] w fun e w' => e = .returned (.int .i64 (placeI (l.findIdx? (entB name)))) ∧ Below w.heap.size w w' := by
  have hn := rd_nlen hv
  subst hn
  have HV := Lib.hid hv
  have hgl := (cell_some hg).2
  clear hv
  go_enter Try.func100, Try.ntmps100
  go_wp2_with fail
  go_loopw [8] (fun i wr => ∃ k : Nat, k ≤ l.length ∧ i = .int .i64 k ∧ Hid (∀ (j : Nat) y, j < k → l[j]? = some y → entB name y = false) ∧ Below w.heap.size w wr) (fun i _ => l.length - (intOf i).toNat)
  case atStart => exact ⟨0, Nat.zero_le _, rfl, fun j y h => by omega, Below.refl _ _⟩
  case round =>
    obtain ⟨k, hk, rfl, hno, hbr⟩ := hrel
    by_cases hlt : k < l.length
    · obtain ⟨x, hx⟩ : ∃ x, l[k]? = some x := ⟨_, List.getElem?_eq_getElem hlt⟩
      obtain ⟨b1, o1, rfl, hb1, hc1⟩ := rd_at' (HV.out.below hbr (Nat.le_refl _)) hx
      have f0 := hc1 0 _ rfl
      have f1 := hc1 1 _ rfl
      have f2 := hc1 2 _ rfl
      rw [Nat.add_zero] at f0
      have HX := Lib.hid hx
      have hz := hbr.size
      have HBR := Lib.hid hbr
      have hgr := Lib.hid (bcs hbr hgl hg)
      cases hnb : entB name x with
      | true =>
        have HF := Lib.hid (find_at HX.out hnb hno.out)
        have HNB : Hid (decide (x.id = name) = true) := hnb
        clear hx hc1 hbr hnb hno hg
        go_wp2_with (go_at_call 65; refine (isEnt_any x g name _ hgr.out).mono ?_; rintro e w1 ⟨rfl, hb1'⟩; rw [HNB.out])
        go_ret
        exact ⟨ret_int (by rw [HF.out]; rfl), HBR.out.trans (hb1'.mono HBR.out.size)⟩
      | false =>
        have HNB : Hid (decide (x.id = name) = false) := hnb
        have HNX : Hid (∀ (j : Nat) y, j < k + 1 → l[j]? = some y → entB name y = false) := by
          intro j y hj hy
          by_cases e : j = k
          · subst e
            rw [hx] at hy
            cases hy
            exact hnb
          · exact hno.out j y (by omega) hy
        clear hx hc1 hbr hnb hno hg
        go_wp2_with (go_at_call 65; refine (isEnt_any x g name _ hgr.out).mono ?_; rintro e w1 ⟨rfl, hb1'⟩; rw [HNB.out])
        go_roundw
        case rel => exact ⟨k + 1, by omega, by go_num, HNX, HBR.out.trans (hb1'.mono HBR.out.size)⟩
        case measure => simp [intOf]; omega
    · obtain rfl : k = l.length := by omega
      have HF := Lib.hid (find_not (p := entB name) (l := l) (fun j y hy => hno.out j y (List.getElem?_eq_some_iff.1 hy).1 hy))
      go_wp2_with fail
      go_ret
      exact ⟨ret_int (by rw [HF.out]; rfl), hbr⟩

theorem told_idx (l : List En) (id : ByteArray) : toldB l id = (l.findIdx? (entB id)).isSome := by
  unfold toldB
  rw [List.findIdx?_isSome]
  rfl
set_option maxRecDepth 100000 in
set_option maxHeartbeats 1000000 in
theorem containsE_any (w : World) (p : Option Addr) (n c : Nat) (l : List En) (hv : Rd w w.heap.size encE 3 (.slice p n c) l) (g : Nat) (name : ByteArray) (hg : w.cell? ⟨g, 0, none⟩ = some (.string name)) (hlen : l.length ≤ 4398046510976) :
    Calls Try.prog 64 #[.slice p n c, isEntV g] w fun e w' => e = .returned (.bool (toldB l name)) ∧ Below w.heap.size w w' := by
  have HC := Lib.hid (indexE_any w p n c l hv g name hg hlen)
  have HT := Lib.hid (told_idx l name)
  clear hv hg hlen
  generalize l.findIdx? (entB name) = o at HC HT
  cases o with
  | none =>
    have hd : decide ((0 : Int) ≤ placeI none) = false := by decide
    go_enter Try.func64, Try.ntmps64
    go_wp2_with (go_at_call 100; refine HC.out.mono ?_; rintro e w1 ⟨rfl, hb1⟩)
    go_ret
    exact ⟨ret_bool (by rw [HT.out]; rfl), hb1⟩
  | some i =>
    have hd : decide ((0 : Int) ≤ placeI (some i)) = true := by simp [placeI]
    go_enter Try.func64, Try.ntmps64
    go_wp2_with (go_at_call 100; refine HC.out.mono ?_; rintro e w1 ⟨rfl, hb1⟩)
    go_ret
    exact ⟨ret_bool (by rw [HT.out]; simp), hb1⟩
end Go.Proofs.Ythgkgjcnmahacaa
end

section
/- store.Put: what it says, and the ways on which nothing is put in; walked. -/
set_option linter.unusedSimpArgs false
set_option linter.unusedVariables false
namespace Go.Proofs.Ythgkgjcnmahacaa
open Go.RowKit Go.OpenShut

/-- The value at the place of an id. -/
def oldV (os : List (ByteArray × JV)) (id : ByteArray) : JV := ((os[lowN os id]?).map (·.2)).getD JV.zero
open Classical in
/-- What Put answers: the box, and why not. -/
noncomputable def putB (b : BoxD) (id : ByteArray) (v : JV) : BoxD × Int :=
  if isAt b.objs id = true then
    if SameT (oldV b.objs id) v then (b, 0) else if 9007199254740991 ≤ b.seq then (BoxD.zero, 180) else (chgB b (b.objs.set (lowN b.objs id) (id, v)) id 2, 0)
  else if toldB b.trail id = true then (BoxD.zero, 181) else if 9007199254740991 ≤ b.seq then (BoxD.zero, 180) else (chgB b (b.objs.take (lowN b.objs id) ++ (id, v) :: b.objs.drop (lowN b.objs id)) id 1, 0)
/-- A box and a number are told. -/
def BoxErr (w : World) (p : BoxD × Int) (e : Ending) (w' : World) : Prop := ∃ q, e = .returned (.tuple #[RB.val q, .int .i64 p.2]) ∧ NewBox w' w.heap.size w.heap.size p.1 q ∧ Below w.heap.size w w'
theorem NewBox.zero (w : World) (base B : Nat) : NewBox w base B BoxD.zero RB.zero := ⟨⟨[], Own.nil _ _ _, MemsOf.nil _ _⟩, Own.nil _ _ _, fun e h => by simp [BoxD.zero] at h, rfl, rfl, rfl⟩

/-- Put's own variables: the box, the id, the value, what is answered. -/
structure PutS (w W : World) (r : RB) (id : ByteArray) (v : RV) : Prop where
  box : BoxAt W w.heap.size r
  str : W.heap[w.heap.size + 1]? = some (.cells #[.string id] 9 (0, 0))
  val : VAt W (w.heap.size + 1 + 1) v
  zero : BoxAt W (w.heap.size + 1 + 1 + 1) RB.zero
  below : Below w.heap.size w W
section
variable {w W W' : World} {r : RB} {id : ByteArray} {v : RV} (h : PutS w W r id v)
include h
theorem PutS.size : w.heap.size + 1 + 1 + 1 < W.heap.size := h.zero.lt
theorem PutS.sizes : w.heap.size < W.heap.size ∧ w.heap.size + 1 < W.heap.size ∧ w.heap.size + 1 + 1 < W.heap.size := by have := h.size; omega
theorem PutS.scell : W.cell? ⟨w.heap.size + 1, 0, none⟩ = some (.string id) := by rw [cell_of_row W _ 0 _ _ _ h.str]; rfl
theorem PutS.go (hb : Below W.heap.size W W') : PutS w W' r id v :=
  ⟨h.box.under hb h.sizes.1, (hb.block _ h.sizes.2.1).trans h.str, h.val.under hb h.sizes.2.2, h.zero.under hb h.size, h.below.trans (hb.mono h.below.size)⟩
theorem PutS.setBox (q : RB) (hq : BoxAt W' w.heap.size q) (hg : W.grownBy W' (some w.heap.size)) : PutS w W' q id v :=
  ⟨hq, (hg.block _ h.sizes.2.1 (by simp)).trans h.str, (hg.block _ h.sizes.2.2 (by simp; omega)).trans h.val, h.zero.kept hg (by omega), h.below.grown hg h.below.size (fun a e => by cases e; exact Nat.le_refl _)⟩
theorem PutS.row {row : Option Nat} (hg : W.grownBy W' row) (hr : ∀ k, row = some k → w.heap.size + 1 + 1 + 1 < k) : PutS w W' r id v := by
  have hz := h.size
  have hb : ∀ k, k ≤ w.heap.size + 1 + 1 + 1 → W'.heap[k]? = W.heap[k]? := fun k hk => hg.block k (by omega) (fun e => by have := hr k e.symm; omega)
  exact ⟨(hb _ (by omega)).trans h.box, (hb _ (by omega)).trans h.str, (hb _ (by omega)).trans h.val, (hb _ (by omega)).trans h.zero, h.below.grown hg h.below.size (fun a e => by have := hr a e; omega)⟩
theorem PutS.other {g : Nat} (hg : W.grownBy W' (some g)) (hgw : W.heap.size ≤ g ∨ w.heap.size + 1 + 1 + 1 < g) : PutS w W' r id v := by
  have hz := h.size
  exact ⟨h.box.kept hg (by omega), (hg.block _ h.sizes.2.1 (by simp; omega)).trans h.str, (hg.block _ h.sizes.2.2 (by simp; omega)).trans h.val, h.zero.kept hg (by omega), h.below.grown hg h.below.size (fun a e => by cases e; omega)⟩
end
theorem PutS.start (w : World) (r : RB) (id : ByteArray) (v : RV) : PutS w ((((w.alloc (.cells #[.slice r.po r.no r.co, .slice r.pt r.nt r.ct, .int .i64 r.sq, .int .i64 r.fl, .int .i64 r.kp] 35)).alloc (.cells #[.string id] 9)).alloc (.cells #[.int .i64 v.k, .int .i64 v.n, .string v.s, .slice v.pl v.nl v.cl, .slice v.pm v.nm v.cm] 25)).alloc (.cells #[.slice none 0 0, .slice none 0 0, .int .i64 0, .int .i64 0, .int .i64 0] 35)) r id v :=
  ⟨heap_alloc_lt (by simp <;> omega) (heap_alloc_lt (by simp <;> omega) (heap_alloc_lt (by simp) (heap_alloc_at rfl))), heap_alloc_lt (by simp <;> omega) (heap_alloc_lt (by simp) (heap_alloc_at (by simp))), heap_alloc_lt (by simp) (heap_alloc_at (by simp)), heap_alloc_at (by simp),
    (((Below.refl _ _).alloc (Nat.le_refl _) _).alloc (by simp) _ |>.alloc (by simp <;> omega) _).alloc (by simp <;> omega) _⟩

theorem Own.storedVO {w : World} {base : Nat} {g n cap : Nat} {xs : List RM} (h : Own w base 46 encM 6 (.slice (some ⟨g, 0, none⟩) n cap) xs) {k : Nat} {x : RM} (hx : xs[k]? = some x) (q : RV) :
    Own (((((w.setCell ⟨g, k * 6 + 1, none⟩ (.int .i64 q.k)).setCell ⟨g, k * 6 + 2, none⟩ (.int .i64 q.n)).setCell ⟨g, k * 6 + 3, none⟩ (.string q.s)).setCell ⟨g, k * 6 + 4, none⟩ (.slice q.pl q.nl q.cl)).setCell ⟨g, k * 6 + 5, none⟩ (.slice q.pm q.nm q.cm)) base 46 encM 6 (.slice (some ⟨g, 0, none⟩) n cap) (xs.set k ⟨x.name, q⟩) ∧
    w.grownBy (((((w.setCell ⟨g, k * 6 + 1, none⟩ (.int .i64 q.k)).setCell ⟨g, k * 6 + 2, none⟩ (.int .i64 q.n)).setCell ⟨g, k * 6 + 3, none⟩ (.string q.s)).setCell ⟨g, k * 6 + 4, none⟩ (.slice q.pl q.nl q.cl)).setCell ⟨g, k * 6 + 5, none⟩ (.slice q.pm q.nm q.cm)) (some g) := by
  have hk := (List.getElem?_eq_some_iff.1 hx).1
  have e : ∀ (y : RM) (z : RM), (xs.set k y)[k]? = some y := fun y z => by simp [List.getElem?_set, hk]
  have s1 := Own.storedAt codecM h (j := 1) (y := ⟨x.name, ⟨q.k, x.v.n, x.v.s, x.v.pl, x.v.nl, x.v.cl, x.v.pm, x.v.nm, x.v.cm⟩⟩) (u := .int .i64 q.k) hx (by decide) rfl
  have s2 := Own.storedAt codecM s1.1 (j := 2) (y := ⟨x.name, ⟨q.k, q.n, x.v.s, x.v.pl, x.v.nl, x.v.cl, x.v.pm, x.v.nm, x.v.cm⟩⟩) (u := .int .i64 q.n) (e _ x) (by decide) rfl
  simp only [List.set_set] at s2
  have s3 := Own.storedAt codecM s2.1 (j := 3) (y := ⟨x.name, ⟨q.k, q.n, q.s, x.v.pl, x.v.nl, x.v.cl, x.v.pm, x.v.nm, x.v.cm⟩⟩) (u := .string q.s) (e _ x) (by decide) rfl
  simp only [List.set_set] at s3
  have s4 := Own.storedAt codecM s3.1 (j := 4) (y := ⟨x.name, ⟨q.k, q.n, q.s, q.pl, q.nl, q.cl, x.v.pm, x.v.nm, x.v.cm⟩⟩) (u := .slice q.pl q.nl q.cl) (e _ x) (by decide) rfl
  simp only [List.set_set] at s4
  have s5 := Own.storedAt codecM s4.1 (j := 5) (y := ⟨x.name, q⟩) (u := .slice q.pm q.nm q.cm) (e _ x) (by decide) rfl
  simp only [List.set_set] at s5
  exact ⟨s5.1, (((s1.2.trans s2.2).trans s3.2).trans s4.2).trans s5.2⟩

theorem NewBox.ne {W : World} {base B g : Nat} {b : BoxD} {r : RB} (h : NewBox W base B b r) (hg : g < base) : (Value.slice r.po r.no r.co).ownBlock ≠ some g ∧ (Value.slice r.pt r.nt r.ct).ownBlock ≠ some g := by
  obtain ⟨ros, h1, _⟩ := h.objs
  exact ⟨fun e => by have := (h1.lt _ e).1; omega, fun e => by have := (h.trail.lt _ e).1; omega⟩
/-- Slices of unlike elements lie in unlike blocks. -/
theorem Own.unlike {α β : Type} {e1 : α → List Value} {e2 : β → List Value} {s1 s2 b1 b2 : Nat} {t1 t2 : TypeId} {w : World} {v1 v2 : Value} {xs : List α} {ys : List β} (h1 : Own w b1 t1 e1 s1 v1 xs) (h2 : Own w b2 t2 e2 s2 v2 ys) (hne : t1 ≠ t2) {k : Nat} (hk : v1.ownBlock = some k) : v2.ownBlock ≠ some k := by
  intro hk2
  obtain ⟨_, h1⟩ := h1
  obtain ⟨_, h2⟩ := h2
  rcases h1 with ⟨rfl, _⟩ | ⟨g, cap, cur, rfl, _, hh, _⟩
  · simp [Value.ownBlock] at hk
  · rcases h2 with ⟨rfl, _⟩ | ⟨g', cap', cur', rfl, _, hh', _⟩
    · simp [Value.ownBlock] at hk2
    · simp only [Value.ownBlock, Option.some.injEq] at hk hk2
      subst hk
      subst hk2
      rw [hh] at hh'
      simp only [Option.some.injEq, Obj.cells.injEq] at hh'
      exact hne hh'.2.1
theorem MemsOf.insert {w : World} {B : Nat} {ms : List (ByteArray × JV)} {rms : List RM} (h : MemsOf w B ms rms) (i : Nat) {p : ByteArray × JV} {q : RM} (hn : p.1 = q.name) (ht : TreeOf w B p.2 q.v) : MemsOf w B (ms.take i ++ p :: ms.drop i) (rms.take i ++ q :: rms.drop i) := by
  have hl := h.len
  have key : ∀ (j : Nat) a c, (ms.take i ++ p :: ms.drop i)[j]? = some a → (rms.take i ++ q :: rms.drop i)[j]? = some c → a.1 = c.name ∧ TreeOf w B a.2 c.v := by
    intro j a c h1 h2
    have hlt : (ms.take i).length = (rms.take i).length := by simp [hl]
    by_cases hj : j < (ms.take i).length
    · rw [List.getElem?_append_left hj, List.getElem?_take] at h1
      rw [List.getElem?_append_left (by omega), List.getElem?_take] at h2
      split at h1
      · rename_i h3
        rw [if_pos h3] at h2
        exact ⟨h.name _ _ _ h1 h2, h.val _ _ _ h1 h2⟩
      · cases h1
    · rw [List.getElem?_append_right (by omega)] at h1
      rw [List.getElem?_append_right (by omega), ← hlt] at h2
      cases hk : j - (ms.take i).length with
      | zero =>
        rw [hk] at h1 h2
        cases h1; cases h2
        exact ⟨hn, ht⟩
      | succ k =>
        rw [hk, List.getElem?_cons_succ, List.getElem?_drop] at h1 h2
        exact ⟨h.name _ _ _ h1 h2, h.val _ _ _ h1 h2⟩
  exact ⟨by simp [hl], fun j a c h1 h2 => (key j a c h1 h2).1, fun j a c h1 h2 => (key j a c h1 h2).2⟩
theorem MemsOf.delete {w : World} {B : Nat} {ms : List (ByteArray × JV)} {rms : List RM} (h : MemsOf w B ms rms) (i : Nat) : MemsOf w B (ms.take i ++ ms.drop (i + 1)) (rms.take i ++ rms.drop (i + 1)) := by
  have hl := h.len
  have key : ∀ (j : Nat) a c, (ms.take i ++ ms.drop (i + 1))[j]? = some a → (rms.take i ++ rms.drop (i + 1))[j]? = some c → a.1 = c.name ∧ TreeOf w B a.2 c.v := by
    intro j a c h1 h2
    have hlt : (ms.take i).length = (rms.take i).length := by simp [hl]
    by_cases hj : j < (ms.take i).length
    · rw [List.getElem?_append_left hj, List.getElem?_take] at h1
      rw [List.getElem?_append_left (by omega), List.getElem?_take] at h2
      split at h1
      · rename_i h3
        rw [if_pos h3] at h2
        exact ⟨h.name _ _ _ h1 h2, h.val _ _ _ h1 h2⟩
      · cases h1
    · rw [List.getElem?_append_right (by omega), List.getElem?_drop] at h1
      rw [List.getElem?_append_right (by omega), ← hlt, List.getElem?_drop] at h2
      exact ⟨h.name _ _ _ h1 h2, h.val _ _ _ h1 h2⟩
  exact ⟨by simp [hl], fun j a c h1 h2 => (key j a c h1 h2).1, fun j a c h1 h2 => (key j a c h1 h2).2⟩
theorem BoxAt.set0 {W : World} {g : Nat} {r : RB} (h : BoxAt W g r) (p : Option Addr) (n c : Nat) : BoxAt (W.setCell ⟨g, 0, none⟩ (.slice p n c)) g { r with po := p, no := n, co := c } := by
  unfold BoxAt at h ⊢
  simp [World.setCell, Array.getElem?_modify, h]
/-- Its list of objects replaced by another one of the call's own. -/
theorem NewBox.withObjs {W W' : World} {base B : Nat} {b : BoxD} {r : RB} (h : NewBox W base B b r) {row : Option Nat} (hg : W.grownBy W' row) (hrow : row = (Value.slice r.po r.no r.co).ownBlock) (hne : 46 ≠ 48) {p : Option Addr} {n c : Nat} {os : List (ByteArray × JV)} {ros : List RM} (ho : Own W' base 46 encM 6 (.slice p n c) ros) (hm : MemsOf W' B os ros) :
    NewBox W' base B { b with objs := os } { r with po := p, no := n, co := c } := by
  obtain ⟨ros0, h1, _⟩ := h.objs
  refine ⟨⟨ros, ho, hm⟩, h.trail.kept hg ?_, h.ok, h.seq, h.floor, h.keep⟩
  subst hrow
  cases e : (Value.slice r.pt r.nt r.ct).ownBlock with
  | none => exact .inl rfl
  | some k => exact .inr (fun e2 => Own.unlike h1 h.trail hne e2.symm e)
end Go.Proofs.Ythgkgjcnmahacaa
end
