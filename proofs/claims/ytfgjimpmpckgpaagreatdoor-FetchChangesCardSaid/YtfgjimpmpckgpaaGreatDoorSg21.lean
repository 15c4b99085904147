import Derived.Test.YtfgjimpmpckgpaaGreatDoorSg20
import Derived.Test.YtfgjimpmpckgpaaGreatDoorSg13
import Derived.Deep.RegionHeld3
import Derived.Deep.AppendLies
import Derived.IntWalk
set_option linter.unusedSimpArgs false
set_option linter.unusedVariables false
set_option maxRecDepth 200000
set_option maxHeartbeats 8000000
namespace Go.Proofs.YtfgjimpmpckgpaaGreatDoor
section
open Go.RowKit Go.OpenShut
def laterB (sq : Int) (x : En) (l : List En) (k m : Nat) : Bool := ((l.take m).drop (k + 1)).any (hitB sq x)
theorem laterB_start (sq : Int) (x : En) (l : List En) (k : Nat) : laterB sq x l k (k + 1) = false := by
 unfold laterB
 rw [List.drop_eq_nil_of_le (by simp; omega)]; rfl
theorem laterB_succ {sq : Int} {x y : En} {l : List En} {k m : Nat} (hy : l[m]? = some y) (h : k + 1 <= m) : laterB sq x l k (m + 1) = (laterB sq x l k m || hitB sq x y) := by
 unfold laterB
 have hm := (List.getElem?_eq_some_iff.1 hy).1
 rw [List.take_add_one, hy, List.drop_append_of_le_length (by simp; omega), List.any_append]
 simp
theorem laterB_end (sq : Int) (x : En) (l : List En) (k : Nat) : laterB sq x l k l.length = (l.drop (k + 1)).any (hitB sq x) := by
 unfold laterB
 rw [List.take_length]
def FirstR (sq : Int) (x : En) (l : List En) (k m : Nat) (a : Int) : Prop :=
 (a = -1 /\ ∀ j y, m <= j -> j <= k -> l[j]? = some y -> hitB sq x y = false) \/ ∃ (f : Nat) (y : En), a = f /\ m <= f /\ f <= k /\ l[f]? = some y /\ hitB sq x y = true /\ ∀ j z, m <= j -> j < f -> l[j]? = some z -> hitB sq x z = false
theorem FirstR.start (sq : Int) (x : En) (l : List En) (k : Nat) : FirstR sq x l k (k + 1) (-1) := .inl ⟨rfl, fun j _ h1 h2 => by omega⟩
theorem FirstR.hit {sq : Int} {x y : En} {l : List En} {k m : Nat} (hy : l[m]? = some y) (hk : m <= k) (hh : hitB sq x y = true) : FirstR sq x l k m m := .inr ⟨m, y, rfl, Nat.le_refl _, hk, hy, hh, fun j _ h1 h2 => by omega⟩
theorem FirstR.miss {sq : Int} {x y : En} {l : List En} {k m : Nat} {a : Int} (h : FirstR sq x l k (m + 1) a) (hy : l[m]? = some y) (hh : hitB sq x y = false) : FirstR sq x l k m a := by
 have hm : ∀ z, l[m]? = some z -> hitB sq x z = false := fun z hz => by rw [hy] at hz; cases hz; exact hh
 rcases h with ⟨h1, h2⟩ | ⟨f, z, h1, h2, h3, h4, h5, h6⟩
 ·refine .inl ⟨h1, fun j z hj hk hz => ?_⟩
  by_cases e : j = m
  ·subst e; exact hm z hz
  ·exact h2 j z (by omega) hk hz
 ·refine .inr ⟨f, z, h1, by omega, h3, h4, h5, fun j u hj hf hu => ?_⟩
  by_cases e : j = m
  ·subst e; exact hm u hu
  ·exact h6 j u (by omega) hf hu
theorem FirstR.done {sq : Int} {x : En} {l : List En} {k : Nat} {a : Int} (h : FirstR sq x l k 0 a) (hx : l[k]? = some x) (hs : sq < x.seq) : ∃ (f : Nat) (y : En), a = f /\ l[f]? = some y /\ l.find? (hitB sq x) = some y := by
 have hxx : hitB sq x x = true := by unfold hitB; simpa using hs
 rcases h with ⟨h1, h2⟩ | ⟨f, z, h1, h2, h3, h4, h5, h6⟩
 ·have := h2 k x (Nat.zero_le _) (Nat.le_refl _) hx
  rw [hxx] at this; cases this
 ·refine ⟨f, z, h1, h4, ?_⟩
  rw [List.find?_eq_some_iff_getElem]
  obtain ⟨hf, e⟩ := List.getElem?_eq_some_iff.1 h4
  refine ⟨h5, f, hf, e, fun j hj => ?_⟩
  have := h6 j _ (Nat.zero_le _) hj (List.getElem?_eq_getElem (by omega))
  simpa using this
theorem refAt_skip {sq : Int} {l : List En} {k : Nat} {x : En} (hx : l[k]? = some x) (h : x.seq <= sq) : refAt sq l k = none := by
 unfold refAt; rw [hx]; dsimp only; rw [if_pos h]
theorem refAt_later {sq : Int} {l : List En} {k : Nat} {x : En} (hx : l[k]? = some x) (h : sq < x.seq) (hl : laterB sq x l k l.length = true) : refAt sq l k = none := by
 rw [laterB_end] at hl
 unfold refAt; rw [hx]; dsimp only; rw [if_neg (by omega), if_pos hl]
theorem refAt_some {sq : Int} {l : List En} {k : Nat} {x y : En} (hx : l[k]? = some x) (h : sq < x.seq) (hl : laterB sq x l k l.length = false) (hy : l.find? (hitB sq x) = some y) : refAt sq l k = some ⟨x.id, y.what != 1, x.what != 3, x.seq⟩ := by
 rw [laterB_end] at hl
 unfold refAt; rw [hx]; dsimp only; rw [if_neg (by omega), if_neg (by rw [hl]; decide), hy]; rfl
def PbAt (W : World) (b : Nat) (p : Pa) : Prop := W.heap[b]? = some (.cells #[.string p.id, .bool p.was, .bool p.isb, .int .i64 p.last] 147 (0, 0))
theorem PbAt.cell {W : World} {b : Nat} {p : Pa} (h : PbAt W b p) (j : Nat) {u : Value} (hu : (encP p)[j]? = some u) : W.cell? ⟨b, j, none⟩ = some u := by
 unfold PbAt at h
 rw [<- hu]
 simp [World.cell?, h, encP]
theorem PbAt.kept {W W' : World} {row : Option Nat} {b : Nat} {p : Pa} (h : PbAt W b p) (hg : W.grownBy W' row) (hne : some b ≠ row) : PbAt W' b p := (hg.block b (Array.getElem?_eq_some_iff.1 h).1 hne).trans h
theorem rowCell {w : World} {base : Nat} {e : TypeId} {g n cap : Nat} {xs : List Pa} (h : Own w base e encP 4 (.slice (some ⟨g, 0, none⟩) n cap) xs) {i : Nat} {x : Pa} (hx : xs[i]? = some x) (j : Nat) {u : Value} (hu : (encP x)[j]? = some u) : w.cell? ⟨g, i * 4 + j, none⟩ = some u := by
 obtain ⟨b, o, e1, _, hc⟩ := rd_at (h.rd codecP) hx
 simp only [Option.some.injEq, Addr.mk.injEq, and_true] at e1
 obtain ⟨rfl, rfl⟩ := e1
 have := hc j u hu
 rwa [Nat.zero_add] at this
theorem rowFrozen {w : World} {base : Nat} {e : TypeId} {g n cap : Nat} {xs : List Pa} (h : Own w base e encP 4 (.slice (some ⟨g, 0, none⟩) n cap) xs) (j : Nat) : w.frozen? ⟨g, j, none⟩ = false := by
 obtain ⟨p, c, e1, _⟩ := h.len
 simp only [Value.slice.injEq] at e1
 obtain ⟨_, rfl, _⟩ := e1
 exact World.ownsRow.frozenAt (w := w) h j
theorem set_mid {α : Type} (A B : List α) (y z : α) : (A ++ y :: B).set A.length z = A ++ z :: B := by
 rw [List.set_append_right _ _ (Nat.le_refl _), Nat.sub_self]; rfl
theorem get_mid {α : Type} (A B : List α) (y : α) : (A ++ y :: B)[A.length]? = some y := by
 rw [List.getElem?_append_right (Nat.le_refl _), Nat.sub_self]; rfl
theorem store_mid {W : World} {base : Nat} {e : TypeId} {g cap m nq : Nat} {acc : List Pa} {y : Pa} (h : Own W base e encP 4 (.slice (some ⟨g, 0, none⟩) (acc.length + 1) cap) (acc.take m ++ y :: acc.drop m)) (hm : m <= acc.length) (z : Pa) :
 Own (((((W.drewN nq).setCell ⟨g, m * 4, none⟩ (.string z.id)).setCell ⟨g, m * 4 + 1, none⟩ (.bool z.was)).setCell ⟨g, m * 4 + 2, none⟩ (.bool z.isb)).setCell ⟨g, m * 4 + 3, none⟩ (.int .i64 z.last)) base e encP 4 (.slice (some ⟨g, 0, none⟩) (acc.length + 1) cap) (acc.take m ++ z :: acc.drop m) /\
 (W.drewN nq).grownBy (((((W.drewN nq).setCell ⟨g, m * 4, none⟩ (.string z.id)).setCell ⟨g, m * 4 + 1, none⟩ (.bool z.was)).setCell ⟨g, m * 4 + 2, none⟩ (.bool z.isb)).setCell ⟨g, m * 4 + 3, none⟩ (.int .i64 z.last)) (some g) := by
 have hl : (acc.take m).length = m := by rw [List.length_take]; omega
 have h1 := Own.stored4 (w := W.drewN nq) h (by simp; omega) m (by simp; omega) z
 have h2 := set_mid (acc.take m) (acc.drop m) y z
 rw [hl] at h2
 rw [h2] at h1
 exact h1
theorem Own.base_le {α : Type} {enc : α -> List Value} {sz : Nat} {w : World} {base : Nat} {e : TypeId} {g n cap : Nat} {xs : List α} (h : Own w base e enc sz (.slice (some ⟨g, 0, none⟩) n cap) xs) : base <= g := (h.lt g rfl).1
theorem insert_endP {sq : Int} {l : List En} {k m : Nat} {acc : List Pa} {pp : Pa} (HI : IsStable cfP (refUpTo sq l k) acc) (HR : refAt sq l k = some pp) (HA : ∀ b ∈ acc.drop m, pp.last < b.last) (HZ : ∀ a, (acc.take m).getLast? = some a -> ¬ pp.last < a.last) :
 IsStable cfP (refUpTo sq l (k + 1)) (acc.take m ++ pp :: acc.drop m) := by
 rw [refUpTo_succ, HR]
 refine IsStable.snoc cmpP (by rw [List.take_append_drop]; exact HI) (fun a ha => ?_) (fun b hb => ?_)
 ·unfold cfP
  rw [if_neg (HZ a ha)]
  split <;> omega
 ·unfold cfP
  rw [if_pos (HA b hb)]
  decide
theorem refSince_any (w : World) (v : Value) (l : List En) (sq : Int) (hv : RdE w w.heap.size v l) (hsz : l.length * 32 <= 140737488355328) :
 Calls Tryz.prog 85 #[v, .int .i64 sq] w fun e w' => ∃ ys, IsStable cfP (sinceL sq l) ys /\ OwnRet w 147 encP 4 ys e w' := by
 rw [<- refUpTo_all]
 obtain ⟨hok, p, c, rfl, hlc, hcm, hp0, hp⟩ := hv
 unfold maxLen at hcm
 have HS := Lib.hid hsz
 have hlen : l.length <= 4398046511104 := by omega
 obtain ⟨i0, hi, hz0, hz1, hz2⟩ := info_parts infoP
 have hok' := Lib.hid hok
 clear hok hsz
 go_enter Tryz.func85, Tryz.ntmps85
 go_wp2_with fail
 go_loopw [5, 6] (fun o i wr => ∃ (k : Nat) (acc : List Pa), k <= l.length /\ i = .int .i64 k /\ IsStable cfP (refUpTo sq l k) acc /\ acc.length <= k /\ Own wr w.heap.size 147 encP 4 o acc /\ Below w.heap.size w wr) (fun _ i _ => l.length - (intOf i).toNat)
 case atStart => exact ⟨0, [], Nat.zero_le _, rfl, IsStable.nil, Nat.le_refl _, Own.nil _ _ _, Below.refl _ _⟩
 case round =>
  obtain ⟨k, acc, hk, rfl, HI, hak, HO, HB⟩ := hrel
  obtain ⟨W, rfl⟩ : ∃ W, W = wr := ⟨_, rfl⟩
  by_cases hlt : k < l.length
  ·obtain ⟨b1, o1, rfl, hb1, hc1⟩ := slice_at (k := k) hp0 hp (by omega)
   have hcW : ∀ j, j < l.length -> ∃ x, l[j]? = some x /\ W.cell? ⟨b1, o1 + j * 3, none⟩ = some (.int .i64 x.seq) /\ W.cell? ⟨b1, o1 + j * 3 + 1, none⟩ = some (.string x.id) /\ W.cell? ⟨b1, o1 + j * 3 + 2, none⟩ = some (.int .i64 x.what) := by
    intro j hj
    obtain ⟨x, hx, g10, g11, g12⟩ := hc1 j hj
    rw [<- HB.cell (p := ⟨_, _, none⟩) hb1] at g10 g11 g12
    exact ⟨x, hx, g10, g11, g12⟩
   clear hp hp0 hc1
   obtain ⟨x, hx, g10, g11, g12⟩ := hcW k hlt
   have HX := Lib.hid hx
   have HC := Lib.hid hcW
   have HII := Lib.hid HI
   have HOO := Lib.hid HO
   have HBB := Lib.hid HB
   clear hx hcW HI HO HB
   by_cases hsq : x.seq <= sq
   ·have q1 : decide (x.seq <= sq) = true := by simpa using hsq
    have HR := Lib.hid (refAt_skip HX.out hsq)
    clear hsq
    go_wp2_with fail
    go_roundw
    case rel => exact ⟨k + 1, acc, by omega, by go_num, by rw [refUpTo_succ, HR.out]; simpa using HII.out, by omega, HOO.out, HBB.out⟩
    case measure => simp [intOf]; omega
   ·have q1 : decide (x.seq <= sq) = false := by simpa using hsq
    have HQ : Hid (sq < x.seq) := by unfold Hid; omega
    clear hsq
    go_wp2_with fail
    go_loopw [7, 8] (fun b j wr => ∃ m : Nat, k + 1 <= m /\ m <= l.length /\ j = .int .i64 m /\ b = .bool (!laterB sq x l k m) /\ ∃ n, wr = W.drewN n) (fun _ j _ => l.length - (intOf j).toNat)
    case atStart => exact ⟨k + 1, Nat.le_refl _, by omega, by go_num, by rw [laterB_start]; rfl, 0, rfl⟩
    case round =>
     obtain ⟨m, hm1, hm2, rfl, rfl, ni, rfl⟩ := hrel
     by_cases hml : m < l.length
     ·obtain ⟨y, hy, gy0, gy1, gy2⟩ := HC.out m hml
      have HT := Lib.hid (laterB_succ (sq := sq) (x := x) hy hm1)
      clear hy
      by_cases hid : y.id = x.id
      ·have hq : (y.id.toList == x.id.toList) = true := by rw [hid]; simp
       by_cases h2 : sq < y.seq
       ·have q2 : decide (y.seq > sq) = true := by simpa using h2
        have hh : hitB sq x y = true := by unfold hitB; simp [hid, h2]
        rw [hh, Bool.or_true] at HT
        clear hid h2 hh
        go_wp2_with fail
        go_quiet (fail)
        go_wp2_with fail
        go_roundw
        case rel => exact ⟨m + 1, by omega, by omega, by go_num, by rw [HT.out]; rfl, _, rfl⟩
        case measure => simp [intOf]; omega
       ·have q2 : decide (y.seq > sq) = false := by simpa using h2
        have hh : hitB sq x y = false := by unfold hitB; simp [h2]
        rw [hh, Bool.or_false] at HT
        clear hid h2 hh
        go_wp2_with fail
        go_quiet (fail)
        go_wp2_with fail
        go_roundw
        case rel => exact ⟨m + 1, by omega, by omega, by go_num, by rw [HT.out], _, rfl⟩
        case measure => simp [intOf]; omega
      ·have hq : (y.id.toList == x.id.toList) = false := by rw [toList_beq]; simp [hid]
       have hh : hitB sq x y = false := by unfold hitB; simp [hid]
       rw [hh, Bool.or_false] at HT
       clear hid hh
       go_wp2_with fail
       go_quiet (fail)
       go_wp2_with fail
       go_roundw
       case rel => exact ⟨m + 1, by omega, by omega, by go_num, by rw [HT.out], _, rfl⟩
       case measure => simp [intOf]; omega
     ·obtain rfl : m = l.length := by omega
      cases hlate : laterB sq x l k l.length with
      | true =>
        have HR := Lib.hid (refAt_later HX.out HQ.out hlate)
        go_wp2_with fail
        go_roundw
        case rel => exact ⟨k + 1, acc, by omega, by go_num, by rw [refUpTo_succ, HR.out]; simpa using HII.out, by omega, HOO.out, bdn HBB.out _⟩
        case measure => simp [intOf]; omega
      | false =>
        have HL := Lib.hid hlate
        go_wp2_with fail
        go_loopw [9, 10] (fun b j wr => ∃ (m : Nat) (a : Int), m <= k + 1 /\ j = .int .i64 ((m : Int) - 1) /\ b = .int .i64 a /\ FirstR sq x l k m a /\ ∃ n, wr = W.drewN n) (fun _ j _ => (intOf j + 1).toNat)
        case atStart => exact ⟨k + 1, -1, Nat.le_refl _, by go_num, rfl, FirstR.start _ _ _ _, _, rfl⟩
        case round =>
         obtain ⟨m, a, hm1, rfl, rfl, hF, nj, rfl⟩ := hrel
         have HFF := Lib.hid hF
         clear hF
         cases m with
         | zero =>
           have em : ((0 : Nat) : Int) - 1 = -1 := by omega
           rw [em]
           obtain ⟨f, y, rfl, hy, hfind⟩ := HFF.out.done HX.out HQ.out
           have hfl := (List.getElem?_eq_some_iff.1 hy).1
           obtain ⟨y', hy', gy0, gy1, gy2⟩ := HC.out f hfl
           obtain rfl : y' = y := by rw [hy] at hy'; simpa using hy'.symm
           have HR := Lib.hid (refAt_some HX.out HQ.out HL.out hfind)
           clear hy hy' hfind
           have hf0 : (0 : Int) <= (f : Int) := Int.natCast_nonneg _
           have hf1 : (f : Int) < (l.length : Int) := by omega
           have hk0 : (0 : Int) <= (k : Int) := Int.natCast_nonneg _
           have hk1 : (k : Int) < (l.length : Int) := by omega
           go_wp2_with fail
           obtain ⟨W5, hW5⟩ : ∃ W5, W.drewN nj = W5 := ⟨_, rfl⟩
           have HB5 : Below w.heap.size w W5 := by rw [<- hW5]; exact bdn HBB.out _
           have HO5 : Own W5 w.heap.size 147 encP 4 u5 acc := by rw [<- hW5]; exact HOO.out
           have e0 : W5.cell? ⟨b1, o1 + k * 3, none⟩ = some (.int .i64 x.seq) := by rw [<- hW5]; exact g10
           have e1 : W5.cell? ⟨b1, o1 + k * 3 + 1, none⟩ = some (.string x.id) := by rw [<- hW5]; exact g11
           have e2 : W5.cell? ⟨b1, o1 + k * 3 + 2, none⟩ = some (.int .i64 x.what) := by rw [<- hW5]; exact g12
           have e3 : W5.cell? ⟨b1, o1 + f * 3 + 2, none⟩ = some (.int .i64 y'.what) := by rw [<- hW5]; exact gy2
           rw [hW5]
           clear hW5 g10 g11 g12 gy0 gy1 gy2
           go_region_held3 (fun w' => w'.cell? ⟨b1, o1 + k * 3, none⟩ = some (.int .i64 x.seq) /\ w'.cell? ⟨b1, o1 + k * 3 + 1, none⟩ = some (.string x.id) /\ w'.cell? ⟨b1, o1 + k * 3 + 2, none⟩ = some (.int .i64 x.what) /\ w'.cell? ⟨b1, o1 + f * 3 + 2, none⟩ = some (.int .i64 y'.what))
            (first
             | go_keep
             | (go_split_ands
                refine ⟨?_, ?_, ?_, ?_⟩ <;> (first | assumption | simp [*])))
            (fail)
           rename_i hz
           clear hz e0 e1 e2 e3
           obtain ⟨pp, hpp⟩ : ∃ pp : Pa, (⟨x.id, y'.what != 1, x.what != 3, x.seq⟩ : Pa) = pp := ⟨_, rfl⟩
           obtain ⟨W6, hW6⟩ : ∃ W6, (W5.alloc (.cells #[.string x.id, .bool (y'.what != 1), .bool (x.what != 3), .int .i64 x.seq] 147)).drew = W6 := ⟨_, rfl⟩
           have hPB : W6.heap[W5.heap.size]? = some (.cells #[.string pp.id, .bool pp.was, .bool pp.isb, .int .i64 pp.last] 147 (0, 0)) := by rw [<- hW6, <- hpp]; exact World.alloc_heap_new W5 _
           have hs6 : W6.heap.size = W5.heap.size + 1 := by rw [<- hW6]; simp
           have hsw := HB5.size
           have HB6 : Below w.heap.size w W6 := by
            rw [<- hW6]
            have := HB5.alloc hsw (.cells #[.string x.id, .bool (y'.what != 1), .bool (x.what != 3), .int .i64 x.seq] 147)
            exact ⟨this.os, this.tape, this.output, this.size, this.block⟩
           have HO6 : Own W6 w.heap.size 147 encP 4 u5 acc := by rw [<- hW6]; exact HO5.alloc _
           have hlt5 := HO5.lt
           rw [hW6]
           clear hW6
           obtain ⟨pu, cu, rfl, hcu1, hcu2⟩ := HO5.len
           have p0 : W6.cell? ⟨W5.heap.size, 0, none⟩ = some (.string pp.id) := by simp [World.cell?, hPB]
           have p1 : W6.cell? ⟨W5.heap.size, 1, none⟩ = some (.bool pp.was) := by simp [World.cell?, hPB]
           have p2 : W6.cell? ⟨W5.heap.size, 2, none⟩ = some (.bool pp.isb) := by simp [World.cell?, hPB]
           have p3 : W6.cell? ⟨W5.heap.size, 3, none⟩ = some (.int .i64 pp.last) := by simp [World.cell?, hPB]
           rw [hpp] at HR
           clear hpp
           have HM : acc.length + 1 <= maxLen := by unfold maxLen; omega
           have HY : (acc.length + 1) * 32 <= 140737488355328 := by have := HS.out; omega
           have HMM := Lib.hid HM
           have HYY := Lib.hid HY
           have HS6 := Lib.hid hs6
           have hs66 := HB6.size
           clear HM HY hs6
           go_wp2_with (at_builtin; (refine wpList_append_lies _ rfl _ _ 145 rfl w.heap.size 147 i0 _ 4 32 Tryz.underlying145 hi hz0 hz1 hz2 rfl (by omega) _ acc.length (cellsOf encP acc) rfl (HO6.alloc _) ⟨W6.heap.size, 0, none⟩ 1 1 (encP pp) rfl rfl (World.news_of_block (cs := #[.string pp.id, .bool pp.was, .bool pp.isb, .int .i64 pp.last]) (t := 147) (fr := (0, 0)) (heap_alloc_new W6 _)) (codecP.one pp) (by omega) HMM.out HYY.out (by simp; omega) (W6.heap.size + 1) (by simp) ?_); intro gg cap w1 hown1 hgrow hat hlt2; go_frame)
           have hne5 : some W5.heap.size ≠ (Value.slice pu acc.length cu).ownBlock := fun e => by
            have := (hlt5 _ e.symm).2
            omega
           have PB1 : PbAt w1 W5.heap.size pp := by
            have hl6 : W5.heap.size < W6.heap.size := by have := HS6.out; omega
            exact (hgrow.block W5.heap.size (by simp; omega) hne5).trans ((Below.heap_alloc W6 _ _ hl6).trans hPB)
           have gne : gg ≠ W5.heap.size := by
            have := HS6.out
            rcases hat with h | h
            ·have := (hlt5 _ h).2; omega
            ·omega
           have HO1 : Own w1 w.heap.size 147 encP 4 (.slice (some ⟨gg, 0, none⟩) (acc.length + 1) cap) (acc ++ [pp]) := by
            unfold Own
            rw [cellsOf_append, cellsOf_single, List.length_append]
            exact hown1
           have HB1 : Below w.heap.size w w1 := (HB6.alloc hs66 _).grown hgrow (by simp; omega) (fun r e => (hlt5 r e).1)
           clear hown1 hgrow hat hlt2 HB6 HO6 hPB p0 p1 p2 p3 hne5 hlt5 hcu1 hcu2 HO5 HB5
           go_loopw [12] (fun t wr => ∃ (m : Nat) (y : Pa), m <= acc.length /\ t = .int .i64 m /\ Own wr w.heap.size 147 encP 4 (.slice (some ⟨gg, 0, none⟩) (acc.length + 1) cap) (acc.take m ++ y :: acc.drop m) /\ Hid (∀ b ∈ acc.drop m, pp.last < b.last) /\ PbAt wr W5.heap.size pp /\ Below w.heap.size w wr) (fun t _ => (intOf t).toNat)
           case atStart => exact ⟨acc.length, pp, Nat.le_refl _, rfl, by rw [List.take_length, List.drop_length]; exact HO1, Lib.hid (by intro b hb; rw [List.drop_length] at hb; cases hb), PB1, HB1⟩
           case round =>
            clear HO1 PB1 HB1
            obtain ⟨m, yy, hm, rfl, HOr, HA, HP, HBr⟩ := hrel
            obtain ⟨W7, rfl⟩ : ∃ W7, W7 = wr := ⟨_, rfl⟩
            have p0 := HP.cell 0 rfl
            have p1 := HP.cell 1 rfl
            have p2 := HP.cell 2 rfl
            have p3 := HP.cell 3 rfl
            have hlA : (acc.take m).length = m := by rw [List.length_take]; omega
            have HLA := Lib.hid hlA
            clear hlA
            have hmi : (m : Int) < (acc.length : Int) + 1 := by omega
            have hm0 : (0 : Int) <= (m : Int) := Int.natCast_nonneg _
            have hget : (acc.take m ++ yy :: acc.drop m)[m]? = some yy := by
             have := get_mid (acc.take m) (acc.drop m) yy
             rwa [HLA.out] at this
            have r0 := rowCell HOr hget 0 rfl
            have r1 := rowCell HOr hget 1 rfl
            have r2 := rowCell HOr hget 2 rfl
            have r3 := rowCell HOr hget 3 rfl
            rw [Nat.add_zero] at r0
            have fz := rowFrozen HOr
            have HG := Lib.hid hget
            clear hget
            have HOO7 := Lib.hid HOr
            have HPP7 := Lib.hid HP
            have HBB7 := Lib.hid HBr
            clear HOr HP HBr
            by_cases hmz : m = 0
            ·subst hmz
             have HE := Lib.hid (insert_endP (m := 0) HII.out HR.out HA.out (by intro a ha; simp at ha))
             go_wp2_with fail
             go_quiet (fail)
             go_wp2_with fail
             go_roundw
             case rel =>
              rename_i nq
              have hst := store_mid (nq := nq) HOO7.out (Nat.zero_le _) pp
              exact ⟨k + 1, _, by omega, by go_num, HE.out, by simp; omega, by simpa using hst.1, (bdn HBB7.out nq).grown (by simpa using hst.2) HBB7.out.size (fun r e => by cases e; exact Own.base_le HOO7.out)⟩
             case measure => simp [intOf]; omega
            ·obtain ⟨m', hm'⟩ : ∃ m', m = m' + 1 := ⟨m - 1, by omega⟩
             obtain ⟨z, hz⟩ : ∃ z, acc[m']? = some z := ⟨_, List.getElem?_eq_getElem (by omega)⟩
             have hzc : (acc.take m ++ yy :: acc.drop m)[m']? = some z := by
              rw [List.getElem?_append_left (by rw [HLA.out]; omega), List.getElem?_take_of_lt (by omega), hz]
             have s0 := rowCell HOO7.out hzc 0 rfl
             have s1 := rowCell HOO7.out hzc 1 rfl
             have s2 := rowCell HOO7.out hzc 2 rfl
             have s3 := rowCell HOO7.out hzc 3 rfl
             rw [Nat.add_zero] at s0
             have HZ := Lib.hid hz
             have htk : acc.take m = acc.take m' ++ [z] := by rw [hm', List.take_add_one, hz]; rfl
             have HTK := Lib.hid htk
             have hdk : acc.drop m' = z :: acc.drop m := by
              rw [hm', List.drop_eq_getElem_cons (by omega : m' < acc.length)]
              rw [List.getElem?_eq_getElem (by omega)] at hz
              simp only [Option.some.injEq] at hz
              rw [hz]
             have HDK := Lib.hid hdk
             have em : (m : Int) - 1 = (m' : Int) := by omega
             have ws : IntKind.i64.wrap ((m : Int) - 1) = (m' : Int) := by rw [em]; exact IntWalk.i64_in _ (by omega)
             have hmp : 0 < m := by omega
             have hgt : decide (0 < m) = true := by simpa using hmp
             have hmi' : (m' : Int) < (acc.length : Int) + 1 := by omega
             have hm0' : (0 : Int) <= (m' : Int) := Int.natCast_nonneg _
             have HM' := Lib.hid hm'
             clear hz hzc htk hdk hm' hmz
             by_cases hq : z.last > pp.last
             ·have q1 : decide (z.last > pp.last) = true := by simpa using hq
              have HQ2 := Lib.hid hq
              clear hq
              go_wp2_with fail
              go_quiet (fail)
              go_wp2_with fail
              go_roundw
              case rel =>
               rename_i nq
               have hst := store_mid (nq := nq) HOO7.out hm z
               have hl : acc.take m ++ z :: acc.drop m = acc.take m' ++ z :: acc.drop m' := by rw [HTK.out, HDK.out]; simp
               refine ⟨m', z, by have := HM'.out; omega, rfl, by rw [<- hl]; exact hst.1, Lib.hid (fun b hb => ?_), PbAt.kept (W := W7.drewN nq) HPP7.out hst.2 (fun e => gne (by simpa using e.symm)), (bdn HBB7.out nq).grown hst.2 HBB7.out.size (fun r e => by cases e; exact Own.base_le HOO7.out)⟩
               rw [HDK.out] at hb
               rcases List.mem_cons.1 hb with rfl | hb
               ·exact HQ2.out
               ·exact HA.out b hb
              case measure => have := HM'.out; simp [intOf]; omega
             ·have q1 : decide (z.last > pp.last) = false := by simpa using hq
              have HE := Lib.hid (insert_endP (m := m) HII.out HR.out HA.out (by
               intro a ha
               rw [HTK.out] at ha
               simp at ha
               subst ha
               omega))
              clear hq
              go_wp2_with fail
              go_quiet (fail)
              go_wp2_with fail
              go_roundw
              case rel =>
               rename_i nq
               have hst := store_mid (nq := nq) HOO7.out hm pp
               exact ⟨k + 1, _, by omega, by go_num, HE.out, by simp; omega, hst.1, (bdn HBB7.out nq).grown hst.2 HBB7.out.size (fun r e => by cases e; exact Own.base_le HOO7.out)⟩
              case measure => simp [intOf]; omega
         | succ m =>
           have em : ((m + 1 : Nat) : Int) - 1 = (m : Int) := by omega
           obtain ⟨y, hy, gy0, gy1, gy2⟩ := HC.out m (by omega)
           have hmlt : m < l.length := by omega
           have hm0 : (0 : Int) <= (m : Int) := Int.natCast_nonneg _
           have HY := Lib.hid hy
           clear hy
           rw [em]
           by_cases hid : y.id = x.id
           ·have hq : (y.id.toList == x.id.toList) = true := by rw [hid]; simp
            by_cases h2 : sq < y.seq
            ·have q2 : decide (y.seq > sq) = true := by simpa using h2
             have hh : hitB sq x y = true := by unfold hitB; simp [hid, h2]
             have HN := Lib.hid (FirstR.hit HY.out (by omega : m <= k) hh)
             clear hid h2 hh
             go_wp2_with fail
             go_quiet (fail)
             go_wp2_with fail
             go_roundw
             case rel => exact ⟨m, _, by omega, by go_num, rfl, HN.out, _, rfl⟩
             case measure => simp [intOf]
            ·have q2 : decide (y.seq > sq) = false := by simpa using h2
             have hh : hitB sq x y = false := by unfold hitB; simp [h2]
             have HN := Lib.hid (HFF.out.miss HY.out hh)
             clear hid h2 hh
             go_wp2_with fail
             go_quiet (fail)
             go_wp2_with fail
             go_roundw
             case rel => exact ⟨m, _, by omega, by go_num, rfl, HN.out, _, rfl⟩
             case measure => simp [intOf]
           ·have hq : (y.id.toList == x.id.toList) = false := by rw [toList_beq]; simp [hid]
            have hh : hitB sq x y = false := by unfold hitB; simp [hid]
            have HN := Lib.hid (HFF.out.miss HY.out hh)
            clear hid hh
            go_wp2_with fail
            go_quiet (fail)
            go_wp2_with fail
            go_roundw
            case rel => exact ⟨m, _, by omega, by go_num, rfl, HN.out, _, rfl⟩
            case measure => simp [intOf]
  ·obtain rfl : k = l.length := by omega
   have HII := Lib.hid HI
   clear HI hp hp0
   go_wp2_with fail
   go_ret
   exact ⟨acc, HII.out, _, rfl, HO, HB⟩
end
end Go.Proofs.YtfgjimpmpckgpaaGreatDoor
