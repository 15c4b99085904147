import Derived.Test.YthgkgjcnmahacaaSc03
import Derived.Test.YthgkgjcnmahacaaSc41
import Derived.Test.YthgkgjcnmahacaaSc15
import Derived.Test.YthgkgjcnmahacaaSc10
import Derived.Test.YthgkgjcnmahacaaSc21
import Derived.Test.YthgkgjcnmahacaaSc28
import Derived.Test.YthgkgjcnmahacaaSc35
section
/- An entry added to a right trail: what is left is right above the floor that is told, and says the same since it. Plain lists. -/
set_option linter.unusedSimpArgs false
set_option linter.unusedVariables false
namespace Go.Proofs.Ythgkgjcnmahacaa

theorem lastW_two (a b : List En) (id : ByteArray) : lastW (a ++ b) id = lastW b id ∨ lastW b id = 0 := by
  unfold lastW
  rw [List.foldl_append]
  generalize a.foldl (fun a e => if e.id = id then e.what else a) 0 = x
  suffices ∀ (b : List En) (x y : Int), (b.foldl (fun a e => if e.id = id then e.what else a) x = b.foldl (fun a e => if e.id = id then e.what else a) y) ∨ (b.foldl (fun a e => if e.id = id then e.what else a) y = y) from this b x 0
  intro b
  induction b with
  | nil => intro x y; exact .inr rfl
  | cons e b ih =>
    intro x y
    simp only [List.foldl_cons]
    by_cases h : e.id = id
    · rw [if_pos h, if_pos h]; exact .inl rfl
    · rw [if_neg h, if_neg h]; exact ih x y
theorem may_zero {a b : Int} (h : mayB a b = true) : mayB 0 b = true := by
  rcases may_what h with ⟨rfl, _⟩ | ⟨rfl | rfl, _⟩ <;> decide

theorem right_hd {l : List En} {floor seq : Int} (h : rightB l floor seq = true) : 0 ≤ floor ∧ floor ≤ seq ∧ seq ≤ 9007199254740991 ∧ seq - floor = l.length := by
  unfold rightB headB at h
  simp only [Bool.and_eq_true, decide_eq_true_eq] at h
  exact h.1
/-- A right trail without its first entries is right. -/
theorem right_drop {l : List En} {floor seq : Int} (h : rightB l floor seq = true) (g : Nat) (hg : g ≤ l.length) : rightB (l.drop g) (floor + g) seq = true := by
  obtain ⟨h1, h2, h3, h4⟩ := right_hd h
  refine rightB_yes (by unfold headB; rw [decide_eq_true_eq, List.length_drop]; omega) fun k hk => ?_
  rw [List.length_drop] at hk
  obtain ⟨x, hx⟩ : ∃ x, l[g + k]? = some x := ⟨_, List.getElem?_eq_getElem (by omega)⟩
  obtain ⟨e1, e2⟩ := right_at h hx
  rw [okAt_of (x := x) (by rw [List.getElem?_drop]; exact hx)]
  simp only [Bool.and_eq_true, beq_iff_eq]
  refine ⟨by omega, ?_⟩
  have e3 : l.take (g + k) = l.take g ++ (l.drop g).take k := by rw [List.take_add]
  rw [e3] at e2
  rcases lastW_two (l.take g) ((l.drop g).take k) x.id with h5 | h5
  · rwa [h5] at e2
  · rw [h5]; exact may_zero e2
theorem addF_eq {l : List En} {floor keep : Int} {e : En} {seq : Int} (h : rightB (l ++ [e]) floor seq = true) : addF l floor keep e = floor + addGone l.length keep := by
  unfold addF
  split
  · rename_i h0; omega
  · rename_i h0
    have hlt : addGone l.length keep - 1 < (l ++ [e]).length := by unfold addGone; simp; omega
    obtain ⟨x, hx⟩ : ∃ x, (l ++ [e])[addGone l.length keep - 1]? = some x := ⟨_, List.getElem?_eq_getElem hlt⟩
    have := (right_at h hx).1
    rw [hx]
    simp only [Option.map_some, Option.getD_some]
    omega
theorem add_right {l : List En} {floor keep : Int} {e : En} {seq : Int} (h : rightB (l ++ [e]) floor seq = true) : rightB (addL l keep e) (addF l floor keep e) seq = true := by
  rw [addF_eq h]
  exact right_drop h _ (by unfold addGone; simp)
theorem addL_len (l : List En) (keep : Int) (e : En) : ((addL l keep e).length : Int) ≤ max keep 0 := by
  unfold addL addGone
  rw [List.length_drop, List.length_append, List.length_singleton]
  omega
theorem sinceL_skip (sq : Int) (b : List En) : ∀ a : List En, (∀ e ∈ a, e.seq ≤ sq) → sinceL sq (a ++ b) = sinceL sq b
  | [], _ => rfl
  | e :: a, h => by
    rw [List.cons_append, sinceL_cons, if_pos (h e (by simp))]
    exact sinceL_skip sq b a (fun x hx => h x (List.mem_cons_of_mem _ hx))
theorem add_since {l : List En} {floor keep : Int} {e : En} {seq : Int} (h : rightB (l ++ [e]) floor seq = true) : sinceL (addF l floor keep e) (addL l keep e) = sinceL (addF l floor keep e) (l ++ [e]) := by
  rw [addF_eq h]
  unfold addL
  generalize hg : addGone l.length keep = g
  conv => rhs; rw [← List.take_append_drop g (l ++ [e])]
  rw [sinceL_skip]
  intro x hx
  obtain ⟨i, hi⟩ := List.getElem?_of_mem hx
  rw [List.getElem?_take] at hi
  split at hi
  · rename_i hlt
    have := (right_at h hi).1
    omega
  · cases hi
theorem addF_ge {l : List En} {floor keep : Int} {e : En} {seq : Int} (h : rightB (l ++ [e]) floor seq = true) : floor ≤ addF l floor keep e ∧ addF l floor keep e ≤ seq := by
  rw [addF_eq h]
  obtain ⟨_, _, _, h4⟩ := right_hd h
  rw [List.length_append, List.length_singleton] at h4
  unfold addGone
  omega
end Go.Proofs.Ythgkgjcnmahacaa
end

section
/- cardboxref18.Told and the law's gone, walked. -/
set_option linter.unusedSimpArgs false
set_option linter.unusedVariables false
namespace Go.Proofs.Ythgkgjcnmahacaa
open Go.RowKit Go.OpenShut

set_option maxRecDepth 100000 in
set_option maxHeartbeats 2000000 in
theorem told18_any (b : BoxD) (r : RB) (id : ByteArray) (w : World) (hb : BoxOf w w.heap.size b r) (ob : b.Ok) :
    Calls Try.prog 73 #[r.val, .string id] w (Said w (toldB b.trail id = true)) := by
  have htr := (rdE_iff.1 hb.trail).2
  have hn := hb.trail.nlen
  have hlt := ob.trail
  obtain ⟨po, no, co, pt, nt, ct, sq, fl, kp⟩ := r
  dsimp only [RB.val] at *
  have hA0 : BoxAt (w.alloc (.cells #[.slice po no co, .slice pt nt ct, .int .i64 sq, .int .i64 fl, .int .i64 kp] 35)) w.heap.size ⟨po, no, co, pt, nt, ct, sq, fl, kp⟩ := heap_alloc_at rfl
  have hB0 : Below w.heap.size w (w.alloc (.cells #[.slice po no co, .slice pt nt ct, .int .i64 sq, .int .i64 fl, .int .i64 kp] 35)) := (Below.refl _ _).alloc (Nat.le_refl _) _
  have HRD := Lib.hid htr
  have HN : Hid (b.trail.length = nt) := hn
  have hnt : nt ≤ 4398046510976 := by omega
  clear hb ob htr hn hlt
  go_enter Try.func73, Try.ntmps73
  go_upto_region 1 with fail
  obtain ⟨W0, hW0⟩ : ∃ W0, (w.alloc (.cells #[.slice po no co, .slice pt nt ct, .int .i64 sq, .int .i64 fl, .int .i64 kp] 35)) = W0 := ⟨_, rfl⟩
  rw [hW0] at hA0 hB0 ⊢
  clear hW0
  have c0 := hA0.cell 1 (u := .slice pt nt ct) rfl
  have HB := Lib.hid hB0
  have hz := hA0.lt
  have HRB := Lib.hid (HRD.out.below hB0 (Nat.le_refl _))
  clear hA0 hB0 HRD
  go_wp2_with fail
  go_loopw [5] (fun i wr => ∃ k : Nat, k ≤ nt ∧ i = .int .i64 k ∧ Hid (toldB (b.trail.take k) id = false) ∧ wr = W0) (fun i _ => nt - (intOf i).toNat)
  case atStart => exact ⟨0, Nat.zero_le _, rfl, by simp [Hid, toldB], rfl⟩
  case round =>
    obtain ⟨k, hk, rfl, htk, rfl⟩ := hrel
    by_cases hlt : k < nt
    · obtain ⟨x, hx⟩ : ∃ x, b.trail[k]? = some x := ⟨_, List.getElem?_eq_getElem (by have := HN.out; omega)⟩
      obtain ⟨b1, o1, rfl, hb1, hc1⟩ := rd_at' HRB.out hx
      have f0 := hc1 0 _ rfl
      have f1 := hc1 1 _ rfl
      have f2 := hc1 2 _ rfl
      have hk0 : (0 : Int) ≤ (k : Int) := Int.natCast_nonneg _
      have hk1 : (k : Int) < (nt : Int) := by omega
      have HX : Hid (b.trail[k]? = some x) := hx
      clear hx hc1
      by_cases he : x.id = id
      · have he1 : (x.id.toList == id.toList) = true := by rw [str_beq]; simpa using he
        have HE := Lib.hid he
        clear he
        go_wp2_with fail
        go_ret
        refine ⟨true, rfl, ⟨fun _ => ?_, fun _ => rfl⟩, HB.out⟩
        exact List.any_eq_true.2 ⟨x, List.mem_of_getElem? HX.out, by simpa using HE.out⟩
      · have he1 : (x.id.toList == id.toList) = false := by rw [str_beq]; simpa using he
        have HE := Lib.hid he
        clear he
        go_wp2_with fail
        go_roundw
        case rel =>
          refine ⟨k + 1, by omega, by go_num, ?_, by trivial⟩
          have h := htk.out
          have hx2 := HX.out
          unfold toldB at h
          unfold Hid toldB
          rw [List.take_add_one, hx2, List.any_append, h]
          simpa using HE.out
        case measure => simp [intOf]; omega
    · have hk2 : ¬ ((k : Int) < (nt : Int)) := by omega
      go_wp2_with fail
      go_ret
      refine ⟨false, rfl, ⟨fun h => by simp at h, fun h => ?_⟩, HB.out⟩
      have h2 := htk.out
      rw [List.take_of_length_le (by have := HN.out; omega)] at h2
      rw [h2] at h
      exact absurd h (by decide)
theorem findJ_isSome {os : Obs} (hr : Rise os) (id : ByteArray) : (findJ os id).isSome = isAt os id := by
  rw [← look_isSome]
  cases e : look os id with
  | some v =>
    have h := (look_mem hr (id, v)).2 e
    unfold findJ
    rw [Option.isSome_map]
    show _ = true
    rw [List.find?_isSome]
    exact ⟨_, h, by simp⟩
  | none =>
    cases e2 : findJ os id with
    | none => rfl
    | some v =>
      exfalso
      unfold findJ at e2
      obtain ⟨p, hp, hv⟩ := Option.map_eq_some_iff.1 e2
      have h1 := List.find?_some hp
      have h2 := List.mem_of_find?_eq_some hp
      have h3 := (look_mem hr p).1 h2
      simp at h1
      rw [h1, e] at h3
      simp at h3
set_option maxRecDepth 100000 in
set_option maxHeartbeats 2000000 in
theorem gone_any (b : BoxD) (r : RB) (id : ByteArray) (w : World) (hb : BoxOf w w.heap.size b r) (hr : Rise b.objs) (ob : b.Ok) :
    Calls Try.prog 32 #[r.val, .string id] w (Said w (¬ NotGone b id)) := by
  have hA0 : BoxAt (w.alloc r.obj) w.heap.size r := heap_alloc_at rfl
  have hB0 : Below w.heap.size w (w.alloc r.obj) := (Below.refl _ _).alloc (Nat.le_refl _) _
  have HBX := Lib.hid hb
  have HOB := Lib.hid ob
  have HR := Lib.hid hr
  clear hb ob hr
  go_enter Try.func32, Try.ntmps32
  go_upto_region 1 with fail
  obtain ⟨W0, hW0⟩ : ∃ W0, (w.alloc r.obj) = W0 := ⟨_, rfl⟩
  rw [hW0] at hA0 hB0
  dsimp only [RB.obj] at hW0
  rw [hW0]
  clear hW0
  have c0 := hA0.cell 0 rfl
  have c1 := hA0.cell 1 rfl
  have c2 := hA0.cell 2 rfl
  have c3 := hA0.cell 3 rfl
  have c4 := hA0.cell 4 rfl
  have HB := Lib.hid hB0
  have hz := hA0.lt
  have HA := Lib.hid hA0
  clear hA0 hB0
  go_upto_region 2 with (go_at_call 26; refine (find_any b r id W0 (HBX.out.under HB.out HB.out.size) HOB.out).mono ?_; rintro e w1 ⟨q, rfl, hq, hb1⟩)
  have hf := findJ_isSome HR.out id
  obtain ⟨f, hff⟩ : ∃ f, (findJ b.objs id).isSome = f := ⟨_, rfl⟩
  rw [hff] at hf ⊢
  have HF := Lib.hid hf
  have hz1 := hb1.size
  have hA2 : BoxAt (w1.alloc (.cells #[.int .i64 q.k, .int .i64 q.n, .string q.s, .slice q.pl q.nl q.cl, .slice q.pm q.nm q.cm] 25)) w.heap.size r := heap_alloc_lt (by omega) (HA.out.under hb1 hz)
  have HB2 := Lib.hid (((HB.out.trans (hb1.mono HB.out.size)).alloc (by have := HB.out.size; omega) (.cells #[.int .i64 q.k, .int .i64 q.n, .string q.s, .slice q.pl q.nl q.cl, .slice q.pm q.nm q.cm] 25)))
  obtain ⟨W2, hW2⟩ : ∃ W2, w1.alloc (.cells #[.int .i64 q.k, .int .i64 q.n, .string q.s, .slice q.pl q.nl q.cl, .slice q.pm q.nm q.cm] 25) = W2 := ⟨_, rfl⟩
  rw [hW2] at hA2 HB2 ⊢
  clear c0 c1 c2 c3 c4 hW2 hz1 hb1 hq HB HA hz hf hff
  have hz := hA2.lt
  have c0 := hA2.cell 0 rfl
  have c1 := hA2.cell 1 rfl
  have c2 := hA2.cell 2 rfl
  have c3 := hA2.cell 3 rfl
  have c4 := hA2.cell 4 rfl
  clear hA2
  cases f with
  | true =>
    go_wp2_with fail
    go_ret
    exact ⟨false, rfl, ⟨fun h => by simp at h, fun h => absurd (.inl HF.out.symm) h⟩, HB2.out⟩
  | false =>
    go_wp2_with fail
    refine (told18_any b r id W2 (HBX.out.under HB2.out HB2.out.size) HOB.out).mono ?_
    rintro e w3 ⟨y, rfl, hy, hb3⟩
    go_wp2_with fail
    go_ret
    refine ⟨y, rfl, ?_, HB2.out.trans (hb3.mono HB2.out.size)⟩
    have h := HF.out
    unfold NotGone
    rw [← h, hy]
    simp
end Go.Proofs.Ythgkgjcnmahacaa
end

section
/- Whether a box is right, told by the last entry of each id. -/
set_option linter.unusedSimpArgs false
set_option linter.unusedVariables false
namespace Go.Proofs.Ythgkgjcnmahacaa
open Go.RowKit Go.OpenShut

theorem lastW_fold (id : ByteArray) : ∀ (l : List En) (a : Int), l.foldl (fun a e => if e.id = id then e.what else a) a = if toldB l id = true then lastW l id else a
  | [], a => by simp [toldB]
  | e :: r, a => by
    have h1 := lastW_fold id r (if e.id = id then e.what else a)
    have h2 := lastW_fold id r (if e.id = id then e.what else 0)
    unfold lastW at h1 h2 ⊢
    rw [List.foldl_cons, List.foldl_cons, h1, h2]
    unfold toldB
    rw [List.any_cons]
    by_cases h3 : r.any (fun e => decide (e.id = id)) = true
    · simp [h3, toldB]
    · by_cases h4 : e.id = id <;> simp [h3, h4, toldB]
theorem lastW_cons (e : En) (r : List En) (id : ByteArray) : lastW (e :: r) id = if toldB r id = true then lastW r id else if e.id = id then e.what else 0 := by
  unfold lastW
  rw [List.foldl_cons, lastW_fold]
  rfl
theorem since_told {sq : Int} {l : List En} {p : Pa} (hp : p ∈ sinceL sq l) : toldB l p.id = true := by
  obtain ⟨y, hy, h, _⟩ := (sinceL_id sq p.id l).1 ⟨p, hp, rfl⟩
  exact List.any_eq_true.2 ⟨y, hy, by simpa using h⟩
theorem upd_isb (e : En) (p : Pa) : (updP e p).isb = p.isb := by unfold updP; split <;> rfl
theorem since_isb (sq : Int) : ∀ l : List En, (∀ e ∈ l, sq < e.seq) → ∀ p ∈ sinceL sq l, p.isb = (lastW l p.id != 3)
  | [], _, p, hp => by simp [sinceL] at hp
  | e :: r, h, p, hp => by
    have ih := since_isb sq r (fun x hx => h x (List.mem_cons_of_mem _ hx))
    have he := h e (by simp)
    rw [sinceL_cons, if_neg (by omega)] at hp
    rw [lastW_cons]
    split at hp
    · obtain ⟨q, hq, rfl⟩ := List.mem_map.1 hp
      rw [upd_isb, upd_id, if_pos (since_told hq)]
      exact ih q hq
    · rename_i hk
      rcases List.mem_cons.1 hp with rfl | hp
      · have hn : ¬ toldB r (newP e).id = true := by
          intro ht
          obtain ⟨y, hy, hi⟩ := List.any_eq_true.1 ht
          obtain ⟨q, hq, e2⟩ := (sinceL_id sq e.id r).2 ⟨y, hy, (by simpa using hi : y.id = (newP e).id), h y (List.mem_cons_of_mem _ hy)⟩
          exact hk (List.any_eq_true.2 ⟨q, hq, by simpa using e2⟩)
        rw [if_neg hn, if_pos (show e.id = (newP e).id from rfl)]
        rfl
      · rw [if_pos (since_told hp)]
        exact ih p hp
theorem right_seq {l : List En} {floor seq : Int} (h : rightB l floor seq = true) : ∀ e ∈ l, floor < e.seq := by
  intro e he
  obtain ⟨k, hk⟩ := List.getElem?_of_mem he
  unfold rightB at h
  simp only [Bool.and_eq_true, List.all_eq_true, List.mem_range] at h
  have := h.2 k (List.getElem?_eq_some_iff.1 hk).1
  rw [okAt_of hk] at this
  simp only [Bool.and_eq_true, beq_iff_eq] at this
  omega
/-- A box is right, told by the last entry of each id. -/
def RightQ (b : BoxD) : Prop := Rising b.objs ∧ 0 ≤ b.keep ∧ b.keep ≤ 1000 ∧ (b.trail.length : Int) ≤ b.keep ∧ rightB b.trail b.floor b.seq = true ∧ ∀ e ∈ b.trail, (findJ b.objs e.id).isSome = (lastW b.trail e.id != 3)
theorem rightBx_iff (b : BoxD) : RightBx b ↔ RightQ b := by
  unfold RightBx RightQ
  constructor
  · rintro ⟨h1, h2, h3, h4, h5, h6⟩
    refine ⟨h1, h2, h3, h4, h5, fun e he => ?_⟩
    rw [findJ_isSome (rise_iff.1 h1)]
    obtain ⟨p, hp, hi⟩ := (sinceL_id b.floor e.id b.trail).2 ⟨e, he, rfl, right_seq h5 e he⟩
    rw [← hi, h6 p hp]
    exact since_isb b.floor b.trail (right_seq h5) p hp
  · rintro ⟨h1, h2, h3, h4, h5, h6⟩
    refine ⟨h1, h2, h3, h4, h5, fun p hp => ?_⟩
    obtain ⟨e, he, hi⟩ := List.any_eq_true.1 (since_told hp)
    have hi : e.id = p.id := by simpa using hi
    rw [← findJ_isSome (rise_iff.1 h1), ← hi, h6 e he, since_isb b.floor b.trail (right_seq h5) p hp, hi]
/-- New boxes are right. -/
theorem newB_right (start keep : Int) : RightBx (newB start keep) := by
  have h1 : 0 ≤ clampI start 9007199254740991 ∧ clampI start 9007199254740991 ≤ 9007199254740991 := by unfold clampI; split <;> (try split) <;> omega
  have h2 : 0 ≤ clampI keep 1000 ∧ clampI keep 1000 ≤ 1000 := by unfold clampI; split <;> (try split) <;> omega
  refine ⟨fun i j p q _ h => by simp [newB] at h, h2.1, h2.2, by simpa [newB] using h2.1, ?_, fun p hp => by simp [newB, sinceL] at hp⟩
  simp [rightB, headB, newB, h1]
end Go.Proofs.Ythgkgjcnmahacaa
end

section
/- Whatever is done to a right box: it stays right; and what changed since makes the old into the new. Plain lists. -/
set_option linter.unusedSimpArgs false
set_option linter.unusedVariables false
namespace Go.Proofs.Ythgkgjcnmahacaa

/-- What an act does: nothing, or one change. -/
def ActC (b : BoxD) (os : Obs) (id : ByteArray) (what : Int) : Prop :=
  b.seq < 9007199254740991 ∧ Rise os ∧ (∀ j, j ≠ id → look os j = look b.objs j) ∧
  ((what = 1 ∧ look b.objs id = none ∧ toldB b.trail id = false ∧ (look os id).isSome = true) ∨ (what = 2 ∧ (look b.objs id).isSome = true ∧ (look os id).isSome = true) ∨ (what = 3 ∧ (look b.objs id).isSome = true ∧ look os id = none))
theorem act_cases (b : BoxD) (k : Int) (id : ByteArray) (v : JV) (hr : Rise b.objs) : doesB b k id v = b ∨ ∃ os what, doesB b k id v = chgB b os id what ∧ ActC b os id what := by
  unfold doesB actB
  by_cases k1 : k = 1
  · subst k1
    rw [if_pos rfl]
    unfold putB
    by_cases ha : isAt b.objs id = true
    · have hl : look b.objs id = some (oldV b.objs id) := by unfold look; rw [if_pos ha]
      rw [if_pos ha]
      by_cases hsm : SameT (oldV b.objs id) v
      · rw [if_pos hsm]
        left
        simp
      · rw [if_neg hsm]
        by_cases hs : 9007199254740991 ≤ b.seq
        · rw [if_pos hs]
          left
          simp
        · rw [if_neg hs]
          right
          have e : b.objs.set (lowN b.objs id) (id, v) = putL b.objs id v := by unfold putL; rw [if_pos ha]
          rw [e]
          refine ⟨putL b.objs id v, 2, by simp, by omega, putL_rise hr id v, fun j hj => look_put_ne hr v hj, .inr (.inl ⟨rfl, by rw [hl]; rfl, by rw [look_put hr]; rfl⟩)⟩
    · have hl : look b.objs id = none := by unfold look; rw [if_neg ha]
      rw [if_neg ha]
      by_cases ht : toldB b.trail id = true
      · rw [if_pos ht]
        left
        simp
      · rw [if_neg ht]
        by_cases hs : 9007199254740991 ≤ b.seq
        · rw [if_pos hs]
          left
          simp
        · rw [if_neg hs]
          right
          have e : b.objs.take (lowN b.objs id) ++ (id, v) :: b.objs.drop (lowN b.objs id) = putL b.objs id v := by unfold putL; rw [if_neg ha]
          rw [e]
          refine ⟨putL b.objs id v, 1, by simp, by omega, putL_rise hr id v, fun j hj => look_put_ne hr v hj, .inl ⟨rfl, hl, by simpa using ht, by rw [look_put hr]; rfl⟩⟩
  · rw [if_neg k1]
    by_cases k2 : k = 2
    · subst k2
      rw [if_pos rfl]
      unfold dropB
      by_cases ha : isAt b.objs id = true
      · have hl : look b.objs id = some (oldV b.objs id) := by unfold look; rw [if_pos ha]
        rw [if_neg (show ¬ isAt b.objs id = false by rw [ha]; decide)]
        by_cases hs : 9007199254740991 ≤ b.seq
        · rw [if_pos hs]
          left
          simp
        · rw [if_neg hs]
          right
          have e : b.objs.take (lowN b.objs id) ++ b.objs.drop (lowN b.objs id + 1) = delL b.objs id := by unfold delL; rw [if_pos ha]
          rw [e]
          refine ⟨delL b.objs id, 3, by simp, by omega, delL_rise hr id, fun j hj => look_del_ne hr hj, .inr (.inr ⟨rfl, by rw [hl]; rfl, look_del hr id⟩)⟩
      · rw [if_pos (show isAt b.objs id = false by simpa using ha)]
        left
        simp
    · rw [if_neg k2]
      left
      simp

theorem lastW_app (a b : List En) (id : ByteArray) : lastW (a ++ b) id = if toldB b id = true then lastW b id else lastW a id := by
  have h := lastW_fold id b (lastW a id)
  rw [← h]
  unfold lastW
  rw [List.foldl_append]
theorem lastW_untold {l : List En} {id : ByteArray} (h : toldB l id = false) : lastW l id = 0 := by
  have h1 := lastW_fold id l 0
  rw [if_neg (by rw [h]; decide)] at h1
  exact h1
theorem told_mem {l : List En} {e : En} (h : e ∈ l) : toldB l e.id = true := List.any_eq_true.2 ⟨e, h, by simp⟩
theorem right_snoc {l : List En} {floor seq : Int} {e : En} (h : rightB l floor seq = true) (hs : seq < 9007199254740991) (he : e.seq = seq + 1) (hm : mayB (lastW l e.id) e.what = true) : rightB (l ++ [e]) floor (seq + 1) = true := by
  have hh := right_head' h
  refine rightB_yes (by unfold headB; rw [decide_eq_true_eq, List.length_append, List.length_singleton]; omega) fun k hk => ?_
  rw [List.length_append, List.length_singleton] at hk
  by_cases hkl : k < l.length
  · obtain ⟨x, hx⟩ : ∃ x, l[k]? = some x := ⟨_, List.getElem?_eq_getElem hkl⟩
    have h1 := right_at h hx
    rw [okAt_of (x := x) (by rw [List.getElem?_append_left hkl]; exact hx), List.take_append_of_le_length (by omega), Bool.and_eq_true, beq_iff_eq]
    exact h1
  · have hk2 : k = l.length := by omega
    subst hk2
    rw [okAt_of (x := e) (by simp), List.take_left, Bool.and_eq_true, beq_iff_eq]
    exact ⟨by omega, hm⟩
theorem right_isAt {b : BoxD} (h : RightBx b) {e : En} (he : e ∈ b.trail) : (look b.objs e.id).isSome = (lastW b.trail e.id != 3) := by
  have h1 := ((rightBx_iff b).1 h).2.2.2.2.2 e he
  rw [findJ_isSome (rise_iff.1 h.1)] at h1
  rw [look_isSome]
  exact h1
theorem act_may {b : BoxD} (h : RightBx b) {os : Obs} {id : ByteArray} {what : Int} (ha : ActC b os id what) : mayB (lastW b.trail id) what = true := by
  have hno : (look b.objs id).isSome = true → lastW b.trail id ≠ 3 := fun hs => by
    cases ht : toldB b.trail id with
    | false => rw [lastW_untold ht]; decide
    | true =>
      obtain ⟨e, he, hi⟩ := List.any_eq_true.1 ht
      have hi : e.id = id := by simpa using hi
      have h1 := right_isAt h he
      rw [hi, hs] at h1
      intro h2
      rw [h2] at h1
      simp at h1
  rcases ha.2.2.2 with ⟨rfl, _, h2, _⟩ | ⟨rfl, h2, _⟩ | ⟨rfl, h2, _⟩
  · unfold mayB
    rw [if_pos rfl, lastW_untold h2]
    rfl
  · unfold mayB
    rw [if_neg (by decide), if_pos (.inl rfl)]
    simpa using hno h2
  · unfold mayB
    rw [if_neg (by decide), if_pos (.inr rfl)]
    simpa using hno h2
theorem act_snoc {b : BoxD} (h : RightBx b) {os : Obs} {id : ByteArray} {what : Int} (ha : ActC b os id what) : rightB (b.trail ++ [⟨b.seq + 1, id, what⟩]) b.floor (b.seq + 1) = true :=
  right_snoc h.2.2.2.2.1 ha.1 rfl (act_may h ha)
theorem act_some {b : BoxD} {os : Obs} {id : ByteArray} {what : Int} (ha : ActC b os id what) : (look os id).isSome = (what != 3) := by
  rcases ha.2.2.2 with ⟨rfl, _, _, h⟩ | ⟨rfl, _, h⟩ | ⟨rfl, _, h⟩
  · rw [h]; rfl
  · rw [h]; rfl
  · rw [h]; rfl
theorem chg_right {b : BoxD} (h : RightBx b) {os : Obs} {id : ByteArray} {what : Int} (ha : ActC b os id what) : RightBx (chgB b os id what) := by
  have hsn := act_snoc h ha
  rw [rightBx_iff]
  refine ⟨rise_iff.2 ha.2.1, h.2.1, h.2.2.1, ?_, add_right hsn, fun e he => ?_⟩
  · have h1 := addL_len b.trail b.keep ⟨b.seq + 1, id, what⟩
    have h2 := h.2.1
    show ((addL b.trail b.keep ⟨b.seq + 1, id, what⟩).length : Int) ≤ b.keep
    omega
  · have he2 : e ∈ addL b.trail b.keep ⟨b.seq + 1, id, what⟩ := he
    show (findJ os e.id).isSome = (lastW (addL b.trail b.keep ⟨b.seq + 1, id, what⟩) e.id != 3)
    rw [findJ_isSome ha.2.1, ← look_isSome]
    have ht := told_mem he2
    have h3 : lastW (addL b.trail b.keep ⟨b.seq + 1, id, what⟩) e.id = lastW (b.trail ++ [⟨b.seq + 1, id, what⟩]) e.id := by
      conv => rhs; rw [← List.take_append_drop (addGone b.trail.length b.keep) (b.trail ++ [(⟨b.seq + 1, id, what⟩ : En)])]
      rw [lastW_app]
      unfold addL at ht
      rw [if_pos ht]
      rfl
    rw [h3, lastW_snoc]
    by_cases hid : id = e.id
    · subst hid
      rw [if_pos rfl]
      exact act_some ha
    · rw [if_neg hid, ha.2.2.1 e.id (fun e2 => hid e2.symm)]
      have hm := List.mem_of_mem_drop he2
      rcases List.mem_append.1 hm with hm | hm
      · exact right_isAt h hm
      · rw [List.mem_singleton] at hm
        subst hm
        exact absurd rfl hid

/-- What is known of a box behind acts. -/
structure PlayI (b d : BoxD) : Prop where
  right : RightBx d
  seq : b.seq ≤ d.seq
  low : b.seq < d.floor ∨ ((∀ j, look d.objs j = look b.objs j ∨ ∃ e ∈ d.trail, e.id = j ∧ b.seq < e.seq) ∧ ∀ e ∈ d.trail, b.seq < e.seq → e.what = 1 → look b.objs e.id = none)
theorem PlayI.start {b : BoxD} (h : RightBx b) : PlayI b b := by
  refine ⟨h, Int.le_refl _, .inr ⟨fun j => .inl rfl, fun e he hs => ?_⟩⟩
  obtain ⟨k, hk⟩ := List.getElem?_of_mem he
  have h1 := (right_at h.2.2.2.2.1 hk).1
  have h2 := right_head' h.2.2.2.2.1
  have h3 := (List.getElem?_eq_some_iff.1 hk).1
  omega
theorem PlayI.does {b d : BoxD} (h : PlayI b d) (k : Int) (id : ByteArray) (v : JV) : PlayI b (doesB d k id v) := by
  rcases act_cases d k id v (rise_iff.1 h.right.1) with e | ⟨os, what, e, ha⟩
  · rw [e]; exact h
  · rw [e]
    have hseq := h.seq
    have hsn := act_snoc h.right ha
    have hf := addF_eq (keep := d.keep) hsn
    refine ⟨chg_right h.right ha, by show b.seq ≤ d.seq + 1; omega, ?_⟩
    show b.seq < addF d.trail d.floor d.keep ⟨d.seq + 1, id, what⟩ ∨ ((∀ j, look os j = look b.objs j ∨ ∃ e ∈ addL d.trail d.keep ⟨d.seq + 1, id, what⟩, e.id = j ∧ b.seq < e.seq) ∧ ∀ e ∈ addL d.trail d.keep ⟨d.seq + 1, id, what⟩, b.seq < e.seq → e.what = 1 → look b.objs e.id = none)
    by_cases hlow : b.seq < addF d.trail d.floor d.keep ⟨d.seq + 1, id, what⟩
    · exact .inl hlow
    · right
      have hge := (addF_ge (keep := d.keep) hsn).1
      rcases h.low with h1 | ⟨h1, h2⟩
      · omega
      · have hkeep : ∀ e ∈ d.trail ++ [⟨d.seq + 1, id, what⟩], b.seq < e.seq → e ∈ addL d.trail d.keep ⟨d.seq + 1, id, what⟩ := fun e he hs => by
          obtain ⟨i, hi⟩ := List.getElem?_of_mem he
          have h3 := (right_at hsn hi).1
          unfold addL
          exact List.mem_of_getElem? (i := i - addGone d.trail.length d.keep) (by rw [List.getElem?_drop, show addGone d.trail.length d.keep + (i - addGone d.trail.length d.keep) = i by omega]; exact hi)
        refine ⟨fun j => ?_, fun e he hs hw => ?_⟩
        · by_cases hj : j = id
          · subst hj
            exact .inr ⟨_, hkeep ⟨d.seq + 1, j, what⟩ (by simp) (by dsimp only; omega), rfl, by dsimp only; omega⟩
          · rw [ha.2.2.1 j hj]
            rcases h1 j with h3 | ⟨e, he, h4, h5⟩
            · exact .inl h3
            · exact .inr ⟨e, hkeep e (List.mem_append.2 (.inl he)) h5, h4, h5⟩
        · have hm : e ∈ d.trail ++ [⟨d.seq + 1, id, what⟩] := List.mem_of_mem_drop he
          rcases List.mem_append.1 hm with hm | hm
          · exact h2 e hm hs hw
          · rw [List.mem_singleton] at hm
            subst hm
            dsimp only at hw ⊢
            rcases ha.2.2.2 with ⟨_, h3, h4, _⟩ | ⟨h3, _⟩ | ⟨h3, _⟩
            · rcases h1 id with h5 | ⟨e, he, h5, h6⟩
              · rw [← h5]; exact h3
              · have := told_mem he
                rw [h5, h4] at this
                cases this
            · omega
            · omega
theorem play_inv {b : BoxD} : ∀ (ops : List (RO × JV)) {d : BoxD}, PlayI b d → PlayI b (ops.foldl (fun d o => doesB d o.1.k o.1.id o.2) d)
  | [], _, h => h
  | o :: ops, _, h => play_inv ops (h.does _ _ _)

theorem findJ_look {os : Obs} (hr : Rise os) (id : ByteArray) : findJ os id = look os id := by
  cases h : findJ os id with
  | none =>
    have h1 := findJ_isSome hr id
    rw [h] at h1
    rw [← look_isSome] at h1
    cases h2 : look os id with
    | none => rfl
    | some v => rw [h2] at h1; cases h1
  | some v =>
    unfold findJ at h
    obtain ⟨p, h1, h2⟩ := Option.map_eq_some_iff.1 h
    have h3 := List.find?_some h1
    have h4 := List.mem_of_find?_eq_some h1
    have h5 : p.1 = id := by simpa using h3
    have h6 := (look_mem hr p).1 h4
    rw [h5, h2] at h6
    exact h6.symm
theorem since_is {l : List En} {floor seq sq : Int} (h : rightB l floor seq = true) {p : Pa} (hp : p ∈ sinceL sq l) : p.isb = (lastW l p.id != 3) := by
  obtain ⟨i, x, k, f, hx, h1, h2, hf, h3, h4, h5, rfl⟩ := (since_at h).1 hp
  have h6 := lastW_is (id := x.id) hx rfl l.length (List.getElem?_eq_some_iff.1 hx).1 (Nat.le_refl _) (fun j y h7 _ hy => h2 j y h7 hy)
  rw [List.take_length] at h6
  dsimp only
  rw [h6]
theorem since_ex {l : List En} {floor seq sq : Int} (h : rightB l floor seq = true) {e : En} (he : e ∈ l) (hs : sq < e.seq) : ∃ p ∈ sinceL sq l, p.id = e.id := (sinceL_id sq e.id l).2 ⟨e, he, rfl, hs⟩
/-- What is told makes the old into the new. -/
theorem rounds_ok {b now : BoxD} {m c g : List ByteArray} (h : PlayI b now) (hb : Rise b.objs) (hf : now.floor ≤ b.seq) (ha : AllI now.trail now.seq b.seq now.seq m c g) :
    (∀ x ∈ now.objs, x.1 ∉ g ∧ (x.1 ∈ m ++ c ++ g ∨ findJ b.objs x.1 = some x.2)) ∧ ∀ x ∈ b.objs, (findJ now.objs x.1).isSome = true ∨ x.1 ∈ g := by
  have hr := h.right.2.2.2.2.1
  have hn := rise_iff.1 h.right.1
  rcases h.low with h1 | ⟨h1, h2⟩
  · omega
  · have htold : ∀ p ∈ sinceL b.seq now.trail, p.isb = (look now.objs p.id).isSome := fun p hp => by
      obtain ⟨e, he, hi⟩ := List.any_eq_true.1 (since_told hp)
      have hi : e.id = p.id := by simpa using hi
      rw [since_is hr hp, ← hi, right_isAt h.right he]
    refine ⟨fun x hx => ?_, fun x hx => ?_⟩
    · have hl := (look_mem hn x).1 hx
      refine ⟨fun hg => ?_, ?_⟩
      · obtain ⟨p, hp, h3, h4, h5⟩ := ha.gn x.1 hg
        have h6 := htold p hp
        rw [h3, hl, h4] at h6
        cases h6
      · rcases h1 x.1 with h3 | ⟨e, he, h3, h4⟩
        · right
          rw [findJ_look hb, ← h3]
          exact hl
        · left
          obtain ⟨p, hp, h5⟩ := since_ex hr he h4
          have h6 := htold p hp
          rw [h5, h3, hl] at h6
          have h7 := (ha.full p hp (since_last hr hp).2.1).1 h6
          rw [h5, h3] at h7
          rw [List.mem_append, List.mem_append]
          exact .inl h7
    · cases hfn : findJ now.objs x.1 with
      | some v => exact .inl rfl
      | none =>
        right
        have hl := (look_mem hb x).1 hx
        rw [findJ_look hn] at hfn
        rcases h1 x.1 with h3 | ⟨e, he, h3, h4⟩
        · rw [hfn, hl] at h3
          cases h3
        · obtain ⟨p, hp, h5⟩ := since_ex hr he h4
          have h6 := htold p hp
          rw [h5, h3, hfn] at h6
          have hw : p.was = true := by
            obtain ⟨i, y, k, f, hy, g1, g2, hf', g3, g4, g5, rfl⟩ := (since_at hr).1 hp
            dsimp only at h5 ⊢
            rw [bne_iff_ne]
            intro hw
            have h7 := h2 f (List.mem_of_getElem? hf') g4 hw
            rw [g3, h5, h3, hl] at h7
            cases h7
          have h7 := (ha.full p hp (since_last hr hp).2.1).2 h6 hw
          rw [h5, h3] at h7
          exact h7
end Go.Proofs.Ythgkgjcnmahacaa
end
