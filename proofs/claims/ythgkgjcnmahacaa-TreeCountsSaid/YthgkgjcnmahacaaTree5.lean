/- A map with another member; walked. -/
import Derived.Test.YthgkgjcnmahacaaTree4
set_option linter.unusedSimpArgs false
set_option linter.unusedVariables false
namespace Go.Proofs.Ythgkgjcnmahacaa
open Go.RowKit Go.OpenShut

/-- Members' cells read as members. -/
structure MemsOf (w : World) (B : Nat) (ms : List (ByteArray × JV)) (rms : List RM) : Prop where
  len : ms.length = rms.length
  name : ∀ (i : Nat) (p : ByteArray × JV) (q : RM), ms[i]? = some p → rms[i]? = some q → p.1 = q.name
  val : ∀ (i : Nat) (p : ByteArray × JV) (q : RM), ms[i]? = some p → rms[i]? = some q → TreeOf w B p.2 q.v
theorem MemsOf.under {w w' : World} {B B' : Nat} {ms : List (ByteArray × JV)} {rms : List RM} (h : MemsOf w B ms rms) (hb : Below B w w') (hB : B ≤ B') : MemsOf w' B' ms rms :=
  ⟨h.len, h.name, fun i p q h1 h2 => (h.val i p q h1 h2).under hb hB⟩
theorem MemsOf.nil (w : World) (B : Nat) : MemsOf w B [] [] := ⟨rfl, fun i p q h => by simp at h, fun i p q h => by simp at h⟩
theorem MemsOf.set {w : World} {B : Nat} {ms : List (ByteArray × JV)} {rms : List RM} (h : MemsOf w B ms rms) (i : Nat) {p : ByteArray × JV} {q : RM} (hn : p.1 = q.name) (ht : TreeOf w B p.2 q.v) : MemsOf w B (ms.set i p) (rms.set i q) := by
  refine ⟨by rw [List.length_set, List.length_set, h.len], fun j a b h1 h2 => ?_, fun j a b h1 h2 => ?_⟩
  · rw [List.getElem?_set] at h1 h2
    split at h1
    · rename_i e
      rw [if_pos e] at h2
      split at h1
      · rw [if_pos (by rw [← h.len]; assumption)] at h2
        cases h1; cases h2; exact hn
      · cases h1
    · rename_i e
      rw [if_neg e] at h2
      exact h.name j a b h1 h2
  · rw [List.getElem?_set] at h1 h2
    split at h1
    · rename_i e
      rw [if_pos e] at h2
      split at h1
      · rw [if_pos (by rw [← h.len]; assumption)] at h2
        cases h1; cases h2; exact ht
      · cases h1
    · rename_i e
      rw [if_neg e] at h2
      exact h.val j a b h1 h2
theorem MemsOf.snoc {w : World} {B : Nat} {ms : List (ByteArray × JV)} {rms : List RM} (h : MemsOf w B ms rms) {p : ByteArray × JV} {q : RM} (hn : p.1 = q.name) (ht : TreeOf w B p.2 q.v) : MemsOf w B (ms ++ [p]) (rms ++ [q]) := by
  have key : ∀ (j : Nat) (a : ByteArray × JV) (b : RM), (ms ++ [p])[j]? = some a → (rms ++ [q])[j]? = some b → (ms[j]? = some a ∧ rms[j]? = some b) ∨ (a = p ∧ b = q) := by
    intro j a b h1 h2
    have hl := h.len
    by_cases hj : j < ms.length
    · rw [List.getElem?_append_left hj] at h1
      rw [List.getElem?_append_left (by omega)] at h2
      exact .inl ⟨h1, h2⟩
    · rw [List.getElem?_append_right (by omega)] at h1 h2
      have : j - ms.length = 0 := by
        have := (List.getElem?_eq_some_iff.1 h1).1
        simp at this; omega
      rw [this] at h1
      rw [← hl, this] at h2
      simp at h1 h2
      exact .inr ⟨h1.symm, h2.symm⟩
  refine ⟨by simp [h.len], fun j a b h1 h2 => ?_, fun j a b h1 h2 => ?_⟩
  · rcases key j a b h1 h2 with ⟨h1, h2⟩ | ⟨rfl, rfl⟩
    · exact h.name j a b h1 h2
    · exact hn
  · rcases key j a b h1 h2 with ⟨h1, h2⟩ | ⟨rfl, rfl⟩
    · exact h.val j a b h1 h2
    · exact ht
theorem TreeOf.mems {w : World} {B : Nat} {t : JV} {r : RV} (h : TreeOf w B t r) : ∃ rms, Rd w B encM 6 (.slice r.pm r.nm r.cm) rms ∧ MemsOf w B t.m rms ∧ t.k = r.k := by
  cases h with
  | mk hl el hcl hm em hcn hcm => exact ⟨_, hm, ⟨em, hcn, hcm⟩, rfl⟩
theorem TreeOf.map {w : World} {B base : Nat} {ms : List (ByteArray × JV)} {rms : List RM} {pm : Option Addr} {nm cm : Nat} (h : Own w base 90 encM 6 (.slice pm nm cm) rms) (hm : MemsOf w B ms rms) (hB : B ≤ w.heap.size) :
    TreeOf w w.heap.size (.mk 6 0 ⟨#[]⟩ [] ms) ⟨6, 0, ⟨#[]⟩, none, 0, 0, pm, nm, cm⟩ :=
  TreeOf.mk (r := ⟨6, 0, ⟨#[]⟩, none, 0, 0, pm, nm, cm⟩) (rs := []) (rms := rms) (Rd.nil _ _) rfl (fun i t q h => by simp at h) (h.rd codecM) hm.len hm.name (fun i p q h1 h2 => (hm.val i p q h1 h2).mono hB)

/-- What a map with a member of a name has. -/
def putM (o : Option Nat) (ms : List (ByteArray × JV)) (name : ByteArray) (x : JV) : List (ByteArray × JV) := match o with
  | some i => ms.set i (name, x)
  | none => ms ++ [(name, x)]
/-- A map is told: its list of members is the call's own. -/
def MapRet (w : World) (B : Nat) (ms : List (ByteArray × JV)) (e : Ending) (w' : World) : Prop :=
  ∃ pm nm cm rms, e = .returned (RV.val ⟨6, 0, ⟨#[]⟩, none, 0, 0, pm, nm, cm⟩) ∧ Own w' w.heap.size 90 encM 6 (.slice pm nm cm) rms ∧ MemsOf w' B ms rms ∧ Below w.heap.size w w'

theorem grownBy_set (W : World) (b o : Nat) (v : Value) : W.grownBy (W.setCell ⟨b, o, none⟩ v) (some b) :=
  ⟨rfl, rfl, rfl, by simp, fun k _ hk => heap_setCell_other W ⟨b, o, none⟩ k v (fun e => hk (by simp [e]))⟩
theorem grownBy_set5 (W : World) (g : Nat) (q : RV) : W.grownBy (((((W.setCell ⟨g, 0, none⟩ (.int .i64 q.k)).setCell ⟨g, 1, none⟩ (.int .i64 q.n)).setCell ⟨g, 2, none⟩ (.string q.s)).setCell ⟨g, 3, none⟩ (.slice q.pl q.nl q.cl)).setCell ⟨g, 4, none⟩ (.slice q.pm q.nm q.cm)) (some g) :=
  ((((grownBy_set W g 0 _).trans (grownBy_set _ g 1 _)).trans (grownBy_set _ g 2 _)).trans (grownBy_set _ g 3 _)).trans (grownBy_set _ g 4 _)
/-- A member's value stored into a list of the call's own. -/
theorem Own.storedV {w : World} {base : Nat} {g n cap : Nat} {xs : List RM} (h : Own w base 90 encM 6 (.slice (some ⟨g, 0, none⟩) n cap) xs) {k : Nat} {x : RM} (hx : xs[k]? = some x) (q : RV) :
    Own (((((w.setCell ⟨g, k * 6 + 1, none⟩ (.int .i64 q.k)).setCell ⟨g, k * 6 + 2, none⟩ (.int .i64 q.n)).setCell ⟨g, k * 6 + 3, none⟩ (.string q.s)).setCell ⟨g, k * 6 + 4, none⟩ (.slice q.pl q.nl q.cl)).setCell ⟨g, k * 6 + 5, none⟩ (.slice q.pm q.nm q.cm)) base 90 encM 6 (.slice (some ⟨g, 0, none⟩) n cap) (xs.set k ⟨x.name, q⟩) ∧
    w.grownBy (((((w.setCell ⟨g, k * 6 + 1, none⟩ (.int .i64 q.k)).setCell ⟨g, k * 6 + 2, none⟩ (.int .i64 q.n)).setCell ⟨g, k * 6 + 3, none⟩ (.string q.s)).setCell ⟨g, k * 6 + 4, none⟩ (.slice q.pl q.nl q.cl)).setCell ⟨g, k * 6 + 5, none⟩ (.slice q.pm q.nm q.cm)) (some g) := by
  have hk := (List.getElem?_eq_some_iff.1 hx).1
  have gs : ∀ (ys : List RM) (y : RM), k < ys.length → (ys.set k y)[k]? = some y := fun ys y hy => by simp [List.getElem?_set, hy]
  have s1 := Own.storedAt codecM h (j := 1) (y := ⟨x.name, { x.v with k := q.k }⟩) (u := .int .i64 q.k) hx (by decide) rfl
  have s2 := Own.storedAt codecM s1.1 (j := 2) (y := ⟨x.name, { x.v with k := q.k, n := q.n }⟩) (u := .int .i64 q.n) (gs _ _ hk) (by decide) rfl
  have s3 := Own.storedAt codecM s2.1 (j := 3) (y := ⟨x.name, { x.v with k := q.k, n := q.n, s := q.s }⟩) (u := .string q.s) (gs _ _ (by simpa using hk)) (by decide) rfl
  have s4 := Own.storedAt codecM s3.1 (j := 4) (y := ⟨x.name, { x.v with k := q.k, n := q.n, s := q.s, pl := q.pl, nl := q.nl, cl := q.cl }⟩) (u := .slice q.pl q.nl q.cl) (gs _ _ (by simpa using hk)) (by decide) rfl
  have s5 := Own.storedAt codecM s4.1 (j := 5) (y := ⟨x.name, q⟩) (u := .slice q.pm q.nm q.cm) (gs _ _ (by simpa using hk)) (by decide) rfl
  simp only [List.set_set] at s5
  exact ⟨s5.1, (((s1.2.trans s2.2).trans s3.2).trans s4.2).trans s5.2⟩

set_option maxRecDepth 100000 in
set_option maxHeartbeats 2000000 in
theorem members_any (t : JV) (r : RV) (w : World) (B : Nat) (hBw : B ≤ w.heap.size) (ht : TreeOf w B t r) (ot : t.Ok) :
    Calls Try.prog 77 #[r.val] w fun e w' => ∃ p n c rms, e = .returned (.slice p n c) ∧ Own w' w.heap.size 90 encM 6 (.slice p n c) rms ∧ MemsOf w' B t.mem rms ∧ Below w.heap.size w w' := by
  obtain ⟨rms, hm, hms, hk⟩ := ht.mems
  obtain ⟨k, n, s, pl, nl, cl, pm, nm, cm⟩ := r
  obtain ⟨tk, tn, ts, tl, tm⟩ := t
  cases ot with
  | mk _ _ _ bl bm okl oks okm =>
  dsimp only [RV.val, JV.k, JV.m] at *
  subst hk
  have hlen : rms.length ≤ 1466015503658 := by have := hms.len; omega
  have HMS := Lib.hid hms
  have hB0 : Below w.heap.size w (w.alloc (.cells #[.int .i64 tk, .int .i64 n, .string s, .slice pl nl cl, .slice pm nm cm] 25)) := (Below.refl _ _).alloc (Nat.le_refl _) _
  have HM := Lib.hid ((hm.below (hB0.mono hBw) (Nat.le_refl _)).mono (Nat.le_trans hBw hB0.size))
  clear hms hm oks okl okm ht
  by_cases h6 : tk = 6
  · subst h6
    have HE : Hid ((JV.mk 6 tn ts tl tm).mem = tm) := rfl
    go_enter Try.func77, Try.ntmps77
    go_wp2_with (go_at_call 76; refine (cloneM_any codecM _ pm nm cm rms HM.out (by omega)).mono ?_; rintro e w1 ⟨p1, c1, rfl, _, ho1, hb1⟩)
    go_ret
    exact ⟨p1, nm, c1, rms, rfl, ho1.mono hB0.size, by rw [HE.out]; exact HMS.out.under ((hB0.trans (hb1.mono hB0.size)).mono hBw) (Nat.le_refl _), hB0.trans (hb1.mono hB0.size)⟩
  · have HE : Hid ((JV.mk tk tn ts tl tm).mem = []) := by show (if tk = 6 then tm else []) = []; rw [if_neg h6]
    have hq : (tk != 6) = true := by simpa using h6
    clear h6
    go_enter Try.func77, Try.ntmps77
    go_wp2_with fail
    go_ret
    exact ⟨none, 0, 0, [], rfl, Own.nil _ _ _, by rw [HE.out]; exact MemsOf.nil _ _, hB0⟩
end Go.Proofs.Ythgkgjcnmahacaa
