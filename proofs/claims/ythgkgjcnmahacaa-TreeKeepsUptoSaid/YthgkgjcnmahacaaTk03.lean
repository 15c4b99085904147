import Derived.Test.YthgkgjcnmahacaaTk02
section
/- A map with another member; walked. -/
set_option linter.unusedSimpArgs false
set_option linter.unusedVariables false
namespace Go.Proofs.Ythgkgjcnmahacaa
open Go.RowKit Go.OpenShut

/-- Members' cells read as members. -/
structure MemsOf (w : World) (B : Nat) (ms : List (ByteArray × JV)) (rms : List RM) : Prop where
  len : ms.length = rms.length
  name : ∀ (i : Nat) (p : ByteArray × JV) (q : RM), ms[i]? = some p → rms[i]? = some q → p.1 = q.name
  val : ∀ (i : Nat) (p : ByteArray × JV) (q : RM), ms[i]? = some p → rms[i]? = some q → TreeOf w B p.2 q.v
theorem MemsOf.under {w w' : World} {B B' : Nat} {ms : List (ByteArray × JV)} {rms : List RM} (h : MemsOf w B ms rms) (hb : Below B w w') (hB : B ≤ B') : MemsOf w' B' ms rms :=
  ⟨h.len, h.name, fun i p q h1 h2 => (h.val i p q h1 h2).under hb hB⟩
theorem MemsOf.nil (w : World) (B : Nat) : MemsOf w B [] [] := ⟨rfl, fun i p q h => by simp at h, fun i p q h => by simp at h⟩
theorem MemsOf.set {w : World} {B : Nat} {ms : List (ByteArray × JV)} {rms : List RM} (h : MemsOf w B ms rms) (i : Nat) {p : ByteArray × JV} {q : RM} (hn : p.1 = q.name) (ht : TreeOf w B p.2 q.v) : MemsOf w B (ms.set i p) (rms.set i q) := by
  refine ⟨by rw [List.length_set, List.length_set, h.len], fun j a b h1 h2 => ?_, fun j a b h1 h2 => ?_⟩
  · rw [List.getElem?_set] at h1 h2
    split at h1
    · rename_i e
      rw [if_pos e] at h2
      split at h1
      · rw [if_pos (by rw [← h.len]; assumption)] at h2
        cases h1; cases h2; exact hn
      · cases h1
    · rename_i e
      rw [if_neg e] at h2
      exact h.name j a b h1 h2
  · rw [List.getElem?_set] at h1 h2
    split at h1
    · rename_i e
      rw [if_pos e] at h2
      split at h1
      · rw [if_pos (by rw [← h.len]; assumption)] at h2
        cases h1; cases h2; exact ht
      · cases h1
    · rename_i e
      rw [if_neg e] at h2
      exact h.val j a b h1 h2
theorem MemsOf.snoc {w : World} {B : Nat} {ms : List (ByteArray × JV)} {rms : List RM} (h : MemsOf w B ms rms) {p : ByteArray × JV} {q : RM} (hn : p.1 = q.name) (ht : TreeOf w B p.2 q.v) : MemsOf w B (ms ++ [p]) (rms ++ [q]) := by
  have key : ∀ (j : Nat) (a : ByteArray × JV) (b : RM), (ms ++ [p])[j]? = some a → (rms ++ [q])[j]? = some b → (ms[j]? = some a ∧ rms[j]? = some b) ∨ (a = p ∧ b = q) := by
    intro j a b h1 h2
    have hl := h.len
    by_cases hj : j < ms.length
    · rw [List.getElem?_append_left hj] at h1
      rw [List.getElem?_append_left (by omega)] at h2
      exact .inl ⟨h1, h2⟩
    · rw [List.getElem?_append_right (by omega)] at h1 h2
      have : j - ms.length = 0 := by
        have := (List.getElem?_eq_some_iff.1 h1).1
        simp at this; omega
      rw [this] at h1
      rw [← hl, this] at h2
      simp at h1 h2
      exact .inr ⟨h1.symm, h2.symm⟩
  refine ⟨by simp [h.len], fun j a b h1 h2 => ?_, fun j a b h1 h2 => ?_⟩
  · rcases key j a b h1 h2 with ⟨h1, h2⟩ | ⟨rfl, rfl⟩
    · exact h.name j a b h1 h2
    · exact hn
  · rcases key j a b h1 h2 with ⟨h1, h2⟩ | ⟨rfl, rfl⟩
    · exact h.val j a b h1 h2
    · exact ht
theorem TreeOf.mems {w : World} {B : Nat} {t : JV} {r : RV} (h : TreeOf w B t r) : ∃ rms, Rd w B encM 6 (.slice r.pm r.nm r.cm) rms ∧ MemsOf w B t.m rms ∧ t.k = r.k := by
  cases h with
  | mk hl el hcl hm em hcn hcm => exact ⟨_, hm, ⟨em, hcn, hcm⟩, rfl⟩
theorem TreeOf.map {w : World} {B base : Nat} {ms : List (ByteArray × JV)} {rms : List RM} {pm : Option Addr} {nm cm : Nat} (h : Own w base 90 encM 6 (.slice pm nm cm) rms) (hm : MemsOf w B ms rms) (hB : B ≤ w.heap.size) :
    TreeOf w w.heap.size (.mk 6 0 ⟨#[]⟩ [] ms) ⟨6, 0, ⟨#[]⟩, none, 0, 0, pm, nm, cm⟩ :=
  TreeOf.mk (r := ⟨6, 0, ⟨#[]⟩, none, 0, 0, pm, nm, cm⟩) (rs := []) (rms := rms) (Rd.nil _ _) rfl (fun i t q h => by simp at h) (h.rd codecM) hm.len hm.name (fun i p q h1 h2 => (hm.val i p q h1 h2).mono hB)

/-- What a map with a member of a name has. -/
def putM (o : Option Nat) (ms : List (ByteArray × JV)) (name : ByteArray) (x : JV) : List (ByteArray × JV) := match o with
  | some i => ms.set i (name, x)
  | none => ms ++ [(name, x)]
/-- A map is told: its list of members is the call's own. -/
def MapRet (w : World) (B : Nat) (ms : List (ByteArray × JV)) (e : Ending) (w' : World) : Prop :=
  ∃ pm nm cm rms, e = .returned (RV.val ⟨6, 0, ⟨#[]⟩, none, 0, 0, pm, nm, cm⟩) ∧ Own w' w.heap.size 90 encM 6 (.slice pm nm cm) rms ∧ MemsOf w' B ms rms ∧ Below w.heap.size w w'

theorem grownBy_set (W : World) (b o : Nat) (v : Value) : W.grownBy (W.setCell ⟨b, o, none⟩ v) (some b) :=
  ⟨rfl, rfl, rfl, by simp, fun k _ hk => heap_setCell_other W ⟨b, o, none⟩ k v (fun e => hk (by simp [e]))⟩
theorem grownBy_set5 (W : World) (g : Nat) (q : RV) : W.grownBy (((((W.setCell ⟨g, 0, none⟩ (.int .i64 q.k)).setCell ⟨g, 1, none⟩ (.int .i64 q.n)).setCell ⟨g, 2, none⟩ (.string q.s)).setCell ⟨g, 3, none⟩ (.slice q.pl q.nl q.cl)).setCell ⟨g, 4, none⟩ (.slice q.pm q.nm q.cm)) (some g) :=
  ((((grownBy_set W g 0 _).trans (grownBy_set _ g 1 _)).trans (grownBy_set _ g 2 _)).trans (grownBy_set _ g 3 _)).trans (grownBy_set _ g 4 _)
/-- A member's value stored into a list of the call's own. -/
theorem Own.storedV {w : World} {base : Nat} {g n cap : Nat} {xs : List RM} (h : Own w base 90 encM 6 (.slice (some ⟨g, 0, none⟩) n cap) xs) {k : Nat} {x : RM} (hx : xs[k]? = some x) (q : RV) :
    Own (((((w.setCell ⟨g, k * 6 + 1, none⟩ (.int .i64 q.k)).setCell ⟨g, k * 6 + 2, none⟩ (.int .i64 q.n)).setCell ⟨g, k * 6 + 3, none⟩ (.string q.s)).setCell ⟨g, k * 6 + 4, none⟩ (.slice q.pl q.nl q.cl)).setCell ⟨g, k * 6 + 5, none⟩ (.slice q.pm q.nm q.cm)) base 90 encM 6 (.slice (some ⟨g, 0, none⟩) n cap) (xs.set k ⟨x.name, q⟩) ∧
    w.grownBy (((((w.setCell ⟨g, k * 6 + 1, none⟩ (.int .i64 q.k)).setCell ⟨g, k * 6 + 2, none⟩ (.int .i64 q.n)).setCell ⟨g, k * 6 + 3, none⟩ (.string q.s)).setCell ⟨g, k * 6 + 4, none⟩ (.slice q.pl q.nl q.cl)).setCell ⟨g, k * 6 + 5, none⟩ (.slice q.pm q.nm q.cm)) (some g) := by
  have hk := (List.getElem?_eq_some_iff.1 hx).1
  have gs : ∀ (ys : List RM) (y : RM), k < ys.length → (ys.set k y)[k]? = some y := fun ys y hy => by simp [List.getElem?_set, hy]
  have s1 := Own.storedAt codecM h (j := 1) (y := ⟨x.name, { x.v with k := q.k }⟩) (u := .int .i64 q.k) hx (by decide) rfl
  have s2 := Own.storedAt codecM s1.1 (j := 2) (y := ⟨x.name, { x.v with k := q.k, n := q.n }⟩) (u := .int .i64 q.n) (gs _ _ hk) (by decide) rfl
  have s3 := Own.storedAt codecM s2.1 (j := 3) (y := ⟨x.name, { x.v with k := q.k, n := q.n, s := q.s }⟩) (u := .string q.s) (gs _ _ (by simpa using hk)) (by decide) rfl
  have s4 := Own.storedAt codecM s3.1 (j := 4) (y := ⟨x.name, { x.v with k := q.k, n := q.n, s := q.s, pl := q.pl, nl := q.nl, cl := q.cl }⟩) (u := .slice q.pl q.nl q.cl) (gs _ _ (by simpa using hk)) (by decide) rfl
  have s5 := Own.storedAt codecM s4.1 (j := 5) (y := ⟨x.name, q⟩) (u := .slice q.pm q.nm q.cm) (gs _ _ (by simpa using hk)) (by decide) rfl
  simp only [List.set_set] at s5
  exact ⟨s5.1, (((s1.2.trans s2.2).trans s3.2).trans s4.2).trans s5.2⟩

set_option maxRecDepth 100000 in
set_option maxHeartbeats 2000000 in
theorem members_any (t : JV) (r : RV) (w : World) (B : Nat) (hBw : B ≤ w.heap.size) (ht : TreeOf w B t r) (ot : t.Ok) :
    Calls Try.prog 77 #[r.val] w fun e w' => ∃ p n c rms, e = .returned (.slice p n c) ∧ Own w' w.heap.size 90 encM 6 (.slice p n c) rms ∧ MemsOf w' B t.mem rms ∧ Below w.heap.size w w' := by
  obtain ⟨rms, hm, hms, hk⟩ := ht.mems
  obtain ⟨k, n, s, pl, nl, cl, pm, nm, cm⟩ := r
  obtain ⟨tk, tn, ts, tl, tm⟩ := t
  cases ot with
  | mk _ _ _ bl bm okl oks okm =>
  dsimp only [RV.val, JV.k, JV.m] at *
  subst hk
  have hlen : rms.length ≤ 1466015503658 := by have := hms.len; omega
  have HMS := Lib.hid hms
  have hB0 : Below w.heap.size w (w.alloc (.cells #[.int .i64 tk, .int .i64 n, .string s, .slice pl nl cl, .slice pm nm cm] 25)) := (Below.refl _ _).alloc (Nat.le_refl _) _
  have HM := Lib.hid ((hm.below (hB0.mono hBw) (Nat.le_refl _)).mono (Nat.le_trans hBw hB0.size))
  clear hms hm oks okl okm ht
  by_cases h6 : tk = 6
  · subst h6
    have HE : Hid ((JV.mk 6 tn ts tl tm).mem = tm) := rfl
    go_enter Try.func77, Try.ntmps77
    go_wp2_with (go_at_call 76; refine (cloneM_any codecM _ pm nm cm rms HM.out (by omega)).mono ?_; rintro e w1 ⟨p1, c1, rfl, _, ho1, hb1⟩)
    go_ret
    exact ⟨p1, nm, c1, rms, rfl, ho1.mono hB0.size, by rw [HE.out]; exact HMS.out.under ((hB0.trans (hb1.mono hB0.size)).mono hBw) (Nat.le_refl _), hB0.trans (hb1.mono hB0.size)⟩
  · have HE : Hid ((JV.mk tk tn ts tl tm).mem = []) := by show (if tk = 6 then tm else []) = []; rw [if_neg h6]
    have hq : (tk != 6) = true := by simpa using h6
    clear h6
    go_enter Try.func77, Try.ntmps77
    go_wp2_with fail
    go_ret
    exact ⟨none, 0, 0, [], rfl, Own.nil _ _ _, by rw [HE.out]; exact MemsOf.nil _ _, hB0⟩
end Go.Proofs.Ythgkgjcnmahacaa
end

section
/- tree.With, walked. -/
set_option linter.unusedSimpArgs false
set_option linter.unusedVariables false
namespace Go.Proofs.Ythgkgjcnmahacaa
open Go.RowKit Go.OpenShut

theorem place_lt {t : JV} {name : ByteArray} {i : Nat} (h : t.place name = some i) : i < t.mem.length := by
  unfold JV.place at h
  rw [List.findIdx?_eq_some_iff_getElem] at h
  exact h.1

theorem VAt.set4 {W : World} {g : Nat} {r : RV} (h : VAt W g r) (p : Option Addr) (n c : Nat) : VAt (W.setCell ⟨g, 4, none⟩ (.slice p n c)) g { r with pm := p, nm := n, cm := c } := by
  unfold VAt at h ⊢
  simp [World.setCell, Array.getElem?_modify, h]

set_option maxRecDepth 100000 in
set_option maxHeartbeats 2000000 in
theorem with_any (t x : JV) (r q : RV) (name : ByteArray) (w : World) (B : Nat) (hBw : B ≤ w.heap.size) (ht : TreeOf w B t r) (ot : t.Ok) (hx : TreeOf w B x q) (hlen : t.mem.length ≤ 1466015503658) :
    Calls Try.prog 37 #[r.val, .string name, q.val] w (MapRet w B (putM (t.place name) t.mem name x)) := by
  obtain ⟨k, n, s, pl, nl, cl, pm, nm, cm⟩ := r
  obtain ⟨k2, n2, s2, pl2, nl2, cl2, pm2, nm2, cm2⟩ := q
  dsimp only [RV.val] at *
  have HT := Lib.hid ht
  have HO := Lib.hid ot
  have HX := Lib.hid hx
  have HL := Lib.hid hlen
  have hA0 : VAt (((w.alloc (.cells #[.int .i64 k, .int .i64 n, .string s, .slice pl nl cl, .slice pm nm cm] 25)).alloc (.cells #[.int .i64 k2, .int .i64 n2, .string s2, .slice pl2 nl2 cl2, .slice pm2 nm2 cm2] 25)).alloc (.cells #[.int .i64 0, .int .i64 0, .string ⟨#[]⟩, .slice none 0 0, .slice none 0 0] 25)) w.heap.size ⟨k, n, s, pl, nl, cl, pm, nm, cm⟩ := heap_alloc_lt (by simp; omega) (heap_alloc_lt (by simp) (heap_alloc_at rfl))
  have hA1 : VAt (((w.alloc (.cells #[.int .i64 k, .int .i64 n, .string s, .slice pl nl cl, .slice pm nm cm] 25)).alloc (.cells #[.int .i64 k2, .int .i64 n2, .string s2, .slice pl2 nl2 cl2, .slice pm2 nm2 cm2] 25)).alloc (.cells #[.int .i64 0, .int .i64 0, .string ⟨#[]⟩, .slice none 0 0, .slice none 0 0] 25)) (w.heap.size + 1) ⟨k2, n2, s2, pl2, nl2, cl2, pm2, nm2, cm2⟩ := heap_alloc_lt (by simp) (heap_alloc_at (by simp))
  have hA2 : VAt (((w.alloc (.cells #[.int .i64 k, .int .i64 n, .string s, .slice pl nl cl, .slice pm nm cm] 25)).alloc (.cells #[.int .i64 k2, .int .i64 n2, .string s2, .slice pl2 nl2 cl2, .slice pm2 nm2 cm2] 25)).alloc (.cells #[.int .i64 0, .int .i64 0, .string ⟨#[]⟩, .slice none 0 0, .slice none 0 0] 25)) (w.heap.size + 1 + 1) RV.zero := heap_alloc_at (by simp)
  have hB0 := (below2 w (.cells #[.int .i64 k, .int .i64 n, .string s, .slice pl nl cl, .slice pm nm cm] 25) (.cells #[.int .i64 k2, .int .i64 n2, .string s2, .slice pl2 nl2 cl2, .slice pm2 nm2 cm2] 25)).alloc (by simp; omega) (.cells #[.int .i64 0, .int .i64 0, .string ⟨#[]⟩, .slice none 0 0, .slice none 0 0] 25)
  clear ht ot hx hlen
  go_enter Try.func37, Try.ntmps37
  go_upto_region 1 with fail
  obtain ⟨W0, hW0⟩ : ∃ W0, (((w.alloc (.cells #[.int .i64 k, .int .i64 n, .string s, .slice pl nl cl, .slice pm nm cm] 25)).alloc (.cells #[.int .i64 k2, .int .i64 n2, .string s2, .slice pl2 nl2 cl2, .slice pm2 nm2 cm2] 25)).alloc (.cells #[.int .i64 0, .int .i64 0, .string ⟨#[]⟩, .slice none 0 0, .slice none 0 0] 25)) = W0 := ⟨_, rfl⟩
  rw [hW0] at hA0 hA1 hA2 hB0 ⊢
  clear hW0
  have p0 := hA0.cell 0 rfl
  have p1 := hA0.cell 1 rfl
  have p2 := hA0.cell 2 rfl
  have p3 := hA0.cell 3 rfl
  have p4 := hA0.cell 4 rfl
  have hzz : w.heap.size + 1 + 1 < W0.heap.size := hA2.lt
  go_upto_region 2 with (go_at_call 77; refine (members_any t ⟨k, n, s, pl, nl, cl, pm, nm, cm⟩ _ B (Nat.le_trans hBw hB0.size) (HT.out.under (hB0.mono hBw) (Nat.le_refl _)) HO.out).mono ?_; rintro e w1 ⟨pp, pn, pc, rms, rfl, ho1, hms1, hb1⟩)
  have hB1 : Below W0.heap.size W0 (w1.alloc (.cells #[.int .i64 6, .int .i64 0, .string ⟨#[]⟩, .slice none 0 0, .slice pp pn pc] 25)) := hb1.alloc hb1.size _
  have hA3 : VAt (w1.alloc (.cells #[.int .i64 6, .int .i64 0, .string ⟨#[]⟩, .slice none 0 0, .slice pp pn pc] 25)) w1.heap.size ⟨6, 0, ⟨#[]⟩, none, 0, 0, pp, pn, pc⟩ := heap_alloc_at rfl
  have ho2 := ho1.alloc (.cells #[.int .i64 6, .int .i64 0, .string ⟨#[]⟩, .slice none 0 0, .slice pp pn pc] 25)
  have hms2 : MemsOf (w1.alloc (.cells #[.int .i64 6, .int .i64 0, .string ⟨#[]⟩, .slice none 0 0, .slice pp pn pc] 25)) B t.mem rms := hms1.under ((Below.refl _ _).alloc (Nat.le_trans hBw (Nat.le_trans hB0.size hb1.size)) _) (Nat.le_refl _)
  have hp1 : ∀ g, (Value.slice pp pn pc).ownBlock = some g → W0.heap.size ≤ g ∧ g < w1.heap.size := ho1.lt
  obtain ⟨W1, hW1⟩ : ∃ W1, (w1.alloc (.cells #[.int .i64 6, .int .i64 0, .string ⟨#[]⟩, .slice none 0 0, .slice pp pn pc] 25)) = W1 := ⟨_, rfl⟩
  rw [hW1] at hB1 hA3 ho2 hms2 ⊢
  have hz1 : w1.heap.size < W1.heap.size := hA3.lt
  have hz0 : W0.heap.size ≤ w1.heap.size := hb1.size
  clear hW1 ho1 hms1 p0 p1 p2 p3 p4
  have p0 := (hA0.under hB1 (by omega)).cell 0 rfl
  have p1 := (hA0.under hB1 (by omega)).cell 1 rfl
  have p2 := (hA0.under hB1 (by omega)).cell 2 rfl
  have p3 := (hA0.under hB1 (by omega)).cell 3 rfl
  have p4 := (hA0.under hB1 (by omega)).cell 4 rfl
  go_upto_region 3 with (go_at_call 78; refine (place_any t ⟨k, n, s, pl, nl, cl, pm, nm, cm⟩ name _ (HT.out.under ((hB0.trans (hB1.mono hB0.size)).mono hBw) (Nat.le_trans hBw (hB0.trans (hB1.mono hB0.size)).size)) HO.out).mono ?_; rintro e w2 ⟨rfl, hb2⟩)
  clear p0 p1 p2 p3 p4
  have hB2 : Below W0.heap.size W0 w2 := hB1.trans (hb2.mono hB1.size)
  have HA1 := hA1.under hB2 (by omega)
  have HA2 := hA2.under hB2 (by omega)
  have HA3 := hA3.under hb2 hz1
  have ho3 := ho2.below hb2 (Nat.le_refl _)
  have HMS := Lib.hid (hms2.under (hb2.mono (by have := hB0.size; omega)) (Nat.le_refl _))
  have HX2 := Lib.hid (HX.out.under ((hB0.trans (hB2.mono hB0.size)).mono hBw) (Nat.le_refl _))
  clear hms2 ho2 hA0 hA1 hA2 hA3
  have p0 := HA1.cell 0 rfl
  have p1 := HA1.cell 1 rfl
  have p2 := HA1.cell 2 rfl
  have p3 := HA1.cell 3 rfl
  have p4 := HA1.cell 4 rfl
  have m0 := HA3.cell 0 rfl
  have m1 := HA3.cell 1 rfl
  have m2 := HA3.cell 2 rfl
  have m3 := HA3.cell 3 rfl
  have m4 := HA3.cell 4 rfl
  have z0 := HA2.cell 0 rfl
  have z1 := HA2.cell 1 rfl
  have z2 := HA2.cell 2 rfl
  have z3 := HA2.cell 3 rfl
  have z4 := HA2.cell 4 rfl
  dsimp only [RV.zero] at p0 p1 p2 p3 p4 m0 m1 m2 m3 m4 z0 z1 z2 z3 z4
  have y0 := HA2.frozen 0
  have y1 := HA2.frozen 1
  have y2 := HA2.frozen 2
  have y3 := HA2.frozen 3
  have y4 := HA2.frozen 4
  have x4 := HA3.frozen 4
  have HZ := Lib.hid HA2
  have HY := Lib.hid HA3
  clear HA1 HA2 HA3
  generalize hp : t.place name = o
  cases o with
  | some i =>
    have hi := place_lt hp
    have HP := Lib.hid hp
    have hir : i < rms.length := by rw [← HMS.out.len]; exact hi
    obtain ⟨rm, hrm⟩ : ∃ rm, rms[i]? = some rm := ⟨_, List.getElem?_eq_getElem hir⟩
    obtain ⟨g, rfl, hpn, hg1, hg2, hcell, hfr⟩ := Own.at codecM ho3 hrm
    have hn : placeI (some i) = (i : Int) := rfl
    rw [hn]
    have hi0 : (0 : Int) ≤ (i : Int) := Int.natCast_nonneg _
    have hi1 : (i : Int) < (pn : Int) := by omega
    have e1 := hcell 1 _ rfl
    have e2 := hcell 2 _ rfl
    have e3 := hcell 3 _ rfl
    have e4 := hcell 4 _ rfl
    have e5 := hcell 5 _ rfl
    have k1 := hfr (i * 6 + 1)
    have k2' := hfr (i * 6 + 2)
    have k3 := hfr (i * 6 + 3)
    have k4 := hfr (i * 6 + 4)
    have k5 := hfr (i * 6 + 5)
    have HS := Lib.hid (Own.storedV ho3 hrm ⟨k2, n2, s2, pl2, nl2, cl2, pm2, nm2, cm2⟩)
    have hne : rm.name = name := by
      obtain ⟨p, h1, h2⟩ := getM hp
      rw [← h2]
      exact (HMS.out.name i p rm h1 hrm).symm
    have HPUT := Lib.hid (HMS.out.set i (p := (name, x)) (q := ⟨rm.name, ⟨k2, n2, s2, pl2, nl2, cl2, pm2, nm2, cm2⟩⟩) hne.symm HX2.out)
    clear hn hp hcell hfr hpn hrm hne
    go_upto_region 5 with fail
    obtain ⟨w3, hw3⟩ : ∃ w3, ((((w2.setCell ⟨g, i * 6 + 1, none⟩ (.int .i64 k2)).setCell ⟨g, i * 6 + 1 + 1, none⟩ (.int .i64 n2)).setCell ⟨g, i * 6 + 1 + 2, none⟩ (.string s2)).setCell ⟨g, i * 6 + 1 + 3, none⟩ (.slice pl2 nl2 cl2)).setCell ⟨g, i * 6 + 1 + 4, none⟩ (.slice pm2 nm2 cm2) = w3 := ⟨_, rfl⟩
    have ho4 : Own w3 W0.heap.size 90 encM 6 (.slice (some ⟨g, 0, none⟩) pn pc) (rms.set i ⟨rm.name, ⟨k2, n2, s2, pl2, nl2, cl2, pm2, nm2, cm2⟩⟩) := by rw [← hw3]; exact HS.out.1
    have hg4 : w2.grownBy w3 (some g) := by rw [← hw3]; exact HS.out.2
    rw [hw3]
    clear hw3 HS e1 e2 e3 e4 e5 k1 k2' k3 k4 k5
    have hb4 : Below W0.heap.size w2 w3 := (Below.refl _ _).grown hg4 hB2.size (fun j e => by cases e; exact hg1)
    have hg7 : g ≠ w1.heap.size := by have := hp1 g rfl; omega
    have HZ4 : VAt w3 (w.heap.size + 1 + 1) RV.zero := HZ.out.under hb4 (by omega)
    have HY4 : VAt w3 w1.heap.size ⟨6, 0, ⟨#[]⟩, none, 0, 0, some ⟨g, 0, none⟩, pn, pc⟩ := (hg4.block _ (by have := hb2.size; omega) (fun h => hg7 (by cases h; rfl))).trans HY.out
    clear z0 z1 z2 z3 z4 m0 m1 m2 m3 m4 y0 y1 y2 y3 y4
    have m0 := HY4.cell 0 rfl
    have m1 := HY4.cell 1 rfl
    have m2 := HY4.cell 2 rfl
    have m3 := HY4.cell 3 rfl
    have m4 := HY4.cell 4 rfl
    have z0 := HZ4.cell 0 rfl
    have z1 := HZ4.cell 1 rfl
    have z2 := HZ4.cell 2 rfl
    have z3 := HZ4.cell 3 rfl
    have z4 := HZ4.cell 4 rfl
    dsimp only [RV.zero] at m0 m1 m2 m3 m4 z0 z1 z2 z3 z4
    have y0 := HZ4.frozen 0
    have y1 := HZ4.frozen 1
    have y2 := HZ4.frozen 2
    have y3 := HZ4.frozen 3
    have y4 := HZ4.frozen 4
    go_wp2_with fail
    have hB4 : Below w.heap.size w w3 := hB0.trans ((hB2.trans hb4).mono hB0.size)
    refine bodyPost_ret (v := RV.val ⟨6, 0, ⟨#[]⟩, none, 0, 0, some ⟨g, 0, none⟩, pn, pc⟩) (by simp [results, Try.results37, go_sem, z0, z1, z2, z3, z4]) rfl ⟨some ⟨g, 0, none⟩, pn, pc, rms.set i ⟨rm.name, ⟨k2, n2, s2, pl2, nl2, cl2, pm2, nm2, cm2⟩⟩, rfl, ?_, ?_, Below.stored hB4 (by omega) ⟨6, 0, ⟨#[]⟩, none, 0, 0, some ⟨g, 0, none⟩, pn, pc⟩⟩
    · exact (ho4.mono hB0.size).kept (grownBy_set5 w3 (w.heap.size + 1 + 1) ⟨6, 0, ⟨#[]⟩, none, 0, 0, some ⟨g, 0, none⟩, pn, pc⟩) (.inr (by simp [Value.ownBlock]; omega))
    · rw [HP.out]
      exact (HPUT.out.under (hb4.mono (Nat.le_trans hBw hB0.size)) (Nat.le_refl _)).under (Below.stored (Below.refl _ _) (by omega) ⟨6, 0, ⟨#[]⟩, none, 0, 0, some ⟨g, 0, none⟩, pn, pc⟩) (Nat.le_refl _)
  | none =>
    have HP := Lib.hid hp
    have hn : placeI (none : Option Nat) = -1 := rfl
    rw [hn]
    have hrl : rms.length = t.mem.length := HMS.out.len.symm
    have HRL := Lib.hid hrl
    have HW := Lib.hid hB2.size
    clear hn hp hrl
    have hL2 := HL.out
    have hne : ∀ g, (Value.slice pp pn pc).ownBlock = some g → W0.heap.size ≤ g ∧ g < w1.heap.size := hp1
    have HNE := Lib.hid hne
    have HYA : Hid (VAt (w2.alloc (.cells #[.string name, .int .i64 k2, .int .i64 n2, .string s2, .slice pl2 nl2 cl2, .slice pm2 nm2 cm2] 90)) w1.heap.size ⟨6, 0, ⟨#[]⟩, none, 0, 0, pp, pn, pc⟩) := heap_alloc_lt (by have := hb2.size; omega) HY.out
    have HZA : Hid (VAt (w2.alloc (.cells #[.string name, .int .i64 k2, .int .i64 n2, .string s2, .slice pl2 nl2 cl2, .slice pm2 nm2 cm2] 90)) (w.heap.size + 1 + 1) RV.zero) := heap_alloc_lt (by have := hb2.size; omega) HZ.out
    have hz2 := hb2.size
    clear hne hp1
    go_upto_region 7 with (at_builtin; refine wpList_append_rd slM codecM (w2.alloc (.cells #[.string name, .int .i64 k2, .int .i64 n2, .string s2, .slice pl2 nl2 cl2, .slice pm2 nm2 cm2] 90)) rfl (.tmp 25) (.tmp 29) rfl (v := .slice pp pn pc) rfl rfl (ho3.alloc _) (Rd.one (B := w2.heap.size + 1) (x := (⟨name, ⟨k2, n2, s2, pl2, nl2, cl2, pm2, nm2, cm2⟩⟩ : RM)) codecM (heap_alloc_new _ _) rfl (by omega)) (by have := HRL.out; simp; unfold maxLen; omega) (by have := HRL.out; simp; omega) (by have := HW.out; simp; omega) ?_; intro v3 w3 ho4 hg4 hat4; obtain ⟨p3, c3, hv3, hq1, hq2⟩ := ho4.len; rw [List.length_append, List.length_singleton] at hv3; subst hv3; clear hq1 hq2; (have HY3 : VAt w3 w1.heap.size ⟨6, 0, ⟨#[]⟩, none, 0, 0, pp, pn, pc⟩ := (hg4.block _ (by simp; omega) (fun h => by have := (HNE.out _ h.symm).2; omega)).trans HYA.out); (have m4' := HY3.cell 4 rfl); (have x4' := HY3.frozen 4); (have HY4 := Lib.hid (HY3.set4 p3 (rms.length + 1) c3)); clear HY3; go_frame)
    have hBo : Below W0.heap.size w2 w3 := Below.appended ((Below.refl _ _).alloc hB2.size _) hg4 (ho3.alloc _) (by have := HW.out; simp; omega)
    have HZ3 : VAt w3 (w.heap.size + 1 + 1) RV.zero := HZ.out.under hBo (by omega)
    have hlt3 := ho4.lt
    obtain ⟨w4, hw4⟩ : ∃ w4, w3.setCell ⟨w1.heap.size, 4, none⟩ (.slice p3 (rms.length + 1) c3) = w4 := ⟨_, rfl⟩
    have HY4' : VAt w4 w1.heap.size ⟨6, 0, ⟨#[]⟩, none, 0, 0, p3, rms.length + 1, c3⟩ := by rw [← hw4]; exact HY4.out
    have hg5 : w3.grownBy w4 (some w1.heap.size) := by rw [← hw4]; exact grownBy_set _ _ _ _
    rw [hw4]
    clear hw4 HY4 m4' x4'
    have hne5 : ∀ j, (Value.slice p3 (rms.length + 1) c3).ownBlock = some j → j ≠ w1.heap.size := by
      intro j hj e
      subst e
      rcases hat4 with h | h
      · rw [hj] at h
        have := (HNE.out _ h.symm).2
        omega
      · rw [hj] at h
        simp at h
        omega
    have ho5 := ho4.kept hg5 (by
      cases hob : (Value.slice p3 (rms.length + 1) c3).ownBlock with
      | none => exact .inl rfl
      | some j => exact .inr (fun h => hne5 j hob (by injection h)))
    have hB5 : Below W0.heap.size w2 w4 := hBo.grown hg5 (by have := hBo.size; have := HW.out; omega) (fun j e => by cases e; exact hz0)
    have HZ5 : VAt w4 (w.heap.size + 1 + 1) RV.zero := HZ.out.under hB5 (by omega)
    clear z0 z1 z2 z3 z4 m0 m1 m2 m3 m4 y0 y1 y2 y3 y4 p0 p1 p2 p4 x4
    have m0 := HY4'.cell 0 rfl
    have m1 := HY4'.cell 1 rfl
    have m2 := HY4'.cell 2 rfl
    have m3 := HY4'.cell 3 rfl
    have m4 := HY4'.cell 4 rfl
    have z0 := HZ5.cell 0 rfl
    have z1 := HZ5.cell 1 rfl
    have z2 := HZ5.cell 2 rfl
    have z3 := HZ5.cell 3 rfl
    have z4 := HZ5.cell 4 rfl
    dsimp only [RV.zero] at m0 m1 m2 m3 m4 z0 z1 z2 z3 z4
    have y0 := HZ5.frozen 0
    have y1 := HZ5.frozen 1
    have y2 := HZ5.frozen 2
    have y3 := HZ5.frozen 3
    have y4 := HZ5.frozen 4
    have HO5 := Lib.hid ho5
    have HB4 : Hid (Below w.heap.size w w4) := hB0.trans ((hB2.trans hB5).mono hB0.size)
    have HPUT := Lib.hid ((HMS.out.snoc (p := (name, x)) (q := ⟨name, ⟨k2, n2, s2, pl2, nl2, cl2, pm2, nm2, cm2⟩⟩) rfl HX2.out).under (hB5.mono (Nat.le_trans hBw hB0.size)) (Nat.le_refl _))
    clear ho5 ho4 hne5 hg4 hat4 hg5 ho3 hlt3
    go_wp2_with fail
    refine bodyPost_ret (v := RV.val ⟨6, 0, ⟨#[]⟩, none, 0, 0, p3, rms.length + 1, c3⟩) (by simp [results, Try.results37, go_sem, z0, z1, z2, z3, z4]) rfl ⟨p3, rms.length + 1, c3, rms ++ [⟨name, ⟨k2, n2, s2, pl2, nl2, cl2, pm2, nm2, cm2⟩⟩], rfl, ?_, ?_, Below.stored HB4.out (by omega) ⟨6, 0, ⟨#[]⟩, none, 0, 0, p3, rms.length + 1, c3⟩⟩
    · have hlt := HO5.out.lt
      refine (HO5.out.mono hB0.size).kept (grownBy_set5 w4 (w.heap.size + 1 + 1) ⟨6, 0, ⟨#[]⟩, none, 0, 0, p3, rms.length + 1, c3⟩) ?_
      cases hob : (Value.slice p3 (rms.length + 1) c3).ownBlock with
      | none => exact .inl rfl
      | some j =>
        refine .inr (fun h => ?_)
        have := (hlt j hob).1
        injection h with h
        omega
    · rw [HP.out]
      exact HPUT.out.under (Below.stored (Below.refl _ _) (by omega) ⟨6, 0, ⟨#[]⟩, none, 0, 0, p3, rms.length + 1, c3⟩) (Nat.le_refl _)
end Go.Proofs.Ythgkgjcnmahacaa
end

section
/- The law's two members, in either order. -/
set_option linter.unusedSimpArgs false
set_option linter.unusedVariables false
namespace Go.Proofs.Ythgkgjcnmahacaa
open Go.RowKit Go.OpenShut

def numT (n : Int) : JV := .mk 3 n ⟨#[]⟩ [] []
def numR (n : Int) : RV := ⟨3, n, ⟨#[]⟩, none, 0, 0, none, 0, 0⟩
theorem numT_of (w : World) (B : Nat) (n : Int) : TreeOf w B (numT n) (numR n) :=
  TreeOf.mk (r := numR n) (rs := []) (rms := []) (Rd.nil _ _) rfl (fun i t q h => by simp at h) (Rd.nil _ _) rfl (fun i p q h => by simp at h) (fun i p q h => by simp at h)

/-- What the map of the two names holds. -/
def twoF (s : List UInt8) : Option Value := if s = [98] then some (.int .i64 1) else if s = [97] then some (.int .i64 2) else none

set_option maxRecDepth 100000 in
set_option maxHeartbeats 2000000 in
theorem two_any (a b : ByteArray) (na nb : Int) (w : World) (ha : twoF a.data.toList = some (.int .i64 na)) (hb : twoF b.data.toList = some (.int .i64 nb)) (hsa : a.size ≤ maxLen) (hsb : b.size ≤ maxLen) :
    Calls Try.prog 50 #[.string a, .string b] w (MapRet w 0 [(a, numT na), (b, numT nb)]) := by
  have hM0 : MapF ((w.alloc (.cells #[.int .i64 0, .int .i64 0, .string ⟨#[]⟩, .slice none 0 0, .slice none 0 0] 25)).alloc (.map #[] 0)) Try.prog 9 (w.heap.size + 1) 0 (fun _ => none) := by
    have := MapF.made (w.alloc (.cells #[.int .i64 0, .int .i64 0, .string ⟨#[]⟩, .slice none 0 0, .slice none 0 0] 25)) Try.prog 9
    rwa [show (w.alloc (.cells #[.int .i64 0, .int .i64 0, .string ⟨#[]⟩, .slice none 0 0, .slice none 0 0] 25)).heap.size = w.heap.size + 1 by simp] at this
  obtain ⟨w1, hrun1, hM1, hG1⟩ := MapF.store hM0 Try.underlying9 Try.underlying130 (by decide) (s := ⟨#[97]⟩) (by decide) (.int .i64 2)
  obtain ⟨w2, hrun2, hM2, hG2⟩ := MapF.store hM1 Try.underlying9 Try.underlying130 (by decide) (s := ⟨#[98]⟩) (by decide) (.int .i64 1)
  have HM2 : Hid (MapF w2 Try.prog 9 (w.heap.size + 1) 2 twoF) := hM2
  have HG1 := Lib.hid hG1
  have HG2 := Lib.hid hG2
  have HA := Lib.hid ha
  have HB := Lib.hid hb
  have HSA := Lib.hid hsa
  have HSB := Lib.hid hsb
  clear hM0 hM1 hM2 hG1 hG2 ha hb hsa hsb
  go_enter Try.func50, Try.ntmps50
  have hmm := @run_makeMap Try.prog
  go_upto_region 2 with fail
  clear hmm hrun1 hrun2
  have hZ0 : VAt w2 w.heap.size RV.zero := by
    have h0 : VAt ((w.alloc (.cells #[.int .i64 0, .int .i64 0, .string ⟨#[]⟩, .slice none 0 0, .slice none 0 0] 25)).alloc (.map #[] 0)) w.heap.size RV.zero := heap_alloc_lt (by simp) (heap_alloc_at rfl)
    have s1 := HG1.out.size
    simp at s1
    exact (HG2.out.block _ (by omega) (fun e => by simp at e)).trans ((HG1.out.block _ (by simp; omega) (fun e => by simp at e)).trans h0)
  have hB2 : Below w.heap.size w w2 := (((((Below.refl _ _).alloc (Nat.le_refl _) (.cells #[.int .i64 0, .int .i64 0, .string ⟨#[]⟩, .slice none 0 0, .slice none 0 0] 25)).alloc (by simp) (.map #[] 0)).grown HG1.out (by simp; omega) (fun k e => by simp at e; omega)).grown HG2.out (by have := HG1.out.size; simp at this; omega) (fun k e => by simp at e; omega))
  have hsz : w.heap.size < w2.heap.size := hZ0.lt
  have z0 := hZ0.cell 0 rfl
  have z1 := hZ0.cell 1 rfl
  have z2 := hZ0.cell 2 rfl
  have z3 := hZ0.cell 3 rfl
  have z4 := hZ0.cell 4 rfl
  dsimp only [RV.zero] at z0 z1 z2 z3 z4
  have y0 := hZ0.frozen 0
  have y1 := hZ0.frozen 1
  have y2 := hZ0.frozen 2
  have y3 := hZ0.frozen 3
  have y4 := hZ0.frozen 4
  have HB2 := Lib.hid hB2
  have HZ0 := Lib.hid hZ0
  clear hZ0 hB2
  go_wp2_with (first
    | (at_lookup; refine wpList_look_F _ rfl _ _ _ rfl 9 2 Try.underlying9 Try.underlying130 (Try.zeroValue2 _) _ _ twoF rfl HM2.out a rfl HSA.out (v := .int .i64 na) (by rw [HA.out]; rfl) ?_; go_frame)
    | (at_lookup; refine wpList_look_F _ rfl _ _ _ rfl 9 2 Try.underlying9 Try.underlying130 (Try.zeroValue2 _) _ _ twoF rfl HM2.out b rfl HSB.out (v := .int .i64 nb) (by rw [HB.out]; rfl) ?_; go_frame))
  obtain ⟨q, hq⟩ : ∃ q : RV, q = ⟨6, 0, ⟨#[]⟩, none, 0, 0, some ⟨w2.heap.size, 0, none⟩, 2, 2⟩ := ⟨_, rfl⟩
  have hst := HZ0.out.stored ⟨6, 0, ⟨#[]⟩, none, 0, 0, some ⟨w2.heap.size, 0, none⟩, 2, 2⟩
  have hbs := Below.stored HB2.out (Nat.le_refl _) ⟨6, 0, ⟨#[]⟩, none, 0, 0, some ⟨w2.heap.size, 0, none⟩, 2, 2⟩
  have hz5 : (((((w2.setCell ⟨w.heap.size, 0, none⟩ (.int .i64 6)).setCell ⟨w.heap.size, 1, none⟩ (.int .i64 0)).setCell ⟨w.heap.size, 2, none⟩ (.string ⟨#[]⟩)).setCell ⟨w.heap.size, 3, none⟩ (.slice none 0 0)).setCell ⟨w.heap.size, 4, none⟩ (.slice (some ⟨w2.heap.size, 0, none⟩) 2 2)).heap.size = w2.heap.size := by simp
  obtain ⟨W5, hW5⟩ : ∃ W5, ((((w2.setCell ⟨w.heap.size, 0, none⟩ (.int .i64 6)).setCell ⟨w.heap.size, 1, none⟩ (.int .i64 0)).setCell ⟨w.heap.size, 2, none⟩ (.string ⟨#[]⟩)).setCell ⟨w.heap.size, 3, none⟩ (.slice none 0 0)).setCell ⟨w.heap.size, 4, none⟩ (.slice (some ⟨w2.heap.size, 0, none⟩) 2 2) = W5 := ⟨_, rfl⟩
  dsimp only at hst hbs
  rw [hW5] at hst hbs hz5 ⊢
  clear hW5
  have hal := heap_alloc_lt (o := .cells #[.string a, .int .i64 3, .int .i64 na, .string ⟨#[]⟩, .slice none 0 0, .slice none 0 0, .string b, .int .i64 3, .int .i64 nb, .string ⟨#[]⟩, .slice none 0 0, .slice none 0 0] 90) hst.lt hst
  have hal2 : VAt (W5.alloc (.cells #[.string a, .int .i64 3, .int .i64 na, .string ⟨#[]⟩, .slice none 0 0, .slice none 0 0, .string b, .int .i64 3, .int .i64 nb, .string ⟨#[]⟩, .slice none 0 0, .slice none 0 0] 90)) w.heap.size ⟨6, 0, ⟨#[]⟩, none, 0, 0, some ⟨w2.heap.size, 0, none⟩, 2, 2⟩ := hal
  have c0 := hal2.cell 0 rfl
  have c1 := hal2.cell 1 rfl
  have c2 := hal2.cell 2 rfl
  have c3 := hal2.cell 3 rfl
  have c4 := hal2.cell 4 rfl
  dsimp only at c0 c1 c2 c3 c4
  refine bodyPost_ret (v := RV.val ⟨6, 0, ⟨#[]⟩, none, 0, 0, some ⟨w2.heap.size, 0, none⟩, 2, 2⟩) (by simp [results, Try.results50, go_sem, c0, c1, c2, c3, c4]) rfl ⟨some ⟨w2.heap.size, 0, none⟩, 2, 2, [⟨a, numR na⟩, ⟨b, numR nb⟩], rfl, ?_, ⟨rfl, ?_, ?_⟩, hbs.alloc (by omega) _⟩
  · exact Own.block codecM (heap_alloc_at hz5.symm) rfl rfl (by omega) (by simp [maxLen])
  · intro i p q h1 h2
    match i with
    | 0 => cases h1; cases h2; rfl
    | 1 => cases h1; cases h2; rfl
    | i + 2 => simp at h1
  · intro i p q h1 h2
    match i with
    | 0 => cases h1; cases h2; exact numT_of _ _ _
    | 1 => cases h1; cases h2; exact numT_of _ _ _
    | i + 2 => simp at h1
end Go.Proofs.Ythgkgjcnmahacaa
end
