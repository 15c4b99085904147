import Derived.Test.YthgkgjcnmahacaaTs12
import Derived.Test.YthgkgjcnmahacaaTs08
import Derived.Test.YthgkgjcnmahacaaTs11
section
/- A value's text, in plain lists; how long it may be; bytes appended, and where they lie then. -/
set_option linter.unusedSimpArgs false
set_option linter.unusedVariables false
namespace Go.Proofs.Ythgkgjcnmahacaa
open Go Go.RowKit Go.OpenShut

mutual
/-- A value's text. -/
def txtT : JV → List UInt8
  | .mk k n s l m => if k = 1 then [110, 117, 108, 108] else if k = 2 then (if n = 1 then [116, 114, 117, 101] else [102, 97, 108, 115, 101]) else if k = 3 then numL n else if k = 4 then quoL s
      else if k = 5 then 91 :: txtL l true ++ [93] else 123 :: txtM m true ++ [125]
def txtL : List JV → Bool → List UInt8
  | [], _ => []
  | t :: l, b => (if b then [] else [44]) ++ txtT t ++ txtL l false
def txtM : List (ByteArray × JV) → Bool → List UInt8
  | [], _ => []
  | (s, t) :: m, b => (if b then [] else [44]) ++ (quoL s ++ (58 :: txtT t)) ++ txtM m false
end
mutual
/-- How many values and letters there are in a value. -/
def bkT : JV → Nat
  | .mk _ _ s l m => 1 + s.size + bkL l + bkM m
def bkL : List JV → Nat
  | [] => 0
  | t :: l => 1 + bkT t + bkL l
def bkM : List (ByteArray × JV) → Nat
  | [] => 0
  | (s, t) :: m => 2 + s.size + bkT t + bkM m
end
theorem quoL_len (s : ByteArray) : (quoL s).length ≤ 6 * s.size + 2 := by
  unfold quoL
  split
  · have := quoM_len s.data.toList
    have := str_len s
    simp
    omega
  · simp
theorem comma_len (b : Bool) : (if b then ([] : List UInt8) else [44]).length ≤ 1 := by cases b <;> simp
mutual
theorem txtT_len : ∀ t : JV, t.Ok → (txtT t).length ≤ 22 * bkT t
  | .mk k n s l m, h => by
    cases h with
    | mk wk wn bs bl bm okl oks okm =>
    rw [bkT, txtT]
    have h1 := numL_len wn
    have h2 := quoL_len s
    have h3 := txtL_len l true (fun x hx => by obtain ⟨i, hi⟩ := List.getElem?_of_mem hx; exact okl i x hi)
    have h4 := txtM_len m true (fun x hx => by obtain ⟨i, hi⟩ := List.getElem?_of_mem hx; exact okm i x hi)
    repeat' split
    all_goals simp
    all_goals omega
theorem txtL_len : ∀ (l : List JV) (b : Bool), (∀ t ∈ l, t.Ok) → (txtL l b).length ≤ 22 * bkL l
  | [], b, _ => by rw [txtL]; simp
  | t :: l, b, h => by
    have h1 := txtT_len t (h t (by simp))
    have h2 := txtL_len l false (fun x hx => h x (List.mem_cons_of_mem _ hx))
    have h3 := comma_len b
    rw [txtL, bkL, List.length_append, List.length_append]
    omega
theorem txtM_len : ∀ (m : List (ByteArray × JV)) (b : Bool), (∀ p ∈ m, p.2.Ok) → (txtM m b).length ≤ 22 * bkM m
  | [], b, _ => by rw [txtM]; simp
  | (s, t) :: m, b, h => by
    have h1 := txtT_len t (h (s, t) (by simp))
    have h2 := txtM_len m false (fun x hx => h x (List.mem_cons_of_mem _ hx))
    have h3 := comma_len b
    have h4 := quoL_len s
    rw [txtM, bkM, List.length_append, List.length_append, List.length_append, List.length_cons]
    omega
end
theorem txtL_snoc (t : JV) : ∀ (l : List JV) (b : Bool), txtL (l ++ [t]) b = txtL l b ++ ((if l.isEmpty && b then [] else [44]) ++ txtT t)
  | [], b => by rw [List.nil_append, txtL, txtL, txtL]; simp
  | x :: l, b => by
    rw [List.cons_append, txtL, txtL_snoc t l false, txtL]
    simp
theorem txtM_snoc (p : ByteArray × JV) : ∀ (m : List (ByteArray × JV)) (b : Bool), txtM (m ++ [p]) b = txtM m b ++ ((if m.isEmpty && b then [] else [44]) ++ (quoL p.1 ++ (58 :: txtT p.2)))
  | [], b => by obtain ⟨s, t⟩ := p; rw [List.nil_append, txtM, txtM, txtM]; simp
  | (s, t) :: m, b => by
    rw [List.cons_append, txtM, txtM_snoc p m false, txtM]
    simp
theorem bkL_take : ∀ (l : List JV) (j : Nat), bkL (l.take j) ≤ bkL l
  | [], j => by simp [bkL]
  | t :: l, 0 => by simp [bkL]
  | t :: l, j + 1 => by rw [List.take_succ_cons, bkL, bkL]; have := bkL_take l j; omega
theorem bkM_take : ∀ (m : List (ByteArray × JV)) (j : Nat), bkM (m.take j) ≤ bkM m
  | [], j => by simp [bkM]
  | (s, t) :: m, 0 => by simp [bkM]
  | (s, t) :: m, j + 1 => by rw [List.take_succ_cons, bkM, bkM]; have := bkM_take m j; omega
theorem bkL_at : ∀ (l : List JV) (j : Nat) (t : JV), l[j]? = some t → bkL (l.take j) + 1 + bkT t ≤ bkL l
  | [], j, t, h => by simp at h
  | x :: l, 0, t, h => by simp at h; subst h; rw [List.take_zero, bkL, bkL]; omega
  | x :: l, j + 1, t, h => by rw [List.take_succ_cons, bkL, bkL]; have := bkL_at l j t (by simpa using h); omega
theorem bkM_at : ∀ (m : List (ByteArray × JV)) (j : Nat) (p : ByteArray × JV), m[j]? = some p → bkM (m.take j) + 2 + p.1.size + bkT p.2 ≤ bkM m
  | [], j, t, h => by simp at h
  | (s, x) :: m, 0, t, h => by simp at h; subst h; rw [List.take_zero, bkM, bkM]; dsimp only; omega
  | (s, x) :: m, j + 1, t, h => by rw [List.take_succ_cons, bkM, bkM]; have := bkM_at m j t (by simpa using h); omega

/-- From v at w, the text L was written: where it lies, and what else turned. -/
structure WrTo (w : World) (base : Nat) (v : Value) (L : List UInt8) (v' : Value) (w' : World) : Prop where
  own : OwnU w' base v' L
  grown : w.grownBy w' v.ownBlock
  row : v'.ownBlock = v.ownBlock ∨ ∀ k, v'.ownBlock = some k → w.heap.size ≤ k
def WrRet (w : World) (base : Nat) (v : Value) (L : List UInt8) (e : Ending) (w' : World) : Prop := ∃ v', e = .returned v' ∧ WrTo w base v L v' w'
section
variable {w w1 w2 : World} {base : Nat} {v v1 v2 : Value} {L L1 L2 : List UInt8}
theorem WrTo.refl (h : OwnU w base v L) : WrTo w base v L v w := ⟨h, World.grownBy.refl _ _, .inl rfl⟩
theorem WrTo.trans (h : WrTo w base v L1 v1 w1) (h' : WrTo w1 base v1 L2 v2 w2) : WrTo w base v L2 v2 w2 := by
  have hs := h.grown.size
  refine ⟨h'.own, ⟨h'.grown.os.trans h.grown.os, h'.grown.tape.trans h.grown.tape, h'.grown.output.trans h.grown.output, Nat.le_trans hs h'.grown.size, fun k hk hr => ?_⟩, ?_⟩
  · refine (h'.grown.block k (by omega) (fun e => ?_)).trans (h.grown.block k hk hr)
    rcases h.row with h1 | h1
    · exact hr (by rw [← h1]; exact e)
    · have := h1 k e.symm; omega
  · rcases h'.row with h1 | h1
    · rw [h1]; exact h.row
    · exact .inr (fun k e => Nat.le_trans hs (h1 k e))
theorem WrTo.alloc (h : WrTo w base v L v1 w1) (o : Obj) : WrTo w base v L v1 (w1.alloc o) :=
  ⟨h.own.alloc o, h.grown.trans (World.grownBy_alloc _ _ _), h.row⟩
theorem WrTo.drew (h : WrTo w base v L v1 w1) : WrTo w base v L v1 w1.drew := ⟨h.own, ⟨h.grown.os, h.grown.tape, h.grown.output, h.grown.size, h.grown.block⟩, h.row⟩
theorem WrTo.below {b : Nat} (h : WrTo w base v L v1 w1) (h0 : ∀ k, v.ownBlock = some k → b ≤ k) (hb : b ≤ w.heap.size) : Below b w w1 := (Below.refl b w).grown h.grown hb h0
theorem WrTo.vat {g : Nat} {r : RV} (h : WrTo w base v L v1 w1) (ha : VAt w g r) (hne : v.ownBlock ≠ some g) : VAt w1 g r := (h.grown.block g ha.lt (fun e => hne e.symm)).trans ha
theorem WrTo.lead (h : WrTo w base v L v1 w1) {w0 : World} (h0 : w0.grownBy w none) (hv : ∀ k, v.ownBlock = some k → k < w0.heap.size) : WrTo w0 base v L v1 w1 := by
  refine ⟨h.own, ⟨h.grown.os.trans h0.os, h.grown.tape.trans h0.tape, h.grown.output.trans h0.output, Nat.le_trans h0.size h.grown.size, fun k hk hr => ?_⟩, ?_⟩
  · exact (h.grown.block k (by have := h0.size; omega) hr).trans (h0.block k hk (fun e => by cases e))
  · rcases h.row with h1 | h1
    · exact .inl h1
    · exact .inr (fun k e => Nat.le_trans h0.size (h1 k e))
end
end Go.Proofs.Ythgkgjcnmahacaa
end

section
/- Right values of one text are one. -/
set_option linter.unusedSimpArgs false
set_option linter.unusedVariables false
namespace Go.Proofs.Ythgkgjcnmahacaa
open Go Go.RowKit

def isDig (c : UInt8) : Bool := decide (48 ≤ c.toNat) && decide (c.toNat ≤ 57)
/-- Does no digit follow? -/
def Term (x : List UInt8) : Prop := ∀ c r, x = c :: r → isDig c = false
theorem dig_of (n : Nat) (h : n < 10) : isDig (UInt8.ofNat (48 + n)) = true := (by decide +kernel : ∀ m : Fin 10, isDig (UInt8.ofNat (48 + m.val)) = true) ⟨n, h⟩
theorem natD_dig (n : Nat) : ∀ c ∈ natD n, isDig c = true := by
  intro c hc
  rw [natD] at hc
  split at hc
  · rename_i h
    simp only [List.mem_singleton] at hc
    rw [hc]
    exact dig_of n h
  · rename_i h
    rcases List.mem_append.1 hc with hc | hc
    · exact natD_dig (n / 10) c hc
    · simp only [List.mem_singleton] at hc
      rw [hc]
      exact dig_of (n % 10) (by omega)
termination_by n
decreasing_by omega
theorem natD_cons (n : Nat) : ∃ c r, natD n = c :: r ∧ isDig c = true := by
  cases h : natD n with
  | nil =>
    rw [natD] at h
    split at h <;> simp at h
  | cons c r => exact ⟨c, r, rfl, natD_dig n c (by rw [h]; simp)⟩
def valD (l : List UInt8) : Nat := l.foldl (fun a c => 10 * a + (c.toNat - 48)) 0
theorem val_of (n : Nat) (h : n < 10) : (UInt8.ofNat (48 + n)).toNat - 48 = n := (by decide +kernel : ∀ m : Fin 10, (UInt8.ofNat (48 + m.val)).toNat - 48 = m.val) ⟨n, h⟩
theorem natD_val (n : Nat) : valD (natD n) = n := by
  rw [natD]
  split
  · rename_i h
    simp only [valD, List.foldl_cons, List.foldl_nil]
    have := val_of n h
    omega
  · have ih := natD_val (n / 10)
    have := val_of (n % 10) (by omega)
    unfold valD at ih ⊢
    rw [List.foldl_append, ih]
    simp only [List.foldl_cons, List.foldl_nil]
    omega
termination_by n
decreasing_by omega
theorem dig_split : ∀ {l l' x y : List UInt8}, (∀ c ∈ l, isDig c = true) → (∀ c ∈ l', isDig c = true) → Term x → Term y → l ++ x = l' ++ y → l = l' ∧ x = y
  | [], [], x, y, _, _, _, _, h => ⟨rfl, h⟩
  | [], c :: l', x, y, _, h2, hx, _, h => by
    have := hx c _ h
    rw [h2 c (by simp)] at this
    cases this
  | c :: l, [], x, y, h1, _, _, hy, h => by
    have := hy c _ h.symm
    rw [h1 c (by simp)] at this
    cases this
  | c :: l, c' :: l', x, y, h1, h2, hx, hy, h => by
    simp only [List.cons_append, List.cons.injEq] at h
    obtain ⟨e1, e2⟩ := h
    have := dig_split (fun z hz => h1 z (List.mem_cons_of_mem _ hz)) (fun z hz => h2 z (List.mem_cons_of_mem _ hz)) hx hy e2
    exact ⟨by rw [e1, this.1], this.2⟩
theorem numL_inj {n n' : Int} {x y : List UInt8} (hx : Term x) (hy : Term y) (h : numL n ++ x = numL n' ++ y) : n = n' ∧ x = y := by
  have key : ∀ {a b : Nat}, natD a ++ x = natD b ++ y → a = b ∧ x = y := fun {a b} h => by
    have := dig_split (natD_dig a) (natD_dig b) hx hy h
    refine ⟨?_, this.2⟩
    rw [← natD_val a, this.1, natD_val]
  unfold numL at h
  by_cases h1 : n < 0 <;> by_cases h2 : n' < 0
  · rw [if_pos h1, if_pos h2] at h
    have := key (by simpa using h)
    exact ⟨by omega, this.2⟩
  · rw [if_pos h1, if_neg h2] at h
    obtain ⟨c, r, e, hc⟩ := natD_cons n'.natAbs
    rw [e] at h
    simp at h
    rw [← h.1] at hc
    exact absurd hc (by decide)
  · rw [if_neg h1, if_pos h2] at h
    obtain ⟨c, r, e, hc⟩ := natD_cons n.natAbs
    rw [e] at h
    simp at h
    rw [h.1] at hc
    exact absurd hc (by decide)
  · rw [if_neg h1, if_neg h2] at h
    have := key (by simpa using h)
    exact ⟨by omega, this.2⟩

def unE (e : Nat) : UInt8 := if e = 98 then 8 else if e = 116 then 9 else if e = 110 then 10 else if e = 102 then 12 else if e = 114 then 13 else UInt8.ofNat e
def unH (c : UInt8) : Nat := if c.toNat < 58 then c.toNat - 48 else c.toNat - 87
/-- The first byte of a text between quotes, and the rest. -/
def dec1 (l : List UInt8) : UInt8 × List UInt8 := if l.head? = some 92 then (if l[1]? = some 117 then (UInt8.ofNat (16 * unH (l.getD 4 0) + unH (l.getD 5 0)), l.drop 6) else (unE (l.getD 1 0).toNat, l.drop 2)) else (l.getD 0 0, l.drop 1)
theorem esc_back (c : UInt8) (h : escN c.toNat ≠ 0) : UInt8.ofNat (escN c.toNat) ≠ 117 ∧ unE (UInt8.ofNat (escN c.toNat)).toNat = c := by
  have := (by decide +kernel : ∀ m : Fin 256, escN m.val ≠ 0 → UInt8.ofNat (escN m.val) ≠ 117 ∧ unE (UInt8.ofNat (escN m.val)).toNat = UInt8.ofNat m.val) ⟨c.toNat, c.toNat_lt⟩ h
  exact ⟨this.1, by rw [this.2]; simp⟩
theorem hex_back (c : UInt8) (h : c.toNat < 32) : UInt8.ofNat (16 * unH (hexD (c.toNat / 16)) + unH (hexD (c.toNat % 16))) = c := by
  have := (by decide +kernel : ∀ m : Fin 32, UInt8.ofNat (16 * unH (hexD (m.val / 16)) + unH (hexD (m.val % 16))) = UInt8.ofNat m.val) ⟨c.toNat, h⟩
  rw [this]
  simp
theorem dec_esc (c : UInt8) (r : List UInt8) : dec1 (escL c ++ r) = (c, r) := by
  unfold escL
  split
  · rename_i h
    obtain ⟨h1, h2⟩ := esc_back c h
    unfold dec1
    rw [if_pos (by simp), if_neg (by simpa using h1)]
    simp only [List.cons_append, List.nil_append, List.getD_cons_succ, List.getD_cons_zero, List.drop_succ_cons, List.drop_zero, h2]
  · split
    · rename_i h
      have h2 := hex_back c h
      unfold dec1
      rw [if_pos (by simp), if_pos (by simp)]
      simp only [List.cons_append, List.nil_append, List.getD_cons_succ, List.getD_cons_zero, List.drop_succ_cons, List.drop_zero, h2]
    · rename_i h h3
      have hc : c ≠ 92 := fun e => h (by rw [e]; decide)
      unfold dec1
      rw [if_neg (by simpa using hc)]
      simp
theorem esc_head (c : UInt8) (r : List UInt8) : ∃ h t, escL c ++ r = h :: t ∧ h ≠ 34 := by
  unfold escL
  split
  · exact ⟨92, _, rfl, by decide⟩
  · split
    · exact ⟨92, _, rfl, by decide⟩
    · rename_i h h3
      exact ⟨c, r, rfl, fun e => h (by rw [e]; decide)⟩
theorem quoM_inj : ∀ (l l' x y : List UInt8), quoM l ++ 34 :: x = quoM l' ++ 34 :: y → l = l' ∧ x = y
  | [], [], x, y, h => by simpa [quoM] using h
  | [], c :: l', x, y, h => by
    obtain ⟨a, t, e, hne⟩ := esc_head c (quoM l' ++ 34 :: y)
    have h2 : (34 : UInt8) :: x = escL c ++ (quoM l' ++ 34 :: y) := by simpa [quoM] using h
    rw [e] at h2
    exact absurd (List.cons.inj h2).1.symm hne
  | c :: l, [], x, y, h => by
    obtain ⟨a, t, e, hne⟩ := esc_head c (quoM l ++ 34 :: x)
    have h2 : escL c ++ (quoM l ++ 34 :: x) = (34 : UInt8) :: y := by simpa [quoM] using h
    rw [e] at h2
    exact absurd (List.cons.inj h2).1 hne
  | c :: l, c' :: l', x, y, h => by
    have h2 : escL c ++ (quoM l ++ 34 :: x) = escL c' ++ (quoM l' ++ 34 :: y) := by simpa [quoM] using h
    have h3 := congrArg dec1 h2
    rw [dec_esc, dec_esc] at h3
    obtain ⟨e1, e2⟩ := Prod.mk.inj h3
    have := quoM_inj l l' x y e2
    exact ⟨by rw [e1, this.1], this.2⟩
theorem quoL_inj {s s' : ByteArray} {x y : List UInt8} (h1 : badF s = s.size) (h2 : badF s' = s'.size) (h : quoL s ++ x = quoL s' ++ y) : s = s' ∧ x = y := by
  unfold quoL at h
  rw [if_pos h1, if_pos h2] at h
  have h3 : quoM s.data.toList ++ 34 :: x = quoM s'.data.toList ++ 34 :: y := by simpa using h
  obtain ⟨e1, e2⟩ := quoM_inj _ _ _ _ h3
  refine ⟨?_, e2⟩
  obtain ⟨⟨a⟩⟩ := s
  obtain ⟨⟨b⟩⟩ := s'
  simp only at e1
  rw [e1]

/-- The kind that a text's first byte tells. -/
def kh (h : UInt8) : Int := if h = 110 then 1 else if h = 116 ∨ h = 102 then 2 else if h = 34 then 4 else if h = 91 then 5 else if h = 123 then 6 else 3
/-- What being right says of a value's own parts. -/
theorem okT_parts {k n : Int} {s : ByteArray} {l : List JV} {m : List (ByteArray × JV)} {d : Nat} (h : okT (.mk k n s l m) d) :
    1 ≤ k ∧ k ≤ 6 ∧ (n = 0 ∨ k = 2 ∨ k = 3) ∧ (s.toList = [] ∨ k = 4) ∧ (l = [] ∨ k = 5) ∧ (m = [] ∨ k = 6) ∧ badF s = s.size ∧ (k = 2 → n = 0 ∨ n = 1) ∧ (∀ p ∈ m, badF p.1 = p.1.size) := by
  have hg := okT_names h
  rw [okT] at h
  obtain ⟨_, h2, _⟩ := h
  unfold rightP bareB at h2
  simp only [Bool.and_eq_true, Bool.or_eq_true, decide_eq_true_eq, beq_iff_eq, bne_iff_ne, List.length_map, List.isEmpty_iff] at h2
  obtain ⟨⟨⟨⟨⟨⟨a1, a2⟩, ⟨⟨a3, a4⟩, a5⟩, a6⟩, a7⟩, a8⟩, _⟩, _⟩ := h2
  refine ⟨a1, a2, by rcases a3 with (h | h) | h <;> simp [h], a4, ?_, ?_, a7, ?_, ?_⟩
  · rcases a5 with h | h
    · exact .inl (List.eq_nil_of_length_eq_zero h)
    · exact .inr h
  · rcases a6 with h | h
    · exact .inl (List.eq_nil_of_length_eq_zero h)
    · exact .inr h
  · intro h
    rcases a8 with h' | h'
    · exact absurd h h'
    · exact h'
  · intro p hp
    unfold goodN at hg
    simp only [Bool.and_eq_true, List.all_eq_true, beq_iff_eq] at hg
    exact hg.1 p.1 (List.mem_map.2 ⟨p, hp, rfl⟩)
theorem dig_facts {c : UInt8} (h : isDig c = true) : kh c = 3 ∧ c ≠ 44 ∧ c ≠ 93 ∧ c ≠ 125 := by
  have := (by decide +kernel : ∀ m : Fin 256, isDig (UInt8.ofNat m.val) = true → kh (UInt8.ofNat m.val) = 3 ∧ UInt8.ofNat m.val ≠ 44 ∧ UInt8.ofNat m.val ≠ 93 ∧ UInt8.ofNat m.val ≠ 125) ⟨c.toNat, c.toNat_lt⟩
  simp only [UInt8.ofNat_toNat] at this
  exact this h
theorem txtT_kind {k n : Int} {s : ByteArray} {l : List JV} {m : List (ByteArray × JV)} {d : Nat} (h : okT (.mk k n s l m) d) : ∃ c r, txtT (.mk k n s l m) = c :: r ∧ kh c = k ∧ c ≠ 44 ∧ c ≠ 93 ∧ c ≠ 125 := by
  obtain ⟨a1, a2, _, _, _, _, a7, _⟩ := okT_parts h
  rw [txtT]
  by_cases h1 : k = 1
  · rw [if_pos h1]; exact ⟨110, _, rfl, by rw [h1]; rfl, by decide, by decide, by decide⟩
  rw [if_neg h1]
  by_cases h2 : k = 2
  · rw [if_pos h2]
    split
    · exact ⟨116, _, rfl, by rw [h2]; rfl, by decide, by decide, by decide⟩
    · exact ⟨102, _, rfl, by rw [h2]; rfl, by decide, by decide, by decide⟩
  rw [if_neg h2]
  by_cases h3 : k = 3
  · rw [if_pos h3]
    unfold numL
    split
    · exact ⟨45, _, rfl, by rw [h3]; rfl, by decide, by decide, by decide⟩
    · obtain ⟨c, r, e, hc⟩ := natD_cons n.natAbs
      have := dig_facts hc
      exact ⟨c, r, by simpa using e, by rw [this.1, h3], this.2⟩
  rw [if_neg h3]
  by_cases h4 : k = 4
  · rw [if_pos h4]
    unfold quoL
    rw [if_pos a7]
    exact ⟨34, _, rfl, by rw [h4]; rfl, by decide, by decide, by decide⟩
  rw [if_neg h4]
  by_cases h5 : k = 5
  · rw [if_pos h5]; exact ⟨91, _, rfl, by rw [h5]; rfl, by decide, by decide, by decide⟩
  · rw [if_neg h5]
    have h6 : k = 6 := by omega
    exact ⟨123, _, rfl, by rw [h6]; rfl, by decide, by decide, by decide⟩
theorem term_cons {c : UInt8} {r : List UInt8} (h : isDig c = false) : Term (c :: r) := by
  intro a b e
  rw [← (List.cons.inj e).1]
  exact h
theorem term_txtL (l : List JV) (x : List UInt8) : Term (txtL l false ++ 93 :: x) := by
  cases l with
  | nil => rw [txtL]; exact term_cons (by decide)
  | cons t l => rw [txtL]; exact term_cons (by decide)
theorem term_txtM (m : List (ByteArray × JV)) (x : List UInt8) : Term (txtM m false ++ 125 :: x) := by
  cases m with
  | nil => rw [txtM]; exact term_cons (by decide)
  | cons t l => obtain ⟨s, t⟩ := t; rw [txtM]; exact term_cons (by decide)
theorem bytes_nil {s : ByteArray} (h : s.toList = []) : s = ⟨#[]⟩ := by
  rw [ByteArray.toList_eq] at h
  obtain ⟨⟨a⟩⟩ := s
  simp at h
  rw [h]
mutual
theorem txtT_inj : ∀ (a b : JV) (d e : Nat) (x y : List UInt8), okT a d → okT b e → Term x → Term y → txtT a ++ x = txtT b ++ y → a = b ∧ x = y
  | .mk k n s l m, .mk k' n' s' l' m', d, e, x, y, h1, h2, hx, hy, h => by
    obtain ⟨c, r, e1, hk1, _⟩ := txtT_kind h1
    obtain ⟨c', r', e2, hk2, _⟩ := txtT_kind h2
    have hcc : c = c' := by rw [e1, e2] at h; exact (List.cons.inj h).1
    have hkk : k = k' := by rw [← hk1, ← hk2, hcc]
    clear e1 e2 hk1 hk2 hcc
    subst hkk
    obtain ⟨p1, p2, p3, p4, p5, p6, p7, p8, p9⟩ := okT_parts h1
    obtain ⟨_, _, q3, q4, q5, q6, q7, q8, q9⟩ := okT_parts h2
    rw [okT] at h1 h2
    obtain ⟨_, _, _, ol1, om1⟩ := h1
    obtain ⟨_, _, _, ol2, om2⟩ := h2
    rw [txtT, txtT] at h
    have hs : k ≠ 4 → s = s' := fun h4 => by rw [bytes_nil (p4.resolve_right h4), bytes_nil (q4.resolve_right h4)]
    have hn : k ≠ 2 → k ≠ 3 → n = n' := fun h2 h3 => by
      rw [p3.resolve_right (fun h => h.elim h2 h3), q3.resolve_right (fun h => h.elim h2 h3)]
    have hl : k ≠ 5 → l = l' := fun h5 => by rw [p5.resolve_right h5, q5.resolve_right h5]
    have hm : k ≠ 6 → m = m' := fun h6 => by rw [p6.resolve_right h6, q6.resolve_right h6]
    by_cases k1 : k = 1
    · rw [if_pos k1, if_pos k1] at h
      rw [hs (by omega), hn (by omega) (by omega), hl (by omega), hm (by omega)]
      exact ⟨rfl, by simpa using h⟩
    rw [if_neg k1, if_neg k1] at h
    by_cases k2 : k = 2
    · rw [if_pos k2, if_pos k2] at h
      rw [hs (by omega), hl (by omega), hm (by omega)]
      rcases p8 k2 with a | a <;> rcases q8 k2 with b | b <;> subst a <;> subst b
      · exact ⟨rfl, by simpa using h⟩
      · simp at h
      · simp at h
      · exact ⟨rfl, by simpa using h⟩
    rw [if_neg k2, if_neg k2] at h
    by_cases k3 : k = 3
    · rw [if_pos k3, if_pos k3] at h
      obtain ⟨a, b⟩ := numL_inj hx hy h
      rw [hs (by omega), a, hl (by omega), hm (by omega)]
      exact ⟨rfl, b⟩
    rw [if_neg k3, if_neg k3] at h
    by_cases k4 : k = 4
    · rw [if_pos k4, if_pos k4] at h
      obtain ⟨a, b⟩ := quoL_inj p7 q7 h
      rw [a, hn (by omega) (by omega), hl (by omega), hm (by omega)]
      exact ⟨rfl, b⟩
    rw [if_neg k4, if_neg k4] at h
    by_cases k5 : k = 5
    · rw [if_pos k5, if_pos k5] at h
      obtain ⟨a, b⟩ := txtL_inj l l' true (d + 1) (e + 1) x y ol1 ol2 (by simpa using h)
      rw [hs (by omega), hn (by omega) (by omega), a, hm (by omega)]
      exact ⟨rfl, b⟩
    · rw [if_neg k5, if_neg k5] at h
      obtain ⟨a, b⟩ := txtM_inj m m' true (d + 1) (e + 1) x y om1 om2 p9 q9 (by simpa using h)
      rw [hs (by omega), hn (by omega) (by omega), a, hl (by omega)]
      exact ⟨rfl, b⟩
theorem txtL_inj : ∀ (l l' : List JV) (f : Bool) (d e : Nat) (x y : List UInt8), okL l d → okL l' e → txtL l f ++ 93 :: x = txtL l' f ++ 93 :: y → l = l' ∧ x = y
  | [], [], f, d, e, x, y, _, _, h => by rw [txtL] at h; exact ⟨rfl, by simpa using h⟩
  | [], t :: l', f, d, e, x, y, _, h2, h => by
    rw [okL] at h2
    obtain ⟨k, n, s, l0, m0⟩ := t
    obtain ⟨c, r, e1, _, _, h93, _⟩ := txtT_kind h2.1
    rw [txtL, txtL, e1] at h
    cases f with
    | true => simp at h; exact absurd h.1.symm h93
    | false => simp at h
  | t :: l, [], f, d, e, x, y, h1, _, h => by
    rw [okL] at h1
    obtain ⟨k, n, s, l0, m0⟩ := t
    obtain ⟨c, r, e1, _, _, h93, _⟩ := txtT_kind h1.1
    rw [txtL, txtL, e1] at h
    cases f with
    | true => simp at h; exact absurd h.1 h93
    | false => simp at h
  | t :: l, t' :: l', f, d, e, x, y, h1, h2, h => by
    rw [okL] at h1 h2
    rw [txtL, txtL] at h
    simp only [List.append_assoc, List.append_cancel_left_eq] at h
    obtain ⟨a, b⟩ := txtT_inj t t' d e _ _ h1.1 h2.1 (term_txtL l x) (term_txtL l' y) h
    obtain ⟨a2, b2⟩ := txtL_inj l l' false d e x y h1.2 h2.2 b
    exact ⟨by rw [a, a2], b2⟩
theorem txtM_inj : ∀ (m m' : List (ByteArray × JV)) (f : Bool) (d e : Nat) (x y : List UInt8), okM m d → okM m' e → (∀ p ∈ m, badF p.1 = p.1.size) → (∀ p ∈ m', badF p.1 = p.1.size) → txtM m f ++ 125 :: x = txtM m' f ++ 125 :: y → m = m' ∧ x = y
  | [], [], f, d, e, x, y, _, _, _, _, h => by rw [txtM] at h; exact ⟨rfl, by simpa using h⟩
  | [], (s, t) :: l', f, d, e, x, y, _, h2, _, g2, h => by
    have hs := g2 (s, t) (by simp)
    dsimp only at hs
    rw [txtM, txtM, quoL, if_pos hs] at h
    cases f <;> simp at h
  | (s, t) :: l, [], f, d, e, x, y, h1, _, g1, _, h => by
    have hs := g1 (s, t) (by simp)
    dsimp only at hs
    rw [txtM, txtM, quoL, if_pos hs] at h
    cases f <;> simp at h
  | (s, t) :: l, (s', t') :: l', f, d, e, x, y, h1, h2, g1, g2, h => by
    rw [okM] at h1 h2
    rw [txtM, txtM] at h
    simp only [List.append_assoc, List.append_cancel_left_eq] at h
    have hs := g1 (s, t) (by simp)
    have hs' := g2 (s', t') (by simp)
    obtain ⟨a0, b0⟩ := quoL_inj hs hs' h
    simp only [List.cons_append, List.cons.injEq, true_and] at b0
    obtain ⟨a, b⟩ := txtT_inj t t' d e _ _ h1.1 h2.1 (term_txtM l x) (term_txtM l' y) b0
    obtain ⟨a2, b2⟩ := txtM_inj l l' false d e x y h1.2 h2.2 (fun p hp => g1 p (List.mem_cons_of_mem _ hp)) (fun p hp => g2 p (List.mem_cons_of_mem _ hp)) b
    have a0 : s = s' := a0
    exact ⟨by rw [a0, a, a2], b2⟩
end
end Go.Proofs.Ythgkgjcnmahacaa
end

section
/- emit.quote: a text between quotes, appended. -/
set_option linter.unusedSimpArgs false
set_option linter.unusedVariables false
namespace Go.Proofs.Ythgkgjcnmahacaa
open Go Go.RowKit Go.OpenShut

set_option maxRecDepth 100000 in
theorem run_append_str3 (w : World) (ty : TypeId) {base : Nat} {v : Value} {l : List UInt8} (hown : OwnU w base v l) (s : ByteArray) (hlen : l.length + s.size ≤ 140737488355328) (hbase : base ≤ w.heap.size) :
    ∃ v' w', (Builtin.append_ #[112, 9] ty #[v, .string s]).run Try.prog w = .ok v' w' ∧ WrTo w base v (l ++ s.data.toList) v' w' := by
  obtain ⟨i, hi, hz, hs1, hby⟩ := info_parts infoU
  have hO : w.ownsRow base 5 1 v l.length (cellsOf encU l) := hown
  have hxl : (cellsOf encU l).length = l.length := by simpa using hO.1
  obtain ⟨v', w', hr, h2, h3, h4⟩ := Lib.run_append_own_string (P := Try.prog) w base 112 9 ty 5 i Try.underlying112 Try.underlying9 hi hz hs1 hby v l.length (cellsOf encU l) hO s (by unfold maxLen; omega) hlen hbase
  refine ⟨v', w', hr, ?_, h3, ?_⟩
  · unfold OwnU Own
    rw [cellsOf_append, List.length_append, str_len, ← cells_str]
    exact h2
  · rcases hO.2 with ⟨rfl, hn⟩ | ⟨g, cap, cur, rfl, hbg, hg, hnc, hcm, hcs, htake⟩
    · by_cases hm : s.size = 0
      · left
        rw [h4.2 ⟨rfl, hm⟩]
      · right
        have hr2 := run_append_nil_string (P := Try.prog) w 112 9 ty 5 i (.int .u8 0) Try.underlying112 Try.underlying9 hi hz s (by omega) (by omega) (by rw [hby]; omega)
        rw [hr2] at hr
        injection hr with e1 e2
        intro k hk
        rw [← e1] at hk
        simp [Value.ownBlock] at hk
        omega
    · by_cases hroom : l.length + s.size ≤ cap
      · left
        have hr2 := Lib.run_append_room_string (P := Try.prog) w 112 9 ty 5 i Try.underlying112 Try.underlying9 hi hs1 g l.length cap cur hg s hroom (by omega)
        rw [hr2] at hr
        injection hr with e1 e2
        rw [← e1]
        rfl
      · right
        have holds : ∀ j u, (cellsOf encU l)[j]? = some u → w.cell? ((⟨g, 0, none⟩ : Addr).add j) = some u := hO.cells (g := g) rfl
        have hr2 := Lib.run_append_grow_string (P := Try.prog) w 112 9 ty 5 i (.int .u8 0) Try.underlying112 Try.underlying9 hi hz ⟨g, 0, none⟩ l.length cap (cellsOf encU l) (by rw [hs1]; omega) holds s (by omega) (by omega) (by rw [hby]; exact growslice_fits (by omega) (by omega))
        rw [hr2] at hr
        injection hr with e1 e2
        intro k hk
        rw [← e1] at hk
        simp [Value.ownBlock] at hk
        omega
theorem wp_append_str3 {o : Oper} {a : Act} {K : Act → World → Prop} {Q : Exit → Act → World → Prop} (w : World) (s x : Operand)
    (ho : o.op = .call { callee := .builtin .append, args := #[s, x], argTypes := #[112, 9] }) {base : Nat} {v : Value} {l : List UInt8} {t : ByteArray} (hs : a.eval s = v) (hx : a.eval x = .string t) (hown : OwnU w base v l)
    (hlen : l.length + t.size ≤ 140737488355328) (hbase : base ≤ w.heap.size)
    (h : ∀ v' w', WrTo w base v (l ++ t.data.toList) v' w' → K (a.put o.dst v') w') : o.wp Try.prog a w K Q := by
  obtain ⟨v', w', hr, h2⟩ := run_append_str3 w o.type hown t hlen hbase
  unfold Oper.wp execOp
  simp only [ho, resolve, invoke, builtin, Sem.run_bind, Sem.run_pure, Result.andThen_ok, List.map_toArray, List.map_cons, List.map_nil, hs, hx, hr]
  exact h v' w' h2
theorem wpList_append_str3 {ops : Array Oper} {rest : List Oper} {o : Oper} {a : Act} {Q : Exit → Act → World → Prop} (w : World) (hgd : o.guard = none) (s x : Operand)
    (ho : o.op = .call { callee := .builtin .append, args := #[s, x], argTypes := #[112, 9] }) {base : Nat} {v : Value} {l : List UInt8} {t : ByteArray} (hs : a.eval s = v) (hx : a.eval x = .string t) (hown : OwnU w base v l)
    (hlen : l.length + t.size ≤ 140737488355328) (hbase : base ≤ w.heap.size)
    (h : ∀ v' w', WrTo w base v (l ++ t.data.toList) v' w' → wpList Try.prog ops Q rest (a.put o.dst v') w') : wpList Try.prog ops Q (o :: rest) a w :=
  wpList_plain hgd fun _ hK => wp_append_str3 w s x ho hs hx hown hlen hbase fun v' w' h2 => hK _ _ (h v' w' h2)
/-- One byte just laid, appended. -/
theorem wrTo_byte {w w1 : World} {base : Nat} {v v1 : Value} {l L : List UInt8} {o : Obj} (h : OwnU w1 base v1 L) (hg : (w.alloc o).grownBy w1 v.ownBlock) (hat : v1.ownBlock = v.ownBlock ∨ v1.ownBlock = some (w.alloc o).heap.size) (hv : OwnU w base v l) : WrTo w base v L v1 w1 := by
  refine ⟨h, (World.grownBy_alloc w o _).trans hg, ?_⟩
  rcases hat with h1 | h1
  · exact .inl h1
  · refine .inr (fun k e => ?_)
    rw [h1] at e
    cases e
    simp
theorem rd_byte (w : World) (c : UInt8) (n : Int) (hn : n = (c.toNat : Int)) : Rd (w.alloc (.cells #[.int .u8 n] 5)) (w.heap.size + 1) encU 1 (.slice (some ⟨w.heap.size, 0, none⟩) 1 1) [c] := by
  subst hn
  exact Rd.one codecU (heap_alloc_at rfl) rfl (by omega)

theorem wpList_append_b {ops : Array Oper} {rest : List Oper} {o : Oper} {a : Act} {Q : Exit → Act → World → Prop} (W : World) (hgd : o.guard = none) (s x : Operand)
    (ho : o.op = .call { callee := .builtin .append, args := #[s, x], argTypes := #[112, 112] }) {base : Nat} {v : Value} {l : List UInt8} (c : UInt8) {n : Int} (hs : a.eval s = v) (hx : a.eval x = .slice (some ⟨W.heap.size, 0, none⟩) 1 1) (hown : OwnU W base v l)
    (hn : n = (c.toNat : Int)) (hlen : l.length + 1 ≤ 140737488355328) (hbase : base ≤ W.heap.size)
    (h : ∀ v' w', WrTo W base v (l ++ [c]) v' w' → wpList Try.prog ops Q rest (a.put o.dst v') w') : wpList Try.prog ops Q (o :: rest) a (W.alloc (.cells #[.int .u8 n] 5)) :=
  wpList_append_rd slU codecU _ hgd s x ho hs hx (hown.alloc _) (rd_byte W c n hn) (by unfold maxLen; simp only [List.length_singleton]; omega) (by simp only [List.length_singleton]; omega) (by simp; omega)
    fun v' w' h1 h2 h3 => h v' w' (wrTo_byte h1 h2 h3 hown)
theorem toB_list (l : List UInt8) : (toB l).data.toList = l := by simp [toB]
set_option maxRecDepth 100000 in
theorem emitQuote_any (v : Value) (l : List UInt8) (s : ByteArray) (w : World) (base : Nat) (hown : OwnU w base v l) (hbase : base ≤ w.heap.size) (hs : s.size ≤ 1048576) (hl : l.length ≤ 1099511627776) :
    Calls Try.prog 105 #[v, .string s] w (WrRet w base v (l ++ quoL s)) := by
  have HC := Lib.hid (quote_any s w (by omega))
  have HO := Lib.hid hown
  have hlq : l.length + (toB (quoL s)).size ≤ 140737488355328 := by rw [toB_size]; have := quoL_len s; omega
  clear hown
  go_enter Try.func105, Try.ntmps105
  go_upto_region 2 with (go_at_call 121; refine HC.out.mono ?_; rintro e w1 ⟨rfl, hb1⟩)
  have hz := hb1.size
  have hO1 := HO.out.below hb1 (Nat.le_refl _)
  go_wp2_with (at_builtin; refine wpList_append_str3 _ rfl _ _ rfl rfl rfl hO1 hlq (by omega) ?_; intro v1 w2 h2)
  go_ret
  rw [toB_list] at h2
  exact ⟨v1, rfl, h2.lead ⟨hb1.os, hb1.tape, hb1.output, hb1.size, fun k hk _ => hb1.block k hk⟩ (fun k e => (HO.out.lt k e).2)⟩
end Go.Proofs.Ythgkgjcnmahacaa
end
