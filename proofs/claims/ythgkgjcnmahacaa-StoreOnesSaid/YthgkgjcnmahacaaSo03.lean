import Derived.Test.YthgkgjcnmahacaaSo02
import Derived.OpenShut
import Derived.Test.YthgkgjcnmahacaaProg
import Derived.Test.YthgkgjcnmahacaaSo00
import Derived.WalkSpells
import Derived.Laws.AppendOwnNone
import Derived.Lib.Hide
section
set_option linter.unusedSimpArgs false
set_option linter.unusedVariables false
namespace Go.Proofs.Ythgkgjcnmahacaa
open Go.RowKit Go.OpenShut

/-- What became last of an id. -/
def lastW (l : List En) (id : ByteArray) : Int := l.foldl (fun a e => if e.id = id then e.what else a) 0
theorem lastW_snoc (l : List En) (e : En) (id : ByteArray) : lastW (l ++ [e]) id = if e.id = id then e.what else lastW l id := by simp [lastW]

/-- Is the entry of place k as it must be? -/
def okAt (l : List En) (floor : Int) (k : Nat) : Bool := match l[k]? with
  | some e => e.seq == floor + 1 + k && mayB (lastW (l.take k) e.id) e.what
  | none => true

def headB (n : Nat) (floor seq : Int) : Bool := decide (0 ≤ floor ∧ floor ≤ seq ∧ seq ≤ 9007199254740991 ∧ seq - floor = n)

def rightB (l : List En) (floor seq : Int) : Bool := headB l.length floor seq && (List.range l.length).all (okAt l floor)

theorem rightB_no {l : List En} {floor seq : Int} (h : headB l.length floor seq = false) : rightB l floor seq = false := by simp [rightB, h]
theorem rightB_yes {l : List En} {floor seq : Int} (h : headB l.length floor seq = true) (ha : ∀ k, k < l.length → okAt l floor k = true) : rightB l floor seq = true := by
  simp only [rightB, h, Bool.true_and, List.all_eq_true, List.mem_range]
  exact ha
theorem rightB_bad {l : List En} {floor seq : Int} {k : Nat} (hk : k < l.length) (h : okAt l floor k = false) : rightB l floor seq = false := by
  unfold rightB
  rw [Bool.and_eq_false_iff]
  right
  rw [Bool.eq_false_iff]
  intro ha
  rw [List.all_eq_true] at ha
  have := ha k (by simpa using hk)
  rw [h] at this
  cases this

set_option maxHeartbeats 1000000 in
theorem refRight_head (w : World) (B : Nat) (v : Value) (l : List En) (floor seq : Int) (hv : RdE w B v l) (hf : (Lit.int .i64 floor).wf = true) (hs : (Lit.int .i64 seq).wf = true) (hh : headB l.length floor seq = false) :
    Calls Try.prog 72 #[v, .int .i64 floor, .int .i64 seq] w fun e w' => e = .returned (.bool (rightB l floor seq)) ∧ ∃ n, w' = w.drewN n := by
  rw [rightB_no hh]
  obtain ⟨_, p, c, rfl, hlc, hcm, hp0, hp⟩ := hv
  unfold maxLen at hcm
  have b1 := bounds_i64 hf
  have b2 := bounds_i64 hs
  have hd : 0 ≤ floor → floor ≤ seq → seq ≤ 9007199254740991 → ((seq - floor != (l.length : Int)) = true) := by
    intro h1 h2 h3
    unfold headB at hh
    simp only [decide_eq_false_iff_not] at hh
    rw [bne_iff_ne]
    intro h4
    exact hh ⟨h1, h2, h3, h4⟩
  clear hh hp hp0
  go_enter Try.func72, Try.ntmps72
  go_wp2_with fail
  all_goals (go_ret; exact ⟨rfl, 0, rfl⟩)

theorem okAt_of {l : List En} {floor : Int} {k : Nat} {x : En} (hx : l[k]? = some x) : okAt l floor k = (x.seq == floor + 1 + k && mayB (lastW (l.take k) x.id) x.what) := by simp [okAt, hx]
theorem okAt_bad {l : List En} {floor : Int} {k : Nat} {x : En} (hx : l[k]? = some x) (h : x.seq ≠ floor + 1 + k ∨ x.what < 1 ∨ 3 < x.what) : okAt l floor k = false := by
  rw [okAt_of hx]
  rcases h with h | h | h
  · simp [h]
  · simp [mayB, show ¬ x.what = 1 by omega, show ¬ x.what = 2 by omega, show ¬ x.what = 3 by omega]
  · simp [mayB, show ¬ x.what = 1 by omega, show ¬ x.what = 2 by omega, show ¬ x.what = 3 by omega]
theorem lastW_take {l : List En} {j : Nat} {y : En} (hy : l[j]? = some y) (id : ByteArray) : lastW (l.take (j + 1)) id = if y.id = id then y.what else lastW (l.take j) id := by
  rw [List.take_add_one, hy]
  exact lastW_snoc _ _ _
theorem lastW_wf {l : List En} (h : ∀ e ∈ l, e.ok) (id : ByteArray) : (Lit.int .i64 (lastW l id)).wf = true := by
  suffices ∀ (l : List En) (a : Int), (∀ e ∈ l, e.ok) → (Lit.int .i64 a).wf = true → (Lit.int .i64 (l.foldl (fun a e => if e.id = id then e.what else a) a)).wf = true from this l 0 h (by decide)
  intro l
  induction l with
  | nil => intro a _ ha; exact ha
  | cons e l ih =>
    intro a h ha
    simp only [List.foldl_cons]
    refine ih _ (fun x hx => h x (by simp [hx])) ?_
    split
    · exact (h e (by simp)).2.2
    · exact ha
theorem get_ok {l : List En} {k : Nat} {x : En} (h : ∀ e ∈ l, e.ok) (hx : l[k]? = some x) : x.ok := h x (List.mem_of_getElem? hx)

end Go.Proofs.Ythgkgjcnmahacaa
end

section
set_option linter.unusedSimpArgs false
set_option linter.unusedVariables false
namespace Go.Proofs.Ythgkgjcnmahacaa
open Go.RowKit

/-- What is returned is a slice of the call's own that reads as xs; nothing that was has turned. -/
def OwnRet {α : Type} (w : World) (t : TypeId) (enc : α → List Value) (sz : Nat) (xs : List α) (e : Ending) (w' : World) : Prop :=
  ∃ u, e = .returned u ∧ Own w' w.heap.size t enc sz u xs ∧ Below w.heap.size w w'

theorem infoE : (Try.prog.info? 48).map (fun i => (i.zero, i.size, i.bytes)) = some (some (.agg #[.int .i64 0, .string ByteArray.empty, .int .i64 0]), 3, 32) := by kernel_rfl

set_option maxRecDepth 100000 in
set_option maxHeartbeats 400000 in
theorem cloneE_any {α : Type} {enc : α → List Value} (C : Codec enc 3) (w : World) (v : Value) (xs : List α) (hv : Rd w w.heap.size enc 3 v xs) (hsz : xs.length * 32 ≤ 140737488355328) :
    Calls Try.prog 99 #[v] w (OwnRet w 48 enc 3 xs) := by
  obtain ⟨p, cap, rfl, hlc, hcm, hp0, hp⟩ := hv
  have HS := Lib.hid hsz
  have HC := Lib.hid hcm
  clear hsz hcm
  cases p with
  | none =>
    have h0 : xs.length = 0 := by have := hp0 rfl; omega
    obtain rfl := List.eq_nil_of_length_eq_zero h0
    obtain rfl : cap = 0 := hp0 rfl
    have hnil : ∀ W n, (Go.binOp .eql 33 (.slice none n 0) (.slice none 0 0)).run Try.prog W = .ok (.bool true) W := fun W n => Lib.run_eql_slice_nil W 33 48 none n 0 0 0 Try.underlying33
    clear hp hp0 h0 hlc
    go_enter Try.func99, Try.ntmps99
    go_wp2
    go_ret
    exact ⟨_, rfl, Own.nil w _ _, Below.refl _ _⟩
  | some a =>
    obtain ⟨i0, hi, hz0, hz1, hz2⟩ := info_parts infoE
    have hnil : ∀ W n c, (Go.binOp .eql 33 (.slice (some a) n c) (.slice none 0 0)).run Try.prog W = .ok (.bool false) W := fun W n c => Lib.run_eql_slice_nil W 33 48 (some a) n c 0 0 Try.underlying33
    have hO := World.ownsRow_made (base := w.heap.size) (e := 48) (size := 3) w #[] 0 (Nat.le_refl _) (Nat.zero_le _) rfl
    have hN : ∀ ob j u, (cellsOf enc xs)[j]? = some u → (w.alloc ob).cell? (a.add j) = some u := by
      intro ob j u hu
      by_cases h0 : 0 < xs.length
      · obtain ⟨b, o, rfl, hb, hr⟩ := hp a rfl h0
        exact (hr.below ((Below.refl w.heap.size w).alloc (Nat.le_refl _) ob) hb).news C j u hu
      · have : xs = [] := List.eq_nil_of_length_eq_zero (by omega)
        subst this
        simp [cellsOf] at hu
    clear hp hp0
    have hL := cellsOf_len C xs
    have h1 := cellsOf_one C xs
    have HK : Hid (0 + xs.length ≤ maxLen) := by have := HC.out; unfold Hid; omega
    have HY : Hid ((0 + xs.length) * 32 ≤ 140737488355328) := by have := HS.out; unfold Hid; omega
    go_enter Try.func99, Try.ntmps99
    go_wp2_with (at_builtin; refine wpList_append_own _ rfl _ _ 33 rfl w.heap.size 48 i0 _ 3 32 Try.underlying33 hi hz0 hz1 hz2 rfl (by decide) (.slice (some ⟨w.heap.size, 0, none⟩) 0 0) 0 [] rfl hO a xs.length cap (cellsOf enc xs) rfl hL (hN _) h1 HK.out HY.out (by simp) ?_; intro v1 w1 hown1 hg1 _)
    go_ret
    rw [Nat.zero_add, List.nil_append] at hown1
    exact ⟨v1, rfl, hown1, ((Below.refl w.heap.size w).alloc (Nat.le_refl _) _).grown hg1 (by simp) (fun k e => by cases e; exact Nat.le_refl _)⟩
end Go.Proofs.Ythgkgjcnmahacaa
end
