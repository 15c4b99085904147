import Derived.Test.YtfpgkiajggfadaaProg
import Derived.Test.YtfpgkiajggfadaaRows1
import Derived.WalkSpells
import Derived.Laws.AppendOwnNone
import Derived.Lib.Hide
set_option linter.unusedSimpArgs false
set_option linter.unusedVariables false
namespace Go.Proofs.Ytfpgkiajggfadaa
open Go.RowKit

/-- What is returned is a slice of the call's own that reads as xs; nothing that was has turned. -/
def OwnRet {α : Type} (w : World) (t : TypeId) (enc : α → List Value) (sz : Nat) (xs : List α) (e : Ending) (w' : World) : Prop :=
  ∃ u, e = .returned u ∧ Own w' w.heap.size t enc sz u xs ∧ Below w.heap.size w w'

theorem infoE : (Try.prog.info? 26).map (fun i => (i.zero, i.size, i.bytes)) = some (some (.agg #[.int .i64 0, .string ByteArray.empty, .int .i64 0]), 3, 32) := by kernel_rfl

set_option maxRecDepth 100000 in
set_option maxHeartbeats 400000 in
theorem cloneE_any {α : Type} {enc : α → List Value} (C : Codec enc 3) (w : World) (v : Value) (xs : List α) (hv : Rd w w.heap.size enc 3 v xs) (hsz : xs.length * 32 ≤ 140737488355328) :
    Calls Try.prog 37 #[v] w (OwnRet w 26 enc 3 xs) := by
  obtain ⟨p, cap, rfl, hlc, hcm, hp0, hp⟩ := hv
  have HS := Lib.hid hsz
  have HC := Lib.hid hcm
  clear hsz hcm
  cases p with
  | none =>
    have h0 : xs.length = 0 := by have := hp0 rfl; omega
    obtain rfl := List.eq_nil_of_length_eq_zero h0
    obtain rfl : cap = 0 := hp0 rfl
    have hnil : ∀ W n, (Go.binOp .eql 22 (.slice none n 0) (.slice none 0 0)).run Try.prog W = .ok (.bool true) W := fun W n => Lib.run_eql_slice_nil W 22 26 none n 0 0 0 Try.underlying22
    clear hp hp0 h0 hlc
    go_enter Try.func37, Try.ntmps37
    go_wp2
    go_ret
    exact ⟨_, rfl, Own.nil w _ _, Below.refl _ _⟩
  | some a =>
    obtain ⟨b, o, rfl, hb, hr⟩ := hp a rfl
    obtain ⟨i0, hi, hz0, hz1, hz2⟩ := info_parts infoE
    clear hp hp0
    have HR : ∀ ob, RowAt (w.alloc ob) b o enc 3 xs := fun ob => hr.below ((Below.refl w.heap.size w).alloc (Nat.le_refl _) ob) hb
    clear hr
    have hnil : ∀ W n c, (Go.binOp .eql 22 (.slice (some ⟨b, o, none⟩) n c) (.slice none 0 0)).run Try.prog W = .ok (.bool false) W := fun W n c => Lib.run_eql_slice_nil W 22 26 (some ⟨b, o, none⟩) n c 0 0 Try.underlying22
    have hO := World.ownsRow_made (base := w.heap.size) (e := 26) (size := 3) w #[] 0 (Nat.le_refl _) (Nat.zero_le _) rfl
    have hN : ∀ ob j u, (cellsOf enc xs)[j]? = some u → (w.alloc ob).cell? ((⟨b, o, none⟩ : Addr).add j) = some u := fun ob => (HR ob).news C
    have hL := cellsOf_len C xs
    have h1 := cellsOf_one C xs
    have HK : Hid (0 + xs.length ≤ maxLen) := by have := HC.out; unfold Hid; omega
    have HY : Hid ((0 + xs.length) * 32 ≤ 140737488355328) := by have := HS.out; unfold Hid; omega
    go_enter Try.func37, Try.ntmps37
    go_wp2_with (at_builtin; refine wpList_append_own _ rfl _ _ 22 rfl w.heap.size 26 i0 _ 3 32 Try.underlying22 hi hz0 hz1 hz2 rfl (by decide) (.slice (some ⟨w.heap.size, 0, none⟩) 0 0) 0 [] rfl hO ⟨b, o, none⟩ xs.length cap (cellsOf enc xs) rfl hL (hN _) h1 HK.out HY.out (by simp) ?_; intro v1 w1 hown1 hg1 _)
    go_ret
    rw [Nat.zero_add, List.nil_append] at hown1
    exact ⟨v1, rfl, hown1, ((Below.refl w.heap.size w).alloc (Nat.le_refl _) _).grown hg1 (by simp) (fun k e => by cases e; exact Nat.le_refl _)⟩
end Go.Proofs.Ytfpgkiajggfadaa
