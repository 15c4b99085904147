import Derived.Test.YtanemojiaahbgaaGreatDoorSf13
import Derived.Test.YtanemojiaahbgaaGreatDoorSf21
import Derived.Deep.LoopGhost
import Derived.Test.YtanemojiaahbgaaGreatDoorSf04
section
/- The parts of a text between some bytes: ref12.Split, walked. -/
set_option linter.unusedSimpArgs false
set_option linter.unusedVariables false
namespace Go.Proofs.YtanemojiaahbgaaGreatDoor
open Go Go.RowKit Go.OpenShut

/-- The parts, from a place on, with a part begun. -/
def splitF (s : ByteArray) (c : UInt8) : Nat → Nat → Nat → List ByteArray
  | 0, _, fr => [s.extract fr s.size]
  | f + 1, i, fr => if i < s.size then (if s[i]! = c then s.extract fr i :: splitF s c f (i + 1) (i + 1) else splitF s c f (i + 1) fr) else [s.extract fr s.size]
theorem splitF_end {s : ByteArray} {c : UInt8} {f fr : Nat} : splitF s c f s.size fr = [s.extract fr s.size] := by
  cases f with
  | zero => rfl
  | succ f => unfold splitF; rw [if_neg (by omega)]
def StrsRet (w : World) (l : List ByteArray) (e : Ending) (w' : World) : Prop := ∃ p n c, e = .returned (.slice p n c) ∧ Own w' w.heap.size 9 encS 1 (.slice p n c) l ∧ Below w.heap.size w w'

set_option maxRecDepth 100000 in
set_option maxHeartbeats 4000000 in
theorem split_any (s : ByteArray) (c : UInt8) (w : World) (hs : s.size ≤ 65536) : Calls Tryz.prog 80 #[.string s, .int .u8 (c.toNat : Int)] w (StrsRet w (splitF s c s.size 0 0)) := by
  have c0 : (0 : Int) ≤ ((c.toNat : Nat) : Int) := Int.natCast_nonneg _
  go_enter Tryz.func80, Tryz.ntmps80
  go_wp2_with fail
  go_loopg [5, 6, 7] s.size (fun gk o fr i wr => ∃ (k f : Nat) (l : List ByteArray), gk = s.size - k ∧ k ≤ s.size ∧ f ≤ k ∧ i = .int .i64 (k : Int) ∧ fr = .int .i64 (f : Int) ∧ Hid (Own wr w.heap.size 9 encS 1 o l ∧ l.length ≤ k ∧ splitF s c s.size 0 0 = l ++ splitF s c (s.size - k) k f ∧ Below w.heap.size w wr))
  case atStart => exact ⟨0, 0, [], rfl, Nat.zero_le _, Nat.le_refl _, rfl, rfl, Own.nil _ _ _, Nat.zero_le _, rfl, Below.refl _ _⟩
  case round =>
    obtain ⟨k, f, l, hgk, hk, hf, rfl, rfl, hH⟩ := hrel
    obtain ⟨hO, hlen, hsp, hbr⟩ := hH.out
    clear hH
    obtain ⟨po, no, co, rfl⟩ : ∃ p n c, u5 = Value.slice p n c := by obtain ⟨p, c, hv, _, _⟩ := hO.len; exact ⟨p, _, c, hv⟩
    have HGK := Lib.hid hgk
    have HO := Lib.hid hO
    have HLEN := Lib.hid hlen
    have HSP := Lib.hid hsp
    have HBR := Lib.hid hbr
    have hz := hbr.size
    clear hgk hO hlen hsp hbr
    have k0 : (0 : Int) ≤ (k : Int) := Int.natCast_nonneg _
    have f0 : (0 : Int) ≤ (f : Int) := Int.natCast_nonneg _
    have f1 : (f : Int) ≤ (k : Int) := by omega
    have k2 : (k : Int) ≤ (s.size : Int) := by omega
    by_cases hlt : k < s.size
    · have k1 : (k : Int) < (s.size : Int) := by omega
      have HSZ : Hid (s.size - k = (s.size - (k + 1)) + 1) := by unfold Hid; omega
      have HAT : Hid (s[k]! = s[k]) := by unfold Hid; rw [get_bang s k hlt]
      have HOA := Lib.hid (HO.out.alloc (.cells #[.string (s.extract f k)] 9))
      have HRD : Hid (Rd (wr.alloc (.cells #[.string (s.extract f k)] 9)) (wr.heap.size + 1) encS 1 (.slice (some ⟨wr.heap.size, 0, none⟩) 1 1) [s.extract f k]) := Rd.one codecS (heap_alloc_at rfl) rfl (by omega)
      by_cases hc : s[k] = c
      · have q1 : (((s[k].toNat : Nat) : Int) == ((c.toNat : Nat) : Int)) = true := by rw [hc]; simp
        have q2 : (s[k].toNat == c.toNat) = true := by rw [hc]; simp
        have HC := Lib.hid hc
        clear hc
        go_wp2_with (at_builtin; refine wpList_append_rd slS codecS (wr.alloc (.cells #[.string (s.extract f k)] 9)) rfl (.tmp 19) (.tmp 24) rfl (v := .slice po no co) rfl rfl HOA.out HRD.out (by have := HLEN.out; simp only [List.length_singleton]; unfold maxLen; omega) (by have := HLEN.out; simp only [List.length_singleton]; omega) (by simp; omega) ?_; intro v4 w4 ho4 hg4 hat4)
        go_roundg (s.size - (k + 1))
        case measure => have := HGK.out; omega
        case rel =>
          refine ⟨k + 1, k + 1, l ++ [s.extract f k], rfl, by omega, Nat.le_refl _, by go_num, by go_num, ho4, by have := HLEN.out; simp; omega, ?_, Below.appended (HBR.out.alloc hz _) hg4 HOA.out (by simp; omega)⟩
          rw [HSP.out, HSZ.out]
          conv => lhs; rw [splitF, if_pos hlt, if_pos (by rw [HAT.out, HC.out])]
          simp
      · have hn : s[k].toNat ≠ c.toNat := fun h => hc (UInt8.toNat_inj.1 h)
        have q1 : (((s[k].toNat : Nat) : Int) == ((c.toNat : Nat) : Int)) = false := by simp; omega
        have q2 : (s[k].toNat == c.toNat) = false := by simpa using hn
        have HC := Lib.hid hc
        clear hc hn HRD HOA
        go_wp2_with fail
        go_roundg (s.size - (k + 1))
        case measure => have := HGK.out; omega
        case rel =>
          refine ⟨k + 1, f, l, rfl, by omega, by omega, by go_num, rfl, HO.out, by have := HLEN.out; omega, ?_, HBR.out⟩
          rw [HSP.out, HSZ.out]
          conv => lhs; rw [splitF, if_pos hlt, if_neg (by rw [HAT.out]; exact HC.out)]
    · obtain rfl : k = s.size := by omega
      have HOA := Lib.hid (HO.out.alloc (.cells #[.string (s.extract f s.size)] 9))
      have HRD : Hid (Rd (wr.alloc (.cells #[.string (s.extract f s.size)] 9)) (wr.heap.size + 1) encS 1 (.slice (some ⟨wr.heap.size, 0, none⟩) 1 1) [s.extract f s.size]) := Rd.one codecS (heap_alloc_at rfl) rfl (by omega)
      go_wp2_with (at_builtin; refine wpList_append_rd slS codecS (wr.alloc (.cells #[.string (s.extract f s.size)] 9)) rfl (.tmp 28) (.tmp 32) rfl (v := .slice po no co) rfl rfl HOA.out HRD.out (by have := HLEN.out; simp only [List.length_singleton]; unfold maxLen; omega) (by have := HLEN.out; simp only [List.length_singleton]; omega) (by simp; omega) ?_; intro v4 w4 ho4 hg4 hat4)
      obtain ⟨p4, n4, c4, rfl⟩ : ∃ p n c, v4 = Value.slice p n c := by obtain ⟨p, c, hv, _, _⟩ := ho4.len; exact ⟨p, _, c, hv⟩
      go_ret
      refine ⟨p4, n4, c4, rfl, ?_, Below.appended (HBR.out.alloc hz _) hg4 HOA.out (by simp; omega)⟩
      rw [HSP.out, splitF_end]
      exact ho4
end Go.Proofs.YtanemojiaahbgaaGreatDoor
end

section
/- What is kept below a call's own memory, step by step. -/
set_option linter.unusedSimpArgs false
set_option linter.unusedVariables false
namespace Go.Proofs.YtanemojiaahbgaaGreatDoor
open Go.RowKit Go.OpenShut

theorem KB.setV {W W' : World} (h : KB W.heap.size W W') (g : Nat) (q : RV) (hg : W.heap.size ≤ g) : KB W.heap.size W (((((W'.setCell ⟨g, 0, none⟩ (.int .i64 q.k)).setCell ⟨g, 1, none⟩ (.int .i64 q.n)).setCell ⟨g, 2, none⟩ (.string q.s)).setCell ⟨g, 3, none⟩ (.slice q.pl q.nl q.cl)).setCell ⟨g, 4, none⟩ (.slice q.pm q.nm q.cm)) :=
  KB.mk (Below.stored h.1 hg q)
theorem kt_drew (W : World) : Below W.heap.size W W.drew ∧ ∀ b o, b < W.heap.size → World.cell? W.drew ⟨b, o, none⟩ = W.cell? ⟨b, o, none⟩ := KB.drew W
theorem kt_da (W : World) (x : Obj) : Below W.heap.size W (W.alloc x).drew ∧ ∀ b o, b < W.heap.size → World.cell? (W.alloc x).drew ⟨b, o, none⟩ = W.cell? ⟨b, o, none⟩ := (KB.mk ((Below.refl _ _).alloc (Nat.le_refl _) x).drew : KB W.heap.size W (W.alloc x).drew)
theorem kt_same {W W' : World} (h : KB W.heap.size W W') : Below W.heap.size W W' ∧ ∀ b o, b < W.heap.size → World.cell? W' ⟨b, o, none⟩ = W.cell? ⟨b, o, none⟩ := h
theorem kt_alloc {W W' : World} (h : KB W.heap.size W W') (x : Obj) : Below W.heap.size W (W'.alloc x) ∧ ∀ b o, b < W.heap.size → World.cell? (W'.alloc x) ⟨b, o, none⟩ = W.cell? ⟨b, o, none⟩ := h.step ((Below.refl _ _).alloc (Nat.le_refl _) _)
theorem kt_setV {W W' : World} (h : KB W.heap.size W W') (g : Nat) (q : RV) (hg : W.heap.size ≤ g) : Below W.heap.size W (((((W'.setCell ⟨g, 0, none⟩ (.int .i64 q.k)).setCell ⟨g, 1, none⟩ (.int .i64 q.n)).setCell ⟨g, 2, none⟩ (.string q.s)).setCell ⟨g, 3, none⟩ (.slice q.pl q.nl q.cl)).setCell ⟨g, 4, none⟩ (.slice q.pm q.nm q.cm)) ∧ ∀ b o, b < W.heap.size → World.cell? (((((W'.setCell ⟨g, 0, none⟩ (.int .i64 q.k)).setCell ⟨g, 1, none⟩ (.int .i64 q.n)).setCell ⟨g, 2, none⟩ (.string q.s)).setCell ⟨g, 3, none⟩ (.slice q.pl q.nl q.cl)).setCell ⟨g, 4, none⟩ (.slice q.pm q.nm q.cm)) ⟨b, o, none⟩ = W.cell? ⟨b, o, none⟩ := h.setV g q hg
end Go.Proofs.YtanemojiaahbgaaGreatDoor
end
