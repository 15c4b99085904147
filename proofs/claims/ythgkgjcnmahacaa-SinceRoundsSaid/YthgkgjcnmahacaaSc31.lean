import Derived.Test.YthgkgjcnmahacaaSc30
import Derived.Test.YthgkgjcnmahacaaSc13
import Derived.Test.YthgkgjcnmahacaaSc02
import Derived.Test.YthgkgjcnmahacaaSc12
import Derived.Deep.RegionHeld3
import Derived.Deep.QuietTactic
import Derived.BigQuiet
section
/- The first place at which no point stands, walked. -/
set_option linter.unusedSimpArgs false
set_option linter.unusedVariables false
namespace Go.Proofs.Ythgkgjcnmahacaa
open Go Go.RowKit

/-- Where reading points from a place on ends. -/
def badU (s : ByteArray) : Nat → Nat → Nat
  | 0, a => a
  | f + 1, a => if a < s.size ∧ (oneU s a).2 ≠ 0 then badU s f (a + (oneU s a).2) else a
def badF (s : ByteArray) : Nat := badU s s.size 0
theorem badU_le (s : ByteArray) : ∀ f a, a ≤ s.size → badU s f a ≤ s.size
  | 0, a, h => h
  | f + 1, a, h => by
    unfold badU
    split
    · exact badU_le s f _ (oneU_le s a h).1
    · exact h
theorem badF_le (s : ByteArray) : badF s ≤ s.size := badU_le s _ _ (Nat.zero_le _)
theorem badU_yes {s : ByteArray} {f a n : Nat} {p : Int} (ha : a < s.size) (ho : oneU s a = (p, n)) (hn : n ≠ 0) : badU s (f + 1) a = badU s f (a + n) := by
  rw [badU, if_pos ⟨ha, by rw [ho]; exact hn⟩, ho]
theorem badU_no {s : ByteArray} {f a : Nat} {p : Int} (ho : oneU s a = (p, 0)) : badU s f a = a := by
  cases f with
  | zero => rfl
  | succ f => rw [badU, if_neg (by rw [ho]; simp)]
theorem badU_end {s : ByteArray} {f : Nat} : badU s f s.size = s.size := by
  cases f with
  | zero => rfl
  | succ f => rw [badU, if_neg (by simp)]
theorem ret_int1 {k : IntKind} {a b : Int} (h : a = b) : Ending.returned (.int k a) = .returned (.int k b) := by rw [h]

set_option maxRecDepth 100000 in
set_option maxHeartbeats 2000000 in
theorem bad_any (s : ByteArray) (w : World) (hs : s.size ≤ maxLen) :
    Calls Try.prog 111 #[.string s] w fun e w' => e = .returned (.int .i64 (badF s : Nat)) ∧ w = w' := by
  have HS := Lib.hid hs
  unfold maxLen at hs
  go_enter Try.func111, Try.ntmps111
  go_wp2_with fail
  go_loop [3] (fun av => ∃ (a f : Nat), a ≤ s.size ∧ s.size ≤ a + f ∧ av = .int .i64 a ∧ Hid (badU s f a = badF s)) (fun av => s.size - (intOf av).toNat)
  case atStart => exact ⟨0, s.size, Nat.zero_le _, by omega, rfl, rfl⟩
  case round =>
    obtain ⟨a, f, ha, hf, rfl, hb⟩ := hrel
    by_cases hlt : a < s.size
    · have HC : Hid (∀ w : World, Calls Try.prog 133 #[.string s, .int .i64 a] w fun e w' => e = .returned (.tuple #[.int .i32 (oneU s a).1, .int .i64 (oneU s a).2]) ∧ w = w') := fun w => one_any s a w HS.out hlt
      have hle := oneU_le s a ha
      obtain ⟨f, rfl⟩ : ∃ f', f = f' + 1 := ⟨f - 1, by omega⟩
      unfold Hid at HC
      generalize ho : oneU s a = o at HC hle
      obtain ⟨p, n⟩ := o
      dsimp only at HC hle
      have HC := Lib.hid HC
      by_cases h0 : n = 0
      · subst h0
        have HR : Hid (a = badF s) := by have h := hb.out; rw [badU_no ho] at h; exact h
        clear ho
        go_wp2_with (go_at_call 133; refine (HC.out _).mono ?_; rintro e w' ⟨rfl, rfl⟩)
        go_ret
        exact ⟨ret_int1 (by rw [← HR.out]), rfl⟩
      · have HR : Hid (badU s f (a + n) = badF s) := by have h := hb.out; rw [badU_yes hlt ho h0] at h; exact h
        have q0 : ((n : Int) == 0) = false := by simp; omega
        clear ho
        go_wp2_with (go_at_call 133; refine (HC.out _).mono ?_; rintro e w' ⟨rfl, rfl⟩)
        exact ⟨⟨a + n, f, hle.1, by omega, by go_num, HR⟩, by simp [intOf]; omega⟩
    · obtain rfl : a = s.size := by omega
      have HR : Hid (s.size = badF s) := by have h := hb.out; rw [badU_end] at h; exact h
      go_wp2_with fail
      go_ret
      exact ⟨ret_int1 (by rw [← HR.out]), rfl⟩
end Go.Proofs.Ythgkgjcnmahacaa
end

section
/- Whether names are right and no two are the same, walked. -/
set_option linter.unusedSimpArgs false
set_option linter.unusedVariables false
namespace Go.Proofs.Ythgkgjcnmahacaa
open Go.RowKit Go.OpenShut

/-- Each name is right, no two are the same. -/
def goodN (l : List ByteArray) : Bool := l.all (fun n => badF n == n.size) && decide l.Nodup
def nameF (l : List ByteArray) (u : List UInt8) : Option Value := if u ∈ l.map (·.data.toList) then some (.bool true) else none
theorem nameF_snoc (l : List ByteArray) (n : ByteArray) : nameF (l ++ [n]) = fun u => if u = n.data.toList then some (.bool true) else nameF l u := by
  funext u
  unfold nameF
  rw [List.map_append, List.map_singleton]
  by_cases h : u = n.data.toList <;> simp [h]
theorem mem_bytes (l : List ByteArray) (n : ByteArray) : n.data.toList ∈ l.map (·.data.toList) ↔ n ∈ l := by
  rw [List.mem_map]
  constructor
  · rintro ⟨a, ha, h⟩
    obtain rfl : a = n := by
      have := Array.ext' h
      cases a; cases n; simp_all
    exact ha
  · exact fun h => ⟨n, h, rfl⟩
theorem goodN_snoc (l : List ByteArray) (n : ByteArray) : goodN (l ++ [n]) = true ↔ goodN l = true ∧ badF n = n.size ∧ n ∉ l := by
  unfold goodN
  simp only [List.all_append, List.all_cons, List.all_nil, Bool.and_true, Bool.and_eq_true, decide_eq_true_eq, List.nodup_append, List.nodup_cons, List.mem_singleton, List.not_mem_nil, not_false_eq_true, List.nodup_nil, and_true, true_and, beq_iff_eq]
  constructor
  · rintro ⟨⟨a, b⟩, c, d⟩
    exact ⟨⟨a, c⟩, b, fun h => d n h n rfl rfl⟩
  · rintro ⟨⟨a, c⟩, b, d⟩
    exact ⟨⟨a, b⟩, c, fun x hx y hy => by subst hy; exact fun e => d (e ▸ hx)⟩
theorem goodN_left (a b : List ByteArray) (h : goodN a = false) : goodN (a ++ b) = false := by
  cases e : goodN (a ++ b) with
  | false => rfl
  | true =>
    unfold goodN at e h
    rw [List.all_append, Bool.and_eq_true, Bool.and_eq_true, decide_eq_true_eq, List.nodup_append] at e
    rw [e.1.1, decide_eq_true e.2.1] at h
    cases h
theorem take_split {α : Type} {l : List α} {k : Nat} {x : α} (h : l[k]? = some x) : l.take (k + 1) = l.take k ++ [x] := by
  rw [List.take_add_one, h]; rfl

set_option maxRecDepth 100000 in
set_option maxHeartbeats 2000000 in
theorem names_any (p : Option Addr) (n c : Nat) (rms : List RM) (w : World) (hm : Rd w w.heap.size encM 6 (.slice p n c) rms) (hs : ∀ (i : Nat) q, rms[i]? = some q → q.name.size ≤ maxLen) (hn : n ≤ 1466015503658) :
    Calls Try.prog 112 #[.slice p n c] w fun e w' => e = .returned (.bool (goodN (rms.map (·.name)))) ∧ Below w.heap.size w w' := by
  have eM := rd_nlen hm
  have HM := Lib.hid hm
  have HZ := Lib.hid hs
  have E2 := Lib.hid eM
  have hM0 : Hid (MapF (w.alloc (.map #[] 0)) Try.prog 9 w.heap.size 0 (nameF [])) := MapF.made w Try.prog 9
  have hB0 : Below w.heap.size w (w.alloc (.map #[] 0)) := (Below.refl _ _).alloc (Nat.le_refl _) _
  clear hm hs eM
  go_enter Try.func112, Try.ntmps112
  have hmm := @run_makeMap Try.prog
  go_upto_region 2 with fail
  clear hmm
  obtain ⟨W0, hW0⟩ : ∃ W, w.alloc (.map #[] 0) = W := ⟨_, rfl⟩
  rw [hW0] at hM0 hB0 ⊢
  clear hW0
  go_wp2_with fail
  go_loopw [9] (fun i wr => ∃ k : Nat, k ≤ n ∧ i = .int .i64 k ∧ Hid (MapF wr Try.prog 9 w.heap.size k (nameF ((rms.take k).map (·.name)))) ∧ Hid (goodN ((rms.take k).map (·.name)) = true) ∧ Below w.heap.size w wr) (fun i _ => n - (intOf i).toNat)
  case atStart => exact ⟨0, Nat.zero_le _, rfl, hM0, rfl, hB0⟩
  case round =>
    obtain ⟨k, hk, rfl, hMF, hgd, hbr⟩ := hrel
    by_cases hlt : k < n
    · obtain ⟨x, hx⟩ : ∃ x, rms[k]? = some x := ⟨_, List.getElem?_eq_getElem (by have := E2.out; omega)⟩
      obtain ⟨b1, o1, rfl, hb1, hc1⟩ := rd_at' (HM.out.below hbr (Nat.le_refl _)) hx
      have f0 := hc1 0 _ rfl
      have f1 := hc1 1 _ rfl
      have f2 := hc1 2 _ rfl
      have f3 := hc1 3 _ rfl
      have f4 := hc1 4 _ rfl
      have f5 := hc1 5 _ rfl
      rw [Nat.add_zero] at f0
      have HX := Lib.hid hx
      have hzx := HZ.out k x hx
      have hz := hbr.size
      have HBR : Hid (Below w.heap.size w (wr.alloc (.cells #[.string x.name, .int .i64 x.v.k, .int .i64 x.v.n, .string x.v.s, .slice x.v.pl x.v.nl x.v.cl, .slice x.v.pm x.v.nm x.v.cm] 90))) := hbr.alloc hz _
      have HMA : ∀ m, Hid (MapF ((wr.alloc (.cells #[.string x.name, .int .i64 x.v.k, .int .i64 x.v.n, .string x.v.s, .slice x.v.pl x.v.nl x.v.cl, .slice x.v.pm x.v.nm x.v.cm] 90)).drewN m) Try.prog 9 w.heap.size k (nameF ((rms.take k).map (·.name)))) := fun m => MapF.of_block (hMF.out.alloc _) rfl
      have hk0 : (0 : Int) ≤ (k : Int) := Int.natCast_nonneg _
      have hk1 : (k : Int) < (n : Int) := by omega
      have hlk := fun m => (HMA m).out.look Try.underlying9 Try.underlying187 (Try.zeroValue4 _) hzx
      clear hc1 hx hbr hMF
      have HSP := Lib.hid (take_split HX.out)
      have hBad : ∀ W, Calls Try.prog 111 #[.string x.name] W fun e w' => e = .returned (.int .i64 (badF x.name : Nat)) ∧ w' = W := fun W => (bad_any x.name W hzx).mono fun e w' h => ⟨h.1, h.2.symm⟩
      have HBAD := Lib.hid hBad
      have hble := badF_le x.name
      unfold maxLen at hzx
      clear hBad
      by_cases hin : x.name ∈ (rms.take k).map (·.name)
      · have HR : Hid (goodN (rms.map (·.name)) = false) := by
          have h : goodN ((rms.take (k + 1)).map (·.name)) = false := by
            rw [HSP.out, List.map_append, List.map_singleton]
            cases e : goodN ((rms.take k).map (·.name) ++ [x.name]) with
            | false => rfl
            | true => exact absurd hin ((goodN_snoc _ _).1 e).2.2
          have h2 := goodN_left _ ((rms.drop (k + 1)).map (·.name)) h
          rw [← List.map_append, List.take_append_drop] at h2
          exact h2
        have hv : (nameF ((rms.take k).map (·.name)) x.name.data.toList).getD (.bool false) = .bool true := by unfold nameF; rw [if_pos ((mem_bytes _ _).2 hin)]; rfl
        rw [hv] at hlk
        clear hv hin HMA
        go_wp2_with fail
        go_quiet (fail)
        go_wp2_with fail
        go_ret
        exact ⟨ret_bool HR.out.symm, bdn HBR.out _⟩
      · have hv : (nameF ((rms.take k).map (·.name)) x.name.data.toList).getD (.bool false) = .bool false := by unfold nameF; rw [if_neg (fun h => hin ((mem_bytes _ _).1 h))]; rfl
        rw [hv] at hlk
        have HIN := Lib.hid hin
        clear hv hin
        by_cases hbd : badF x.name = x.name.size
        · have HBD := Lib.hid hbd
          have q1 : ((badF x.name : Int) != (x.name.size : Int)) = false := by simp; omega
          have HG : Hid (goodN ((rms.take (k + 1)).map (·.name)) = true) := by
            unfold Hid
            rw [HSP.out, List.map_append, List.map_singleton]
            exact (goodN_snoc _ _).2 ⟨hgd.out, HBD.out, HIN.out⟩
          clear hbd
          go_wp2_with fail
          go_quiet ((go_at_call 111; exact Calls.quiet_of_same (HBAD.out _)))
          have HMQ := Lib.hid (HMA nq).out
          have HMK := Lib.hid (hzx : x.name.size ≤ maxLen)
          have HZ0 := Lib.hid hz
          clear hlk HMA q1
          go_wp2_with (at_mapUpdate; refine wpList_store_F _ rfl _ _ _ _ rfl 9 4 Try.underlying9 Try.underlying187 _ k _ rfl HMQ.out (by unfold maxLen; omega) x.name rfl HMK.out (.bool true) rfl ?_; intro w1 hM1 hG1; go_frame)
          go_roundw
          case rel =>
            refine ⟨k + 1, by omega, by go_num, ?_, HG, (bdn HBR.out nq).grown hG1 (by have := HZ0.out; simp; omega) (fun a e => by cases e; exact Nat.le_refl _)⟩
            unfold Hid
            rw [HSP.out, List.map_append, List.map_singleton, nameF_snoc]
            exact hM1
          case measure => simp [intOf]; omega
        · have HR : Hid (goodN (rms.map (·.name)) = false) := by
            have h : goodN ((rms.take (k + 1)).map (·.name)) = false := by
              rw [HSP.out, List.map_append, List.map_singleton]
              cases e : goodN ((rms.take k).map (·.name) ++ [x.name]) with
              | false => rfl
              | true => exact absurd ((goodN_snoc _ _).1 e).2.1 hbd
            have h2 := goodN_left _ ((rms.drop (k + 1)).map (·.name)) h
            rw [← List.map_append, List.take_append_drop] at h2
            exact h2
          have q1 : ((badF x.name : Int) != (x.name.size : Int)) = true := by simp; omega
          clear hbd
          go_wp2_with fail
          go_quiet ((go_at_call 111; exact Calls.quiet_of_same (HBAD.out _)))
          go_wp2_with fail
          go_ret
          exact ⟨ret_bool HR.out.symm, bdn HBR.out _⟩
    · obtain rfl : k = n := by omega
      go_wp2_with fail
      go_ret
      refine ⟨ret_bool ?_, hbr⟩
      have h := hgd.out
      rw [List.take_of_length_le (by have := E2.out; omega)] at h
      exact h.symm
end Go.Proofs.Ythgkgjcnmahacaa
end
