import Derived.Test.YtanemojiaahbgaaGreatDoorSf02
import Derived.Test.YtanemojiaahbgaaGreatDoorSf10
import Derived.Test.YtanemojiaahbgaaGreatDoorSf16
import Derived.Test.YtanemojiaahbgaaGreatDoorSf04
import Derived.Deep.RegionHeld3
import Derived.Deep.QuietTactic
import Derived.BigQuiet
section
/- tree.Same: whether two trees are the same but for the order of members. -/
set_option linter.unusedSimpArgs false
set_option linter.unusedVariables false
namespace Go.Proofs.YtanemojiaahbgaaGreatDoor
open Go.RowKit Go.OpenShut

/-- The same but for the order of members; of like names the first one counts. -/
inductive SameT : JV → JV → Prop
  | mk {k n : Int} {s : ByteArray} {l l' : List JV} {m m' : List (ByteArray × JV)} (el : l.length = l'.length) (em : m.length = m'.length) (cl : ∀ (i : Nat) (t u : JV), l[i]? = some t → l'[i]? = some u → SameT t u)
      (cf : ∀ (i : Nat) (p : ByteArray × JV), m[i]? = some p → m'.findIdx? (fun q => decide (q.1 = p.1)) ≠ none)
      (cm : ∀ (i j : Nat) (p q : ByteArray × JV), m[i]? = some p → m'.findIdx? (fun q => decide (q.1 = p.1)) = some j → m'[j]? = some q → SameT p.2 q.2) : SameT (.mk k n s l m) (.mk k n s l' m')

theorem run_makeMapN {P : Program} {t k e : TypeId} (hu : P.underlying t = some (.map k e)) (n : Int) (w : World) : (Instr.makeMap t (some (.int .i64 n))).run P w = .ok (.map (some w.heap.size)) (w.alloc (.map #[] 0)) := by
  simp [Instr.makeMap, run_underlying hu, asInt, asIntOf, Result.andThen]

section
variable {P : Program} (w : World) {ops : Array Oper} {rest : List Oper} {o : Oper} {a : Act} {Q : Exit → Act → World → Prop}
theorem wpList_look_ok_F (hg : o.guard = none) (m x : Operand) (t : TypeId) (hop : o.op = Op.lookup t m x true) (k e : TypeId) (hk : P.underlying k = some .string) (ht : P.underlying t = some (.map k e)) {z : Value} (hz : (zeroValue e).run P w = .ok z w)
    (b n : Nat) (f : List UInt8 → Option Value) (hm : a.eval m = .map (some b)) (hown : MapF w P k b n f) (s : ByteArray) (hx : a.eval x = .string s) (hs : s.size ≤ maxLen) {v : Value} {y : Bool} (hv : (f s.data.toList).getD z = v) (hy : (f s.data.toList).isSome = y)
    (hK : wpList P ops Q rest (a.put o.dst (.tuple #[v, .bool y])) w) : wpList P ops Q (o :: rest) a w := by
  refine wpList_plain hg fun K' hK' => ?_
  have hrun := hown.look_ok hk ht hz hs
  rw [hv, hy] at hrun
  unfold Oper.wp
  simp [execOp, hop, hm, hx, hrun, Result.andThen]
  exact hK' _ _ hK
end

/-- The first member of a name, as the map knows it. -/
def knownR (rms : List RM) (s : List UInt8) : Option Value := (rms.find? (fun q => decide (q.name.data.toList = s))).map (·.v.val)
theorem knownR_cons {rms : List RM} {i : Nat} {q : RM} (h : rms[i]? = some q) (s : List UInt8) : knownR (rms.drop i) s = if s = q.name.data.toList then some q.v.val else knownR (rms.drop (i + 1)) s := by
  obtain ⟨hi, e⟩ := List.getElem?_eq_some_iff.1 h
  rw [List.drop_eq_getElem_cons hi, e]
  unfold knownR
  rw [List.find?_cons]
  by_cases hs : q.name.data.toList = s
  · simp [hs]
  · have hs' : ¬ s = q.name.data.toList := fun h => hs h.symm
    simp [hs, hs']
theorem bytes_ext {a b : ByteArray} (h : a.data.toList = b.data.toList) : a = b := by
  obtain ⟨⟨x⟩⟩ := a
  obtain ⟨⟨y⟩⟩ := b
  simp only at h
  rw [h]
theorem knownR_some {m : List (ByteArray × JV)} {rms : List RM} {a : ByteArray} {j : Nat} (em : m.length = rms.length) (cn : ∀ (i : Nat) (p : ByteArray × JV) (q : RM), m[i]? = some p → rms[i]? = some q → p.1 = q.name) (h : m.findIdx? (fun q => decide (q.1 = a)) = some j) :
    ∃ q p, rms[j]? = some q ∧ m[j]? = some p ∧ knownR rms a.data.toList = some q.v.val := by
  rw [List.findIdx?_eq_some_iff_getElem] at h
  obtain ⟨h1, h2, h3⟩ := h
  have h4 : j < rms.length := by omega
  have hn : ∀ i (hi : i < m.length), rms[i]'(by omega) = rms[i]'(by omega) ∧ m[i].1 = (rms[i]'(by omega)).name := fun i hi => ⟨rfl, cn i _ _ (List.getElem?_eq_getElem hi) (List.getElem?_eq_getElem (by omega))⟩
  refine ⟨rms[j], m[j], List.getElem?_eq_getElem h4, List.getElem?_eq_getElem h1, ?_⟩
  have : rms.find? (fun q => decide (q.name.data.toList = a.data.toList)) = some rms[j] := by
    rw [List.find?_eq_some_iff_getElem]
    refine ⟨?_, j, h4, rfl, fun i hi => ?_⟩
    · have := (hn j h1).2
      simp only [decide_eq_true_eq] at h2 ⊢
      rw [← this, h2]
    · have h5 := (hn i (by omega)).2
      have h6 := h3 i hi
      simp only [decide_eq_true_eq, Bool.not_eq_true', decide_eq_false_iff_not] at h6 ⊢
      intro e
      exact h6 (h5.trans (bytes_ext e))
  unfold knownR
  rw [this]
  rfl
theorem knownR_none {m : List (ByteArray × JV)} {rms : List RM} {a : ByteArray} (em : m.length = rms.length) (cn : ∀ (i : Nat) (p : ByteArray × JV) (q : RM), m[i]? = some p → rms[i]? = some q → p.1 = q.name) (h : m.findIdx? (fun q => decide (q.1 = a)) = none) :
    knownR rms a.data.toList = none := by
  rw [List.findIdx?_eq_none_iff] at h
  have : rms.find? (fun q => decide (q.name.data.toList = a.data.toList)) = none := by
    rw [List.find?_eq_none]
    intro q hq
    obtain ⟨i, hi⟩ := List.getElem?_of_mem hq
    have hi' : i < m.length := by rw [em]; exact (List.getElem?_eq_some_iff.1 hi).1
    have h1 := h m[i] (List.getElem_mem hi')
    have h2 := cn i _ _ (List.getElem?_eq_getElem hi') hi
    simp only [decide_eq_true_eq, decide_eq_false_iff_not] at h1 ⊢
    exact fun e => h1 (h2.trans (bytes_ext e))
  unfold knownR
  rw [this]
  rfl

end Go.Proofs.YtanemojiaahbgaaGreatDoor
end

section
/- Whether names are right and no two are the same, walked. -/
set_option linter.unusedSimpArgs false
set_option linter.unusedVariables false
namespace Go.Proofs.YtanemojiaahbgaaGreatDoor
open Go.RowKit Go.OpenShut

/-- Each name is right, no two are the same. -/
def goodN (l : List ByteArray) : Bool := l.all (fun n => badF n == n.size) && decide l.Nodup
def nameF (l : List ByteArray) (u : List UInt8) : Option Value := if u ∈ l.map (·.data.toList) then some (.bool true) else none
theorem nameF_snoc (l : List ByteArray) (n : ByteArray) : nameF (l ++ [n]) = fun u => if u = n.data.toList then some (.bool true) else nameF l u := by
  funext u
  unfold nameF
  rw [List.map_append, List.map_singleton]
  by_cases h : u = n.data.toList <;> simp [h]
theorem mem_bytes (l : List ByteArray) (n : ByteArray) : n.data.toList ∈ l.map (·.data.toList) ↔ n ∈ l := by
  rw [List.mem_map]
  constructor
  · rintro ⟨a, ha, h⟩
    obtain rfl : a = n := by
      have := Array.ext' h
      cases a; cases n; simp_all
    exact ha
  · exact fun h => ⟨n, h, rfl⟩
theorem goodN_snoc (l : List ByteArray) (n : ByteArray) : goodN (l ++ [n]) = true ↔ goodN l = true ∧ badF n = n.size ∧ n ∉ l := by
  unfold goodN
  simp only [List.all_append, List.all_cons, List.all_nil, Bool.and_true, Bool.and_eq_true, decide_eq_true_eq, List.nodup_append, List.nodup_cons, List.mem_singleton, List.not_mem_nil, not_false_eq_true, List.nodup_nil, and_true, true_and, beq_iff_eq]
  constructor
  · rintro ⟨⟨a, b⟩, c, d⟩
    exact ⟨⟨a, c⟩, b, fun h => d n h n rfl rfl⟩
  · rintro ⟨⟨a, c⟩, b, d⟩
    exact ⟨⟨a, b⟩, c, fun x hx y hy => by subst hy; exact fun e => d (e ▸ hx)⟩
theorem goodN_left (a b : List ByteArray) (h : goodN a = false) : goodN (a ++ b) = false := by
  cases e : goodN (a ++ b) with
  | false => rfl
  | true =>
    unfold goodN at e h
    rw [List.all_append, Bool.and_eq_true, Bool.and_eq_true, decide_eq_true_eq, List.nodup_append] at e
    rw [e.1.1, decide_eq_true e.2.1] at h
    cases h
theorem take_split {α : Type} {l : List α} {k : Nat} {x : α} (h : l[k]? = some x) : l.take (k + 1) = l.take k ++ [x] := by
  rw [List.take_add_one, h]; rfl

set_option maxRecDepth 100000 in
set_option maxHeartbeats 2000000 in
theorem names_any (p : Option Addr) (n c : Nat) (rms : List RM) (w : World) (hm : Rd w w.heap.size encM 6 (.slice p n c) rms) (hs : ∀ (i : Nat) q, rms[i]? = some q → q.name.size ≤ maxLen) (hn : n ≤ 1466015503658) :
    Calls Tryz.prog 92 #[.slice p n c] w fun e w' => e = .returned (.bool (goodN (rms.map (·.name)))) ∧ Below w.heap.size w w' := by
  have eM := rd_nlen hm
  have HM := Lib.hid hm
  have HZ := Lib.hid hs
  have E2 := Lib.hid eM
  have hM0 : Hid (MapF (w.alloc (.map #[] 0)) Tryz.prog 9 w.heap.size 0 (nameF [])) := MapF.made w Tryz.prog 9
  have hB0 : Below w.heap.size w (w.alloc (.map #[] 0)) := (Below.refl _ _).alloc (Nat.le_refl _) _
  clear hm hs eM
  go_enter Tryz.func92, Tryz.ntmps92
  have hmm := @run_makeMap Tryz.prog
  go_upto_region 2 with fail
  clear hmm
  obtain ⟨W0, hW0⟩ : ∃ W, w.alloc (.map #[] 0) = W := ⟨_, rfl⟩
  rw [hW0] at hM0 hB0 ⊢
  clear hW0
  go_wp2_with fail
  go_loopw [9] (fun i wr => ∃ k : Nat, k ≤ n ∧ i = .int .i64 k ∧ Hid (MapF wr Tryz.prog 9 w.heap.size k (nameF ((rms.take k).map (·.name)))) ∧ Hid (goodN ((rms.take k).map (·.name)) = true) ∧ Below w.heap.size w wr) (fun i _ => n - (intOf i).toNat)
  case atStart => exact ⟨0, Nat.zero_le _, rfl, hM0, rfl, hB0⟩
  case round =>
    obtain ⟨k, hk, rfl, hMF, hgd, hbr⟩ := hrel
    by_cases hlt : k < n
    · obtain ⟨x, hx⟩ : ∃ x, rms[k]? = some x := ⟨_, List.getElem?_eq_getElem (by have := E2.out; omega)⟩
      obtain ⟨b1, o1, rfl, hb1, hc1⟩ := rd_at' (HM.out.below hbr (Nat.le_refl _)) hx
      have f0 := hc1 0 _ rfl
      have f1 := hc1 1 _ rfl
      have f2 := hc1 2 _ rfl
      have f3 := hc1 3 _ rfl
      have f4 := hc1 4 _ rfl
      have f5 := hc1 5 _ rfl
      rw [Nat.add_zero] at f0
      have HX := Lib.hid hx
      have hzx := HZ.out k x hx
      have hz := hbr.size
      have HBR : Hid (Below w.heap.size w (wr.alloc (.cells #[.string x.name, .int .i64 x.v.k, .int .i64 x.v.n, .string x.v.s, .slice x.v.pl x.v.nl x.v.cl, .slice x.v.pm x.v.nm x.v.cm] 48))) := hbr.alloc hz _
      have HMA : ∀ m, Hid (MapF ((wr.alloc (.cells #[.string x.name, .int .i64 x.v.k, .int .i64 x.v.n, .string x.v.s, .slice x.v.pl x.v.nl x.v.cl, .slice x.v.pm x.v.nm x.v.cm] 48)).drewN m) Tryz.prog 9 w.heap.size k (nameF ((rms.take k).map (·.name)))) := fun m => MapF.of_block (hMF.out.alloc _) rfl
      have hk0 : (0 : Int) ≤ (k : Int) := Int.natCast_nonneg _
      have hk1 : (k : Int) < (n : Int) := by omega
      have hlk := fun m => (HMA m).out.look Tryz.underlying9 Tryz.underlying136 (Tryz.zeroValue4 _) hzx
      clear hc1 hx hbr hMF
      have HSP := Lib.hid (take_split HX.out)
      have hBad : ∀ W, Calls Tryz.prog 91 #[.string x.name] W fun e w' => e = .returned (.int .i64 (badF x.name : Nat)) ∧ w' = W := fun W => (bad_any x.name W hzx).mono fun e w' h => ⟨h.1, h.2.symm⟩
      have HBAD := Lib.hid hBad
      have hble := badF_le x.name
      unfold maxLen at hzx
      clear hBad
      by_cases hin : x.name ∈ (rms.take k).map (·.name)
      · have HR : Hid (goodN (rms.map (·.name)) = false) := by
          have h : goodN ((rms.take (k + 1)).map (·.name)) = false := by
            rw [HSP.out, List.map_append, List.map_singleton]
            cases e : goodN ((rms.take k).map (·.name) ++ [x.name]) with
            | false => rfl
            | true => exact absurd hin ((goodN_snoc _ _).1 e).2.2
          have h2 := goodN_left _ ((rms.drop (k + 1)).map (·.name)) h
          rw [← List.map_append, List.take_append_drop] at h2
          exact h2
        have hv : (nameF ((rms.take k).map (·.name)) x.name.data.toList).getD (.bool false) = .bool true := by unfold nameF; rw [if_pos ((mem_bytes _ _).2 hin)]; rfl
        rw [hv] at hlk
        clear hv hin HMA
        go_wp2_with fail
        go_quiet (fail)
        go_wp2_with fail
        go_ret
        exact ⟨ret_boolU HR.out.symm, bdn HBR.out _⟩
      · have hv : (nameF ((rms.take k).map (·.name)) x.name.data.toList).getD (.bool false) = .bool false := by unfold nameF; rw [if_neg (fun h => hin ((mem_bytes _ _).1 h))]; rfl
        rw [hv] at hlk
        have HIN := Lib.hid hin
        clear hv hin
        by_cases hbd : badF x.name = x.name.size
        · have HBD := Lib.hid hbd
          have q1 : ((badF x.name : Int) != (x.name.size : Int)) = false := by simp; omega
          have HG : Hid (goodN ((rms.take (k + 1)).map (·.name)) = true) := by
            unfold Hid
            rw [HSP.out, List.map_append, List.map_singleton]
            exact (goodN_snoc _ _).2 ⟨hgd.out, HBD.out, HIN.out⟩
          clear hbd
          go_wp2_with fail
          go_quiet ((go_at_call 91; exact Calls.quiet_of_same (HBAD.out _)))
          have HMQ := Lib.hid (HMA nq).out
          have HMK := Lib.hid (hzx : x.name.size ≤ maxLen)
          have HZ0 := Lib.hid hz
          clear hlk HMA q1
          go_wp2_with (at_mapUpdate; refine wpList_store_F _ rfl _ _ _ _ rfl 9 4 Tryz.underlying9 Tryz.underlying136 _ k _ rfl HMQ.out (by unfold maxLen; omega) x.name rfl HMK.out (.bool true) rfl ?_; intro w1 hM1 hG1; go_frame)
          go_roundw
          case rel =>
            refine ⟨k + 1, by omega, by go_num, ?_, HG, (bdn HBR.out nq).grown hG1 (by have := HZ0.out; simp; omega) (fun a e => by cases e; exact Nat.le_refl _)⟩
            unfold Hid
            rw [HSP.out, List.map_append, List.map_singleton, nameF_snoc]
            exact hM1
          case measure => simp [intOf]; omega
        · have HR : Hid (goodN (rms.map (·.name)) = false) := by
            have h : goodN ((rms.take (k + 1)).map (·.name)) = false := by
              rw [HSP.out, List.map_append, List.map_singleton]
              cases e : goodN ((rms.take k).map (·.name) ++ [x.name]) with
              | false => rfl
              | true => exact absurd ((goodN_snoc _ _).1 e).2.1 hbd
            have h2 := goodN_left _ ((rms.drop (k + 1)).map (·.name)) h
            rw [← List.map_append, List.take_append_drop] at h2
            exact h2
          have q1 : ((badF x.name : Int) != (x.name.size : Int)) = true := by simp; omega
          clear hbd
          go_wp2_with fail
          go_quiet ((go_at_call 91; exact Calls.quiet_of_same (HBAD.out _)))
          go_wp2_with fail
          go_ret
          exact ⟨ret_boolU HR.out.symm, bdn HBR.out _⟩
    · obtain rfl : k = n := by omega
      go_wp2_with fail
      go_ret
      refine ⟨ret_boolU ?_, hbr⟩
      have h := hgd.out
      rw [List.take_of_length_le (by have := E2.out; omega)] at h
      exact h.symm
end Go.Proofs.YtanemojiaahbgaaGreatDoor
end
