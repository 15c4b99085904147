import Derived.Test.YthgkgjcnmahacaaTs11
import Derived.Test.YthgkgjcnmahacaaTs02
import Derived.Test.YthgkgjcnmahacaaTs07
import Derived.Test.YthgkgjcnmahacaaTs00
import Derived.Test.YthgkgjcnmahacaaTs01
import Derived.Lib.AppendStr
import Derived.Lib.BufferRead
import Derived.Laws.IdiomStrings
import Derived.WalkLawsBesides
import Derived.Test.YthgkgjcnmahacaaTs10
import Derived.Deep.RegionHeld3
import Derived.Deep.RegionLaw
section
/- Right values are the same but for the order of members just if they are one when sorted. -/
set_option linter.unusedSimpArgs false
set_option linter.unusedVariables false
namespace Go.Proofs.Ythgkgjcnmahacaa
open Go Go.RowKit

theorem cmpT_ne {a b : ByteArray} (h : cmpN a b < 0) : a ≠ b := fun e => by subst e; rw [cmpN_self] at h; omega
theorem cmpT_tri (a b : ByteArray) : cmpN a b < 0 ∨ a = b ∨ cmpN b a < 0 := by
  have h := cmpN_neg a b
  by_cases h1 : cmpN a b < 0
  · exact .inl h1
  · by_cases h2 : cmpN a b = 0
    · exact .inr (.inl (cmpN_eq h2))
    · exact .inr (.inr (by omega))
/-- Members rise by their names. -/
def RiseT (os : List (ByteArray × JV)) : Prop := os.Pairwise (fun p q => cmpN p.1 q.1 < 0)
theorem nodup_names {k n : Int} {s : ByteArray} {l : List JV} {m : List (ByteArray × JV)} {d : Nat} (h : okT (.mk k n s l m) d) : (m.map (·.1)).Nodup := by
  have := okT_names h
  unfold goodN at this
  simp only [Bool.and_eq_true, decide_eq_true_eq] at this
  exact this.2
theorem find_name {m : List (ByteArray × JV)} (hn : (m.map (·.1)).Nodup) {j : Nat} {q : ByteArray × JV} (hq : m[j]? = some q) : m.findIdx? (fun x => decide (x.1 = q.1)) = some j := by
  refine find_at hq (by simp) (fun i y hi hy => ?_)
  rw [decide_eq_false_iff_not]
  intro e
  obtain ⟨h1, h2⟩ := List.getElem?_eq_some_iff.1 hy
  obtain ⟨h3, h4⟩ := List.getElem?_eq_some_iff.1 hq
  have h5 := (List.pairwise_iff_getElem.1 hn) i j (by simpa using h1) (by simpa using h3) hi
  simp only [List.getElem_map] at h5
  exact h5 (by rw [h2, h4]; exact e)
theorem mem_name {m : List (ByteArray × JV)} (hn : (m.map (·.1)).Nodup) {p q : ByteArray × JV} (hp : p ∈ m) (hq : q ∈ m) (h : p.1 = q.1) : p = q := by
  obtain ⟨i, hi⟩ := List.getElem?_of_mem hp
  obtain ⟨j, hj⟩ := List.getElem?_of_mem hq
  have h1 := find_name hn hi
  have h2 := find_name hn hj
  rw [h] at h1
  rw [h1] at h2
  cases h2
  rw [hi] at hj
  cases hj
  rfl
/-- Sorted, a value is the same. -/
theorem SortOf.same {t u : JV} (h : SortOf t u) : ∀ d, okT t d → SameT t u ∧ SameT u t := by
  induction h with
  | @mk k n s l l' m mm m' el cl em cn cm st ihl ihm =>
    intro d ho
    have hu := (SortOf.mk (k := k) (n := n) (s := s) el cl em cn cm st).stays d ho
    have hn := nodup_names ho
    have hn' := nodup_names hu
    have hlen := st.perm.length_eq
    have hno := ho
    rw [okT] at ho
    obtain ⟨h1, h2, h3, h4, h5⟩ := ho
    rw [okL_iff] at h4
    rw [okM_iff] at h5
    -- a member, and what it is sorted
    have hto : ∀ (i : Nat) (p : ByteArray × JV), m[i]? = some p → ∃ q, q ∈ m' ∧ q.1 = p.1 ∧ SameT p.2 q.2 ∧ SameT q.2 p.2 := by
      intro i p hp
      obtain ⟨q, hq⟩ : ∃ q, mm[i]? = some q := ⟨_, List.getElem?_eq_getElem (by have := (List.getElem?_eq_some_iff.1 hp).1; omega)⟩
      have := ihm i p q hp hq _ (h5 p (List.mem_of_getElem? hp))
      exact ⟨q, st.perm.mem_iff.2 (List.mem_of_getElem? hq), (cn i p q hp hq).symm, this.1, this.2⟩
    have hfro : ∀ (j : Nat) (q : ByteArray × JV), m'[j]? = some q → ∃ p, p ∈ m ∧ q.1 = p.1 ∧ SameT p.2 q.2 ∧ SameT q.2 p.2 := by
      intro j q hq
      obtain ⟨i, hi⟩ := List.getElem?_of_mem (st.perm.mem_iff.1 (List.mem_of_getElem? hq))
      obtain ⟨p, hp⟩ := at_same em hi
      have := ihm i p q hp hi _ (h5 p (List.mem_of_getElem? hp))
      exact ⟨p, List.mem_of_getElem? hp, (cn i p q hp hi).symm, this.1, this.2⟩
    have hll : ∀ (i : Nat) (x y : JV), l[i]? = some x → l'[i]? = some y → SameT x y ∧ SameT y x := fun i x y hx hy => ihl i x y hx hy _ (h4 x (List.mem_of_getElem? hx))
    refine ⟨.mk el.symm (by omega) (fun i x y hx hy => (hll i x y hx hy).1) ?_ ?_, .mk el (by omega) (fun i x y hx hy => (hll i y x hy hx).2) ?_ ?_⟩
    · intro i p hp e
      obtain ⟨q, hq, h6, _⟩ := hto i p hp
      obtain ⟨j, hj⟩ := List.getElem?_of_mem hq
      have := find_name hn' hj
      rw [h6, e] at this
      cases this
    · intro i j p q hp hf hq
      obtain ⟨q', hq', h6, h7, _⟩ := hto i p hp
      obtain ⟨j', hj'⟩ := List.getElem?_of_mem hq'
      have := find_name hn' hj'
      rw [h6, hf] at this
      cases this
      rw [hq] at hj'
      cases hj'
      exact h7
    · intro j q hq e
      obtain ⟨p, hp, h6, _⟩ := hfro j q hq
      obtain ⟨i, hi⟩ := List.getElem?_of_mem hp
      have := find_name hn hi
      rw [← h6, e] at this
      cases this
    · intro j i q p hq hf hp
      obtain ⟨p', hp', h6, _, h7⟩ := hfro j q hq
      obtain ⟨i', hi'⟩ := List.getElem?_of_mem hp'
      have := find_name hn hi'
      rw [← h6, hf] at this
      cases this
      rw [hp] at hi'
      cases hi'
      exact h7
/-- Sorted members of unlike names rise. -/
theorem stable_riseT {mm m' : List (ByteArray × JV)} (st : IsStable cfJ mm m') (hn : (m'.map (·.1)).Nodup) : RiseT m' := by
  obtain ⟨ts, hp, hw, rfl⟩ := st
  unfold RiseT
  rw [List.map_map] at hn
  rw [List.pairwise_map]
  have hn2 : ts.Pairwise (fun a b => a.1.1 ≠ b.1.1) := by
    have : (ts.map (fun a => a.1.1)).Nodup := hn
    rw [List.Nodup, List.pairwise_map] at this
    exact this
  refine (hw.and hn2).imp fun {a b} h => ?_
  obtain ⟨h1, h2⟩ := h
  rw [tlt_iff] at h1
  rcases cmpT_tri a.1.1 b.1.1 with h | h | h
  · exact h
  · exact absurd h h2
  · exfalso
    have := cmpN_neg a.1.1 b.1.1
    rcases h1 with h1 | h1
    · have h3 : cmpN a.1.1 b.1.1 < 0 := h1
      omega
    · exact h1.1 h
theorem riseT_sub : ∀ {l m : List (ByteArray × JV)}, RiseT l → RiseT m → (∀ z ∈ l, z ∈ m) → l.Sublist m
  | [], m, _, _, _ => List.nil_sublist _
  | a :: l, [], _, _, h => absurd (h a (by simp)) (by simp)
  | a :: l, b :: m, hl, hm, h => by
    have hl1 := List.pairwise_cons.1 hl
    have hm1 := List.pairwise_cons.1 hm
    by_cases e : a = b
    · subst e
      refine (riseT_sub hl1.2 hm1.2 (fun z hz => ?_)).cons_cons a
      rcases List.mem_cons.1 (h z (List.mem_cons_of_mem _ hz)) with rfl | hz2
      · exact absurd rfl (cmpT_ne (hl1.1 z hz))
      · exact hz2
    · refine (riseT_sub hl hm1.2 (fun z hz => ?_)).cons b
      have ha : a ∈ m := by
        rcases List.mem_cons.1 (h a (by simp)) with h1 | h1
        · exact absurd h1 e
        · exact h1
      rcases List.mem_cons.1 (h z hz) with rfl | hz2
      · exfalso
        have h1 := hm1.1 a ha
        rcases List.mem_cons.1 hz with h2 | h2
        · exact e h2.symm
        · have h3 := hl1.1 z h2
          have := cmpN_neg a.1 z.1
          omega
      · exact hz2
termination_by l m => l.length + m.length
/-- Right values that are the same are one when sorted. -/
theorem SameT.sorted {t u : JV} (h : SameT t u) : ∀ (d e : Nat) (a b : JV), okT t d → okT u e → SortOf t a → SortOf u b → a = b := by
  induction h with
  | @mk k n s l1 l2 m1 m2 el em cl cf cm ihl ihm =>
    intro d e a b h1 h2 ha hb
    have hok1 := ha.stays d h1
    have hok2 := hb.stays e h2
    cases ha with
    | @mk _ _ _ _ la _ mma ma ela cla ema cna cma sta =>
    cases hb with
    | @mk _ _ _ _ lb _ mmb mb elb clb emb cnb cmb stb =>
    have n1 := nodup_names h1
    have n2 := nodup_names h2
    have na := nodup_names hok1
    have nb := nodup_names hok2
    rw [okT] at h1 h2
    obtain ⟨_, _, _, ol1, om1⟩ := h1
    obtain ⟨_, _, _, ol2, om2⟩ := h2
    rw [okL_iff] at ol1 ol2
    rw [okM_iff] at om1 om2
    have hl : la = lb := by
      apply List.ext_getElem?
      intro i
      cases hx : la[i]? with
      | none =>
        have : lb[i]? = none := by rw [List.getElem?_eq_none_iff] at hx ⊢; omega
        rw [this]
      | some x =>
        obtain ⟨t1, ht1⟩ := at_same ela hx
        obtain ⟨t2, ht2⟩ : ∃ t, l2[i]? = some t := ⟨_, List.getElem?_eq_getElem (by have := (List.getElem?_eq_some_iff.1 ht1).1; omega)⟩
        obtain ⟨y, hy⟩ : ∃ t, lb[i]? = some t := ⟨_, List.getElem?_eq_getElem (by have := (List.getElem?_eq_some_iff.1 ht2).1; omega)⟩
        rw [hy, ihl i t1 t2 ht1 ht2 _ _ x y (ol1 _ (List.mem_of_getElem? ht1)) (ol2 _ (List.mem_of_getElem? ht2)) (cla i t1 x ht1 hx) (clb i t2 y ht2 hy)]
    have hm : ma = mb := by
      refine (riseT_sub (stable_riseT sta na) (stable_riseT stb nb) (fun z hz => ?_)).eq_of_length (by have := sta.perm.length_eq; have := stb.perm.length_eq; omega)
      obtain ⟨i, hi⟩ := List.getElem?_of_mem (sta.perm.mem_iff.1 hz)
      obtain ⟨p, hp⟩ := at_same ema hi
      have hf := cf i p hp
      cases hj : m2.findIdx? (fun q => decide (q.1 = p.1)) with
      | none => exact absurd hj hf
      | some j =>
        obtain ⟨hjl, hjp, _⟩ := List.findIdx?_eq_some_iff_getElem.1 hj
        have hq : m2[j]? = some m2[j] := List.getElem?_eq_getElem hjl
        have hqn : m2[j].1 = p.1 := by simpa using hjp
        obtain ⟨y, hy⟩ : ∃ t, mmb[j]? = some t := ⟨_, List.getElem?_eq_getElem (by omega)⟩
        have e1 := ihm i j p _ hp hj hq _ _ z.2 y.2 (om1 _ (List.mem_of_getElem? hp)) (om2 _ (List.mem_of_getElem? hq)) (cma i p z hp hi) (cmb j _ y hq hy)
        have e2 : z = y := Prod.ext (by rw [← cna i p z hp hi, ← cnb j _ y hq hy, hqn]) e1
        rw [e2]
        exact stb.perm.mem_iff.2 (List.mem_of_getElem? hy)
    rw [hl, hm]
/-- Right values that are one when sorted are the same. -/
theorem SortOf.both {t a : JV} (h : SortOf t a) : ∀ (u : JV) (d e : Nat), Proofs.Ythgkgjcnmahacaa.okT t d → Proofs.Ythgkgjcnmahacaa.okT u e → SortOf u a → SameT t u := by
  induction h with
  | @mk k n s l l' m mm m' el cl em cn cm st ihl ihm =>
    intro u d e h1 h2 hb
    cases hb with
    | @mk _ _ _ l2 _ m2 mm2 _ el2 cl2 em2 cn2 cm2 st2 =>
    have n2 := nodup_names h2
    have hlen1 := st.perm.length_eq
    have hlen2 := st2.perm.length_eq
    rw [Proofs.Ythgkgjcnmahacaa.okT] at h1 h2
    obtain ⟨_, _, _, ol1, om1⟩ := h1
    obtain ⟨_, _, _, ol2, om2⟩ := h2
    rw [okL_iff] at ol1 ol2
    rw [okM_iff] at om1 om2
    have hto : ∀ (i : Nat) (p : ByteArray × JV), m[i]? = some p → ∃ (j : Nat) (q : ByteArray × JV), m2[j]? = some q ∧ q.1 = p.1 ∧ SameT p.2 q.2 := by
      intro i p hp
      obtain ⟨z, hz⟩ : ∃ q, mm[i]? = some q := ⟨_, List.getElem?_eq_getElem (by have := (List.getElem?_eq_some_iff.1 hp).1; omega)⟩
      obtain ⟨j, hj⟩ := List.getElem?_of_mem (st2.perm.mem_iff.1 (st.perm.mem_iff.2 (List.mem_of_getElem? hz)))
      obtain ⟨q, hq⟩ := at_same em2 hj
      exact ⟨j, q, hq, by rw [cn i p z hp hz, cn2 j q z hq hj], ihm i p z hp hz q.2 _ _ (om1 p (List.mem_of_getElem? hp)) (om2 q (List.mem_of_getElem? hq)) (cm2 j q z hq hj)⟩
    refine .mk (by omega) (by omega) ?_ ?_ ?_
    · intro i x y hx hy
      obtain ⟨z, hz⟩ : ∃ q, l'[i]? = some q := ⟨_, List.getElem?_eq_getElem (by have := (List.getElem?_eq_some_iff.1 hx).1; omega)⟩
      exact ihl i x z hx hz y _ _ (ol1 x (List.mem_of_getElem? hx)) (ol2 y (List.mem_of_getElem? hy)) (cl2 i y z hy hz)
    · intro i p hp hf
      obtain ⟨j, q, hq, h6, _⟩ := hto i p hp
      have := find_name n2 hq
      rw [h6, hf] at this
      cases this
    · intro i j p q hp hf hq
      obtain ⟨j', q', hq', h6, h7⟩ := hto i p hp
      have := find_name n2 hq'
      rw [h6, hf] at this
      cases this
      rw [hq] at hq'
      cases hq'
      exact h7
end Go.Proofs.Ythgkgjcnmahacaa
end

section
/- Bytes in a slice of the call's own; a text appended to them; they, turned into a text. Plain laws. -/
set_option linter.unusedSimpArgs false
set_option linter.unusedVariables false
namespace Go.Proofs.Ythgkgjcnmahacaa
open Go Go.RowKit

def encU (b : UInt8) : List Value := [.int .u8 b.toNat]
theorem codecU : Codec encU 1 := ⟨fun _ => rfl, fun x u hu => by
  simp only [encU, List.mem_cons, List.not_mem_nil, or_false] at hu
  subst hu; rfl, by decide⟩
theorem infoU : (Try.prog.info? 5).map (fun i => (i.zero, i.size, i.bytes)) = some (some (.int .u8 0), 1, 1) := by kernel_rfl
theorem slU : SlT Try.prog 112 5 1 1 := SlT.mk Try.underlying112 infoU rfl
/-- A list of bytes as a text. -/
def toB (l : List UInt8) : ByteArray := ⟨l.toArray⟩
theorem toB_inj {a b : List UInt8} (h : toB a = toB b) : a = b := by
  have := congrArg (fun x => x.data.toList) h
  simpa [toB] using this
theorem toB_size (l : List UInt8) : (toB l).size = l.length := by simp [toB, ByteArray.size]
theorem cells_bytes (l : List UInt8) : cellsOf encU l = l.map (fun b => Value.int .u8 b.toNat) := by
  induction l with
  | nil => rfl
  | cons b l ih =>
    unfold cellsOf at ih ⊢
    rw [List.flatMap_cons, ih]
    rfl
theorem cells_str (s : ByteArray) : Lib.strCells s = cellsOf encU s.data.toList := (cells_bytes _).symm
/-- Bytes in a slice of the call's own. -/
abbrev OwnU (w : World) (base : Nat) (v : Value) (l : List UInt8) : Prop := Own w base 5 encU 1 v l

theorem str_len (s : ByteArray) : s.data.toList.length = s.size := Array.length_toList
theorem run_append_str (w : World) (ty : TypeId) {base : Nat} {v : Value} {l : List UInt8} (hown : OwnU w base v l) (s : ByteArray) (hlen : l.length + s.size ≤ 140737488355328) (hbase : base ≤ w.heap.size) :
    ∃ v' w', (Builtin.append_ #[112, 9] ty #[v, .string s]).run Try.prog w = .ok v' w' ∧ OwnU w' base v' (l ++ s.data.toList) ∧ w.grownBy w' v.ownBlock := by
  obtain ⟨i, hi, hz, hs1, hby⟩ := info_parts infoU
  have hO : w.ownsRow base 5 1 v l.length (cellsOf encU l) := hown
  obtain ⟨v', w', hr, h2, h3, _⟩ := Lib.run_append_own_string (P := Try.prog) w base 112 9 ty 5 i Try.underlying112 Try.underlying9 hi hz hs1 hby v l.length (cellsOf encU l) hO s (by unfold maxLen; omega) hlen hbase
  refine ⟨v', w', hr, ?_, h3⟩
  unfold OwnU Own
  rw [cellsOf_append, List.length_append, str_len, ← cells_str]
  exact h2
theorem wpList_append_str {ops : Array Oper} {rest : List Oper} {o : Oper} {a : Act} {Q : Exit → Act → World → Prop} (w : World) (hgd : o.guard = none) (s x : Operand)
    (ho : o.op = .call { callee := .builtin .append, args := #[s, x], argTypes := #[112, 9] }) {base : Nat} {v : Value} {l : List UInt8} {t : ByteArray} (hs : a.eval s = v) (hx : a.eval x = .string t) (hown : OwnU w base v l)
    (hlen : l.length + t.size ≤ 140737488355328) (hbase : base ≤ w.heap.size)
    (h : ∀ v' w', OwnU w' base v' (l ++ t.data.toList) → w.grownBy w' v.ownBlock → wpList Try.prog ops Q rest (a.put o.dst v') w') : wpList Try.prog ops Q (o :: rest) a w := by
  refine wpList_plain hgd fun K hK => ?_
  obtain ⟨v', w', hr, h2, h3⟩ := run_append_str w o.type hown t hlen hbase
  unfold Oper.wp execOp
  simp only [ho, resolve, invoke, builtin, Sem.run_bind, Sem.run_pure, Result.andThen_ok, List.map_toArray, List.map_cons, List.map_nil, hs, hx, hr]
  exact hK _ _ (h v' w' h2 h3)
/-- A row just built, appended: its bytes. -/
theorem rd_bytes {w : World} {g n : Nat} {l : List UInt8} {cs : Array Value} (hg : g < w.heap.size) (h : w.heap[g]? = some (.cells cs 5 (0, 0))) (hc : cs.toList = cellsOf encU l) (hn : n = l.length) (hm : l.length ≤ maxLen) : Rd w w.heap.size encU 1 (.slice (some ⟨g, 0, none⟩) n n) l := by
  subst hn
  exact Rd.block codecU h hc hg hm
/-- The slice's bytes, turned into a text. -/
theorem str_of_own {w : World} {base : Nat} {v : Value} {l : List UInt8} (h : OwnU w base v l) : (convert 112 9 v).run Try.prog w = .ok (.string (toB l)) w := by
  have hO : w.ownsRow base 5 1 v l.length (cellsOf encU l) := h
  rcases hO.2 with ⟨rfl, hn⟩ | ⟨g, cap, cur, rfl, _⟩
  · have : l = [] := List.eq_nil_of_length_eq_zero hn
    subst this
    exact Lib.run_convert_nil_bytes w _ _ _ 0 Try.underlying112 Try.underlying5 Try.underlying9
  · refine run_convert_bytes_back w _ _ _ _ cap l Try.underlying112 Try.underlying5 Try.underlying9 (fun j hj => ?_)
    refine hO.cells (g := g) rfl j _ ?_
    rw [cells_bytes, List.getElem?_map, List.getElem?_eq_getElem hj]
    rfl
end Go.Proofs.Ythgkgjcnmahacaa
end

section
/- chars.escape and chars.Quote: a text between quotes, walked. -/
set_option linter.unusedSimpArgs false
set_option linter.unusedVariables false
namespace Go.Proofs.Ythgkgjcnmahacaa
open Go Go.RowKit Go.OpenShut

/-- The letter behind the stroke; 0: none. -/
def escN (c : Nat) : Nat := if c = 34 ∨ c = 92 then c else if c = 8 then 98 else if c = 9 then 116 else if c = 10 then 110 else if c = 12 then 102 else if c = 13 then 114 else 0
set_option maxRecDepth 100000 in
set_option maxHeartbeats 1000000 in
theorem escape_any (b : UInt8) (w : World) : Calls Try.prog 138 #[.int .u8 b.toNat] w fun e w' => e = .returned (.int .u8 (escN b.toNat : Nat)) ∧ w = w' := by
  have hb : (b.toNat : Int) < 256 := by have := b.toNat_lt; omega
  have h0 : (0 : Int) ≤ (b.toNat : Int) := Int.natCast_nonneg _
  go_enter Try.func138, Try.ntmps138
  go_wp2_with fail
  all_goals go_ret
  all_goals refine ⟨ret_int1 ?_, rfl⟩
  all_goals unfold escN
  all_goals (repeat' split)
  all_goals first | omega | (simp only [beq_iff_eq, bne_iff_ne, Bool.not_eq_true, beq_eq_false_iff_ne] at *; omega) | trace_state
/-- A digit of sixteen. -/
def hexD (n : Nat) : UInt8 := if n < 10 then UInt8.ofNat (48 + n) else UInt8.ofNat (87 + n)
theorem and15 {n : Nat} (h : n < 32) : bits BinOp.and IntKind.u8 (n : Int) 15 = (n : Int) % 16 :=
  (by decide +kernel : ∀ m : Fin 32, bits BinOp.and IntKind.u8 ((m.val : Nat) : Int) 15 = ((m.val : Nat) : Int) % 16) ⟨n, h⟩
theorem hex_get (n : Nat) (h : n < 16) (h' : n < (⟨#[48, 49, 50, 51, 52, 53, 54, 55, 56, 57, 97, 98, 99, 100, 101, 102]⟩ : ByteArray).size) : (⟨#[48, 49, 50, 51, 52, 53, 54, 55, 56, 57, 97, 98, 99, 100, 101, 102]⟩ : ByteArray)[n]'h' = hexD n :=
  (by decide +kernel : ∀ m : Fin 16, (⟨#[48, 49, 50, 51, 52, 53, 54, 55, 56, 57, 97, 98, 99, 100, 101, 102]⟩ : ByteArray)[m.val]'m.isLt = hexD m.val) ⟨n, h⟩
/-- How a byte stands between quotes. -/
def escL (c : UInt8) : List UInt8 := if escN c.toNat ≠ 0 then [92, UInt8.ofNat (escN c.toNat)] else if c.toNat < 32 then [92, 117, 48, 48, hexD (c.toNat / 16), hexD (c.toNat % 16)] else [c]
def quoM (l : List UInt8) : List UInt8 := l.flatMap escL
/-- A text between quotes. -/
def quoL (s : ByteArray) : List UInt8 := if badF s = s.size then 34 :: quoM s.data.toList ++ [34] else []
theorem escL_len (c : UInt8) : (escL c).length ≤ 6 := by unfold escL; split <;> (try split) <;> simp
theorem quoM_len (l : List UInt8) : (quoM l).length ≤ 6 * l.length := by
  induction l with
  | nil => simp [quoM]
  | cons c l ih =>
    unfold quoM at ih ⊢
    rw [List.flatMap_cons, List.length_append, List.length_cons]
    have := escL_len c
    omega
theorem quoM_take {l : List UInt8} {k : Nat} {c : UInt8} (h : l[k]? = some c) : quoM (l.take (k + 1)) = quoM (l.take k) ++ escL c := by
  unfold quoM
  rw [List.take_add_one, h]
  simp

def QuoRet (w : World) (s : ByteArray) (e : Ending) (w' : World) : Prop := e = .returned (.tuple #[.string (toB (quoL s)), .bool (decide (badF s = s.size))]) ∧ Below w.heap.size w w'
set_option maxRecDepth 100000 in
set_option maxHeartbeats 4000000 in
theorem quote_any (s : ByteArray) (w : World) (hs : s.size ≤ 4398046511104) : Calls Try.prog 121 #[.string s] w (QuoRet w s) := by
  have hm : s.size ≤ maxLen := by unfold maxLen; omega
  have HB := Lib.hid (bad_any s w hm)
  have HS := Lib.hid hs
  clear hm
  by_cases hok : badF s = s.size
  · have hne : ((badF s : Int) != (s.size : Int)) = false := by simp [hok]
    have HQ : Hid (quoL s = 34 :: quoM s.data.toList ++ [34] ∧ decide (badF s = s.size) = true) := ⟨by unfold quoL; rw [if_pos hok], by simpa using hok⟩
    clear hok
    have hO0 : OwnU (w.alloc (.cells #[.int .u8 34] 5)) w.heap.size (.slice (some ⟨w.heap.size, 0, none⟩) 1 1) [34] := Own.block codecU (heap_alloc_at rfl) rfl rfl (Nat.le_refl _) (by decide)
    have hB0 : Below w.heap.size w (w.alloc (.cells #[.int .u8 34] 5)) := (Below.refl _ _).alloc (Nat.le_refl _) _
    go_enter Try.func121, Try.ntmps121
    go_upto_region 4 with (go_at_call 111; refine HB.out.mono ?_; rintro e w1 ⟨rfl, rfl⟩)
    obtain ⟨W0, hW0⟩ : ∃ W0, w.alloc (.cells #[.int .u8 34] 5) = W0 := ⟨_, rfl⟩
    rw [hW0] at hO0 hB0 ⊢
    clear hW0
    go_wp2_with fail
    go_loopw [4, 16] (fun o i wr => ∃ k : Nat, k ≤ s.size ∧ i = .int .i64 k ∧ Hid (OwnU wr w.heap.size o (34 :: quoM (s.data.toList.take k))) ∧ Hid (Below w.heap.size w wr)) (fun _ i _ => s.size - (intOf i).toNat)
    case atStart => exact ⟨0, Nat.zero_le _, rfl, hO0, hB0⟩
    case round =>
      obtain ⟨k, hk, rfl, hown, hbr⟩ := hrel
      by_cases hlt : k < s.size
      · have hget : s.data.toList[k]? = some s[k] := by rw [Array.getElem?_toList]; exact Array.getElem?_eq_getElem hlt
        obtain ⟨c, hc⟩ : ∃ c, s[k] = c := ⟨_, rfl⟩
        have hbang := get_bang s k hlt
        rw [hc] at hget hbang
        have HT := Lib.hid (quoM_take hget)
        have hk0 : (0 : Int) ≤ (k : Int) := Int.natCast_nonneg _
        have hk1 : (k : Int) < (s.size : Int) := by omega
        have HE := Lib.hid (escape_any c)
        clear hget
        obtain ⟨e, he⟩ : ∃ e, escN c.toNat = e := ⟨_, rfl⟩
        rw [he] at HE
        go_upto_region 10 with (go_at_call 138; refine (HE.out _).mono ?_; rintro e w1 ⟨rfl, rfl⟩)
        have hL : (34 :: quoM (s.data.toList.take k)).length ≤ 26388279066625 := by
          have h1 := quoM_len (s.data.toList.take k)
          have h2 : (s.data.toList.take k).length ≤ s.size := by rw [List.length_take]; have := str_len s; omega
          have := HS.out
          simp only [List.length_cons]
          omega
        have HL := Lib.hid hL
        have HB2 := hbr.out.size
        by_cases h0 : e = 0
        · subst h0
          by_cases h32 : c.toNat < 32
          · have HX : Hid (escL c = [92, 117, 48, 48, hexD (c.toNat / 16), hexD (c.toNat % 16)]) := by unfold Hid escL; rw [he, if_neg (by simp), if_pos h32]
            have h33 : ((c.toNat : Int) < 32) := by omega
            have h34 : decide ((c.toNat : Int) < 32) = true := by simp; omega
            go_upto_region 13 with fail
            have m0 : (0 : Int) ≤ (c.toNat : Int) % 16 := by omega
            have m1 : (c.toNat : Int) % 16 < 16 := by omega
            have m2 : (0 : Int) ≤ (c.toNat : Int) / 16 := by omega
            have m3 : (c.toNat : Int) / 16 < 16 := by omega
            have hbits : bits BinOp.and IntKind.u8 (c.toNat : Int) 15 = (c.toNat : Int) % 16 := and15 h32
            have hx1 : ∀ h, (⟨#[48, 49, 50, 51, 52, 53, 54, 55, 56, 57, 97, 98, 99, 100, 101, 102]⟩ : ByteArray)[((c.toNat : Int) / 16).toNat]'h = hexD (c.toNat / 16) := fun h => by
              have e : ((c.toNat : Int) / 16).toNat = c.toNat / 16 := by omega
              simp only [e]
              exact hex_get _ (by omega) _
            have hx2 : ∀ h, (⟨#[48, 49, 50, 51, 52, 53, 54, 55, 56, 57, 97, 98, 99, 100, 101, 102]⟩ : ByteArray)[((c.toNat : Int) % 16).toNat]'h = hexD (c.toNat % 16) := fun h => by
              have e : ((c.toNat : Int) % 16).toNat = c.toNat % 16 := by omega
              simp only [e]
              exact hex_get _ (by omega) _
            obtain ⟨y1, hy1⟩ : ∃ y, hexD (c.toNat / 16) = y := ⟨_, rfl⟩
            obtain ⟨y2, hy2⟩ : ∃ y, hexD (c.toNat % 16) = y := ⟨_, rfl⟩
            rw [hy1] at hx1 HX
            rw [hy2] at hx2 HX
            clear hy1 hy2
            have HO2 := Lib.hid (hown.out.alloc (.cells #[.int .u8 92, .int .u8 117, .int .u8 48, .int .u8 48, .int .u8 y1.toNat, .int .u8 y2.toNat] 5))
            have HR2 : Hid (Rd (wr.alloc (.cells #[.int .u8 92, .int .u8 117, .int .u8 48, .int .u8 48, .int .u8 y1.toNat, .int .u8 y2.toNat] 5)) (wr.alloc (.cells #[.int .u8 92, .int .u8 117, .int .u8 48, .int .u8 48, .int .u8 y1.toNat, .int .u8 y2.toNat] 5)).heap.size encU 1 (.slice (some ⟨wr.heap.size, 0, none⟩) 6 6) [92, 117, 48, 48, y1, y2]) := rd_bytes (by simp) (heap_alloc_at rfl) (by simp [cellsOf, encU]) rfl (by simp [maxLen])
            have HBW := Lib.hid (hbr.out.alloc hbr.out.size (.cells #[.int .u8 92, .int .u8 117, .int .u8 48, .int .u8 48, .int .u8 y1.toNat, .int .u8 y2.toNat] 5))
            clear hown hbr hL he h32
            go_region_held3 (fun _ => True)
              (trivial)
              ((refine step_append_rd slU codecU (wr.alloc (.cells #[.int .u8 92, .int .u8 117, .int .u8 48, .int .u8 48, .int .u8 y1.toNat, .int .u8 y2.toNat] 5)).drew (by rfl) (.tmp 38) (.tmp 45) (by rfl) (by rfl) (by rfl) HO2.out HR2.out (by have := HL.out; unfold maxLen; simp only [List.length_cons, List.length_nil] at this ⊢; omega) (by have := HL.out; simp only [List.length_cons, List.length_nil] at this ⊢; omega) (by simp; omega) ?_; intro v1 w1 ho1 hg1 hat1))
            all_goals
              go_wp2_with fail
              go_roundw
              case rel => exact ⟨k + 1, by omega, by go_num, by unfold Hid; rw [HT.out, HX.out]; exact ho1, Below.appended HBW.out.drew hg1 HO2.out (by simp; omega)⟩
              case measure => simp [intOf]; omega
          · have HX : Hid (escL c = [c]) := by unfold Hid escL; rw [he, if_neg (by simp), if_neg h32]
            have h33 : ¬ ((c.toNat : Int) < 32) := by omega
            have h34 : decide ((c.toNat : Int) < 32) = false := by simp; omega
            have HO2 := Lib.hid (hown.out.alloc (.cells #[.int .u8 c.toNat] 5))
            have HR2 : Hid (Rd (wr.alloc (.cells #[.int .u8 c.toNat] 5)) (wr.heap.size + 1) encU 1 (.slice (some ⟨wr.heap.size, 0, none⟩) 1 1) [c]) := Rd.one codecU (heap_alloc_at rfl) rfl (by omega)
            have HBW := Lib.hid (hbr.out.alloc hbr.out.size (.cells #[.int .u8 c.toNat] 5))
            clear hown hbr hL he h32
            go_wp2_with (at_builtin; refine wpList_append_rd slU codecU _ rfl _ _ rfl rfl rfl HO2.out HR2.out (by have := HL.out; unfold maxLen; simp only [List.length_singleton]; omega) (by have := HL.out; simp only [List.length_singleton]; omega) (by simp; omega) ?_; intro v1 w1 ho1 hg1 hat1)
            go_roundw
            case rel => exact ⟨k + 1, by omega, by go_num, by unfold Hid; rw [HT.out, HX.out]; exact ho1, Below.appended HBW.out hg1 HO2.out (by simp; omega)⟩
            case measure => simp [intOf]; omega
        · have he256 : e < 256 := by rw [← he]; unfold escN; have := c.toNat_lt; repeat' split
                                     all_goals omega
          have HX : Hid (escL c = [92, UInt8.ofNat e]) := by unfold Hid escL; rw [he, if_pos h0]
          have hz : ((e : Int) != 0) = true := by simpa using h0
          have hee : ((UInt8.ofNat e).toNat : Int) = (e : Int) := by simp; omega
          have HO2 := Lib.hid (hown.out.alloc (.cells #[.int .u8 92, .int .u8 e] 5))
          have HR2 : Hid (Rd (wr.alloc (.cells #[.int .u8 92, .int .u8 e] 5)) (wr.alloc (.cells #[.int .u8 92, .int .u8 e] 5)).heap.size encU 1 (.slice (some ⟨wr.heap.size, 0, none⟩) 2 2) [92, UInt8.ofNat e]) := rd_bytes (by simp) (heap_alloc_at rfl) (by simp [cellsOf, encU]; omega) rfl (by simp [maxLen])
          have HBW := Lib.hid (hbr.out.alloc hbr.out.size (.cells #[.int .u8 92, .int .u8 e] 5))
          clear hown hbr hL he h0 he256 hee
          go_wp2_with (at_builtin; refine wpList_append_rd slU codecU _ rfl _ _ rfl rfl rfl HO2.out HR2.out (by have := HL.out; unfold maxLen; simp only [List.length_cons, List.length_nil] at this ⊢; omega) (by have := HL.out; simp only [List.length_cons, List.length_nil] at this ⊢; omega) (by simp; omega) ?_; intro v1 w1 ho1 hg1 hat1)
          go_roundw
          case rel => exact ⟨k + 1, by omega, by go_num, by unfold Hid; rw [HT.out, HX.out]; exact ho1, Below.appended HBW.out hg1 HO2.out (by simp; omega)⟩
          case measure => simp [intOf]; omega
      · obtain rfl : k = s.size := by omega
        have hta : s.data.toList.take s.size = s.data.toList := List.take_of_length_le (by rw [str_len]; omega)
        rw [hta] at hown
        have hL : (34 :: quoM s.data.toList).length ≤ 26388279066625 := by
          have h1 := quoM_len s.data.toList
          have h2 := str_len s
          have := HS.out
          simp only [List.length_cons]
          omega
        have HL := Lib.hid hL
        have HB2 := hbr.out.size
        have HO2 := Lib.hid (hown.out.alloc (.cells #[.int .u8 34] 5))
        have HR2 : Hid (Rd (wr.alloc (.cells #[.int .u8 34] 5)) (wr.heap.size + 1) encU 1 (.slice (some ⟨wr.heap.size, 0, none⟩) 1 1) [34]) := Rd.one codecU (heap_alloc_at rfl) rfl (by omega)
        have HBW := Lib.hid (hbr.out.alloc hbr.out.size (.cells #[.int .u8 34] 5))
        clear hown hbr hL hta
        go_wp2_with (at_builtin; refine wpList_append_rd slU codecU _ rfl _ _ rfl rfl rfl HO2.out HR2.out (by have := HL.out; unfold maxLen; simp only [List.length_singleton]; omega) (by have := HL.out; simp only [List.length_singleton]; omega) (by simp; omega) ?_; intro v1 w1 ho1 hg1 hat1; have hcv := str_of_own ho1)
        go_ret2
        exact ⟨by rw [HQ.out.1, HQ.out.2]; rfl, Below.appended HBW.out hg1 HO2.out (by simp; omega)⟩
  · have hne : ((badF s : Int) != (s.size : Int)) = true := by simp; omega
    have HQ : Hid (quoL s = [] ∧ decide (badF s = s.size) = false) := ⟨by unfold quoL; rw [if_neg hok], by simpa using hok⟩
    clear hok
    go_enter Try.func121, Try.ntmps121
    go_wp2_with (go_at_call 111; refine HB.out.mono ?_; rintro e w1 ⟨rfl, rfl⟩)
    go_ret2
    exact ⟨by rw [HQ.out.1, HQ.out.2]; rfl, Below.refl _ _⟩
end Go.Proofs.Ythgkgjcnmahacaa
end

section
/- nums.digit and nums.Put: a whole number in digits, walked. -/
set_option linter.unusedSimpArgs false
set_option linter.unusedVariables false
namespace Go.Proofs.Ythgkgjcnmahacaa
open Go Go.RowKit Go.OpenShut

/-- A number's digits. -/
def natD (n : Nat) : List UInt8 := if n < 10 then [UInt8.ofNat (48 + n)] else natD (n / 10) ++ [UInt8.ofNat (48 + n % 10)]
termination_by n
decreasing_by omega
theorem natD_low {n : Nat} (h : n / 10 = 0) : natD n = [UInt8.ofNat (48 + n % 10)] := by
  rw [natD, if_pos (by omega), Nat.mod_eq_of_lt (by omega)]
theorem natD_high {n : Nat} (h : n / 10 ≠ 0) : natD n = natD (n / 10) ++ [UInt8.ofNat (48 + n % 10)] := by
  rw [natD, if_neg (by omega)]
theorem natD_len : ∀ (k n : Nat), n < 10 ^ (k + 1) → (natD n).length ≤ k + 1
  | 0, n, h => by rw [natD, if_pos (by simpa using h)]; simp
  | k + 1, n, h => by
    by_cases h0 : n / 10 = 0
    · rw [natD_low h0]; simp
    · rw [natD_high h0, List.length_append, List.length_singleton]
      have := natD_len k (n / 10) (by rw [Nat.div_lt_iff_lt_mul (by decide)]; rw [Nat.pow_succ] at h; omega)
      omega
/-- A whole number in digits. -/
def numL (n : Int) : List UInt8 := (if n < 0 then [45] else []) ++ natD n.natAbs
theorem natD_19 {n : Int} (h : (Lit.int .i64 n).wf = true) : (natD n.natAbs).length ≤ 19 := by
  have := bounds_i64 h
  exact natD_len 18 _ (by omega)
theorem numL_len {n : Int} (h : (Lit.int .i64 n).wf = true) : (numL n).length ≤ 20 := by
  unfold numL
  have := natD_19 h
  split <;> simp <;> omega

set_option maxRecDepth 100000 in
theorem digit_any (d : Int) (h1 : -9 ≤ d) (h2 : d ≤ 9) (w : World) : Calls Try.prog 120 #[.int .i64 d] w fun e w' => e = .returned (.int .u8 (48 + d.natAbs : Nat)) ∧ w = w' := by
  by_cases h : d < 0
  · have hw : IntKind.u8.wrap (48 - d) = 48 - d := by simp [IntKind.wrap, go_sem]; omega
    go_enter Try.func120, Try.ntmps120
    go_wp2_with fail
    go_ret
    exact ⟨ret_int1 (by omega), rfl⟩
  · have hw : IntKind.u8.wrap (48 + d) = 48 + d := by simp [IntKind.wrap, go_sem]; omega
    go_enter Try.func120, Try.ntmps120
    go_wp2_with fail
    go_ret
    exact ⟨ret_int1 (by omega), rfl⟩

/-- The last cells of an array of twenty are these bytes. -/
def NumAt (W : World) (g : Nat) (l : List UInt8) : Prop := ∃ cs : List Value, W.heap[g]? = some (.cells cs.toArray 169 (0, 0)) ∧ cs.length = 20 ∧ l.length ≤ 20 ∧ cs.drop (20 - l.length) = cellsOf encU l
theorem NumAt.frozen {W : World} {g : Nat} {l : List UInt8} (h : NumAt W g l) (q : Nat) : W.frozen? ⟨g, q, none⟩ = false := by
  obtain ⟨cs, h1, _⟩ := h
  simp [World.frozen?, h1]
theorem NumAt.cell {W : World} {g : Nat} {l : List UInt8} (h : NumAt W g l) {q : Nat} (hq : q < 20) : ∃ v, W.cell? ⟨g, q, none⟩ = some v := by
  obtain ⟨cs, h1, h2, _⟩ := h
  rw [cell_of_row W g q _ _ _ h1]
  exact ⟨cs[q], by simp⟩
theorem NumAt.store {W : World} {g : Nat} {l : List UInt8} (h : NumAt W g l) {q : Nat} (hq : l.length + q + 1 = 20) (c : UInt8) : NumAt (W.setCell ⟨g, q, none⟩ (.int .u8 c.toNat)) g (c :: l) := by
  obtain ⟨cs, h1, h2, h3, h4⟩ := h
  refine ⟨cs.set q (.int .u8 c.toNat), ?_, by simpa using h2, by simp; omega, ?_⟩
  · simp [World.setCell, Array.getElem?_modify, h1]
  · have e1 : 20 - (c :: l).length = q := by simp; omega
    have e2 : 20 - l.length = q + 1 := by omega
    rw [e1]
    rw [e2] at h4
    rw [List.drop_eq_getElem_cons (by simp; omega), List.drop_set_of_lt (by omega), h4]
    simp [cellsOf, encU]
theorem NumAt.str {W : World} {g : Nat} {l : List UInt8} (h : NumAt W g l) {p n : Nat} (hp : l.length + p = 20) (hn : n = l.length) (c : Nat) : (convert 112 9 (.slice (some ⟨g, p, none⟩) n c)).run Try.prog W = .ok (.string (toB l)) W := by
  subst hn
  obtain ⟨cs, h1, h2, h3, h4⟩ := h
  refine run_convert_bytes_back W _ _ _ _ c l Try.underlying112 Try.underlying5 Try.underlying9 (fun j hj => ?_)
  have e : (⟨g, p, none⟩ : Addr).add j = ⟨g, p + j, none⟩ := by simp [Addr.add]
  rw [e, cell_of_row W g (p + j) _ _ _ h1]
  have e2 : 20 - l.length = p := by omega
  rw [e2] at h4
  have h5 := congrArg (fun x => x[j]?) h4
  simp only [List.getElem?_drop] at h5
  rw [← Array.getElem?_toList]
  simp only [h5]
  rw [cells_bytes, List.getElem?_map, List.getElem?_eq_getElem hj]
  rfl

theorem slice20 (W : World) (g q : Nat) (hq : q < 20) : (Instr.sliceAt 169 (.pointer (some ⟨g, 0, none⟩)) (some (.int .i64 (q : Int))) none none).run Try.prog W = .ok (.slice (some ⟨g, q, none⟩) (20 - q) (20 - q)) W := by
  have hal : Try.prog.arrayLen 169 = 20 := by kernel_rfl
  have hel : Try.prog.elem 169 = 5 := by kernel_rfl
  have hty : Try.prog.underlying 169 = some (.array (Try.prog.arrayLen 169) (Try.prog.elem 169)) := by kernel_rfl
  have hsz : ∀ w : World, (Go.sizeOf 5).run Try.prog w = .ok 1 w := fun w => by
    obtain ⟨i, hi, hz, hs1, hby⟩ := info_parts infoU
    simp [Go.sizeOf, typeInfo, hi, hs1]
  rw [run_sliceAt_array_l (P := Try.prog) W 169 ⟨g, 0, none⟩ hty .i64 (q : Int) (by omega) (by rw [hal]; omega), hel, hsz]
  simp only [Result.andThen_ok, hal, slicedAt, Int.toNat_natCast, Nat.mul_one]
  rw [if_neg (by omega)]
  simp [Addr.add]
  try omega
def PutRet (w : World) (n : Int) (e : Ending) (w' : World) : Prop := e = .returned (.string (toB (numL n))) ∧ Below w.heap.size w w'
set_option maxRecDepth 100000 in
set_option maxHeartbeats 4000000 in
theorem put_any3 (n : Int) (w : World) (hn : (Lit.int .i64 n).wf = true) : Calls Try.prog 104 #[.int .i64 n] w (PutRet w n) := by
  have h19 := natD_19 hn
  have hbd := bounds_i64 hn
  have hN0 : NumAt (w.alloc (.cells #[.int .u8 0, .int .u8 0, .int .u8 0, .int .u8 0, .int .u8 0, .int .u8 0, .int .u8 0, .int .u8 0, .int .u8 0, .int .u8 0, .int .u8 0, .int .u8 0, .int .u8 0, .int .u8 0, .int .u8 0, .int .u8 0, .int .u8 0, .int .u8 0, .int .u8 0, .int .u8 0] 169)) w.heap.size [] :=
    ⟨[.int .u8 0, .int .u8 0, .int .u8 0, .int .u8 0, .int .u8 0, .int .u8 0, .int .u8 0, .int .u8 0, .int .u8 0, .int .u8 0, .int .u8 0, .int .u8 0, .int .u8 0, .int .u8 0, .int .u8 0, .int .u8 0, .int .u8 0, .int .u8 0, .int .u8 0, .int .u8 0], heap_alloc_at rfl, rfl, by simp, rfl⟩
  have hB0 : Below w.heap.size w (w.alloc (.cells #[.int .u8 0, .int .u8 0, .int .u8 0, .int .u8 0, .int .u8 0, .int .u8 0, .int .u8 0, .int .u8 0, .int .u8 0, .int .u8 0, .int .u8 0, .int .u8 0, .int .u8 0, .int .u8 0, .int .u8 0, .int .u8 0, .int .u8 0, .int .u8 0, .int .u8 0, .int .u8 0] 169)) := (Below.refl _ _).alloc (Nat.le_refl _) _
  have H19 := Lib.hid h19
  have HN0 := Lib.hid hN0
  have HB0 := Lib.hid hB0
  clear h19 hN0 hB0 hn
  go_enter Try.func104, Try.ntmps104
  go_upto_region 3 with fail
  obtain ⟨W0, hW0⟩ : ∃ W0, (w.alloc (.cells #[.int .u8 0, .int .u8 0, .int .u8 0, .int .u8 0, .int .u8 0, .int .u8 0, .int .u8 0, .int .u8 0, .int .u8 0, .int .u8 0, .int .u8 0, .int .u8 0, .int .u8 0, .int .u8 0, .int .u8 0, .int .u8 0, .int .u8 0, .int .u8 0, .int .u8 0, .int .u8 0] 169)) = W0 := ⟨_, rfl⟩
  rw [hW0] at HN0 HB0 ⊢
  clear hW0
  go_wp2_with fail
  go_loopw [4, 5] (fun a r wr => ∃ (q : Nat) (m : Int) (l : List UInt8), l.length + q + 1 = 20 ∧ a = .int .i64 ((q : Int) + 1) ∧ r = .int .i64 m ∧ -9223372036854775808 ≤ m ∧ m ≤ 9223372036854775807 ∧ Hid (natD n.natAbs = natD m.natAbs ++ l) ∧ Hid (NumAt wr w.heap.size l) ∧ Hid (Below w.heap.size w wr)) (fun _ r _ => (intOf r).natAbs)
  case atStart => exact ⟨19, n, [], rfl, rfl, rfl, hbd.1, hbd.2, by simp [Hid], HN0.out, HB0.out⟩
  case round =>
    obtain ⟨q, m, l, hq, rfl, rfl, hm1, hm2, hd, hna, hbr⟩ := hrel
    have hq0 : (0 : Int) ≤ (q : Int) := Int.natCast_nonneg _
    have hq20 : (q : Int) < 20 := by omega
    have hqn : q < 20 := by omega
    have hw1 : IntKind.i64.wrap ((q : Int) + 1 - 1) = (q : Int) := by rw [IntKind.wrap_i64]; omega
    have hta : (m.tmod 10).natAbs = m.natAbs % 10 := Int.natAbs_tmod m 10
    have htd : (m.tdiv 10).natAbs = m.natAbs / 10 := Int.natAbs_tdiv m 10
    have hdg : Hid (∀ w : World, Calls Try.prog 120 #[.int .i64 (m.tmod 10)] w fun e w' => e = .returned (.int .u8 (48 + (m.tmod 10).natAbs : Nat)) ∧ w = w') := fun w => digit_any (m.tmod 10) (by omega) (by omega) w
    obtain ⟨v0, hv0⟩ := hna.out.cell hqn
    have hf0 := hna.out.frozen q
    have hc8 : ((UInt8.ofNat (48 + m.natAbs % 10)).toNat : Int) = 48 + (m.natAbs : Int) % 10 := by simp; omega
    have hst := hna.out.store hq (UInt8.ofNat (48 + m.natAbs % 10))
    rw [hc8] at hst
    have HST := Lib.hid hst
    have HBW := Lib.hid (hbr.out.setCell (p := ⟨w.heap.size, q, none⟩) (Nat.le_refl _) (.int .u8 (48 + (m.natAbs : Int) % 10)))
    clear hst hc8
    go_upto_region 7 with (go_at_call 120; refine (hdg.out _).mono ?_; rintro e w1 ⟨rfl, rfl⟩)
    obtain ⟨W1, hW1⟩ : ∃ W1, (wr.setCell ⟨w.heap.size, q, none⟩ (.int .u8 (48 + (m.natAbs : Int) % 10))) = W1 := ⟨_, rfl⟩
    rw [hW1] at HST HBW ⊢
    clear hW1 hv0 hf0 hna hbr hdg hw1
    have hw2 : IntKind.i64.wrap (m.tdiv 10) = m.tdiv 10 := by rw [IntKind.wrap_i64] <;> omega
    by_cases h0 : m.natAbs / 10 = 0
    · have hz : (m.tdiv 10 == 0) = true := by simp; omega
      have HD : Hid (natD n.natAbs = UInt8.ofNat (48 + m.natAbs % 10) :: l) := by have := hd.out; rw [natD_low h0] at this; exact this
      have h19 := H19.out
      rw [HD.out] at h19
      simp only [List.length_cons] at h19
      obtain ⟨c1, hc1⟩ : ∃ c, UInt8.ofNat (48 + m.natAbs % 10) = c := ⟨_, rfl⟩
      rw [hc1] at HD HST
      clear hd h0 hta htd hc1
      by_cases hneg : n < 0
      · have hgn : ((45 : UInt8).toNat : Int) = 45 := rfl
        obtain ⟨q, rfl⟩ : ∃ q', q = q' + 1 := ⟨q - 1, by omega⟩
        have hw3 : IntKind.i64.wrap ((q : Int) + 1 - 1) = (q : Int) := by rw [IntKind.wrap_i64]; omega
        have hw4 : (q : Int) + 1 - 1 = (q : Int) := by omega
        have hqq : (q : Int) < 20 := by omega
        have hqq0 : (0 : Int) ≤ (q : Int) := Int.natCast_nonneg _
        obtain ⟨v1, hv1⟩ := HST.out.cell (q := q) (by omega)
        have hf1 := HST.out.frozen q
        have HS2 : Hid (NumAt (W1.setCell ⟨w.heap.size, q, none⟩ (.int .u8 45)) w.heap.size (45 :: c1 :: l)) := HST.out.store (q := q) (by simp; omega) 45
        have HB2 : Hid (Below w.heap.size w (W1.setCell ⟨w.heap.size, q, none⟩ (.int .u8 45))) := HBW.out.setCell (p := ⟨w.heap.size, q, none⟩) (Nat.le_refl _) _
        have hcv := HS2.out.str (p := q) (n := 20 - q) (by simp; omega) (by simp; omega) (20 - q)
        have HP : Hid (numL n = 45 :: c1 :: l) := by unfold Hid numL; rw [if_pos hneg, HD.out]; rfl
        have hq3 : (20 : Int) - (q : Int) = ((20 - q : Nat) : Int) := by omega
        have hsl := slice20 (W1.setCell ⟨w.heap.size, q, none⟩ (.int .u8 45)) w.heap.size q (by omega)
        push_cast
        go_wp2_with fail
        go_ret
        exact ⟨by rw [HP.out]; rfl, HB2.out⟩
      · have hcv := HST.out.str (p := q) (n := 20 - q) (by simp; omega) (by simp; omega) (20 - q)
        have HP : Hid (numL n = c1 :: l) := by unfold Hid numL; rw [if_neg hneg, HD.out]; rfl
        have hsl := slice20 W1 w.heap.size q hqn
        go_wp2_with fail
        go_ret
        exact ⟨by rw [HP.out]; rfl, HBW.out⟩
    · have hz : (m.tdiv 10 == 0) = false := by simp; omega
      have HD : Hid (natD n.natAbs = natD (m.tdiv 10).natAbs ++ (UInt8.ofNat (48 + m.natAbs % 10) :: l)) := by have := hd.out; rw [natD_high h0] at this; unfold Hid; rw [htd, this]; simp
      have h19 := H19.out
      rw [HD.out] at h19
      simp only [List.length_append, List.length_cons] at h19
      have hln : 1 ≤ (natD (m.tdiv 10).natAbs).length := by rw [natD]; split <;> simp
      obtain ⟨q, rfl⟩ : ∃ q', q = q' + 1 := ⟨q - 1, by omega⟩
      have hk1 : -9223372036854775808 ≤ m.tdiv 10 := by omega
      have hk2 : m.tdiv 10 ≤ 9223372036854775807 := by omega
      clear hd
      go_wp2_with fail
      go_roundw
      case rel => exact ⟨q, m.tdiv 10, _, by simp; omega, by push_cast; rfl, rfl, hk1, hk2, HD, HST, HBW⟩
      case measure => (have : (m.tdiv 10).natAbs < m.natAbs := by omega); exact this
end Go.Proofs.Ythgkgjcnmahacaa
end
