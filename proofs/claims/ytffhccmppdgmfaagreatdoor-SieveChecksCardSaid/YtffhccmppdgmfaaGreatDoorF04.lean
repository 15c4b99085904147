import Derived.Test.YtffhccmppdgmfaaGreatDoorF02
import Derived.Test.YtffhccmppdgmfaaGreatDoorF00
import Derived.Shelf.Strings.Search3
import Derived.Test.YtffhccmppdgmfaaGreatDoorProg
import Derived.Shelf.Small.Strs
import Derived.Shelf.Strings.Prefix
set_option linter.unusedSimpArgs false
set_option linter.unusedVariables false
set_option maxRecDepth 200000
set_option maxHeartbeats 8000000
namespace Go.Proofs.YtffhccmppdgmfaaGreatDoor
section
open Go.RowKit Go.OpenShut
mutual
def countT : JV -> Nat
 | .mk _ _ _ l m => 1 + countL l + countM m
def countL : List JV -> Nat
 | [] => 0
 | t :: l => countT t + countL l
def countM : List (ByteArray × JV) -> Nat
 | [] => 0
 | (_, t) :: m => countT t + countM m
end
theorem countL_take {l : List JV} {j : Nat} {t : JV} (h : l[j]? = some t) : countL (l.take (j + 1)) = countL (l.take j) + countT t := by
 induction l generalizing j with
 | nil => simp at h
 | cons a l ih =>
   cases j with
   | zero =>
     simp at h
     subst h
     simp [countL]
   | succ j =>
     rw [List.getElem?_cons_succ] at h
     rw [List.take_succ_cons, List.take_succ_cons]
     unfold countL
     rw [ih h]
     omega
theorem countM_take {m : List (ByteArray × JV)} {j : Nat} {p : ByteArray × JV} (h : m[j]? = some p) : countM (m.take (j + 1)) = countM (m.take j) + countT p.2 := by
 induction m generalizing j with
 | nil => simp at h
 | cons a m ih =>
   obtain ⟨a, b⟩ := a
   cases j with
   | zero =>
     simp at h
     subst h
     simp [countM]
   | succ j =>
     rw [List.getElem?_cons_succ] at h
     rw [List.take_succ_cons, List.take_succ_cons]
     unfold countM
     rw [ih h]
     omega
def CountRet (w : World) (t : JV) (e : Ending) (w' : World) : Prop := e = .returned (.int .i64 (IntKind.i64.wrap (countT t))) /\ Below w.heap.size w w'
theorem wrap_step (a b c : Int) (h : a + b = c) : wrap64 (IntKind.i64.wrap a + wrap64 b) = IntKind.i64.wrap c := by
 subst h
 rw [IntKind.wrap_i64, IntKind.wrap_i64]
 unfold wrap64
 omega
theorem countT_any (N : Nat) : ∀ (t : JV) (r : RV) (w : World), SizeOf.sizeOf t <= N -> TreeOf w w.heap.size t r -> t.Ok ->
 Calls Tryz.prog 28 #[r.val] w (CountRet w t) := by
 induction N with
 | zero => intro t r w hN; cases t; simp at hN
 | succ N ih =>
   intro t r w hN ht ot
   cases ht with
   | @mk _ l m rs rms hl el hcl hm em hcn hcm =>
   obtain ⟨k, n, s, pl, nl, cl, pm, nm, cm⟩ := r
   cases ot with
   | mk _ _ _ bl bm okl oks okm =>
   dsimp only [RV.val] at *
   have eL := rd_nlen hl
   have eM := rd_nlen hm
   have HT : Hid (∀ (i : Nat) t q, l[i]? = some t -> rs[i]? = some q -> ∀ W, Below w.heap.size w W -> Calls Tryz.prog 28 #[q.val] W (CountRet W t)) :=
    fun i t q h1 h2 W hb => ih t q W (by have := JV.lt_l (k := k) (n := n) (s := s) (m := m) h1; omega) ((hcl i t q h1 h2).under hb hb.size) (okl i t h1)
   have HS : Hid (∀ (i : Nat) p q, m[i]? = some p -> rms[i]? = some q -> ∀ W, Below w.heap.size w W -> Calls Tryz.prog 28 #[q.v.val] W (CountRet W p.2)) :=
    fun i p q h1 h2 W hb => ih p.2 q.v W (by have := JV.lt_m (k := k) (n := n) (s := s) (l := l) h1; omega) ((hcm i p q h1 h2).under hb hb.size) (okm i p h1)
   have HL := Lib.hid hl
   have HM := Lib.hid hm
   have E1 : Hid (l.length = nl /\ rs.length = nl) := ⟨by omega, by omega⟩
   have E2 : Hid (m.length = nm /\ rms.length = nm) := ⟨by omega, by omega⟩
   have hnl : nl <= 1759218604390 := by omega
   have hnm : nm <= 1466015503658 := by omega
   have hA0 : VAt (w.alloc (.cells #[.int .i64 k, .int .i64 n, .string s, .slice pl nl cl, .slice pm nm cm] 25)) w.heap.size ⟨k, n, s, pl, nl, cl, pm, nm, cm⟩ := heap_alloc_at rfl
   have hB0 : Below w.heap.size w (w.alloc (.cells #[.int .i64 k, .int .i64 n, .string s, .slice pl nl cl, .slice pm nm cm] 25)) := (Below.refl _ _).alloc (Nat.le_refl _) _
   clear ih hcl hcn hcm hl hm okl oks okm el em bl bm eL eM hN
   go_enter Tryz.func28, Tryz.ntmps28
   go_upto_region 1 with fail
   obtain ⟨W0, hW0⟩ : ∃ W0, (w.alloc (.cells #[.int .i64 k, .int .i64 n, .string s, .slice pl nl cl, .slice pm nm cm] 25)) = W0 := ⟨_, rfl⟩
   rw [hW0] at hA0 hB0 ⊢
   clear hW0
   have hz := hA0.lt
   have c3 := hA0.cell 3 rfl
   have c4 := hA0.cell 4 rfl
   dsimp only at c3 c4
   clear hA0
   go_wp2_with fail
   go_loopw [3, 11] (fun a i wr => ∃ (g : Int) (j : Nat), j <= nl /\ a = .int .i64 g /\ i = .int .i64 j /\ Hid (g = IntKind.i64.wrap ((1 + countL (l.take j) : Nat) : Int)) /\ Below W0.heap.size W0 wr) (fun _ i _ => nl - (intOf i).toNat)
   case atStart => exact ⟨1, 0, Nat.zero_le _, rfl, rfl, by unfold Hid; simp [countL]; decide, Below.refl _ _⟩
   case round =>
    obtain ⟨g, j, hj, rfl, rfl, hg, hbr⟩ := hrel
    have hbw : Below w.heap.size w wr := hB0.trans (hbr.mono hB0.size)
    by_cases hlt : j < nl
    ·obtain ⟨tx, htx⟩ : ∃ x, l[j]? = some x := ⟨_, List.getElem?_eq_getElem (by have := E1.out; omega)⟩
     obtain ⟨x, hx⟩ : ∃ x, rs[j]? = some x := ⟨_, List.getElem?_eq_getElem (by have := E1.out; omega)⟩
     obtain ⟨b1, o1, rfl, hb1, hc1⟩ := rd_at' (HL.out.below hbw (Nat.le_refl _)) hx
     have f0 := hc1 0 _ rfl
     have f1 := hc1 1 _ rfl
     have f2 := hc1 2 _ rfl
     have f3 := hc1 3 _ rfl
     have f4 := hc1 4 _ rfl
     rw [Nat.add_zero] at f0
     have HC := Lib.hid (HT.out j tx x htx hx)
     have HTX := Lib.hid (countL_take htx)
     have hk0 : (0 : Int) <= (j : Int) := Int.natCast_nonneg _
     have hk1 : (j : Int) < (nl : Int) := by omega
     have HBR := Lib.hid hbr
     have hbx : Below w.heap.size w (wr.alloc (.cells #[.int .i64 x.k, .int .i64 x.n, .string x.s, .slice x.pl x.nl x.cl, .slice x.pm x.nm x.cm] 25)) := hbw.alloc hbw.size _
     have HBX := Lib.hid hbx
     clear hc1 htx hx hbr hbx
     go_wp2_with (go_at_call 28; refine (HC.out _ HBX.out).mono ?_; rintro e w1 ⟨rfl, hb1'⟩)
     go_roundw
     case rel =>
      refine ⟨_, j + 1, by omega, rfl, by go_num, ?_, (HBR.out.alloc HBR.out.size _).trans (hb1'.mono (by have := HBR.out.size; simp; omega))⟩
      unfold Hid
      rw [HTX.out, hg.out]
      exact wrap_step _ _ _ (by omega)
     case measure => simp [intOf]; omega
    ·obtain rfl : j = nl := by omega
     have c4 := bcs hbr hz c4
     have hsz : W0.heap.size <= wr.heap.size := hbr.size
     have hg2 : Hid (g = IntKind.i64.wrap ((1 + countL l : Nat) : Int)) := by
      have h := hg.out
      rw [List.take_of_length_le (by have := E1.out; omega)] at h
      exact h
     clear HT HL E1 hbr hg c3
     obtain ⟨wo, rfl⟩ : ∃ wo : World, wo = wr := ⟨_, rfl⟩
     go_wp2_with fail
     go_loopw [3, 23] (fun a i wr => ∃ (g : Int) (j : Nat), j <= nm /\ a = .int .i64 g /\ i = .int .i64 j /\ Hid (g = IntKind.i64.wrap ((1 + countL l + countM (m.take j) : Nat) : Int)) /\ Below wo.heap.size wo wr) (fun _ i _ => nm - (intOf i).toNat)
     case atStart => exact ⟨g, 0, Nat.zero_le _, rfl, rfl, by unfold Hid; simpa [countM] using hg2.out, Below.refl _ _⟩
     case round =>
      obtain ⟨g, j, hj, rfl, rfl, hg, hbr⟩ := hrel
      have hbw2 : Below w.heap.size w wr := hbw.trans (hbr.mono (by omega))
      by_cases hlt : j < nm
      ·obtain ⟨tx, htx⟩ : ∃ x, m[j]? = some x := ⟨_, List.getElem?_eq_getElem (by have := E2.out; omega)⟩
       obtain ⟨x, hx⟩ : ∃ x, rms[j]? = some x := ⟨_, List.getElem?_eq_getElem (by have := E2.out; omega)⟩
       obtain ⟨b1, o1, rfl, hb1, hc1⟩ := rd_at' (HM.out.below hbw2 (Nat.le_refl _)) hx
       have f0 := hc1 0 _ rfl
       have f1 := hc1 1 _ rfl
       have f2 := hc1 2 _ rfl
       have f3 := hc1 3 _ rfl
       have f4 := hc1 4 _ rfl
       have f5 := hc1 5 _ rfl
       rw [Nat.add_zero] at f0
       have HC := Lib.hid (HS.out j tx x htx hx)
       have HTX := Lib.hid (countM_take htx)
       have hk0 : (0 : Int) <= (j : Int) := Int.natCast_nonneg _
       have hk1 : (j : Int) < (nm : Int) := by omega
       have HBR := Lib.hid hbr
       have hbx : Below w.heap.size w (wr.alloc (.cells #[.string x.name, .int .i64 x.v.k, .int .i64 x.v.n, .string x.v.s, .slice x.v.pl x.v.nl x.v.cl, .slice x.v.pm x.v.nm x.v.cm] 32)) := hbw2.alloc hbw2.size _
       have HBX := Lib.hid hbx
       clear hc1 htx hx hbr hbx
       go_wp2_with (go_at_call 28; refine (HC.out _ HBX.out).mono ?_; rintro e w1 ⟨rfl, hb1'⟩)
       go_roundw
       case rel =>
        refine ⟨_, j + 1, by omega, rfl, by go_num, ?_, (HBR.out.alloc HBR.out.size _).trans (hb1'.mono (by have := HBR.out.size; simp; omega))⟩
        unfold Hid
        rw [HTX.out, hg.out]
        exact wrap_step _ _ _ (by omega)
       case measure => simp [intOf]; omega
      ·obtain rfl : j = nm := by omega
       go_wp2_with fail
       go_ret
       refine ⟨?_, hbw2⟩
       have h := hg.out
       rw [List.take_of_length_le (by have := E2.out; omega)] at h
       show Ending.returned (.int .i64 g) = _
       rw [h]
       unfold countT
       rfl
end
section
open Go Go.RowKit
structure Tok where
 kind : Int
 n : Int
 s : ByteArray
 pos : Nat
def encTok (t : Tok) : List Value := [.int .i64 t.kind, .int .i64 t.n, .string t.s, .int .i64 t.pos]
theorem codecTok : Codec encTok 4 := ⟨fun _ => rfl, fun x u hu => by
 simp only [encTok, List.mem_cons, List.not_mem_nil, or_false] at hu
 rcases hu with rfl | rfl | rfl | rfl <;> rfl, by decide⟩
def okCh (c : UInt8) : Bool := decide (32 <= c.toNat) && decide (c.toNat < 128) && decide (c.toNat ≠ 34) && decide (c.toNat ≠ 92)
def spCh (c : UInt8) : Bool := decide (c.toNat = 32) || decide (c.toNat = 9) || decide (c.toNat = 10) || decide (c.toNat = 13)
def mkCh (c : UInt8) : Bool := decide (c.toNat = 123) || decide (c.toNat = 125) || decide (c.toNat = 91) || decide (c.toNat = 93) || decide (c.toNat = 58) || decide (c.toNat = 44)
def wTrue : ByteArray := ⟨#[116, 114, 117, 101]⟩
def wFalse : ByteArray := ⟨#[102, 97, 108, 115, 101]⟩
def wNull : ByteArray := ⟨#[110, 117, 108, 108]⟩
def partCh (c : UInt8) : Bool := decide (97 <= c.toNat) && decide (c.toNat <= 122) || decide (65 <= c.toNat) && decide (c.toNat <= 90) || decide (48 <= c.toNat) && decide (c.toNat <= 57) || decide (c.toNat = 95)
def wordAt (s : ByteArray) (i : Nat) (w : ByteArray) : Bool := decide ((s.data.toList.drop i).take w.size = w.data.toList) && (decide (i + w.size = s.size) || (decide (i + w.size < s.size) && !partCh s[i + w.size]!))
def cutB (s : ByteArray) (a b : Nat) : ByteArray := ⟨((s.data.toList.drop a).take (b - a)).toArray⟩
def endT (s : ByteArray) : Nat -> Nat -> Nat
 | 0, i => i
 | f + 1, i => if decide (i < s.size) && okCh s[i]! then endT s f (i + 1) else i
inductive Toks (s : ByteArray) : Nat -> List Tok -> Prop
 | done : Toks s s.size []
 | space {i : Nat} {l : List Tok} : i < s.size -> spCh s[i]! = true -> Toks s (i + 1) l -> Toks s i l
 | mark {i : Nat} {l : List Tok} : i < s.size -> mkCh s[i]! = true -> Toks s (i + 1) l -> Toks s i (⟨1, 0, ⟨#[s[i]!]⟩, i⟩ :: l)
 | text {i j : Nat} {l : List Tok} : i < j -> j < s.size -> s[i]!.toNat = 34 -> (∀ k, i < k -> k < j -> okCh s[k]! = true) -> s[j]!.toNat = 34 -> Toks s (j + 1) l -> Toks s i (⟨4, 0, cutB s (i + 1) j, i⟩ :: l)
 | num {i : Nat} {l : List Tok} : i + 1 < s.size -> 49 <= s[i]!.toNat -> s[i]!.toNat <= 57 -> s[i + 1]!.toNat = 125 -> Toks s (i + 1) l -> Toks s i (⟨3, (s[i]!.toNat : Int) - 48, ⟨#[]⟩, i⟩ :: l)
 | word {i : Nat} {w : ByteArray} {l : List Tok} : w = wTrue \/ w = wFalse \/ w = wNull -> i < s.size -> wordAt s i w = true -> Toks s (i + w.size) l -> Toks s i (⟨2, 0, w, i⟩ :: l)
def toksF (s : ByteArray) : Nat -> Nat -> Option (List Tok)
 | 0, _ => none
 | f + 1, i =>
   if i < s.size then
    if spCh s[i]! then toksF s f (i + 1)
    else if mkCh s[i]! then (toksF s f (i + 1)).map (⟨1, 0, ⟨#[s[i]!]⟩, i⟩ :: ·)
    else if s[i]!.toNat = 34 then
     if decide (endT s s.size (i + 1) < s.size) && decide (s[endT s s.size (i + 1)]!.toNat = 34) then (toksF s f (endT s s.size (i + 1) + 1)).map (⟨4, 0, cutB s (i + 1) (endT s s.size (i + 1)), i⟩ :: ·) else none
    else if wordAt s i wTrue then (toksF s f (i + wTrue.size)).map (⟨2, 0, wTrue, i⟩ :: ·)
    else if wordAt s i wFalse then (toksF s f (i + wFalse.size)).map (⟨2, 0, wFalse, i⟩ :: ·)
    else if wordAt s i wNull then (toksF s f (i + wNull.size)).map (⟨2, 0, wNull, i⟩ :: ·)
    else if i + 1 < s.size /\ 49 <= s[i]!.toNat /\ s[i]!.toNat <= 57 /\ s[i + 1]!.toNat = 125 then (toksF s f (i + 1)).map (⟨3, (s[i]!.toNat : Int) - 48, ⟨#[]⟩, i⟩ :: ·)
    else none
   else if i = s.size then some [] else none
theorem endT_ok (s : ByteArray) : ∀ (f i : Nat), i <= endT s f i /\ ∀ k, i <= k -> k < endT s f i -> okCh s[k]! = true
 | 0, i => ⟨Nat.le_refl _, fun k h1 h2 => by unfold endT at h2; omega⟩
 | f + 1, i => by
   unfold endT
   split
   ·rename_i h
    rw [Bool.and_eq_true] at h
    have ih := endT_ok s f (i + 1)
    refine ⟨by omega, fun k h1 h2 => ?_⟩
    by_cases e : k = i
    ·subst e; exact h.2
    ·exact ih.2 k (by omega) h2
   ·exact ⟨Nat.le_refl _, fun k h1 h2 => by omega⟩
theorem toksF_ok (s : ByteArray) : ∀ (f i : Nat) (l : List Tok), toksF s f i = some l -> Toks s i l
 | 0, i, l, h => by simp [toksF] at h
 | f + 1, i, l, h => by
   unfold toksF at h
   split at h
   ·rename_i h0
    split at h
    ·rename_i h1
     exact .space h0 h1 (toksF_ok s f _ l h)
    ·split at h
     ·rename_i h2
      obtain ⟨l', h3, rfl⟩ := Option.map_eq_some_iff.1 h
      exact .mark h0 h2 (toksF_ok s f _ l' h3)
     ·split at h
      ·rename_i h2
       split at h
       ·rename_i h4
        rw [Bool.and_eq_true] at h4
        obtain ⟨l', h3, rfl⟩ := Option.map_eq_some_iff.1 h
        have he := endT_ok s s.size (i + 1)
        exact .text (by omega) (of_decide_eq_true h4.1) h2 (fun k h5 h6 => he.2 k (by omega) h6) (of_decide_eq_true h4.2) (toksF_ok s f _ l' h3)
       ·cases h
      ·split at h
       ·rename_i h2
        obtain ⟨l', h3, rfl⟩ := Option.map_eq_some_iff.1 h
        exact .word (.inl rfl) h0 h2 (toksF_ok s f _ l' h3)
       ·split at h
        ·rename_i h2
         obtain ⟨l', h3, rfl⟩ := Option.map_eq_some_iff.1 h
         exact .word (.inr (.inl rfl)) h0 h2 (toksF_ok s f _ l' h3)
        ·split at h
         ·rename_i h2
          obtain ⟨l', h3, rfl⟩ := Option.map_eq_some_iff.1 h
          exact .word (.inr (.inr rfl)) h0 h2 (toksF_ok s f _ l' h3)
         ·split at h
          ·rename_i h2
           obtain ⟨l', h3, rfl⟩ := Option.map_eq_some_iff.1 h
           exact .num h2.1 h2.2.1 h2.2.2.1 h2.2.2.2 (toksF_ok s f _ l' h3)
          ·cases h
   ·split at h
    ·rename_i h1
     cases h
     subst h1
     exact .done
    ·cases h
end
section
open Go Go.Shelf
def lays144_ren : Go.Shelf.Ren := ⟨fun | 144 => 99 | 143 => 132 | 219 => 151 | 217 => 137 | 225 => 166 | 224 => 167 | 267 => 168 | 266 => 153 | 314 => 192 | n => n, fun | 9 => 9 | 4 => 4 | 3 => 3 | 5 => 5 | 46 => 58 | 146 => 211 | 51 => 210 | n => n, fun | 1 => 1 | n => n⟩
theorem lays144 : Go.Proofs.Lays.n144 Tryz.prog lays144_ren := {
 mixed := by kernel_rfl
 f143 := Tryz.func132.trans (congrArg some (by kernel_rfl))
 f144 := Tryz.func99.trans (congrArg some (by kernel_rfl))
 f217 := Tryz.func137.trans (congrArg some (by kernel_rfl))
 f219 := Tryz.func151.trans (congrArg some (by kernel_rfl))
 f224 := Tryz.func167.trans (congrArg some (by kernel_rfl))
 f225 := Tryz.func166.trans (congrArg some (by kernel_rfl))
 f266 := Tryz.func153.trans (congrArg some (by kernel_rfl))
 f267 := Tryz.func168.trans (congrArg some (by kernel_rfl))
 f314 := Tryz.func192.trans (congrArg some (by kernel_rfl))
 t3 := Tryz.underlying3
 a3 := Tryz.isAgg3
 z3 := Tryz.sizeOf3
 v3 := Tryz.zeroValue3
 t4 := Tryz.underlying4
 a4 := Tryz.isAgg4
 z4 := Tryz.sizeOf4
 v4 := Tryz.zeroValue4
 t5 := Tryz.underlying5
 a5 := Tryz.isAgg5
 z5 := Tryz.sizeOf5
 v5 := Tryz.zeroValue5
 t9 := Tryz.underlying9
 a9 := Tryz.isAgg9
 z9 := Tryz.sizeOf9
 v9 := Tryz.zeroValue9
 t46 := Tryz.underlying58
 a46 := Tryz.isAgg58
 z46 := Tryz.sizeOf58
 v46 := Tryz.zeroValue58
 t51 := Tryz.underlying210
 a51 := Tryz.isAgg210
 z51 := Tryz.sizeOf210
 v51 := Tryz.zeroValue210
 t146 := Tryz.underlying211
 a146 := Tryz.isAgg211
 z146 := Tryz.sizeOf211
 v146 := Tryz.zeroValue211
 g1 := by kernel_rfl }
open Go.RowKit Go.Lib in
theorem strings_Contains (s sub : ByteArray) (m : Int) (w : World) (hs : s.size < 4294967281) (hm : w.cell? ⟨1, 0, none⟩ = some (.int .i64 m)) :
 Calls Tryz.prog 99 #[.string s, .string sub] w fun e w' => e = .returned (.bool (Lib.contains s.data.toList sub.data.toList)) /\ w' = w := Any.strings_Contains lays144 s sub m w hs hm
end
section
open Go Go.RowKit
def isM (t : Tok) (c : UInt8) : Bool := decide (t.kind = 1) && decide (t.s = ⟨#[c]⟩)
def bareJ (k n : Int) : JV := .mk k n ⟨#[]⟩ [] []
mutual
def parV : Nat -> Nat -> Nat -> List Tok -> Option (JV × Nat × List Tok)
 | 0, _, _, _ => none
 | _ + 1, _, _, [] => none
 | f + 1, deep, parts, t :: ts =>
   if 16 < deep \/ 8192 <= parts then none
   else if t.kind = 4 then some (.mk 4 0 t.s [] [], parts + 1, ts)
   else if t.kind = 2 then if t.s = wNull then some (bareJ 1 0, parts + 1, ts) else if t.s = wTrue then some (bareJ 2 1, parts + 1, ts) else some (bareJ 2 0, parts + 1, ts)
   else if isM t 91 then
    match ts with
    | [] => none
    | c :: r => if isM c 93 then some (.mk 5 0 ⟨#[]⟩ [] [], parts + 1, r) else (parL f deep (parts + 1) (c :: r)).map (fun x => (.mk 5 0 ⟨#[]⟩ x.1 [], x.2.1, x.2.2))
   else if isM t 123 then
    match ts with
    | [] => none
    | c :: r => if isM c 125 then some (.mk 6 0 ⟨#[]⟩ [] [], parts + 1, r) else (parM f deep (parts + 1) [] (c :: r)).map (fun x => (.mk 6 0 ⟨#[]⟩ [] x.1, x.2.1, x.2.2))
   else if t.kind = 3 then some (bareJ 3 t.n, parts + 1, ts)
   else none
def parL : Nat -> Nat -> Nat -> List Tok -> Option (List JV × Nat × List Tok)
 | 0, _, _, _ => none
 | f + 1, deep, parts, ts =>
   match parV f (deep + 1) parts ts with
   | some (v, p, c :: r) => if isM c 93 then some ([v], p, r) else if isM c 44 then (parL f deep p r).map (fun x => (v :: x.1, x.2.1, x.2.2)) else none
   | _ => none
def parM : Nat -> Nat -> Nat -> List ByteArray -> List Tok -> Option (List (ByteArray × JV) × Nat × List Tok)
 | f + 1, deep, parts, known, n :: col :: ts =>
   if (decide (n.kind = 4) && !(known.any (fun x => decide (x = n.s))) && decide (n.s.size <= 1048576) && isM col 58) = true then
    match parV f (deep + 1) parts ts with
    | some (v, p, c :: r) => if isM c 125 then some ([(n.s, v)], p, r) else if isM c 44 then (parM f deep p (n.s :: known) r).map (fun x => ((n.s, v) :: x.1, x.2.1, x.2.2)) else none
    | _ => none
   else none
 | _, _, _, _, _ => none
end
def readF (s : ByteArray) : Option JV := match toksF s (s.size + 1) 0 with
 | none => none
 | some ts => match parV (ts.length + 1) 1 0 ts with
   | some (v, _, []) => some v
   | _ => none
end
section
open Go Go.Shelf
def lays137_ren : Go.Shelf.Ren := ⟨fun | 137 => 104 | 217 => 137 | 266 => 153 | n => n, fun | 9 => 9 | 5 => 5 | 3 => 3 | n => n, fun | n => n⟩
theorem lays137 : Go.Proofs.Lays.n137 Tryz.prog lays137_ren := {
 mixed := by kernel_rfl
 f137 := Tryz.func104.trans (congrArg some (by kernel_rfl))
 f217 := Tryz.func137.trans (congrArg some (by kernel_rfl))
 f266 := Tryz.func153.trans (congrArg some (by kernel_rfl))
 t3 := Tryz.underlying3
 a3 := Tryz.isAgg3
 z3 := Tryz.sizeOf3
 v3 := Tryz.zeroValue3
 t5 := Tryz.underlying5
 a5 := Tryz.isAgg5
 z5 := Tryz.sizeOf5
 v5 := Tryz.zeroValue5
 t9 := Tryz.underlying9
 a9 := Tryz.isAgg9
 z9 := Tryz.sizeOf9
 v9 := Tryz.zeroValue9 }
open Go.RowKit in
theorem strings_IndexByte (s : ByteArray) (c : Int) (w : World) :
 Calls Tryz.prog 104 #[.string s, .int .u8 c] w fun e w' => e = .returned (.int .i64 (Lib.indexByte s.data.toList c.toNat.toUInt8)) /\ w' = w := Any.strings_IndexByte lays137 s c w
def lays99_ren : Go.Shelf.Ren := ⟨fun | 99 => 157 | 206 => 174 | n => n, fun | 9 => 9 | 4 => 4 | 3 => 3 | n => n, fun | n => n⟩
theorem lays99 : Go.Proofs.Lays.n99 Tryz.prog lays99_ren := {
 mixed := by kernel_rfl
 f99 := Tryz.func157.trans (congrArg some (by kernel_rfl))
 f206 := Tryz.func174.trans (congrArg some (by kernel_rfl))
 t3 := Tryz.underlying3
 a3 := Tryz.isAgg3
 z3 := Tryz.sizeOf3
 v3 := Tryz.zeroValue3
 t4 := Tryz.underlying4
 a4 := Tryz.isAgg4
 z4 := Tryz.sizeOf4
 v4 := Tryz.zeroValue4
 t9 := Tryz.underlying9
 a9 := Tryz.isAgg9
 z9 := Tryz.sizeOf9
 v9 := Tryz.zeroValue9 }
open Go.RowKit Go.Lib in
theorem strings_HasPrefix (s p : ByteArray) (w : World) :
 Calls Tryz.prog 157 #[.string s, .string p] w fun e w' => e = .returned (.bool (Lib.hasPrefix s.data.toList p.data.toList)) /\ w' = w := Any.strings_HasPrefix lays99 s p w
end
section
open Go.RowKit Go.OpenShut
def SomeB (w : World) (e : Ending) (w' : World) : Prop := ∃ b : Bool, e = .returned (.bool b) /\ Below w.heap.size w w'
def TreesV (w : World) (B : Nat) (xs : List RV) : Prop := ∀ x ∈ xs, ∃ t : JV, t.Ok /\ TreeOf w B t x
theorem TreesV.under {w w' : World} {B B' : Nat} {xs : List RV} (h : TreesV w B xs) (hb : Below B w w') (hB : B <= B') : TreesV w' B' xs := fun x hx => by
 obtain ⟨t, h1, h2⟩ := h x hx
 exact ⟨t, h1, h2.under hb hB⟩
theorem TreesV.append {w : World} {B : Nat} {xs ys : List RV} (h : TreesV w B xs) (h' : TreesV w B ys) : TreesV w B (xs ++ ys) := fun x hx => by
 rcases List.mem_append.1 hx with h1 | h1
 ·exact h x h1
 ·exact h' x h1
theorem TreesV.nil (w : World) (B : Nat) : TreesV w B [] := fun x hx => by cases hx
theorem TreesV.one {w : World} {B : Nat} {t : JV} {x : RV} (ot : t.Ok) (h : TreeOf w B t x) : TreesV w B [x] := fun y hy => by
 cases List.mem_singleton.1 hy
 exact ⟨t, ot, h⟩
theorem TreeOf.opened {w : World} {B : Nat} {t : JV} {x : RV} (ot : t.Ok) (h : TreeOf w B t x) : ∃ (rs : List RV) (rms : List RM), Rd w B encV 5 (.slice x.pl x.nl x.cl) rs /\ rs.length = x.nl /\ TreesV w B rs /\ x.nl <= 1759218604390 /\
 Rd w B encM 6 (.slice x.pm x.nm x.cm) rms /\ rms.length = x.nm /\ (∀ (i : Nat) (y : RM), rms[i]? = some y -> ∃ t : JV, t.Ok /\ TreeOf w B t y.v) /\ x.nm <= 1466015503658 := by
 cases h with
 | @mk _ l m rs rms hl el hcl hm em hcn hcm =>
 cases ot with
 | mk _ _ _ bl bm okl oks okm =>
 have eL := rd_nlen hl
 have eM := rd_nlen hm
 refine ⟨rs, rms, hl, by omega, ?_, by omega, hm, by omega, ?_, by omega⟩
 ·intro y hy
  obtain ⟨i, hi, rfl⟩ := List.mem_iff_getElem.1 hy
  exact ⟨l[i], okl i _ (List.getElem?_eq_getElem (by omega)), hcl i _ _ (List.getElem?_eq_getElem (by omega)) (List.getElem?_eq_getElem hi)⟩
 ·intro i y hy
  have hi : i < rms.length := by
   rcases Nat.lt_or_ge i rms.length with h | h
   ·exact h
   ·rw [List.getElem?_eq_none h] at hy; cases hy
  exact ⟨(m[i]'(by omega)).2, okm i _ (List.getElem?_eq_getElem (by omega)), hcm i _ _ (List.getElem?_eq_getElem (by omega)) hy⟩
structure GrowV (W0 : World) (B : Nat) (rs : List RV) (v : Value) (W : World) : Prop where
 own : Own W W0.heap.size 25 encV 5 v rs
 each : TreesV W B rs
 below : Below W0.heap.size W0 W
theorem GrowV.drewN {W0 W : World} {B : Nat} {rs : List RV} {v : Value} (h : GrowV W0 B rs v W) (n : Nat) : GrowV W0 B rs v (W.drewN n) :=
 ⟨h.own, h.each.under (bdn (Below.refl _ _) n) (Nat.le_refl _), bdn h.below n⟩
theorem GrowV.alloc {W0 W : World} {B : Nat} {rs : List RV} {v : Value} (h : GrowV W0 B rs v W) (hB : B <= W0.heap.size) (o : Obj) : GrowV W0 B rs v (W.alloc o) := by
 have := h.below.size
 exact ⟨h.own.alloc o, h.each.under ((Below.refl _ _).alloc (by omega) o) (Nat.le_refl _), h.below.alloc (by omega) o⟩
theorem GrowV.push {W0 W W2 : World} {B : Nat} {rs ys : List RV} {v v' : Value} (h : GrowV W0 B rs v W) (hB : B <= W0.heap.size) (ho : Own W2 W0.heap.size 25 encV 5 v' (rs ++ ys)) (hg : W.grownBy W2 v.ownBlock) (hy : TreesV W B ys) : GrowV W0 B (rs ++ ys) v' W2 := by
 have hb : Below W0.heap.size W W2 := Below.appended (Below.refl _ _) hg h.own h.below.size
 exact ⟨ho, (h.each.append hy).under (hb.mono hB) (Nat.le_refl _), h.below.trans hb⟩
theorem level7_step (N : Nat) (ih : ∀ (most : Int) (p : Option Addr) (n c : Nat) (xs : List RV) (w : World) (B : Nat), most.toNat < N -> most <= 100 -> B <= w.heap.size -> Rd w B encV 5 (.slice p n c) xs -> TreesV w B xs -> n <= 20000 ->
 Calls Tryz.prog 86 #[.slice p n c, .int .i64 most] w (SomeB w)) : ∀ (most : Int) (p : Option Addr) (n c : Nat) (xs : List RV) (w : World) (B : Nat), most.toNat = N -> most <= 100 -> B <= w.heap.size -> Rd w B encV 5 (.slice p n c) xs -> TreesV w B xs -> n <= 20000 ->
 Calls Tryz.prog 86 #[.slice p n c, .int .i64 most] w (SomeB w) := by
 intro most p n c xs w B hN hm hB hr hx hn
 have eL := rd_nlen hr
 have HIH := Lib.hid ih
 have HR := Lib.hid hr
 have HX := Lib.hid hx
 have E1 : Hid (xs.length = n) := by unfold Hid; omega
 clear ih hr hx eL
 go_enter Tryz.func86, Tryz.ntmps86
 go_wp2_with fail
 go_loopw [5, 6] (fun a i wr => ∃ (j : Nat) (rs : List RV) (p' : Option Addr) (n' c' : Nat), j <= n /\ a = .slice p' n' c' /\ i = .int .i64 j /\ rs.length = n' /\ n' <= 20000 /\ Hid (GrowV w B rs (.slice p' n' c') wr)) (fun _ i _ => n - (intOf i).toNat)
 case atStart => exact ⟨0, [], none, 0, 0, Nat.zero_le _, rfl, rfl, rfl, by omega, ⟨Own.nil _ _ _, TreesV.nil _ _, Below.refl _ _⟩⟩
 case round =>
  obtain ⟨j, rs, p', n', c', hj, rfl, rfl, hrs, hn', HG⟩ := hrel
  have HRS := Lib.hid hrs
  have hbr := HG.out.below
  clear hrs
  by_cases hlt : j < n
  ·obtain ⟨x, hx⟩ : ∃ x, xs[j]? = some x := ⟨_, List.getElem?_eq_getElem (by have := E1.out; omega)⟩
   obtain ⟨b1, o1, rfl, hb1, hc1⟩ := rd_at' HR.out hx
   have g0 := hc1 0 _ rfl
   have g1 := hc1 1 _ rfl
   have g2 := hc1 2 _ rfl
   have g3 := hc1 3 _ rfl
   have g4 := hc1 4 _ rfl
   rw [Nat.add_zero] at g0
   have f3 := bcs (hbr.mono hB) hb1 g3
   have f4 := bcs (hbr.mono hB) hb1 g4
   obtain ⟨tx, otx, htx⟩ := HX.out x (List.mem_of_getElem? hx)
   obtain ⟨rs1, rms1, hL, eL1, hTL, hL9, hM, eM1, hTM, hM9⟩ := htx.opened otx
   have HL := Lib.hid hL
   have HM := Lib.hid hM
   have HTL := Lib.hid hTL
   have HTM := Lib.hid hTM
   have EL := Lib.hid eL1
   have EM := Lib.hid eM1
   have hk0 : (0 : Int) <= (j : Int) := Int.natCast_nonneg _
   have hk1 : (j : Int) < (n : Int) := by omega
   clear hc1 hx otx htx hL hM hTL hTM eL1 eM1 g0 g1 g2
   have G4 := Lib.hid g4
   clear g3 g4
   by_cases hbig : x.nl + x.nm <= 20000
   ·go_wp2_with fail
    go_quiet (fail)
    have HG1 : ∀ q, Hid (GrowV w B rs (.slice p' n' c') (wr.drewN q)) := fun q => HG.out.drewN q
    have HL1 : ∀ q, Hid (Rd (wr.drewN q) B encV 5 (.slice x.pl x.nl x.cl) rs1) := fun q => (HL.out.below (hbr.mono hB) (Nat.le_refl _)).drewN q
    have HT1 : ∀ q, Hid (TreesV (wr.drewN q) B rs1) := fun q => HTL.out.under (bdn (hbr.mono hB) q) (Nat.le_refl _)
    have hws : ∀ q, Hid (w.heap.size <= (wr.drewN q).heap.size) := fun q => (HG1 q).out.below.size
    go_wp2_with (at_builtin; refine wpList_append_rd slV codecV _ rfl (.tmp 28) (.tmp 33) rfl (v := .slice p' n' c') rfl rfl (HG1 _).out.own (HL1 _).out ?_ ?_ ?_ ?_; (· have := HRS.out; have := EL.out; unfold maxLen; omega); (· have := HRS.out; have := EL.out; omega); (· exact (hws _).out); intro v2 w2 ho2 hg2 hat2; obtain ⟨p2, c2, hv2, hq1, hq2⟩ := ho2.len; (have hv3 : v2 = .slice p2 (n' + x.nl) c2 := by rw [hv2, List.length_append, HRS.out, EL.out]); clear hv2; subst hv3; clear hq1 hq2; (have HG2 : Hid (GrowV w B (rs ++ rs1) (.slice p2 (n' + x.nl) c2) w2) := (HG1 _).out.push hB ho2 hg2 (HT1 _).out); clear ho2 hg2 hat2; go_frame)
    have HRS2 : Hid ((rs ++ rs1).length = n' + x.nl) := by rw [List.length_append, HRS.out, EL.out]; exact rfl
    have hbr2 := HG2.out.below
    clear HG1 HL1 HT1 hws HL HTL HG HRS hbr f3 f4
    go_loopw [5, 7] (fun a i wr => ∃ (j2 : Nat) (rs2 : List RV) (p3 : Option Addr) (n3 c3 : Nat), j2 <= x.nm /\ a = .slice p3 n3 c3 /\ i = .int .i64 j2 /\ rs2.length = n3 /\ n3 = n' + x.nl + j2 /\ Hid (GrowV w B rs2 (.slice p3 n3 c3) wr)) (fun _ i _ => x.nm - (intOf i).toNat)
    case atStart => exact ⟨0, rs ++ rs1, p2, n' + x.nl, c2, Nat.zero_le _, rfl, rfl, HRS2.out, rfl, HG2⟩
    case round =>
     obtain ⟨j2, rs2, p3, n3, c3, hj2, rfl, rfl, hrs3, hn3, HG3⟩ := hrel
     have HRS3 := Lib.hid hrs3
     have HN3 := Lib.hid hn3
     have hbr3 := HG3.out.below
     have f4 := bcs (hbr3.mono hB) hb1 G4.out
     clear hrs3 hn3
     by_cases hlt2 : j2 < x.nm
     ·obtain ⟨y, hy⟩ : ∃ y, rms1[j2]? = some y := ⟨_, List.getElem?_eq_getElem (by have := EM.out; omega)⟩
      obtain ⟨b2, o2, e2, hb2, hc2⟩ := rd_at' (HM.out.below (hbr3.mono hB) (Nat.le_refl _)) hy
      rw [e2] at f4
      have h0 := hc2 0 _ rfl
      have h1 := hc2 1 _ rfl
      have h2 := hc2 2 _ rfl
      have h3 := hc2 3 _ rfl
      have h4 := hc2 4 _ rfl
      have h5 := hc2 5 _ rfl
      rw [Nat.add_zero] at h0
      obtain ⟨ty, oty, hty⟩ := HTM.out j2 y hy
      have hT4 : Hid (TreesV wr B [y.v]) := TreesV.one oty (hty.under (hbr3.mono hB) (Nat.le_refl _))
      have hk2 : (0 : Int) <= (j2 : Int) := Int.natCast_nonneg _
      have hk3 : (j2 : Int) < (x.nm : Int) := by omega
      have E2 := Lib.hid e2
      clear hc2 hy oty hty e2
      have HG4 : Hid (GrowV w B rs2 (.slice p3 n3 c3) (wr.alloc (.cells #[.int .i64 y.v.k, .int .i64 y.v.n, .string y.v.s, .slice y.v.pl y.v.nl y.v.cl, .slice y.v.pm y.v.nm y.v.cm] 25))) := HG3.out.alloc hB _
      have HT4 : Hid (TreesV (wr.alloc (.cells #[.int .i64 y.v.k, .int .i64 y.v.n, .string y.v.s, .slice y.v.pl y.v.nl y.v.cl, .slice y.v.pm y.v.nm y.v.cm] 25)) B [y.v]) := hT4.out.under ((Below.refl _ _).alloc (by have := hbr3.size; omega) _) (Nat.le_refl _)
      go_wp2_with (at_builtin; refine wpList_append_rd slV codecV (wr.alloc (.cells #[.int .i64 y.v.k, .int .i64 y.v.n, .string y.v.s, .slice y.v.pl y.v.nl y.v.cl, .slice y.v.pm y.v.nm y.v.cm] 25)) rfl (.tmp 45) (.tmp 55) rfl (v := .slice p3 n3 c3) rfl rfl HG4.out.own (Rd.one (B := wr.heap.size + 1) (x := y.v) codecV (heap_alloc_new _ _) rfl (by omega)) ?_ ?_ ?_ ?_; (· have := HRS3.out; have := HN3.out; simp; unfold maxLen; omega); (· have := HRS3.out; have := HN3.out; simp; omega); (· exact HG4.out.below.size); intro v2 w2 ho2 hg2 hat2; obtain ⟨p4, c4, hv2, hq1, hq2⟩ := ho2.len; (have hv3 : v2 = .slice p4 (n3 + 1) c4 := by rw [hv2, List.length_append, HRS3.out]; rfl); clear hv2; subst hv3; clear hq1 hq2; (have HG5 : Hid (GrowV w B (rs2 ++ [y.v]) (.slice p4 (n3 + 1) c4) w2) := HG4.out.push hB ho2 hg2 HT4.out); clear ho2 hg2 hat2; go_frame)
      go_roundw
      case rel => exact ⟨j2 + 1, rs2 ++ [y.v], p4, n3 + 1, c4, by omega, rfl, by go_num, by rw [List.length_append, HRS3.out]; rfl, by have := HN3.out; omega, HG5⟩
      case measure => simp [intOf]; omega
     ·have := HN3.out
      by_cases hend : n3 <= 20000
      ·go_wp2_with fail
       go_roundw
       case rel => exact ⟨j + 1, rs2, p3, n3, c3, by omega, rfl, by go_num, HRS3.out, hend, HG3⟩
       case measure => simp [intOf]; omega
      ·go_wp2_with fail
       go_ret
       exact ⟨false, rfl, hbr3⟩
   ·go_wp2_with fail
    go_quiet (fail)
    go_wp2_with fail
    go_ret
    exact ⟨false, rfl, bdn hbr _⟩
  ·by_cases hz : n' = 0
   ·subst hz
    go_wp2_with fail
    go_ret
    exact ⟨true, rfl, hbr⟩
   ·by_cases hpos : 0 < most
    ·have HC : Hid (Calls Tryz.prog 86 #[.slice p' n' c', .int .i64 (most - 1)] wr (SomeB wr)) :=
      HIH.out (most - 1) p' n' c' rs wr wr.heap.size (by omega) (by omega) (Nat.le_refl _) (HG.out.own.rd codecV) (HG.out.each.under (Below.refl _ _) (by have := hbr.size; omega)) hn'
     have hw : IntKind.i64.wrap (most - 1) = most - 1 := by rw [IntKind.wrap_i64]; omega
     go_wp2_with (go_at_call 86; refine HC.out.mono ?_; rintro e w1 ⟨b, rfl, hb1'⟩)
     go_ret
     exact ⟨_, rfl, hbr.trans (hb1'.mono hbr.size)⟩
    ·go_wp2_with fail
     go_ret
     exact ⟨_, rfl, hbr⟩
theorem level7_any (N : Nat) : ∀ (most : Int) (p : Option Addr) (n c : Nat) (xs : List RV) (w : World) (B : Nat), most.toNat = N -> most <= 100 -> B <= w.heap.size -> Rd w B encV 5 (.slice p n c) xs -> TreesV w B xs -> n <= 20000 ->
 Calls Tryz.prog 86 #[.slice p n c, .int .i64 most] w (SomeB w) := by
 induction N using Nat.strongRecOn with
 | _ N ih => exact level7_step N fun most p n c xs w B h => ih _ h most p n c xs w B rfl
def SomeF (n : Nat) (w : World) (e : Ending) (w' : World) : Prop := ∃ b : Bool, e = .returned (.bool b) /\ Hid (b = true -> n <= 10000) /\ Below w.heap.size w w'
theorem deep7_any (t : JV) (r : RV) (w : World) (ht : TreeOf w w.heap.size t r) (ot : t.Ok) :
 Calls Tryz.prog 47 #[r.val, .int .i64 100] w (SomeF r.nm w) := by
 obtain ⟨rs, rms, hl, el, hT, bl, hm, em, hTM, bm⟩ := ht.opened ot
 obtain ⟨k, n, s, pl, nl, cl, pm, nm, cm⟩ := r
 dsimp only [RV.val] at *
 have hA0 : VAt (w.alloc (.cells #[.int .i64 k, .int .i64 n, .string s, .slice pl nl cl, .slice pm nm cm] 25)) w.heap.size ⟨k, n, s, pl, nl, cl, pm, nm, cm⟩ := heap_alloc_at rfl
 have hB0 : Below w.heap.size w (w.alloc (.cells #[.int .i64 k, .int .i64 n, .string s, .slice pl nl cl, .slice pm nm cm] 25)) := (Below.refl _ _).alloc (Nat.le_refl _) _
 have HT := Lib.hid ht
 clear hl hT hm hTM el em ht
 go_enter Tryz.func47, Tryz.ntmps47
 go_upto_region 1 with fail
 obtain ⟨W0, hW0⟩ : ∃ W0, (w.alloc (.cells #[.int .i64 k, .int .i64 n, .string s, .slice pl nl cl, .slice pm nm cm] 25)) = W0 := ⟨_, rfl⟩
 rw [hW0] at hA0 hB0 ⊢
 clear hW0
 have hz := hA0.lt
 obtain ⟨c0, c1, c2, c3, c4⟩ := hA0.cells5
 dsimp only at c0 c1 c2 c3 c4
 clear hA0
 have HC : Hid (Calls Tryz.prog 86 #[.slice (some ⟨W0.heap.size, 0, none⟩) 1 1, .int .i64 100] (W0.alloc (.cells #[.int .i64 k, .int .i64 n, .string s, .slice pl nl cl, .slice pm nm cm] 25)) (SomeB (W0.alloc (.cells #[.int .i64 k, .int .i64 n, .string s, .slice pl nl cl, .slice pm nm cm] 25)))) :=
  level7_any _ 100 _ 1 1 [⟨k, n, s, pl, nl, cl, pm, nm, cm⟩] _ (W0.heap.size + 1) rfl (by decide) (by simp) (Rd.one codecV (heap_alloc_new _ _) rfl (by omega)) (TreesV.one ot (HT.out.under (hB0.alloc hB0.size _) (by have := hB0.size; omega))) (by decide)
 by_cases h1 : nl <= 10000
 ·by_cases h2 : nm <= 10000
  ·have hnm : Hid (∀ b : Bool, b = true -> nm <= 10000) := fun _ _ => h2
   go_wp2_with (go_at_call 86; refine HC.out.mono ?_; rintro e w1 ⟨b, rfl, hb1'⟩)
   all_goals go_ret
   all_goals exact ⟨_, rfl, hnm.out _, (hB0.alloc hB0.size _).trans (hb1'.mono (by have := hB0.size; simp; omega))⟩
  ·go_wp2_with fail
   go_ret
   exact ⟨false, rfl, (fun h => by cases h), hB0⟩
 ·go_wp2_with fail
  go_ret
  exact ⟨false, rfl, (fun h => by cases h), hB0⟩
end
end Go.Proofs.YtffhccmppdgmfaaGreatDoor
