import Derived.Shelf.LaysM
import Derived.Shelf.Small.Strs
import Derived.Shelf.Strconv.Clone
import Derived.Shelf.Strings.Count
import Derived.Shelf.Strings.OnBuilder
import Derived.Shelf.Strings.Repeat
import Derived.Shelf.Strings.Trim
import Derived.Shelf.Strings.SlTrimAscii
import Derived.Test.YtffhccmppdgmfaaGreatDoorProg
import Derived.Sort.LotA
import Derived.Shelf.SlSortCmp.Insertion
import Derived.WalkKit
import Derived.WalkSpells
import Derived.WalkLawsBesides
import Derived.BigQuiet
import Derived.Deep.QuietTactic
import Derived.Lib.Hide
import Derived.Maps.OwnSet
import Derived.StringKeys
import Derived.Deep.Draws
import Derived.Shelf.Slices.Turned
import Derived.Shelf.Strings.Search3
import Derived.Shelf.Strings.Prefix
set_option linter.unusedSimpArgs false
set_option linter.unusedVariables false
set_option maxRecDepth 200000
set_option maxHeartbeats 8000000
namespace Go.Proofs.YtffhccmppdgmfaaGreatDoor
section
open Go Go.Shelf
def lays160_ren : Go.Shelf.Ren := ⟨fun | 160 => 163 | 232 => 179 | 231 => 178 | 227 => 180 | 234 => 182 | 233 => 181 | 236 => 184 | 235 => 183 | 228 => 196 | 271 => 199 | 151 => 198 | 197 => 197 | 120 => 209 | 152 => 208 | 260 => 207 | 137 => 104 | 119 => 216 | 224 => 167 | 225 => 166 | 217 => 137 | 266 => 153 | n => n, fun | 9 => 9 | 4 => 4 | 3 => 3 | 5 => 5 | 117 => 195 | 116 => 194 | 0 => 0 | 124 => 198 | 21 => 21 | 105 => 172 | 46 => 58 | 119 => 231 | 139 => 234 | 138 => 233 | n => n, fun | 3 => 2 | 4 => 3 | n => n⟩
theorem lays160 : Go.Proofs.Lays.n160 Tryz.prog lays160_ren := {
 mixed := by kernel_rfl
 f119 := Tryz.func216.trans (congrArg some (by kernel_rfl))
 f120 := Tryz.func209.trans (congrArg some (by kernel_rfl))
 f137 := Tryz.func104.trans (congrArg some (by kernel_rfl))
 f151 := Tryz.func198.trans (congrArg some (by kernel_rfl))
 f152 := Tryz.func208.trans (congrArg some (by kernel_rfl))
 f160 := Tryz.func163.trans (congrArg some (by kernel_rfl))
 f197 := Tryz.func197.trans (congrArg some (by kernel_rfl))
 f217 := Tryz.func137.trans (congrArg some (by kernel_rfl))
 f224 := Tryz.func167.trans (congrArg some (by kernel_rfl))
 f225 := Tryz.func166.trans (congrArg some (by kernel_rfl))
 f227 := Tryz.func180.trans (congrArg some (by kernel_rfl))
 f228 := Tryz.func196.trans (congrArg some (by kernel_rfl))
 f231 := Tryz.func178.trans (congrArg some (by kernel_rfl))
 f232 := Tryz.func179.trans (congrArg some (by kernel_rfl))
 f233 := Tryz.func181.trans (congrArg some (by kernel_rfl))
 f234 := Tryz.func182.trans (congrArg some (by kernel_rfl))
 f235 := Tryz.func183.trans (congrArg some (by kernel_rfl))
 f236 := Tryz.func184.trans (congrArg some (by kernel_rfl))
 f260 := Tryz.func207.trans (congrArg some (by kernel_rfl))
 f266 := Tryz.func153.trans (congrArg some (by kernel_rfl))
 f271 := Tryz.func199.trans (congrArg some (by kernel_rfl))
 t0 := Tryz.underlying0
 a0 := Tryz.isAgg0
 z0 := Tryz.sizeOf0
 v0 := Tryz.zeroValue0
 t3 := Tryz.underlying3
 a3 := Tryz.isAgg3
 z3 := Tryz.sizeOf3
 v3 := Tryz.zeroValue3
 t4 := Tryz.underlying4
 a4 := Tryz.isAgg4
 z4 := Tryz.sizeOf4
 v4 := Tryz.zeroValue4
 t5 := Tryz.underlying5
 a5 := Tryz.isAgg5
 z5 := Tryz.sizeOf5
 v5 := Tryz.zeroValue5
 t9 := Tryz.underlying9
 a9 := Tryz.isAgg9
 z9 := Tryz.sizeOf9
 v9 := Tryz.zeroValue9
 t21 := Tryz.underlying21
 a21 := Tryz.isAgg21
 z21 := Tryz.sizeOf21
 v21 := Tryz.zeroValue21
 t46 := Tryz.underlying58
 a46 := Tryz.isAgg58
 z46 := Tryz.sizeOf58
 v46 := Tryz.zeroValue58
 t105 := Tryz.underlying172
 a105 := Tryz.isAgg172
 z105 := Tryz.sizeOf172
 v105 := Tryz.zeroValue172
 t116 := Tryz.underlying194
 a116 := Tryz.isAgg194
 z116 := Tryz.sizeOf194
 t117 := Tryz.underlying195
 a117 := Tryz.isAgg195
 z117 := Tryz.sizeOf195
 v117 := Tryz.zeroValue195
 t119 := Tryz.underlying231
 a119 := Tryz.isAgg231
 z119 := Tryz.sizeOf231
 t124 := Tryz.underlying198
 a124 := Tryz.isAgg198
 z124 := Tryz.sizeOf198
 v124 := Tryz.zeroValue198
 t138 := Tryz.underlying233
 a138 := Tryz.isAgg233
 z138 := Tryz.sizeOf233
 v138 := Tryz.zeroValue233
 t139 := Tryz.underlying234
 a139 := Tryz.isAgg234
 z139 := Tryz.sizeOf234
 v139 := Tryz.zeroValue234
 g3 := by kernel_rfl
 g4 := by kernel_rfl }
def lays106_ren : Go.Shelf.Ren := ⟨fun | 106 => 143 | 213 => 159 | 265 => 175 | n => n, fun | 9 => 9 | 3 => 3 | n => n, fun | n => n⟩
theorem lays106 : Go.Proofs.Lays.n106 Tryz.prog lays106_ren := {
 mixed := by kernel_rfl
 f106 := Tryz.func143.trans (congrArg some (by kernel_rfl))
 f213 := Tryz.func159.trans (congrArg some (by kernel_rfl))
 f265 := Tryz.func175.trans (congrArg some (by kernel_rfl))
 t3 := Tryz.underlying3
 a3 := Tryz.isAgg3
 z3 := Tryz.sizeOf3
 v3 := Tryz.zeroValue3
 t9 := Tryz.underlying9
 a9 := Tryz.isAgg9
 z9 := Tryz.sizeOf9
 v9 := Tryz.zeroValue9 }
open Go.RowKit in
theorem strings_Compare (a b : ByteArray) (w : World) :
 Calls Tryz.prog 143 #[.string a, .string b] w fun e w' => e = .returned (.int .i64 (Lib.compareBytes a.data.toList b.data.toList)) /\ w' = w := Any.strings_Compare lays106 a b w
def lays138_ren : Go.Shelf.Ren := ⟨fun | 138 => 165 | 195 => 190 | 218 => 191 | 143 => 132 | 219 => 151 | 217 => 137 | 225 => 166 | 224 => 167 | 267 => 168 | 266 => 153 | 314 => 192 | n => n, fun | 9 => 9 | 3 => 3 | 4 => 4 | 5 => 5 | 0 => 0 | 46 => 58 | 146 => 211 | 51 => 210 | n => n, fun | 1 => 1 | n => n⟩
theorem lays138 : Go.Proofs.Lays.n138 Tryz.prog lays138_ren := {
 mixed := by kernel_rfl
 f138 := Tryz.func165.trans (congrArg some (by kernel_rfl))
 f143 := Tryz.func132.trans (congrArg some (by kernel_rfl))
 f195 := Tryz.func190.trans (congrArg some (by kernel_rfl))
 f217 := Tryz.func137.trans (congrArg some (by kernel_rfl))
 f218 := Tryz.func191.trans (congrArg some (by kernel_rfl))
 f219 := Tryz.func151.trans (congrArg some (by kernel_rfl))
 f224 := Tryz.func167.trans (congrArg some (by kernel_rfl))
 f225 := Tryz.func166.trans (congrArg some (by kernel_rfl))
 f266 := Tryz.func153.trans (congrArg some (by kernel_rfl))
 f267 := Tryz.func168.trans (congrArg some (by kernel_rfl))
 f314 := Tryz.func192.trans (congrArg some (by kernel_rfl))
 t0 := Tryz.underlying0
 a0 := Tryz.isAgg0
 z0 := Tryz.sizeOf0
 v0 := Tryz.zeroValue0
 t3 := Tryz.underlying3
 a3 := Tryz.isAgg3
 z3 := Tryz.sizeOf3
 v3 := Tryz.zeroValue3
 t4 := Tryz.underlying4
 a4 := Tryz.isAgg4
 z4 := Tryz.sizeOf4
 v4 := Tryz.zeroValue4
 t5 := Tryz.underlying5
 a5 := Tryz.isAgg5
 z5 := Tryz.sizeOf5
 v5 := Tryz.zeroValue5
 t9 := Tryz.underlying9
 a9 := Tryz.isAgg9
 z9 := Tryz.sizeOf9
 v9 := Tryz.zeroValue9
 t46 := Tryz.underlying58
 a46 := Tryz.isAgg58
 z46 := Tryz.sizeOf58
 v46 := Tryz.zeroValue58
 t51 := Tryz.underlying210
 a51 := Tryz.isAgg210
 z51 := Tryz.sizeOf210
 v51 := Tryz.zeroValue210
 t146 := Tryz.underlying211
 a146 := Tryz.isAgg211
 z146 := Tryz.sizeOf211
 v146 := Tryz.zeroValue211
 g1 := by kernel_rfl }
open Go.RowKit Go.Lib in
theorem strings_Count_one (s : ByteArray) (c : UInt8) (w : World) :
 Calls Tryz.prog 165 #[.string s, .string ⟨#[c]⟩] w fun e w' => e = .returned (.int .i64 (Lib.countByte s.data.toList c)) /\ w' = w := Any.strings_Count_one lays138 s c w
def lays105_ren : Go.Shelf.Ren := ⟨fun | 105 => 164 | 212 => 185 | 99 => 157 | 165 => 186 | 166 => 187 | 170 => 188 | 169 => 189 | 263 => 200 | 264 => 201 | 206 => 174 | 240 => 202 | 241 => 203 | 276 => 210 | 277 => 211 | n => n, fun | 9 => 9 | 3 => 3 | 4 => 4 | 20 => 20 | 0 => 0 | 46 => 58 | 109 => 199 | 5 => 5 | 72 => 203 | 76 => 207 | 51 => 210 | 146 => 211 | 53 => 218 | 148 => 219 | 70 => 201 | 37 => 160 | 75 => 206 | 127 => 164 | 164 => 225 | 80 => 209 | n => n, fun | n => n⟩
theorem lays105 : Go.Proofs.Lays.n105 Tryz.prog lays105_ren := {
 mixed := by kernel_rfl
 f99 := Tryz.func157.trans (congrArg some (by kernel_rfl))
 f105 := Tryz.func164.trans (congrArg some (by kernel_rfl))
 f165 := Tryz.func186.trans (congrArg some (by kernel_rfl))
 f166 := Tryz.func187.trans (congrArg some (by kernel_rfl))
 f169 := Tryz.func189.trans (congrArg some (by kernel_rfl))
 f170 := Tryz.func188.trans (congrArg some (by kernel_rfl))
 f206 := Tryz.func174.trans (congrArg some (by kernel_rfl))
 f212 := Tryz.func185.trans (congrArg some (by kernel_rfl))
 f240 := Tryz.func202.trans (congrArg some (by kernel_rfl))
 f241 := Tryz.func203.trans (congrArg some (by kernel_rfl))
 f263 := Tryz.func200.trans (congrArg some (by kernel_rfl))
 f264 := Tryz.func201.trans (congrArg some (by kernel_rfl))
 f276 := Tryz.func210.trans (congrArg some (by kernel_rfl))
 f277 := Tryz.func211.trans (congrArg some (by kernel_rfl))
 t0 := Tryz.underlying0
 a0 := Tryz.isAgg0
 z0 := Tryz.sizeOf0
 v0 := Tryz.zeroValue0
 t3 := Tryz.underlying3
 a3 := Tryz.isAgg3
 z3 := Tryz.sizeOf3
 v3 := Tryz.zeroValue3
 t4 := Tryz.underlying4
 a4 := Tryz.isAgg4
 z4 := Tryz.sizeOf4
 v4 := Tryz.zeroValue4
 t5 := Tryz.underlying5
 a5 := Tryz.isAgg5
 z5 := Tryz.sizeOf5
 v5 := Tryz.zeroValue5
 t9 := Tryz.underlying9
 a9 := Tryz.isAgg9
 z9 := Tryz.sizeOf9
 v9 := Tryz.zeroValue9
 t20 := Tryz.underlying20
 a20 := Tryz.isAgg20
 z20 := Tryz.sizeOf20
 v20 := Tryz.zeroValue20
 t37 := Tryz.underlying160
 a37 := Tryz.isAgg160
 z37 := Tryz.sizeOf160
 v37 := Tryz.zeroValue160
 t46 := Tryz.underlying58
 a46 := Tryz.isAgg58
 z46 := Tryz.sizeOf58
 v46 := Tryz.zeroValue58
 t51 := Tryz.underlying210
 a51 := Tryz.isAgg210
 z51 := Tryz.sizeOf210
 v51 := Tryz.zeroValue210
 t53 := Tryz.underlying218
 a53 := Tryz.isAgg218
 z53 := Tryz.sizeOf218
 v53 := Tryz.zeroValue218
 t70 := Tryz.underlying201
 a70 := Tryz.isAgg201
 z70 := Tryz.sizeOf201
 v70 := Tryz.zeroValue201
 t72 := Tryz.underlying203
 a72 := Tryz.isAgg203
 z72 := Tryz.sizeOf203
 v72 := Tryz.zeroValue203
 t75 := Tryz.underlying206
 a75 := Tryz.isAgg206
 z75 := Tryz.sizeOf206
 v75 := Tryz.zeroValue206
 t76 := Tryz.underlying207
 a76 := Tryz.isAgg207
 z76 := Tryz.sizeOf207
 v76 := Tryz.zeroValue207
 t109 := Tryz.underlying199
 a109 := Tryz.isAgg199
 z109 := Tryz.sizeOf199
 v109 := Tryz.zeroValue199
 t127 := Tryz.underlying164
 a127 := Tryz.isAgg164
 z127 := Tryz.sizeOf164
 v127 := Tryz.zeroValue164
 t146 := Tryz.underlying211
 a146 := Tryz.isAgg211
 z146 := Tryz.sizeOf211
 v146 := Tryz.zeroValue211
 t148 := Tryz.underlying219
 a148 := Tryz.isAgg219
 z148 := Tryz.sizeOf219
 v148 := Tryz.zeroValue219
 t164 := Tryz.underlying225
 a164 := Tryz.isAgg225
 z164 := Tryz.sizeOf225
 v164 := Tryz.zeroValue225 }
theorem Builder_Extra_105 : Builder.Extra Tryz.prog lays105_ren := {
 sizeBuilder := by kernel_rfl
 liesBuilder := by kernel_rfl
 t5 := Tryz.underlying5
 a5 := Tryz.isAgg5
 z5 := Tryz.sizeOf5
 v5 := Tryz.zeroValue5
 infoByte := by kernel_rfl
 cellsByte := by kernel_rfl
 sizeByte := by kernel_rfl
 neB5 := by decide }
open Go.RowKit Go.Lib in
theorem strings_Repeat (s : ByteArray) (c : Nat) (w : World) (hc : c <= 9223372036854775807) (hlen : s.size * c <= 140737488355328) :
 Calls Tryz.prog 164 #[.string s, .int .i64 c] w fun e w' => e = .returned (.string ⟨(Lib.repeatL s.data.toList c).toArray⟩) /\ Below w.heap.size w w' := Any.strings_Repeat lays105 Builder_Extra_105 s c w hc hlen
end
section
open Go.Sort Go.Proofs
variable {α : Type} [Inhabited α] {lt l1 l2 : α -> α -> Bool}
def OKb (lt : α -> α -> Bool) (tg : α -> Nat) (d : Array α) (lo hi : Nat) : Prop := SortedIn lt lo hi d /\ ∀ t, lo <= t -> t < hi -> lo <= tg d[t]! /\ tg d[t]! < hi
theorem OKb.out {tg : α -> Nat} {d d' : Array α} {lo hi a b : Nat} (h : OKb lt tg d lo hi) (hp : PermIn a b d d') (ho : hi <= a \/ b <= lo) : OKb lt tg d' lo hi := by
 refine ⟨fun i j h1 h2 h3 => ?_, fun t h1 h2 => ?_⟩
 ·rw [hp.2.1 i (by omega), hp.2.1 j (by omega)]; exact h.1 i j h1 h2 h3
 ·rw [hp.2.1 t (by omega)]; exact h.2 t h1 h2
def BlkFrom (lt : α -> α -> Bool) (tg : α -> Nat) (bs n q0 : Nat) (d : Array α) : Prop := ∀ q, q0 <= q -> q * bs < n -> OKb lt tg d (q * bs) (min (q * bs + bs) n)
def BlkTo (lt : α -> α -> Bool) (tg : α -> Nat) (bs n q0 : Nat) (d : Array α) : Prop := ∀ q, q < q0 -> q * bs < n -> OKb lt tg d (q * bs) (min (q * bs + bs) n)
theorem BlkTo.step {tg : α -> Nat} {bs n q : Nat} {d d' : Array α} (h : BlkTo lt tg bs n q d) (hp : PermIn (q * bs) (min (q * bs + bs) n) d d') (hn : OKb lt tg d' (q * bs) (min (q * bs + bs) n)) : BlkTo lt tg bs n (q + 1) d' := by
 intro p hpq hpn
 by_cases e : p = q
 ·rw [e]; exact hn
 ·refine (h p (by omega) hpn).out hp (.inl ?_)
  have : (p + 1) * bs <= q * bs := Nat.mul_le_mul_right _ (by omega)
  rw [Nat.add_mul, Nat.one_mul] at this
  exact Nat.le_trans (Nat.min_le_left _ _) this
theorem BlkFrom.step {tg : α -> Nat} {bs n q hi : Nat} {d d' : Array α} {lo : Nat} (h : BlkFrom lt tg bs n q d) (hp : PermIn lo hi d d') (q' : Nat) (hq : q <= q') (hhi : hi <= q' * bs) : BlkFrom lt tg bs n q' d' := by
 intro p hpq hpn
 refine (h p (by omega) hpn).out hp (.inr ?_)
 exact Nat.le_trans hhi (Nat.mul_le_mul_right _ hpq)
theorem BlkTo.all {tg : α -> Nat} {bs n q : Nat} {d : Array α} (h : BlkTo lt tg bs n q d) (hq : n <= q * bs) : BlkFrom lt tg bs n 0 d := fun p _ hpn => h p (by
 apply Nat.lt_of_not_le
 intro hc
 have := Nat.mul_le_mul_right bs hc
 omega) hpn
section
variable {tg : α -> Nat} {cf : α -> α -> Int} {d d0 : Array α} {n q bs a : Nat}
end
variable {β : Type} {cf : β -> β -> Int}
def tlt (cf : β -> β -> Int) (x y : β × Nat) : Bool := decide (cf x.1 y.1 < 0) || (!decide (cf y.1 x.1 < 0) && decide (x.2 < y.2))
theorem tlt_iff (x y : β × Nat) : tlt cf x y = true ↔ (cf x.1 y.1 < 0 \/ (¬ cf y.1 x.1 < 0 /\ x.2 < y.2)) := by simp [tlt]
structure Cmp (cf : β -> β -> Int) : Prop where
 irrefl : ∀ x, ¬ cf x x < 0
 asymm : ∀ x y, cf x y < 0 -> ¬ cf y x < 0
 ntrans : ∀ x y z, ¬ cf x y < 0 -> ¬ cf y z < 0 -> ¬ cf x z < 0
theorem Cmp.trans (C : Cmp cf) {x y z : β} (h1 : cf x y < 0) (h2 : cf y z < 0) : cf x z < 0 := by
 by_cases h : cf x z < 0
 ·exact h
 ·exact absurd h1 (C.ntrans x z y h (C.asymm _ _ h2))
theorem Cmp.lt_of_lt_of_le (C : Cmp cf) {x y z : β} (h1 : cf x y < 0) (h2 : ¬ cf z y < 0) : cf x z < 0 := by
 by_cases h : cf x z < 0
 ·exact h
 ·exact absurd h1 (C.ntrans x z y h h2)
def IsStable (cf : β -> β -> Int) (xs ys : List β) : Prop :=
 ∃ ts : List (β × Nat), ts.Perm xs.zipIdx /\ ts.Pairwise (fun x y => tlt cf x y = true) /\ ys = ts.map (·.1)
theorem IsStable.nil : IsStable cf [] [] := ⟨[], by simp, List.Pairwise.nil, rfl⟩
theorem IsStable.snoc (C : Cmp cf) {xs A B : List β} (h : IsStable cf xs (A ++ B)) {p : β} (hA : ∀ a, A.getLast? = some a -> ¬ cf p a < 0) (hB : ∀ b ∈ B, cf p b < 0) : IsStable cf (xs ++ [p]) (A ++ p :: B) := by
 obtain ⟨ts, hp, hs, he⟩ := h
 obtain ⟨tA, tB, rfl, rfl, rfl⟩ : ∃ tA tB, ts = tA ++ tB /\ A = tA.map (·.1) /\ B = tB.map (·.1) := by
  obtain ⟨tA, tB, h1, h2, h3⟩ := List.map_eq_append_iff.1 he.symm
  exact ⟨tA, tB, h1, h2.symm, h3.symm⟩
 rw [List.pairwise_append] at hs
 obtain ⟨sA, sB, sAB⟩ := hs
 have htag : ∀ x ∈ tA ++ tB, x.2 < xs.length := fun x hx => by
  have := hp.mem_iff.1 hx
  have := List.mem_zipIdx this
  omega
 refine ⟨tA ++ (p, xs.length) :: tB, ?_, ?_, by simp⟩
 ·have h1 : (tA ++ (p, xs.length) :: tB).Perm ((p, xs.length) :: (tA ++ tB)) := List.perm_middle
  rw [List.zipIdx_append]
  refine h1.trans (((List.perm_cons _).2 hp).trans ?_)
  have : [p].zipIdx xs.length = [(p, xs.length)] := rfl
  simp only [Nat.zero_add, this]
  exact (List.perm_append_singleton _ _).symm
 ·rw [List.pairwise_append]
  refine ⟨sA, ?_, ?_⟩
  ·rw [List.pairwise_cons]
   exact ⟨fun b hb => by rw [tlt_iff]; exact .inl (hB b.1 (List.mem_map.2 ⟨b, hb, rfl⟩)), sB⟩
  ·intro a ha b hb
   rcases List.mem_cons.1 hb with rfl | hb
   ·rw [tlt_iff]
    right
    refine ⟨?_, htag a (by simp [ha])⟩
    cases hl : tA.getLast? with
    | none => rw [List.getLast?_eq_none_iff] at hl; rw [hl] at ha; cases ha
    | some z =>
      have hz := hA z.1 (by rw [List.getLast?_map, hl]; rfl)
      obtain ⟨t0, rfl⟩ := List.getLast?_eq_some_iff.1 hl
      rw [List.pairwise_append] at sA
      rcases List.mem_append.1 ha with ha | ha
      ·have := sA.2.2 a ha z (by simp)
       exact C.ntrans _ _ _ hz (by rw [tlt_iff] at this; rcases this with h | h; exact C.asymm _ _ h; exact h.1)
      ·simp at ha; rw [ha]; exact hz
   ·exact sAB a ha b hb
end
section
open Go.RowKit
theorem ret_bool {a b : Bool} (h : a = b) : Ending.returned (.bool a) = .returned (.bool b) := by rw [h]
structure En where
 seq : Int
 id : ByteArray
 what : Int
deriving DecidableEq
def En.ok (e : En) : Prop := (Lit.int .i64 e.seq).wf = true /\ e.id.size <= maxLen /\ (Lit.int .i64 e.what).wf = true
def enAt (w : World) (b o : Nat) (e : Option En) : Prop := ∃ x, e = some x /\ w.cell? ⟨b, o, none⟩ = some (.int .i64 x.seq) /\ w.cell? ⟨b, o + 1, none⟩ = some (.string x.id) /\ w.cell? ⟨b, o + 2, none⟩ = some (.int .i64 x.what)
def RdE (w : World) (B : Nat) (v : Value) (es : List En) : Prop :=
 (∀ e ∈ es, e.ok) /\ ∃ (p : Option Addr) (cap : Nat), v = .slice p es.length cap /\ es.length <= cap /\ cap <= maxLen /\ (p = none -> cap = 0) /\
  ∀ a, p = some a -> 0 < es.length -> ∃ b o, a = ⟨b, o, none⟩ /\ b < B /\ ∀ i, i < es.length -> enAt w b (o + i * 3) es[i]?
end
section
open Go Go.Maps Go.WideMaps Go.ChangeMaps Go.MapKept Go.WideShapes Go.RowKit
def anyElem (v : Value) : Option (DataW Value × List MemPlace) := some (.held v, [])
def mget (D : DataW Value) (s : List UInt8) : Option Value := match D.atKey (.string s) .nil with
 | .held v => some v
 | _ => none
theorem find_insert {H : Type} (x : Lit × DataW H) (q : Lit × DataW H -> Bool) (hq : q x = false) : ∀ l : List (Lit × DataW H), (DataW.insert x l).find? q = l.find? q
 | [] => by simp [DataW.insert, hq]
 | y :: r => by
   unfold DataW.insert
   split
   ·simp [List.find?_cons, hq]
   ·simp only [List.find?_cons]; split
    ·rfl
    ·exact find_insert x q hq r
theorem find_insert_self {H : Type} (x : Lit × DataW H) (q : Lit × DataW H -> Bool) (hq : q x = true) : ∀ l : List (Lit × DataW H), (∀ y ∈ l, q y = false) -> (DataW.insert x l).find? q = some x
 | [], _ => by simp [DataW.insert, hq]
 | y :: r, h => by
   unfold DataW.insert
   split
   ·simp [List.find?_cons, hq]
   ·simp only [List.find?_cons, h y (by simp)]
    exact find_insert_self x q hq r (fun z hz => h z (by simp [hz]))
theorem find_filter {α : Type} (p q : α -> Bool) (h : ∀ x, q x = true -> p x = true) : ∀ l : List α, (l.filter p).find? q = l.find? q
 | [] => rfl
 | y :: r => by
   simp only [List.filter_cons, List.find?_cons]
   cases hp : p y with
   | true =>
     simp only [if_true, List.find?_cons]
     cases hq : q y with
     | true => rfl
     | false => exact find_filter p q h r
   | false =>
     cases hq : q y with
     | true => rw [h y hq] at hp; cases hp
     | false => simpa using find_filter p q h r
theorem mget_put (E : List (Lit × DataW Value)) (s t : List UInt8) (v : Value) : mget ((DataW.map E).put (.string s) (.held v)) t = if t = s then some v else mget (.map E) t := by
 unfold mget DataW.atKey DataW.put
 dsimp only
 by_cases h : t = s
 ·subst h
  rw [find_insert_self _ _ (by simp [Lit.sameKey]) _ (fun y hy => by simpa using (List.mem_filter.1 hy).2)]
  simp
 ·rw [find_insert _ _ (by simp [Lit.sameKey]; exact fun e => h e.symm), find_filter _ _ (fun x hx => by
   cases hxk : x.1 <;> simp_all [Lit.sameKey])]
  simp [h]
def MapF (w : World) (P : Program) (k : TypeId) (b n : Nat) (f : List UInt8 -> Option Value) : Prop :=
 ∃ E : List (Lit × DataW Value), w.ownsMap P k anyElem b n (.map E) /\ ∀ s, mget (.map E) s = f s
section
variable {P : Program} {k : TypeId} {w : World} {b n : Nat} {f : List UInt8 -> Option Value}
theorem MapF.made (w : World) (P : Program) (k : TypeId) : MapF (w.alloc (.map #[] 0)) P k w.heap.size 0 (fun _ => none) :=
 ⟨[], World.ownsMap_made w P k anyElem, fun _ => rfl⟩
theorem MapF.lt (h : MapF w P k b n f) : b < w.heap.size := by
 obtain ⟨E, h, _⟩ := h
 exact h.lt
theorem MapF.kept {w' : World} {row : Option Nat} (h : MapF w P k b n f) (hg : w.grownBy w' row) (hne : some b ≠ row) : MapF w' P k b n f := by
 obtain ⟨E, h, he⟩ := h
 exact ⟨E, h.kept hg hne, he⟩
theorem MapF.alloc (h : MapF w P k b n f) (o : Obj) : MapF (w.alloc o) P k b n f := by
 obtain ⟨E, h, he⟩ := h
 exact ⟨E, h.alloc o, he⟩
theorem MapF.drewN (h : MapF w P k b n f) (m : Nat) : MapF (w.drewN m) P k b n f := h
theorem MapF.of_block {w' : World} (h : MapF w P k b n f) (hb : w'.heap[b]? = w.heap[b]?) : MapF w' P k b n f := by
 obtain ⟨E, ⟨es, clock, h1, h2⟩, he⟩ := h
 exact ⟨E, ⟨es, clock, hb.trans h1, h2⟩, he⟩
theorem MapF.below {B : Nat} {w' : World} (h : MapF w P k b n f) (hb : Below B w w') (hB : b < B) : MapF w' P k b n f := h.of_block (hb.block b hB)
theorem MapF.mono (h : MapF w P k b n f) {m : Nat} (hm : n <= m) : MapF w P k b m f := by
 obtain ⟨E, h, he⟩ := h
 exact ⟨E, h.mono hm, he⟩
theorem mget_find (E : List (Lit × DataW Value)) (s : List UInt8) : (∃ p, E.find? (fun p => p.1.sameKey (.string s)) = some p /\ ∀ z : DataW Value, (DataW.map E).atKey (.string s) z = p.2) \/
 (E.find? (fun p => p.1.sameKey (.string s)) = none /\ ∀ z : DataW Value, (DataW.map E).atKey (.string s) z = z) := by
 unfold DataW.atKey
 cases h : E.find? (fun p => p.1.sameKey (.string s)) with
 | none => exact .inr ⟨rfl, fun z => by simp [h]⟩
 | some p => exact .inl ⟨p, rfl, fun z => by simp [h]⟩
theorem MapF.look {t e : TypeId} (h : MapF w P k b n f) (hk : P.underlying k = some .string) (ht : P.underlying t = some (.map k e)) {z : Value} (hz : (zeroValue e).run P w = .ok z w) {s : ByteArray} (hs : s.size <= maxLen) :
 (Instr.lookup t (.map (some b)) (.string s) false).run P w = .ok ((f s.data.toList).getD z) w := by
 obtain ⟨E, h, he⟩ := h
 obtain ⟨v, ps, hrun, hv⟩ := h.lookup (string_keyed hk) ht hz (zd := .held z) (zp := []) rfl (keyOf_string_mk hk hs)
 rw [hrun, <- he]
 simp only [anyElem, Option.some.injEq, Prod.mk.injEq] at hv
 have hv1 := hv.1
 unfold mget
 rcases mget_find E s.data.toList with ⟨p, _, hp⟩ | ⟨_, hp⟩
 ·rw [hp] at hv1 ⊢
  rw [<- hv1]; rfl
 ·rw [hp] at hv1 ⊢
  cases hv1; rfl
theorem MapF.store {t e : TypeId} (h : MapF w P k b n f) (hk : P.underlying k = some .string) (ht : P.underlying t = some (.map k e)) (hn : n < maxLen) {s : ByteArray} (hs : s.size <= maxLen) (v : Value) :
 ∃ w', (Instr.mapUpdate t (.map (some b)) (.string s) v).run P w = .ok () w' /\ MapF w' P k b (n + 1) (fun u => if u = s.data.toList then some v else f u) /\ w.grownBy w' (some b) := by
 obtain ⟨E, h, he⟩ := h
 obtain ⟨w', hrun, hown, hg⟩ := h.update (string_keyed hk) ht hn (kl := .string s.data.toList) (keyOf_string_mk hk hs) (d := .held v) (ps := []) rfl
 refine ⟨w', hrun, ⟨_, hown, fun u => ?_⟩, hg⟩
 refine (mget_put E s.data.toList u v).trans ?_
 rw [he u]
end
section
variable {P : Program} (w : World) {ops : Array Oper} {rest : List Oper} {o : Oper} {a : Act} {Q : Exit -> Act -> World -> Prop}
theorem wpList_look_F (hg : o.guard = none) (m x : Operand) (t : TypeId) (hop : o.op = Op.lookup t m x false) (k e : TypeId) (hk : P.underlying k = some .string) (ht : P.underlying t = some (.map k e)) {z : Value} (hz : (zeroValue e).run P w = .ok z w)
 (b n : Nat) (f : List UInt8 -> Option Value) (hm : a.eval m = .map (some b)) (hown : MapF w P k b n f) (s : ByteArray) (hx : a.eval x = .string s) (hs : s.size <= maxLen) {v : Value} (hv : (f s.data.toList).getD z = v)
 (hK : wpList P ops Q rest (a.put o.dst v) w) : wpList P ops Q (o :: rest) a w := by
 refine wpList_plain hg fun K' hK' => ?_
 have hrun := hown.look hk ht hz hs
 rw [hv] at hrun
 unfold Oper.wp
 simp [execOp, hop, hm, hx, hrun, Result.andThen]
 exact hK' _ _ hK
theorem wpList_store_F (hg : o.guard = none) (m x v : Operand) (t : TypeId) (hop : o.op = Op.mapUpdate t m x v) (k e : TypeId) (hk : P.underlying k = some .string) (ht : P.underlying t = some (.map k e))
 (b n : Nat) (f : List UInt8 -> Option Value) (hm : a.eval m = .map (some b)) (hown : MapF w P k b n f) (hn : n < maxLen) (s : ByteArray) (hx : a.eval x = .string s) (hs : s.size <= maxLen) (val : Value) (hv : a.eval v = val)
 (hK : ∀ w', MapF w' P k b (n + 1) (fun u => if u = s.data.toList then some val else f u) -> w.grownBy w' (some b) -> wpList P ops Q rest (a.put o.dst undef) w') : wpList P ops Q (o :: rest) a w := by
 refine wpList_plain hg fun K' hK' => ?_
 obtain ⟨w', hrun, h1, h2⟩ := hown.store hk ht hn hs val
 unfold Oper.wp
 simp [execOp, hop, hm, hx, hv, hrun, Result.andThen]
 exact hK' _ _ (hK w' h1 h2)
end
end
section
open Go Go.Shelf
def lays110_ren : Go.Shelf.Ren := ⟨fun | 110 => 96 | 109 => 127 | n => n, fun | 31 => 46 | 9 => 9 | 4 => 4 | 3 => 3 | 0 => 0 | n => n, fun | n => n⟩
theorem lays110 : Go.Proofs.Lays.n110 Tryz.prog lays110_ren := {
 mixed := by kernel_rfl
 f109 := Tryz.func127.trans (congrArg some (by kernel_rfl))
 f110 := Tryz.func96.trans (congrArg some (by kernel_rfl))
 t0 := Tryz.underlying0
 a0 := Tryz.isAgg0
 z0 := Tryz.sizeOf0
 v0 := Tryz.zeroValue0
 t3 := Tryz.underlying3
 a3 := Tryz.isAgg3
 z3 := Tryz.sizeOf3
 v3 := Tryz.zeroValue3
 t4 := Tryz.underlying4
 a4 := Tryz.isAgg4
 z4 := Tryz.sizeOf4
 v4 := Tryz.zeroValue4
 t9 := Tryz.underlying9
 a9 := Tryz.isAgg9
 z9 := Tryz.sizeOf9
 v9 := Tryz.zeroValue9
 t31 := Tryz.underlying46
 a31 := Tryz.isAgg46
 z31 := Tryz.sizeOf46
 v31 := Tryz.zeroValue46 }
open Go.Lib in
theorem slices_Contains_string (b off n c : Nat) (zs : List ByteArray) (x : ByteArray) (w : World) (hz : n <= zs.length) (hbig : n <= 9223372036854775807) (hc : ∀ j, j < zs.length -> w.cell? ⟨b, off + j, none⟩ = some (.string (zs.getD j ByteArray.empty))) :
 Calls Tryz.prog 96 #[.slice (some ⟨b, off, none⟩) n c, .string x] w fun e w' => e = .returned (.bool (Lib.containsS (zs.take n) x)) /\ w' = w := Any.slices_Contains_string lays110 b off n c zs x w hz hbig hc
open Go.Lib in
theorem slices_Contains_string_empty (a : Option Addr) (c : Nat) (x : ByteArray) (w : World) :
 Calls Tryz.prog 96 #[.slice a 0 c, .string x] w fun e w' => e = .returned (.bool false) /\ w' = w := Any.slices_Contains_string_empty lays110 a c x w
def lays144_ren : Go.Shelf.Ren := ⟨fun | 144 => 99 | 143 => 132 | 219 => 151 | 217 => 137 | 225 => 166 | 224 => 167 | 267 => 168 | 266 => 153 | 314 => 192 | n => n, fun | 9 => 9 | 4 => 4 | 3 => 3 | 5 => 5 | 46 => 58 | 146 => 211 | 51 => 210 | n => n, fun | 1 => 1 | n => n⟩
theorem lays144 : Go.Proofs.Lays.n144 Tryz.prog lays144_ren := {
 mixed := by kernel_rfl
 f143 := Tryz.func132.trans (congrArg some (by kernel_rfl))
 f144 := Tryz.func99.trans (congrArg some (by kernel_rfl))
 f217 := Tryz.func137.trans (congrArg some (by kernel_rfl))
 f219 := Tryz.func151.trans (congrArg some (by kernel_rfl))
 f224 := Tryz.func167.trans (congrArg some (by kernel_rfl))
 f225 := Tryz.func166.trans (congrArg some (by kernel_rfl))
 f266 := Tryz.func153.trans (congrArg some (by kernel_rfl))
 f267 := Tryz.func168.trans (congrArg some (by kernel_rfl))
 f314 := Tryz.func192.trans (congrArg some (by kernel_rfl))
 t3 := Tryz.underlying3
 a3 := Tryz.isAgg3
 z3 := Tryz.sizeOf3
 v3 := Tryz.zeroValue3
 t4 := Tryz.underlying4
 a4 := Tryz.isAgg4
 z4 := Tryz.sizeOf4
 v4 := Tryz.zeroValue4
 t5 := Tryz.underlying5
 a5 := Tryz.isAgg5
 z5 := Tryz.sizeOf5
 v5 := Tryz.zeroValue5
 t9 := Tryz.underlying9
 a9 := Tryz.isAgg9
 z9 := Tryz.sizeOf9
 v9 := Tryz.zeroValue9
 t46 := Tryz.underlying58
 a46 := Tryz.isAgg58
 z46 := Tryz.sizeOf58
 v46 := Tryz.zeroValue58
 t51 := Tryz.underlying210
 a51 := Tryz.isAgg210
 z51 := Tryz.sizeOf210
 v51 := Tryz.zeroValue210
 t146 := Tryz.underlying211
 a146 := Tryz.isAgg211
 z146 := Tryz.sizeOf211
 v146 := Tryz.zeroValue211
 g1 := by kernel_rfl }
open Go.RowKit Go.Lib in
theorem strings_Contains (s sub : ByteArray) (m : Int) (w : World) (hs : s.size < 4294967281) (hm : w.cell? ⟨1, 0, none⟩ = some (.int .i64 m)) :
 Calls Tryz.prog 99 #[.string s, .string sub] w fun e w' => e = .returned (.bool (Lib.contains s.data.toList sub.data.toList)) /\ w' = w := Any.strings_Contains lays144 s sub m w hs hm
def lays137_ren : Go.Shelf.Ren := ⟨fun | 137 => 104 | 217 => 137 | 266 => 153 | n => n, fun | 9 => 9 | 5 => 5 | 3 => 3 | n => n, fun | n => n⟩
theorem lays137 : Go.Proofs.Lays.n137 Tryz.prog lays137_ren := {
 mixed := by kernel_rfl
 f137 := Tryz.func104.trans (congrArg some (by kernel_rfl))
 f217 := Tryz.func137.trans (congrArg some (by kernel_rfl))
 f266 := Tryz.func153.trans (congrArg some (by kernel_rfl))
 t3 := Tryz.underlying3
 a3 := Tryz.isAgg3
 z3 := Tryz.sizeOf3
 v3 := Tryz.zeroValue3
 t5 := Tryz.underlying5
 a5 := Tryz.isAgg5
 z5 := Tryz.sizeOf5
 v5 := Tryz.zeroValue5
 t9 := Tryz.underlying9
 a9 := Tryz.isAgg9
 z9 := Tryz.sizeOf9
 v9 := Tryz.zeroValue9 }
open Go.RowKit in
theorem strings_IndexByte (s : ByteArray) (c : Int) (w : World) :
 Calls Tryz.prog 104 #[.string s, .int .u8 c] w fun e w' => e = .returned (.int .i64 (Lib.indexByte s.data.toList c.toNat.toUInt8)) /\ w' = w := Any.strings_IndexByte lays137 s c w
def lays99_ren : Go.Shelf.Ren := ⟨fun | 99 => 157 | 206 => 174 | n => n, fun | 9 => 9 | 4 => 4 | 3 => 3 | n => n, fun | n => n⟩
theorem lays99 : Go.Proofs.Lays.n99 Tryz.prog lays99_ren := {
 mixed := by kernel_rfl
 f99 := Tryz.func157.trans (congrArg some (by kernel_rfl))
 f206 := Tryz.func174.trans (congrArg some (by kernel_rfl))
 t3 := Tryz.underlying3
 a3 := Tryz.isAgg3
 z3 := Tryz.sizeOf3
 v3 := Tryz.zeroValue3
 t4 := Tryz.underlying4
 a4 := Tryz.isAgg4
 z4 := Tryz.sizeOf4
 v4 := Tryz.zeroValue4
 t9 := Tryz.underlying9
 a9 := Tryz.isAgg9
 z9 := Tryz.sizeOf9
 v9 := Tryz.zeroValue9 }
open Go.RowKit Go.Lib in
theorem strings_HasPrefix (s p : ByteArray) (w : World) :
 Calls Tryz.prog 157 #[.string s, .string p] w fun e w' => e = .returned (.bool (Lib.hasPrefix s.data.toList p.data.toList)) /\ w' = w := Any.strings_HasPrefix lays99 s p w
end
end Go.Proofs.YtffhccmppdgmfaaGreatDoor
