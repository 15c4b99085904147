import Derived.Shelf.LaysM
import Derived.Shelf.Small.Strs
import Derived.Shelf.Strconv.Clone
import Derived.Shelf.Strings.Count
import Derived.Shelf.Strings.OnBuilder
import Derived.Shelf.Strings.Repeat
import Derived.Shelf.Strings.Trim
import Derived.Shelf.Strings.SlTrimAscii
import Derived.Test.YtjhginendpjimaaGreatDoorProg
import Derived.Test.YtjhginendpjimaaGreatDoorB13
set_option linter.unusedSimpArgs false
set_option linter.unusedVariables false
set_option maxRecDepth 200000
set_option maxHeartbeats 8000000
namespace Go.Proofs.YtjhginendpjimaaGreatDoor
section
open Go Go.Shelf
def lays160_ren : Go.Shelf.Ren := ⟨fun | 160 => 107 | 232 => 126 | 231 => 125 | 227 => 127 | 234 => 129 | 233 => 128 | 236 => 131 | 235 => 130 | 228 => 143 | 271 => 146 | 151 => 145 | 197 => 144 | 120 => 157 | 152 => 156 | 260 => 155 | 137 => 66 | 119 => 167 | 224 => 161 | 225 => 160 | 217 => 83 | 266 => 96 | n => n, fun | 9 => 9 | 4 => 4 | 3 => 3 | 5 => 5 | 117 => 170 | 116 => 169 | 0 => 0 | 124 => 173 | 21 => 21 | 105 => 142 | 46 => 43 | 119 => 206 | 139 => 209 | 138 => 208 | n => n, fun | 3 => 2 | 4 => 3 | n => n⟩
theorem lays160 : Go.Proofs.Lays.n160 Tryz.prog lays160_ren := {
 mixed := by kernel_rfl
 f119 := Tryz.func167.trans (congrArg some (by kernel_rfl))
 f120 := Tryz.func157.trans (congrArg some (by kernel_rfl))
 f137 := Tryz.func66.trans (congrArg some (by kernel_rfl))
 f151 := Tryz.func145.trans (congrArg some (by kernel_rfl))
 f152 := Tryz.func156.trans (congrArg some (by kernel_rfl))
 f160 := Tryz.func107.trans (congrArg some (by kernel_rfl))
 f197 := Tryz.func144.trans (congrArg some (by kernel_rfl))
 f217 := Tryz.func83.trans (congrArg some (by kernel_rfl))
 f224 := Tryz.func161.trans (congrArg some (by kernel_rfl))
 f225 := Tryz.func160.trans (congrArg some (by kernel_rfl))
 f227 := Tryz.func127.trans (congrArg some (by kernel_rfl))
 f228 := Tryz.func143.trans (congrArg some (by kernel_rfl))
 f231 := Tryz.func125.trans (congrArg some (by kernel_rfl))
 f232 := Tryz.func126.trans (congrArg some (by kernel_rfl))
 f233 := Tryz.func128.trans (congrArg some (by kernel_rfl))
 f234 := Tryz.func129.trans (congrArg some (by kernel_rfl))
 f235 := Tryz.func130.trans (congrArg some (by kernel_rfl))
 f236 := Tryz.func131.trans (congrArg some (by kernel_rfl))
 f260 := Tryz.func155.trans (congrArg some (by kernel_rfl))
 f266 := Tryz.func96.trans (congrArg some (by kernel_rfl))
 f271 := Tryz.func146.trans (congrArg some (by kernel_rfl))
 t0 := Tryz.underlying0
 a0 := Tryz.isAgg0
 z0 := Tryz.sizeOf0
 v0 := Tryz.zeroValue0
 t3 := Tryz.underlying3
 a3 := Tryz.isAgg3
 z3 := Tryz.sizeOf3
 v3 := Tryz.zeroValue3
 t4 := Tryz.underlying4
 a4 := Tryz.isAgg4
 z4 := Tryz.sizeOf4
 v4 := Tryz.zeroValue4
 t5 := Tryz.underlying5
 a5 := Tryz.isAgg5
 z5 := Tryz.sizeOf5
 v5 := Tryz.zeroValue5
 t9 := Tryz.underlying9
 a9 := Tryz.isAgg9
 z9 := Tryz.sizeOf9
 v9 := Tryz.zeroValue9
 t21 := Tryz.underlying21
 a21 := Tryz.isAgg21
 z21 := Tryz.sizeOf21
 v21 := Tryz.zeroValue21
 t46 := Tryz.underlying43
 a46 := Tryz.isAgg43
 z46 := Tryz.sizeOf43
 v46 := Tryz.zeroValue43
 t105 := Tryz.underlying142
 a105 := Tryz.isAgg142
 z105 := Tryz.sizeOf142
 v105 := Tryz.zeroValue142
 t116 := Tryz.underlying169
 a116 := Tryz.isAgg169
 z116 := Tryz.sizeOf169
 t117 := Tryz.underlying170
 a117 := Tryz.isAgg170
 z117 := Tryz.sizeOf170
 v117 := Tryz.zeroValue170
 t119 := Tryz.underlying206
 a119 := Tryz.isAgg206
 z119 := Tryz.sizeOf206
 t124 := Tryz.underlying173
 a124 := Tryz.isAgg173
 z124 := Tryz.sizeOf173
 v124 := Tryz.zeroValue173
 t138 := Tryz.underlying208
 a138 := Tryz.isAgg208
 z138 := Tryz.sizeOf208
 v138 := Tryz.zeroValue208
 t139 := Tryz.underlying209
 a139 := Tryz.isAgg209
 z139 := Tryz.sizeOf209
 v139 := Tryz.zeroValue209
 g3 := by kernel_rfl
 g4 := by kernel_rfl }
open Go.RowKit in
theorem strings_Trim_one (s : ByteArray) (c : UInt8) (hc : c.toNat < 128) (w : World) (hs : s.size <= 9223372036854775807) :
 Calls Tryz.prog 107 #[.string s, .string ⟨#[c]⟩] w fun e w' => e = .returned (.string ⟨(Lib.trimB s.data.toList c).toArray⟩) /\ (w' = w \/ w' = w.drew) := Any.strings_Trim_one lays160 s c hc w hs
def lays106_ren : Go.Shelf.Ren := ⟨fun | 106 => 90 | 213 => 102 | 265 => 122 | n => n, fun | 9 => 9 | 3 => 3 | n => n, fun | n => n⟩
theorem lays106 : Go.Proofs.Lays.n106 Tryz.prog lays106_ren := {
 mixed := by kernel_rfl
 f106 := Tryz.func90.trans (congrArg some (by kernel_rfl))
 f213 := Tryz.func102.trans (congrArg some (by kernel_rfl))
 f265 := Tryz.func122.trans (congrArg some (by kernel_rfl))
 t3 := Tryz.underlying3
 a3 := Tryz.isAgg3
 z3 := Tryz.sizeOf3
 v3 := Tryz.zeroValue3
 t9 := Tryz.underlying9
 a9 := Tryz.isAgg9
 z9 := Tryz.sizeOf9
 v9 := Tryz.zeroValue9 }
open Go.RowKit in
theorem strings_Compare (a b : ByteArray) (w : World) :
 Calls Tryz.prog 90 #[.string a, .string b] w fun e w' => e = .returned (.int .i64 (Lib.compareBytes a.data.toList b.data.toList)) /\ w' = w := Any.strings_Compare lays106 a b w
def lays138_ren : Go.Shelf.Ren := ⟨fun | 138 => 109 | 195 => 137 | 218 => 138 | 143 => 139 | 219 => 151 | 217 => 83 | 225 => 160 | 224 => 161 | 267 => 162 | 266 => 96 | 314 => 168 | n => n, fun | 9 => 9 | 3 => 3 | 4 => 4 | 5 => 5 | 0 => 0 | 46 => 43 | 146 => 190 | 51 => 189 | n => n, fun | 1 => 1 | n => n⟩
theorem lays138 : Go.Proofs.Lays.n138 Tryz.prog lays138_ren := {
 mixed := by kernel_rfl
 f138 := Tryz.func109.trans (congrArg some (by kernel_rfl))
 f143 := Tryz.func139.trans (congrArg some (by kernel_rfl))
 f195 := Tryz.func137.trans (congrArg some (by kernel_rfl))
 f217 := Tryz.func83.trans (congrArg some (by kernel_rfl))
 f218 := Tryz.func138.trans (congrArg some (by kernel_rfl))
 f219 := Tryz.func151.trans (congrArg some (by kernel_rfl))
 f224 := Tryz.func161.trans (congrArg some (by kernel_rfl))
 f225 := Tryz.func160.trans (congrArg some (by kernel_rfl))
 f266 := Tryz.func96.trans (congrArg some (by kernel_rfl))
 f267 := Tryz.func162.trans (congrArg some (by kernel_rfl))
 f314 := Tryz.func168.trans (congrArg some (by kernel_rfl))
 t0 := Tryz.underlying0
 a0 := Tryz.isAgg0
 z0 := Tryz.sizeOf0
 v0 := Tryz.zeroValue0
 t3 := Tryz.underlying3
 a3 := Tryz.isAgg3
 z3 := Tryz.sizeOf3
 v3 := Tryz.zeroValue3
 t4 := Tryz.underlying4
 a4 := Tryz.isAgg4
 z4 := Tryz.sizeOf4
 v4 := Tryz.zeroValue4
 t5 := Tryz.underlying5
 a5 := Tryz.isAgg5
 z5 := Tryz.sizeOf5
 v5 := Tryz.zeroValue5
 t9 := Tryz.underlying9
 a9 := Tryz.isAgg9
 z9 := Tryz.sizeOf9
 v9 := Tryz.zeroValue9
 t46 := Tryz.underlying43
 a46 := Tryz.isAgg43
 z46 := Tryz.sizeOf43
 v46 := Tryz.zeroValue43
 t51 := Tryz.underlying189
 a51 := Tryz.isAgg189
 z51 := Tryz.sizeOf189
 v51 := Tryz.zeroValue189
 t146 := Tryz.underlying190
 a146 := Tryz.isAgg190
 z146 := Tryz.sizeOf190
 v146 := Tryz.zeroValue190
 g1 := by kernel_rfl }
open Go.RowKit Go.Lib in
theorem strings_Count_one (s : ByteArray) (c : UInt8) (w : World) :
 Calls Tryz.prog 109 #[.string s, .string ⟨#[c]⟩] w fun e w' => e = .returned (.int .i64 (Lib.countByte s.data.toList c)) /\ w' = w := Any.strings_Count_one lays138 s c w
def lays105_ren : Go.Shelf.Ren := ⟨fun | 105 => 108 | 212 => 132 | 99 => 100 | 165 => 133 | 166 => 134 | 170 => 135 | 169 => 136 | 263 => 147 | 264 => 148 | 206 => 121 | 240 => 149 | 241 => 150 | 276 => 158 | 277 => 159 | n => n, fun | 9 => 9 | 3 => 3 | 4 => 4 | 20 => 20 | 0 => 0 | 46 => 43 | 109 => 174 | 5 => 5 | 72 => 178 | 76 => 182 | 51 => 189 | 146 => 190 | 53 => 192 | 148 => 193 | 70 => 176 | 37 => 130 | 75 => 181 | 127 => 131 | 164 => 199 | 80 => 184 | n => n, fun | n => n⟩
theorem lays105 : Go.Proofs.Lays.n105 Tryz.prog lays105_ren := {
 mixed := by kernel_rfl
 f99 := Tryz.func100.trans (congrArg some (by kernel_rfl))
 f105 := Tryz.func108.trans (congrArg some (by kernel_rfl))
 f165 := Tryz.func133.trans (congrArg some (by kernel_rfl))
 f166 := Tryz.func134.trans (congrArg some (by kernel_rfl))
 f169 := Tryz.func136.trans (congrArg some (by kernel_rfl))
 f170 := Tryz.func135.trans (congrArg some (by kernel_rfl))
 f206 := Tryz.func121.trans (congrArg some (by kernel_rfl))
 f212 := Tryz.func132.trans (congrArg some (by kernel_rfl))
 f240 := Tryz.func149.trans (congrArg some (by kernel_rfl))
 f241 := Tryz.func150.trans (congrArg some (by kernel_rfl))
 f263 := Tryz.func147.trans (congrArg some (by kernel_rfl))
 f264 := Tryz.func148.trans (congrArg some (by kernel_rfl))
 f276 := Tryz.func158.trans (congrArg some (by kernel_rfl))
 f277 := Tryz.func159.trans (congrArg some (by kernel_rfl))
 t0 := Tryz.underlying0
 a0 := Tryz.isAgg0
 z0 := Tryz.sizeOf0
 v0 := Tryz.zeroValue0
 t3 := Tryz.underlying3
 a3 := Tryz.isAgg3
 z3 := Tryz.sizeOf3
 v3 := Tryz.zeroValue3
 t4 := Tryz.underlying4
 a4 := Tryz.isAgg4
 z4 := Tryz.sizeOf4
 v4 := Tryz.zeroValue4
 t5 := Tryz.underlying5
 a5 := Tryz.isAgg5
 z5 := Tryz.sizeOf5
 v5 := Tryz.zeroValue5
 t9 := Tryz.underlying9
 a9 := Tryz.isAgg9
 z9 := Tryz.sizeOf9
 v9 := Tryz.zeroValue9
 t20 := Tryz.underlying20
 a20 := Tryz.isAgg20
 z20 := Tryz.sizeOf20
 v20 := Tryz.zeroValue20
 t37 := Tryz.underlying130
 a37 := Tryz.isAgg130
 z37 := Tryz.sizeOf130
 v37 := Tryz.zeroValue130
 t46 := Tryz.underlying43
 a46 := Tryz.isAgg43
 z46 := Tryz.sizeOf43
 v46 := Tryz.zeroValue43
 t51 := Tryz.underlying189
 a51 := Tryz.isAgg189
 z51 := Tryz.sizeOf189
 v51 := Tryz.zeroValue189
 t53 := Tryz.underlying192
 a53 := Tryz.isAgg192
 z53 := Tryz.sizeOf192
 v53 := Tryz.zeroValue192
 t70 := Tryz.underlying176
 a70 := Tryz.isAgg176
 z70 := Tryz.sizeOf176
 v70 := Tryz.zeroValue176
 t72 := Tryz.underlying178
 a72 := Tryz.isAgg178
 z72 := Tryz.sizeOf178
 v72 := Tryz.zeroValue178
 t75 := Tryz.underlying181
 a75 := Tryz.isAgg181
 z75 := Tryz.sizeOf181
 v75 := Tryz.zeroValue181
 t76 := Tryz.underlying182
 a76 := Tryz.isAgg182
 z76 := Tryz.sizeOf182
 v76 := Tryz.zeroValue182
 t109 := Tryz.underlying174
 a109 := Tryz.isAgg174
 z109 := Tryz.sizeOf174
 v109 := Tryz.zeroValue174
 t127 := Tryz.underlying131
 a127 := Tryz.isAgg131
 z127 := Tryz.sizeOf131
 v127 := Tryz.zeroValue131
 t146 := Tryz.underlying190
 a146 := Tryz.isAgg190
 z146 := Tryz.sizeOf190
 v146 := Tryz.zeroValue190
 t148 := Tryz.underlying193
 a148 := Tryz.isAgg193
 z148 := Tryz.sizeOf193
 v148 := Tryz.zeroValue193
 t164 := Tryz.underlying199
 a164 := Tryz.isAgg199
 z164 := Tryz.sizeOf199
 v164 := Tryz.zeroValue199 }
theorem Builder_Extra_105 : Builder.Extra Tryz.prog lays105_ren := {
 sizeBuilder := by kernel_rfl
 liesBuilder := by kernel_rfl
 t5 := Tryz.underlying5
 a5 := Tryz.isAgg5
 z5 := Tryz.sizeOf5
 v5 := Tryz.zeroValue5
 infoByte := by kernel_rfl
 cellsByte := by kernel_rfl
 sizeByte := by kernel_rfl
 neB5 := by decide }
open Go.RowKit Go.Lib in
theorem strings_Repeat (s : ByteArray) (c : Nat) (w : World) (hc : c <= 9223372036854775807) (hlen : s.size * c <= 140737488355328) :
 Calls Tryz.prog 108 #[.string s, .int .i64 c] w fun e w' => e = .returned (.string ⟨(Lib.repeatL s.data.toList c).toArray⟩) /\ Below w.heap.size w w' := Any.strings_Repeat lays105 Builder_Extra_105 s c w hc hlen
def laysM316_ren : Go.Shelf.Ren := ⟨fun | 316 => 62 | n => n, fun | 9 => 9 | 3 => 3 | 4 => 4 | 37 => 130 | 0 => 0 | 127 => 131 | 5 => 5 | n => n, fun | n => n⟩
theorem laysM316 : Go.Proofs.LaysM.n316 Tryz.prog laysM316_ren := {
 mixed := by kernel_rfl
 f316 := Tryz.func62.trans (congrArg some (by kernel_rfl))
 t0 := Tryz.underlying0
 a0 := Tryz.isAgg0
 z0 := Tryz.sizeOf0
 v0 := Tryz.zeroValue0
 t3 := Tryz.underlying3
 a3 := Tryz.isAgg3
 z3 := Tryz.sizeOf3
 v3 := Tryz.zeroValue3
 t4 := Tryz.underlying4
 a4 := Tryz.isAgg4
 z4 := Tryz.sizeOf4
 v4 := Tryz.zeroValue4
 t9 := Tryz.underlying9
 a9 := Tryz.isAgg9
 z9 := Tryz.sizeOf9
 v9 := Tryz.zeroValue9
 t37 := Tryz.underlying130
 a37 := Tryz.isAgg130
 z37 := Tryz.sizeOf130
 v37 := Tryz.zeroValue130
 t127 := Tryz.underlying131
 a127 := Tryz.isAgg131
 z127 := Tryz.sizeOf131
 v127 := Tryz.zeroValue131
 t5 := Tryz.underlying5
 a5 := Tryz.isAgg5
 z5 := Tryz.sizeOf5
 v5 := Tryz.zeroValue5
 i0 := by kernel_rfl
 i3 := by kernel_rfl
 i4 := by kernel_rfl
 i5 := by kernel_rfl
 i9 := by kernel_rfl
 i37 := by kernel_rfl
 i127 := by kernel_rfl }
open Go.RowKit in
theorem stringslite_Clone (s : ByteArray) (w : World) (hlim : s.size <= 281474976710656) :
 Calls Tryz.prog 62 #[.string s] w fun e w' => e = .returned (.string s) /\ Below w.heap.size w w' := Any.stringslite_Clone laysM316 s w hlim
end
section
open Go Go.RowKit Go.OpenShut
def digsB : ByteArray := ⟨#[48, 49, 50, 51, 52, 53, 54, 55, 56, 57]⟩
theorem digs_contains (c : UInt8) : digsB.data.toList.contains c = digU c := by
 have h : ∀ n : Fin 256, (digsB.data.toList.contains (UInt8.ofNat n.1)) = digU (UInt8.ofNat n.1) := by decide +kernel
 have h2 := h ⟨c.toNat, c.toNat_lt⟩
 simpa using h2
def m_all (l : List UInt8) (p : UInt8 -> Bool) : Prop := ∀ x ∈ l, p x = true
theorem trim_empty (l cs : List UInt8) : (Lib.trimS l cs = []) ↔ l.all (cs.contains ·) = true := by
 have hd : ∀ m : List UInt8, m.dropWhile (cs.contains ·) = [] ↔ m.all (cs.contains ·) = true := by
  intro m
  induction m with
  | nil => simp
  | cons a m ih =>
    rw [List.dropWhile_cons, List.all_cons]
    cases h : cs.contains a
    ·simp
    ·simp only [if_true, Bool.true_and]
     exact ih
 have hsub : ∀ m : List UInt8, m.all (cs.contains ·) = true -> (m.reverse.dropWhile (cs.contains ·)).reverse = [] := by
  intro m hm
  have : m.reverse.all (cs.contains ·) = true := by rw [List.all_reverse]; exact hm
  rw [(hd _).2 this]
  rfl
 unfold Lib.trimS Lib.trimLeftS Lib.trimRightS
 rw [hd]
 constructor
 ·intro h
  rw [List.all_reverse] at h
  have h2 : m_all l.reverse (cs.contains ·) := by
   intro x hx
   by_cases hx2 : x ∈ l.reverse.dropWhile (cs.contains ·)
   ·exact List.all_eq_true.1 h x hx2
   ·have h3 := List.takeWhile_append_dropWhile (p := (cs.contains ·)) (l := l.reverse)
    rw [<- h3] at hx
    rcases List.mem_append.1 hx with h4 | h4
    ·exact List.all_eq_true.1 List.all_takeWhile x h4
    ·exact absurd h4 hx2
  rw [List.all_eq_true]
  intro x hx
  exact h2 x (List.mem_reverse.2 hx)
 ·intro h
  rw [hsub l h]
  rfl
theorem trim_digs (s : ByteArray) (w : World) (hs : s.size <= 9223372036854775807) : Calls Tryz.prog 107 #[.string s, .string digsB] w fun e w' => ∃ T : ByteArray, e = .returned (.string T) /\ T.toList.isEmpty = s.data.toList.all digU /\ Below w.heap.size w w' := by
 refine (Any.strings_Trim_laid lays160 (by kernel_rfl) s digsB w hs (by decide) (fun j b h => ?_)).mono (fun e w' h => ?_)
 ·have hall : digsB.data.toList.all (fun b => decide (b.toNat < 128)) = true := by decide +kernel
  exact of_decide_eq_true (List.all_eq_true.1 hall b (List.mem_of_getElem? h))
 ·refine ⟨_, h.1, ?_, h.2⟩
  rw [ByteArray.toList_eq]
  have e : (fun c => digsB.data.toList.contains c) = digU := funext digs_contains
  have h2 := trim_empty s.data.toList digsB.data.toList
  rw [show (s.data.toList.all (digsB.data.toList.contains ·)) = s.data.toList.all digU from congrArg _ e] at h2
  cases ha : s.data.toList.all digU with
  | true => rw [h2.2 ha]; rfl
  | false =>
    cases ht : Lib.trimS s.data.toList digsB.data.toList with
    | nil => rw [h2.1 ht] at ha; cases ha
    | cons a r => rfl
theorem tail_any (s : ByteArray) (w : World) (hs : s.size <= maxLen) : Calls Tryz.prog 105 #[.string s] w fun e w' => e = .returned (.bool (tlOk s.data.toList)) /\ Below w.heap.size w w' := by
 have hsz : s.data.toList.length = s.size := by rw [Array.length_toList]; rfl
 unfold maxLen at hs
 have s0 : (0 : Int) <= (s.size : Int) := Int.natCast_nonneg _
 obtain ⟨bz, hbz⟩ : ∃ b, (s.toList == [90]) = b := ⟨_, rfl⟩
 have HBZ : Hid (decide (s.data.toList = [90]) = bz) := by
  unfold Hid
  rw [<- hbz, ByteArray.toList_eq]
  by_cases h : s.data.toList = [90]
  ·rw [decide_eq_true h, h]; rfl
  ·rw [decide_eq_false h]; simpa using h
 have HTL : Hid (tlOk s.data.toList = (decide (s.data.toList = [90]) || (decide (3 <= s.data.toList.length) && (decide (s.data.toList.length <= 11) && (decide (s.data.toList[0]? = some 46) && (decide (s.data.toList[s.data.toList.length - 1]? = some 90) && (decide (s.data.toList[s.data.toList.length - 2]? ≠ some 48) && ((s.data.toList.drop 1).take (s.data.toList.length - 2)).all digU))))))) := rfl
 rw [HBZ.out, hsz] at HTL
 have HGE : Hid (∀ k, (h : k < s.size) -> s.data.toList[k]? = some s[k]) := fun k h => get_optS h
 obtain ⟨R, hR⟩ : ∃ R, tlOk s.data.toList = R := ⟨_, rfl⟩
 rw [hR] at HTL
 rw [hR]
 clear hR
 cases bz with
 | true =>
   have HRR : Hid (R = true) := by unfold Hid; rw [HTL.out]; rfl
   rw [HRR.out]
   clear hsz
   go_enter Tryz.func105, Tryz.ntmps105
   go_wp2_with fail
   go_ret
   exact ⟨rfl, Below.refl _ _⟩
 | false =>
   by_cases h3 : s.size < 3
   ·have q : decide ((s.size : Int) - 2 < 1) = true := decide_eq_true (by omega)
    have q' : (s.size : Int) - 2 < 1 := by omega
    have HRR : Hid (R = false) := by unfold Hid; rw [HTL.out, decide_eq_false (p := 3 <= s.size) (by omega)]; rfl
    rw [HRR.out]
    clear hsz
    go_enter Tryz.func105, Tryz.ntmps105
    go_wp2_with fail
    go_ret
    exact ⟨rfl, Below.refl _ _⟩
   ·obtain ⟨K, hK⟩ : ∃ K, s.size = K + 2 := ⟨s.size - 2, by omega⟩
    have hK1 : 1 <= K := by omega
    have HK := Lib.hid hK
    have hKs : (s.size : Int) - 2 = (K : Int) := by omega
    have b0 : 0 < s.size := by omega
    have bk : K < s.size := by omega
    have bz' : K + 1 < s.size := by omega
    have b0' : (0 : Int) < (s.size : Int) := by omega
    have bk' : (K : Int) < (s.size : Int) := by omega
    have bz2 : (K : Int) + 1 < (s.size : Int) := by omega
    have bz3 : (K : Int) + 1 <= (s.size : Int) := by omega
    have hK0 : (1 : Int) <= (K : Int) := by omega
    have hK00 : (0 : Int) <= (K : Int) := by omega
    have q1 : decide ((K : Int) < 1) = false := decide_eq_false (by omega)
    obtain ⟨e2, he2⟩ : ∃ b, decide ((9 : Int) < (K : Int)) = b := ⟨_, rfl⟩
    have g0 := HGE.out 0 b0
    have gk := HGE.out K bk
    have gz := HGE.out (K + 1) bz'
    obtain ⟨c0, hc0⟩ : ∃ c, s[0] = c := ⟨_, rfl⟩
    obtain ⟨ck, hck⟩ : ∃ c, s[K] = c := ⟨_, rfl⟩
    obtain ⟨cz, hcz⟩ : ∃ c, s[K + 1] = c := ⟨_, rfl⟩
    rw [hc0] at g0
    rw [hck] at gk
    rw [hcz] at gz
    have hdn : ∀ (c : UInt8) (k : UInt8), (((c.toNat : Nat) : Int) == ((k.toNat : Nat) : Int)) = decide (c = k) := fun c k => by
     by_cases h : c = k
     ·rw [decide_eq_true h, h]; simp
     ·rw [decide_eq_false h]
      have h2 : ¬ c.toNat = k.toNat := fun e => h (UInt8.toNat_inj.1 e)
      simp
      omega
    obtain ⟨x0, hx0⟩ : ∃ b, (((c0.toNat : Nat) : Int) == 46) = b := ⟨_, rfl⟩
    obtain ⟨xz, hxz⟩ : ∃ b, (((cz.toNat : Nat) : Int) == 90) = b := ⟨_, rfl⟩
    obtain ⟨xk, hxk⟩ : ∃ b, (((ck.toNat : Nat) : Int) == 48) = b := ⟨_, rfl⟩
    have hx0n : (((c0.toNat : Nat) : Int) != 46) = !x0 := by unfold bne; rw [hx0]
    have hxzn : (((cz.toNat : Nat) : Int) != 90) = !xz := by unfold bne; rw [hxz]
    have HX0 : Hid (decide (c0 = 46) = x0) := by unfold Hid; rw [<- hx0]; exact (hdn c0 46).symm
    have HXZ : Hid (decide (cz = 90) = xz) := by unfold Hid; rw [<- hxz]; exact (hdn cz 90).symm
    have HXK : Hid (decide (ck = 48) = xk) := by unfold Hid; rw [<- hxk]; exact (hdn ck 48).symm
    have HTR : Hid (∀ W, Calls Tryz.prog 107 #[.string (s.extract 1 (K + 1)), .string digsB] W fun e w' => ∃ T : ByteArray, e = .returned (.string T) /\ T.toList.isEmpty = (s.extract 1 (K + 1)).data.toList.all digU /\ Below W.heap.size W w') := fun W => trim_digs _ W (by rw [<- str_len, Lib.extract_data]; simp; omega)
    rw [Lib.extract_data] at HTR
    have HR2 : Hid (R = (!(e2 || (!x0 || (!xz || xk))) && ((s.data.toList.drop 1).take K).all digU)) := by
     unfold Hid
     rw [HTL.out, hK, show K + 2 - 1 = K + 1 by omega, show K + 2 - 2 = K by omega, g0, gk, gz, decide_eq_true (p := 3 <= K + 2) (by omega)]
     have e : decide (K + 2 <= 11) = !e2 := by
      rw [<- he2]
      by_cases h : 9 < K
      ·rw [decide_eq_false (by omega), decide_eq_true (by omega)]; rfl
      ·rw [decide_eq_true (by omega), decide_eq_false (by omega)]; rfl
     have e0 : decide (some c0 = some 46) = x0 := by rw [<- HX0.out]; simp
     have ez : decide (some cz = some 90) = xz := by rw [<- HXZ.out]; simp
     have ek : decide (some ck ≠ some 48) = !xk := by rw [<- HXK.out]; simp
     rw [e, e0, ez, ek]
     cases e2 <;> cases x0 <;> cases xz <;> cases xk <;> simp
    rw [show K + 1 - 1 = K by omega] at HTR
    obtain ⟨dg, hdg⟩ : ∃ b, ((s.data.toList.drop 1).take K).all digU = b := ⟨_, rfl⟩
    rw [hdg] at HTR HR2
    obtain ⟨bad, hbad⟩ : ∃ b, (e2 || (!x0 || (!xz || xk))) = b := ⟨_, rfl⟩
    rw [hbad] at HR2
    have HBD := Lib.hid hbad
    unfold digsB at HTR
    clear hbad hdg hdn hsz hK h3 g0 gk gz HTL
    go_enter Tryz.func105, Tryz.ntmps105
    go_upto_region 4 with fail
    try rw [hKs]
    go_cut [32] from 9 to 32 (fun v wr => v = .bool bad /\ wr = w)
    case first =>
     cases e2 <;> cases x0 <;> cases xz <;> cases xk
     all_goals
      simp only [Bool.not_false, Bool.not_true] at hx0n hxzn
      go_wp2_with fail
      go_meet
      exact ⟨by rw [<- HBD.out]; rfl, rfl⟩
    case rest =>
    obtain ⟨rfl, hwc⟩ := hcut
    obtain rfl : w = wc := hwc.symm
    cases bad with
    | true =>
      have HRR : Hid (R = false) := by unfold Hid; rw [HR2.out]; rfl
      go_wp2_with fail
      rw [HRR.out]
      go_ret
      exact ⟨rfl, Below.refl _ _⟩
    | false =>
      have HRR : Hid (R = dg) := by unfold Hid; rw [HR2.out]; rfl
      go_wp2_with (first | (go_at_call 107; refine (HTR.out _).mono ?_; rintro e w1 ⟨T, rfl, hT, hb1⟩) | fail)
      rw [HRR.out]
      go_ret
      exact ⟨rfl, hb1⟩
theorem valD_lt : ∀ (k : Nat) (l : List UInt8), l.length = k -> l.all digU = true -> valD l < 10 ^ k
 | 0, l, hk, _ => by
   obtain rfl := List.eq_nil_of_length_eq_zero hk
   decide
 | k + 1, l, hk, h => by
   have hne : l ≠ [] := fun e => by rw [e] at hk; cases hk
   obtain ⟨r, b, rfl⟩ : ∃ r b, l = r ++ [b] := ⟨l.dropLast, l.getLast hne, (List.dropLast_concat_getLast hne).symm⟩
   rw [List.all_append, Bool.and_eq_true] at h
   have hb : digU b = true := by simpa using h.2
   unfold digU at hb
   simp only [Bool.and_eq_true, decide_eq_true_eq] at hb
   have ih := valD_lt k r (by simp at hk; exact hk) h.1
   rw [valD_snoc, Int.pow_succ]
   unfold stepD
   omega
theorem numAt_lt {l : List UInt8} {i n : Nat} (h : ((l.drop i).take n).all digU = true) : 0 <= numAt l i n /\ numAt l i n < 10 ^ n := by
 refine ⟨valD_nonneg h, ?_⟩
 have h1 := valD_lt _ _ rfl h
 have h2 : ((l.drop i).take n).length <= n := List.length_take_le _ _
 have h3 : (10 : Nat) ^ ((l.drop i).take n).length <= 10 ^ n := Nat.pow_le_pow_right (by decide) h2
 have h4 : (((10 : Nat) ^ ((l.drop i).take n).length : Nat) : Int) <= ((10 ^ n : Nat) : Int) := by omega
 have h5 : ((10 : Int) ^ ((l.drop i).take n).length) <= 10 ^ n := by simpa using h4
 exact Int.lt_of_lt_of_le h1 h5
theorem hd_nums {l : List UInt8} (h : hdOk l = true) : 19 <= l.length /\ (0 <= numAt l 0 4 /\ numAt l 0 4 <= 9999) /\ (0 <= numAt l 5 2 /\ numAt l 5 2 <= 99) /\ (0 <= numAt l 8 2 /\ numAt l 8 2 <= 99) /\ (0 <= numAt l 11 2 /\ numAt l 11 2 <= 99) /\ (0 <= numAt l 14 2 /\ numAt l 14 2 <= 99) /\ (0 <= numAt l 17 2 /\ numAt l 17 2 <= 99) := by
 have hl : 19 <= l.length := by
  unfold hdOk at h
  rw [Bool.and_eq_true] at h
  exact of_decide_eq_true h.1
 have hp := hdOk_parts hl
 rw [h] at hp
 have hp := hp.symm
 simp only [Bool.and_eq_true] at hp
 obtain ⟨_, ⟨a, b, c⟩, d, e, f⟩ := hp
 have p4 : (10 : Int) ^ 4 = 10000 := by decide
 have p2 : (10 : Int) ^ 2 = 100 := by decide
 have h1 := numAt_lt a
 have h2 := numAt_lt b
 have h3 := numAt_lt c
 have h4 := numAt_lt d
 have h5 := numAt_lt e
 have h6 := numAt_lt f
 omega
theorem daysF_bound {y m d D : Int} (h : daysF y m d = some D) : -800000 <= D /\ D <= 4000000 := by
 unfold daysF at h
 split at h
 ·rename_i hc
  have h1 := aheadF_bound hc.1 (show y <= 10000 by omega)
  have h2 := monthsF_bound y (m.toNat - 1)
  have h3 := month_pos y m
  have e7 : aheadF 1970 = 719528 := by decide
  rw [e7] at h
  have := Option.some.inj h
  omega
 ·cases h
theorem hd_alloc (w : World) (a b c d x y : Int) : HdAt (w.alloc (.cells #[.int .i64 a, .int .i64 b, .int .i64 c, .int .i64 d, .int .i64 x, .int .i64 y] 150)) w.heap.size [a, b, c, d, x, y] := heap_alloc_at rfl
def secRet (o : Option Int) : Value := match o with | some n => .tuple #[.int .i64 n, .bool true] | none => .tuple #[.int .i64 0, .bool false]
theorem seconds_any (s : ByteArray) (w : World) (hs : s.size <= maxLen) : Calls Tryz.prog 92 #[.string s] w fun e w' => e = .returned (secRet (secF s.data.toList)) /\ Below w.heap.size w w' := by
 have hsz : s.data.toList.length = s.size := by rw [Array.length_toList]; rfl
 have HHD : Hid (∀ W, Calls Tryz.prog 104 #[.string s] W fun e w' => headRet s.data.toList e /\ Below W.heap.size W w') := fun W => head_any s W hs
 have HSF : Hid (secF s.data.toList = if hdOk s.data.toList && (tlOk (s.data.toList.drop 19) && (decide (numAt s.data.toList 11 2 <= 23) && (decide (numAt s.data.toList 14 2 <= 59) && decide (numAt s.data.toList 17 2 <= 59)))) then (daysF (numAt s.data.toList 0 4) (numAt s.data.toList 5 2) (numAt s.data.toList 8 2)).map (fun D => ((D * 24 + numAt s.data.toList 11 2) * 60 + numAt s.data.toList 14 2) * 60 + numAt s.data.toList 17 2) else none) := rfl
 have HTL : Hid (19 <= s.size -> ∀ W, Calls Tryz.prog 105 #[.string (s.extract 19 s.size)] W fun e w' => e = .returned (.bool (tlOk (s.data.toList.drop 19))) /\ Below W.heap.size W w') := fun h W => (tail_any (s.extract 19 s.size) W (by rw [<- str_len, Lib.extract_data]; simp; omega)).mono (fun e w' h => by
  rw [Lib.extract_data, List.take_of_length_le (by rw [List.length_drop]; omega)] at h
  exact h)
 obtain ⟨R, hR⟩ : ∃ R, secF s.data.toList = R := ⟨_, rfl⟩
 rw [hR] at HSF
 rw [hR]
 clear hR
 unfold maxLen at hs
 have s0 : (0 : Int) <= (s.size : Int) := Int.natCast_nonneg _
 cases hok : hdOk s.data.toList with
 | false =>
   have HRR : Hid (R = none) := by unfold Hid; rw [HSF.out, hok]; rfl
   have HNO := Lib.hid hok
   clear hok hsz
   go_enter Tryz.func92, Tryz.ntmps92
   go_wp2_with (first | (go_at_call 104; refine (HHD.out _).mono ?_; rintro e w1 ⟨hh, hb1⟩; unfold headRet at hh; rw [if_neg (by rw [HNO.out]; decide)] at hh; obtain ⟨a, b, c, d, x, y, rfl⟩ := hh) | fail)
   rw [HRR.out]
   refine bodyPost_ret (v := .tuple #[.int .i64 0, .bool false]) (by simp [results, Tryz.results92, go_sem]) rfl ⟨rfl, hb1.alloc hb1.size _⟩
 | true =>
   obtain ⟨hl, ⟨y0, y1⟩, ⟨m0, m1⟩, ⟨d0, d1⟩, ⟨h0, h1⟩, ⟨i0, i1⟩, ⟨n0, n1⟩⟩ := hd_nums hok
   have h19 : 19 <= s.size := by omega
   have HT2 := Lib.hid (HTL.out h19)
   have h19' : (19 : Int) <= (s.size : Int) := by omega
   have HDA : Hid (∀ W, Calls Tryz.prog 106 #[.int .i64 (numAt s.data.toList 0 4), .int .i64 (numAt s.data.toList 5 2), .int .i64 (numAt s.data.toList 8 2)] W fun e w' => e = .returned (dayRet (daysF (numAt s.data.toList 0 4) (numAt s.data.toList 5 2) (numAt s.data.toList 8 2))) /\ W = w') := fun W => days_any _ _ _ W y0 y1 m0 m1 d0 d1
   have HH2 : Hid (∀ W, Calls Tryz.prog 104 #[.string s] W fun e w' => e = .returned (.tuple #[.agg #[.int .i64 (numAt s.data.toList 0 4), .int .i64 (numAt s.data.toList 5 2), .int .i64 (numAt s.data.toList 8 2), .int .i64 (numAt s.data.toList 11 2), .int .i64 (numAt s.data.toList 14 2), .int .i64 (numAt s.data.toList 17 2)], .bool true]) /\ Below W.heap.size W w') := fun W => (HHD.out W).mono (fun e w' h => by
    obtain ⟨h2, h3⟩ := h
    unfold headRet at h2
    rw [if_pos hok] at h2
    exact ⟨h2, h3⟩)
   have HDB : Hid (∀ D, daysF (numAt s.data.toList 0 4) (numAt s.data.toList 5 2) (numAt s.data.toList 8 2) = some D -> -800000 <= D /\ D <= 4000000) := fun D h => daysF_bound h
   rw [hok] at HSF
   clear hok HHD HTL hl hsz
   obtain ⟨Y, hY⟩ : ∃ n, numAt s.data.toList 0 4 = n := ⟨_, rfl⟩
   obtain ⟨M, hM⟩ : ∃ n, numAt s.data.toList 5 2 = n := ⟨_, rfl⟩
   obtain ⟨D, hD⟩ : ∃ n, numAt s.data.toList 8 2 = n := ⟨_, rfl⟩
   obtain ⟨H, hH⟩ : ∃ n, numAt s.data.toList 11 2 = n := ⟨_, rfl⟩
   obtain ⟨I, hI⟩ : ∃ n, numAt s.data.toList 14 2 = n := ⟨_, rfl⟩
   obtain ⟨C, hC⟩ : ∃ n, numAt s.data.toList 17 2 = n := ⟨_, rfl⟩
   obtain ⟨tl, htl⟩ : ∃ b, tlOk (s.data.toList.drop 19) = b := ⟨_, rfl⟩
   obtain ⟨o, ho⟩ : ∃ o, daysF Y M D = o := ⟨_, rfl⟩
   rw [hY, hM, hD] at HDA HSF HDB HH2
   rw [hH, hI, hC] at HSF HH2
   rw [ho] at HDA HSF HDB
   rw [htl] at HSF HT2
   rw [hH] at h0 h1
   rw [hI] at i0 i1
   rw [hC] at n0 n1
   clear hY hM hD hH hI hC htl ho y0 y1 m0 m1 d0 d1
   obtain ⟨a3, ha3⟩ : ∃ b, decide ((23 : Int) < H) = b := ⟨_, rfl⟩
   obtain ⟨a4, ha4⟩ : ∃ b, decide ((59 : Int) < I) = b := ⟨_, rfl⟩
   obtain ⟨a5, ha5⟩ : ∃ b, decide ((59 : Int) < C) = b := ⟨_, rfl⟩
   have HSF2 : Hid (R = if (tl && (!a3 && (!a4 && !a5))) then o.map (fun D => ((D * 24 + H) * 60 + I) * 60 + C) else none) := by
    unfold Hid
    rw [HSF.out, Bool.true_and, <- ha3, <- ha4, <- ha5]
    have e : ∀ n k : Int, decide (n <= k) = !decide (k < n) := fun n k => by
     by_cases h : n <= k
     ·rw [decide_eq_true h, decide_eq_false (by omega)]; rfl
     ·rw [decide_eq_false h, decide_eq_true (by omega)]; rfl
    rw [e H 23, e I 59, e C 59]
   clear HSF
   cases hall : (tl && (!a3 && (!a4 && !a5))) with
   | false =>
     have HRR : Hid (R = none) := by unfold Hid; rw [HSF2.out, hall]; rfl
     cases tl <;> cases a3 <;> cases a4 <;> cases a5 <;> simp only [Bool.and_true, Bool.and_false, Bool.true_and, Bool.false_and, Bool.not_true, Bool.not_false, Bool.and_self, reduceCtorEq] at hall
     all_goals
      go_enter Tryz.func92, Tryz.ntmps92
      go_wp2_with (first | (go_at_call 104; refine (HH2.out _).mono ?_; rintro e w1 ⟨rfl, hb1⟩) | (go_at_call 105; refine (HT2.out _).mono ?_; rintro e w2 ⟨rfl, hb2⟩; (have g3 : w2.cell? ⟨w1.heap.size, 3, none⟩ = some (.int .i64 H) := bcs hb2 (by simp) ((hd_alloc _ _ _ _ _ _ _).cell rfl)); (have g4 : w2.cell? ⟨w1.heap.size, 4, none⟩ = some (.int .i64 I) := bcs hb2 (by simp) ((hd_alloc _ _ _ _ _ _ _).cell rfl)); (have g5 : w2.cell? ⟨w1.heap.size, 5, none⟩ = some (.int .i64 C) := bcs hb2 (by simp) ((hd_alloc _ _ _ _ _ _ _).cell rfl))) | fail)
      rw [HRR.out]
      refine bodyPost_ret (v := .tuple #[.int .i64 0, .bool false]) (by simp [results, Tryz.results92, go_sem]) rfl ⟨rfl, (hb1.alloc hb1.size _).trans (hb2.mono (by simp; have := hb1.size; omega))⟩
   | true =>
     cases tl <;> cases a3 <;> cases a4 <;> cases a5 <;> simp only [Bool.and_true, Bool.and_false, Bool.true_and, Bool.false_and, Bool.not_true, Bool.not_false, Bool.and_self, reduceCtorEq] at hall
     have l3 := of_decide_eq_false ha3
     have l4 := of_decide_eq_false ha4
     have l5 := of_decide_eq_false ha5
     cases o with
     | none =>
       have HRR : Hid (R = none) := by unfold Hid; rw [HSF2.out]; rfl
       have HDN : Hid (∀ W, Calls Tryz.prog 106 #[.int .i64 Y, .int .i64 M, .int .i64 D] W fun e w' => e = .returned (.tuple #[.int .i64 0, .bool false]) /\ W = w') := HDA.out
       clear HDA HDB HSF2
       go_enter Tryz.func92, Tryz.ntmps92
       go_wp2_with (first | (go_at_call 104; refine (HH2.out _).mono ?_; rintro e w1 ⟨rfl, hb1⟩) | (go_at_call 105; refine (HT2.out _).mono ?_; rintro e w2 ⟨rfl, hb2⟩; (have g0 : w2.cell? ⟨w1.heap.size, 0, none⟩ = some (.int .i64 Y) := bcs hb2 (by simp) ((hd_alloc _ _ _ _ _ _ _).cell rfl)); (have g1 : w2.cell? ⟨w1.heap.size, 1, none⟩ = some (.int .i64 M) := bcs hb2 (by simp) ((hd_alloc _ _ _ _ _ _ _).cell rfl)); (have g2 : w2.cell? ⟨w1.heap.size, 2, none⟩ = some (.int .i64 D) := bcs hb2 (by simp) ((hd_alloc _ _ _ _ _ _ _).cell rfl)); (have g3 : w2.cell? ⟨w1.heap.size, 3, none⟩ = some (.int .i64 H) := bcs hb2 (by simp) ((hd_alloc _ _ _ _ _ _ _).cell rfl)); (have g4 : w2.cell? ⟨w1.heap.size, 4, none⟩ = some (.int .i64 I) := bcs hb2 (by simp) ((hd_alloc _ _ _ _ _ _ _).cell rfl)); (have g5 : w2.cell? ⟨w1.heap.size, 5, none⟩ = some (.int .i64 C) := bcs hb2 (by simp) ((hd_alloc _ _ _ _ _ _ _).cell rfl))) | (go_at_call 106; refine (HDN.out _).mono ?_; rintro e w3 ⟨rfl, rfl⟩) | fail)
       rw [HRR.out]
       refine bodyPost_ret (v := .tuple #[.int .i64 0, .bool false]) (by simp [results, Tryz.results92, go_sem]) rfl ⟨rfl, (hb1.alloc hb1.size _).trans (hb2.mono (by simp; have := hb1.size; omega))⟩
     | some N =>
       obtain ⟨N0, N1⟩ := HDB.out N rfl
       have HRR : Hid (R = some (((N * 24 + H) * 60 + I) * 60 + C)) := by unfold Hid; rw [HSF2.out]; rfl
       have HDN : Hid (∀ W, Calls Tryz.prog 106 #[.int .i64 Y, .int .i64 M, .int .i64 D] W fun e w' => e = .returned (.tuple #[.int .i64 N, .bool true]) /\ W = w') := HDA.out
       clear HDA HDB HSF2
       go_enter Tryz.func92, Tryz.ntmps92
       go_wp2_with (first | (go_at_call 104; refine (HH2.out _).mono ?_; rintro e w1 ⟨rfl, hb1⟩) | (go_at_call 105; refine (HT2.out _).mono ?_; rintro e w2 ⟨rfl, hb2⟩; (have g0 : w2.cell? ⟨w1.heap.size, 0, none⟩ = some (.int .i64 Y) := bcs hb2 (by simp) ((hd_alloc _ _ _ _ _ _ _).cell rfl)); (have g1 : w2.cell? ⟨w1.heap.size, 1, none⟩ = some (.int .i64 M) := bcs hb2 (by simp) ((hd_alloc _ _ _ _ _ _ _).cell rfl)); (have g2 : w2.cell? ⟨w1.heap.size, 2, none⟩ = some (.int .i64 D) := bcs hb2 (by simp) ((hd_alloc _ _ _ _ _ _ _).cell rfl)); (have g3 : w2.cell? ⟨w1.heap.size, 3, none⟩ = some (.int .i64 H) := bcs hb2 (by simp) ((hd_alloc _ _ _ _ _ _ _).cell rfl)); (have g4 : w2.cell? ⟨w1.heap.size, 4, none⟩ = some (.int .i64 I) := bcs hb2 (by simp) ((hd_alloc _ _ _ _ _ _ _).cell rfl)); (have g5 : w2.cell? ⟨w1.heap.size, 5, none⟩ = some (.int .i64 C) := bcs hb2 (by simp) ((hd_alloc _ _ _ _ _ _ _).cell rfl))) | (go_at_call 106; refine (HDN.out _).mono ?_; rintro e w3 ⟨rfl, rfl⟩) | fail)
       rw [HRR.out]
       refine bodyPost_ret (v := .tuple #[.int .i64 (((N * 24 + H) * 60 + I) * 60 + C), .bool true]) (by simp [results, Tryz.results92, go_sem]) rfl ⟨rfl, (hb1.alloc hb1.size _).trans (hb2.mono (by simp; have := hb1.size; omega))⟩
end
end Go.Proofs.YtjhginendpjimaaGreatDoor
