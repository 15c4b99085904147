import Derived.Shelf.LaysM
import Derived.Shelf.Small.Strs
import Derived.Shelf.Strconv.Clone
import Derived.Shelf.Strings.Count
import Derived.Shelf.Strings.OnBuilder
import Derived.Shelf.Strings.Repeat
import Derived.Shelf.Strings.Trim
import Derived.Shelf.Strings.SlTrimAscii
import Derived.Test.YtffhccmppdgmfaaGreatDoorProg
import Derived.Test.YtffhccmppdgmfaaGreatDoorB09
import Derived.Sort.LotA
import Derived.Shelf.SlSortCmp.Insertion
set_option linter.unusedSimpArgs false
set_option linter.unusedVariables false
set_option maxRecDepth 200000
set_option maxHeartbeats 8000000
namespace Go.Proofs.YtffhccmppdgmfaaGreatDoor
section
open Go Go.Shelf
def lays160_ren : Go.Shelf.Ren := ⟨fun | 160 => 163 | 232 => 179 | 231 => 178 | 227 => 180 | 234 => 182 | 233 => 181 | 236 => 184 | 235 => 183 | 228 => 196 | 271 => 199 | 151 => 198 | 197 => 197 | 120 => 209 | 152 => 208 | 260 => 207 | 137 => 104 | 119 => 216 | 224 => 167 | 225 => 166 | 217 => 137 | 266 => 153 | n => n, fun | 9 => 9 | 4 => 4 | 3 => 3 | 5 => 5 | 117 => 195 | 116 => 194 | 0 => 0 | 124 => 198 | 21 => 21 | 105 => 172 | 46 => 58 | 119 => 231 | 139 => 234 | 138 => 233 | n => n, fun | 3 => 2 | 4 => 3 | n => n⟩
theorem lays160 : Go.Proofs.Lays.n160 Tryz.prog lays160_ren := {
 mixed := by kernel_rfl
 f119 := Tryz.func216.trans (congrArg some (by kernel_rfl))
 f120 := Tryz.func209.trans (congrArg some (by kernel_rfl))
 f137 := Tryz.func104.trans (congrArg some (by kernel_rfl))
 f151 := Tryz.func198.trans (congrArg some (by kernel_rfl))
 f152 := Tryz.func208.trans (congrArg some (by kernel_rfl))
 f160 := Tryz.func163.trans (congrArg some (by kernel_rfl))
 f197 := Tryz.func197.trans (congrArg some (by kernel_rfl))
 f217 := Tryz.func137.trans (congrArg some (by kernel_rfl))
 f224 := Tryz.func167.trans (congrArg some (by kernel_rfl))
 f225 := Tryz.func166.trans (congrArg some (by kernel_rfl))
 f227 := Tryz.func180.trans (congrArg some (by kernel_rfl))
 f228 := Tryz.func196.trans (congrArg some (by kernel_rfl))
 f231 := Tryz.func178.trans (congrArg some (by kernel_rfl))
 f232 := Tryz.func179.trans (congrArg some (by kernel_rfl))
 f233 := Tryz.func181.trans (congrArg some (by kernel_rfl))
 f234 := Tryz.func182.trans (congrArg some (by kernel_rfl))
 f235 := Tryz.func183.trans (congrArg some (by kernel_rfl))
 f236 := Tryz.func184.trans (congrArg some (by kernel_rfl))
 f260 := Tryz.func207.trans (congrArg some (by kernel_rfl))
 f266 := Tryz.func153.trans (congrArg some (by kernel_rfl))
 f271 := Tryz.func199.trans (congrArg some (by kernel_rfl))
 t0 := Tryz.underlying0
 a0 := Tryz.isAgg0
 z0 := Tryz.sizeOf0
 v0 := Tryz.zeroValue0
 t3 := Tryz.underlying3
 a3 := Tryz.isAgg3
 z3 := Tryz.sizeOf3
 v3 := Tryz.zeroValue3
 t4 := Tryz.underlying4
 a4 := Tryz.isAgg4
 z4 := Tryz.sizeOf4
 v4 := Tryz.zeroValue4
 t5 := Tryz.underlying5
 a5 := Tryz.isAgg5
 z5 := Tryz.sizeOf5
 v5 := Tryz.zeroValue5
 t9 := Tryz.underlying9
 a9 := Tryz.isAgg9
 z9 := Tryz.sizeOf9
 v9 := Tryz.zeroValue9
 t21 := Tryz.underlying21
 a21 := Tryz.isAgg21
 z21 := Tryz.sizeOf21
 v21 := Tryz.zeroValue21
 t46 := Tryz.underlying58
 a46 := Tryz.isAgg58
 z46 := Tryz.sizeOf58
 v46 := Tryz.zeroValue58
 t105 := Tryz.underlying172
 a105 := Tryz.isAgg172
 z105 := Tryz.sizeOf172
 v105 := Tryz.zeroValue172
 t116 := Tryz.underlying194
 a116 := Tryz.isAgg194
 z116 := Tryz.sizeOf194
 t117 := Tryz.underlying195
 a117 := Tryz.isAgg195
 z117 := Tryz.sizeOf195
 v117 := Tryz.zeroValue195
 t119 := Tryz.underlying231
 a119 := Tryz.isAgg231
 z119 := Tryz.sizeOf231
 t124 := Tryz.underlying198
 a124 := Tryz.isAgg198
 z124 := Tryz.sizeOf198
 v124 := Tryz.zeroValue198
 t138 := Tryz.underlying233
 a138 := Tryz.isAgg233
 z138 := Tryz.sizeOf233
 v138 := Tryz.zeroValue233
 t139 := Tryz.underlying234
 a139 := Tryz.isAgg234
 z139 := Tryz.sizeOf234
 v139 := Tryz.zeroValue234
 g3 := by kernel_rfl
 g4 := by kernel_rfl }
open Go.RowKit in
theorem strings_Trim_one (s : ByteArray) (c : UInt8) (hc : c.toNat < 128) (w : World) (hs : s.size <= 9223372036854775807) :
 Calls Tryz.prog 163 #[.string s, .string ⟨#[c]⟩] w fun e w' => e = .returned (.string ⟨(Lib.trimB s.data.toList c).toArray⟩) /\ (w' = w \/ w' = w.drew) := Any.strings_Trim_one lays160 s c hc w hs
def lays106_ren : Go.Shelf.Ren := ⟨fun | 106 => 143 | 213 => 159 | 265 => 175 | n => n, fun | 9 => 9 | 3 => 3 | n => n, fun | n => n⟩
theorem lays106 : Go.Proofs.Lays.n106 Tryz.prog lays106_ren := {
 mixed := by kernel_rfl
 f106 := Tryz.func143.trans (congrArg some (by kernel_rfl))
 f213 := Tryz.func159.trans (congrArg some (by kernel_rfl))
 f265 := Tryz.func175.trans (congrArg some (by kernel_rfl))
 t3 := Tryz.underlying3
 a3 := Tryz.isAgg3
 z3 := Tryz.sizeOf3
 v3 := Tryz.zeroValue3
 t9 := Tryz.underlying9
 a9 := Tryz.isAgg9
 z9 := Tryz.sizeOf9
 v9 := Tryz.zeroValue9 }
open Go.RowKit in
theorem strings_Compare (a b : ByteArray) (w : World) :
 Calls Tryz.prog 143 #[.string a, .string b] w fun e w' => e = .returned (.int .i64 (Lib.compareBytes a.data.toList b.data.toList)) /\ w' = w := Any.strings_Compare lays106 a b w
def lays138_ren : Go.Shelf.Ren := ⟨fun | 138 => 165 | 195 => 190 | 218 => 191 | 143 => 132 | 219 => 151 | 217 => 137 | 225 => 166 | 224 => 167 | 267 => 168 | 266 => 153 | 314 => 192 | n => n, fun | 9 => 9 | 3 => 3 | 4 => 4 | 5 => 5 | 0 => 0 | 46 => 58 | 146 => 211 | 51 => 210 | n => n, fun | 1 => 1 | n => n⟩
theorem lays138 : Go.Proofs.Lays.n138 Tryz.prog lays138_ren := {
 mixed := by kernel_rfl
 f138 := Tryz.func165.trans (congrArg some (by kernel_rfl))
 f143 := Tryz.func132.trans (congrArg some (by kernel_rfl))
 f195 := Tryz.func190.trans (congrArg some (by kernel_rfl))
 f217 := Tryz.func137.trans (congrArg some (by kernel_rfl))
 f218 := Tryz.func191.trans (congrArg some (by kernel_rfl))
 f219 := Tryz.func151.trans (congrArg some (by kernel_rfl))
 f224 := Tryz.func167.trans (congrArg some (by kernel_rfl))
 f225 := Tryz.func166.trans (congrArg some (by kernel_rfl))
 f266 := Tryz.func153.trans (congrArg some (by kernel_rfl))
 f267 := Tryz.func168.trans (congrArg some (by kernel_rfl))
 f314 := Tryz.func192.trans (congrArg some (by kernel_rfl))
 t0 := Tryz.underlying0
 a0 := Tryz.isAgg0
 z0 := Tryz.sizeOf0
 v0 := Tryz.zeroValue0
 t3 := Tryz.underlying3
 a3 := Tryz.isAgg3
 z3 := Tryz.sizeOf3
 v3 := Tryz.zeroValue3
 t4 := Tryz.underlying4
 a4 := Tryz.isAgg4
 z4 := Tryz.sizeOf4
 v4 := Tryz.zeroValue4
 t5 := Tryz.underlying5
 a5 := Tryz.isAgg5
 z5 := Tryz.sizeOf5
 v5 := Tryz.zeroValue5
 t9 := Tryz.underlying9
 a9 := Tryz.isAgg9
 z9 := Tryz.sizeOf9
 v9 := Tryz.zeroValue9
 t46 := Tryz.underlying58
 a46 := Tryz.isAgg58
 z46 := Tryz.sizeOf58
 v46 := Tryz.zeroValue58
 t51 := Tryz.underlying210
 a51 := Tryz.isAgg210
 z51 := Tryz.sizeOf210
 v51 := Tryz.zeroValue210
 t146 := Tryz.underlying211
 a146 := Tryz.isAgg211
 z146 := Tryz.sizeOf211
 v146 := Tryz.zeroValue211
 g1 := by kernel_rfl }
open Go.RowKit Go.Lib in
theorem strings_Count_one (s : ByteArray) (c : UInt8) (w : World) :
 Calls Tryz.prog 165 #[.string s, .string ⟨#[c]⟩] w fun e w' => e = .returned (.int .i64 (Lib.countByte s.data.toList c)) /\ w' = w := Any.strings_Count_one lays138 s c w
def lays105_ren : Go.Shelf.Ren := ⟨fun | 105 => 164 | 212 => 185 | 99 => 157 | 165 => 186 | 166 => 187 | 170 => 188 | 169 => 189 | 263 => 200 | 264 => 201 | 206 => 174 | 240 => 202 | 241 => 203 | 276 => 210 | 277 => 211 | n => n, fun | 9 => 9 | 3 => 3 | 4 => 4 | 20 => 20 | 0 => 0 | 46 => 58 | 109 => 199 | 5 => 5 | 72 => 203 | 76 => 207 | 51 => 210 | 146 => 211 | 53 => 218 | 148 => 219 | 70 => 201 | 37 => 160 | 75 => 206 | 127 => 164 | 164 => 225 | 80 => 209 | n => n, fun | n => n⟩
theorem lays105 : Go.Proofs.Lays.n105 Tryz.prog lays105_ren := {
 mixed := by kernel_rfl
 f99 := Tryz.func157.trans (congrArg some (by kernel_rfl))
 f105 := Tryz.func164.trans (congrArg some (by kernel_rfl))
 f165 := Tryz.func186.trans (congrArg some (by kernel_rfl))
 f166 := Tryz.func187.trans (congrArg some (by kernel_rfl))
 f169 := Tryz.func189.trans (congrArg some (by kernel_rfl))
 f170 := Tryz.func188.trans (congrArg some (by kernel_rfl))
 f206 := Tryz.func174.trans (congrArg some (by kernel_rfl))
 f212 := Tryz.func185.trans (congrArg some (by kernel_rfl))
 f240 := Tryz.func202.trans (congrArg some (by kernel_rfl))
 f241 := Tryz.func203.trans (congrArg some (by kernel_rfl))
 f263 := Tryz.func200.trans (congrArg some (by kernel_rfl))
 f264 := Tryz.func201.trans (congrArg some (by kernel_rfl))
 f276 := Tryz.func210.trans (congrArg some (by kernel_rfl))
 f277 := Tryz.func211.trans (congrArg some (by kernel_rfl))
 t0 := Tryz.underlying0
 a0 := Tryz.isAgg0
 z0 := Tryz.sizeOf0
 v0 := Tryz.zeroValue0
 t3 := Tryz.underlying3
 a3 := Tryz.isAgg3
 z3 := Tryz.sizeOf3
 v3 := Tryz.zeroValue3
 t4 := Tryz.underlying4
 a4 := Tryz.isAgg4
 z4 := Tryz.sizeOf4
 v4 := Tryz.zeroValue4
 t5 := Tryz.underlying5
 a5 := Tryz.isAgg5
 z5 := Tryz.sizeOf5
 v5 := Tryz.zeroValue5
 t9 := Tryz.underlying9
 a9 := Tryz.isAgg9
 z9 := Tryz.sizeOf9
 v9 := Tryz.zeroValue9
 t20 := Tryz.underlying20
 a20 := Tryz.isAgg20
 z20 := Tryz.sizeOf20
 v20 := Tryz.zeroValue20
 t37 := Tryz.underlying160
 a37 := Tryz.isAgg160
 z37 := Tryz.sizeOf160
 v37 := Tryz.zeroValue160
 t46 := Tryz.underlying58
 a46 := Tryz.isAgg58
 z46 := Tryz.sizeOf58
 v46 := Tryz.zeroValue58
 t51 := Tryz.underlying210
 a51 := Tryz.isAgg210
 z51 := Tryz.sizeOf210
 v51 := Tryz.zeroValue210
 t53 := Tryz.underlying218
 a53 := Tryz.isAgg218
 z53 := Tryz.sizeOf218
 v53 := Tryz.zeroValue218
 t70 := Tryz.underlying201
 a70 := Tryz.isAgg201
 z70 := Tryz.sizeOf201
 v70 := Tryz.zeroValue201
 t72 := Tryz.underlying203
 a72 := Tryz.isAgg203
 z72 := Tryz.sizeOf203
 v72 := Tryz.zeroValue203
 t75 := Tryz.underlying206
 a75 := Tryz.isAgg206
 z75 := Tryz.sizeOf206
 v75 := Tryz.zeroValue206
 t76 := Tryz.underlying207
 a76 := Tryz.isAgg207
 z76 := Tryz.sizeOf207
 v76 := Tryz.zeroValue207
 t109 := Tryz.underlying199
 a109 := Tryz.isAgg199
 z109 := Tryz.sizeOf199
 v109 := Tryz.zeroValue199
 t127 := Tryz.underlying164
 a127 := Tryz.isAgg164
 z127 := Tryz.sizeOf164
 v127 := Tryz.zeroValue164
 t146 := Tryz.underlying211
 a146 := Tryz.isAgg211
 z146 := Tryz.sizeOf211
 v146 := Tryz.zeroValue211
 t148 := Tryz.underlying219
 a148 := Tryz.isAgg219
 z148 := Tryz.sizeOf219
 v148 := Tryz.zeroValue219
 t164 := Tryz.underlying225
 a164 := Tryz.isAgg225
 z164 := Tryz.sizeOf225
 v164 := Tryz.zeroValue225 }
theorem Builder_Extra_105 : Builder.Extra Tryz.prog lays105_ren := {
 sizeBuilder := by kernel_rfl
 liesBuilder := by kernel_rfl
 t5 := Tryz.underlying5
 a5 := Tryz.isAgg5
 z5 := Tryz.sizeOf5
 v5 := Tryz.zeroValue5
 infoByte := by kernel_rfl
 cellsByte := by kernel_rfl
 sizeByte := by kernel_rfl
 neB5 := by decide }
open Go.RowKit Go.Lib in
theorem strings_Repeat (s : ByteArray) (c : Nat) (w : World) (hc : c <= 9223372036854775807) (hlen : s.size * c <= 140737488355328) :
 Calls Tryz.prog 164 #[.string s, .int .i64 c] w fun e w' => e = .returned (.string ⟨(Lib.repeatL s.data.toList c).toArray⟩) /\ Below w.heap.size w w' := Any.strings_Repeat lays105 Builder_Extra_105 s c w hc hlen
def laysM316_ren : Go.Shelf.Ren := ⟨fun | 316 => 103 | n => n, fun | 9 => 9 | 3 => 3 | 4 => 4 | 37 => 160 | 0 => 0 | 127 => 164 | 5 => 5 | n => n, fun | n => n⟩
theorem laysM316 : Go.Proofs.LaysM.n316 Tryz.prog laysM316_ren := {
 mixed := by kernel_rfl
 f316 := Tryz.func103.trans (congrArg some (by kernel_rfl))
 t0 := Tryz.underlying0
 a0 := Tryz.isAgg0
 z0 := Tryz.sizeOf0
 v0 := Tryz.zeroValue0
 t3 := Tryz.underlying3
 a3 := Tryz.isAgg3
 z3 := Tryz.sizeOf3
 v3 := Tryz.zeroValue3
 t4 := Tryz.underlying4
 a4 := Tryz.isAgg4
 z4 := Tryz.sizeOf4
 v4 := Tryz.zeroValue4
 t9 := Tryz.underlying9
 a9 := Tryz.isAgg9
 z9 := Tryz.sizeOf9
 v9 := Tryz.zeroValue9
 t37 := Tryz.underlying160
 a37 := Tryz.isAgg160
 z37 := Tryz.sizeOf160
 v37 := Tryz.zeroValue160
 t127 := Tryz.underlying164
 a127 := Tryz.isAgg164
 z127 := Tryz.sizeOf164
 v127 := Tryz.zeroValue164
 t5 := Tryz.underlying5
 a5 := Tryz.isAgg5
 z5 := Tryz.sizeOf5
 v5 := Tryz.zeroValue5
 i0 := by kernel_rfl
 i3 := by kernel_rfl
 i4 := by kernel_rfl
 i5 := by kernel_rfl
 i9 := by kernel_rfl
 i37 := by kernel_rfl
 i127 := by kernel_rfl }
open Go.RowKit in
theorem stringslite_Clone (s : ByteArray) (w : World) (hlim : s.size <= 281474976710656) :
 Calls Tryz.prog 103 #[.string s] w fun e w' => e = .returned (.string s) /\ Below w.heap.size w w' := Any.stringslite_Clone laysM316 s w hlim
end
section
open Go Go.RowKit Go.OpenShut
def digsB : ByteArray := ⟨#[48, 49, 50, 51, 52, 53, 54, 55, 56, 57]⟩
theorem digs_contains (c : UInt8) : digsB.data.toList.contains c = digU c := by
 have h : ∀ n : Fin 256, (digsB.data.toList.contains (UInt8.ofNat n.1)) = digU (UInt8.ofNat n.1) := by decide +kernel
 have h2 := h ⟨c.toNat, c.toNat_lt⟩
 simpa using h2
def m_all (l : List UInt8) (p : UInt8 -> Bool) : Prop := ∀ x ∈ l, p x = true
theorem trim_empty (l cs : List UInt8) : (Lib.trimS l cs = []) ↔ l.all (cs.contains ·) = true := by
 have hd : ∀ m : List UInt8, m.dropWhile (cs.contains ·) = [] ↔ m.all (cs.contains ·) = true := by
  intro m
  induction m with
  | nil => simp
  | cons a m ih =>
    rw [List.dropWhile_cons, List.all_cons]
    cases h : cs.contains a
    ·simp
    ·simp only [if_true, Bool.true_and]
     exact ih
 have hsub : ∀ m : List UInt8, m.all (cs.contains ·) = true -> (m.reverse.dropWhile (cs.contains ·)).reverse = [] := by
  intro m hm
  have : m.reverse.all (cs.contains ·) = true := by rw [List.all_reverse]; exact hm
  rw [(hd _).2 this]
  rfl
 unfold Lib.trimS Lib.trimLeftS Lib.trimRightS
 rw [hd]
 constructor
 ·intro h
  rw [List.all_reverse] at h
  have h2 : m_all l.reverse (cs.contains ·) := by
   intro x hx
   by_cases hx2 : x ∈ l.reverse.dropWhile (cs.contains ·)
   ·exact List.all_eq_true.1 h x hx2
   ·have h3 := List.takeWhile_append_dropWhile (p := (cs.contains ·)) (l := l.reverse)
    rw [<- h3] at hx
    rcases List.mem_append.1 hx with h4 | h4
    ·exact List.all_eq_true.1 List.all_takeWhile x h4
    ·exact absurd h4 hx2
  rw [List.all_eq_true]
  intro x hx
  exact h2 x (List.mem_reverse.2 hx)
 ·intro h
  rw [hsub l h]
  rfl
theorem trim_digs (s : ByteArray) (w : World) (hs : s.size <= 9223372036854775807) : Calls Tryz.prog 163 #[.string s, .string digsB] w fun e w' => ∃ T : ByteArray, e = .returned (.string T) /\ T.toList.isEmpty = s.data.toList.all digU /\ Below w.heap.size w w' := by
 refine (Any.strings_Trim_laid lays160 (by kernel_rfl) s digsB w hs (by decide) (fun j b h => ?_)).mono (fun e w' h => ?_)
 ·have hall : digsB.data.toList.all (fun b => decide (b.toNat < 128)) = true := by decide +kernel
  exact of_decide_eq_true (List.all_eq_true.1 hall b (List.mem_of_getElem? h))
 ·refine ⟨_, h.1, ?_, h.2⟩
  rw [ByteArray.toList_eq]
  have e : (fun c => digsB.data.toList.contains c) = digU := funext digs_contains
  have h2 := trim_empty s.data.toList digsB.data.toList
  rw [show (s.data.toList.all (digsB.data.toList.contains ·)) = s.data.toList.all digU from congrArg _ e] at h2
  cases ha : s.data.toList.all digU with
  | true => rw [h2.2 ha]; rfl
  | false =>
    cases ht : Lib.trimS s.data.toList digsB.data.toList with
    | nil => rw [h2.1 ht] at ha; cases ha
    | cons a r => rfl
theorem tail_any (s : ByteArray) (w : World) (hs : s.size <= maxLen) : Calls Tryz.prog 161 #[.string s] w fun e w' => e = .returned (.bool (tlOk s.data.toList)) /\ Below w.heap.size w w' := by
 have hsz : s.data.toList.length = s.size := by rw [Array.length_toList]; rfl
 unfold maxLen at hs
 have s0 : (0 : Int) <= (s.size : Int) := Int.natCast_nonneg _
 obtain ⟨bz, hbz⟩ : ∃ b, (s.toList == [90]) = b := ⟨_, rfl⟩
 have HBZ : Hid (decide (s.data.toList = [90]) = bz) := by
  unfold Hid
  rw [<- hbz, ByteArray.toList_eq]
  by_cases h : s.data.toList = [90]
  ·rw [decide_eq_true h, h]; rfl
  ·rw [decide_eq_false h]; simpa using h
 have HTL : Hid (tlOk s.data.toList = (decide (s.data.toList = [90]) || (decide (3 <= s.data.toList.length) && (decide (s.data.toList.length <= 11) && (decide (s.data.toList[0]? = some 46) && (decide (s.data.toList[s.data.toList.length - 1]? = some 90) && (decide (s.data.toList[s.data.toList.length - 2]? ≠ some 48) && ((s.data.toList.drop 1).take (s.data.toList.length - 2)).all digU))))))) := rfl
 rw [HBZ.out, hsz] at HTL
 have HGE : Hid (∀ k, (h : k < s.size) -> s.data.toList[k]? = some s[k]) := fun k h => get_optS h
 obtain ⟨R, hR⟩ : ∃ R, tlOk s.data.toList = R := ⟨_, rfl⟩
 rw [hR] at HTL
 rw [hR]
 clear hR
 cases bz with
 | true =>
   have HRR : Hid (R = true) := by unfold Hid; rw [HTL.out]; rfl
   rw [HRR.out]
   clear hsz
   go_enter Tryz.func161, Tryz.ntmps161
   go_wp2_with fail
   go_ret
   exact ⟨rfl, Below.refl _ _⟩
 | false =>
   by_cases h3 : s.size < 3
   ·have q : decide ((s.size : Int) - 2 < 1) = true := decide_eq_true (by omega)
    have q' : (s.size : Int) - 2 < 1 := by omega
    have HRR : Hid (R = false) := by unfold Hid; rw [HTL.out, decide_eq_false (p := 3 <= s.size) (by omega)]; rfl
    rw [HRR.out]
    clear hsz
    go_enter Tryz.func161, Tryz.ntmps161
    go_wp2_with fail
    go_ret
    exact ⟨rfl, Below.refl _ _⟩
   ·obtain ⟨K, hK⟩ : ∃ K, s.size = K + 2 := ⟨s.size - 2, by omega⟩
    have hK1 : 1 <= K := by omega
    have HK := Lib.hid hK
    have hKs : (s.size : Int) - 2 = (K : Int) := by omega
    have b0 : 0 < s.size := by omega
    have bk : K < s.size := by omega
    have bz' : K + 1 < s.size := by omega
    have b0' : (0 : Int) < (s.size : Int) := by omega
    have bk' : (K : Int) < (s.size : Int) := by omega
    have bz2 : (K : Int) + 1 < (s.size : Int) := by omega
    have bz3 : (K : Int) + 1 <= (s.size : Int) := by omega
    have hK0 : (1 : Int) <= (K : Int) := by omega
    have hK00 : (0 : Int) <= (K : Int) := by omega
    have q1 : decide ((K : Int) < 1) = false := decide_eq_false (by omega)
    obtain ⟨e2, he2⟩ : ∃ b, decide ((9 : Int) < (K : Int)) = b := ⟨_, rfl⟩
    have g0 := HGE.out 0 b0
    have gk := HGE.out K bk
    have gz := HGE.out (K + 1) bz'
    obtain ⟨c0, hc0⟩ : ∃ c, s[0] = c := ⟨_, rfl⟩
    obtain ⟨ck, hck⟩ : ∃ c, s[K] = c := ⟨_, rfl⟩
    obtain ⟨cz, hcz⟩ : ∃ c, s[K + 1] = c := ⟨_, rfl⟩
    rw [hc0] at g0
    rw [hck] at gk
    rw [hcz] at gz
    have hdn : ∀ (c : UInt8) (k : UInt8), (((c.toNat : Nat) : Int) == ((k.toNat : Nat) : Int)) = decide (c = k) := fun c k => by
     by_cases h : c = k
     ·rw [decide_eq_true h, h]; simp
     ·rw [decide_eq_false h]
      have h2 : ¬ c.toNat = k.toNat := fun e => h (UInt8.toNat_inj.1 e)
      simp
      omega
    obtain ⟨x0, hx0⟩ : ∃ b, (((c0.toNat : Nat) : Int) == 46) = b := ⟨_, rfl⟩
    obtain ⟨xz, hxz⟩ : ∃ b, (((cz.toNat : Nat) : Int) == 90) = b := ⟨_, rfl⟩
    obtain ⟨xk, hxk⟩ : ∃ b, (((ck.toNat : Nat) : Int) == 48) = b := ⟨_, rfl⟩
    have hx0n : (((c0.toNat : Nat) : Int) != 46) = !x0 := by unfold bne; rw [hx0]
    have hxzn : (((cz.toNat : Nat) : Int) != 90) = !xz := by unfold bne; rw [hxz]
    have HX0 : Hid (decide (c0 = 46) = x0) := by unfold Hid; rw [<- hx0]; exact (hdn c0 46).symm
    have HXZ : Hid (decide (cz = 90) = xz) := by unfold Hid; rw [<- hxz]; exact (hdn cz 90).symm
    have HXK : Hid (decide (ck = 48) = xk) := by unfold Hid; rw [<- hxk]; exact (hdn ck 48).symm
    have HTR : Hid (∀ W, Calls Tryz.prog 163 #[.string (s.extract 1 (K + 1)), .string digsB] W fun e w' => ∃ T : ByteArray, e = .returned (.string T) /\ T.toList.isEmpty = (s.extract 1 (K + 1)).data.toList.all digU /\ Below W.heap.size W w') := fun W => trim_digs _ W (by rw [<- str_len, Lib.extract_data]; simp; omega)
    rw [Lib.extract_data] at HTR
    have HR2 : Hid (R = (!(e2 || (!x0 || (!xz || xk))) && ((s.data.toList.drop 1).take K).all digU)) := by
     unfold Hid
     rw [HTL.out, hK, show K + 2 - 1 = K + 1 by omega, show K + 2 - 2 = K by omega, g0, gk, gz, decide_eq_true (p := 3 <= K + 2) (by omega)]
     have e : decide (K + 2 <= 11) = !e2 := by
      rw [<- he2]
      by_cases h : 9 < K
      ·rw [decide_eq_false (by omega), decide_eq_true (by omega)]; rfl
      ·rw [decide_eq_true (by omega), decide_eq_false (by omega)]; rfl
     have e0 : decide (some c0 = some 46) = x0 := by rw [<- HX0.out]; simp
     have ez : decide (some cz = some 90) = xz := by rw [<- HXZ.out]; simp
     have ek : decide (some ck ≠ some 48) = !xk := by rw [<- HXK.out]; simp
     rw [e, e0, ez, ek]
     cases e2 <;> cases x0 <;> cases xz <;> cases xk <;> simp
    rw [show K + 1 - 1 = K by omega] at HTR
    obtain ⟨dg, hdg⟩ : ∃ b, ((s.data.toList.drop 1).take K).all digU = b := ⟨_, rfl⟩
    rw [hdg] at HTR HR2
    obtain ⟨bad, hbad⟩ : ∃ b, (e2 || (!x0 || (!xz || xk))) = b := ⟨_, rfl⟩
    rw [hbad] at HR2
    have HBD := Lib.hid hbad
    unfold digsB at HTR
    clear hbad hdg hdn hsz hK h3 g0 gk gz HTL
    go_enter Tryz.func161, Tryz.ntmps161
    go_upto_region 4 with fail
    try rw [hKs]
    go_cut [32] from 9 to 32 (fun v wr => v = .bool bad /\ wr = w)
    case first =>
     cases e2 <;> cases x0 <;> cases xz <;> cases xk
     all_goals
      simp only [Bool.not_false, Bool.not_true] at hx0n hxzn
      go_wp2_with fail
      go_meet
      exact ⟨by rw [<- HBD.out]; rfl, rfl⟩
    case rest =>
    obtain ⟨rfl, hwc⟩ := hcut
    obtain rfl : w = wc := hwc.symm
    cases bad with
    | true =>
      have HRR : Hid (R = false) := by unfold Hid; rw [HR2.out]; rfl
      go_wp2_with fail
      rw [HRR.out]
      go_ret
      exact ⟨rfl, Below.refl _ _⟩
    | false =>
      have HRR : Hid (R = dg) := by unfold Hid; rw [HR2.out]; rfl
      go_wp2_with (first | (go_at_call 163; refine (HTR.out _).mono ?_; rintro e w1 ⟨T, rfl, hT, hb1⟩) | fail)
      rw [HRR.out]
      go_ret
      exact ⟨rfl, hb1⟩
theorem valD_lt : ∀ (k : Nat) (l : List UInt8), l.length = k -> l.all digU = true -> valD l < 10 ^ k
 | 0, l, hk, _ => by
   obtain rfl := List.eq_nil_of_length_eq_zero hk
   decide
 | k + 1, l, hk, h => by
   have hne : l ≠ [] := fun e => by rw [e] at hk; cases hk
   obtain ⟨r, b, rfl⟩ : ∃ r b, l = r ++ [b] := ⟨l.dropLast, l.getLast hne, (List.dropLast_concat_getLast hne).symm⟩
   rw [List.all_append, Bool.and_eq_true] at h
   have hb : digU b = true := by simpa using h.2
   unfold digU at hb
   simp only [Bool.and_eq_true, decide_eq_true_eq] at hb
   have ih := valD_lt k r (by simp at hk; exact hk) h.1
   rw [valD_snoc, Int.pow_succ]
   unfold stepD
   omega
theorem numAt_lt {l : List UInt8} {i n : Nat} (h : ((l.drop i).take n).all digU = true) : 0 <= numAt l i n /\ numAt l i n < 10 ^ n := by
 refine ⟨valD_nonneg h, ?_⟩
 have h1 := valD_lt _ _ rfl h
 have h2 : ((l.drop i).take n).length <= n := List.length_take_le _ _
 have h3 : (10 : Nat) ^ ((l.drop i).take n).length <= 10 ^ n := Nat.pow_le_pow_right (by decide) h2
 have h4 : (((10 : Nat) ^ ((l.drop i).take n).length : Nat) : Int) <= ((10 ^ n : Nat) : Int) := by omega
 have h5 : ((10 : Int) ^ ((l.drop i).take n).length) <= 10 ^ n := by simpa using h4
 exact Int.lt_of_lt_of_le h1 h5
theorem hd_nums {l : List UInt8} (h : hdOk l = true) : 19 <= l.length /\ (0 <= numAt l 0 4 /\ numAt l 0 4 <= 9999) /\ (0 <= numAt l 5 2 /\ numAt l 5 2 <= 99) /\ (0 <= numAt l 8 2 /\ numAt l 8 2 <= 99) /\ (0 <= numAt l 11 2 /\ numAt l 11 2 <= 99) /\ (0 <= numAt l 14 2 /\ numAt l 14 2 <= 99) /\ (0 <= numAt l 17 2 /\ numAt l 17 2 <= 99) := by
 have hl : 19 <= l.length := by
  unfold hdOk at h
  rw [Bool.and_eq_true] at h
  exact of_decide_eq_true h.1
 have hp := hdOk_parts hl
 rw [h] at hp
 have hp := hp.symm
 simp only [Bool.and_eq_true] at hp
 obtain ⟨_, ⟨a, b, c⟩, d, e, f⟩ := hp
 have p4 : (10 : Int) ^ 4 = 10000 := by decide
 have p2 : (10 : Int) ^ 2 = 100 := by decide
 have h1 := numAt_lt a
 have h2 := numAt_lt b
 have h3 := numAt_lt c
 have h4 := numAt_lt d
 have h5 := numAt_lt e
 have h6 := numAt_lt f
 omega
theorem daysF_bound {y m d D : Int} (h : daysF y m d = some D) : -800000 <= D /\ D <= 4000000 := by
 unfold daysF at h
 split at h
 ·rename_i hc
  have h1 := aheadF_bound hc.1 (show y <= 10000 by omega)
  have h2 := monthsF_bound y (m.toNat - 1)
  have h3 := month_pos y m
  have e7 : aheadF 1970 = 719528 := by decide
  rw [e7] at h
  have := Option.some.inj h
  omega
 ·cases h
theorem hd_alloc (w : World) (a b c d x y : Int) : HdAt (w.alloc (.cells #[.int .i64 a, .int .i64 b, .int .i64 c, .int .i64 d, .int .i64 x, .int .i64 y] 177)) w.heap.size [a, b, c, d, x, y] := heap_alloc_at rfl
def secRet (o : Option Int) : Value := match o with | some n => .tuple #[.int .i64 n, .bool true] | none => .tuple #[.int .i64 0, .bool false]
theorem seconds_any (s : ByteArray) (w : World) (hs : s.size <= maxLen) : Calls Tryz.prog 144 #[.string s] w fun e w' => e = .returned (secRet (secF s.data.toList)) /\ Below w.heap.size w w' := by
 have hsz : s.data.toList.length = s.size := by rw [Array.length_toList]; rfl
 have HHD : Hid (∀ W, Calls Tryz.prog 160 #[.string s] W fun e w' => headRet s.data.toList e /\ Below W.heap.size W w') := fun W => head_any s W hs
 have HSF : Hid (secF s.data.toList = if hdOk s.data.toList && (tlOk (s.data.toList.drop 19) && (decide (numAt s.data.toList 11 2 <= 23) && (decide (numAt s.data.toList 14 2 <= 59) && decide (numAt s.data.toList 17 2 <= 59)))) then (daysF (numAt s.data.toList 0 4) (numAt s.data.toList 5 2) (numAt s.data.toList 8 2)).map (fun D => ((D * 24 + numAt s.data.toList 11 2) * 60 + numAt s.data.toList 14 2) * 60 + numAt s.data.toList 17 2) else none) := rfl
 have HTL : Hid (19 <= s.size -> ∀ W, Calls Tryz.prog 161 #[.string (s.extract 19 s.size)] W fun e w' => e = .returned (.bool (tlOk (s.data.toList.drop 19))) /\ Below W.heap.size W w') := fun h W => (tail_any (s.extract 19 s.size) W (by rw [<- str_len, Lib.extract_data]; simp; omega)).mono (fun e w' h => by
  rw [Lib.extract_data, List.take_of_length_le (by rw [List.length_drop]; omega)] at h
  exact h)
 obtain ⟨R, hR⟩ : ∃ R, secF s.data.toList = R := ⟨_, rfl⟩
 rw [hR] at HSF
 rw [hR]
 clear hR
 unfold maxLen at hs
 have s0 : (0 : Int) <= (s.size : Int) := Int.natCast_nonneg _
 cases hok : hdOk s.data.toList with
 | false =>
   have HRR : Hid (R = none) := by unfold Hid; rw [HSF.out, hok]; rfl
   have HNO := Lib.hid hok
   clear hok hsz
   go_enter Tryz.func144, Tryz.ntmps144
   go_wp2_with (first | (go_at_call 160; refine (HHD.out _).mono ?_; rintro e w1 ⟨hh, hb1⟩; unfold headRet at hh; rw [if_neg (by rw [HNO.out]; decide)] at hh; obtain ⟨a, b, c, d, x, y, rfl⟩ := hh) | fail)
   rw [HRR.out]
   refine bodyPost_ret (v := .tuple #[.int .i64 0, .bool false]) (by simp [results, Tryz.results144, go_sem]) rfl ⟨rfl, hb1.alloc hb1.size _⟩
 | true =>
   obtain ⟨hl, ⟨y0, y1⟩, ⟨m0, m1⟩, ⟨d0, d1⟩, ⟨h0, h1⟩, ⟨i0, i1⟩, ⟨n0, n1⟩⟩ := hd_nums hok
   have h19 : 19 <= s.size := by omega
   have HT2 := Lib.hid (HTL.out h19)
   have h19' : (19 : Int) <= (s.size : Int) := by omega
   have HDA : Hid (∀ W, Calls Tryz.prog 162 #[.int .i64 (numAt s.data.toList 0 4), .int .i64 (numAt s.data.toList 5 2), .int .i64 (numAt s.data.toList 8 2)] W fun e w' => e = .returned (dayRet (daysF (numAt s.data.toList 0 4) (numAt s.data.toList 5 2) (numAt s.data.toList 8 2))) /\ W = w') := fun W => days_any _ _ _ W y0 y1 m0 m1 d0 d1
   have HH2 : Hid (∀ W, Calls Tryz.prog 160 #[.string s] W fun e w' => e = .returned (.tuple #[.agg #[.int .i64 (numAt s.data.toList 0 4), .int .i64 (numAt s.data.toList 5 2), .int .i64 (numAt s.data.toList 8 2), .int .i64 (numAt s.data.toList 11 2), .int .i64 (numAt s.data.toList 14 2), .int .i64 (numAt s.data.toList 17 2)], .bool true]) /\ Below W.heap.size W w') := fun W => (HHD.out W).mono (fun e w' h => by
    obtain ⟨h2, h3⟩ := h
    unfold headRet at h2
    rw [if_pos hok] at h2
    exact ⟨h2, h3⟩)
   have HDB : Hid (∀ D, daysF (numAt s.data.toList 0 4) (numAt s.data.toList 5 2) (numAt s.data.toList 8 2) = some D -> -800000 <= D /\ D <= 4000000) := fun D h => daysF_bound h
   rw [hok] at HSF
   clear hok HHD HTL hl hsz
   obtain ⟨Y, hY⟩ : ∃ n, numAt s.data.toList 0 4 = n := ⟨_, rfl⟩
   obtain ⟨M, hM⟩ : ∃ n, numAt s.data.toList 5 2 = n := ⟨_, rfl⟩
   obtain ⟨D, hD⟩ : ∃ n, numAt s.data.toList 8 2 = n := ⟨_, rfl⟩
   obtain ⟨H, hH⟩ : ∃ n, numAt s.data.toList 11 2 = n := ⟨_, rfl⟩
   obtain ⟨I, hI⟩ : ∃ n, numAt s.data.toList 14 2 = n := ⟨_, rfl⟩
   obtain ⟨C, hC⟩ : ∃ n, numAt s.data.toList 17 2 = n := ⟨_, rfl⟩
   obtain ⟨tl, htl⟩ : ∃ b, tlOk (s.data.toList.drop 19) = b := ⟨_, rfl⟩
   obtain ⟨o, ho⟩ : ∃ o, daysF Y M D = o := ⟨_, rfl⟩
   rw [hY, hM, hD] at HDA HSF HDB HH2
   rw [hH, hI, hC] at HSF HH2
   rw [ho] at HDA HSF HDB
   rw [htl] at HSF HT2
   rw [hH] at h0 h1
   rw [hI] at i0 i1
   rw [hC] at n0 n1
   clear hY hM hD hH hI hC htl ho y0 y1 m0 m1 d0 d1
   obtain ⟨a3, ha3⟩ : ∃ b, decide ((23 : Int) < H) = b := ⟨_, rfl⟩
   obtain ⟨a4, ha4⟩ : ∃ b, decide ((59 : Int) < I) = b := ⟨_, rfl⟩
   obtain ⟨a5, ha5⟩ : ∃ b, decide ((59 : Int) < C) = b := ⟨_, rfl⟩
   have HSF2 : Hid (R = if (tl && (!a3 && (!a4 && !a5))) then o.map (fun D => ((D * 24 + H) * 60 + I) * 60 + C) else none) := by
    unfold Hid
    rw [HSF.out, Bool.true_and, <- ha3, <- ha4, <- ha5]
    have e : ∀ n k : Int, decide (n <= k) = !decide (k < n) := fun n k => by
     by_cases h : n <= k
     ·rw [decide_eq_true h, decide_eq_false (by omega)]; rfl
     ·rw [decide_eq_false h, decide_eq_true (by omega)]; rfl
    rw [e H 23, e I 59, e C 59]
   clear HSF
   cases hall : (tl && (!a3 && (!a4 && !a5))) with
   | false =>
     have HRR : Hid (R = none) := by unfold Hid; rw [HSF2.out, hall]; rfl
     cases tl <;> cases a3 <;> cases a4 <;> cases a5 <;> simp only [Bool.and_true, Bool.and_false, Bool.true_and, Bool.false_and, Bool.not_true, Bool.not_false, Bool.and_self, reduceCtorEq] at hall
     all_goals
      go_enter Tryz.func144, Tryz.ntmps144
      go_wp2_with (first | (go_at_call 160; refine (HH2.out _).mono ?_; rintro e w1 ⟨rfl, hb1⟩) | (go_at_call 161; refine (HT2.out _).mono ?_; rintro e w2 ⟨rfl, hb2⟩; (have g3 : w2.cell? ⟨w1.heap.size, 3, none⟩ = some (.int .i64 H) := bcs hb2 (by simp) ((hd_alloc _ _ _ _ _ _ _).cell rfl)); (have g4 : w2.cell? ⟨w1.heap.size, 4, none⟩ = some (.int .i64 I) := bcs hb2 (by simp) ((hd_alloc _ _ _ _ _ _ _).cell rfl)); (have g5 : w2.cell? ⟨w1.heap.size, 5, none⟩ = some (.int .i64 C) := bcs hb2 (by simp) ((hd_alloc _ _ _ _ _ _ _).cell rfl))) | fail)
      rw [HRR.out]
      refine bodyPost_ret (v := .tuple #[.int .i64 0, .bool false]) (by simp [results, Tryz.results144, go_sem]) rfl ⟨rfl, (hb1.alloc hb1.size _).trans (hb2.mono (by simp; have := hb1.size; omega))⟩
   | true =>
     cases tl <;> cases a3 <;> cases a4 <;> cases a5 <;> simp only [Bool.and_true, Bool.and_false, Bool.true_and, Bool.false_and, Bool.not_true, Bool.not_false, Bool.and_self, reduceCtorEq] at hall
     have l3 := of_decide_eq_false ha3
     have l4 := of_decide_eq_false ha4
     have l5 := of_decide_eq_false ha5
     cases o with
     | none =>
       have HRR : Hid (R = none) := by unfold Hid; rw [HSF2.out]; rfl
       have HDN : Hid (∀ W, Calls Tryz.prog 162 #[.int .i64 Y, .int .i64 M, .int .i64 D] W fun e w' => e = .returned (.tuple #[.int .i64 0, .bool false]) /\ W = w') := HDA.out
       clear HDA HDB HSF2
       go_enter Tryz.func144, Tryz.ntmps144
       go_wp2_with (first | (go_at_call 160; refine (HH2.out _).mono ?_; rintro e w1 ⟨rfl, hb1⟩) | (go_at_call 161; refine (HT2.out _).mono ?_; rintro e w2 ⟨rfl, hb2⟩; (have g0 : w2.cell? ⟨w1.heap.size, 0, none⟩ = some (.int .i64 Y) := bcs hb2 (by simp) ((hd_alloc _ _ _ _ _ _ _).cell rfl)); (have g1 : w2.cell? ⟨w1.heap.size, 1, none⟩ = some (.int .i64 M) := bcs hb2 (by simp) ((hd_alloc _ _ _ _ _ _ _).cell rfl)); (have g2 : w2.cell? ⟨w1.heap.size, 2, none⟩ = some (.int .i64 D) := bcs hb2 (by simp) ((hd_alloc _ _ _ _ _ _ _).cell rfl)); (have g3 : w2.cell? ⟨w1.heap.size, 3, none⟩ = some (.int .i64 H) := bcs hb2 (by simp) ((hd_alloc _ _ _ _ _ _ _).cell rfl)); (have g4 : w2.cell? ⟨w1.heap.size, 4, none⟩ = some (.int .i64 I) := bcs hb2 (by simp) ((hd_alloc _ _ _ _ _ _ _).cell rfl)); (have g5 : w2.cell? ⟨w1.heap.size, 5, none⟩ = some (.int .i64 C) := bcs hb2 (by simp) ((hd_alloc _ _ _ _ _ _ _).cell rfl))) | (go_at_call 162; refine (HDN.out _).mono ?_; rintro e w3 ⟨rfl, rfl⟩) | fail)
       rw [HRR.out]
       refine bodyPost_ret (v := .tuple #[.int .i64 0, .bool false]) (by simp [results, Tryz.results144, go_sem]) rfl ⟨rfl, (hb1.alloc hb1.size _).trans (hb2.mono (by simp; have := hb1.size; omega))⟩
     | some N =>
       obtain ⟨N0, N1⟩ := HDB.out N rfl
       have HRR : Hid (R = some (((N * 24 + H) * 60 + I) * 60 + C)) := by unfold Hid; rw [HSF2.out]; rfl
       have HDN : Hid (∀ W, Calls Tryz.prog 162 #[.int .i64 Y, .int .i64 M, .int .i64 D] W fun e w' => e = .returned (.tuple #[.int .i64 N, .bool true]) /\ W = w') := HDA.out
       clear HDA HDB HSF2
       go_enter Tryz.func144, Tryz.ntmps144
       go_wp2_with (first | (go_at_call 160; refine (HH2.out _).mono ?_; rintro e w1 ⟨rfl, hb1⟩) | (go_at_call 161; refine (HT2.out _).mono ?_; rintro e w2 ⟨rfl, hb2⟩; (have g0 : w2.cell? ⟨w1.heap.size, 0, none⟩ = some (.int .i64 Y) := bcs hb2 (by simp) ((hd_alloc _ _ _ _ _ _ _).cell rfl)); (have g1 : w2.cell? ⟨w1.heap.size, 1, none⟩ = some (.int .i64 M) := bcs hb2 (by simp) ((hd_alloc _ _ _ _ _ _ _).cell rfl)); (have g2 : w2.cell? ⟨w1.heap.size, 2, none⟩ = some (.int .i64 D) := bcs hb2 (by simp) ((hd_alloc _ _ _ _ _ _ _).cell rfl)); (have g3 : w2.cell? ⟨w1.heap.size, 3, none⟩ = some (.int .i64 H) := bcs hb2 (by simp) ((hd_alloc _ _ _ _ _ _ _).cell rfl)); (have g4 : w2.cell? ⟨w1.heap.size, 4, none⟩ = some (.int .i64 I) := bcs hb2 (by simp) ((hd_alloc _ _ _ _ _ _ _).cell rfl)); (have g5 : w2.cell? ⟨w1.heap.size, 5, none⟩ = some (.int .i64 C) := bcs hb2 (by simp) ((hd_alloc _ _ _ _ _ _ _).cell rfl))) | (go_at_call 162; refine (HDN.out _).mono ?_; rintro e w3 ⟨rfl, rfl⟩) | fail)
       rw [HRR.out]
       refine bodyPost_ret (v := .tuple #[.int .i64 (((N * 24 + H) * 60 + I) * 60 + C), .bool true]) (by simp [results, Tryz.results144, go_sem]) rfl ⟨rfl, (hb1.alloc hb1.size _).trans (hb2.mono (by simp; have := hb1.size; omega))⟩
theorem tl_form {t : List UInt8} (h : tlOk t = true) : t = [90] \/ ∃ D, t = 46 :: (D ++ [90]) /\ D ≠ [] /\ D.all digU = true /\ D.length <= 9 := by
 unfold tlOk at h
 simp only [Bool.or_eq_true, Bool.and_eq_true, decide_eq_true_eq] at h
 rcases h with h | ⟨h1, h2, h3, h4, _, h6⟩
 ·exact .inl h
 ·obtain ⟨c, r, rfl, hr⟩ := one_more (k := 2) (l := t) (by omega)
  have hne : r ≠ [] := fun e => by rw [e] at hr; simp at hr
  obtain ⟨D, z, rfl⟩ : ∃ D z, r = D ++ [z] := ⟨r.dropLast, r.getLast hne, (List.dropLast_concat_getLast hne).symm⟩
  simp only [List.length_append, List.length_cons, List.length_nil] at hr h1 h2 h4 h6
  have hc : c = 46 := by simpa using h3
  have hz : z = 90 := by
   rw [show D.length + (0 + 1) + 1 - 1 = (D.length + 0) + 1 by omega, List.getElem?_cons_succ, List.getElem?_append_right (by omega), show D.length - D.length = 0 by omega] at h4
   simpa using h4
  rw [List.drop_succ_cons, List.drop_zero, show D.length + (0 + 1) + 1 - 2 = D.length by omega, List.take_left] at h6
  subst hc
  subst hz
  refine .inr ⟨D, rfl, fun e => ?_, h6, by omega⟩
  rw [e] at hr
  simp at hr
theorem dig_not {c : UInt8} (h : digU c = true) : ([46, 90] : List UInt8).contains c = false := by
 cases hc : ([46, 90] : List UInt8).contains c with
 | false => rfl
 | true =>
   have : c ∈ ([46, 90] : List UInt8) := List.contains_iff_mem.1 hc
   simp at this
   rcases this with rfl | rfl
   ·cases h
   ·cases h
theorem dropW_stop {l : List UInt8} (hd : l ≠ []) (h : l.all digU = true) (r : List UInt8) : (l ++ r).dropWhile (([46, 90] : List UInt8).contains ·) = l ++ r := by
 cases l with
 | nil => exact absurd rfl hd
 | cons a m =>
   rw [List.all_cons, Bool.and_eq_true] at h
   rw [List.cons_append, List.dropWhile_cons, if_neg (by rw [dig_not h.1]; decide)]
theorem trim_form {D : List UInt8} (hd : D ≠ []) (h : D.all digU = true) : Lib.trimS (46 :: (D ++ [90])) [46, 90] = D := by
 unfold Lib.trimS Lib.trimLeftS Lib.trimRightS
 have e1 : (46 :: (D ++ [90])).reverse = 90 :: (D.reverse ++ [46]) := by simp
 have e2 : (90 :: (D.reverse ++ [46])).dropWhile (([46, 90] : List UInt8).contains ·) = D.reverse ++ [46] := by
  rw [List.dropWhile_cons, if_pos (by decide)]
  exact dropW_stop (by simpa using hd) (by rw [List.all_reverse]; exact h) _
 rw [e1, e2, List.reverse_append, List.reverse_reverse]
 show (46 :: D).dropWhile _ = D
 rw [List.dropWhile_cons, if_pos (by decide)]
 have := dropW_stop hd h []
 rw [List.append_nil] at this
 exact this
theorem no_dot : ∀ f ∈ formL, posOk f 46 = false := by decide
theorem hd_count {l : List UInt8} (h : hdOk l = true) : (l.take 19).count 46 = 0 := by
 rw [List.count_eq_zero]
 intro hm
 obtain ⟨i, hi, he⟩ := List.mem_iff_getElem.1 hm
 rw [List.length_take] at hi
 have hil : i < 19 := by omega
 have hl : l[i]? = some 46 := by
  rw [List.getElem_take] at he
  rw [<- he]
  exact List.getElem?_eq_getElem _
 obtain ⟨f, hf⟩ := form_get ⟨i, hil⟩
 unfold hdOk at h
 rw [Bool.and_eq_true] at h
 have hz : (formL.zip l)[i]? = some (f, 46) := by rw [List.getElem?_zip_eq_some]; exact ⟨hf, hl⟩
 have h2 := List.all_eq_true.1 h.2 _ (List.mem_of_getElem? hz)
 dsimp only at h2
 rw [no_dot f (List.mem_of_getElem? hf)] at h2
 cases h2
theorem dig_count {D : List UInt8} (h : D.all digU = true) : D.count 46 = 0 := by
 rw [List.count_eq_zero]
 intro hm
 have := List.all_eq_true.1 h _ hm
 cases this
theorem part_law {l : List UInt8} (hh : hdOk l = true) (ht : tlOk (l.drop 19) = true) : Lib.trimS (l.drop 19) [46, 90] = (l.drop 20).take (l.length - 21) /\ (11 : Int) - (l.length - 19 : Nat) + (l.count 46 : Nat) = ((10 - (l.length - 21) : Nat) : Int) /\ 20 <= l.length /\ l.length <= 30 := by
 have hc := hd_count hh
 have hs : l.count 46 = (l.drop 19).count 46 := by
  conv => lhs; rw [<- List.take_append_drop 19 l]
  rw [List.count_append, hc, Nat.zero_add]
 have hdr : l.drop 20 = (l.drop 19).drop 1 := by rw [List.drop_drop]
 have hlen : (l.drop 19).length = l.length - 19 := List.length_drop
 rw [hs, hdr]
 rcases tl_form ht with h | ⟨D, h, h1, h2, h3⟩
 ·rw [h] at hlen ⊢
  have : l.length = 20 := by simp at hlen; omega
  rw [this]
  exact ⟨by decide, by decide, by omega, by omega⟩
 ·rw [h] at hlen ⊢
  have hl : l.length = 21 + D.length := by simp at hlen; omega
  have hn : 1 <= D.length := by
   cases D with
   | nil => exact absurd rfl h1
   | cons a r => simp
  refine ⟨?_, ?_, by omega, by omega⟩
  ·rw [trim_form h1 h2, hl, List.drop_succ_cons, List.drop_zero, show 21 + D.length - 21 = D.length by omega, List.take_left]
  ·rw [List.count_cons, List.count_append, dig_count h2, hl]
   show (11 : Int) - ((21 + D.length - 19 : Nat) : Int) + 1 = _
   omega
theorem repeatL_one (c : UInt8) (n : Nat) : Lib.repeatL [c] n = List.replicate n c := by
 induction n with
 | zero => rfl
 | succ n ih => rw [List.replicate_succ, <- ih]; rfl
theorem part_any (s : ByteArray) (w : World) (hh : hdOk s.data.toList = true) (ht : tlOk (s.data.toList.drop 19) = true) : Calls Tryz.prog 145 #[.string s] w fun e w' => e = .returned (.string ⟨(partF s.data.toList).toArray⟩) /\ Below w.heap.size w w' := by
 obtain ⟨h1, h2, h3, h4⟩ := part_law hh ht
 have hsz : s.data.toList.length = s.size := by rw [Array.length_toList]; rfl
 rw [hsz] at h1 h2 h3 h4
 have h19 : 19 <= s.size := by omega
 have h19' : (19 : Int) <= (s.size : Int) := by omega
 have HTR : Hid (∀ W, Calls Tryz.prog 163 #[.string (s.extract 19 s.size), .string ⟨#[46, 90]⟩] W fun e w' => e = .returned (.string ⟨((s.data.toList.drop 20).take (s.size - 21)).toArray⟩) /\ Below W.heap.size W w') := fun W =>
  (Any.strings_Trim_laid lays160 (by kernel_rfl) (s.extract 19 s.size) ⟨#[46, 90]⟩ W (by rw [<- str_len, Lib.extract_data]; simp; omega) (by decide) (fun j b h => by
   have hall : ([46, 90] : List UInt8).all (fun b => decide (b.toNat < 128)) = true := by decide
   exact of_decide_eq_true (List.all_eq_true.1 hall b (List.mem_of_getElem? h)))).mono (fun e w' h => by
    rw [Lib.extract_data, List.take_of_length_le (by rw [List.length_drop, hsz]; omega)] at h
    refine ⟨h.1.trans ?_, h.2⟩
    rw [<- h1])
 have HCO : Hid (∀ W, Calls Tryz.prog 165 #[.string s, .string ⟨#[46]⟩] W fun e w' => e = .returned (.int .i64 ((s.data.toList.count 46 : Nat) : Int)) /\ W = w') := fun W => (strings_Count_one s 46 W).mono (fun e w' h => ⟨h.1, h.2.symm⟩)
 have HRP : Hid (∀ W, Calls Tryz.prog 164 #[.string ⟨#[48]⟩, .int .i64 ((10 - (s.size - 21) : Nat) : Int)] W fun e w' => e = .returned (.string ⟨(List.replicate (10 - (s.size - 21)) 48).toArray⟩) /\ Below W.heap.size W w') := fun W => (strings_Repeat ⟨#[48]⟩ _ W (by omega) (by show 1 * _ <= _; omega)).mono (fun e w' h => ⟨h.1.trans (by rw [show (⟨#[48]⟩ : ByteArray).data.toList = [48] from rfl, repeatL_one]), h.2⟩)
 have HPF : Hid ((⟨(partF s.data.toList).toArray⟩ : ByteArray) = ⟨((s.data.toList.drop 20).take (s.size - 21)).toArray⟩ ++ ⟨(List.replicate (10 - (s.size - 21)) 48).toArray⟩) := by
  unfold Hid partF
  rw [hsz]
  apply ByteArray.ext
  simp
 obtain ⟨c, hc⟩ : ∃ c : Nat, s.data.toList.count 46 = c := ⟨_, rfl⟩
 obtain ⟨T, hT⟩ : ∃ T : ByteArray, ⟨((s.data.toList.drop 20).take (s.size - 21)).toArray⟩ = T := ⟨_, rfl⟩
 obtain ⟨Q, hQ⟩ : ∃ Q : ByteArray, ⟨(List.replicate (10 - (s.size - 21)) 48).toArray⟩ = Q := ⟨_, rfl⟩
 have hTs : T.size <= 10 := by rw [<- hT, <- str_len]; simp; try omega
 have hQs : Q.size <= 10 := by rw [<- hQ, <- str_len]; simp; try omega
 rw [hT] at HTR HPF
 rw [hQ] at HRP HPF
 rw [hc] at HCO h2
 have HN := Lib.hid h2
 have hcb : (c : Int) <= 1000 := by omega
 have hc0 : (0 : Int) <= (c : Int) := Int.natCast_nonneg _
 have hw : IntKind.i64.wrap (IntKind.i64.wrap (11 - ((s.size - 19 : Nat) : Int)) + (c : Int)) = ((10 - (s.size - 21) : Nat) : Int) := by
  rw [<- h2]
  have b : ((s.size - 19 : Nat) : Int) <= 11 := by omega
  have b0 : (0 : Int) <= ((s.size - 19 : Nat) : Int) := Int.natCast_nonneg _
  generalize ((s.size - 19 : Nat) : Int) = n at b b0
  rw [IntKind.wrap_i64 (11 - n), IntKind.wrap_i64]; omega
 rw [<- hw] at HRP
 clear hT hQ hc h1 h2 hsz hh ht hw HN
 go_enter Tryz.func145, Tryz.ntmps145
 go_upto_region 1 with fail
 go_region_with
  (first
   | (go_at_call 163; refine (HTR.out _).mono ?_; rintro e w1 ⟨rfl, hb1⟩)
   | (go_at_call 165; refine (HCO.out _).mono ?_; rintro e w2 ⟨rfl, rfl⟩)
   | (go_at_call 164; refine (HRP.out _).mono ?_; rintro e w3 ⟨rfl, hb3⟩)
   | fail)
 all_goals
  first
   | go_ret
   | (go_wp2_with fail; go_ret)
  refine ⟨by rw [HPF.out]; rfl, ?_⟩
  first
   | exact (((Below.refl _ _).drew).trans (hb1.mono (Nat.le_refl _))).trans (hb3.mono hb1.size)
   | exact (hb1.trans (hb3.mono hb1.size))
   | (trace_state; fail)
theorem comp_any (a b : ByteArray) (W : World) : Calls Tryz.prog 143 #[.string a, .string b] W fun e w' => e = .returned (.int .i64 (Lib.compareBytes a.data.toList b.data.toList)) /\ W = w' := (strings_Compare a b W).mono (fun e w' h => ⟨h.1, h.2.symm⟩)
theorem scomp_any (s t : ByteArray) (w : World) (hs : s.size <= maxLen) (ht : t.size <= maxLen) : Calls Tryz.prog 111 #[.string s, .string t] w fun e w' => e = .returned (.int .i64 (cmpS s.data.toList t.data.toList)) /\ Below w.heap.size w w' := by
 have HSA : Hid (∀ W, Calls Tryz.prog 144 #[.string s] W fun e w' => e = .returned (secRet (secF s.data.toList)) /\ Below W.heap.size W w') := fun W => seconds_any s W hs
 have HSB : Hid (∀ W, Calls Tryz.prog 144 #[.string t] W fun e w' => e = .returned (secRet (secF t.data.toList)) /\ Below W.heap.size W w') := fun W => seconds_any t W ht
 have HCM : Hid (∀ W, Calls Tryz.prog 143 #[.string s, .string t] W fun e w' => e = .returned (.int .i64 (Lib.compareBytes s.data.toList t.data.toList)) /\ W = w') := fun W => comp_any s t W
 have HR : Hid (cmpS s.data.toList t.data.toList = match secF s.data.toList, secF t.data.toList with
  | none, none => Go.Lib.compareBytes s.data.toList t.data.toList
  | none, some _ => -1
  | some _, none => 1
  | some x, some y => if x < y then -1 else if y < x then 1 else Go.Lib.compareBytes (partF s.data.toList) (partF t.data.toList)) := rfl
 obtain ⟨R, hR⟩ : ∃ R, cmpS s.data.toList t.data.toList = R := ⟨_, rfl⟩
 rw [hR] at HR
 rw [hR]
 clear hR
 have HPA : Hid (∀ x, secF s.data.toList = some x -> ∀ W, Calls Tryz.prog 145 #[.string s] W fun e w' => e = .returned (.string ⟨(partF s.data.toList).toArray⟩) /\ Below W.heap.size W w') := fun x h W => part_any s W (secF_tl h).1 (secF_tl h).2
 have HPB : Hid (∀ x, secF t.data.toList = some x -> ∀ W, Calls Tryz.prog 145 #[.string t] W fun e w' => e = .returned (.string ⟨(partF t.data.toList).toArray⟩) /\ Below W.heap.size W w') := fun x h W => part_any t W (secF_tl h).1 (secF_tl h).2
 have HCP : Hid (∀ W, Calls Tryz.prog 143 #[.string ⟨(partF s.data.toList).toArray⟩, .string ⟨(partF t.data.toList).toArray⟩] W fun e w' => e = .returned (.int .i64 (Lib.compareBytes (partF s.data.toList) (partF t.data.toList))) /\ W = w') := fun W => comp_any _ _ W
 obtain ⟨PA, hPA⟩ : ∃ P : ByteArray, ⟨(partF s.data.toList).toArray⟩ = P := ⟨_, rfl⟩
 obtain ⟨PB, hPB⟩ : ∃ P : ByteArray, ⟨(partF t.data.toList).toArray⟩ = P := ⟨_, rfl⟩
 obtain ⟨cp, hcp⟩ : ∃ n, Go.Lib.compareBytes (partF s.data.toList) (partF t.data.toList) = n := ⟨_, rfl⟩
 obtain ⟨cm, hcm⟩ : ∃ n, Go.Lib.compareBytes s.data.toList t.data.toList = n := ⟨_, rfl⟩
 rw [hPA] at HPA HCP
 rw [hPB] at HPB HCP
 rw [hcp] at HCP HR
 rw [hcm] at HCM HR
 obtain ⟨oa, hoa⟩ : ∃ o, secF s.data.toList = o := ⟨_, rfl⟩
 obtain ⟨ob, hob⟩ : ∃ o, secF t.data.toList = o := ⟨_, rfl⟩
 rw [hoa] at HSA HPA HR
 rw [hob] at HSB HPB HR
 clear hPA hPB hcp hcm hoa hob hs ht
 cases oa with
 | none => cases ob with
   | none =>
     have HRR : Hid (R = cm) := HR.out
     clear HR HPA HPB HCP
     unfold secRet at HSA HSB
     go_enter Tryz.func111, Tryz.ntmps111
     go_wp2_with (first | (go_at_call 144; with_reducible refine (HSA.out _).mono ?_; rintro e w1 ⟨rfl, hb1⟩) | (go_at_call 144; with_reducible refine (HSB.out _).mono ?_; rintro e w2 ⟨rfl, hb2⟩) | (go_at_call 143; refine (HCM.out _).mono ?_; rintro e w3 ⟨rfl, rfl⟩) | fail)
     rw [HRR.out]
     go_ret
     exact ⟨rfl, hb1.trans (hb2.mono hb1.size)⟩
   | some y =>
     have HRR : Hid (R = -1) := HR.out
     clear HR HPA HPB HCP HCM
     unfold secRet at HSA HSB
     go_enter Tryz.func111, Tryz.ntmps111
     go_wp2_with (first | (go_at_call 144; with_reducible refine (HSA.out _).mono ?_; rintro e w1 ⟨rfl, hb1⟩) | (go_at_call 144; with_reducible refine (HSB.out _).mono ?_; rintro e w2 ⟨rfl, hb2⟩) | fail)
     rw [HRR.out]
     go_ret
     exact ⟨rfl, hb1.trans (hb2.mono hb1.size)⟩
 | some x => cases ob with
   | none =>
     have HRR : Hid (R = 1) := HR.out
     clear HR HPA HPB HCP HCM
     unfold secRet at HSA HSB
     go_enter Tryz.func111, Tryz.ntmps111
     go_wp2_with (first | (go_at_call 144; with_reducible refine (HSA.out _).mono ?_; rintro e w1 ⟨rfl, hb1⟩) | (go_at_call 144; with_reducible refine (HSB.out _).mono ?_; rintro e w2 ⟨rfl, hb2⟩) | fail)
     rw [HRR.out]
     go_ret
     exact ⟨rfl, hb1.trans (hb2.mono hb1.size)⟩
   | some y =>
     have HQA := Lib.hid (HPA.out x rfl)
     have HQB := Lib.hid (HPB.out y rfl)
     clear HPA HPB HCM
     unfold secRet at HSA HSB
     by_cases hxy : x < y
     ·have HRR : Hid (R = -1) := HR.out.trans (if_pos hxy)
      have q1 : decide (x < y) = true := decide_eq_true hxy
      clear HR HCP HQA HQB
      go_enter Tryz.func111, Tryz.ntmps111
      go_wp2_with (first | (go_at_call 144; with_reducible refine (HSA.out _).mono ?_; rintro e w1 ⟨rfl, hb1⟩) | (go_at_call 144; with_reducible refine (HSB.out _).mono ?_; rintro e w2 ⟨rfl, hb2⟩) | fail)
      rw [HRR.out]
      go_ret
      exact ⟨rfl, hb1.trans (hb2.mono hb1.size)⟩
     ·have q1 : decide (x < y) = false := decide_eq_false hxy
      by_cases hyx : y < x
      ·have HRR : Hid (R = 1) := HR.out.trans ((if_neg hxy).trans (if_pos hyx))
       have q2 : decide (y < x) = true := decide_eq_true hyx
       clear HR HCP HQA HQB
       go_enter Tryz.func111, Tryz.ntmps111
       go_wp2_with (first | (go_at_call 144; with_reducible refine (HSA.out _).mono ?_; rintro e w1 ⟨rfl, hb1⟩) | (go_at_call 144; with_reducible refine (HSB.out _).mono ?_; rintro e w2 ⟨rfl, hb2⟩) | fail)
       rw [HRR.out]
       go_ret
       exact ⟨rfl, hb1.trans (hb2.mono hb1.size)⟩
      ·have HRR : Hid (R = cp) := HR.out.trans ((if_neg hxy).trans (if_neg hyx))
       have q2 : decide (y < x) = false := decide_eq_false hyx
       clear HR
       go_enter Tryz.func111, Tryz.ntmps111
       go_wp2_with (first | (go_at_call 144; with_reducible refine (HSA.out _).mono ?_; rintro e w1 ⟨rfl, hb1⟩) | (go_at_call 144; with_reducible refine (HSB.out _).mono ?_; rintro e w2 ⟨rfl, hb2⟩) | (go_at_call 145; with_reducible refine (HQA.out _).mono ?_; rintro e w3 ⟨rfl, hb3⟩) | (go_at_call 145; with_reducible refine (HQB.out _).mono ?_; rintro e w4 ⟨rfl, hb4⟩) | (go_at_call 143; refine (HCP.out _).mono ?_; rintro e w5 ⟨rfl, rfl⟩) | fail)
       rw [HRR.out]
       go_ret
       have h12 := hb1.trans (hb2.mono hb1.size)
       have h123 := h12.trans (hb3.mono h12.size)
       exact ⟨rfl, h123.trans (hb4.mono h123.size)⟩
end
section
open Go.Sort
open Go.Proofs (ltOf)
variable {α : Type} [Inhabited α]
def swr (d : Array α) (a b : Nat) : Nat -> Array α
 | 0 => d
 | n + 1 => swp (swr d a b n) (a + n) (b + n)
theorem size_swr (d : Array α) (a b n : Nat) : (swr d a b n).size = d.size := by
 induction n with
 | zero => rfl
 | succ n ih => rw [swr, size_swp, ih]
theorem swr_get (d : Array α) (a b n : Nat) (h : a + n <= b) (hb : b + n <= d.size) (t : Nat) :
 (swr d a b n)[t]! = if a <= t /\ t < a + n then d[b + (t - a)]! else if b <= t /\ t < b + n then d[a + (t - b)]! else d[t]! := by
 induction n generalizing t with
 | zero => rw [if_neg (by omega), if_neg (by omega)]; rfl
 | succ n ih =>
   have ih' := fun t => ih (by omega) (by omega) t
   rw [swr, swp_get _ (by rw [size_swr]; omega) (by rw [size_swr]; omega), ih', ih', ih']
   rw [if_neg (by omega : ¬ (a <= a + n /\ a + n < a + n)), if_neg (by omega : ¬ (b <= a + n /\ a + n < b + n)), if_neg (by omega : ¬ (a <= b + n /\ b + n < a + n)), if_neg (by omega : ¬ (b <= b + n /\ b + n < b + n))]
   by_cases h1 : t = b + n
   ·rw [if_pos h1, if_neg (by omega), if_pos (by omega)]; congr 1; omega
   ·rw [if_neg h1]
    by_cases h2 : t = a + n
    ·rw [if_pos h2, if_pos (by omega)]; congr 1; omega
    ·rw [if_neg h2]
     by_cases h3 : a <= t /\ t < a + n
     ·rw [if_pos h3, if_pos (by omega)]
     ·rw [if_neg h3, if_neg (by omega : ¬ (a <= t /\ t < a + (n + 1)))]
      by_cases h4 : b <= t /\ t < b + n
      ·rw [if_pos h4, if_pos (by omega)]
      ·rw [if_neg h4, if_neg (by omega)]
theorem swr_perm (d : Array α) (a b n lo hi : Nat) (h1 : lo <= a) (h2 : a + n <= hi) (h3 : lo <= b) (h4 : b + n <= hi) (h5 : hi <= d.size) : PermIn lo hi d (swr d a b n) := by
 induction n with
 | zero => exact permIn_refl _ _ _
 | succ n ih => exact permIn_trans _ _ _ _ _ (ih (by omega) (by omega)) (swp_permIn _ _ _ _ _ (by omega) (by omega) (by omega) (by omega) (by rw [size_swr]; exact h5))
def rotG (d : Array α) (a m b t : Nat) : α := if a <= t /\ t < a + (b - m) then d[t + (m - a)]! else if a + (b - m) <= t /\ t < b then d[t - (b - m)]! else d[t]!
theorem rot_gt (d : Array α) (m i j t : Nat) (hij : j < i) (him : i <= m) (hm : m + j <= d.size) : rotG (swr d (m - i) m j) (m - (i - j)) m (m + j) t = rotG d (m - i) m (m + j) t := by
 unfold rotG
 simp only [swr_get d (m - i) m j (by omega) hm]
 by_cases h1 : m - (i - j) <= t /\ t < m - (i - j) + (m + j - m)
 ·rw [if_pos h1]
  by_cases h2 : m - i <= t /\ t < m - i + (m + j - m)
  ·omega
  ·rw [if_neg h2, if_pos (by omega : m - i + (m + j - m) <= t /\ t < m + j), if_neg (by omega), if_pos (by omega)]; congr 1; omega
 ·rw [if_neg h1]
  by_cases h2 : m - (i - j) + (m + j - m) <= t /\ t < m + j
  ·rw [if_pos h2, if_neg (by omega : ¬ (m - i <= t /\ t < m - i + (m + j - m))), if_pos (by omega : m - i + (m + j - m) <= t /\ t < m + j), if_neg (by omega), if_neg (by omega)]
  ·rw [if_neg h2]
   by_cases h3 : m - i <= t /\ t < m - i + j
   ·rw [if_pos h3, if_pos (by omega : m - i <= t /\ t < m - i + (m + j - m))]; congr 1; omega
   ·rw [if_neg h3, if_neg (by omega : ¬ (m <= t /\ t < m + j)), if_neg (by omega : ¬ (m - i <= t /\ t < m - i + (m + j - m))), if_neg (by omega : ¬ (m - i + (m + j - m) <= t /\ t < m + j))]
theorem rot_lt (d : Array α) (m i j t : Nat) (hij : i < j) (him : i <= m) (hm : m + j <= d.size) : rotG (swr d (m - i) (m + j - i) i) (m - i) m (m + (j - i)) t = rotG d (m - i) m (m + j) t := by
 unfold rotG
 simp only [swr_get d (m - i) (m + j - i) i (by omega) (by omega)]
 by_cases h1 : m - i <= t /\ t < m - i + (m + (j - i) - m)
 ·rw [if_pos h1, if_pos (by omega : m - i <= t /\ t < m - i + (m + j - m)), if_neg (by omega), if_neg (by omega)]
 ·rw [if_neg h1]
  by_cases h2 : m - i + (m + (j - i) - m) <= t /\ t < m + (j - i)
  ·rw [if_pos h2, if_pos (by omega : m - i <= t /\ t < m - i + (m + j - m)), if_pos (by omega)]; congr 1; omega
  ·rw [if_neg h2]
   by_cases h3 : m + j - i <= t /\ t < m + j - i + i
   ·rw [if_neg (by omega : ¬ (m - i <= t /\ t < m - i + i)), if_pos h3, if_neg (by omega : ¬ (m - i <= t /\ t < m - i + (m + j - m))), if_pos (by omega : m - i + (m + j - m) <= t /\ t < m + j)]; congr 1; omega
   ·rw [if_neg (by omega : ¬ (m - i <= t /\ t < m - i + i)), if_neg h3, if_neg (by omega : ¬ (m - i <= t /\ t < m - i + (m + j - m))), if_neg (by omega : ¬ (m - i + (m + j - m) <= t /\ t < m + j))]
theorem rot_eq (d : Array α) (m i t : Nat) (him : i <= m) (hm : m + i <= d.size) : (swr d (m - i) m i)[t]! = rotG d (m - i) m (m + i) t := by
 unfold rotG
 rw [swr_get d (m - i) m i (by omega) hm]
 by_cases h1 : m - i <= t /\ t < m - i + i
 ·rw [if_pos h1, if_pos (by omega)]; congr 1; omega
 ·rw [if_neg h1, if_neg (by omega : ¬ (m - i <= t /\ t < m - i + (m + i - m)))]
  by_cases h2 : m <= t /\ t < m + i
  ·rw [if_pos h2, if_pos (by omega)]; congr 1; omega
  ·rw [if_neg h2, if_neg (by omega)]
def bubUp (d : Array α) (k : Nat) : Nat -> Array α
 | 0 => d
 | c + 1 => swp (bubUp d k c) (k + c) (k + c + 1)
theorem size_bubUp (d : Array α) (k c : Nat) : (bubUp d k c).size = d.size := by
 induction c with
 | zero => rfl
 | succ c ih => rw [bubUp, size_swp, ih]
theorem bubUp_get (d : Array α) (k c : Nat) (h : k + c < d.size) (t : Nat) : (bubUp d k c)[t]! = if k <= t /\ t < k + c then d[t + 1]! else if t = k + c then d[k]! else d[t]! := by
 induction c generalizing t with
 | zero =>
  rw [if_neg (by omega)]
  by_cases e : t = k + 0
  ·rw [if_pos e]; simp [bubUp, e]
  ·rw [if_neg e]; rfl
 | succ c ih =>
   have ih' := fun t => ih (by omega) t
   rw [bubUp, swp_get _ (by rw [size_bubUp]; omega) (by rw [size_bubUp]; omega), ih', ih', ih']
   rw [if_neg (by omega : ¬ (k <= k + c /\ k + c < k + c)), if_pos rfl, if_neg (by omega : ¬ (k <= k + c + 1 /\ k + c + 1 < k + c)), if_neg (by omega : ¬ k + c + 1 = k + c)]
   by_cases h1 : t = k + c + 1
   ·rw [if_pos h1, if_neg (by omega), if_pos (by omega)]
   ·rw [if_neg h1]
    by_cases h2 : t = k + c
    ·rw [if_pos h2, if_pos (by omega)]; congr 1; omega
    ·rw [if_neg h2]
     by_cases h3 : k <= t /\ t < k + c
     ·rw [if_pos h3, if_pos (by omega)]
     ·rw [if_neg h3, if_neg (by omega : ¬ t = k + c), if_neg (by omega), if_neg (by omega)]
theorem bubUp_perm (d : Array α) (k c lo hi : Nat) (h1 : lo <= k) (h2 : k + c < hi) (h3 : hi <= d.size) : PermIn lo hi d (bubUp d k c) := by
 induction c with
 | zero => exact permIn_refl _ _ _
 | succ c ih => exact permIn_trans _ _ _ _ _ (ih (by omega)) (swp_permIn _ _ _ _ _ (by omega) (by omega) (by omega) (by omega) (by rw [size_bubUp]; exact h3))
def bubDn (d : Array α) (k : Nat) : Nat -> Array α
 | 0 => d
 | c + 1 => swp (bubDn d k c) (k - c) (k - c - 1)
theorem size_bubDn (d : Array α) (k c : Nat) : (bubDn d k c).size = d.size := by
 induction c with
 | zero => rfl
 | succ c ih => rw [bubDn, size_swp, ih]
theorem bubDn_get (d : Array α) (k c : Nat) (hc : c <= k) (h : k < d.size) (t : Nat) : (bubDn d k c)[t]! = if t = k - c then d[k]! else if k - c < t /\ t <= k then d[t - 1]! else d[t]! := by
 induction c generalizing t with
 | zero =>
   by_cases e : t = k - 0
   ·rw [if_pos e]; simp [bubDn, e]
   ·rw [if_neg e, if_neg (by omega)]; rfl
 | succ c ih =>
   have ih' := fun t => ih (by omega) t
   rw [bubDn, swp_get _ (by rw [size_bubDn]; omega) (by rw [size_bubDn]; omega), ih', ih', ih']
   rw [if_pos rfl, if_neg (by omega : ¬ k - c - 1 = k - c), if_neg (by omega : ¬ (k - c < k - c - 1 /\ k - c - 1 <= k))]
   by_cases h1 : t = k - c - 1
   ·rw [if_pos h1, if_pos (by omega)]
   ·rw [if_neg h1]
    by_cases h2 : t = k - c
    ·rw [if_pos h2, if_neg (by omega), if_pos (by omega)]; congr 1; omega
    ·rw [if_neg h2, if_neg h2]
     by_cases h3 : k - c < t /\ t <= k
     ·rw [if_pos h3, if_neg (by omega), if_pos (by omega)]
     ·rw [if_neg h3, if_neg (by omega), if_neg (by omega)]
theorem bubDn_perm (d : Array α) (k c lo hi : Nat) (hc : c <= k) (h1 : lo <= k - c) (h2 : k < hi) (h3 : hi <= d.size) : PermIn lo hi d (bubDn d k c) := by
 induction c with
 | zero => exact permIn_refl _ _ _
 | succ c ih => exact permIn_trans _ _ _ _ _ (ih (by omega) (by omega)) (swp_permIn _ _ _ _ _ (by omega) (by omega) (by omega) (by omega) (by rw [size_bubDn]; exact h3))
end
end Go.Proofs.YtffhccmppdgmfaaGreatDoor
