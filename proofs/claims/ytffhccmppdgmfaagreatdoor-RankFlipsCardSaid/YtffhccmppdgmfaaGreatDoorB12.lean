import Derived.Test.YtffhccmppdgmfaaGreatDoorB00
import Derived.Test.YtffhccmppdgmfaaGreatDoorB11
import Derived.Shelf.SlSortCmp.KitK
import Derived.Sort.OwnSorted
import Derived.Lib.Strings
import Derived.Lib.Bytealg
import Derived.Test.YtffhccmppdgmfaaGreatDoorB02
import Derived.Test.YtffhccmppdgmfaaGreatDoorB09
import Derived.Test.YtffhccmppdgmfaaGreatDoorB08
import Derived.Test.YtffhccmppdgmfaaGreatDoorB10
import Derived.Laws.IdiomStrings
import Derived.Test.YtffhccmppdgmfaaGreatDoorProg
import Derived.WalkSpells
import Derived.Laws.AppendOwnNone
import Derived.Lib.Hide
set_option linter.unusedSimpArgs false
set_option linter.unusedVariables false
set_option maxRecDepth 200000
set_option maxHeartbeats 8000000
namespace Go.Proofs.YtffhccmppdgmfaaGreatDoor
section
open Go Go.Sort Go.RowKit Go.Proofs
variable {β : Type} [Inhabited β] {enc : β -> List Value} {sz : Nat}
def encT (enc : β -> List Value) (p : β × Nat) : List Value := enc p.1
theorem flatK_cells (C : Codec enc sz) (d : Array (β × Nat)) : flatK (encT enc) sz d = (cellsOf enc (d.toList.map (·.1))).toArray := by
 apply Array.ext
 ·simp [cellsOf_len C]
 ·intro t h1 h2
  simp only [size_flatK] at h1
  have hd : t / sz < d.size := (Nat.div_lt_iff_lt_mul C.pos).2 h1
  have hm : t % sz < sz := Nat.mod_lt _ C.pos
  have e1 := get_flatK (encT enc) sz d t h1
  rw [getElem!_pos _ t (by simpa using h1)] at e1
  rw [e1, getElem!_pos d _ hd]
  have hx : (d.toList.map (·.1))[t / sz]? = some d[t / sz].1 := by simp [hd]
  have := cellsOf_get C (d.toList.map (·.1)) _ _ hx (t % sz) hm
  rw [show t / sz * sz + t % sz = t by rw [Nat.mul_comm]; exact Nat.div_add_mod t sz] at this
  unfold encT
  rw [getElem!_pos _ _ (by rw [C.len]; exact hm)]
  simp only [List.getElem_toArray]
  rw [List.getElem?_eq_getElem (by simpa [cellsOf_len C] using h1), List.getElem?_eq_getElem (by rw [C.len]; exact hm)] at this
  exact (Option.some.inj this).symm
theorem holds_of_own (C : Codec enc sz) {w : World} {g : Nat} {cur : Array Value} {e : TypeId} {xs : List β} (hb : w.heap[g]? = some (.cells cur e (0, 0))) (ht : cur.toList.take (xs.length * sz) = cellsOf enc xs) : HoldsK (encT enc) sz w g 0 xs.zipIdx.toArray := by
 unfold HoldsK
 rw [flatK_cells C]
 have hz : xs.zipIdx.toArray.toList.map (·.1) = xs := by simp [List.zipIdx_map_fst]
 rw [hz]
 intro j hj
 have hj' : j < xs.length * sz := by simpa [cellsOf_len C] using hj
 refine ⟨?_, by simp [World.frozen?, hb]⟩
 have h1 : (cur.toList.take (xs.length * sz))[j]? = (cellsOf enc xs)[j]? := by rw [ht]
 rw [List.getElem?_take_of_lt hj'] at h1
 simp only [World.cell?, hb, Nat.zero_add]
 simp only [Option.isSome_none, Bool.false_eq_true, if_false]
 rw [<- Array.getElem?_toList, h1, getElem!_pos _ j hj]
 simp at hj
 simp [hj]
theorem heap_put {w : World} {g n : Nat} {os : Array Obj} {cur : Array Value} {e : TypeId} {fr : Nat × Nat} (F : Array Value) (hb : w.heap[g]? = some (.cells cur e fr)) :
 (grow (putRow id (Sort.ahead w n) g 0 F) os).heap[g]? = some (.cells (putCells id 0 F cur) e fr) := by
 have hg : g < w.heap.size := (Array.getElem?_eq_some_iff.1 hb).1
 rw [heap_grow_old _ _ (by simpa using hg)]
 simp [putRow, mapBlock, Sort.ahead, Array.getElem?_modify, hb, onCells]
theorem grownBy_put {w : World} {g n : Nat} {os : Array Obj} (F : Array Value) : w.grownBy (grow (putRow id (Sort.ahead w n) g 0 F) os) (some g) := by
 refine ⟨rfl, rfl, rfl, by simp, fun k hk hne => ?_⟩
 rw [heap_grow_old _ _ (by simpa using hk)]
 have : g ≠ k := fun e => hne (by rw [e])
 simp [putRow, mapBlock, Sort.ahead, Array.getElem?_modify, this]
theorem take_put (cur : Array Value) (l : List Value) (h : l.length <= cur.size) : (putCells id 0 l.toArray cur).toList.take l.length = l := by
 apply List.ext_getElem?
 intro j
 by_cases hj : j < l.length
 ·rw [List.getElem?_take_of_lt hj, Array.getElem?_toList]
  simp [putCells, hj, show j < cur.size by omega]
 ·rw [List.getElem?_take_eq_none (by omega), List.getElem?_eq_none (by omega)]
theorem own_of_swk (C : Codec enc sz) {w w' : World} {base g cap : Nat} {e : TypeId} {cur : Array Value} {xs : List β} {d' : Array (β × Nat)} (hs : d'.size = xs.length) (hbase : base <= g) (hb : w.heap[g]? = some (.cells cur e (0, 0))) (h1 : xs.length <= cap) (h2 : cap <= maxLen)
 (h3 : cur.size = cap * sz) (S : SWK (encT enc) sz w g 0 d' w') : Own w' base e enc sz (.slice (some ⟨g, 0, none⟩) xs.length cap) (d'.toList.map (·.1)) /\ w.grownBy w' (some g) := by
 obtain ⟨n, os, rfl⟩ := S
 have hlen : (d'.toList.map (·.1)).length = xs.length := by simp [hs]
 unfold sortWorldK putRowK
 rw [flatK_cells C]
 refine ⟨⟨by rw [cellsOf_len C], .inr ⟨g, cap, _, by rw [hlen], hbase, heap_put _ hb, by rw [hlen]; exact h1, h2, by simp [putCells, h3], ?_⟩⟩, grownBy_put _⟩
 have hl := cellsOf_len C (d'.toList.map (·.1))
 rw [<- hl]
 exact take_put cur _ (by rw [hl, hlen, h3]; exact Nat.mul_le_mul_right _ h1)
end
section
open Go.Shelf Go.RowKit Go.Lib Go.Sort
namespace SM
variable {β : Type} [Inhabited β]
def SortPost (w : World) (base : Nat) (enc : β -> List Value) (cf : β -> β -> Int) (v : Value) (xs : List β) (e : Ending) (w' : World) : Prop :=
 e = .returned (.tuple #[]) /\ ∃ ys, IsStable cf xs ys /\ Own w' base 32 enc 6 v ys /\ w.grownBy w' v.ownBlock
end SM
theorem cmpB_self : ∀ a : List UInt8, compareBytes a a = 0
 | [] => rfl
 | x :: a => by
   have h : ¬ x < x := UInt8.lt_irrefl x
   unfold compareBytes
   rw [if_neg h, if_neg h, cmpB_self a]
theorem cmpB_neg : ∀ a b : List UInt8, compareBytes b a = - compareBytes a b
 | [], [] => rfl
 | [], _ :: _ => rfl
 | _ :: _, [] => rfl
 | x :: a, y :: b => by
   have ih := cmpB_neg a b
   unfold compareBytes
   by_cases h1 : x < y
   ·have h2 : ¬ y < x := fun h => UInt8.lt_irrefl x (UInt8.lt_trans h1 h)
    simp [h1, h2]
   ·by_cases h2 : y < x
    ·simp [h1, h2]
    ·simp [h1, h2, ih]
theorem cmpB_eq : ∀ a b : List UInt8, compareBytes a b = 0 -> a = b
 | [], [], _ => rfl
 | [], _ :: _, h => by simp [compareBytes] at h
 | _ :: _, [], h => by simp [compareBytes] at h
 | x :: a, y :: b, h => by
   unfold compareBytes at h
   by_cases h1 : x < y
   ·simp [h1] at h
   ·by_cases h2 : y < x
    ·simp [h1, h2] at h
    ·simp only [if_neg h1, if_neg h2] at h
     rw [cmpB_eq a b h, UInt8.le_antisymm (UInt8.not_lt.1 h2) (UInt8.not_lt.1 h1)]
theorem cmpB_ntrans : ∀ a b c : List UInt8, ¬ compareBytes a b < 0 -> ¬ compareBytes b c < 0 -> ¬ compareBytes a c < 0
 | [], [], c, _, h2 => h2
 | [], _ :: _, _, h1, _ => by simp [compareBytes] at h1
 | _ :: _, _, [], _, _ => by simp [compareBytes]
 | x :: a, [], z :: c, _, h2 => by simp [compareBytes] at h2
 | x :: a, y :: b, z :: c, h1, h2 => by
   have ih := cmpB_ntrans a b c
   unfold compareBytes at h1 h2 ⊢
   by_cases hxy : x < y
   ·simp [hxy] at h1
   ·by_cases hyz : y < z
    ·simp [hyz] at h2
    ·have hxz : ¬ x < z := fun h => by
      have h3 := UInt8.le_trans (UInt8.not_lt.1 hyz) (UInt8.not_lt.1 hxy)
      exact absurd h (UInt8.not_lt.2 h3)
     simp only [if_neg hxy, if_neg hyz, if_neg hxz] at h1 h2 ⊢
     by_cases hzx : z < x
     ·simp [hzx]
     ·have hyx : ¬ y < x := fun h => hzx (UInt8.lt_of_le_of_lt (UInt8.not_lt.1 hyz) h)
      have hzy : ¬ z < y := fun h => hzx (UInt8.lt_of_lt_of_le h (UInt8.not_lt.1 hxy))
      simp only [if_neg hyx, if_neg hzy, if_neg hzx] at h1 h2 ⊢
      exact ih h1 h2
def cmpN (a b : ByteArray) : Int := compareBytes a.data.toList b.data.toList
theorem cmpN_self (a : ByteArray) : cmpN a a = 0 := cmpB_self _
theorem cmpN_neg (a b : ByteArray) : cmpN b a = - cmpN a b := cmpB_neg _ _
theorem cmpN_eq {a b : ByteArray} (h : cmpN a b = 0) : a = b := by
 have := cmpB_eq _ _ h
 obtain ⟨⟨x⟩⟩ := a
 obtain ⟨⟨y⟩⟩ := b
 simp only at this
 rw [this]
def cfM (x y : RM) : Int := cmpN x.name y.name
theorem cmpM : Cmp cfM where
 irrefl x := by unfold cfM; rw [cmpN_self]; decide
 asymm x y h := by unfold cfM at *; rw [cmpN_neg]; omega
 ntrans x y z h1 h2 := cmpB_ntrans _ _ _ h1 h2
def cfJ {γ : Type} (x y : ByteArray × γ) : Int := cmpN x.1 y.1
theorem cmpJ {γ : Type} : Cmp (cfJ (γ := γ)) where
 irrefl x := by unfold cfJ; rw [cmpN_self]; decide
 asymm x y h := by unfold cfJ at *; rw [cmpN_neg]; omega
 ntrans x y z h1 h2 := cmpB_ntrans _ _ _ h1 h2
theorem compareString_any (a b : ByteArray) (w : World) :
 Calls Tryz.prog 159 #[.string a, .string b] w fun e w' => e = .returned (.int .i64 (cmpN a b)) /\ w' = w := by
 go_enter Tryz.func159, Tryz.ntmps159
 go_wp2
 rw [run_callFunc_extern Tryz.func175 (by kernel_rfl) (by kernel_rfl) (by kernel_rfl) (e := Extern.BytealgCompare.compare) (by kernel_rfl), Lib.run_compareString]
 simp only [Result.andThen]
 rw [Oper.upon_value]
 go_wp2
 go_ret
 exact ⟨rfl, rfl⟩
theorem compare_any (a b : ByteArray) (w : World) :
 Calls Tryz.prog 143 #[.string a, .string b] w fun e w' => e = .returned (.int .i64 (cmpN a b)) /\ w' = w := by
 go_enter Tryz.func143, Tryz.ntmps143
 go_wp2_with (go_at_call 159; refine (compareString_any _ _ _).mono ?_; rintro e w' ⟨rfl, rfl⟩)
 go_ret
 exact ⟨rfl, rfl⟩
end
section
open Go Go.RowKit Go.OpenShut
def textR (s : ByteArray) : RV := ⟨4, 0, s, none, 0, 0, none, 0, 0⟩
def textJ (s : ByteArray) : JV := .mk 4 0 s [] []
theorem textR_of (w : World) (S : Nat -> Prop) (s : ByteArray) : TreeS w S (textJ s) (textR s) := TreeS.leaf w S 4 0 s
abbrev RM.obj (r : RM) : Obj := .cells #[.string r.name, .int .i64 r.v.k, .int .i64 r.v.n, .string r.v.s, .slice r.v.pl r.v.nl r.v.cl, .slice r.v.pm r.v.nm r.v.cm] 32
def RV.oval (k n : Int) (s : ByteArray) (pl : Option Addr) (nl cl : Nat) (pm : Option Addr) (nm cm : Nat) : RV := ⟨k, n, s, pl, nl, cl, pm, nm, cm⟩
end
section
structure CmpOk {β : Type} (c : β -> β -> Int) : Prop where
 refl : ∀ x, c x x = 0
 anti : ∀ x y, c y x = - c x y
 trans : ∀ x y z, c x y <= 0 -> c y z <= 0 -> c x z <= 0
theorem CmpOk.on {β γ : Type} {c : β -> β -> Int} (h : CmpOk c) (f : γ -> β) : CmpOk (fun x y => c (f x) (f y)) := ⟨fun x => h.refl _, fun x y => h.anti _ _, fun x y z a b => h.trans _ _ _ a b⟩
theorem CmpOk.neg {β : Type} {c : β -> β -> Int} (h : CmpOk c) : CmpOk (fun x y => - c x y) :=
 ⟨fun x => by rw [h.refl]; rfl, fun x y => by rw [h.anti], fun x y z a b => by
  have h1 := h.anti x y
  have h2 := h.anti y z
  have h3 := h.anti x z
  have h4 := h.trans z y x (by omega) (by omega)
  omega⟩
theorem CmpOk.eqT {β : Type} {c : β -> β -> Int} (h : CmpOk c) {x y z : β} (h1 : c x y = 0) : c x z = c y z /\ True -> True := fun _ => trivial
theorem CmpOk.lex {β : Type} {c d : β -> β -> Int} (hc : CmpOk c) (hd : CmpOk d) : CmpOk (fun x y => if c x y ≠ 0 then c x y else d x y) := by
 refine ⟨fun x => by rw [if_neg (by rw [hc.refl]; simp), hd.refl], fun x y => ?_, fun x y z => ?_⟩
 ·have h1 := hc.anti x y
  by_cases h : c x y = 0
  ·rw [if_neg (by omega), if_neg (by omega)]; exact hd.anti x y
  ·rw [if_pos (by omega), if_pos (by omega)]; exact h1
 ·have axy := hc.anti x y
  have ayz := hc.anti y z
  have axz := hc.anti x z
  intro h1 h2
  have c1 : c x y <= 0 := by split at h1 <;> omega
  have c2 : c y z <= 0 := by split at h2 <;> omega
  have c3 := hc.trans x y z c1 c2
  by_cases h : c x z = 0
  ·have e1 : c x y = 0 := by
    have := hc.trans y z x c2 (by omega)
    omega
   have e2 : c y z = 0 := by
    have := hc.trans z x y (by omega) c1
    omega
   rw [if_neg (by omega)] at h1 h2
   rw [if_neg (by omega)]
   exact hd.trans x y z h1 h2
  ·rw [if_pos (by omega)]
   omega
theorem cmpBytes_ok : CmpOk Go.Lib.compareBytes := by
 refine ⟨cmpB_self, fun x y => cmpB_neg x y, ?_⟩
 intro x
 induction x with
 | nil =>
   intro y z h1 h2
   cases z with
   | nil => exact Int.le_refl _
   | cons c z => show (-1 : Int) <= 0; decide
 | cons a x ih =>
   intro y z h1 h2
   cases y with
   | nil => exact absurd h1 (by show ¬ (1 : Int) <= 0; decide)
   | cons b y =>
     cases z with
     | nil => exact absurd h2 (by show ¬ (1 : Int) <= 0; decide)
     | cons c z =>
       unfold Go.Lib.compareBytes at h1 h2 ⊢
       by_cases ab : a < b
       ·by_cases bc : b < c
        ·rw [if_pos (UInt8.lt_trans ab bc)]; decide
        ·rw [if_neg bc] at h2
         by_cases cb : c < b
         ·rw [if_pos cb] at h2; exact absurd h2 (by decide)
         ·have : b = c := UInt8.le_antisymm (UInt8.not_lt.1 cb) (UInt8.not_lt.1 bc)
          subst this
          rw [if_pos ab]; decide
       ·rw [if_neg ab] at h1
        by_cases ba : b < a
        ·rw [if_pos ba] at h1; exact absurd h1 (by decide)
        ·have : a = b := UInt8.le_antisymm (UInt8.not_lt.1 ba) (UInt8.not_lt.1 ab)
         subst this
         rw [if_neg ba] at h1
         by_cases bc : a < c
         ·rw [if_pos bc]; decide
         ·rw [if_neg bc] at h2 ⊢
          by_cases cb : c < a
          ·rw [if_pos cb] at h2; exact absurd h2 (by decide)
          ·rw [if_neg cb] at h2 ⊢
           exact ih y z h1 h2
theorem cmpS_ok : CmpOk cmpS := by
 refine ⟨fun x => ?_, fun x y => ?_, fun x y z => ?_⟩
 ·unfold cmpS
  cases secF x with
  | none => exact cmpB_self _
  | some a => dsimp only; rw [if_neg (by omega), if_neg (by omega)]; exact cmpB_self _
 ·unfold cmpS
  cases secF x with
  | none => cases secF y with
    | none => exact cmpB_neg _ _
    | some b => rfl
  | some a => cases secF y with
    | none => rfl
    | some b =>
      dsimp only
      by_cases h1 : a < b
      ·rw [if_neg (by omega), if_pos h1, if_pos h1]; decide
      ·by_cases h2 : b < a
       ·rw [if_pos h2, if_neg h1, if_pos h2]
       ·rw [if_neg h2, if_neg h1, if_neg h1, if_neg h2]; exact cmpB_neg _ _
 ·unfold cmpS
  cases hx : secF x with
  | none => cases hy : secF y with
    | none => cases hz : secF z with
      | none => exact cmpBytes_ok.trans _ _ _
      | some c => intro _ _; show (-1 : Int) <= 0; decide
    | some b => cases hz : secF z with
      | none => intro _ h; exact absurd h (show ¬ (1 : Int) <= 0 by decide)
      | some c => intro _ _; show (-1 : Int) <= 0; decide
  | some a => cases hy : secF y with
    | none => intro h; exact absurd h (show ¬ (1 : Int) <= 0 by decide)
    | some b => cases hz : secF z with
      | none => intro _ h; exact absurd h (show ¬ (1 : Int) <= 0 by decide)
      | some c =>
        dsimp only
        intro h1 h2
        by_cases ab : a < b
        ·by_cases cb : c < b
         ·rw [if_neg (by omega), if_pos cb] at h2; exact absurd h2 (by decide)
         ·rw [if_pos (by omega)]; decide
        ·rw [if_neg ab] at h1
         by_cases ba : b < a
         ·rw [if_pos ba] at h1; exact absurd h1 (by decide)
         ·rw [if_neg ba] at h1
          have : a = b := by omega
          subst this
          by_cases ac : a < c
          ·rw [if_pos ac]; decide
          ·rw [if_neg ac] at h2 ⊢
           by_cases ca : c < a
           ·rw [if_pos ca] at h2; exact absurd h2 (by decide)
           ·rw [if_neg ca] at h2 ⊢
            exact cmpBytes_ok.trans _ _ _ h1 h2
structure CmpD where
 prop : ByteArray
 down : Bool
def createdN : ByteArray := ⟨#[99, 114, 101, 97, 116, 101, 100]⟩
def updatedN : ByteArray := ⟨#[117, 112, 100, 97, 116, 101, 100]⟩
def givenN : ByteArray := ⟨#[110, 97, 109, 101, 47, 103, 105, 118, 101, 110]⟩
def surN : ByteArray := ⟨#[110, 97, 109, 101, 47, 115, 117, 114, 110, 97, 109, 101]⟩
def sur2N : ByteArray := ⟨#[110, 97, 109, 101, 47, 115, 117, 114, 110, 97, 109, 101, 50]⟩
def datedB (p : ByteArray) : Bool := decide (p = createdN) || decide (p = updatedN)
def nameN : ByteArray := ⟨#[110, 97, 109, 101]⟩
def compN : ByteArray := ⟨#[99, 111, 109, 112, 111, 110, 101, 110, 116, 115]⟩
def kindN : ByteArray := ⟨#[107, 105, 110, 100]⟩
def valueN : ByteArray := ⟨#[118, 97, 108, 117, 101]⟩
def textM (v : JV) (name : ByteArray) : List ByteArray := match v.get name with | some x => if x.k = 4 then [x.s] else [] | none => []
def partsJ (v : JV) (kind : ByteArray) : List ByteArray := match v.get compN with | some x => if x.k = 5 then (x.l.filter (fun c => decide (kind.size = 0) || decide (textM c kindN = [kind]))).flatMap (fun c => textM c valueN) else [] | none => []
def zeroJ : JV := .mk 0 0 ⟨#[]⟩ [] []
def nameK (v : JV) (p : ByteArray) : ByteArray := (partsJ ((v.get nameN).getD zeroJ) (p.extract 5 p.size)).headD ⟨#[]⟩
def stampK (v : JV) (p : ByteArray) : ByteArray := (textM v p).headD ⟨#[]⟩
def foldC (c : UInt8) : UInt8 := if 65 <= c /\ c <= 90 then c + 32 else c
def foldL (l : List UInt8) : List UInt8 := l.map foldC
def cmpK (c : CmpD) (a b : JV) : Int :=
 let n := if datedB c.prop then cmpS (stampK a c.prop).data.toList (stampK b c.prop).data.toList else Go.Lib.compareBytes (foldL (nameK a c.prop).data.toList) (foldL (nameK b c.prop).data.toList)
 if c.down then -n else n
theorem cmpK_ok (c : CmpD) : CmpOk (cmpK c) := by
 have h : CmpOk (fun a b => if datedB c.prop then cmpS (stampK a c.prop).data.toList (stampK b c.prop).data.toList else Go.Lib.compareBytes (foldL (nameK a c.prop).data.toList) (foldL (nameK b c.prop).data.toList)) := by
  cases datedB c.prop
  ·exact cmpBytes_ok.on (fun a => foldL (nameK a c.prop).data.toList)
  ·exact cmpS_ok.on (fun a => (stampK a c.prop).data.toList)
 unfold cmpK
 cases c.down
 ·exact h
 ·exact h.neg
def cmpO : List CmpD -> ByteArray × JV -> ByteArray × JV -> Int
 | [], a, b => Go.Lib.compareBytes a.1.data.toList b.1.data.toList
 | c :: cs, a, b => if cmpK c a.2 b.2 ≠ 0 then cmpK c a.2 b.2 else cmpO cs a b
theorem cmpO_ok : ∀ cs : List CmpD, CmpOk (cmpO cs)
 | [] => cmpBytes_ok.on (fun a : ByteArray × JV => a.1.data.toList)
 | c :: cs => ((cmpK_ok c).on (fun a : ByteArray × JV => a.2)).lex (cmpO_ok cs)
def aheadJ (cs : List CmpD) (a b : ByteArray × JV) : Bool := decide (cmpO cs a b < 0)
theorem CmpOk.lt {β : Type} {c : β -> β -> Int} (h : CmpOk c) : LtOk (fun a b => decide (c a b < 0)) :=
 ⟨fun a b h1 => by
  have h2 := of_decide_eq_true h1
  have h3 := h.anti a b
  exact decide_eq_false (by omega), fun a b x h1 h2 => by
  have h3 := of_decide_eq_false h1
  have h4 := of_decide_eq_false h2
  have h5 := h.anti b a
  have h6 := h.anti x b
  have h7 := h.trans a b x (by omega) (by omega)
  have h8 := h.anti a x
  exact decide_eq_false (by omega)⟩
theorem aheadJ_ok (cs : List CmpD) : LtOk (aheadJ cs) := (cmpO_ok cs).lt
theorem cmpO_id : ∀ (cs : List CmpD) {a b : ByteArray × JV}, cmpO cs a b = 0 -> a.1 = b.1
 | [], a, b, h => cmpN_eq h
 | c :: cs, a, b, h => by
   unfold cmpO at h
   split at h
   ·contradiction
   ·exact cmpO_id cs h
end
section
open Go Go.RowKit Go.OpenShut
theorem small_any (c : UInt8) (w : World) : Calls Tryz.prog 133 #[.int .u8 c.toNat] w fun e w' => e = .returned (.int .u8 (foldC c).toNat) /\ w = w' := by
 have hc := c.toNat_lt
 have hF : (foldC c).toNat = if 65 <= c.toNat /\ c.toNat <= 90 then c.toNat + 32 else c.toNat := by
  unfold foldC
  have h1 : (65 <= c /\ c <= 90) ↔ (65 <= c.toNat /\ c.toNat <= 90) := by rw [UInt8.le_iff_toNat_le, UInt8.le_iff_toNat_le]; rfl
  by_cases h : 65 <= c.toNat /\ c.toNat <= 90
  ·rw [if_pos (h1.2 h), if_pos h, UInt8.toNat_add]
   show (c.toNat + 32) % 256 = _
   omega
  ·rw [if_neg (fun e => h (h1.1 e)), if_neg h]
 obtain ⟨n, hn⟩ : ∃ n, c.toNat = n := ⟨_, rfl⟩
 obtain ⟨R, hR⟩ : ∃ n, (foldC c).toNat = n := ⟨_, rfl⟩
 rw [hn] at hF hc
 rw [hn, hR]
 rw [hR] at hF
 have HF := Lib.hid hF
 clear hF hR hn
 have hc' : (n : Int) < 256 := by omega
 have n0 : (0 : Int) <= (n : Int) := Int.natCast_nonneg _
 by_cases h1 : 65 <= n
 ·have q1 : decide ((65 : Int) <= (n : Int)) = true := decide_eq_true (by omega)
  by_cases h2 : n <= 90
  ·have q2 : decide ((n : Int) <= 90) = true := decide_eq_true (by omega)
   have HR : Hid (R = n + 32) := by unfold Hid; rw [HF.out, if_pos ⟨h1, h2⟩]
   have h2' : (n : Int) <= 90 := by omega
   go_enter Tryz.func133, Tryz.ntmps133
   go_wp2_with fail
   rw [HR.out]
   go_ret
   exact ⟨by simp, rfl⟩
  ·have q2 : decide ((n : Int) <= 90) = false := decide_eq_false (by omega)
   have HR : Hid (R = n) := by unfold Hid; rw [HF.out, if_neg (fun e => h2 e.2)]
   go_enter Tryz.func133, Tryz.ntmps133
   go_wp2_with fail
   rw [HR.out]
   go_ret
   exact ⟨rfl, rfl⟩
 ·have q1 : decide ((65 : Int) <= (n : Int)) = false := decide_eq_false (by omega)
  have HR : Hid (R = n) := by unfold Hid; rw [HF.out, if_neg (fun e => h1 e.1)]
  go_enter Tryz.func133, Tryz.ntmps133
  go_wp2_with fail
  rw [HR.out]
  go_ret
  exact ⟨rfl, rfl⟩
def encBt (l : List UInt8) : List Value := l.map (fun b => Value.int .u8 b.toNat)
def BtAt (W : World) (g : Nat) (l : List UInt8) : Prop := ∃ cs : Array Value, W.heap[g]? = some (.cells cs 5 (cs.size, cs.size + 1)) /\ cs.toList.take l.length = encBt l /\ l.length <= cs.size
theorem BtAt.lt {W : World} {g : Nat} {l : List UInt8} (h : BtAt W g l) : g < W.heap.size := by
 obtain ⟨cs, h1, _⟩ := h
 exact (Array.getElem?_eq_some_iff.1 h1).1
theorem BtAt.cell {W : World} {g : Nat} {l : List UInt8} (h : BtAt W g l) {j : Nat} (hj : j < l.length) : W.cell? ⟨g, j, none⟩ = some (.int .u8 (l[j].toNat : Int)) := by
 obtain ⟨cs, h1, h2, h3⟩ := h
 rw [cell_of_row W g j _ _ _ h1]
 have h4 := congrArg (fun x => x[j]?) h2
 simp only [List.getElem?_take, if_pos hj] at h4
 rw [<- Array.getElem?_toList, h4]
 unfold encBt
 rw [List.getElem?_map, List.getElem?_eq_getElem hj]
 rfl
theorem BtAt.frozen {W : World} {g : Nat} {l : List UInt8} (h : BtAt W g l) {j : Nat} (hj : j < l.length) : W.frozen? ⟨g, j, none⟩ = false := by
 obtain ⟨cs, h1, h2, h3⟩ := h
 simp [World.frozen?, h1]
 omega
theorem BtAt.set {W : World} {g : Nat} {l : List UInt8} (h : BtAt W g l) {j : Nat} (hj : j < l.length) (c : UInt8) : BtAt (W.setCell ⟨g, j, none⟩ (.int .u8 c.toNat)) g (l.set j c) := by
 obtain ⟨cs, h1, h2, h3⟩ := h
 refine ⟨cs.setIfInBounds j (.int .u8 c.toNat), ?_, ?_, by simpa using h3⟩
 ·simp [World.setCell, Array.getElem?_modify, h1]
  try omega
 ·rw [List.length_set, Array.toList_setIfInBounds, List.take_set, h2]
  unfold encBt
  rw [List.map_set]
theorem BtAt.fresh (w : World) (s : ByteArray) (n : Nat) : BtAt (w.alloc (.cells (bytesRow s n) 5 ((bytesRow s n).size, (bytesRow s n).size + 1))) w.heap.size s.data.toList := by
 refine ⟨bytesRow s n, heap_alloc_at rfl, ?_, ?_⟩
 ·unfold bytesRow encBt
  rw [Array.toList_append, Array.toList_map, List.take_left' (by simp)]
 ·unfold bytesRow
  simp
theorem BtAt.back {W : World} {g : Nat} {l : List UInt8} (h : BtAt W g l) {n : Nat} (hn : n = l.length) (c : Nat) : (convert 160 9 (.slice (some ⟨g, 0, none⟩) n c)).run Tryz.prog W = .ok (.string (toB l)) W := by
 subst hn
 refine run_convert_bytes_back W _ _ _ _ c l Tryz.underlying160 Tryz.underlying5 Tryz.underlying9 (fun j hj => ?_)
 have e : (⟨g, 0, none⟩ : Addr).add j = ⟨g, j, none⟩ := by simp [Addr.add]; try (intro h; exact h.symm)
 rw [e]
 exact h.cell hj
def foldN (l : List UInt8) (k : Nat) : List UInt8 := foldL (l.take k) ++ l.drop k
theorem foldN_len (l : List UInt8) (k : Nat) : (foldN l k).length = l.length := by unfold foldN foldL; rw [List.length_append, List.length_map, List.length_take, List.length_drop]; omega
theorem foldN_get {l : List UInt8} {k : Nat} (h : k < l.length) : (foldN l k)[k]? = some l[k] := by
 unfold foldN foldL
 rw [List.getElem?_append_right (by rw [List.length_map, List.length_take]; omega), List.length_map, List.length_take, show k - min k l.length = 0 by omega, List.getElem?_drop]
 simp [List.getElem?_eq_getElem h]
theorem foldN_succ {l : List UInt8} {k : Nat} (h : k < l.length) : foldN l (k + 1) = (foldN l k).set k (foldC l[k]) := by
 unfold foldN foldL
 have hlen : (List.map foldC (l.take k)).length = k := by rw [List.length_map, List.length_take]; omega
 rw [List.set_append_right _ _ (by omega), hlen, Nat.sub_self, List.take_succ_eq_append_getElem h, List.map_append, List.append_assoc, List.drop_eq_getElem_cons h]
 rfl
theorem foldN_all (l : List UInt8) : foldN l l.length = foldL l := by unfold foldN; rw [List.take_length, List.drop_length, List.append_nil]
theorem fold_any (s : ByteArray) (w : World) (hs : s.size <= maxLen) : Calls Tryz.prog 100 #[.string s] w fun e w' => e = .returned (.string (toB (foldL s.data.toList))) /\ Below w.heap.size w w' := by
 have hsz : s.data.toList.length = s.size := by rw [Array.length_toList]; rfl
 unfold maxLen at hs
 have hconv := run_bytes_of_string (P := Tryz.prog) w 9 160 5 s Tryz.underlying9 Tryz.underlying160 Tryz.underlying5
 have hF := BtAt.fresh w s (grownCap w s.size 0 5)
 have hB : Below w.heap.size w (w.alloc (.cells (bytesRow s (grownCap w s.size 0 5)) 5 ((bytesRow s (grownCap w s.size 0 5)).size, (bytesRow s (grownCap w s.size 0 5)).size + 1))) := (Below.refl _ _).alloc (Nat.le_refl _) _
 obtain ⟨K, hK⟩ : ∃ K, grownCap w s.size 0 5 = K := ⟨_, rfl⟩
 rw [hK] at hconv hF hB
 obtain ⟨C, hC⟩ : ∃ C, bytesRow s K = C := ⟨_, rfl⟩
 rw [hC] at hconv hF hB
 have HF := Lib.hid hF
 have HB := Lib.hid hB
 have HSZ := Lib.hid hsz
 have s0 : (0 : Int) <= (s.size : Int) := Int.natCast_nonneg _
 clear hF hB hK hC hsz
 go_enter Tryz.func100, Tryz.ntmps100
 go_upto_region 2 with fail
 obtain ⟨W1, hW1⟩ : ∃ W1, (w.alloc (.cells C 5 (C.size, C.size + 1))) = W1 := ⟨_, rfl⟩
 rw [hW1] at HF HB
 try rw [hW1]
 clear hconv
 go_wp2_with fail
 have HF1 : Hid (BtAt W1.drew w.heap.size s.data.toList) := HF.out
 have HB1 : Hid (Below w.heap.size w W1.drew) := HB.out.drew
 clear HF HB
 have hw1 : w.heap.size < W1.drew.heap.size := HF1.out.lt
 obtain ⟨W2, hW2⟩ : ∃ W2, W1.drew = W2 := ⟨_, rfl⟩
 rw [hW2] at HF1 HB1 hw1
 rw [hW2]
 clear hW2 hW1 W1 hw1
 go_loopw [10] (fun i wr => ∃ k : Nat, k <= s.size /\ i = .int .i64 (k : Int) /\ Hid (BtAt wr w.heap.size (foldN s.data.toList k)) /\ Hid (Below w.heap.size w wr)) (fun i _ => s.size - (intOf i).toNat)
 case atStart =>
  refine ⟨0, by omega, rfl, ?_, HB1.out⟩
  have e : foldN s.data.toList 0 = s.data.toList := by unfold foldN foldL; simp
  rw [e]
  exact HF1.out
 case round =>
  obtain ⟨k, hk, rfl, hbt, hbl⟩ := hrel
  have hk0 : (0 : Int) <= (k : Int) := Int.natCast_nonneg _
  by_cases hlt : k < s.size
  ·have hks : (k : Int) < (s.size : Int) := by omega
   have q1 : decide ((k : Int) < (s.size : Int)) = true := decide_eq_true hks
   have hlt' : k < s.data.toList.length := by rw [HSZ.out]; exact hlt
   have hj : k < (foldN s.data.toList k).length := by rw [foldN_len]; exact hlt'
   have hcl := hbt.out.cell hj
   have hgx : (foldN s.data.toList k)[k] = s.data.toList[k] := by
    have h1 := foldN_get hlt'
    rw [List.getElem?_eq_getElem hj] at h1
    exact Option.some.inj h1
   have hst := hbt.out.set hj (foldC s.data.toList[k])
   rw [<- foldN_succ hlt'] at hst
   rw [hgx] at hcl
   have hfz := hbt.out.frozen hj
   have hwl := hbt.out.lt
   obtain ⟨c, hc⟩ : ∃ c, s.data.toList[k] = c := ⟨_, rfl⟩
   rw [hc] at hcl hst
   have HST := Lib.hid hst
   have HSM : Hid (∀ W, Calls Tryz.prog 133 #[.int .u8 c.toNat] W fun e w' => e = .returned (.int .u8 (foldC c).toNat) /\ W = w') := fun W => small_any c W
   have hsb := (foldC c).toNat_lt
   obtain ⟨d, hd⟩ : ∃ d, (foldC c).toNat = d := ⟨_, rfl⟩
   rw [hd] at HST HSM hsb
   have hd256 : (d : Int) < 256 := by omega
   have hd0 : (0 : Int) <= (d : Int) := Int.natCast_nonneg _
   clear hst hc hgx hj hlt' hd hsb
   go_wp2_with (first | (go_at_call 133; refine (HSM.out _).mono ?_; rintro e w1 ⟨rfl, rfl⟩) | fail)
   go_roundw
   case rel =>
    refine ⟨k + 1, by omega, by go_num, HST.out, hbl.out.setCell (p := ⟨w.heap.size, k, none⟩) (Nat.le_refl _) _⟩
   case measure => simp [intOf]; omega
  ·obtain rfl : k = s.size := by omega
   have q1 : decide ((s.size : Int) < (s.size : Int)) = false := decide_eq_false (by omega)
   have e : foldN s.data.toList s.size = foldL s.data.toList := by rw [<- HSZ.out]; exact foldN_all _
   rw [e] at hbt
   have hback := hbt.out.back (n := s.size) (by unfold foldL; rw [List.length_map, HSZ.out]) K
   go_wp2_with fail
   go_ret
   exact ⟨rfl, hbl.out⟩
theorem fcomp_any (s t : ByteArray) (w : World) (hs : s.size <= maxLen) (ht : t.size <= maxLen) : Calls Tryz.prog 109 #[.string s, .string t] w fun e w' => e = .returned (.int .i64 (Go.Lib.compareBytes (foldL s.data.toList) (foldL t.data.toList))) /\ Below w.heap.size w w' := by
 have HA : Hid (∀ W, Calls Tryz.prog 100 #[.string s] W fun e w' => e = .returned (.string (toB (foldL s.data.toList))) /\ Below W.heap.size W w') := fun W => fold_any s W hs
 have HB : Hid (∀ W, Calls Tryz.prog 100 #[.string t] W fun e w' => e = .returned (.string (toB (foldL t.data.toList))) /\ Below W.heap.size W w') := fun W => fold_any t W ht
 have HC : Hid (∀ W, Calls Tryz.prog 143 #[.string (toB (foldL s.data.toList)), .string (toB (foldL t.data.toList))] W fun e w' => e = .returned (.int .i64 (Go.Lib.compareBytes (foldL s.data.toList) (foldL t.data.toList))) /\ W = w') := fun W => comp_any _ _ W
 obtain ⟨X, hX⟩ : ∃ X, toB (foldL s.data.toList) = X := ⟨_, rfl⟩
 obtain ⟨Y, hY⟩ : ∃ X, toB (foldL t.data.toList) = X := ⟨_, rfl⟩
 obtain ⟨R, hR⟩ : ∃ X, Go.Lib.compareBytes (foldL s.data.toList) (foldL t.data.toList) = X := ⟨_, rfl⟩
 rw [hX] at HA HC
 rw [hY] at HB HC
 rw [hR] at HC
 rw [hR]
 clear hX hY hR hs ht
 go_enter Tryz.func109, Tryz.ntmps109
 go_wp2_with (first | (go_at_call 100; with_reducible refine (HA.out _).mono ?_; rintro e w1 ⟨rfl, hb1⟩) | (go_at_call 100; with_reducible refine (HB.out _).mono ?_; rintro e w2 ⟨rfl, hb2⟩) | (go_at_call 143; refine (HC.out _).mono ?_; rintro e w3 ⟨rfl, rfl⟩) | fail)
 go_ret
 exact ⟨rfl, hb1.trans (hb2.mono hb1.size)⟩
end
section
open Go.RowKit
def OwnRet {α : Type} (w : World) (t : TypeId) (enc : α -> List Value) (sz : Nat) (xs : List α) (e : Ending) (w' : World) : Prop :=
 ∃ u, e = .returned u /\ Own w' w.heap.size t enc sz u xs /\ Below w.heap.size w w'
end
end Go.Proofs.YtffhccmppdgmfaaGreatDoor
