import Derived.Test.YtffhccmppdgmfaaGreatDoorG09
import Derived.Test.YtffhccmppdgmfaaGreatDoorG04
import Derived.Test.YtffhccmppdgmfaaGreatDoorG10
import Derived.Test.YtffhccmppdgmfaaGreatDoorG03
import Derived.Test.YtffhccmppdgmfaaGreatDoorG06
import Derived.Test.YtffhccmppdgmfaaGreatDoorG02
import Derived.Test.YtffhccmppdgmfaaGreatDoorG00
import Derived.Test.YtffhccmppdgmfaaGreatDoorG08
set_option linter.unusedSimpArgs false
set_option linter.unusedVariables false
set_option maxRecDepth 200000
set_option maxHeartbeats 8000000
namespace Go.Proofs.YtffhccmppdgmfaaGreatDoor
section
open Go Go.RowKit
def svInBook : ByteArray := ⟨#[105, 110, 65, 100, 100, 114, 101, 115, 115, 66, 111, 111, 107]⟩
def svBookIds : ByteArray := ⟨#[97, 100, 100, 114, 101, 115, 115, 66, 111, 111, 107, 73, 100, 115]⟩
def svUid : ByteArray := ⟨#[117, 105, 100]⟩
def svHasMem : ByteArray := ⟨#[104, 97, 115, 77, 101, 109, 98, 101, 114]⟩
def svMembers : ByteArray := ⟨#[109, 101, 109, 98, 101, 114, 115]⟩
def svIndiv : ByteArray := ⟨#[105, 110, 100, 105, 118, 105, 100, 117, 97, 108]⟩
def svCrBef : ByteArray := ⟨#[99, 114, 101, 97, 116, 101, 100, 66, 101, 102, 111, 114, 101]⟩
def svCrAft : ByteArray := ⟨#[99, 114, 101, 97, 116, 101, 100, 65, 102, 116, 101, 114]⟩
def svUpBef : ByteArray := ⟨#[117, 112, 100, 97, 116, 101, 100, 66, 101, 102, 111, 114, 101]⟩
def svUpAft : ByteArray := ⟨#[117, 112, 100, 97, 116, 101, 100, 65, 102, 116, 101, 114]⟩
def svOper : ByteArray := ⟨#[111, 112, 101, 114, 97, 116, 111, 114]⟩
def svConds : ByteArray := ⟨#[99, 111, 110, 100, 105, 116, 105, 111, 110, 115]⟩
def svAnd : ByteArray := ⟨#[65, 78, 68]⟩
def svOr : ByteArray := ⟨#[79, 82]⟩
def svNot : ByteArray := ⟨#[78, 79, 84]⟩
def isFieldB (n : ByteArray) : Bool := decide (n = svText) || (decide (n = givenN) || (decide (n = surN) || allF.any (fun y => decide (y = n))))
def stampB (n : ByteArray) : Bool := decide (n = svCrBef) || (decide (n = svCrAft) || (decide (n = svUpBef) || decide (n = svUpAft)))
def askB (n : ByteArray) : Bool := decide (n = svInBook) || (decide (n = svUid) || (decide (n = svHasMem) || (decide (n = kindN) || stampB n)))
def rightC (n : ByteArray) (x : JV) : Bool := decide (x.k = 4) && (decide (x.s.size <= 255) && ((!isFieldB n || decide (x.s.size <= 64)) && ((!decide (n = svInBook) || idB x.s) && (!stampB n || (secF x.s.data.toList).isSome))))
def condE (n : ByteArray) (x : JV) : Int := if askB n || isFieldB n then (if rightC n x then 0 else 1) else 200
def condsE : List (ByteArray × JV) -> Int
 | [] => 0
 | p :: r => if condE p.1 p.2 = 0 then condsE r else condE p.1 p.2
def opOk (t : JV) : Bool := decide (t.m.length = 2) && (decide (((t.get svOper).getD JV.zero).k = 4) && ((decide (((t.get svOper).getD JV.zero).s = svAnd) || (decide (((t.get svOper).getD JV.zero).s = svOr) || decide (((t.get svOper).getD JV.zero).s = svNot))) && decide (((t.get svConds).getD JV.zero).k = 5)))
def condsL (t : JV) : List JV := ((t.get svConds).getD JV.zero).l
mutual
def chkF : JV -> Int
 | .mk k n s l m => if k = 6 then (if ((JV.mk k n s l m).get svOper).isSome then (if opOk (.mk k n s l m) then chkC m else 1) else condsE m) else 1
def chkC : List (ByteArray × JV) -> Int
 | [] => 0
 | (a, v) :: r => if a = svConds then chkV v else chkC r
def chkV : JV -> Int
 | .mk _ _ _ l _ => chkFL l
def chkFL : List JV -> Int
 | [] => 0
 | x :: r => if chkF x = 0 then chkFL r else chkF x
end
def checkJ (f : JV) : Int := if f.k = 1 then 0 else if 30 < countT f then 200 else chkF f
def hasJ (v : JV) (name s : ByteArray) : Bool := match v.get name with | some x => (x.get s).isSome | none => false
def aheadO (v : JV) (name s : ByteArray) : Option Bool := match textM v name with | [] => none | x :: _ => some (decide (cmpS x.data.toList s.data.toList < 0))
def condB (v : JV) (n s : ByteArray) : Bool :=
 if n = svInBook then hasJ v svBookIds s else
 if n = svUid then decide (textM v svUid = [s]) else
 if n = svHasMem then hasJ v svMembers s else
 if n = kindN then (if (v.get kindN).isSome then decide (textM v kindN = [s]) else decide (s = svIndiv)) else
 if n = svCrBef then decide (aheadO v createdN s = some true) else
 if n = svCrAft then decide (aheadO v createdN s = some false) else
 if n = svUpBef then decide (aheadO v updatedN s = some true) else
 if n = svUpAft then decide (aheadO v updatedN s = some false) else matchF s.data.toList (textsJ v n)
def combB (o : ByteArray) (bs : List Bool) : Bool := if o = svAnd then bs.all id else if o = svOr then bs.any id else !bs.any id
mutual
def holF (v : JV) : JV -> Bool
 | .mk k n s l m => match (JV.mk k n s l m).get svOper with
   | some o => combB o.s (holC v m)
   | none => m.all (fun p => condB v p.1 p.2.s)
def holC (v : JV) : List (ByteArray × JV) -> List Bool
 | [] => []
 | (a, x) :: r => if a = svConds then holV v x else holC v r
def holV (v : JV) : JV -> List Bool
 | .mk _ _ _ l _ => holL v l
def holL (v : JV) : List JV -> List Bool
 | [] => []
 | x :: r => holF v x :: holL v r
end
def holdsJ (f v : JV) : Bool := decide (v.k = 6) && (decide (checkJ f = 0) && holF v f)
theorem memS_six {t : JV} (h : t.k = 6) : t.mem = t.m := by cases t; exact if_pos h
theorem memS_not {t : JV} (h : t.k ≠ 6) : t.mem = [] := by cases t; exact if_neg h
theorem getS_not {t : JV} (h : t.k ≠ 6) (n : ByteArray) : t.get n = none := by
 unfold JV.get JV.place
 rw [memS_not h]
 rfl
theorem mem_get_cons (p : ByteArray × JV) (m : List (ByteArray × JV)) (n : ByteArray) : ((p :: m).findIdx? (fun q => decide (q.1 = n))).bind (fun i => (p :: m)[i]?.map (·.2)) = if p.1 = n then some p.2 else (m.findIdx? (fun q => decide (q.1 = n))).bind (fun i => m[i]?.map (·.2)) := by
 rw [List.findIdx?_cons]
 by_cases h : p.1 = n
 ·rw [if_pos h, if_pos (by simpa using h)]
  rfl
 ·rw [if_neg h, if_neg (by simpa using h)]
  cases m.findIdx? (fun q => decide (q.1 = n)) <;> rfl
theorem getS_mOf {t : JV} (h : t.k = 6) (n : ByteArray) : t.get n = mOf t.m n := by
 unfold JV.get JV.place mOf
 rw [memS_six h]
 induction t.m with
 | nil => rfl
 | cons p r ih =>
   rw [mem_get_cons, List.find?_cons]
   by_cases hp : p.1 = n
   ·rw [if_pos hp, decide_eq_true hp]
    rfl
   ·rw [if_neg hp, decide_eq_false hp]
    exact ih
theorem mOfS_cons (p : ByteArray × JV) (m : List (ByteArray × JV)) (n : ByteArray) : mOf (p :: m) n = if p.1 = n then some p.2 else mOf m n := by
 unfold mOf
 rw [List.find?_cons]
 by_cases hp : p.1 = n
 ·rw [if_pos hp, decide_eq_true hp]
  rfl
 ·rw [if_neg hp, decide_eq_false hp]
theorem get_k {t x : JV} {n : ByteArray} (h : t.get n = some x) : t.k = 6 := by
 by_cases hk : t.k = 6
 ·exact hk
 ·rw [getS_not hk] at h
  cases h
theorem chkV_eq (v : JV) : chkV v = chkFL v.l := by cases v; rw [chkV]; rfl
theorem holV_eq (v x : JV) : holV v x = holL v x.l := by cases x; rw [holV]; rfl
theorem chkC_eq (m : List (ByteArray × JV)) : chkC m = chkFL ((mOf m svConds).getD JV.zero).l := by
 induction m with
 | nil => rw [chkC]; rfl
 | cons p r ih =>
   obtain ⟨a, v⟩ := p
   rw [chkC, mOfS_cons]
   by_cases h : a = svConds
   ·rw [if_pos h, if_pos h, chkV_eq]
    rfl
   ·rw [if_neg h, if_neg h, ih]
theorem holC_eq (v : JV) (m : List (ByteArray × JV)) : holC v m = holL v ((mOf m svConds).getD JV.zero).l := by
 induction m with
 | nil => rw [holC]; rfl
 | cons p r ih =>
   obtain ⟨a, x⟩ := p
   rw [holC, mOfS_cons]
   by_cases h : a = svConds
   ·rw [if_pos h, if_pos h, holV_eq]
    rfl
   ·rw [if_neg h, if_neg h, ih]
theorem holL_eq (v : JV) (l : List JV) : holL v l = l.map (holF v) := by
 induction l with
 | nil => rw [holL]; rfl
 | cons x r ih => rw [holL, ih]; rfl
theorem chkF_eq (t : JV) : chkF t = if t.k = 6 then (if (t.get svOper).isSome then (if opOk t then chkFL (condsL t) else 1) else condsE t.m) else 1 := by
 cases t with
 | mk k n s l m =>
   rw [chkF]
   show (if k = 6 then _ else _) = if k = 6 then _ else _
   by_cases h : k = 6
   ·rw [if_pos h, if_pos h, chkC_eq]
    unfold condsL
    rw [getS_mOf (t := JV.mk k n s l m) h svConds]
    rfl
   ·rw [if_neg h, if_neg h]
theorem holF_eq (v t : JV) : holF v t = match t.get svOper with | some o => combB o.s ((condsL t).map (holF v)) | none => t.m.all (fun p => condB v p.1 p.2.s) := by
 cases t with
 | mk k n s l m =>
   rw [holF]
   cases h : (JV.mk k n s l m).get svOper with
   | none => rfl
   | some o =>
     dsimp only
     rw [holC_eq, holL_eq]
     unfold condsL
     rw [getS_mOf (t := JV.mk k n s l m) (get_k h) svConds]
     rfl
theorem chkFL_drop {l : List JV} {j : Nat} {x : JV} (h : l[j]? = some x) : chkFL (l.drop j) = if chkF x = 0 then chkFL (l.drop (j + 1)) else chkF x := by
 obtain ⟨h1, h2⟩ := List.getElem?_eq_some_iff.1 h
 rw [List.drop_eq_getElem_cons h1, h2, chkFL]
theorem condsE_drop {l : List (ByteArray × JV)} {j : Nat} {x : ByteArray × JV} (h : l[j]? = some x) : condsE (l.drop j) = if condE x.1 x.2 = 0 then condsE (l.drop (j + 1)) else condE x.1 x.2 := by
 obtain ⟨h1, h2⟩ := List.getElem?_eq_some_iff.1 h
 rw [List.drop_eq_getElem_cons h1, h2]
 rfl
theorem all_drop {α : Type} {p : α -> Bool} {l : List α} {j : Nat} {x : α} (h : l[j]? = some x) : (l.drop j).all p = (p x && (l.drop (j + 1)).all p) := by
 obtain ⟨h1, h2⟩ := List.getElem?_eq_some_iff.1 h
 rw [List.drop_eq_getElem_cons h1, h2, List.all_cons]
theorem condsL_lt {t x : JV} (h : x ∈ condsL t) : SizeOf.sizeOf x < SizeOf.sizeOf t := by
 unfold condsL at h
 cases hg : t.get svConds with
 | none =>
   rw [hg] at h
   cases h
 | some c =>
   rw [hg] at h
   obtain ⟨p, h1, rfl, _⟩ := get_memJ hg
   obtain ⟨i, hi⟩ := List.getElem?_of_mem h1
   obtain ⟨j, hj⟩ := List.getElem?_of_mem (show x ∈ p.2.l from h)
   cases t with
   | mk k n s l m =>
     change m[i]? = some p at hi
     have h3 := JV.lt_m (k := k) (n := n) (s := s) (l := l) hi
     cases hp : p.2 with
     | mk k' n' s' l' m' =>
       rw [hp] at hj h3
       change l'[j]? = some x at hj
       have h4 := JV.lt_l (k := k') (n := n') (s := s') (m := m') hj
       omega
theorem chkFL_zero {l : List JV} : chkFL l = 0 ↔ ∀ x ∈ l, chkF x = 0 := by
 induction l with
 | nil => simp [chkFL]
 | cons a r ih =>
   rw [chkFL]
   by_cases h : chkF a = 0
   ·rw [if_pos h, ih]
    simp [h]
   ·rw [if_neg h]
    constructor
    ·intro e
     exact absurd e h
    ·intro e
     exact absurd (e a (by simp)) h
theorem condsE_zero {m : List (ByteArray × JV)} : condsE m = 0 ↔ ∀ p ∈ m, condE p.1 p.2 = 0 := by
 induction m with
 | nil => simp [condsE]
 | cons a r ih =>
   unfold condsE
   by_cases h : condE a.1 a.2 = 0
   ·rw [if_pos h, ih]
    constructor
    ·intro e p hp
     rcases List.mem_cons.1 hp with rfl | hp
     ·exact h
     ·exact e p hp
    ·intro e p hp
     exact e p (List.mem_cons_of_mem _ hp)
   ·rw [if_neg h]
    constructor
    ·intro e
     exact absurd e h
    ·intro e
     exact absurd (e a (by simp)) h
end
section
open Go Go.RowKit Go.OpenShut
abbrev Tok.val (t : Tok) : Value := .agg #[.int .i64 t.kind, .int .i64 t.n, .string t.s, .int .i64 t.pos]
abbrev Tok.obj (t : Tok) : Obj := .cells #[.int .i64 t.kind, .int .i64 t.n, .string t.s, .int .i64 t.pos] 115
def TokAt (W : World) (g : Nat) (t : Tok) : Prop := W.heap[g]? = some (.cells #[.int .i64 t.kind, .int .i64 t.n, .string t.s, .int .i64 t.pos] 115 (0, 0))
theorem TokAt.lt {W : World} {g : Nat} {t : Tok} (h : TokAt W g t) : g < W.heap.size := (Array.getElem?_eq_some_iff.1 h).1
theorem TokAt.cell {W : World} {g : Nat} {t : Tok} (h : TokAt W g t) (j : Nat) {u : Value} (hu : (encTok t)[j]? = some u) : W.cell? ⟨g, j, none⟩ = some u := by
 unfold TokAt at h
 rw [cell_of_row W g j _ _ _ h, <- Array.getElem?_toList]
 exact hu
theorem TokAt.frozen {W : World} {g : Nat} {t : Tok} (h : TokAt W g t) (j : Nat) : W.frozen? ⟨g, j, none⟩ = false := by
 unfold TokAt at h
 simp [World.frozen?, h]
theorem TokAt.keep {W W' : World} {g : Nat} {t : Tok} (h : TokAt W g t) (hk : W'.heap[g]? = W.heap[g]?) : TokAt W' g t := hk.trans h
theorem TokAt.stored {W : World} {g : Nat} {t : Tok} (h : TokAt W g t) (q : Tok) : TokAt ((((W.setCell ⟨g, 0, none⟩ (.int .i64 q.kind)).setCell ⟨g, 1, none⟩ (.int .i64 q.n)).setCell ⟨g, 2, none⟩ (.string q.s)).setCell ⟨g, 3, none⟩ (.int .i64 q.pos)) g q := by
 unfold TokAt at h ⊢
 simp [World.setCell, Array.getElem?_modify, h]
theorem grownBy_setT (W : World) (g : Nat) (q : Tok) : W.grownBy ((((W.setCell ⟨g, 0, none⟩ (.int .i64 q.kind)).setCell ⟨g, 1, none⟩ (.int .i64 q.n)).setCell ⟨g, 2, none⟩ (.string q.s)).setCell ⟨g, 3, none⟩ (.int .i64 q.pos)) (some g) :=
 (((grownBy_set W g 0 _).trans (grownBy_set _ g 1 _)).trans (grownBy_set _ g 2 _)).trans (grownBy_set _ g 3 _)
theorem rd_lens {α : Type} {enc : α -> List Value} {sz B : Nat} {w : World} {v : Value} {xs : List α} (h : Rd w B enc sz v xs) : ∃ p cap, v = .slice p xs.length cap /\ xs.length <= cap /\ cap <= 9223372036854775807 := by
 obtain ⟨p, cap, he, h1, h2, _⟩ := h
 exact ⟨p, cap, he, h1, h2⟩
def Tok.zero : Tok := ⟨0, 0, ⟨#[]⟩, 0⟩
theorem infoTk : (Tryz.prog.info? 115).map (fun i => (i.zero, i.size, i.bytes)) = some (some (.agg #[.int .i64 0, .int .i64 0, .string ByteArray.empty, .int .i64 0]), 4, 40) := by kernel_rfl
theorem slTk : SlT Tryz.prog 104 115 4 40 := SlT.mk Tryz.underlying104 infoTk rfl
def RdrAt (W : World) (g : Nat) (v : Value) (en pa : Nat) : Prop := W.heap[g]? = some (.cells #[v, .int .i64 en, .int .i64 pa] 112 (0, 0))
theorem RdrAt.lt {W : World} {g en pa : Nat} {v : Value} (h : RdrAt W g v en pa) : g < W.heap.size := (Array.getElem?_eq_some_iff.1 h).1
theorem RdrAt.cell {W : World} {g en pa : Nat} {v : Value} (h : RdrAt W g v en pa) (j : Nat) {u : Value} (hu : [v, Value.int .i64 en, .int .i64 pa][j]? = some u) : W.cell? ⟨g, j, none⟩ = some u := by
 unfold RdrAt at h
 rw [cell_of_row W g j _ _ _ h, <- Array.getElem?_toList]
 exact hu
theorem RdrAt.frozen {W : World} {g en pa : Nat} {v : Value} (h : RdrAt W g v en pa) (j : Nat) : W.frozen? ⟨g, j, none⟩ = false := by
 unfold RdrAt at h
 simp [World.frozen?, h]
theorem RdrAt.keep {W W' : World} {g en pa : Nat} {v : Value} (h : RdrAt W g v en pa) (hk : W'.heap[g]? = W.heap[g]?) : RdrAt W' g v en pa := hk.trans h
theorem RdrAt.set0 {W : World} {g en pa : Nat} {v : Value} (h : RdrAt W g v en pa) (u : Value) : RdrAt (W.setCell ⟨g, 0, none⟩ u) g u en pa := by
 unfold RdrAt at h ⊢
 simp [World.setCell, Array.getElem?_modify, h]
theorem RdrAt.set2 {W : World} {g en pa : Nat} {v : Value} (h : RdrAt W g v en pa) (k : Nat) : RdrAt (W.setCell ⟨g, 2, none⟩ (.int .i64 k)) g v en k := by
 unfold RdrAt at h ⊢
 simp [World.setCell, Array.getElem?_modify, h]
structure RdS (W : World) (g : Nat) (ts : List Tok) (en pa : Nat) : Prop where
 ex : ∃ p n c, RdrAt W g (.slice p n c) en pa /\ Rd W g encTok 4 (.slice p n c) ts
theorem RdS.lt {W : World} {g en pa : Nat} {ts : List Tok} (h : RdS W g ts en pa) : g < W.heap.size := by
 obtain ⟨p, n, c, h1, _⟩ := h.ex
 exact h1.lt
theorem below_of {B : Nat} {w w' : World} {row : Option Nat} (h : w.grownBy w' row) (hb : B <= w.heap.size) (hr : ∀ k, row = some k -> B <= k) : Below B w w' := (Below.refl B w).grown h hb hr
theorem RdS.kept {W W' : World} {g en pa : Nat} {ts : List Tok} {row : Option Nat} (h : RdS W g ts en pa) (hg : W.grownBy W' row) (hr : ∀ k, row = some k -> g < k) : RdS W' g ts en pa := by
 have hl := h.lt
 obtain ⟨p, n, c, h1, h2⟩ := h.ex
 exact ⟨p, n, c, h1.keep (hg.block g hl (fun e => by have := hr g e.symm; omega)), h2.below (below_of hg (by omega) (fun k e => by have := hr k e; omega)) (Nat.le_refl _)⟩
theorem RdS.len {W : World} {g en pa : Nat} {ts : List Tok} (h : RdS W g ts en pa) : ∃ p c, RdrAt W g (.slice p ts.length c) en pa /\ Rd W g encTok 4 (.slice p ts.length c) ts /\ ts.length <= 9223372036854775807 := by
 obtain ⟨p, n, c, h1, h2⟩ := h.ex
 have hl := rd_nlen h2
 obtain ⟨p', c', hv, h3, h4⟩ := rd_lens h2
 simp only [Value.slice.injEq] at hv
 obtain ⟨rfl, rfl, rfl⟩ := hv
 exact ⟨p, c, h1, h2, by omega⟩
theorem is_any (t : Tok) (c : UInt8) (w : World) (b : Bool) (hb : isM t c = b) : Calls Tryz.prog 106 #[t.val, .string ⟨#[c]⟩] w fun e w' => e = .returned (.bool b) /\ Below w.heap.size w w' := by
 subst hb
 unfold isM
 obtain ⟨k, n, s, p⟩ := t
 dsimp only [Tok.val]
 by_cases h1 : k = 1
 ·subst h1
  by_cases h2 : s = ⟨#[c]⟩
  ·subst h2
   go_enter Tryz.func106, Tryz.ntmps106
   go_wp2_with fail
   go_ret
   exact ⟨by simp, (Below.refl _ _).alloc (Nat.le_refl _) _⟩
  ·have hq : (s.toList == (⟨#[c]⟩ : ByteArray).toList) = false := by rw [str_beq]; simpa using h2
   have HR : Hid ((decide ((1 : Int) = 1) && decide (s = ⟨#[c]⟩)) = false) := by simp [Hid, h2]
   rw [HR.out]
   clear h2
   obtain ⟨m, hm⟩ : ∃ m : ByteArray, ⟨#[c]⟩ = m := ⟨_, rfl⟩
   rw [hm] at hq ⊢
   clear HR hm
   go_enter Tryz.func106, Tryz.ntmps106
   go_wp2_with fail
   go_ret
   exact ⟨rfl, (Below.refl _ _).alloc (Nat.le_refl _) _⟩
 ·have HR : Hid ((decide (k = 1) && decide (s = ⟨#[c]⟩)) = false) := by simp [Hid, h1]
  rw [HR.out]
  have hq : (k == 1) = false := by simpa using h1
  clear h1 HR
  go_enter Tryz.func106, Tryz.ntmps106
  go_wp2_with fail
  go_ret
  exact ⟨rfl, (Below.refl _ _).alloc (Nat.le_refl _) _⟩
theorem _root_.Go.World.grownBy.keep_none {w w' : World} {row : Option Nat} (h : w.grownBy w' row) (g : Nat) (hg : g < w.heap.size) (hne : row ≠ some g := by (first | assumption | simp)) : w'.heap[g]? = w.heap[g]? := h.block g hg (fun e => hne e.symm)
theorem _root_.Go.World.grownBy.keep_some {w w1 w2 : World} {g : Nat} (h : w.grownBy w1 none) (h2 : w1.grownBy w2 (some g)) : w.grownBy w2 (some g) :=
 ⟨h2.os.trans h.os, h2.tape.trans h.tape, h2.output.trans h.output, Nat.le_trans h.size h2.size, fun k hk hne => (h2.block k (Nat.lt_of_lt_of_le hk h.size) hne).trans (h.block k hk (by simp))⟩
theorem _root_.Go.World.grownBy.new_row {w w1 w2 : World} {row : Option Nat} {x : Nat} (h : w.grownBy w1 row) (h2 : w1.grownBy w2 (some x)) (hx : w.heap.size <= x) : w.grownBy w2 row :=
 ⟨h2.os.trans h.os, h2.tape.trans h.tape, h2.output.trans h.output, Nat.le_trans h.size h2.size, fun k hk hne => (h2.block k (Nat.lt_of_lt_of_le hk h.size) (fun e => by cases e; omega)).trans (h.block k hk hne)⟩
def NxtRet (w : World) (g : Nat) (t : Tok) (ts : List Tok) (en pa : Nat) (e : Ending) (w' : World) : Prop := e = .returned t.val /\ RdS w' g ts en pa /\ w.grownBy w' (some g)
theorem next_any (w : World) (g en pa : Nat) (t : Tok) (ts : List Tok) (h : RdS w g (t :: ts) en pa) : Calls Tryz.prog 79 #[.pointer (some ⟨g, 0, none⟩)] w (NxtRet w g t ts en pa) := by
 obtain ⟨p, c, h1, h2, h3⟩ := h.len
 have hgl := h1.lt
 obtain ⟨N, hN⟩ : ∃ N, (t :: ts).length = N := ⟨_, rfl⟩
 rw [hN] at h1 h2 h3
 have hN1 : 1 <= N := by rw [<- hN]; simp
 have hr0 := h2
 obtain ⟨v1, hrun, hr1⟩ := slice_l slTk hr0 1 hN1
 obtain ⟨q1, n1, c1, rfl⟩ : ∃ q n c, v1 = Value.slice q n c := (by obtain ⟨p, c, hv, _, _⟩ := rd_lens hr1; exact ⟨p, _, c, hv⟩)
 rw [List.drop_one, List.tail_cons] at hr1
 obtain ⟨b, o, rfl, hb, hc0⟩ := rd_at' (k := 0) h2 (x := t) rfl
 rw [Nat.zero_mul, Nat.add_zero] at hc0
 obtain ⟨tk, tn, tS, tp⟩ := t
 have f0 : w.cell? ⟨b, o, none⟩ = some (.int .i64 tk) := hc0 0 _ rfl
 have f1 : w.cell? ⟨b, o + 1, none⟩ = some (.int .i64 tn) := hc0 1 _ rfl
 have f2 : w.cell? ⟨b, o + 2, none⟩ = some (.string tS) := hc0 2 _ rfl
 have f3 : w.cell? ⟨b, o + 3, none⟩ = some (.int .i64 tp) := hc0 3 _ rfl
 have c0 := h1.cell 0 rfl
 have z0 := h1.frozen 0
 have e0 : ((N : Int) == 0) = false := by simp; omega
 have e1 : (0 : Int) < (N : Int) := by omega
 have HR1 := Lib.hid hr1
 have H1 := Lib.hid h1
 clear hr0 hr1 h2 hc0 h1 hN h
 have hg0 := World.grownBy_alloc w (.cells #[.int .i64 0, .int .i64 0, .string ⟨#[]⟩, .int .i64 0] 115) none
 have hT0 : TokAt (w.alloc (.cells #[.int .i64 0, .int .i64 0, .string ⟨#[]⟩, .int .i64 0] 115)) w.heap.size Tok.zero := heap_alloc_at rfl
 have hs0 : (w.alloc (.cells #[.int .i64 0, .int .i64 0, .string ⟨#[]⟩, .int .i64 0] 115)).heap.size = w.heap.size + 1 := by simp
 have k0 : ∀ b o, b < w.heap.size -> (w.alloc (.cells #[.int .i64 0, .int .i64 0, .string ⟨#[]⟩, .int .i64 0] 115)).cell? ⟨b, o, none⟩ = w.cell? ⟨b, o, none⟩ := fun b o hb => ((Below.refl w.heap.size w).alloc (Nat.le_refl _) _).cell (p := ⟨b, o, none⟩) hb
 go_enter Tryz.func79, Tryz.ntmps79
 go_upto_region 1 with fail
 obtain ⟨W0, hW0⟩ : ∃ W0, w.alloc (.cells #[.int .i64 0, .int .i64 0, .string ⟨#[]⟩, .int .i64 0] 115) = W0 := ⟨_, rfl⟩
 rw [hW0] at hg0 hT0 hs0 k0
 try rw [hW0]
 clear hW0
 have p0 := (k0 g 0 hgl).trans c0
 have g0 := (k0 b o (by omega)).trans f0
 have g1 := (k0 b (o + 1) (by omega)).trans f1
 have g2 := (k0 b (o + 2) (by omega)).trans f2
 have g3 := (k0 b (o + 3) (by omega)).trans f3
 have hrun1 : ∀ W, (Instr.sliceAt 104 (.slice (some ⟨b, o, none⟩) N c) (some (.int .i64 1)) none none).run Tryz.prog W = .ok (.slice q1 n1 c1) W := hrun
 have HG0 := Lib.hid hg0
 have HT0 := Lib.hid hT0
 have HS0 := Lib.hid hs0
 have hgW : g < W0.heap.size := by omega
 clear c0 f0 f1 f2 f3 k0 hrun hg0 hT0 hs0 z0
 have hg1 := World.grownBy_alloc W0 (.cells #[.int .i64 tk, .int .i64 tn, .string tS, .int .i64 tp] 115) none
 have hT1 : TokAt (W0.alloc (.cells #[.int .i64 tk, .int .i64 tn, .string tS, .int .i64 tp] 115)) W0.heap.size ⟨tk, tn, tS, tp⟩ := heap_alloc_at rfl
 have hT2 : TokAt (W0.alloc (.cells #[.int .i64 tk, .int .i64 tn, .string tS, .int .i64 tp] 115)) w.heap.size Tok.zero := HT0.out.keep (hg1.keep_none _ HT0.out.lt)
 have hR1 : RdrAt (W0.alloc (.cells #[.int .i64 tk, .int .i64 tn, .string tS, .int .i64 tp] 115)) g (.slice (some ⟨b, o, none⟩) N c) en pa := (H1.out.keep (HG0.out.keep_none g (by omega))).keep (hg1.keep_none g hgW)
 go_upto_region 4 with fail
 have hz1 : (W0.alloc (.cells #[.int .i64 tk, .int .i64 tn, .string tS, .int .i64 tp] 115)).heap.size = w.heap.size + 2 := by have := HS0.out; simp; omega
 have hg1' := HG0.out.trans hg1
 obtain ⟨q0, hq0⟩ : ∃ q, W0.heap.size = q := ⟨_, rfl⟩
 have hqn : g ≠ q0 /\ w.heap.size ≠ q0 /\ g ≠ w.heap.size := by have := HS0.out; omega
 obtain ⟨W1, hW1⟩ : ∃ W1, W0.alloc (.cells #[.int .i64 tk, .int .i64 tn, .string tS, .int .i64 tp] 115) = W1 := ⟨_, rfl⟩
 rw [hW1] at hT1 hT2 hR1 hz1 hg1'
 rw [hq0] at hT1
 try rw [hW1]
 try rw [hq0]
 clear hg1 hW1 hq0 p0 g0 g1 g2 g3 HT0
 have p0 := hR1.cell 0 rfl
 have z0 := hR1.frozen 0
 have hR2 := hR1.set0 (.slice q1 n1 c1)
 have hg2 := grownBy_set W1 g 0 (.slice q1 n1 c1)
 have hT3 := hT1.keep (hg2.block q0 hT1.lt (by simp; omega))
 have hT4 := hT2.keep (hg2.block w.heap.size hT2.lt (by simp; omega))
 go_upto_region 5 with fail
 obtain ⟨W2, hW2⟩ : ∃ W2, W1.setCell ⟨g, 0, none⟩ (.slice q1 n1 c1) = W2 := ⟨_, rfl⟩
 rw [hW2] at hR2 hg2 hT3 hT4
 try rw [hW2]
 clear hW2 p0 z0 hrun1
 have a0 := hT3.cell 0 rfl
 have a1 := hT3.cell 1 rfl
 have a2 := hT3.cell 2 rfl
 have a3 := hT3.cell 3 rfl
 have b0 := hT4.cell 0 rfl
 have b1 := hT4.cell 1 rfl
 have b2 := hT4.cell 2 rfl
 have b3 := hT4.cell 3 rfl
 have y0 := hT4.frozen 0
 have y1 := hT4.frozen 1
 have y2 := hT4.frozen 2
 have y3 := hT4.frozen 3
 dsimp only [Tok.zero] at a0 a1 a2 a3 b0 b1 b2 b3
 have HR2 := Lib.hid hR2
 have HG2 := Lib.hid (hg1'.keep_some hg2)
 have HZ1 := Lib.hid hz1
 have HS2 := Lib.hid hg2.size
 clear hT1 hT2 hT3 hT4 hR1 hg1' hg2 hR2 hz1
 go_wp2_with fail
 refine bodyPost_ret (v := Tok.val ⟨tk, tn, tS, tp⟩) (by simp [results, Tryz.results79, go_sem, b0, b1, b2, b3]) rfl ⟨rfl, ?_, ?_⟩
 ·have hg3 := grownBy_setT W2 w.heap.size ⟨tk, tn, tS, tp⟩
  obtain ⟨p', n', c', h1, h2⟩ := (⟨_, _, _, HR2.out, (HR1.out.below (below_of HG2.out (by omega) (fun k e => by cases e; exact Nat.le_refl _)) (Nat.le_refl _))⟩ : ∃ p n c, RdrAt W2 g (.slice p n c) en pa /\ Rd W2 g encTok 4 (.slice p n c) ts)
  exact RdS.kept ⟨p', n', c', h1, h2⟩ hg3 (fun k e => by cases e; exact hgl)
 ·exact HG2.out.new_row (grownBy_setT W2 w.heap.size ⟨tk, tn, tS, tp⟩) (Nat.le_refl _)
theorem peek_any (w : World) (g en pa : Nat) (t : Tok) (ts : List Tok) (c : UInt8) (b : Bool) (h : RdS w g (t :: ts) en pa) (hb : isM t c = b) : Calls Tryz.prog 142 #[.pointer (some ⟨g, 0, none⟩), .string ⟨#[c]⟩] w fun e w' => e = .returned (.bool b) /\ Below w.heap.size w w' := by
 have HI : Hid (∀ W, Calls Tryz.prog 106 #[t.val, .string ⟨#[c]⟩] W fun e w' => e = .returned (.bool b) /\ Below W.heap.size W w') := fun W => is_any t c W b hb
 obtain ⟨p, cp, h1, h2, h3⟩ := h.len
 have hgl := h1.lt
 obtain ⟨N, hN⟩ : ∃ N, (t :: ts).length = N := ⟨_, rfl⟩
 rw [hN] at h1 h2 h3
 have hN1 : 1 <= N := by rw [<- hN]; simp
 obtain ⟨bb, o, rfl, hbb, hc0⟩ := rd_at' (k := 0) h2 (x := t) rfl
 rw [Nat.zero_mul, Nat.add_zero] at hc0
 obtain ⟨tk, tn, tS, tp⟩ := t
 have f0 : w.cell? ⟨bb, o, none⟩ = some (.int .i64 tk) := hc0 0 _ rfl
 have f1 : w.cell? ⟨bb, o + 1, none⟩ = some (.int .i64 tn) := hc0 1 _ rfl
 have f2 : w.cell? ⟨bb, o + 2, none⟩ = some (.string tS) := hc0 2 _ rfl
 have f3 : w.cell? ⟨bb, o + 3, none⟩ = some (.int .i64 tp) := hc0 3 _ rfl
 have c0 := h1.cell 0 rfl
 have e0 : decide (0 < N) = true := by simp; omega
 have e1 : (0 : Int) < (N : Int) := by omega
 have e2 : 0 < N := hN1
 clear h1 h2 hc0 hN h hb
 obtain ⟨m, hm⟩ : ∃ m : ByteArray, ⟨#[c]⟩ = m := ⟨_, rfl⟩
 rw [hm] at HI ⊢
 clear hm
 go_enter Tryz.func142, Tryz.ntmps142
 go_wp2_with (go_at_call 106; refine (HI.out _).mono ?_; rintro e w1 ⟨rfl, hb1⟩)
 go_ret
 exact ⟨rfl, hb1⟩
theorem RdS.cell2 {W : World} {g en pa : Nat} {ts : List Tok} (h : RdS W g ts en (pa + 1)) : W.cell? ⟨g, 2, none⟩ = some (.int .i64 ((pa : Int) + 1)) := by
 obtain ⟨p, n, c, h1, _⟩ := h.ex
 exact h1.cell 2 rfl
theorem lit_null : (⟨#[110, 117, 108, 108]⟩ : ByteArray).toList = [110, 117, 108, 108] := by rw [ByteArray.toList_eq]
theorem lit_true : (⟨#[116, 114, 117, 101]⟩ : ByteArray).toList = [116, 114, 117, 101] := by rw [ByteArray.toList_eq]
def ValR (w : World) (g : Nat) (v : JV) (ts : List Tok) (en pa : Nat) (e : Ending) (w' : World) : Prop := ∃ r : RV, e = .returned (RV.val r) /\ TreeS w' (Fresh w w') v r /\ RdS w' g ts en pa /\ w.grownBy w' (some g)
theorem VAt.setK {W : World} {g : Nat} {r : RV} (h : VAt W g r) (k : Int) : VAt (W.setCell ⟨g, 0, none⟩ (.int .i64 k)) g { r with k := k } := by
 unfold VAt at h ⊢
 simp [World.setCell, Array.getElem?_modify, h]
theorem VAt.setN {W : World} {g : Nat} {r : RV} (h : VAt W g r) (k : Int) : VAt (W.setCell ⟨g, 1, none⟩ (.int .i64 k)) g { r with n := k } := by
 unfold VAt at h ⊢
 simp [World.setCell, Array.getElem?_modify, h]
theorem VAt.setLs {W : World} {g : Nat} {r : RV} (h : VAt W g r) (p : Option Addr) (n c : Nat) : VAt (W.setCell ⟨g, 3, none⟩ (.slice p n c)) g { r with pl := p, nl := n, cl := c } := by
 unfold VAt at h ⊢
 simp [World.setCell, Array.getElem?_modify, h]
theorem VAt.setMs {W : World} {g : Nat} {r : RV} (h : VAt W g r) (p : Option Addr) (n c : Nat) : VAt (W.setCell ⟨g, 4, none⟩ (.slice p n c)) g { r with pm := p, nm := n, cm := c } := by
 unfold VAt at h ⊢
 simp [World.setCell, Array.getElem?_modify, h]
theorem VAt.keep {W W' : World} {g : Nat} {r : RV} (h : VAt W g r) (hk : W'.heap[g]? = W.heap[g]?) : VAt W' g r := hk.trans h
theorem RdrAt.set2' {W : World} {g en pa : Nat} {v : Value} (h : RdrAt W g v en pa) (x : Int) (k : Nat) (hx : x = k) : RdrAt (W.setCell ⟨g, 2, none⟩ (.int .i64 x)) g v en k := by subst hx; exact h.set2 k
def leafOf (t : Tok) : Option JV := if t.kind = 4 then some (.mk 4 0 t.s [] []) else if t.kind = 2 then if t.s = wNull then some (bareJ 1 0) else if t.s = wTrue then some (bareJ 2 1) else some (bareJ 2 0) else if t.kind = 3 then some (bareJ 3 t.n) else none
theorem leaf_cases {t : Tok} {v : JV} (h : leafOf t = some v) : (t.kind = 4 /\ v = .mk 4 0 t.s [] []) \/ (t.kind = 2 /\ t.s = wNull /\ v = .mk 1 0 ⟨#[]⟩ [] []) \/ (t.kind = 2 /\ t.s = wTrue /\ v = .mk 2 1 ⟨#[]⟩ [] []) \/ (t.kind = 2 /\ t.s ≠ wNull /\ t.s ≠ wTrue /\ v = .mk 2 0 ⟨#[]⟩ [] []) \/ (t.kind = 3 /\ v = .mk 3 t.n ⟨#[]⟩ [] []) := by
 unfold leafOf at h
 split at h
 ·cases h; exact .inl ⟨‹_›, rfl⟩
 ·split at h
  ·split at h
   ·cases h; exact .inr (.inl ⟨‹_›, ‹_›, rfl⟩)
   ·split at h
    ·cases h; exact .inr (.inr (.inl ⟨‹_›, ‹_›, rfl⟩))
    ·cases h; exact .inr (.inr (.inr (.inl ⟨‹_›, ‹_›, ‹_›, rfl⟩)))
  ·split at h
   ·cases h; exact .inr (.inr (.inr (.inr ⟨‹_›, rfl⟩)))
   ·cases h
theorem value_leaf (w : World) (g en pa deep : Nat) (t : Tok) (ts : List Tok) (v : JV) (h : RdS w g ts en pa) (hd : deep <= 16) (hp : pa < 8192) (hv : leafOf t = some v) :
 Calls Tryz.prog 78 #[.pointer (some ⟨g, 0, none⟩), t.val, .int .i64 deep] w (ValR w g v ts en (pa + 1)) := by
 have hgl := h.lt
 have hlc := leaf_cases hv
 clear hv
 have hg0 := ((World.grownBy_alloc w t.obj none).trans (World.grownBy_alloc _ (.cells #[.int .i64 0, .int .i64 0, .string ⟨#[]⟩, .slice none 0 0, .slice none 0 0] 25) none)).trans (World.grownBy_alloc _ (.cells #[.int .i64 0, .int .i64 0, .string ⟨#[]⟩, .slice none 0 0, .slice none 0 0] 25) none)
 have hT0 : TokAt (((w.alloc t.obj).alloc (.cells #[.int .i64 0, .int .i64 0, .string ⟨#[]⟩, .slice none 0 0, .slice none 0 0] 25)).alloc (.cells #[.int .i64 0, .int .i64 0, .string ⟨#[]⟩, .slice none 0 0, .slice none 0 0] 25)) w.heap.size t := heap_alloc_lt (by simp; omega) (heap_alloc_lt (by simp) (heap_alloc_at rfl))
 have hV1 : VAt (((w.alloc t.obj).alloc (.cells #[.int .i64 0, .int .i64 0, .string ⟨#[]⟩, .slice none 0 0, .slice none 0 0] 25)).alloc (.cells #[.int .i64 0, .int .i64 0, .string ⟨#[]⟩, .slice none 0 0, .slice none 0 0] 25)) (w.heap.size + 1) RV.zero := heap_alloc_lt (by simp) (heap_alloc_at (by simp))
 have hV2 : VAt (((w.alloc t.obj).alloc (.cells #[.int .i64 0, .int .i64 0, .string ⟨#[]⟩, .slice none 0 0, .slice none 0 0] 25)).alloc (.cells #[.int .i64 0, .int .i64 0, .string ⟨#[]⟩, .slice none 0 0, .slice none 0 0] 25)) (w.heap.size + 1 + 1) RV.zero := heap_alloc_at (by simp)
 have hs0 : (((w.alloc t.obj).alloc (.cells #[.int .i64 0, .int .i64 0, .string ⟨#[]⟩, .slice none 0 0, .slice none 0 0] 25)).alloc (.cells #[.int .i64 0, .int .i64 0, .string ⟨#[]⟩, .slice none 0 0, .slice none 0 0] 25)).heap.size = w.heap.size + 3 := by simp
 have hR0 := h.kept hg0 (fun k e => by cases e)
 obtain ⟨tk, tn, tS, tp⟩ := t
 dsimp only [Tok.val, Tok.obj] at *
 clear h
 have d1 : ¬ (16 < (deep : Int)) := by omega
 have d2 : ¬ (16 < deep) := by omega
 have d3 : (deep : Int) <= 16 := by omega
 go_enter Tryz.func78, Tryz.ntmps78
 go_upto_region 3 with fail
 obtain ⟨W0, hW0⟩ : ∃ W0, ((w.alloc (.cells #[.int .i64 tk, .int .i64 tn, .string tS, .int .i64 tp] 115)).alloc (.cells #[.int .i64 0, .int .i64 0, .string ⟨#[]⟩, .slice none 0 0, .slice none 0 0] 25)).alloc (.cells #[.int .i64 0, .int .i64 0, .string ⟨#[]⟩, .slice none 0 0, .slice none 0 0] 25) = W0 := ⟨_, rfl⟩
 rw [hW0] at hg0 hT0 hV1 hV2 hs0 hR0
 try rw [hW0]
 clear hW0
 have a0 := hT0.cell 0 rfl
 have a1 := hT0.cell 1 rfl
 have a2 := hT0.cell 2 rfl
 obtain ⟨v0, v1, v2, v3, v4⟩ := hV2.cells5
 have y0 := hV2.frozen 0
 have y1 := hV2.frozen 1
 have y2 := hV2.frozen 2
 have y3 := hV2.frozen 3
 have y4 := hV2.frozen 4
 dsimp only [RV.zero] at v0 v1 v2 v3 v4
 have HG0 := Lib.hid hg0
 have HV1 := Lib.hid hV1
 have HV2 := Lib.hid hV2
 have HR0 := Lib.hid hR0
 have HS0 := Lib.hid hs0
 clear hg0 hT0 hV1 hV2 hR0 hs0
 have KEY : ∀ (k n : Int) (s : ByteArray) (W1 : World), VAt W1 (w.heap.size + 1 + 1) ⟨k, n, s, none, 0, 0, none, 0, 0⟩ -> W0.grownBy W1 (some (w.heap.size + 1 + 1)) -> (VAt W1 (w.heap.size + 1) RV.zero /\ RdS W1 g ts en pa /\ w.grownBy W1 none) := by
  intro k n s W1 h1 h2
  have hs := HS0.out
  exact ⟨HV1.out.keep (h2.block _ HV1.out.lt (by simp)), HR0.out.kept h2 (fun k e => by cases e; omega), HG0.out.new_row h2 (by omega)⟩
 have HK := Lib.hid KEY
 clear KEY
 have FIN : ∀ (k n : Int) (s : ByteArray) (W1 : World), VAt W1 (w.heap.size + 1) RV.zero -> RdS W1 g ts en (pa + 1) -> w.grownBy W1 (some g) -> ValR w g (.mk k n s [] []) ts en (pa + 1) (.returned (RV.val ⟨k, n, s, none, 0, 0, none, 0, 0⟩)) (((((W1.setCell ⟨(w.heap.size + 1), 0, none⟩ (.int .i64 (⟨k, n, s, none, 0, 0, none, 0, 0⟩ : RV).k)).setCell ⟨(w.heap.size + 1), 1, none⟩ (.int .i64 (⟨k, n, s, none, 0, 0, none, 0, 0⟩ : RV).n)).setCell ⟨(w.heap.size + 1), 2, none⟩ (.string (⟨k, n, s, none, 0, 0, none, 0, 0⟩ : RV).s)).setCell ⟨(w.heap.size + 1), 3, none⟩ (.slice (⟨k, n, s, none, 0, 0, none, 0, 0⟩ : RV).pl (⟨k, n, s, none, 0, 0, none, 0, 0⟩ : RV).nl (⟨k, n, s, none, 0, 0, none, 0, 0⟩ : RV).cl)).setCell ⟨(w.heap.size + 1), 4, none⟩ (.slice (⟨k, n, s, none, 0, 0, none, 0, 0⟩ : RV).pm (⟨k, n, s, none, 0, 0, none, 0, 0⟩ : RV).nm (⟨k, n, s, none, 0, 0, none, 0, 0⟩ : RV).cm)) := by
  intro k n s W1 h1 h2 h3
  have hg := grownBy_set5 W1 (w.heap.size + 1) ⟨k, n, s, none, 0, 0, none, 0, 0⟩
  exact ⟨⟨k, n, s, none, 0, 0, none, 0, 0⟩, rfl, TreeS.leaf _ _ _ _ _, h2.kept hg (fun k e => by cases e; omega), h3.new_row hg (by omega)⟩
 have HF := Lib.hid FIN
 clear FIN
 rcases hlc with ⟨rfl, rfl⟩ | ⟨rfl, hw, rfl⟩ | ⟨rfl, hw, rfl⟩ | ⟨rfl, n1, n2, rfl⟩ | ⟨rfl, rfl⟩
 ·go_upto_region 17 with fail
  have hv : VAt (((((W0.setCell ⟨w.heap.size + 1 + 1, 0, none⟩ (.int .i64 4)).setCell ⟨w.heap.size + 1 + 1, 1, none⟩ (.int .i64 0)).setCell ⟨w.heap.size + 1 + 1, 2, none⟩ (.string tS)).setCell ⟨w.heap.size + 1 + 1, 3, none⟩ (.slice none 0 0)).setCell ⟨w.heap.size + 1 + 1, 4, none⟩ (.slice none 0 0)) (w.heap.size + 1 + 1) ⟨4, 0, tS, none, 0, 0, none, 0, 0⟩ := HV2.out.stored ⟨4, 0, tS, none, 0, 0, none, 0, 0⟩
  have hg : W0.grownBy (((((W0.setCell ⟨w.heap.size + 1 + 1, 0, none⟩ (.int .i64 4)).setCell ⟨w.heap.size + 1 + 1, 1, none⟩ (.int .i64 0)).setCell ⟨w.heap.size + 1 + 1, 2, none⟩ (.string tS)).setCell ⟨w.heap.size + 1 + 1, 3, none⟩ (.slice none 0 0)).setCell ⟨w.heap.size + 1 + 1, 4, none⟩ (.slice none 0 0)) (some (w.heap.size + 1 + 1)) := grownBy_set5 W0 _ ⟨4, 0, tS, none, 0, 0, none, 0, 0⟩
  obtain ⟨W1, hW1⟩ : ∃ W1, (((((W0.setCell ⟨w.heap.size + 1 + 1, 0, none⟩ (.int .i64 4)).setCell ⟨w.heap.size + 1 + 1, 1, none⟩ (.int .i64 0)).setCell ⟨w.heap.size + 1 + 1, 2, none⟩ (.string tS)).setCell ⟨w.heap.size + 1 + 1, 3, none⟩ (.slice none 0 0)).setCell ⟨w.heap.size + 1 + 1, 4, none⟩ (.slice none 0 0)) = W1 := ⟨_, rfl⟩
  rw [hW1] at hv hg
  try rw [hW1]
  clear hW1
  obtain ⟨h1, h2, h3⟩ := HK.out 4 0 tS W1 hv hg
  obtain ⟨p, nn, c, hr, hrd⟩ := h2.ex
  have c2 := hr.cell 2 rfl
  have z2 := hr.frozen 2
  have hgx := grownBy_set W1 g 2 (.int .i64 ((pa : Int) + 1))
  have hR3 : RdS (W1.setCell ⟨g, 2, none⟩ (.int .i64 ((pa : Int) + 1))) g ts en (pa + 1) := ⟨p, nn, c, hr.set2' _ _ (by omega), hrd.below (below_of hgx (by have := hr.lt; omega) (fun k e => by cases e; exact Nat.le_refl _)) (Nat.le_refl _)⟩
  have hV3 := h1.keep (hgx.block _ h1.lt (by simp; omega))
  have hV4 := hv.keep (hgx.block _ hv.lt (by simp; omega))
  have hG3 := h3.keep_some hgx
  go_upto_region 20 with fail
  have c3 := hR3.cell2
  obtain ⟨W2, hW2⟩ : ∃ W2, W1.setCell ⟨g, 2, none⟩ (.int .i64 ((pa : Int) + 1)) = W2 := ⟨_, rfl⟩
  rw [hW2] at hR3 hV3 hV4 hG3 c3
  try rw [hW2]
  clear hW2 c2 z2 v0 v1 v2 v3 v4 y0 y1 y2 y3 y4 a0 a1 a2 hgx hr hrd h1 h2 h3 hv hg
  obtain ⟨v0, v1, v2, v3, v4⟩ := hV4.cells5
  obtain ⟨z0, z1, z2, z3, z4⟩ := hV3.cells5
  have y0 := hV3.frozen 0
  have y1 := hV3.frozen 1
  have y2 := hV3.frozen 2
  have y3 := hV3.frozen 3
  have y4 := hV3.frozen 4
  dsimp only [RV.zero] at v0 v1 v2 v3 v4 z0 z1 z2 z3 z4
  have HR3 := Lib.hid hR3
  have HV3 := Lib.hid hV3
  have HG3 := Lib.hid hG3
  clear hR3 hV3 hV4 hG3
  go_wp2_with fail
  exact bodyPost_ret (v := RV.val ⟨4, 0, tS, none, 0, 0, none, 0, 0⟩) (by simp [results, Tryz.results78, go_sem, z0, z1, z2, z3, z4]) rfl (HF.out 4 0 tS W2 HV3.out HR3.out HG3.out)
 ·obtain rfl : tS = ⟨#[110, 117, 108, 108]⟩ := hw
  go_upto_region 17 with fail
  have hv : VAt (W0.setCell ⟨w.heap.size + 1 + 1, 0, none⟩ (.int .i64 1)) (w.heap.size + 1 + 1) ⟨1, 0, ⟨#[]⟩, none, 0, 0, none, 0, 0⟩ := HV2.out.setK 1
  have hg : W0.grownBy (W0.setCell ⟨w.heap.size + 1 + 1, 0, none⟩ (.int .i64 1)) (some (w.heap.size + 1 + 1)) := grownBy_set _ _ _ _
  obtain ⟨W1, hW1⟩ : ∃ W1, (W0.setCell ⟨w.heap.size + 1 + 1, 0, none⟩ (.int .i64 1)) = W1 := ⟨_, rfl⟩
  rw [hW1] at hv hg
  try rw [hW1]
  clear hW1
  obtain ⟨h1, h2, h3⟩ := HK.out 1 0 ⟨#[]⟩ W1 hv hg
  obtain ⟨p, nn, c, hr, hrd⟩ := h2.ex
  have c2 := hr.cell 2 rfl
  have z2 := hr.frozen 2
  have hgx := grownBy_set W1 g 2 (.int .i64 ((pa : Int) + 1))
  have hR3 : RdS (W1.setCell ⟨g, 2, none⟩ (.int .i64 ((pa : Int) + 1))) g ts en (pa + 1) := ⟨p, nn, c, hr.set2' _ _ (by omega), hrd.below (below_of hgx (by have := hr.lt; omega) (fun k e => by cases e; exact Nat.le_refl _)) (Nat.le_refl _)⟩
  have hV3 := h1.keep (hgx.block _ h1.lt (by simp; omega))
  have hV4 := hv.keep (hgx.block _ hv.lt (by simp; omega))
  have hG3 := h3.keep_some hgx
  go_upto_region 20 with fail
  have c3 := hR3.cell2
  obtain ⟨W2, hW2⟩ : ∃ W2, W1.setCell ⟨g, 2, none⟩ (.int .i64 ((pa : Int) + 1)) = W2 := ⟨_, rfl⟩
  rw [hW2] at hR3 hV3 hV4 hG3 c3
  try rw [hW2]
  clear hW2 c2 z2 v0 v1 v2 v3 v4 y0 y1 y2 y3 y4 a0 a1 a2 hgx hr hrd h1 h2 h3 hv hg
  obtain ⟨v0, v1, v2, v3, v4⟩ := hV4.cells5
  obtain ⟨z0, z1, z2, z3, z4⟩ := hV3.cells5
  have y0 := hV3.frozen 0
  have y1 := hV3.frozen 1
  have y2 := hV3.frozen 2
  have y3 := hV3.frozen 3
  have y4 := hV3.frozen 4
  dsimp only [RV.zero] at v0 v1 v2 v3 v4 z0 z1 z2 z3 z4
  have HR3 := Lib.hid hR3
  have HV3 := Lib.hid hV3
  have HG3 := Lib.hid hG3
  clear hR3 hV3 hV4 hG3
  go_wp2_with fail
  exact bodyPost_ret (v := RV.val ⟨1, 0, ⟨#[]⟩, none, 0, 0, none, 0, 0⟩) (by simp [results, Tryz.results78, go_sem, z0, z1, z2, z3, z4]) rfl (HF.out 1 0 ⟨#[]⟩ W2 HV3.out HR3.out HG3.out)
 ·obtain rfl : tS = ⟨#[116, 114, 117, 101]⟩ := hw
  go_upto_region 17 with fail
  have hv : VAt ((W0.setCell ⟨w.heap.size + 1 + 1, 0, none⟩ (.int .i64 2)).setCell ⟨w.heap.size + 1 + 1, 1, none⟩ (.int .i64 1)) (w.heap.size + 1 + 1) ⟨2, 1, ⟨#[]⟩, none, 0, 0, none, 0, 0⟩ := (HV2.out.setK 2).setN 1
  have hg : W0.grownBy ((W0.setCell ⟨w.heap.size + 1 + 1, 0, none⟩ (.int .i64 2)).setCell ⟨w.heap.size + 1 + 1, 1, none⟩ (.int .i64 1)) (some (w.heap.size + 1 + 1)) := (grownBy_set _ _ _ _).trans (grownBy_set _ _ _ _)
  obtain ⟨W1, hW1⟩ : ∃ W1, ((W0.setCell ⟨w.heap.size + 1 + 1, 0, none⟩ (.int .i64 2)).setCell ⟨w.heap.size + 1 + 1, 1, none⟩ (.int .i64 1)) = W1 := ⟨_, rfl⟩
  rw [hW1] at hv hg
  try rw [hW1]
  clear hW1
  obtain ⟨h1, h2, h3⟩ := HK.out 2 1 ⟨#[]⟩ W1 hv hg
  obtain ⟨p, nn, c, hr, hrd⟩ := h2.ex
  have c2 := hr.cell 2 rfl
  have z2 := hr.frozen 2
  have hgx := grownBy_set W1 g 2 (.int .i64 ((pa : Int) + 1))
  have hR3 : RdS (W1.setCell ⟨g, 2, none⟩ (.int .i64 ((pa : Int) + 1))) g ts en (pa + 1) := ⟨p, nn, c, hr.set2' _ _ (by omega), hrd.below (below_of hgx (by have := hr.lt; omega) (fun k e => by cases e; exact Nat.le_refl _)) (Nat.le_refl _)⟩
  have hV3 := h1.keep (hgx.block _ h1.lt (by simp; omega))
  have hV4 := hv.keep (hgx.block _ hv.lt (by simp; omega))
  have hG3 := h3.keep_some hgx
  go_upto_region 20 with fail
  have c3 := hR3.cell2
  obtain ⟨W2, hW2⟩ : ∃ W2, W1.setCell ⟨g, 2, none⟩ (.int .i64 ((pa : Int) + 1)) = W2 := ⟨_, rfl⟩
  rw [hW2] at hR3 hV3 hV4 hG3 c3
  try rw [hW2]
  clear hW2 c2 z2 v0 v1 v2 v3 v4 y0 y1 y2 y3 y4 a0 a1 a2 hgx hr hrd h1 h2 h3 hv hg
  obtain ⟨v0, v1, v2, v3, v4⟩ := hV4.cells5
  obtain ⟨z0, z1, z2, z3, z4⟩ := hV3.cells5
  have y0 := hV3.frozen 0
  have y1 := hV3.frozen 1
  have y2 := hV3.frozen 2
  have y3 := hV3.frozen 3
  have y4 := hV3.frozen 4
  dsimp only [RV.zero] at v0 v1 v2 v3 v4 z0 z1 z2 z3 z4
  have HR3 := Lib.hid hR3
  have HV3 := Lib.hid hV3
  have HG3 := Lib.hid hG3
  clear hR3 hV3 hV4 hG3
  go_wp2_with fail
  exact bodyPost_ret (v := RV.val ⟨2, 1, ⟨#[]⟩, none, 0, 0, none, 0, 0⟩) (by simp [results, Tryz.results78, go_sem, z0, z1, z2, z3, z4]) rfl (HF.out 2 1 ⟨#[]⟩ W2 HV3.out HR3.out HG3.out)
 ·have q1 : (tS.toList == [110, 117, 108, 108]) = false := by rw [<- lit_null, str_beq]; exact decide_eq_false n1
  have q2 : (tS.toList == [116, 114, 117, 101]) = false := by rw [<- lit_true, str_beq]; exact decide_eq_false n2
  clear n1 n2
  go_upto_region 17 with fail
  have hv : VAt (W0.setCell ⟨w.heap.size + 1 + 1, 0, none⟩ (.int .i64 2)) (w.heap.size + 1 + 1) ⟨2, 0, ⟨#[]⟩, none, 0, 0, none, 0, 0⟩ := HV2.out.setK 2
  have hg : W0.grownBy (W0.setCell ⟨w.heap.size + 1 + 1, 0, none⟩ (.int .i64 2)) (some (w.heap.size + 1 + 1)) := grownBy_set _ _ _ _
  obtain ⟨W1, hW1⟩ : ∃ W1, (W0.setCell ⟨w.heap.size + 1 + 1, 0, none⟩ (.int .i64 2)) = W1 := ⟨_, rfl⟩
  rw [hW1] at hv hg
  try rw [hW1]
  clear hW1
  obtain ⟨h1, h2, h3⟩ := HK.out 2 0 ⟨#[]⟩ W1 hv hg
  obtain ⟨p, nn, c, hr, hrd⟩ := h2.ex
  have c2 := hr.cell 2 rfl
  have z2 := hr.frozen 2
  have hgx := grownBy_set W1 g 2 (.int .i64 ((pa : Int) + 1))
  have hR3 : RdS (W1.setCell ⟨g, 2, none⟩ (.int .i64 ((pa : Int) + 1))) g ts en (pa + 1) := ⟨p, nn, c, hr.set2' _ _ (by omega), hrd.below (below_of hgx (by have := hr.lt; omega) (fun k e => by cases e; exact Nat.le_refl _)) (Nat.le_refl _)⟩
  have hV3 := h1.keep (hgx.block _ h1.lt (by simp; omega))
  have hV4 := hv.keep (hgx.block _ hv.lt (by simp; omega))
  have hG3 := h3.keep_some hgx
  go_upto_region 20 with fail
  have c3 := hR3.cell2
  obtain ⟨W2, hW2⟩ : ∃ W2, W1.setCell ⟨g, 2, none⟩ (.int .i64 ((pa : Int) + 1)) = W2 := ⟨_, rfl⟩
  rw [hW2] at hR3 hV3 hV4 hG3 c3
  try rw [hW2]
  clear hW2 c2 z2 v0 v1 v2 v3 v4 y0 y1 y2 y3 y4 a0 a1 a2 hgx hr hrd h1 h2 h3 hv hg
  obtain ⟨v0, v1, v2, v3, v4⟩ := hV4.cells5
  obtain ⟨z0, z1, z2, z3, z4⟩ := hV3.cells5
  have y0 := hV3.frozen 0
  have y1 := hV3.frozen 1
  have y2 := hV3.frozen 2
  have y3 := hV3.frozen 3
  have y4 := hV3.frozen 4
  dsimp only [RV.zero] at v0 v1 v2 v3 v4 z0 z1 z2 z3 z4
  have HR3 := Lib.hid hR3
  have HV3 := Lib.hid hV3
  have HG3 := Lib.hid hG3
  clear hR3 hV3 hV4 hG3
  go_wp2_with fail
  exact bodyPost_ret (v := RV.val ⟨2, 0, ⟨#[]⟩, none, 0, 0, none, 0, 0⟩) (by simp [results, Tryz.results78, go_sem, z0, z1, z2, z3, z4]) rfl (HF.out 2 0 ⟨#[]⟩ W2 HV3.out HR3.out HG3.out)
 ·go_upto_region 17 with fail
  have hv : VAt (((((W0.setCell ⟨w.heap.size + 1 + 1, 0, none⟩ (.int .i64 3)).setCell ⟨w.heap.size + 1 + 1, 1, none⟩ (.int .i64 tn)).setCell ⟨w.heap.size + 1 + 1, 2, none⟩ (.string ⟨#[]⟩)).setCell ⟨w.heap.size + 1 + 1, 3, none⟩ (.slice none 0 0)).setCell ⟨w.heap.size + 1 + 1, 4, none⟩ (.slice none 0 0)) (w.heap.size + 1 + 1) ⟨3, tn, ⟨#[]⟩, none, 0, 0, none, 0, 0⟩ := HV2.out.stored ⟨3, tn, ⟨#[]⟩, none, 0, 0, none, 0, 0⟩
  have hg : W0.grownBy (((((W0.setCell ⟨w.heap.size + 1 + 1, 0, none⟩ (.int .i64 3)).setCell ⟨w.heap.size + 1 + 1, 1, none⟩ (.int .i64 tn)).setCell ⟨w.heap.size + 1 + 1, 2, none⟩ (.string ⟨#[]⟩)).setCell ⟨w.heap.size + 1 + 1, 3, none⟩ (.slice none 0 0)).setCell ⟨w.heap.size + 1 + 1, 4, none⟩ (.slice none 0 0)) (some (w.heap.size + 1 + 1)) := grownBy_set5 W0 _ ⟨3, tn, ⟨#[]⟩, none, 0, 0, none, 0, 0⟩
  obtain ⟨W1, hW1⟩ : ∃ W1, (((((W0.setCell ⟨w.heap.size + 1 + 1, 0, none⟩ (.int .i64 3)).setCell ⟨w.heap.size + 1 + 1, 1, none⟩ (.int .i64 tn)).setCell ⟨w.heap.size + 1 + 1, 2, none⟩ (.string ⟨#[]⟩)).setCell ⟨w.heap.size + 1 + 1, 3, none⟩ (.slice none 0 0)).setCell ⟨w.heap.size + 1 + 1, 4, none⟩ (.slice none 0 0)) = W1 := ⟨_, rfl⟩
  rw [hW1] at hv hg
  try rw [hW1]
  clear hW1
  obtain ⟨h1, h2, h3⟩ := HK.out 3 tn ⟨#[]⟩ W1 hv hg
  obtain ⟨p, nn, c, hr, hrd⟩ := h2.ex
  have c2 := hr.cell 2 rfl
  have z2 := hr.frozen 2
  have hgx := grownBy_set W1 g 2 (.int .i64 ((pa : Int) + 1))
  have hR3 : RdS (W1.setCell ⟨g, 2, none⟩ (.int .i64 ((pa : Int) + 1))) g ts en (pa + 1) := ⟨p, nn, c, hr.set2' _ _ (by omega), hrd.below (below_of hgx (by have := hr.lt; omega) (fun k e => by cases e; exact Nat.le_refl _)) (Nat.le_refl _)⟩
  have hV3 := h1.keep (hgx.block _ h1.lt (by simp; omega))
  have hV4 := hv.keep (hgx.block _ hv.lt (by simp; omega))
  have hG3 := h3.keep_some hgx
  go_upto_region 20 with fail
  have c3 := hR3.cell2
  obtain ⟨W2, hW2⟩ : ∃ W2, W1.setCell ⟨g, 2, none⟩ (.int .i64 ((pa : Int) + 1)) = W2 := ⟨_, rfl⟩
  rw [hW2] at hR3 hV3 hV4 hG3 c3
  try rw [hW2]
  clear hW2 c2 z2 v0 v1 v2 v3 v4 y0 y1 y2 y3 y4 a0 a1 a2 hgx hr hrd h1 h2 h3 hv hg
  obtain ⟨v0, v1, v2, v3, v4⟩ := hV4.cells5
  obtain ⟨z0, z1, z2, z3, z4⟩ := hV3.cells5
  have y0 := hV3.frozen 0
  have y1 := hV3.frozen 1
  have y2 := hV3.frozen 2
  have y3 := hV3.frozen 3
  have y4 := hV3.frozen 4
  dsimp only [RV.zero] at v0 v1 v2 v3 v4 z0 z1 z2 z3 z4
  have HR3 := Lib.hid hR3
  have HV3 := Lib.hid hV3
  have HG3 := Lib.hid hG3
  clear hR3 hV3 hV4 hG3
  go_wp2_with fail
  exact bodyPost_ret (v := RV.val ⟨3, tn, ⟨#[]⟩, none, 0, 0, none, 0, 0⟩) (by simp [results, Tryz.results78, go_sem, z0, z1, z2, z3, z4]) rfl (HF.out 3 tn ⟨#[]⟩ W2 HV3.out HR3.out HG3.out)
theorem infoTok : (Tryz.prog.info? 115).map (fun i => (i.zero, i.size, i.bytes)) = some (some (.agg #[.int .i64 0, .int .i64 0, .string ByteArray.empty, .int .i64 0]), 4, 40) := by kernel_rfl
theorem slTok : SlT Tryz.prog 104 115 4 40 := SlT.mk Tryz.underlying104 infoTok rfl
def ScAt (W : World) (g : Nat) (s : ByteArray) (i : Nat) (v : Value) : Prop := W.heap[g]? = some (.cells #[.string s, .int .i64 i, v] 146 (0, 0))
theorem ScAt.lt {W : World} {g i : Nat} {s : ByteArray} {v : Value} (h : ScAt W g s i v) : g < W.heap.size := (Array.getElem?_eq_some_iff.1 h).1
theorem ScAt.cell {W : World} {g i : Nat} {s : ByteArray} {v : Value} (h : ScAt W g s i v) (j : Nat) {u : Value} (hu : [Value.string s, .int .i64 i, v][j]? = some u) : W.cell? ⟨g, j, none⟩ = some u := by
 unfold ScAt at h
 rw [cell_of_row W g j _ _ _ h, <- Array.getElem?_toList]
 exact hu
theorem ScAt.frozen {W : World} {g i : Nat} {s : ByteArray} {v : Value} (h : ScAt W g s i v) (j : Nat) : W.frozen? ⟨g, j, none⟩ = false := by
 unfold ScAt at h
 simp [World.frozen?, h]
theorem ScAt.under {W W' : World} {g i B : Nat} {s : ByteArray} {v : Value} (h : ScAt W g s i v) (hb : Below B W W') (hg : g < B) : ScAt W' g s i v := (hb.block g hg).trans h
theorem ScAt.keptR {W W' : World} {g i : Nat} {s : ByteArray} {v : Value} {row : Option Nat} (h : ScAt W g s i v) (hg : W.grownBy W' row) (hne : row ≠ some g) : ScAt W' g s i v := (hg.block g h.lt (fun e => hne e.symm)).trans h
theorem ScAt.set1 {W : World} {g i : Nat} {s : ByteArray} {v : Value} (h : ScAt W g s i v) (k : Nat) : ScAt (W.setCell ⟨g, 1, none⟩ (.int .i64 k)) g s k v := by
 unfold ScAt at h ⊢
 simp [World.setCell, Array.getElem?_modify, h]
theorem ScAt.set2 {W : World} {g i : Nat} {s : ByteArray} {v : Value} (h : ScAt W g s i v) (u : Value) : ScAt (W.setCell ⟨g, 2, none⟩ u) g s i u := by
 unfold ScAt at h ⊢
 simp [World.setCell, Array.getElem?_modify, h]
structure ScS (w W : World) (g : Nat) (s : ByteArray) (i : Nat) (l : List Tok) : Prop where
 ex : ∃ v, ScAt W g s i v /\ Own W (g + 1) 115 encTok 4 v l
 below : Below g w W
theorem lay_any (w : World) (g i k n a : Nat) (s x : ByteArray) (kd : Int) (l : List Tok) (hS : ScS w w g s i l) (hl : l.length <= 65536) :
 Calls Tryz.prog 139 #[.pointer (some ⟨g, 0, none⟩), .agg #[.int .i64 kd, .int .i64 n, .string x, .int .i64 a], .int .i64 k] w fun e w' => e = .returned (.tuple #[]) /\ ScS w w' g s k (l ++ [⟨kd, n, x, i⟩]) := by
 obtain ⟨⟨v, h1, h2⟩, h3⟩ := hS
 obtain ⟨p0, n0, c0', rfl⟩ : ∃ p n c, v = Value.slice p n c := (by obtain ⟨p, c, hv, _, _⟩ := h2.len; exact ⟨p, _, c, hv⟩)
 have hg := h1.lt
 have hA : Below w.heap.size w (w.alloc (.cells #[.int .i64 kd, .int .i64 n, .string x, .int .i64 a] 115)) := (Below.refl _ _).alloc (Nat.le_refl _) _
 have hB : (w.alloc (.cells #[.int .i64 kd, .int .i64 n, .string x, .int .i64 a] 115)).heap[w.heap.size]? = some (.cells #[.int .i64 kd, .int .i64 n, .string x, .int .i64 a] 115 (0, 0)) := heap_alloc_at rfl
 have hs1 : (w.alloc (.cells #[.int .i64 kd, .int .i64 n, .string x, .int .i64 a] 115)).heap.size = w.heap.size + 1 := by simp
 obtain ⟨W1, hW1⟩ : ∃ W1, w.alloc (.cells #[.int .i64 kd, .int .i64 n, .string x, .int .i64 a] 115) = W1 := ⟨_, rfl⟩
 rw [hW1] at hA hB hs1
 have HLT : Hid (∀ k, (Value.slice p0 n0 c0').ownBlock = some k -> g + 1 <= k /\ k < w.heap.size) := h2.lt
 have HC1 := Lib.hid (h1.under hA hg)
 have HO1 := Lib.hid (h2.below hA (Nat.le_refl _))
 have H3 := Lib.hid (h3.trans (hA.mono (Nat.le_of_lt hg)))
 have HS1 := Lib.hid hs1
 have HL : Hid (l.length <= 65536) := hl
 clear h1 h2 h3 hA hs1 hl
 go_enter Tryz.func139, Tryz.ntmps139
 go_upto_region 1 with fail
 try rw [hW1]
 clear hW1
 have c1 := HC1.out.cell 1 (u := .int .i64 i) rfl
 have t3 : W1.cell? ⟨w.heap.size, 3, none⟩ = some (.int .i64 a) := by rw [cell_of_row W1 w.heap.size 3 _ _ _ hB]; rfl
 have t4 : W1.frozen? ⟨w.heap.size, 3, none⟩ = false := by simp [World.frozen?, hB]
 have hgw : g ≠ w.heap.size := by omega
 have hgw1 : w.heap.size < W1.heap.size := by have := HS1.out; omega
 go_upto_region 2 with fail
 have hg2 := grownBy_set W1 w.heap.size 3 (.int .i64 (i : Int))
 have hB2 : (W1.setCell ⟨w.heap.size, 3, none⟩ (.int .i64 (i : Int))).heap[w.heap.size]? = some (.cells #[.int .i64 kd, .int .i64 n, .string x, .int .i64 i] 115 (0, 0)) := by simp [World.setCell, Array.getElem?_modify, hB]
 have hC2 := HC1.out.keptR hg2 (fun e => hgw (by injection e with e; exact e.symm))
 have hO2 : Own (W1.setCell ⟨w.heap.size, 3, none⟩ (.int .i64 (i : Int))) (g + 1) 115 encTok 4 (.slice p0 n0 c0') l := HO1.out.same (fun k e => hg2.block k (HO1.out.lt k e).2 (fun e2 => by have := HLT.out k e; injection e2 with e2; omega))
 have hb2 : Below g w (W1.setCell ⟨w.heap.size, 3, none⟩ (.int .i64 (i : Int))) := H3.out.grown hg2 (by omega) (fun k e => by injection e with e; omega)
 obtain ⟨W2, hW2⟩ : ∃ W2, W1.setCell ⟨w.heap.size, 3, none⟩ (.int .i64 (i : Int)) = W2 := ⟨_, rfl⟩
 rw [hW2] at hB2 hC2 hO2 hb2
 try rw [hW2]
 have hz2 : g < W2.heap.size := hC2.lt
 have hw2 : w.heap.size < W2.heap.size := by rw [<- hW2]; simpa using hgw1
 clear hW2 c1 t3 t4 hg2
 have t0 : W2.cell? ⟨w.heap.size, 0, none⟩ = some (.int .i64 kd) := by rw [cell_of_row W2 w.heap.size 0 _ _ _ hB2]; rfl
 have t1 : W2.cell? ⟨w.heap.size, 1, none⟩ = some (.int .i64 n) := by rw [cell_of_row W2 w.heap.size 1 _ _ _ hB2]; rfl
 have t2 : W2.cell? ⟨w.heap.size, 2, none⟩ = some (.string x) := by rw [cell_of_row W2 w.heap.size 2 _ _ _ hB2]; rfl
 have t3 : W2.cell? ⟨w.heap.size, 3, none⟩ = some (.int .i64 i) := by rw [cell_of_row W2 w.heap.size 3 _ _ _ hB2]; rfl
 have c2 := hC2.cell 2 (u := .slice p0 n0 c0') rfl
 have HOX : Hid (Own (W2.alloc (.cells #[.int .i64 kd, .int .i64 n, .string x, .int .i64 i] 115)) (g + 1) 115 encTok 4 (.slice p0 n0 c0') l) := hO2.below ((Below.refl _ _).alloc (Nat.le_refl _) _) (Nat.le_refl _)
 have HRX : Hid (Rd (W2.alloc (.cells #[.int .i64 kd, .int .i64 n, .string x, .int .i64 i] 115)) (W2.heap.size + 1) encTok 4 (.slice (some ⟨W2.heap.size, 0, none⟩) 1 1) [(⟨kd, n, x, i⟩ : Tok)]) := Rd.one codecTok (heap_alloc_at rfl) rfl (by omega)
 have HCX : Hid (ScAt (W2.alloc (.cells #[.int .i64 kd, .int .i64 n, .string x, .int .i64 i] 115)) g s i (.slice p0 n0 c0')) := hC2.under ((Below.refl _ _).alloc (Nat.le_refl _) _) hz2
 have HBX : Hid (Below g w (W2.alloc (.cells #[.int .i64 kd, .int .i64 n, .string x, .int .i64 i] 115))) := hb2.alloc (by omega) _
 have HW2 : Hid (w.heap.size < W2.heap.size /\ g < w.heap.size) := ⟨hw2, hg⟩
 clear hC2 hO2 hb2 hB2
 go_region_law
  (first
   | (refine step_append_rd slTok codecTok (W2.alloc (.cells #[.int .i64 kd, .int .i64 n, .string x, .int .i64 i] 115)).drew (by rfl) (.tmp 15) (.tmp 17) (by rfl) (v := .slice p0 n0 c0') (by rfl) (by rfl) HOX.out HRX.out (by have := HL.out; simp only [List.length_singleton]; unfold maxLen; omega) (by have := HL.out; simp only [List.length_singleton]; omega) (by have := HW2.out; show g + 1 <= (W2.alloc _).heap.size; simp; omega) ?_
      intro v9 w9 ho9 hg9 hat9
      obtain ⟨p9, n9, c9, rfl⟩ : ∃ p n c, v9 = Value.slice p n c := (by obtain ⟨p, c, hv, h1, h2⟩ := ho9.len; exact ⟨p, _, c, hv⟩)
      have H9 : ScAt w9 g s i (.slice p0 n0 c0') := (hg9.block g (by have := HCX.out.lt; exact this) (fun e => by have := (HOX.out.lt _ e.symm).1; omega)).trans HCX.out
      have b2 := H9.cell 2 (u := .slice p0 n0 c0') rfl
      have bf := H9.frozen 2
      have b1 := H9.cell 1 (u := .int .i64 i) rfl
      have bf1 := H9.frozen 1)
   | fail)
 all_goals
  have HB9 : Below g w w9 := (show Below g w (W2.alloc (.cells #[.int .i64 kd, .int .i64 n, .string x, .int .i64 i] 115)).drew from HBX.out.drew).grown hg9 (by have := HW2.out; show g <= (W2.alloc _).heap.size; simp; omega) (fun k e => by have := (HOX.out.lt k e).1; omega)
  have HN9 := H9.set2 (.slice p9 n9 c9)
  have HN10 := HN9.set1 k
  have hg10 := (grownBy_set w9 g 2 (.slice p9 n9 c9)).trans (grownBy_set _ g 1 (.int .i64 (k : Int)))
  have ho10 := ho9.same (w' := (w9.setCell ⟨g, 2, none⟩ (.slice p9 n9 c9)).setCell ⟨g, 1, none⟩ (.int .i64 (k : Int))) (fun j e => hg10.block j (ho9.lt j e).2 (fun e2 => by have := (ho9.lt j e).1; injection e2 with e2; omega))
  have hb10 := HB9.grown hg10 (by have := H9.lt; omega) (fun j e => by injection e with e; omega)
  go_wp2_with fail
  go_end0
  exact ⟨rfl, ⟨⟨_, HN10, ho10⟩, hb10⟩⟩
theorem index_ge : ∀ (l : List UInt8) (c : UInt8), decide (0 <= Lib.indexByte l c) = l.any (fun b => decide (b = c))
 | [], c => by simp [Lib.indexByte]
 | b :: l, c => by
   have ih := index_ge l c
   unfold Lib.indexByte
   rw [List.any_cons]
   by_cases h : b = c
   ·simp [h]
   ·have h2 : (b == c) = false := by simpa using h
    rw [h2, if_neg (by decide), decide_eq_false h, Bool.false_or, <- ih]
    by_cases h3 : Lib.indexByte l c = -1
    ·simp [h3]
    ·have h4 : (Lib.indexByte l c == -1) = false := by simpa using h3
     rw [h4, if_neg (by decide)]
     have h5 : -1 <= Lib.indexByte l c := index_min l c
     by_cases h6 : 0 <= Lib.indexByte l c
     ·rw [decide_eq_true h6, decide_eq_true (by omega)]
     ·omega
where index_min : ∀ (l : List UInt8) (c : UInt8), -1 <= Lib.indexByte l c
 | [], c => by simp [Lib.indexByte]
 | b :: l, c => by
   have ih := index_min l c
   unfold Lib.indexByte
   split
   ·omega
   ·split
    ·omega
    ·omega
theorem u8_eq (b c : UInt8) : (b = c) = (c.toNat = b.toNat) := by
 apply propext
 constructor
 ·intro h; rw [h]
 ·intro h; exact (UInt8.toNat_inj.1 h).symm
theorem sp_index (c : UInt8) : decide (0 <= Lib.indexByte [32, 9, 10, 13] c) = spCh c := by
 rw [index_ge]
 simp only [List.any_cons, List.any_nil, Bool.or_false, u8_eq, spCh]
 simp only [Bool.or_assoc]
 rfl
theorem mk_index (c : UInt8) : decide (0 <= Lib.indexByte [123, 125, 91, 93, 58, 44] c) = mkCh c := by
 rw [index_ge]
 simp only [List.any_cons, List.any_nil, Bool.or_false, u8_eq, mkCh]
 simp only [Bool.or_assoc]
 rfl
end
section
open Go.RowKit
theorem cloneV_any {α : Type} {enc : α -> List Value} (C : Codec enc 5) (w : World) (p : Option Addr) (n c : Nat) (xs : List α) (hv : Rd w w.heap.size enc 5 (.slice p n c) xs) (hsz : xs.length * 80 <= 140737488355328) :
 Calls Tryz.prog 69 #[.slice p n c] w fun e w' => ∃ p' c', e = .returned (.slice p' n c') /\ (p = none ↔ p' = none) /\ Own w' w.heap.size 25 enc 5 (.slice p' n c') xs /\ Below w.heap.size w w' := by
 have hn : n = xs.length := by
  obtain ⟨_, _, e, _⟩ := hv
  simp only [Value.slice.injEq] at e; exact e.2.1
 subst hn
 have HS := Lib.hid hsz
 have HV := Lib.hid hv
 cases p with
 | none =>
   have h0 : xs.length = 0 /\ c = 0 := by
    obtain ⟨p', cap, he, hlc, hcm, hp0, hp⟩ := hv
    simp only [Value.slice.injEq] at he
    obtain ⟨rfl, h1, rfl⟩ := he
    have := hp0 rfl
    omega
   obtain ⟨h0, rfl⟩ := h0
   obtain rfl := List.eq_nil_of_length_eq_zero h0
   have hnil : ∀ W, (Go.binOp .eql 22 (.slice none 0 0) (.slice none 0 0)).run Tryz.prog W = .ok (.bool true) W := fun W => Lib.run_eql_slice_nil W 22 25 none 0 0 0 0 Tryz.underlying22
   clear hv
   go_enter Tryz.func69, Tryz.ntmps69
   go_wp2
   go_ret
   exact ⟨none, 0, rfl, by simp, Own.nil w _ _, Below.refl _ _⟩
 | some a =>
   have hnil : ∀ W, (Go.binOp .eql 22 (.slice (some a) xs.length c) (.slice none 0 0)).run Tryz.prog W = .ok (.bool false) W := fun W => Lib.run_eql_slice_nil W 22 25 (some a) xs.length c 0 0 Tryz.underlying22
   have hO : Own (w.alloc (.cells #[] 25)) w.heap.size 25 enc 5 (.slice (some ⟨w.heap.size, 0, none⟩) 0 0) ([] : List α) := Own.made (Nat.le_refl _)
   have hB0 : Below w.heap.size w (w.alloc (.cells #[] 25)) := (Below.refl _ _).alloc (Nat.le_refl _) _
   have HR := Lib.hid (HV.out.below hB0 (Nat.le_refl _))
   clear hv
   go_enter Tryz.func69, Tryz.ntmps69
   go_wp2_with (at_builtin; refine wpList_append_rd slV C (w.alloc (.cells #[] 25)) rfl (.tmp 5) (.tmp 6) rfl (v := .slice (some ⟨w.heap.size, 0, none⟩) 0 0) rfl rfl hO HR.out (by have := HS.out; simp; unfold maxLen; omega) (by have := HS.out; simp; omega) (by simp) ?_; intro v1 w1 ho1 hg1 hat1)
   have hb1 : Below w.heap.size w w1 := Below.appended hB0 hg1 hO (by simp)
   rw [List.nil_append] at ho1
   obtain ⟨p1, c1, rfl, _, _⟩ := ho1.len
   have hp1 : p1 ≠ none := by
    rintro rfl
    rcases hat1 with h | h <;> simp [Value.ownBlock] at h
   go_ret
   refine ⟨p1, c1, rfl, ⟨(fun h => by cases h), (fun h => absurd h hp1)⟩, ho1, hb1⟩
end
section
open Go Go.RowKit Go.OpenShut
theorem leaf_tree (w : World) (B : Nat) (k : Int) (q : ByteArray) : TreeOf w B (.mk k 0 q [] []) ⟨k, 0, q, none, 0, 0, none, 0, 0⟩ :=
 TreeOf.mk (r := ⟨k, 0, q, none, 0, 0, none, 0, 0⟩) (rs := []) (rms := []) (Rd.nil _ _) rfl (fun i t q h => by simp at h) (Rd.nil _ _) rfl (fun i p q h => by simp at h) (fun i p q h => by simp at h)
end
end Go.Proofs.YtffhccmppdgmfaaGreatDoor
