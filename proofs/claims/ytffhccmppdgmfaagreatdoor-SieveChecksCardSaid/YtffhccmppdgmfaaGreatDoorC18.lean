import Derived.Test.YtffhccmppdgmfaaGreatDoorC13
import Derived.Test.YtffhccmppdgmfaaGreatDoorC04
import Derived.Test.YtffhccmppdgmfaaGreatDoorC17
import Derived.Test.YtffhccmppdgmfaaGreatDoorC03
import Derived.Test.YtffhccmppdgmfaaGreatDoorC08
import Derived.Test.YtffhccmppdgmfaaGreatDoorC05
import Derived.Test.YtffhccmppdgmfaaGreatDoorC15
import Derived.Test.YtffhccmppdgmfaaGreatDoorRows
import Derived.ChangeArms
import Derived.ChangeMaps5
import Derived.LaidLaws
import Derived.LaidSub
import Derived.Lib.LaidTab
import Derived.Lib.SmallJoins
import Derived.MakeChecks
import Derived.OpenShut
import Derived.Shelf.Vars
import Derived.Test.YtffhccmppdgmfaaGreatDoorC01
set_option linter.unusedSimpArgs false
set_option linter.unusedVariables false
set_option maxRecDepth 200000
set_option maxHeartbeats 8000000
namespace Go.Proofs.YtffhccmppdgmfaaGreatDoor
section
open Go Go.RowKit
def svInBook : ByteArray := ⟨#[105, 110, 65, 100, 100, 114, 101, 115, 115, 66, 111, 111, 107]⟩
def svBookIds : ByteArray := ⟨#[97, 100, 100, 114, 101, 115, 115, 66, 111, 111, 107, 73, 100, 115]⟩
def svUid : ByteArray := ⟨#[117, 105, 100]⟩
def svHasMem : ByteArray := ⟨#[104, 97, 115, 77, 101, 109, 98, 101, 114]⟩
def svMembers : ByteArray := ⟨#[109, 101, 109, 98, 101, 114, 115]⟩
def svIndiv : ByteArray := ⟨#[105, 110, 100, 105, 118, 105, 100, 117, 97, 108]⟩
def svCrBef : ByteArray := ⟨#[99, 114, 101, 97, 116, 101, 100, 66, 101, 102, 111, 114, 101]⟩
def svCrAft : ByteArray := ⟨#[99, 114, 101, 97, 116, 101, 100, 65, 102, 116, 101, 114]⟩
def svUpBef : ByteArray := ⟨#[117, 112, 100, 97, 116, 101, 100, 66, 101, 102, 111, 114, 101]⟩
def svUpAft : ByteArray := ⟨#[117, 112, 100, 97, 116, 101, 100, 65, 102, 116, 101, 114]⟩
def svOper : ByteArray := ⟨#[111, 112, 101, 114, 97, 116, 111, 114]⟩
def svConds : ByteArray := ⟨#[99, 111, 110, 100, 105, 116, 105, 111, 110, 115]⟩
def svAnd : ByteArray := ⟨#[65, 78, 68]⟩
def svOr : ByteArray := ⟨#[79, 82]⟩
def svNot : ByteArray := ⟨#[78, 79, 84]⟩
def isFieldB (n : ByteArray) : Bool := decide (n = svText) || (decide (n = givenN) || (decide (n = surN) || allF.any (fun y => decide (y = n))))
def stampB (n : ByteArray) : Bool := decide (n = svCrBef) || (decide (n = svCrAft) || (decide (n = svUpBef) || decide (n = svUpAft)))
def askB (n : ByteArray) : Bool := decide (n = svInBook) || (decide (n = svUid) || (decide (n = svHasMem) || (decide (n = kindN) || stampB n)))
def rightC (n : ByteArray) (x : JV) : Bool := decide (x.k = 4) && (decide (x.s.size <= 255) && ((!isFieldB n || decide (x.s.size <= 64)) && ((!decide (n = svInBook) || idB x.s) && (!stampB n || (secF x.s.data.toList).isSome))))
def condE (n : ByteArray) (x : JV) : Int := if askB n || isFieldB n then (if rightC n x then 0 else 1) else 200
def condsE : List (ByteArray × JV) -> Int
 | [] => 0
 | p :: r => if condE p.1 p.2 = 0 then condsE r else condE p.1 p.2
def opOk (t : JV) : Bool := decide (t.m.length = 2) && (decide (((t.get svOper).getD JV.zero).k = 4) && ((decide (((t.get svOper).getD JV.zero).s = svAnd) || (decide (((t.get svOper).getD JV.zero).s = svOr) || decide (((t.get svOper).getD JV.zero).s = svNot))) && decide (((t.get svConds).getD JV.zero).k = 5)))
def condsL (t : JV) : List JV := ((t.get svConds).getD JV.zero).l
mutual
def chkF : JV -> Int
 | .mk k n s l m => if k = 6 then (if ((JV.mk k n s l m).get svOper).isSome then (if opOk (.mk k n s l m) then chkC m else 1) else condsE m) else 1
def chkC : List (ByteArray × JV) -> Int
 | [] => 0
 | (a, v) :: r => if a = svConds then chkV v else chkC r
def chkV : JV -> Int
 | .mk _ _ _ l _ => chkFL l
def chkFL : List JV -> Int
 | [] => 0
 | x :: r => if chkF x = 0 then chkFL r else chkF x
end
def checkJ (f : JV) : Int := if f.k = 1 then 0 else if 30 < countT f then 200 else chkF f
def hasJ (v : JV) (name s : ByteArray) : Bool := match v.get name with | some x => (x.get s).isSome | none => false
def aheadO (v : JV) (name s : ByteArray) : Option Bool := match textM v name with | [] => none | x :: _ => some (decide (cmpS x.data.toList s.data.toList < 0))
def condB (v : JV) (n s : ByteArray) : Bool :=
 if n = svInBook then hasJ v svBookIds s else
 if n = svUid then decide (textM v svUid = [s]) else
 if n = svHasMem then hasJ v svMembers s else
 if n = kindN then (if (v.get kindN).isSome then decide (textM v kindN = [s]) else decide (s = svIndiv)) else
 if n = svCrBef then decide (aheadO v createdN s = some true) else
 if n = svCrAft then decide (aheadO v createdN s = some false) else
 if n = svUpBef then decide (aheadO v updatedN s = some true) else
 if n = svUpAft then decide (aheadO v updatedN s = some false) else matchF s.data.toList (textsJ v n)
def combB (o : ByteArray) (bs : List Bool) : Bool := if o = svAnd then bs.all id else if o = svOr then bs.any id else !bs.any id
mutual
def holF (v : JV) : JV -> Bool
 | .mk k n s l m => match (JV.mk k n s l m).get svOper with
   | some o => combB o.s (holC v m)
   | none => m.all (fun p => condB v p.1 p.2.s)
def holC (v : JV) : List (ByteArray × JV) -> List Bool
 | [] => []
 | (a, x) :: r => if a = svConds then holV v x else holC v r
def holV (v : JV) : JV -> List Bool
 | .mk _ _ _ l _ => holL v l
def holL (v : JV) : List JV -> List Bool
 | [] => []
 | x :: r => holF v x :: holL v r
end
def holdsJ (f v : JV) : Bool := decide (v.k = 6) && (decide (checkJ f = 0) && holF v f)
theorem memS_six {t : JV} (h : t.k = 6) : t.mem = t.m := by cases t; exact if_pos h
theorem memS_not {t : JV} (h : t.k ≠ 6) : t.mem = [] := by cases t; exact if_neg h
theorem getS_not {t : JV} (h : t.k ≠ 6) (n : ByteArray) : t.get n = none := by
 unfold JV.get JV.place
 rw [memS_not h]
 rfl
theorem mem_get_cons (p : ByteArray × JV) (m : List (ByteArray × JV)) (n : ByteArray) : ((p :: m).findIdx? (fun q => decide (q.1 = n))).bind (fun i => (p :: m)[i]?.map (·.2)) = if p.1 = n then some p.2 else (m.findIdx? (fun q => decide (q.1 = n))).bind (fun i => m[i]?.map (·.2)) := by
 rw [List.findIdx?_cons]
 by_cases h : p.1 = n
 ·rw [if_pos h, if_pos (by simpa using h)]
  rfl
 ·rw [if_neg h, if_neg (by simpa using h)]
  cases m.findIdx? (fun q => decide (q.1 = n)) <;> rfl
theorem getS_mOf {t : JV} (h : t.k = 6) (n : ByteArray) : t.get n = mOf t.m n := by
 unfold JV.get JV.place mOf
 rw [memS_six h]
 induction t.m with
 | nil => rfl
 | cons p r ih =>
   rw [mem_get_cons, List.find?_cons]
   by_cases hp : p.1 = n
   ·rw [if_pos hp, decide_eq_true hp]
    rfl
   ·rw [if_neg hp, decide_eq_false hp]
    exact ih
theorem mOfS_cons (p : ByteArray × JV) (m : List (ByteArray × JV)) (n : ByteArray) : mOf (p :: m) n = if p.1 = n then some p.2 else mOf m n := by
 unfold mOf
 rw [List.find?_cons]
 by_cases hp : p.1 = n
 ·rw [if_pos hp, decide_eq_true hp]
  rfl
 ·rw [if_neg hp, decide_eq_false hp]
theorem get_k {t x : JV} {n : ByteArray} (h : t.get n = some x) : t.k = 6 := by
 by_cases hk : t.k = 6
 ·exact hk
 ·rw [getS_not hk] at h
  cases h
theorem chkV_eq (v : JV) : chkV v = chkFL v.l := by cases v; rw [chkV]; rfl
theorem holV_eq (v x : JV) : holV v x = holL v x.l := by cases x; rw [holV]; rfl
theorem chkC_eq (m : List (ByteArray × JV)) : chkC m = chkFL ((mOf m svConds).getD JV.zero).l := by
 induction m with
 | nil => rw [chkC]; rfl
 | cons p r ih =>
   obtain ⟨a, v⟩ := p
   rw [chkC, mOfS_cons]
   by_cases h : a = svConds
   ·rw [if_pos h, if_pos h, chkV_eq]
    rfl
   ·rw [if_neg h, if_neg h, ih]
theorem holC_eq (v : JV) (m : List (ByteArray × JV)) : holC v m = holL v ((mOf m svConds).getD JV.zero).l := by
 induction m with
 | nil => rw [holC]; rfl
 | cons p r ih =>
   obtain ⟨a, x⟩ := p
   rw [holC, mOfS_cons]
   by_cases h : a = svConds
   ·rw [if_pos h, if_pos h, holV_eq]
    rfl
   ·rw [if_neg h, if_neg h, ih]
theorem holL_eq (v : JV) (l : List JV) : holL v l = l.map (holF v) := by
 induction l with
 | nil => rw [holL]; rfl
 | cons x r ih => rw [holL, ih]; rfl
theorem chkF_eq (t : JV) : chkF t = if t.k = 6 then (if (t.get svOper).isSome then (if opOk t then chkFL (condsL t) else 1) else condsE t.m) else 1 := by
 cases t with
 | mk k n s l m =>
   rw [chkF]
   show (if k = 6 then _ else _) = if k = 6 then _ else _
   by_cases h : k = 6
   ·rw [if_pos h, if_pos h, chkC_eq]
    unfold condsL
    rw [getS_mOf (t := JV.mk k n s l m) h svConds]
    rfl
   ·rw [if_neg h, if_neg h]
theorem holF_eq (v t : JV) : holF v t = match t.get svOper with | some o => combB o.s ((condsL t).map (holF v)) | none => t.m.all (fun p => condB v p.1 p.2.s) := by
 cases t with
 | mk k n s l m =>
   rw [holF]
   cases h : (JV.mk k n s l m).get svOper with
   | none => rfl
   | some o =>
     dsimp only
     rw [holC_eq, holL_eq]
     unfold condsL
     rw [getS_mOf (t := JV.mk k n s l m) (get_k h) svConds]
     rfl
theorem chkFL_drop {l : List JV} {j : Nat} {x : JV} (h : l[j]? = some x) : chkFL (l.drop j) = if chkF x = 0 then chkFL (l.drop (j + 1)) else chkF x := by
 obtain ⟨h1, h2⟩ := List.getElem?_eq_some_iff.1 h
 rw [List.drop_eq_getElem_cons h1, h2, chkFL]
theorem condsE_drop {l : List (ByteArray × JV)} {j : Nat} {x : ByteArray × JV} (h : l[j]? = some x) : condsE (l.drop j) = if condE x.1 x.2 = 0 then condsE (l.drop (j + 1)) else condE x.1 x.2 := by
 obtain ⟨h1, h2⟩ := List.getElem?_eq_some_iff.1 h
 rw [List.drop_eq_getElem_cons h1, h2]
 rfl
theorem all_drop {α : Type} {p : α -> Bool} {l : List α} {j : Nat} {x : α} (h : l[j]? = some x) : (l.drop j).all p = (p x && (l.drop (j + 1)).all p) := by
 obtain ⟨h1, h2⟩ := List.getElem?_eq_some_iff.1 h
 rw [List.drop_eq_getElem_cons h1, h2, List.all_cons]
theorem any_drop {α : Type} {p : α -> Bool} {l : List α} {j : Nat} {x : α} (h : l[j]? = some x) : (l.drop j).any p = (p x || (l.drop (j + 1)).any p) := by
 obtain ⟨h1, h2⟩ := List.getElem?_eq_some_iff.1 h
 rw [List.drop_eq_getElem_cons h1, h2, List.any_cons]
theorem condsL_lt {t x : JV} (h : x ∈ condsL t) : SizeOf.sizeOf x < SizeOf.sizeOf t := by
 unfold condsL at h
 cases hg : t.get svConds with
 | none =>
   rw [hg] at h
   cases h
 | some c =>
   rw [hg] at h
   obtain ⟨p, h1, rfl, _⟩ := get_memJ hg
   obtain ⟨i, hi⟩ := List.getElem?_of_mem h1
   obtain ⟨j, hj⟩ := List.getElem?_of_mem (show x ∈ p.2.l from h)
   cases t with
   | mk k n s l m =>
     change m[i]? = some p at hi
     have h3 := JV.lt_m (k := k) (n := n) (s := s) (l := l) hi
     cases hp : p.2 with
     | mk k' n' s' l' m' =>
       rw [hp] at hj h3
       change l'[j]? = some x at hj
       have h4 := JV.lt_l (k := k') (n := n') (s := s') (m := m') hj
       omega
theorem chkFL_zero {l : List JV} : chkFL l = 0 ↔ ∀ x ∈ l, chkF x = 0 := by
 induction l with
 | nil => simp [chkFL]
 | cons a r ih =>
   rw [chkFL]
   by_cases h : chkF a = 0
   ·rw [if_pos h, ih]
    simp [h]
   ·rw [if_neg h]
    constructor
    ·intro e
     exact absurd e h
    ·intro e
     exact absurd (e a (by simp)) h
theorem condsE_zero {m : List (ByteArray × JV)} : condsE m = 0 ↔ ∀ p ∈ m, condE p.1 p.2 = 0 := by
 induction m with
 | nil => simp [condsE]
 | cons a r ih =>
   unfold condsE
   by_cases h : condE a.1 a.2 = 0
   ·rw [if_pos h, ih]
    constructor
    ·intro e p hp
     rcases List.mem_cons.1 hp with rfl | hp
     ·exact h
     ·exact e p hp
    ·intro e p hp
     exact e p (List.mem_cons_of_mem _ hp)
   ·rw [if_neg h]
    constructor
    ·intro e
     exact absurd e h
    ·intro e
     exact absurd (e a (by simp)) h
theorem condE_wf (n : ByteArray) (x : JV) : condE n x = 0 \/ condE n x = 1 \/ condE n x = 200 := by
 unfold condE
 repeat' split
 all_goals first | exact .inl rfl | exact .inr (.inl rfl) | exact .inr (.inr rfl)
theorem condsE_wf (m : List (ByteArray × JV)) : condsE m = 0 \/ condsE m = 1 \/ condsE m = 200 := by
 induction m with
 | nil => exact .inl rfl
 | cons a r ih =>
   unfold condsE
   split
   ·exact ih
   ·exact condE_wf _ _
end
section
open Go Go.RowKit Go.OpenShut Go.Maps Go.WideMaps Go.ChangeMaps Go.MapKept Go.WideShapes
section
variable {P : Program} (w : World) {ops : Array Oper} {rest : List Oper} {o : Oper} {a : Act} {Q : Exit -> Act -> World -> Prop}
theorem wpList_insert_F (hg : o.guard = none) (m x v : Operand) (t : TypeId) (hop : o.op = Op.insert t m x v) (k e : TypeId) (hk : P.underlying k = some .string) (ht : P.underlying t = some (.map k e))
 (b n : Nat) (f : List UInt8 -> Option Value) (hm : a.eval m = .map (some b)) (hown : MapF w P k b n f) (hn : n < maxLen) (s : ByteArray) (hx : a.eval x = .string s) (hs : s.size <= maxLen) (val : Value) (hv : a.eval v = val)
 (hK : ∀ w', MapF w' P k b (n + 1) (fun u => if u = s.data.toList then some val else f u) -> w.grownBy w' (some b) -> wpList P ops Q rest (a.put o.dst undef) w') : wpList P ops Q (o :: rest) a w := by
 refine wpList_plain hg fun K' hK' => ?_
 obtain ⟨w', hrun, h1, h2⟩ := hown.store hk ht hn hs val
 unfold Oper.wp
 simp [execOp, hop, hm, hx, hv, hrun, Result.andThen]
 exact hK' _ _ (hK w' h1 h2)
end
def fnV (n : Nat) : Value := .func (.func n) #[] #[]
def askV (n : ByteArray) : Option Value :=
 if n = svUpAft then some (fnV 125) else
 if n = svUpBef then some (fnV 124) else
 if n = svCrAft then some (fnV 123) else
 if n = svCrBef then some (fnV 122) else
 if n = kindN then some (fnV 121) else
 if n = svHasMem then some (fnV 120) else
 if n = svUid then some (fnV 119) else
 if n = svInBook then some (fnV 118) else none
def AsksAt (w : World) (b : Nat) : Prop := ∃ f n, MapF w Tryz.prog 9 b n f /\ ∀ s : ByteArray, f s.data.toList = askV s
theorem AsksAt.below {B : Nat} {w w' : World} {b : Nat} (h : AsksAt w b) (hb : Below B w w') (hB : b < B) : AsksAt w' b := by
 obtain ⟨f, n, h1, h2⟩ := h
 exact ⟨f, n, h1.below hb hB, h2⟩
theorem AsksAt.lt {w : World} {b : Nat} (h : AsksAt w b) : b < w.heap.size := by
 obtain ⟨f, n, h1, h2⟩ := h
 exact h1.lt
theorem AsksAt.look {w : World} {b : Nat} (h : AsksAt w b) {s : ByteArray} (hs : s.size <= maxLen) : (Instr.lookup 131 (.map (some b)) (.string s) false).run Tryz.prog w = .ok ((askV s).getD .nilFunc) w := by
 obtain ⟨f, n, h1, h2⟩ := h
 have := h1.look Tryz.underlying9 Tryz.underlying131 (Tryz.zeroValue133 w) hs
 rw [h2] at this
 exact this
theorem toList_eqB {a b : ByteArray} : a.data.toList = b.data.toList ↔ a = b := ⟨fun h => ByteArray.ext (Array.toList_inj.1 h), fun h => by rw [h]⟩
theorem asks_any (w : World) : Calls Tryz.prog 93 #[] w fun e w' => ∃ b, e = .returned (.map (some b)) /\ AsksAt w' b /\ w.heap.size <= b /\ Below w.heap.size w w' := by
 have h0 : MapF (w.alloc (.map #[] 0)) Tryz.prog 9 w.heap.size 0 (fun _ => none) := MapF.made w Tryz.prog 9
 have hb0 : Below w.heap.size w (w.alloc (.map #[] 0)) := (Below.refl _ _).alloc (Nat.le_refl _) _
 obtain ⟨W0, hW0⟩ : ∃ W, w.alloc (.map #[] 0) = W := ⟨_, rfl⟩
 rw [hW0] at h0 hb0
 have HB0 := Lib.hid hb0
 have HM0 := Lib.hid h0
 clear h0 hb0
 obtain ⟨w1, hr1, hm1, hg1⟩ := HM0.out.store Tryz.underlying9 Tryz.underlying131 (by decide) (s := svInBook) (by decide) (fnV 118)
 have HM1 := Lib.hid hm1
 have HB1 : Hid (Below w.heap.size w w1) := HB0.out.grown hg1 HB0.out.size (fun k e => by cases e; exact Nat.le_refl _)
 clear hm1 hg1
 obtain ⟨w2, hr2, hm2, hg2⟩ := HM1.out.store Tryz.underlying9 Tryz.underlying131 (by decide) (s := svUid) (by decide) (fnV 119)
 have HM2 := Lib.hid hm2
 have HB2 : Hid (Below w.heap.size w w2) := HB1.out.grown hg2 HB1.out.size (fun k e => by cases e; exact Nat.le_refl _)
 clear hm2 hg2
 obtain ⟨w3, hr3, hm3, hg3⟩ := HM2.out.store Tryz.underlying9 Tryz.underlying131 (by decide) (s := svHasMem) (by decide) (fnV 120)
 have HM3 := Lib.hid hm3
 have HB3 : Hid (Below w.heap.size w w3) := HB2.out.grown hg3 HB2.out.size (fun k e => by cases e; exact Nat.le_refl _)
 clear hm3 hg3
 obtain ⟨w4, hr4, hm4, hg4⟩ := HM3.out.store Tryz.underlying9 Tryz.underlying131 (by decide) (s := kindN) (by decide) (fnV 121)
 have HM4 := Lib.hid hm4
 have HB4 : Hid (Below w.heap.size w w4) := HB3.out.grown hg4 HB3.out.size (fun k e => by cases e; exact Nat.le_refl _)
 clear hm4 hg4
 obtain ⟨w5, hr5, hm5, hg5⟩ := HM4.out.store Tryz.underlying9 Tryz.underlying131 (by decide) (s := svCrBef) (by decide) (fnV 122)
 have HM5 := Lib.hid hm5
 have HB5 : Hid (Below w.heap.size w w5) := HB4.out.grown hg5 HB4.out.size (fun k e => by cases e; exact Nat.le_refl _)
 clear hm5 hg5
 obtain ⟨w6, hr6, hm6, hg6⟩ := HM5.out.store Tryz.underlying9 Tryz.underlying131 (by decide) (s := svCrAft) (by decide) (fnV 123)
 have HM6 := Lib.hid hm6
 have HB6 : Hid (Below w.heap.size w w6) := HB5.out.grown hg6 HB5.out.size (fun k e => by cases e; exact Nat.le_refl _)
 clear hm6 hg6
 obtain ⟨w7, hr7, hm7, hg7⟩ := HM6.out.store Tryz.underlying9 Tryz.underlying131 (by decide) (s := svUpBef) (by decide) (fnV 124)
 have HM7 := Lib.hid hm7
 have HB7 : Hid (Below w.heap.size w w7) := HB6.out.grown hg7 HB6.out.size (fun k e => by cases e; exact Nat.le_refl _)
 clear hm7 hg7
 obtain ⟨w8, hr8, hm8, hg8⟩ := HM7.out.store Tryz.underlying9 Tryz.underlying131 (by decide) (s := svUpAft) (by decide) (fnV 125)
 have HM8 := Lib.hid hm8
 have HB8 : Hid (Below w.heap.size w w8) := HB7.out.grown hg8 HB7.out.size (fun k e => by cases e; exact Nat.le_refl _)
 clear hm8 hg8
 have HF : Hid (AsksAt w8 w.heap.size) := ⟨_, _, HM8.out, fun s => by
  simp only [toList_eqB]
  rfl⟩
 unfold fnV at hr1 hr2 hr3 hr4 hr5 hr6 hr7 hr8
 have e1 : svInBook = ⟨#[105, 110, 65, 100, 100, 114, 101, 115, 115, 66, 111, 111, 107]⟩ := rfl
 have e2 : svUid = ⟨#[117, 105, 100]⟩ := rfl
 have e3 : svHasMem = ⟨#[104, 97, 115, 77, 101, 109, 98, 101, 114]⟩ := rfl
 have e4 : kindN = ⟨#[107, 105, 110, 100]⟩ := rfl
 have e5 : svCrBef = ⟨#[99, 114, 101, 97, 116, 101, 100, 66, 101, 102, 111, 114, 101]⟩ := rfl
 have e6 : svCrAft = ⟨#[99, 114, 101, 97, 116, 101, 100, 65, 102, 116, 101, 114]⟩ := rfl
 have e7 : svUpBef = ⟨#[117, 112, 100, 97, 116, 101, 100, 66, 101, 102, 111, 114, 101]⟩ := rfl
 have e8 : svUpAft = ⟨#[117, 112, 100, 97, 116, 101, 100, 65, 102, 116, 101, 114]⟩ := rfl
 rw [e1] at hr1
 rw [e2] at hr2
 rw [e3] at hr3
 rw [e4] at hr4
 rw [e5] at hr5
 rw [e6] at hr6
 rw [e7] at hr7
 rw [e8] at hr8
 clear e1 e2 e3 e4 e5 e6 e7 e8
 have hmm := @run_makeMap Tryz.prog
 go_enter Tryz.func93, Tryz.ntmps93
 go_wp2_with fail
 go_ret
 exact ⟨_, rfl, HF.out, Nat.le_refl _, HB8.out⟩
theorem AllAt.rd {w : World} (h : AllAt w) : Rd w w.heap.size encS 1 (.slice (some ⟨0, 0, none⟩) 8 8) allF := by
 refine ⟨_, 8, rfl, Nat.le_refl _, by decide, (fun e => by cases e), fun a ha _ => ?_⟩
 cases ha
 refine ⟨_, 0, rfl, (cell_some (h 0 _ rfl)).2, fun i x hx j u hu => ?_⟩
 match j, hu with
 | 0, hu =>
   obtain rfl := Option.some.inj hu
   have := h i x hx
   simpa using this
 | j + 1, hu => simp [encS] at hu
theorem isField_in (n : ByteArray) : isFieldB n = ((n.toList == [116, 101, 120, 116]) || ((n.toList == [110, 97, 109, 101, 47, 103, 105, 118, 101, 110]) || ((n.toList == [110, 97, 109, 101, 47, 115, 117, 114, 110, 97, 109, 101]) || inB allF n))) := by
 rw [<- bytes_dec, <- bytes_dec, <- bytes_dec]
 rfl
theorem field_is (n : ByteArray) (w : World) (ha : AllAt w) : Calls Tryz.prog 114 #[.string n] w fun e w' => e = .returned (.bool (isFieldB n)) /\ w = w' := by
 have HC := Lib.hid (containsS_rd ha.rd (by decide) n)
 rw [isField_in]
 obtain ⟨a, h1⟩ : ∃ b, (n.toList == [116, 101, 120, 116]) = b := ⟨_, rfl⟩
 obtain ⟨b, h2⟩ : ∃ b, (n.toList == [110, 97, 109, 101, 47, 103, 105, 118, 101, 110]) = b := ⟨_, rfl⟩
 obtain ⟨c, h3⟩ : ∃ b, (n.toList == [110, 97, 109, 101, 47, 115, 117, 114, 110, 97, 109, 101]) = b := ⟨_, rfl⟩
 obtain ⟨d, h4⟩ : ∃ b, inB allF n = b := ⟨_, rfl⟩
 rw [h4] at HC
 rw [h1, h2, h3, h4]
 clear h4 ha
 cases a <;> cases b <;> cases c
 all_goals
  go_enter Tryz.func114, Tryz.ntmps114
  go_wp2_with (go_at_call 96; (with_reducible refine HC.out.mono ?_); rintro e w1 ⟨rfl, rfl⟩)
  go_ret
  exact ⟨rfl, rfl⟩
theorem stampIs_any (s : ByteArray) (w : World) (hs : s.size <= maxLen) : Calls Tryz.prog 116 #[.string s] w fun e w' => e = .returned (.bool (secF s.data.toList).isSome) /\ Below w.heap.size w w' := by
 have HC := Lib.hid (seconds_any s w hs)
 obtain ⟨o, ho⟩ : ∃ o, secF s.data.toList = o := ⟨_, rfl⟩
 rw [ho] at HC
 rw [ho]
 clear ho
 cases o
 all_goals
  unfold secRet at HC
  go_enter Tryz.func116, Tryz.ntmps116
  go_wp2_with (go_at_call 144; (with_reducible refine HC.out.mono ?_); rintro e w1 ⟨rfl, hb1⟩)
  go_ret
  exact ⟨rfl, hb1⟩
end
section
open Go Go.RowKit Go.OpenShut Go.Joins Go.ChangeShapes Go.WideShapes Go.ChangeAt Go.Lib
theorem gAll : Tryz.prog.globalNamed "cardbox/sieve.all" = some 0 := by kernel_rfl
theorem gAllType : (Tryz.prog.globals[0]?).map (·.type) = some 78 := by kernel_rfl
theorem all_data : (Rows.laid_cardbox_sieve_all : DataW Unit) = .agg (allF.map fun s => .lit (.string s.data.toList)) := by kernel_rfl
theorem all_of {l : List (String × DataW Unit)} {W : World} (hl : (l.filter fun x => x.1 == "cardbox/sieve.all") = [("cardbox/sieve.all", Rows.laid_cardbox_sieve_all)])
 (hn : (l.all fun x => x.2.handleName?.isNone) = true) (hL : laidMetH Tryz.prog l W) : AllAt W := by
 rw [MakeChecks.laidMetH_plain _ _ _ hn] at hL
 have h1 := hL.filter (fun x => x.1 == "cardbox/sieve.all")
 rw [hl, all_data] at h1
 obtain ⟨ps, ⟨g, t, cs, fuel, p, q, hg, ht, hv, hd, _, _⟩, _, _⟩ := h1
 obtain rfl := Option.some.inj (gAll.symm.trans hg)
 obtain rfl := Option.some.inj (gAllType.symm.trans ht)
 obtain ⟨xs, m, _, ex, _, hxl, hel⟩ := DataW.trod_array Tryz.underlying78 hd
 have c9 : Tryz.prog.cellsOf 9 = 1 := by kernel_rfl
 intro i x hx
 have hi : i < 8 := (List.getElem?_eq_some_iff.1 hx).1
 have hE := hel i hi
 rw [c9, Nat.mul_one, List.getElem?_eq_getElem (by omega)] at hE
 obtain ⟨z, e1, e2, _⟩ := DataW.trod_string Tryz.underlying9 hE
 have e3 : (xs.map (·.1)) = allF.map fun s => .lit (.string s.data.toList) := (DataW.agg.inj (Prod.mk.inj ex).1).symm
 have e4 : (xs.map (·.1))[i]? = (allF.map fun s => (DataW.lit (.string s.data.toList) : DataW Unit))[i]? := by rw [e3]
 rw [List.getElem?_map, List.getElem?_map, List.getElem?_eq_getElem (by omega : i < xs.length), hx, e2] at e4
 have hz : z = x := by
  simp only [Option.map_some, Option.some.injEq, DataW.lit.injEq, Lit.string.injEq] at e4
  exact ByteArray.ext (Array.toList_inj.1 e4)
 rw [World.var?_cell hg hv i, <- hz]
 have : cs.toList[i]? = some (.string z) := by
  have h0 : ((cs.toList.drop i).take 1)[0]? = some (.string z) := by rw [e1]; rfl
  simpa using h0
 simpa using this
theorem max_of {W : World} (hS : W.ShapedOpen Tryz.prog) : MaxAt W :=
 Go.Proofs.cell_of_shapedOpen_int (zero := #[.int .i64 0]) (t := 3) hS (of_decide_eq_true (by kernel_rfl)) (by kernel_rfl) rfl (by kernel_rfl) (by kernel_rfl) Tryz.underlying3
end
section
open Go Go.RowKit
def isM (t : Tok) (c : UInt8) : Bool := decide (t.kind = 1) && decide (t.s = ⟨#[c]⟩)
def bareJ (k n : Int) : JV := .mk k n ⟨#[]⟩ [] []
mutual
def parV : Nat -> Nat -> Nat -> List Tok -> Option (JV × Nat × List Tok)
 | 0, _, _, _ => none
 | _ + 1, _, _, [] => none
 | f + 1, deep, parts, t :: ts =>
   if 16 < deep \/ 8192 <= parts then none
   else if t.kind = 4 then some (.mk 4 0 t.s [] [], parts + 1, ts)
   else if t.kind = 2 then if t.s = wNull then some (bareJ 1 0, parts + 1, ts) else if t.s = wTrue then some (bareJ 2 1, parts + 1, ts) else some (bareJ 2 0, parts + 1, ts)
   else if isM t 91 then
    match ts with
    | [] => none
    | c :: r => if isM c 93 then some (.mk 5 0 ⟨#[]⟩ [] [], parts + 1, r) else (parL f deep (parts + 1) (c :: r)).map (fun x => (.mk 5 0 ⟨#[]⟩ x.1 [], x.2.1, x.2.2))
   else if isM t 123 then
    match ts with
    | [] => none
    | c :: r => if isM c 125 then some (.mk 6 0 ⟨#[]⟩ [] [], parts + 1, r) else (parM f deep (parts + 1) [] (c :: r)).map (fun x => (.mk 6 0 ⟨#[]⟩ [] x.1, x.2.1, x.2.2))
   else if t.kind = 3 then some (bareJ 3 t.n, parts + 1, ts)
   else none
def parL : Nat -> Nat -> Nat -> List Tok -> Option (List JV × Nat × List Tok)
 | 0, _, _, _ => none
 | f + 1, deep, parts, ts =>
   match parV f (deep + 1) parts ts with
   | some (v, p, c :: r) => if isM c 93 then some ([v], p, r) else if isM c 44 then (parL f deep p r).map (fun x => (v :: x.1, x.2.1, x.2.2)) else none
   | _ => none
def parM : Nat -> Nat -> Nat -> List ByteArray -> List Tok -> Option (List (ByteArray × JV) × Nat × List Tok)
 | f + 1, deep, parts, known, n :: col :: ts =>
   if (decide (n.kind = 4) && !(known.any (fun x => decide (x = n.s))) && decide (n.s.size <= 1048576) && isM col 58) = true then
    match parV f (deep + 1) parts ts with
    | some (v, p, c :: r) => if isM c 125 then some ([(n.s, v)], p, r) else if isM c 44 then (parM f deep p (n.s :: known) r).map (fun x => ((n.s, v) :: x.1, x.2.1, x.2.2)) else none
    | _ => none
   else none
 | _, _, _, _, _ => none
end
def readF (s : ByteArray) : Option JV := match toksF s (s.size + 1) 0 with
 | none => none
 | some ts => match parV (ts.length + 1) 1 0 ts with
   | some (v, _, []) => some v
   | _ => none
end
section
open Go Go.RowKit Go.OpenShut
abbrev Tok.val (t : Tok) : Value := .agg #[.int .i64 t.kind, .int .i64 t.n, .string t.s, .int .i64 t.pos]
abbrev Tok.obj (t : Tok) : Obj := .cells #[.int .i64 t.kind, .int .i64 t.n, .string t.s, .int .i64 t.pos] 115
def TokAt (W : World) (g : Nat) (t : Tok) : Prop := W.heap[g]? = some (.cells #[.int .i64 t.kind, .int .i64 t.n, .string t.s, .int .i64 t.pos] 115 (0, 0))
theorem TokAt.lt {W : World} {g : Nat} {t : Tok} (h : TokAt W g t) : g < W.heap.size := (Array.getElem?_eq_some_iff.1 h).1
theorem TokAt.cell {W : World} {g : Nat} {t : Tok} (h : TokAt W g t) (j : Nat) {u : Value} (hu : (encTok t)[j]? = some u) : W.cell? ⟨g, j, none⟩ = some u := by
 unfold TokAt at h
 rw [cell_of_row W g j _ _ _ h, <- Array.getElem?_toList]
 exact hu
theorem TokAt.frozen {W : World} {g : Nat} {t : Tok} (h : TokAt W g t) (j : Nat) : W.frozen? ⟨g, j, none⟩ = false := by
 unfold TokAt at h
 simp [World.frozen?, h]
theorem TokAt.keep {W W' : World} {g : Nat} {t : Tok} (h : TokAt W g t) (hk : W'.heap[g]? = W.heap[g]?) : TokAt W' g t := hk.trans h
theorem TokAt.stored {W : World} {g : Nat} {t : Tok} (h : TokAt W g t) (q : Tok) : TokAt ((((W.setCell ⟨g, 0, none⟩ (.int .i64 q.kind)).setCell ⟨g, 1, none⟩ (.int .i64 q.n)).setCell ⟨g, 2, none⟩ (.string q.s)).setCell ⟨g, 3, none⟩ (.int .i64 q.pos)) g q := by
 unfold TokAt at h ⊢
 simp [World.setCell, Array.getElem?_modify, h]
theorem grownBy_setT (W : World) (g : Nat) (q : Tok) : W.grownBy ((((W.setCell ⟨g, 0, none⟩ (.int .i64 q.kind)).setCell ⟨g, 1, none⟩ (.int .i64 q.n)).setCell ⟨g, 2, none⟩ (.string q.s)).setCell ⟨g, 3, none⟩ (.int .i64 q.pos)) (some g) :=
 (((grownBy_set W g 0 _).trans (grownBy_set _ g 1 _)).trans (grownBy_set _ g 2 _)).trans (grownBy_set _ g 3 _)
theorem rd_lens {α : Type} {enc : α -> List Value} {sz B : Nat} {w : World} {v : Value} {xs : List α} (h : Rd w B enc sz v xs) : ∃ p cap, v = .slice p xs.length cap /\ xs.length <= cap /\ cap <= 9223372036854775807 := by
 obtain ⟨p, cap, he, h1, h2, _⟩ := h
 exact ⟨p, cap, he, h1, h2⟩
def Tok.zero : Tok := ⟨0, 0, ⟨#[]⟩, 0⟩
theorem infoTk : (Tryz.prog.info? 115).map (fun i => (i.zero, i.size, i.bytes)) = some (some (.agg #[.int .i64 0, .int .i64 0, .string ByteArray.empty, .int .i64 0]), 4, 40) := by kernel_rfl
theorem slTk : SlT Tryz.prog 104 115 4 40 := SlT.mk Tryz.underlying104 infoTk rfl
def RdrAt (W : World) (g : Nat) (v : Value) (en pa : Nat) : Prop := W.heap[g]? = some (.cells #[v, .int .i64 en, .int .i64 pa] 112 (0, 0))
theorem RdrAt.lt {W : World} {g en pa : Nat} {v : Value} (h : RdrAt W g v en pa) : g < W.heap.size := (Array.getElem?_eq_some_iff.1 h).1
theorem RdrAt.cell {W : World} {g en pa : Nat} {v : Value} (h : RdrAt W g v en pa) (j : Nat) {u : Value} (hu : [v, Value.int .i64 en, .int .i64 pa][j]? = some u) : W.cell? ⟨g, j, none⟩ = some u := by
 unfold RdrAt at h
 rw [cell_of_row W g j _ _ _ h, <- Array.getElem?_toList]
 exact hu
theorem RdrAt.frozen {W : World} {g en pa : Nat} {v : Value} (h : RdrAt W g v en pa) (j : Nat) : W.frozen? ⟨g, j, none⟩ = false := by
 unfold RdrAt at h
 simp [World.frozen?, h]
theorem RdrAt.keep {W W' : World} {g en pa : Nat} {v : Value} (h : RdrAt W g v en pa) (hk : W'.heap[g]? = W.heap[g]?) : RdrAt W' g v en pa := hk.trans h
theorem RdrAt.set0 {W : World} {g en pa : Nat} {v : Value} (h : RdrAt W g v en pa) (u : Value) : RdrAt (W.setCell ⟨g, 0, none⟩ u) g u en pa := by
 unfold RdrAt at h ⊢
 simp [World.setCell, Array.getElem?_modify, h]
theorem RdrAt.set2 {W : World} {g en pa : Nat} {v : Value} (h : RdrAt W g v en pa) (k : Nat) : RdrAt (W.setCell ⟨g, 2, none⟩ (.int .i64 k)) g v en k := by
 unfold RdrAt at h ⊢
 simp [World.setCell, Array.getElem?_modify, h]
structure RdS (W : World) (g : Nat) (ts : List Tok) (en pa : Nat) : Prop where
 ex : ∃ p n c, RdrAt W g (.slice p n c) en pa /\ Rd W g encTok 4 (.slice p n c) ts
theorem RdS.lt {W : World} {g en pa : Nat} {ts : List Tok} (h : RdS W g ts en pa) : g < W.heap.size := by
 obtain ⟨p, n, c, h1, _⟩ := h.ex
 exact h1.lt
theorem below_of {B : Nat} {w w' : World} {row : Option Nat} (h : w.grownBy w' row) (hb : B <= w.heap.size) (hr : ∀ k, row = some k -> B <= k) : Below B w w' := (Below.refl B w).grown h hb hr
theorem RdS.kept {W W' : World} {g en pa : Nat} {ts : List Tok} {row : Option Nat} (h : RdS W g ts en pa) (hg : W.grownBy W' row) (hr : ∀ k, row = some k -> g < k) : RdS W' g ts en pa := by
 have hl := h.lt
 obtain ⟨p, n, c, h1, h2⟩ := h.ex
 exact ⟨p, n, c, h1.keep (hg.block g hl (fun e => by have := hr g e.symm; omega)), h2.below (below_of hg (by omega) (fun k e => by have := hr k e; omega)) (Nat.le_refl _)⟩
theorem RdS.len {W : World} {g en pa : Nat} {ts : List Tok} (h : RdS W g ts en pa) : ∃ p c, RdrAt W g (.slice p ts.length c) en pa /\ Rd W g encTok 4 (.slice p ts.length c) ts /\ ts.length <= 9223372036854775807 := by
 obtain ⟨p, n, c, h1, h2⟩ := h.ex
 have hl := rd_nlen h2
 obtain ⟨p', c', hv, h3, h4⟩ := rd_lens h2
 simp only [Value.slice.injEq] at hv
 obtain ⟨rfl, rfl, rfl⟩ := hv
 exact ⟨p, c, h1, h2, by omega⟩
theorem is_any (t : Tok) (c : UInt8) (w : World) (b : Bool) (hb : isM t c = b) : Calls Tryz.prog 106 #[t.val, .string ⟨#[c]⟩] w fun e w' => e = .returned (.bool b) /\ Below w.heap.size w w' := by
 subst hb
 unfold isM
 obtain ⟨k, n, s, p⟩ := t
 dsimp only [Tok.val]
 by_cases h1 : k = 1
 ·subst h1
  by_cases h2 : s = ⟨#[c]⟩
  ·subst h2
   go_enter Tryz.func106, Tryz.ntmps106
   go_wp2_with fail
   go_ret
   exact ⟨by simp, (Below.refl _ _).alloc (Nat.le_refl _) _⟩
  ·have hq : (s.toList == (⟨#[c]⟩ : ByteArray).toList) = false := by rw [str_beq]; simpa using h2
   have HR : Hid ((decide ((1 : Int) = 1) && decide (s = ⟨#[c]⟩)) = false) := by simp [Hid, h2]
   rw [HR.out]
   clear h2
   obtain ⟨m, hm⟩ : ∃ m : ByteArray, ⟨#[c]⟩ = m := ⟨_, rfl⟩
   rw [hm] at hq ⊢
   clear HR hm
   go_enter Tryz.func106, Tryz.ntmps106
   go_wp2_with fail
   go_ret
   exact ⟨rfl, (Below.refl _ _).alloc (Nat.le_refl _) _⟩
 ·have HR : Hid ((decide (k = 1) && decide (s = ⟨#[c]⟩)) = false) := by simp [Hid, h1]
  rw [HR.out]
  have hq : (k == 1) = false := by simpa using h1
  clear h1 HR
  go_enter Tryz.func106, Tryz.ntmps106
  go_wp2_with fail
  go_ret
  exact ⟨rfl, (Below.refl _ _).alloc (Nat.le_refl _) _⟩
theorem _root_.Go.World.grownBy.keep_none {w w' : World} {row : Option Nat} (h : w.grownBy w' row) (g : Nat) (hg : g < w.heap.size) (hne : row ≠ some g := by (first | assumption | simp)) : w'.heap[g]? = w.heap[g]? := h.block g hg (fun e => hne e.symm)
theorem _root_.Go.World.grownBy.keep_some {w w1 w2 : World} {g : Nat} (h : w.grownBy w1 none) (h2 : w1.grownBy w2 (some g)) : w.grownBy w2 (some g) :=
 ⟨h2.os.trans h.os, h2.tape.trans h.tape, h2.output.trans h.output, Nat.le_trans h.size h2.size, fun k hk hne => (h2.block k (Nat.lt_of_lt_of_le hk h.size) hne).trans (h.block k hk (by simp))⟩
theorem _root_.Go.World.grownBy.new_row {w w1 w2 : World} {row : Option Nat} {x : Nat} (h : w.grownBy w1 row) (h2 : w1.grownBy w2 (some x)) (hx : w.heap.size <= x) : w.grownBy w2 row :=
 ⟨h2.os.trans h.os, h2.tape.trans h.tape, h2.output.trans h.output, Nat.le_trans h.size h2.size, fun k hk hne => (h2.block k (Nat.lt_of_lt_of_le hk h.size) (fun e => by cases e; omega)).trans (h.block k hk hne)⟩
def NxtRet (w : World) (g : Nat) (t : Tok) (ts : List Tok) (en pa : Nat) (e : Ending) (w' : World) : Prop := e = .returned t.val /\ RdS w' g ts en pa /\ w.grownBy w' (some g)
theorem next_any (w : World) (g en pa : Nat) (t : Tok) (ts : List Tok) (h : RdS w g (t :: ts) en pa) : Calls Tryz.prog 79 #[.pointer (some ⟨g, 0, none⟩)] w (NxtRet w g t ts en pa) := by
 obtain ⟨p, c, h1, h2, h3⟩ := h.len
 have hgl := h1.lt
 obtain ⟨N, hN⟩ : ∃ N, (t :: ts).length = N := ⟨_, rfl⟩
 rw [hN] at h1 h2 h3
 have hN1 : 1 <= N := by rw [<- hN]; simp
 have hr0 := h2
 obtain ⟨v1, hrun, hr1⟩ := slice_l slTk hr0 1 hN1
 obtain ⟨q1, n1, c1, rfl⟩ : ∃ q n c, v1 = Value.slice q n c := (by obtain ⟨p, c, hv, _, _⟩ := rd_lens hr1; exact ⟨p, _, c, hv⟩)
 rw [List.drop_one, List.tail_cons] at hr1
 obtain ⟨b, o, rfl, hb, hc0⟩ := rd_at' (k := 0) h2 (x := t) rfl
 rw [Nat.zero_mul, Nat.add_zero] at hc0
 obtain ⟨tk, tn, tS, tp⟩ := t
 have f0 : w.cell? ⟨b, o, none⟩ = some (.int .i64 tk) := hc0 0 _ rfl
 have f1 : w.cell? ⟨b, o + 1, none⟩ = some (.int .i64 tn) := hc0 1 _ rfl
 have f2 : w.cell? ⟨b, o + 2, none⟩ = some (.string tS) := hc0 2 _ rfl
 have f3 : w.cell? ⟨b, o + 3, none⟩ = some (.int .i64 tp) := hc0 3 _ rfl
 have c0 := h1.cell 0 rfl
 have z0 := h1.frozen 0
 have e0 : ((N : Int) == 0) = false := by simp; omega
 have e1 : (0 : Int) < (N : Int) := by omega
 have HR1 := Lib.hid hr1
 have H1 := Lib.hid h1
 clear hr0 hr1 h2 hc0 h1 hN h
 have hg0 := World.grownBy_alloc w (.cells #[.int .i64 0, .int .i64 0, .string ⟨#[]⟩, .int .i64 0] 115) none
 have hT0 : TokAt (w.alloc (.cells #[.int .i64 0, .int .i64 0, .string ⟨#[]⟩, .int .i64 0] 115)) w.heap.size Tok.zero := heap_alloc_at rfl
 have hs0 : (w.alloc (.cells #[.int .i64 0, .int .i64 0, .string ⟨#[]⟩, .int .i64 0] 115)).heap.size = w.heap.size + 1 := by simp
 have k0 : ∀ b o, b < w.heap.size -> (w.alloc (.cells #[.int .i64 0, .int .i64 0, .string ⟨#[]⟩, .int .i64 0] 115)).cell? ⟨b, o, none⟩ = w.cell? ⟨b, o, none⟩ := fun b o hb => ((Below.refl w.heap.size w).alloc (Nat.le_refl _) _).cell (p := ⟨b, o, none⟩) hb
 go_enter Tryz.func79, Tryz.ntmps79
 go_upto_region 1 with fail
 obtain ⟨W0, hW0⟩ : ∃ W0, w.alloc (.cells #[.int .i64 0, .int .i64 0, .string ⟨#[]⟩, .int .i64 0] 115) = W0 := ⟨_, rfl⟩
 rw [hW0] at hg0 hT0 hs0 k0
 try rw [hW0]
 clear hW0
 have p0 := (k0 g 0 hgl).trans c0
 have g0 := (k0 b o (by omega)).trans f0
 have g1 := (k0 b (o + 1) (by omega)).trans f1
 have g2 := (k0 b (o + 2) (by omega)).trans f2
 have g3 := (k0 b (o + 3) (by omega)).trans f3
 have hrun1 : ∀ W, (Instr.sliceAt 104 (.slice (some ⟨b, o, none⟩) N c) (some (.int .i64 1)) none none).run Tryz.prog W = .ok (.slice q1 n1 c1) W := hrun
 have HG0 := Lib.hid hg0
 have HT0 := Lib.hid hT0
 have HS0 := Lib.hid hs0
 have hgW : g < W0.heap.size := by omega
 clear c0 f0 f1 f2 f3 k0 hrun hg0 hT0 hs0 z0
 have hg1 := World.grownBy_alloc W0 (.cells #[.int .i64 tk, .int .i64 tn, .string tS, .int .i64 tp] 115) none
 have hT1 : TokAt (W0.alloc (.cells #[.int .i64 tk, .int .i64 tn, .string tS, .int .i64 tp] 115)) W0.heap.size ⟨tk, tn, tS, tp⟩ := heap_alloc_at rfl
 have hT2 : TokAt (W0.alloc (.cells #[.int .i64 tk, .int .i64 tn, .string tS, .int .i64 tp] 115)) w.heap.size Tok.zero := HT0.out.keep (hg1.keep_none _ HT0.out.lt)
 have hR1 : RdrAt (W0.alloc (.cells #[.int .i64 tk, .int .i64 tn, .string tS, .int .i64 tp] 115)) g (.slice (some ⟨b, o, none⟩) N c) en pa := (H1.out.keep (HG0.out.keep_none g (by omega))).keep (hg1.keep_none g hgW)
 go_upto_region 4 with fail
 have hz1 : (W0.alloc (.cells #[.int .i64 tk, .int .i64 tn, .string tS, .int .i64 tp] 115)).heap.size = w.heap.size + 2 := by have := HS0.out; simp; omega
 have hg1' := HG0.out.trans hg1
 obtain ⟨q0, hq0⟩ : ∃ q, W0.heap.size = q := ⟨_, rfl⟩
 have hqn : g ≠ q0 /\ w.heap.size ≠ q0 /\ g ≠ w.heap.size := by have := HS0.out; omega
 obtain ⟨W1, hW1⟩ : ∃ W1, W0.alloc (.cells #[.int .i64 tk, .int .i64 tn, .string tS, .int .i64 tp] 115) = W1 := ⟨_, rfl⟩
 rw [hW1] at hT1 hT2 hR1 hz1 hg1'
 rw [hq0] at hT1
 try rw [hW1]
 try rw [hq0]
 clear hg1 hW1 hq0 p0 g0 g1 g2 g3 HT0
 have p0 := hR1.cell 0 rfl
 have z0 := hR1.frozen 0
 have hR2 := hR1.set0 (.slice q1 n1 c1)
 have hg2 := grownBy_set W1 g 0 (.slice q1 n1 c1)
 have hT3 := hT1.keep (hg2.block q0 hT1.lt (by simp; omega))
 have hT4 := hT2.keep (hg2.block w.heap.size hT2.lt (by simp; omega))
 go_upto_region 5 with fail
 obtain ⟨W2, hW2⟩ : ∃ W2, W1.setCell ⟨g, 0, none⟩ (.slice q1 n1 c1) = W2 := ⟨_, rfl⟩
 rw [hW2] at hR2 hg2 hT3 hT4
 try rw [hW2]
 clear hW2 p0 z0 hrun1
 have a0 := hT3.cell 0 rfl
 have a1 := hT3.cell 1 rfl
 have a2 := hT3.cell 2 rfl
 have a3 := hT3.cell 3 rfl
 have b0 := hT4.cell 0 rfl
 have b1 := hT4.cell 1 rfl
 have b2 := hT4.cell 2 rfl
 have b3 := hT4.cell 3 rfl
 have y0 := hT4.frozen 0
 have y1 := hT4.frozen 1
 have y2 := hT4.frozen 2
 have y3 := hT4.frozen 3
 dsimp only [Tok.zero] at a0 a1 a2 a3 b0 b1 b2 b3
 have HR2 := Lib.hid hR2
 have HG2 := Lib.hid (hg1'.keep_some hg2)
 have HZ1 := Lib.hid hz1
 have HS2 := Lib.hid hg2.size
 clear hT1 hT2 hT3 hT4 hR1 hg1' hg2 hR2 hz1
 go_wp2_with fail
 refine bodyPost_ret (v := Tok.val ⟨tk, tn, tS, tp⟩) (by simp [results, Tryz.results79, go_sem, b0, b1, b2, b3]) rfl ⟨rfl, ?_, ?_⟩
 ·have hg3 := grownBy_setT W2 w.heap.size ⟨tk, tn, tS, tp⟩
  obtain ⟨p', n', c', h1, h2⟩ := (⟨_, _, _, HR2.out, (HR1.out.below (below_of HG2.out (by omega) (fun k e => by cases e; exact Nat.le_refl _)) (Nat.le_refl _))⟩ : ∃ p n c, RdrAt W2 g (.slice p n c) en pa /\ Rd W2 g encTok 4 (.slice p n c) ts)
  exact RdS.kept ⟨p', n', c', h1, h2⟩ hg3 (fun k e => by cases e; exact hgl)
 ·exact HG2.out.new_row (grownBy_setT W2 w.heap.size ⟨tk, tn, tS, tp⟩) (Nat.le_refl _)
end
end Go.Proofs.YtffhccmppdgmfaaGreatDoor
