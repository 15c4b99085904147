import Derived.Test.YtffhccmppdgmfaaGreatDoorF08
import Derived.Test.YtffhccmppdgmfaaGreatDoorF04
import Derived.Test.YtffhccmppdgmfaaGreatDoorF06
import Derived.Lib.IndexMore
import Derived.Test.YtffhccmppdgmfaaGreatDoorF02
import Derived.Test.YtffhccmppdgmfaaGreatDoorF01
import Derived.Test.YtffhccmppdgmfaaGreatDoorF05
import Derived.Test.YtffhccmppdgmfaaGreatDoorF03
import Derived.BigQuiet
import Derived.RangeFuncNested
import Derived.RangeFuncBound
import Derived.RangeFuncCalls
import Derived.RangeFuncLeaves
import Derived.RangeFuncBox
import Derived.Shelf.Abstract
import Derived.OwnWalkIn
import Derived.TacticsInMore
import Derived.LoopNIn
import Derived.LoopIn
import Derived.Sort.LoopGhostIn
import Derived.Sort.CutIn
import Derived.Stop.RegionWithIn
import Derived.Test.YtffhccmppdgmfaaGreatDoorF00
import Derived.Maps.OwnIn
set_option linter.unusedSimpArgs false
set_option linter.unusedVariables false
set_option maxRecDepth 200000
set_option maxHeartbeats 8000000
namespace Go.Proofs.YtffhccmppdgmfaaGreatDoor
section
open Go Go.RowKit
def svFull : ByteArray := ⟨#[102, 117, 108, 108]⟩
def svUnits : ByteArray := ⟨#[117, 110, 105, 116, 115]⟩
def svNick : ByteArray := ⟨#[110, 105, 99, 107, 110, 97, 109, 101]⟩
def svNicks : ByteArray := ⟨#[110, 105, 99, 107, 110, 97, 109, 101, 115]⟩
def svOrg : ByteArray := ⟨#[111, 114, 103, 97, 110, 105, 122, 97, 116, 105, 111, 110]⟩
def svOrgs : ByteArray := ⟨#[111, 114, 103, 97, 110, 105, 122, 97, 116, 105, 111, 110, 115]⟩
def svEmail : ByteArray := ⟨#[101, 109, 97, 105, 108]⟩
def svEmails : ByteArray := ⟨#[101, 109, 97, 105, 108, 115]⟩
def svAddr : ByteArray := ⟨#[97, 100, 100, 114, 101, 115, 115]⟩
def svAddrs : ByteArray := ⟨#[97, 100, 100, 114, 101, 115, 115, 101, 115]⟩
def svPhone : ByteArray := ⟨#[112, 104, 111, 110, 101]⟩
def svPhones : ByteArray := ⟨#[112, 104, 111, 110, 101, 115]⟩
def svNumber : ByteArray := ⟨#[110, 117, 109, 98, 101, 114]⟩
def svOnline : ByteArray := ⟨#[111, 110, 108, 105, 110, 101, 83, 101, 114, 118, 105, 99, 101]⟩
def svOnlines : ByteArray := ⟨#[111, 110, 108, 105, 110, 101, 83, 101, 114, 118, 105, 99, 101, 115]⟩
def svService : ByteArray := ⟨#[115, 101, 114, 118, 105, 99, 101]⟩
def svUri : ByteArray := ⟨#[117, 114, 105]⟩
def svUser : ByteArray := ⟨#[117, 115, 101, 114]⟩
def svNote : ByteArray := ⟨#[110, 111, 116, 101]⟩
def svNotes : ByteArray := ⟨#[110, 111, 116, 101, 115]⟩
def svText : ByteArray := ⟨#[116, 101, 120, 116]⟩
def eachJ (t : JV) (name : ByteArray) : List JV := match t.get name with | some x => if x.k = 6 then x.m.map (·.2) else [] | none => []
theorem eachJ_of (t : JV) (name : ByteArray) : eachJ t name = if ((t.get name).getD JV.zero).k = 6 then ((t.get name).getD JV.zero).m.map (·.2) else [] := by
 unfold eachJ
 cases t.get name with
 | none => exact (if_neg (by decide)).symm
 | some x => rfl
def wholeJ (t : JV) : List ByteArray := textM t svFull ++ partsJ t ⟨#[]⟩
def namedJ (t : JV) (nm : ByteArray) (fs : List ByteArray) : List ByteArray := (eachJ t nm).flatMap (fun x => fs.flatMap (textM x))
def orgJ (o : JV) : List ByteArray := textM o nameN ++ (inJ o svUnits).flatMap (fun u => textM u nameN)
def fieldJ (t : JV) (f : ByteArray) : List ByteArray :=
 if f = nameN then wholeJ (nameV t) else
 if f = givenN \/ f = surN \/ f = sur2N then partsJ (nameV t) (f.extract 5 f.size) else
 if f = svNick then namedJ t svNicks [nameN] else
 if f = svOrg then (eachJ t svOrgs).flatMap orgJ else
 if f = svEmail then namedJ t svEmails [svAddr] else
 if f = svPhone then namedJ t svPhones [svNumber] else
 if f = svOnline then namedJ t svOnlines [svService, svUri, svUser] else
 if f = svAddr then (eachJ t svAddrs).flatMap wholeJ else
 if f = svNote then namedJ t svNotes [svNote] else []
def allF : List ByteArray := [nameN, svNick, svOrg, svEmail, svPhone, svOnline, svAddr, svNote]
def textsJ (t : JV) (f : ByteArray) : List ByteArray := if f = svText then allF.flatMap (fieldJ t) else fieldJ t f
mutual
def sizeT : JV -> Nat
 | .mk _ _ s l m => s.size + sizeL l + sizeM m
def sizeL : List JV -> Nat
 | [] => 0
 | t :: l => sizeT t + sizeL l
def sizeM : List (ByteArray × JV) -> Nat
 | [] => 0
 | (_, t) :: m => sizeT t + sizeM m
end
theorem sizeT_s (t : JV) : t.s.size <= sizeT t := by
 cases t
 rw [sizeT]
 simp only [JV.s]
 omega
theorem sizeL_mem {l : List JV} {x : JV} (h : x ∈ l) : sizeT x <= sizeL l := by
 induction l with
 | nil => cases h
 | cons a r ih =>
   unfold sizeL
   rcases List.mem_cons.1 h with rfl | h
   ·omega
   ·have := ih h
    omega
theorem sizeM_mem {m : List (ByteArray × JV)} {p : ByteArray × JV} (h : p ∈ m) : sizeT p.2 <= sizeM m := by
 induction m with
 | nil => cases h
 | cons a r ih =>
   obtain ⟨a, b⟩ := a
   rw [sizeM]
   rcases List.mem_cons.1 h with rfl | h
   ·exact Nat.le_add_right _ _
   ·have := ih h
    omega
theorem sizeT_l {t x : JV} (h : x ∈ t.l) : sizeT x <= sizeT t := by
 cases t
 have := sizeL_mem h
 rw [sizeT]
 simp only [JV.l] at this
 omega
theorem sizeT_m {t : JV} {p : ByteArray × JV} (h : p ∈ t.m) : sizeT p.2 <= sizeT t := by
 cases t
 have := sizeM_mem h
 rw [sizeT]
 simp only [JV.m] at this
 omega
theorem countS_pos (t : JV) : 1 <= countT t := by
 cases t
 unfold countT
 omega
theorem countL_len (l : List JV) : l.length <= countL l := by
 induction l with
 | nil => simp
 | cons a r ih =>
   unfold countL
   have := countS_pos a
   rw [List.length_cons]
   omega
theorem countL_mem {l : List JV} {x : JV} (h : x ∈ l) : countT x <= countL l := by
 induction l with
 | nil => cases h
 | cons a r ih =>
   unfold countL
   rcases List.mem_cons.1 h with rfl | h
   ·omega
   ·have := ih h
    omega
theorem countM_map (m : List (ByteArray × JV)) : countM m = countL (m.map (·.2)) := by
 induction m with
 | nil => rfl
 | cons a r ih =>
   obtain ⟨a, b⟩ := a
   unfold countM
   rw [List.map_cons]
   unfold countL
   rw [ih]
theorem countT_l (t : JV) : countL t.l + 1 <= countT t := by
 cases t
 unfold countT
 simp only [JV.l]
 omega
theorem countT_m (t : JV) : countL (t.m.map (·.2)) + 1 <= countT t := by
 cases t
 rw [countT]
 simp only [JV.m]
 rw [<- countM_map]
 omega
theorem mem_sub {t : JV} {p : ByteArray × JV} (h : p ∈ t.mem) : p ∈ t.m := by
 cases t with
 | mk k n s l m =>
   change p ∈ (if k = 6 then m else []) at h
   by_cases hk : k = 6
   ·rw [if_pos hk] at h
    exact h
   ·rw [if_neg hk] at h
    cases h
theorem get_memJ {t x : JV} {name : ByteArray} (h : t.get name = some x) : ∃ p ∈ t.m, p.2 = x /\ p.1 = name := by
 unfold JV.get JV.place at h
 rw [Option.bind_eq_some_iff] at h
 obtain ⟨i, h1, h2⟩ := h
 rw [Option.map_eq_some_iff] at h2
 obtain ⟨p, h3, h4⟩ := h2
 rw [List.findIdx?_eq_some_iff_getElem] at h1
 obtain ⟨hi, h5, _⟩ := h1
 rw [List.getElem?_eq_getElem hi] at h3
 have h6 : t.mem[i] = p := Option.some.inj h3
 rw [h6] at h5
 refine ⟨p, ?_, h4, by simpa using h5⟩
 exact mem_sub (h6 ▸ List.getElem_mem hi)
theorem count_get {t x : JV} {name : ByteArray} (h : t.get name = some x) : countT x + 1 <= countT t := by
 obtain ⟨p, h1, rfl, _⟩ := get_memJ h
 have h2 := countL_mem (List.mem_map_of_mem (f := (·.2)) h1)
 have h3 := countT_m t
 omega
theorem size_get {t x : JV} {name : ByteArray} (h : t.get name = some x) : sizeT x <= sizeT t := by
 obtain ⟨p, h1, rfl, _⟩ := get_memJ h
 exact sizeT_m h1
theorem count_name (t : JV) : countT (nameV t) <= countT t := by
 unfold nameV
 cases h : t.get nameN with
 | none => exact countS_pos t
 | some x => have := count_get h; exact Nat.le_of_lt this
theorem size_name (t : JV) : sizeT (nameV t) <= sizeT t := by
 unfold nameV
 cases h : t.get nameN with
 | none => exact Nat.zero_le _
 | some x => exact size_get h
theorem inJ_count (t : JV) (name : ByteArray) : countL (inJ t name) + 1 <= countT t := by
 unfold inJ
 cases h : t.get name with
 | none => exact countS_pos t
 | some x =>
   have h1 := count_get h
   have h2 := countT_l x
   dsimp only
   split
   ·omega
   ·exact countS_pos t
theorem inJ_len (t : JV) (name : ByteArray) : (inJ t name).length + 1 <= countT t := Nat.le_trans (Nat.succ_le_succ (countL_len _)) (inJ_count t name)
theorem eachJ_count (t : JV) (name : ByteArray) : countL (eachJ t name) + 1 <= countT t := by
 unfold eachJ
 cases h : t.get name with
 | none => exact countS_pos t
 | some x =>
   have h1 := count_get h
   have h2 := countT_m x
   dsimp only
   split
   ·omega
   ·exact countS_pos t
theorem eachJ_len (t : JV) (name : ByteArray) : (eachJ t name).length + 1 <= countT t := Nat.le_trans (Nat.succ_le_succ (countL_len _)) (eachJ_count t name)
theorem eachJ_size {t x : JV} {name : ByteArray} (h : x ∈ eachJ t name) : sizeT x <= sizeT t := by
 unfold eachJ at h
 cases hg : t.get name with
 | none => rw [hg] at h; cases h
 | some y =>
   rw [hg] at h
   dsimp only at h
   split at h
   ·obtain ⟨p, h1, rfl⟩ := List.mem_map.1 h
    exact Nat.le_trans (sizeT_m h1) (size_get hg)
   ·cases h
theorem inJ_size {t x : JV} {name : ByteArray} (h : x ∈ inJ t name) : sizeT x <= sizeT t := by
 unfold inJ at h
 cases hg : t.get name with
 | none => rw [hg] at h; cases h
 | some y =>
   rw [hg] at h
   dsimp only at h
   split at h
   ·exact Nat.le_trans (sizeT_l h) (size_get hg)
   ·cases h
theorem eachJ_ok {t : JV} {name : ByteArray} (h : t.Ok) : (eachJ t name).length <= 1466015503658 /\ ∀ (i : Nat) (x : JV), (eachJ t name)[i]? = some x -> x.Ok := by
 unfold eachJ
 cases hx : t.get name with
 | none => exact ⟨by simp, fun i x a => by simp at a⟩
 | some v =>
   have hv := h.get hx
   dsimp only
   split
   ·cases hv with
    | mk _ _ _ _ hm _ _ cm =>
      refine ⟨by rw [List.length_map]; exact hm, fun i x a => ?_⟩
      rw [List.getElem?_map, Option.map_eq_some_iff] at a
      obtain ⟨p, h1, rfl⟩ := a
      exact cm i p h1
   ·exact ⟨by simp, fun i x a => by simp at a⟩
theorem textM_size {t : JV} {name x : ByteArray} (h : x ∈ textM t name) : x.size <= sizeT t := by
 unfold textM at h
 cases hg : t.get name with
 | none => rw [hg] at h; cases h
 | some y =>
   rw [hg] at h
   dsimp only at h
   split at h
   ·rw [List.mem_singleton] at h
    subst h
    exact Nat.le_trans (sizeT_s y) (size_get hg)
   ·cases h
theorem flat_len {α β : Type} {f : α -> List β} {n : Nat} (h : ∀ x, (f x).length <= n) (l : List α) : (l.flatMap f).length <= n * l.length := by
 induction l with
 | nil => simp
 | cons a r ih =>
   rw [List.flatMap_cons, List.length_append, List.length_cons, Nat.mul_add, Nat.mul_one]
   have := h a
   omega
theorem flat_count {β : Type} {f : JV -> List β} (h : ∀ x, (f x).length <= countT x) (l : List JV) : (l.flatMap f).length <= countL l := by
 induction l with
 | nil => simp
 | cons a r ih =>
   rw [List.flatMap_cons, List.length_append]
   unfold countL
   have := h a
   omega
theorem flat_take {α β : Type} (f : α -> List β) (l : List α) (j : Nat) : ((l.take j).flatMap f).length <= (l.flatMap f).length := by
 have h : l.flatMap f = (l.take j).flatMap f ++ (l.drop j).flatMap f := by rw [<- List.flatMap_append, List.take_append_drop]
 rw [h, List.length_append]
 omega
theorem flat_succ {α β : Type} {f : α -> List β} {l : List α} {j : Nat} {x : α} (h : l[j]? = some x) : (l.take (j + 1)).flatMap f = (l.take j).flatMap f ++ f x := by
 rw [List.take_add_one, h, Option.toList_some, List.flatMap_append]
 simp
theorem flat_mid {α β : Type} {f : α -> List β} {l : List α} {j : Nat} {x : α} (h : l[j]? = some x) : ((l.take j).flatMap f).length + (f x).length <= (l.flatMap f).length := by
 have h1 := flat_succ (f := f) h
 have h2 := flat_take f l (j + 1)
 rw [h1, List.length_append] at h2
 exact h2
theorem partsJ_count (t : JV) (kind : ByteArray) : (partsJ t kind).length + 1 <= countT t := by
 rw [partsJ_of]
 exact Nat.le_trans (Nat.succ_le_succ (partsL_len _ _)) (inJ_len t compN)
theorem wholeJ_len (t : JV) : (wholeJ t).length <= countT t := by
 unfold wholeJ
 rw [List.length_append]
 have h1 := textM_len t svFull
 have h2 := partsJ_count t ⟨#[]⟩
 omega
theorem orgJ_len (t : JV) : (orgJ t).length <= countT t := by
 unfold orgJ
 rw [List.length_append]
 have h1 := textM_len t nameN
 have h2 := flat_len (f := fun u => textM u nameN) (n := 1) (fun u => textM_len u nameN) (inJ t svUnits)
 have h3 := inJ_len t svUnits
 omega
theorem texts_fs (x : JV) (fs : List ByteArray) : (fs.flatMap (textM x)).length <= fs.length := by
 have := flat_len (f := textM x) (n := 1) (fun n => textM_len x n) fs
 omega
theorem namedJ_len (t : JV) (nm : ByteArray) (fs : List ByteArray) : (namedJ t nm fs).length <= fs.length * countT t := by
 unfold namedJ
 have h1 := flat_len (f := fun x => fs.flatMap (textM x)) (n := fs.length) (fun x => texts_fs x fs) (eachJ t nm)
 have h2 := eachJ_len t nm
 exact Nat.le_trans h1 (Nat.mul_le_mul_left _ (by omega))
theorem fieldJ_len (t : JV) (f : ByteArray) : (fieldJ t f).length <= 3 * countT t := by
 have hc := countS_pos t
 unfold fieldJ
 split
 ·have h1 := wholeJ_len (nameV t)
  have h2 := count_name t
  omega
 ·split
  ·have h1 := partsJ_count (nameV t) (f.extract 5 f.size)
   have h2 := count_name t
   omega
  ·split
   ·have h := namedJ_len t svNicks [nameN]
    simp only [List.length_singleton] at h
    omega
   ·split
    ·have h := flat_count orgJ_len (eachJ t svOrgs)
     have h2 := eachJ_count t svOrgs
     omega
    ·split
     ·have h := namedJ_len t svEmails [svAddr]
      simp only [List.length_singleton] at h
      omega
     ·split
      ·have h := namedJ_len t svPhones [svNumber]
       simp only [List.length_singleton] at h
       omega
      ·split
       ·exact namedJ_len t svOnlines [svService, svUri, svUser]
       ·split
        ·have h := flat_count wholeJ_len (eachJ t svAddrs)
         have h2 := eachJ_count t svAddrs
         omega
        ·split
         ·have h := namedJ_len t svNotes [svNote]
          simp only [List.length_singleton] at h
          omega
         ·simp
theorem textsJ_len (t : JV) (f : ByteArray) : (textsJ t f).length <= 24 * countT t := by
 unfold textsJ
 split
 ·have h := flat_len (f := fieldJ t) (n := 3 * countT t) (fieldJ_len t) allF
  have e : allF.length = 8 := rfl
  rw [e] at h
  omega
 ·have := fieldJ_len t f
  omega
theorem partsJ_size {t : JV} {kind x : ByteArray} (h : x ∈ partsJ t kind) : x.size <= sizeT t := by
 rw [partsJ_of] at h
 unfold partsL at h
 obtain ⟨c, h1, h2⟩ := List.mem_flatMap.1 h
 exact Nat.le_trans (textM_size h2) (inJ_size ((List.mem_filter.1 h1).1))
theorem wholeJ_size {t : JV} {x : ByteArray} (h : x ∈ wholeJ t) : x.size <= sizeT t := by
 unfold wholeJ at h
 rcases List.mem_append.1 h with h | h
 ·exact textM_size h
 ·exact partsJ_size h
theorem orgJ_size {t : JV} {x : ByteArray} (h : x ∈ orgJ t) : x.size <= sizeT t := by
 unfold orgJ at h
 rcases List.mem_append.1 h with h | h
 ·exact textM_size h
 ·obtain ⟨c, h1, h2⟩ := List.mem_flatMap.1 h
  exact Nat.le_trans (textM_size h2) (inJ_size h1)
theorem namedJ_size {t : JV} {nm x : ByteArray} {fs : List ByteArray} (h : x ∈ namedJ t nm fs) : x.size <= sizeT t := by
 unfold namedJ at h
 obtain ⟨c, h1, h2⟩ := List.mem_flatMap.1 h
 obtain ⟨n, h3, h4⟩ := List.mem_flatMap.1 h2
 exact Nat.le_trans (textM_size h4) (eachJ_size h1)
theorem fieldJ_size {t : JV} {f x : ByteArray} (h : x ∈ fieldJ t f) : x.size <= sizeT t := by
 unfold fieldJ at h
 split at h
 ·exact Nat.le_trans (wholeJ_size h) (size_name t)
 ·split at h
  ·exact Nat.le_trans (partsJ_size h) (size_name t)
  ·split at h
   ·exact namedJ_size h
   ·split at h
    ·obtain ⟨c, h1, h2⟩ := List.mem_flatMap.1 h
     exact Nat.le_trans (orgJ_size h2) (eachJ_size h1)
    ·split at h
     ·exact namedJ_size h
     ·split at h
      ·exact namedJ_size h
      ·split at h
       ·exact namedJ_size h
       ·split at h
        ·obtain ⟨c, h1, h2⟩ := List.mem_flatMap.1 h
         exact Nat.le_trans (wholeJ_size h2) (eachJ_size h1)
        ·split at h
         ·exact namedJ_size h
         ·cases h
theorem textsJ_size {t : JV} {f x : ByteArray} (h : x ∈ textsJ t f) : x.size <= sizeT t := by
 unfold textsJ at h
 split at h
 ·obtain ⟨c, h1, h2⟩ := List.mem_flatMap.1 h
  exact fieldJ_size h2
 ·exact fieldJ_size h
def notQ (c : UInt8) : Bool := !decide (c = 34)
def notE (c : UInt8) : Bool := !(decide (c = 32) || decide (c = 34))
def termsN : Nat -> List UInt8 -> List (List UInt8)
 | 0, _ => []
 | _ + 1, [] => []
 | n + 1, c :: r =>
   if c = 32 then termsN n r
   else if c = 34 then (if r.takeWhile notQ = [] then [] else [r.takeWhile notQ]) ++ termsN n ((r.dropWhile notQ).drop 1)
   else (c :: r).takeWhile notE :: termsN n ((c :: r).dropWhile notE)
def termsF (l : List UInt8) : List (List UInt8) := termsN l.length l
theorem dropW_len {p : UInt8 -> Bool} (l : List UInt8) : (l.dropWhile p).length <= l.length := (List.dropWhile_sublist p).length_le
theorem dropW_cons {c : UInt8} {r : List UInt8} (h : notE c = true) : (c :: r).dropWhile notE = r.dropWhile notE := by rw [List.dropWhile_cons, if_pos h]
theorem notE_yes {c : UInt8} (h1 : c ≠ 32) (h2 : c ≠ 34) : notE c = true := by unfold notE; rw [decide_eq_false h1, decide_eq_false h2]; rfl
theorem termsN_more : ∀ (n m : Nat) (l : List UInt8), l.length <= n -> l.length <= m -> termsN n l = termsN m l
 | 0, m, [], _, _ => by cases m <;> rfl
 | n + 1, 0, [], _, _ => rfl
 | n + 1, m + 1, [], _, _ => rfl
 | 0, m, c :: r, h, _ => by simp at h
 | n + 1, 0, c :: r, _, h => by simp at h
 | n + 1, m + 1, c :: r, h1, h2 => by
   rw [List.length_cons] at h1 h2
   rw [termsN, termsN]
   by_cases ha : c = 32
   ·rw [if_pos ha, if_pos ha]
    exact termsN_more n m r (by omega) (by omega)
   ·rw [if_neg ha, if_neg ha]
    by_cases hb : c = 34
    ·rw [if_pos hb, if_pos hb]
     congr 1
     have hd := dropW_len (p := notQ) r
     exact termsN_more n m _ (by rw [List.length_drop]; omega) (by rw [List.length_drop]; omega)
    ·rw [if_neg hb, if_neg hb, dropW_cons (notE_yes ha hb)]
     have hd := dropW_len (p := notE) r
     rw [termsN_more n m _ (by omega) (by omega)]
theorem termsF_nil : termsF [] = [] := rfl
theorem termsF_sp (r : List UInt8) : termsF (32 :: r) = termsF r := by
 unfold termsF
 rw [List.length_cons, termsN, if_pos rfl]
theorem termsF_q (r : List UInt8) : termsF (34 :: r) = (if r.takeWhile notQ = [] then [] else [r.takeWhile notQ]) ++ termsF ((r.dropWhile notQ).drop 1) := by
 unfold termsF
 rw [List.length_cons, termsN, if_neg (by decide), if_pos rfl]
 congr 1
 have hd := dropW_len (p := notQ) r
 exact termsN_more _ _ _ (by rw [List.length_drop]; omega) (by omega)
theorem termsF_e {c : UInt8} (h1 : c ≠ 32) (h2 : c ≠ 34) (r : List UInt8) : termsF (c :: r) = (c :: r).takeWhile notE :: termsF ((c :: r).dropWhile notE) := by
 unfold termsF
 rw [List.length_cons, termsN, if_neg h1, if_neg h2]
 congr 1
 have hd := dropW_len (p := notE) r
 exact termsN_more _ _ _ (by rw [dropW_cons (notE_yes h1 h2)]; omega) (by omega)
theorem takeW_ne {c : UInt8} (h1 : c ≠ 32) (h2 : c ≠ 34) (r : List UInt8) : (c :: r).takeWhile notE ≠ [] := by
 rw [List.takeWhile_cons, if_pos (notE_yes h1 h2)]
 simp
theorem takeW_len {p : UInt8 -> Bool} (l : List UInt8) : (l.takeWhile p).length <= l.length := (List.takeWhile_sublist p).length_le
theorem termsN_len : ∀ (n : Nat) (l : List UInt8), (termsN n l).length <= n /\ ∀ t ∈ termsN n l, t.length <= l.length
 | 0, l => by simp [termsN]
 | n + 1, [] => by simp [termsN]
 | n + 1, c :: r => by
   rw [termsN]
   by_cases ha : c = 32
   ·rw [if_pos ha]
    have ih := termsN_len n r
    refine ⟨by omega, fun t ht => ?_⟩
    have := ih.2 t ht
    rw [List.length_cons]
    omega
   ·rw [if_neg ha]
    by_cases hb : c = 34
    ·rw [if_pos hb]
     have ih := termsN_len n ((r.dropWhile notQ).drop 1)
     have hd := dropW_len (p := notQ) r
     have ht := takeW_len (p := notQ) r
     refine ⟨?_, fun t h => ?_⟩
     ·rw [List.length_append]
      split
      ·rw [List.length_nil]
       omega
      ·rw [List.length_singleton]
       omega
     ·rw [List.length_cons]
      rcases List.mem_append.1 h with h | h
      ·split at h
       ·cases h
       ·rw [List.mem_singleton] at h
        subst h
        omega
      ·have := ih.2 t h
       rw [List.length_drop] at this
       omega
    ·rw [if_neg hb]
     have ih := termsN_len n ((c :: r).dropWhile notE)
     have hd := dropW_len (p := notE) (c :: r)
     have ht := takeW_len (p := notE) (c :: r)
     refine ⟨by rw [List.length_cons]; omega, fun t h => ?_⟩
     rcases List.mem_cons.1 h with rfl | h
     ·exact ht
     ·have := ih.2 t h
      omega
theorem termsF_len (l : List UInt8) : (termsF l).length <= l.length := (termsN_len _ l).1
theorem termsF_each {l t : List UInt8} (h : t ∈ termsF l) : t.length <= l.length := (termsN_len _ l).2 t h
def hasF (s t : List UInt8) : Bool := Go.Lib.contains (foldL s) (foldL t)
def matchF (q : List UInt8) (ts : List ByteArray) : Bool := (termsF q).all (fun t => ts.any (fun s => hasF s.data.toList t))
end
section
open Go Go.RowKit Go.OpenShut
theorem okCh_iff {c : UInt8} (h : okCh c = true) : 32 <= c.toNat /\ c.toNat < 128 /\ c.toNat ≠ 34 /\ c.toNat ≠ 92 := by
 unfold okCh at h
 simp only [Bool.and_eq_true, decide_eq_true_eq] at h
 exact ⟨h.1.1.1, h.1.1.2, h.1.2, h.2⟩
theorem one_ascii {s : ByteArray} {i : Nat} (hi : i < s.size) (h : s[i]!.toNat < 128) : (oneU s i).2 = 1 := by
 rw [get_bang s i hi] at h
 have hz : szN s[i].toNat = 1 := by unfold szN; rw [if_pos h]
 rw [oneU_at hi, hz, if_neg (by omega)]
 rfl
theorem cut_step {s : ByteArray} {a k : Nat} (h1 : a <= k) (h2 : k < s.size) : (s.data.toList.drop a).take (k + 1 - a) = (s.data.toList.drop a).take (k - a) ++ [s[k]!] := by
 rw [show k + 1 - a = (k - a) + 1 by omega, List.take_add_one]
 congr 1
 rw [List.getElem?_drop, show a + (k - a) = k by omega, List.getElem?_eq_getElem (by rw [Array.length_toList]; exact h2), get_bang s k h2]
 rfl
theorem ext_list (s : ByteArray) (a b : Nat) : (s.extract a b).data.toList = (s.data.toList.drop a).take (b - a) := by
 rw [ByteArray.data_extract, Array.toList_extract]
theorem ext_one {s : ByteArray} {k : Nat} (h : k < s.size) : (s.extract k (k + 1)).data.toList = [s[k]!] := by
 have h1 := cut_step (s := s) (a := k) (k := k) (Nat.le_refl _) h
 rw [ext_list, h1, Nat.sub_self]
 rfl
theorem cread_plain (s : ByteArray) (i j : Nat) (w : World) (hs : s.size <= 65536) (hij : i < j) (hj : j < s.size) (h0 : s[i]!.toNat = 34) (hm : ∀ k, i < k -> k < j -> okCh s[k]! = true) (h1 : s[j]!.toNat = 34) :
 Calls Tryz.prog 138 #[.string s, .int .i64 i] w fun e w' => e = .returned (.tuple #[.string (cutB s (i + 1) j), .int .i64 ((j : Int) + 1), .int .i64 0]) /\ Below w.heap.size w w' := by
 have hi : i < s.size := by omega
 rw [get_bang s i hi] at h0
 have HM : Hid (∀ k, i < k -> k < j -> okCh s[k]! = true) := hm
 have HJ : Hid (s[j]!.toNat = 34) := h1
 have HIJ : Hid (i < j /\ j < s.size /\ s.size <= 65536) := ⟨hij, hj, hs⟩
 have a0 : (0 : Int) <= (i : Int) := Int.natCast_nonneg _
 have a1 : (i : Int) < (s.size : Int) := by omega
 have a2 : i < 4398046510976 := by omega
 have q1 : decide ((i : Int) < 0) = false := by simp
 have q2 : decide (s.size <= i) = false := by simp; omega
 clear hm h1
 go_enter Tryz.func138, Tryz.ntmps138
 go_wp2_with fail
 go_loopw [7, 8] (fun v o wr => ∃ k : Nat, i + 1 <= k /\ k <= j /\ o = .int .i64 (k : Int) /\ Hid (OwnU wr w.heap.size v ((s.data.toList.drop (i + 1)).take (k - (i + 1))) /\ Below w.heap.size w wr)) (fun _ o _ => j - (intOf o).toNat)
 case atStart => exact ⟨i + 1, Nat.le_refl _, by omega, by go_num, by rw [Nat.sub_self]; exact Own.nil _ _ _, Below.refl _ _⟩
 case round =>
  obtain ⟨k, hk1, hk2, rfl, hown⟩ := hrel
  have b0 : (0 : Int) <= (k : Int) := Int.natCast_nonneg _
  have b1 : (k : Int) < (s.size : Int) := by omega
  have b2 : k < s.size := by omega
  by_cases hkj : k = j
  ·subst hkj
   have hc := HJ.out
   rw [get_bang s k b2] at hc
   have e1 : (((s[k].toNat : Nat) : Int) == 34) = true := by simp; omega
   have hst := str_of_own hown.out.1
   clear hc
   go_wp2_with fail
   go_ret3
   exact ⟨rfl, hown.out.2⟩
  ·have hok := okCh_iff (HM.out k (by omega) (by omega))
   rw [get_bang s k b2] at hok
   have e1 : (((s[k].toNat : Nat) : Int) == 34) = false := by simp; omega
   have e2 : decide (((s[k].toNat : Nat) : Int) < 32) = false := by simp; omega
   have e3 : (((s[k].toNat : Nat) : Int) == 92) = false := by simp; omega
   have h1 := one_ascii b2 (by rw [get_bang s k b2]; omega)
   have HON := Lib.hid (one_any s k wr (by unfold maxLen; omega) b2)
   rw [h1] at HON
   clear hok h1
   go_wp2_with fail
   refine HON.out.mono ?_
   rintro e w2 ⟨rfl, rfl⟩
   have HL : Hid (((s.data.toList.drop (i + 1)).take (k - (i + 1))).length + (s.extract k (k + 1)).size <= 140737488355328) := by
    unfold Hid
    rw [List.length_take, <- str_len (s.extract k (k + 1)), ext_one b2, List.length_singleton]
    have h1 : (s.data.toList.drop (i + 1)).length <= s.size := by rw [List.length_drop, str_len]; omega
    omega
   go_wp2_with (at_builtin; refine wpList_append_str _ rfl _ _ rfl rfl rfl hown.out.1 HL.out hown.out.2.size ?_; intro v3 w3 ho3 hg3)
   rw [ext_one b2, <- cut_step (by omega) b2] at ho3
   go_roundw
   case rel => exact ⟨k + 1, by omega, by omega, by go_num, ho3, Below.appended hown.out.2 hg3 hown.out.1 hown.out.2.size⟩
   case measure => simp [intOf]; omega
theorem tw_step {p : UInt8 -> Bool} {l : List UInt8} {j : Nat} {c : UInt8} (hc : l[j]? = some c) (hp : p c = true) : (l.drop j).takeWhile p = c :: (l.drop (j + 1)).takeWhile p /\ (l.drop j).dropWhile p = (l.drop (j + 1)).dropWhile p := by
 obtain ⟨h1, h2⟩ := List.getElem?_eq_some_iff.1 hc
 rw [List.drop_eq_getElem_cons h1, h2, List.takeWhile_cons, List.dropWhile_cons, if_pos hp, if_pos hp]
 exact ⟨rfl, rfl⟩
theorem tw_stop {p : UInt8 -> Bool} {l : List UInt8} {j : Nat} {c : UInt8} (hc : l[j]? = some c) (hp : p c = false) : (l.drop j).takeWhile p = [] /\ (l.drop j).dropWhile p = l.drop j := by
 obtain ⟨h1, h2⟩ := List.getElem?_eq_some_iff.1 hc
 rw [List.drop_eq_getElem_cons h1, h2, List.takeWhile_cons, List.dropWhile_cons, hp]
 exact ⟨rfl, rfl⟩
def TwAt (p : UInt8 -> Bool) (l : List UInt8) (j : Nat) : Prop := l.takeWhile p = l.take j ++ (l.drop j).takeWhile p /\ l.dropWhile p = (l.drop j).dropWhile p
theorem TwAt.zero (p : UInt8 -> Bool) (l : List UInt8) : TwAt p l 0 := ⟨rfl, rfl⟩
theorem TwAt.next {p : UInt8 -> Bool} {l : List UInt8} {j : Nat} {c : UInt8} (h : TwAt p l j) (hc : l[j]? = some c) (hp : p c = true) : TwAt p l (j + 1) := by
 obtain ⟨h1, h2⟩ := h
 obtain ⟨h3, h4⟩ := tw_step hc hp
 refine ⟨?_, h2.trans h4⟩
 rw [h1, h3, List.take_add_one, hc]
 simp
theorem TwAt.stop {p : UInt8 -> Bool} {l : List UInt8} {j : Nat} {c : UInt8} (h : TwAt p l j) (hc : l[j]? = some c) (hp : p c = false) : l.takeWhile p = l.take j /\ l.dropWhile p = l.drop j := by
 obtain ⟨h1, h2⟩ := h
 obtain ⟨h3, h4⟩ := tw_stop hc hp
 rw [h1, h2, h3, h4, List.append_nil]
 exact ⟨rfl, rfl⟩
theorem TwAt.done {p : UInt8 -> Bool} {l : List UInt8} (h : TwAt p l l.length) : l.takeWhile p = l /\ l.dropWhile p = [] := by
 obtain ⟨h1, h2⟩ := h
 rw [h1, h2, List.drop_length, List.take_length]
 simp
theorem extB (s : ByteArray) (j : Nat) : s.extract 0 j = toB (s.data.toList.take j) := by
 apply ByteArray.ext
 apply Array.toList_inj.1
 rw [ext_list]
 simp [toB]
theorem extE (s : ByteArray) (j : Nat) : s.extract j s.size = toB (s.data.toList.drop j) := by
 apply ByteArray.ext
 apply Array.toList_inj.1
 rw [ext_list]
 have : s.data.toList.length = s.size := by rw [Array.length_toList]; rfl
 simp only [toB]
 exact List.take_of_length_le (by rw [List.length_drop]; omega)
theorem stopQ_any (c : UInt8) (w : World) : Calls Tryz.prog 128 #[.int .u8 c.toNat] w fun e w' => e = .returned (.bool (!notQ c)) /\ w = w' := by
 have hq : (((c.toNat : Nat) : Int) == 34) = !notQ c := by
  unfold notQ
  rw [Bool.not_not, Bool.eq_iff_iff, beq_iff_eq, decide_eq_true_iff]
  constructor
  ·intro h
   exact UInt8.toNat_inj.1 (show c.toNat = (34 : UInt8).toNat from by have : (34 : UInt8).toNat = 34 := rfl; omega)
  ·rintro rfl
   rfl
 obtain ⟨b, hb⟩ : ∃ b, (!notQ c) = b := ⟨_, rfl⟩
 rw [hb] at hq
 rw [hb]
 clear hb
 go_enter Tryz.func128, Tryz.ntmps128
 go_wp2_with fail
 go_ret
 exact ⟨rfl, rfl⟩
theorem stopE_any (c : UInt8) (w : World) : Calls Tryz.prog 129 #[.int .u8 c.toNat] w fun e w' => e = .returned (.bool (!notE c)) /\ w = w' := by
 have h34 : (((c.toNat : Nat) : Int) == 34) = decide (c = 34) := by
  rw [Bool.eq_iff_iff, beq_iff_eq, decide_eq_true_iff]
  constructor
  ·intro h
   exact UInt8.toNat_inj.1 (show c.toNat = (34 : UInt8).toNat from by have : (34 : UInt8).toNat = 34 := rfl; omega)
  ·rintro rfl
   rfl
 have h32 : (((c.toNat : Nat) : Int) == 32) = decide (c = 32) := by
  rw [Bool.eq_iff_iff, beq_iff_eq, decide_eq_true_iff]
  constructor
  ·intro h
   exact UInt8.toNat_inj.1 (show c.toNat = (32 : UInt8).toNat from by have : (32 : UInt8).toNat = 32 := rfl; omega)
  ·rintro rfl
   rfl
 unfold notE
 rw [Bool.not_not]
 obtain ⟨a, ha⟩ : ∃ b, decide (c = 32) = b := ⟨_, rfl⟩
 obtain ⟨b, hb⟩ : ∃ b, decide (c = 34) = b := ⟨_, rfl⟩
 rw [ha] at h32
 rw [hb] at h34
 rw [ha, hb]
 clear ha hb
 cases a
 all_goals
  go_enter Tryz.func129, Tryz.ntmps129
  go_wp2_with fail
  go_ret
  exact ⟨rfl, rfl⟩
theorem untilQ_any (s : ByteArray) (w : World) (hs : s.size <= maxLen) : Calls Tryz.prog 131 #[.string s, .func (.func 128) #[] #[]] w fun e w' => e = .returned (.tuple #[.string (toB (s.data.toList.takeWhile notQ)), .string (toB (s.data.toList.dropWhile notQ))]) /\ ∃ n, w' = w.drewN n := by
 have hsz : s.data.toList.length = s.size := by rw [Array.length_toList]; rfl
 have HGE : Hid (∀ k, (h : k < s.size) -> s.data.toList[k]? = some s[k]) := fun k h => get_optS h
 have HSZ := Lib.hid hsz
 have s0 : (0 : Int) <= (s.size : Int) := Int.natCast_nonneg _
 unfold maxLen at hs
 obtain ⟨A, hA⟩ : ∃ A, s.data.toList.takeWhile notQ = A := ⟨_, rfl⟩
 obtain ⟨D, hD⟩ : ∃ A, s.data.toList.dropWhile notQ = A := ⟨_, rfl⟩
 rw [hA, hD]
 have HAD : Hid (∀ j, TwAt notQ s.data.toList j -> TwAt notQ s.data.toList j) := fun j h => h
 have HA := Lib.hid hA
 have HD := Lib.hid hD
 clear hsz hA hD
 go_enter Tryz.func131, Tryz.ntmps131
 go_wp2_with fail
 go_loopw [9] (fun i wr => ∃ k : Nat, k <= s.size /\ i = .int .i64 (k : Int) /\ Hid (TwAt notQ s.data.toList k) /\ w = wr) (fun i _ => s.size - (intOf i).toNat)
 case atStart => exact ⟨0, by omega, rfl, TwAt.zero _ _, rfl⟩
 case round =>
  obtain ⟨k, hk, rfl, HT, rfl⟩ := hrel
  have hk0 : (0 : Int) <= (k : Int) := Int.natCast_nonneg _
  by_cases hlt : k < s.size
  ·have hk1 : (k : Int) < (s.size : Int) := by omega
   have hg := HGE.out k hlt
   obtain ⟨c, hc⟩ : ∃ c, s[k] = c := ⟨_, rfl⟩
   rw [hc] at hg
   have HG := Lib.hid hg
   have HSC := Lib.hid (stopQ_any c w)
   clear hg
   cases hp : notQ c with
   | true =>
     rw [hp] at HSC
     have HT2 := Lib.hid (HT.out.next HG.out hp)
     clear hp
     go_wp2_with (go_at_call 128; (with_reducible refine HSC.out.mono ?_); rintro e w1 ⟨rfl, rfl⟩)
     go_roundw
     case rel => exact ⟨k + 1, by omega, by go_num, HT2.out, by trivial⟩
     case measure => simp [intOf]; omega
   | false =>
     rw [hp] at HSC
     have HT2 := Lib.hid (HT.out.stop HG.out hp)
     have e1 : Hid (s.extract 0 k = toB A) := by unfold Hid; rw [extB, <- HT2.out.1, HA.out]
     have e2 : Hid (s.extract k s.size = toB D) := by unfold Hid; rw [extE, <- HT2.out.2, HD.out]
     clear hp
     go_upto_region 5 with (go_at_call 128; (with_reducible refine HSC.out.mono ?_); rintro e w1 ⟨rfl, rfl⟩)
     go_quiet (fail)
     try go_wp2_with fail
     refine bodyPost_ret (v := .tuple #[.string (s.extract 0 k), .string (s.extract k s.size)]) (by simp [results, Tryz.results131, go_sem]) rfl ⟨by rw [e1.out, e2.out], ?_⟩
     exact ⟨_, rfl⟩
  ·obtain rfl : k = s.size := by omega
   have h1 := HT.out
   rw [<- HSZ.out] at h1
   have HT2 := Lib.hid h1.done
   have e1 : Hid (s = toB A) := by unfold Hid; rw [<- HA.out, HT2.out.1]; rfl
   have e2 : Hid ((⟨#[]⟩ : ByteArray) = toB D) := by unfold Hid; rw [<- HD.out, HT2.out.2]; rfl
   clear h1
   go_wp2_with fail
   refine bodyPost_ret (v := .tuple #[.string s, .string ⟨#[]⟩]) (by simp [results, Tryz.results131, go_sem]) rfl ⟨by rw [<- e1.out, <- e2.out], 0, ?_⟩
   rfl
theorem untilE_any (s : ByteArray) (w : World) (hs : s.size <= maxLen) : Calls Tryz.prog 131 #[.string s, .func (.func 129) #[] #[]] w fun e w' => e = .returned (.tuple #[.string (toB (s.data.toList.takeWhile notE)), .string (toB (s.data.toList.dropWhile notE))]) /\ ∃ n, w' = w.drewN n := by
 have hsz : s.data.toList.length = s.size := by rw [Array.length_toList]; rfl
 have HGE : Hid (∀ k, (h : k < s.size) -> s.data.toList[k]? = some s[k]) := fun k h => get_optS h
 have HSZ := Lib.hid hsz
 have s0 : (0 : Int) <= (s.size : Int) := Int.natCast_nonneg _
 unfold maxLen at hs
 obtain ⟨A, hA⟩ : ∃ A, s.data.toList.takeWhile notE = A := ⟨_, rfl⟩
 obtain ⟨D, hD⟩ : ∃ A, s.data.toList.dropWhile notE = A := ⟨_, rfl⟩
 rw [hA, hD]
 have HAD : Hid (∀ j, TwAt notE s.data.toList j -> TwAt notE s.data.toList j) := fun j h => h
 have HA := Lib.hid hA
 have HD := Lib.hid hD
 clear hsz hA hD
 go_enter Tryz.func131, Tryz.ntmps131
 go_wp2_with fail
 go_loopw [9] (fun i wr => ∃ k : Nat, k <= s.size /\ i = .int .i64 (k : Int) /\ Hid (TwAt notE s.data.toList k) /\ w = wr) (fun i _ => s.size - (intOf i).toNat)
 case atStart => exact ⟨0, by omega, rfl, TwAt.zero _ _, rfl⟩
 case round =>
  obtain ⟨k, hk, rfl, HT, rfl⟩ := hrel
  have hk0 : (0 : Int) <= (k : Int) := Int.natCast_nonneg _
  by_cases hlt : k < s.size
  ·have hk1 : (k : Int) < (s.size : Int) := by omega
   have hg := HGE.out k hlt
   obtain ⟨c, hc⟩ : ∃ c, s[k] = c := ⟨_, rfl⟩
   rw [hc] at hg
   have HG := Lib.hid hg
   have HSC := Lib.hid (stopE_any c w)
   clear hg
   cases hp : notE c with
   | true =>
     rw [hp] at HSC
     have HT2 := Lib.hid (HT.out.next HG.out hp)
     clear hp
     go_wp2_with (go_at_call 129; (with_reducible refine HSC.out.mono ?_); rintro e w1 ⟨rfl, rfl⟩)
     go_roundw
     case rel => exact ⟨k + 1, by omega, by go_num, HT2.out, by trivial⟩
     case measure => simp [intOf]; omega
   | false =>
     rw [hp] at HSC
     have HT2 := Lib.hid (HT.out.stop HG.out hp)
     have e1 : Hid (s.extract 0 k = toB A) := by unfold Hid; rw [extB, <- HT2.out.1, HA.out]
     have e2 : Hid (s.extract k s.size = toB D) := by unfold Hid; rw [extE, <- HT2.out.2, HD.out]
     clear hp
     go_upto_region 5 with (go_at_call 129; (with_reducible refine HSC.out.mono ?_); rintro e w1 ⟨rfl, rfl⟩)
     go_quiet (fail)
     try go_wp2_with fail
     refine bodyPost_ret (v := .tuple #[.string (s.extract 0 k), .string (s.extract k s.size)]) (by simp [results, Tryz.results131, go_sem]) rfl ⟨by rw [e1.out, e2.out], ?_⟩
     exact ⟨_, rfl⟩
  ·obtain rfl : k = s.size := by omega
   have h1 := HT.out
   rw [<- HSZ.out] at h1
   have HT2 := Lib.hid h1.done
   have e1 : Hid (s = toB A) := by unfold Hid; rw [<- HA.out, HT2.out.1]; rfl
   have e2 : Hid ((⟨#[]⟩ : ByteArray) = toB D) := by unfold Hid; rw [<- HD.out, HT2.out.2]; rfl
   clear h1
   go_wp2_with fail
   refine bodyPost_ret (v := .tuple #[.string s, .string ⟨#[]⟩]) (by simp [results, Tryz.results131, go_sem]) rfl ⟨by rw [<- e1.out, <- e2.out], 0, ?_⟩
   rfl
end
section
open Go Go.RowKit Go.OpenShut Go.Shelf
attribute [local go_sem] Oper.semAt_some
theorem bytes_cons {x : ByteArray} (h : 0 < x.size) : x.data.toList = x[0] :: x.data.toList.drop 1 := by
 have h1 : x.data.toList[0]? = some x[0] := get_optS h
 cases hl : x.data.toList with
 | nil => rw [hl] at h1; simp at h1
 | cons a r =>
   rw [hl] at h1
   simp at h1
   rw [<- h1]
   rfl
theorem world_stepIn {F : Fence} {n : Nat} {P : Program} {c : Code} {Q : Exit -> Act -> World -> Prop} {a : Act} {W : World} (R : World -> Prop) (h : R W) (k : ∀ W1, R W1 -> c.wpIn F n P Q a W1) : c.wpIn F n P Q a W := k _ h
theorem toB_list (l : List UInt8) : (toB l).data.toList = l := by simp [toB]
theorem toB_tl (l : List UInt8) : (toB l).toList = l := by rw [ByteArray.toList_eq]; exact toB_list l
theorem iterJ {J : List (List UInt8) -> World -> Prop} {s : List (List UInt8)} {bq : Nat} {wr X : World} (HJ : ∀ s X Y, J s X -> X.grownBy Y (some bq) -> J s Y) (h : J s wr) (v : Value) (h1 : wr.grownBy X (some bq)) : J s (X.setCell ⟨bq, 0, none⟩ v) :=
 HJ _ _ _ h (World.grownBy.trans h1 (grownBy_setCell' X bq v))
theorem iter_in (F : Fence) (hFw : F = Fence.wide) (n : Nat) (hn : 1 <= n) (l bq b3 b4 N : Nat) (J : List (List UInt8) -> World -> Prop) (q0 : ByteArray) (hs : q0.size <= 1000000) (hN : q0.size <= N) (n3 : bq ≠ b3) (n4 : bq ≠ b4)
 (hJ : ∀ s X Y, J s X -> X.grownBy Y (some bq) -> J s Y)
 (hY : ∀ pre x W, J pre W -> pre.length < N -> YieldAt F (n - 1) Tryz.prog l #[.string (toB x)] W fun e W' => e = .returned (.bool true) /\ J (pre ++ [x]) W' /\ ∀ b, b = bq \/ b = b3 \/ b = b4 -> W'.heap[b]? = W.heap[b]?)
 (W : World) (hq : Boxed W bq 9 (.string q0)) (h3 : Boxed W b3 157 (.func (.func 128) #[] #[])) (h4 : Boxed W b4 157 (.func (.func 129) #[] #[])) (h0 : J [] W) :
 CallsIn F n Tryz.prog 130 #[.func (.yield l) #[] #[], .pointer (some ⟨bq, 0, none⟩), .pointer (some ⟨b3, 0, none⟩), .pointer (some ⟨b4, 0, none⟩)] W fun e W' => (∃ v, e = .returned v) /\ J (termsF q0.data.toList) W' := by
 have hro : F.round = none := by rw [hFw]; rfl
 have hfn : ∀ f, F.fn f := fun f => by rw [hFw]; trivial
 have HF := Lib.hid hFw
 have HJ := Lib.hid hJ
 have HY := Lib.hid hY
 clear hFw hJ hY
 refine callsIn_of_wp Tryz.func130 rfl (hfn _) ?_ hro
 simp only [Tryz.ntmps130, List.size_toArray, List.length_cons, List.length_nil, Nat.reduceAdd, Nat.reduceSub, Array.replicate_succ, Array.replicate_zero, List.push_toArray, List.append_toArray, List.nil_append, List.cons_append]
 gi_wp2
 gi_loopg [5] q0.size (fun gk u5 wr => ∃ (x : ByteArray) (pre : List (List UInt8)), x.size <= gk /\ x.size <= q0.size /\ Hid (pre ++ termsF x.data.toList = termsF q0.data.toList) /\ Hid (Boxed wr bq 9 (.string x) /\ Boxed wr b3 157 (.func (.func 128) #[] #[]) /\ Boxed wr b4 157 (.func (.func 129) #[] #[]) /\ J pre wr))
 case atStart => exact ⟨q0, [], Nat.le_refl _, Nat.le_refl _, rfl, hq, h3, h4, h0⟩
 case round =>
  obtain ⟨x, pre, hgk, hxs, HP, HB⟩ := hrel
  obtain ⟨bq0, b30, b40, hj⟩ := HB.out
  have cq := bq0.cell
  have fq := bq0.frozen
  have c3 := b30.cell
  have c4 := b40.cell
  have lq := bq0.lt
  clear HB
  have HBQ := Lib.hid bq0
  have HB3 := Lib.hid b30
  have HB4 := Lib.hid b40
  have HJJ := Lib.hid hj
  clear bq0 b30 b40 hj
  by_cases hx0 : x.size = 0
  ·have e0 : x = ⟨#[]⟩ := by
    apply ByteArray.ext
    exact Array.eq_empty_of_size_eq_zero hx0
   subst e0
   have HP2 : Hid (pre = termsF q0.data.toList) := by
    have := HP.out
    rw [show (⟨#[]⟩ : ByteArray).data.toList = [] from rfl, termsF_nil, List.append_nil] at this
    exact this
   clear hx0 HP
   gi_wp2
   go_end0
   exact ⟨⟨_, rfl⟩, by rw [<- HP2.out]; exact HJJ.out⟩
  ·have hx1 : 0 < x.size := by omega
   have hcons := bytes_cons hx1
   obtain ⟨c, hc⟩ : ∃ c, x[0] = c := ⟨_, rfl⟩
   rw [hc] at hcons
   obtain ⟨r, hr⟩ : ∃ r, x.data.toList.drop 1 = r := ⟨_, rfl⟩
   have HR0 := Lib.hid hr.symm
   rw [hr] at hcons
   have HCO := Lib.hid hcons
   have hne : x.toList = c :: r := by rw [ByteArray.toList_eq]; exact hcons
   have HNE : Hid (x.toList = c :: r) := hne
   have e1 : (x.toList == []) = false := by rw [hne]; rfl
   have e2 : (x.toList != []) = true := by rw [hne]; rfl
   have e3 : x.toList.isEmpty = false := by rw [hne]; rfl
   have hcl := c.toNat_lt
   clear hcons hne hr
   have hxt : (x.extract 1 x.size).size = x.size - 1 := by rw [ByteArray.size_extract]; omega
   have hxl : (x.extract 1 x.size).data.toList = r := by rw [extE, toB_list, <- HR0.out]
   have HXL := Lib.hid hxl
   clear hxl
   by_cases h32 : c = 32
   ·subst h32
    have f32 : ((((32 : UInt8).toNat : Nat) : Int) == 32) = true := by decide
    have f34 : ((((32 : UInt8).toNat : Nat) : Int) == 34) = false := by decide
    gi_wp2
    gi_roundg (x.size - 1)
    case rel =>
     refine ⟨x.extract 1 x.size, pre, by omega, by omega, ?_, HBQ.out.set _, HB3.out.other (Ne.symm n3) _, HB4.out.other (Ne.symm n4) _, iterJ HJ.out HJJ.out _ (World.grownBy.refl _ _)⟩
     unfold Hid
     rw [HXL.out, <- HP.out, HCO.out, termsF_sp]
    case measure => omega
   ·have f32 : (((c.toNat : Nat) : Int) == 32) = false := by
     rw [beq_eq_false_iff_ne]
     intro h
     exact h32 (UInt8.toNat_inj.1 (show c.toNat = (32 : UInt8).toNat from by have : (32 : UInt8).toNat = 32 := rfl; omega))
    by_cases h34 : c = 34
    ·have f34 : (((c.toNat : Nat) : Int) == 34) = true := by rw [h34]; rfl
     obtain ⟨A, hA⟩ : ∃ A, r.takeWhile notQ = A := ⟨_, rfl⟩
     obtain ⟨D, hD⟩ : ∃ A, r.dropWhile notQ = A := ⟨_, rfl⟩
     have HPP : Hid (pre ++ ((if A = [] then [] else [A]) ++ termsF (D.drop 1)) = termsF q0.data.toList) := by
      unfold Hid
      rw [<- HP.out, HCO.out, h34, termsF_q, hA, hD]
     have hDL : D.length <= r.length := by rw [<- hD]; exact dropW_len r
     have hrl : r.length = x.size - 1 := by rw [<- HXL.out, Array.length_toList]; exact hxt
     have HU : Hid (∀ w, CallsIn F (n - 1) Tryz.prog 131 #[.string (x.extract 1 x.size), .func (.func 128) #[] #[]] w fun e w' => e = .returned (.tuple #[.string (toB A), .string (toB D)]) /\ ∃ m, w' = w.drewN m) := by
      intro w
      rw [HF.out]
      have := (callsIn_wide (n := n - 1)).2 (untilQ_any (x.extract 1 x.size) w (by unfold maxLen; omega))
      rw [HXL.out, hA, hD] at this
      exact this
     clear hA hD h34
     gi_upto_region 7 with fail
     gi_region_with (gi_at_call 131; (with_reducible refine (HU.out _).mono ?_); rintro e w1 ⟨rfl, m, rfl⟩)
     all_goals (
      gi_upto_region 8 with fail
      refine world_stepIn (fun W1 => Hid (Boxed W1 bq 9 (.string (toB D))) /\ Hid (Boxed W1 b3 157 (.func (.func 128) #[] #[])) /\ Hid (Boxed W1 b4 157 (.func (.func 129) #[] #[])) /\ J pre W1) ⟨Boxed.set _ HBQ.out, Boxed.other HB3.out (Ne.symm n3) _, Boxed.other HB4.out (Ne.symm n4) _, iterJ HJ.out HJJ.out _ ⟨rfl, rfl, rfl, Nat.le_refl _, fun _ _ _ => rfl⟩⟩ ?_
      rintro W0 ⟨hq0, h30, h40, hj0⟩
      have cq0 := hq0.out.cell
      have fq0 := hq0.out.frozen
      have lq0 := hq0.out.lt
      have HJ0 := Lib.hid hj0
      clear hj0 cq fq c3 c4 lq HBQ HB3 HB4 HJJ e1 e2 e3
      cases D with
      | nil =>
        rw [show toB [] = ⟨#[]⟩ from rfl] at *
        gi_upto_region 10 with fail
        refine world_stepIn (fun W1 => Hid (Boxed W1 bq 9 (.string (toB ([])))) /\ Hid (Boxed W1 b3 157 (.func (.func 128) #[] #[])) /\ Hid (Boxed W1 b4 157 (.func (.func 129) #[] #[])) /\ J pre W1) ⟨hq0.out, h30.out, h40.out, HJ0.out⟩ ?_
        rintro W1 ⟨hq1, h31, h41, hj1⟩
        cases A with
        | nil =>
          have HPE : Hid (pre ++ termsF ([]) = termsF q0.data.toList) := HPP.out
          clear HPP
          rw [show toB [] = ⟨#[]⟩ from rfl]
          gi_wp2
          gi_roundg ((toB ([])).size)
          case rel => exact ⟨toB ([]), pre, Nat.le_refl _, by rw [toB_size]; omega, by unfold Hid; rw [toB_list]; exact HPE.out, hq1.out, h31.out, h41.out, hj1⟩
          case measure => rw [toB_size]; omega
        | cons a0 a1 =>
          have HPE : Hid (pre ++ ([a0 :: a1] ++ termsF ([])) = termsF q0.data.toList) := HPP.out
          clear HPP
          have t1a : (toB (a0 :: a1)).toList = a0 :: a1 := toB_tl _
          have t2a : ((toB (a0 :: a1)).toList == []) = false := by rw [t1a]; rfl
          have t3a : ((toB (a0 :: a1)).toList != []) = true := by rw [t1a]; rfl
          have t4a : (toB (a0 :: a1)).toList.isEmpty = false := by rw [t1a]; rfl
          clear t1a
          have HLN : Hid (pre.length < N) := by
           have h1 := congrArg List.length HPE.out
           have h2 := termsF_len q0.data.toList
           have h3 : q0.data.toList.length = q0.size := by rw [Array.length_toList]; rfl
           simp only [List.length_append, List.length_cons, List.length_nil] at h1
           unfold Hid
           omega
          obtain ⟨fn, tmps, assign, body, hy, hR⟩ := HY.out pre (a0 :: a1) W1 hj1 HLN.out
          have hR' := Lib.hid hR
          clear hR
          gi_wp2
          refine hR'.out.mono ?_
          rintro e W3 ⟨rfl, hJ3, hk3⟩
          gi_wp2
          gi_roundg ((toB ([])).size)
          case rel => exact ⟨toB ([]), pre ++ [a0 :: a1], Nat.le_refl _, by rw [toB_size]; omega, by unfold Hid; rw [toB_list, List.append_assoc]; exact HPE.out, (hk3 bq (.inl rfl)).trans hq1.out, (hk3 b3 (.inr (.inl rfl))).trans h31.out, (hk3 b4 (.inr (.inr rfl))).trans h41.out, hJ3⟩
          case measure => rw [toB_size]; omega
      | cons d0 d1 =>
        have t1d : (toB (d0 :: d1)).toList = d0 :: d1 := toB_tl _
        have t2d : ((toB (d0 :: d1)).toList == []) = false := by rw [t1d]; rfl
        have t3d : ((toB (d0 :: d1)).toList != []) = true := by rw [t1d]; rfl
        have t4d : (toB (d0 :: d1)).toList.isEmpty = false := by rw [t1d]; rfl
        clear t1d
        have hdz : (toB (d0 :: d1)).size = d1.length + 1 := by rw [toB_size]; rfl
        have hdl : d1.length + 1 <= r.length := hDL
        have hde : Hid ((toB (d0 :: d1)).extract 1 (d1.length + 1) = toB d1) := by unfold Hid; rw [<- hdz, extE, toB_list]; rfl
        gi_upto_region 10 with fail
        refine world_stepIn (fun W1 => Hid (Boxed W1 bq 9 (.string (toB (d1)))) /\ Hid (Boxed W1 b3 157 (.func (.func 128) #[] #[])) /\ Hid (Boxed W1 b4 157 (.func (.func 129) #[] #[])) /\ J pre W1) ⟨(by rw [hde.out]; exact Boxed.set _ hq0.out), Boxed.other h30.out (Ne.symm n3) _, Boxed.other h40.out (Ne.symm n4) _, iterJ HJ.out HJ0.out _ (World.grownBy.refl _ _)⟩ ?_
        rintro W1 ⟨hq1, h31, h41, hj1⟩
        cases A with
        | nil =>
          have HPE : Hid (pre ++ termsF (d1) = termsF q0.data.toList) := HPP.out
          clear HPP
          rw [show toB [] = ⟨#[]⟩ from rfl]
          gi_wp2
          gi_roundg ((toB (d1)).size)
          case rel => exact ⟨toB (d1), pre, Nat.le_refl _, by rw [toB_size]; omega, by unfold Hid; rw [toB_list]; exact HPE.out, hq1.out, h31.out, h41.out, hj1⟩
          case measure => rw [toB_size]; omega
        | cons a0 a1 =>
          have HPE : Hid (pre ++ ([a0 :: a1] ++ termsF (d1)) = termsF q0.data.toList) := HPP.out
          clear HPP
          have t1a : (toB (a0 :: a1)).toList = a0 :: a1 := toB_tl _
          have t2a : ((toB (a0 :: a1)).toList == []) = false := by rw [t1a]; rfl
          have t3a : ((toB (a0 :: a1)).toList != []) = true := by rw [t1a]; rfl
          have t4a : (toB (a0 :: a1)).toList.isEmpty = false := by rw [t1a]; rfl
          clear t1a
          have HLN : Hid (pre.length < N) := by
           have h1 := congrArg List.length HPE.out
           have h2 := termsF_len q0.data.toList
           have h3 : q0.data.toList.length = q0.size := by rw [Array.length_toList]; rfl
           simp only [List.length_append, List.length_cons, List.length_nil] at h1
           unfold Hid
           omega
          obtain ⟨fn, tmps, assign, body, hy, hR⟩ := HY.out pre (a0 :: a1) W1 hj1 HLN.out
          have hR' := Lib.hid hR
          clear hR
          gi_wp2
          refine hR'.out.mono ?_
          rintro e W3 ⟨rfl, hJ3, hk3⟩
          gi_wp2
          gi_roundg ((toB (d1)).size)
          case rel => exact ⟨toB (d1), pre ++ [a0 :: a1], Nat.le_refl _, by rw [toB_size]; omega, by unfold Hid; rw [toB_list, List.append_assoc]; exact HPE.out, (hk3 bq (.inl rfl)).trans hq1.out, (hk3 b3 (.inr (.inl rfl))).trans h31.out, (hk3 b4 (.inr (.inr rfl))).trans h41.out, hJ3⟩
          case measure => rw [toB_size]; omega)
    ·have f34 : (((c.toNat : Nat) : Int) == 34) = false := by
      rw [beq_eq_false_iff_ne]
      intro h
      exact h34 (UInt8.toNat_inj.1 (show c.toNat = (34 : UInt8).toNat from by have : (34 : UInt8).toNat = 34 := rfl; omega))
     obtain ⟨A, hA⟩ : ∃ A, (c :: r).takeWhile notE = A := ⟨_, rfl⟩
     obtain ⟨D, hD⟩ : ∃ A, (c :: r).dropWhile notE = A := ⟨_, rfl⟩
     have HPE : Hid (pre ++ ([A] ++ termsF D) = termsF q0.data.toList) := by
      unfold Hid
      rw [<- HP.out, HCO.out, termsF_e h32 h34, hA, hD]
      rfl
     have hAne : A ≠ [] := by rw [<- hA]; exact takeW_ne h32 h34 r
     have hrl : r.length = x.size - 1 := by rw [<- HXL.out, Array.length_toList]; exact hxt
     have hDL : D.length <= r.length := by rw [<- hD, dropW_cons (notE_yes h32 h34)]; exact dropW_len r
     have HU : Hid (∀ w, CallsIn F (n - 1) Tryz.prog 131 #[.string x, .func (.func 129) #[] #[]] w fun e w' => e = .returned (.tuple #[.string (toB A), .string (toB D)]) /\ ∃ m, w' = w.drewN m) := by
      intro w
      rw [HF.out]
      have := (callsIn_wide (n := n - 1)).2 (untilE_any x w (by unfold maxLen; omega))
      rw [HCO.out, hA, hD] at this
      exact this
     clear hA hD
     gi_upto_region 3 with fail
     gi_upto_region 10 with (gi_at_call 131; (with_reducible refine (HU.out _).mono ?_); rintro e w1 ⟨rfl, m, rfl⟩)
     refine world_stepIn (fun W1 => Hid (Boxed W1 bq 9 (.string (toB D))) /\ Hid (Boxed W1 b3 157 (.func (.func 128) #[] #[])) /\ Hid (Boxed W1 b4 157 (.func (.func 129) #[] #[])) /\ J pre W1) ⟨Boxed.set _ HBQ.out, Boxed.other HB3.out (Ne.symm n3) _, Boxed.other HB4.out (Ne.symm n4) _, iterJ HJ.out HJJ.out _ ⟨rfl, rfl, rfl, Nat.le_refl _, fun _ _ _ => rfl⟩⟩ ?_
     rintro W1 ⟨hq1, h31, h41, hj1⟩
     clear cq fq c3 c4 lq HBQ HB3 HB4 HJJ e1 e2 e3
     cases A with
     | nil => exact (hAne rfl).elim
     | cons a0 a1 =>
       clear hAne
       have t1a : (toB (a0 :: a1)).toList = a0 :: a1 := toB_tl _
       have t2a : ((toB (a0 :: a1)).toList == []) = false := by rw [t1a]; rfl
       have t3a : ((toB (a0 :: a1)).toList != []) = true := by rw [t1a]; rfl
       have t4a : (toB (a0 :: a1)).toList.isEmpty = false := by rw [t1a]; rfl
       clear t1a
       have HLN : Hid (pre.length < N) := by
        have h1 := congrArg List.length HPE.out
        have h2 := termsF_len q0.data.toList
        have h3 : q0.data.toList.length = q0.size := by rw [Array.length_toList]; rfl
        simp only [List.length_append, List.length_cons, List.length_nil] at h1
        unfold Hid
        omega
       obtain ⟨fn, tmps, assign, body, hy, hR⟩ := HY.out pre (a0 :: a1) W1 hj1 HLN.out
       have hR' := Lib.hid hR
       clear hR
       gi_wp2
       refine hR'.out.mono ?_
       rintro e W3 ⟨rfl, hJ3, hk3⟩
       gi_wp2
       gi_roundg ((toB (D)).size)
       case rel => exact ⟨toB (D), pre ++ [a0 :: a1], Nat.le_refl _, by rw [toB_size]; omega, by unfold Hid; rw [toB_list, List.append_assoc]; exact HPE.out, (hk3 bq (.inl rfl)).trans hq1.out, (hk3 b3 (.inr (.inl rfl))).trans h31.out, (hk3 b4 (.inr (.inr rfl))).trans h41.out, hJ3⟩
       case measure => rw [toB_size]; omega
attribute [local go_sem] Oper.semAt_some
def turnPost {α : Type} (B : Nat) (ok : Nat -> Prop) (I : List α -> World -> Prop) (xs : List α) (W : World) : Exit -> Act -> World -> Prop
 | .normal, _, W' => KeepsFrom B W W' /\ (∀ b, ok b -> W'.heap[b]? = W.heap[b]?) /\ I xs W'
 | _, _, _ => False
theorem wpIn_rangeFunc_turn {α : Type} {F : Fence} {n : Nat} {P : Program} {g : Operand} {ps : Array Tmp} {assign body : Code} {Q : Exit -> Act -> World -> Prop} {a : Act} {w : World}
 (hro : F.round = none) (h1 : 1 <= n) {gf : Nat} {lb : Array Value} (hg : a.eval g = .func (.func gf) #[] lb) (hFg : F.fn gf) (eg : ∀ args w, (callFunc gf args).run P w = .ok (.enter gf args) w)
 {encs : α -> Array Value} (hps : ∀ x, (encs x).size = ps.size) (N : Nat) (ok : Nat -> Prop) (hok : ∀ b, ok b -> b < w.heap.size) (all : List α) (I : List α -> World -> Prop)
 (hI : ∀ s X Y row, I s X -> X.grownBy Y row -> (∀ r, row = some r -> ok r \/ w.heap.size <= r /\ ∃ o : Obj, X.heap[r]? = some o /\ o.isCells = false) -> I s Y) (h0 : I [] w)
 (hseq : ∀ (l : Nat) (J : List α -> World -> Prop) (W : World), (∀ b, ok b -> W.heap[b]? = w.heap[b]?) -> (∀ s X Y b, ok b -> J s X -> X.grownBy Y (some b) -> J s Y) ->
  (∀ pre x W1, J pre W1 -> pre.length < N -> YieldAt F (n - 1 - 1) P l (encs x) W1 fun e W' => e = .returned (.bool true) /\ J (pre ++ [x]) W' /\ ∀ b, ok b -> W'.heap[b]? = W1.heap[b]?) -> J [] W ->
  CallsIn F (n - 1) P gf (#[.func (.yield l) #[] #[]] ++ lb) W fun e W' => (∃ v, e = .returned v) /\ J all W')
 (a₁ : α -> Act)
 (hassign : ∀ (l : Nat) (x : α) (W : World) (K : Act -> World -> Prop), K (a₁ x) W -> assign.wpIn (F.inRound l) (n - 1 - 1) P (Exit.then K (fun _ _ _ => False)) { tmps := (ps.zip (encs x)).foldl (fun t (p, v) => t.setIfInBounds p v) a.tmps, defers := [] } W)
 (hbody : ∀ (l : Nat) (pre : List α) (x : α) (W : World), w.heap.size <= W.heap.size -> I pre W -> pre.length < N -> body.wpIn (F.inRound l) (n - 1 - 1) P (turnPost w.heap.size ok I (pre ++ [x]) W) (a₁ x) W)
 (hdone : ∀ (D : Nat) (W : World), w.heap.size <= D -> I all W -> W.heap[D]? = some (.deferred (some [])) -> Q .normal { a with defers := { target := .collected D, args := #[] } :: a.defers } W) :
 (Code.rangeFunc g ps assign body).wpIn F n P Q a w := by
 refine wpIn_rangeFunc ?_
 intro fn hfn
 rw [hro]
 obtain ⟨H, hH⟩ : ∃ H, w.heap.size = H := ⟨_, rfl⟩
 obtain ⟨rec, hrec⟩ : ∃ rec : LoopState -> Loop, rec = fun st => { state := st, pending := none, fn, tmps := a.tmps, params := ps, assign, body, defers := w.heap.size } := ⟨_, rfl⟩
 obtain ⟨V, hV⟩ : ∃ V, (w.alloc (.deferred (some []))).alloc (.loop (rec .ready)) = V := ⟨_, rfl⟩
 have vl : V.heap[H + 1]? = some (.loop (rec .ready)) := by
  have := World.alloc_heap_new (w.alloc (.deferred (some []))) (.loop (rec .ready))
  rw [hV, World.size_alloc, hH] at this
  exact this
 have vd : V.heap[H]? = some (.deferred (some [])) := by
  rw [<- hV, <- hH]
  exact (Below.heap_alloc _ _ _ (by simp)).trans (World.alloc_heap_new w _)
 have gV : w.grownBy V none := by rw [<- hV]; exact World.grownBy.trans (World.grownBy_alloc w _ none) (World.grownBy_alloc _ _ none)
 refine ⟨H + 1, [{ target := .collected H, args := #[] }], V, { target := .fn (.func gf) lb, args := #[.func (.yield (H + 1)) #[] #[]] }, V, gf,
  #[.func (.yield (H + 1)) #[] #[]] ++ lb, V, ?_, ?_, ?_, ?_, fun _ => h1, ?_⟩
 ·rw [<- hV, hrec, <- hH]
  exact run_enterLoop_outer _ _ _ _ _
 ·simp only [resolve, hg]
  simp [go_sem]
 ·intro f' hf'
  simp [Target.leads] at hf'
  subst hf'
  exact hFg
 ·simp [invoke, go_sem, eg]
 ·refine (hseq (H + 1) (fun pre W => I pre W /\ H + 1 < W.heap.size /\ W.heap[H + 1]? = some (.loop (rec .ready)) /\ W.heap[H]? = some (.deferred (some []))) V (fun b hb => gV.block b (hok b hb) (by simp)) ?_ ?_ ?_).mono ?_
  ·rintro s X Y b hb ⟨i, hs, l1, d1⟩ hg'
   have hbl := hok b hb
   refine ⟨hI s X Y _ i hg' (fun r e => by cases e; exact .inl hb), Nat.lt_of_lt_of_le hs hg'.size, ?_, ?_⟩
   ·exact (hg'.block (H + 1) hs (fun e => by cases e; omega)).trans l1
   ·exact (hg'.block H (by omega) (fun e => by cases e; omega)).trans d1
  ·rintro pre x W ⟨i, hs, l1, d1⟩ hlen
   have hy := run_yield (P := P) (args := encs x) l1 (by rw [hrec]; exact hps x)
   rw [hrec] at hy
   refine ⟨fn, _, assign, body, hy, roundIn_of_wpIn hfn (hassign _ x W _ ?_)⟩
   refine ⟨_, run_beginRound l1 (by rw [hrec]), ?_⟩
   obtain ⟨rec2, hrec2⟩ : ∃ r2 : Loop, { rec .ready with state := .busy } = r2 := ⟨_, rfl⟩
   rw [hrec2]
   have l2 : (W.putObj (H + 1) (.loop rec2)).heap[H + 1]? = some (.loop rec2) := World.putObj_heap_same hs
   have d2 : (W.putObj (H + 1) (.loop rec2)).heap[H]? = some (.deferred (some [])) := (World.putObj_heap_other (by omega)).trans d1
   have i2 : I pre (W.putObj (H + 1) (.loop rec2)) := hI _ _ _ _ i (grownBy_putObj' W (H + 1) _) (fun r e => by cases e; exact .inr ⟨by omega, _, l1, rfl⟩)
   refine wpIn_mono (hbody _ pre x _ (by simp; omega) i2 hlen) ?_
   rintro e a3 W3 hp
   cases e with
   | normal =>
     obtain ⟨k3, o3, i3⟩ := hp
     have l3 := k3.same _ _ (by omega) l2 rfl
     have d3 := k3.same _ _ (by omega) d2 rfl
     have s3 := (Array.getElem?_eq_some_iff.1 l3).1
     have hr := run_endRound (P := P) none l3
     have er : ({ rec2 with state := if (none : Option Code).isNone then .ready else .done, pending := none } : Loop) = rec .ready := by rw [<- hrec2, hrec]; rfl
     rw [er] at hr
     refine ⟨_, _, hr, rfl, ⟨hI _ _ _ _ i3 (grownBy_putObj' W3 (H + 1) _) (fun r e => by cases e; exact .inr ⟨by omega, _, l3, rfl⟩), by simpa using s3, World.putObj_heap_same s3, (World.putObj_heap_other (by omega)).trans d3⟩, ?_⟩
     intro b hb
     have hbl := hok b hb
     rw [World.putObj_heap_other (by omega), o3 b hb, World.putObj_heap_other (by omega)]
   | ret => exact hp.elim
   | exit id => exact hp.elim
   | goto t => exact hp.elim
   | panic ch => exact hp.elim
   | outgrown => exact hp.elim
  ·exact ⟨hI _ _ _ _ h0 gV (by simp), (Array.getElem?_eq_some_iff.1 vl).1, vl, vd⟩
  ·rintro e W2 ⟨⟨v, rfl⟩, i, hs, l1, d1⟩
   have hr := run_endLoop (P := P) l1 (by rw [hrec]; simp)
   refine ⟨none, _, by rw [hr, hrec], hdone H _ (by omega) (hI _ _ _ _ i (grownBy_putObj' W2 (H + 1) _) (fun r e => by cases e; exact .inr ⟨by omega, _, l1, rfl⟩)) ((World.putObj_heap_other (by omega)).trans d1)⟩
end
section
open Go Go.RowKit Go.OpenShut
theorem bytes_dec (p : ByteArray) (l : List UInt8) : decide (p = ⟨l.toArray⟩) = (p.toList == l) := by
 rw [ByteArray.toList_eq]
 by_cases h : p.data.toList = l
 ·rw [decide_eq_true (ByteArray.ext (Array.toList_inj.1 (by simpa using h)))]
  simpa using h
 ·rw [decide_eq_false (fun e => h (by rw [e]))]
  simpa using h
end
section
def mOf (m : List (ByteArray × JV)) (n : ByteArray) : Option JV := (m.find? (fun p => decide (p.1 = n))).map (·.2)
end
end Go.Proofs.YtffhccmppdgmfaaGreatDoor
