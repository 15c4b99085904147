import Derived.Test.YtfgjimpmpckgpaaGreatDoorSg21
import Derived.Test.YtfgjimpmpckgpaaGreatDoorSg18
import Derived.Shelf.Slices.In.SortNone
import Derived.Shelf.Sort.Plain
import Derived.Test.YtfgjimpmpckgpaaGreatDoorProg
import Derived.Sort.OwnSorted
import Derived.Test.YtfgjimpmpckgpaaGreatDoorSg10
import Derived.Test.YtfgjimpmpckgpaaGreatDoorSg20
import Derived.Test.YtfgjimpmpckgpaaGreatDoorSg09
import Derived.Test.YtfgjimpmpckgpaaGreatDoorSg01
import Derived.Test.YtfgjimpmpckgpaaGreatDoorSg03
set_option linter.unusedSimpArgs false
set_option linter.unusedVariables false
set_option maxRecDepth 200000
set_option maxHeartbeats 8000000
namespace Go.Proofs.YtfgjimpmpckgpaaGreatDoor
section
theorem right_at {l : List En} {floor seq : Int} (h : rightB l floor seq = true) {k : Nat} {x : En} (hx : l[k]? = some x) : x.seq = floor + 1 + k /\ mayB (lastW (l.take k) x.id) x.what = true := by
 unfold rightB at h
 simp only [Bool.and_eq_true, List.all_eq_true, List.mem_range] at h
 have := h.2 k (List.getElem?_eq_some_iff.1 hx).1
 rw [okAt_of hx] at this
 simpa using this
theorem may_what {w a : Int} (h : mayB w a = true) : a = 1 /\ w = 0 \/ (a = 2 \/ a = 3) /\ w ≠ 3 := by
 unfold mayB at h
 split at h
 ·exact .inl ⟨by assumption, by simpa using h⟩
 ·split at h
  ·exact .inr ⟨by assumption, by simpa using h⟩
  ·cases h
theorem lastW_is {l : List En} {id : ByteArray} {k : Nat} {x : En} (hx : l[k]? = some x) (hid : x.id = id) : ∀ j : Nat, k < j -> j <= l.length -> (∀ i y, k < i -> i < j -> l[i]? = some y -> y.id ≠ id) -> lastW (l.take j) id = x.what
 | 0, h, _, _ => by omega
 | j + 1, h, hj, hno => by
   by_cases e : k = j
   ·subst e
    rw [lastW_take hx, if_pos hid]
   ·obtain ⟨y, hy⟩ : ∃ y, l[j]? = some y := ⟨_, List.getElem?_eq_getElem (by omega)⟩
    rw [lastW_take hy, if_neg (hno j y (by omega) (by omega) hy)]
    exact lastW_is hx hid j (by omega) (by omega) (fun i z h1 h2 => hno i z h1 (by omega))
theorem next_of {l : List En} {id : ByteArray} {k : Nat} : ∀ (d j : Nat) (y : En), j - k <= d -> k < j -> l[j]? = some y -> y.id = id -> ∃ i z, k < i /\ i <= j /\ l[i]? = some z /\ z.id = id /\ ∀ i' z', k < i' -> i' < i -> l[i']? = some z' -> z'.id ≠ id
 | 0, j, y, hd, hk, _, _ => by omega
 | d + 1, j, y, hd, hk, hy, hid => by
   by_cases h : ∃ i' z', k < i' /\ i' < j /\ l[i']? = some z' /\ z'.id = id
   ·obtain ⟨i', z', h1, h2, h3, h4⟩ := h
    obtain ⟨i, z, g1, g2, g3⟩ := next_of d i' z' (by omega) h1 h3 h4
    exact ⟨i, z, g1, by omega, g3⟩
   ·exact ⟨j, y, hk, Nat.le_refl _, hy, hid, fun i' z' g1 g2 g3 g4 => h ⟨i', z', g1, g2, g3, g4⟩⟩
theorem lastW_pos {l : List En} {floor seq : Int} (h : rightB l floor seq = true) {k : Nat} {x : En} {id : ByteArray} : ∀ {j : Nat}, k < j -> l[k]? = some x -> x.id = id -> j < l.length -> lastW (l.take j) id ≠ 0
 | 0, hk, _, _, _ => by omega
 | j + 1, hk, hx, hid, hj => by
   obtain ⟨y, hy⟩ : ∃ y, l[j]? = some y := ⟨_, List.getElem?_eq_getElem (by omega)⟩
   rw [lastW_take hy]
   split
   ·rcases may_what (right_at h hy).2 with ⟨e, _⟩ | ⟨e, _⟩ <;> omega
   ·rename_i hne
    by_cases e : k = j
    ·subst e
     rw [hx] at hy
     cases hy
     exact absurd hid hne
    ·exact lastW_pos h (by omega) hx hid (by omega)
theorem right_two {l : List En} {floor seq : Int} (h : rightB l floor seq = true) {k j : Nat} {x y : En} (hkj : k < j) (hx : l[k]? = some x) (hy : l[j]? = some y) (hid : x.id = y.id) : x.what ≠ 3 /\ y.what ≠ 1 := by
 have hjl := (List.getElem?_eq_some_iff.1 hy).1
 constructor
 ·intro e
  obtain ⟨i, z, h1, h2, h3, h4, h5⟩ := next_of (j - k) j y (Nat.le_refl _) hkj hy hid.symm
  have hw := lastW_is hx rfl i h1 (by omega) (fun i' z' g1 g2 g3 => h5 i' z' g1 g2 g3)
  have hz := (right_at h h3).2
  rw [h4, hw, e] at hz
  rcases may_what hz with ⟨_, e'⟩ | ⟨_, e'⟩ <;> omega
 ·intro e
  have hz := (right_at h hy).2
  rcases may_what hz with ⟨_, e0⟩ | ⟨e', _⟩
  ·
   exact lastW_pos h hkj hx hid hjl e0
  ·omega
def nowL (was : Bool) (id : ByteArray) (sq : Int) (t : List En) : Bool := t.foldl (fun now e => if e.id = id /\ sq < e.seq then e.what != 3 else now) was
def cntL (id : ByteArray) (sq : Int) (t : List En) : Nat := t.foldl (fun n e => if e.id = id /\ sq < e.seq then n + 1 else n) 0
theorem nowL_take {was : Bool} {id : ByteArray} {sq : Int} {l : List En} {k : Nat} {x : En} (hx : l[k]? = some x) : nowL was id sq (l.take (k + 1)) = if x.id = id /\ sq < x.seq then x.what != 3 else nowL was id sq (l.take k) := by
 rw [List.take_add_one, hx]
 simp [nowL]
theorem cntL_take {id : ByteArray} {sq : Int} {l : List En} {k : Nat} {x : En} (hx : l[k]? = some x) : cntL id sq (l.take (k + 1)) = if x.id = id /\ sq < x.seq then cntL id sq (l.take k) + 1 else cntL id sq (l.take k) := by
 rw [List.take_add_one, hx]
 simp [cntL]
theorem nowL_none {was : Bool} {id : ByteArray} {sq : Int} : ∀ {l : List En}, (∀ e ∈ l, ¬ (e.id = id /\ sq < e.seq)) -> nowL was id sq l = was
 | [], _ => rfl
 | e :: r, h => by
   show nowL (if e.id = id /\ sq < e.seq then e.what != 3 else was) id sq r = was
   rw [if_neg (h e (by simp))]
   exact nowL_none (fun x hx => h x (List.mem_cons_of_mem _ hx))
theorem nowL_true {id : ByteArray} {sq : Int} : ∀ {l : List En} {was : Bool}, (∀ e ∈ l, e.id = id /\ sq < e.seq -> e.what ≠ 3) -> (was = true \/ ∃ e ∈ l, e.id = id /\ sq < e.seq) -> nowL was id sq l = true
 | [], was, _, h => by
   rcases h with h | ⟨e, he, _⟩
   ·exact h
   ·cases he
 | e :: r, was, h, hh => by
   show nowL (if e.id = id /\ sq < e.seq then e.what != 3 else was) id sq r = true
   refine nowL_true (fun x hx => h x (List.mem_cons_of_mem _ hx)) ?_
   by_cases hit : e.id = id /\ sq < e.seq
   ·rw [if_pos hit]
    exact .inl (by simpa using h e (by simp) hit)
   ·rw [if_neg hit]
    rcases hh with hw | ⟨x, hx, hh⟩
    ·exact .inl hw
    ·rcases List.mem_cons.1 hx with rfl | hx
     ·exact absurd hh hit
     ·exact .inr ⟨x, hx, hh⟩
theorem nowL_append (was : Bool) (id : ByteArray) (sq : Int) (a b : List En) : nowL was id sq (a ++ b) = nowL (nowL was id sq a) id sq b := by simp [nowL]
theorem cntL_pos {id : ByteArray} {sq : Int} {l : List En} {i : Nat} {x : En} (hx : l[i]? = some x) (hh : x.id = id /\ sq < x.seq) : ∀ k, i < k -> k <= l.length -> 0 < cntL id sq (l.take k)
 | 0, h, _ => by omega
 | k + 1, h, hk => by
   obtain ⟨y, hy⟩ : ∃ y, l[k]? = some y := ⟨_, List.getElem?_eq_getElem (by omega)⟩
   rw [cntL_take hy]
   by_cases e : i = k
   ·subst e
    rw [hx] at hy
    cases hy
    rw [if_pos hh]
    omega
   ·have := cntL_pos hx hh k (by omega) (by omega)
    split <;> omega
structure PastOk (l : List En) (sq : Int) (p : Pa) : Prop where
 old : ∀ (k : Nat) (x : En), l[k]? = some x -> x.id = p.id -> x.seq <= sq -> (x.what != 3) = p.was
 new : ∀ (k : Nat) (x : En), l[k]? = some x -> x.id = p.id -> sq < x.seq -> ((x.what == 1) == nowL p.was p.id sq (l.take k)) = false
 fin : nowL p.was p.id sq l = p.isb
 cnt : 0 < cntL p.id sq l
theorem past_ok {l : List En} {floor seq sq : Int} (h : rightB l floor seq = true) {i : Nat} {p : Pa} (hp : refAt sq l i = some p) : PastOk l sq p := by
 unfold refAt at hp
 cases hx : l[i]? with
 | none => rw [hx] at hp; cases hp
 | some x =>
   rw [hx] at hp
   dsimp only at hp
   by_cases h1 : x.seq <= sq
   ·rw [if_pos h1] at hp; cases hp
   ·rw [if_neg h1] at hp
    by_cases h2 : (l.drop (i + 1)).any (hitB sq x) = true
    ·rw [if_pos h2] at hp; cases hp
    ·rw [if_neg h2] at hp
     cases h3 : l.find? (hitB sq x) with
     | none => rw [h3] at hp; cases hp
     | some f =>
       rw [h3] at hp
       simp only [Option.map_some, Option.some.injEq] at hp
       subst hp
       obtain ⟨hfh, jf, hjf, hfe, hfno⟩ := List.find?_eq_some_iff_getElem.1 h3
       have hf : l[jf]? = some f := by rw [List.getElem?_eq_getElem hjf, hfe]
       unfold hitB at hfh
       simp only [Bool.and_eq_true, decide_eq_true_eq] at hfh
       have hil := (List.getElem?_eq_some_iff.1 hx).1
       refine ⟨fun k y hy hid hs => ?_, fun k y hy hid hs => ?_, ?_, ?_⟩
       ·have a1 := (right_at h hy).1
        have a2 := (right_at h hf).1
        dsimp only at hid ⊢
        obtain ⟨b1, b2⟩ := right_two h (by omega : k < jf) hy hf (hid.trans hfh.1.symm)
        have c1 : (y.what != 3) = true := by simpa using b1
        have c2 : (f.what != 1) = true := by simpa using b2
        rw [c1, c2]
       ·dsimp only at hid ⊢
        by_cases he : ∃ e ∈ l.take k, e.id = x.id /\ sq < e.seq
        ·obtain ⟨e, he1, he2⟩ := he
         obtain ⟨j, hj⟩ := List.getElem?_of_mem he1
         rw [List.getElem?_take] at hj
         split at hj
         ·rename_i hjk
          rw [nowL_true (fun e' he' hh => by
           obtain ⟨j', hj'⟩ := List.getElem?_of_mem he'
           rw [List.getElem?_take] at hj'
           split at hj'
           ·rename_i hjk'
            exact (right_two h hjk' hj' hy (hh.1.trans hid.symm)).1
           ·cases hj') (.inr ⟨e, he1, he2⟩)]
          have := (right_two h hjk hj hy (he2.1.trans hid.symm)).2
          simpa using this
         ·cases hj
        ·rw [nowL_none (fun e he' hh => he ⟨e, he', hh⟩)]
         have hkf : k = jf := by
          rcases Nat.lt_trichotomy k jf with hlt | heq | hgt
          ·have := hfno k hlt
           have e2 : l[k]'(by omega) = y := by
            rw [List.getElem?_eq_getElem (by omega)] at hy
            exact Option.some.inj hy
           rw [e2] at this
           unfold hitB at this
           simp [hid] at this
           omega
          ·exact heq
          ·exact absurd ⟨f, List.mem_of_getElem? (by rw [List.getElem?_take_of_lt hgt]; exact hf), hfh⟩ he
         subst hkf
         rw [hf] at hy
         cases hy
         cases hb : (f.what == 1) <;> simp_all
       ·dsimp only
        have hsplit : l = l.take (i + 1) ++ l.drop (i + 1) := (List.take_append_drop _ _).symm
        rw [hsplit, nowL_append, nowL_none (fun e he hh => by
         apply h2
         rw [List.any_eq_true]
         exact ⟨e, he, by unfold hitB; simpa using hh⟩), nowL_take hx, if_pos ⟨rfl, by omega⟩]
       ·have := cntL_pos (sq := sq) hx ⟨rfl, by omega⟩ l.length hil (Nat.le_refl _)
        rwa [List.take_length] at this
theorem stable_rev : ∀ ys : List Pa, ys.reverse.Pairwise (fun a b => a.last < b.last) -> IsStable cfP ys.reverse ys.reverse
 | [], _ => IsStable.nil
 | p :: ys, h => by
   rw [List.reverse_cons] at h ⊢
   rw [List.pairwise_append] at h
   have := IsStable.snoc cmpP (A := ys.reverse) (B := []) (by simpa using stable_rev ys h.1) (p := p) (fun a ha => by
    have := h.2.2 a (List.mem_of_getLast? ha) p (by simp)
    unfold cfP
    rw [if_neg (by omega), if_pos this]
    decide) (by simp)
   exact this
theorem stable_sorted (xs : List Pa) (h : xs.Pairwise (fun a b => a.last < b.last)) : IsStable cfP xs xs := by
 have := stable_rev xs.reverse (by rw [List.reverse_reverse]; exact h)
 rwa [List.reverse_reverse] at this
theorem refAt_last {sq : Int} {l : List En} {i : Nat} {p : Pa} (h : refAt sq l i = some p) : ∃ x, l[i]? = some x /\ p.last = x.seq := by
 unfold refAt at h
 cases hx : l[i]? with
 | none => rw [hx] at h; cases h
 | some x =>
   rw [hx] at h
   dsimp only at h
   refine ⟨x, rfl, ?_⟩
   split at h
   ·cases h
   ·split at h
    ·cases h
    ·cases hf : l.find? (hitB sq x) with
     | none => rw [hf] at h; cases h
     | some f =>
       rw [hf] at h
       simp only [Option.map_some, Option.some.injEq] at h
       subst h
       rfl
theorem refUpTo_mem {sq : Int} {l : List En} {k : Nat} {p : Pa} (h : p ∈ refUpTo sq l k) : ∃ i, i < k /\ refAt sq l i = some p := by
 unfold refUpTo at h
 obtain ⟨i, hi, hp⟩ := List.mem_filterMap.1 h
 exact ⟨i, List.mem_range.1 hi, hp⟩
theorem refUpTo_sorted {l : List En} {floor seq sq : Int} (h : rightB l floor seq = true) : ∀ k, (refUpTo sq l k).Pairwise (fun a b => a.last < b.last)
 | 0 => by simp [refUpTo]
 | k + 1 => by
   rw [refUpTo_succ, List.pairwise_append]
   refine ⟨refUpTo_sorted h k, ?_, fun a ha b hb => ?_⟩
   ·cases refAt sq l k <;> simp
   ·obtain ⟨i, hi, hp⟩ := refUpTo_mem ha
    have hb' : refAt sq l k = some b := by simpa using hb
    obtain ⟨x, hx, e1⟩ := refAt_last hp
    obtain ⟨y, hy, e2⟩ := refAt_last hb'
    have := (right_at h hx).1
    have := (right_at h hy).1
    omega
theorem since_right {l : List En} {floor seq sq : Int} (h : rightB l floor seq = true) {ys : List Pa} (hy : IsStable cfP (sinceL sq l) ys) : (∀ p ∈ ys, PastOk l sq p) /\ ys.Pairwise (fun a b => a.last < b.last) := by
 rw [<- refUpTo_all] at hy
 obtain rfl := IsStable.unique cmpP hy (stable_sorted _ (refUpTo_sorted h _))
 refine ⟨fun p hp => ?_, refUpTo_sorted h _⟩
 obtain ⟨i, _, hi⟩ := refUpTo_mem hp
 exact past_ok h hi
end
section
open Go Go.Shelf
def lays190_ren : Go.Shelf.Ren := ⟨fun | 190 => 81 | 125 => 124 | 258 => 123 | 128 => 162 | 129 => 163 | 302 => 153 | 303 => 154 | 304 => 155 | 305 => 156 | 306 => 157 | 307 => 158 | 308 => 159 | 309 => 160 | 310 => 161 | 333 => 181 | 329 => 182 | 330 => 183 | 334 => 184 | 335 => 185 | 336 => 186 | 344 => 199 | n => n, fun | 31 => 57 | 9 => 9 | 3 => 3 | 46 => 197 | 0 => 0 | 51 => 228 | 53 => 230 | 4 => 4 | 183 => 221 | 182 => 220 | 131 => 97 | 5 => 5 | 218 => 245 | 222 => 249 | 228 => 271 | 229 => 272 | n => n, fun | n => n⟩
theorem lays190 : Go.Proofs.Lays.n190 Tryz.prog lays190_ren := {
 mixed := by kernel_rfl
 f125 := Tryz.func124.trans (congrArg some (by kernel_rfl))
 f128 := Tryz.func162.trans (congrArg some (by kernel_rfl))
 f129 := Tryz.func163.trans (congrArg some (by kernel_rfl))
 f190 := Tryz.func81.trans (congrArg some (by kernel_rfl))
 f258 := Tryz.func123.trans (congrArg some (by kernel_rfl))
 f302 := Tryz.func153.trans (congrArg some (by kernel_rfl))
 f303 := Tryz.func154.trans (congrArg some (by kernel_rfl))
 f304 := Tryz.func155.trans (congrArg some (by kernel_rfl))
 f305 := Tryz.func156.trans (congrArg some (by kernel_rfl))
 f306 := Tryz.func157.trans (congrArg some (by kernel_rfl))
 f307 := Tryz.func158.trans (congrArg some (by kernel_rfl))
 f308 := Tryz.func159.trans (congrArg some (by kernel_rfl))
 f309 := Tryz.func160.trans (congrArg some (by kernel_rfl))
 f310 := Tryz.func161.trans (congrArg some (by kernel_rfl))
 f329 := Tryz.func182.trans (congrArg some (by kernel_rfl))
 f330 := Tryz.func183.trans (congrArg some (by kernel_rfl))
 f333 := Tryz.func181.trans (congrArg some (by kernel_rfl))
 f334 := Tryz.func184.trans (congrArg some (by kernel_rfl))
 f335 := Tryz.func185.trans (congrArg some (by kernel_rfl))
 f336 := Tryz.func186.trans (congrArg some (by kernel_rfl))
 f344 := Tryz.func199.trans (congrArg some (by kernel_rfl))
 t0 := Tryz.underlying0
 a0 := Tryz.isAgg0
 z0 := Tryz.sizeOf0
 v0 := Tryz.zeroValue0
 t3 := Tryz.underlying3
 a3 := Tryz.isAgg3
 z3 := Tryz.sizeOf3
 v3 := Tryz.zeroValue3
 t4 := Tryz.underlying4
 a4 := Tryz.isAgg4
 z4 := Tryz.sizeOf4
 v4 := Tryz.zeroValue4
 t5 := Tryz.underlying5
 a5 := Tryz.isAgg5
 z5 := Tryz.sizeOf5
 v5 := Tryz.zeroValue5
 t9 := Tryz.underlying9
 a9 := Tryz.isAgg9
 z9 := Tryz.sizeOf9
 v9 := Tryz.zeroValue9
 t31 := Tryz.underlying57
 a31 := Tryz.isAgg57
 z31 := Tryz.sizeOf57
 v31 := Tryz.zeroValue57
 t46 := Tryz.underlying197
 a46 := Tryz.isAgg197
 z46 := Tryz.sizeOf197
 v46 := Tryz.zeroValue197
 t51 := Tryz.underlying228
 a51 := Tryz.isAgg228
 z51 := Tryz.sizeOf228
 v51 := Tryz.zeroValue228
 t53 := Tryz.underlying230
 a53 := Tryz.isAgg230
 z53 := Tryz.sizeOf230
 v53 := Tryz.zeroValue230
 t131 := Tryz.underlying97
 a131 := Tryz.isAgg97
 z131 := Tryz.sizeOf97
 v131 := Tryz.zeroValue97
 t182 := Tryz.underlying220
 a182 := Tryz.isAgg220
 z182 := Tryz.sizeOf220
 v182 := Tryz.zeroValue220
 t183 := Tryz.underlying221
 a183 := Tryz.isAgg221
 z183 := Tryz.sizeOf221
 v183 := Tryz.zeroValue221
 t218 := Tryz.underlying245
 a218 := Tryz.isAgg245
 z218 := Tryz.sizeOf245
 v218 := Tryz.zeroValue245
 t222 := Tryz.underlying249
 a222 := Tryz.isAgg249
 z222 := Tryz.sizeOf249
 v222 := Tryz.zeroValue249
 t228 := Tryz.underlying271
 a228 := Tryz.isAgg271
 z228 := Tryz.sizeOf271
 v228 := Tryz.zeroValue271
 t229 := Tryz.underlying272
 a229 := Tryz.isAgg272
 z229 := Tryz.sizeOf272
 v229 := Tryz.zeroValue272 }
open Go.Sort Go.RowKit in
theorem slices_Sort_string (blk off cap : Nat) (ss : List (List UInt8)) (w : World) (hH : Holds encStr w blk off ss.toArray) (hblk : blk < w.heap.size) (hsz : ss.length < 4611686018427387904) :
 Calls Tryz.prog 81 #[.slice (some ⟨blk, off, none⟩) ss.length cap] w fun e w' =>
  e = .returned (.tuple #[]) /\ ∃ n os, w' = grow (putRow encStr (Sort.ahead w n) blk off (ss.mergeSort fun x y => decide (x <= y)).toArray) os := Any.slices_Sort_string lays190 blk off cap ss w hH hblk hsz
open Go.RowKit Go.Sort in
theorem slices_Sort_string_none (p : Option Addr) (cap : Nat) (w : World) :
 Calls Tryz.prog 81 #[.slice p 0 cap] w fun e w' => e = .returned (.tuple #[]) /\ w' = w := Any.slices_Sort_string_none lays190 p cap w
end
section
open Go Go.RowKit Go.Sort
def ofB (l : List UInt8) : ByteArray := ⟨l.toArray⟩
def sortB (ss : List ByteArray) : List ByteArray := ((ss.map (·.data.toList)).mergeSort fun x y => decide (x <= y)).map ofB
theorem ofB_to (b : ByteArray) : ofB b.data.toList = b := by cases b; simp [ofB]
theorem sortB_len (ss : List ByteArray) : (sortB ss).length = ss.length := by simp [sortB]
theorem sortB_perm (ss : List ByteArray) : (sortB ss).Perm ss := by
 have h := (List.mergeSort_perm (ss.map (·.data.toList)) fun x y => decide (x <= y)).map ofB
 rw [List.map_map] at h
 have e : (ofB ∘ fun b : ByteArray => b.data.toList) = id := by funext b; exact ofB_to b
 rw [e, List.map_id] at h
 exact h
theorem cells_strs : ∀ ss : List (List UInt8), cellsOf encS (ss.map ofB) = ss.map encStr
 | [] => rfl
 | s :: ss => by
   have := cells_strs ss
   unfold cellsOf at this ⊢
   rw [List.map_cons, List.flatMap_cons, this]
   rfl
theorem sortS_any (w : World) (base : Nat) (p : Option Addr) (n c : Nat) (ss : List ByteArray) (ho : Own w base 9 encS 1 (.slice p n c) ss) (hl : ss.length < 4611686018427387904) :
 Calls Tryz.prog 81 #[.slice p n c] w fun e w' => e = .returned (.tuple #[]) /\ Own w' base 9 encS 1 (.slice p n c) (sortB ss) /\ w.grownBy w' (Value.slice p n c).ownBlock := by
 have hrow : w.ownsRow base 9 1 (.slice p n c) ss.length (cellsOf encS ss) := ho
 have e0 : (ss.map (·.data.toList)).map ofB = ss := by
  rw [List.map_map]
  have e : (ofB ∘ fun b : ByteArray => b.data.toList) = id := by funext b; exact ofB_to b
  rw [e, List.map_id]
 have e1 : cellsOf encS ss = (ss.map (·.data.toList)).map encStr := by rw [<- cells_strs, e0]
 rcases hrow.2 with ⟨hv, hn⟩ | ⟨g, cap, cur, hv, hbase, hb, h1, h2, h3, h4⟩
 ·simp only [Value.slice.injEq] at hv
  obtain ⟨rfl, rfl, rfl⟩ := hv
  have : ss = [] := List.eq_nil_of_length_eq_zero hn
  subst this
  refine (slices_Sort_string_none none 0 w).mono fun e w' ⟨he, hw⟩ => ?_
  subst hw
  have e : sortB [] = [] := List.eq_nil_of_length_eq_zero (sortB_len [])
  rw [e]
  exact ⟨he, Own.nil _ _ _, World.grownBy.refl _ _⟩
 ·simp only [Value.slice.injEq] at hv
  obtain ⟨rfl, rfl, rfl⟩ := hv
  have hc := slices_Sort_string g 0 c (ss.map (·.data.toList)) w (holds_of_block hb (by rw [List.length_map, <- e1]; simpa using h4)) (Array.getElem?_eq_some_iff.1 hb).1 (by simpa using hl)
  rw [List.length_map] at hc
  refine hc.mono fun e w' ⟨he, k, os, hw⟩ => ?_
  subst hw
  refine ⟨he, ?_, grownBy_sorted _⟩
  have := ownsRow_sorted (base := base) (n := k) (os := os) (ss := ss.map (·.data.toList)) (ts := (ss.map (·.data.toList)).mergeSort fun x y => decide (x <= y)) (by simp) hbase hb (by simpa using h1) h2 h3
  rw [List.length_map, <- cells_strs] at this
  unfold Own
  rw [sortB_len]
  exact this
end
section
open Go.RowKit Go.OpenShut
theorem Rd.of_image {α β : Type} {enc : β -> List Value} {g : α -> β} {sz : Nat} {w : World} {B : Nat} {v : Value} {xs : List α} (h : Rd w B enc sz v (xs.map g)) : Rd w B (fun x => enc (g x)) sz v xs := by
 obtain ⟨p, cap, h1, h2, h3, h4, h5⟩ := h
 rw [List.length_map] at h1 h2
 refine ⟨p, cap, h1, h2, h3, h4, fun a ha h0 => ?_⟩
 obtain ⟨b, o, e1, e2, e3⟩ := h5 a ha (by rw [List.length_map]; exact h0)
 exact ⟨b, o, e1, e2, fun i x hx j u hu => e3 i (g x) (by rw [List.getElem?_map, hx]; rfl) j u hu⟩
theorem since_any (w : World) (v : Value) (l : List En) (sq : Int) (hv : RdE w w.heap.size v l) (hlen : l.length <= 4398046511104) :
 Calls Tryz.prog 78 #[v, .int .i64 sq] w fun e w' => ∃ ys, IsStable cfP (sinceL sq l) ys /\ OwnRet w 136 encP 4 ys e w' := by
 obtain ⟨hok, hr⟩ := rdE_iff.1 hv
 obtain ⟨xs, hxs⟩ : ∃ xs : List OkE, xs.map (·.1) = l := ⟨l.attach.map fun e => ⟨e.1, hok e.1 e.2⟩, by rw [List.map_map]; exact List.attach_map_subtype_val l⟩
 have hr' : Rd w w.heap.size encO 3 v xs := by rw [<- hxs] at hr; exact Rd.of_image (enc := encE) hr
 have hl : xs.length = l.length := by rw [<- hxs]; simp
 refine (since_any0 w v xs hr' (by omega) sq).mono ?_
 rintro e w' ⟨u, ys, rfl, h1, h2, h3⟩
 refine ⟨ys, ?_, u, rfl, h2, h3⟩
 rw [List.map_reverse, hxs, stepAll_rev] at h1
 exact h1
def whatP (p : Pa) : Int := if p.was then (if p.isb then 2 else 3) else (if p.isb then 1 else 0)
theorem what_any (p : Pa) (w : World) : Calls Tryz.prog 80 #[.agg #[.string p.id, .bool p.was, .bool p.isb, .int .i64 p.last]] w fun e w' => e = .returned (.int .i64 (whatP p)) /\ Below w.heap.size w w' := by
 obtain ⟨i, x, y, l⟩ := p
 have hB : Below w.heap.size w (w.alloc (.cells #[.string i, .bool x, .bool y, .int .i64 l] 136)) := (Below.refl _ _).alloc (Nat.le_refl _) _
 dsimp only
 cases x <;> cases y
 all_goals
  go_enter Tryz.func80, Tryz.ntmps80
  go_wp2_with fail
  go_ret
  exact ⟨rfl, hB⟩
def noneP (p : Pa) : Bool := decide (whatP p = 0)
theorem isNone_any (p : Pa) (w : World) : Calls Tryz.prog 79 #[.agg #[.string p.id, .bool p.was, .bool p.isb, .int .i64 p.last]] w fun e w' => e = .returned (.bool (noneP p)) /\ Below w.heap.size w w' := by
 have hB : Below w.heap.size w (w.alloc (.cells #[.string p.id, .bool p.was, .bool p.isb, .int .i64 p.last] 136)) := (Below.refl _ _).alloc (Nat.le_refl _) _
 have HC := fun W => what_any p W
 have hw : noneP p = (whatP p == 0) := by unfold noneP; rw [Bool.eq_iff_iff]; simp
 obtain ⟨i, x, y, l⟩ := p
 dsimp only at hB HC ⊢
 obtain ⟨z, hz⟩ : ∃ z, whatP ⟨i, x, y, l⟩ = z := ⟨_, rfl⟩
 rw [hw, hz]
 simp only [hz] at HC
 have HC := Lib.hid HC
 clear hw hz
 go_enter Tryz.func79, Tryz.ntmps79
 go_wp2_with (go_at_call 80; refine (HC.out _).mono ?_; rintro e w1 ⟨rfl, hb1⟩)
 go_ret
 exact ⟨rfl, hB.trans (hb1.mono hB.size)⟩
abbrev isNoneV : Value := .func (.func 79) #[] #[]
theorem infoPa : (Tryz.prog.info? 136).map (fun i => (i.zero, i.size, i.bytes)) = some (some (.agg #[.string ByteArray.empty, .bool false, .bool false, .int .i64 0]), 4, 32) := by kernel_rfl
theorem slPa : SlT Tryz.prog 133 136 4 32 := SlT.mk Tryz.underlying133 infoPa rfl
theorem onePa : ∀ i z, Tryz.prog.info? 136 = some i -> i.zero = some z -> ∀ u ∈ z.cells.toList, u.oneCell' = true := by
 intro i z hi hz
 have h := infoPa
 rw [hi] at h
 simp only [Option.map_some, Option.some.injEq, Prod.mk.injEq] at h
 rw [hz] at h
 simp only [Option.some.injEq] at h
 rw [h.1]
 intro u hu
 simp [Value.cells] at hu
 rcases hu with rfl | rfl | rfl | rfl <;> rfl
section
variable {W : World} {g : Nat} {x : Pa} (h : PaAt W g x)
include h
theorem PaAt.cell0 : W.cell? ⟨g, 0, none⟩ = some (.string x.id) := by unfold PaAt at h; rw [cell_of_row W g 0 _ _ _ h]; rfl
theorem PaAt.cell1 : W.cell? ⟨g, 1, none⟩ = some (.bool x.was) := by unfold PaAt at h; rw [cell_of_row W g 1 _ _ _ h]; rfl
theorem PaAt.cell2 : W.cell? ⟨g, 2, none⟩ = some (.bool x.isb) := by unfold PaAt at h; rw [cell_of_row W g 2 _ _ _ h]; rfl
theorem PaAt.cell3 : W.cell? ⟨g, 3, none⟩ = some (.int .i64 x.last) := by unfold PaAt at h; rw [cell_of_row W g 3 _ _ _ h]; rfl
end
theorem indexP_any (w : World) (p : Option Addr) (n c : Nat) (rms : List Pa) (hv : Rd w w.heap.size encP 4 (.slice p n c) rms) (hlen : rms.length <= 4398046511104) :
 Calls Tryz.prog 118 #[.slice p n c, isNoneV] w fun e w' => e = .returned (.int .i64 (placeI (rms.findIdx? (noneP)))) /\ Below w.heap.size w w' := by
 have hn := rd_nlen hv
 subst hn
 have HV := Lib.hid hv
 clear hv
 go_enter Tryz.func118, Tryz.ntmps118
 go_wp2_with fail
 go_loopw [8] (fun i wr => ∃ k : Nat, k <= rms.length /\ i = .int .i64 k /\ Hid (∀ (j : Nat) y, j < k -> rms[j]? = some y -> noneP y = false) /\ Below w.heap.size w wr) (fun i _ => rms.length - (intOf i).toNat)
 case atStart => exact ⟨0, Nat.zero_le _, rfl, fun j y h => by omega, Below.refl _ _⟩
 case round =>
  obtain ⟨k, hk, rfl, hno, hbr⟩ := hrel
  by_cases hlt : k < rms.length
  ·obtain ⟨x, hx⟩ : ∃ x, rms[k]? = some x := ⟨_, List.getElem?_eq_getElem hlt⟩
   obtain ⟨b1, o1, rfl, hb1, hc1⟩ := rd_at' (HV.out.below hbr (Nat.le_refl _)) hx
   have f0 := hc1 0 _ rfl
   have f1 := hc1 1 _ rfl
   have f2 := hc1 2 _ rfl
   have f3 := hc1 3 _ rfl
   rw [Nat.add_zero] at f0
   have HX := Lib.hid hx
   have hz := hbr.size
   have HBR := Lib.hid hbr
   cases hnb : noneP x with
   | true =>
     have HF := Lib.hid (find_at HX.out hnb hno.out)
     have HNB : Hid (noneP x = true) := hnb
     clear hx hc1 hbr hnb hno
     go_wp2_with (go_at_call 79; refine (isNone_any x _).mono ?_; rintro e w1 ⟨rfl, hb1'⟩; rw [HNB.out])
     go_ret
     exact ⟨ret_int (by rw [HF.out]; rfl), HBR.out.trans (hb1'.mono HBR.out.size)⟩
   | false =>
     have HNB : Hid (noneP x = false) := hnb
     have HNX : Hid (∀ (j : Nat) y, j < k + 1 -> rms[j]? = some y -> noneP y = false) := by
      intro j y hj hy
      by_cases e : j = k
      ·subst e
       rw [hx] at hy
       cases hy
       exact hnb
      ·exact hno.out j y (by omega) hy
     clear hx hc1 hbr hnb hno
     go_wp2_with (go_at_call 79; refine (isNone_any x _).mono ?_; rintro e w1 ⟨rfl, hb1'⟩; rw [HNB.out])
     go_roundw
     case rel => exact ⟨k + 1, by omega, by go_num, HNX, HBR.out.trans (hb1'.mono HBR.out.size)⟩
     case measure => simp [intOf]; omega
  ·obtain rfl : k = rms.length := by omega
   have HF := Lib.hid (find_not (p := noneP) (l := rms) (fun j y hy => hno.out j y (List.getElem?_eq_some_iff.1 hy).1 hy))
   go_wp2_with fail
   go_ret
   exact ⟨ret_int (by rw [HF.out]; rfl), hbr⟩
structure DelRelP (rms : List Pa) (a b : Nat) (cur : List Pa) : Prop where
 lt : a < b
 len : cur.length = rms.length
 head : cur.take a = (rms.take b).filter (fun x => !noneP x)
 tail : cur.drop b = rms.drop b
theorem DelRelP.start {rms : List Pa} {i : Nat} (h : rms.findIdx? (noneP) = some i) : DelRelP rms i (i + 1) rms := by
 rw [List.findIdx?_eq_some_iff_getElem] at h
 obtain ⟨h1, h2, h3⟩ := h
 refine ⟨by omega, rfl, ?_, rfl⟩
 rw [List.take_add_one, List.getElem?_eq_getElem h1, List.filter_append]
 have e1 : (rms.take i).filter (fun x => !noneP x) = rms.take i := by
  rw [List.filter_eq_self]
  intro x hx
  obtain ⟨j, hj⟩ := List.getElem?_of_mem hx
  rw [List.getElem?_take] at hj
  split at hj
  ·have := h3 j (by assumption)
   rw [List.getElem?_eq_getElem (by omega)] at hj
   cases hj
   simpa using this
  ·cases hj
 rw [e1]
 simp [h2]
theorem DelRelP.at {rms cur : List Pa} {a b : Nat} (h : DelRelP rms a b cur) {x : Pa} (hx : rms[b]? = some x) : cur[b]? = some x := by
 have h1 : (cur.drop b)[0]? = (rms.drop b)[0]? := by rw [h.tail]
 simpa [List.getElem?_drop, hx] using h1
theorem DelRelP.skip {rms cur : List Pa} {a b : Nat} (h : DelRelP rms a b cur) {x : Pa} (hx : rms[b]? = some x) (hn : noneP x = true) : DelRelP rms a (b + 1) cur := by
 refine ⟨by have := h.lt; omega, h.len, ?_, ?_⟩
 ·rw [List.take_add_one, hx, List.filter_append, <- h.head]
  simp [hn]
 ·rw [<- List.drop_drop (i := 1) (j := b), <- List.drop_drop (i := 1) (j := b), h.tail]
theorem DelRelP.keep {rms cur : List Pa} {a b : Nat} (h : DelRelP rms a b cur) {x : Pa} (hx : rms[b]? = some x) (hn : noneP x = false) : DelRelP rms (a + 1) (b + 1) (cur.set a x) := by
 have hl := h.lt
 have hbl := (List.getElem?_eq_some_iff.1 hx).1
 refine ⟨by omega, by rw [List.length_set, h.len], ?_, ?_⟩
 ·rw [List.take_add_one, List.take_set_of_le (Nat.le_refl _), List.getElem?_set_self (by have := h.len; omega), List.take_add_one, hx, List.filter_append, <- h.head]
  simp [hn]
 ·rw [List.drop_set_of_lt (by omega), <- List.drop_drop (i := 1) (j := b), <- List.drop_drop (i := 1) (j := b), h.tail]
theorem DelRelP.done {rms cur : List Pa} {a : Nat} (h : DelRelP rms a rms.length cur) : cur.take a = rms.filter (fun x => !noneP x) := by
 have := h.head
 rwa [List.take_length] at this
theorem deleteP_any (w : World) (base : Nat) (p : Option Addr) (n c : Nat) (rms : List Pa) (hv : Own w base 136 encP 4 (.slice p n c) rms) (hb : base <= w.heap.size) (hlen : rms.length <= 4398046511104) :
 Calls Tryz.prog 77 #[.slice p n c, isNoneV] w fun e w' => ∃ m, e = .returned (.slice p m c) /\ Own w' base 136 encP 4 (.slice p m c) (rms.filter (fun x => !noneP x)) /\ Below base w w' := by
 have hn := rd_nlen (hv.rd codecP)
 subst hn
 have HI := Lib.hid (indexP_any w p rms.length c rms (hv.rd codecP) hlen)
 have HV := Lib.hid hv
 clear hv
 cases hf : rms.findIdx? (noneP) with
 | none =>
   have HF := Lib.hid hf
   clear hf
   go_enter Tryz.func77, Tryz.ntmps77
   go_wp2_with (go_at_call 118; refine HI.out.mono ?_; rintro e w1 ⟨rfl, hb1⟩; rw [HF.out]; (have hn1 : placeI (none : Option Nat) = -1 := rfl); rw [hn1]; go_frame)
   go_ret
   refine ⟨rms.length, rfl, ?_, hb1.mono hb⟩
   have e1 : rms.filter (fun x => !noneP x) = rms := by
    rw [List.filter_eq_self]
    intro x hx
    have := List.findIdx?_eq_none_iff.1 HF.out x hx
    simpa using this
   rw [e1]
   exact HV.out.below hb1 (Nat.le_refl _)
 | some i =>
   have HF := Lib.hid hf
   have hst := DelRelP.start hf
   have hi := hst.lt
   have hil : i < rms.length := by rw [List.findIdx?_eq_some_iff_getElem] at hf; exact hf.1
   have HST := Lib.hid hst
   have hne : ((i : Int) == -1) = false := by rw [beq_eq_false_iff_ne]; omega
   clear hf hst
   go_enter Tryz.func77, Tryz.ntmps77
   go_wp2_with (go_at_call 118; refine HI.out.mono ?_; rintro e w1 ⟨rfl, hb1⟩; rw [HF.out]; (have hn1 : placeI (some i) = (i : Int) := rfl); rw [hn1]; clear hn1; go_frame)
   have hz1 : w.heap.size <= w1.heap.size := hb1.size
   have HB1 : Hid (Below base w w1) := hb1.mono hb
   have hO1 : Hid (Own w1 base 136 encP 4 (.slice p rms.length c) rms) := HV.out.below hb1 (Nat.le_refl _)
   clear hb1
   go_loopw [5, 6] (fun x y wr => ∃ (a b : Nat) (cur : List Pa), x = .int .i64 a /\ y = .int .i64 b /\ b <= rms.length /\ Hid (DelRelP rms a b cur) /\ Hid (Own wr base 136 encP 4 (.slice p rms.length c) cur) /\ Below base w wr) (fun _ y _ => rms.length - (intOf y).toNat)
   case atStart => exact ⟨i, i + 1, rms, rfl, by go_num, by omega, HST, hO1, HB1.out⟩
   case round =>
    obtain ⟨a, b, cur, rfl, rfl, hbn, HD, HO, hbr⟩ := hrel
    have hab : a < b := HD.out.lt
    have hzr := hbr.size
    by_cases hlt : b < rms.length
    ·obtain ⟨x, hx⟩ : ∃ x, rms[b]? = some x := ⟨_, List.getElem?_eq_getElem hlt⟩
     have hcx := HD.out.at hx
     obtain ⟨xa, hxa⟩ : ∃ xa, cur[a]? = some xa := ⟨_, List.getElem?_eq_getElem (by rw [HD.out.len]; omega)⟩
     obtain ⟨gg, hpg, hnn, hga, hgb', hcell, hfr⟩ := Own.at codecP HO.out hcx
     subst hpg
     have f0 := hcell 0 _ rfl
     have f1 := hcell 1 _ rfl
     have f2 := hcell 2 _ rfl
     have f3 := hcell 3 _ rfl
     rw [Nat.add_zero] at f0
     have HX := Lib.hid hx
     have HXA := Lib.hid hxa
     have HBR := Lib.hid hbr
     have hb0 : (0 : Int) <= (b : Int) := Int.natCast_nonneg _
     have hb1 : (b : Int) < (rms.length : Int) := by omega
     have ha0 : (0 : Int) <= (a : Int) := Int.natCast_nonneg _
     have ha1 : (a : Int) < (rms.length : Int) := by omega
     have hM0 : PaAt (wr.alloc (.cells #[.string x.id, .bool x.was, .bool x.isb, .int .i64 x.last] 136)) wr.heap.size x := heap_alloc_at rfl
     have HM0 := Lib.hid hM0
     have hA := HBR.out.alloc (Nat.le_trans hb hzr) (.cells #[.string x.id, .bool x.was, .bool x.isb, .int .i64 x.last] 136)
     have HA := Lib.hid hA
     clear hx hxa hcx hcell hfr hnn hbr hA hM0
     cases hnb : noneP x with
     | true =>
       have HNB : Hid (noneP x = true) := hnb
       have HN := Lib.hid (HD.out.skip HX.out hnb)
       clear hnb
       go_wp2_with (go_at_call 79; refine (isNone_any x _).mono ?_; rintro e w2 ⟨rfl, hb2⟩; rw [HNB.out])
       go_roundw
       case rel => exact ⟨a, b + 1, cur, rfl, by go_num, by omega, HN, (HO.out.alloc _).below hb2 (Nat.le_refl _), HA.out.trans (hb2.mono (Nat.le_trans hb HA.out.size))⟩
       case measure => simp [intOf]; omega
     | false =>
       have HNB : Hid (noneP x = false) := hnb
       have HN := Lib.hid (HD.out.keep HX.out hnb)
       clear hnb
       go_upto_region 9 with (go_at_call 79; refine (isNone_any x _).mono ?_; rintro e w2 ⟨rfl, hb2⟩; rw [HNB.out])
       have hM2 := (show PaAt w2 wr.heap.size x from (hb2.block _ (by simp)).trans HM0.out)
       have v0 := hM2.cell0
       have v1 := hM2.cell1
       have v2 := hM2.cell2
       have v3 := hM2.cell3
       have hO2 := (HO.out.alloc (.cells #[.string x.id, .bool x.was, .bool x.isb, .int .i64 x.last] 136)).below hb2 (Nat.le_refl _)
       obtain ⟨g2, hpg2, hnn2, hga2, hgb2, hcell2, hfr2⟩ := Own.at codecP hO2 HXA.out
       simp only [Option.some.injEq, Addr.mk.injEq, and_true] at hpg2
       subst hpg2
       have t0 := hcell2 0 _ rfl
       have t1 := hcell2 1 _ rfl
       have t2 := hcell2 2 _ rfl
       have t3 := hcell2 3 _ rfl
       rw [Nat.add_zero] at t0
       have s0 := hfr2 (a * 4)
       have s1 := hfr2 (a * 4 + 1)
       have s2 := hfr2 (a * 4 + 2)
       have s3 := hfr2 (a * 4 + 3)
       have HST2 := Lib.hid (Own.stored4 hO2 (by rw [HD.out.len]) a (by rw [HD.out.len]; omega) x)
       have HB2 : Hid (Below base w w2) := HA.out.trans (hb2.mono (Nat.le_trans hb HA.out.size))
       have hz2 : w.heap.size <= w2.heap.size := HB2.out.size
       clear hcell2 hfr2 hnn2 hb2 hM2 hO2 f0 f1 f2 f3
       go_wp2_with fail
       go_roundw
       case rel => exact ⟨a + 1, b + 1, _, by go_num, by go_num, by omega, HN, HST2.out.1, HB2.out.grown HST2.out.2 (by omega) (fun j e => by cases e; exact hga)⟩
       case measure => simp [intOf]; omega
    ·obtain rfl : b = rms.length := by omega
     have hal : a <= rms.length := by omega
     have hsl := fun W => run_slice_low (P := Tryz.prog) slPa p rms.length c a hal W
     have hcap : rms.length <= c := by
      obtain ⟨_, _, e, h1, _⟩ := HO.out.rd codecP
      simp only [Value.slice.injEq] at e
      have := HD.out.len
      omega
     have hsh := fun W => run_slice_high (P := Tryz.prog) slPa p rms.length c a (by omega) W
     have HBR := Lib.hid hbr
     have HDD := Lib.hid HD.out.done
     clear hbr HD
     obtain ⟨w2, hrun, ho2, hg2⟩ := run_clear_own (P := Tryz.prog) slPa onePa codecP wr 0 HO.out hal (v := .slice (p.map (fun x => x.add (a * 4))) (rms.length - a) (c - a)) (by unfold sliced; rw [if_neg (by omega)])
     have HO2 := Lib.hid ho2
     have HG2 := Lib.hid hg2
     clear ho2 hg2
     go_wp2_with fail
     go_ret
     exact ⟨a, rfl, by rw [<- HDD.out]; exact HO2.out, HBR.out.grown HG2.out (by omega) (fun j e => (HO.out.lt j e).1)⟩
end
end Go.Proofs.YtfgjimpmpckgpaaGreatDoor
