import Derived.Test.YtffhccmppdgmfaaGreatDoorC01
import Derived.Test.YtffhccmppdgmfaaGreatDoorC12
import Derived.Test.YtffhccmppdgmfaaGreatDoorC08
import Derived.Lib.IndexMore
import Derived.Test.YtffhccmppdgmfaaGreatDoorC00
import Derived.Test.YtffhccmppdgmfaaGreatDoorC02
import Derived.Test.YtffhccmppdgmfaaGreatDoorC07
import Derived.Test.YtffhccmppdgmfaaGreatDoorC05
import Derived.BigQuiet
set_option linter.unusedSimpArgs false
set_option linter.unusedVariables false
set_option maxRecDepth 200000
set_option maxHeartbeats 8000000
namespace Go.Proofs.YtffhccmppdgmfaaGreatDoor
section
open Go.RowKit Go.OpenShut
mutual
def countT : JV -> Nat
 | .mk _ _ _ l m => 1 + countL l + countM m
def countL : List JV -> Nat
 | [] => 0
 | t :: l => countT t + countL l
def countM : List (ByteArray × JV) -> Nat
 | [] => 0
 | (_, t) :: m => countT t + countM m
end
theorem countL_take {l : List JV} {j : Nat} {t : JV} (h : l[j]? = some t) : countL (l.take (j + 1)) = countL (l.take j) + countT t := by
 induction l generalizing j with
 | nil => simp at h
 | cons a l ih =>
   cases j with
   | zero =>
     simp at h
     subst h
     simp [countL]
   | succ j =>
     rw [List.getElem?_cons_succ] at h
     rw [List.take_succ_cons, List.take_succ_cons]
     unfold countL
     rw [ih h]
     omega
theorem countM_take {m : List (ByteArray × JV)} {j : Nat} {p : ByteArray × JV} (h : m[j]? = some p) : countM (m.take (j + 1)) = countM (m.take j) + countT p.2 := by
 induction m generalizing j with
 | nil => simp at h
 | cons a m ih =>
   obtain ⟨a, b⟩ := a
   cases j with
   | zero =>
     simp at h
     subst h
     simp [countM]
   | succ j =>
     rw [List.getElem?_cons_succ] at h
     rw [List.take_succ_cons, List.take_succ_cons]
     unfold countM
     rw [ih h]
     omega
def CountRet (w : World) (t : JV) (e : Ending) (w' : World) : Prop := e = .returned (.int .i64 (IntKind.i64.wrap (countT t))) /\ Below w.heap.size w w'
theorem wrap_step (a b c : Int) (h : a + b = c) : wrap64 (IntKind.i64.wrap a + wrap64 b) = IntKind.i64.wrap c := by
 subst h
 rw [IntKind.wrap_i64, IntKind.wrap_i64]
 unfold wrap64
 omega
theorem countT_any (N : Nat) : ∀ (t : JV) (r : RV) (w : World), SizeOf.sizeOf t <= N -> TreeOf w w.heap.size t r -> t.Ok ->
 Calls Tryz.prog 28 #[r.val] w (CountRet w t) := by
 induction N with
 | zero => intro t r w hN; cases t; simp at hN
 | succ N ih =>
   intro t r w hN ht ot
   cases ht with
   | @mk _ l m rs rms hl el hcl hm em hcn hcm =>
   obtain ⟨k, n, s, pl, nl, cl, pm, nm, cm⟩ := r
   cases ot with
   | mk _ _ _ bl bm okl oks okm =>
   dsimp only [RV.val] at *
   have eL := rd_nlen hl
   have eM := rd_nlen hm
   have HT : Hid (∀ (i : Nat) t q, l[i]? = some t -> rs[i]? = some q -> ∀ W, Below w.heap.size w W -> Calls Tryz.prog 28 #[q.val] W (CountRet W t)) :=
    fun i t q h1 h2 W hb => ih t q W (by have := JV.lt_l (k := k) (n := n) (s := s) (m := m) h1; omega) ((hcl i t q h1 h2).under hb hb.size) (okl i t h1)
   have HS : Hid (∀ (i : Nat) p q, m[i]? = some p -> rms[i]? = some q -> ∀ W, Below w.heap.size w W -> Calls Tryz.prog 28 #[q.v.val] W (CountRet W p.2)) :=
    fun i p q h1 h2 W hb => ih p.2 q.v W (by have := JV.lt_m (k := k) (n := n) (s := s) (l := l) h1; omega) ((hcm i p q h1 h2).under hb hb.size) (okm i p h1)
   have HL := Lib.hid hl
   have HM := Lib.hid hm
   have E1 : Hid (l.length = nl /\ rs.length = nl) := ⟨by omega, by omega⟩
   have E2 : Hid (m.length = nm /\ rms.length = nm) := ⟨by omega, by omega⟩
   have hnl : nl <= 1759218604390 := by omega
   have hnm : nm <= 1466015503658 := by omega
   have hA0 : VAt (w.alloc (.cells #[.int .i64 k, .int .i64 n, .string s, .slice pl nl cl, .slice pm nm cm] 25)) w.heap.size ⟨k, n, s, pl, nl, cl, pm, nm, cm⟩ := heap_alloc_at rfl
   have hB0 : Below w.heap.size w (w.alloc (.cells #[.int .i64 k, .int .i64 n, .string s, .slice pl nl cl, .slice pm nm cm] 25)) := (Below.refl _ _).alloc (Nat.le_refl _) _
   clear ih hcl hcn hcm hl hm okl oks okm el em bl bm eL eM hN
   go_enter Tryz.func28, Tryz.ntmps28
   go_upto_region 1 with fail
   obtain ⟨W0, hW0⟩ : ∃ W0, (w.alloc (.cells #[.int .i64 k, .int .i64 n, .string s, .slice pl nl cl, .slice pm nm cm] 25)) = W0 := ⟨_, rfl⟩
   rw [hW0] at hA0 hB0 ⊢
   clear hW0
   have hz := hA0.lt
   have c3 := hA0.cell 3 rfl
   have c4 := hA0.cell 4 rfl
   dsimp only at c3 c4
   clear hA0
   go_wp2_with fail
   go_loopw [3, 11] (fun a i wr => ∃ (g : Int) (j : Nat), j <= nl /\ a = .int .i64 g /\ i = .int .i64 j /\ Hid (g = IntKind.i64.wrap ((1 + countL (l.take j) : Nat) : Int)) /\ Below W0.heap.size W0 wr) (fun _ i _ => nl - (intOf i).toNat)
   case atStart => exact ⟨1, 0, Nat.zero_le _, rfl, rfl, by unfold Hid; simp [countL]; decide, Below.refl _ _⟩
   case round =>
    obtain ⟨g, j, hj, rfl, rfl, hg, hbr⟩ := hrel
    have hbw : Below w.heap.size w wr := hB0.trans (hbr.mono hB0.size)
    by_cases hlt : j < nl
    ·obtain ⟨tx, htx⟩ : ∃ x, l[j]? = some x := ⟨_, List.getElem?_eq_getElem (by have := E1.out; omega)⟩
     obtain ⟨x, hx⟩ : ∃ x, rs[j]? = some x := ⟨_, List.getElem?_eq_getElem (by have := E1.out; omega)⟩
     obtain ⟨b1, o1, rfl, hb1, hc1⟩ := rd_at' (HL.out.below hbw (Nat.le_refl _)) hx
     have f0 := hc1 0 _ rfl
     have f1 := hc1 1 _ rfl
     have f2 := hc1 2 _ rfl
     have f3 := hc1 3 _ rfl
     have f4 := hc1 4 _ rfl
     rw [Nat.add_zero] at f0
     have HC := Lib.hid (HT.out j tx x htx hx)
     have HTX := Lib.hid (countL_take htx)
     have hk0 : (0 : Int) <= (j : Int) := Int.natCast_nonneg _
     have hk1 : (j : Int) < (nl : Int) := by omega
     have HBR := Lib.hid hbr
     have hbx : Below w.heap.size w (wr.alloc (.cells #[.int .i64 x.k, .int .i64 x.n, .string x.s, .slice x.pl x.nl x.cl, .slice x.pm x.nm x.cm] 25)) := hbw.alloc hbw.size _
     have HBX := Lib.hid hbx
     clear hc1 htx hx hbr hbx
     go_wp2_with (go_at_call 28; refine (HC.out _ HBX.out).mono ?_; rintro e w1 ⟨rfl, hb1'⟩)
     go_roundw
     case rel =>
      refine ⟨_, j + 1, by omega, rfl, by go_num, ?_, (HBR.out.alloc HBR.out.size _).trans (hb1'.mono (by have := HBR.out.size; simp; omega))⟩
      unfold Hid
      rw [HTX.out, hg.out]
      exact wrap_step _ _ _ (by omega)
     case measure => simp [intOf]; omega
    ·obtain rfl : j = nl := by omega
     have c4 := bcs hbr hz c4
     have hsz : W0.heap.size <= wr.heap.size := hbr.size
     have hg2 : Hid (g = IntKind.i64.wrap ((1 + countL l : Nat) : Int)) := by
      have h := hg.out
      rw [List.take_of_length_le (by have := E1.out; omega)] at h
      exact h
     clear HT HL E1 hbr hg c3
     obtain ⟨wo, rfl⟩ : ∃ wo : World, wo = wr := ⟨_, rfl⟩
     go_wp2_with fail
     go_loopw [3, 23] (fun a i wr => ∃ (g : Int) (j : Nat), j <= nm /\ a = .int .i64 g /\ i = .int .i64 j /\ Hid (g = IntKind.i64.wrap ((1 + countL l + countM (m.take j) : Nat) : Int)) /\ Below wo.heap.size wo wr) (fun _ i _ => nm - (intOf i).toNat)
     case atStart => exact ⟨g, 0, Nat.zero_le _, rfl, rfl, by unfold Hid; simpa [countM] using hg2.out, Below.refl _ _⟩
     case round =>
      obtain ⟨g, j, hj, rfl, rfl, hg, hbr⟩ := hrel
      have hbw2 : Below w.heap.size w wr := hbw.trans (hbr.mono (by omega))
      by_cases hlt : j < nm
      ·obtain ⟨tx, htx⟩ : ∃ x, m[j]? = some x := ⟨_, List.getElem?_eq_getElem (by have := E2.out; omega)⟩
       obtain ⟨x, hx⟩ : ∃ x, rms[j]? = some x := ⟨_, List.getElem?_eq_getElem (by have := E2.out; omega)⟩
       obtain ⟨b1, o1, rfl, hb1, hc1⟩ := rd_at' (HM.out.below hbw2 (Nat.le_refl _)) hx
       have f0 := hc1 0 _ rfl
       have f1 := hc1 1 _ rfl
       have f2 := hc1 2 _ rfl
       have f3 := hc1 3 _ rfl
       have f4 := hc1 4 _ rfl
       have f5 := hc1 5 _ rfl
       rw [Nat.add_zero] at f0
       have HC := Lib.hid (HS.out j tx x htx hx)
       have HTX := Lib.hid (countM_take htx)
       have hk0 : (0 : Int) <= (j : Int) := Int.natCast_nonneg _
       have hk1 : (j : Int) < (nm : Int) := by omega
       have HBR := Lib.hid hbr
       have hbx : Below w.heap.size w (wr.alloc (.cells #[.string x.name, .int .i64 x.v.k, .int .i64 x.v.n, .string x.v.s, .slice x.v.pl x.v.nl x.v.cl, .slice x.v.pm x.v.nm x.v.cm] 32)) := hbw2.alloc hbw2.size _
       have HBX := Lib.hid hbx
       clear hc1 htx hx hbr hbx
       go_wp2_with (go_at_call 28; refine (HC.out _ HBX.out).mono ?_; rintro e w1 ⟨rfl, hb1'⟩)
       go_roundw
       case rel =>
        refine ⟨_, j + 1, by omega, rfl, by go_num, ?_, (HBR.out.alloc HBR.out.size _).trans (hb1'.mono (by have := HBR.out.size; simp; omega))⟩
        unfold Hid
        rw [HTX.out, hg.out]
        exact wrap_step _ _ _ (by omega)
       case measure => simp [intOf]; omega
      ·obtain rfl : j = nm := by omega
       go_wp2_with fail
       go_ret
       refine ⟨?_, hbw2⟩
       have h := hg.out
       rw [List.take_of_length_le (by have := E2.out; omega)] at h
       show Ending.returned (.int .i64 g) = _
       rw [h]
       unfold countT
       rfl
end
section
open Go Go.RowKit
def svFull : ByteArray := ⟨#[102, 117, 108, 108]⟩
def svUnits : ByteArray := ⟨#[117, 110, 105, 116, 115]⟩
def svNick : ByteArray := ⟨#[110, 105, 99, 107, 110, 97, 109, 101]⟩
def svNicks : ByteArray := ⟨#[110, 105, 99, 107, 110, 97, 109, 101, 115]⟩
def svOrg : ByteArray := ⟨#[111, 114, 103, 97, 110, 105, 122, 97, 116, 105, 111, 110]⟩
def svOrgs : ByteArray := ⟨#[111, 114, 103, 97, 110, 105, 122, 97, 116, 105, 111, 110, 115]⟩
def svEmail : ByteArray := ⟨#[101, 109, 97, 105, 108]⟩
def svEmails : ByteArray := ⟨#[101, 109, 97, 105, 108, 115]⟩
def svAddr : ByteArray := ⟨#[97, 100, 100, 114, 101, 115, 115]⟩
def svAddrs : ByteArray := ⟨#[97, 100, 100, 114, 101, 115, 115, 101, 115]⟩
def svPhone : ByteArray := ⟨#[112, 104, 111, 110, 101]⟩
def svPhones : ByteArray := ⟨#[112, 104, 111, 110, 101, 115]⟩
def svNumber : ByteArray := ⟨#[110, 117, 109, 98, 101, 114]⟩
def svOnline : ByteArray := ⟨#[111, 110, 108, 105, 110, 101, 83, 101, 114, 118, 105, 99, 101]⟩
def svOnlines : ByteArray := ⟨#[111, 110, 108, 105, 110, 101, 83, 101, 114, 118, 105, 99, 101, 115]⟩
def svService : ByteArray := ⟨#[115, 101, 114, 118, 105, 99, 101]⟩
def svUri : ByteArray := ⟨#[117, 114, 105]⟩
def svUser : ByteArray := ⟨#[117, 115, 101, 114]⟩
def svNote : ByteArray := ⟨#[110, 111, 116, 101]⟩
def svNotes : ByteArray := ⟨#[110, 111, 116, 101, 115]⟩
def svText : ByteArray := ⟨#[116, 101, 120, 116]⟩
def eachJ (t : JV) (name : ByteArray) : List JV := match t.get name with | some x => if x.k = 6 then x.m.map (·.2) else [] | none => []
theorem eachJ_of (t : JV) (name : ByteArray) : eachJ t name = if ((t.get name).getD JV.zero).k = 6 then ((t.get name).getD JV.zero).m.map (·.2) else [] := by
 unfold eachJ
 cases t.get name with
 | none => exact (if_neg (by decide)).symm
 | some x => rfl
def wholeJ (t : JV) : List ByteArray := textM t svFull ++ partsJ t ⟨#[]⟩
def namedJ (t : JV) (nm : ByteArray) (fs : List ByteArray) : List ByteArray := (eachJ t nm).flatMap (fun x => fs.flatMap (textM x))
def orgJ (o : JV) : List ByteArray := textM o nameN ++ (inJ o svUnits).flatMap (fun u => textM u nameN)
def fieldJ (t : JV) (f : ByteArray) : List ByteArray :=
 if f = nameN then wholeJ (nameV t) else
 if f = givenN \/ f = surN \/ f = sur2N then partsJ (nameV t) (f.extract 5 f.size) else
 if f = svNick then namedJ t svNicks [nameN] else
 if f = svOrg then (eachJ t svOrgs).flatMap orgJ else
 if f = svEmail then namedJ t svEmails [svAddr] else
 if f = svPhone then namedJ t svPhones [svNumber] else
 if f = svOnline then namedJ t svOnlines [svService, svUri, svUser] else
 if f = svAddr then (eachJ t svAddrs).flatMap wholeJ else
 if f = svNote then namedJ t svNotes [svNote] else []
def allF : List ByteArray := [nameN, svNick, svOrg, svEmail, svPhone, svOnline, svAddr, svNote]
def textsJ (t : JV) (f : ByteArray) : List ByteArray := if f = svText then allF.flatMap (fieldJ t) else fieldJ t f
mutual
def sizeT : JV -> Nat
 | .mk _ _ s l m => s.size + sizeL l + sizeM m
def sizeL : List JV -> Nat
 | [] => 0
 | t :: l => sizeT t + sizeL l
def sizeM : List (ByteArray × JV) -> Nat
 | [] => 0
 | (_, t) :: m => sizeT t + sizeM m
end
theorem sizeT_s (t : JV) : t.s.size <= sizeT t := by
 cases t
 rw [sizeT]
 simp only [JV.s]
 omega
theorem sizeL_mem {l : List JV} {x : JV} (h : x ∈ l) : sizeT x <= sizeL l := by
 induction l with
 | nil => cases h
 | cons a r ih =>
   unfold sizeL
   rcases List.mem_cons.1 h with rfl | h
   ·omega
   ·have := ih h
    omega
theorem sizeM_mem {m : List (ByteArray × JV)} {p : ByteArray × JV} (h : p ∈ m) : sizeT p.2 <= sizeM m := by
 induction m with
 | nil => cases h
 | cons a r ih =>
   obtain ⟨a, b⟩ := a
   rw [sizeM]
   rcases List.mem_cons.1 h with rfl | h
   ·exact Nat.le_add_right _ _
   ·have := ih h
    omega
theorem sizeT_l {t x : JV} (h : x ∈ t.l) : sizeT x <= sizeT t := by
 cases t
 have := sizeL_mem h
 rw [sizeT]
 simp only [JV.l] at this
 omega
theorem sizeT_m {t : JV} {p : ByteArray × JV} (h : p ∈ t.m) : sizeT p.2 <= sizeT t := by
 cases t
 have := sizeM_mem h
 rw [sizeT]
 simp only [JV.m] at this
 omega
theorem countS_pos (t : JV) : 1 <= countT t := by
 cases t
 unfold countT
 omega
theorem countL_len (l : List JV) : l.length <= countL l := by
 induction l with
 | nil => simp
 | cons a r ih =>
   unfold countL
   have := countS_pos a
   rw [List.length_cons]
   omega
theorem countL_mem {l : List JV} {x : JV} (h : x ∈ l) : countT x <= countL l := by
 induction l with
 | nil => cases h
 | cons a r ih =>
   unfold countL
   rcases List.mem_cons.1 h with rfl | h
   ·omega
   ·have := ih h
    omega
theorem countM_map (m : List (ByteArray × JV)) : countM m = countL (m.map (·.2)) := by
 induction m with
 | nil => rfl
 | cons a r ih =>
   obtain ⟨a, b⟩ := a
   unfold countM
   rw [List.map_cons]
   unfold countL
   rw [ih]
theorem countT_l (t : JV) : countL t.l + 1 <= countT t := by
 cases t
 unfold countT
 simp only [JV.l]
 omega
theorem countT_m (t : JV) : countL (t.m.map (·.2)) + 1 <= countT t := by
 cases t
 rw [countT]
 simp only [JV.m]
 rw [<- countM_map]
 omega
theorem mem_sub {t : JV} {p : ByteArray × JV} (h : p ∈ t.mem) : p ∈ t.m := by
 cases t with
 | mk k n s l m =>
   change p ∈ (if k = 6 then m else []) at h
   by_cases hk : k = 6
   ·rw [if_pos hk] at h
    exact h
   ·rw [if_neg hk] at h
    cases h
theorem get_memJ {t x : JV} {name : ByteArray} (h : t.get name = some x) : ∃ p ∈ t.m, p.2 = x /\ p.1 = name := by
 unfold JV.get JV.place at h
 rw [Option.bind_eq_some_iff] at h
 obtain ⟨i, h1, h2⟩ := h
 rw [Option.map_eq_some_iff] at h2
 obtain ⟨p, h3, h4⟩ := h2
 rw [List.findIdx?_eq_some_iff_getElem] at h1
 obtain ⟨hi, h5, _⟩ := h1
 rw [List.getElem?_eq_getElem hi] at h3
 have h6 : t.mem[i] = p := Option.some.inj h3
 rw [h6] at h5
 refine ⟨p, ?_, h4, by simpa using h5⟩
 exact mem_sub (h6 ▸ List.getElem_mem hi)
theorem count_get {t x : JV} {name : ByteArray} (h : t.get name = some x) : countT x + 1 <= countT t := by
 obtain ⟨p, h1, rfl, _⟩ := get_memJ h
 have h2 := countL_mem (List.mem_map_of_mem (f := (·.2)) h1)
 have h3 := countT_m t
 omega
theorem size_get {t x : JV} {name : ByteArray} (h : t.get name = some x) : sizeT x <= sizeT t := by
 obtain ⟨p, h1, rfl, _⟩ := get_memJ h
 exact sizeT_m h1
theorem count_zero : countT JV.zero = 1 := rfl
theorem count_name (t : JV) : countT (nameV t) <= countT t := by
 unfold nameV
 cases h : t.get nameN with
 | none => exact countS_pos t
 | some x => have := count_get h; exact Nat.le_of_lt this
theorem size_name (t : JV) : sizeT (nameV t) <= sizeT t := by
 unfold nameV
 cases h : t.get nameN with
 | none => exact Nat.zero_le _
 | some x => exact size_get h
theorem inJ_count (t : JV) (name : ByteArray) : countL (inJ t name) + 1 <= countT t := by
 unfold inJ
 cases h : t.get name with
 | none => exact countS_pos t
 | some x =>
   have h1 := count_get h
   have h2 := countT_l x
   dsimp only
   split
   ·omega
   ·exact countS_pos t
theorem inJ_len (t : JV) (name : ByteArray) : (inJ t name).length + 1 <= countT t := Nat.le_trans (Nat.succ_le_succ (countL_len _)) (inJ_count t name)
theorem eachJ_count (t : JV) (name : ByteArray) : countL (eachJ t name) + 1 <= countT t := by
 unfold eachJ
 cases h : t.get name with
 | none => exact countS_pos t
 | some x =>
   have h1 := count_get h
   have h2 := countT_m x
   dsimp only
   split
   ·omega
   ·exact countS_pos t
theorem eachJ_len (t : JV) (name : ByteArray) : (eachJ t name).length + 1 <= countT t := Nat.le_trans (Nat.succ_le_succ (countL_len _)) (eachJ_count t name)
theorem eachJ_size {t x : JV} {name : ByteArray} (h : x ∈ eachJ t name) : sizeT x <= sizeT t := by
 unfold eachJ at h
 cases hg : t.get name with
 | none => rw [hg] at h; cases h
 | some y =>
   rw [hg] at h
   dsimp only at h
   split at h
   ·obtain ⟨p, h1, rfl⟩ := List.mem_map.1 h
    exact Nat.le_trans (sizeT_m h1) (size_get hg)
   ·cases h
theorem inJ_size {t x : JV} {name : ByteArray} (h : x ∈ inJ t name) : sizeT x <= sizeT t := by
 unfold inJ at h
 cases hg : t.get name with
 | none => rw [hg] at h; cases h
 | some y =>
   rw [hg] at h
   dsimp only at h
   split at h
   ·exact Nat.le_trans (sizeT_l h) (size_get hg)
   ·cases h
theorem eachJ_ok {t : JV} {name : ByteArray} (h : t.Ok) : (eachJ t name).length <= 1466015503658 /\ ∀ (i : Nat) (x : JV), (eachJ t name)[i]? = some x -> x.Ok := by
 unfold eachJ
 cases hx : t.get name with
 | none => exact ⟨by simp, fun i x a => by simp at a⟩
 | some v =>
   have hv := h.get hx
   dsimp only
   split
   ·cases hv with
    | mk _ _ _ _ hm _ _ cm =>
      refine ⟨by rw [List.length_map]; exact hm, fun i x a => ?_⟩
      rw [List.getElem?_map, Option.map_eq_some_iff] at a
      obtain ⟨p, h1, rfl⟩ := a
      exact cm i p h1
   ·exact ⟨by simp, fun i x a => by simp at a⟩
theorem textM_size {t : JV} {name x : ByteArray} (h : x ∈ textM t name) : x.size <= sizeT t := by
 unfold textM at h
 cases hg : t.get name with
 | none => rw [hg] at h; cases h
 | some y =>
   rw [hg] at h
   dsimp only at h
   split at h
   ·rw [List.mem_singleton] at h
    subst h
    exact Nat.le_trans (sizeT_s y) (size_get hg)
   ·cases h
theorem flat_len {α β : Type} {f : α -> List β} {n : Nat} (h : ∀ x, (f x).length <= n) (l : List α) : (l.flatMap f).length <= n * l.length := by
 induction l with
 | nil => simp
 | cons a r ih =>
   rw [List.flatMap_cons, List.length_append, List.length_cons, Nat.mul_add, Nat.mul_one]
   have := h a
   omega
theorem flat_count {β : Type} {f : JV -> List β} (h : ∀ x, (f x).length <= countT x) (l : List JV) : (l.flatMap f).length <= countL l := by
 induction l with
 | nil => simp
 | cons a r ih =>
   rw [List.flatMap_cons, List.length_append]
   unfold countL
   have := h a
   omega
theorem flat_take {α β : Type} (f : α -> List β) (l : List α) (j : Nat) : ((l.take j).flatMap f).length <= (l.flatMap f).length := by
 have h : l.flatMap f = (l.take j).flatMap f ++ (l.drop j).flatMap f := by rw [<- List.flatMap_append, List.take_append_drop]
 rw [h, List.length_append]
 omega
theorem flat_succ {α β : Type} {f : α -> List β} {l : List α} {j : Nat} {x : α} (h : l[j]? = some x) : (l.take (j + 1)).flatMap f = (l.take j).flatMap f ++ f x := by
 rw [List.take_add_one, h, Option.toList_some, List.flatMap_append]
 simp
theorem flat_mid {α β : Type} {f : α -> List β} {l : List α} {j : Nat} {x : α} (h : l[j]? = some x) : ((l.take j).flatMap f).length + (f x).length <= (l.flatMap f).length := by
 have h1 := flat_succ (f := f) h
 have h2 := flat_take f l (j + 1)
 rw [h1, List.length_append] at h2
 exact h2
theorem partsL_any (cs : List JV) (kind : ByteArray) : (partsL cs kind).length <= cs.length := partsL_len cs kind
theorem partsJ_count (t : JV) (kind : ByteArray) : (partsJ t kind).length + 1 <= countT t := by
 rw [partsJ_of]
 exact Nat.le_trans (Nat.succ_le_succ (partsL_len _ _)) (inJ_len t compN)
theorem wholeJ_len (t : JV) : (wholeJ t).length <= countT t := by
 unfold wholeJ
 rw [List.length_append]
 have h1 := textM_len t svFull
 have h2 := partsJ_count t ⟨#[]⟩
 omega
theorem orgJ_len (t : JV) : (orgJ t).length <= countT t := by
 unfold orgJ
 rw [List.length_append]
 have h1 := textM_len t nameN
 have h2 := flat_len (f := fun u => textM u nameN) (n := 1) (fun u => textM_len u nameN) (inJ t svUnits)
 have h3 := inJ_len t svUnits
 omega
theorem texts_fs (x : JV) (fs : List ByteArray) : (fs.flatMap (textM x)).length <= fs.length := by
 have := flat_len (f := textM x) (n := 1) (fun n => textM_len x n) fs
 omega
theorem namedJ_len (t : JV) (nm : ByteArray) (fs : List ByteArray) : (namedJ t nm fs).length <= fs.length * countT t := by
 unfold namedJ
 have h1 := flat_len (f := fun x => fs.flatMap (textM x)) (n := fs.length) (fun x => texts_fs x fs) (eachJ t nm)
 have h2 := eachJ_len t nm
 exact Nat.le_trans h1 (Nat.mul_le_mul_left _ (by omega))
theorem fieldJ_len (t : JV) (f : ByteArray) : (fieldJ t f).length <= 3 * countT t := by
 have hc := countS_pos t
 unfold fieldJ
 split
 ·have h1 := wholeJ_len (nameV t)
  have h2 := count_name t
  omega
 ·split
  ·have h1 := partsJ_count (nameV t) (f.extract 5 f.size)
   have h2 := count_name t
   omega
  ·split
   ·have h := namedJ_len t svNicks [nameN]
    simp only [List.length_singleton] at h
    omega
   ·split
    ·have h := flat_count orgJ_len (eachJ t svOrgs)
     have h2 := eachJ_count t svOrgs
     omega
    ·split
     ·have h := namedJ_len t svEmails [svAddr]
      simp only [List.length_singleton] at h
      omega
     ·split
      ·have h := namedJ_len t svPhones [svNumber]
       simp only [List.length_singleton] at h
       omega
      ·split
       ·exact namedJ_len t svOnlines [svService, svUri, svUser]
       ·split
        ·have h := flat_count wholeJ_len (eachJ t svAddrs)
         have h2 := eachJ_count t svAddrs
         omega
        ·split
         ·have h := namedJ_len t svNotes [svNote]
          simp only [List.length_singleton] at h
          omega
         ·simp
theorem textsJ_len (t : JV) (f : ByteArray) : (textsJ t f).length <= 24 * countT t := by
 unfold textsJ
 split
 ·have h := flat_len (f := fieldJ t) (n := 3 * countT t) (fieldJ_len t) allF
  have e : allF.length = 8 := rfl
  rw [e] at h
  omega
 ·have := fieldJ_len t f
  omega
theorem flat_all {α : Type} {P : ByteArray -> Prop} {f : α -> List ByteArray} {l : List α} (h : ∀ x ∈ l, ∀ y ∈ f x, P y) : ∀ y ∈ l.flatMap f, P y := by
 intro y hy
 obtain ⟨x, h1, h2⟩ := List.mem_flatMap.1 hy
 exact h x h1 y h2
theorem partsJ_size {t : JV} {kind x : ByteArray} (h : x ∈ partsJ t kind) : x.size <= sizeT t := by
 rw [partsJ_of] at h
 unfold partsL at h
 obtain ⟨c, h1, h2⟩ := List.mem_flatMap.1 h
 exact Nat.le_trans (textM_size h2) (inJ_size ((List.mem_filter.1 h1).1))
theorem wholeJ_size {t : JV} {x : ByteArray} (h : x ∈ wholeJ t) : x.size <= sizeT t := by
 unfold wholeJ at h
 rcases List.mem_append.1 h with h | h
 ·exact textM_size h
 ·exact partsJ_size h
theorem orgJ_size {t : JV} {x : ByteArray} (h : x ∈ orgJ t) : x.size <= sizeT t := by
 unfold orgJ at h
 rcases List.mem_append.1 h with h | h
 ·exact textM_size h
 ·obtain ⟨c, h1, h2⟩ := List.mem_flatMap.1 h
  exact Nat.le_trans (textM_size h2) (inJ_size h1)
theorem namedJ_size {t : JV} {nm x : ByteArray} {fs : List ByteArray} (h : x ∈ namedJ t nm fs) : x.size <= sizeT t := by
 unfold namedJ at h
 obtain ⟨c, h1, h2⟩ := List.mem_flatMap.1 h
 obtain ⟨n, h3, h4⟩ := List.mem_flatMap.1 h2
 exact Nat.le_trans (textM_size h4) (eachJ_size h1)
theorem fieldJ_size {t : JV} {f x : ByteArray} (h : x ∈ fieldJ t f) : x.size <= sizeT t := by
 unfold fieldJ at h
 split at h
 ·exact Nat.le_trans (wholeJ_size h) (size_name t)
 ·split at h
  ·exact Nat.le_trans (partsJ_size h) (size_name t)
  ·split at h
   ·exact namedJ_size h
   ·split at h
    ·obtain ⟨c, h1, h2⟩ := List.mem_flatMap.1 h
     exact Nat.le_trans (orgJ_size h2) (eachJ_size h1)
    ·split at h
     ·exact namedJ_size h
     ·split at h
      ·exact namedJ_size h
      ·split at h
       ·exact namedJ_size h
       ·split at h
        ·obtain ⟨c, h1, h2⟩ := List.mem_flatMap.1 h
         exact Nat.le_trans (wholeJ_size h2) (eachJ_size h1)
        ·split at h
         ·exact namedJ_size h
         ·cases h
theorem textsJ_size {t : JV} {f x : ByteArray} (h : x ∈ textsJ t f) : x.size <= sizeT t := by
 unfold textsJ at h
 split at h
 ·obtain ⟨c, h1, h2⟩ := List.mem_flatMap.1 h
  exact fieldJ_size h2
 ·exact fieldJ_size h
def notQ (c : UInt8) : Bool := !decide (c = 34)
def notE (c : UInt8) : Bool := !(decide (c = 32) || decide (c = 34))
def termsN : Nat -> List UInt8 -> List (List UInt8)
 | 0, _ => []
 | _ + 1, [] => []
 | n + 1, c :: r =>
   if c = 32 then termsN n r
   else if c = 34 then (if r.takeWhile notQ = [] then [] else [r.takeWhile notQ]) ++ termsN n ((r.dropWhile notQ).drop 1)
   else (c :: r).takeWhile notE :: termsN n ((c :: r).dropWhile notE)
def termsF (l : List UInt8) : List (List UInt8) := termsN l.length l
theorem dropW_len {p : UInt8 -> Bool} (l : List UInt8) : (l.dropWhile p).length <= l.length := (List.dropWhile_sublist p).length_le
theorem dropW_cons {c : UInt8} {r : List UInt8} (h : notE c = true) : (c :: r).dropWhile notE = r.dropWhile notE := by rw [List.dropWhile_cons, if_pos h]
theorem notE_yes {c : UInt8} (h1 : c ≠ 32) (h2 : c ≠ 34) : notE c = true := by unfold notE; rw [decide_eq_false h1, decide_eq_false h2]; rfl
theorem termsN_more : ∀ (n m : Nat) (l : List UInt8), l.length <= n -> l.length <= m -> termsN n l = termsN m l
 | 0, m, [], _, _ => by cases m <;> rfl
 | n + 1, 0, [], _, _ => rfl
 | n + 1, m + 1, [], _, _ => rfl
 | 0, m, c :: r, h, _ => by simp at h
 | n + 1, 0, c :: r, _, h => by simp at h
 | n + 1, m + 1, c :: r, h1, h2 => by
   rw [List.length_cons] at h1 h2
   rw [termsN, termsN]
   by_cases ha : c = 32
   ·rw [if_pos ha, if_pos ha]
    exact termsN_more n m r (by omega) (by omega)
   ·rw [if_neg ha, if_neg ha]
    by_cases hb : c = 34
    ·rw [if_pos hb, if_pos hb]
     congr 1
     have hd := dropW_len (p := notQ) r
     exact termsN_more n m _ (by rw [List.length_drop]; omega) (by rw [List.length_drop]; omega)
    ·rw [if_neg hb, if_neg hb, dropW_cons (notE_yes ha hb)]
     have hd := dropW_len (p := notE) r
     rw [termsN_more n m _ (by omega) (by omega)]
theorem termsF_nil : termsF [] = [] := rfl
theorem termsF_sp (r : List UInt8) : termsF (32 :: r) = termsF r := by
 unfold termsF
 rw [List.length_cons, termsN, if_pos rfl]
theorem termsF_q (r : List UInt8) : termsF (34 :: r) = (if r.takeWhile notQ = [] then [] else [r.takeWhile notQ]) ++ termsF ((r.dropWhile notQ).drop 1) := by
 unfold termsF
 rw [List.length_cons, termsN, if_neg (by decide), if_pos rfl]
 congr 1
 have hd := dropW_len (p := notQ) r
 exact termsN_more _ _ _ (by rw [List.length_drop]; omega) (by omega)
theorem termsF_e {c : UInt8} (h1 : c ≠ 32) (h2 : c ≠ 34) (r : List UInt8) : termsF (c :: r) = (c :: r).takeWhile notE :: termsF ((c :: r).dropWhile notE) := by
 unfold termsF
 rw [List.length_cons, termsN, if_neg h1, if_neg h2]
 congr 1
 have hd := dropW_len (p := notE) r
 exact termsN_more _ _ _ (by rw [dropW_cons (notE_yes h1 h2)]; omega) (by omega)
theorem takeW_ne {c : UInt8} (h1 : c ≠ 32) (h2 : c ≠ 34) (r : List UInt8) : (c :: r).takeWhile notE ≠ [] := by
 rw [List.takeWhile_cons, if_pos (notE_yes h1 h2)]
 simp
theorem takeW_len {p : UInt8 -> Bool} (l : List UInt8) : (l.takeWhile p).length <= l.length := (List.takeWhile_sublist p).length_le
theorem termsN_len : ∀ (n : Nat) (l : List UInt8), (termsN n l).length <= n /\ ∀ t ∈ termsN n l, t.length <= l.length
 | 0, l => by simp [termsN]
 | n + 1, [] => by simp [termsN]
 | n + 1, c :: r => by
   rw [termsN]
   by_cases ha : c = 32
   ·rw [if_pos ha]
    have ih := termsN_len n r
    refine ⟨by omega, fun t ht => ?_⟩
    have := ih.2 t ht
    rw [List.length_cons]
    omega
   ·rw [if_neg ha]
    by_cases hb : c = 34
    ·rw [if_pos hb]
     have ih := termsN_len n ((r.dropWhile notQ).drop 1)
     have hd := dropW_len (p := notQ) r
     have ht := takeW_len (p := notQ) r
     refine ⟨?_, fun t h => ?_⟩
     ·rw [List.length_append]
      split
      ·rw [List.length_nil]
       omega
      ·rw [List.length_singleton]
       omega
     ·rw [List.length_cons]
      rcases List.mem_append.1 h with h | h
      ·split at h
       ·cases h
       ·rw [List.mem_singleton] at h
        subst h
        omega
      ·have := ih.2 t h
       rw [List.length_drop] at this
       omega
    ·rw [if_neg hb]
     have ih := termsN_len n ((c :: r).dropWhile notE)
     have hd := dropW_len (p := notE) (c :: r)
     have ht := takeW_len (p := notE) (c :: r)
     refine ⟨by rw [List.length_cons]; omega, fun t h => ?_⟩
     rcases List.mem_cons.1 h with rfl | h
     ·exact ht
     ·have := ih.2 t h
      omega
theorem termsF_len (l : List UInt8) : (termsF l).length <= l.length := (termsN_len _ l).1
theorem termsF_each {l t : List UInt8} (h : t ∈ termsF l) : t.length <= l.length := (termsN_len _ l).2 t h
def hasF (s t : List UInt8) : Bool := Go.Lib.contains (foldL s) (foldL t)
def matchF (q : List UInt8) (ts : List ByteArray) : Bool := (termsF q).all (fun t => ts.any (fun s => hasF s.data.toList t))
theorem matchF_sub {q : List UInt8} {ts us : List ByteArray} (h : ∀ x ∈ ts, x ∈ us) (hm : matchF q ts = true) : matchF q us = true := by
 unfold matchF at hm ⊢
 rw [List.all_eq_true] at hm ⊢
 intro t ht
 have h1 := hm t ht
 rw [List.any_eq_true] at h1 ⊢
 obtain ⟨s, h2, h3⟩ := h1
 exact ⟨s, h s h2, h3⟩
theorem contains_iff (a b : List UInt8) : Go.Lib.contains a b = true ↔ ∃ i, i + b.length <= a.length /\ (a.drop i).take b.length = b := by
 unfold Go.Lib.contains
 rw [decide_eq_true_iff]
 rcases Go.Lib.index_spec a b with ⟨h1, h2⟩ | ⟨i, h1, h2, h3, h4⟩
 ·constructor
  ·intro h
   omega
  ·rintro ⟨i, hi, hj⟩
   have h5 := h2 i (by omega)
   rw [Go.Lib.occAt_iff_take a b i hi, hj] at h5
   simp at h5
 ·constructor
  ·intro _
   rcases Go.Lib.occAt_room h3 with h | h
   ·refine ⟨i, h, ?_⟩
    rw [Go.Lib.occAt_iff_take a b i h] at h3
    simpa using h3
   ·subst h
    exact ⟨0, by simp, by simp⟩
  ·intro _
   omega
theorem contains_no {a b : List UInt8} (h : ∀ i, i + b.length <= a.length -> (a.drop i).take b.length ≠ b) : Go.Lib.contains a b = false := by
 cases hc : Go.Lib.contains a b with
 | false => rfl
 | true =>
   obtain ⟨i, h1, h2⟩ := (contains_iff a b).1 hc
   exact absurd h2 (h i h1)
structure Tok where
 kind : Int
 n : Int
 s : ByteArray
 pos : Nat
def encTok (t : Tok) : List Value := [.int .i64 t.kind, .int .i64 t.n, .string t.s, .int .i64 t.pos]
theorem codecTok : Codec encTok 4 := ⟨fun _ => rfl, fun x u hu => by
 simp only [encTok, List.mem_cons, List.not_mem_nil, or_false] at hu
 rcases hu with rfl | rfl | rfl | rfl <;> rfl, by decide⟩
def okCh (c : UInt8) : Bool := decide (32 <= c.toNat) && decide (c.toNat < 128) && decide (c.toNat ≠ 34) && decide (c.toNat ≠ 92)
def spCh (c : UInt8) : Bool := decide (c.toNat = 32) || decide (c.toNat = 9) || decide (c.toNat = 10) || decide (c.toNat = 13)
def mkCh (c : UInt8) : Bool := decide (c.toNat = 123) || decide (c.toNat = 125) || decide (c.toNat = 91) || decide (c.toNat = 93) || decide (c.toNat = 58) || decide (c.toNat = 44)
def wTrue : ByteArray := ⟨#[116, 114, 117, 101]⟩
def wFalse : ByteArray := ⟨#[102, 97, 108, 115, 101]⟩
def wNull : ByteArray := ⟨#[110, 117, 108, 108]⟩
def partCh (c : UInt8) : Bool := decide (97 <= c.toNat) && decide (c.toNat <= 122) || decide (65 <= c.toNat) && decide (c.toNat <= 90) || decide (48 <= c.toNat) && decide (c.toNat <= 57) || decide (c.toNat = 95)
def wordAt (s : ByteArray) (i : Nat) (w : ByteArray) : Bool := decide ((s.data.toList.drop i).take w.size = w.data.toList) && (decide (i + w.size = s.size) || (decide (i + w.size < s.size) && !partCh s[i + w.size]!))
def cutB (s : ByteArray) (a b : Nat) : ByteArray := ⟨((s.data.toList.drop a).take (b - a)).toArray⟩
def endT (s : ByteArray) : Nat -> Nat -> Nat
 | 0, i => i
 | f + 1, i => if decide (i < s.size) && okCh s[i]! then endT s f (i + 1) else i
inductive Toks (s : ByteArray) : Nat -> List Tok -> Prop
 | done : Toks s s.size []
 | space {i : Nat} {l : List Tok} : i < s.size -> spCh s[i]! = true -> Toks s (i + 1) l -> Toks s i l
 | mark {i : Nat} {l : List Tok} : i < s.size -> mkCh s[i]! = true -> Toks s (i + 1) l -> Toks s i (⟨1, 0, ⟨#[s[i]!]⟩, i⟩ :: l)
 | text {i j : Nat} {l : List Tok} : i < j -> j < s.size -> s[i]!.toNat = 34 -> (∀ k, i < k -> k < j -> okCh s[k]! = true) -> s[j]!.toNat = 34 -> Toks s (j + 1) l -> Toks s i (⟨4, 0, cutB s (i + 1) j, i⟩ :: l)
 | num {i : Nat} {l : List Tok} : i + 1 < s.size -> 49 <= s[i]!.toNat -> s[i]!.toNat <= 57 -> s[i + 1]!.toNat = 125 -> Toks s (i + 1) l -> Toks s i (⟨3, (s[i]!.toNat : Int) - 48, ⟨#[]⟩, i⟩ :: l)
 | word {i : Nat} {w : ByteArray} {l : List Tok} : w = wTrue \/ w = wFalse \/ w = wNull -> i < s.size -> wordAt s i w = true -> Toks s (i + w.size) l -> Toks s i (⟨2, 0, w, i⟩ :: l)
def toksF (s : ByteArray) : Nat -> Nat -> Option (List Tok)
 | 0, _ => none
 | f + 1, i =>
   if i < s.size then
    if spCh s[i]! then toksF s f (i + 1)
    else if mkCh s[i]! then (toksF s f (i + 1)).map (⟨1, 0, ⟨#[s[i]!]⟩, i⟩ :: ·)
    else if s[i]!.toNat = 34 then
     if decide (endT s s.size (i + 1) < s.size) && decide (s[endT s s.size (i + 1)]!.toNat = 34) then (toksF s f (endT s s.size (i + 1) + 1)).map (⟨4, 0, cutB s (i + 1) (endT s s.size (i + 1)), i⟩ :: ·) else none
    else if wordAt s i wTrue then (toksF s f (i + wTrue.size)).map (⟨2, 0, wTrue, i⟩ :: ·)
    else if wordAt s i wFalse then (toksF s f (i + wFalse.size)).map (⟨2, 0, wFalse, i⟩ :: ·)
    else if wordAt s i wNull then (toksF s f (i + wNull.size)).map (⟨2, 0, wNull, i⟩ :: ·)
    else if i + 1 < s.size /\ 49 <= s[i]!.toNat /\ s[i]!.toNat <= 57 /\ s[i + 1]!.toNat = 125 then (toksF s f (i + 1)).map (⟨3, (s[i]!.toNat : Int) - 48, ⟨#[]⟩, i⟩ :: ·)
    else none
   else if i = s.size then some [] else none
theorem endT_ok (s : ByteArray) : ∀ (f i : Nat), i <= endT s f i /\ ∀ k, i <= k -> k < endT s f i -> okCh s[k]! = true
 | 0, i => ⟨Nat.le_refl _, fun k h1 h2 => by unfold endT at h2; omega⟩
 | f + 1, i => by
   unfold endT
   split
   ·rename_i h
    rw [Bool.and_eq_true] at h
    have ih := endT_ok s f (i + 1)
    refine ⟨by omega, fun k h1 h2 => ?_⟩
    by_cases e : k = i
    ·subst e; exact h.2
    ·exact ih.2 k (by omega) h2
   ·exact ⟨Nat.le_refl _, fun k h1 h2 => by omega⟩
theorem toksF_ok (s : ByteArray) : ∀ (f i : Nat) (l : List Tok), toksF s f i = some l -> Toks s i l
 | 0, i, l, h => by simp [toksF] at h
 | f + 1, i, l, h => by
   unfold toksF at h
   split at h
   ·rename_i h0
    split at h
    ·rename_i h1
     exact .space h0 h1 (toksF_ok s f _ l h)
    ·split at h
     ·rename_i h2
      obtain ⟨l', h3, rfl⟩ := Option.map_eq_some_iff.1 h
      exact .mark h0 h2 (toksF_ok s f _ l' h3)
     ·split at h
      ·rename_i h2
       split at h
       ·rename_i h4
        rw [Bool.and_eq_true] at h4
        obtain ⟨l', h3, rfl⟩ := Option.map_eq_some_iff.1 h
        have he := endT_ok s s.size (i + 1)
        exact .text (by omega) (of_decide_eq_true h4.1) h2 (fun k h5 h6 => he.2 k (by omega) h6) (of_decide_eq_true h4.2) (toksF_ok s f _ l' h3)
       ·cases h
      ·split at h
       ·rename_i h2
        obtain ⟨l', h3, rfl⟩ := Option.map_eq_some_iff.1 h
        exact .word (.inl rfl) h0 h2 (toksF_ok s f _ l' h3)
       ·split at h
        ·rename_i h2
         obtain ⟨l', h3, rfl⟩ := Option.map_eq_some_iff.1 h
         exact .word (.inr (.inl rfl)) h0 h2 (toksF_ok s f _ l' h3)
        ·split at h
         ·rename_i h2
          obtain ⟨l', h3, rfl⟩ := Option.map_eq_some_iff.1 h
          exact .word (.inr (.inr rfl)) h0 h2 (toksF_ok s f _ l' h3)
         ·split at h
          ·rename_i h2
           obtain ⟨l', h3, rfl⟩ := Option.map_eq_some_iff.1 h
           exact .num h2.1 h2.2.1 h2.2.2.1 h2.2.2.2 (toksF_ok s f _ l' h3)
          ·cases h
   ·split at h
    ·rename_i h1
     cases h
     subst h1
     exact .done
    ·cases h
end
section
open Go Go.RowKit Go.OpenShut
theorem okCh_iff {c : UInt8} (h : okCh c = true) : 32 <= c.toNat /\ c.toNat < 128 /\ c.toNat ≠ 34 /\ c.toNat ≠ 92 := by
 unfold okCh at h
 simp only [Bool.and_eq_true, decide_eq_true_eq] at h
 exact ⟨h.1.1.1, h.1.1.2, h.1.2, h.2⟩
theorem one_ascii {s : ByteArray} {i : Nat} (hi : i < s.size) (h : s[i]!.toNat < 128) : (oneU s i).2 = 1 := by
 rw [get_bang s i hi] at h
 have hz : szN s[i].toNat = 1 := by unfold szN; rw [if_pos h]
 rw [oneU_at hi, hz, if_neg (by omega)]
 rfl
theorem cut_step {s : ByteArray} {a k : Nat} (h1 : a <= k) (h2 : k < s.size) : (s.data.toList.drop a).take (k + 1 - a) = (s.data.toList.drop a).take (k - a) ++ [s[k]!] := by
 rw [show k + 1 - a = (k - a) + 1 by omega, List.take_add_one]
 congr 1
 rw [List.getElem?_drop, show a + (k - a) = k by omega, List.getElem?_eq_getElem (by rw [Array.length_toList]; exact h2), get_bang s k h2]
 rfl
theorem ext_list (s : ByteArray) (a b : Nat) : (s.extract a b).data.toList = (s.data.toList.drop a).take (b - a) := by
 rw [ByteArray.data_extract, Array.toList_extract]
theorem ext_one {s : ByteArray} {k : Nat} (h : k < s.size) : (s.extract k (k + 1)).data.toList = [s[k]!] := by
 have h1 := cut_step (s := s) (a := k) (k := k) (Nat.le_refl _) h
 rw [ext_list, h1, Nat.sub_self]
 rfl
theorem cread_plain (s : ByteArray) (i j : Nat) (w : World) (hs : s.size <= 65536) (hij : i < j) (hj : j < s.size) (h0 : s[i]!.toNat = 34) (hm : ∀ k, i < k -> k < j -> okCh s[k]! = true) (h1 : s[j]!.toNat = 34) :
 Calls Tryz.prog 138 #[.string s, .int .i64 i] w fun e w' => e = .returned (.tuple #[.string (cutB s (i + 1) j), .int .i64 ((j : Int) + 1), .int .i64 0]) /\ Below w.heap.size w w' := by
 have hi : i < s.size := by omega
 rw [get_bang s i hi] at h0
 have HM : Hid (∀ k, i < k -> k < j -> okCh s[k]! = true) := hm
 have HJ : Hid (s[j]!.toNat = 34) := h1
 have HIJ : Hid (i < j /\ j < s.size /\ s.size <= 65536) := ⟨hij, hj, hs⟩
 have a0 : (0 : Int) <= (i : Int) := Int.natCast_nonneg _
 have a1 : (i : Int) < (s.size : Int) := by omega
 have a2 : i < 4398046510976 := by omega
 have q1 : decide ((i : Int) < 0) = false := by simp
 have q2 : decide (s.size <= i) = false := by simp; omega
 clear hm h1
 go_enter Tryz.func138, Tryz.ntmps138
 go_wp2_with fail
 go_loopw [7, 8] (fun v o wr => ∃ k : Nat, i + 1 <= k /\ k <= j /\ o = .int .i64 (k : Int) /\ Hid (OwnU wr w.heap.size v ((s.data.toList.drop (i + 1)).take (k - (i + 1))) /\ Below w.heap.size w wr)) (fun _ o _ => j - (intOf o).toNat)
 case atStart => exact ⟨i + 1, Nat.le_refl _, by omega, by go_num, by rw [Nat.sub_self]; exact Own.nil _ _ _, Below.refl _ _⟩
 case round =>
  obtain ⟨k, hk1, hk2, rfl, hown⟩ := hrel
  have b0 : (0 : Int) <= (k : Int) := Int.natCast_nonneg _
  have b1 : (k : Int) < (s.size : Int) := by omega
  have b2 : k < s.size := by omega
  by_cases hkj : k = j
  ·subst hkj
   have hc := HJ.out
   rw [get_bang s k b2] at hc
   have e1 : (((s[k].toNat : Nat) : Int) == 34) = true := by simp; omega
   have hst := str_of_own hown.out.1
   clear hc
   go_wp2_with fail
   go_ret3
   exact ⟨rfl, hown.out.2⟩
  ·have hok := okCh_iff (HM.out k (by omega) (by omega))
   rw [get_bang s k b2] at hok
   have e1 : (((s[k].toNat : Nat) : Int) == 34) = false := by simp; omega
   have e2 : decide (((s[k].toNat : Nat) : Int) < 32) = false := by simp; omega
   have e3 : (((s[k].toNat : Nat) : Int) == 92) = false := by simp; omega
   have h1 := one_ascii b2 (by rw [get_bang s k b2]; omega)
   have HON := Lib.hid (one_any s k wr (by unfold maxLen; omega) b2)
   rw [h1] at HON
   clear hok h1
   go_wp2_with fail
   refine HON.out.mono ?_
   rintro e w2 ⟨rfl, rfl⟩
   have HL : Hid (((s.data.toList.drop (i + 1)).take (k - (i + 1))).length + (s.extract k (k + 1)).size <= 140737488355328) := by
    unfold Hid
    rw [List.length_take, <- str_len (s.extract k (k + 1)), ext_one b2, List.length_singleton]
    have h1 : (s.data.toList.drop (i + 1)).length <= s.size := by rw [List.length_drop, str_len]; omega
    omega
   go_wp2_with (at_builtin; refine wpList_append_str _ rfl _ _ rfl rfl rfl hown.out.1 HL.out hown.out.2.size ?_; intro v3 w3 ho3 hg3)
   rw [ext_one b2, <- cut_step (by omega) b2] at ho3
   go_roundw
   case rel => exact ⟨k + 1, by omega, by omega, by go_num, ho3, Below.appended hown.out.2 hg3 hown.out.1 hown.out.2.size⟩
   case measure => simp [intOf]; omega
theorem tw_step {p : UInt8 -> Bool} {l : List UInt8} {j : Nat} {c : UInt8} (hc : l[j]? = some c) (hp : p c = true) : (l.drop j).takeWhile p = c :: (l.drop (j + 1)).takeWhile p /\ (l.drop j).dropWhile p = (l.drop (j + 1)).dropWhile p := by
 obtain ⟨h1, h2⟩ := List.getElem?_eq_some_iff.1 hc
 rw [List.drop_eq_getElem_cons h1, h2, List.takeWhile_cons, List.dropWhile_cons, if_pos hp, if_pos hp]
 exact ⟨rfl, rfl⟩
theorem tw_stop {p : UInt8 -> Bool} {l : List UInt8} {j : Nat} {c : UInt8} (hc : l[j]? = some c) (hp : p c = false) : (l.drop j).takeWhile p = [] /\ (l.drop j).dropWhile p = l.drop j := by
 obtain ⟨h1, h2⟩ := List.getElem?_eq_some_iff.1 hc
 rw [List.drop_eq_getElem_cons h1, h2, List.takeWhile_cons, List.dropWhile_cons, hp]
 exact ⟨rfl, rfl⟩
def TwAt (p : UInt8 -> Bool) (l : List UInt8) (j : Nat) : Prop := l.takeWhile p = l.take j ++ (l.drop j).takeWhile p /\ l.dropWhile p = (l.drop j).dropWhile p
theorem TwAt.zero (p : UInt8 -> Bool) (l : List UInt8) : TwAt p l 0 := ⟨rfl, rfl⟩
theorem TwAt.next {p : UInt8 -> Bool} {l : List UInt8} {j : Nat} {c : UInt8} (h : TwAt p l j) (hc : l[j]? = some c) (hp : p c = true) : TwAt p l (j + 1) := by
 obtain ⟨h1, h2⟩ := h
 obtain ⟨h3, h4⟩ := tw_step hc hp
 refine ⟨?_, h2.trans h4⟩
 rw [h1, h3, List.take_add_one, hc]
 simp
theorem TwAt.stop {p : UInt8 -> Bool} {l : List UInt8} {j : Nat} {c : UInt8} (h : TwAt p l j) (hc : l[j]? = some c) (hp : p c = false) : l.takeWhile p = l.take j /\ l.dropWhile p = l.drop j := by
 obtain ⟨h1, h2⟩ := h
 obtain ⟨h3, h4⟩ := tw_stop hc hp
 rw [h1, h2, h3, h4, List.append_nil]
 exact ⟨rfl, rfl⟩
theorem TwAt.done {p : UInt8 -> Bool} {l : List UInt8} (h : TwAt p l l.length) : l.takeWhile p = l /\ l.dropWhile p = [] := by
 obtain ⟨h1, h2⟩ := h
 rw [h1, h2, List.drop_length, List.take_length]
 simp
theorem extB (s : ByteArray) (j : Nat) : s.extract 0 j = toB (s.data.toList.take j) := by
 apply ByteArray.ext
 apply Array.toList_inj.1
 rw [ext_list]
 simp [toB]
theorem extE (s : ByteArray) (j : Nat) : s.extract j s.size = toB (s.data.toList.drop j) := by
 apply ByteArray.ext
 apply Array.toList_inj.1
 rw [ext_list]
 have : s.data.toList.length = s.size := by rw [Array.length_toList]; rfl
 simp only [toB]
 exact List.take_of_length_le (by rw [List.length_drop]; omega)
theorem stopQ_any (c : UInt8) (w : World) : Calls Tryz.prog 128 #[.int .u8 c.toNat] w fun e w' => e = .returned (.bool (!notQ c)) /\ w = w' := by
 have hq : (((c.toNat : Nat) : Int) == 34) = !notQ c := by
  unfold notQ
  rw [Bool.not_not, Bool.eq_iff_iff, beq_iff_eq, decide_eq_true_iff]
  constructor
  ·intro h
   exact UInt8.toNat_inj.1 (show c.toNat = (34 : UInt8).toNat from by have : (34 : UInt8).toNat = 34 := rfl; omega)
  ·rintro rfl
   rfl
 obtain ⟨b, hb⟩ : ∃ b, (!notQ c) = b := ⟨_, rfl⟩
 rw [hb] at hq
 rw [hb]
 clear hb
 go_enter Tryz.func128, Tryz.ntmps128
 go_wp2_with fail
 go_ret
 exact ⟨rfl, rfl⟩
theorem stopE_any (c : UInt8) (w : World) : Calls Tryz.prog 129 #[.int .u8 c.toNat] w fun e w' => e = .returned (.bool (!notE c)) /\ w = w' := by
 have h34 : (((c.toNat : Nat) : Int) == 34) = decide (c = 34) := by
  rw [Bool.eq_iff_iff, beq_iff_eq, decide_eq_true_iff]
  constructor
  ·intro h
   exact UInt8.toNat_inj.1 (show c.toNat = (34 : UInt8).toNat from by have : (34 : UInt8).toNat = 34 := rfl; omega)
  ·rintro rfl
   rfl
 have h32 : (((c.toNat : Nat) : Int) == 32) = decide (c = 32) := by
  rw [Bool.eq_iff_iff, beq_iff_eq, decide_eq_true_iff]
  constructor
  ·intro h
   exact UInt8.toNat_inj.1 (show c.toNat = (32 : UInt8).toNat from by have : (32 : UInt8).toNat = 32 := rfl; omega)
  ·rintro rfl
   rfl
 unfold notE
 rw [Bool.not_not]
 obtain ⟨a, ha⟩ : ∃ b, decide (c = 32) = b := ⟨_, rfl⟩
 obtain ⟨b, hb⟩ : ∃ b, decide (c = 34) = b := ⟨_, rfl⟩
 rw [ha] at h32
 rw [hb] at h34
 rw [ha, hb]
 clear ha hb
 cases a
 all_goals
  go_enter Tryz.func129, Tryz.ntmps129
  go_wp2_with fail
  go_ret
  exact ⟨rfl, rfl⟩
theorem untilQ_any (s : ByteArray) (w : World) (hs : s.size <= maxLen) : Calls Tryz.prog 131 #[.string s, .func (.func 128) #[] #[]] w fun e w' => e = .returned (.tuple #[.string (toB (s.data.toList.takeWhile notQ)), .string (toB (s.data.toList.dropWhile notQ))]) /\ ∃ n, w' = w.drewN n := by
 have hsz : s.data.toList.length = s.size := by rw [Array.length_toList]; rfl
 have HGE : Hid (∀ k, (h : k < s.size) -> s.data.toList[k]? = some s[k]) := fun k h => get_optS h
 have HSZ := Lib.hid hsz
 have s0 : (0 : Int) <= (s.size : Int) := Int.natCast_nonneg _
 unfold maxLen at hs
 obtain ⟨A, hA⟩ : ∃ A, s.data.toList.takeWhile notQ = A := ⟨_, rfl⟩
 obtain ⟨D, hD⟩ : ∃ A, s.data.toList.dropWhile notQ = A := ⟨_, rfl⟩
 rw [hA, hD]
 have HAD : Hid (∀ j, TwAt notQ s.data.toList j -> TwAt notQ s.data.toList j) := fun j h => h
 have HA := Lib.hid hA
 have HD := Lib.hid hD
 clear hsz hA hD
 go_enter Tryz.func131, Tryz.ntmps131
 go_wp2_with fail
 go_loopw [9] (fun i wr => ∃ k : Nat, k <= s.size /\ i = .int .i64 (k : Int) /\ Hid (TwAt notQ s.data.toList k) /\ w = wr) (fun i _ => s.size - (intOf i).toNat)
 case atStart => exact ⟨0, by omega, rfl, TwAt.zero _ _, rfl⟩
 case round =>
  obtain ⟨k, hk, rfl, HT, rfl⟩ := hrel
  have hk0 : (0 : Int) <= (k : Int) := Int.natCast_nonneg _
  by_cases hlt : k < s.size
  ·have hk1 : (k : Int) < (s.size : Int) := by omega
   have hg := HGE.out k hlt
   obtain ⟨c, hc⟩ : ∃ c, s[k] = c := ⟨_, rfl⟩
   rw [hc] at hg
   have HG := Lib.hid hg
   have HSC := Lib.hid (stopQ_any c w)
   clear hg
   cases hp : notQ c with
   | true =>
     rw [hp] at HSC
     have HT2 := Lib.hid (HT.out.next HG.out hp)
     clear hp
     go_wp2_with (go_at_call 128; (with_reducible refine HSC.out.mono ?_); rintro e w1 ⟨rfl, rfl⟩)
     go_roundw
     case rel => exact ⟨k + 1, by omega, by go_num, HT2.out, by trivial⟩
     case measure => simp [intOf]; omega
   | false =>
     rw [hp] at HSC
     have HT2 := Lib.hid (HT.out.stop HG.out hp)
     have e1 : Hid (s.extract 0 k = toB A) := by unfold Hid; rw [extB, <- HT2.out.1, HA.out]
     have e2 : Hid (s.extract k s.size = toB D) := by unfold Hid; rw [extE, <- HT2.out.2, HD.out]
     clear hp
     go_upto_region 5 with (go_at_call 128; (with_reducible refine HSC.out.mono ?_); rintro e w1 ⟨rfl, rfl⟩)
     go_quiet (fail)
     try go_wp2_with fail
     refine bodyPost_ret (v := .tuple #[.string (s.extract 0 k), .string (s.extract k s.size)]) (by simp [results, Tryz.results131, go_sem]) rfl ⟨by rw [e1.out, e2.out], ?_⟩
     exact ⟨_, rfl⟩
  ·obtain rfl : k = s.size := by omega
   have h1 := HT.out
   rw [<- HSZ.out] at h1
   have HT2 := Lib.hid h1.done
   have e1 : Hid (s = toB A) := by unfold Hid; rw [<- HA.out, HT2.out.1]; rfl
   have e2 : Hid ((⟨#[]⟩ : ByteArray) = toB D) := by unfold Hid; rw [<- HD.out, HT2.out.2]; rfl
   clear h1
   go_wp2_with fail
   refine bodyPost_ret (v := .tuple #[.string s, .string ⟨#[]⟩]) (by simp [results, Tryz.results131, go_sem]) rfl ⟨by rw [<- e1.out, <- e2.out], 0, ?_⟩
   rfl
theorem untilE_any (s : ByteArray) (w : World) (hs : s.size <= maxLen) : Calls Tryz.prog 131 #[.string s, .func (.func 129) #[] #[]] w fun e w' => e = .returned (.tuple #[.string (toB (s.data.toList.takeWhile notE)), .string (toB (s.data.toList.dropWhile notE))]) /\ ∃ n, w' = w.drewN n := by
 have hsz : s.data.toList.length = s.size := by rw [Array.length_toList]; rfl
 have HGE : Hid (∀ k, (h : k < s.size) -> s.data.toList[k]? = some s[k]) := fun k h => get_optS h
 have HSZ := Lib.hid hsz
 have s0 : (0 : Int) <= (s.size : Int) := Int.natCast_nonneg _
 unfold maxLen at hs
 obtain ⟨A, hA⟩ : ∃ A, s.data.toList.takeWhile notE = A := ⟨_, rfl⟩
 obtain ⟨D, hD⟩ : ∃ A, s.data.toList.dropWhile notE = A := ⟨_, rfl⟩
 rw [hA, hD]
 have HAD : Hid (∀ j, TwAt notE s.data.toList j -> TwAt notE s.data.toList j) := fun j h => h
 have HA := Lib.hid hA
 have HD := Lib.hid hD
 clear hsz hA hD
 go_enter Tryz.func131, Tryz.ntmps131
 go_wp2_with fail
 go_loopw [9] (fun i wr => ∃ k : Nat, k <= s.size /\ i = .int .i64 (k : Int) /\ Hid (TwAt notE s.data.toList k) /\ w = wr) (fun i _ => s.size - (intOf i).toNat)
 case atStart => exact ⟨0, by omega, rfl, TwAt.zero _ _, rfl⟩
 case round =>
  obtain ⟨k, hk, rfl, HT, rfl⟩ := hrel
  have hk0 : (0 : Int) <= (k : Int) := Int.natCast_nonneg _
  by_cases hlt : k < s.size
  ·have hk1 : (k : Int) < (s.size : Int) := by omega
   have hg := HGE.out k hlt
   obtain ⟨c, hc⟩ : ∃ c, s[k] = c := ⟨_, rfl⟩
   rw [hc] at hg
   have HG := Lib.hid hg
   have HSC := Lib.hid (stopE_any c w)
   clear hg
   cases hp : notE c with
   | true =>
     rw [hp] at HSC
     have HT2 := Lib.hid (HT.out.next HG.out hp)
     clear hp
     go_wp2_with (go_at_call 129; (with_reducible refine HSC.out.mono ?_); rintro e w1 ⟨rfl, rfl⟩)
     go_roundw
     case rel => exact ⟨k + 1, by omega, by go_num, HT2.out, by trivial⟩
     case measure => simp [intOf]; omega
   | false =>
     rw [hp] at HSC
     have HT2 := Lib.hid (HT.out.stop HG.out hp)
     have e1 : Hid (s.extract 0 k = toB A) := by unfold Hid; rw [extB, <- HT2.out.1, HA.out]
     have e2 : Hid (s.extract k s.size = toB D) := by unfold Hid; rw [extE, <- HT2.out.2, HD.out]
     clear hp
     go_upto_region 5 with (go_at_call 129; (with_reducible refine HSC.out.mono ?_); rintro e w1 ⟨rfl, rfl⟩)
     go_quiet (fail)
     try go_wp2_with fail
     refine bodyPost_ret (v := .tuple #[.string (s.extract 0 k), .string (s.extract k s.size)]) (by simp [results, Tryz.results131, go_sem]) rfl ⟨by rw [e1.out, e2.out], ?_⟩
     exact ⟨_, rfl⟩
  ·obtain rfl : k = s.size := by omega
   have h1 := HT.out
   rw [<- HSZ.out] at h1
   have HT2 := Lib.hid h1.done
   have e1 : Hid (s = toB A) := by unfold Hid; rw [<- HA.out, HT2.out.1]; rfl
   have e2 : Hid ((⟨#[]⟩ : ByteArray) = toB D) := by unfold Hid; rw [<- HD.out, HT2.out.2]; rfl
   clear h1
   go_wp2_with fail
   refine bodyPost_ret (v := .tuple #[.string s, .string ⟨#[]⟩]) (by simp [results, Tryz.results131, go_sem]) rfl ⟨by rw [<- e1.out, <- e2.out], 0, ?_⟩
   rfl
end
end Go.Proofs.YtffhccmppdgmfaaGreatDoor
