import Derived.Test.YtjhginendpjimaaGreatDoorB24
import Derived.Test.YtjhginendpjimaaGreatDoorB16
set_option linter.unusedSimpArgs false
set_option linter.unusedVariables false
set_option maxRecDepth 200000
set_option maxHeartbeats 8000000
namespace Go.Proofs.YtjhginendpjimaaGreatDoor
section
open Go Go.RowKit Go.OpenShut
theorem init_none (q : Nat) (v : Value) (w : World) (hc : w.cell? ⟨q, 0, none⟩ = some (.slice none 0 0)) : Calls Tryz.prog 37 #[.iface 63 (.pointer (some ⟨q, 0, none⟩))] w fun e w' => e = .returned (.tuple #[]) /\ w = w' := by
 have hm := mth_len q w _ hc
 have HL := Lib.hid (qlen_any none 0 0 w)
 go_enter Tryz.func37, Tryz.ntmps37
 go_upto_region 1 with (first | (go_at_call 38; (with_reducible refine HL.out.mono ?_); rintro e w1 ⟨rfl, rfl⟩) | fail)
 go_wp2_with fail
 go_loopw [3] (fun v wr => v = .int .i64 (-1) /\ w = wr) (fun _ _ => 0)
 case atStart => exact ⟨rfl, rfl⟩
 case round =>
  obtain ⟨rfl, rfl⟩ := hrel
  go_wp2_with fail
  go_end0
  exact ⟨rfl, rfl⟩
theorem init_any (cs : List CmpD) (os : List (ByteArray × JV)) (rs : List RM) (pc : Option Addr) (nc cc base B q g cap : Nat) (xs : List Nat) (w : World) (env : QEnv w B cs os rs pc nc cc) (hB : B <= base) (hx : xs.length <= 1000000000000) (hq : QAt w base q g cap rs pc nc cc xs) :
 Calls Tryz.prog 37 #[.iface 63 (.pointer (some ⟨q, 0, none⟩))] w fun e w' => ∃ ys, e = .returned (.tuple #[]) /\ ys.length = xs.length /\ ys.Perm xs /\ HeapF (ltQ cs os) (fN ys) xs.length 0 /\ QAt w' base q g cap rs pc nc cc ys /\ w.grownBy w' (some g) := by
 have HENV : Hid (∀ W, w.grownBy W (some g) -> QEnv W B cs os rs pc nc cc) := fun W hg => env.below (hq.keep hg hB)
 obtain ⟨n, hn⟩ : ∃ n, xs.length = n := ⟨_, rfl⟩
 have HN := Lib.hid hn
 have hm := mth_len q w _ hq.q0
 have HL := Lib.hid (qlen_any (some ⟨g, 0, none⟩) xs.length cap w)
 rw [hn] at hm HL hx
 rw [hn]
 have HQ := Lib.hid hq
 have n0 : (0 : Int) <= (n : Int) := Int.natCast_nonneg _
 have nb : (n : Int) <= 1000000000000 := by omega
 obtain ⟨h, hh⟩ : ∃ h : Nat, n / 2 = h := ⟨_, rfl⟩
 have hhe : (n : Int) / 2 = (h : Int) := by omega
 have hhn : h <= n := by omega
 have h0 : (0 : Int) <= (h : Int) := Int.natCast_nonneg _
 have hb : (h : Int) <= 1000000000000 := by omega
 have HH := Lib.hid hh
 clear hn hh env hq
 go_enter Tryz.func37, Tryz.ntmps37
 go_upto_region 1 with (first | (go_at_call 38; (with_reducible refine HL.out.mono ?_); rintro e w1 ⟨rfl, rfl⟩) | fail)
 go_wp2_with fail
 go_loopw [3] (fun v wr => ∃ (j : Nat) (ys : List Nat), v = .int .i64 ((j : Int) - 1) /\ j <= h /\ Hid (ys.length = n /\ ys.Perm xs /\ HeapF (ltQ cs os) (fN ys) n j /\ QAt wr base q g cap rs pc nc cc ys /\ w.grownBy wr (some g))) (fun v _ => (intOf v + 1).toNat)
 case atStart => exact ⟨h, xs, by go_num, Nat.le_refl _, HN.out, List.Perm.refl _, by rw [<- HH.out]; exact HeapF.none, HQ.out, World.grownBy.refl w _⟩
 case round =>
  obtain ⟨j, ys, rfl, hjh, hS⟩ := hrel
  cases j with
  | zero =>
    obtain ⟨hl, hp, hf, hqa, hgr⟩ := hS.out
    have e : ((0 : Nat) : Int) - 1 = -1 := rfl
    rw [e]
    clear hl hp hf hqa hgr
    go_wp2_with fail
    go_end0
    obtain ⟨hl, hp, hf, hqa, hgr⟩ := hS.out
    exact ⟨ys, rfl, hl, hp, hf, hqa, hgr⟩
  | succ j =>
    obtain ⟨hl, hp, hf, hqa, hgr⟩ := hS.out
    have e : ((j + 1 : Nat) : Int) - 1 = (j : Int) := by omega
    rw [e]
    have j0 : (0 : Int) <= (j : Int) := Int.natCast_nonneg _
    have jb : (j : Int) <= 1000000000000 := by omega
    have q1 : decide ((0 : Int) <= (j : Int)) = true := decide_eq_true j0
    have HD := Lib.hid (down_any cs os rs pc nc cc base B q g cap j n j ys wr (HENV.out wr hgr) hB (by omega) (by omega) (by omega) ⟨rfl, List.Perm.refl _, fun _ _ => rfl, HeapEx.start hf, hqa, World.grownBy.refl wr _⟩)
    have HP := Lib.hid hp
    have HG := Lib.hid hgr
    have HYL := Lib.hid hl
    clear hl hp hf hqa hgr hS e
    go_wp2_with (first | (go_at_call 61; (with_reducible refine HD.out.mono ?_); rintro e w2 ⟨b, zs, rfl, hz1, hz2, hz3, hz4, hz5, hz6⟩) | fail)
    go_roundw
    case rel => exact ⟨j, zs, by first | rfl | (simp; done) | (congr 1; omega) | trivial, by omega, hz1.trans HYL.out, hz2.trans HP.out, hz4, hz5, grownT HG.out hz6⟩
    case measure => (simp [intOf] <;> omega)
structure Two (q g : Nat) (w w' : World) : Prop where
 os : w'.os = w.os
 tape : w'.tape = w.tape
 output : w'.output = w.output
 size : w.heap.size <= w'.heap.size
 block : ∀ k, k < w.heap.size -> k ≠ q -> k ≠ g -> w'.heap[k]? = w.heap[k]?
theorem Two.refl (q g : Nat) (w : World) : Two q g w w := ⟨rfl, rfl, rfl, Nat.le_refl _, fun _ _ _ _ => rfl⟩
theorem Two.trans {q g : Nat} {a b c : World} (h : Two q g a b) (k : Two q g b c) : Two q g a c :=
 ⟨k.os.trans h.os, k.tape.trans h.tape, k.output.trans h.output, Nat.le_trans h.size k.size, fun i hi h1 h2 => (k.block i (Nat.lt_of_lt_of_le hi h.size) h1 h2).trans (h.block i hi h1 h2)⟩
theorem Two.ofG {q g : Nat} {a b : World} (h : a.grownBy b (some g)) : Two q g a b := ⟨h.os, h.tape, h.output, h.size, fun k hk _ h2 => h.block k hk (fun e => h2 (Option.some.inj e))⟩
theorem Two.ofQ {q g : Nat} {a b : World} (h : a.grownBy b (some q)) : Two q g a b := ⟨h.os, h.tape, h.output, h.size, fun k hk h1 _ => h.block k hk (fun e => h1 (Option.some.inj e))⟩
theorem Two.ofB {q g : Nat} {a b : World} (h : Below a.heap.size a b) : Two q g a b := ⟨h.os, h.tape, h.output, h.size, fun k hk _ _ => h.block k hk⟩
theorem Two.below {q g base : Nat} {a b : World} (h : Two q g a b) (hq : base <= q) (hg : base <= g) (hs : base <= a.heap.size) : Below base a b := ⟨h.os, h.tape, h.output, h.size, fun k hk => h.block k (Nat.lt_of_lt_of_le hk hs) (by omega) (by omega)⟩
def itmV (rs : List RM) (x : Nat) : Value := .agg #[.string (rs.getD x dRM).name, .int .i64 (rs.getD x dRM).v.k, .int .i64 (rs.getD x dRM).v.n, .string (rs.getD x dRM).v.s, .slice (rs.getD x dRM).v.pl (rs.getD x dRM).v.nl (rs.getD x dRM).v.cl, .slice (rs.getD x dRM).v.pm (rs.getD x dRM).v.nm (rs.getD x dRM).v.cm, .int .i64 (x : Int)]
theorem qpop_any (rs : List RM) (pc : Option Addr) (nc cc base q g cap m : Nat) (ys : List Nat) (w : World) (hm : ys.length = m + 1) (hq : QAt w base q g cap rs pc nc cc ys) :
 Calls Tryz.prog 191 #[.pointer (some ⟨q, 0, none⟩)] w fun e w' => e = .returned (.iface 69 (itmV rs (fN ys m))) /\ QAt w' base q g cap rs pc nc cc (ys.take m) /\ Two q g w w' := by
 have hi : ys[m]? = some (fN ys m) := fN_at (by omega)
 obtain ⟨r1, hr1⟩ : ∃ r, rs.getD (fN ys m) dRM = r := ⟨_, rfl⟩
 obtain ⟨f0, f1, f2, f3, f4, f5, f6⟩ := qcells hq.own hi hr1
 have HV : Hid (itmV rs (fN ys m) = .agg #[.string r1.name, .int .i64 r1.v.k, .int .i64 r1.v.n, .string r1.v.s, .slice r1.v.pl r1.v.nl r1.v.cl, .slice r1.v.pm r1.v.nm r1.v.cm, .int .i64 ((fN ys m : Nat) : Int)]) := by unfold Hid itmV; rw [hr1]
 have hq0 := hq.q0
 have hgl := hq.glo
 have hql : q < w.heap.size := (Array.getElem?_eq_some_iff.1 hq.cell).1
 have hxl := hq.xlen
 unfold maxLen at hxl
 rw [hm] at hq0 hxl
 obtain ⟨hxl1, hxl2⟩ := hxl
 obtain ⟨x, hx⟩ : ∃ x, fN ys m = x := ⟨_, rfl⟩
 obtain ⟨V, hV⟩ : ∃ V, itmV rs (fN ys m) = V := ⟨_, rfl⟩
 rw [hV] at HV
 rw [hx] at f6 HV
 rw [hV]
 have hcell := hq.cell
 rw [hm] at hcell
 obtain ⟨M, hM⟩ : ∃ M, m + 1 = M := ⟨_, rfl⟩
 rw [hM] at hq0 hxl1 hcell
 have hMe : (M : Int) - 1 = (m : Int) := by omega
 have m0 : (0 : Int) <= (m : Int) := Int.natCast_nonneg _
 have m1 : (m : Int) < (M : Int) := by omega
 have tm : ((m : Int)).toNat = m := by omega
 have hmM : m <= M := by omega
 have hfz : w.frozen? ⟨q, 0, none⟩ = false := by simp [World.frozen?, hcell]
 have hqg : q ≠ w.heap.size := by omega
 have HQ := Lib.hid hq
 have HC := Lib.hid hcell
 have HM := Lib.hid hm
 have HMM := Lib.hid hM
 have MB : (M : Int) <= 9223372036854775807 := by omega
 obtain ⟨n1, ⟨k, n, s, pl, nl, cl, pm, nm, cm⟩⟩ := r1
 dsimp only at f0 f1 f2 f3 f4 f5 HV
 clear hq hm hi hr1 hx hV hcell hM
 go_enter Tryz.func191, Tryz.ntmps191
 go_wp2_with fail
 go_ret
 have hq := HQ.out
 have hlt : (ys.take m).length = m := by rw [List.length_take, HM.out]; omega
 have hgq : w.grownBy (w.setCell ⟨q, 0, none⟩ (.slice (some ⟨g, 0, none⟩) m cap)) (some q) := ⟨rfl, rfl, rfl, by simp [World.setCell], fun k _ hk => heap_setCell_other w ⟨q, 0, none⟩ k _ (fun e => hk (by simp [e]))⟩
 have ho : Own w base 69 (encQ rs) 7 (.slice (some ⟨g, 0, none⟩) m cap) (ys.take m) := hq.own.firstN (codecQ rs) m (by rw [HM.out]; omega)
 have ho2 := (ho.kept hgq (.inr (fun e => hq.ne (Option.some.inj e).symm))).alloc (.cells #[.string n1, .int .i64 k, .int .i64 n, .string s, .slice pl nl cl, .slice pm nm cm, .int .i64 (x : Int)] 69)
 refine ⟨by rw [HV.out]; rfl, ⟨?_, by rw [hlt]; exact ho2, hq.ne, hq.lo, fun y hy => hq.bnd y (List.mem_of_mem_take hy)⟩, (Two.ofQ hgq).trans (Two.ofB ((Below.refl _ _).alloc (Nat.le_refl _) _))⟩
 rw [hlt]
 exact heap_alloc_lt (by simp [World.setCell]; exact hql) (heap_setCell_same w q 0 _ _ _ HC.out)
theorem fN_take {us : List Nat} {m i : Nat} (h : i < m) : fN (us.take m) i = fN us i := by
 unfold fN
 rw [List.getD_eq_getElem?_getD, List.getD_eq_getElem?_getD, List.getElem?_take, if_pos h]
theorem fN_set {xs : List Nat} {i j v : Nat} (h : j ≠ i) : fN (xs.set i v) j = fN xs j := by
 unfold fN
 rw [List.getD_eq_getElem?_getD, List.getD_eq_getElem?_getD, List.getElem?_set, if_neg (fun e => h e.symm)]
theorem pop_any (cs : List CmpD) (os : List (ByteArray × JV)) (rs : List RM) (pc : Option Addr) (nc cc base B q g cap m : Nat) (xs : List Nat) (w : World) (env : QEnv w B cs os rs pc nc cc) (hB : B <= base) (hx : xs.length <= 1000000000000) (hm : xs.length = m + 1) (hq : QAt w base q g cap rs pc nc cc xs) (hh : HeapF (ltQ cs os) (fN xs) (m + 1) 0) :
 Calls Tryz.prog 39 #[.iface 63 (.pointer (some ⟨q, 0, none⟩))] w fun e w' => ∃ ys, e = .returned (.iface 69 (itmV rs (fN xs 0))) /\ (fN xs 0 :: ys).Perm xs /\ ys.length = m /\ HeapF (ltQ cs os) (fN ys) m 0 /\ QAt w' base q g cap rs pc nc cc ys /\ Two q g w w' := by
 have hxl := hq.xlen
 unfold maxLen at hxl
 have h0 := fN_at (ys := xs) (j := 0) (by omega)
 have hmx := fN_at (ys := xs) (j := m) (by omega)
 have hml := mth_len q w _ hq.q0
 have hms := mth_swap q w _ hq.q0
 have hmp : ∀ w, Sem.run Tryz.prog (method 335 63 (.pointer (some ⟨q, 0, none⟩)) "Pop") w = .ok (191, .pointer (some ⟨q, 0, none⟩)) w := mth_pop q
 have HL := Lib.hid (qlen_any (some ⟨g, 0, none⟩) xs.length cap w)
 have HSW : Hid (Calls Tryz.prog 192 #[.slice (some ⟨g, 0, none⟩) xs.length cap, .int .i64 0, .int .i64 (m : Int)] w fun e w' => e = .returned (.tuple #[]) /\ Own w' base 69 (encQ rs) 7 (.slice (some ⟨g, 0, none⟩) xs.length cap) ((xs.set 0 (fN xs m)).set m (fN xs 0)) /\ w.grownBy w' (some g)) := qswap_any (codecQ rs) xs base g cap 0 m _ _ w hq.own h0 hmx (by omega)
 obtain ⟨zs, hzs⟩ : ∃ zs, (xs.set 0 (fN xs m)).set m (fN xs 0) = zs := ⟨_, rfl⟩
 have hzl : zs.length = xs.length := by rw [<- hzs]; simp only [List.length_set]
 have hzp : zs.Perm xs := by rw [<- hzs, swapL_set xs h0 hmx]; exact swapL_perm
 have hzm : zs[m]? = some (fN xs 0) := by rw [<- hzs, List.getElem?_set, if_pos rfl, if_pos (by simp only [List.length_set]; omega)]
 have hze : HeapEx (ltQ cs os) (fN zs) m 0 0 := by
  refine ⟨fun p c _ hp hc hcl => ?_, fun p c _ hp _ _ => by unfold childOf at hp; omega, Nat.le_refl _⟩
  have hpc : p < c := by unfold childOf at hc; omega
  rw [<- hzs, fN_set (by omega), fN_set (by omega), fN_set (by omega), fN_set (by omega)]
  exact hh p c (Nat.zero_le _) hc (by omega)
 rw [hzs] at HSW
 have HENV : Hid (∀ W, w.grownBy W (some g) -> QEnv W B cs os rs pc nc cc) := fun W hg => env.below (hq.keep hg hB)
 have HD : Hid (∀ W, QAt W base q g cap rs pc nc cc zs -> w.grownBy W (some g) -> Calls Tryz.prog 61 #[.iface 63 (.pointer (some ⟨q, 0, none⟩)), .int .i64 0, .int .i64 (m : Int)] W fun e w' => ∃ b ys, e = .returned (.bool b) /\ ys.length = zs.length /\ ys.Perm zs /\ (∀ j, m <= j -> ys[j]? = zs[j]?) /\ HeapF (ltQ cs os) (fN ys) m 0 /\ QAt w' base q g cap rs pc nc cc ys /\ W.grownBy w' (some g)) := fun W hqa hg =>
  down_any cs os rs pc nc cc base B q g cap 0 m 0 zs W (HENV.out W hg) hB (by omega) (by omega) (by omega) ⟨rfl, List.Perm.refl _, fun _ _ => rfl, hze, hqa, World.grownBy.refl W _⟩
 have HQ := Lib.hid hq
 have HZL := Lib.hid hzl
 have HZP := Lib.hid hzp
 have HZM := Lib.hid hzm
 have HXM := Lib.hid hm
 obtain ⟨M, hM⟩ : ∃ M, xs.length = M := ⟨_, rfl⟩
 rw [hM] at hml hms HL HSW hx
 have hMe : (M : Int) - 1 = (m : Int) := by omega
 have m0 : (0 : Int) <= (m : Int) := Int.natCast_nonneg _
 have mb : (M : Int) <= 1000000000000 := by omega
 have HMM := Lib.hid hM
 clear hq hzs hzl hzp hzm hze hh env hm hM hxl h0 hmx
 go_enter Tryz.func39, Tryz.ntmps39
 go_upto_region 3 with (first
  | (go_at_call 38; (with_reducible refine HL.out.mono ?_); rintro e w1 ⟨rfl, rfl⟩)
  | (go_at_call 192; (with_reducible refine HSW.out.mono ?_); rintro e w2 ⟨rfl, ho2, hg2⟩)
  | fail)
 have hq2 := HQ.out.turned hg2 HZL.out (by rw [HMM.out]; exact ho2) (fun y hy => HQ.out.bnd y (HZP.out.mem_iff.1 hy))
 have HD2 := Lib.hid (HD.out w2 hq2 hg2)
 have HG2 := Lib.hid hg2
 clear hq2 ho2 hg2 hml hms
 go_upto_region 4 with (first
  | (go_at_call 61; (with_reducible refine HD2.out.mono ?_); rintro e w3 ⟨b, us, rfl, hu1, hu2, hu3, hu4, hu5, hu6⟩)
  | fail)
 have hul : us.length = m + 1 := hu1.trans (HZL.out.trans HXM.out)
 have HP := Lib.hid (qpop_any rs pc nc cc base q g cap m us w3 hul hu5)
 have hum : us[m]? = some (fN xs 0) := (hu3 m (Nat.le_refl _)).trans HZM.out
 have hfm : fN us m = fN xs 0 := by
  have h1 := fN_at (ys := us) (j := m) (by omega)
  rw [hum] at h1
  exact (Option.some.inj h1).symm
 rw [hfm] at HP
 have HF : Hid ((fN xs 0 :: us.take m).Perm xs /\ (us.take m).length = m /\ HeapF (ltQ cs os) (fN (us.take m)) m 0) := by
  refine ⟨?_, by rw [List.length_take, hul]; omega, hu4.congr (fun i hi => (fN_take hi).symm) (Nat.le_refl _)⟩
  have e1 : us = us.take m ++ [fN xs 0] := by
   conv => lhs; rw [<- List.take_append_drop m us]
   congr 1
   have h2 : m < us.length := by omega
   rw [List.drop_eq_getElem_cons h2, List.drop_eq_nil_of_le (by omega)]
   rw [List.getElem?_eq_getElem h2] at hum
   rw [Option.some.inj hum]
  have h3 : (fN xs 0 :: us.take m).Perm us := by
   conv => rhs; rw [e1]
   exact (List.perm_append_singleton _ _).symm
  exact h3.trans (hu2.trans HZP.out)
 have HG3 := Lib.hid (grownT HG2.out hu6)
 clear hu1 hu2 hu3 hu4 hu5 hu6 hul hum hfm
 go_wp2_with (first | (go_at_call 191; (with_reducible refine HP.out.mono ?_); rintro e w4 ⟨rfl, hq4, ht4⟩) | fail)
 go_ret
 exact ⟨us.take m, rfl, HF.out.1, HF.out.2.1, HF.out.2.2, hq4, (Two.ofG HG3.out).trans ht4⟩
end
section
def propN : ByteArray := ⟨#[112, 114, 111, 112, 101, 114, 116, 121]⟩
def ascN : ByteArray := ⟨#[105, 115, 65, 115, 99, 101, 110, 100, 105, 110, 103]⟩
def collN : ByteArray := ⟨#[99, 111, 108, 108, 97, 116, 105, 111, 110]⟩
def asciiN : ByteArray := ⟨#[105, 59, 97, 115, 99, 105, 105, 45, 99, 97, 115, 101, 109, 97, 112]⟩
def memC (p : ByteArray × JV) : Bool := (decide (p.1 = propN) && decide (p.2.k = 4)) || ((decide (p.1 = ascN) && decide (p.2.k = 2)) || (decide (p.1 = collN) && decide (p.2.k = 4)))
def propOk (s : ByteArray) : Bool := decide (s = createdN) || (decide (s = updatedN) || (decide (s = givenN) || (decide (s = surN) || decide (s = sur2N))))
def mOf (m : List (ByteArray × JV)) (n : ByteArray) : Option JV := (m.find? (fun p => decide (p.1 = n))).map (·.2)
def inS (l : List ByteArray) (x : ByteArray) : Bool := l.any (fun y => decide (y = x))
theorem inS_iff {l : List ByteArray} {x : ByteArray} : inS l x = true ↔ x ∈ l := by
 unfold inS
 rw [List.any_eq_true]
 exact ⟨fun ⟨y, h, e⟩ => (of_decide_eq_true e) ▸ h, fun h => ⟨x, h, by simp⟩⟩
theorem inS_no {l : List ByteArray} {x : ByteArray} : inS l x = false ↔ x ∉ l := by
 rw [<- inS_iff]; simp
def firstBad : List (ByteArray × JV) -> List ByteArray -> Bool
 | [], _ => false
 | p :: m, seen => (!memC p || inS seen p.1) || firstBad m (p.1 :: seen)
def oneE (v : JV) : Int :=
 if v.k ≠ 6 then 1 else if firstBad v.m [] then 1 else match mOf v.m propN with
  | none => 1
  | some p => if (match mOf v.m collN with | some c => decide (c.s ≠ asciiN) | none => false) || !propOk p.s then 210 else 0
def oneC (v : JV) : CmpD := ⟨match mOf v.m propN with | some p => p.s | none => ⟨#[]⟩, match mOf v.m ascN with | some p => decide (p.n = 0) | none => false⟩
def listE : List JV -> Int
 | [] => 0
 | v :: l => if oneE v ≠ 0 then oneE v else listE l
def sortE (s : JV) : Int := if s.k = 1 then 0 else if s.k ≠ 5 then 1 else if 4 < s.l.length then 210 else listE s.l
def sortC (s : JV) : List CmpD := if s.k = 5 /\ sortE s = 0 then s.l.map oneC else []
theorem firstBad_iff : ∀ (m : List (ByteArray × JV)) (seen : List ByteArray), firstBad m seen = false ↔ (∀ p ∈ m, memC p = true) /\ (m.map (·.1)).Nodup /\ ∀ p ∈ m, p.1 ∉ seen
 | [], seen => by simp [firstBad]
 | p :: m, seen => by
   have ih := firstBad_iff m (p.1 :: seen)
   unfold firstBad
   rw [Bool.or_eq_false_iff, Bool.or_eq_false_iff, ih]
   simp only [Bool.not_eq_false', inS_no, List.mem_cons, List.map_cons, List.nodup_cons, List.mem_map, forall_eq_or_imp, not_or]
   constructor
   ·rintro ⟨⟨h1, h2⟩, h3, h4, h5⟩
    exact ⟨⟨h1, h3⟩, ⟨fun ⟨q, hq, e⟩ => (h5 q hq).1 e, h4⟩, h2, fun q hq => (h5 q hq).2⟩
   ·rintro ⟨⟨h1, h3⟩, ⟨h4, h5⟩, h2, h6⟩
    exact ⟨⟨h1, h2⟩, h3, h5, fun q hq => ⟨fun e => h4 ⟨q, hq, e⟩, h6 q hq⟩⟩
theorem mOf_snoc (m : List (ByteArray × JV)) (p : ByteArray × JV) (n : ByteArray) : mOf (m ++ [p]) n = (mOf m n).or (if p.1 = n then some p.2 else none) := by
 unfold mOf
 rw [List.find?_append]
 cases h : m.find? (fun p => decide (p.1 = n)) with
 | some x => simp
 | none =>
   by_cases hp : p.1 = n
   ·simp [hp]
   ·simp [hp]
theorem inS_cons (l : List ByteArray) (y x : ByteArray) : inS (y :: l) x = (decide (y = x) || inS l x) := rfl
theorem firstBad_snoc : ∀ (m : List (ByteArray × JV)) (p : ByteArray × JV) (seen : List ByteArray), firstBad (m ++ [p]) seen = (firstBad m seen || (!memC p || (inS seen p.1 || inS (m.map (·.1)) p.1)))
 | [], p, seen => by simp [firstBad, inS]
 | q :: m, p, seen => by
   rw [List.cons_append, firstBad, firstBad_snoc m p (q.1 :: seen), firstBad, Bool.or_assoc, List.map_cons, inS_cons, inS_cons]
   cases memC q <;> cases inS seen q.1 <;> cases firstBad m (q.1 :: seen) <;> cases memC p <;> cases inS seen p.1 <;> cases decide (q.1 = p.1) <;> cases inS (m.map (·.1)) p.1 <;> rfl
structure PSt (m : List (ByteArray × JV)) (j : Nat) (p : ByteArray) (d sup : Bool) : Prop where
 ok : firstBad (m.take j) [] = false
 pv : p = match mOf (m.take j) propN with | some x => x.s | none => ⟨#[]⟩
 dv : d = match mOf (m.take j) ascN with | some x => decide (x.n = 0) | none => false
 sv : sup = match mOf (m.take j) collN with | some x => decide (x.s = asciiN) | none => true
theorem PSt.start (m : List (ByteArray × JV)) : PSt m 0 ⟨#[]⟩ false true := ⟨rfl, rfl, rfl, rfl⟩
theorem mOf_not {m : List (ByteArray × JV)} {n : ByteArray} (h : n ∉ m.map (·.1)) : mOf m n = none := by
 unfold mOf
 rw [List.find?_eq_none.2 (fun x hx => by
  have : x.1 ≠ n := fun e => h (e ▸ List.mem_map_of_mem hx)
  simpa using this)]
 rfl
theorem take_snoc {α : Type} {m : List α} {j : Nat} {x : α} (hx : m[j]? = some x) : m.take (j + 1) = m.take j ++ [x] := by rw [List.take_add_one, hx]; rfl
theorem PSt.okS {m : List (ByteArray × JV)} {j : Nat} {p : ByteArray} {d sup : Bool} {x : ByteArray × JV} (h : PSt m j p d sup) (hx : m[j]? = some x) (hc : memC x = true) (hs : x.1 ∉ (m.take j).map (·.1)) : firstBad (m.take (j + 1)) [] = false := by
 rw [take_snoc hx, firstBad_snoc, h.ok, hc, inS_no.2 hs]
 rfl
theorem mOf_put {m : List (ByteArray × JV)} {x : ByteArray × JV} (hs : x.1 ∉ m.map (·.1)) : mOf (m ++ [x]) x.1 = some x.2 := by
 rw [mOf_snoc, mOf_not hs, if_pos rfl]; rfl
theorem mOf_same {m : List (ByteArray × JV)} {x : ByteArray × JV} {n : ByteArray} (hn : x.1 ≠ n) : mOf (m ++ [x]) n = mOf m n := by
 rw [mOf_snoc, if_neg hn]; cases mOf m n <;> rfl
theorem pa_ne : propN ≠ ascN := by decide
theorem pc_ne : propN ≠ collN := by decide
theorem ac_ne : ascN ≠ collN := by decide
theorem PSt.prop {m : List (ByteArray × JV)} {j : Nat} {p : ByteArray} {d sup : Bool} {x : ByteArray × JV} (h : PSt m j p d sup) (hx : m[j]? = some x) (hn : x.1 = propN) (hk : x.2.k = 4) (hs : x.1 ∉ (m.take j).map (·.1)) : PSt m (j + 1) x.2.s d sup := by
 refine ⟨h.okS hx (by unfold memC; rw [decide_eq_true hn, decide_eq_true hk]; rfl) hs, ?_, ?_, ?_⟩
 ·have := mOf_put hs
  rw [hn] at this
  rw [take_snoc hx, this]
 ·rw [take_snoc hx, mOf_same (by rw [hn]; exact pa_ne)]; exact h.dv
 ·rw [take_snoc hx, mOf_same (by rw [hn]; exact pc_ne)]; exact h.sv
theorem PSt.asc {m : List (ByteArray × JV)} {j : Nat} {p : ByteArray} {d sup : Bool} {x : ByteArray × JV} (h : PSt m j p d sup) (hx : m[j]? = some x) (hn : x.1 = ascN) (hk : x.2.k = 2) (hs : x.1 ∉ (m.take j).map (·.1)) : PSt m (j + 1) p (decide (x.2.n = 0)) sup := by
 refine ⟨h.okS hx (by unfold memC; rw [decide_eq_true hn, decide_eq_true hk]; simp) hs, ?_, ?_, ?_⟩
 ·rw [take_snoc hx, mOf_same (by rw [hn]; exact fun e => pa_ne e.symm)]; exact h.pv
 ·have := mOf_put hs
  rw [hn] at this
  rw [take_snoc hx, this]
 ·rw [take_snoc hx, mOf_same (by rw [hn]; exact ac_ne)]; exact h.sv
theorem PSt.coll {m : List (ByteArray × JV)} {j : Nat} {p : ByteArray} {d sup : Bool} {x : ByteArray × JV} (h : PSt m j p d sup) (hx : m[j]? = some x) (hn : x.1 = collN) (hk : x.2.k = 4) (hs : x.1 ∉ (m.take j).map (·.1)) : PSt m (j + 1) p d (decide (x.2.s = asciiN)) := by
 refine ⟨h.okS hx (by unfold memC; rw [decide_eq_true hn, decide_eq_true hk]; simp) hs, ?_, ?_, ?_⟩
 ·rw [take_snoc hx, mOf_same (by rw [hn]; exact fun e => pc_ne e.symm)]; exact h.pv
 ·rw [take_snoc hx, mOf_same (by rw [hn]; exact fun e => ac_ne e.symm)]; exact h.dv
 ·have := mOf_put hs
  rw [hn] at this
  rw [take_snoc hx, this]
theorem bad_whole {m : List (ByteArray × JV)} {j : Nat} {x : ByteArray × JV} (hx : m[j]? = some x) (hb : memC x = false \/ x.1 ∈ (m.take j).map (·.1)) : firstBad m [] = true := by
 cases h : firstBad m [] with
 | true => rfl
 | false =>
   obtain ⟨h1, h2, _⟩ := (firstBad_iff m []).1 h
   rcases hb with hb | hb
   ·rw [h1 x (List.mem_of_getElem? hx)] at hb; cases hb
   ·have h3 : ((m.take (j + 1)).map (·.1)).Nodup := (List.Sublist.map _ (List.take_sublist _ _)).nodup h2
    rw [take_snoc hx, List.map_append, List.nodup_append] at h3
    exact absurd rfl (h3.2.2 _ hb _ (by simp))
theorem memC_prop {x : ByteArray × JV} (h : x.1 = propN) : memC x = decide (x.2.k = 4) := by
 unfold memC
 rw [h]
 simp [pa_ne, pc_ne]
theorem memC_asc {x : ByteArray × JV} (h : x.1 = ascN) : memC x = decide (x.2.k = 2) := by
 have h1 : ¬ ascN = propN := fun e => pa_ne e.symm
 unfold memC
 rw [h]
 simp [h1, ac_ne]
theorem memC_coll {x : ByteArray × JV} (h : x.1 = collN) : memC x = decide (x.2.k = 4) := by
 have h1 : ¬ collN = propN := fun e => pc_ne e.symm
 have h2 : ¬ collN = ascN := fun e => ac_ne e.symm
 unfold memC
 rw [h]
 simp [h1, h2]
theorem memC_else {x : ByteArray × JV} (h1 : x.1 ≠ propN) (h2 : x.1 ≠ ascN) (h3 : x.1 ≠ collN) : memC x = false := by
 unfold memC
 rw [decide_eq_false h1, decide_eq_false h2, decide_eq_false h3]
 rfl
theorem oneE_kind {v : JV} (h : v.k ≠ 6) : oneE v = 1 := by unfold oneE; rw [if_pos h]
theorem oneE_bad {v : JV} (h : firstBad v.m [] = true) : oneE v = 1 := by
 unfold oneE
 split <;> simp [h]
theorem PSt.done {v : JV} {p : ByteArray} {d sup : Bool} (hk : v.k = 6) (h : PSt v.m v.m.length p d sup) : oneE v = (if inS (v.m.map (fun x => x.1)) propN then (if sup && propOk p then 0 else 210) else 1) /\ (inS (v.m.map (fun x => x.1)) propN = true -> oneC v = ⟨p, d⟩) := by
 obtain ⟨h1, h2, h3, h4⟩ := h
 rw [List.take_length] at h1 h2 h3 h4
 have hm : propN ∈ v.m.map (·.1) -> ∃ x, mOf v.m propN = some x := fun hp => by
  cases hc : mOf v.m propN with
  | some x => exact ⟨x, rfl⟩
  | none =>
    exfalso
    unfold mOf at hc
    rw [Option.map_eq_none_iff, List.find?_eq_none] at hc
    obtain ⟨y, hy, e⟩ := List.mem_map.1 hp
    exact hc y hy (by simpa using e)
 refine ⟨?_, fun hp => ?_⟩
 ·unfold oneE
  rw [if_neg (by simp [hk]), h1, if_neg (by decide)]
  cases hp : inS (v.m.map (fun x => x.1)) propN with
  | true =>
    obtain ⟨x, hx⟩ := hm (inS_iff.1 hp)
    rw [if_pos rfl, hx]
    rw [hx] at h2
    dsimp only at h2 ⊢
    rw [h2, h4]
    cases mOf v.m collN with
    | none => cases propOk x.s <;> rfl
    | some c =>
      by_cases hc : c.s = asciiN
      ·cases hpo : propOk x.s <;> simp [hc, hpo]
      ·cases hpo : propOk x.s <;> simp [hc, hpo]
  | false => rw [if_neg (by decide), mOf_not (inS_no.1 hp)]
 ·obtain ⟨x, hx⟩ := hm (inS_iff.1 hp)
  unfold oneC
  rw [hx] at h2 ⊢
  dsimp only at h2 ⊢
  rw [h2, h3]
  try rfl
end
end Go.Proofs.YtjhginendpjimaaGreatDoor
