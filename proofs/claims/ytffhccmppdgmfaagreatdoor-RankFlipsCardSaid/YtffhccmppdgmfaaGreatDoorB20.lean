import Derived.Test.YtffhccmppdgmfaaGreatDoorB19
import Derived.Test.YtffhccmppdgmfaaGreatDoorB12
import Derived.Test.YtffhccmppdgmfaaGreatDoorB17
import Derived.Test.YtffhccmppdgmfaaGreatDoorB16
import Derived.Test.YtffhccmppdgmfaaGreatDoorB04
set_option linter.unusedSimpArgs false
set_option linter.unusedVariables false
set_option maxRecDepth 200000
set_option maxHeartbeats 8000000
namespace Go.Proofs.YtffhccmppdgmfaaGreatDoor
section
open Go Go.RowKit Go.OpenShut
theorem init_none (q : Nat) (v : Value) (w : World) (hc : w.cell? ⟨q, 0, none⟩ = some (.slice none 0 0)) : Calls Tryz.prog 71 #[.iface 91 (.pointer (some ⟨q, 0, none⟩))] w fun e w' => e = .returned (.tuple #[]) /\ w = w' := by
 have hm := mth_len q w _ hc
 have HL := Lib.hid (qlen_any none 0 0 w)
 go_enter Tryz.func71, Tryz.ntmps71
 go_upto_region 1 with (first | (go_at_call 72; (with_reducible refine HL.out.mono ?_); rintro e w1 ⟨rfl, rfl⟩) | fail)
 go_wp2_with fail
 go_loopw [3] (fun v wr => v = .int .i64 (-1) /\ w = wr) (fun _ _ => 0)
 case atStart => exact ⟨rfl, rfl⟩
 case round =>
  obtain ⟨rfl, rfl⟩ := hrel
  go_wp2_with fail
  go_end0
  exact ⟨rfl, rfl⟩
theorem init_any (cs : List CmpD) (os : List (ByteArray × JV)) (rs : List RM) (pc : Option Addr) (nc cc base B q g cap : Nat) (xs : List Nat) (w : World) (env : QEnv w B cs os rs pc nc cc) (hB : B <= base) (hx : xs.length <= 1000000000000) (hq : QAt w base q g cap rs pc nc cc xs) :
 Calls Tryz.prog 71 #[.iface 91 (.pointer (some ⟨q, 0, none⟩))] w fun e w' => ∃ ys, e = .returned (.tuple #[]) /\ ys.length = xs.length /\ ys.Perm xs /\ HeapF (ltQ cs os) (fN ys) xs.length 0 /\ QAt w' base q g cap rs pc nc cc ys /\ w.grownBy w' (some g) := by
 have HENV : Hid (∀ W, w.grownBy W (some g) -> QEnv W B cs os rs pc nc cc) := fun W hg => env.below (hq.keep hg hB)
 obtain ⟨n, hn⟩ : ∃ n, xs.length = n := ⟨_, rfl⟩
 have HN := Lib.hid hn
 have hm := mth_len q w _ hq.q0
 have HL := Lib.hid (qlen_any (some ⟨g, 0, none⟩) xs.length cap w)
 rw [hn] at hm HL hx
 rw [hn]
 have HQ := Lib.hid hq
 have n0 : (0 : Int) <= (n : Int) := Int.natCast_nonneg _
 have nb : (n : Int) <= 1000000000000 := by omega
 obtain ⟨h, hh⟩ : ∃ h : Nat, n / 2 = h := ⟨_, rfl⟩
 have hhe : (n : Int) / 2 = (h : Int) := by omega
 have hhn : h <= n := by omega
 have h0 : (0 : Int) <= (h : Int) := Int.natCast_nonneg _
 have hb : (h : Int) <= 1000000000000 := by omega
 have HH := Lib.hid hh
 clear hn hh env hq
 go_enter Tryz.func71, Tryz.ntmps71
 go_upto_region 1 with (first | (go_at_call 72; (with_reducible refine HL.out.mono ?_); rintro e w1 ⟨rfl, rfl⟩) | fail)
 go_wp2_with fail
 go_loopw [3] (fun v wr => ∃ (j : Nat) (ys : List Nat), v = .int .i64 ((j : Int) - 1) /\ j <= h /\ Hid (ys.length = n /\ ys.Perm xs /\ HeapF (ltQ cs os) (fN ys) n j /\ QAt wr base q g cap rs pc nc cc ys /\ w.grownBy wr (some g))) (fun v _ => (intOf v + 1).toNat)
 case atStart => exact ⟨h, xs, by go_num, Nat.le_refl _, HN.out, List.Perm.refl _, by rw [<- HH.out]; exact HeapF.none, HQ.out, World.grownBy.refl w _⟩
 case round =>
  obtain ⟨j, ys, rfl, hjh, hS⟩ := hrel
  cases j with
  | zero =>
    obtain ⟨hl, hp, hf, hqa, hgr⟩ := hS.out
    have e : ((0 : Nat) : Int) - 1 = -1 := rfl
    rw [e]
    clear hl hp hf hqa hgr
    go_wp2_with fail
    go_end0
    obtain ⟨hl, hp, hf, hqa, hgr⟩ := hS.out
    exact ⟨ys, rfl, hl, hp, hf, hqa, hgr⟩
  | succ j =>
    obtain ⟨hl, hp, hf, hqa, hgr⟩ := hS.out
    have e : ((j + 1 : Nat) : Int) - 1 = (j : Int) := by omega
    rw [e]
    have j0 : (0 : Int) <= (j : Int) := Int.natCast_nonneg _
    have jb : (j : Int) <= 1000000000000 := by omega
    have q1 : decide ((0 : Int) <= (j : Int)) = true := decide_eq_true j0
    have HD := Lib.hid (down_any cs os rs pc nc cc base B q g cap j n j ys wr (HENV.out wr hgr) hB (by omega) (by omega) (by omega) ⟨rfl, List.Perm.refl _, fun _ _ => rfl, HeapEx.start hf, hqa, World.grownBy.refl wr _⟩)
    have HP := Lib.hid hp
    have HG := Lib.hid hgr
    have HYL := Lib.hid hl
    clear hl hp hf hqa hgr hS e
    go_wp2_with (first | (go_at_call 102; (with_reducible refine HD.out.mono ?_); rintro e w2 ⟨b, zs, rfl, hz1, hz2, hz3, hz4, hz5, hz6⟩) | fail)
    go_roundw
    case rel => exact ⟨j, zs, by first | rfl | (simp; done) | (congr 1; omega) | trivial, by omega, hz1.trans HYL.out, hz2.trans HP.out, hz4, hz5, grownT HG.out hz6⟩
    case measure => (simp [intOf] <;> omega)
structure Two (q g : Nat) (w w' : World) : Prop where
 os : w'.os = w.os
 tape : w'.tape = w.tape
 output : w'.output = w.output
 size : w.heap.size <= w'.heap.size
 block : ∀ k, k < w.heap.size -> k ≠ q -> k ≠ g -> w'.heap[k]? = w.heap[k]?
theorem Two.refl (q g : Nat) (w : World) : Two q g w w := ⟨rfl, rfl, rfl, Nat.le_refl _, fun _ _ _ _ => rfl⟩
theorem Two.trans {q g : Nat} {a b c : World} (h : Two q g a b) (k : Two q g b c) : Two q g a c :=
 ⟨k.os.trans h.os, k.tape.trans h.tape, k.output.trans h.output, Nat.le_trans h.size k.size, fun i hi h1 h2 => (k.block i (Nat.lt_of_lt_of_le hi h.size) h1 h2).trans (h.block i hi h1 h2)⟩
theorem Two.ofG {q g : Nat} {a b : World} (h : a.grownBy b (some g)) : Two q g a b := ⟨h.os, h.tape, h.output, h.size, fun k hk _ h2 => h.block k hk (fun e => h2 (Option.some.inj e))⟩
theorem Two.ofQ {q g : Nat} {a b : World} (h : a.grownBy b (some q)) : Two q g a b := ⟨h.os, h.tape, h.output, h.size, fun k hk h1 _ => h.block k hk (fun e => h1 (Option.some.inj e))⟩
theorem Two.ofB {q g : Nat} {a b : World} (h : Below a.heap.size a b) : Two q g a b := ⟨h.os, h.tape, h.output, h.size, fun k hk _ _ => h.block k hk⟩
theorem Two.below {q g base : Nat} {a b : World} (h : Two q g a b) (hq : base <= q) (hg : base <= g) (hs : base <= a.heap.size) : Below base a b := ⟨h.os, h.tape, h.output, h.size, fun k hk => h.block k (Nat.lt_of_lt_of_le hk hs) (by omega) (by omega)⟩
def itmV (rs : List RM) (x : Nat) : Value := .agg #[.string (rs.getD x dRM).name, .int .i64 (rs.getD x dRM).v.k, .int .i64 (rs.getD x dRM).v.n, .string (rs.getD x dRM).v.s, .slice (rs.getD x dRM).v.pl (rs.getD x dRM).v.nl (rs.getD x dRM).v.cl, .slice (rs.getD x dRM).v.pm (rs.getD x dRM).v.nm (rs.getD x dRM).v.cm, .int .i64 (x : Int)]
theorem qpop_any (rs : List RM) (pc : Option Addr) (nc cc base q g cap m : Nat) (ys : List Nat) (w : World) (hm : ys.length = m + 1) (hq : QAt w base q g cap rs pc nc cc ys) :
 Calls Tryz.prog 239 #[.pointer (some ⟨q, 0, none⟩)] w fun e w' => e = .returned (.iface 97 (itmV rs (fN ys m))) /\ QAt w' base q g cap rs pc nc cc (ys.take m) /\ Two q g w w' := by
 have hi : ys[m]? = some (fN ys m) := fN_at (by omega)
 obtain ⟨r1, hr1⟩ : ∃ r, rs.getD (fN ys m) dRM = r := ⟨_, rfl⟩
 obtain ⟨f0, f1, f2, f3, f4, f5, f6⟩ := qcells hq.own hi hr1
 have HV : Hid (itmV rs (fN ys m) = .agg #[.string r1.name, .int .i64 r1.v.k, .int .i64 r1.v.n, .string r1.v.s, .slice r1.v.pl r1.v.nl r1.v.cl, .slice r1.v.pm r1.v.nm r1.v.cm, .int .i64 ((fN ys m : Nat) : Int)]) := by unfold Hid itmV; rw [hr1]
 have hq0 := hq.q0
 have hgl := hq.glo
 have hql : q < w.heap.size := (Array.getElem?_eq_some_iff.1 hq.cell).1
 have hxl := hq.xlen
 unfold maxLen at hxl
 rw [hm] at hq0 hxl
 obtain ⟨hxl1, hxl2⟩ := hxl
 obtain ⟨x, hx⟩ : ∃ x, fN ys m = x := ⟨_, rfl⟩
 obtain ⟨V, hV⟩ : ∃ V, itmV rs (fN ys m) = V := ⟨_, rfl⟩
 rw [hV] at HV
 rw [hx] at f6 HV
 rw [hV]
 have hcell := hq.cell
 rw [hm] at hcell
 obtain ⟨M, hM⟩ : ∃ M, m + 1 = M := ⟨_, rfl⟩
 rw [hM] at hq0 hxl1 hcell
 have hMe : (M : Int) - 1 = (m : Int) := by omega
 have m0 : (0 : Int) <= (m : Int) := Int.natCast_nonneg _
 have m1 : (m : Int) < (M : Int) := by omega
 have tm : ((m : Int)).toNat = m := by omega
 have hmM : m <= M := by omega
 have hfz : w.frozen? ⟨q, 0, none⟩ = false := by simp [World.frozen?, hcell]
 have hqg : q ≠ w.heap.size := by omega
 have HQ := Lib.hid hq
 have HC := Lib.hid hcell
 have HM := Lib.hid hm
 have HMM := Lib.hid hM
 have MB : (M : Int) <= 9223372036854775807 := by omega
 obtain ⟨n1, ⟨k, n, s, pl, nl, cl, pm, nm, cm⟩⟩ := r1
 dsimp only at f0 f1 f2 f3 f4 f5 HV
 clear hq hm hi hr1 hx hV hcell hM
 go_enter Tryz.func239, Tryz.ntmps239
 go_wp2_with fail
 go_ret
 have hq := HQ.out
 have hlt : (ys.take m).length = m := by rw [List.length_take, HM.out]; omega
 have hgq : w.grownBy (w.setCell ⟨q, 0, none⟩ (.slice (some ⟨g, 0, none⟩) m cap)) (some q) := ⟨rfl, rfl, rfl, by simp [World.setCell], fun k _ hk => heap_setCell_other w ⟨q, 0, none⟩ k _ (fun e => hk (by simp [e]))⟩
 have ho : Own w base 97 (encQ rs) 7 (.slice (some ⟨g, 0, none⟩) m cap) (ys.take m) := hq.own.firstN (codecQ rs) m (by rw [HM.out]; omega)
 have ho2 := (ho.kept hgq (.inr (fun e => hq.ne (Option.some.inj e).symm))).alloc (.cells #[.string n1, .int .i64 k, .int .i64 n, .string s, .slice pl nl cl, .slice pm nm cm, .int .i64 (x : Int)] 97)
 refine ⟨by rw [HV.out]; rfl, ⟨?_, by rw [hlt]; exact ho2, hq.ne, hq.lo, fun y hy => hq.bnd y (List.mem_of_mem_take hy)⟩, (Two.ofQ hgq).trans (Two.ofB ((Below.refl _ _).alloc (Nat.le_refl _) _))⟩
 rw [hlt]
 exact heap_alloc_lt (by simp [World.setCell]; exact hql) (heap_setCell_same w q 0 _ _ _ HC.out)
theorem fN_take {us : List Nat} {m i : Nat} (h : i < m) : fN (us.take m) i = fN us i := by
 unfold fN
 rw [List.getD_eq_getElem?_getD, List.getD_eq_getElem?_getD, List.getElem?_take, if_pos h]
theorem fN_set {xs : List Nat} {i j v : Nat} (h : j ≠ i) : fN (xs.set i v) j = fN xs j := by
 unfold fN
 rw [List.getD_eq_getElem?_getD, List.getD_eq_getElem?_getD, List.getElem?_set, if_neg (fun e => h e.symm)]
theorem pop_any (cs : List CmpD) (os : List (ByteArray × JV)) (rs : List RM) (pc : Option Addr) (nc cc base B q g cap m : Nat) (xs : List Nat) (w : World) (env : QEnv w B cs os rs pc nc cc) (hB : B <= base) (hx : xs.length <= 1000000000000) (hm : xs.length = m + 1) (hq : QAt w base q g cap rs pc nc cc xs) (hh : HeapF (ltQ cs os) (fN xs) (m + 1) 0) :
 Calls Tryz.prog 73 #[.iface 91 (.pointer (some ⟨q, 0, none⟩))] w fun e w' => ∃ ys, e = .returned (.iface 97 (itmV rs (fN xs 0))) /\ (fN xs 0 :: ys).Perm xs /\ ys.length = m /\ HeapF (ltQ cs os) (fN ys) m 0 /\ QAt w' base q g cap rs pc nc cc ys /\ Two q g w w' := by
 have hxl := hq.xlen
 unfold maxLen at hxl
 have h0 := fN_at (ys := xs) (j := 0) (by omega)
 have hmx := fN_at (ys := xs) (j := m) (by omega)
 have hml := mth_len q w _ hq.q0
 have hms := mth_swap q w _ hq.q0
 have hmp : ∀ w, Sem.run Tryz.prog (method 359 91 (.pointer (some ⟨q, 0, none⟩)) "Pop") w = .ok (239, .pointer (some ⟨q, 0, none⟩)) w := mth_pop q
 have HL := Lib.hid (qlen_any (some ⟨g, 0, none⟩) xs.length cap w)
 have HSW : Hid (Calls Tryz.prog 240 #[.slice (some ⟨g, 0, none⟩) xs.length cap, .int .i64 0, .int .i64 (m : Int)] w fun e w' => e = .returned (.tuple #[]) /\ Own w' base 97 (encQ rs) 7 (.slice (some ⟨g, 0, none⟩) xs.length cap) ((xs.set 0 (fN xs m)).set m (fN xs 0)) /\ w.grownBy w' (some g)) := qswap_any (codecQ rs) xs base g cap 0 m _ _ w hq.own h0 hmx (by omega)
 obtain ⟨zs, hzs⟩ : ∃ zs, (xs.set 0 (fN xs m)).set m (fN xs 0) = zs := ⟨_, rfl⟩
 have hzl : zs.length = xs.length := by rw [<- hzs]; simp only [List.length_set]
 have hzp : zs.Perm xs := by rw [<- hzs, swapL_set xs h0 hmx]; exact swapL_perm
 have hzm : zs[m]? = some (fN xs 0) := by rw [<- hzs, List.getElem?_set, if_pos rfl, if_pos (by simp only [List.length_set]; omega)]
 have hze : HeapEx (ltQ cs os) (fN zs) m 0 0 := by
  refine ⟨fun p c _ hp hc hcl => ?_, fun p c _ hp _ _ => by unfold childOf at hp; omega, Nat.le_refl _⟩
  have hpc : p < c := by unfold childOf at hc; omega
  rw [<- hzs, fN_set (by omega), fN_set (by omega), fN_set (by omega), fN_set (by omega)]
  exact hh p c (Nat.zero_le _) hc (by omega)
 rw [hzs] at HSW
 have HENV : Hid (∀ W, w.grownBy W (some g) -> QEnv W B cs os rs pc nc cc) := fun W hg => env.below (hq.keep hg hB)
 have HD : Hid (∀ W, QAt W base q g cap rs pc nc cc zs -> w.grownBy W (some g) -> Calls Tryz.prog 102 #[.iface 91 (.pointer (some ⟨q, 0, none⟩)), .int .i64 0, .int .i64 (m : Int)] W fun e w' => ∃ b ys, e = .returned (.bool b) /\ ys.length = zs.length /\ ys.Perm zs /\ (∀ j, m <= j -> ys[j]? = zs[j]?) /\ HeapF (ltQ cs os) (fN ys) m 0 /\ QAt w' base q g cap rs pc nc cc ys /\ W.grownBy w' (some g)) := fun W hqa hg =>
  down_any cs os rs pc nc cc base B q g cap 0 m 0 zs W (HENV.out W hg) hB (by omega) (by omega) (by omega) ⟨rfl, List.Perm.refl _, fun _ _ => rfl, hze, hqa, World.grownBy.refl W _⟩
 have HQ := Lib.hid hq
 have HZL := Lib.hid hzl
 have HZP := Lib.hid hzp
 have HZM := Lib.hid hzm
 have HXM := Lib.hid hm
 obtain ⟨M, hM⟩ : ∃ M, xs.length = M := ⟨_, rfl⟩
 rw [hM] at hml hms HL HSW hx
 have hMe : (M : Int) - 1 = (m : Int) := by omega
 have m0 : (0 : Int) <= (m : Int) := Int.natCast_nonneg _
 have mb : (M : Int) <= 1000000000000 := by omega
 have HMM := Lib.hid hM
 clear hq hzs hzl hzp hzm hze hh env hm hM hxl h0 hmx
 go_enter Tryz.func73, Tryz.ntmps73
 go_upto_region 3 with (first
  | (go_at_call 72; (with_reducible refine HL.out.mono ?_); rintro e w1 ⟨rfl, rfl⟩)
  | (go_at_call 240; (with_reducible refine HSW.out.mono ?_); rintro e w2 ⟨rfl, ho2, hg2⟩)
  | fail)
 have hq2 := HQ.out.turned hg2 HZL.out (by rw [HMM.out]; exact ho2) (fun y hy => HQ.out.bnd y (HZP.out.mem_iff.1 hy))
 have HD2 := Lib.hid (HD.out w2 hq2 hg2)
 have HG2 := Lib.hid hg2
 clear hq2 ho2 hg2 hml hms
 go_upto_region 4 with (first
  | (go_at_call 102; (with_reducible refine HD2.out.mono ?_); rintro e w3 ⟨b, us, rfl, hu1, hu2, hu3, hu4, hu5, hu6⟩)
  | fail)
 have hul : us.length = m + 1 := hu1.trans (HZL.out.trans HXM.out)
 have HP := Lib.hid (qpop_any rs pc nc cc base q g cap m us w3 hul hu5)
 have hum : us[m]? = some (fN xs 0) := (hu3 m (Nat.le_refl _)).trans HZM.out
 have hfm : fN us m = fN xs 0 := by
  have h1 := fN_at (ys := us) (j := m) (by omega)
  rw [hum] at h1
  exact (Option.some.inj h1).symm
 rw [hfm] at HP
 have HF : Hid ((fN xs 0 :: us.take m).Perm xs /\ (us.take m).length = m /\ HeapF (ltQ cs os) (fN (us.take m)) m 0) := by
  refine ⟨?_, by rw [List.length_take, hul]; omega, hu4.congr (fun i hi => (fN_take hi).symm) (Nat.le_refl _)⟩
  have e1 : us = us.take m ++ [fN xs 0] := by
   conv => lhs; rw [<- List.take_append_drop m us]
   congr 1
   have h2 : m < us.length := by omega
   rw [List.drop_eq_getElem_cons h2, List.drop_eq_nil_of_le (by omega)]
   rw [List.getElem?_eq_getElem h2] at hum
   rw [Option.some.inj hum]
  have h3 : (fN xs 0 :: us.take m).Perm us := by
   conv => rhs; rw [e1]
   exact (List.perm_append_singleton _ _).symm
  exact h3.trans (hu2.trans HZP.out)
 have HG3 := Lib.hid (grownT HG2.out hu6)
 clear hu1 hu2 hu3 hu4 hu5 hu6 hul hum hfm
 go_wp2_with (first | (go_at_call 239; (with_reducible refine HP.out.mono ?_); rintro e w4 ⟨rfl, hq4, ht4⟩) | fail)
 go_ret
 exact ⟨us.take m, rfl, HF.out.1, HF.out.2.1, HF.out.2.2, hq4, (Two.ofG HG3.out).trans ht4⟩
end
section
def propN : ByteArray := ⟨#[112, 114, 111, 112, 101, 114, 116, 121]⟩
def ascN : ByteArray := ⟨#[105, 115, 65, 115, 99, 101, 110, 100, 105, 110, 103]⟩
def collN : ByteArray := ⟨#[99, 111, 108, 108, 97, 116, 105, 111, 110]⟩
def asciiN : ByteArray := ⟨#[105, 59, 97, 115, 99, 105, 105, 45, 99, 97, 115, 101, 109, 97, 112]⟩
def memC (p : ByteArray × JV) : Bool := (decide (p.1 = propN) && decide (p.2.k = 4)) || ((decide (p.1 = ascN) && decide (p.2.k = 2)) || (decide (p.1 = collN) && decide (p.2.k = 4)))
def propOk (s : ByteArray) : Bool := decide (s = createdN) || (decide (s = updatedN) || (decide (s = givenN) || (decide (s = surN) || decide (s = sur2N))))
def mOf (m : List (ByteArray × JV)) (n : ByteArray) : Option JV := (m.find? (fun p => decide (p.1 = n))).map (·.2)
def inS (l : List ByteArray) (x : ByteArray) : Bool := l.any (fun y => decide (y = x))
theorem inS_iff {l : List ByteArray} {x : ByteArray} : inS l x = true ↔ x ∈ l := by
 unfold inS
 rw [List.any_eq_true]
 exact ⟨fun ⟨y, h, e⟩ => (of_decide_eq_true e) ▸ h, fun h => ⟨x, h, by simp⟩⟩
theorem inS_no {l : List ByteArray} {x : ByteArray} : inS l x = false ↔ x ∉ l := by
 rw [<- inS_iff]; simp
def firstBad : List (ByteArray × JV) -> List ByteArray -> Bool
 | [], _ => false
 | p :: m, seen => (!memC p || inS seen p.1) || firstBad m (p.1 :: seen)
def oneE (v : JV) : Int :=
 if v.k ≠ 6 then 1 else if firstBad v.m [] then 1 else match mOf v.m propN with
  | none => 1
  | some p => if (match mOf v.m collN with | some c => decide (c.s ≠ asciiN) | none => false) || !propOk p.s then 210 else 0
def oneC (v : JV) : CmpD := ⟨match mOf v.m propN with | some p => p.s | none => ⟨#[]⟩, match mOf v.m ascN with | some p => decide (p.n = 0) | none => false⟩
def listE : List JV -> Int
 | [] => 0
 | v :: l => if oneE v ≠ 0 then oneE v else listE l
def sortE (s : JV) : Int := if s.k = 1 then 0 else if s.k ≠ 5 then 1 else if 4 < s.l.length then 210 else listE s.l
def sortC (s : JV) : List CmpD := if s.k = 5 /\ sortE s = 0 then s.l.map oneC else []
theorem firstBad_iff : ∀ (m : List (ByteArray × JV)) (seen : List ByteArray), firstBad m seen = false ↔ (∀ p ∈ m, memC p = true) /\ (m.map (·.1)).Nodup /\ ∀ p ∈ m, p.1 ∉ seen
 | [], seen => by simp [firstBad]
 | p :: m, seen => by
   have ih := firstBad_iff m (p.1 :: seen)
   unfold firstBad
   rw [Bool.or_eq_false_iff, Bool.or_eq_false_iff, ih]
   simp only [Bool.not_eq_false', inS_no, List.mem_cons, List.map_cons, List.nodup_cons, List.mem_map, forall_eq_or_imp, not_or]
   constructor
   ·rintro ⟨⟨h1, h2⟩, h3, h4, h5⟩
    exact ⟨⟨h1, h3⟩, ⟨fun ⟨q, hq, e⟩ => (h5 q hq).1 e, h4⟩, h2, fun q hq => (h5 q hq).2⟩
   ·rintro ⟨⟨h1, h3⟩, ⟨h4, h5⟩, h2, h6⟩
    exact ⟨⟨h1, h2⟩, h3, h5, fun q hq => ⟨fun e => h4 ⟨q, hq, e⟩, h6 q hq⟩⟩
theorem mOf_snoc (m : List (ByteArray × JV)) (p : ByteArray × JV) (n : ByteArray) : mOf (m ++ [p]) n = (mOf m n).or (if p.1 = n then some p.2 else none) := by
 unfold mOf
 rw [List.find?_append]
 cases h : m.find? (fun p => decide (p.1 = n)) with
 | some x => simp
 | none =>
   by_cases hp : p.1 = n
   ·simp [hp]
   ·simp [hp]
theorem inS_cons (l : List ByteArray) (y x : ByteArray) : inS (y :: l) x = (decide (y = x) || inS l x) := rfl
theorem firstBad_snoc : ∀ (m : List (ByteArray × JV)) (p : ByteArray × JV) (seen : List ByteArray), firstBad (m ++ [p]) seen = (firstBad m seen || (!memC p || (inS seen p.1 || inS (m.map (·.1)) p.1)))
 | [], p, seen => by simp [firstBad, inS]
 | q :: m, p, seen => by
   rw [List.cons_append, firstBad, firstBad_snoc m p (q.1 :: seen), firstBad, Bool.or_assoc, List.map_cons, inS_cons, inS_cons]
   cases memC q <;> cases inS seen q.1 <;> cases firstBad m (q.1 :: seen) <;> cases memC p <;> cases inS seen p.1 <;> cases decide (q.1 = p.1) <;> cases inS (m.map (·.1)) p.1 <;> rfl
structure PSt (m : List (ByteArray × JV)) (j : Nat) (p : ByteArray) (d sup : Bool) : Prop where
 ok : firstBad (m.take j) [] = false
 pv : p = match mOf (m.take j) propN with | some x => x.s | none => ⟨#[]⟩
 dv : d = match mOf (m.take j) ascN with | some x => decide (x.n = 0) | none => false
 sv : sup = match mOf (m.take j) collN with | some x => decide (x.s = asciiN) | none => true
theorem PSt.start (m : List (ByteArray × JV)) : PSt m 0 ⟨#[]⟩ false true := ⟨rfl, rfl, rfl, rfl⟩
theorem mOf_not {m : List (ByteArray × JV)} {n : ByteArray} (h : n ∉ m.map (·.1)) : mOf m n = none := by
 unfold mOf
 rw [List.find?_eq_none.2 (fun x hx => by
  have : x.1 ≠ n := fun e => h (e ▸ List.mem_map_of_mem hx)
  simpa using this)]
 rfl
theorem take_snoc {α : Type} {m : List α} {j : Nat} {x : α} (hx : m[j]? = some x) : m.take (j + 1) = m.take j ++ [x] := by rw [List.take_add_one, hx]; rfl
theorem PSt.okS {m : List (ByteArray × JV)} {j : Nat} {p : ByteArray} {d sup : Bool} {x : ByteArray × JV} (h : PSt m j p d sup) (hx : m[j]? = some x) (hc : memC x = true) (hs : x.1 ∉ (m.take j).map (·.1)) : firstBad (m.take (j + 1)) [] = false := by
 rw [take_snoc hx, firstBad_snoc, h.ok, hc, inS_no.2 hs]
 rfl
theorem mOf_put {m : List (ByteArray × JV)} {x : ByteArray × JV} (hs : x.1 ∉ m.map (·.1)) : mOf (m ++ [x]) x.1 = some x.2 := by
 rw [mOf_snoc, mOf_not hs, if_pos rfl]; rfl
theorem mOf_same {m : List (ByteArray × JV)} {x : ByteArray × JV} {n : ByteArray} (hn : x.1 ≠ n) : mOf (m ++ [x]) n = mOf m n := by
 rw [mOf_snoc, if_neg hn]; cases mOf m n <;> rfl
theorem pa_ne : propN ≠ ascN := by decide
theorem pc_ne : propN ≠ collN := by decide
theorem ac_ne : ascN ≠ collN := by decide
theorem PSt.prop {m : List (ByteArray × JV)} {j : Nat} {p : ByteArray} {d sup : Bool} {x : ByteArray × JV} (h : PSt m j p d sup) (hx : m[j]? = some x) (hn : x.1 = propN) (hk : x.2.k = 4) (hs : x.1 ∉ (m.take j).map (·.1)) : PSt m (j + 1) x.2.s d sup := by
 refine ⟨h.okS hx (by unfold memC; rw [decide_eq_true hn, decide_eq_true hk]; rfl) hs, ?_, ?_, ?_⟩
 ·have := mOf_put hs
  rw [hn] at this
  rw [take_snoc hx, this]
 ·rw [take_snoc hx, mOf_same (by rw [hn]; exact pa_ne)]; exact h.dv
 ·rw [take_snoc hx, mOf_same (by rw [hn]; exact pc_ne)]; exact h.sv
theorem PSt.asc {m : List (ByteArray × JV)} {j : Nat} {p : ByteArray} {d sup : Bool} {x : ByteArray × JV} (h : PSt m j p d sup) (hx : m[j]? = some x) (hn : x.1 = ascN) (hk : x.2.k = 2) (hs : x.1 ∉ (m.take j).map (·.1)) : PSt m (j + 1) p (decide (x.2.n = 0)) sup := by
 refine ⟨h.okS hx (by unfold memC; rw [decide_eq_true hn, decide_eq_true hk]; simp) hs, ?_, ?_, ?_⟩
 ·rw [take_snoc hx, mOf_same (by rw [hn]; exact fun e => pa_ne e.symm)]; exact h.pv
 ·have := mOf_put hs
  rw [hn] at this
  rw [take_snoc hx, this]
 ·rw [take_snoc hx, mOf_same (by rw [hn]; exact ac_ne)]; exact h.sv
theorem PSt.coll {m : List (ByteArray × JV)} {j : Nat} {p : ByteArray} {d sup : Bool} {x : ByteArray × JV} (h : PSt m j p d sup) (hx : m[j]? = some x) (hn : x.1 = collN) (hk : x.2.k = 4) (hs : x.1 ∉ (m.take j).map (·.1)) : PSt m (j + 1) p d (decide (x.2.s = asciiN)) := by
 refine ⟨h.okS hx (by unfold memC; rw [decide_eq_true hn, decide_eq_true hk]; simp) hs, ?_, ?_, ?_⟩
 ·rw [take_snoc hx, mOf_same (by rw [hn]; exact fun e => pc_ne e.symm)]; exact h.pv
 ·rw [take_snoc hx, mOf_same (by rw [hn]; exact fun e => ac_ne e.symm)]; exact h.dv
 ·have := mOf_put hs
  rw [hn] at this
  rw [take_snoc hx, this]
theorem bad_whole {m : List (ByteArray × JV)} {j : Nat} {x : ByteArray × JV} (hx : m[j]? = some x) (hb : memC x = false \/ x.1 ∈ (m.take j).map (·.1)) : firstBad m [] = true := by
 cases h : firstBad m [] with
 | true => rfl
 | false =>
   obtain ⟨h1, h2, _⟩ := (firstBad_iff m []).1 h
   rcases hb with hb | hb
   ·rw [h1 x (List.mem_of_getElem? hx)] at hb; cases hb
   ·have h3 : ((m.take (j + 1)).map (·.1)).Nodup := (List.Sublist.map _ (List.take_sublist _ _)).nodup h2
    rw [take_snoc hx, List.map_append, List.nodup_append] at h3
    exact absurd rfl (h3.2.2 _ hb _ (by simp))
theorem memC_prop {x : ByteArray × JV} (h : x.1 = propN) : memC x = decide (x.2.k = 4) := by
 unfold memC
 rw [h]
 simp [pa_ne, pc_ne]
theorem memC_asc {x : ByteArray × JV} (h : x.1 = ascN) : memC x = decide (x.2.k = 2) := by
 have h1 : ¬ ascN = propN := fun e => pa_ne e.symm
 unfold memC
 rw [h]
 simp [h1, ac_ne]
theorem memC_coll {x : ByteArray × JV} (h : x.1 = collN) : memC x = decide (x.2.k = 4) := by
 have h1 : ¬ collN = propN := fun e => pc_ne e.symm
 have h2 : ¬ collN = ascN := fun e => ac_ne e.symm
 unfold memC
 rw [h]
 simp [h1, h2]
theorem memC_else {x : ByteArray × JV} (h1 : x.1 ≠ propN) (h2 : x.1 ≠ ascN) (h3 : x.1 ≠ collN) : memC x = false := by
 unfold memC
 rw [decide_eq_false h1, decide_eq_false h2, decide_eq_false h3]
 rfl
theorem oneE_kind {v : JV} (h : v.k ≠ 6) : oneE v = 1 := by unfold oneE; rw [if_pos h]
theorem oneE_bad {v : JV} (h : firstBad v.m [] = true) : oneE v = 1 := by
 unfold oneE
 split <;> simp [h]
theorem PSt.done {v : JV} {p : ByteArray} {d sup : Bool} (hk : v.k = 6) (h : PSt v.m v.m.length p d sup) : oneE v = (if inS (v.m.map (fun x => x.1)) propN then (if sup && propOk p then 0 else 210) else 1) /\ (inS (v.m.map (fun x => x.1)) propN = true -> oneC v = ⟨p, d⟩) := by
 obtain ⟨h1, h2, h3, h4⟩ := h
 rw [List.take_length] at h1 h2 h3 h4
 have hm : propN ∈ v.m.map (·.1) -> ∃ x, mOf v.m propN = some x := fun hp => by
  cases hc : mOf v.m propN with
  | some x => exact ⟨x, rfl⟩
  | none =>
    exfalso
    unfold mOf at hc
    rw [Option.map_eq_none_iff, List.find?_eq_none] at hc
    obtain ⟨y, hy, e⟩ := List.mem_map.1 hp
    exact hc y hy (by simpa using e)
 refine ⟨?_, fun hp => ?_⟩
 ·unfold oneE
  rw [if_neg (by simp [hk]), h1, if_neg (by decide)]
  cases hp : inS (v.m.map (fun x => x.1)) propN with
  | true =>
    obtain ⟨x, hx⟩ := hm (inS_iff.1 hp)
    rw [if_pos rfl, hx]
    rw [hx] at h2
    dsimp only at h2 ⊢
    rw [h2, h4]
    cases mOf v.m collN with
    | none => cases propOk x.s <;> rfl
    | some c =>
      by_cases hc : c.s = asciiN
      ·cases hpo : propOk x.s <;> simp [hc, hpo]
      ·cases hpo : propOk x.s <;> simp [hc, hpo]
  | false => rw [if_neg (by decide), mOf_not (inS_no.1 hp)]
 ·obtain ⟨x, hx⟩ := hm (inS_iff.1 hp)
  unfold oneC
  rw [hx] at h2 ⊢
  dsimp only at h2 ⊢
  rw [h2, h3]
  try rfl
end
section
open Go Go.RowKit Go.OpenShut
def CmpAt (W : World) (g : Nat) (p : ByteArray) (d : Bool) : Prop := W.heap[g]? = some (.cells #[.string p, .bool d] 119 (0, 0))
theorem CmpAt.c0 {W : World} {g : Nat} {p : ByteArray} {d : Bool} (h : CmpAt W g p d) : W.cell? ⟨g, 0, none⟩ = some (.string p) := (cell_of_row _ g 0 _ _ _ h).trans rfl
theorem CmpAt.c1 {W : World} {g : Nat} {p : ByteArray} {d : Bool} (h : CmpAt W g p d) : W.cell? ⟨g, 1, none⟩ = some (.bool d) := (cell_of_row _ g 1 _ _ _ h).trans rfl
theorem CmpAt.fz {W : World} {g : Nat} {p : ByteArray} {d : Bool} (h : CmpAt W g p d) (j : Nat) : W.frozen? ⟨g, j, none⟩ = false := by unfold CmpAt at h; simp [World.frozen?, h]
theorem CmpAt.lt {W : World} {g : Nat} {p : ByteArray} {d : Bool} (h : CmpAt W g p d) : g < W.heap.size := (Array.getElem?_eq_some_iff.1 h).1
theorem CmpAt.under {W W' : World} {g B : Nat} {p : ByteArray} {d : Bool} (h : CmpAt W g p d) (hb : Below B W W') (hg : g < B) : CmpAt W' g p d := (hb.block g hg).trans h
theorem CmpAt.keep {W W' : World} {g : Nat} {p : ByteArray} {d : Bool} (h : CmpAt W g p d) (hb : W'.heap[g]? = W.heap[g]?) : CmpAt W' g p d := hb.trans h
theorem CmpAt.set0 {W : World} {g : Nat} {p : ByteArray} {d : Bool} (h : CmpAt W g p d) (s : ByteArray) : CmpAt (W.setCell ⟨g, 0, none⟩ (.string s)) g s d := heap_setCell_same W g 0 _ _ _ h
theorem CmpAt.set1 {W : World} {g : Nat} {p : ByteArray} {d : Bool} (h : CmpAt W g p d) (b : Bool) : CmpAt (W.setCell ⟨g, 1, none⟩ (.bool b)) g p b := heap_setCell_same W g 1 _ _ _ h
theorem CmpAt.other {W : World} {g g' : Nat} {p : ByteArray} {d : Bool} (h : CmpAt W g p d) (hne : g ≠ g') (o : Nat) (v : Value) : CmpAt (W.setCell ⟨g', o, none⟩ v) g p d := (heap_setCell_other W ⟨g', o, none⟩ g v hne).trans h
structure RkS (w W : World) (g2 gc gm : Nat) (m : List (ByteArray × JV)) (j : Nat) (p : ByteArray) (d : Bool) : Prop where
 mp : ∃ l : List ByteArray, (∀ x, x ∈ l ↔ x ∈ (m.take j).map (·.1)) /\ MapF W Tryz.prog 9 gm j (knF l)
 cp : CmpAt W gc p d
 rs : CmpAt W g2 ⟨#[]⟩ false
 below : Below w.heap.size w W
theorem RkS.grown {w W W' : World} {g2 gc gm : Nat} {m : List (ByteArray × JV)} {j : Nat} {p : ByteArray} {d : Bool} (h : RkS w W g2 gc gm m j p d) (hb : Below W.heap.size W W') : RkS w W' g2 gc gm m j p d := by
 obtain ⟨l, h1, h2⟩ := h.mp
 exact ⟨⟨l, h1, h2.below hb h2.lt⟩, h.cp.under hb h.cp.lt, h.rs.under hb h.rs.lt, h.below.trans (hb.mono h.below.size)⟩
theorem RkS.set0 {w W : World} {g2 gc gm : Nat} {m : List (ByteArray × JV)} {j : Nat} {p : ByteArray} {d : Bool} (h : RkS w W g2 gc gm m j p d) (n2c : g2 ≠ gc) (ncm : gc ≠ gm) (hw : w.heap.size <= gc) (s : ByteArray) : RkS w (W.setCell ⟨gc, 0, none⟩ (.string s)) g2 gc gm m j s d := by
 obtain ⟨l, h1, h2⟩ := h.mp
 exact ⟨⟨l, h1, h2.of_block (heap_setCell_other W ⟨gc, 0, none⟩ gm _ (fun e => ncm e.symm))⟩, h.cp.set0 s, h.rs.other n2c 0 _, Below.setCell h.below (p := ⟨gc, 0, none⟩) hw _⟩
theorem RkS.set1 {w W : World} {g2 gc gm : Nat} {m : List (ByteArray × JV)} {j : Nat} {p : ByteArray} {d : Bool} (h : RkS w W g2 gc gm m j p d) (n2c : g2 ≠ gc) (ncm : gc ≠ gm) (hw : w.heap.size <= gc) (b : Bool) : RkS w (W.setCell ⟨gc, 1, none⟩ (.bool b)) g2 gc gm m j p b := by
 obtain ⟨l, h1, h2⟩ := h.mp
 exact ⟨⟨l, h1, h2.of_block (heap_setCell_other W ⟨gc, 1, none⟩ gm _ (fun e => ncm e.symm))⟩, h.cp.set1 b, h.rs.other n2c 1 _, Below.setCell h.below (p := ⟨gc, 1, none⟩) hw _⟩
theorem RkS.known {w W W' : World} {g2 gc gm : Nat} {m : List (ByteArray × JV)} {j : Nat} {p : ByteArray} {d : Bool} (h : RkS w W g2 gc gm m j p d) (n2m : g2 ≠ gm) (ncm : gc ≠ gm) (hw : w.heap.size <= gm) {kl : List ByteArray} {x : ByteArray × JV} (hkl : ∀ y, y ∈ kl ↔ y ∈ (m.take j).map (·.1)) (hx : m[j]? = some x) (hM : MapF W' Tryz.prog 9 gm (j + 1) (fun u => if u = x.1.data.toList then some (.bool true) else knF kl u)) (hG : W.grownBy W' (some gm)) : RkS w W' g2 gc gm m (j + 1) p d := by
 refine ⟨⟨x.1 :: kl, fun y => ?_, by rw [knF_cons]; exact hM⟩, h.cp.keep (hG.block gc h.cp.lt (fun e => ncm (Option.some.inj e))), h.rs.keep (hG.block g2 h.rs.lt (fun e => n2m (Option.some.inj e))), h.below.grown hG h.below.size (fun k e => by cases e; exact hw)⟩
 rw [take_snoc hx, List.map_append, List.mem_append, List.mem_cons, hkl]
 simp
 exact Or.comm
theorem TreeOf.n_eq {w : World} {B : Nat} {t : JV} {r : RV} (h : TreeOf w B t r) : r.n = t.n := by cases h; rfl
theorem knF_yes {l : List ByteArray} {n : ByteArray} (h : n ∈ l) : knF l n.data.toList = some (.bool true) := by
 unfold knF
 rw [if_pos (List.mem_map_of_mem h)]
def RkRet (w : World) (t : JV) (e : Ending) (w' : World) : Prop := ∃ p d, e = .returned (.tuple #[.agg #[.string p, .bool d], .int .i64 (oneE t)]) /\ Hid (oneE t = 0 -> oneC t = ⟨p, d⟩) /\ Below w.heap.size w w'
theorem eq_lit {a : ByteArray} {l : List UInt8} {b : Bool} (h : (a.toList == l) = b) : decide (a = ⟨l.toArray⟩) = b := by
 rw [<- h, ByteArray.toList_eq]
 by_cases e : a = ⟨l.toArray⟩
 ·rw [decide_eq_true e, e]; simp
 ·rw [decide_eq_false e]
  have h2 : a.data.toList ≠ l := fun e2 => e (ByteArray.ext (by rw [<- e2]))
  simpa using h2
theorem rkread_any (t : JV) (r : RV) (w : World) (B : Nat) (hBw : B <= w.heap.size) (ht : TreeOf w B t r) (ot : t.Ok) :
 Calls Tryz.prog 82 #[r.val] w (RkRet w t) := by
 obtain ⟨W0, hW0⟩ : ∃ W0, ((w.alloc r.obj).alloc (.cells #[.string ⟨#[]⟩, .bool false] 119)).alloc (.cells #[.string ⟨#[]⟩, .bool false] 119) = W0 := ⟨_, rfl⟩
 have hA0 : VAt W0 w.heap.size r := by rw [<- hW0]; exact heap_alloc_lt (by simp; omega) (heap_alloc_lt (by simp) (heap_alloc_at rfl))
 have hR0 : CmpAt W0 (w.heap.size + 1) ⟨#[]⟩ false := by rw [<- hW0]; exact heap_alloc_lt (by simp) (heap_alloc_at (by simp))
 have hC0 : CmpAt W0 (w.heap.size + 2) ⟨#[]⟩ false := by rw [<- hW0]; exact heap_alloc_at (by simp)
 have hB0 : Below w.heap.size w W0 := by rw [<- hW0]; exact (below2 w _ _).alloc (by simp; omega) _
 have hz0 : W0.heap.size = w.heap.size + 3 := by rw [<- hW0]; simp
 have hM0 : MapF (W0.alloc (.map #[] 0)) Tryz.prog 9 (w.heap.size + 3) 0 (knF []) := by rw [<- hz0]; exact MapF.made W0 _ _
 have hS0 : RkS w (W0.alloc (.map #[] 0)) (w.heap.size + 1) (w.heap.size + 2) (w.heap.size + 3) t.m 0 ⟨#[]⟩ false := ⟨⟨[], fun x => by simp, hM0⟩, heap_alloc_lt (by omega) hC0, heap_alloc_lt (by omega) hR0, hB0.alloc (by omega) _⟩
 obtain ⟨g2, hg2e⟩ : ∃ g, w.heap.size + 1 = g := ⟨_, rfl⟩
 obtain ⟨gc, hgce⟩ : ∃ g, g2 + 1 = g := ⟨_, rfl⟩
 obtain ⟨gm, hgme⟩ : ∃ g, gc + 1 = g := ⟨_, rfl⟩
 have e2 : w.heap.size + 2 = gc := by omega
 have e3 : w.heap.size + 3 = gm := by omega
 rw [hg2e, e2, e3] at hS0
 rw [hg2e] at hR0
 rw [e2] at hC0
 rw [e3] at hz0
 have hwg : w.heap.size <= g2 := by omega
 have hwc : w.heap.size <= gc := by omega
 have hwm : w.heap.size <= gm := by omega
 have n2c : g2 ≠ gc := by omega
 have n2m : g2 ≠ gm := by omega
 have ncm : gc ≠ gm := by omega
 have HT := Lib.hid ht
 have HO := Lib.hid ot
 have HW := Lib.hid hW0
 have HB0 := Lib.hid hB0
 have HS0 := Lib.hid hS0
 have hkk := ht.kk.1
 obtain ⟨k, n, s, pl, nl, cl, pm, nm, cm⟩ := r
 dsimp only [RV.val, RV.obj] at *
 have r0 := hR0.c0
 have r1 := hR0.c1
 have y0 := hR0.fz 0
 have y1 := hR0.fz 1
 have cc0 := hC0.c0
 have cc1 := hC0.c1
 have hg1 : w.heap.size < W0.heap.size := by omega
 have HR0 := Lib.hid hR0
 clear hW0 hB0 hS0 hM0 ht ot hR0 hC0 e2 e3
 by_cases hk6 : k = 6
 case neg =>
  have q1 : (k == 6) = false := by simpa using hk6
  have q2 : (k != 6) = true := by simpa using hk6
  have HE : Hid (oneE t = 1) := oneE_kind (by rw [<- hkk]; exact hk6)
  clear HS0 hz0 hkk hk6
  go_enter Tryz.func82, Tryz.ntmps82
  go_upto_region 2 with fail
  rw [HW.out]
  clear HW
  obtain ⟨a0, a1, a2, a3, a4⟩ := hA0.cells5
  go_wp2_with fail
  refine bodyPost_ret (v := .tuple #[.agg #[.string ⟨#[]⟩, .bool false], .int .i64 1]) (by simp [results, Tryz.results82, go_sem, r0, r1, y0, y1]) rfl ⟨⟨#[]⟩, false, by rw [HE.out], Lib.hid (fun h => by rw [HE.out] at h; cases h), ?_⟩
  exact (Below.setCell (Below.setCell HB0.out (p := ⟨g2, 0, none⟩) hwg _) (p := ⟨g2, 1, none⟩) hwg _)
 case pos =>
  subst hk6
  have htk : t.k = 6 := hkk.symm
  have HTK := Lib.hid htk
  clear hkk htk
  go_enter Tryz.func82, Tryz.ntmps82
  go_upto_region 2 with fail
  rw [HW.out]
  clear HW
  obtain ⟨a0, a1, a2, a3, a4⟩ := hA0.cells5
  have hmm := @run_makeMap Tryz.prog
  go_upto_region 6 with fail
  clear hmm
  obtain ⟨W1, hW1⟩ : ∃ W, W0.alloc (.map #[] 0) = W := ⟨_, rfl⟩
  rw [hW1] at HS0
  try rw [hW1]
  try rw [hz0]
  have hA1 : VAt W1 w.heap.size ⟨6, n, s, pl, nl, cl, pm, nm, cm⟩ := by rw [<- hW1]; exact heap_alloc_lt hg1 hA0
  clear hW1 hA0 a0 a1 a2 a3 a4 r0 r1 y0 y1 cc0 cc1
  have a4 := hA1.cell 4 rfl
  dsimp only at a4
  have hHT := HT.out
  generalize hr : (⟨6, n, s, pl, nl, cl, pm, nm, cm⟩ : RV) = r at hHT
  cases hHT with
  | @mk _ l m rs rms hl el hcl hm em hcn hcm =>
  subst hr
  dsimp only [JV.m, JV.k] at *
  have HM := Lib.hid hm
  have hnm := rd_nlen hm
  have HCN := Lib.hid hcn
  have HKT : Hid (∀ (i : Nat) (p : ByteArray × JV) (q : RM), m[i]? = some p -> rms[i]? = some q -> q.v.k = p.2.k /\ q.v.s = p.2.s /\ q.v.n = p.2.n) := fun i p q h1 h2 => ⟨(hcm i p q h1 h2).kk.1, (hcm i p q h1 h2).kk.2, (hcm i p q h1 h2).n_eq⟩
  have HNS : Hid (∀ (i : Nat) (p : ByteArray × JV), m[i]? = some p -> p.1.size <= maxLen) := fun i p h => by
   have h9 := HO.out
   cases h9 with
   | mk _ _ _ _ _ _ cs _ => exact Nat.le_trans (cs i p h) (by unfold maxLen; omega)
  have hml : m.length = nm := by omega
  have HML := Lib.hid hml
  have hnmb : nm <= 1466015503658 := by
   have h9 := HO.out
   cases h9 with
   | mk _ _ _ _ hm9 _ _ _ => omega
  have nb : (nm : Int) <= 1466015503658 := by omega
  have HTJ : Hid (∀ v, oneE (JV.mk 6 n s l m) = v -> oneE (JV.mk 6 n s l m) = v) := fun _ h => h
  obtain ⟨E, hE⟩ : ∃ E, oneE (JV.mk 6 n s l m) = E := ⟨_, rfl⟩
  have HE := Lib.hid hE
  obtain ⟨C, hC⟩ : ∃ C, oneC (JV.mk 6 n s l m) = C := ⟨_, rfl⟩
  have HC := Lib.hid hC
  have HRT : Hid (∀ e w', (∃ p d, e = .returned (.tuple #[.agg #[.string p, .bool d], .int .i64 E]) /\ Hid (E = 0 -> C = ⟨p, d⟩) /\ Below w.heap.size w w') -> RkRet w (JV.mk 6 n s l m) e w') := fun e w' h => by
   unfold RkRet
   rw [hE, hC]
   exact h
  clear hE hC hml hnm hm el em hl hcl hcn hcm HTK HTJ HT
  have HTM : Hid ((JV.mk 6 n s l m).k = 6 /\ (JV.mk 6 n s l m).m = m) := ⟨rfl, rfl⟩
  go_wp2_with fail
  clear hA1 a4
  go_loopw [6, 19] (fun s6 i wr => ∃ (j : Nat) (p : ByteArray) (d sup : Bool), j <= nm /\ s6 = .bool sup /\ i = .int .i64 (j : Int) /\ Hid (RkS w wr g2 gc gm m j p d /\ PSt m j p d sup)) (fun _ i _ => nm - (intOf i).toNat)
  case atStart => exact ⟨0, ⟨#[]⟩, false, true, by omega, rfl, rfl, HS0.out, PSt.start m⟩
  case round =>
   obtain ⟨j, p, d, sup, hj, rfl, rfl, hS⟩ := hrel
   have hj0 : (0 : Int) <= (j : Int) := Int.natCast_nonneg _
   by_cases hlt : j < nm
   ·have hj1 : (j : Int) < (nm : Int) := by omega
    obtain ⟨x, hx⟩ : ∃ x, m[j]? = some x := ⟨_, List.getElem?_eq_getElem (by have := HML.out; omega)⟩
    have hmr := HM.out.below (hS.out.1.below.mono hBw) (Nat.le_refl _)
    obtain ⟨q, hq⟩ : ∃ q, rms[j]? = some q := ⟨_, List.getElem?_eq_getElem (by have := rd_nlen hmr; omega)⟩
    obtain ⟨b1, o1, rfl, hb1, hc1⟩ := rd_at' hmr hq
    have hname := HCN.out j x q hx hq
    obtain ⟨hk1, hs1, hn1⟩ := HKT.out j x q hx hq
    have hns := HNS.out j x hx
    obtain ⟨nq, ⟨vk, vn, vs, vpl, vnl, vcl, vpm, vnm, vcm⟩⟩ := q
    dsimp only at hname hk1 hs1 hn1
    have f0 := hc1 0 _ rfl
    have f1 := hc1 1 _ rfl
    have f2 := hc1 2 _ rfl
    have f3 := hc1 3 _ rfl
    have f4 := hc1 4 _ rfl
    have f5 := hc1 5 _ rfl
    rw [Nat.add_zero] at f0
    dsimp only at f0 f1 f2 f3 f4 f5
    rw [hname] at hns
    have HX := Lib.hid hx
    have HNM := Lib.hid hname
    have HVV := Lib.hid (And.intro hk1 (And.intro hs1 hn1))
    have HNZ := Lib.hid hns
    have HSA := Lib.hid (hS.out.1.grown ((Below.refl wr.heap.size wr).alloc (Nat.le_refl _) (.cells #[.string nq, .int .i64 vk, .int .i64 vn, .string vs, .slice vpl vnl vcl, .slice vpm vnm vcm] 32)))
    have HPS := Lib.hid hS.out.2
    have hmt : (wr.alloc (.cells #[.string nq, .int .i64 vk, .int .i64 vn, .string vs, .slice vpl vnl vcl, .slice vpm vnm vcm] 32)).heap[wr.heap.size]? = some (.cells #[.string nq, .int .i64 vk, .int .i64 vn, .string vs, .slice vpl vnl vcl, .slice vpm vnm vcm] 32) := heap_alloc_at rfl
    have hgmr : gm < wr.heap.size := by obtain ⟨lq, _, hlq⟩ := hS.out.1.mp; exact hlq.lt
    have hgcr : gc < wr.heap.size := hS.out.1.cp.lt
    clear hname hk1 hs1 hn1
    go_upto_region 9 with fail
    obtain ⟨g8, hg8⟩ : ∃ g, wr.heap.size = g := ⟨_, rfl⟩
    obtain ⟨W3, hW3⟩ : ∃ W, wr.alloc (.cells #[.string nq, .int .i64 vk, .int .i64 vn, .string vs, .slice vpl vnl vcl, .slice vpm vnm vcm] 32) = W := ⟨_, rfl⟩
    rw [hW3, hg8] at hmt
    rw [hW3] at HSA
    rw [hg8] at hgmr hgcr
    try rw [hW3]
    try rw [hg8]
    clear hW3 hg8 hmr hq hc1 hns hx f0 f1 f2 f3 f4 f5 hS hb1
    have a0 : W3.cell? ⟨g8, 0, none⟩ = some (.string nq) := (cell_of_row _ g8 0 _ _ _ hmt).trans rfl
    obtain ⟨kl, hkl, hMF⟩ := HSA.out.mp
    have HMF := Lib.hid hMF
    have hmlt := hMF.lt
    obtain ⟨sn, hsn⟩ : ∃ b, inS kl nq = b := ⟨_, rfl⟩
    have hlk : (knF kl nq.data.toList).getD (.bool false) = .bool sn := by
     cases sn with
     | true => rw [knF_yes (inS_iff.1 hsn)]; rfl
     | false => rw [knF_not (inS_no.1 hsn)]; rfl
    have HLK := Lib.hid hlk
    have HSN : Hid (inS ((m.take j).map (fun x => x.1)) nq = sn) := by
     unfold Hid
     cases sn with
     | true => exact inS_iff.2 ((hkl _).1 (inS_iff.1 hsn))
     | false => exact inS_no.2 (fun h => inS_no.1 hsn ((hkl _).2 h))
    have HKL := Lib.hid hkl
    have hjb : j <= 1466015503658 := by omega
    clear hlk hsn hkl hMF
    go_upto_region 10 with (at_lookup; refine wpList_look_F _ rfl _ _ _ rfl 9 4 Tryz.underlying9 Tryz.underlying152 (Tryz.zeroValue4 _) _ _ (knF kl) rfl HMF.out nq rfl HNZ.out (v := .bool sn) HLK.out ?_; go_frame)
    go_upto_region 11 with (at_mapUpdate; refine wpList_store_F _ rfl _ _ _ _ rfl 9 4 Tryz.underlying9 Tryz.underlying152 _ _ _ rfl HMF.out (by unfold maxLen; omega) nq rfl HNZ.out (.bool true) rfl ?_; intro w4 hM4 hG4; go_frame)
    have HS4 := Lib.hid (HSA.out.known n2m ncm hwm HKL.out HX.out (by rw [HNM.out]; exact hM4) hG4)
    have hmt4 : w4.heap[g8]? = some (.cells #[.string nq, .int .i64 vk, .int .i64 vn, .string vs, .slice vpl vnl vcl, .slice vpm vnm vcm] 32) := (hG4.block g8 (Array.getElem?_eq_some_iff.1 hmt).1 (fun e => by have := Option.some.inj e; omega)).trans hmt
    have a0' : w4.cell? ⟨g8, 0, none⟩ = some (.string nq) := (cell_of_row _ g8 0 _ _ _ hmt4).trans rfl
    have a1' : w4.cell? ⟨g8, 1, none⟩ = some (.int .i64 vk) := (cell_of_row _ g8 1 _ _ _ hmt4).trans rfl
    have a2' : w4.cell? ⟨g8, 2, none⟩ = some (.int .i64 vn) := (cell_of_row _ g8 2 _ _ _ hmt4).trans rfl
    have a3' : w4.cell? ⟨g8, 3, none⟩ = some (.string vs) := (cell_of_row _ g8 3 _ _ _ hmt4).trans rfl
    have c0 := HS4.out.cp.c0
    have c1 := HS4.out.cp.c1
    have x0 := HS4.out.cp.fz 0
    have x1 := HS4.out.cp.fz 1
    have r0 := HS4.out.rs.c0
    have r1 := HS4.out.rs.c1
    have y0 := HS4.out.rs.fz 0
    have y1 := HS4.out.rs.fz 1
    have HB4 := Lib.hid HS4.out.below
    clear hM4 hG4 hmt hmt4 a0 HSA hmlt
    obtain ⟨e1, he1⟩ : ∃ b, (nq.toList == [112, 114, 111, 112, 101, 114, 116, 121]) = b := ⟨_, rfl⟩
    obtain ⟨e2, he2⟩ : ∃ b, (nq.toList == [105, 115, 65, 115, 99, 101, 110, 100, 105, 110, 103]) = b := ⟨_, rfl⟩
    obtain ⟨e3, he3⟩ : ∃ b, (nq.toList == [99, 111, 108, 108, 97, 116, 105, 111, 110]) = b := ⟨_, rfl⟩
    obtain ⟨s1, hs1⟩ : ∃ b, (vs.toList == [105, 59, 97, 115, 99, 105, 105, 45, 99, 97, 115, 101, 109, 97, 112]) = b := ⟨_, rfl⟩
    obtain ⟨f4, hf4⟩ : ∃ b, (vk == 4) = b := ⟨_, rfl⟩
    obtain ⟨f2, hf2⟩ : ∃ b, (vk == 2) = b := ⟨_, rfl⟩
    obtain ⟨z, hz⟩ : ∃ b, (vn == 0) = b := ⟨_, rfl⟩
    have HE1' : Hid (decide (x.1 = propN) = e1) := by rw [HNM.out]; exact eq_lit he1
    have HE2' : Hid (decide (x.1 = ascN) = e2) := by rw [HNM.out]; exact eq_lit he2
    have HE3' : Hid (decide (x.1 = collN) = e3) := by rw [HNM.out]; exact eq_lit he3
    have HS1' : Hid (decide (x.2.s = asciiN) = s1) := by rw [<- HVV.out.2.1]; exact eq_lit hs1
    have HF4 : Hid (decide (x.2.k = 4) = f4) := by rw [<- HVV.out.1, <- hf4]; unfold Hid; by_cases h : vk = 4 <;> simp [h]
    have HF2 : Hid (decide (x.2.k = 2) = f2) := by rw [<- HVV.out.1, <- hf2]; unfold Hid; by_cases h : vk = 2 <;> simp [h]
    have HZ' : Hid (decide (x.2.n = 0) = z) := by rw [<- HVV.out.2.2, <- hz]; unfold Hid; by_cases h : vn = 0 <;> simp [h]
    have HSE : Hid (sn = false -> x.1 ∉ (m.take j).map (·.1)) := fun h => by rw [HNM.out]; exact inS_no.1 (HSN.out.trans h)
    have HSY : Hid (sn = true -> x.1 ∈ (m.take j).map (·.1)) := fun h => by rw [HNM.out]; exact inS_iff.1 (HSN.out.trans h)
    have HVS : Hid (vs = x.2.s) := HVV.out.2.1
    cases e1 with
    | true =>
      have HN1 : Hid (x.1 = propN) := Lib.hid (of_decide_eq_true HE1'.out)
      clear he2 he3
      cases sn with
      | true =>
        have HE1 : Hid (E = 1) := HE.out.symm.trans (oneE_bad (by rw [HTM.out.2]; exact bad_whole HX.out (.inr (HSY.out rfl))))
        clear HMF HLK HKL HPS
        go_wp2_with fail
        refine bodyPost_ret (v := .tuple #[.agg #[.string vs, .bool d], .int .i64 1]) (by simp [results, Tryz.results82, go_sem, r0, r1, y0, y1, c0, c1, x0, x1, n2c, ncm, n2m]) rfl (HRT.out _ _ ⟨vs, d, by rw [HE1.out], Lib.hid (fun h => by rw [HE1.out] at h; cases h), ?_⟩)
        exact Below.setCell (Below.setCell (Below.setCell HB4.out (p := ⟨gc, 0, none⟩) hwc _) (p := ⟨g2, 0, none⟩) hwg _) (p := ⟨g2, 1, none⟩) hwg _
      | false =>
        cases f4 with
        | true =>
          have HP2 : Hid (PSt m (j + 1) vs d sup) := (by rw [HVS.out]; exact HPS.out.prop HX.out HN1.out (of_decide_eq_true HF4.out) (HSE.out rfl))
          have HS5 := Lib.hid (HS4.out.set0 n2c ncm hwc vs)
          clear HMF HLK HKL HPS
          go_wp2_with fail
          go_roundw
          case rel => exact ⟨j + 1, _, _, _, by omega, rfl, by go_num, HS5.out, HP2.out⟩
          case measure => simp [intOf]; omega
        | false =>
          have HE1 : Hid (E = 1) := HE.out.symm.trans (oneE_bad (by rw [HTM.out.2]; exact bad_whole HX.out (.inl ((memC_prop HN1.out).trans HF4.out))))
          clear HMF HLK HKL HPS
          go_wp2_with fail
          refine bodyPost_ret (v := .tuple #[.agg #[.string vs, .bool d], .int .i64 1]) (by simp [results, Tryz.results82, go_sem, r0, r1, y0, y1, c0, c1, x0, x1, n2c, ncm, n2m]) rfl (HRT.out _ _ ⟨vs, d, by rw [HE1.out], Lib.hid (fun h => by rw [HE1.out] at h; cases h), ?_⟩)
          exact Below.setCell (Below.setCell (Below.setCell HB4.out (p := ⟨gc, 0, none⟩) hwc _) (p := ⟨g2, 0, none⟩) hwg _) (p := ⟨g2, 1, none⟩) hwg _
    | false =>
      have HN1 : Hid (x.1 ≠ propN) := of_decide_eq_false HE1'.out
      cases e2 with
      | true =>
        have HN2 : Hid (x.1 = ascN) := Lib.hid (of_decide_eq_true HE2'.out)
        clear he3
        cases sn with
        | true =>
          have HE1 : Hid (E = 1) := HE.out.symm.trans (oneE_bad (by rw [HTM.out.2]; exact bad_whole HX.out (.inr (HSY.out rfl))))
          clear HMF HLK HKL HPS
          go_wp2_with fail
          refine bodyPost_ret (v := .tuple #[.agg #[.string p, .bool z], .int .i64 1]) (by simp [results, Tryz.results82, go_sem, r0, r1, y0, y1, c0, c1, x0, x1, n2c, ncm, n2m]) rfl (HRT.out _ _ ⟨p, z, by rw [HE1.out], Lib.hid (fun h => by rw [HE1.out] at h; cases h), ?_⟩)
          exact Below.setCell (Below.setCell (Below.setCell HB4.out (p := ⟨gc, 1, none⟩) hwc _) (p := ⟨g2, 0, none⟩) hwg _) (p := ⟨g2, 1, none⟩) hwg _
        | false =>
          cases f2 with
          | true =>
            have HP2 : Hid (PSt m (j + 1) p z sup) := (by rw [<- HZ'.out]; exact HPS.out.asc HX.out HN2.out (of_decide_eq_true HF2.out) (HSE.out rfl))
            have HS5 := Lib.hid (HS4.out.set1 n2c ncm hwc z)
            clear HMF HLK HKL HPS
            go_wp2_with fail
            go_roundw
            case rel => exact ⟨j + 1, _, _, _, by omega, rfl, by go_num, HS5.out, HP2.out⟩
            case measure => simp [intOf]; omega
          | false =>
            have HE1 : Hid (E = 1) := HE.out.symm.trans (oneE_bad (by rw [HTM.out.2]; exact bad_whole HX.out (.inl ((memC_asc HN2.out).trans HF2.out))))
            clear HMF HLK HKL HPS
            go_wp2_with fail
            refine bodyPost_ret (v := .tuple #[.agg #[.string p, .bool z], .int .i64 1]) (by simp [results, Tryz.results82, go_sem, r0, r1, y0, y1, c0, c1, x0, x1, n2c, ncm, n2m]) rfl (HRT.out _ _ ⟨p, z, by rw [HE1.out], Lib.hid (fun h => by rw [HE1.out] at h; cases h), ?_⟩)
            exact Below.setCell (Below.setCell (Below.setCell HB4.out (p := ⟨gc, 1, none⟩) hwc _) (p := ⟨g2, 0, none⟩) hwg _) (p := ⟨g2, 1, none⟩) hwg _
      | false =>
        have HN2 : Hid (x.1 ≠ ascN) := of_decide_eq_false HE2'.out
        cases e3 with
        | true =>
          have HN3 : Hid (x.1 = collN) := Lib.hid (of_decide_eq_true HE3'.out)
          cases sn with
          | true =>
            have HE1 : Hid (E = 1) := HE.out.symm.trans (oneE_bad (by rw [HTM.out.2]; exact bad_whole HX.out (.inr (HSY.out rfl))))
            clear HMF HLK HKL HPS
            go_wp2_with fail
            refine bodyPost_ret (v := .tuple #[.agg #[.string p, .bool d], .int .i64 1]) (by simp [results, Tryz.results82, go_sem, r0, r1, y0, y1, c0, c1, x0, x1, n2c, ncm, n2m]) rfl (HRT.out _ _ ⟨p, d, by rw [HE1.out], Lib.hid (fun h => by rw [HE1.out] at h; cases h), ?_⟩)
            exact Below.setCell (Below.setCell HB4.out (p := ⟨g2, 0, none⟩) hwg _) (p := ⟨g2, 1, none⟩) hwg _
          | false =>
            cases f4 with
            | true =>
              have HP2 : Hid (PSt m (j + 1) p d s1) := (by rw [<- HS1'.out]; exact HPS.out.coll HX.out HN3.out (of_decide_eq_true HF4.out) (HSE.out rfl))
              have HS5 := Lib.hid (HS4.out)
              clear HMF HLK HKL HPS
              go_wp2_with fail
              go_roundw
              case rel => exact ⟨j + 1, _, _, _, by omega, rfl, by go_num, HS5.out, HP2.out⟩
              case measure => simp [intOf]; omega
            | false =>
              have HE1 : Hid (E = 1) := HE.out.symm.trans (oneE_bad (by rw [HTM.out.2]; exact bad_whole HX.out (.inl ((memC_coll HN3.out).trans HF4.out))))
              clear HMF HLK HKL HPS
              go_wp2_with fail
              refine bodyPost_ret (v := .tuple #[.agg #[.string p, .bool d], .int .i64 1]) (by simp [results, Tryz.results82, go_sem, r0, r1, y0, y1, c0, c1, x0, x1, n2c, ncm, n2m]) rfl (HRT.out _ _ ⟨p, d, by rw [HE1.out], Lib.hid (fun h => by rw [HE1.out] at h; cases h), ?_⟩)
              exact Below.setCell (Below.setCell HB4.out (p := ⟨g2, 0, none⟩) hwg _) (p := ⟨g2, 1, none⟩) hwg _
        | false =>
          have HN3 : Hid (x.1 ≠ collN) := of_decide_eq_false HE3'.out
          have HE1 : Hid (E = 1) := HE.out.symm.trans (oneE_bad (by rw [HTM.out.2]; exact bad_whole HX.out (.inl (memC_else HN1.out HN2.out HN3.out))))
          clear HMF HLK HKL HPS
          go_wp2_with fail
          refine bodyPost_ret (v := .tuple #[.agg #[.string p, .bool d], .int .i64 1]) (by simp [results, Tryz.results82, go_sem, r0, r1, y0, y1, c0, c1, x0, x1, n2c, ncm, n2m]) rfl (HRT.out _ _ ⟨p, d, by rw [HE1.out], Lib.hid (fun h => by rw [HE1.out] at h; cases h), ?_⟩)
          exact Below.setCell (Below.setCell HB4.out (p := ⟨g2, 0, none⟩) hwg _) (p := ⟨g2, 1, none⟩) hwg _
   ·obtain rfl : j = nm := by omega
    have HPS := Lib.hid hS.out.2
    have HS4 := Lib.hid hS.out.1
    obtain ⟨kl, hkl, hMF⟩ := hS.out.1.mp
    have HMF := Lib.hid hMF
    have HTK : Hid (m.take j = m) := List.take_of_length_le (by have := HML.out; omega)
    obtain ⟨sn, hsn⟩ : ∃ b, inS kl propN = b := ⟨_, rfl⟩
    have hlk : (knF kl propN.data.toList).getD (.bool false) = .bool sn := by
     cases sn with
     | true => rw [knF_yes (inS_iff.1 hsn)]; rfl
     | false => rw [knF_not (inS_no.1 hsn)]; rfl
    have HLK := Lib.hid hlk
    have HSN : Hid (inS (m.map (fun x => x.1)) propN = sn) := by
     have h1 := hkl propN
     rw [HTK.out] at h1
     unfold Hid
     cases sn with
     | true => exact inS_iff.2 (h1.1 (inS_iff.1 hsn))
     | false => exact inS_no.2 (fun h => inS_no.1 hsn (h1.2 h))
    have HDN : Hid (E = (if sn then (if sup && propOk p then 0 else 210) else 1) /\ (sn = true -> C = ⟨p, d⟩)) := by
     have h1 := PSt.done (v := JV.mk 6 n s l m) HTM.out.1 (p := p) (d := d) (sup := sup) (by rw [HTM.out.2, HML.out]; exact HPS.out)
     rw [HTM.out.2, HSN.out, HE.out, HC.out] at h1
     exact h1
    have c0 := HS4.out.cp.c0
    have c1 := HS4.out.cp.c1
    have r0 := HS4.out.rs.c0
    have r1 := HS4.out.rs.c1
    have y0 := HS4.out.rs.fz 0
    have y1 := HS4.out.rs.fz 1
    have HB4 := Lib.hid HS4.out.below
    have hjb : j <= 1466015503658 := by omega
    clear hlk hsn hkl hMF hS
    go_upto_region 25 with fail
    cases sn with
    | false =>
      have HE1 : Hid (E = 1) := HDN.out.1
      go_wp2_with (at_lookup; refine wpList_look_F _ rfl _ _ _ rfl 9 4 Tryz.underlying9 Tryz.underlying152 (Tryz.zeroValue4 _) _ _ (knF kl) rfl HMF.out propN rfl (by decide) (v := .bool false) HLK.out ?_; go_frame)
      refine bodyPost_ret (v := .tuple #[.agg #[.string p, .bool d], .int .i64 1]) (by simp [results, Tryz.results82, go_sem, r0, r1, y0, y1, c0, c1, n2c, ncm, n2m]) rfl (HRT.out _ _ ⟨p, d, by rw [HE1.out], Lib.hid (fun h => by rw [HE1.out] at h; cases h), ?_⟩)
      exact Below.setCell (Below.setCell HB4.out (p := ⟨g2, 0, none⟩) hwg _) (p := ⟨g2, 1, none⟩) hwg _
    | true =>
      cases sup with
      | false =>
        have HE1 : Hid (E = 210) := HDN.out.1
        go_wp2_with (at_lookup; refine wpList_look_F _ rfl _ _ _ rfl 9 4 Tryz.underlying9 Tryz.underlying152 (Tryz.zeroValue4 _) _ _ (knF kl) rfl HMF.out propN rfl (by decide) (v := .bool true) HLK.out ?_; go_frame)
        refine bodyPost_ret (v := .tuple #[.agg #[.string p, .bool d], .int .i64 210]) (by simp [results, Tryz.results82, go_sem, r0, r1, y0, y1, c0, c1, n2c, ncm, n2m]) rfl (HRT.out _ _ ⟨p, d, by rw [HE1.out], Lib.hid (fun h => by rw [HE1.out] at h; cases h), ?_⟩)
        exact Below.setCell (Below.setCell HB4.out (p := ⟨g2, 0, none⟩) hwg _) (p := ⟨g2, 1, none⟩) hwg _
      | true =>
        obtain ⟨po, hpo⟩ : ∃ b, propOk p = b := ⟨_, rfl⟩
        have HDN2 : Hid (E = (if po then 0 else 210) /\ C = ⟨p, d⟩) := by
         have h := HDN.out
         rw [hpo] at h
         exact ⟨h.1.trans (by cases po <;> rfl), h.2 rfl⟩
        have HPO := Lib.hid hpo
        clear hpo
        go_upto_region 27 with (at_lookup; refine wpList_look_F _ rfl _ _ _ rfl 9 4 Tryz.underlying9 Tryz.underlying152 (Tryz.zeroValue4 _) _ _ (knF kl) rfl HMF.out propN rfl (by decide) (v := .bool true) HLK.out ?_; go_frame)
        have hrd : Rd (wr.alloc (.cells #[.string createdN, .string updatedN, .string givenN, .string surN, .string sur2N] 9)) (wr.heap.size + 1) encS 1 (.slice (some ⟨wr.heap.size, 0, none⟩) 5 5) [createdN, updatedN, givenN, surN, sur2N] := Rd.block (xs := [createdN, updatedN, givenN, surN, sur2N]) codecS (heap_alloc_at rfl) rfl (by omega) (show 5 <= maxLen by decide)
        have hin : inB [createdN, updatedN, givenN, surN, sur2N] p = po := by
         rw [<- HPO.out]
         unfold inB propOk
         simp only [List.any_cons, List.any_nil, Bool.or_false]
         have hs : ∀ a b : ByteArray, decide (a = b) = decide (b = a) := fun a b => decide_eq_decide.2 ⟨fun h => h.symm, fun h => h.symm⟩
         rw [hs createdN, hs updatedN, hs givenN, hs surN, hs sur2N]
        have hct := containsS_rd hrd (by decide) p
        rw [hin] at hct
        have HCT := Lib.hid hct
        have HB5 := Lib.hid (HB4.out.alloc HB4.out.size (.cells #[.string createdN, .string updatedN, .string givenN, .string surN, .string sur2N] 9))
        unfold createdN updatedN givenN surN sur2N at HCT
        have c0' := (HS4.out.cp.under ((Below.refl wr.heap.size wr).alloc (Nat.le_refl _) (.cells #[.string createdN, .string updatedN, .string givenN, .string surN, .string sur2N] 9)) HS4.out.cp.lt).c0
        have r0' := (HS4.out.rs.under ((Below.refl wr.heap.size wr).alloc (Nat.le_refl _) (.cells #[.string createdN, .string updatedN, .string givenN, .string surN, .string sur2N] 9)) HS4.out.rs.lt).c0
        have r1' := (HS4.out.rs.under ((Below.refl wr.heap.size wr).alloc (Nat.le_refl _) (.cells #[.string createdN, .string updatedN, .string givenN, .string surN, .string sur2N] 9)) HS4.out.rs.lt).c1
        have hlg := HS4.out.rs.lt
        have hlc := HS4.out.cp.lt
        unfold createdN updatedN givenN surN sur2N at c0' r0' r1'
        clear hrd hin hct
        cases po with
        | true =>
          go_wp2_with (go_at_call 96; (with_reducible refine HCT.out.mono ?_); rintro e w5 ⟨rfl, rfl⟩)
          refine bodyPost_ret (v := .tuple #[.agg #[.string p, .bool d], .int .i64 0]) (by simp [results, Tryz.results82, go_sem, r0, r1, y0, y1, c0, c1, n2c, ncm, n2m, r0', r1', c0', hlg, hlc]) rfl (HRT.out _ _ ⟨p, d, by rw [HDN2.out.1]; rfl, Lib.hid (fun _ => HDN2.out.2), ?_⟩)
          exact (Below.setCell (Below.setCell HB4.out (p := ⟨g2, 0, none⟩) hwg (.string p)) (p := ⟨g2, 1, none⟩) hwg (.bool d)).alloc (by have := HB4.out.size; simp [World.setCell]; omega) _
        | false =>
          have HE1 : Hid (E = 210) := HDN2.out.1
          go_wp2_with (go_at_call 96; (with_reducible refine HCT.out.mono ?_); rintro e w5 ⟨rfl, rfl⟩)
          refine bodyPost_ret (v := .tuple #[.agg #[.string p, .bool d], .int .i64 210]) (by simp [results, Tryz.results82, go_sem, r0, r1, y0, y1, c0, c1, n2c, ncm, n2m, r0', r1', c0', hlg, hlc]) rfl (HRT.out _ _ ⟨p, d, by rw [HE1.out], Lib.hid (fun h => by rw [HE1.out] at h; cases h), ?_⟩)
          exact (Below.setCell (Below.setCell HB4.out (p := ⟨g2, 0, none⟩) hwg (.string p)) (p := ⟨g2, 1, none⟩) hwg (.bool d)).alloc (by have := HB4.out.size; simp [World.setCell]; omega) _
end
end Go.Proofs.YtffhccmppdgmfaaGreatDoor
