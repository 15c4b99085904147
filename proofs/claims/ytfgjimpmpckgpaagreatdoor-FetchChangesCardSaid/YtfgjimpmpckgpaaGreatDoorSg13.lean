import Derived.Test.YtfgjimpmpckgpaaGreatDoorSg10
import Derived.Test.YtfgjimpmpckgpaaGreatDoorSg12
import Derived.Deep.LoopGhost
import Derived.Test.YtfgjimpmpckgpaaGreatDoorSg03
import Derived.Test.YtfgjimpmpckgpaaGreatDoorSg11
import Derived.BigQuiet
import Derived.Deep.CutRange
import Derived.Test.YtfgjimpmpckgpaaGreatDoorSg08
import Derived.Test.YtfgjimpmpckgpaaGreatDoorSg06
import Derived.Deep.RegionLaw
import Derived.Test.YtfgjimpmpckgpaaGreatDoorSg07
import Derived.WalkLawsBesides
import Derived.Test.YtfgjimpmpckgpaaGreatDoorSg04
set_option linter.unusedSimpArgs false
set_option linter.unusedVariables false
set_option maxRecDepth 200000
set_option maxHeartbeats 8000000
namespace Go.Proofs.YtfgjimpmpckgpaaGreatDoor
section
open Go Go.RowKit Go.OpenShut
def splitF (s : ByteArray) (c : UInt8) : Nat -> Nat -> Nat -> List ByteArray
 | 0, _, fr => [s.extract fr s.size]
 | f + 1, i, fr => if i < s.size then (if s[i]! = c then s.extract fr i :: splitF s c f (i + 1) (i + 1) else splitF s c f (i + 1) fr) else [s.extract fr s.size]
theorem splitF_end {s : ByteArray} {c : UInt8} {f fr : Nat} : splitF s c f s.size fr = [s.extract fr s.size] := by
 cases f with
 | zero => rfl
 | succ f => unfold splitF; rw [if_neg (by omega)]
def StrsRet (w : World) (l : List ByteArray) (e : Ending) (w' : World) : Prop := ∃ p n c, e = .returned (.slice p n c) /\ Own w' w.heap.size 9 encS 1 (.slice p n c) l /\ Below w.heap.size w w'
theorem split_any (s : ByteArray) (c : UInt8) (w : World) (hs : s.size <= 65536) : Calls Tryz.prog 125 #[.string s, .int .u8 (c.toNat : Int)] w (StrsRet w (splitF s c s.size 0 0)) := by
 have c0 : (0 : Int) <= ((c.toNat : Nat) : Int) := Int.natCast_nonneg _
 go_enter Tryz.func125, Tryz.ntmps125
 go_wp2_with fail
 go_loopg [5, 6, 7] s.size (fun gk o fr i wr => ∃ (k f : Nat) (l : List ByteArray), gk = s.size - k /\ k <= s.size /\ f <= k /\ i = .int .i64 (k : Int) /\ fr = .int .i64 (f : Int) /\ Hid (Own wr w.heap.size 9 encS 1 o l /\ l.length <= k /\ splitF s c s.size 0 0 = l ++ splitF s c (s.size - k) k f /\ Below w.heap.size w wr))
 case atStart => exact ⟨0, 0, [], rfl, Nat.zero_le _, Nat.le_refl _, rfl, rfl, Own.nil _ _ _, Nat.zero_le _, rfl, Below.refl _ _⟩
 case round =>
  obtain ⟨k, f, l, hgk, hk, hf, rfl, rfl, hH⟩ := hrel
  obtain ⟨hO, hlen, hsp, hbr⟩ := hH.out
  clear hH
  obtain ⟨po, no, co, rfl⟩ : ∃ p n c, u5 = Value.slice p n c := by obtain ⟨p, c, hv, _, _⟩ := hO.len; exact ⟨p, _, c, hv⟩
  have HGK := Lib.hid hgk
  have HO := Lib.hid hO
  have HLEN := Lib.hid hlen
  have HSP := Lib.hid hsp
  have HBR := Lib.hid hbr
  have hz := hbr.size
  clear hgk hO hlen hsp hbr
  have k0 : (0 : Int) <= (k : Int) := Int.natCast_nonneg _
  have f0 : (0 : Int) <= (f : Int) := Int.natCast_nonneg _
  have f1 : (f : Int) <= (k : Int) := by omega
  have k2 : (k : Int) <= (s.size : Int) := by omega
  by_cases hlt : k < s.size
  ·have k1 : (k : Int) < (s.size : Int) := by omega
   have HSZ : Hid (s.size - k = (s.size - (k + 1)) + 1) := by unfold Hid; omega
   have HAT : Hid (s[k]! = s[k]) := by unfold Hid; rw [get_bang s k hlt]
   have HOA := Lib.hid (HO.out.alloc (.cells #[.string (s.extract f k)] 9))
   have HRD : Hid (Rd (wr.alloc (.cells #[.string (s.extract f k)] 9)) (wr.heap.size + 1) encS 1 (.slice (some ⟨wr.heap.size, 0, none⟩) 1 1) [s.extract f k]) := Rd.one codecS (heap_alloc_at rfl) rfl (by omega)
   by_cases hc : s[k] = c
   ·have q1 : (((s[k].toNat : Nat) : Int) == ((c.toNat : Nat) : Int)) = true := by rw [hc]; simp
    have q2 : (s[k].toNat == c.toNat) = true := by rw [hc]; simp
    have HC := Lib.hid hc
    clear hc
    go_wp2_with (at_builtin; refine wpList_append_rd slS codecS (wr.alloc (.cells #[.string (s.extract f k)] 9)) rfl (.tmp 19) (.tmp 24) rfl (v := .slice po no co) rfl rfl HOA.out HRD.out (by have := HLEN.out; simp only [List.length_singleton]; unfold maxLen; omega) (by have := HLEN.out; simp only [List.length_singleton]; omega) (by simp; omega) ?_; intro v4 w4 ho4 hg4 hat4)
    go_roundg (s.size - (k + 1))
    case measure => have := HGK.out; omega
    case rel =>
     refine ⟨k + 1, k + 1, l ++ [s.extract f k], rfl, by omega, Nat.le_refl _, by go_num, by go_num, ho4, by have := HLEN.out; simp; omega, ?_, Below.appended (HBR.out.alloc hz _) hg4 HOA.out (by simp; omega)⟩
     rw [HSP.out, HSZ.out]
     conv => lhs; rw [splitF, if_pos hlt, if_pos (by rw [HAT.out, HC.out])]
     simp
   ·have hn : s[k].toNat ≠ c.toNat := fun h => hc (UInt8.toNat_inj.1 h)
    have q1 : (((s[k].toNat : Nat) : Int) == ((c.toNat : Nat) : Int)) = false := by simp; omega
    have q2 : (s[k].toNat == c.toNat) = false := by simpa using hn
    have HC := Lib.hid hc
    clear hc hn HRD HOA
    go_wp2_with fail
    go_roundg (s.size - (k + 1))
    case measure => have := HGK.out; omega
    case rel =>
     refine ⟨k + 1, f, l, rfl, by omega, by omega, by go_num, rfl, HO.out, by have := HLEN.out; omega, ?_, HBR.out⟩
     rw [HSP.out, HSZ.out]
     conv => lhs; rw [splitF, if_pos hlt, if_neg (by rw [HAT.out]; exact HC.out)]
  ·obtain rfl : k = s.size := by omega
   have HOA := Lib.hid (HO.out.alloc (.cells #[.string (s.extract f s.size)] 9))
   have HRD : Hid (Rd (wr.alloc (.cells #[.string (s.extract f s.size)] 9)) (wr.heap.size + 1) encS 1 (.slice (some ⟨wr.heap.size, 0, none⟩) 1 1) [s.extract f s.size]) := Rd.one codecS (heap_alloc_at rfl) rfl (by omega)
   go_wp2_with (at_builtin; refine wpList_append_rd slS codecS (wr.alloc (.cells #[.string (s.extract f s.size)] 9)) rfl (.tmp 28) (.tmp 32) rfl (v := .slice po no co) rfl rfl HOA.out HRD.out (by have := HLEN.out; simp only [List.length_singleton]; unfold maxLen; omega) (by have := HLEN.out; simp only [List.length_singleton]; omega) (by simp; omega) ?_; intro v4 w4 ho4 hg4 hat4)
   obtain ⟨p4, n4, c4, rfl⟩ : ∃ p n c, v4 = Value.slice p n c := by obtain ⟨p, c, hv, _, _⟩ := ho4.len; exact ⟨p, _, c, hv⟩
   go_ret
   refine ⟨p4, n4, c4, rfl, ?_, Below.appended (HBR.out.alloc hz _) hg4 HOA.out (by simp; omega)⟩
   rw [HSP.out, splitF_end]
   exact ho4
end
section
open Go.RowKit Go.OpenShut
theorem KB.setV {W W' : World} (h : KB W.heap.size W W') (g : Nat) (q : RV) (hg : W.heap.size <= g) : KB W.heap.size W (((((W'.setCell ⟨g, 0, none⟩ (.int .i64 q.k)).setCell ⟨g, 1, none⟩ (.int .i64 q.n)).setCell ⟨g, 2, none⟩ (.string q.s)).setCell ⟨g, 3, none⟩ (.slice q.pl q.nl q.cl)).setCell ⟨g, 4, none⟩ (.slice q.pm q.nm q.cm)) :=
 KB.mk (Below.stored h.1 hg q)
theorem kt_drew (W : World) : Below W.heap.size W W.drew /\ ∀ b o, b < W.heap.size -> World.cell? W.drew ⟨b, o, none⟩ = W.cell? ⟨b, o, none⟩ := KB.drew W
theorem kt_da (W : World) (x : Obj) : Below W.heap.size W (W.alloc x).drew /\ ∀ b o, b < W.heap.size -> World.cell? (W.alloc x).drew ⟨b, o, none⟩ = W.cell? ⟨b, o, none⟩ := (KB.mk ((Below.refl _ _).alloc (Nat.le_refl _) x).drew : KB W.heap.size W (W.alloc x).drew)
theorem kt_same {W W' : World} (h : KB W.heap.size W W') : Below W.heap.size W W' /\ ∀ b o, b < W.heap.size -> World.cell? W' ⟨b, o, none⟩ = W.cell? ⟨b, o, none⟩ := h
theorem kt_alloc {W W' : World} (h : KB W.heap.size W W') (x : Obj) : Below W.heap.size W (W'.alloc x) /\ ∀ b o, b < W.heap.size -> World.cell? (W'.alloc x) ⟨b, o, none⟩ = W.cell? ⟨b, o, none⟩ := h.step ((Below.refl _ _).alloc (Nat.le_refl _) _)
theorem kt_setV {W W' : World} (h : KB W.heap.size W W') (g : Nat) (q : RV) (hg : W.heap.size <= g) : Below W.heap.size W (((((W'.setCell ⟨g, 0, none⟩ (.int .i64 q.k)).setCell ⟨g, 1, none⟩ (.int .i64 q.n)).setCell ⟨g, 2, none⟩ (.string q.s)).setCell ⟨g, 3, none⟩ (.slice q.pl q.nl q.cl)).setCell ⟨g, 4, none⟩ (.slice q.pm q.nm q.cm)) /\ ∀ b o, b < W.heap.size -> World.cell? (((((W'.setCell ⟨g, 0, none⟩ (.int .i64 q.k)).setCell ⟨g, 1, none⟩ (.int .i64 q.n)).setCell ⟨g, 2, none⟩ (.string q.s)).setCell ⟨g, 3, none⟩ (.slice q.pl q.nl q.cl)).setCell ⟨g, 4, none⟩ (.slice q.pm q.nm q.cm)) ⟨b, o, none⟩ = W.cell? ⟨b, o, none⟩ := h.setV g q hg
end
section
open Go Go.RowKit Go.OpenShut
structure KindsR (s : ByteArray) (ks : List (ByteArray × Nat)) : Prop where
 split : splitF s 32 s.size 0 0 = ks.map wordB
 cut : ∀ p ∈ ks, (wordB p).extract 0 p.1.size = p.1 /\ (wordB p).size = p.1.size + 2 /\ (wordB p)[p.1.size + 1]! = UInt8.ofNat p.2
 lets : ∀ p ∈ ks, p.2 ∈ letters
 small : s.size <= 1000
 names : ∀ p ∈ ks, p.1.size <= 1000
 few : ks.length <= 100
theorem args24_any (w : World) (B : Nat) (s : ByteArray) (ks : List (ByteArray × Nat)) (t : JV) (r : RV) (K : KindsR s ks) (hBw : B <= w.heap.size) (ht : TreeOf w B t r) (ot : t.Ok) : Calls Tryz.prog 83 #[r.val, .string s] w (ArgR w B t ks) := by
 obtain ⟨hk, hn, hs⟩ := ht.head
 obtain ⟨rms, hmr, hms, _⟩ := ht.mems
 have hB0 : Below w.heap.size w (w.alloc r.obj) := (Below.refl _ _).alloc (Nat.le_refl _) _
 have hA0 : VAt (w.alloc r.obj) w.heap.size r := heap_alloc_at rfl
 have HT := Lib.hid ht
 have HOT := Lib.hid ot
 have HK := Lib.hid K
 have hnm : r.nm = t.m.length := by rw [hms.len]; exact rd_nlen hmr
 have HNM := Lib.hid hnm
 have hmle : t.m.length <= 1466015503658 := by cases ot with | mk _ _ _ _ hm _ _ _ => exact hm
 have HML := Lib.hid hmle
 clear hmr hms hnm ht ot hn hs hmle
 by_cases h6 : t.k = 6
 ·have HA6 : Hid (argsB t ks = (ks.all (fun p => mayK p.2 (argG t p)) && decide (foundN t ks = t.m.length))) := by unfold Hid argsB; rw [decide_eq_true h6]; rfl
  rw [h6] at hk
  obtain ⟨k, n, s', pl, nl, cl, pm, nm, cm⟩ := r
  dsimp only [RV.val, RV.obj] at *
  subst hk
  clear h6
  have HS : Hid (∀ W, Calls Tryz.prog 125 #[.string s, .int .u8 32] W (StrsRet W (ks.map wordB))) := fun W => by
   have h := split_any s 32 W (by have := K.small; omega)
   rw [K.split] at h
   exact h
  go_enter Tryz.func83, Tryz.ntmps83
  go_upto_region 1 with fail
  obtain ⟨W0, hW0⟩ : ∃ W, w.alloc (.cells #[.int .i64 6, .int .i64 n, .string s', .slice pl nl cl, .slice pm nm cm] 31) = W := ⟨_, rfl⟩
  rw [hW0] at hB0 hA0
  try rw [hW0]
  clear hW0
  obtain ⟨a0, a1, a2, a3, a4⟩ := hA0.cells5
  have HB0 := Lib.hid hB0
  have HA0 := Lib.hid hA0
  clear hB0 hA0
  go_upto_region 6 with (go_at_call 125; refine (HS.out W0).mono ?_; rintro e w1 ⟨p5, n5, c5, rfl, ho5, hb5⟩)
  have hl5 : (ks.map wordB).length = n5 := by obtain ⟨_, _, hv, _, _⟩ := ho5.len; simp only [Value.slice.injEq] at hv; exact hv.2.1.symm
  rw [List.length_map] at hl5
  have hrd5 := ho5.rd codecS
  have HRD := Lib.hid hrd5
  obtain ⟨W1, hWW⟩ : ∃ W, w1 = W := ⟨_, rfl⟩
  rw [hWW] at hb5 HRD
  try rw [hWW]
  have HB1 := Lib.hid (HB0.out.trans (hb5.mono HB0.out.size))
  have HA1 := Lib.hid (HA0.out.under hb5 HA0.out.lt)
  have hBW : B <= W1.heap.size := Nat.le_trans hBw HB1.out.size
  have hKF := HK.out.few
  have HL5 := Lib.hid hl5
  have hn5 : n5 <= 100 := by omega
  clear hWW hb5 ho5 hrd5 hl5 HS HB0 HA0 a0 a1 a2 a3 a4
  go_wp2_with fail
  go_loopg [6, 7, 9] n5 (fun gk o f i wr => ∃ j : Nat, gk = n5 - j /\ j <= n5 /\ i = .int .i64 (j : Int) /\ f = .int .i64 (foundN t (ks.take j) : Nat) /\ Hid (∃ rs, Own wr W1.heap.size 31 encV 5 o rs /\ rs.length = j /\ (∀ (i : Nat) k q, ks[i]? = some k -> rs[i]? = some q -> TreeOf wr B (argG t k) q) /\ (∀ (i : Nat) k, i < j -> ks[i]? = some k -> mayK k.2 (argG t k) = true) /\ Below W1.heap.size W1 wr))
  case atStart => exact ⟨0, rfl, Nat.zero_le _, rfl, rfl, [], Own.nil _ _ _, rfl, fun i k q _ h => by simp at h, fun i k h => by omega, Below.refl _ _⟩
  case round =>
   obtain ⟨j, hgk, hj, rfl, rfl, hH⟩ := hrel
   obtain ⟨rs, hO, hrl, hts, hmy, hbr⟩ := hH.out
   have HGK := Lib.hid hgk
   clear hH hgk
   obtain ⟨po, no, co, rfl⟩ : ∃ p n c, u6 = Value.slice p n c := by obtain ⟨p, c, hv, _, _⟩ := hO.len; exact ⟨p, _, c, hv⟩
   have j0 : (0 : Int) <= (j : Int) := Int.natCast_nonneg _
   have HRL := Lib.hid hrl
   have HTS := Lib.hid hts
   have HMY := Lib.hid hmy
   have HBR := Lib.hid hbr
   have HO := Lib.hid hO
   have HFL := Lib.hid (foundN_le t (ks.take j))
   have htl : (ks.take j).length <= 100 := by rw [List.length_take]; omega
   obtain ⟨F, hF⟩ : ∃ F, foundN t (ks.take j) = F := ⟨_, rfl⟩
   have HFF := Lib.hid hF
   have hF100 : F <= 100 := by rw [<- hF]; have := HFL.out; omega
   rw [hF]
   clear hrl hts hmy hO hF htl
   by_cases hlt : j < n5
   ·have j1 : (j : Int) < (n5 : Int) := by omega
    obtain ⟨p, hp⟩ : ∃ p, ks[j]? = some p := ⟨_, List.getElem?_eq_getElem (by have := HL5.out; omega)⟩
    have hpm := List.mem_of_getElem? hp
    have hwx : (ks.map wordB)[j]? = some (wordB p) := by rw [List.getElem?_map, hp]; rfl
    obtain ⟨b1, o1, hpe, hb1, hc1⟩ := rd_at' (HRD.out.below hbr (Nat.le_refl _)) hwx
    subst hpe
    have c0 := hc1 0 _ rfl
    rw [Nat.add_zero, Nat.mul_one] at c0
    have HP := Lib.hid hp
    obtain ⟨hex, hws, hlx⟩ := HK.out.cut p hpm
    have hns := HK.out.names p hpm
    have HLT := Lib.hid (HK.out.lets p hpm)
    have HLX := Lib.hid hlx
    obtain ⟨wd, hwd⟩ : ∃ x, wordB p = x := ⟨_, rfl⟩
    obtain ⟨nme, hnme⟩ : ∃ x, p.1 = x := ⟨_, rfl⟩
    rw [hwd] at c0 HLX hex hws
    rw [hnme] at hex hws hns HLX
    have HNME := Lib.hid hnme
    clear hp hpm hwd hnme hc1 hwx hlx
    have hwr : IntKind.i64.wrap ((wd.size : Int) - 2) = (nme.size : Int) := by simp [IntKind.wrap, go_sem]; omega
    have hws2 : (nme.size : Int) <= (wd.size : Int) := by omega
    have hns2 : (nme.size : Int) + 1 < (wd.size : Int) := by omega
    have hns0 : (0 : Int) <= (nme.size : Int) := Int.natCast_nonneg _
    have HWS := Lib.hid hws
    clear hws
    go_upto_region 10 with fail
    have hAr := HA1.out.under hbr HA1.out.lt
    have HGT : Hid (∀ W, KB wr.heap.size wr W -> Calls Tryz.prog 126 #[.agg #[.int .i64 6, .int .i64 n, .string s', .slice pl nl cl, .slice pm nm cm], .string nme] W (GetRetB W B (t.get nme))) := fun W hk =>
     refGetB_any t ⟨6, n, s', pl, nl, cl, pm, nm, cm⟩ nme W B (Nat.le_trans (Nat.le_trans hBW hbr.size) hk.1.size) (HT.out.under (((HB1.out.mono hBw).trans (hbr.mono hBW)).trans (hk.1.mono (Nat.le_trans hBW hbr.size))) (Nat.le_refl _)) HOT.out
    have ha1 : w.heap.size < wr.heap.size := hAr.lt
    have hb1w : b1 < wr.heap.size := Nat.lt_of_lt_of_le hb1 hbr.size
    obtain ⟨a0, a1, a2, a3, a4⟩ := hAr.cells5
    dsimp only at a0 a1 a2 a3 a4
    have HZA : Hid (VAt (wr.alloc (.cells #[.int .i64 0, .int .i64 0, .string ⟨#[]⟩, .slice none 0 0, .slice none 0 0] 31)).drew wr.heap.size RV.zero) := heap_alloc_at rfl
    clear hAr
    go_cut [11, 12] from 18 to 58 (fun v11 v12 wx => ∃ g q bb, v11 = .pointer (some ⟨g, 0, none⟩) /\ v12 = .bool bb /\ Hid (bb = (t.get nme).isSome /\ VAt wx g q /\ TreeOf wx B ((t.get nme).getD JV.zero) q /\ Below wr.heap.size wr wx /\ wr.heap.size <= g))
    case first =>
     go_region_held3 (fun w' => Below wr.heap.size wr w' /\ ∀ b o, b < wr.heap.size -> w'.cell? ⟨b, o, none⟩ = wr.cell? ⟨b, o, none⟩)
      (first | with_reducible exact kt_drew wr | with_reducible exact kt_same hbk | with_reducible exact kt_alloc hbk _ | with_reducible exact kt_da wr _ | with_reducible exact kt_setV hbk _ ⟨rk, rn, rS, rpl, rnl, rcl, rpm, rnm, rcm⟩ (Nat.le_refl _))
      (first
       | (go_at_call 126; refine (HGT.out _ (by assumption)).mono ?_; rintro e w3 ⟨rv, bb, rfl, hbb, ht3, hb3⟩; obtain ⟨rk, rn, rS, rpl, rnl, rcl, rpm, rnm, rcm⟩ := rv; (have hbk := KB.step (W := wr) (by assumption) hb3); (first | ((have HZ3 := Lib.hid (HZA.out.under hb3 HZA.out.lt)); (obtain ⟨z0, z1, z2, z3, z4⟩ := HZ3.out.cells5); (have y0 := HZ3.out.frozen 0); (have y1 := HZ3.out.frozen 1); (have y2 := HZ3.out.frozen 2); (have y3 := HZ3.out.frozen 3); (have y4 := HZ3.out.frozen 4); dsimp only [RV.zero] at z0 z1 z2 z3 z4) | skip))
       | fail)
     all_goals (
      go_wp2_with fail
      go_meet
      first
       | (have hz := HZ3
          exact ⟨_, ⟨rk, rn, rS, rpl, rnl, rcl, rpm, rnm, rcm⟩, _, rfl, rfl, rfl, hz.out.stored ⟨rk, rn, rS, rpl, rnl, rcl, rpm, rnm, rcm⟩, ht3.under (Below.stored (Below.refl _ _) (Nat.le_trans hBW (HBR.out.size)) ⟨rk, rn, rS, rpl, rnl, rcl, rpm, rnm, rcm⟩) (Nat.le_refl _), (kt_setV hbk _ ⟨rk, rn, rS, rpl, rnl, rcl, rpm, rnm, rcm⟩ (Nat.le_refl _)).1, Nat.le_refl _⟩)
       | exact ⟨_, ⟨rk, rn, rS, rpl, rnl, rcl, rpm, rnm, rcm⟩, _, rfl, rfl, rfl, heap_alloc_at rfl, ht3.under ((Below.refl _ _).alloc (Nat.le_trans (Nat.le_trans hBW HBR.out.size) hbk.1.size) _) (Nat.le_refl _), (kt_alloc hbk _).1, hbk.1.size⟩)
    case rest =>
    obtain ⟨g, q, bb, rfl, rfl, hx⟩ := hcut
    obtain ⟨hbb, hV4, ht4, hb4, hz5⟩ := hx.out
    clear hx HGT HZA a0 a1 a2 a3 a4
    obtain ⟨w4, hw4⟩ : ∃ W, wc = W := ⟨_, rfl⟩
    subst hw4
    have hc0 := bcs hb4 hb1w c0
    have HC0 := Lib.hid hc0
    have hb1c : b1 < wc.heap.size := Nat.lt_of_lt_of_le hb1w hb4.size
    have HT4 := Lib.hid ht4
    have HB4 := Lib.hid hb4
    have HV4 := Lib.hid hV4
    clear ht4 hb4 hV4 hc0 c0 hbr
    obtain ⟨rk, rn, rS, rpl, rnl, rcl, rpm, rnm, rcm⟩ := q
    cases hget : t.get nme
    all_goals first
     | (have hg2 : Hid (argG t p = nullJ /\ (t.get p.1).isSome = false) := by unfold Hid argG; rw [HNME.out, hget]; exact ⟨rfl, rfl⟩
        rw [hget] at hbb HT4
        simp only [Option.isSome_none] at hbb
        subst hbb
        obtain ⟨v0, v1, v2, v3, v4⟩ := HV4.out.cells5
        have y0 := HV4.out.frozen 0
        have y1 := HV4.out.frozen 1
        have y2 := HV4.out.frozen 2
        have y3 := HV4.out.frozen 3
        have y4 := HV4.out.frozen 4
        dsimp only at v0 v1 v2 v3 v4
        go_upto_region 14 with fail
        have hv5 := HV4.out.stored (⟨1, 0, ⟨#[]⟩, none, 0, 0, none, 0, 0⟩ : RV)
        have hg5 := grownBy_set5 wc g (⟨1, 0, ⟨#[]⟩, none, 0, 0, none, 0, 0⟩ : RV)
        have ht5 : TreeOf (((((wc.setCell ⟨g, 0, none⟩ (.int .i64 1)).setCell ⟨g, 1, none⟩ (.int .i64 0)).setCell ⟨g, 2, none⟩ (.string ⟨#[]⟩)).setCell ⟨g, 3, none⟩ (.slice none 0 0)).setCell ⟨g, 4, none⟩ (.slice none 0 0)) B (argG t p) (⟨1, 0, ⟨#[]⟩, none, 0, 0, none, 0, 0⟩ : RV) := by rw [hg2.out.1]; exact (TreeS.leaf _ (fun _ => False) 1 0 ⟨#[]⟩).tree (fun k h => h.elim)
        dsimp only at hv5 hg5
        obtain ⟨w5, hw5⟩ : ∃ W, (((((wc.setCell ⟨g, 0, none⟩ (.int .i64 1)).setCell ⟨g, 1, none⟩ (.int .i64 0)).setCell ⟨g, 2, none⟩ (.string ⟨#[]⟩)).setCell ⟨g, 3, none⟩ (.slice none 0 0)).setCell ⟨g, 4, none⟩ (.slice none 0 0)) = W := ⟨_, rfl⟩
        rw [hw5] at hv5 hg5 ht5
        try rw [hw5]
        have HB5 : Hid (Below wr.heap.size wr w5) := HB4.out.grown hg5 HB4.out.size (fun k e => by cases e; exact hz5)
        have c05 : w5.cell? ⟨b1, o1 + j, none⟩ = some (.string wd) := (World.cell?_of_block (a := ⟨b1, o1 + j, none⟩) (hg5.block b1 hb1c (fun e => by injection e with e; omega))).trans HC0.out
        obtain ⟨q, hq⟩ : ∃ q : RV, (⟨1, 0, ⟨#[]⟩, none, 0, 0, none, 0, 0⟩ : RV) = q := ⟨_, rfl⟩
        rw [hq] at hv5 ht5
        have HFN : Hid ((F : Int) = (foundN t (ks.take (j + 1)) : Nat)) := by unfold Hid; rw [foundN_snoc t HP.out, hg2.out.2, HFF.out]; simp
        clear hw5 hq hg5 v0 v1 v2 v3 v4 y0 y1 y2 y3 y4 HV4 HT4 HB4 HC0)
     | (have hg2 : Hid (argG t p = (t.get nme).getD JV.zero /\ (t.get p.1).isSome = true) := by unfold Hid argG; rw [HNME.out, hget]; exact ⟨rfl, rfl⟩
        rw [hget] at hbb
        simp only [Option.isSome_some] at hbb
        subst hbb
        have hf1 : (F : Int) <= 100 := by omega
        have hf0 : (0 : Int) <= (F : Int) := Int.natCast_nonneg _
        go_upto_region 14 with fail
        obtain ⟨w5, rfl⟩ : ∃ W, W = wc := ⟨_, rfl⟩
        obtain ⟨q, hq⟩ : ∃ q : RV, ⟨rk, rn, rS, rpl, rnl, rcl, rpm, rnm, rcm⟩ = q := ⟨_, rfl⟩
        have hv5 := HV4.out
        have ht5 := HT4.out
        rw [hq] at hv5 ht5
        rw [<- hg2.out.1] at ht5
        have HB5 := HB4
        have c05 := HC0.out
        have HFN : Hid ((F : Int) + 1 = (foundN t (ks.take (j + 1)) : Nat)) := by unfold Hid; rw [foundN_snoc t HP.out, hg2.out.2, HFF.out]; simp
        clear hq HV4 HT4 HB4 HC0)
    all_goals
     have HV5 := Lib.hid hv5
     have HT5 := Lib.hid ht5
     obtain ⟨qk, qn, qS, qpl, qnl, qcl, qpm, qnm, qcm⟩ := q
     have hl4 : nme.size + 1 < wd.size := by omega
     have hlw : IntKind.i64.wrap ((nme.size : Int) + 1) = (nme.size : Int) + 1 := by simp [IntKind.wrap, go_sem]; omega
     have hl0 : (0 : Int) <= (nme.size : Int) + 1 := by omega
     have hLx : (wd[nme.size + 1]'hl4).toNat = p.2 := by
      have h1 := HLX.out
      rw [get_bang wd (nme.size + 1) hl4] at h1
      rw [h1, letter_u8 HLT.out]
     have hVt : VAt w5 g ⟨qk, qn, qS, qpl, qnl, qcl, qpm, qnm, qcm⟩ := hv5
     have hb15 : b1 < w5.heap.size := (cell_some c05).2
     have HMAY : Hid (∀ W, Below w5.heap.size w5 W -> Calls Tryz.prog 127 #[.int .u8 (((wd[nme.size + 1]'hl4).toNat : Nat) : Int), .agg #[.int .i64 qk, .int .i64 qn, .string qS, .slice qpl qnl qcl, .slice qpm qnm qcm]] W fun e w' => e = .returned (.bool (mayK p.2 (argG t p))) /\ Below W.heap.size W w') := fun W hb => by
      rw [hLx]
      exact refMay_any p.2 (argG t p) ⟨qk, qn, qS, qpl, qnl, qcl, qpm, qnm, qcm⟩ W HLT.out ((HT5.out.under (hb.mono (Nat.le_trans hBW (Nat.le_trans HBR.out.size HB5.out.size))) (Nat.le_refl _)).mono (Nat.le_trans (Nat.le_trans hBW (Nat.le_trans HBR.out.size HB5.out.size)) hb.size)) (argG_ok HOT.out p)
     have HKP : Hid (∀ W, Below w5.heap.size w5 W -> W.cell? ⟨g, 0, none⟩ = some (.int .i64 qk) /\ W.cell? ⟨g, 1, none⟩ = some (.int .i64 qn) /\ W.cell? ⟨g, 2, none⟩ = some (.string qS) /\ W.cell? ⟨g, 3, none⟩ = some (.slice qpl qnl qcl) /\ W.cell? ⟨g, 4, none⟩ = some (.slice qpm qnm qcm) /\ W.cell? ⟨b1, o1 + j, none⟩ = some (.string wd)) := fun W hb => by
      have h := hVt.under hb hVt.lt
      exact ⟨h.cell 0 rfl, h.cell 1 rfl, h.cell 2 rfl, h.cell 3 rfl, h.cell 4 rfl, bcs hb hb15 c05⟩
     obtain ⟨bm, hbm⟩ : ∃ b, mayK p.2 (argG t p) = b := ⟨_, rfl⟩
     rw [hbm] at HMAY
     have HBM := Lib.hid hbm
     clear hv5 ht5 hLx hVt hbm c05
     cases bm
    all_goals
     go_region_held3 (fun w' => w'.cell? ⟨g, 0, none⟩ = some (.int .i64 qk) /\ w'.cell? ⟨g, 1, none⟩ = some (.int .i64 qn) /\ w'.cell? ⟨g, 2, none⟩ = some (.string qS) /\ w'.cell? ⟨g, 3, none⟩ = some (.slice qpl qnl qcl) /\ w'.cell? ⟨g, 4, none⟩ = some (.slice qpm qnm qcm) /\ w'.cell? ⟨b1, o1 + j, none⟩ = some (.string wd))
      (first | exact HKP.out _ (Below.refl _ _).drew | exact HKP.out _ hb6)
      ((go_at_call 127; refine (HMAY.out _ (Below.refl _ _).drew).mono ?_; rintro e w6 ⟨rfl, hb6'⟩; have hb6 : Below w5.heap.size w5 w6 := (Below.refl _ _).drew.trans hb6'))
     obtain ⟨x0, x1, x2, x3, x4, x5⟩ := HKP.out _ hb6
     have HW6 : Hid (Below wr.heap.size wr w6) := HB5.out.trans (hb6.mono HB5.out.size)
     have HX6 : Hid (Below w.heap.size w w6) := HB1.out.trans ((HBR.out.trans (HW6.out.mono HBR.out.size)).mono HB1.out.size)
     have HT6 : Hid (TreeOf w6 B (argG t p) ⟨qk, qn, qS, qpl, qnl, qcl, qpm, qnm, qcm⟩) := HT5.out.under (hb6.mono (Nat.le_trans hBW (Nat.le_trans HBR.out.size HB5.out.size))) (Nat.le_refl _)
     clear hb6 hb6' HMAY HKP
     first
      | (have HNO : Hid (argsB t ks = false) := by unfold Hid; rw [HA6.out, all_not HP.out HBM.out]; try rfl
         go_wp2_with fail
         go_ret2
         exact argR_no HNO.out HX6.out)
      | (have HO6 := Lib.hid (HO.out.below HW6.out (Nat.le_refl _))
         have hz6 : W1.heap.size <= w6.heap.size := Nat.le_trans HBR.out.size HW6.out.size
         have HLN : Hid (rs.length <= 100) := by have := HRL.out; unfold Hid; omega
         go_wp2_with (at_builtin; refine wpList_append_rd slV codecV (w6.alloc (.cells #[.int .i64 qk, .int .i64 qn, .string qS, .slice qpl qnl qcl, .slice qpm qnm qcm] 31)) rfl (.tmp 55) (.tmp 57) rfl (v := .slice po no co) rfl rfl (HO6.out.alloc _) (Rd.one (B := w6.heap.size + 1) (x := (⟨qk, qn, qS, qpl, qnl, qcl, qpm, qnm, qcm⟩ : RV)) codecV (heap_alloc_new _ _) rfl (by omega)) (by have := HLN.out; simp only [List.length_singleton]; unfold maxLen; omega) (by have := HLN.out; simp only [List.length_singleton]; omega) (by simp; omega) ?_; intro v7 w7 ho7 hg7 hat7)
         go_roundg (n5 - (j + 1))
         case measure => have := HGK.out; omega
         case rel =>
          have hbA : Below W1.heap.size w6 (w6.alloc (.cells #[.int .i64 qk, .int .i64 qn, .string qS, .slice qpl qnl qcl, .slice qpm qnm qcm] 31)) := (Below.refl _ _).alloc hz6 _
          have hb7 : Below W1.heap.size w6 w7 := Below.appended hbA hg7 (HO6.out.alloc _) (by simp; omega)
          refine ⟨j + 1, rfl, by omega, by go_num, by first | (rw [<- HFN.out]; done) | (rw [<- HFN.out]; first | rfl | go_num), rs ++ [⟨qk, qn, qS, qpl, qnl, qcl, qpm, qnm, qcm⟩], ho7, by simp [HRL.out], fun i k q hk hq => ?_, fun i k hi hk => ?_, (HBR.out.trans (HW6.out.mono HBR.out.size)).trans hb7⟩
          ·rcases snoc_get hq with ⟨hi, hq⟩ | ⟨hi, rfl⟩
           ·exact (HTS.out i k q hk hq).under ((HW6.out.mono (Nat.le_trans hBW HBR.out.size)).trans (hb7.mono hBW)) (Nat.le_refl _)
           ·have e : k = p := by have h1 := HP.out; rw [hi, HRL.out, h1] at hk; exact (Option.some.inj hk).symm
            rw [e]
            exact HT6.out.under (hb7.mono hBW) (Nat.le_refl _)
          ·by_cases e : i = j
           ·have e2 : k = p := by have h1 := HP.out; rw [e, h1] at hk; exact (Option.some.inj hk).symm
            rw [e2]
            exact HBM.out
           ·exact HMY.out i k (by omega) hk)
   ·obtain rfl : j = n5 := by omega
    have hAr := HA1.out.under hbr HA1.out.lt
    have a4 := hAr.cell 4 rfl
    dsimp only at a4
    have hjl : j = ks.length := HL5.out.symm
    have HALL : Hid (ks.all (fun p => mayK p.2 (argG t p)) = true) := all_take (fun i k hi hk => HMY.out i k (by omega) hk)
    have htk : foundN t ks = F := by rw [<- HFF.out, List.take_of_length_le (by omega)]
    have HTK := Lib.hid htk
    have HXR : Hid (Below w.heap.size w wr) := HB1.out.trans (hbr.mono HB1.out.size)
    have HRL2 : Hid (ks.length = rs.length) := by have := HRL.out; unfold Hid; omega
    have hsz := hbr.size
    clear htk hbr hAr hjl
    by_cases hfn : F = nm
    ·have HYES : Hid (argsB t ks = true) := by unfold Hid; rw [HA6.out, HALL.out, HTK.out, hfn, HNM.out]; simp
     have q1 : ((F : Int) != (nm : Int)) = false := by simp; omega
     clear hfn
     go_wp2_with fail
     go_ret2
     unfold ArgR
     rw [if_pos HYES.out]
     exact ⟨po, no, co, rs, rfl, HO.out.mono HB1.out.size, HRL2.out, HTS.out, HXR.out⟩
    ·have HNO : Hid (argsB t ks = false) := by unfold Hid; rw [HA6.out, HALL.out, HTK.out, <- HNM.out, decide_eq_false hfn]; rfl
     have q1 : ((F : Int) != (nm : Int)) = true := by simp; omega
     clear hfn
     go_wp2_with fail
     go_ret2
     exact argR_no HNO.out HXR.out
 ·have hq : (r.k != 6) = true := by rw [<- hk]; simpa using h6
  have HR : Hid (argsB t ks = false) := by unfold Hid argsB; rw [decide_eq_false h6]; rfl
  obtain ⟨k, n, s', pl, nl, cl, pm, nm, cm⟩ := r
  dsimp only [RV.val, RV.obj] at *
  clear h6 hk
  go_enter Tryz.func83, Tryz.ntmps83
  go_upto_region 1 with fail
  obtain ⟨W0, hW0⟩ : ∃ W, w.alloc (.cells #[.int .i64 k, .int .i64 n, .string s', .slice pl nl cl, .slice pm nm cm] 31) = W := ⟨_, rfl⟩
  rw [hW0] at hB0 hA0
  try rw [hW0]
  obtain ⟨a0, a1, a2, a3, a4⟩ := hA0.cells5
  clear hW0
  go_wp2_with fail
  go_ret2
  exact argR_no HR.out hB0
end
section
open Go.RowKit Go.OpenShut
structure NewBox (W : World) (base B : Nat) (b : BoxD) (r : RB) : Prop where
 objs : ∃ ros, Own W base 44 encM 6 (.slice r.po r.no r.co) ros /\ MemsOf W B b.objs ros
 trail : Own W base 104 encE 3 (.slice r.pt r.nt r.ct) b.trail
 ok : ∀ e ∈ b.trail, e.ok
 seq : b.seq = r.sq
 floor : b.floor = r.fl
 keep : b.keep = r.kp
theorem NewBox.box {W : World} {base B : Nat} {b : BoxD} {r : RB} (h : NewBox W base B b r) (hB : B <= W.heap.size) : BoxOf W W.heap.size b r := by
 obtain ⟨ros, h1, h2⟩ := h.objs
 exact ⟨⟨ros, h1.rd codecM, h2.len, h2.name, fun i p q a c => (h2.val i p q a c).mono hB⟩, rdE_iff.2 ⟨h.ok, h.trail.rd codecE⟩, h.seq, h.floor, h.keep⟩
theorem NewBox.below {W W' : World} {base B : Nat} {b : BoxD} {r : RB} (h : NewBox W base B b r) (hb : Below W.heap.size W W') (hB : B <= W.heap.size) : NewBox W' base B b r := by
 obtain ⟨ros, h1, h2⟩ := h.objs
 exact ⟨⟨ros, h1.below hb (Nat.le_refl _), h2.under (hb.mono hB) (Nat.le_refl _)⟩, h.trail.below hb (Nat.le_refl _), h.ok, h.seq, h.floor, h.keep⟩
theorem NewBox.mono {W : World} {base base' B B' : Nat} {b : BoxD} {r : RB} (h : NewBox W base B b r) (hb : base' <= base) (hB : B <= B') : NewBox W base' B' b r := by
 obtain ⟨ros, h1, h2⟩ := h.objs
 exact ⟨⟨ros, h1.mono hb, h2.len, h2.name, fun i p q a c => (h2.val i p q a c).mono hB⟩, h.trail.mono hb, h.ok, h.seq, h.floor, h.keep⟩
theorem NewBox.kept {W W' : World} {base B g : Nat} {b : BoxD} {r : RB} (h : NewBox W base B b r) (hg : W.grownBy W' (some g)) (h1 : (Value.slice r.po r.no r.co).ownBlock ≠ some g) (h2 : (Value.slice r.pt r.nt r.ct).ownBlock ≠ some g) (hBW : B <= W.heap.size) (hB : B <= g) : NewBox W' base B b r := by
 obtain ⟨ros, h3, h4⟩ := h.objs
 exact ⟨⟨ros, h3.kept hg (.inr h1), h4.under ((Below.refl B W).grown hg hBW (fun a e => by cases e; exact hB)) (Nat.le_refl _)⟩, h.trail.kept hg (.inr h2), h.ok, h.seq, h.floor, h.keep⟩
theorem BoxAt.set {W : World} {g : Nat} {r : RB} (h : BoxAt W g r) (p p' : Option Addr) (n n' c c' : Nat) :
 BoxAt ((W.setCell ⟨g, 0, none⟩ (.slice p n c)).setCell ⟨g, 1, none⟩ (.slice p' n' c')) g { r with po := p, no := n, co := c, pt := p', nt := n', ct := c' } := by
 unfold BoxAt at h ⊢
 simp [World.setCell, Array.getElem?_modify, h]
theorem BoxAt.stored {W : World} {g : Nat} {r : RB} (h : BoxAt W g r) (q : RB) :
 BoxAt (((((W.setCell ⟨g, 0, none⟩ (.slice q.po q.no q.co)).setCell ⟨g, 1, none⟩ (.slice q.pt q.nt q.ct)).setCell ⟨g, 2, none⟩ (.int .i64 q.sq)).setCell ⟨g, 3, none⟩ (.int .i64 q.fl)).setCell ⟨g, 4, none⟩ (.int .i64 q.kp)) g q := by
 unfold BoxAt at h ⊢
 simp [World.setCell, Array.getElem?_modify, h]
theorem BoxAt.kept {W W' : World} {g x : Nat} {r : RB} (h : BoxAt W x r) (hg : W.grownBy W' (some g)) (hne : x ≠ g) : BoxAt W' x r := (hg.block x h.lt (by simpa using hne)).trans h
structure Pa where
 id : ByteArray
 was : Bool
 isb : Bool
 last : Int
deriving DecidableEq
def encP (p : Pa) : List Value := [.string p.id, .bool p.was, .bool p.isb, .int .i64 p.last]
theorem codecP : Codec encP 4 := ⟨fun _ => rfl, fun x u hu => by
 simp only [encP, List.mem_cons, List.not_mem_nil, or_false] at hu
 rcases hu with rfl | rfl | rfl | rfl <;> rfl, by decide⟩
theorem rd_at {α : Type} {enc : α -> List Value} {sz n cap k B : Nat} {w : World} {p : Option Addr} {xs : List α} (h : Rd w B enc sz (.slice p n cap) xs) {x : α} (hx : xs[k]? = some x) :
 ∃ b o, p = some ⟨b, o, none⟩ /\ b < B /\ ∀ j u, (enc x)[j]? = some u -> w.cell? ⟨b, o + k * sz + j, none⟩ = some u := by
 obtain ⟨p', cap', he, h1, h2, h3, h4⟩ := h
 simp only [Value.slice.injEq] at he
 obtain ⟨rfl, rfl, rfl⟩ := he
 have hk := (List.getElem?_eq_some_iff.1 hx).1
 cases p with
 | none => have := h3 rfl; omega
 | some a =>
   obtain ⟨b, o, rfl, hb, hr⟩ := h4 a rfl (by omega)
   exact ⟨b, o, rfl, hb, hr k x hx⟩
theorem rd_len {α : Type} {enc : α -> List Value} {sz B : Nat} {w : World} {v : Value} {xs : List α} (h : Rd w B enc sz v xs) : ∃ p cap, v = .slice p xs.length cap /\ xs.length <= cap /\ cap <= 9223372036854775807 := by
 obtain ⟨p, cap, he, h1, h2, _⟩ := h
 exact ⟨p, cap, he, h1, h2⟩
theorem infoP : (Tryz.prog.info? 147).map (fun i => (i.zero, i.size, i.bytes)) = some (some (.agg #[.string ByteArray.empty, .bool false, .bool false, .int .i64 0]), 4, 32) := by kernel_rfl
end
section
open Go Go.RowKit Go.OpenShut
structure RAc where
 id : ByteArray
 cards : RB
 books : RB
 next : Int
abbrev RAc.val (r : RAc) : Value := .agg #[.string r.id, .slice r.cards.po r.cards.no r.cards.co, .slice r.cards.pt r.cards.nt r.cards.ct, .int .i64 r.cards.sq, .int .i64 r.cards.fl, .int .i64 r.cards.kp,
 .slice r.books.po r.books.no r.books.co, .slice r.books.pt r.books.nt r.books.ct, .int .i64 r.books.sq, .int .i64 r.books.fl, .int .i64 r.books.kp, .int .i64 r.next]
abbrev RAc.obj (r : RAc) : Obj := .cells #[.string r.id, .slice r.cards.po r.cards.no r.cards.co, .slice r.cards.pt r.cards.nt r.cards.ct, .int .i64 r.cards.sq, .int .i64 r.cards.fl, .int .i64 r.cards.kp,
 .slice r.books.po r.books.no r.books.co, .slice r.books.pt r.books.nt r.books.ct, .int .i64 r.books.sq, .int .i64 r.books.fl, .int .i64 r.books.kp, .int .i64 r.next] 27
theorem RAc.cells12 {W : World} {g : Nat} {r : RAc} (h : W.heap[g]? = some (RAc.obj r)) : W.cell? ⟨g, 0, none⟩ = some (.string r.id) /\ W.cell? ⟨g, 1, none⟩ = some (.slice r.cards.po r.cards.no r.cards.co) /\ W.cell? ⟨g, 2, none⟩ = some (.slice r.cards.pt r.cards.nt r.cards.ct) /\ W.cell? ⟨g, 3, none⟩ = some (.int .i64 r.cards.sq) /\ W.cell? ⟨g, 4, none⟩ = some (.int .i64 r.cards.fl) /\ W.cell? ⟨g, 5, none⟩ = some (.int .i64 r.cards.kp) /\ W.cell? ⟨g, 6, none⟩ = some (.slice r.books.po r.books.no r.books.co) /\ W.cell? ⟨g, 7, none⟩ = some (.slice r.books.pt r.books.nt r.books.ct) /\ W.cell? ⟨g, 8, none⟩ = some (.int .i64 r.books.sq) /\ W.cell? ⟨g, 9, none⟩ = some (.int .i64 r.books.fl) /\ W.cell? ⟨g, 10, none⟩ = some (.int .i64 r.books.kp) /\ W.cell? ⟨g, 11, none⟩ = some (.int .i64 r.next) := ⟨(cell_of_row W g 0 _ _ _ h).trans rfl, (cell_of_row W g 1 _ _ _ h).trans rfl, (cell_of_row W g 2 _ _ _ h).trans rfl, (cell_of_row W g 3 _ _ _ h).trans rfl, (cell_of_row W g 4 _ _ _ h).trans rfl, (cell_of_row W g 5 _ _ _ h).trans rfl, (cell_of_row W g 6 _ _ _ h).trans rfl, (cell_of_row W g 7 _ _ _ h).trans rfl, (cell_of_row W g 8 _ _ _ h).trans rfl, (cell_of_row W g 9 _ _ _ h).trans rfl, (cell_of_row W g 10 _ _ _ h).trans rfl, (cell_of_row W g 11 _ _ _ h).trans rfl⟩
theorem boxBooks_any (r : RAc) (w : World) : Calls Tryz.prog 33 #[RAc.val r, .int .i64 2] w fun e w' => e = .returned (RB.val r.books) /\ Below w.heap.size w w' := by
 have hA0 : ((w.alloc (RAc.obj r)).alloc (.cells #[.slice none 0 0, .slice none 0 0, .int .i64 0, .int .i64 0, .int .i64 0] 25)).heap[w.heap.size]? = some (RAc.obj r) := heap_alloc_lt (by simp) (heap_alloc_at rfl)
 have hZ0 : BoxAt ((w.alloc (RAc.obj r)).alloc (.cells #[.slice none 0 0, .slice none 0 0, .int .i64 0, .int .i64 0, .int .i64 0] 25)) (w.heap.size + 1) RB.zero := heap_alloc_at (by simp)
 have hB0 : Below w.heap.size w ((w.alloc (RAc.obj r)).alloc (.cells #[.slice none 0 0, .slice none 0 0, .int .i64 0, .int .i64 0, .int .i64 0] 25)) := ((Below.refl _ _).alloc (Nat.le_refl _) _).alloc (by simp) _
 go_enter Tryz.func33, Tryz.ntmps33
 go_upto_region 1 with fail
 obtain ⟨W0, hW0⟩ : ∃ W0, ((w.alloc (RAc.obj r)).alloc (.cells #[.slice none 0 0, .slice none 0 0, .int .i64 0, .int .i64 0, .int .i64 0] 25)) = W0 := ⟨_, rfl⟩
 rw [hW0] at hA0 hZ0 hB0 ⊢
 clear hW0
 obtain ⟨z0, z1, z2, z3, z4⟩ := hZ0.cells5
 dsimp only [RB.zero] at z0 z1 z2 z3 z4
 obtain ⟨a0, a1, a2, a3, a4, a5, a6, a7, a8, a9, a10, a11⟩ := RAc.cells12 hA0
 have y0 := hZ0.frozen 0
 have y1 := hZ0.frozen 1
 have y2 := hZ0.frozen 2
 have y3 := hZ0.frozen 3
 have y4 := hZ0.frozen 4
 have HB := Lib.hid hB0
 clear hA0 hZ0 hB0
 go_wp2_with fail
 refine bodyPost_ret (v := RB.val r.books) (by simp [results, Tryz.results33, go_sem, z0, z1, z2, z3, z4]) rfl ⟨rfl, ?_⟩
 exact Below.setCell (Below.setCell (Below.setCell (Below.setCell (Below.setCell HB.out (Nat.le_succ _) _) (Nat.le_succ _) _) (Nat.le_succ _) _) (Nat.le_succ _) _) (Nat.le_succ _) _
theorem boxCards_any (r : RAc) (w : World) : Calls Tryz.prog 33 #[RAc.val r, .int .i64 1] w fun e w' => e = .returned (RB.val r.cards) /\ Below w.heap.size w w' := by
 have hA0 : ((w.alloc (RAc.obj r)).alloc (.cells #[.slice none 0 0, .slice none 0 0, .int .i64 0, .int .i64 0, .int .i64 0] 25)).heap[w.heap.size]? = some (RAc.obj r) := heap_alloc_lt (by simp) (heap_alloc_at rfl)
 have hZ0 : BoxAt ((w.alloc (RAc.obj r)).alloc (.cells #[.slice none 0 0, .slice none 0 0, .int .i64 0, .int .i64 0, .int .i64 0] 25)) (w.heap.size + 1) RB.zero := heap_alloc_at (by simp)
 have hB0 : Below w.heap.size w ((w.alloc (RAc.obj r)).alloc (.cells #[.slice none 0 0, .slice none 0 0, .int .i64 0, .int .i64 0, .int .i64 0] 25)) := ((Below.refl _ _).alloc (Nat.le_refl _) _).alloc (by simp) _
 go_enter Tryz.func33, Tryz.ntmps33
 go_upto_region 1 with fail
 obtain ⟨W0, hW0⟩ : ∃ W0, ((w.alloc (RAc.obj r)).alloc (.cells #[.slice none 0 0, .slice none 0 0, .int .i64 0, .int .i64 0, .int .i64 0] 25)) = W0 := ⟨_, rfl⟩
 rw [hW0] at hA0 hZ0 hB0 ⊢
 clear hW0
 obtain ⟨z0, z1, z2, z3, z4⟩ := hZ0.cells5
 dsimp only [RB.zero] at z0 z1 z2 z3 z4
 obtain ⟨a0, a1, a2, a3, a4, a5, a6, a7, a8, a9, a10, a11⟩ := RAc.cells12 hA0
 have y0 := hZ0.frozen 0
 have y1 := hZ0.frozen 1
 have y2 := hZ0.frozen 2
 have y3 := hZ0.frozen 3
 have y4 := hZ0.frozen 4
 have HB := Lib.hid hB0
 clear hA0 hZ0 hB0
 go_wp2_with fail
 refine bodyPost_ret (v := RB.val r.cards) (by simp [results, Tryz.results33, go_sem, z0, z1, z2, z3, z4]) rfl ⟨rfl, ?_⟩
 exact Below.setCell (Below.setCell (Below.setCell (Below.setCell (Below.setCell HB.out (Nat.le_succ _) _) (Nat.le_succ _) _) (Nat.le_succ _) _) (Nat.le_succ _) _) (Nat.le_succ _) _
def RAc.box (r : RAc) (book : Bool) : RB := if book then r.books else r.cards
def kindB (book : Bool) : Int := if book then 2 else 1
theorem boxOf_any (r : RAc) (book : Bool) (w : World) : Calls Tryz.prog 33 #[RAc.val r, .int .i64 (kindB book)] w fun e w' => e = .returned (RB.val (r.box book)) /\ Below w.heap.size w w' := by
 cases book
 ·exact boxCards_any r w
 ·exact boxBooks_any r w
theorem kind26_any (book : Bool) (w : World) : Calls Tryz.prog 8 #[.bool book] w fun e w' => e = .returned (.int .i64 (if book then 2 else 1)) /\ w' = w := by
 cases book
 ·go_enter Tryz.func8, Tryz.ntmps8
  go_wp2_with fail
  go_ret
  exact ⟨rfl, rfl⟩
 ·go_enter Tryz.func8, Tryz.ntmps8
  go_wp2_with fail
  go_ret
  exact ⟨rfl, rfl⟩
def badN : ByteArray := ⟨#[105, 110, 118, 97, 108, 105, 100, 65, 114, 103, 117, 109, 101, 110, 116, 115]⟩
def noAccN : ByteArray := ⟨#[97, 99, 99, 111, 117, 110, 116, 78, 111, 116, 70, 111, 117, 110, 100]⟩
def bigN : ByteArray := ⟨#[114, 101, 113, 117, 101, 115, 116, 84, 111, 111, 76, 97, 114, 103, 101]⟩
def whyB (known : Bool) (t : JV) (ks : List (ByteArray × Nat)) : ByteArray := if argsB t ks then (if known then ⟨#[]⟩ else noAccN) else badN
def BeginRet (w : World) (B : Nat) (known : Bool) (t : JV) (ks : List (ByteArray × Nat)) (e : Ending) (w' : World) : Prop := ∃ p n c, e = .returned (.tuple #[.slice p n c, .string (whyB known t ks)]) /\ Below w.heap.size w w' /\
 (argsB t ks = true -> known = true -> ∃ rs, Own w' w.heap.size 31 encV 5 (.slice p n c) rs /\ ks.length = rs.length /\ ∀ (i : Nat) k q, ks[i]? = some k -> rs[i]? = some q -> TreeOf w' B (argG t k) q)
theorem begin_any (w : World) (B : Nat) (known : Bool) (s : ByteArray) (ks : List (ByteArray × Nat)) (t : JV) (r : RV) (K : Kinds s ks) (hV : Vars w) (hBw : B <= w.heap.size) (ht : TreeOf w B t r) (ot : t.Ok) : Calls Tryz.prog 30 #[.bool known, r.val, .string s] w (BeginRet w B known t ks) := by
 have hB0 : Below w.heap.size w (w.alloc r.obj) := (Below.refl _ _).alloc (Nat.le_refl _) _
 have hA0 : VAt (w.alloc r.obj) w.heap.size r := heap_alloc_at rfl
 have HC : Hid (Calls Tryz.prog 75 #[r.val, .string s] (w.alloc r.obj) (ArgR (w.alloc r.obj) B t ks)) := args_any _ B s ks t r K (hV.below hB0) (Nat.le_trans hBw hB0.size) (ht.under (hB0.mono hBw) (Nat.le_refl _)) ot
 obtain ⟨k, n, s', pl, nl, cl, pm, nm, cm⟩ := r
 dsimp only [RV.val, RV.obj] at *
 obtain ⟨W0, hW0⟩ : ∃ W, w.alloc (.cells #[.int .i64 k, .int .i64 n, .string s', .slice pl nl cl, .slice pm nm cm] 31) = W := ⟨_, rfl⟩
 rw [hW0] at hB0 hA0 HC
 have HW := Lib.hid hW0
 have HB0 := Lib.hid hB0
 clear hW0 ht ot hB0
 unfold ArgR at HC
 unfold BeginRet whyB
 cases hab : argsB t ks
 ·rw [hab] at HC
  simp only [Bool.false_eq_true, if_false] at HC ⊢
  clear hab
  go_enter Tryz.func30, Tryz.ntmps30
  go_upto_region 1 with fail
  rw [HW.out]
  clear HW
  obtain ⟨a0, a1, a2, a3, a4⟩ := hA0.cells5
  go_wp2_with (go_at_call 75; refine HC.out.mono ?_; rintro e w1 ⟨rfl, hb1⟩)
  go_ret2
  exact ⟨none, 0, 0, rfl, HB0.out.trans (hb1.mono HB0.out.size), fun h => by cases h⟩
 ·rw [hab] at HC
  simp only [if_true] at HC ⊢
  clear hab
  unfold ArgOk at HC
  cases known
  ·simp only [Bool.false_eq_true, if_false]
   go_enter Tryz.func30, Tryz.ntmps30
   go_upto_region 1 with fail
   rw [HW.out]
   clear HW
   obtain ⟨a0, a1, a2, a3, a4⟩ := hA0.cells5
   go_wp2_with (go_at_call 75; refine HC.out.mono ?_; rintro e w1 ⟨p, m, c, rs, rfl, ho, hl, ht, hb1⟩)
   go_ret2
   exact ⟨none, 0, 0, rfl, HB0.out.trans (hb1.mono HB0.out.size), fun _ h => by cases h⟩
  ·simp only [if_true]
   go_enter Tryz.func30, Tryz.ntmps30
   go_upto_region 1 with fail
   rw [HW.out]
   clear HW
   obtain ⟨a0, a1, a2, a3, a4⟩ := hA0.cells5
   go_wp2_with (go_at_call 75; refine HC.out.mono ?_; rintro e w1 ⟨p, m, c, rs, rfl, ho, hl, ht, hb1⟩; have HX := Lib.hid (And.intro ho (And.intro hl ht)); clear ho hl ht)
   go_ret2
   exact ⟨p, m, c, rfl, HB0.out.trans (hb1.mono HB0.out.size), fun _ _ => ⟨rs, HX.out.1.mono HB0.out.size, HX.out.2.1, HX.out.2.2⟩⟩
theorem begin26_any (w : World) (B : Nat) (known : Bool) (s : ByteArray) (ks : List (ByteArray × Nat)) (t : JV) (r : RV) (K : KindsR s ks) (hBw : B <= w.heap.size) (ht : TreeOf w B t r) (ot : t.Ok) : Calls Tryz.prog 39 #[.bool known, r.val, .string s] w (BeginRet w B known t ks) := by
 have hB0 : Below w.heap.size w (w.alloc r.obj) := (Below.refl _ _).alloc (Nat.le_refl _) _
 have hA0 : VAt (w.alloc r.obj) w.heap.size r := heap_alloc_at rfl
 have HC : Hid (Calls Tryz.prog 83 #[r.val, .string s] (w.alloc r.obj) (ArgR (w.alloc r.obj) B t ks)) := args24_any _ B s ks t r K (Nat.le_trans hBw hB0.size) (ht.under (hB0.mono hBw) (Nat.le_refl _)) ot
 obtain ⟨k, n, s', pl, nl, cl, pm, nm, cm⟩ := r
 dsimp only [RV.val, RV.obj] at *
 obtain ⟨W0, hW0⟩ : ∃ W, w.alloc (.cells #[.int .i64 k, .int .i64 n, .string s', .slice pl nl cl, .slice pm nm cm] 31) = W := ⟨_, rfl⟩
 rw [hW0] at hB0 hA0 HC
 have HW := Lib.hid hW0
 have HB0 := Lib.hid hB0
 clear hW0 ht ot hB0
 unfold ArgR at HC
 unfold BeginRet whyB
 cases hab : argsB t ks
 ·rw [hab] at HC
  simp only [Bool.false_eq_true, if_false] at HC ⊢
  clear hab
  go_enter Tryz.func39, Tryz.ntmps39
  go_upto_region 1 with fail
  rw [HW.out]
  clear HW
  obtain ⟨a0, a1, a2, a3, a4⟩ := hA0.cells5
  go_wp2_with (go_at_call 83; refine HC.out.mono ?_; rintro e w1 ⟨rfl, hb1⟩)
  go_ret2
  exact ⟨none, 0, 0, rfl, HB0.out.trans (hb1.mono HB0.out.size), fun h => by cases h⟩
 ·rw [hab] at HC
  simp only [if_true] at HC ⊢
  clear hab
  unfold ArgOk at HC
  cases known
  ·simp only [Bool.false_eq_true, if_false]
   go_enter Tryz.func39, Tryz.ntmps39
   go_upto_region 1 with fail
   rw [HW.out]
   clear HW
   obtain ⟨a0, a1, a2, a3, a4⟩ := hA0.cells5
   go_wp2_with (go_at_call 83; refine HC.out.mono ?_; rintro e w1 ⟨p, m, c, rs, rfl, ho, hl, ht, hb1⟩)
   go_ret2
   exact ⟨none, 0, 0, rfl, HB0.out.trans (hb1.mono HB0.out.size), fun _ h => by cases h⟩
  ·simp only [if_true]
   go_enter Tryz.func39, Tryz.ntmps39
   go_upto_region 1 with fail
   rw [HW.out]
   clear HW
   obtain ⟨a0, a1, a2, a3, a4⟩ := hA0.cells5
   go_wp2_with (go_at_call 83; refine HC.out.mono ?_; rintro e w1 ⟨p, m, c, rs, rfl, ho, hl, ht, hb1⟩; have HX := Lib.hid (And.intro ho (And.intro hl ht)); clear ho hl ht)
   go_ret2
   exact ⟨p, m, c, rfl, HB0.out.trans (hb1.mono HB0.out.size), fun _ _ => ⟨rs, HX.out.1.mono HB0.out.size, HX.out.2.1, HX.out.2.2⟩⟩
theorem box26Books_any (r : RAc) (w : World) : Calls Tryz.prog 42 #[RAc.val r, .int .i64 2] w fun e w' => e = .returned (RB.val r.books) /\ Below w.heap.size w w' := by
 have hA0 : ((w.alloc (RAc.obj r)).alloc (.cells #[.slice none 0 0, .slice none 0 0, .int .i64 0, .int .i64 0, .int .i64 0] 25)).heap[w.heap.size]? = some (RAc.obj r) := heap_alloc_lt (by simp) (heap_alloc_at rfl)
 have hZ0 : BoxAt ((w.alloc (RAc.obj r)).alloc (.cells #[.slice none 0 0, .slice none 0 0, .int .i64 0, .int .i64 0, .int .i64 0] 25)) (w.heap.size + 1) RB.zero := heap_alloc_at (by simp)
 have hB0 : Below w.heap.size w ((w.alloc (RAc.obj r)).alloc (.cells #[.slice none 0 0, .slice none 0 0, .int .i64 0, .int .i64 0, .int .i64 0] 25)) := ((Below.refl _ _).alloc (Nat.le_refl _) _).alloc (by simp) _
 go_enter Tryz.func42, Tryz.ntmps42
 go_upto_region 1 with fail
 obtain ⟨W0, hW0⟩ : ∃ W0, ((w.alloc (RAc.obj r)).alloc (.cells #[.slice none 0 0, .slice none 0 0, .int .i64 0, .int .i64 0, .int .i64 0] 25)) = W0 := ⟨_, rfl⟩
 rw [hW0] at hA0 hZ0 hB0 ⊢
 clear hW0
 obtain ⟨z0, z1, z2, z3, z4⟩ := hZ0.cells5
 dsimp only [RB.zero] at z0 z1 z2 z3 z4
 obtain ⟨a0, a1, a2, a3, a4, a5, a6, a7, a8, a9, a10, a11⟩ := RAc.cells12 hA0
 have y0 := hZ0.frozen 0
 have y1 := hZ0.frozen 1
 have y2 := hZ0.frozen 2
 have y3 := hZ0.frozen 3
 have y4 := hZ0.frozen 4
 have HB := Lib.hid hB0
 clear hA0 hZ0 hB0
 go_wp2_with fail
 refine bodyPost_ret (v := RB.val r.books) (by simp [results, Tryz.results42, go_sem, z0, z1, z2, z3, z4]) rfl ⟨rfl, ?_⟩
 exact Below.setCell (Below.setCell (Below.setCell (Below.setCell (Below.setCell HB.out (Nat.le_succ _) _) (Nat.le_succ _) _) (Nat.le_succ _) _) (Nat.le_succ _) _) (Nat.le_succ _) _
theorem box26Cards_any (r : RAc) (w : World) : Calls Tryz.prog 42 #[RAc.val r, .int .i64 1] w fun e w' => e = .returned (RB.val r.cards) /\ Below w.heap.size w w' := by
 have hA0 : ((w.alloc (RAc.obj r)).alloc (.cells #[.slice none 0 0, .slice none 0 0, .int .i64 0, .int .i64 0, .int .i64 0] 25)).heap[w.heap.size]? = some (RAc.obj r) := heap_alloc_lt (by simp) (heap_alloc_at rfl)
 have hZ0 : BoxAt ((w.alloc (RAc.obj r)).alloc (.cells #[.slice none 0 0, .slice none 0 0, .int .i64 0, .int .i64 0, .int .i64 0] 25)) (w.heap.size + 1) RB.zero := heap_alloc_at (by simp)
 have hB0 : Below w.heap.size w ((w.alloc (RAc.obj r)).alloc (.cells #[.slice none 0 0, .slice none 0 0, .int .i64 0, .int .i64 0, .int .i64 0] 25)) := ((Below.refl _ _).alloc (Nat.le_refl _) _).alloc (by simp) _
 go_enter Tryz.func42, Tryz.ntmps42
 go_upto_region 1 with fail
 obtain ⟨W0, hW0⟩ : ∃ W0, ((w.alloc (RAc.obj r)).alloc (.cells #[.slice none 0 0, .slice none 0 0, .int .i64 0, .int .i64 0, .int .i64 0] 25)) = W0 := ⟨_, rfl⟩
 rw [hW0] at hA0 hZ0 hB0 ⊢
 clear hW0
 obtain ⟨z0, z1, z2, z3, z4⟩ := hZ0.cells5
 dsimp only [RB.zero] at z0 z1 z2 z3 z4
 obtain ⟨a0, a1, a2, a3, a4, a5, a6, a7, a8, a9, a10, a11⟩ := RAc.cells12 hA0
 have y0 := hZ0.frozen 0
 have y1 := hZ0.frozen 1
 have y2 := hZ0.frozen 2
 have y3 := hZ0.frozen 3
 have y4 := hZ0.frozen 4
 have HB := Lib.hid hB0
 clear hA0 hZ0 hB0
 go_wp2_with fail
 refine bodyPost_ret (v := RB.val r.cards) (by simp [results, Tryz.results42, go_sem, z0, z1, z2, z3, z4]) rfl ⟨rfl, ?_⟩
 exact Below.setCell (Below.setCell (Below.setCell (Below.setCell (Below.setCell HB.out (Nat.le_succ _) _) (Nat.le_succ _) _) (Nat.le_succ _) _) (Nat.le_succ _) _) (Nat.le_succ _) _
theorem box26_any (r : RAc) (book : Bool) (w : World) : Calls Tryz.prog 42 #[RAc.val r, .int .i64 (kindB book)] w fun e w' => e = .returned (RB.val (r.box book)) /\ Below w.heap.size w w' := by
 cases book
 ·exact box26Cards_any r w
 ·exact box26Books_any r w
end
end Go.Proofs.YtfgjimpmpckgpaaGreatDoor
