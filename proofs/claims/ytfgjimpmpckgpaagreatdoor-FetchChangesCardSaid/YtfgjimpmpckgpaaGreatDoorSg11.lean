import Derived.Test.YtfgjimpmpckgpaaGreatDoorSg10
import Derived.Test.YtfgjimpmpckgpaaGreatDoorSg04
import Derived.Deep.RegionHeld3
import Derived.WalkSmall
import Derived.Test.YtfgjimpmpckgpaaGreatDoorSg05
import Derived.Test.YtfgjimpmpckgpaaGreatDoorRows
import Derived.Lib.LaidTab
import Derived.Shelf.Vars
import Derived.MakeChecks
import Derived.LaidSub
import Derived.LaidLaws
import Derived.Shelf.Slices.Turned
import Derived.Test.YtfgjimpmpckgpaaGreatDoorProg
import Derived.Test.YtfgjimpmpckgpaaGreatDoorSg02
import Derived.Test.YtfgjimpmpckgpaaGreatDoorSg01
import Derived.Test.YtfgjimpmpckgpaaGreatDoorSg06
import Derived.Test.YtfgjimpmpckgpaaGreatDoorSg03
import Derived.Deep.QuietTactic
import Derived.BigQuiet
import Derived.Deep.RegionLaw
set_option linter.unusedSimpArgs false
set_option linter.unusedVariables false
set_option maxRecDepth 200000
set_option maxHeartbeats 8000000
namespace Go.Proofs.YtfgjimpmpckgpaaGreatDoor
section
open Go Go.RowKit Go.OpenShut
structure Vars (w : World) : Prop where
 len : ∃ m, w.cell? ⟨1, 0, none⟩ = some (.int .i64 m)
 tab : Lib.TabIs Tryz.prog w "strings.asciiSpace" .u8 Lib.asciiSpaceTab
theorem gSpace : Tryz.prog.globalNamed "strings.asciiSpace" = some 0 := by kernel_rfl
theorem Vars.below {w w' : World} (h : Vars w) (hb : Below w.heap.size w w') : Vars w' := by
 obtain ⟨⟨m, hm⟩, ht⟩ := h
 refine ⟨⟨m, bcs hb (cell_some hm).2 hm⟩, ?_⟩
 unfold Lib.TabIs at ht ⊢
 have hg : 0 < w.heap.size := by
  unfold World.var? at ht
  rw [gSpace] at ht
  simp only [Option.bind_some] at ht
  split at ht
  ·rename_i hh; exact (Array.getElem?_eq_some_iff.1 hh).1
  ·cases ht
 rw [<- ht]
 unfold World.var?
 rw [gSpace]
 simp only [Option.bind_some]
 rw [hb.block _ hg]
def nullJ : JV := .mk 1 0 ⟨#[]⟩ [] []
def argG (t : JV) (p : ByteArray × Nat) : JV := (t.get p.1).getD nullJ
def foundN (t : JV) (l : List (ByteArray × Nat)) : Nat := (l.filter (fun p => (t.get p.1).isSome)).length
def argsB (t : JV) (ks : List (ByteArray × Nat)) : Bool := decide (t.k = 6) && (ks.all (fun p => mayK p.2 (argG t p)) && decide (foundN t ks = t.m.length))
def wordL (p : ByteArray × Nat) : List UInt8 := p.1.data.toList ++ [58, UInt8.ofNat p.2]
def wordB (p : ByteArray × Nat) : ByteArray := ⟨(wordL p).toArray⟩
structure Kinds (s : ByteArray) (ks : List (ByteArray × Nat)) : Prop where
 words : Lib.fields s.data.toList = ks.map wordL
 cut : ∀ p ∈ ks, Lib.cut (wordL p) [58] = (p.1.data.toList, [UInt8.ofNat p.2], true)
 lets : ∀ p ∈ ks, p.2 ∈ letters
 asc : ∀ (j : Nat) b, s.data.toList[j]? = some b -> b.toNat < 128
 small : s.size <= 1000
 names : ∀ p ∈ ks, p.1.size <= 1000
 few : ks.length <= 100
def ArgOk (w : World) (B : Nat) (t : JV) (ks : List (ByteArray × Nat)) (e : Ending) (w' : World) : Prop := ∃ p n c rs, e = .returned (.tuple #[.slice p n c, .int .i64 0]) /\ Own w' w.heap.size 31 encV 5 (.slice p n c) rs /\ ks.length = rs.length /\ (∀ (i : Nat) k q, ks[i]? = some k -> rs[i]? = some q -> TreeOf w' B (argG t k) q) /\ Below w.heap.size w w'
def ArgR (w : World) (B : Nat) (t : JV) (ks : List (ByteArray × Nat)) (e : Ending) (w' : World) : Prop := if argsB t ks = true then ArgOk w B t ks e w' else e = .returned (.tuple #[.slice none 0 0, .int .i64 1]) /\ Below w.heap.size w w'
theorem argR_no {w : World} {B : Nat} {t : JV} {ks : List (ByteArray × Nat)} {w' : World} (h : argsB t ks = false) (hb : Below w.heap.size w w') : ArgR w B t ks (.returned (.tuple #[.slice none 0 0, .int .i64 1])) w' := by
 unfold ArgR
 rw [if_neg (by rw [h]; simp)]
 exact ⟨rfl, hb⟩
theorem letter_u8 {c : Nat} (h : c ∈ letters) : (UInt8.ofNat c).toNat = c := by
 simp only [letters, List.mem_cons, List.not_mem_nil, or_false] at h
 rcases h with rfl | rfl | rfl | rfl | rfl | rfl | rfl | rfl | rfl | rfl <;> rfl
theorem wordB_size (p : ByteArray × Nat) : (wordB p).size = p.1.size + 2 := by
 unfold wordB wordL
 rw [ByteArray.size, List.size_toArray, List.length_append, str_len]
 rfl
theorem cutW {s : ByteArray} {ks : List (ByteArray × Nat)} (K : Kinds s ks) {p : ByteArray × Nat} (hp : p ∈ ks) (W : World) (hV : ∃ m, W.cell? ⟨1, 0, none⟩ = some (.int .i64 m)) :
 Calls Tryz.prog 115 #[.string (wordB p), .string ⟨#[58]⟩] W fun e w' => e = .returned (.tuple #[.string p.1, .string ⟨#[UInt8.ofNat p.2]⟩, .bool true]) /\ ∃ n, w' = W.drewN n := by
 obtain ⟨m, hm⟩ := hV
 refine (strings_Cut (wordB p) ⟨#[58]⟩ m W (by rw [wordB_size]; have := K.names p hp; omega) hm).mono (fun e w' h => ⟨?_, h.2⟩)
 have hc : Lib.cut (wordB p).data.toList (⟨#[58]⟩ : ByteArray).data.toList = (p.1.data.toList, [UInt8.ofNat p.2], true) := K.cut p hp
 rw [h.1, hc]
theorem argG_ok {t : JV} (h : t.Ok) (p : ByteArray × Nat) : (argG t p).Ok := by
 unfold argG JV.get
 cases hp : t.place p.1 with
 | none => exact .mk (by decide) (by decide) (by decide) (by decide) (by decide) (fun i x h => by simp at h) (fun i x h => by simp at h) (fun i x h => by simp at h)
 | some i =>
   obtain ⟨q, h1, h2, h3⟩ := place_mem hp
   have hm : t.mem = t.m := by obtain ⟨k, n, s, l, m⟩ := t; show (if k = 6 then m else []) = m; exact if_pos h2
   simp only [Option.bind_some, hm, h1, Option.map_some, Option.getD_some]
   cases h with
   | mk _ _ _ _ _ _ _ cm => exact cm i q h1
theorem foundN_snoc (t : JV) {ks : List (ByteArray × Nat)} {k : Nat} {p : ByteArray × Nat} (h : ks[k]? = some p) : foundN t (ks.take (k + 1)) = foundN t (ks.take k) + if (t.get p.1).isSome then 1 else 0 := by
 unfold foundN
 rw [List.take_add_one, h]
 simp only [Option.toList_some, List.filter_append, List.length_append]
 congr 1
 rw [List.filter_cons]
 split <;> rfl
theorem foundN_le (t : JV) (l : List (ByteArray × Nat)) : foundN t l <= l.length := List.length_filter_le _ _
theorem args_any (w : World) (B : Nat) (s : ByteArray) (ks : List (ByteArray × Nat)) (t : JV) (r : RV) (K : Kinds s ks) (hV : Vars w) (hBw : B <= w.heap.size) (ht : TreeOf w B t r) (ot : t.Ok) : Calls Tryz.prog 75 #[r.val, .string s] w (ArgR w B t ks) := by
 obtain ⟨hk, hn, hs⟩ := ht.head
 obtain ⟨rms, hmr, hms, _⟩ := ht.mems
 have hB0 : Below w.heap.size w (w.alloc r.obj) := (Below.refl _ _).alloc (Nat.le_refl _) _
 have hA0 : VAt (w.alloc r.obj) w.heap.size r := heap_alloc_at rfl
 have hV0 := hV.below hB0
 have HT := Lib.hid ht
 have HOT := Lib.hid ot
 have HK := Lib.hid K
 have hnm : r.nm = t.m.length := by rw [hms.len]; exact rd_nlen hmr
 have HNM := Lib.hid hnm
 have hmle : t.m.length <= 1466015503658 := by cases ot with | mk _ _ _ _ hm _ _ _ => exact hm
 have HML := Lib.hid hmle
 clear hmr hms hnm hV ht ot hn hs hmle
 by_cases h6 : t.k = 6
 ·have HA6 : Hid (argsB t ks = (ks.all (fun p => mayK p.2 (argG t p)) && decide (foundN t ks = t.m.length))) := by unfold Hid argsB; rw [decide_eq_true h6]; rfl
  rw [h6] at hk
  obtain ⟨k, n, s', pl, nl, cl, pm, nm, cm⟩ := r
  dsimp only [RV.val, RV.obj] at *
  subst hk
  clear h6
  go_enter Tryz.func75, Tryz.ntmps75
  go_upto_region 1 with fail
  obtain ⟨W0, hW0⟩ : ∃ W, w.alloc (.cells #[.int .i64 6, .int .i64 n, .string s', .slice pl nl cl, .slice pm nm cm] 31) = W := ⟨_, rfl⟩
  rw [hW0] at hB0 hA0 hV0
  try rw [hW0]
  clear hW0
  obtain ⟨a0, a1, a2, a3, a4⟩ := hA0.cells5
  have HB0 := Lib.hid hB0
  have HA0 := Lib.hid hA0
  have HV0 := Lib.hid hV0
  clear hB0 hA0 hV0
  have HF : Hid (Calls Tryz.prog 114 #[.string s] W0 fun e w' => e = .returned (.slice (some ⟨W0.heap.size, 0, none⟩) ks.length ks.length) /\ w' = W0.alloc (.cells (ks.map (fun p => Value.string (wordB p))).toArray 9)) := by
   refine (strings_Fields s W0 (by have := HK.out.small; omega) HK.out.asc HV0.out.tab).mono (fun e w' h => ?_)
   rw [HK.out.words] at h
   rw [List.length_map, List.map_map] at h
   exact h
  go_wp2_with (go_at_call 114; refine HF.out.mono ?_; rintro e w1 ⟨rfl, rfl⟩)
  have hW1 : Below W0.heap.size W0 (W0.alloc (.cells (ks.map (fun p => Value.string (wordB p))).toArray 9)) := (Below.refl _ _).alloc (Nat.le_refl _) _
  have hwords : ∀ (i : Nat) p, ks[i]? = some p -> (W0.alloc (.cells (ks.map (fun p => Value.string (wordB p))).toArray 9)).cell? ⟨W0.heap.size, i, none⟩ = some (.string (wordB p)) := fun i p hp => by
   rw [cell_of_row _ W0.heap.size i _ _ _ (heap_alloc_at rfl), <- Array.getElem?_toList]
   simp [hp]
  have hsz1 : W0.heap.size < (W0.alloc (.cells (ks.map (fun p => Value.string (wordB p))).toArray 9)).heap.size := by simp
  obtain ⟨W1, hWW⟩ : ∃ W, W0.alloc (.cells (ks.map (fun p => Value.string (wordB p))).toArray 9) = W := ⟨_, rfl⟩
  obtain ⟨b, hb⟩ : ∃ b, W0.heap.size = b := ⟨_, rfl⟩
  rw [hWW] at hW1 hwords hsz1
  rw [hb] at hwords hsz1
  try rw [hWW]
  try rw [hb]
  have HB1 := Lib.hid (HB0.out.trans (hW1.mono HB0.out.size))
  have HV1 := Lib.hid (HV0.out.below hW1)
  have HA1 := Lib.hid (HA0.out.under hW1 HA0.out.lt)
  have HWD := Lib.hid hwords
  have hBW : B <= W1.heap.size := Nat.le_trans hBw HB1.out.size
  have hKF := HK.out.few
  clear hWW hb hW1 hwords HF HB0 HV0 HA0 a0 a1 a2 a3 a4
  go_loopw [6, 7, 21] (fun o f i wr => ∃ j : Nat, j <= ks.length /\ i = .int .i64 (j : Int) /\ f = .int .i64 (foundN t (ks.take j) : Nat) /\ Hid (∃ rs, Own wr W1.heap.size 31 encV 5 o rs /\ rs.length = j /\ (∀ (i : Nat) k q, ks[i]? = some k -> rs[i]? = some q -> TreeOf wr B (argG t k) q) /\ (∀ (i : Nat) k, i < j -> ks[i]? = some k -> mayK k.2 (argG t k) = true) /\ Below W1.heap.size W1 wr)) (fun _ _ i _ => ks.length - (intOf i).toNat)
  case atStart => exact ⟨0, Nat.zero_le _, rfl, rfl, [], Own.nil _ _ _, rfl, fun i k q _ h => by simp at h, fun i k h => by omega, Below.refl _ _⟩
  case round =>
   obtain ⟨j, hj, rfl, rfl, hH⟩ := hrel
   obtain ⟨rs, hO, hrl, hts, hmy, hbr⟩ := hH.out
   clear hH
   obtain ⟨po, no, co, rfl⟩ : ∃ p n c, u6 = Value.slice p n c := by obtain ⟨p, c, hv, _, _⟩ := hO.len; exact ⟨p, _, c, hv⟩
   have j0 : (0 : Int) <= (j : Int) := Int.natCast_nonneg _
   have HRL := Lib.hid hrl
   have HTS := Lib.hid hts
   have HMY := Lib.hid hmy
   have HBR := Lib.hid hbr
   have HO := Lib.hid hO
   have HFL := Lib.hid (foundN_le t (ks.take j))
   have htl : (ks.take j).length <= 100 := by rw [List.length_take]; omega
   obtain ⟨F, hF⟩ : ∃ F, foundN t (ks.take j) = F := ⟨_, rfl⟩
   have HFF := Lib.hid hF
   have hF100 : F <= 100 := by rw [<- hF]; have := HFL.out; omega
   rw [hF]
   clear hrl hts hmy hO hF htl
   by_cases hlt : j < ks.length
   ·have j1 : (j : Int) < (ks.length : Int) := by omega
    obtain ⟨p, hp⟩ : ∃ p, ks[j]? = some p := ⟨_, List.getElem?_eq_getElem hlt⟩
    have hpm := List.mem_of_getElem? hp
    have c0 := bcs hbr hsz1 (HWD.out j p hp)
    have HP := Lib.hid hp
    have HCUT : Hid (∀ W, (∃ m, W.cell? ⟨1, 0, none⟩ = some (.int .i64 m)) -> Calls Tryz.prog 115 #[.string (wordB p), .string ⟨#[58]⟩] W fun e w' => e = .returned (.tuple #[.string p.1, .string ⟨#[UInt8.ofNat p.2]⟩, .bool true]) /\ ∃ n, w' = W.drewN n) := fun W hW => cutW HK.out hpm W hW
    have HLT := Lib.hid (HK.out.lets p hpm)
    obtain ⟨wd, hwd⟩ : ∃ x, wordB p = x := ⟨_, rfl⟩
    obtain ⟨nme, hnme⟩ : ∃ x, p.1 = x := ⟨_, rfl⟩
    rw [hwd] at c0 HCUT
    rw [hnme] at HCUT
    have HNME := Lib.hid hnme
    clear hp hpm hwd hnme
    go_upto_region 9 with (go_at_call 115; refine (HCUT.out _ (HV1.out.below hbr).len).mono ?_; rintro e w' ⟨rfl, m, rfl⟩)
    have hb2 : Below W1.heap.size W1 (wr.drewN m) := bdn hbr m
    have hO2 : Own (wr.drewN m) W1.heap.size 31 encV 5 (.slice po no co) rs := HO.out.same (fun _ _ => rfl)
    have hts2 : ∀ (i : Nat) k q, ks[i]? = some k -> rs[i]? = some q -> TreeOf (wr.drewN m) B (argG t k) q := fun i k q a b => (HTS.out i k q a b).drewN m
    obtain ⟨w2, hw2⟩ : ∃ W, wr.drewN m = W := ⟨_, rfl⟩
    obtain ⟨L, hL⟩ : ∃ L : ByteArray, ⟨#[UInt8.ofNat p.2]⟩ = L := ⟨_, rfl⟩
    rw [hw2] at hb2 hO2 hts2
    try rw [hw2]
    try rw [hL]
    have HL := Lib.hid hL
    have hA2 := HA1.out.under hb2 (Nat.lt_of_lt_of_le HA1.out.lt (Nat.le_refl _))
    have HB2 := Lib.hid hb2
    have HO2 := Lib.hid hO2
    have HT2 := Lib.hid hts2
    obtain ⟨a0, a1, a2, a3, a4⟩ := hA2.cells5
    have HGT : Hid (Calls Tryz.prog 65 #[.agg #[.int .i64 6, .int .i64 n, .string s', .slice pl nl cl, .slice pm nm cm], .string nme] w2 (GetRetB w2 B (t.get nme))) := getB_any t ⟨6, n, s', pl, nl, cl, pm, nm, cm⟩ nme w2 B (Nat.le_trans hBW hb2.size) (HT.out.under ((HB1.out.mono hBw).trans (hb2.mono hBW)) (Nat.le_refl _)) HOT.out
    clear hw2 hL hb2 hO2 hts2 hbr hA2 c0 HO HTS HBR HCUT
    go_upto_region 10 with (go_at_call 65; refine HGT.out.mono ?_; rintro e w3 ⟨rv, bb, rfl, hbb, ht3, hb3⟩; obtain ⟨rk, rn, rS, rpl, rnl, rcl, rpm, rnm, rcm⟩ := rv)
    have hV4 : VAt (w3.alloc (.cells #[.int .i64 rk, .int .i64 rn, .string rS, .slice rpl rnl rcl, .slice rpm rnm rcm] 31)) w3.heap.size ⟨rk, rn, rS, rpl, rnl, rcl, rpm, rnm, rcm⟩ := heap_alloc_at rfl
    have ht4 := ht3.under (B' := B) ((Below.refl B w3).alloc (Nat.le_trans hBW (Nat.le_trans HB2.out.size hb3.size)) (.cells #[.int .i64 rk, .int .i64 rn, .string rS, .slice rpl rnl rcl, .slice rpm rnm rcm] 31)) (Nat.le_refl _)
    have hb4 : Below w2.heap.size w2 (w3.alloc (.cells #[.int .i64 rk, .int .i64 rn, .string rS, .slice rpl rnl rcl, .slice rpm rnm rcm] 31)) := hb3.alloc hb3.size (.cells #[.int .i64 rk, .int .i64 rn, .string rS, .slice rpl rnl rcl, .slice rpm rnm rcm] 31)
    have hz4 : W1.heap.size <= w3.heap.size := Nat.le_trans HB2.out.size hb3.size
    obtain ⟨b13, hb13⟩ : ∃ b, w3.heap.size = b := ⟨_, rfl⟩
    have hz5 : w2.heap.size <= b13 := by rw [<- hb13]; exact hb3.size
    obtain ⟨w4, hw4⟩ : ∃ W, w3.alloc (.cells #[.int .i64 rk, .int .i64 rn, .string rS, .slice rpl rnl rcl, .slice rpm rnm rcm] 31) = W := ⟨_, rfl⟩
    rw [hw4] at hV4 ht4 hb4
    rw [hb13] at hV4 hz4
    try rw [hw4]
    try rw [hb13]
    clear hw4 hb13 hb3 ht3 HGT a0 a1 a2 a3 a4
    have HT4 := Lib.hid ht4
    have HB4 := Lib.hid hb4
    have HV4 := Lib.hid hV4
    clear ht4 hb4 hV4
    cases hget : t.get nme
    all_goals first
     | (have hg2 : Hid (argG t p = nullJ /\ (t.get p.1).isSome = false) := by unfold Hid argG; rw [HNME.out, hget]; exact ⟨rfl, rfl⟩
        rw [hget] at hbb HT4
        simp only [Option.isSome_none] at hbb
        subst hbb
        obtain ⟨v0, v1, v2, v3, v4⟩ := HV4.out.cells5
        have y0 := HV4.out.frozen 0
        have y1 := HV4.out.frozen 1
        have y2 := HV4.out.frozen 2
        have y3 := HV4.out.frozen 3
        have y4 := HV4.out.frozen 4
        dsimp only at v0 v1 v2 v3 v4
        go_upto_region 13 with fail
        have hv5 : VAt (((((w4.setCell ⟨b13, 0, none⟩ (.int .i64 1)).setCell ⟨b13, 1, none⟩ (.int .i64 0)).setCell ⟨b13, 2, none⟩ (.string ⟨#[]⟩)).setCell ⟨b13, 3, none⟩ (.slice none 0 0)).setCell ⟨b13, 4, none⟩ (.slice none 0 0)) b13 (⟨1, 0, ⟨#[]⟩, none, 0, 0, none, 0, 0⟩ : RV) := HV4.out.stored (⟨1, 0, ⟨#[]⟩, none, 0, 0, none, 0, 0⟩ : RV)
        have hg5 : w4.grownBy (((((w4.setCell ⟨b13, 0, none⟩ (.int .i64 1)).setCell ⟨b13, 1, none⟩ (.int .i64 0)).setCell ⟨b13, 2, none⟩ (.string ⟨#[]⟩)).setCell ⟨b13, 3, none⟩ (.slice none 0 0)).setCell ⟨b13, 4, none⟩ (.slice none 0 0)) (some b13) := grownBy_set5 w4 b13 (⟨1, 0, ⟨#[]⟩, none, 0, 0, none, 0, 0⟩ : RV)
        have ht5 : TreeOf (((((w4.setCell ⟨b13, 0, none⟩ (.int .i64 1)).setCell ⟨b13, 1, none⟩ (.int .i64 0)).setCell ⟨b13, 2, none⟩ (.string ⟨#[]⟩)).setCell ⟨b13, 3, none⟩ (.slice none 0 0)).setCell ⟨b13, 4, none⟩ (.slice none 0 0)) B (argG t p) (⟨1, 0, ⟨#[]⟩, none, 0, 0, none, 0, 0⟩ : RV) := by rw [hg2.out.1]; exact (TreeS.leaf _ (fun _ => False) 1 0 ⟨#[]⟩).tree (fun k h => h.elim)
        obtain ⟨w5, hw5⟩ : ∃ W, (((((w4.setCell ⟨b13, 0, none⟩ (.int .i64 1)).setCell ⟨b13, 1, none⟩ (.int .i64 0)).setCell ⟨b13, 2, none⟩ (.string ⟨#[]⟩)).setCell ⟨b13, 3, none⟩ (.slice none 0 0)).setCell ⟨b13, 4, none⟩ (.slice none 0 0)) = W := ⟨_, rfl⟩
        rw [hw5] at hv5 hg5 ht5
        try rw [hw5]
        have HB5 : Hid (Below w2.heap.size w2 w5) := HB4.out.grown hg5 HB4.out.size (fun k e => by cases e; exact hz5)
        obtain ⟨q, hq⟩ : ∃ q : RV, (⟨1, 0, ⟨#[]⟩, none, 0, 0, none, 0, 0⟩ : RV) = q := ⟨_, rfl⟩
        rw [hq] at hv5 ht5
        have HFN : Hid ((F : Int) = (foundN t (ks.take (j + 1)) : Nat)) := by unfold Hid; rw [foundN_snoc t HP.out, hg2.out.2, HFF.out]; simp
        clear hw5 hq hg5 v0 v1 v2 v3 v4 y0 y1 y2 y3 y4 HV4 HT4 HB4)
     | (have hg2 : Hid (argG t p = (t.get nme).getD JV.zero /\ (t.get p.1).isSome = true) := by unfold Hid argG; rw [HNME.out, hget]; exact ⟨rfl, rfl⟩
        rw [hget] at hbb
        simp only [Option.isSome_some] at hbb
        subst hbb
        have hf1 : (F : Int) <= 100 := by omega
        have hf0 : (0 : Int) <= (F : Int) := Int.natCast_nonneg _
        go_upto_region 13 with fail
        obtain ⟨w5, rfl⟩ : ∃ W, W = w4 := ⟨_, rfl⟩
        obtain ⟨q, hq⟩ : ∃ q : RV, ⟨rk, rn, rS, rpl, rnl, rcl, rpm, rnm, rcm⟩ = q := ⟨_, rfl⟩
        have hv5 := HV4.out
        have ht5 := HT4.out
        rw [hq] at hv5 ht5
        rw [<- hg2.out.1] at ht5
        have HB5 := HB4
        have HFN : Hid ((F : Int) + 1 = (foundN t (ks.take (j + 1)) : Nat)) := by unfold Hid; rw [foundN_snoc t HP.out, hg2.out.2, HFF.out]; simp
        clear hq HV4 HT4 HB4)
    all_goals
     have HV5 := Lib.hid hv5
     have HT5 := Lib.hid ht5
     obtain ⟨qk, qn, qS, qpl, qnl, qcl, qpm, qnm, qcm⟩ := q
     have hLs : L.size = 1 := by rw [<- HL.out]; rfl
     have hl4 : 0 < L.size := by omega
     have hl3 : (0 : Int) < (L.size : Int) := by omega
     have hLn : L.toList ≠ [] := by rw [<- HL.out, ByteArray.toList_eq]; simp
     have hl0 : (L.toList == []) = false := by simpa using hLn
     have hl1 : L.toList.isEmpty = false := by simpa using hLn
     have hLx : (L[0]'hl4).toNat = p.2 := by
      have h2 := letter_u8 HLT.out
      have h1 : ∀ (M : ByteArray) (h : 0 < M.size), ⟨#[UInt8.ofNat p.2]⟩ = M -> M[0]'h = UInt8.ofNat p.2 := fun M h e => by subst e; rfl
      rw [h1 L hl4 HL.out, h2]
     have hVt : VAt w5 b13 ⟨qk, qn, qS, qpl, qnl, qcl, qpm, qnm, qcm⟩ := hv5
     have HMAY : Hid (∀ W, Below w5.heap.size w5 W -> Calls Tryz.prog 116 #[.int .u8 (((L[0]'hl4).toNat : Nat) : Int), .agg #[.int .i64 qk, .int .i64 qn, .string qS, .slice qpl qnl qcl, .slice qpm qnm qcm]] W fun e w' => e = .returned (.bool (mayK p.2 (argG t p))) /\ Below W.heap.size W w') := fun W hb => by
      rw [hLx]
      exact refsMay_any p.2 (argG t p) ⟨qk, qn, qS, qpl, qnl, qcl, qpm, qnm, qcm⟩ W HLT.out ((HT5.out.under (hb.mono (Nat.le_trans hBW (Nat.le_trans HB2.out.size HB5.out.size))) (Nat.le_refl _)).mono (Nat.le_trans (Nat.le_trans hBW (Nat.le_trans HB2.out.size HB5.out.size)) hb.size)) (argG_ok HOT.out p)
     have HKP : Hid (∀ W, Below w5.heap.size w5 W -> W.cell? ⟨b13, 0, none⟩ = some (.int .i64 qk) /\ W.cell? ⟨b13, 1, none⟩ = some (.int .i64 qn) /\ W.cell? ⟨b13, 2, none⟩ = some (.string qS) /\ W.cell? ⟨b13, 3, none⟩ = some (.slice qpl qnl qcl) /\ W.cell? ⟨b13, 4, none⟩ = some (.slice qpm qnm qcm)) := fun W hb => by
      have h := hVt.under hb hVt.lt
      exact ⟨h.cell 0 rfl, h.cell 1 rfl, h.cell 2 rfl, h.cell 3 rfl, h.cell 4 rfl⟩
     obtain ⟨bm, hbm⟩ : ∃ b, mayK p.2 (argG t p) = b := ⟨_, rfl⟩
     rw [hbm] at HMAY
     have HBM := Lib.hid hbm
     clear hv5 ht5 hLs hLn hLx hVt hbm
     have HKB : Hid (∀ n W, Below (w5.drewN n).heap.size (w5.drewN n) W -> Below w5.heap.size w5 W) := fun n W hb => (bdn (Below.refl _ _) n).trans hb
     cases bm
    all_goals
     go_region_held3 (fun w' => w'.cell? ⟨b13, 0, none⟩ = some (.int .i64 qk) /\ w'.cell? ⟨b13, 1, none⟩ = some (.int .i64 qn) /\ w'.cell? ⟨b13, 2, none⟩ = some (.string qS) /\ w'.cell? ⟨b13, 3, none⟩ = some (.slice qpl qnl qcl) /\ w'.cell? ⟨b13, 4, none⟩ = some (.slice qpm qnm qcm))
      (first | exact HKP.out _ (Below.refl _ _).drew | exact HKP.out _ hb6)
      ((go_at_call 116; refine (HMAY.out _ (Below.refl _ _).drew).mono ?_; rintro e w6 ⟨rfl, hb6'⟩; have hb6 : Below w5.heap.size w5 w6 := (Below.refl _ _).drew.trans hb6'))
     obtain ⟨x0, x1, x2, x3, x4⟩ := HKP.out _ hb6
     have HW6 : Hid (Below w2.heap.size w2 w6) := HB5.out.trans (hb6.mono HB5.out.size)
     have HX6 : Hid (Below w.heap.size w w6) := HB1.out.trans ((HB2.out.trans (HW6.out.mono HB2.out.size)).mono HB1.out.size)
     have HT6 : Hid (TreeOf w6 B (argG t p) ⟨qk, qn, qS, qpl, qnl, qcl, qpm, qnm, qcm⟩) := HT5.out.under (hb6.mono (Nat.le_trans hBW (Nat.le_trans HB2.out.size HB5.out.size))) (Nat.le_refl _)
     clear hb6 hb6' HMAY HKP HKB
     first
      | (have HNO : Hid (argsB t ks = false) := by unfold Hid; rw [HA6.out, all_not HP.out HBM.out]; try rfl
         go_wp2_with fail
         go_ret2
         exact argR_no HNO.out HX6.out)
      | (have HO6 := Lib.hid (HO2.out.below HW6.out (Nat.le_refl _))
         have hz6 : W1.heap.size <= w6.heap.size := Nat.le_trans HB2.out.size HW6.out.size
         have HLN : Hid (rs.length <= 100) := by have := HRL.out; unfold Hid; omega
         go_wp2_with (at_builtin; refine wpList_append_rd slV codecV (w6.alloc (.cells #[.int .i64 qk, .int .i64 qn, .string qS, .slice qpl qnl qcl, .slice qpm qnm qcm] 31)) rfl (.tmp 51) (.tmp 53) rfl (v := .slice po no co) rfl rfl (HO6.out.alloc _) (Rd.one (B := w6.heap.size + 1) (x := (⟨qk, qn, qS, qpl, qnl, qcl, qpm, qnm, qcm⟩ : RV)) codecV (heap_alloc_new _ _) rfl (by omega)) (by have := HLN.out; simp only [List.length_singleton]; unfold maxLen; omega) (by have := HLN.out; simp only [List.length_singleton]; omega) (by simp; omega) ?_; intro v7 w7 ho7 hg7 hat7)
         go_roundw
         case rel =>
          have hbA : Below W1.heap.size w6 (w6.alloc (.cells #[.int .i64 qk, .int .i64 qn, .string qS, .slice qpl qnl qcl, .slice qpm qnm qcm] 31)) := (Below.refl _ _).alloc hz6 _
          have hb7 : Below W1.heap.size w6 w7 := Below.appended hbA hg7 (HO6.out.alloc _) (by simp; omega)
          refine ⟨j + 1, by omega, by go_num, by first | (rw [<- HFN.out]; done) | (rw [<- HFN.out]; first | rfl | go_num), rs ++ [⟨qk, qn, qS, qpl, qnl, qcl, qpm, qnm, qcm⟩], ho7, by simp [HRL.out], fun i k q hk hq => ?_, fun i k hi hk => ?_, (HB2.out.trans (HW6.out.mono HB2.out.size)).trans hb7⟩
          ·rcases snoc_get hq with ⟨hi, hq⟩ | ⟨hi, rfl⟩
           ·exact (HT2.out i k q hk hq).under ((HW6.out.mono (Nat.le_trans hBW HB2.out.size)).trans (hb7.mono hBW)) (Nat.le_refl _)
           ·have e : k = p := by have h1 := HP.out; rw [hi, HRL.out, h1] at hk; exact (Option.some.inj hk).symm
            rw [e]
            exact HT6.out.under (hb7.mono hBW) (Nat.le_refl _)
          ·by_cases e : i = j
           ·have e2 : k = p := by have h1 := HP.out; rw [e, h1] at hk; exact (Option.some.inj hk).symm
            rw [e2]
            exact HBM.out
           ·exact HMY.out i k (by omega) hk
         case measure => simp [intOf]; omega)
   ·obtain rfl : j = ks.length := by omega
    have hAr := HA1.out.under hbr HA1.out.lt
    have a4 := hAr.cell 4 rfl
    dsimp only at a4
    have HALL : Hid (ks.all (fun p => mayK p.2 (argG t p)) = true) := all_take (fun i k hi hk => HMY.out i k hi hk)
    have htk : foundN t ks = F := by rw [<- HFF.out, List.take_length]
    have HTK := Lib.hid htk
    have HXR : Hid (Below w.heap.size w wr) := HB1.out.trans (hbr.mono HB1.out.size)
    have hsz := hbr.size
    clear htk hbr hAr
    by_cases hfn : F = nm
    ·have HYES : Hid (argsB t ks = true) := by unfold Hid; rw [HA6.out, HALL.out, HTK.out, hfn, HNM.out]; simp
     have q1 : ((F : Int) != (nm : Int)) = false := by simp; omega
     clear hfn
     go_wp2_with fail
     go_ret2
     unfold ArgR
     rw [if_pos HYES.out]
     exact ⟨po, no, co, rs, rfl, HO.out.mono HB1.out.size, HRL.out.symm, HTS.out, HXR.out⟩
    ·have HNO : Hid (argsB t ks = false) := by unfold Hid; rw [HA6.out, HALL.out, HTK.out, <- HNM.out, decide_eq_false hfn]; rfl
     have q1 : ((F : Int) != (nm : Int)) = true := by simp; omega
     clear hfn
     go_wp2_with fail
     go_ret2
     exact argR_no HNO.out HXR.out
 ·have hq : (r.k != 6) = true := by rw [<- hk]; simpa using h6
  have HR : Hid (argsB t ks = false) := by unfold Hid argsB; rw [decide_eq_false h6]; rfl
  obtain ⟨k, n, s', pl, nl, cl, pm, nm, cm⟩ := r
  dsimp only [RV.val, RV.obj] at *
  clear h6 hk
  go_enter Tryz.func75, Tryz.ntmps75
  go_upto_region 1 with fail
  obtain ⟨W0, hW0⟩ : ∃ W, w.alloc (.cells #[.int .i64 k, .int .i64 n, .string s', .slice pl nl cl, .slice pm nm cm] 31) = W := ⟨_, rfl⟩
  rw [hW0] at hB0 hA0
  try rw [hW0]
  obtain ⟨a0, a1, a2, a3, a4⟩ := hA0.cells5
  clear hW0
  go_wp2_with fail
  go_ret2
  exact argR_no HR.out hB0
end
section
open Go Go.RowKit Go.ChangeShapes Go.WideShapes Go.Deep
theorem cellsStrF : Tryz.prog.cellsOf 9 = 1 := by kernel_rfl
section
variable {H : Type} {enc : TypeId × Value -> H} {W : World} {base b0 : Nat} {spare : Nat -> Bool} {held : Bool}
end
theorem gSpaceType : (Tryz.prog.globals[0]?).map (·.type) = some 210 := by kernel_rfl
theorem vars_of {l : List (String × DataW Unit)} {W : World} (hl : (l.filter fun x => x.1 == "strings.asciiSpace") = [("strings.asciiSpace", Rows.laid_strings_asciiSpace)])
 (hn : (l.all fun x => x.2.handleName?.isNone) = true) (hL : laidMetH Tryz.prog l W) (hS : W.ShapedOpen Tryz.prog) : Vars W := by
 rw [MakeChecks.laidMetH_plain _ _ _ hn] at hL
 have h1 := hL.filter (fun x => x.1 == "strings.asciiSpace")
 rw [hl] at h1
 refine ⟨?_, ?_⟩
 ·exact Go.Proofs.cell_of_shapedOpen_int (zero := #[.int .i64 0]) (t := 3) hS (of_decide_eq_true (by kernel_rfl)) (by kernel_rfl) rfl (by kernel_rfl) (by kernel_rfl) Tryz.underlying3
 ·exact Lib.tabIs_of_head (zs := Lib.asciiSpaceTab) (rest := []) gSpace gSpaceType Tryz.underlying210 Tryz.underlying5 (by kernel_rfl) (by kernel_rfl) h1
end
section
open Go Go.Shelf
def lays110_ren : Go.Shelf.Ren := ⟨fun | 110 => 104 | 109 => 131 | n => n, fun | 31 => 57 | 9 => 9 | 4 => 4 | 3 => 3 | 0 => 0 | n => n, fun | n => n⟩
theorem lays110 : Go.Proofs.Lays.n110 Tryz.prog lays110_ren := {
 mixed := by kernel_rfl
 f109 := Tryz.func131.trans (congrArg some (by kernel_rfl))
 f110 := Tryz.func104.trans (congrArg some (by kernel_rfl))
 t0 := Tryz.underlying0
 a0 := Tryz.isAgg0
 z0 := Tryz.sizeOf0
 v0 := Tryz.zeroValue0
 t3 := Tryz.underlying3
 a3 := Tryz.isAgg3
 z3 := Tryz.sizeOf3
 v3 := Tryz.zeroValue3
 t4 := Tryz.underlying4
 a4 := Tryz.isAgg4
 z4 := Tryz.sizeOf4
 v4 := Tryz.zeroValue4
 t9 := Tryz.underlying9
 a9 := Tryz.isAgg9
 z9 := Tryz.sizeOf9
 v9 := Tryz.zeroValue9
 t31 := Tryz.underlying57
 a31 := Tryz.isAgg57
 z31 := Tryz.sizeOf57
 v31 := Tryz.zeroValue57 }
open Go.Lib in
theorem slices_Contains_string (b off n c : Nat) (zs : List ByteArray) (x : ByteArray) (w : World) (hz : n <= zs.length) (hbig : n <= 9223372036854775807) (hc : ∀ j, j < zs.length -> w.cell? ⟨b, off + j, none⟩ = some (.string (zs.getD j ByteArray.empty))) :
 Calls Tryz.prog 104 #[.slice (some ⟨b, off, none⟩) n c, .string x] w fun e w' => e = .returned (.bool (Lib.containsS (zs.take n) x)) /\ w' = w := Any.slices_Contains_string lays110 b off n c zs x w hz hbig hc
open Go.Lib in
theorem slices_Contains_string_empty (a : Option Addr) (c : Nat) (x : ByteArray) (w : World) :
 Calls Tryz.prog 104 #[.slice a 0 c, .string x] w fun e w' => e = .returned (.bool false) /\ w' = w := Any.slices_Contains_string_empty lays110 a c x w
end
section
open Go Go.RowKit Go.OpenShut
def inB (l : List ByteArray) (x : ByteArray) : Bool := l.any (fun y => decide (y = x))
theorem inB_iff {l : List ByteArray} {x : ByteArray} : inB l x = true ↔ x ∈ l := by
 unfold inB
 rw [List.any_eq_true]
 constructor
 ·rintro ⟨y, hy, h⟩
  have : y = x := of_decide_eq_true h
  subst this
  exact hy
 ·intro h
  exact ⟨x, h, decide_eq_true rfl⟩
def addU (acc : List ByteArray) (s : ByteArray) : List ByteArray := if inB acc s = true then acc else acc ++ [s]
theorem addU_len (acc : List ByteArray) (s : ByteArray) : (addU acc s).length <= acc.length + 1 := by
 unfold addU
 split <;> simp
theorem foldU_len : ∀ (l acc : List ByteArray), (l.foldl addU acc).length <= acc.length + l.length
 | [], acc => by simp
 | x :: l, acc => by
   have h1 := foldU_len l (addU acc x)
   have h2 := addU_len acc x
   simp only [List.foldl_cons, List.length_cons]
   omega
def askedL (b : BoxD) (v : JV) : List ByteArray := if v.k = 1 then b.objs.map (·.1) else (v.l.map JV.s).foldl addU []
theorem containsS_dec (l : List ByteArray) (x : ByteArray) : Lib.containsS l x = inB l x := by
 have h := Lib.containsS_iff l x
 cases hx : inB l x with
 | true => exact h.2 (inB_iff.1 hx)
 | false =>
   cases hc : Lib.containsS l x with
   | false => rfl
   | true =>
     have h2 := inB_iff.2 (h.1 hc)
     rw [hx] at h2
     cases h2
theorem containsS_rd {w : World} {B : Nat} {p : Option Addr} {n c : Nat} {l : List ByteArray} (hr : Rd w B encS 1 (.slice p n c) l) (hn : l.length <= 1000000) (x : ByteArray) : Calls Tryz.prog 104 #[.slice p n c, .string x] w fun e w' => e = .returned (.bool (inB l x)) /\ w' = w := by
 have hnl := rd_nlen hr
 by_cases h0 : 0 < l.length
 ·obtain ⟨x0, hx0⟩ : ∃ x, l[0]? = some x := ⟨_, List.getElem?_eq_getElem h0⟩
  obtain ⟨b1, o1, rfl, hb1, _⟩ := rd_at' hr hx0
  refine (slices_Contains_string b1 o1 n c l x w (by omega) (by omega) (fun j hj => ?_)).mono (fun e w' h => ⟨?_, h.2⟩)
  ·obtain ⟨y, hy⟩ : ∃ y, l[j]? = some y := ⟨_, List.getElem?_eq_getElem hj⟩
   obtain ⟨b2, o2, he, _, hc2⟩ := rd_at' hr hy
   injection he with he
   injection he with h1 h2
   subst h1 h2
   have h3 := hc2 0 _ rfl
   rw [Nat.add_zero, Nat.mul_one] at h3
   rw [h3, List.getD_eq_getElem?_getD, hy]
   rfl
  ·rw [h.1, List.take_of_length_le (by omega), containsS_dec]
 ·have : l = [] := List.eq_nil_of_length_eq_zero (by omega)
  subst this
  simp only [List.length_nil] at hnl
  subst hnl
  refine (slices_Contains_string_empty p c x w).mono (fun e w' h => ⟨?_, h.2⟩)
  rw [h.1]
  rfl
theorem asked_any (b : BoxD) (r : RB) (v : JV) (vr : RV) (w : World) (hb : BoxOf w w.heap.size b r) (ob : b.Ok) (hv : TreeOf w w.heap.size v vr) (hvl : v.l.length <= 100000) :
 Calls Tryz.prog 66 #[RB.val r, RV.val vr] w (IdsRet w (askedL b v)) := by
 obtain ⟨hvk, _, _⟩ := hv.head
 obtain ⟨rs, hrs, hlen, hts⟩ := hv.lst
 obtain ⟨vk, vn, vs, vpl, vnl, vcl, vpm, vnm, vcm⟩ := vr
 obtain ⟨po, no, co, pt, nt, ct, sq, fl, kp⟩ := r
 dsimp only [RV.val, RB.val] at *
 have hn := rd_nlen hrs
 obtain ⟨W0, hW0⟩ : ∃ W0, (w.alloc (.cells #[.slice po no co, .slice pt nt ct, .int .i64 sq, .int .i64 fl, .int .i64 kp] 25)).alloc (.cells #[.int .i64 vk, .int .i64 vn, .string vs, .slice vpl vnl vcl, .slice vpm vnm vcm] 31) = W0 := ⟨_, rfl⟩
 have hA0 : BoxAt W0 w.heap.size ⟨po, no, co, pt, nt, ct, sq, fl, kp⟩ := by rw [<- hW0]; exact heap_alloc_lt (by simp) (heap_alloc_at rfl)
 have hV0 : VAt W0 (w.heap.size + 1) ⟨vk, vn, vs, vpl, vnl, vcl, vpm, vnm, vcm⟩ := by rw [<- hW0]; exact heap_alloc_at (by simp)
 have hB0 : Below w.heap.size w W0 := by rw [<- hW0]; exact below2 w _ _
 have HW := Lib.hid hW0
 have HB0 := Lib.hid hB0
 have HI : Hid (Calls Tryz.prog 103 #[RB.val ⟨po, no, co, pt, nt, ct, sq, fl, kp⟩] W0 (IdsRet W0 (b.objs.map (·.1)))) := ids_any b ⟨po, no, co, pt, nt, ct, sq, fl, kp⟩ W0 (hb.under hB0 hB0.size) ob
 have HRS := Lib.hid hrs
 have HTS := Lib.hid hts
 have HN : Hid (v.l.length = vnl /\ rs.length = vnl) := ⟨by omega, hn.symm⟩
 have hvn : vnl <= 100000 := by omega
 clear hW0 hb ob hv hrs hts hlen hn hvl hB0
 by_cases h1 : v.k = 1
 ·have HA : Hid (askedL b v = b.objs.map (·.1)) := by unfold Hid askedL; rw [if_pos h1]
  rw [hvk] at h1
  subst h1
  rw [HA.out]
  go_enter Tryz.func66, Tryz.ntmps66
  go_upto_region 1 with fail
  rw [HW.out]
  clear HW
  obtain ⟨a0, a1, a2, a3, a4⟩ := hA0.cells5
  have v0 := hV0.cell 0 rfl
  dsimp only at v0
  go_wp2_with (go_at_call 103; refine HI.out.mono ?_; rintro e w1 ⟨u, rfl, ho, hb1⟩; have HX := Lib.hid (And.intro ho hb1); clear ho hb1)
  go_ret
  exact ⟨_, rfl, HX.out.1.mono HB0.out.size, HB0.out.trans (HX.out.2.mono HB0.out.size)⟩
 ·have HA : Hid (askedL b v = (v.l.map JV.s).foldl addU []) := by unfold Hid askedL; rw [if_neg h1]
  have hq : (vk == 1) = false := by rw [hvk] at h1; simpa using h1
  rw [HA.out]
  clear h1 HI HA
  go_enter Tryz.func66, Tryz.ntmps66
  go_upto_region 1 with fail
  rw [HW.out]
  clear HW
  have v0 := hV0.cell 0 rfl
  have v3 := hV0.cell 3 rfl
  dsimp only at v0 v3
  clear hA0 hV0
  go_wp2_with fail
  go_loopw [5, 16] (fun o i wr => ∃ k : Nat, k <= vnl /\ i = .int .i64 k /\ Hid (Own wr w.heap.size 9 encS 1 o (((v.l.map JV.s).take k).foldl addU []) /\ Below w.heap.size w wr)) (fun _ i _ => vnl - (intOf i).toNat)
  case atStart => exact ⟨0, Nat.zero_le _, rfl, Own.nil _ _ _, HB0.out⟩
  case round =>
   obtain ⟨k, hk, rfl, hH⟩ := hrel
   obtain ⟨hO, hbr⟩ := hH.out
   clear hH
   by_cases hlt : k < vnl
   ·obtain ⟨p, n, c, rfl⟩ : ∃ p n c, u5 = Value.slice p n c := by obtain ⟨p, c, hv, _, _⟩ := hO.len; exact ⟨p, _, c, hv⟩
    obtain ⟨y, hy⟩ : ∃ y, v.l[k]? = some y := ⟨_, List.getElem?_eq_getElem (by have := HN.out; omega)⟩
    obtain ⟨⟨xk, xn, xs, xpl, xnl, xcl, xpm, xnm, xcm⟩, hx⟩ : ∃ x, rs[k]? = some x := ⟨_, List.getElem?_eq_getElem (by have := HN.out; omega)⟩
    obtain ⟨_, _, hys⟩ := (HTS.out k y _ hy hx).head
    dsimp only at hys
    have HTK : Hid (((v.l.map JV.s).take (k + 1)).foldl addU [] = addU (((v.l.map JV.s).take k).foldl addU []) xs) := by
     unfold Hid
     rw [List.take_add_one, List.getElem?_map, hy, Option.map_some, Option.toList_some, List.foldl_append, hys]
     rfl
    obtain ⟨b1, o1, rfl, hb1, hc1⟩ := rd_at' (HRS.out.below hbr (Nat.le_refl _)) hx
    have f0 := hc1 0 _ rfl
    have f1 := hc1 1 _ rfl
    have f2 := hc1 2 _ rfl
    have f3 := hc1 3 _ rfl
    have f4 := hc1 4 _ rfl
    rw [Nat.add_zero] at f0
    dsimp only at f0 f1 f2 f3 f4
    have hk0 : (0 : Int) <= (k : Int) := Int.natCast_nonneg _
    have hk1 : (k : Int) < (vnl : Int) := by omega
    obtain ⟨L, hL⟩ : ∃ L, ((v.l.map JV.s).take k).foldl addU [] = L := ⟨_, rfl⟩
    have hLl : L.length <= 100000 := by
     have := foldU_len ((v.l.map JV.s).take k) []
     rw [hL] at this
     simp at this
     omega
    rw [hL] at hO HTK
    have HLL := Lib.hid hLl
    have HBR := Lib.hid hbr
    have HO := Lib.hid hO
    have ho1 := hO.alloc (.cells #[.int .i64 xk, .int .i64 xn, .string xs, .slice xpl xnl xcl, .slice xpm xnm xcm] 31)
    have HO1 := Lib.hid ho1
    have HC : Hid (Calls Tryz.prog 104 #[.slice p n c, .string xs] (wr.alloc (.cells #[.int .i64 xk, .int .i64 xn, .string xs, .slice xpl xnl xcl, .slice xpm xnm xcm] 31)) fun e w' => e = .returned (.bool (inB L xs)) /\ w' = wr.alloc (.cells #[.int .i64 xk, .int .i64 xn, .string xs, .slice xpl xnl xcl, .slice xpm xnm xcm] 31)) := containsS_rd (ho1.rd codecS) (by omega) xs
    have HB1 : Hid (Below w.heap.size w (wr.alloc (.cells #[.int .i64 xk, .int .i64 xn, .string xs, .slice xpl xnl xcl, .slice xpm xnm xcm] 31))) := hbr.alloc hbr.size _
    have HV1 : Hid (VAt (wr.alloc (.cells #[.int .i64 xk, .int .i64 xn, .string xs, .slice xpl xnl xcl, .slice xpm xnm xcm] 31)) wr.heap.size ⟨xk, xn, xs, xpl, xnl, xcl, xpm, xnm, xcm⟩) := heap_alloc_at rfl
    have hz1 : w.heap.size <= wr.heap.size := hbr.size
    obtain ⟨d, hd⟩ : ∃ d, inB L xs = d := ⟨_, rfl⟩
    rw [hd] at HC
    have HD := Lib.hid hd
    clear hd hy hx hys hc1 hbr hO ho1 hL hLl
    cases d
    ·go_upto_region 7 with fail
     obtain ⟨W1, hW1⟩ : ∃ W, wr.alloc (.cells #[.int .i64 xk, .int .i64 xn, .string xs, .slice xpl xnl xcl, .slice xpm xnm xcm] 31) = W := ⟨_, rfl⟩
     obtain ⟨g7, hg7⟩ : ∃ g, wr.heap.size = g := ⟨_, rfl⟩
     rw [hW1] at HC HB1 HO1
     rw [hW1, hg7] at HV1
     try rw [hW1]
     try rw [hg7]
     have e2 := HV1.out.cell 2 rfl
     dsimp only at e2
     have hz2 : w.heap.size <= W1.heap.size := HB1.out.size
     clear hW1 hg7
     have HR1 : Hid (Rd (W1.alloc (.cells #[.string xs] 9)) (W1.heap.size + 1) encS 1 (.slice (some ⟨W1.heap.size, 0, none⟩) 1 1) [xs]) := Rd.one codecS (heap_alloc_at rfl) rfl (by omega)
     have HO2 := Lib.hid (HO1.out.alloc (.cells #[.string xs] 9))
     go_wp2_with (first
      | (go_at_call 104; refine HC.out.mono ?_; rintro e w2 ⟨rfl, hw2⟩; obtain rfl : W1 = w2 := hw2.symm)
      | (at_builtin; refine wpList_append_rd slS codecS (W1.alloc (.cells #[.string xs] 9)) rfl (.tmp 25) (.tmp 28) rfl (v := .slice p n c) rfl rfl HO2.out HR1.out (by have := HLL.out; simp only [List.length_singleton]; unfold maxLen; omega) (by have := HLL.out; simp only [List.length_singleton]; omega) (by simp; omega) ?_; intro v8 w8 ho8 hg8 hat8))
     go_roundw
     case rel =>
      refine ⟨k + 1, by omega, by go_num, ?_, Below.appended (HB1.out.alloc hz2 _) hg8 HO2.out (by simp; omega)⟩
      rw [HTK.out]
      have hnm : addU L xs = L ++ [xs] := by unfold addU; rw [if_neg (by rw [HD.out]; simp)]
      rw [hnm]
      exact ho8
     case measure => simp [intOf]; omega
    ·go_upto_region 7 with fail
     obtain ⟨W1, hW1⟩ : ∃ W, wr.alloc (.cells #[.int .i64 xk, .int .i64 xn, .string xs, .slice xpl xnl xcl, .slice xpm xnm xcm] 31) = W := ⟨_, rfl⟩
     obtain ⟨g7, hg7⟩ : ∃ g, wr.heap.size = g := ⟨_, rfl⟩
     rw [hW1] at HC HB1 HO1
     rw [hW1, hg7] at HV1
     try rw [hW1]
     try rw [hg7]
     have e2 := HV1.out.cell 2 rfl
     dsimp only at e2
     clear hW1 hg7
     go_wp2_with (go_at_call 104; refine HC.out.mono ?_; rintro e w2 ⟨rfl, hw2⟩; obtain rfl : W1 = w2 := hw2.symm)
     go_roundw
     case rel =>
      refine ⟨k + 1, by omega, by go_num, ?_, HB1.out⟩
      rw [HTK.out]
      have hnm : addU L xs = L := by unfold addU; rw [if_pos HD.out]
      rw [hnm]
      exact HO1.out
     case measure => simp [intOf]; omega
   ·obtain rfl : k = vnl := by omega
    have hta : (v.l.map JV.s).take k = v.l.map JV.s := List.take_of_length_le (by have := HN.out; simp; omega)
    rw [hta] at hO
    have HX := Lib.hid (And.intro hO hbr)
    clear hO hbr hta
    go_wp2_with fail
    go_ret
    exact ⟨_, rfl, HX.out.1, HX.out.2⟩
end
section
open Go Go.RowKit
def badU (s : ByteArray) : Nat -> Nat -> Nat
 | 0, a => a
 | f + 1, a => if a < s.size /\ (oneU s a).2 ≠ 0 then badU s f (a + (oneU s a).2) else a
def badF (s : ByteArray) : Nat := badU s s.size 0
theorem badU_le (s : ByteArray) : ∀ f a, a <= s.size -> badU s f a <= s.size
 | 0, a, h => h
 | f + 1, a, h => by
   unfold badU
   split
   ·exact badU_le s f _ (oneU_le s a h).1
   ·exact h
theorem badF_le (s : ByteArray) : badF s <= s.size := badU_le s _ _ (Nat.zero_le _)
theorem badU_yes {s : ByteArray} {f a n : Nat} {p : Int} (ha : a < s.size) (ho : oneU s a = (p, n)) (hn : n ≠ 0) : badU s (f + 1) a = badU s f (a + n) := by
 rw [badU, if_pos ⟨ha, by rw [ho]; exact hn⟩, ho]
theorem badU_no {s : ByteArray} {f a : Nat} {p : Int} (ho : oneU s a = (p, 0)) : badU s f a = a := by
 cases f with
 | zero => rfl
 | succ f => rw [badU, if_neg (by rw [ho]; simp)]
theorem badU_end {s : ByteArray} {f : Nat} : badU s f s.size = s.size := by
 cases f with
 | zero => rfl
 | succ f => rw [badU, if_neg (by simp)]
theorem ret_int1 {k : IntKind} {a b : Int} (h : a = b) : Ending.returned (.int k a) = .returned (.int k b) := by rw [h]
theorem bad_any (s : ByteArray) (w : World) (hs : s.size <= maxLen) :
 Calls Tryz.prog 139 #[.string s] w fun e w' => e = .returned (.int .i64 (badF s : Nat)) /\ w = w' := by
 have HS := Lib.hid hs
 unfold maxLen at hs
 go_enter Tryz.func139, Tryz.ntmps139
 go_wp2_with fail
 go_loop [3] (fun av => ∃ (a f : Nat), a <= s.size /\ s.size <= a + f /\ av = .int .i64 a /\ Hid (badU s f a = badF s)) (fun av => s.size - (intOf av).toNat)
 case atStart => exact ⟨0, s.size, Nat.zero_le _, by omega, rfl, rfl⟩
 case round =>
  obtain ⟨a, f, ha, hf, rfl, hb⟩ := hrel
  by_cases hlt : a < s.size
  ·have HC : Hid (∀ w : World, Calls Tryz.prog 171 #[.string s, .int .i64 a] w fun e w' => e = .returned (.tuple #[.int .i32 (oneU s a).1, .int .i64 (oneU s a).2]) /\ w = w') := fun w => one_any s a w HS.out hlt
   have hle := oneU_le s a ha
   obtain ⟨f, rfl⟩ : ∃ f', f = f' + 1 := ⟨f - 1, by omega⟩
   unfold Hid at HC
   generalize ho : oneU s a = o at HC hle
   obtain ⟨p, n⟩ := o
   dsimp only at HC hle
   have HC := Lib.hid HC
   by_cases h0 : n = 0
   ·subst h0
    have HR : Hid (a = badF s) := by have h := hb.out; rw [badU_no ho] at h; exact h
    clear ho
    go_wp2_with (go_at_call 171; refine (HC.out _).mono ?_; rintro e w' ⟨rfl, rfl⟩)
    go_ret
    exact ⟨ret_int1 (by rw [<- HR.out]), rfl⟩
   ·have HR : Hid (badU s f (a + n) = badF s) := by have h := hb.out; rw [badU_yes hlt ho h0] at h; exact h
    have q0 : ((n : Int) == 0) = false := by simp; omega
    clear ho
    go_wp2_with (go_at_call 171; refine (HC.out _).mono ?_; rintro e w' ⟨rfl, rfl⟩)
    exact ⟨⟨a + n, f, hle.1, by omega, by go_num, HR⟩, by simp [intOf]; omega⟩
  ·obtain rfl : a = s.size := by omega
   have HR : Hid (s.size = badF s) := by have h := hb.out; rw [badU_end] at h; exact h
   go_wp2_with fail
   go_ret
   exact ⟨ret_int1 (by rw [<- HR.out]), rfl⟩
end
section
open Go.RowKit Go.OpenShut
inductive SameT : JV -> JV -> Prop
 | mk {k n : Int} {s : ByteArray} {l l' : List JV} {m m' : List (ByteArray × JV)} (el : l.length = l'.length) (em : m.length = m'.length) (cl : ∀ (i : Nat) (t u : JV), l[i]? = some t -> l'[i]? = some u -> SameT t u)
  (cf : ∀ (i : Nat) (p : ByteArray × JV), m[i]? = some p -> m'.findIdx? (fun q => decide (q.1 = p.1)) ≠ none)
  (cm : ∀ (i j : Nat) (p q : ByteArray × JV), m[i]? = some p -> m'.findIdx? (fun q => decide (q.1 = p.1)) = some j -> m'[j]? = some q -> SameT p.2 q.2) : SameT (.mk k n s l m) (.mk k n s l' m')
section
variable {P : Program} (w : World) {ops : Array Oper} {rest : List Oper} {o : Oper} {a : Act} {Q : Exit -> Act -> World -> Prop}
end
theorem bytes_ext {a b : ByteArray} (h : a.data.toList = b.data.toList) : a = b := by
 obtain ⟨⟨x⟩⟩ := a
 obtain ⟨⟨y⟩⟩ := b
 simp only at h
 rw [h]
def goodN (l : List ByteArray) : Bool := l.all (fun n => badF n == n.size) && decide l.Nodup
def nameF (l : List ByteArray) (u : List UInt8) : Option Value := if u ∈ l.map (·.data.toList) then some (.bool true) else none
theorem nameF_snoc (l : List ByteArray) (n : ByteArray) : nameF (l ++ [n]) = fun u => if u = n.data.toList then some (.bool true) else nameF l u := by
 funext u
 unfold nameF
 rw [List.map_append, List.map_singleton]
 by_cases h : u = n.data.toList <;> simp [h]
theorem mem_bytes (l : List ByteArray) (n : ByteArray) : n.data.toList ∈ l.map (·.data.toList) ↔ n ∈ l := by
 rw [List.mem_map]
 constructor
 ·rintro ⟨a, ha, h⟩
  obtain rfl : a = n := by
   have := Array.ext' h
   cases a; cases n; simp_all
  exact ha
 ·exact fun h => ⟨n, h, rfl⟩
theorem goodN_snoc (l : List ByteArray) (n : ByteArray) : goodN (l ++ [n]) = true ↔ goodN l = true /\ badF n = n.size /\ n ∉ l := by
 unfold goodN
 simp only [List.all_append, List.all_cons, List.all_nil, Bool.and_true, Bool.and_eq_true, decide_eq_true_eq, List.nodup_append, List.nodup_cons, List.mem_singleton, List.not_mem_nil, not_false_eq_true, List.nodup_nil, and_true, true_and, beq_iff_eq]
 constructor
 ·rintro ⟨⟨a, b⟩, c, d⟩
  exact ⟨⟨a, c⟩, b, fun h => d n h n rfl rfl⟩
 ·rintro ⟨⟨a, c⟩, b, d⟩
  exact ⟨⟨a, b⟩, c, fun x hx y hy => by subst hy; exact fun e => d (e ▸ hx)⟩
theorem goodN_left (a b : List ByteArray) (h : goodN a = false) : goodN (a ++ b) = false := by
 cases e : goodN (a ++ b) with
 | false => rfl
 | true =>
   unfold goodN at e h
   rw [List.all_append, Bool.and_eq_true, Bool.and_eq_true, decide_eq_true_eq, List.nodup_append] at e
   rw [e.1.1, decide_eq_true e.2.1] at h
   cases h
theorem take_split {α : Type} {l : List α} {k : Nat} {x : α} (h : l[k]? = some x) : l.take (k + 1) = l.take k ++ [x] := by
 rw [List.take_add_one, h]; rfl
theorem names_any (p : Option Addr) (n c : Nat) (rms : List RM) (w : World) (hm : Rd w w.heap.size encM 6 (.slice p n c) rms) (hs : ∀ (i : Nat) q, rms[i]? = some q -> q.name.size <= maxLen) (hn : n <= 1466015503658) :
 Calls Tryz.prog 140 #[.slice p n c] w fun e w' => e = .returned (.bool (goodN (rms.map (·.name)))) /\ Below w.heap.size w w' := by
 have eM := rd_nlen hm
 have HM := Lib.hid hm
 have HZ := Lib.hid hs
 have E2 := Lib.hid eM
 have hM0 : Hid (MapF (w.alloc (.map #[] 0)) Tryz.prog 9 w.heap.size 0 (nameF [])) := MapF.made w Tryz.prog 9
 have hB0 : Below w.heap.size w (w.alloc (.map #[] 0)) := (Below.refl _ _).alloc (Nat.le_refl _) _
 clear hm hs eM
 go_enter Tryz.func140, Tryz.ntmps140
 have hmm := @run_makeMap Tryz.prog
 go_upto_region 2 with fail
 clear hmm
 obtain ⟨W0, hW0⟩ : ∃ W, w.alloc (.map #[] 0) = W := ⟨_, rfl⟩
 rw [hW0] at hM0 hB0 ⊢
 clear hW0
 go_wp2_with fail
 go_loopw [9] (fun i wr => ∃ k : Nat, k <= n /\ i = .int .i64 k /\ Hid (MapF wr Tryz.prog 9 w.heap.size k (nameF ((rms.take k).map (·.name)))) /\ Hid (goodN ((rms.take k).map (·.name)) = true) /\ Below w.heap.size w wr) (fun i _ => n - (intOf i).toNat)
 case atStart => exact ⟨0, Nat.zero_le _, rfl, hM0, rfl, hB0⟩
 case round =>
  obtain ⟨k, hk, rfl, hMF, hgd, hbr⟩ := hrel
  by_cases hlt : k < n
  ·obtain ⟨x, hx⟩ : ∃ x, rms[k]? = some x := ⟨_, List.getElem?_eq_getElem (by have := E2.out; omega)⟩
   obtain ⟨b1, o1, rfl, hb1, hc1⟩ := rd_at' (HM.out.below hbr (Nat.le_refl _)) hx
   have f0 := hc1 0 _ rfl
   have f1 := hc1 1 _ rfl
   have f2 := hc1 2 _ rfl
   have f3 := hc1 3 _ rfl
   have f4 := hc1 4 _ rfl
   have f5 := hc1 5 _ rfl
   rw [Nat.add_zero] at f0
   have HX := Lib.hid hx
   have hzx := HZ.out k x hx
   have hz := hbr.size
   have HBR : Hid (Below w.heap.size w (wr.alloc (.cells #[.string x.name, .int .i64 x.v.k, .int .i64 x.v.n, .string x.v.s, .slice x.v.pl x.v.nl x.v.cl, .slice x.v.pm x.v.nm x.v.cm] 81))) := hbr.alloc hz _
   have HMA : ∀ m, Hid (MapF ((wr.alloc (.cells #[.string x.name, .int .i64 x.v.k, .int .i64 x.v.n, .string x.v.s, .slice x.v.pl x.v.nl x.v.cl, .slice x.v.pm x.v.nm x.v.cm] 81)).drewN m) Tryz.prog 9 w.heap.size k (nameF ((rms.take k).map (·.name)))) := fun m => MapF.of_block (hMF.out.alloc _) rfl
   have hk0 : (0 : Int) <= (k : Int) := Int.natCast_nonneg _
   have hk1 : (k : Int) < (n : Int) := by omega
   have hlk := fun m => (HMA m).out.look Tryz.underlying9 Tryz.underlying205 (Tryz.zeroValue4 _) hzx
   clear hc1 hx hbr hMF
   have HSP := Lib.hid (take_split HX.out)
   have hBad : ∀ W, Calls Tryz.prog 139 #[.string x.name] W fun e w' => e = .returned (.int .i64 (badF x.name : Nat)) /\ w' = W := fun W => (bad_any x.name W hzx).mono fun e w' h => ⟨h.1, h.2.symm⟩
   have HBAD := Lib.hid hBad
   have hble := badF_le x.name
   unfold maxLen at hzx
   clear hBad
   by_cases hin : x.name ∈ (rms.take k).map (·.name)
   ·have HR : Hid (goodN (rms.map (·.name)) = false) := by
     have h : goodN ((rms.take (k + 1)).map (·.name)) = false := by
      rw [HSP.out, List.map_append, List.map_singleton]
      cases e : goodN ((rms.take k).map (·.name) ++ [x.name]) with
      | false => rfl
      | true => exact absurd hin ((goodN_snoc _ _).1 e).2.2
     have h2 := goodN_left _ ((rms.drop (k + 1)).map (·.name)) h
     rw [<- List.map_append, List.take_append_drop] at h2
     exact h2
    have hv : (nameF ((rms.take k).map (·.name)) x.name.data.toList).getD (.bool false) = .bool true := by unfold nameF; rw [if_pos ((mem_bytes _ _).2 hin)]; rfl
    rw [hv] at hlk
    clear hv hin HMA
    go_wp2_with fail
    go_quiet (fail)
    go_wp2_with fail
    go_ret
    exact ⟨ret_boolU HR.out.symm, bdn HBR.out _⟩
   ·have hv : (nameF ((rms.take k).map (·.name)) x.name.data.toList).getD (.bool false) = .bool false := by unfold nameF; rw [if_neg (fun h => hin ((mem_bytes _ _).1 h))]; rfl
    rw [hv] at hlk
    have HIN := Lib.hid hin
    clear hv hin
    by_cases hbd : badF x.name = x.name.size
    ·have HBD := Lib.hid hbd
     have q1 : ((badF x.name : Int) != (x.name.size : Int)) = false := by simp; omega
     have HG : Hid (goodN ((rms.take (k + 1)).map (·.name)) = true) := by
      unfold Hid
      rw [HSP.out, List.map_append, List.map_singleton]
      exact (goodN_snoc _ _).2 ⟨hgd.out, HBD.out, HIN.out⟩
     clear hbd
     go_wp2_with fail
     go_quiet ((go_at_call 139; exact Calls.quiet_of_same (HBAD.out _)))
     have HMQ := Lib.hid (HMA nq).out
     have HMK := Lib.hid (hzx : x.name.size <= maxLen)
     have HZ0 := Lib.hid hz
     clear hlk HMA q1
     go_wp2_with (at_mapUpdate; refine wpList_store_F _ rfl _ _ _ _ rfl 9 4 Tryz.underlying9 Tryz.underlying205 _ k _ rfl HMQ.out (by unfold maxLen; omega) x.name rfl HMK.out (.bool true) rfl ?_; intro w1 hM1 hG1; go_frame)
     go_roundw
     case rel =>
      refine ⟨k + 1, by omega, by go_num, ?_, HG, (bdn HBR.out nq).grown hG1 (by have := HZ0.out; simp; omega) (fun a e => by cases e; exact Nat.le_refl _)⟩
      unfold Hid
      rw [HSP.out, List.map_append, List.map_singleton, nameF_snoc]
      exact hM1
     case measure => simp [intOf]; omega
    ·have HR : Hid (goodN (rms.map (·.name)) = false) := by
      have h : goodN ((rms.take (k + 1)).map (·.name)) = false := by
       rw [HSP.out, List.map_append, List.map_singleton]
       cases e : goodN ((rms.take k).map (·.name) ++ [x.name]) with
       | false => rfl
       | true => exact absurd ((goodN_snoc _ _).1 e).2.1 hbd
      have h2 := goodN_left _ ((rms.drop (k + 1)).map (·.name)) h
      rw [<- List.map_append, List.take_append_drop] at h2
      exact h2
     have q1 : ((badF x.name : Int) != (x.name.size : Int)) = true := by simp; omega
     clear hbd
     go_wp2_with fail
     go_quiet ((go_at_call 139; exact Calls.quiet_of_same (HBAD.out _)))
     go_wp2_with fail
     go_ret
     exact ⟨ret_boolU HR.out.symm, bdn HBR.out _⟩
  ·obtain rfl : k = n := by omega
   go_wp2_with fail
   go_ret
   refine ⟨ret_boolU ?_, hbr⟩
   have h := hgd.out
   rw [List.take_of_length_le (by have := E2.out; omega)] at h
   exact h.symm
def bareB (k n : Int) (s : ByteArray) (nl nm : Nat) : Bool := (n == 0 || k == 2 || k == 3) && (s.toList.isEmpty || k == 4) && (nl == 0 || k == 5) && (nm == 0 || k == 6)
theorem nat_beq0 (n : Nat) : ((n : Int) == 0) = (n == 0) := by rw [Bool.eq_iff_iff]; simp
theorem bare_any (r : RV) (w : World) :
 Calls Tryz.prog 138 #[r.val] w fun e w' => e = .returned (.bool (bareB r.k r.n r.s r.nl r.nm)) /\ Below w.heap.size w w' := by
 obtain ⟨k, n, s, pl, nl, cl, pm, nm, cm⟩ := r
 dsimp only [RV.val] at *
 have hA0 : VAt (w.alloc (.cells #[.int .i64 k, .int .i64 n, .string s, .slice pl nl cl, .slice pm nm cm] 31)) w.heap.size ⟨k, n, s, pl, nl, cl, pm, nm, cm⟩ := heap_alloc_at rfl
 have hB0 : Below w.heap.size w (w.alloc (.cells #[.int .i64 k, .int .i64 n, .string s, .slice pl nl cl, .slice pm nm cm] 31)) := (Below.refl _ _).alloc (Nat.le_refl _) _
 go_enter Tryz.func138, Tryz.ntmps138
 go_upto_region 1 with fail
 obtain ⟨W0, hW0⟩ : ∃ W0, (w.alloc (.cells #[.int .i64 k, .int .i64 n, .string s, .slice pl nl cl, .slice pm nm cm] 31)) = W0 := ⟨_, rfl⟩
 rw [hW0] at hA0 hB0 ⊢
 clear hW0
 obtain ⟨c0, c1, c2, c3, c4⟩ := hA0.cells5
 dsimp only at c0 c1 c2 c3 c4
 have HB := Lib.hid hB0
 clear hA0 hB0
 go_wp2_with fail
 all_goals go_ret
 all_goals refine ⟨ret_boolU ?_, HB.out⟩
 all_goals unfold bareB
 all_goals simp [*, nat_beq0]
def rightP (k n : Int) (s : ByteArray) (nl : Nat) (names : List ByteArray) : Bool :=
 decide (1 <= k) && decide (k <= 6) && bareB k n s nl names.length && badF s == s.size && (k != 2 || (n == 0 || n == 1)) && (k != 3 || (decide (-9007199254740991 <= n) && decide (n <= 9007199254740991))) && (k != 6 || (decide (8192 < names.length) || goodN names))
theorem rightV_any (r : RV) (rms : List RM) (w : World) (hm : Rd w w.heap.size encM 6 (.slice r.pm r.nm r.cm) rms) (hs : ∀ (i : Nat) q, rms[i]? = some q -> q.name.size <= maxLen) (hn : r.nm <= 1466015503658) (hss : r.s.size <= maxLen) :
 Calls Tryz.prog 113 #[r.val] w fun e w' => e = .returned (.bool (rightP r.k r.n r.s r.nl (rms.map (·.name)))) /\ Below w.heap.size w w' := by
 obtain ⟨k, n, s, pl, nl, cl, pm, nm, cm⟩ := r
 dsimp only [RV.val] at *
 have hA0 : VAt (w.alloc (.cells #[.int .i64 k, .int .i64 n, .string s, .slice pl nl cl, .slice pm nm cm] 31)) w.heap.size ⟨k, n, s, pl, nl, cl, pm, nm, cm⟩ := heap_alloc_at rfl
 have hB0 : Below w.heap.size w (w.alloc (.cells #[.int .i64 k, .int .i64 n, .string s, .slice pl nl cl, .slice pm nm cm] 31)) := (Below.refl _ _).alloc (Nat.le_refl _) _
 have hbare : ∀ w : World, Calls Tryz.prog 138 #[.agg #[.int .i64 k, .int .i64 n, .string s, .slice pl nl cl, .slice pm nm cm]] w fun e w' => e = .returned (.bool (bareB k n s nl nm)) /\ Below w.heap.size w w' := fun w => bare_any ⟨k, n, s, pl, nl, cl, pm, nm, cm⟩ w
 have hbad : ∀ w : World, Calls Tryz.prog 139 #[.string s] w fun e w' => e = .returned (.int .i64 (badF s : Nat)) /\ w = w' := fun w => bad_any s w hss
 have hnames : ∀ W : World, Below w.heap.size w W -> Calls Tryz.prog 140 #[.slice pm nm cm] W fun e w' => e = .returned (.bool (goodN (rms.map (·.name)))) /\ Below W.heap.size W w' := fun W hb => names_any pm nm cm rms W (hm.below hb hb.size) hs hn
 have elen := rd_nlen hm
 have hble := badF_le s
 unfold maxLen at hss
 have HBARE := Lib.hid hbare
 have HBAD := Lib.hid hbad
 have HNAM := Lib.hid hnames
 have HB := Lib.hid hB0
 have HE := Lib.hid elen
 clear hbare hbad hnames elen hm hs
 go_enter Tryz.func113, Tryz.ntmps113
 go_upto_region 1 with fail
 obtain ⟨W0, hW0⟩ : ∃ W0, (w.alloc (.cells #[.int .i64 k, .int .i64 n, .string s, .slice pl nl cl, .slice pm nm cm] 31)) = W0 := ⟨_, rfl⟩
 rw [hW0] at hA0 hB0 HB ⊢
 have hz : w.heap.size < W0.heap.size := by rw [<- hW0]; simp
 clear hW0
 generalize hbb : bareB k n s nl nm = bb at HBARE
 have HBB := Lib.hid hbb
 clear hbb
 obtain ⟨c0, c1, c2, c3, c4⟩ := hA0.cells5
 dsimp only at c0 c1 c2 c3 c4
 have HA := Lib.hid hA0
 clear hA0 hB0
 by_cases h1 : k < 1
 ·have hd1 : decide (k < 1) = true := by simpa using h1
  have HR : Hid (rightP k n s nl (rms.map (·.name)) = false) := by
   have e : decide (1 <= k) = false := by simp; omega
   unfold Hid rightP; rw [e]; simp
  go_quiet (fail)
  go_wp2_with fail
  go_ret
  exact ⟨ret_boolU HR.out.symm, bdn HB.out _⟩
 ·have hd1 : decide (k < 1) = false := by simpa using h1
  by_cases h2 : 6 < k
  ·have hd2 : decide (6 < k) = true := by simpa using h2
   have HR : Hid (rightP k n s nl (rms.map (·.name)) = false) := by
    have e : decide (k <= 6) = false := by simp; omega
    unfold Hid rightP; rw [e]; simp
   go_quiet (fail)
   go_wp2_with fail
   go_ret
   exact ⟨ret_boolU HR.out.symm, bdn HB.out _⟩
  ·have hd2 : decide (6 < k) = false := by simpa using h2
   have hzz := hz
   cases bb with
   | false =>
     have HR : Hid (rightP k n s nl (rms.map (·.name)) = false) := by
      have e : bareB k n s nl (rms.map (·.name)).length = false := by rw [List.length_map, <- HE.out]; exact HBB.out
      unfold Hid rightP; rw [e]; simp
     first
      | (go_region_with ((go_at_call 138; refine (HBARE.out _).mono ?_; rintro e w1 ⟨rfl, hb0⟩)))
      | fail
     all_goals go_wp2_with fail
     all_goals go_ret
     all_goals exact ⟨ret_boolU HR.out.symm, HB.out.trans (Below.mono (Below.trans (by first | exact Below.refl _ _ | exact (Below.refl _ _).drew) hb0) (Nat.le_of_lt hz))⟩
   | true =>
     cases hbs : badF s == s.size with
     | false =>
       have hq : ((badF s : Int) != (s.size : Int)) = true := by simp at hbs; simp; omega
       have HR : Hid (rightP k n s nl (rms.map (·.name)) = false) := by
        unfold Hid rightP; rw [hbs]; simp
       clear hbs
       first
        | (go_region_held3 (fun w' => Below W0.heap.size W0 w' /\ ∀ b o, b < W0.heap.size -> w'.cell? ⟨b, o, none⟩ = W0.cell? ⟨b, o, none⟩)
         (first | exact KB.drew W0 | exact hbk)
         (first
          | (go_at_call 138; refine (HBARE.out _).mono ?_; rintro e w1 ⟨rfl, hb0⟩; have hbk := KB.step (W := W0) (by assumption) hb0)
          | (go_at_call 139; refine (HBAD.out _).mono ?_; rintro e w1 ⟨rfl, rfl⟩)))
        | fail
       rename (Below W0.heap.size W0 _ /\ _) => hkb
       go_wp2_with fail
       go_ret
       exact ⟨ret_boolU HR.out.symm, HB.out.trans (hkb.1.mono (Nat.le_of_lt hz))⟩
     | true =>
       have hq : ((badF s : Int) != (s.size : Int)) = false := by simp at hbs; simp; omega
       generalize hgg : goodN (rms.map (·.name)) = gb at HNAM
       have HR : Hid (rightP k n s nl (rms.map (·.name)) = ((k != 2 || (n == 0 || n == 1)) && (k != 3 || (decide (-9007199254740991 <= n) && decide (n <= 9007199254740991))) && (k != 6 || (decide (8192 < (nm : Int)) || gb)))) := by
        have e : bareB k n s nl (rms.map (·.name)).length = true := by rw [List.length_map, <- HE.out]; exact HBB.out
        have e1 : decide (1 <= k) = true := by simp; omega
        have e2 : decide (k <= 6) = true := by simp; omega
        unfold Hid rightP
        have e3 : decide (8192 < nm) = decide (8192 < (nm : Int)) := by rw [decide_eq_decide]; omega
        rw [hbs, e, e1, e2, hgg, List.length_map, <- HE.out, e3]; simp
       clear hbs hgg
       first
        | (go_region_held3 (fun w' => Below W0.heap.size W0 w' /\ ∀ b o, b < W0.heap.size -> w'.cell? ⟨b, o, none⟩ = W0.cell? ⟨b, o, none⟩)
         (first | exact KB.drew W0 | exact hbk)
         (first
          | (go_at_call 138; refine (HBARE.out _).mono ?_; rintro e w1 ⟨rfl, hb0⟩; have hbk := KB.step (W := W0) (by assumption) hb0)
          | (go_at_call 139; refine (HBAD.out _).mono ?_; rintro e w1 ⟨rfl, rfl⟩)))
        | fail
       rename (Below W0.heap.size W0 _ /\ _) => hkb
       have HK := Lib.hid (HB.out.trans (hkb.1.mono (Nat.le_of_lt hz)))
       have hE : ∀ w', Below W0.heap.size W0 w' -> Below w.heap.size w w' := fun w' h => HB.out.trans (h.mono (Nat.le_of_lt hz))
       have HX := Lib.hid hE
       clear hE
       go_wp2_with (go_at_call 140; refine (HNAM.out _ HK.out).mono ?_; rintro e w2 ⟨rfl, hb2⟩; have HK2 := Lib.hid (HK.out.trans (hb2.mono HK.out.size)))
       all_goals go_ret
       all_goals refine ⟨ret_boolU ?_, by first | exact HK2.out | exact HK.out⟩
       all_goals rw [HR.out]
       all_goals clear HR HBARE HBB HBAD HNAM HX HK
       all_goals simp_all
       all_goals omega
end
end Go.Proofs.YtfgjimpmpckgpaaGreatDoor
