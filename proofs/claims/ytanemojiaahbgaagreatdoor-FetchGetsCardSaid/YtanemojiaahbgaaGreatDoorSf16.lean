import Derived.Test.YtanemojiaahbgaaGreatDoorSf14
import Derived.Test.YtanemojiaahbgaaGreatDoorSf15
import Derived.Test.YtanemojiaahbgaaGreatDoorSf06
import Derived.Deep.RegionHeld3
import Derived.WalkSmall
import Derived.Test.YtanemojiaahbgaaGreatDoorSf09
import Derived.Test.YtanemojiaahbgaaGreatDoorSf13
import Derived.Test.YtanemojiaahbgaaGreatDoorRows
import Derived.Lib.LaidTab
import Derived.Shelf.Vars
import Derived.MakeChecks
import Derived.LaidSub
import Derived.LaidLaws
import Derived.Shelf.Slices.Turned
import Derived.Test.YtanemojiaahbgaaGreatDoorProg
import Derived.Test.YtanemojiaahbgaaGreatDoorSf03
section
/- Arguments by a list of kinds: refs.Args, walked. -/
set_option linter.unusedSimpArgs false
set_option linter.unusedVariables false
namespace Go.Proofs.YtanemojiaahbgaaGreatDoor
open Go Go.RowKit Go.OpenShut

/-- What the library's variables hold. -/
structure Vars (w : World) : Prop where
  len : ∃ m, w.cell? ⟨2, 0, none⟩ = some (.int .i64 m)
  tab : Lib.TabIs Tryz.prog w "strings.asciiSpace" .u8 Lib.asciiSpaceTab
theorem gSpace : Tryz.prog.globalNamed "strings.asciiSpace" = some 0 := by kernel_rfl
theorem Vars.below {w w' : World} (h : Vars w) (hb : Below w.heap.size w w') : Vars w' := by
  obtain ⟨⟨m, hm⟩, ht⟩ := h
  refine ⟨⟨m, bcs hb (cell_some hm).2 hm⟩, ?_⟩
  unfold Lib.TabIs at ht ⊢
  have hg : 0 < w.heap.size := by
    unfold World.var? at ht
    rw [gSpace] at ht
    simp only [Option.bind_some] at ht
    split at ht
    · rename_i hh; exact (Array.getElem?_eq_some_iff.1 hh).1
    · cases ht
  rw [← ht]
  unfold World.var?
  rw [gSpace]
  simp only [Option.bind_some]
  rw [hb.block _ hg]

def nullJ : JV := .mk 1 0 ⟨#[]⟩ [] []
/-- An argument; of none: null. -/
def argG (t : JV) (p : ByteArray × Nat) : JV := (t.get p.1).getD nullJ
def foundN (t : JV) (l : List (ByteArray × Nat)) : Nat := (l.filter (fun p => (t.get p.1).isSome)).length
/-- Are arguments right? -/
def argsB (t : JV) (ks : List (ByteArray × Nat)) : Bool := decide (t.k = 6) && (ks.all (fun p => mayK p.2 (argG t p)) && decide (foundN t ks = t.m.length))
def wordL (p : ByteArray × Nat) : List UInt8 := p.1.data.toList ++ [58, UInt8.ofNat p.2]
def wordB (p : ByteArray × Nat) : ByteArray := ⟨(wordL p).toArray⟩
/-- A text of kinds. -/
structure Kinds (s : ByteArray) (ks : List (ByteArray × Nat)) : Prop where
  words : Lib.fields s.data.toList = ks.map wordL
  cut : ∀ p ∈ ks, Lib.cut (wordL p) [58] = (p.1.data.toList, [UInt8.ofNat p.2], true)
  lets : ∀ p ∈ ks, p.2 ∈ letters
  asc : ∀ (j : Nat) b, s.data.toList[j]? = some b → b.toNat < 128
  small : s.size ≤ 1000
  names : ∀ p ∈ ks, p.1.size ≤ 1000
  few : ks.length ≤ 100
/-- The arguments, in a list of the call's own. -/
def ArgOk (w : World) (B : Nat) (t : JV) (ks : List (ByteArray × Nat)) (e : Ending) (w' : World) : Prop := ∃ p n c rs, e = .returned (.tuple #[.slice p n c, .int .i64 0]) ∧ Own w' w.heap.size 31 encV 5 (.slice p n c) rs ∧ ks.length = rs.length ∧ (∀ (i : Nat) k q, ks[i]? = some k → rs[i]? = some q → TreeOf w' B (argG t k) q) ∧ Below w.heap.size w w'
def ArgR (w : World) (B : Nat) (t : JV) (ks : List (ByteArray × Nat)) (e : Ending) (w' : World) : Prop := if argsB t ks = true then ArgOk w B t ks e w' else e = .returned (.tuple #[.slice none 0 0, .int .i64 1]) ∧ Below w.heap.size w w'
theorem argR_no {w : World} {B : Nat} {t : JV} {ks : List (ByteArray × Nat)} {w' : World} (h : argsB t ks = false) (hb : Below w.heap.size w w') : ArgR w B t ks (.returned (.tuple #[.slice none 0 0, .int .i64 1])) w' := by
  unfold ArgR
  rw [if_neg (by rw [h]; simp)]
  exact ⟨rfl, hb⟩
theorem bytes_back (s : ByteArray) : (⟨s.data.toList.toArray⟩ : ByteArray) = s := by
  obtain ⟨⟨l⟩⟩ := s
  rfl
theorem letter_u8 {c : Nat} (h : c ∈ letters) : (UInt8.ofNat c).toNat = c := by
  simp only [letters, List.mem_cons, List.not_mem_nil, or_false] at h
  rcases h with rfl | rfl | rfl | rfl | rfl | rfl | rfl | rfl | rfl | rfl <;> rfl
theorem wordB_size (p : ByteArray × Nat) : (wordB p).size = p.1.size + 2 := by
  unfold wordB wordL
  rw [ByteArray.size, List.size_toArray, List.length_append, str_len]
  rfl
theorem cutW {s : ByteArray} {ks : List (ByteArray × Nat)} (K : Kinds s ks) {p : ByteArray × Nat} (hp : p ∈ ks) (W : World) (hV : ∃ m, W.cell? ⟨2, 0, none⟩ = some (.int .i64 m)) :
    Calls Tryz.prog 76 #[.string (wordB p), .string ⟨#[58]⟩] W fun e w' => e = .returned (.tuple #[.string p.1, .string ⟨#[UInt8.ofNat p.2]⟩, .bool true]) ∧ ∃ n, w' = W.drewN n := by
  obtain ⟨m, hm⟩ := hV
  refine (strings_Cut (wordB p) ⟨#[58]⟩ m W (by rw [wordB_size]; have := K.names p hp; omega) hm).mono (fun e w' h => ⟨?_, h.2⟩)
  have hc : Lib.cut (wordB p).data.toList (⟨#[58]⟩ : ByteArray).data.toList = (p.1.data.toList, [UInt8.ofNat p.2], true) := K.cut p hp
  rw [h.1, hc]
theorem argG_ok {t : JV} (h : t.Ok) (p : ByteArray × Nat) : (argG t p).Ok := by
  unfold argG JV.get
  cases hp : t.place p.1 with
  | none => exact .mk (by decide) (by decide) (by decide) (by decide) (by decide) (fun i x h => by simp at h) (fun i x h => by simp at h) (fun i x h => by simp at h)
  | some i =>
    obtain ⟨q, h1, h2, h3⟩ := place_mem hp
    have hm : t.mem = t.m := by obtain ⟨k, n, s, l, m⟩ := t; show (if k = 6 then m else []) = m; exact if_pos h2
    simp only [Option.bind_some, hm, h1, Option.map_some, Option.getD_some]
    cases h with
    | mk _ _ _ _ _ _ _ cm => exact cm i q h1
theorem foundN_snoc (t : JV) {ks : List (ByteArray × Nat)} {k : Nat} {p : ByteArray × Nat} (h : ks[k]? = some p) : foundN t (ks.take (k + 1)) = foundN t (ks.take k) + if (t.get p.1).isSome then 1 else 0 := by
  unfold foundN
  rw [List.take_add_one, h]
  simp only [Option.toList_some, List.filter_append, List.length_append]
  congr 1
  rw [List.filter_cons]
  split <;> rfl
theorem foundN_le (t : JV) (l : List (ByteArray × Nat)) : foundN t l ≤ l.length := List.length_filter_le _ _

set_option maxRecDepth 100000 in
set_option maxHeartbeats 8000000 in
theorem args_any (w : World) (B : Nat) (s : ByteArray) (ks : List (ByteArray × Nat)) (t : JV) (r : RV) (K : Kinds s ks) (hV : Vars w) (hBw : B ≤ w.heap.size) (ht : TreeOf w B t r) (ot : t.Ok) : Calls Tryz.prog 53 #[r.val, .string s] w (ArgR w B t ks) := by
  obtain ⟨hk, hn, hs⟩ := ht.head
  obtain ⟨rms, hmr, hms, _⟩ := ht.mems
  have hB0 : Below w.heap.size w (w.alloc r.obj) := (Below.refl _ _).alloc (Nat.le_refl _) _
  have hA0 : VAt (w.alloc r.obj) w.heap.size r := heap_alloc_at rfl
  have hV0 := hV.below hB0
  have HT := Lib.hid ht
  have HOT := Lib.hid ot
  have HK := Lib.hid K
  have hnm : r.nm = t.m.length := by rw [hms.len]; exact rd_nlen hmr
  have HNM := Lib.hid hnm
  have hmle : t.m.length ≤ 1466015503658 := by cases ot with | mk _ _ _ _ hm _ _ _ => exact hm
  have HML := Lib.hid hmle
  clear hmr hms hnm hV ht ot hn hs hmle
  by_cases h6 : t.k = 6
  · have HA6 : Hid (argsB t ks = (ks.all (fun p => mayK p.2 (argG t p)) && decide (foundN t ks = t.m.length))) := by unfold Hid argsB; rw [decide_eq_true h6]; rfl
    rw [h6] at hk
    obtain ⟨k, n, s', pl, nl, cl, pm, nm, cm⟩ := r
    dsimp only [RV.val, RV.obj] at *
    subst hk
    clear h6
    go_enter Tryz.func53, Tryz.ntmps53
    go_upto_region 1 with fail
    obtain ⟨W0, hW0⟩ : ∃ W, w.alloc (.cells #[.int .i64 6, .int .i64 n, .string s', .slice pl nl cl, .slice pm nm cm] 31) = W := ⟨_, rfl⟩
    rw [hW0] at hB0 hA0 hV0
    try rw [hW0]
    clear hW0
    have a0 := hA0.cell 0 rfl
    have a1 := hA0.cell 1 rfl
    have a2 := hA0.cell 2 rfl
    have a3 := hA0.cell 3 rfl
    have a4 := hA0.cell 4 rfl
    have HB0 := Lib.hid hB0
    have HA0 := Lib.hid hA0
    have HV0 := Lib.hid hV0
    clear hB0 hA0 hV0
    have HF : Hid (Calls Tryz.prog 75 #[.string s] W0 fun e w' => e = .returned (.slice (some ⟨W0.heap.size, 0, none⟩) ks.length ks.length) ∧ w' = W0.alloc (.cells (ks.map (fun p => Value.string (wordB p))).toArray 9)) := by
      refine (strings_Fields s W0 (by have := HK.out.small; omega) HK.out.asc HV0.out.tab).mono (fun e w' h => ?_)
      rw [HK.out.words] at h
      rw [List.length_map, List.map_map] at h
      exact h
    go_wp2_with (go_at_call 75; refine HF.out.mono ?_; rintro e w1 ⟨rfl, rfl⟩)
    have hW1 : Below W0.heap.size W0 (W0.alloc (.cells (ks.map (fun p => Value.string (wordB p))).toArray 9)) := (Below.refl _ _).alloc (Nat.le_refl _) _
    have hwords : ∀ (i : Nat) p, ks[i]? = some p → (W0.alloc (.cells (ks.map (fun p => Value.string (wordB p))).toArray 9)).cell? ⟨W0.heap.size, i, none⟩ = some (.string (wordB p)) := fun i p hp => by
      rw [cell_of_row _ W0.heap.size i _ _ _ (heap_alloc_at rfl), ← Array.getElem?_toList]
      simp [hp]
    have hsz1 : W0.heap.size < (W0.alloc (.cells (ks.map (fun p => Value.string (wordB p))).toArray 9)).heap.size := by simp
    obtain ⟨W1, hWW⟩ : ∃ W, W0.alloc (.cells (ks.map (fun p => Value.string (wordB p))).toArray 9) = W := ⟨_, rfl⟩
    obtain ⟨b, hb⟩ : ∃ b, W0.heap.size = b := ⟨_, rfl⟩
    rw [hWW] at hW1 hwords hsz1
    rw [hb] at hwords hsz1
    try rw [hWW]
    try rw [hb]
    have HB1 := Lib.hid (HB0.out.trans (hW1.mono HB0.out.size))
    have HV1 := Lib.hid (HV0.out.below hW1)
    have HA1 := Lib.hid (HA0.out.under hW1 HA0.out.lt)
    have HWD := Lib.hid hwords
    have hBW : B ≤ W1.heap.size := Nat.le_trans hBw HB1.out.size
    have hKF := HK.out.few
    clear hWW hb hW1 hwords HF HB0 HV0 HA0 a0 a1 a2 a3 a4
    go_loopw [6, 7, 21] (fun o f i wr => ∃ j : Nat, j ≤ ks.length ∧ i = .int .i64 (j : Int) ∧ f = .int .i64 (foundN t (ks.take j) : Nat) ∧ Hid (∃ rs, Own wr W1.heap.size 31 encV 5 o rs ∧ rs.length = j ∧ (∀ (i : Nat) k q, ks[i]? = some k → rs[i]? = some q → TreeOf wr B (argG t k) q) ∧ (∀ (i : Nat) k, i < j → ks[i]? = some k → mayK k.2 (argG t k) = true) ∧ Below W1.heap.size W1 wr)) (fun _ _ i _ => ks.length - (intOf i).toNat)
    case atStart => exact ⟨0, Nat.zero_le _, rfl, rfl, [], Own.nil _ _ _, rfl, fun i k q _ h => by simp at h, fun i k h => by omega, Below.refl _ _⟩
    case round =>
      obtain ⟨j, hj, rfl, rfl, hH⟩ := hrel
      obtain ⟨rs, hO, hrl, hts, hmy, hbr⟩ := hH.out
      clear hH
      obtain ⟨po, no, co, rfl⟩ : ∃ p n c, u6 = Value.slice p n c := by obtain ⟨p, c, hv, _, _⟩ := hO.len; exact ⟨p, _, c, hv⟩
      have j0 : (0 : Int) ≤ (j : Int) := Int.natCast_nonneg _
      have HRL := Lib.hid hrl
      have HTS := Lib.hid hts
      have HMY := Lib.hid hmy
      have HBR := Lib.hid hbr
      have HO := Lib.hid hO
      have HFL := Lib.hid (foundN_le t (ks.take j))
      have htl : (ks.take j).length ≤ 100 := by rw [List.length_take]; omega
      obtain ⟨F, hF⟩ : ∃ F, foundN t (ks.take j) = F := ⟨_, rfl⟩
      have HFF := Lib.hid hF
      have hF100 : F ≤ 100 := by rw [← hF]; have := HFL.out; omega
      rw [hF]
      clear hrl hts hmy hO hF htl
      by_cases hlt : j < ks.length
      · have j1 : (j : Int) < (ks.length : Int) := by omega
        obtain ⟨p, hp⟩ : ∃ p, ks[j]? = some p := ⟨_, List.getElem?_eq_getElem hlt⟩
        have hpm := List.mem_of_getElem? hp
        have c0 := bcs hbr hsz1 (HWD.out j p hp)
        have HP := Lib.hid hp
        have HCUT : Hid (∀ W, (∃ m, W.cell? ⟨2, 0, none⟩ = some (.int .i64 m)) → Calls Tryz.prog 76 #[.string (wordB p), .string ⟨#[58]⟩] W fun e w' => e = .returned (.tuple #[.string p.1, .string ⟨#[UInt8.ofNat p.2]⟩, .bool true]) ∧ ∃ n, w' = W.drewN n) := fun W hW => cutW HK.out hpm W hW
        have HLT := Lib.hid (HK.out.lets p hpm)
        obtain ⟨wd, hwd⟩ : ∃ x, wordB p = x := ⟨_, rfl⟩
        obtain ⟨nme, hnme⟩ : ∃ x, p.1 = x := ⟨_, rfl⟩
        rw [hwd] at c0 HCUT
        rw [hnme] at HCUT
        have HNME := Lib.hid hnme
        clear hp hpm hwd hnme
        go_upto_region 9 with (go_at_call 76; refine (HCUT.out _ (HV1.out.below hbr).len).mono ?_; rintro e w' ⟨rfl, m, rfl⟩)
        have hb2 : Below W1.heap.size W1 (wr.drewN m) := bdn hbr m
        have hO2 : Own (wr.drewN m) W1.heap.size 31 encV 5 (.slice po no co) rs := HO.out.same (fun _ _ => rfl)
        have hts2 : ∀ (i : Nat) k q, ks[i]? = some k → rs[i]? = some q → TreeOf (wr.drewN m) B (argG t k) q := fun i k q a b => (HTS.out i k q a b).drewN m
        obtain ⟨w2, hw2⟩ : ∃ W, wr.drewN m = W := ⟨_, rfl⟩
        obtain ⟨L, hL⟩ : ∃ L : ByteArray, ⟨#[UInt8.ofNat p.2]⟩ = L := ⟨_, rfl⟩
        rw [hw2] at hb2 hO2 hts2
        try rw [hw2]
        try rw [hL]
        have HL := Lib.hid hL
        have hA2 := HA1.out.under hb2 (Nat.lt_of_lt_of_le HA1.out.lt (Nat.le_refl _))
        have HB2 := Lib.hid hb2
        have HO2 := Lib.hid hO2
        have HT2 := Lib.hid hts2
        have a0 := hA2.cell 0 rfl
        have a1 := hA2.cell 1 rfl
        have a2 := hA2.cell 2 rfl
        have a3 := hA2.cell 3 rfl
        have a4 := hA2.cell 4 rfl
        have HGT : Hid (Calls Tryz.prog 42 #[.agg #[.int .i64 6, .int .i64 n, .string s', .slice pl nl cl, .slice pm nm cm], .string nme] w2 (GetRetB w2 B (t.get nme))) := getB_any t ⟨6, n, s', pl, nl, cl, pm, nm, cm⟩ nme w2 B (Nat.le_trans hBW hb2.size) (HT.out.under ((HB1.out.mono hBw).trans (hb2.mono hBW)) (Nat.le_refl _)) HOT.out
        clear hw2 hL hb2 hO2 hts2 hbr hA2 c0 HO HTS HBR HCUT
        go_upto_region 10 with (go_at_call 42; refine HGT.out.mono ?_; rintro e w3 ⟨rv, bb, rfl, hbb, ht3, hb3⟩; obtain ⟨rk, rn, rS, rpl, rnl, rcl, rpm, rnm, rcm⟩ := rv)
        have hV4 : VAt (w3.alloc (.cells #[.int .i64 rk, .int .i64 rn, .string rS, .slice rpl rnl rcl, .slice rpm rnm rcm] 31)) w3.heap.size ⟨rk, rn, rS, rpl, rnl, rcl, rpm, rnm, rcm⟩ := heap_alloc_at rfl
        have ht4 := ht3.under (B' := B) ((Below.refl B w3).alloc (Nat.le_trans hBW (Nat.le_trans HB2.out.size hb3.size)) (.cells #[.int .i64 rk, .int .i64 rn, .string rS, .slice rpl rnl rcl, .slice rpm rnm rcm] 31)) (Nat.le_refl _)
        have hb4 : Below w2.heap.size w2 (w3.alloc (.cells #[.int .i64 rk, .int .i64 rn, .string rS, .slice rpl rnl rcl, .slice rpm rnm rcm] 31)) := hb3.alloc hb3.size (.cells #[.int .i64 rk, .int .i64 rn, .string rS, .slice rpl rnl rcl, .slice rpm rnm rcm] 31)
        have hz4 : W1.heap.size ≤ w3.heap.size := Nat.le_trans HB2.out.size hb3.size
        obtain ⟨b13, hb13⟩ : ∃ b, w3.heap.size = b := ⟨_, rfl⟩
        have hz5 : w2.heap.size ≤ b13 := by rw [← hb13]; exact hb3.size
        obtain ⟨w4, hw4⟩ : ∃ W, w3.alloc (.cells #[.int .i64 rk, .int .i64 rn, .string rS, .slice rpl rnl rcl, .slice rpm rnm rcm] 31) = W := ⟨_, rfl⟩
        rw [hw4] at hV4 ht4 hb4
        rw [hb13] at hV4 hz4
        try rw [hw4]
        try rw [hb13]
        clear hw4 hb13 hb3 ht3 HGT a0 a1 a2 a3 a4
        have HT4 := Lib.hid ht4
        have HB4 := Lib.hid hb4
        have HV4 := Lib.hid hV4
        clear ht4 hb4 hV4
        cases hget : t.get nme
        all_goals first
          | (have hg2 : Hid (argG t p = nullJ ∧ (t.get p.1).isSome = false) := by unfold Hid argG; rw [HNME.out, hget]; exact ⟨rfl, rfl⟩
             rw [hget] at hbb HT4
             simp only [Option.isSome_none] at hbb
             subst hbb
             have v0 := HV4.out.cell 0 rfl
             have v1 := HV4.out.cell 1 rfl
             have v2 := HV4.out.cell 2 rfl
             have v3 := HV4.out.cell 3 rfl
             have v4 := HV4.out.cell 4 rfl
             have y0 := HV4.out.frozen 0
             have y1 := HV4.out.frozen 1
             have y2 := HV4.out.frozen 2
             have y3 := HV4.out.frozen 3
             have y4 := HV4.out.frozen 4
             dsimp only at v0 v1 v2 v3 v4
             go_upto_region 13 with fail
             have hv5 : VAt (((((w4.setCell ⟨b13, 0, none⟩ (.int .i64 1)).setCell ⟨b13, 1, none⟩ (.int .i64 0)).setCell ⟨b13, 2, none⟩ (.string ⟨#[]⟩)).setCell ⟨b13, 3, none⟩ (.slice none 0 0)).setCell ⟨b13, 4, none⟩ (.slice none 0 0)) b13 (⟨1, 0, ⟨#[]⟩, none, 0, 0, none, 0, 0⟩ : RV) := HV4.out.stored (⟨1, 0, ⟨#[]⟩, none, 0, 0, none, 0, 0⟩ : RV)
             have hg5 : w4.grownBy (((((w4.setCell ⟨b13, 0, none⟩ (.int .i64 1)).setCell ⟨b13, 1, none⟩ (.int .i64 0)).setCell ⟨b13, 2, none⟩ (.string ⟨#[]⟩)).setCell ⟨b13, 3, none⟩ (.slice none 0 0)).setCell ⟨b13, 4, none⟩ (.slice none 0 0)) (some b13) := grownBy_set5 w4 b13 (⟨1, 0, ⟨#[]⟩, none, 0, 0, none, 0, 0⟩ : RV)
             have ht5 : TreeOf (((((w4.setCell ⟨b13, 0, none⟩ (.int .i64 1)).setCell ⟨b13, 1, none⟩ (.int .i64 0)).setCell ⟨b13, 2, none⟩ (.string ⟨#[]⟩)).setCell ⟨b13, 3, none⟩ (.slice none 0 0)).setCell ⟨b13, 4, none⟩ (.slice none 0 0)) B (argG t p) (⟨1, 0, ⟨#[]⟩, none, 0, 0, none, 0, 0⟩ : RV) := by rw [hg2.out.1]; exact (TreeS.leaf _ (fun _ => False) 1 0 ⟨#[]⟩).tree (fun k h => h.elim)
             obtain ⟨w5, hw5⟩ : ∃ W, (((((w4.setCell ⟨b13, 0, none⟩ (.int .i64 1)).setCell ⟨b13, 1, none⟩ (.int .i64 0)).setCell ⟨b13, 2, none⟩ (.string ⟨#[]⟩)).setCell ⟨b13, 3, none⟩ (.slice none 0 0)).setCell ⟨b13, 4, none⟩ (.slice none 0 0)) = W := ⟨_, rfl⟩
             rw [hw5] at hv5 hg5 ht5
             try rw [hw5]
             have HB5 : Hid (Below w2.heap.size w2 w5) := HB4.out.grown hg5 HB4.out.size (fun k e => by cases e; exact hz5)
             obtain ⟨q, hq⟩ : ∃ q : RV, (⟨1, 0, ⟨#[]⟩, none, 0, 0, none, 0, 0⟩ : RV) = q := ⟨_, rfl⟩
             rw [hq] at hv5 ht5
             have HFN : Hid ((F : Int) = (foundN t (ks.take (j + 1)) : Nat)) := by unfold Hid; rw [foundN_snoc t HP.out, hg2.out.2, HFF.out]; simp
             clear hw5 hq hg5 v0 v1 v2 v3 v4 y0 y1 y2 y3 y4 HV4 HT4 HB4)
          | (have hg2 : Hid (argG t p = (t.get nme).getD JV.zero ∧ (t.get p.1).isSome = true) := by unfold Hid argG; rw [HNME.out, hget]; exact ⟨rfl, rfl⟩
             rw [hget] at hbb
             simp only [Option.isSome_some] at hbb
             subst hbb
             have hf1 : (F : Int) ≤ 100 := by omega
             have hf0 : (0 : Int) ≤ (F : Int) := Int.natCast_nonneg _
             go_upto_region 13 with fail
             obtain ⟨w5, rfl⟩ : ∃ W, W = w4 := ⟨_, rfl⟩
             obtain ⟨q, hq⟩ : ∃ q : RV, ⟨rk, rn, rS, rpl, rnl, rcl, rpm, rnm, rcm⟩ = q := ⟨_, rfl⟩
             have hv5 := HV4.out
             have ht5 := HT4.out
             rw [hq] at hv5 ht5
             rw [← hg2.out.1] at ht5
             have HB5 := HB4
             have HFN : Hid ((F : Int) + 1 = (foundN t (ks.take (j + 1)) : Nat)) := by unfold Hid; rw [foundN_snoc t HP.out, hg2.out.2, HFF.out]; simp
             clear hq HV4 HT4 HB4)
        all_goals
          have HV5 := Lib.hid hv5
          have HT5 := Lib.hid ht5
          obtain ⟨qk, qn, qS, qpl, qnl, qcl, qpm, qnm, qcm⟩ := q
          have hLs : L.size = 1 := by rw [← HL.out]; rfl
          have hl4 : 0 < L.size := by omega
          have hl3 : (0 : Int) < (L.size : Int) := by omega
          have hLn : L.toList ≠ [] := by rw [← HL.out, ByteArray.toList_eq]; simp
          have hl0 : (L.toList == []) = false := by simpa using hLn
          have hl1 : L.toList.isEmpty = false := by simpa using hLn
          have hLx : (L[0]'hl4).toNat = p.2 := by
            have h2 := letter_u8 HLT.out
            have h1 : ∀ (M : ByteArray) (h : 0 < M.size), ⟨#[UInt8.ofNat p.2]⟩ = M → M[0]'h = UInt8.ofNat p.2 := fun M h e => by subst e; rfl
            rw [h1 L hl4 HL.out, h2]
          have hVt : VAt w5 b13 ⟨qk, qn, qS, qpl, qnl, qcl, qpm, qnm, qcm⟩ := hv5
          have HMAY : Hid (∀ W, Below w5.heap.size w5 W → Calls Tryz.prog 77 #[.int .u8 (((L[0]'hl4).toNat : Nat) : Int), .agg #[.int .i64 qk, .int .i64 qn, .string qS, .slice qpl qnl qcl, .slice qpm qnm qcm]] W fun e w' => e = .returned (.bool (mayK p.2 (argG t p))) ∧ Below W.heap.size W w') := fun W hb => by
            rw [hLx]
            exact refsMay_any p.2 (argG t p) ⟨qk, qn, qS, qpl, qnl, qcl, qpm, qnm, qcm⟩ W HLT.out ((HT5.out.under (hb.mono (Nat.le_trans hBW (Nat.le_trans HB2.out.size HB5.out.size))) (Nat.le_refl _)).mono (Nat.le_trans (Nat.le_trans hBW (Nat.le_trans HB2.out.size HB5.out.size)) hb.size)) (argG_ok HOT.out p)
          have HKP : Hid (∀ W, Below w5.heap.size w5 W → W.cell? ⟨b13, 0, none⟩ = some (.int .i64 qk) ∧ W.cell? ⟨b13, 1, none⟩ = some (.int .i64 qn) ∧ W.cell? ⟨b13, 2, none⟩ = some (.string qS) ∧ W.cell? ⟨b13, 3, none⟩ = some (.slice qpl qnl qcl) ∧ W.cell? ⟨b13, 4, none⟩ = some (.slice qpm qnm qcm)) := fun W hb => by
            have h := hVt.under hb hVt.lt
            exact ⟨h.cell 0 rfl, h.cell 1 rfl, h.cell 2 rfl, h.cell 3 rfl, h.cell 4 rfl⟩
          obtain ⟨bm, hbm⟩ : ∃ b, mayK p.2 (argG t p) = b := ⟨_, rfl⟩
          rw [hbm] at HMAY
          have HBM := Lib.hid hbm
          clear hv5 ht5 hLs hLn hLx hVt hbm
          have HKB : Hid (∀ n W, Below (w5.drewN n).heap.size (w5.drewN n) W → Below w5.heap.size w5 W) := fun n W hb => (bdn (Below.refl _ _) n).trans hb
          cases bm
        all_goals
          go_region_held3 (fun w' => w'.cell? ⟨b13, 0, none⟩ = some (.int .i64 qk) ∧ w'.cell? ⟨b13, 1, none⟩ = some (.int .i64 qn) ∧ w'.cell? ⟨b13, 2, none⟩ = some (.string qS) ∧ w'.cell? ⟨b13, 3, none⟩ = some (.slice qpl qnl qcl) ∧ w'.cell? ⟨b13, 4, none⟩ = some (.slice qpm qnm qcm))
            (first | exact HKP.out _ (Below.refl _ _).drew | exact HKP.out _ hb6)
            ((go_at_call 77; refine (HMAY.out _ (Below.refl _ _).drew).mono ?_; rintro e w6 ⟨rfl, hb6'⟩; have hb6 : Below w5.heap.size w5 w6 := (Below.refl _ _).drew.trans hb6'))
          obtain ⟨x0, x1, x2, x3, x4⟩ := HKP.out _ hb6
          have HW6 : Hid (Below w2.heap.size w2 w6) := HB5.out.trans (hb6.mono HB5.out.size)
          have HX6 : Hid (Below w.heap.size w w6) := HB1.out.trans ((HB2.out.trans (HW6.out.mono HB2.out.size)).mono HB1.out.size)
          have HT6 : Hid (TreeOf w6 B (argG t p) ⟨qk, qn, qS, qpl, qnl, qcl, qpm, qnm, qcm⟩) := HT5.out.under (hb6.mono (Nat.le_trans hBW (Nat.le_trans HB2.out.size HB5.out.size))) (Nat.le_refl _)
          clear hb6 hb6' HMAY HKP HKB
          first
            | (have HNO : Hid (argsB t ks = false) := by unfold Hid; rw [HA6.out, all_not HP.out HBM.out]; try rfl
               go_wp2_with fail
               go_ret2
               exact argR_no HNO.out HX6.out)
            | (have HO6 := Lib.hid (HO2.out.below HW6.out (Nat.le_refl _))
               have hz6 : W1.heap.size ≤ w6.heap.size := Nat.le_trans HB2.out.size HW6.out.size
               have HLN : Hid (rs.length ≤ 100) := by have := HRL.out; unfold Hid; omega
               go_wp2_with (at_builtin; refine wpList_append_rd slV codecV (w6.alloc (.cells #[.int .i64 qk, .int .i64 qn, .string qS, .slice qpl qnl qcl, .slice qpm qnm qcm] 31)) rfl (.tmp 51) (.tmp 53) rfl (v := .slice po no co) rfl rfl (HO6.out.alloc _) (Rd.one (B := w6.heap.size + 1) (x := (⟨qk, qn, qS, qpl, qnl, qcl, qpm, qnm, qcm⟩ : RV)) codecV (heap_alloc_new _ _) rfl (by omega)) (by have := HLN.out; simp only [List.length_singleton]; unfold maxLen; omega) (by have := HLN.out; simp only [List.length_singleton]; omega) (by simp; omega) ?_; intro v7 w7 ho7 hg7 hat7)
               go_roundw
               case rel =>
                 have hbA : Below W1.heap.size w6 (w6.alloc (.cells #[.int .i64 qk, .int .i64 qn, .string qS, .slice qpl qnl qcl, .slice qpm qnm qcm] 31)) := (Below.refl _ _).alloc hz6 _
                 have hb7 : Below W1.heap.size w6 w7 := Below.appended hbA hg7 (HO6.out.alloc _) (by simp; omega)
                 refine ⟨j + 1, by omega, by go_num, by first | (rw [← HFN.out]; done) | (rw [← HFN.out]; first | rfl | go_num), rs ++ [⟨qk, qn, qS, qpl, qnl, qcl, qpm, qnm, qcm⟩], ho7, by simp [HRL.out], fun i k q hk hq => ?_, fun i k hi hk => ?_, (HB2.out.trans (HW6.out.mono HB2.out.size)).trans hb7⟩
                 · rcases snoc_get hq with ⟨hi, hq⟩ | ⟨hi, rfl⟩
                   · exact (HT2.out i k q hk hq).under ((HW6.out.mono (Nat.le_trans hBW HB2.out.size)).trans (hb7.mono hBW)) (Nat.le_refl _)
                   · have e : k = p := by have h1 := HP.out; rw [hi, HRL.out, h1] at hk; exact (Option.some.inj hk).symm
                     rw [e]
                     exact HT6.out.under (hb7.mono hBW) (Nat.le_refl _)
                 · by_cases e : i = j
                   · have e2 : k = p := by have h1 := HP.out; rw [e, h1] at hk; exact (Option.some.inj hk).symm
                     rw [e2]
                     exact HBM.out
                   · exact HMY.out i k (by omega) hk
               case measure => simp [intOf]; omega)
      · obtain rfl : j = ks.length := by omega
        have hAr := HA1.out.under hbr HA1.out.lt
        have a4 := hAr.cell 4 rfl
        dsimp only at a4
        have HALL : Hid (ks.all (fun p => mayK p.2 (argG t p)) = true) := all_take (fun i k hi hk => HMY.out i k hi hk)
        have htk : foundN t ks = F := by rw [← HFF.out, List.take_length]
        have HTK := Lib.hid htk
        have HXR : Hid (Below w.heap.size w wr) := HB1.out.trans (hbr.mono HB1.out.size)
        have hsz := hbr.size
        clear htk hbr hAr
        by_cases hfn : F = nm
        · have HYES : Hid (argsB t ks = true) := by unfold Hid; rw [HA6.out, HALL.out, HTK.out, hfn, HNM.out]; simp
          have q1 : ((F : Int) != (nm : Int)) = false := by simp; omega
          clear hfn
          go_wp2_with fail
          go_ret2
          unfold ArgR
          rw [if_pos HYES.out]
          exact ⟨po, no, co, rs, rfl, HO.out.mono HB1.out.size, HRL.out.symm, HTS.out, HXR.out⟩
        · have HNO : Hid (argsB t ks = false) := by unfold Hid; rw [HA6.out, HALL.out, HTK.out, ← HNM.out, decide_eq_false hfn]; rfl
          have q1 : ((F : Int) != (nm : Int)) = true := by simp; omega
          clear hfn
          go_wp2_with fail
          go_ret2
          exact argR_no HNO.out HXR.out
  · have hq : (r.k != 6) = true := by rw [← hk]; simpa using h6
    have HR : Hid (argsB t ks = false) := by unfold Hid argsB; rw [decide_eq_false h6]; rfl
    obtain ⟨k, n, s', pl, nl, cl, pm, nm, cm⟩ := r
    dsimp only [RV.val, RV.obj] at *
    clear h6 hk
    go_enter Tryz.func53, Tryz.ntmps53
    go_upto_region 1 with fail
    obtain ⟨W0, hW0⟩ : ∃ W, w.alloc (.cells #[.int .i64 k, .int .i64 n, .string s', .slice pl nl cl, .slice pm nm cm] 31) = W := ⟨_, rfl⟩
    rw [hW0] at hB0 hA0
    try rw [hW0]
    have a0 := hA0.cell 0 rfl
    have a1 := hA0.cell 1 rfl
    have a2 := hA0.cell 2 rfl
    have a3 := hA0.cell 3 rfl
    have a4 := hA0.cell 4 rfl
    clear hW0
    go_wp2_with fail
    go_ret2
    exact argR_no HR.out hB0
end Go.Proofs.YtanemojiaahbgaaGreatDoor
end

section
/- What came in reads as an object, as a list of texts, as a truth; the library's variables out of a row's list. -/
set_option linter.unusedSimpArgs false
set_option linter.unusedVariables false
set_option maxRecDepth 100000
namespace Go.Proofs.YtanemojiaahbgaaGreatDoor
open Go Go.RowKit Go.ChangeShapes Go.WideShapes Go.Deep

theorem cellsObF : Tryz.prog.cellsOf 40 = 6 := by kernel_rfl
theorem cellsStrF : Tryz.prog.cellsOf 9 = 1 := by kernel_rfl
theorem bytesStrF : Tryz.prog.bytesOf 9 = 16 := by kernel_rfl
section
variable {H : Type} {enc : TypeId × Value → H} {W : World} {base b0 : Nat} {spare : Nat → Bool} {held : Bool}
theorem open_objectF {v : Value} {d : DataW H} {p : List MemPlace} (hval : Value.okWide Tryz.prog W .any b0 40 v) (h : DataW.Trod enc Tryz.prog W base spare held 40 v d p) :
    ∃ id r t, v = OV id r ∧ TreeOf W W.heap.size t r ∧ ((∀ n ∈ d.weights Tryz.prog 40, n ≤ 140737488351232) → id.size ≤ 140737488351232 ∧ t.Ok) := by
  obtain ⟨cs, rfl, hsz⟩ := okWide_struct Tryz.underlying40 hval
  obtain ⟨fuel, hf⟩ := h
  obtain ⟨y0, y1, n, rfl, hx1, hlen, t0, t1⟩ := trodF2 Tryz.underlying40 hf
  rw [cellsObF] at hlen
  have e6 : (Value.agg cs).cells.toList = cs.toList := rfl
  rw [e6] at hlen t0 t1
  obtain ⟨a0, a1, a2, a3, a4, a5, e⟩ : ∃ a0 a1 a2 a3 a4 a5, cs.toList = [a0, a1, a2, a3, a4, a5] := by
    match cs.toList, hlen with
    | [a, b, c, d, e, f], _ => exact ⟨a, b, c, d, e, f, rfl⟩
  dsimp only at t0 t1
  dsimp only at hx1
  rw [e, cellsStrF] at t0
  rw [e, cellsV] at t1
  simp only [List.drop_zero, List.drop_succ_cons, List.take_succ_cons, List.take_zero] at t0 t1
  obtain ⟨s, e0, f0, w0⟩ := DataW.trod_string Tryz.underlying9 t0
  simp only [List.cons.injEq, and_true] at e0
  subst e0 f0
  obtain ⟨r, t, h1, h2, h3⟩ := open_val n _ _ t1
  refine ⟨s, r, t, ?_, h2, fun hw => ?_⟩
  · have : cs = (Value.string s :: encV r).toArray := by
      apply Array.ext'
      rw [e, h1]
    rw [this]
    rfl
  · rw [hx1] at hw
    exact ⟨weights_string (weights_struct Tryz.underlying40 hw (i := 0) rfl rfl), h3 (weights_struct Tryz.underlying40 hw (i := 1) rfl rfl)⟩
theorem open_textsF {v : Value} {d : DataW H} {p : List MemPlace} (hval : Value.okWide Tryz.prog W .any b0 41 v) (h : DataW.Trod enc Tryz.prog W base spare held 41 v d p) :
    ∃ q n c, ∃ l : List ByteArray, v = .slice q n c ∧ Rd W W.heap.size encS 1 (.slice q n c) l ∧ ((∀ n ∈ d.weights Tryz.prog 41, n ≤ 140737488351232) → l.length ≤ 8796093021952 ∧ ∀ x ∈ l, x.size ≤ 140737488351232) := by
  obtain ⟨fuel, hf⟩ := h
  obtain ⟨a, len, cap, rfl⟩ := okWide_slice Tryz.underlying41 hval
  obtain ⟨q, n, c, l, e, hr, hd⟩ := open_list (Q := fun (s : ByteArray) (d : DataW H) => d = .lit (.string s.data.toList)) Tryz.underlying41 cellsStrF codecS hf (fun m _ cs y hy => by
    obtain ⟨s, e0, f0, w0⟩ := DataW.trod_string Tryz.underlying9 hy
    exact ⟨s, e0, by rw [f0]⟩)
  have hcs : (Value.slice a len cap).cells.toList = [.slice a len cap] := rfl
  rw [hcs] at e
  simp only [List.cons.injEq, Value.slice.injEq, and_true] at e
  obtain ⟨rfl, rfl, rfl⟩ := e
  refine ⟨a, len, cap, l, rfl, hr, fun hw => ?_⟩
  rcases hd with ⟨rfl, _⟩ | ⟨es, sp, h1, h2, h3⟩
  · exact ⟨by simp, fun x hx => by cases hx⟩
  · dsimp only at h1
    subst h1
    obtain ⟨k1, k2⟩ := weights_slice Tryz.underlying41 hw
    rw [bytesStrF] at k1
    refine ⟨by omega, fun x hx => ?_⟩
    obtain ⟨i, hi⟩ := List.getElem?_of_mem hx
    obtain ⟨dd, hdd, rfl⟩ := h3 i x hi
    exact weights_string (k2 _ (List.mem_of_getElem? hdd))
end

theorem gSpaceType : (Tryz.prog.globals[0]?).map (·.type) = some 141 := by kernel_rfl
/-- The library's variables, out of a row's list and the world's shape. -/
theorem vars_of {l : List (String × DataW Unit)} {W : World} (hl : (l.filter fun x => x.1 == "strings.asciiSpace") = [("strings.asciiSpace", Rows.laid_strings_asciiSpace)])
    (hn : (l.all fun x => x.2.handleName?.isNone) = true) (hL : laidMetH Tryz.prog l W) (hS : W.ShapedOpen Tryz.prog) : Vars W := by
  rw [MakeChecks.laidMetH_plain _ _ _ hn] at hL
  have h1 := hL.filter (fun x => x.1 == "strings.asciiSpace")
  rw [hl] at h1
  refine ⟨?_, ?_⟩
  · exact Go.Proofs.cell_of_shapedOpen_int (zero := #[.int .i64 0]) (t := 3) hS (of_decide_eq_true (by kernel_rfl)) (by kernel_rfl) rfl (by kernel_rfl) (by kernel_rfl) Tryz.underlying3
  · exact Lib.tabIs_of_head (zs := Lib.asciiSpaceTab) (rest := []) gSpace gSpaceType Tryz.underlying141 Tryz.underlying5 (by kernel_rfl) (by kernel_rfl) h1
end Go.Proofs.YtanemojiaahbgaaGreatDoor
end

section
/- Contracts of the library at this seat's numbers (the records were written by the kit's lay-shelf.mjs and lay-plain.mjs). -/
set_option linter.unusedSimpArgs false
set_option linter.unusedVariables false
namespace Go.Proofs.YtanemojiaahbgaaGreatDoor
open Go Go.Shelf
def lays110_ren : Go.Shelf.Ren := ⟨fun | 110 => 55 | 109 => 78 | n => n, fun | 31 => 41 | 9 => 9 | 4 => 4 | 3 => 3 | 0 => 0 | n => n, fun | n => n⟩
theorem lays110 : Go.Proofs.Lays.n110 Tryz.prog lays110_ren := {
  mixed := by kernel_rfl
  f109 := Tryz.func78.trans (congrArg some (by kernel_rfl))
  f110 := Tryz.func55.trans (congrArg some (by kernel_rfl))
  t0 := Tryz.underlying0
  a0 := Tryz.isAgg0
  z0 := Tryz.sizeOf0
  v0 := Tryz.zeroValue0
  t3 := Tryz.underlying3
  a3 := Tryz.isAgg3
  z3 := Tryz.sizeOf3
  v3 := Tryz.zeroValue3
  t4 := Tryz.underlying4
  a4 := Tryz.isAgg4
  z4 := Tryz.sizeOf4
  v4 := Tryz.zeroValue4
  t9 := Tryz.underlying9
  a9 := Tryz.isAgg9
  z9 := Tryz.sizeOf9
  v9 := Tryz.zeroValue9
  t31 := Tryz.underlying41
  a31 := Tryz.isAgg41
  z31 := Tryz.sizeOf41
  v31 := Tryz.zeroValue41 }
open Go.Lib in
theorem slices_Contains_string (b off n c : Nat) (zs : List ByteArray) (x : ByteArray) (w : World) (hz : n ≤ zs.length) (hbig : n ≤ 9223372036854775807) (hc : ∀ j, j < zs.length → w.cell? ⟨b, off + j, none⟩ = some (.string (zs.getD j ByteArray.empty))) :
    Calls Tryz.prog 55 #[.slice (some ⟨b, off, none⟩) n c, .string x] w fun e w' => e = .returned (.bool (Lib.containsS (zs.take n) x)) ∧ w' = w := Any.slices_Contains_string lays110 b off n c zs x w hz hbig hc
open Go.Lib in
theorem slices_Contains_string_empty (a : Option Addr) (c : Nat) (x : ByteArray) (w : World) :
    Calls Tryz.prog 55 #[.slice a 0 c, .string x] w fun e w' => e = .returned (.bool false) ∧ w' = w := Any.slices_Contains_string_empty lays110 a c x w
end Go.Proofs.YtanemojiaahbgaaGreatDoor
end

section
/- The ids that are asked for: fetch.asked, walked. -/
set_option linter.unusedSimpArgs false
set_option linter.unusedVariables false
namespace Go.Proofs.YtanemojiaahbgaaGreatDoor
open Go Go.RowKit Go.OpenShut

def inB (l : List ByteArray) (x : ByteArray) : Bool := l.any (fun y => decide (y = x))
theorem inB_iff {l : List ByteArray} {x : ByteArray} : inB l x = true ↔ x ∈ l := by
  unfold inB
  rw [List.any_eq_true]
  constructor
  · rintro ⟨y, hy, h⟩
    have : y = x := of_decide_eq_true h
    subst this
    exact hy
  · intro h
    exact ⟨x, h, decide_eq_true rfl⟩
def addU (acc : List ByteArray) (s : ByteArray) : List ByteArray := if inB acc s = true then acc else acc ++ [s]
theorem addU_len (acc : List ByteArray) (s : ByteArray) : (addU acc s).length ≤ acc.length + 1 := by
  unfold addU
  split <;> simp
theorem foldU_len : ∀ (l acc : List ByteArray), (l.foldl addU acc).length ≤ acc.length + l.length
  | [], acc => by simp
  | x :: l, acc => by
    have h1 := foldU_len l (addU acc x)
    have h2 := addU_len acc x
    simp only [List.foldl_cons, List.length_cons]
    omega
def askedL (b : BoxD) (v : JV) : List ByteArray := if v.k = 1 then b.objs.map (·.1) else (v.l.map JV.s).foldl addU []

theorem containsS_dec (l : List ByteArray) (x : ByteArray) : Lib.containsS l x = inB l x := by
  have h := Lib.containsS_iff l x
  cases hx : inB l x with
  | true => exact h.2 (inB_iff.1 hx)
  | false =>
    cases hc : Lib.containsS l x with
    | false => rfl
    | true =>
      have h2 := inB_iff.2 (h.1 hc)
      rw [hx] at h2
      cases h2
theorem containsS_rd {w : World} {B : Nat} {p : Option Addr} {n c : Nat} {l : List ByteArray} (hr : Rd w B encS 1 (.slice p n c) l) (hn : l.length ≤ 1000000) (x : ByteArray) : Calls Tryz.prog 55 #[.slice p n c, .string x] w fun e w' => e = .returned (.bool (inB l x)) ∧ w' = w := by
  have hnl := rd_nlen hr
  by_cases h0 : 0 < l.length
  · obtain ⟨x0, hx0⟩ : ∃ x, l[0]? = some x := ⟨_, List.getElem?_eq_getElem h0⟩
    obtain ⟨b1, o1, rfl, hb1, _⟩ := rd_at' hr hx0
    refine (slices_Contains_string b1 o1 n c l x w (by omega) (by omega) (fun j hj => ?_)).mono (fun e w' h => ⟨?_, h.2⟩)
    · obtain ⟨y, hy⟩ : ∃ y, l[j]? = some y := ⟨_, List.getElem?_eq_getElem hj⟩
      obtain ⟨b2, o2, he, _, hc2⟩ := rd_at' hr hy
      injection he with he
      injection he with h1 h2
      subst h1 h2
      have h3 := hc2 0 _ rfl
      rw [Nat.add_zero, Nat.mul_one] at h3
      rw [h3, List.getD_eq_getElem?_getD, hy]
      rfl
    · rw [h.1, List.take_of_length_le (by omega), containsS_dec]
  · have : l = [] := List.eq_nil_of_length_eq_zero (by omega)
    subst this
    simp only [List.length_nil] at hnl
    subst hnl
    refine (slices_Contains_string_empty p c x w).mono (fun e w' h => ⟨?_, h.2⟩)
    rw [h.1]
    rfl

set_option maxRecDepth 100000 in
set_option maxHeartbeats 4000000 in
theorem asked_any (b : BoxD) (r : RB) (v : JV) (vr : RV) (w : World) (hb : BoxOf w w.heap.size b r) (ob : b.Ok) (hv : TreeOf w w.heap.size v vr) (hvl : v.l.length ≤ 100000) :
    Calls Tryz.prog 24 #[RB.val r, RV.val vr] w (IdsRet w (askedL b v)) := by
  obtain ⟨hvk, _, _⟩ := hv.head
  obtain ⟨rs, hrs, hlen, hts⟩ := hv.lst
  obtain ⟨vk, vn, vs, vpl, vnl, vcl, vpm, vnm, vcm⟩ := vr
  obtain ⟨po, no, co, pt, nt, ct, sq, fl, kp⟩ := r
  dsimp only [RV.val, RB.val] at *
  have hn := rd_nlen hrs
  obtain ⟨W0, hW0⟩ : ∃ W0, (w.alloc (.cells #[.slice po no co, .slice pt nt ct, .int .i64 sq, .int .i64 fl, .int .i64 kp] 25)).alloc (.cells #[.int .i64 vk, .int .i64 vn, .string vs, .slice vpl vnl vcl, .slice vpm vnm vcm] 31) = W0 := ⟨_, rfl⟩
  have hA0 : BoxAt W0 w.heap.size ⟨po, no, co, pt, nt, ct, sq, fl, kp⟩ := by rw [← hW0]; exact heap_alloc_lt (by simp) (heap_alloc_at rfl)
  have hV0 : VAt W0 (w.heap.size + 1) ⟨vk, vn, vs, vpl, vnl, vcl, vpm, vnm, vcm⟩ := by rw [← hW0]; exact heap_alloc_at (by simp)
  have hB0 : Below w.heap.size w W0 := by rw [← hW0]; exact below2 w _ _
  have HW := Lib.hid hW0
  have HB0 := Lib.hid hB0
  have HI : Hid (Calls Tryz.prog 54 #[RB.val ⟨po, no, co, pt, nt, ct, sq, fl, kp⟩] W0 (IdsRet W0 (b.objs.map (·.1)))) := ids_any b ⟨po, no, co, pt, nt, ct, sq, fl, kp⟩ W0 (hb.under hB0 hB0.size) ob
  have HRS := Lib.hid hrs
  have HTS := Lib.hid hts
  have HN : Hid (v.l.length = vnl ∧ rs.length = vnl) := ⟨by omega, hn.symm⟩
  have hvn : vnl ≤ 100000 := by omega
  clear hW0 hb ob hv hrs hts hlen hn hvl hB0
  by_cases h1 : v.k = 1
  · have HA : Hid (askedL b v = b.objs.map (·.1)) := by unfold Hid askedL; rw [if_pos h1]
    rw [hvk] at h1
    subst h1
    rw [HA.out]
    go_enter Tryz.func24, Tryz.ntmps24
    go_upto_region 1 with fail
    rw [HW.out]
    clear HW
    have a0 := hA0.cell 0 rfl
    have a1 := hA0.cell 1 rfl
    have a2 := hA0.cell 2 rfl
    have a3 := hA0.cell 3 rfl
    have a4 := hA0.cell 4 rfl
    have v0 := hV0.cell 0 rfl
    dsimp only at v0
    go_wp2_with (go_at_call 54; refine HI.out.mono ?_; rintro e w1 ⟨u, rfl, ho, hb1⟩; have HX := Lib.hid (And.intro ho hb1); clear ho hb1)
    go_ret
    exact ⟨_, rfl, HX.out.1.mono HB0.out.size, HB0.out.trans (HX.out.2.mono HB0.out.size)⟩
  · have HA : Hid (askedL b v = (v.l.map JV.s).foldl addU []) := by unfold Hid askedL; rw [if_neg h1]
    have hq : (vk == 1) = false := by rw [hvk] at h1; simpa using h1
    rw [HA.out]
    clear h1 HI HA
    go_enter Tryz.func24, Tryz.ntmps24
    go_upto_region 1 with fail
    rw [HW.out]
    clear HW
    have v0 := hV0.cell 0 rfl
    have v3 := hV0.cell 3 rfl
    dsimp only at v0 v3
    clear hA0 hV0
    go_wp2_with fail
    go_loopw [5, 16] (fun o i wr => ∃ k : Nat, k ≤ vnl ∧ i = .int .i64 k ∧ Hid (Own wr w.heap.size 9 encS 1 o (((v.l.map JV.s).take k).foldl addU []) ∧ Below w.heap.size w wr)) (fun _ i _ => vnl - (intOf i).toNat)
    case atStart => exact ⟨0, Nat.zero_le _, rfl, Own.nil _ _ _, HB0.out⟩
    case round =>
      obtain ⟨k, hk, rfl, hH⟩ := hrel
      obtain ⟨hO, hbr⟩ := hH.out
      clear hH
      by_cases hlt : k < vnl
      · obtain ⟨p, n, c, rfl⟩ : ∃ p n c, u5 = Value.slice p n c := by obtain ⟨p, c, hv, _, _⟩ := hO.len; exact ⟨p, _, c, hv⟩
        obtain ⟨y, hy⟩ : ∃ y, v.l[k]? = some y := ⟨_, List.getElem?_eq_getElem (by have := HN.out; omega)⟩
        obtain ⟨⟨xk, xn, xs, xpl, xnl, xcl, xpm, xnm, xcm⟩, hx⟩ : ∃ x, rs[k]? = some x := ⟨_, List.getElem?_eq_getElem (by have := HN.out; omega)⟩
        obtain ⟨_, _, hys⟩ := (HTS.out k y _ hy hx).head
        dsimp only at hys
        have HTK : Hid (((v.l.map JV.s).take (k + 1)).foldl addU [] = addU (((v.l.map JV.s).take k).foldl addU []) xs) := by
          unfold Hid
          rw [List.take_add_one, List.getElem?_map, hy, Option.map_some, Option.toList_some, List.foldl_append, hys]
          rfl
        obtain ⟨b1, o1, rfl, hb1, hc1⟩ := rd_at' (HRS.out.below hbr (Nat.le_refl _)) hx
        have f0 := hc1 0 _ rfl
        have f1 := hc1 1 _ rfl
        have f2 := hc1 2 _ rfl
        have f3 := hc1 3 _ rfl
        have f4 := hc1 4 _ rfl
        rw [Nat.add_zero] at f0
        dsimp only at f0 f1 f2 f3 f4
        have hk0 : (0 : Int) ≤ (k : Int) := Int.natCast_nonneg _
        have hk1 : (k : Int) < (vnl : Int) := by omega
        obtain ⟨L, hL⟩ : ∃ L, ((v.l.map JV.s).take k).foldl addU [] = L := ⟨_, rfl⟩
        have hLl : L.length ≤ 100000 := by
          have := foldU_len ((v.l.map JV.s).take k) []
          rw [hL] at this
          simp at this
          omega
        rw [hL] at hO HTK
        have HLL := Lib.hid hLl
        have HBR := Lib.hid hbr
        have HO := Lib.hid hO
        have ho1 := hO.alloc (.cells #[.int .i64 xk, .int .i64 xn, .string xs, .slice xpl xnl xcl, .slice xpm xnm xcm] 31)
        have HO1 := Lib.hid ho1
        have HC : Hid (Calls Tryz.prog 55 #[.slice p n c, .string xs] (wr.alloc (.cells #[.int .i64 xk, .int .i64 xn, .string xs, .slice xpl xnl xcl, .slice xpm xnm xcm] 31)) fun e w' => e = .returned (.bool (inB L xs)) ∧ w' = wr.alloc (.cells #[.int .i64 xk, .int .i64 xn, .string xs, .slice xpl xnl xcl, .slice xpm xnm xcm] 31)) := containsS_rd (ho1.rd codecS) (by omega) xs
        have HB1 : Hid (Below w.heap.size w (wr.alloc (.cells #[.int .i64 xk, .int .i64 xn, .string xs, .slice xpl xnl xcl, .slice xpm xnm xcm] 31))) := hbr.alloc hbr.size _
        have HV1 : Hid (VAt (wr.alloc (.cells #[.int .i64 xk, .int .i64 xn, .string xs, .slice xpl xnl xcl, .slice xpm xnm xcm] 31)) wr.heap.size ⟨xk, xn, xs, xpl, xnl, xcl, xpm, xnm, xcm⟩) := heap_alloc_at rfl
        have hz1 : w.heap.size ≤ wr.heap.size := hbr.size
        obtain ⟨d, hd⟩ : ∃ d, inB L xs = d := ⟨_, rfl⟩
        rw [hd] at HC
        have HD := Lib.hid hd
        clear hd hy hx hys hc1 hbr hO ho1 hL hLl
        cases d
        · go_upto_region 7 with fail
          obtain ⟨W1, hW1⟩ : ∃ W, wr.alloc (.cells #[.int .i64 xk, .int .i64 xn, .string xs, .slice xpl xnl xcl, .slice xpm xnm xcm] 31) = W := ⟨_, rfl⟩
          obtain ⟨g7, hg7⟩ : ∃ g, wr.heap.size = g := ⟨_, rfl⟩
          rw [hW1] at HC HB1 HO1
          rw [hW1, hg7] at HV1
          try rw [hW1]
          try rw [hg7]
          have e2 := HV1.out.cell 2 rfl
          dsimp only at e2
          have hz2 : w.heap.size ≤ W1.heap.size := HB1.out.size
          clear hW1 hg7
          have HR1 : Hid (Rd (W1.alloc (.cells #[.string xs] 9)) (W1.heap.size + 1) encS 1 (.slice (some ⟨W1.heap.size, 0, none⟩) 1 1) [xs]) := Rd.one codecS (heap_alloc_at rfl) rfl (by omega)
          have HO2 := Lib.hid (HO1.out.alloc (.cells #[.string xs] 9))
          go_wp2_with (first
            | (go_at_call 55; refine HC.out.mono ?_; rintro e w2 ⟨rfl, hw2⟩; obtain rfl : W1 = w2 := hw2.symm)
            | (at_builtin; refine wpList_append_rd slS codecS (W1.alloc (.cells #[.string xs] 9)) rfl (.tmp 25) (.tmp 28) rfl (v := .slice p n c) rfl rfl HO2.out HR1.out (by have := HLL.out; simp only [List.length_singleton]; unfold maxLen; omega) (by have := HLL.out; simp only [List.length_singleton]; omega) (by simp; omega) ?_; intro v8 w8 ho8 hg8 hat8))
          go_roundw
          case rel =>
            refine ⟨k + 1, by omega, by go_num, ?_, Below.appended (HB1.out.alloc hz2 _) hg8 HO2.out (by simp; omega)⟩
            rw [HTK.out]
            have hnm : addU L xs = L ++ [xs] := by unfold addU; rw [if_neg (by rw [HD.out]; simp)]
            rw [hnm]
            exact ho8
          case measure => simp [intOf]; omega
        · go_upto_region 7 with fail
          obtain ⟨W1, hW1⟩ : ∃ W, wr.alloc (.cells #[.int .i64 xk, .int .i64 xn, .string xs, .slice xpl xnl xcl, .slice xpm xnm xcm] 31) = W := ⟨_, rfl⟩
          obtain ⟨g7, hg7⟩ : ∃ g, wr.heap.size = g := ⟨_, rfl⟩
          rw [hW1] at HC HB1 HO1
          rw [hW1, hg7] at HV1
          try rw [hW1]
          try rw [hg7]
          have e2 := HV1.out.cell 2 rfl
          dsimp only at e2
          clear hW1 hg7
          go_wp2_with (go_at_call 55; refine HC.out.mono ?_; rintro e w2 ⟨rfl, hw2⟩; obtain rfl : W1 = w2 := hw2.symm)
          go_roundw
          case rel =>
            refine ⟨k + 1, by omega, by go_num, ?_, HB1.out⟩
            rw [HTK.out]
            have hnm : addU L xs = L := by unfold addU; rw [if_pos HD.out]
            rw [hnm]
            exact HO1.out
          case measure => simp [intOf]; omega
      · obtain rfl : k = vnl := by omega
        have hta : (v.l.map JV.s).take k = v.l.map JV.s := List.take_of_length_le (by have := HN.out; simp; omega)
        rw [hta] at hO
        have HX := Lib.hid (And.intro hO hbr)
        clear hO hbr hta
        go_wp2_with fail
        go_ret
        exact ⟨_, rfl, HX.out.1, HX.out.2⟩
end Go.Proofs.YtanemojiaahbgaaGreatDoor
end

section
/- The first place at which no point stands, walked. -/
set_option linter.unusedSimpArgs false
set_option linter.unusedVariables false
namespace Go.Proofs.YtanemojiaahbgaaGreatDoor
open Go Go.RowKit

/-- Where reading points from a place on ends. -/
def badU (s : ByteArray) : Nat → Nat → Nat
  | 0, a => a
  | f + 1, a => if a < s.size ∧ (oneU s a).2 ≠ 0 then badU s f (a + (oneU s a).2) else a
def badF (s : ByteArray) : Nat := badU s s.size 0
theorem badU_le (s : ByteArray) : ∀ f a, a ≤ s.size → badU s f a ≤ s.size
  | 0, a, h => h
  | f + 1, a, h => by
    unfold badU
    split
    · exact badU_le s f _ (oneU_le s a h).1
    · exact h
theorem badF_le (s : ByteArray) : badF s ≤ s.size := badU_le s _ _ (Nat.zero_le _)
theorem badU_yes {s : ByteArray} {f a n : Nat} {p : Int} (ha : a < s.size) (ho : oneU s a = (p, n)) (hn : n ≠ 0) : badU s (f + 1) a = badU s f (a + n) := by
  rw [badU, if_pos ⟨ha, by rw [ho]; exact hn⟩, ho]
theorem badU_no {s : ByteArray} {f a : Nat} {p : Int} (ho : oneU s a = (p, 0)) : badU s f a = a := by
  cases f with
  | zero => rfl
  | succ f => rw [badU, if_neg (by rw [ho]; simp)]
theorem badU_end {s : ByteArray} {f : Nat} : badU s f s.size = s.size := by
  cases f with
  | zero => rfl
  | succ f => rw [badU, if_neg (by simp)]
theorem ret_int1 {k : IntKind} {a b : Int} (h : a = b) : Ending.returned (.int k a) = .returned (.int k b) := by rw [h]

set_option maxRecDepth 100000 in
set_option maxHeartbeats 2000000 in
theorem bad_any (s : ByteArray) (w : World) (hs : s.size ≤ maxLen) :
    Calls Tryz.prog 91 #[.string s] w fun e w' => e = .returned (.int .i64 (badF s : Nat)) ∧ w = w' := by
  have HS := Lib.hid hs
  unfold maxLen at hs
  go_enter Tryz.func91, Tryz.ntmps91
  go_wp2_with fail
  go_loop [3] (fun av => ∃ (a f : Nat), a ≤ s.size ∧ s.size ≤ a + f ∧ av = .int .i64 a ∧ Hid (badU s f a = badF s)) (fun av => s.size - (intOf av).toNat)
  case atStart => exact ⟨0, s.size, Nat.zero_le _, by omega, rfl, rfl⟩
  case round =>
    obtain ⟨a, f, ha, hf, rfl, hb⟩ := hrel
    by_cases hlt : a < s.size
    · have HC : Hid (∀ w : World, Calls Tryz.prog 105 #[.string s, .int .i64 a] w fun e w' => e = .returned (.tuple #[.int .i32 (oneU s a).1, .int .i64 (oneU s a).2]) ∧ w = w') := fun w => one_any s a w HS.out hlt
      have hle := oneU_le s a ha
      obtain ⟨f, rfl⟩ : ∃ f', f = f' + 1 := ⟨f - 1, by omega⟩
      unfold Hid at HC
      generalize ho : oneU s a = o at HC hle
      obtain ⟨p, n⟩ := o
      dsimp only at HC hle
      have HC := Lib.hid HC
      by_cases h0 : n = 0
      · subst h0
        have HR : Hid (a = badF s) := by have h := hb.out; rw [badU_no ho] at h; exact h
        clear ho
        go_wp2_with (go_at_call 105; refine (HC.out _).mono ?_; rintro e w' ⟨rfl, rfl⟩)
        go_ret
        exact ⟨ret_int1 (by rw [← HR.out]), rfl⟩
      · have HR : Hid (badU s f (a + n) = badF s) := by have h := hb.out; rw [badU_yes hlt ho h0] at h; exact h
        have q0 : ((n : Int) == 0) = false := by simp; omega
        clear ho
        go_wp2_with (go_at_call 105; refine (HC.out _).mono ?_; rintro e w' ⟨rfl, rfl⟩)
        exact ⟨⟨a + n, f, hle.1, by omega, by go_num, HR⟩, by simp [intOf]; omega⟩
    · obtain rfl : a = s.size := by omega
      have HR : Hid (s.size = badF s) := by have h := hb.out; rw [badU_end] at h; exact h
      go_wp2_with fail
      go_ret
      exact ⟨ret_int1 (by rw [← HR.out]), rfl⟩
end Go.Proofs.YtanemojiaahbgaaGreatDoor
end
