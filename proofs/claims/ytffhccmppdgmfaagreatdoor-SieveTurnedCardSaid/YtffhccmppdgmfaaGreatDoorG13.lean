import Derived.Test.YtffhccmppdgmfaaGreatDoorG11
import Derived.Test.YtffhccmppdgmfaaGreatDoorG12
import Derived.Test.YtffhccmppdgmfaaGreatDoorG02
import Derived.Test.YtffhccmppdgmfaaGreatDoorG05
import Derived.Test.YtffhccmppdgmfaaGreatDoorG10
import Derived.Test.YtffhccmppdgmfaaGreatDoorRows
import Derived.ChangeArms
import Derived.ChangeMaps5
import Derived.LaidLaws
import Derived.LaidSub
import Derived.Lib.LaidTab
import Derived.Lib.SmallJoins
import Derived.MakeChecks
import Derived.OpenShut
import Derived.Shelf.Vars
import Derived.Deep.LoopGhost
import Derived.Deep.CutBlock
import Derived.Test.YtffhccmppdgmfaaGreatDoorG00
import Derived.Shelf.SlSortCmp.KitK
set_option linter.unusedSimpArgs false
set_option linter.unusedVariables false
set_option maxRecDepth 200000
set_option maxHeartbeats 8000000
namespace Go.Proofs.YtffhccmppdgmfaaGreatDoor
section
open Go Go.RowKit Go.OpenShut Go.Maps Go.WideMaps Go.ChangeMaps Go.MapKept Go.WideShapes
section
variable {P : Program} (w : World) {ops : Array Oper} {rest : List Oper} {o : Oper} {a : Act} {Q : Exit -> Act -> World -> Prop}
end
def fnV (n : Nat) : Value := .func (.func n) #[] #[]
def askV (n : ByteArray) : Option Value :=
 if n = svUpAft then some (fnV 125) else
 if n = svUpBef then some (fnV 124) else
 if n = svCrAft then some (fnV 123) else
 if n = svCrBef then some (fnV 122) else
 if n = kindN then some (fnV 121) else
 if n = svHasMem then some (fnV 120) else
 if n = svUid then some (fnV 119) else
 if n = svInBook then some (fnV 118) else none
def AsksAt (w : World) (b : Nat) : Prop := ∃ f n, MapF w Tryz.prog 9 b n f /\ ∀ s : ByteArray, f s.data.toList = askV s
theorem AsksAt.below {B : Nat} {w w' : World} {b : Nat} (h : AsksAt w b) (hb : Below B w w') (hB : b < B) : AsksAt w' b := by
 obtain ⟨f, n, h1, h2⟩ := h
 exact ⟨f, n, h1.below hb hB, h2⟩
theorem AsksAt.lt {w : World} {b : Nat} (h : AsksAt w b) : b < w.heap.size := by
 obtain ⟨f, n, h1, h2⟩ := h
 exact h1.lt
theorem AsksAt.look {w : World} {b : Nat} (h : AsksAt w b) {s : ByteArray} (hs : s.size <= maxLen) : (Instr.lookup 131 (.map (some b)) (.string s) false).run Tryz.prog w = .ok ((askV s).getD .nilFunc) w := by
 obtain ⟨f, n, h1, h2⟩ := h
 have := h1.look Tryz.underlying9 Tryz.underlying131 (Tryz.zeroValue133 w) hs
 rw [h2] at this
 exact this
theorem toList_eqB {a b : ByteArray} : a.data.toList = b.data.toList ↔ a = b := ⟨fun h => ByteArray.ext (Array.toList_inj.1 h), fun h => by rw [h]⟩
theorem asks_any (w : World) : Calls Tryz.prog 93 #[] w fun e w' => ∃ b, e = .returned (.map (some b)) /\ AsksAt w' b /\ w.heap.size <= b /\ Below w.heap.size w w' := by
 have h0 : MapF (w.alloc (.map #[] 0)) Tryz.prog 9 w.heap.size 0 (fun _ => none) := MapF.made w Tryz.prog 9
 have hb0 : Below w.heap.size w (w.alloc (.map #[] 0)) := (Below.refl _ _).alloc (Nat.le_refl _) _
 obtain ⟨W0, hW0⟩ : ∃ W, w.alloc (.map #[] 0) = W := ⟨_, rfl⟩
 rw [hW0] at h0 hb0
 have HB0 := Lib.hid hb0
 have HM0 := Lib.hid h0
 clear h0 hb0
 obtain ⟨w1, hr1, hm1, hg1⟩ := HM0.out.store Tryz.underlying9 Tryz.underlying131 (by decide) (s := svInBook) (by decide) (fnV 118)
 have HM1 := Lib.hid hm1
 have HB1 : Hid (Below w.heap.size w w1) := HB0.out.grown hg1 HB0.out.size (fun k e => by cases e; exact Nat.le_refl _)
 clear hm1 hg1
 obtain ⟨w2, hr2, hm2, hg2⟩ := HM1.out.store Tryz.underlying9 Tryz.underlying131 (by decide) (s := svUid) (by decide) (fnV 119)
 have HM2 := Lib.hid hm2
 have HB2 : Hid (Below w.heap.size w w2) := HB1.out.grown hg2 HB1.out.size (fun k e => by cases e; exact Nat.le_refl _)
 clear hm2 hg2
 obtain ⟨w3, hr3, hm3, hg3⟩ := HM2.out.store Tryz.underlying9 Tryz.underlying131 (by decide) (s := svHasMem) (by decide) (fnV 120)
 have HM3 := Lib.hid hm3
 have HB3 : Hid (Below w.heap.size w w3) := HB2.out.grown hg3 HB2.out.size (fun k e => by cases e; exact Nat.le_refl _)
 clear hm3 hg3
 obtain ⟨w4, hr4, hm4, hg4⟩ := HM3.out.store Tryz.underlying9 Tryz.underlying131 (by decide) (s := kindN) (by decide) (fnV 121)
 have HM4 := Lib.hid hm4
 have HB4 : Hid (Below w.heap.size w w4) := HB3.out.grown hg4 HB3.out.size (fun k e => by cases e; exact Nat.le_refl _)
 clear hm4 hg4
 obtain ⟨w5, hr5, hm5, hg5⟩ := HM4.out.store Tryz.underlying9 Tryz.underlying131 (by decide) (s := svCrBef) (by decide) (fnV 122)
 have HM5 := Lib.hid hm5
 have HB5 : Hid (Below w.heap.size w w5) := HB4.out.grown hg5 HB4.out.size (fun k e => by cases e; exact Nat.le_refl _)
 clear hm5 hg5
 obtain ⟨w6, hr6, hm6, hg6⟩ := HM5.out.store Tryz.underlying9 Tryz.underlying131 (by decide) (s := svCrAft) (by decide) (fnV 123)
 have HM6 := Lib.hid hm6
 have HB6 : Hid (Below w.heap.size w w6) := HB5.out.grown hg6 HB5.out.size (fun k e => by cases e; exact Nat.le_refl _)
 clear hm6 hg6
 obtain ⟨w7, hr7, hm7, hg7⟩ := HM6.out.store Tryz.underlying9 Tryz.underlying131 (by decide) (s := svUpBef) (by decide) (fnV 124)
 have HM7 := Lib.hid hm7
 have HB7 : Hid (Below w.heap.size w w7) := HB6.out.grown hg7 HB6.out.size (fun k e => by cases e; exact Nat.le_refl _)
 clear hm7 hg7
 obtain ⟨w8, hr8, hm8, hg8⟩ := HM7.out.store Tryz.underlying9 Tryz.underlying131 (by decide) (s := svUpAft) (by decide) (fnV 125)
 have HM8 := Lib.hid hm8
 have HB8 : Hid (Below w.heap.size w w8) := HB7.out.grown hg8 HB7.out.size (fun k e => by cases e; exact Nat.le_refl _)
 clear hm8 hg8
 have HF : Hid (AsksAt w8 w.heap.size) := ⟨_, _, HM8.out, fun s => by
  simp only [toList_eqB]
  rfl⟩
 unfold fnV at hr1 hr2 hr3 hr4 hr5 hr6 hr7 hr8
 have e1 : svInBook = ⟨#[105, 110, 65, 100, 100, 114, 101, 115, 115, 66, 111, 111, 107]⟩ := rfl
 have e2 : svUid = ⟨#[117, 105, 100]⟩ := rfl
 have e3 : svHasMem = ⟨#[104, 97, 115, 77, 101, 109, 98, 101, 114]⟩ := rfl
 have e4 : kindN = ⟨#[107, 105, 110, 100]⟩ := rfl
 have e5 : svCrBef = ⟨#[99, 114, 101, 97, 116, 101, 100, 66, 101, 102, 111, 114, 101]⟩ := rfl
 have e6 : svCrAft = ⟨#[99, 114, 101, 97, 116, 101, 100, 65, 102, 116, 101, 114]⟩ := rfl
 have e7 : svUpBef = ⟨#[117, 112, 100, 97, 116, 101, 100, 66, 101, 102, 111, 114, 101]⟩ := rfl
 have e8 : svUpAft = ⟨#[117, 112, 100, 97, 116, 101, 100, 65, 102, 116, 101, 114]⟩ := rfl
 rw [e1] at hr1
 rw [e2] at hr2
 rw [e3] at hr3
 rw [e4] at hr4
 rw [e5] at hr5
 rw [e6] at hr6
 rw [e7] at hr7
 rw [e8] at hr8
 clear e1 e2 e3 e4 e5 e6 e7 e8
 have hmm := @run_makeMap Tryz.prog
 go_enter Tryz.func93, Tryz.ntmps93
 go_wp2_with fail
 go_ret
 exact ⟨_, rfl, HF.out, Nat.le_refl _, HB8.out⟩
theorem AllAt.rd {w : World} (h : AllAt w) : Rd w w.heap.size encS 1 (.slice (some ⟨0, 0, none⟩) 8 8) allF := by
 refine ⟨_, 8, rfl, Nat.le_refl _, by decide, (fun e => by cases e), fun a ha _ => ?_⟩
 cases ha
 refine ⟨_, 0, rfl, (cell_some (h 0 _ rfl)).2, fun i x hx j u hu => ?_⟩
 match j, hu with
 | 0, hu =>
   obtain rfl := Option.some.inj hu
   have := h i x hx
   simpa using this
 | j + 1, hu => simp [encS] at hu
theorem isField_in (n : ByteArray) : isFieldB n = ((n.toList == [116, 101, 120, 116]) || ((n.toList == [110, 97, 109, 101, 47, 103, 105, 118, 101, 110]) || ((n.toList == [110, 97, 109, 101, 47, 115, 117, 114, 110, 97, 109, 101]) || inB allF n))) := by
 rw [<- bytes_dec, <- bytes_dec, <- bytes_dec]
 rfl
theorem field_is (n : ByteArray) (w : World) (ha : AllAt w) : Calls Tryz.prog 114 #[.string n] w fun e w' => e = .returned (.bool (isFieldB n)) /\ w = w' := by
 have HC := Lib.hid (containsS_rd ha.rd (by decide) n)
 rw [isField_in]
 obtain ⟨a, h1⟩ : ∃ b, (n.toList == [116, 101, 120, 116]) = b := ⟨_, rfl⟩
 obtain ⟨b, h2⟩ : ∃ b, (n.toList == [110, 97, 109, 101, 47, 103, 105, 118, 101, 110]) = b := ⟨_, rfl⟩
 obtain ⟨c, h3⟩ : ∃ b, (n.toList == [110, 97, 109, 101, 47, 115, 117, 114, 110, 97, 109, 101]) = b := ⟨_, rfl⟩
 obtain ⟨d, h4⟩ : ∃ b, inB allF n = b := ⟨_, rfl⟩
 rw [h4] at HC
 rw [h1, h2, h3, h4]
 clear h4 ha
 cases a <;> cases b <;> cases c
 all_goals
  go_enter Tryz.func114, Tryz.ntmps114
  go_wp2_with (go_at_call 96; (with_reducible refine HC.out.mono ?_); rintro e w1 ⟨rfl, rfl⟩)
  go_ret
  exact ⟨rfl, rfl⟩
theorem stampIs_any (s : ByteArray) (w : World) (hs : s.size <= maxLen) : Calls Tryz.prog 116 #[.string s] w fun e w' => e = .returned (.bool (secF s.data.toList).isSome) /\ Below w.heap.size w w' := by
 have HC := Lib.hid (seconds_any s w hs)
 obtain ⟨o, ho⟩ : ∃ o, secF s.data.toList = o := ⟨_, rfl⟩
 rw [ho] at HC
 rw [ho]
 clear ho
 cases o
 all_goals
  unfold secRet at HC
  go_enter Tryz.func116, Tryz.ntmps116
  go_wp2_with (go_at_call 144; (with_reducible refine HC.out.mono ?_); rintro e w1 ⟨rfl, hb1⟩)
  go_ret
  exact ⟨rfl, hb1⟩
end
section
open Go Go.RowKit Go.OpenShut Go.Joins Go.ChangeShapes Go.WideShapes Go.ChangeAt Go.Lib
theorem gAll : Tryz.prog.globalNamed "cardbox/sieve.all" = some 0 := by kernel_rfl
theorem gAllType : (Tryz.prog.globals[0]?).map (·.type) = some 78 := by kernel_rfl
theorem all_data : (Rows.laid_cardbox_sieve_all : DataW Unit) = .agg (allF.map fun s => .lit (.string s.data.toList)) := by kernel_rfl
theorem all_of {l : List (String × DataW Unit)} {W : World} (hl : (l.filter fun x => x.1 == "cardbox/sieve.all") = [("cardbox/sieve.all", Rows.laid_cardbox_sieve_all)])
 (hn : (l.all fun x => x.2.handleName?.isNone) = true) (hL : laidMetH Tryz.prog l W) : AllAt W := by
 rw [MakeChecks.laidMetH_plain _ _ _ hn] at hL
 have h1 := hL.filter (fun x => x.1 == "cardbox/sieve.all")
 rw [hl, all_data] at h1
 obtain ⟨ps, ⟨g, t, cs, fuel, p, q, hg, ht, hv, hd, _, _⟩, _, _⟩ := h1
 obtain rfl := Option.some.inj (gAll.symm.trans hg)
 obtain rfl := Option.some.inj (gAllType.symm.trans ht)
 obtain ⟨xs, m, _, ex, _, hxl, hel⟩ := DataW.trod_array Tryz.underlying78 hd
 have c9 : Tryz.prog.cellsOf 9 = 1 := by kernel_rfl
 intro i x hx
 have hi : i < 8 := (List.getElem?_eq_some_iff.1 hx).1
 have hE := hel i hi
 rw [c9, Nat.mul_one, List.getElem?_eq_getElem (by omega)] at hE
 obtain ⟨z, e1, e2, _⟩ := DataW.trod_string Tryz.underlying9 hE
 have e3 : (xs.map (·.1)) = allF.map fun s => .lit (.string s.data.toList) := (DataW.agg.inj (Prod.mk.inj ex).1).symm
 have e4 : (xs.map (·.1))[i]? = (allF.map fun s => (DataW.lit (.string s.data.toList) : DataW Unit))[i]? := by rw [e3]
 rw [List.getElem?_map, List.getElem?_map, List.getElem?_eq_getElem (by omega : i < xs.length), hx, e2] at e4
 have hz : z = x := by
  simp only [Option.map_some, Option.some.injEq, DataW.lit.injEq, Lit.string.injEq] at e4
  exact ByteArray.ext (Array.toList_inj.1 e4)
 rw [World.var?_cell hg hv i, <- hz]
 have : cs.toList[i]? = some (.string z) := by
  have h0 : ((cs.toList.drop i).take 1)[0]? = some (.string z) := by rw [e1]; rfl
  simpa using h0
 simpa using this
theorem max_of {W : World} (hS : W.ShapedOpen Tryz.prog) : MaxAt W :=
 Go.Proofs.cell_of_shapedOpen_int (zero := #[.int .i64 0]) (t := 3) hS (of_decide_eq_true (by kernel_rfl)) (by kernel_rfl) rfl (by kernel_rfl) (by kernel_rfl) Tryz.underlying3
end
section
open Go Go.RowKit Go.OpenShut
theorem par_bd : ∀ (f : Nat), (∀ (d p : Nat) (ts : List Tok) (v : JV) (q : Nat) (r : List Tok), parV f d p ts = some (v, q, r) -> p < q /\ q <= 8192 /\ d <= 16) /\
 (∀ (d p : Nat) (ts : List Tok) (l : List JV) (q : Nat) (r : List Tok), parL f d p ts = some (l, q, r) -> p < q /\ q <= 8192) /\
 (∀ (d p : Nat) (k : List ByteArray) (ts : List Tok) (l : List (ByteArray × JV)) (q : Nat) (r : List Tok), parM f d p k ts = some (l, q, r) -> p < q /\ q <= 8192)
 | 0 => ⟨fun d p ts v q r h => by cases ts <;> simp [parV] at h, fun d p ts l q r h => by simp [parL] at h, fun d p k ts l q r h => by simp [parM] at h⟩
 | f + 1 => by
   have ih := par_bd f
   refine ⟨fun d p ts v q r h => ?_, fun d p ts l q r h => ?_, fun d p k ts l q r h => ?_⟩
   ·cases ts with
    | nil => simp [parV] at h
    | cons t ts =>
      unfold parV at h
      split at h
      ·cases h
      ·rename_i hc
       have hc2 : d <= 16 /\ p < 8192 := by omega
       split at h
       ·cases h; omega
       ·split at h
        ·split at h
         ·cases h; omega
         ·split at h <;> (cases h; omega)
        ·split at h
         ·cases ts with
          | nil => cases h
          | cons c r' =>
            dsimp only at h
            split at h
            ·cases h; omega
            ·obtain ⟨x, hx, he⟩ := Option.map_eq_some_iff.1 h
             cases he
             have := ih.2.1 _ _ _ _ _ _ (show parL f d (p + 1) (c :: r') = some (x.1, x.2.1, x.2.2) from hx)
             omega
         ·split at h
          ·cases ts with
           | nil => cases h
           | cons c r' =>
             dsimp only at h
             split at h
             ·cases h; omega
             ·obtain ⟨x, hx, he⟩ := Option.map_eq_some_iff.1 h
              cases he
              have := ih.2.2 _ _ _ _ _ _ _ (show parM f d (p + 1) [] (c :: r') = some (x.1, x.2.1, x.2.2) from hx)
              omega
          ·split at h
           ·cases h; omega
           ·cases h
   ·unfold parL at h
    split at h
    ·rename_i v p' c r' hv
     have h1 := ih.1 _ _ _ _ _ _ hv
     split at h
     ·cases h; omega
     ·split at h
      ·obtain ⟨x, hx, he⟩ := Option.map_eq_some_iff.1 h
       cases he
       have := ih.2.1 _ _ _ _ _ _ (show parL f d p' r' = some (x.1, x.2.1, x.2.2) from hx)
       omega
      ·cases h
    ·cases h
   ·match ts, h with
    | [], h => simp [parM] at h
    | [_], h => simp [parM] at h
    | n :: col :: ts, h =>
      unfold parM at h
      split at h
      ·split at h
       ·rename_i v p' c r' hv
        have h1 := ih.1 _ _ _ _ _ _ hv
        split at h
        ·cases h; omega
        ·split at h
         ·obtain ⟨x, hx, he⟩ := Option.map_eq_some_iff.1 h
          cases he
          have := ih.2.2 _ _ _ _ _ _ _ (show parM f d p' (n.s :: k) r' = some (x.1, x.2.1, x.2.2) from hx)
          omega
         ·cases h
       ·cases h
      ·cases h
theorem parL_step {f d p : Nat} {ts : List Tok} {l : List JV} {q : Nat} {r : List Tok} (h : parL f d p ts = some (l, q, r)) :
 ∃ f' t ts' v p' c r', f = f' + 1 /\ ts = t :: ts' /\ parV f' (d + 1) p (t :: ts') = some (v, p', c :: r') /\ p < p' /\ p' <= 8192 /\ ((isM c 93 = true /\ l = [v] /\ q = p' /\ r = r') \/ (isM c 93 = false /\ isM c 44 = true /\ ∃ l', l = v :: l' /\ parL f' d p' r' = some (l', q, r))) := by
 cases f with
 | zero => simp [parL] at h
 | succ f =>
   unfold parL at h
   split at h
   ·rename_i v p' c r' hv
    have hb := (par_bd f).1 _ _ _ _ _ _ hv
    cases ts with
    | nil => cases f <;> simp [parV] at hv
    | cons t ts =>
      refine ⟨f, t, ts, v, p', c, r', rfl, rfl, hv, hb.1, hb.2.1, ?_⟩
      split at h
      ·cases h; exact .inl ⟨‹_›, rfl, rfl, rfl⟩
      ·rename_i h9
       split at h
       ·rename_i h4
        obtain ⟨x, hx, he⟩ := Option.map_eq_some_iff.1 h
        cases he
        exact .inr ⟨by simpa using h9, h4, x.1, rfl, hx⟩
       ·cases h
   ·cases h
def PV (N : Nat) : Prop := ∀ f, f <= N -> ∀ (d p : Nat) (t : Tok) (ts : List Tok) (v : JV) (q : Nat) (r : List Tok), parV f d p (t :: ts) = some (v, q, r) -> ∀ (w : World) (g en : Nat), RdS w g ts en p ->
    Calls Tryz.prog 78 #[.pointer (some ⟨g, 0, none⟩), t.val, .int .i64 d] w (ValR w g v r en q)
def LstR (w : World) (g : Nat) (l : List JV) (ts : List Tok) (en pa : Nat) (e : Ending) (w' : World) : Prop := ∃ p n c, e = .returned (.slice p n c) /\ GrL w' w.heap.size (.slice p n c) l /\ RdS w' g ts en pa /\ w.grownBy w' (some g)
theorem _root_.Go.RowKit.Below.gbr {w w' : World} (h : Below w.heap.size w w') (row : Option Nat) : w.grownBy w' row := ⟨h.os, h.tape, h.output, h.size, fun k hk _ => h.block k hk⟩
theorem _root_.Go.World.grownBy.own_row {w w1 w2 : World} {row r2 : Option Nat} (h : w.grownBy w1 row) (h2 : w1.grownBy w2 r2) (hx : ∀ k, r2 = some k -> w.heap.size <= k) : w.grownBy w2 row :=
 ⟨h2.os.trans h.os, h2.tape.trans h.tape, h2.output.trans h.output, Nat.le_trans h.size h2.size, fun k hk hne => (h2.block k (Nat.lt_of_lt_of_le hk h.size) (fun e => by have := hx k e.symm; omega)).trans (h.block k hk hne)⟩
theorem GrL.other {w w' : World} {base g : Nat} {v : Value} {l : List JV} (h : GrL w base v l) (hg : w.grownBy w' (some g)) (hb : g < base) : GrL w' base v l :=
 h.out (fun k h1 h2 => hg.block k h2 (fun e => by cases e; omega)) hg.size
theorem GrL.own {w : World} {base : Nat} {v : Value} {l : List JV} (h : GrL w base v l) : ∃ p n c, v = .slice p n c /\ n = l.length /\ ∀ k, v.ownBlock = some k -> base <= k /\ k < w.heap.size := by
 obtain ⟨rs, h1, h2, _⟩ := h.ex
 obtain ⟨p, c, hv, _, _⟩ := h1.len
 exact ⟨p, _, c, hv, by rw [h2], h1.lt⟩
theorem list_none (w : World) (g en pa deep : Nat) (c : Tok) (r : List Tok) (h : RdS w g (c :: r) en pa) (hc : isM c 93 = true) : Calls Tryz.prog 107 #[.pointer (some ⟨g, 0, none⟩), .int .i64 deep] w (LstR w g [] r en pa) := by
 have HP := Lib.hid (peek_any w g en pa c r 93 true h hc)
 have HN : Hid (∀ W, Below w.heap.size w W -> Calls Tryz.prog 79 #[.pointer (some ⟨g, 0, none⟩)] W (NxtRet W g c r en pa)) := fun W hb => next_any W g en pa c r (h.kept (hb.gbr none) (fun k e => by cases e))
 clear h hc
 go_enter Tryz.func107, Tryz.ntmps107
 go_wp2_with (first
  | (go_at_call 142; refine HP.out.mono ?_; rintro e w1 ⟨rfl, hb1⟩)
  | (go_at_call 79; refine (HN.out _ hb1).mono ?_; rintro e w2 ⟨rfl, hr2, hg2⟩))
 go_ret
 exact ⟨none, 0, 0, rfl, GrL.nil _ _, hr2, ((hb1.gbr none).keep_some hg2)⟩
theorem list_some (N : Nat) (hV : PV N) (w : World) (g en pa deep f0 : Nat) (c : Tok) (r : List Tok) (l : List JV) (q : Nat) (rest : List Tok) (h : RdS w g (c :: r) en pa) (hd : deep <= 16) (hc : isM c 93 = false) (hf : f0 <= N) (hl : parL f0 deep pa (c :: r) = some (l, q, rest)) :
 Calls Tryz.prog 107 #[.pointer (some ⟨g, 0, none⟩), .int .i64 deep] w (LstR w g l rest en q) := by
 have hgl := h.lt
 have HP := Lib.hid (peek_any w g en pa c r 93 false h hc)
 have HL := Lib.hid hl
 have H0 := Lib.hid h
 have hd0 : (0 : Int) <= (deep : Int) := Int.natCast_nonneg _
 have hd1 : (deep : Int) <= 16 := by omega
 have HV : Hid (∀ f, f <= N -> ∀ (p : Nat) (t : Tok) (ts : List Tok) (v : JV) (q : Nat) (r : List Tok), parV f (deep + 1) p (t :: ts) = some (v, q, r) -> ∀ (w : World), RdS w g ts en p ->
  Calls Tryz.prog 78 #[.pointer (some ⟨g, 0, none⟩), t.val, .int .i64 ((deep : Int) + 1)] w (ValR w g v r en q)) := fun f hf p t ts v q r hp w hr => hV f hf (deep + 1) p t ts v q r hp w g en hr
 clear h hc hl hd hV
 go_enter Tryz.func107, Tryz.ntmps107
 go_wp2_with (go_at_call 142; refine HP.out.mono ?_; rintro e w1 ⟨rfl, hb1⟩)
 have HB1 := Lib.hid hb1
 clear hb1
 go_loopg [5] f0 (fun gk o wr => gk <= N /\ ∃ ts1 pa1 l1 l2, Hid (parL gk deep pa1 ts1 = some (l2, q, rest) /\ l = l1 ++ l2 /\ RdS wr g ts1 en pa1 /\ GrL wr w.heap.size o l1 /\ l1.length <= pa1 /\ w.grownBy wr (some g)))
 case atStart => exact ⟨hf, c :: r, pa, [], l, HL.out, rfl, H0.out.kept (HB1.out.gbr none) (fun k e => by cases e), GrL.nil _ _, Nat.zero_le _, HB1.out.gbr _⟩
 case round =>
  obtain ⟨hgk, ts1, pa1, l1, l2, hH⟩ := hrel
  obtain ⟨hpl, hll, hrs, hgr, hlen, hgw⟩ := hH.out
  clear hH
  obtain ⟨f', t, ts', v, p', c1, r', rfl, rfl, hpv, hp1, hp2, hcase⟩ := parL_step hpl
  obtain ⟨po, no, co, rfl, hno, hlt⟩ := hgr.own
  have HNX := Lib.hid (next_any wr g en pa1 t ts' hrs)
  have HVA : Hid (∀ W, RdS W g ts' en pa1 -> Calls Tryz.prog 78 #[.pointer (some ⟨g, 0, none⟩), t.val, .int .i64 ((deep : Int) + 1)] W (ValR W g v (c1 :: r') en p')) := fun W hr => HV.out f' (by omega) pa1 t ts' v p' (c1 :: r') hpv W hr
  have HLEN : Hid (l1.length < p' /\ p' <= 8192) := ⟨by omega, hp2⟩
  have HCASE := Lib.hid hcase
  have HLL := Lib.hid hll
  have HGR := Lib.hid hgr
  have HGW := Lib.hid hgw
  have HRS := Lib.hid hrs
  have HNO := Lib.hid hno
  clear hpl hpv hcase hll hgr hgw hno hlt hlen hp1 hp2 hrs
  have HN2 : Hid (∀ W, RdS W g (c1 :: r') en p' -> Calls Tryz.prog 79 #[.pointer (some ⟨g, 0, none⟩)] W (NxtRet W g c1 r' en p')) := fun W hr => next_any W g en p' c1 r' hr
  obtain ⟨tk, tn, tS, tp⟩ := t
  obtain ⟨ck, cn, cS, cp⟩ := c1
  dsimp only [Tok.val, NxtRet] at *
  go_upto_region 6 with (first
   | (go_at_call 79; refine HNX.out.mono ?_; rintro e w2 ⟨rfl, hr2, hg2⟩)
   | (go_at_call 78; refine (HVA.out _ hr2).mono ?_; rintro e w3 ⟨rv, rfl, ht3, hr3, hg3⟩; (have hgr3 := (HGR.out.other hg2 hgl).other hg3 hgl); obtain ⟨rs, hO3, hl3, hT3⟩ := hgr3.ex; obtain ⟨vk, vn, vs, vpl, vnl, vcl, vpm, vnm, vcm⟩ := rv; (have HL3 := Lib.hid hl3); (have HT3 := Lib.hid hT3); (have HS3 : Hid (w.heap.size <= w2.heap.size /\ w2.heap.size <= w3.heap.size /\ wr.heap.size <= w2.heap.size) := ⟨Nat.le_trans HGW.out.size hg2.size, hg3.size, hg2.size⟩); clear hl3 hT3 hgr3)
   | (at_builtin; refine wpList_append_rd slV codecV (w3.alloc (.cells #[.int .i64 vk, .int .i64 vn, .string vs, .slice vpl vnl vcl, .slice vpm vnm vcm] 25)) rfl (.tmp 11) (.tmp 18) rfl (v := .slice po no co) rfl rfl (hO3.alloc _) (Rd.one (B := w3.heap.size + 1) (x := (⟨vk, vn, vs, vpl, vnl, vcl, vpm, vnm, vcm⟩ : RV)) codecV (heap_alloc_new _ _) rfl (by omega)) (by have := HLEN.out; have := HL3.out; simp only [List.length_singleton]; unfold maxLen; omega) (by have := HLEN.out; have := HL3.out; simp only [List.length_singleton]; omega) (by have := HS3.out; simp; omega) ?_; intro v4 w4 ho4 hg4 hat4))
  have hlt := HGR.out.own
  have hgr4 : GrL w4 w.heap.size v4 (l1 ++ [v]) := by
   obtain ⟨_, _, _, hv, _, hlt⟩ := hlt
   cases hv
   refine GrL.snoc hO3 HL3.out HT3.out (ht3.mono (fun k hk => ⟨by have := hk.1; have := HS3.out; omega, hk.2, fun e => by have := (hlt k e).2; have := hk.1; have := HS3.out; omega⟩)) ho4 ((World.grownBy_alloc _ _ _).trans hg4) (fun k e => ?_)
   rcases hat4 with h | h
   ·exact .inl (h ▸ e)
   ·rw [h] at e; cases e; exact .inr (by simp)
  have hrow : ∀ k, (Value.slice po no co).ownBlock = some k -> w.heap.size <= k := fun k e => by
   obtain ⟨_, _, _, hv, _, hlt⟩ := hlt
   cases hv
   exact (hlt k e).1
  have hr4 := (hr3.kept (World.grownBy_alloc w3 (.cells #[.int .i64 vk, .int .i64 vn, .string vs, .slice vpl vnl vcl, .slice vpm vnm vcm] 25) none) (fun k e => by cases e)).kept hg4 (fun k e => by have := hrow k e; omega)
  have hg4' := ((HGW.out.trans (hg2.trans hg3)).own_row (World.grownBy_alloc w3 (.cells #[.int .i64 vk, .int .i64 vn, .string vs, .slice vpl vnl vcl, .slice vpm vnm vcm] 25) none) (fun k e => by cases e)).own_row hg4 hrow
  obtain ⟨p4, n4, c4, rfl, hn4, hlt4⟩ := hgr4.own
  have HGR4 := Lib.hid hgr4
  have HR4 := Lib.hid hr4
  have HG4 := Lib.hid hg4'
  clear hgr4 hr4 hg4' hn4 hlt4 hlt hrow hg4 ho4 hat4 hO3 HT3 HL3 ht3 hr3 hg3 hr2 hg2 HNX HVA
  go_upto_region 7 with (go_at_call 79; refine (HN2.out _ HR4.out).mono ?_; rintro e w5 ⟨rfl, hr5, hg5⟩)
  have hT5 : TokAt (w5.alloc (.cells #[.int .i64 ck, .int .i64 cn, .string cS, .int .i64 cp] 115)) w5.heap.size ⟨ck, cn, cS, cp⟩ := heap_alloc_at rfl
  have hr6 := hr5.kept (World.grownBy_alloc w5 (.cells #[.int .i64 ck, .int .i64 cn, .string cS, .int .i64 cp] 115) none) (fun k e => by cases e)
  have hgr6 := (HGR4.out.other hg5 hgl).out (w' := w5.alloc (.cells #[.int .i64 ck, .int .i64 cn, .string cS, .int .i64 cp] 115)) (fun k h1 h2 => Below.heap_alloc _ _ k h2) (by simp)
  have hg6 := (HG4.out.trans hg5).own_row (World.grownBy_alloc w5 (.cells #[.int .i64 ck, .int .i64 cn, .string cS, .int .i64 cp] 115) none) (fun k e => by cases e)
  obtain ⟨b6, hb6⟩ : ∃ b, w5.heap.size = b := ⟨_, rfl⟩
  obtain ⟨w6, hw6⟩ : ∃ W, w5.alloc (.cells #[.int .i64 ck, .int .i64 cn, .string cS, .int .i64 cp] 115) = W := ⟨_, rfl⟩
  rw [hw6, hb6] at hT5
  rw [hw6] at hr6 hgr6 hg6
  try rw [hw6]
  try rw [hb6]
  clear hw6 hb6 hr5 hg5 HR4 HGR4 HG4
  have a0 := hT5.cell 0 rfl
  have a1 := hT5.cell 1 rfl
  have a2 := hT5.cell 2 rfl
  have a3 := hT5.cell 3 rfl
  have HR6 := Lib.hid hr6
  have HGR6 := Lib.hid hgr6
  have HG6 := Lib.hid hg6
  have HT6 := Lib.hid hT5
  clear hr6 hgr6 hg6 hT5
  have hcase := HCASE.out
  rcases hcase with ⟨hc1, hc2, hc3, hc4⟩ | ⟨hc1, hc2, l', hc3, hc4⟩
  ·have HI : Hid (∀ W, Calls Tryz.prog 106 #[.agg #[.int .i64 ck, .int .i64 cn, .string cS, .int .i64 cp], .string ⟨#[93]⟩] W fun e w' => e = .returned (.bool true) /\ Below W.heap.size W w') := fun W => is_any ⟨ck, cn, cS, cp⟩ 93 W true hc1
   have HC : Hid (l = l1 ++ [v] /\ q = p' /\ rest = r') := ⟨by rw [HLL.out, hc2], hc3, hc4⟩
   clear hc1 hc2 hc3 hc4 HCASE
   go_wp2_with (go_at_call 106; refine (HI.out _).mono ?_; rintro e w7 ⟨rfl, hb7⟩)
   go_ret
   obtain ⟨e1, e2, e3⟩ := HC.out
   rw [e1, e2, e3]
   exact ⟨p4, n4, c4, rfl, HGR6.out.out (fun k _ h2 => hb7.block k h2) hb7.size, HR6.out.kept (hb7.gbr none) (fun k e => by cases e), HG6.out.own_row (hb7.gbr none) (fun k e => by cases e)⟩
  ·have HI : Hid (∀ W, Calls Tryz.prog 106 #[.agg #[.int .i64 ck, .int .i64 cn, .string cS, .int .i64 cp], .string ⟨#[93]⟩] W fun e w' => e = .returned (.bool false) /\ Below W.heap.size W w') := fun W => is_any ⟨ck, cn, cS, cp⟩ 93 W false hc1
   have HJ : Hid (∀ W, Calls Tryz.prog 106 #[.agg #[.int .i64 ck, .int .i64 cn, .string cS, .int .i64 cp], .string ⟨#[44]⟩] W fun e w' => e = .returned (.bool true) /\ Below W.heap.size W w') := fun W => is_any ⟨ck, cn, cS, cp⟩ 44 W true hc2
   have HC : Hid (l = (l1 ++ [v]) ++ l' /\ parL f' deep p' r' = some (l', q, rest)) := ⟨by rw [HLL.out, hc3]; simp, hc4⟩
   clear hc1 hc2 hc3 hc4 HCASE
   go_upto_region 9 with (go_at_call 106; refine (HI.out _).mono ?_; rintro e w7 ⟨rfl, hb7⟩)
   have hT7 := HT6.out.keep (hb7.block _ HT6.out.lt)
   clear a0 a1 a2 a3
   have a0 := hT7.cell 0 rfl
   have a1 := hT7.cell 1 rfl
   have a2 := hT7.cell 2 rfl
   have a3 := hT7.cell 3 rfl
   go_wp2_with (go_at_call 106; refine (HJ.out _).mono ?_; rintro e w8 ⟨rfl, hb8⟩)
   go_roundg f'
   case measure => omega
   case rel =>
    exact ⟨by omega, r', p', l1 ++ [v], l', HC.out.2, HC.out.1, (HR6.out.kept (hb7.gbr none) (fun k e => by cases e)).kept (hb8.gbr none) (fun k e => by cases e), (HGR6.out.out (fun k _ h2 => hb7.block k h2) hb7.size).out (fun k _ h2 => hb8.block k h2) hb8.size, by have := HLEN.out; simp; omega, (HG6.out.own_row (hb7.gbr none) (fun k e => by cases e)).own_row (hb8.gbr none) (fun k e => by cases e)⟩
def Small (w : World) (k : Nat) : Prop := ∃ cs t z, w.heap[k]? = some (.cells cs t z) /\ cs.size < 5
theorem TokAt.small {W : World} {g : Nat} {t : Tok} (h : TokAt W g t) : Small W g := ⟨_, _, _, h, by simp⟩
theorem RdI.same' {α : Type} {enc : α -> List Value} {sz : Nat} (C : Codec enc sz) (hsz : 5 <= sz) {w w' : World} {S : Nat -> Prop} {v : Value} {xs : List α} (h : RdI w S enc sz v xs) (hk : ∀ k, S k -> w'.heap[k]? = w.heap[k]? \/ Small w k) : RdI w' S enc sz v xs := by
 obtain ⟨p, cap, h1, h2, h3, h4, h5⟩ := h
 refine ⟨p, cap, h1, h2, h3, h4, fun a ha h0 => ?_⟩
 obtain ⟨b, o, e, hb, hr⟩ := h5 a ha h0
 rcases hk b hb with hs | ⟨cs, t, z, hs, hlt⟩
 ·exact ⟨b, o, e, hb, fun i x hx j u hu => (World.cell?_of_block (w := w) (a := ⟨b, o + i * sz + j, none⟩) hs).trans (hr i x hx j u hu)⟩
 ·exfalso
  obtain ⟨x, hx⟩ : ∃ x, xs[0]? = some x := ⟨_, List.getElem?_eq_getElem h0⟩
  obtain ⟨u, hu⟩ : ∃ u, (enc x)[sz - 1]? = some u := ⟨_, List.getElem?_eq_getElem (by rw [C.len]; omega)⟩
  have h6 := hr 0 x hx (sz - 1) u hu
  rw [cell_of_row w b _ cs t z hs] at h6
  have := (Array.getElem?_eq_some_iff.1 h6).1
  omega
theorem TreeS.same' {w w' : World} {S : Nat -> Prop} {t : JV} {r : RV} (h : TreeS w S t r) (hk : ∀ k, S k -> w'.heap[k]? = w.heap[k]? \/ Small w k) : TreeS w' S t r := by
 induction h with
 | mk hl el cl hm em cn cm ih1 ih2 => exact .mk (hl.same' codecV (by decide) hk) el ih1 (hm.same' codecM (by decide) hk) em cn ih2
theorem parM_step {f d p : Nat} {k : List ByteArray} {ts : List Tok} {l : List (ByteArray × JV)} {q : Nat} {r : List Tok} (h : parM f d p k ts = some (l, q, r)) :
 ∃ f' n col t ts' v p' c r', f = f' + 1 /\ ts = n :: col :: t :: ts' /\ n.kind = 4 /\ n.s ∉ k /\ n.s.size <= 1048576 /\ isM col 58 = true /\ parV f' (d + 1) p (t :: ts') = some (v, p', c :: r') /\ p < p' /\ p' <= 8192 /\
   ((isM c 125 = true /\ l = [(n.s, v)] /\ q = p' /\ r = r') \/ (isM c 125 = false /\ isM c 44 = true /\ ∃ l', l = (n.s, v) :: l' /\ parM f' d p' (n.s :: k) r' = some (l', q, r))) := by
 match f, ts, h with
 | 0, ts, h => simp [parM] at h
 | f + 1, [], h => simp [parM] at h
 | f + 1, [_], h => simp [parM] at h
 | f + 1, n :: col :: ts, h =>
   unfold parM at h
   split at h
   ·rename_i hc
    simp only [Bool.and_eq_true, decide_eq_true_eq, Bool.not_eq_true'] at hc
    split at h
    ·rename_i v p' c r' hv
     have hb := (par_bd f).1 _ _ _ _ _ _ hv
     cases ts with
     | nil => cases f <;> simp [parV] at hv
     | cons t ts =>
       have hnk : n.s ∉ k := by
        intro hm
        have h1 := hc.1.1.2
        rw [List.any_eq_false] at h1
        exact h1 _ hm (by simp)
       refine ⟨f, n, col, t, ts, v, p', c, r', rfl, rfl, hc.1.1.1, hnk, hc.1.2, hc.2, hv, hb.1, hb.2.1, ?_⟩
       split at h
       ·cases h; exact .inl ⟨‹_›, rfl, rfl, rfl⟩
       ·rename_i h9
        split at h
        ·rename_i h4
         obtain ⟨x, hx, he⟩ := Option.map_eq_some_iff.1 h
         cases he
         exact .inr ⟨by simpa using h9, h4, x.1, rfl, hx⟩
        ·cases h
    ·cases h
   ·cases h
def knF (l : List ByteArray) (u : List UInt8) : Option Value := if u ∈ l.map (·.data.toList) then some (.bool true) else none
theorem knF_cons (l : List ByteArray) (n : ByteArray) : knF (n :: l) = fun u => if u = n.data.toList then some (.bool true) else knF l u := by
 funext u
 unfold knF
 by_cases h1 : u = n.data.toList
 ·subst h1; simp
 ·by_cases h2 : u ∈ l.map (·.data.toList)
  ·rw [if_neg h1, if_pos h2, if_pos (by rw [List.map_cons]; exact List.mem_cons_of_mem _ h2)]
  ·rw [if_neg h1, if_neg h2, if_neg (by rw [List.map_cons, List.mem_cons]; exact fun e => e.elim h1 h2)]
theorem knF_not {l : List ByteArray} {n : ByteArray} (h : n ∉ l) : knF l n.data.toList = none := by
 unfold knF
 rw [if_neg]
 intro hm
 obtain ⟨x, hx, e⟩ := List.mem_map.1 hm
 exact h (bytes_ext e ▸ hx)
theorem GrM.own {w : World} {base : Nat} {v : Value} {l : List (ByteArray × JV)} (h : GrM w base v l) : ∃ p n c, v = .slice p n c /\ n = l.length /\ ∀ k, v.ownBlock = some k -> base <= k /\ k < w.heap.size := by
 obtain ⟨rs, h1, h2, _⟩ := h.ex
 obtain ⟨p, c, hv, _, _⟩ := h1.len
 exact ⟨p, _, c, hv, by rw [h2], h1.lt⟩
theorem GrM.lower {w : World} {base b' : Nat} {v : Value} {m : List (ByteArray × JV)} (h : GrM w base v m) (hb : b' <= base) : GrM w b' v m := by
 obtain ⟨rs, h1, h2, h4, h3⟩ := h.ex
 exact ⟨rs, h1.mono hb, h2, h4, fun i t q a b => (h3 i t q a b).mono (fun k e => ⟨by omega, e.2⟩)⟩
theorem GrM.small {w w' : World} {base x : Nat} {v : Value} {m : List (ByteArray × JV)} (h : GrM w base v m) (hg : w.grownBy w' (some x)) (hs : Small w x) (hx : v.ownBlock ≠ some x) : GrM w' base v m := by
 obtain ⟨rs, h1, h2, h4, h3⟩ := h.ex
 have hz := hg.size
 have key : ∀ k, k < w.heap.size -> w'.heap[k]? = w.heap[k]? \/ Small w k := fun k hk => by
  by_cases e : k = x
  ·subst e; exact .inr hs
  ·exact .inl (hg.block k hk (fun e2 => by cases e2; exact e rfl))
 exact ⟨rs, h1.same (fun k e => hg.block k (h1.lt k e).2 (fun e2 => by cases e2; exact hx e)), h2, h4, fun i t q a b => ((h3 i t q a b).same' (fun k e => key k e.2.1)).mono (fun k e => ⟨e.1, by omega, e.2.2⟩)⟩
structure MSt (w W : World) (g mb base : Nat) (known : List ByteArray) (ts : List Tok) (en pa : Nat) (o : Value) (l : List (ByteArray × JV)) : Prop where
 rds : RdS W g ts en pa
 gr : GrM W base o l
 mp : MapF W Tryz.prog 9 mb known.length (knF known)
 gw : w.grownBy W (some g)
 lt : g < w.heap.size /\ w.heap.size <= mb /\ mb < base /\ base <= W.heap.size
section
variable {w W W' : World} {g mb base en pa : Nat} {known : List ByteArray} {ts : List Tok} {o : Value} {l : List (ByteArray × JV)} (h : MSt w W g mb base known ts en pa o l)
include h
theorem MSt.go {ts' : List Tok} {pa' : Nat} (hr : RdS W' g ts' en pa') (hg : W.grownBy W' (some g)) : MSt w W' g mb base known ts' en pa' o l := by
 have hl := h.lt
 exact ⟨hr, h.gr.out (fun k h1 h2 => hg.block k h2 (fun e => by cases e; omega)) hg.size, h.mp.kept hg (fun e => by cases e; omega), h.gw.trans hg, hl.1, hl.2.1, hl.2.2.1, Nat.le_trans hl.2.2.2 hg.size⟩
theorem MSt.call (hb : Below W.heap.size W W') : MSt w W' g mb base known ts en pa o l := h.go (h.rds.kept (hb.gbr none) (fun k e => by cases e)) (hb.gbr _)
theorem MSt.alloc (x : Obj) : MSt w (W.alloc x) g mb base known ts en pa o l := h.call ((Below.refl _ _).alloc (Nat.le_refl _) _)
theorem MSt.upd {n : ByteArray} (hm : MapF W' Tryz.prog 9 mb (known.length + 1) (fun u => if u = n.data.toList then some (.bool true) else knF known u)) (hg : W.grownBy W' (some mb)) : MSt w W' g mb base (n :: known) ts en pa o l := by
 have hl := h.lt
 exact ⟨h.rds.kept hg (fun k e => by cases e; omega), h.gr.out (fun k h1 h2 => hg.block k h2 (fun e => by cases e; omega)) hg.size, by rw [knF_cons]; exact hm, h.gw.own_row hg (fun k e => by cases e; omega), hl.1, hl.2.1, hl.2.2.1, Nat.le_trans hl.2.2.2 hg.size⟩
theorem MSt.tok {x : Nat} (hg : W.grownBy W' (some x)) (hs : Small W x) (hx : base <= x) (ho : o.ownBlock ≠ some x) : MSt w W' g mb base known ts en pa o l := by
 have hl := h.lt
 exact ⟨h.rds.kept hg (fun k e => by cases e; omega), h.gr.small hg hs ho, h.mp.kept hg (fun e => by cases e; omega), h.gw.own_row hg (fun k e => by cases e; omega), hl.1, hl.2.1, hl.2.2.1, Nat.le_trans hl.2.2.2 hg.size⟩
theorem MSt.app {o' : Value} {l' : List (ByteArray × JV)} {row : Option Nat} (hgr : GrM W' base o' l') (hg : W.grownBy W' row) (hrow : ∀ k, row = some k -> base <= k) : MSt w W' g mb base known ts en pa o' l' := by
 have hl := h.lt
 exact ⟨h.rds.kept hg (fun k e => by have := hrow k e; omega), hgr, h.mp.kept hg (fun e => by have := hrow _ e.symm; omega), h.gw.own_row hg (fun k e => by have := hrow k e; omega), hl.1, hl.2.1, hl.2.2.1, Nat.le_trans hl.2.2.2 hg.size⟩
end
theorem members_none (w : World) (g en pa deep : Nat) (c : Tok) (r : List Tok) (h : RdS w g (c :: r) en pa) (hc : isM c 125 = true) : Calls Tryz.prog 108 #[.pointer (some ⟨g, 0, none⟩), .int .i64 deep] w fun e w' => e = .returned (.slice none 0 0) /\ RdS w' g r en pa /\ w.grownBy w' (some g) := by
 have HP := Lib.hid (peek_any w g en pa c r 125 true h hc)
 have HN : Hid (∀ W, Below w.heap.size w W -> Calls Tryz.prog 79 #[.pointer (some ⟨g, 0, none⟩)] W (NxtRet W g c r en pa)) := fun W hb => next_any W g en pa c r (h.kept (hb.gbr none) (fun k e => by cases e))
 clear h hc
 go_enter Tryz.func108, Tryz.ntmps108
 go_wp2_with (first
  | (go_at_call 142; refine HP.out.mono ?_; rintro e w1 ⟨rfl, hb1⟩)
  | (go_at_call 79; refine (HN.out _ hb1).mono ?_; rintro e w2 ⟨rfl, hr2, hg2⟩))
 go_ret
 exact ⟨rfl, hr2, ((hb1.gbr none).keep_some hg2)⟩
def MemR (w : World) (g : Nat) (l : List (ByteArray × JV)) (ts : List Tok) (en pa : Nat) (e : Ending) (w' : World) : Prop := ∃ p n c, e = .returned (.slice p n c) /\ GrM w' w.heap.size (.slice p n c) l /\ RdS w' g ts en pa /\ w.grownBy w' (some g)
theorem members_some (N : Nat) (hV : PV N) (w : World) (g en pa deep f0 : Nat) (c : Tok) (r : List Tok) (l : List (ByteArray × JV)) (q : Nat) (rest : List Tok) (h : RdS w g (c :: r) en pa) (hd : deep <= 16) (hc : isM c 125 = false) (hf : f0 <= N) (hl : parM f0 deep pa [] (c :: r) = some (l, q, rest)) :
 Calls Tryz.prog 108 #[.pointer (some ⟨g, 0, none⟩), .int .i64 deep] w (MemR w g l rest en q) := by
 have hgl := h.lt
 have HP := Lib.hid (peek_any w g en pa c r 125 false h hc)
 have HL := Lib.hid hl
 have H0 := Lib.hid h
 have hd0 : (0 : Int) <= (deep : Int) := Int.natCast_nonneg _
 have hd1 : (deep : Int) <= 16 := by omega
 have HV : Hid (∀ f, f <= N -> ∀ (p : Nat) (t : Tok) (ts : List Tok) (v : JV) (q : Nat) (r : List Tok), parV f (deep + 1) p (t :: ts) = some (v, q, r) -> ∀ (w : World), RdS w g ts en p ->
  Calls Tryz.prog 78 #[.pointer (some ⟨g, 0, none⟩), t.val, .int .i64 ((deep : Int) + 1)] w (ValR w g v r en q)) := fun f hf p t ts v q r hp w hr => hV f hf (deep + 1) p t ts v q r hp w g en hr
 clear h hc hl hd hV
 go_enter Tryz.func108, Tryz.ntmps108
 go_upto_region 5 with (go_at_call 142; refine HP.out.mono ?_; rintro e w1 ⟨rfl, hb1⟩)
 have hM0 : MSt w (w1.alloc (.map #[] 0)) g w1.heap.size (w1.heap.size + 1) [] (c :: r) en pa (.slice none 0 0) [] :=
  ⟨(H0.out.kept (hb1.gbr none) (fun k e => by cases e)).kept (World.grownBy_alloc w1 _ none) (fun k e => by cases e), GrM.nil _ _, by have := MapF.made w1 Tryz.prog 9; exact this, (hb1.gbr (some g)).own_row (World.grownBy_alloc w1 _ none) (fun k e => by cases e), hgl, hb1.size, by omega, by simp⟩
 have hmm := @run_makeMap Tryz.prog
 go_wp2_with fail
 clear hmm
 have hb0 : w1.heap.size + 1 = (w1.alloc (.map #[] 0)).heap.size := by simp
 obtain ⟨W1, hW1⟩ : ∃ W, w1.alloc (.map #[] 0) = W := ⟨_, rfl⟩
 rw [hW1] at hM0 hb0
 try rw [hW1]
 clear hW1
 obtain ⟨mb, hmb⟩ : ∃ b, w1.heap.size = b := ⟨_, rfl⟩
 rw [hmb] at hM0 hb0
 try rw [hmb]
 have HM0 := Lib.hid hM0
 clear hM0 hmb hb0 hb1
 go_loopg [5] f0 (fun gk o wr => gk <= N /\ ∃ known ts1 pa1 l1 l2, Hid (parM gk deep pa1 known ts1 = some (l2, q, rest) /\ l = l1 ++ l2 /\ MSt w wr g mb (mb + 1) known ts1 en pa1 o l1 /\ l1.length <= pa1 /\ known.length <= pa1))
 case atStart => exact ⟨hf, [], c :: r, pa, [], l, HL.out, rfl, HM0.out, Nat.zero_le _, Nat.zero_le _⟩
 case round =>
  obtain ⟨hgk, known, ts1, pa1, l1, l2, hH⟩ := hrel
  obtain ⟨hpl, hll, hms, hlen, hkn⟩ := hH.out
  clear hH
  obtain ⟨f', n, col, t, ts', v, p', c1, r', rfl, rfl, hnk, hnot, hsz, hcol, hpv, hp1, hp2, hcase⟩ := parM_step hpl
  obtain ⟨po, no, co, rfl, hno, hlt⟩ := hms.gr.own
  have HNX : Hid (Calls Tryz.prog 79 #[.pointer (some ⟨g, 0, none⟩)] wr (NxtRet wr g n (col :: t :: ts') en pa1)) := next_any wr g en pa1 n _ hms.rds
  have HN2 : Hid (∀ W, RdS W g (col :: t :: ts') en pa1 -> Calls Tryz.prog 79 #[.pointer (some ⟨g, 0, none⟩)] W (NxtRet W g col (t :: ts') en pa1)) := fun W hr => next_any W g en pa1 col _ hr
  have HN3 : Hid (∀ W, RdS W g (t :: ts') en pa1 -> Calls Tryz.prog 79 #[.pointer (some ⟨g, 0, none⟩)] W (NxtRet W g t ts' en pa1)) := fun W hr => next_any W g en pa1 t _ hr
  have HN4 : Hid (∀ W, RdS W g (c1 :: r') en p' -> Calls Tryz.prog 79 #[.pointer (some ⟨g, 0, none⟩)] W (NxtRet W g c1 r' en p')) := fun W hr => next_any W g en p' c1 _ hr
  have HVA : Hid (∀ W, RdS W g ts' en pa1 -> Calls Tryz.prog 78 #[.pointer (some ⟨g, 0, none⟩), t.val, .int .i64 ((deep : Int) + 1)] W (ValR W g v (c1 :: r') en p')) := fun W hr => HV.out f' (by omega) pa1 t ts' v p' (c1 :: r') hpv W hr
  have HI1 : Hid (∀ W, Calls Tryz.prog 106 #[col.val, .string ⟨#[58]⟩] W fun e w' => e = .returned (.bool true) /\ Below W.heap.size W w') := fun W => is_any col 58 W true hcol
  have HLEN : Hid (l1.length < p' /\ p' <= 8192 /\ known.length < p') := ⟨by omega, hp2, by omega⟩
  have HCASE := Lib.hid hcase
  have HLL := Lib.hid hll
  have HMS := Lib.hid hms
  have HROW0 : Hid (∀ k, (Value.slice po no co).ownBlock = some k -> mb + 1 <= k /\ k < wr.heap.size) := hlt
  have HNO := Lib.hid hno
  have HNOT := Lib.hid hnot
  have HSZ := Lib.hid hsz
  clear hpl hpv hcase hll hno hlt hlen hp1 hp2 hms hnot hsz hcol hkn
  obtain ⟨nk, nn, nS, np⟩ := n
  obtain ⟨lk, ln, lS, lp⟩ := col
  obtain ⟨tk, tn, tS, tp⟩ := t
  obtain ⟨ck, cn, cS, cp⟩ := c1
  dsimp only [Tok.val, NxtRet] at *
  subst hnk
  go_upto_region 7 with (go_at_call 79; refine HNX.out.mono ?_; rintro e w2 ⟨rfl, hr2, hg2⟩)
  have hm2 := (HMS.out.go hr2 hg2).alloc (.cells #[.int .i64 4, .int .i64 nn, .string nS, .int .i64 np] 115)
  have hT2 : TokAt (w2.alloc (.cells #[.int .i64 4, .int .i64 nn, .string nS, .int .i64 np] 115)) w2.heap.size ⟨4, nn, nS, np⟩ := heap_alloc_at rfl
  have hge2 : mb + 1 <= w2.heap.size := Nat.le_trans HMS.out.lt.2.2.2 hg2.size
  have hsz2 : wr.heap.size <= w2.heap.size := hg2.size
  obtain ⟨b7, hb7⟩ : ∃ b, w2.heap.size = b := ⟨_, rfl⟩
  obtain ⟨w3, hw3⟩ : ∃ W, w2.alloc (.cells #[.int .i64 4, .int .i64 nn, .string nS, .int .i64 np] 115) = W := ⟨_, rfl⟩
  rw [hw3] at hm2 hT2
  rw [hb7] at hT2 hge2 hsz2
  try rw [hw3]
  try rw [hb7]
  clear hw3 hb7 hr2 hg2 HMS HNX
  have a0 := hT2.cell 0 rfl
  have a1 := hT2.cell 1 rfl
  have a2 := hT2.cell 2 rfl
  have a3 := hT2.cell 3 rfl
  have HM3 := Lib.hid hm2
  have HT3 := Lib.hid hT2
  have HGE := Lib.hid (show mb + 1 <= b7 /\ wr.heap.size <= b7 from ⟨hge2, hsz2⟩)
  have hlk : (knF known nS.data.toList).getD (.bool false) = .bool false := by rw [knF_not HNOT.out]; rfl
  have HLK := Lib.hid hlk
  clear hm2 hT2 hge2 hsz2 hlk
  go_upto_region 11 with (at_lookup; refine wpList_look_F _ rfl _ _ _ rfl 9 4 Tryz.underlying9 Tryz.underlying152 (Tryz.zeroValue4 _) _ _ (knF known) rfl HM3.out.mp nS rfl (by have := HSZ.out; unfold maxLen; omega) (v := .bool false) HLK.out ?_; go_frame)
  go_upto_region 12 with (at_mapUpdate; refine wpList_store_F _ rfl _ _ _ _ rfl 9 4 Tryz.underlying9 Tryz.underlying152 _ _ _ rfl HM3.out.mp (by have := HLEN.out; unfold maxLen; omega) nS rfl (by have := HSZ.out; unfold maxLen; omega) (.bool true) rfl ?_; intro w4 hM4 hG4; go_frame)
  have hm4 := HM3.out.upd hM4 hG4
  have hT4 := HT3.out.keep (hG4.block _ HT3.out.lt (by have := HGE.out; simp; omega))
  have HM4 := Lib.hid hm4
  have HT4 := Lib.hid hT4
  clear hm4 hT4 hM4 hG4 HM3 HT3 a0 a1 a2 a3
  go_upto_region 13 with (go_at_call 79; refine (HN2.out _ HM4.out.rds).mono ?_; rintro e w5 ⟨rfl, hr5, hg5⟩)
  have hT5 := HT4.out.keep (hg5.block b7 HT4.out.lt (by have := HGE.out; have := HM4.out.lt; simp; omega))
  have hT6 : TokAt (w5.alloc (.cells #[.int .i64 lk, .int .i64 ln, .string lS, .int .i64 lp] 115)) b7 ⟨4, nn, nS, np⟩ := hT5.keep (Below.heap_alloc _ _ _ hT5.lt)
  have hT8 : TokAt (w5.alloc (.cells #[.int .i64 lk, .int .i64 ln, .string lS, .int .i64 lp] 115)) w5.heap.size ⟨lk, ln, lS, lp⟩ := heap_alloc_at rfl
  have hm6 := (HM4.out.go hr5 hg5).alloc (.cells #[.int .i64 lk, .int .i64 ln, .string lS, .int .i64 lp] 115)
  obtain ⟨b8, hb8⟩ : ∃ b, w5.heap.size = b := ⟨_, rfl⟩
  obtain ⟨w6, hw6⟩ : ∃ W, w5.alloc (.cells #[.int .i64 lk, .int .i64 ln, .string lS, .int .i64 lp] 115) = W := ⟨_, rfl⟩
  rw [hw6] at hm6 hT6 hT8
  rw [hb8] at hT8
  try rw [hw6]
  try rw [hb8]
  clear hw6 hb8 hr5 hg5 hT5 HT4 HM4 HN2
  have a0 := hT8.cell 0 rfl
  have a1 := hT8.cell 1 rfl
  have a2 := hT8.cell 2 rfl
  have a3 := hT8.cell 3 rfl
  have HM6 := Lib.hid hm6
  have HT6 := Lib.hid hT6
  clear hm6 hT6 hT8
  go_upto_region 15 with (go_at_call 106; refine (HI1.out _).mono ?_; rintro e w7 ⟨rfl, hb7⟩)
  have HM7 := Lib.hid (HM6.out.call hb7)
  have HT7 := Lib.hid (HT6.out.keep (hb7.block _ HT6.out.lt))
  clear hb7 HM6 HT6 HI1 a0 a1 a2 a3
  go_upto_region 16 with (first
   | (go_at_call 79; refine (HN3.out _ HM7.out.rds).mono ?_; rintro e w8 ⟨rfl, hr8, hg8⟩)
   | (go_at_call 78; refine (HVA.out _ hr8).mono ?_; rintro e w9 ⟨rv, rfl, ht9, hr9, hg9⟩; obtain ⟨vk, vn, vs, vpl, vnl, vcl, vpm, vnm, vcm⟩ := rv))
  have hm8 := HM7.out.go hr8 hg8
  have hm9 := hm8.go hr9 hg9
  have hlt7 := HM7.out.lt
  have hT9 := (HT7.out.keep (hg8.block b7 HT7.out.lt (by have := HGE.out; simp; omega)))
  have hT10 := (hT9.keep (hg9.block b7 hT9.lt (by have := HGE.out; simp; omega)))
  have hT11 : TokAt (w9.alloc (.cells #[.int .i64 vk, .int .i64 vn, .string vs, .slice vpl vnl vcl, .slice vpm vnm vcm] 25)) b7 ⟨4, nn, nS, np⟩ := hT10.keep (Below.heap_alloc _ _ _ hT10.lt)
  have hV11 : VAt (w9.alloc (.cells #[.int .i64 vk, .int .i64 vn, .string vs, .slice vpl vnl vcl, .slice vpm vnm vcm] 25)) w9.heap.size ⟨vk, vn, vs, vpl, vnl, vcl, vpm, vnm, vcm⟩ := heap_alloc_at rfl
  have hm11 := hm9.alloc (.cells #[.int .i64 vk, .int .i64 vn, .string vs, .slice vpl vnl vcl, .slice vpm vnm vcm] 25)
  have hown := HM7.out.gr.own
  have ht11 : TreeS (w9.alloc (.cells #[.int .i64 vk, .int .i64 vn, .string vs, .slice vpl vnl vcl, .slice vpm vnm vcm] 25)) (fun k => mb + 1 <= k /\ k < (w9.alloc (.cells #[.int .i64 vk, .int .i64 vn, .string vs, .slice vpl vnl vcl, .slice vpm vnm vcm] 25)).heap.size /\ (Value.slice po no co).ownBlock ≠ some k) v ⟨vk, vn, vs, vpl, vnl, vcl, vpm, vnm, vcm⟩ :=
   (ht9.same (fun k hk => Below.heap_alloc _ _ k hk.2)).mono (fun k hk => ⟨by have := hk.1; have := hm8.lt; omega, by have := hk.2; simp; omega, fun e => by
    obtain ⟨_, _, _, hv, _, hlt⟩ := hown
    cases hv
    have := (hlt k e).2
    have := hk.1
    have := hg8.size
    omega⟩)
  have hrow : ∀ k, (Value.slice po no co).ownBlock = some k -> mb + 1 <= k /\ k < w7.heap.size := fun k e => by
   obtain ⟨_, _, _, hv, _, hlt⟩ := hown
   cases hv
   exact hlt k e
  have hb7lt : b7 < w7.heap.size := HT7.out.lt
  obtain ⟨b9, hb9⟩ : ∃ b, w9.heap.size = b := ⟨_, rfl⟩
  have hz9 : w7.heap.size <= b9 := by rw [<- hb9]; exact Nat.le_trans hg8.size hg9.size
  obtain ⟨w10, hw10⟩ : ∃ W, w9.alloc (.cells #[.int .i64 vk, .int .i64 vn, .string vs, .slice vpl vnl vcl, .slice vpm vnm vcm] 25) = W := ⟨_, rfl⟩
  rw [hw10] at hm11 hT11 hV11 ht11
  rw [hb9] at hV11
  try rw [hw10]
  try rw [hb9]
  clear hw10 hb9 hm8 hm9 hT9 hT10 hown ht9 hr8 hr9 hg8 hg9 HN3 HVA hlt7
  have a2 := hT11.cell 2 rfl
  obtain ⟨v0, v1, v2, v3, v4⟩ := hV11.cells5
  dsimp only at v0 v1 v2 v3 v4
  obtain ⟨rms, hO, hl3, hnm3, hT3⟩ := hm11.gr.ex
  have HL3 := Lib.hid hl3
  have HNM := Lib.hid hnm3
  have HTS := Lib.hid hT3
  have HM11 := Lib.hid hm11
  have HT11 := Lib.hid hT11
  have HT12 := Lib.hid ht11
  have HROW := Lib.hid hrow
  have HO := Lib.hid hO
  clear hm11 hT11 hV11 ht11 hrow hl3 hnm3 hT3 hO HT7 HM7
  go_upto_region 17 with (at_builtin; refine wpList_append_rd slM codecM (w10.alloc (.cells #[.string nS, .int .i64 vk, .int .i64 vn, .string vs, .slice vpl vnl vcl, .slice vpm vnm vcm] 32)) rfl (.tmp 44) (.tmp 49) rfl (v := .slice po no co) rfl rfl (HO.out.alloc _) (Rd.one (B := w10.heap.size + 1) (x := (⟨nS, ⟨vk, vn, vs, vpl, vnl, vcl, vpm, vnm, vcm⟩⟩ : RM)) codecM (heap_alloc_new _ _) rfl (by omega)) (by have := HLEN.out; have := HL3.out; simp only [List.length_singleton]; unfold maxLen; omega) (by have := HLEN.out; have := HL3.out; simp only [List.length_singleton]; omega) (by have := HM11.out.lt; simp; omega) ?_; intro v4 w12 ho4 hg4 hat4)
  have hgr4 : GrM w12 (mb + 1) v4 (l1 ++ [(nS, v)]) := by
   refine GrM.snoc HO.out HL3.out HNM.out HTS.out HT12.out ho4 ((World.grownBy_alloc _ _ _).trans hg4) (fun k e => ?_)
   rcases hat4 with h | h
   ·exact .inl (h ▸ e)
   ·rw [h] at e; cases e; exact .inr (by simp)
  have hne4 : v4.ownBlock ≠ some b7 := fun e => by
   rcases hat4 with h | h
   ·rw [h] at e; have := (HROW0.out _ e).2; have := HGE.out; omega
   ·rw [h] at e; injection e with e; have := HT11.out.lt; simp at e; omega
  have hm12 := (HM11.out.alloc (.cells #[.string nS, .int .i64 vk, .int .i64 vn, .string vs, .slice vpl vnl vcl, .slice vpm vnm vcm] 32)).app hgr4 hg4 (fun k e => (HROW0.out k e).1)
  have hT11a : TokAt (w10.alloc (.cells #[.string nS, .int .i64 vk, .int .i64 vn, .string vs, .slice vpl vnl vcl, .slice vpm vnm vcm] 32)) b7 ⟨4, nn, nS, np⟩ := HT11.out.keep (Below.heap_alloc _ _ _ HT11.out.lt)
  have hT12 := hT11a.keep (hg4.block b7 hT11a.lt (fun e => by have := (HROW0.out _ e.symm).2; have := HGE.out; omega))
  obtain ⟨p4, n4, c4, rfl, hn4, hlt4⟩ := hgr4.own
  have HM12 := Lib.hid hm12
  have HT13 := Lib.hid hT12
  have HNE := Lib.hid hne4
  clear hm12 hT12 hT11a hgr4 hg4 hat4 ho4 HO HT11 HT12 HTS HNM HM11 HL3 hn4 hlt4 hne4 v0 v1 v2 v3 v4 a2
  go_upto_region 18 with (go_at_call 79; refine (HN4.out _ HM12.out.rds).mono ?_; rintro e w13 ⟨rfl, hr13, hg13⟩; (have hT13 := HT13.out.keep (hg13.block b7 HT13.out.lt (by have := HGE.out; have := HM12.out.lt; simp; omega))); (have x0 := hT13.cell 0 rfl); (have x1 := hT13.cell 1 rfl); (have x2 := hT13.cell 2 rfl); (have x3 := hT13.cell 3 rfl); (have y0 := hT13.frozen 0); (have y1 := hT13.frozen 1); (have y2 := hT13.frozen 2); (have y3 := hT13.frozen 3))
  have hm13 := HM12.out.go hr13 hg13
  have hTf := hT13.stored ⟨ck, cn, cS, cp⟩
  have hgf := grownBy_setT w13 b7 ⟨ck, cn, cS, cp⟩
  have hmf := hm13.tok hgf hT13.small (by have := HGE.out; omega) HNE.out
  dsimp only at hTf hgf hmf
  obtain ⟨w14, hw14⟩ : ∃ W, (((w13.setCell ⟨b7, 0, none⟩ (.int .i64 ck)).setCell ⟨b7, 1, none⟩ (.int .i64 cn)).setCell ⟨b7, 2, none⟩ (.string cS)).setCell ⟨b7, 3, none⟩ (.int .i64 cp) = W := ⟨_, rfl⟩
  rw [hw14] at hTf hgf hmf
  try rw [hw14]
  clear hw14 hr13 hg13 hT13 x0 x1 x2 x3 y0 y1 y2 y3 hm13 hgf HM12 HT13 HN4
  have a0 := hTf.cell 0 rfl
  have a1 := hTf.cell 1 rfl
  have a2 := hTf.cell 2 rfl
  have a3 := hTf.cell 3 rfl
  have HMF := Lib.hid hmf
  have HTF := Lib.hid hTf
  clear hmf hTf
  have hcase := HCASE.out
  rcases hcase with ⟨hc1, hc2, hc3, hc4⟩ | ⟨hc1, hc2, l', hc3, hc4⟩
  ·have HI : Hid (∀ W, Calls Tryz.prog 106 #[.agg #[.int .i64 ck, .int .i64 cn, .string cS, .int .i64 cp], .string ⟨#[125]⟩] W fun e w' => e = .returned (.bool true) /\ Below W.heap.size W w') := fun W => is_any ⟨ck, cn, cS, cp⟩ 125 W true hc1
   have HC : Hid (l = l1 ++ [(nS, v)] /\ q = p' /\ rest = r') := ⟨by rw [HLL.out, hc2], hc3, hc4⟩
   clear hc1 hc2 hc3 hc4 HCASE
   go_wp2_with (go_at_call 106; refine (HI.out _).mono ?_; rintro e w15 ⟨rfl, hb15⟩)
   go_ret
   obtain ⟨e1, e2, e3⟩ := HC.out
   have hmz := HMF.out.call hb15
   rw [e1, e2, e3]
   exact ⟨p4, n4, c4, rfl, hmz.gr.lower (by have := hmz.lt; omega), hmz.rds, hmz.gw⟩
  ·have HI : Hid (∀ W, Calls Tryz.prog 106 #[.agg #[.int .i64 ck, .int .i64 cn, .string cS, .int .i64 cp], .string ⟨#[125]⟩] W fun e w' => e = .returned (.bool false) /\ Below W.heap.size W w') := fun W => is_any ⟨ck, cn, cS, cp⟩ 125 W false hc1
   have HJ : Hid (∀ W, Calls Tryz.prog 106 #[.agg #[.int .i64 ck, .int .i64 cn, .string cS, .int .i64 cp], .string ⟨#[44]⟩] W fun e w' => e = .returned (.bool true) /\ Below W.heap.size W w') := fun W => is_any ⟨ck, cn, cS, cp⟩ 44 W true hc2
   have HC : Hid (l = (l1 ++ [(nS, v)]) ++ l' /\ parM f' deep p' (nS :: known) r' = some (l', q, rest)) := ⟨by rw [HLL.out, hc3]; simp, hc4⟩
   clear hc1 hc2 hc3 hc4 HCASE
   go_upto_region 20 with (go_at_call 106; refine (HI.out _).mono ?_; rintro e w15 ⟨rfl, hb15⟩)
   have hT15 := HTF.out.keep (hb15.block _ HTF.out.lt)
   clear a0 a1 a2 a3
   have a0 := hT15.cell 0 rfl
   have a1 := hT15.cell 1 rfl
   have a2 := hT15.cell 2 rfl
   have a3 := hT15.cell 3 rfl
   go_wp2_with (go_at_call 106; refine (HJ.out _).mono ?_; rintro e w16 ⟨rfl, hb16⟩)
   go_roundg f'
   case measure => omega
   case rel =>
    exact ⟨by omega, nS :: known, r', p', l1 ++ [(nS, v)], l', HC.out.2, HC.out.1, (HMF.out.call hb15).call hb16, by have := HLEN.out; simp; omega, by have := HLEN.out; simp; omega⟩
end
section
open Go Go.RowKit
section
variable {α : Type} {enc : α -> List Value} {sz : Nat} {e : TypeId}
theorem grownT {w w' w'' : World} {row : Option Nat} (h : w.grownBy w' row) (k : w'.grownBy w'' row) : w.grownBy w'' row :=
 ⟨k.os.trans h.os, k.tape.trans h.tape, k.output.trans h.output, Nat.le_trans h.size k.size, fun i hi hne => (k.block i (Nat.lt_of_lt_of_le hi h.size) hne).trans (h.block i hi hne)⟩
def putL : List Value -> Nat -> List Value -> List Value
 | cs, _, [] => cs
 | cs, s, v :: vs => putL (cs.set s v) (s + 1) vs
theorem putL_at : ∀ (a b r pre : List Value), a.length = b.length -> putL (pre ++ (a ++ r)) pre.length b = pre ++ (b ++ r)
 | [], [], _, _, _ => rfl
 | [], _ :: _, _, _, h => by cases h
 | _ :: _, [], _, _, h => by cases h
 | x :: a, y :: b, r, pre, h => by
   have ih := putL_at a b r (pre ++ [y]) (by simpa using h)
   rw [List.length_append, List.length_singleton] at ih
   show putL ((pre ++ (x :: (a ++ r))).set pre.length y) (pre.length + 1) b = _
   rw [List.set_append_right _ _ (Nat.le_refl _), Nat.sub_self, List.set_cons_zero, show pre ++ y :: (a ++ r) = (pre ++ [y]) ++ (a ++ r) by simp, ih]
   simp
theorem cellsOf_put (C : Codec enc sz) {xs : List α} {k : Nat} {x y : α} (hx : xs[k]? = some x) : putL (cellsOf enc xs) (k * sz) (enc y) = cellsOf enc (xs.set k y) := by
 obtain ⟨hk, he⟩ := List.getElem?_eq_some_iff.1 hx
 have e1 : xs = xs.take k ++ (x :: xs.drop (k + 1)) := by rw [<- he, <- List.drop_eq_getElem_cons hk, List.take_append_drop]
 have e2 : xs.set k y = xs.take k ++ (y :: xs.drop (k + 1)) := List.set_eq_take_append_cons_drop.trans (if_pos hk)
 have hp : (cellsOf enc (xs.take k)).length = k * sz := by rw [cellsOf_len C, List.length_take, Nat.min_eq_left (Nat.le_of_lt hk)]
 rw [e2]
 conv => lhs; rw [e1]
 rw [cellsOf_append, cellsOf_append]
 show putL (_ ++ (enc x ++ cellsOf enc (xs.drop (k + 1)))) _ _ = _ ++ (enc y ++ cellsOf enc (xs.drop (k + 1)))
 rw [<- hp]
 exact putL_at _ _ _ _ (by rw [C.len, C.len])
theorem ownsRow_put {g n cap base : Nat} : ∀ (vs : List Value) (s : Nat) (w : World) (cs : List Value), w.ownsRow base e sz (.slice (some ⟨g, 0, none⟩) n cap) n cs -> (w.setCells g s vs).ownsRow base e sz (.slice (some ⟨g, 0, none⟩) n cap) n (putL cs s vs) /\ w.grownBy (w.setCells g s vs) (some g)
 | [], s, w, cs, h => ⟨h, World.grownBy.refl w _⟩
 | v :: vs, s, w, cs, h => by
   obtain ⟨h1, h2⟩ := World.ownsRow.stored h s v
   obtain ⟨h3, h4⟩ := ownsRow_put vs (s + 1) _ _ h1
   exact ⟨h3, grownT h2 h4⟩
theorem Own.storeRow (C : Codec enc sz) (P : Program) {w : World} {base g n cap : Nat} {xs : List α} (h : Own w base e enc sz (.slice (some ⟨g, 0, none⟩) n cap) xs) {k : Nat} {x : α} (hx : xs[k]? = some x) (y : α) :
 Sem.run P (storeCells ⟨g, k * sz, none⟩ (enc y) 0) w = .ok () (w.setCells g (k * sz) (enc y)) /\ Own (w.setCells g (k * sz) (enc y)) base e enc sz (.slice (some ⟨g, 0, none⟩) n cap) (xs.set k y) /\ w.grownBy (w.setCells g (k * sz) (enc y)) (some g) := by
 obtain ⟨g', e1, hn, hb, hlt, hc, hf⟩ := Own.at C h hx
 injection e1 with e1
 injection e1 with e1
 subst e1
 subst hn
 have h2 := ownsRow_put (enc y) (k * sz) w _ h
 rw [cellsOf_put C hx] at h2
 refine ⟨?_, ?_, h2.2⟩
 ·refine run_storeCells_cells g (k * sz) (enc y) 0 w (fun j hj => ?_) (fun j _ => hf _) (C.one y)
  rw [C.len] at hj
  obtain ⟨u, hu⟩ : ∃ u, (enc x)[j]? = some u := ⟨_, List.getElem?_eq_getElem (by rw [C.len]; exact hj)⟩
  rw [Nat.add_zero, hc j u hu]
  rfl
 ·have h3 := h2.1
  unfold Own
  rw [List.length_set]
  exact h3
theorem Own.loadRow (C : Codec enc sz) (P : Program) {w : World} {base g n cap : Nat} {xs : List α} (h : Own w base e enc sz (.slice (some ⟨g, 0, none⟩) n cap) xs) {k : Nat} {x : α} (hx : xs[k]? = some x) :
 Sem.run P (loadCellsFrom ⟨g, k * sz, none⟩ 0 sz #[]) w = .ok (enc x).toArray w := by
 obtain ⟨g', e1, hn, hb, hlt, hc, hf⟩ := Own.at C h hx
 injection e1 with e1
 injection e1 with e1
 subst e1
 exact Go.Proofs.run_loadCellsFrom_list P w _ (enc x) sz (C.len x) (fun j v hv => by rw [add_eq]; exact hc j v hv)
theorem Own.swapped (C : Codec enc sz) (P : Program) {w : World} {base g n cap : Nat} {xs : List α} (h : Own w base e enc sz (.slice (some ⟨g, 0, none⟩) n cap) xs) {i j : Nat} {x y : α} (hi : xs[i]? = some x) (hj : xs[j]? = some y) :
 Sem.run P (storeCells ⟨g, i * sz, none⟩ (enc y) 0) w = .ok () (w.setCells g (i * sz) (enc y)) /\
 Sem.run P (storeCells ⟨g, j * sz, none⟩ (enc x) 0) (w.setCells g (i * sz) (enc y)) = .ok () ((w.setCells g (i * sz) (enc y)).setCells g (j * sz) (enc x)) /\
 Own ((w.setCells g (i * sz) (enc y)).setCells g (j * sz) (enc x)) base e enc sz (.slice (some ⟨g, 0, none⟩) n cap) ((xs.set i y).set j x) /\ w.grownBy ((w.setCells g (i * sz) (enc y)).setCells g (j * sz) (enc x)) (some g) := by
 obtain ⟨s1, o1, g1⟩ := Own.storeRow C P h hi y
 obtain ⟨z, hz⟩ : ∃ z, (xs.set i y)[j]? = some z := ⟨_, List.getElem?_eq_getElem (by rw [List.length_set]; exact (List.getElem?_eq_some_iff.1 hj).1)⟩
 obtain ⟨s2, o2, g2⟩ := Own.storeRow C P o1 hz x
 exact ⟨s1, s2, o2, grownT g1 g2⟩
end
end
end Go.Proofs.YtffhccmppdgmfaaGreatDoor
