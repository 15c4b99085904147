import Derived.Test.YtffhccmppdgmfaaGreatDoorF09
import Derived.Test.YtffhccmppdgmfaaGreatDoorF08
import Derived.Test.YtffhccmppdgmfaaGreatDoorF04
import Derived.Test.YtffhccmppdgmfaaGreatDoorF06
import Derived.Test.YtffhccmppdgmfaaGreatDoorF02
import Derived.Test.YtffhccmppdgmfaaGreatDoorF03
import Derived.Test.YtffhccmppdgmfaaGreatDoorF07
set_option linter.unusedSimpArgs false
set_option linter.unusedVariables false
set_option maxRecDepth 200000
set_option maxHeartbeats 8000000
namespace Go.Proofs.YtffhccmppdgmfaaGreatDoor
section
open Go Go.RowKit Go.OpenShut Go.Shelf
attribute [local go_sem] Oper.semAt_some
theorem run_storeFn {P : Program} {w : World} {a : Addr} (f : Fn) (x y : Array Value) (m : Mode) : (store a (.func f x y) m).run P w = stored P w a (.func f x y) m := run_store P w a _ m rfl
attribute [local go_sem] run_storeFn
theorem own_blk {W : World} {base : Nat} {e : TypeId} {α : Type} {enc : α -> List Value} {sz : Nat} {v : Value} {xs : List α} (h : Own W base e enc sz v xs) (r : Nat) (hr : v.ownBlock = some r) : base <= r /\ ∃ cur, W.heap[r]? = some (.cells cur e (0, 0)) := by
 rcases h.2 with ⟨rfl, _⟩ | ⟨g, cap, cur, rfl, h1, h2, _⟩
 ·cases hr
 ·obtain rfl : g = r := by simpa [Value.ownBlock] using hr
  exact ⟨h1, cur, h2⟩
def TmI (w : World) (pre : List (List UInt8)) (W : World) : Prop :=
 ∃ o, Boxed W w.heap.size 46 o /\ Own W (w.heap.size + 4) 9 encS 1 o (pre.map toB) /\ Below w.heap.size w W
theorem TmI.kept {w : World} {pre : List (List UInt8)} {X Y : World} {row : Option Nat} (h : TmI w pre X) (hg : X.grownBy Y row)
 (hr : ∀ r, row = some r -> (r = w.heap.size + 1 \/ r = w.heap.size + 1 + 1 \/ r = w.heap.size + 1 + 1 + 1) \/ w.heap.size + 4 <= r /\ ∃ o : Obj, X.heap[r]? = some o /\ o.isCells = false) : TmI w pre Y := by
 obtain ⟨o, h1, h2, h3⟩ := h
 refine ⟨o, h1.kept hg (fun e => ?_), h2.kept hg ?_, h3.grown hg h3.size (fun k e => ?_)⟩
 ·have := hr _ e.symm
  omega
 ·cases ho : o.ownBlock with
  | none => exact .inl rfl
  | some r =>
    refine .inr fun e => ?_
    obtain ⟨hb, cur, hc⟩ := own_blk h2 r ho
    rcases hr _ e.symm with h | ⟨_, o', ho', hoc⟩
    ·omega
    ·rw [hc] at ho'; cases ho'; cases hoc
 ·have := hr _ e
  omega
theorem infoStr : (Tryz.prog.info? 9).map (fun i => (i.zero, i.size, i.bytes)) = some (some (.string ByteArray.empty), 1, 16) := by kernel_rfl
theorem terms_any (w : World) (q : ByteArray) (hq : q.size <= 1000000) :
 Calls Tryz.prog 64 #[.string q] w fun e w' => ∃ v, e = .returned v /\ Own w' w.heap.size 9 encS 1 v ((termsF q.data.toList).map toB) /\ Below w.heap.size w w' := by
 refine (callsIn_wide (n := 6)).1 ?_
 obtain ⟨F, hFw, hF, hro⟩ : ∃ F : Fence, F = Fence.wide /\ (∀ g, F.fn g) /\ F.round = none := ⟨_, rfl, fun _ => trivial, rfl⟩
 obtain ⟨n, hn, hn6⟩ : ∃ n : Nat, 6 <= n /\ 6 = n := ⟨6, by omega, rfl⟩
 rw [<- hFw]
 rw [hn6]
 have HF := Lib.hid hFw
 clear hFw hn6
 have h1 : 1 <= n := by omega
 have HT : Hid (∀ W, CallsIn F (n - 1) Tryz.prog 97 #[.string q] W fun e w' => e = .returned (.func (.func 130) #[] #[.pointer (some ⟨W.heap.size, 0, none⟩), .pointer (some ⟨W.heap.size + 1, 0, none⟩), .pointer (some ⟨W.heap.size + 1 + 1, 0, none⟩)]) /\
  w' = ((W.alloc (.cells #[.string q] 9)).alloc (.cells #[.func (.func 128) #[] #[]] 157)).alloc (.cells #[.func (.func 129) #[] #[]] 157)) := by
  intro W
  rw [HF.out]
  refine (callsIn_wide (n := n - 1)).2 ?_
  go_enter Tryz.func97, Tryz.ntmps97
  go_wp2_with fail
  go_ret
  exact ⟨rfl, rfl⟩
 refine callsIn_of_wp_marks Tryz.func64 rfl (hF _) ?_ hro
 simp only [Tryz.ntmps64, List.size_toArray, List.length_cons, List.length_nil, Nat.reduceAdd, Nat.reduceSub, Array.replicate_succ, Array.replicate_zero, List.push_toArray, List.append_toArray, List.nil_append, List.cons_append]
 gi_wp2_with (gi_at_call 97; (with_reducible refine (HT.out _).mono ?_); rintro e w1 ⟨rfl, rfl⟩)
 obtain ⟨W2, hW2⟩ : ∃ W2, ((((w.alloc (.cells #[.slice none 0 0] 46)).alloc (.cells #[.string q] 9)).alloc (.cells #[.func (.func 128) #[] #[]] 157)).alloc (.cells #[.func (.func 129) #[] #[]] 157)) = W2 := ⟨_, rfl⟩
 have hI2 : TmI w [] W2 /\ W2.heap.size = w.heap.size + 4 /\ Boxed W2 (w.heap.size + 1) 9 (.string q) /\ Boxed W2 (w.heap.size + 1 + 1) 157 (.func (.func 128) #[] #[]) /\ Boxed W2 (w.heap.size + 1 + 1 + 1) 157 (.func (.func 129) #[] #[]) := by
  rw [<- hW2]
  have b0 := ((((Boxed.new w 46 (.slice none 0 0)).alloc (.cells #[.string q] 9)).alloc (.cells #[.func (.func 128) #[] #[]] 157)).alloc (.cells #[.func (.func 129) #[] #[]] 157))
  have b1 := (((Boxed.new (w.alloc (.cells #[.slice none 0 0] 46)) 9 (.string q)).alloc (.cells #[.func (.func 128) #[] #[]] 157)).alloc (.cells #[.func (.func 129) #[] #[]] 157))
  have b2 := ((Boxed.new ((w.alloc (.cells #[.slice none 0 0] 46)).alloc (.cells #[.string q] 9)) 157 (.func (.func 128) #[] #[])).alloc (.cells #[.func (.func 129) #[] #[]] 157))
  have b3 := Boxed.new (((w.alloc (.cells #[.slice none 0 0] 46)).alloc (.cells #[.string q] 9)).alloc (.cells #[.func (.func 128) #[] #[]] 157)) 157 (.func (.func 129) #[] #[])
  simp only [World.size_alloc] at b0 b1 b2 b3
  exact ⟨⟨_, b0, Own.nil _ _ _, ((((Below.refl _ w).alloc (Nat.le_refl _) _).alloc (by simp) _).alloc (by simp; omega) _).alloc (by simp; omega) _⟩, by simp, b1, b2, b3⟩
 rw [hW2]
 clear hW2
 obtain ⟨hI, hz, c1, c2, c3⟩ := hI2
 have C1 := Lib.hid c1
 have C2 := Lib.hid c2
 have C3 := Lib.hid c3
 clear c1 c2 c3
 obtain ⟨i0, hi, hz0, hz1, hz2⟩ := info_parts infoStr
 refine wpIn_rangeFunc_turn hro h1 (gf := 130) (lb := #[.pointer (some ⟨w.heap.size + 1, 0, none⟩), .pointer (some ⟨w.heap.size + 1 + 1, 0, none⟩), .pointer (some ⟨w.heap.size + 1 + 1 + 1, 0, none⟩)]) rfl (hF _) (enters_of Tryz.func130 (by kernel_rfl) rfl)
  (encs := fun t => #[.string (toB t)]) (fun _ => rfl) q.size (fun b => b = w.heap.size + 1 \/ b = w.heap.size + 1 + 1 \/ b = w.heap.size + 1 + 1 + 1) (fun b hb => by omega) (termsF q.data.toList) (TmI w)
  (fun s X Y row hs hg hr => hs.kept hg (by rw [hz] at hr; exact hr)) hI
  (fun l J W hW hJ hY hJ0 => iter_in F HF.out (n - 1) (by omega) l (w.heap.size + 1) (w.heap.size + 1 + 1) (w.heap.size + 1 + 1 + 1) q.size J q hq (Nat.le_refl _) (by omega) (by omega) (fun s X Y h hg => hJ s X Y _ (.inl rfl) h hg) hY W
   ((hW _ (.inl rfl)).trans C1.out) ((hW _ (.inr (.inl rfl))).trans C2.out) ((hW _ (.inr (.inr rfl))).trans C3.out) hJ0)
  (fun t => { tmps := #[.string q, undef, .slice none 0 0, .pointer (some ⟨w.heap.size, 0, none⟩), .string (toB t), .string q, .func (.func 130) #[] #[.pointer (some ⟨w.heap.size + 1, 0, none⟩), .pointer (some ⟨w.heap.size + 1 + 1, 0, none⟩), .pointer (some ⟨w.heap.size + 1 + 1 + 1, 0, none⟩)], .string (toB t), undef, undef, undef, undef, undef], defers := [] })
  ?assign ?body ?done
 case assign =>
  rintro l x W K hK
  gi_wp2
  exact hK
 case body =>
  rintro l pre x W hl ⟨o, bo, HO, hb⟩ hlt
  have co := bo.cell
  have lo := bo.lt
  have hvs : ∃ a len cap, o = .slice a len cap := by obtain ⟨a, cap, h, _⟩ := HO.len; exact ⟨_, _, _, h⟩
  have hM : Hid (pre.length + 1 <= maxLen) := by unfold Hid maxLen; omega
  have hY : Hid ((pre.length + 1) * 16 <= 140737488355328) := by unfold Hid; omega
  have HB := Lib.hid hb
  have HBO := Lib.hid bo
  have HOO := Lib.hid HO
  clear hb bo
  gi_wp2_with (gi_at_builtin; refine wpListIn_append_own _ rfl _ _ 46 rfl (w.heap.size + 4) 9 i0 _ 1 16 Tryz.underlying46 hi hz0 hz1 hz2 rfl (by decide) _ _ _ rfl (HO.alloc _) ⟨W.heap.size, 0, none⟩ 1 1 [.string (toB x)] rfl rfl (cell_one_new _ _ _) (by simp [Value.oneCell']) (by simpa using hM.out) (by simpa using hY.out) (by simp; omega) ?_
               intro v' w3 hown' hg3 hnil3
               have bo3 := ((HBO.out.alloc _).kept hg3 (HBO.out.not_row (by decide) HOO.out))
               have co3 := bo3.cell
               have fo3 := bo3.frozen
               obtain ⟨g', cap', rfl⟩ : ∃ g' cap', v' = .slice (some ⟨g', 0, none⟩) (pre.length + 1) cap' := by
                have := ownsRow_succ hown'
                rwa [List.length_map] at this
               go_frame)
  replace hg3 : (W.alloc (.cells #[.string (toB x)] 9)).grownBy w3 o.ownBlock := hg3
  have hO3 : Own w3 (w.heap.size + 4) 9 encS 1 (.slice (some ⟨g', 0, none⟩) (pre.length + 1) cap') ((pre ++ [x]).map toB) := by
   unfold Own
   rw [List.map_append, List.map_singleton, cellsOf_append, cellsOf_single, List.length_append]
   exact hown'
  have hown2 := hown'.kept (grownBy_setCell' w3 w.heap.size (.slice (some ⟨g', 0, none⟩) (pre.length + 1) cap')) (.inr (bo3.not_row (by decide) hown').symm)
  obtain ⟨q1, q2, q3, q4, q5⟩ := Boxed.appended (W := W) (tmp := .cells #[.string (toB x)] 9) HBO.out (by decide) (HOO.out.mono (show w.heap.size <= _ by omega)) (by omega) (Nat.le_refl _) (hO3.mono (show w.heap.size <= _ by omega)) hg3
  refine ⟨q4.from _, ?_, ⟨_, q2, ?_, HB.out.trans q5⟩⟩
  ·intro b hb
   have hbl : b < W.heap.size := by omega
   rw [(grownBy_setCell' w3 w.heap.size (.slice (some ⟨g', 0, none⟩) (pre.length + 1) cap')).block b (by have := hg3.size; simp at this; omega) (fun e => by cases e; omega)]
   rw [hg3.block b (by simp; omega) (fun e => by have := (own_blk HOO.out b e.symm).1; omega)]
   exact Below.heap_alloc _ _ _ hbl
  ·unfold Own
   rw [List.map_append, List.map_singleton, cellsOf_append, cellsOf_single, List.length_append]
   exact hown2
 case done =>
  rintro D W hD ⟨o, bo, HO, hb⟩ hK
  have co := bo.cell
  have lo := bo.lt
  have HB := Lib.hid hb
  have HK := Lib.hid hK
  have HOO := Lib.hid HO
  clear hb hK HO
  gi_wp2
  refine ⟨by simp, .inl ⟨_, _, rfl, run_takeDeferred HK.out, ?_⟩⟩
  refine ⟨_, results_tmp rfl _ _ _, o, rfl, ownsRow_putObj (HOO.out.mono (by omega)) _ HK.out rfl, ?_⟩
  exact HB.out.grown (grownBy_putObj' W D _) HB.out.size (fun k e => by cases e; omega)
end
section
open Go Go.RowKit Go.OpenShut
def MaxAt (w : World) : Prop := ∃ m : Int, w.cell? ⟨1, 0, none⟩ = some (.int .i64 m)
theorem MaxAt.below {w w' : World} (h : MaxAt w) (hb : Below w.heap.size w w') : MaxAt w' := by
 obtain ⟨m, h⟩ := h
 exact ⟨m, bcs hb (cell_some h).2 h⟩
theorem foldHas_any (s t : ByteArray) (w : World) (hs : s.size <= 4000000000) (ht : t.size <= maxLen) (hm : MaxAt w) :
 Calls Tryz.prog 67 #[.string s, .string t] w fun e w' => e = .returned (.bool (hasF s.data.toList t.data.toList)) /\ Below w.heap.size w w' := by
 have HS : Hid (∀ W, Calls Tryz.prog 100 #[.string s] W fun e w' => e = .returned (.string (toB (foldL s.data.toList))) /\ Below W.heap.size W w') := fun W => fold_any s W (by unfold maxLen; omega)
 have HT : Hid (∀ W, Calls Tryz.prog 100 #[.string t] W fun e w' => e = .returned (.string (toB (foldL t.data.toList))) /\ Below W.heap.size W w') := fun W => fold_any t W ht
 have hl : (foldL s.data.toList).length = s.size := by
  unfold foldL
  rw [List.length_map, Array.length_toList]
  rfl
 have HC : Hid (∀ W, MaxAt W -> Calls Tryz.prog 99 #[.string (toB (foldL s.data.toList)), .string (toB (foldL t.data.toList))] W fun e w' => e = .returned (.bool (hasF s.data.toList t.data.toList)) /\ w' = W) := by
  rintro W ⟨m, hW⟩
  have := strings_Contains (toB (foldL s.data.toList)) (toB (foldL t.data.toList)) m W (by rw [toB_size, hl]; omega) hW
  rw [toB_list, toB_list] at this
  exact this
 have HM := Lib.hid hm
 clear hm hl
 obtain ⟨R, hR⟩ : ∃ R, hasF s.data.toList t.data.toList = R := ⟨_, rfl⟩
 rw [hR] at HC ⊢
 clear hR
 go_enter Tryz.func67, Tryz.ntmps67
 go_wp2_with (first
  | (go_at_call 100; (with_reducible refine (HS.out _).mono ?_); rintro e w1 ⟨rfl, hb1⟩)
  | (go_at_call 100; (with_reducible refine (HT.out _).mono ?_); rintro e w2 ⟨rfl, hb2⟩)
  | (go_at_call 99; (with_reducible refine (HC.out _ ((HM.out.below hb1).below hb2)).mono ?_); rintro e w3 ⟨rfl, rfl⟩))
 go_ret
 exact ⟨rfl, hb1.trans (hb2.mono hb1.size)⟩
theorem match1_any (x t : ByteArray) (g : Nat) (w : World) (hg : w.cell? ⟨g, 0, none⟩ = some (.string t)) (hs : x.size <= 4000000000) (ht : t.size <= maxLen) (hm : MaxAt w) :
 Calls Tryz.prog 66 #[.string x, .pointer (some ⟨g, 0, none⟩)] w fun e w' => e = .returned (.bool (hasF x.data.toList t.data.toList)) /\ Below w.heap.size w w' := by
 have HC := Lib.hid (foldHas_any x t w hs ht hm)
 clear hm
 go_enter Tryz.func66, Tryz.ntmps66
 go_wp2_with (go_at_call 67; (with_reducible refine HC.out.mono ?_); rintro e w1 ⟨rfl, hb1⟩)
 go_ret
 exact ⟨rfl, hb1⟩
def anyS (pb : ByteArray -> Bool) (rs : List ByteArray) : Bool := rs.any pb
theorem anyS_idx (pb : ByteArray -> Bool) (rs : List ByteArray) : anyS pb rs = (rs.findIdx? pb).isSome := by
 unfold anyS
 rw [List.findIdx?_isSome]
theorem indexS_any (w : World) (p : Option Addr) (n c g : Nat) (rs : List ByteArray) (pb : ByteArray -> Bool) (hv : Rd w w.heap.size encS 1 (.slice p n c) rs) (hlen : rs.length <= 1759218604390)
 (HP : ∀ (i : Nat) x, rs[i]? = some x -> ∀ W, Below w.heap.size w W -> Calls Tryz.prog 66 #[.string x, .pointer (some ⟨g, 0, none⟩)] W fun e w' => e = .returned (.bool (pb x)) /\ Below W.heap.size W w') :
 Calls Tryz.prog 98 #[.slice p n c, .func (.func 66) #[] #[.pointer (some ⟨g, 0, none⟩)]] w fun e w' => e = .returned (.int .i64 (placeI (rs.findIdx? pb))) /\ Below w.heap.size w w' := by
 have hn := rd_nlen hv
 subst hn
 have HV := Lib.hid hv
 have HPB := Lib.hid HP
 clear hv HP
 go_enter Tryz.func98, Tryz.ntmps98
 go_wp2_with fail
 go_loopw [8] (fun i wr => ∃ k : Nat, k <= rs.length /\ i = .int .i64 k /\ Hid (∀ (j : Nat) y, j < k -> rs[j]? = some y -> pb y = false) /\ Below w.heap.size w wr) (fun i _ => rs.length - (intOf i).toNat)
 case atStart => exact ⟨0, Nat.zero_le _, rfl, fun j y h => by omega, Below.refl _ _⟩
 case round =>
  obtain ⟨k, hk, rfl, hno, hbr⟩ := hrel
  by_cases hlt : k < rs.length
  ·obtain ⟨x, hx⟩ : ∃ x, rs[k]? = some x := ⟨_, List.getElem?_eq_getElem hlt⟩
   obtain ⟨b1, o1, rfl, hb1, hc1⟩ := rd_at' (HV.out.below hbr (Nat.le_refl _)) hx
   have f0 := hc1 0 _ rfl
   rw [Nat.add_zero] at f0
   try rw [Nat.mul_one] at f0
   have HX := Lib.hid hx
   have HBR := Lib.hid hbr
   have HQ : Hid (∀ W, Below w.heap.size w W -> Calls Tryz.prog 66 #[.string x, .pointer (some ⟨g, 0, none⟩)] W fun e w' => e = .returned (.bool (pb x)) /\ Below W.heap.size W w') := HPB.out k x hx
   cases hnb : pb x
   all_goals
    rw [hnb] at HQ
    have HNB := Lib.hid hnb
    have HNO := Lib.hid hno.out
    clear hx hc1 hbr hnb hno
    go_wp2_with (go_at_call 66; refine (HQ.out _ HBR.out).mono ?_; rintro e w1 ⟨rfl, hb1'⟩)
    first
     | (go_roundw
        case rel =>
         refine ⟨k + 1, by omega, by go_num, ?_, HBR.out.trans (hb1'.mono HBR.out.size)⟩
         intro j y hj hy
         by_cases e : j = k
         ·subst e
          have h2 := HX.out
          rw [hy] at h2
          cases h2
          exact HNB.out
         ·exact HNO.out j y (by omega) hy
        case measure => simp [intOf]; omega)
     | (go_ret
        have HF := find_at HX.out HNB.out HNO.out
        exact ⟨ret_int (by rw [HF]; rfl), HBR.out.trans (hb1'.mono HBR.out.size)⟩)
  ·obtain rfl : k = rs.length := by omega
   have HF := Lib.hid (find_not (p := pb) (l := rs) (fun j y hy => hno.out j y (List.getElem?_eq_some_iff.1 hy).1 hy))
   go_wp2_with fail
   go_ret
   exact ⟨ret_int (by rw [HF.out]; rfl), hbr⟩
theorem containsS_any (w : World) (p : Option Addr) (n c g : Nat) (rs : List ByteArray) (pb : ByteArray -> Bool) (hv : Rd w w.heap.size encS 1 (.slice p n c) rs) (hlen : rs.length <= 1759218604390)
 (HP : ∀ (i : Nat) x, rs[i]? = some x -> ∀ W, Below w.heap.size w W -> Calls Tryz.prog 66 #[.string x, .pointer (some ⟨g, 0, none⟩)] W fun e w' => e = .returned (.bool (pb x)) /\ Below W.heap.size W w') :
 Calls Tryz.prog 65 #[.slice p n c, .func (.func 66) #[] #[.pointer (some ⟨g, 0, none⟩)]] w fun e w' => e = .returned (.bool (anyS pb rs)) /\ Below w.heap.size w w' := by
 have HC := Lib.hid (indexS_any w p n c g rs pb hv hlen HP)
 have HT := Lib.hid (anyS_idx pb rs)
 clear hv HP hlen
 generalize rs.findIdx? pb = o at HC HT
 cases o with
 | none =>
   have hd : decide ((0 : Int) <= placeI none) = false := by decide
   go_enter Tryz.func65, Tryz.ntmps65
   go_wp2_with (go_at_call 98; refine HC.out.mono ?_; rintro e w1 ⟨rfl, hb1⟩)
   go_ret
   exact ⟨ret_boolI (by rw [HT.out]; rfl), hb1⟩
 | some i =>
   have hd : decide ((0 : Int) <= placeI (some i)) = true := by simp [placeI]
   go_enter Tryz.func65, Tryz.ntmps65
   go_wp2_with (go_at_call 98; refine HC.out.mono ?_; rintro e w1 ⟨rfl, hb1⟩)
   go_ret
   exact ⟨ret_boolI (by rw [HT.out]; simp), hb1⟩
theorem matchF_all (q : List UInt8) (ts : List ByteArray) : matchF q ts = ((termsF q).map toB).all (fun t => anyS (fun s => hasF s.data.toList t.data.toList) ts) := by
 unfold matchF anyS
 rw [List.all_map]
 congr 1
 try (funext t; simp only [Function.comp_apply, toB_list])
theorem all_yes {α : Type} {p : α -> Bool} {l : List α} (h : ∀ (j : Nat) y, l[j]? = some y -> p y = true) : l.all p = true := by
 rw [List.all_eq_true]
 intro x hx
 obtain ⟨j, hj, rfl⟩ := List.mem_iff_getElem.1 hx
 exact h j _ (List.getElem?_eq_getElem hj)
theorem all_no {α : Type} {p : α -> Bool} {l : List α} {k : Nat} {x : α} (hx : l[k]? = some x) (hp : p x = false) : l.all p = false := by
 cases h : l.all p with
 | false => rfl
 | true =>
   rw [List.all_eq_true] at h
   have := h x (List.mem_of_getElem? hx)
   rw [hp] at this
   cases this
theorem match_any (w : World) (q : ByteArray) (p : Option Addr) (n c : Nat) (ts : List ByteArray) (hq : q.size <= 1000000) (hv : Rd w w.heap.size encS 1 (.slice p n c) ts) (hlen : ts.length <= 1759218604390)
 (hts : ∀ t ∈ ts, t.size <= 4000000000) (hm : MaxAt w) :
 Calls Tryz.prog 32 #[.string q, .slice p n c] w fun e w' => e = .returned (.bool (matchF q.data.toList ts)) /\ Below w.heap.size w w' := by
 have HT : Hid (Calls Tryz.prog 64 #[.string q] w fun e w' => ∃ p1 c1, e = .returned (.slice p1 ((termsF q.data.toList).map toB).length c1) /\ Rd w' w'.heap.size encS 1 (.slice p1 ((termsF q.data.toList).map toB).length c1) ((termsF q.data.toList).map toB) /\ Below w.heap.size w w') := by
  refine (terms_any w q hq).mono ?_
  rintro e w1 ⟨v, rfl, ho, hb⟩
  obtain ⟨a, cap, rfl, _⟩ := ho.len
  exact ⟨_, _, rfl, (ho.rd codecS), hb⟩
 have hT1 : ((termsF q.data.toList).map toB).length <= 1000000 := by
  rw [List.length_map]
  have h1 := termsF_len q.data.toList
  have h2 : q.data.toList.length = q.size := by rw [Array.length_toList]; rfl
  omega
 have hT2 : Hid (∀ t ∈ (termsF q.data.toList).map toB, t.size <= maxLen) := by
  intro t ht
  obtain ⟨u, hu, rfl⟩ := List.mem_map.1 ht
  have h1 := termsF_each hu
  have h2 : q.data.toList.length = q.size := by rw [Array.length_toList]; rfl
  rw [toB_size]
  unfold maxLen
  omega
 rw [matchF_all]
 obtain ⟨T, hTT⟩ : ∃ T, (termsF q.data.toList).map toB = T := ⟨_, rfl⟩
 rw [hTT] at HT hT1 hT2 ⊢
 clear hTT
 have HV := Lib.hid hv
 have HM := Lib.hid hm
 have HTS := Lib.hid hts
 clear hv hm hts
 go_enter Tryz.func32, Tryz.ntmps32
 go_wp2_with (go_at_call 64; (with_reducible refine HT.out.mono ?_); rintro e w1 ⟨p1, c1, rfl, hr1, hb1⟩)
 have HR := Lib.hid hr1
 clear hr1
 go_loopw [10] (fun i wr => ∃ k : Nat, k <= T.length /\ i = .int .i64 k /\ Hid (∀ (j : Nat) y, j < k -> T[j]? = some y -> anyS (fun s => hasF s.data.toList y.data.toList) ts = true) /\ Below w1.heap.size w1 wr) (fun i _ => T.length - (intOf i).toNat)
 case atStart => exact ⟨0, Nat.zero_le _, rfl, fun j y h => by omega, Below.refl _ _⟩
 case round =>
  obtain ⟨k, hk, rfl, hyes, hbr⟩ := hrel
  by_cases hlt : k < T.length
  ·obtain ⟨x, hx⟩ : ∃ x, T[k]? = some x := ⟨_, List.getElem?_eq_getElem hlt⟩
   obtain ⟨b1, o1, rfl, hb1', hc1⟩ := rd_at' (HR.out.below hbr (Nat.le_refl _)) hx
   have f0 := hc1 0 _ rfl
   rw [Nat.add_zero] at f0
   try rw [Nat.mul_one] at f0
   have HX := Lib.hid hx
   have hbw : Below w.heap.size w wr := hb1.trans (hbr.mono hb1.size)
   have hbn : Below w.heap.size w (wr.alloc (.cells #[.string x] 9)) := hbw.alloc hbw.size _
   have HBN := Lib.hid hbn
   have HBR := Lib.hid hbr
   have HC : Hid (Calls Tryz.prog 65 #[.slice p n c, .func (.func 66) #[] #[.pointer (some ⟨wr.heap.size, 0, none⟩)]] (wr.alloc (.cells #[.string x] 9)) fun e w' => e = .returned (.bool (anyS (fun s => hasF s.data.toList x.data.toList) ts)) /\ Below (wr.alloc (.cells #[.string x] 9)).heap.size (wr.alloc (.cells #[.string x] 9)) w') := by
    refine containsS_any _ p n c wr.heap.size ts _ ((HV.out.below hbn (Nat.le_refl _)).mono hbn.size) hlen ?_
    intro i s hs W hW
    refine match1_any s x wr.heap.size W (bcs hW (by simp) (Boxed.new wr 9 (.string x)).cell) (HTS.out s (List.mem_of_getElem? hs)) (hT2.out x (List.mem_of_getElem? hx)) ((HM.out.below hbn).below hW)
   cases hnb : anyS (fun s => hasF s.data.toList x.data.toList) ts
   all_goals
    rw [hnb] at HC
    have HNB := Lib.hid hnb
    have HYES := Lib.hid hyes.out
    clear hx hc1 hbr hnb hyes hbn hbw
    go_wp2_with (go_at_call 65; (with_reducible refine HC.out.mono ?_); rintro e w2 ⟨rfl, hb2⟩)
    first
     | (go_roundw
        case rel =>
         refine ⟨k + 1, by omega, by go_num, ?_, (HBR.out.alloc HBR.out.size _).trans (hb2.mono (by have := HBR.out.size; simp; omega))⟩
         intro j y hj hy
         by_cases e : j = k
         ·subst e
          have h2 := HX.out
          rw [hy] at h2
          cases h2
          exact HNB.out
         ·exact HYES.out j y (by omega) hy
        case measure => simp [intOf]; omega)
     | (go_ret
        exact ⟨ret_boolI (all_no HX.out HNB.out).symm, HBN.out.trans (hb2.mono HBN.out.size)⟩)
  ·obtain rfl : k = T.length := by omega
   have HF := Lib.hid (all_yes (p := fun t => anyS (fun s => hasF s.data.toList t.data.toList) ts) (l := T) (fun j y hy => hyes.out j y (List.getElem?_eq_some_iff.1 hy).1 hy))
   go_wp2_with fail
   go_ret
   exact ⟨ret_boolI HF.out.symm, hb1.trans (hbr.mono hb1.size)⟩
theorem TreeOf.ml {w : World} {B : Nat} {t : JV} {r : RV} (h : TreeOf w B t r) : ∃ rms, Rd w B encM 6 (.slice r.pm r.nm r.cm) rms /\ t.m.length = rms.length /\ ∀ (i : Nat) p q, t.m[i]? = some p -> rms[i]? = some q -> p.1 = q.name /\ TreeOf w B p.2 q.v := by
 cases h with
 | mk hl el cl hm em cn cm => exact ⟨_, hm, em, fun i p q a b => ⟨cn i p q a b, cm i p q a b⟩⟩
def VlRet (w : World) (B : Nat) (l : List JV) (e : Ending) (w' : World) : Prop := ∃ u rs, e = .returned u /\ Own w' w.heap.size 25 encV 5 u rs /\ l.length = rs.length /\ (∀ (i : Nat) x q, l[i]? = some x -> rs[i]? = some q -> TreeOf w' B x q) /\ Below w.heap.size w w'
theorem each_any (t : JV) (r : RV) (name : ByteArray) (w : World) (B : Nat) (hBw : B <= w.heap.size) (ht : TreeOf w B t r) (ot : t.Ok) :
 Calls Tryz.prog 58 #[r.val, .string name] w (VlRet w B (eachJ t name)) := by
 obtain ⟨W0, hW0⟩ : ∃ W0, w.alloc r.obj = W0 := ⟨_, rfl⟩
 have hA0 : VAt W0 w.heap.size r := by rw [<- hW0]; exact heap_alloc_at rfl
 have hB0 : Below w.heap.size w W0 := by rw [<- hW0]; exact (Below.refl _ _).alloc (Nat.le_refl _) _
 have HC : Hid (Calls Tryz.prog 15 #[r.val, .string name] W0 (GetRetB W0 B (t.get name))) := getB_any t r name W0 B (Nat.le_trans hBw hB0.size) (ht.under (hB0.mono hBw) (Nat.le_refl _)) ot
 have HEO := Lib.hid (eachJ_of t name)
 have HEK := Lib.hid (eachJ_ok (name := name) ot)
 obtain ⟨R, hR⟩ : ∃ R, eachJ t name = R := ⟨_, rfl⟩
 rw [hR] at HEO HEK
 rw [hR]
 obtain ⟨k, n, s, pl, nl, cl, pm, nm, cm⟩ := r
 dsimp only [RV.val, RV.obj] at *
 have HW := Lib.hid hW0
 have HB0 := Lib.hid hB0
 have hw0 := hB0.size
 clear hW0 hB0 ht ot hR
 go_enter Tryz.func58, Tryz.ntmps58
 go_upto_region 1 with fail
 rw [HW.out]
 clear HW
 obtain ⟨a0, a1, a2, a3, a4⟩ := hA0.cells5
 go_upto_region 3 with (go_at_call 15; refine HC.out.mono ?_; rintro e w1 ⟨rv, bb, rfl, hbb, ht1, hb1⟩; obtain ⟨rk, rn, rS, rpl, rnl, rcl, rpm, rnm, rcm⟩ := rv)
 obtain ⟨hkk, hss⟩ := ht1.kk
 dsimp only at hkk hss
 have hz1 := hb1.size
 have hb2 : Below W0.heap.size W0 (w1.alloc (.cells #[.int .i64 rk, .int .i64 rn, .string rS, .slice rpl rnl rcl, .slice rpm rnm rcm] 25)) := hb1.alloc hz1 _
 have hv2 : VAt (w1.alloc (.cells #[.int .i64 rk, .int .i64 rn, .string rS, .slice rpl rnl rcl, .slice rpm rnm rcm] 25)) w1.heap.size ⟨rk, rn, rS, rpl, rnl, rcl, rpm, rnm, rcm⟩ := heap_alloc_at rfl
 have ht2 := (ht1.under ((Below.refl B w1).alloc (Nat.le_trans (Nat.le_trans hBw hw0) hz1) (.cells #[.int .i64 rk, .int .i64 rn, .string rS, .slice rpl rnl rcl, .slice rpm rnm rcm] 25)) (Nat.le_refl _)).ml
 dsimp only at ht2
 obtain ⟨g, hg⟩ : ∃ g, w1.heap.size = g := ⟨_, rfl⟩
 obtain ⟨W2, hW2⟩ : ∃ W, w1.alloc (.cells #[.int .i64 rk, .int .i64 rn, .string rS, .slice rpl rnl rcl, .slice rpm rnm rcm] 25) = W := ⟨_, rfl⟩
 rw [hW2] at hb2 hv2 ht2
 rw [hg] at hv2
 try rw [hW2]
 try rw [hg]
 obtain ⟨v0, v1, v2, v3, v4⟩ := hv2.cells5
 dsimp only at v0 v1 v2 v3 v4
 have hbw := HB0.out.trans (hb2.mono hw0)
 have HX := Lib.hid hbw
 have hz2 : w.heap.size <= W2.heap.size := hbw.size
 have hBw2 : B <= W2.heap.size := Nat.le_trans hBw hz2
 have HL := Lib.hid ht2
 clear hW2 hg hb1 ht1 hb2 hv2 hz1 hbw ht2 hss
 by_cases hk6 : rk = 6
 ·subst hk6
  have hR6 : R = ((t.get name).getD JV.zero).m.map (·.2) := by rw [HEO.out, <- hkk, if_pos rfl]
  obtain ⟨rms, hm, hlen, htl⟩ := HL.out
  have hrl : rms.length = rnm := (rd_nlen hm).symm
  have hRl : R.length = rnm := by rw [hR6, List.length_map]; omega
  have hno : rnm <= 1466015503658 := by have := HEK.out.1; omega
  have HTL : Hid (∀ (i : Nat) x q, R[i]? = some x -> (rms.map (·.v))[i]? = some q -> TreeOf W2 B x q) := fun i x q a b => by
   rw [hR6, List.getElem?_map, Option.map_eq_some_iff] at a
   rw [List.getElem?_map, Option.map_eq_some_iff] at b
   obtain ⟨p, a1, rfl⟩ := a
   obtain ⟨y, b1, rfl⟩ := b
   exact (htl i p y a1 b1).2
  have HRD := Lib.hid hm
  have HRL : Hid (R.length = (rms.map (·.v)).length) := by unfold Hid; rw [List.length_map, hRl, hrl]
  clear hm hlen htl hR6 hRl hkk HL
  go_wp2_with fail
  go_loopw [7, 22] (fun u i wr => ∃ j : Nat, j <= rnm /\ i = .int .i64 (j : Int) /\ Hid (Own wr W2.heap.size 25 encV 5 u ((rms.map (·.v)).take j) /\ Below W2.heap.size W2 wr)) (fun _ i _ => rnm - (intOf i).toNat)
  case atStart => exact ⟨0, by omega, rfl, by rw [List.take_zero]; exact Own.nil _ _ _, Below.refl _ _⟩
  case round =>
   obtain ⟨j, hj, rfl, hH⟩ := hrel
   have HO := Lib.hid hH.out.1
   have HBR := Lib.hid hH.out.2
   clear hH
   have hj0 : (0 : Int) <= (j : Int) := Int.natCast_nonneg _
   by_cases hlt : j < rnm
   ·obtain ⟨⟨xname, ⟨xk, xn, xs, xpl, xnl, xcl, xpm, xnm, xcm⟩⟩, hx⟩ : ∃ x, rms[j]? = some x := ⟨_, List.getElem?_eq_getElem (by omega)⟩
    have hj1 : (j : Int) < (rnm : Int) := by omega
    have HTK : Hid ((rms.map (·.v)).take (j + 1) = (rms.map (·.v)).take j ++ [⟨xk, xn, xs, xpl, xnl, xcl, xpm, xnm, xcm⟩]) := by
     unfold Hid
     rw [List.take_add_one, List.getElem?_map, hx]
     rfl
    obtain ⟨b1, o1, rfl, hb1, hc1⟩ := rd_at' (HRD.out.below (HBR.out.mono hBw2) (Nat.le_refl _)) hx
    have f0 := hc1 0 _ rfl
    have f1 := hc1 1 _ rfl
    have f2 := hc1 2 _ rfl
    have f3 := hc1 3 _ rfl
    have f4 := hc1 4 _ rfl
    have f5 := hc1 5 _ rfl
    rw [Nat.add_zero] at f0
    dsimp only at f0 f1 f2 f3 f4 f5
    have hbz := HBR.out.size
    have hlm : ((rms.map (·.v)).take j).length <= j := List.length_take_le _ _
    have HLN : Hid (((rms.map (·.v)).take j).length + [(⟨xk, xn, xs, xpl, xnl, xcl, xpm, xnm, xcm⟩ : RV)].length <= maxLen /\ (((rms.map (·.v)).take j).length + [(⟨xk, xn, xs, xpl, xnl, xcl, xpm, xnm, xcm⟩ : RV)].length) * 80 <= 140737488355328) := by
     simp only [List.length_singleton]
     exact ⟨by unfold maxLen; omega, by omega⟩
    clear hx hc1 hlm
    go_upto_region 7 with fail
    obtain ⟨g9, hg9⟩ : ∃ g, wr.heap.size = g := ⟨_, rfl⟩
    have hM9 : (wr.alloc (.cells #[.string xname, .int .i64 xk, .int .i64 xn, .string xs, .slice xpl xnl xcl, .slice xpm xnm xcm] 32)).heap[wr.heap.size]? = some (.cells #[.string xname, .int .i64 xk, .int .i64 xn, .string xs, .slice xpl xnl xcl, .slice xpm xnm xcm] 32) := heap_alloc_at rfl
    have hB9 : Below W2.heap.size W2 (wr.alloc (.cells #[.string xname, .int .i64 xk, .int .i64 xn, .string xs, .slice xpl xnl xcl, .slice xpm xnm xcm] 32)) := HBR.out.alloc hbz _
    have hO9 := HO.out.alloc (.cells #[.string xname, .int .i64 xk, .int .i64 xn, .string xs, .slice xpl xnl xcl, .slice xpm xnm xcm] 32)
    obtain ⟨W9, hW9⟩ : ∃ W, wr.alloc (.cells #[.string xname, .int .i64 xk, .int .i64 xn, .string xs, .slice xpl xnl xcl, .slice xpm xnm xcm] 32) = W := ⟨_, rfl⟩
    rw [hW9] at hM9 hB9 hO9
    rw [hg9] at hM9
    try rw [hW9]
    try rw [hg9]
    have e1 := (cell_of_row W9 g9 1 _ _ _ hM9).trans rfl
    have e2 := (cell_of_row W9 g9 2 _ _ _ hM9).trans rfl
    have e3 := (cell_of_row W9 g9 3 _ _ _ hM9).trans rfl
    have e4 := (cell_of_row W9 g9 4 _ _ _ hM9).trans rfl
    have e5 := (cell_of_row W9 g9 5 _ _ _ hM9).trans rfl
    have hz9 := hB9.size
    have HB9 := Lib.hid hB9
    have HO9 := Lib.hid (hO9.alloc (.cells #[.int .i64 xk, .int .i64 xn, .string xs, .slice xpl xnl xcl, .slice xpm xnm xcm] 25))
    have HR1 : Hid (Rd (W9.alloc (.cells #[.int .i64 xk, .int .i64 xn, .string xs, .slice xpl xnl xcl, .slice xpm xnm xcm] 25)) (W9.heap.size + 1) encV 5 (.slice (some ⟨W9.heap.size, 0, none⟩) 1 1) [⟨xk, xn, xs, xpl, xnl, xcl, xpm, xnm, xcm⟩]) := Rd.one codecV (heap_alloc_at rfl) rfl (by omega)
    clear hW9 hg9 hM9 hB9 hO9
    go_wp2_with (at_builtin; refine wpList_append_rd slV codecV (W9.alloc (.cells #[.int .i64 xk, .int .i64 xn, .string xs, .slice xpl xnl xcl, .slice xpm xnm xcm] 25)) rfl (.tmp 26) (.tmp 29) rfl (v := u7) rfl rfl HO9.out HR1.out HLN.out.1 HLN.out.2 (by simp; omega) ?_; intro v8 w8 ho8 hg8 hat8)
    go_roundw
    case rel =>
     refine ⟨j + 1, by omega, by go_num, ?_, Below.appended (HB9.out.alloc hz9 _) hg8 HO9.out (by simp; omega)⟩
     rw [HTK.out]
     exact ho8
    case measure => simp [intOf]; omega
   ·obtain rfl : j = rnm := by omega
    have ho := HO.out
    have hta : (rms.map (·.v)).take j = rms.map (·.v) := List.take_of_length_le (by rw [List.length_map, hrl]; exact Nat.le_refl _)
    rw [hta] at ho
    have HY := Lib.hid (And.intro (ho.mono hz2) (HX.out.trans (HBR.out.mono hz2)))
    clear ho hta
    go_wp2_with fail
    go_ret
    exact ⟨_, _, rfl, HY.out.1, HRL.out, fun i x q a b => (HTL.out i x q a b).under (HBR.out.mono hBw2) (Nat.le_refl _), HY.out.2⟩
 ·have q1 : (rk == 6) = false := by simpa using hk6
  have HR : Hid (R = []) := by unfold Hid; rw [HEO.out, <- hkk, if_neg hk6]
  clear hkk
  go_wp2_with fail
  rw [HR.out]
  go_ret
  exact ⟨_, [], rfl, Own.nil _ _ _, rfl, fun i x q a _ => by simp at a, HX.out⟩
theorem named_any (t : JV) (r : RV) (nm : ByteArray) (fs : List ByteArray) (pf : Option Addr) (nf cf : Nat) (w : World) (B : Nat) (hBw : B <= w.heap.size) (ht : TreeOf w B t r) (ot : t.Ok) (hct : countT t <= 100000) (hf : Rd w w.heap.size encS 1 (.slice pf nf cf) fs) (hfn : fs.length <= 3) :
 Calls Tryz.prog 57 #[r.val, .string nm, .slice pf nf cf] w (OwnRet w 9 encS 1 (namedJ t nm fs)) := by
 obtain ⟨W0, hW0⟩ : ∃ W0, w.alloc r.obj = W0 := ⟨_, rfl⟩
 have hA0 : VAt W0 w.heap.size r := by rw [<- hW0]; exact heap_alloc_at rfl
 have hB0 : Below w.heap.size w W0 := by rw [<- hW0]; exact (Below.refl _ _).alloc (Nat.le_refl _) _
 have HC : Hid (Calls Tryz.prog 58 #[r.val, .string nm] W0 (VlRet W0 B (eachJ t nm))) := each_any t r nm W0 B (Nat.le_trans hBw hB0.size) (ht.under (hB0.mono hBw) (Nat.le_refl _)) ot
 have hnj := namedJ_len t nm fs
 have HEK := Lib.hid (eachJ_ok (name := nm) ot)
 have hfl : fs.length = nf := (rd_nlen hf).symm
 unfold namedJ at hnj ⊢
 obtain ⟨es, hes⟩ : ∃ es, eachJ t nm = es := ⟨_, rfl⟩
 rw [hes] at HC HEK hnj
 rw [hes]
 have hnb : (es.flatMap (fun x => fs.flatMap (textM x))).length <= 300000 := Nat.le_trans hnj (Nat.mul_le_mul hfn hct)
 have HNB := Lib.hid hnb
 obtain ⟨k, n, s, pl, nl, cl, pm, nm', cm⟩ := r
 dsimp only [RV.val, RV.obj] at *
 have HW := Lib.hid hW0
 have HB0 := Lib.hid hB0
 have HF := Lib.hid hf
 have hw0 := hB0.size
 have HFL := Lib.hid hfl
 have hnf : nf <= 3 := by omega
 clear hW0 hB0 ht ot hes hnj hnb hf hfn hfl hct
 go_enter Tryz.func57, Tryz.ntmps57
 go_upto_region 1 with fail
 rw [HW.out]
 clear HW
 obtain ⟨a0, a1, a2, a3, a4⟩ := hA0.cells5
 go_wp2_with (go_at_call 58; refine HC.out.mono ?_; rintro e w1 ⟨v9, rs, rfl, ho, hlen, htl, hb1⟩; obtain ⟨p9, n9, c9, rfl⟩ : ∃ p n c, v9 = Value.slice p n c := by (obtain ⟨p, c, h, _, _⟩ := ho.len; exact ⟨p, _, c, h⟩))
 have hr : Rd w1 w1.heap.size encV 5 (.slice p9 n9 c9) rs := ho.rd codecV
 have hrl : rs.length = n9 := (rd_nlen hr).symm
 have HN : Hid (es.length = n9) := by unfold Hid; omega
 have hno : n9 <= 1466015503658 := by have := HEK.out.1; have := HN.out; omega
 have HTL := Lib.hid htl
 have HRD := Lib.hid hr
 have hbw1 := HB0.out.trans (hb1.mono hw0)
 have HBW := Lib.hid hbw1
 have hw1 := hbw1.size
 have hBw1 : B <= w1.heap.size := Nat.le_trans hBw hw1
 have HF1 : Hid (Rd w1 w1.heap.size encS 1 (.slice pf nf cf) fs) := HF.out.below hbw1 hw1
 clear hr htl hb1 hbw1 hlen ho a0 a1 a2 a3 a4 hA0 HC HB0 HF
 go_loopw [7, 16] (fun u i wr => ∃ j : Nat, j <= n9 /\ i = .int .i64 (j : Int) /\ Hid (Own wr w1.heap.size 9 encS 1 u ((es.take j).flatMap (fun x => fs.flatMap (textM x))) /\ Below w1.heap.size w1 wr)) (fun _ i _ => n9 - (intOf i).toNat)
 case atStart => exact ⟨0, by omega, rfl, by rw [List.take_zero]; exact Own.nil _ _ _, Below.refl _ _⟩
 case round =>
  obtain ⟨j, hj, rfl, hH⟩ := hrel
  have HO := Lib.hid hH.out.1
  have HBR := Lib.hid hH.out.2
  clear hH
  have hj0 : (0 : Int) <= (j : Int) := Int.natCast_nonneg _
  by_cases hlt : j < n9
  ·obtain ⟨y, hy⟩ : ∃ y, es[j]? = some y := ⟨_, List.getElem?_eq_getElem (by have := HN.out; omega)⟩
   obtain ⟨⟨xk, xn, xs, xpl, xnl, xcl, xpm, xnm, xcm⟩, hx⟩ : ∃ x, rs[j]? = some x := ⟨_, List.getElem?_eq_getElem (by omega)⟩
   have HYO := Lib.hid (HEK.out.2 j y hy)
   have HPS := Lib.hid (flat_succ (f := fun x => fs.flatMap (textM x)) hy)
   have HPM := Lib.hid (flat_mid (f := fun x => fs.flatMap (textM x)) hy)
   try dsimp only at HPS HPM
   have HTA : Hid (∀ W, Below w1.heap.size w1 W -> TreeOf W B y ⟨xk, xn, xs, xpl, xnl, xcl, xpm, xnm, xcm⟩) := fun W hW => (HTL.out j y _ hy hx).under (hW.mono hBw1) (Nat.le_refl _)
   obtain ⟨L0, hL0⟩ : ∃ L, (es.take j).flatMap (fun x => fs.flatMap (textM x)) = L := ⟨_, rfl⟩
   rw [hL0] at HO HPS HPM
   obtain ⟨b1, o1, rfl, hb1, hc1⟩ := rd_at' (HRD.out.below HBR.out HBR.out.size) hx
   have f0 := hc1 0 _ rfl
   have f1 := hc1 1 _ rfl
   have f2 := hc1 2 _ rfl
   have f3 := hc1 3 _ rfl
   have f4 := hc1 4 _ rfl
   rw [Nat.add_zero] at f0
   dsimp only at f0 f1 f2 f3 f4
   have hj1 : (j : Int) < (n9 : Int) := by omega
   have hbz := HBR.out.size
   clear hx hy hc1 hL0
   go_upto_region 5 with fail
   have hB9 : Below w1.heap.size w1 (wr.alloc (.cells #[.int .i64 xk, .int .i64 xn, .string xs, .slice xpl xnl xcl, .slice xpm xnm xcm] 25)) := HBR.out.alloc hbz _
   have hO9 := HO.out.alloc (.cells #[.int .i64 xk, .int .i64 xn, .string xs, .slice xpl xnl xcl, .slice xpm xnm xcm] 25)
   have hV9 : VAt (wr.alloc (.cells #[.int .i64 xk, .int .i64 xn, .string xs, .slice xpl xnl xcl, .slice xpm xnm xcm] 25)) wr.heap.size ⟨xk, xn, xs, xpl, xnl, xcl, xpm, xnm, xcm⟩ := heap_alloc_at rfl
   have hN9 : u7.ownBlock ≠ some wr.heap.size := fun e => by have := (HO.out.lt _ e).2; omega
   obtain ⟨g9, hg9⟩ : ∃ g, wr.heap.size = g := ⟨_, rfl⟩
   obtain ⟨W9, hW9⟩ : ∃ W, wr.alloc (.cells #[.int .i64 xk, .int .i64 xn, .string xs, .slice xpl xnl xcl, .slice xpm xnm xcm] 25) = W := ⟨_, rfl⟩
   rw [hW9] at hB9 hO9 hV9
   rw [hg9] at hV9 hN9
   try rw [hW9]
   try rw [hg9]
   have HS9 : Hid (Own W9 w1.heap.size 9 encS 1 u7 (L0 ++ (fs.take 0).flatMap (textM y)) /\ VAt W9 g9 ⟨xk, xn, xs, xpl, xnl, xcl, xpm, xnm, xcm⟩ /\ u7.ownBlock ≠ some g9 /\ Below w1.heap.size w1 W9) := ⟨by rw [List.take_zero, List.flatMap_nil, List.append_nil]; exact hO9, hV9, hN9, hB9⟩
   clear hW9 hg9 hB9 hO9 hV9 hN9 f0 f1 f2 f3 f4 HO HBR
   go_wp2_with fail
   go_loopw [7, 22] (fun u i wr => ∃ q : Nat, q <= nf /\ i = .int .i64 (q : Int) /\ Hid (Own wr w1.heap.size 9 encS 1 u (L0 ++ (fs.take q).flatMap (textM y)) /\ VAt wr g9 ⟨xk, xn, xs, xpl, xnl, xcl, xpm, xnm, xcm⟩ /\ u.ownBlock ≠ some g9 /\ Below w1.heap.size w1 wr)) (fun _ i _ => nf - (intOf i).toNat)
   case atStart => exact ⟨0, by omega, rfl, HS9.out⟩
   case round =>
    obtain ⟨q, hq, rfl, hI⟩ := hrel
    have hq0 : (0 : Int) <= (q : Int) := Int.natCast_nonneg _
    by_cases hlq : q < nf
    ·obtain ⟨f, hf⟩ : ∃ f, fs[q]? = some f := ⟨_, List.getElem?_eq_getElem (by have := HFL.out; omega)⟩
     obtain ⟨b2, o2, rfl, hb2, hc2⟩ := rd_at' (HF1.out.below hI.out.2.2.2 hI.out.2.2.2.size) hf
     have f0 := hc2 0 _ rfl
     rw [Nat.add_zero, Nat.mul_one] at f0
     have hq1 : (q : Int) < (nf : Int) := by omega
     have HQS := Lib.hid (flat_succ (f := textM y) hf)
     have hqm := flat_mid (f := textM y) hf
     obtain ⟨L1, hL1⟩ : ∃ L, (fs.take q).flatMap (textM y) = L := ⟨_, rfl⟩
     have HO1 := Lib.hid hI.out.1
     have HV1 := Lib.hid hI.out.2.1
     have HNE := Lib.hid hI.out.2.2.1
     have HB1 := Lib.hid hI.out.2.2.2
     rw [hL1] at HO1 HQS hqm
     have hv1 := HV1.out
     obtain ⟨e0, e1, e2, e3, e4⟩ := hv1.cells5
     dsimp only at e0 e1 e2 e3 e4
     have hg1 := hv1.lt
     have hz1 := HB1.out.size
     have HTX := Lib.hid (text_any y ⟨xk, xn, xs, xpl, xnl, xcl, xpm, xnm, xcm⟩ f wr B (Nat.le_trans hBw1 hz1) (HTA.out wr HB1.out) HYO.out)
     dsimp only [RV.val] at HTX
     obtain ⟨LF, hLF⟩ : ∃ L, textM y f = L := ⟨_, rfl⟩
     rw [hLF] at HTX HQS hqm
     have HLN : Hid ((L0 ++ L1).length + LF.length <= maxLen /\ ((L0 ++ L1).length + LF.length) * 16 <= 140737488355328) := by
      have h1 := HPM.out
      have h2 := HNB.out
      rw [List.length_append]
      exact ⟨by unfold maxLen; omega, by omega⟩
     clear hf hc2 hI hL1 hLF hqm hv1
     go_wp2_with (first
      | (go_at_call 59; (with_reducible refine HTX.out.mono ?_); rintro e w2 ⟨u2, rfl, ho2, hb2⟩; (have ho3 := HO1.out.below hb2 (Nat.le_refl _)); (have hz2 : w1.heap.size <= w2.heap.size := Nat.le_trans hz1 hb2.size))
      | (at_builtin; refine wpList_append_rd slS codecS w2 rfl (.tmp 26) (.tmp 29) rfl (v := u7) rfl rfl ho3 (ho2.rd codecS) HLN.out.1 HLN.out.2 hz2 ?_; intro v8 w8 ho8 hg8 hat8)
      | fail)
     have hv2 : VAt w2 g9 ⟨xk, xn, xs, xpl, xnl, xcl, xpm, xnm, xcm⟩ := HV1.out.under hb2 hg1
     have hv8 : VAt w8 g9 ⟨xk, xn, xs, xpl, xnl, xcl, xpm, xnm, xcm⟩ := (hg8.block g9 hv2.lt (fun e => HNE.out e.symm)).trans hv2
     have hne8 : v8.ownBlock ≠ some g9 := fun e => by
      rcases hat8 with h | h
      ·exact HNE.out (h.symm.trans e)
      ·rw [e] at h
       have := Option.some.inj h
       have := hv2.lt
       omega
     have HS8 : Hid (Own w8 w1.heap.size 9 encS 1 v8 (L0 ++ (fs.take (q + 1)).flatMap (textM y)) /\ VAt w8 g9 ⟨xk, xn, xs, xpl, xnl, xcl, xpm, xnm, xcm⟩ /\ v8.ownBlock ≠ some g9 /\ Below w1.heap.size w1 w8) := ⟨by rw [HQS.out, <- List.append_assoc]; exact ho8, hv8, hne8, Below.appended (HB1.out.trans (hb2.mono hz1)) hg8 ho3 hz2⟩
     clear ho8 hg8 hat8 hv2 hv8 hne8 ho2 ho3 hb2
     go_roundw
     case rel => exact ⟨q + 1, by omega, by go_num, HS8.out⟩
     case measure => simp [intOf]; omega
    ·obtain rfl : q = nf := by omega
     have ho := hI.out.1
     rw [List.take_of_length_le (by have := HFL.out; omega)] at ho
     have HSX : Hid (Own wr w1.heap.size 9 encS 1 u7 ((es.take (j + 1)).flatMap (fun x => fs.flatMap (textM x))) /\ Below w1.heap.size w1 wr) := ⟨by rw [HPS.out]; exact ho, hI.out.2.2.2⟩
     clear ho hI HS9
     go_wp2_with fail
     go_roundw
     case rel => exact ⟨j + 1, by omega, by go_num, HSX.out⟩
     case measure => simp [intOf]; omega
  ·obtain rfl : j = n9 := by omega
   have ho := HO.out
   have hta : es.take j = es := List.take_of_length_le (by have := HN.out; omega)
   rw [hta] at ho
   have HX := Lib.hid (And.intro (ho.mono hw1) (HBW.out.trans (HBR.out.mono hw1)))
   clear ho hta
   go_wp2_with fail
   go_ret
   exact ⟨_, rfl, HX.out.1, HX.out.2⟩
theorem whole_any (t : JV) (r : RV) (w : World) (B : Nat) (hBw : B <= w.heap.size) (ht : TreeOf w B t r) (ot : t.Ok) (hct : countT t <= 100000) :
 Calls Tryz.prog 55 #[r.val] w (OwnRet w 9 encS 1 (wholeJ t)) := by
 obtain ⟨W0, hW0⟩ : ∃ W0, w.alloc r.obj = W0 := ⟨_, rfl⟩
 have hA0 : VAt W0 w.heap.size r := by rw [<- hW0]; exact heap_alloc_at rfl
 have hB0 : Below w.heap.size w W0 := by rw [<- hW0]; exact (Below.refl _ _).alloc (Nat.le_refl _) _
 have hw0 := hB0.size
 have hBw0 : B <= W0.heap.size := Nat.le_trans hBw hw0
 have hTr : ∀ W, Below W0.heap.size W0 W -> TreeOf W B t r := fun W hW => (ht.under (hB0.mono hBw) (Nat.le_refl _)).under (hW.mono hBw0) (Nat.le_refl _)
 have HT : Hid (∀ W, Below W0.heap.size W0 W -> Calls Tryz.prog 59 #[r.val, .string svFull] W (fun e w' => ∃ u, e = .returned u /\ Own w' W0.heap.size 9 encS 1 u (textM t svFull) /\ Below W.heap.size W w')) := fun W hW => (text_any t r svFull W B (Nat.le_trans hBw0 hW.size) (hTr W hW) ot).mono fun e w' h => by
  obtain ⟨u, h1, h2, h3⟩ := h
  exact ⟨u, h1, h2.mono hW.size, h3⟩
 have HP : Hid (∀ W, Below W0.heap.size W0 W -> Calls Tryz.prog 56 #[r.val, .string ⟨#[]⟩] W (fun e w' => ∃ u, e = .returned u /\ Own w' W0.heap.size 9 encS 1 u (partsJ t ⟨#[]⟩) /\ Below W.heap.size W w')) := fun W hW => (parts_any t r ⟨#[]⟩ W B (Nat.le_trans hBw0 hW.size) (hTr W hW) ot (by decide)).mono fun e w' h => by
  obtain ⟨u, h1, h2, h3⟩ := h
  exact ⟨u, h1, h2.mono hW.size, h3⟩
 have hl1 := textM_len t svFull
 have hl2 := partsJ_count t ⟨#[]⟩
 unfold wholeJ
 obtain ⟨LT, hLT⟩ : ∃ L, textM t svFull = L := ⟨_, rfl⟩
 obtain ⟨LP, hLP⟩ : ∃ L, partsJ t ⟨#[]⟩ = L := ⟨_, rfl⟩
 rw [hLT] at HT hl1
 rw [hLP] at HP hl2
 rw [hLT, hLP]
 have HLN : Hid (LT.length + LP.length <= maxLen /\ (LT.length + LP.length) * 16 <= 140737488355328) := ⟨by unfold maxLen; omega, by omega⟩
 unfold svFull at HT
 obtain ⟨k, n, s, pl, nl, cl, pm, nm, cm⟩ := r
 dsimp only [RV.val, RV.obj] at *
 have HW := Lib.hid hW0
 have HB0 := Lib.hid hB0
 have hb00 : Below W0.heap.size W0 W0.drew := (Below.refl _ _).drew
 clear hW0 hB0 ht ot hLT hLP hl1 hl2 hct hTr
 go_enter Tryz.func55, Tryz.ntmps55
 go_upto_region 1 with fail
 rw [HW.out]
 clear HW
 obtain ⟨a0, a1, a2, a3, a4⟩ := hA0.cells5
 have hz0 := hA0.lt
 go_region_law
  (first
   | (go_simp; go_at_call 59
      (with_reducible refine (HT.out _ (by first | exact hbP | exact hb00)).mono ?_)
      rintro e wT ⟨uT, rfl, hoT, hbT'⟩
      have hbT : Below W0.heap.size W0 wT := (by first | exact hbP.trans (hbT'.mono hbP.size) | exact hb00.trans hbT')
      have d0 := bcs hbT hz0 a0
      have d1 := bcs hbT hz0 a1
      have d2 := bcs hbT hz0 a2
      have d3 := bcs hbT hz0 a3
      have d4 := bcs hbT hz0 a4)
   | (go_simp; go_at_call 56
      (with_reducible refine (HP.out _ (by first | exact hbT | exact hb00)).mono ?_)
      rintro e wP ⟨uP, rfl, hoP, hbP'⟩
      have hbP : Below W0.heap.size W0 wP := (by first | exact hbT.trans (hbP'.mono hbT.size) | exact hb00.trans hbP')
      have e0 := bcs hbP hz0 a0
      have e1 := bcs hbP hz0 a1
      have e2 := bcs hbP hz0 a2
      have e3 := bcs hbP hz0 a3
      have e4 := bcs hbP hz0 a4)
   | (have hoX := hoT.below hbP' (Nat.le_refl _)
      refine step_append_rd slS codecS wP (by rfl) (.tmp 4) (.tmp 6) (by rfl) (v := uT) (by rfl) (by rfl) hoX (hoP.rd codecS) HLN.out.1 HLN.out.2 hbP.size ?_
      intro v8 w8 ho8 hg8 hat8
      have hb8 := Below.appended hbP hg8 hoX hbP.size)
   | (have hrX := (hoP.rd codecS).below hbT' (Nat.le_refl _)
      refine step_append_rd slS codecS wT (by rfl) (.tmp 4) (.tmp 6) (by rfl) (v := uT) (by rfl) (by rfl) hoT hrX HLN.out.1 HLN.out.2 hbT.size ?_
      intro v8 w8 ho8 hg8 hat8
      have hb8 := Below.appended hbT hg8 hoT hbT.size)
   | fail)
 all_goals
  go_wp2_with fail
  go_ret
  exact ⟨v8, rfl, ho8.mono hw0, HB0.out.trans (hb8.mono hw0)⟩
end
section
open Go Go.RowKit
def svInBook : ByteArray := ⟨#[105, 110, 65, 100, 100, 114, 101, 115, 115, 66, 111, 111, 107]⟩
def svBookIds : ByteArray := ⟨#[97, 100, 100, 114, 101, 115, 115, 66, 111, 111, 107, 73, 100, 115]⟩
def svUid : ByteArray := ⟨#[117, 105, 100]⟩
def svHasMem : ByteArray := ⟨#[104, 97, 115, 77, 101, 109, 98, 101, 114]⟩
def svMembers : ByteArray := ⟨#[109, 101, 109, 98, 101, 114, 115]⟩
def svIndiv : ByteArray := ⟨#[105, 110, 100, 105, 118, 105, 100, 117, 97, 108]⟩
def svCrBef : ByteArray := ⟨#[99, 114, 101, 97, 116, 101, 100, 66, 101, 102, 111, 114, 101]⟩
def svCrAft : ByteArray := ⟨#[99, 114, 101, 97, 116, 101, 100, 65, 102, 116, 101, 114]⟩
def svUpBef : ByteArray := ⟨#[117, 112, 100, 97, 116, 101, 100, 66, 101, 102, 111, 114, 101]⟩
def svUpAft : ByteArray := ⟨#[117, 112, 100, 97, 116, 101, 100, 65, 102, 116, 101, 114]⟩
def svOper : ByteArray := ⟨#[111, 112, 101, 114, 97, 116, 111, 114]⟩
def svConds : ByteArray := ⟨#[99, 111, 110, 100, 105, 116, 105, 111, 110, 115]⟩
def svAnd : ByteArray := ⟨#[65, 78, 68]⟩
def svOr : ByteArray := ⟨#[79, 82]⟩
def svNot : ByteArray := ⟨#[78, 79, 84]⟩
def isFieldB (n : ByteArray) : Bool := decide (n = svText) || (decide (n = givenN) || (decide (n = surN) || allF.any (fun y => decide (y = n))))
def stampB (n : ByteArray) : Bool := decide (n = svCrBef) || (decide (n = svCrAft) || (decide (n = svUpBef) || decide (n = svUpAft)))
def askB (n : ByteArray) : Bool := decide (n = svInBook) || (decide (n = svUid) || (decide (n = svHasMem) || (decide (n = kindN) || stampB n)))
def rightC (n : ByteArray) (x : JV) : Bool := decide (x.k = 4) && (decide (x.s.size <= 255) && ((!isFieldB n || decide (x.s.size <= 64)) && ((!decide (n = svInBook) || idB x.s) && (!stampB n || (secF x.s.data.toList).isSome))))
def condE (n : ByteArray) (x : JV) : Int := if askB n || isFieldB n then (if rightC n x then 0 else 1) else 200
def condsE : List (ByteArray × JV) -> Int
 | [] => 0
 | p :: r => if condE p.1 p.2 = 0 then condsE r else condE p.1 p.2
def opOk (t : JV) : Bool := decide (t.m.length = 2) && (decide (((t.get svOper).getD JV.zero).k = 4) && ((decide (((t.get svOper).getD JV.zero).s = svAnd) || (decide (((t.get svOper).getD JV.zero).s = svOr) || decide (((t.get svOper).getD JV.zero).s = svNot))) && decide (((t.get svConds).getD JV.zero).k = 5)))
def condsL (t : JV) : List JV := ((t.get svConds).getD JV.zero).l
mutual
def chkF : JV -> Int
 | .mk k n s l m => if k = 6 then (if ((JV.mk k n s l m).get svOper).isSome then (if opOk (.mk k n s l m) then chkC m else 1) else condsE m) else 1
def chkC : List (ByteArray × JV) -> Int
 | [] => 0
 | (a, v) :: r => if a = svConds then chkV v else chkC r
def chkV : JV -> Int
 | .mk _ _ _ l _ => chkFL l
def chkFL : List JV -> Int
 | [] => 0
 | x :: r => if chkF x = 0 then chkFL r else chkF x
end
def checkJ (f : JV) : Int := if f.k = 1 then 0 else if 30 < countT f then 200 else chkF f
def hasJ (v : JV) (name s : ByteArray) : Bool := match v.get name with | some x => (x.get s).isSome | none => false
def aheadO (v : JV) (name s : ByteArray) : Option Bool := match textM v name with | [] => none | x :: _ => some (decide (cmpS x.data.toList s.data.toList < 0))
def condB (v : JV) (n s : ByteArray) : Bool :=
 if n = svInBook then hasJ v svBookIds s else
 if n = svUid then decide (textM v svUid = [s]) else
 if n = svHasMem then hasJ v svMembers s else
 if n = kindN then (if (v.get kindN).isSome then decide (textM v kindN = [s]) else decide (s = svIndiv)) else
 if n = svCrBef then decide (aheadO v createdN s = some true) else
 if n = svCrAft then decide (aheadO v createdN s = some false) else
 if n = svUpBef then decide (aheadO v updatedN s = some true) else
 if n = svUpAft then decide (aheadO v updatedN s = some false) else matchF s.data.toList (textsJ v n)
def combB (o : ByteArray) (bs : List Bool) : Bool := if o = svAnd then bs.all id else if o = svOr then bs.any id else !bs.any id
mutual
def holF (v : JV) : JV -> Bool
 | .mk k n s l m => match (JV.mk k n s l m).get svOper with
   | some o => combB o.s (holC v m)
   | none => m.all (fun p => condB v p.1 p.2.s)
def holC (v : JV) : List (ByteArray × JV) -> List Bool
 | [] => []
 | (a, x) :: r => if a = svConds then holV v x else holC v r
def holV (v : JV) : JV -> List Bool
 | .mk _ _ _ l _ => holL v l
def holL (v : JV) : List JV -> List Bool
 | [] => []
 | x :: r => holF v x :: holL v r
end
def holdsJ (f v : JV) : Bool := decide (v.k = 6) && (decide (checkJ f = 0) && holF v f)
theorem memS_six {t : JV} (h : t.k = 6) : t.mem = t.m := by cases t; exact if_pos h
theorem memS_not {t : JV} (h : t.k ≠ 6) : t.mem = [] := by cases t; exact if_neg h
theorem getS_not {t : JV} (h : t.k ≠ 6) (n : ByteArray) : t.get n = none := by
 unfold JV.get JV.place
 rw [memS_not h]
 rfl
theorem mem_get_cons (p : ByteArray × JV) (m : List (ByteArray × JV)) (n : ByteArray) : ((p :: m).findIdx? (fun q => decide (q.1 = n))).bind (fun i => (p :: m)[i]?.map (·.2)) = if p.1 = n then some p.2 else (m.findIdx? (fun q => decide (q.1 = n))).bind (fun i => m[i]?.map (·.2)) := by
 rw [List.findIdx?_cons]
 by_cases h : p.1 = n
 ·rw [if_pos h, if_pos (by simpa using h)]
  rfl
 ·rw [if_neg h, if_neg (by simpa using h)]
  cases m.findIdx? (fun q => decide (q.1 = n)) <;> rfl
theorem getS_mOf {t : JV} (h : t.k = 6) (n : ByteArray) : t.get n = mOf t.m n := by
 unfold JV.get JV.place mOf
 rw [memS_six h]
 induction t.m with
 | nil => rfl
 | cons p r ih =>
   rw [mem_get_cons, List.find?_cons]
   by_cases hp : p.1 = n
   ·rw [if_pos hp, decide_eq_true hp]
    rfl
   ·rw [if_neg hp, decide_eq_false hp]
    exact ih
theorem mOfS_cons (p : ByteArray × JV) (m : List (ByteArray × JV)) (n : ByteArray) : mOf (p :: m) n = if p.1 = n then some p.2 else mOf m n := by
 unfold mOf
 rw [List.find?_cons]
 by_cases hp : p.1 = n
 ·rw [if_pos hp, decide_eq_true hp]
  rfl
 ·rw [if_neg hp, decide_eq_false hp]
theorem get_k {t x : JV} {n : ByteArray} (h : t.get n = some x) : t.k = 6 := by
 by_cases hk : t.k = 6
 ·exact hk
 ·rw [getS_not hk] at h
  cases h
theorem chkV_eq (v : JV) : chkV v = chkFL v.l := by cases v; rw [chkV]; rfl
theorem holV_eq (v x : JV) : holV v x = holL v x.l := by cases x; rw [holV]; rfl
theorem chkC_eq (m : List (ByteArray × JV)) : chkC m = chkFL ((mOf m svConds).getD JV.zero).l := by
 induction m with
 | nil => rw [chkC]; rfl
 | cons p r ih =>
   obtain ⟨a, v⟩ := p
   rw [chkC, mOfS_cons]
   by_cases h : a = svConds
   ·rw [if_pos h, if_pos h, chkV_eq]
    rfl
   ·rw [if_neg h, if_neg h, ih]
theorem holC_eq (v : JV) (m : List (ByteArray × JV)) : holC v m = holL v ((mOf m svConds).getD JV.zero).l := by
 induction m with
 | nil => rw [holC]; rfl
 | cons p r ih =>
   obtain ⟨a, x⟩ := p
   rw [holC, mOfS_cons]
   by_cases h : a = svConds
   ·rw [if_pos h, if_pos h, holV_eq]
    rfl
   ·rw [if_neg h, if_neg h, ih]
theorem holL_eq (v : JV) (l : List JV) : holL v l = l.map (holF v) := by
 induction l with
 | nil => rw [holL]; rfl
 | cons x r ih => rw [holL, ih]; rfl
theorem chkF_eq (t : JV) : chkF t = if t.k = 6 then (if (t.get svOper).isSome then (if opOk t then chkFL (condsL t) else 1) else condsE t.m) else 1 := by
 cases t with
 | mk k n s l m =>
   rw [chkF]
   show (if k = 6 then _ else _) = if k = 6 then _ else _
   by_cases h : k = 6
   ·rw [if_pos h, if_pos h, chkC_eq]
    unfold condsL
    rw [getS_mOf (t := JV.mk k n s l m) h svConds]
    rfl
   ·rw [if_neg h, if_neg h]
theorem holF_eq (v t : JV) : holF v t = match t.get svOper with | some o => combB o.s ((condsL t).map (holF v)) | none => t.m.all (fun p => condB v p.1 p.2.s) := by
 cases t with
 | mk k n s l m =>
   rw [holF]
   cases h : (JV.mk k n s l m).get svOper with
   | none => rfl
   | some o =>
     dsimp only
     rw [holC_eq, holL_eq]
     unfold condsL
     rw [getS_mOf (t := JV.mk k n s l m) (get_k h) svConds]
     rfl
theorem chkFL_drop {l : List JV} {j : Nat} {x : JV} (h : l[j]? = some x) : chkFL (l.drop j) = if chkF x = 0 then chkFL (l.drop (j + 1)) else chkF x := by
 obtain ⟨h1, h2⟩ := List.getElem?_eq_some_iff.1 h
 rw [List.drop_eq_getElem_cons h1, h2, chkFL]
theorem condsE_drop {l : List (ByteArray × JV)} {j : Nat} {x : ByteArray × JV} (h : l[j]? = some x) : condsE (l.drop j) = if condE x.1 x.2 = 0 then condsE (l.drop (j + 1)) else condE x.1 x.2 := by
 obtain ⟨h1, h2⟩ := List.getElem?_eq_some_iff.1 h
 rw [List.drop_eq_getElem_cons h1, h2]
 rfl
theorem all_drop {α : Type} {p : α -> Bool} {l : List α} {j : Nat} {x : α} (h : l[j]? = some x) : (l.drop j).all p = (p x && (l.drop (j + 1)).all p) := by
 obtain ⟨h1, h2⟩ := List.getElem?_eq_some_iff.1 h
 rw [List.drop_eq_getElem_cons h1, h2, List.all_cons]
theorem condsL_lt {t x : JV} (h : x ∈ condsL t) : SizeOf.sizeOf x < SizeOf.sizeOf t := by
 unfold condsL at h
 cases hg : t.get svConds with
 | none =>
   rw [hg] at h
   cases h
 | some c =>
   rw [hg] at h
   obtain ⟨p, h1, rfl, _⟩ := get_memJ hg
   obtain ⟨i, hi⟩ := List.getElem?_of_mem h1
   obtain ⟨j, hj⟩ := List.getElem?_of_mem (show x ∈ p.2.l from h)
   cases t with
   | mk k n s l m =>
     change m[i]? = some p at hi
     have h3 := JV.lt_m (k := k) (n := n) (s := s) (l := l) hi
     cases hp : p.2 with
     | mk k' n' s' l' m' =>
       rw [hp] at hj h3
       change l'[j]? = some x at hj
       have h4 := JV.lt_l (k := k') (n := n') (s := s') (m := m') hj
       omega
theorem chkFL_zero {l : List JV} : chkFL l = 0 ↔ ∀ x ∈ l, chkF x = 0 := by
 induction l with
 | nil => simp [chkFL]
 | cons a r ih =>
   rw [chkFL]
   by_cases h : chkF a = 0
   ·rw [if_pos h, ih]
    simp [h]
   ·rw [if_neg h]
    constructor
    ·intro e
     exact absurd e h
    ·intro e
     exact absurd (e a (by simp)) h
theorem condsE_zero {m : List (ByteArray × JV)} : condsE m = 0 ↔ ∀ p ∈ m, condE p.1 p.2 = 0 := by
 induction m with
 | nil => simp [condsE]
 | cons a r ih =>
   unfold condsE
   by_cases h : condE a.1 a.2 = 0
   ·rw [if_pos h, ih]
    constructor
    ·intro e p hp
     rcases List.mem_cons.1 hp with rfl | hp
     ·exact h
     ·exact e p hp
    ·intro e p hp
     exact e p (List.mem_cons_of_mem _ hp)
   ·rw [if_neg h]
    constructor
    ·intro e
     exact absurd e h
    ·intro e
     exact absurd (e a (by simp)) h
end
section
open Go.RowKit Go.OpenShut
section
variable {P : Program} (w : World) {ops : Array Oper} {rest : List Oper} {o : Oper} {a : Act} {Q : Exit -> Act -> World -> Prop}
end
theorem bytes_ext {a b : ByteArray} (h : a.data.toList = b.data.toList) : a = b := by
 obtain ⟨⟨x⟩⟩ := a
 obtain ⟨⟨y⟩⟩ := b
 simp only at h
 rw [h]
theorem rd_at {α : Type} {enc : α -> List Value} {sz n cap k B : Nat} {w : World} {p : Option Addr} {xs : List α} (h : Rd w B enc sz (.slice p n cap) xs) {x : α} (hx : xs[k]? = some x) :
 ∃ b o, p = some ⟨b, o, none⟩ /\ b < B /\ ∀ j u, (enc x)[j]? = some u -> w.cell? ⟨b, o + k * sz + j, none⟩ = some u := by
 obtain ⟨p', cap', he, h1, h2, h3, h4⟩ := h
 simp only [Value.slice.injEq] at he
 obtain ⟨rfl, rfl, rfl⟩ := he
 have hk := (List.getElem?_eq_some_iff.1 hx).1
 cases p with
 | none => have := h3 rfl; omega
 | some a =>
   obtain ⟨b, o, rfl, hb, hr⟩ := h4 a rfl (by omega)
   exact ⟨b, o, rfl, hb, hr k x hx⟩
theorem rd_len {α : Type} {enc : α -> List Value} {sz B : Nat} {w : World} {v : Value} {xs : List α} (h : Rd w B enc sz v xs) : ∃ p cap, v = .slice p xs.length cap /\ xs.length <= cap /\ cap <= 9223372036854775807 := by
 obtain ⟨p, cap, he, h1, h2, _⟩ := h
 exact ⟨p, cap, he, h1, h2⟩
theorem eqTake_ne {α : Type} [DecidableEq α] {l m : List α} {k : Nat} {x y : α} (hx : l[k]? = some x) (hy : m[k]? = some y) (h : x ≠ y) : decide (l = m) = false := by
 rw [decide_eq_false_iff_not]
 rintro rfl
 rw [hx] at hy
 exact h (by simpa using hy)
end
end Go.Proofs.YtffhccmppdgmfaaGreatDoor
