import Derived.Test.YtffhccmppdgmfaaGreatDoorE25
import Derived.Test.YtffhccmppdgmfaaGreatDoorE14
import Derived.Test.YtffhccmppdgmfaaGreatDoorE13
import Derived.Test.YtffhccmppdgmfaaGreatDoorE12
import Derived.Test.YtffhccmppdgmfaaGreatDoorE23
import Derived.Test.YtffhccmppdgmfaaGreatDoorE10
set_option linter.unusedSimpArgs false
set_option linter.unusedVariables false
set_option maxRecDepth 200000
set_option maxHeartbeats 8000000
namespace Go.Proofs.YtffhccmppdgmfaaGreatDoor
section
open Go.RowKit Go.OpenShut
theorem few20_any (f v : JV) (r q : RV) (w : World) (hf : TreeOf w w.heap.size f r) (of : f.Ok) (hv : TreeOf w w.heap.size v q) (ov : v.Ok) :
 Calls Tryz.prog 21 #[r.val, q.val] w fun e w' => ∃ b : Bool, e = .returned (.bool b) /\ Hid (b = true -> (OwnN f /\ countT f <= 300) /\ OwnN v /\ countT v <= 800) /\ Below w.heap.size w w' := by
 obtain ⟨W0, hW0⟩ : ∃ W0, (w.alloc (.cells #[.int .i64 r.k, .int .i64 r.n, .string r.s, .slice r.pl r.nl r.cl, .slice r.pm r.nm r.cm] 25)).alloc (.cells #[.int .i64 q.k, .int .i64 q.n, .string q.s, .slice q.pl q.nl q.cl, .slice q.pm q.nm q.cm] 25) = W0 := ⟨_, rfl⟩
 have hA0 : VAt W0 w.heap.size r := by rw [<- hW0]; exact heap_alloc_lt (by simp) (heap_alloc_at rfl)
 have hC0 : VAt W0 (w.heap.size + 1) q := by rw [<- hW0]; exact heap_alloc_at (by simp)
 have hB0 : Below w.heap.size w W0 := by rw [<- hW0]; exact ((Below.refl _ _).alloc (Nat.le_refl _) _).alloc (by simp) _
 have HF : Hid (∀ W, Below w.heap.size w W -> Calls Tryz.prog 18 #[r.val, .int .i64 300] W (SomeN f r.nm 300 W)) := fun W hb => few7n_any f r 300 W (by decide) (hf.under hb hb.size) of
 have HV : Hid (∀ W, Below w.heap.size w W -> Calls Tryz.prog 18 #[q.val, .int .i64 800] W (SomeN v q.nm 800 W)) := fun W hb => few7n_any v q 800 W (by decide) (hv.under hb hb.size) ov
 clear hf hv
 go_enter Tryz.func21, Tryz.ntmps21
 go_upto_region 1 with fail
 try rw [hW0]
 clear hW0
 have hz := hA0.lt
 have hz2 := hC0.lt
 obtain ⟨c0, c1, c2, c3, c4⟩ := hA0.cells5
 obtain ⟨d0, d1, d2, d3, d4⟩ := hC0.cells5
 clear hA0 hC0
 go_wp2_with (first
  | (go_at_call 18; (with_reducible refine (HF.out _ hB0).mono ?_); rintro e w1 ⟨b1, rfl, hL, hbA⟩; (have hb1 := hB0.trans (hbA.mono hB0.size)); (have e0 := bcs hbA hz2 d0); (have e1 := bcs hbA hz2 d1); (have e2 := bcs hbA hz2 d2); (have e3 := bcs hbA hz2 d3); (have e4 := bcs hbA hz2 d4); cases b1)
  | (go_at_call 18; (with_reducible refine (HV.out _ hb1).mono ?_); rintro e w2 ⟨b2, rfl, hM, hbB⟩; (have hb2 := hb1.trans (hbB.mono hb1.size))))
 all_goals go_ret
 all_goals first
  | exact ⟨b2, rfl, fun h => ⟨(hL.out (by trivial)).2, (hM.out h).2⟩, hb2⟩
  | exact ⟨false, rfl, (fun h => by cases h), hb1⟩
theorem light20_any (t : JV) (r : RV) (most : Nat) (w : World) (hmost : most <= 1000000) (ht : TreeOf w w.heap.size t r) (ot : t.Ok) :
 Calls Tryz.prog 22 #[r.val, .int .i64 (most : Int)] w fun e w' => ∃ b : Bool, e = .returned (.bool b) /\ Hid (b = true -> sizeT t <= most) /\ Below w.heap.size w w' := by
 have hA0 : VAt (w.alloc (.cells #[.int .i64 r.k, .int .i64 r.n, .string r.s, .slice r.pl r.nl r.cl, .slice r.pm r.nm r.cm] 25)) w.heap.size r := heap_alloc_at rfl
 have hB0 : Below w.heap.size w (w.alloc (.cells #[.int .i64 r.k, .int .i64 r.n, .string r.s, .slice r.pl r.nl r.cl, .slice r.pm r.nm r.cm] 25)) := (Below.refl _ _).alloc (Nat.le_refl _) _
 have HS : Hid (∀ W, Below w.heap.size w W -> Calls Tryz.prog 52 #[r.val, .int .i64 (most : Int)] W fun e w' => ∃ c : Nat, e = .returned (.int .i64 (c : Int)) /\ (c <= most + 140737488355328 /\ c <= sizeT t /\ (c <= most -> c = sizeT t)) /\ Below W.heap.size W w') := fun W hb => size20_any _ t r most W (Nat.le_refl _) hmost (ht.under hb hb.size) ot
 clear ht
 go_enter Tryz.func22, Tryz.ntmps22
 go_upto_region 1 with fail
 obtain ⟨W0, hW0⟩ : ∃ W0, (w.alloc (.cells #[.int .i64 r.k, .int .i64 r.n, .string r.s, .slice r.pl r.nl r.cl, .slice r.pm r.nm r.cm] 25)) = W0 := ⟨_, rfl⟩
 rw [hW0] at hA0 hB0 ⊢
 clear hW0
 obtain ⟨c0, c1, c2, c3, c4⟩ := hA0.cells5
 clear hA0
 go_wp2_with (go_at_call 52; (with_reducible refine (HS.out _ hB0).mono ?_); rintro e w1 ⟨d, rfl, hdd, hbA⟩; (have hb1 := hB0.trans (hbA.mono hB0.size)))
 go_ret
 refine ⟨_, rfl, fun h => ?_, hb1⟩
 have h2 : (d : Int) <= (most : Int) := of_decide_eq_true (by simpa using h)
 have := hdd.2.2 (by omega)
 omega
end
section
open Go Go.RowKit Go.OpenShut
theorem first8 : ∀ b0 b1 b2 b3 b4 b5 b6 b7 : Bool, b0 = true \/ (b0 = false /\ b1 = true) \/ (b0 = false /\ b1 = false /\ b2 = true) \/ (b0 = false /\ b1 = false /\ b2 = false /\ b3 = true) \/ (b0 = false /\ b1 = false /\ b2 = false /\ b3 = false /\ b4 = true) \/ (b0 = false /\ b1 = false /\ b2 = false /\ b3 = false /\ b4 = false /\ b5 = true) \/ (b0 = false /\ b1 = false /\ b2 = false /\ b3 = false /\ b4 = false /\ b5 = false /\ b6 = true) \/ (b0 = false /\ b1 = false /\ b2 = false /\ b3 = false /\ b4 = false /\ b5 = false /\ b6 = false /\ b7 = true) \/ (b0 = false /\ b1 = false /\ b2 = false /\ b3 = false /\ b4 = false /\ b5 = false /\ b6 = false /\ b7 = false) := by
 intro b0 b1 b2 b3 b4 b5 b6 b7
 cases b0 <;> cases b1 <;> cases b2 <;> cases b3 <;> cases b4 <;> cases b5 <;> cases b6 <;> cases b7 <;> simp
theorem kbT {B : Nat} {W w : World} (h : KB B W w) : Below B W w := h.1
theorem condB_field {nm : ByteArray} (hf : isFieldB nm = true) (v : JV) (s : ByteArray) : condB v nm s = matchF s.data.toList (textsJ v nm) := by
 have hn : ∀ m, isFieldB m = false -> nm ≠ m := fun m hm e => by subst e; rw [hm] at hf; cases hf
 unfold condB
 rw [if_neg (hn _ (by decide)), if_neg (hn _ (by decide)), if_neg (hn _ (by decide)), if_neg (hn _ (by decide)), if_neg (hn _ (by decide)), if_neg (hn _ (by decide)), if_neg (hn _ (by decide)), if_neg (hn _ (by decide))]
theorem field_size {nm : ByteArray} (hf : isFieldB nm = true) : nm.size <= 100 := by
 unfold isFieldB allF at hf
 simp only [List.any_cons, List.any_nil, Bool.or_false, Bool.or_eq_true, decide_eq_true_eq] at hf
 rcases hf with h | h | h | h | h | h | h | h | h | h | h <;> (subst h; decide)
theorem ask_get (nm q : ByteArray) (h : nm ≠ svOper) : (askT nm q).get svOper = none := by
 rw [getS_mOf (t := askT nm q) rfl]
 show mOf [(nm, .mk 4 0 q [] [])] svOper = none
 rw [mOfS_cons, if_neg h]
 rfl
theorem ask_chk {nm q : ByteArray} (hf : isFieldB nm = true) (hq : q.size <= 64) : checkJ (askT nm q) = 0 := by
 have hno : nm ≠ svOper := fun e => by subst e; revert hf; decide
 have hc : condE nm (.mk 4 0 q [] []) = 0 := by
  unfold condE
  rw [hf, Bool.or_true, if_pos rfl, rightC_sort]
  have hs : sortN nm = 1 := by unfold sortN; rw [if_pos hf]
  rw [hs, if_pos]
  show (decide ((4 : Int) = 4) && (decide (q.size <= 255) && ((!decide ((1 : Int) = 1) || decide (q.size <= 64)) && ((!decide ((1 : Int) = 2) || idB q) && (!decide ((1 : Int) = 3) || (secF q.data.toList).isSome))))) = true
  rw [decide_eq_true (show q.size <= 255 by omega), decide_eq_true hq]
  rfl
 have hn : countT (askT nm q) = 2 := by
  unfold askT
  simp [countT, countL, countM]
 unfold checkJ
 rw [if_neg (show ¬ (askT nm q).k = 1 from (by decide : ¬ (6 : Int) = 1)), hn, if_neg (by decide), chkF_eq, if_pos (show (askT nm q).k = 6 from rfl), ask_get nm q hno]
 show condsE [(nm, .mk 4 0 q [] [])] = 0
 unfold condsE
 rw [if_pos hc]
 rfl
theorem ask_holds {nm q : ByteArray} (hf : isFieldB nm = true) (hq : q.size <= 64) {v : JV} (hv : v.k = 6) : holdsJ (askT nm q) v = matchF q.data.toList (textsJ v nm) := by
 have hno : nm ≠ svOper := fun e => by subst e; revert hf; decide
 unfold holdsJ
 rw [decide_eq_true hv, ask_chk hf hq, holF_eq, ask_get nm q hno]
 show (true && (true && List.all [(nm, JV.mk 4 0 q [] [])] (fun p => condB v p.1 p.2.s))) = _
 simp only [List.all_cons, List.all_nil, Bool.and_true, Bool.true_and]
 exact condB_field hf v q
theorem ask_ok {nm q : ByteArray} (hf : nm.size <= 100) (hq : q.size <= 64) : (askT nm q).Ok := by
 have hl : (JV.mk 4 0 q [] []).Ok := JV.Ok.mk (by decide) (by decide) (by omega) (by decide) (by decide) (fun i x h => by simp at h) (fun i p h => by simp at h) (fun i p h => by simp at h)
 refine JV.Ok.mk (by decide) (by decide) (by decide) (by decide) (show [(nm, JV.mk 4 0 q [] [])].length <= _ by simp) (fun i x h => by simp at h) (fun i p h => ?_) (fun i p h => ?_)
 ·cases i with
  | zero => simp at h; subst h; show nm.size <= _; omega
  | succ i => simp at h
 ·cases i with
  | zero => simp at h; subst h; exact hl
  | succ i => simp at h
theorem ask_count (nm q : ByteArray) : countT (askT nm q) <= 100000 := by
 unfold askT
 simp [countT, countL, countM]
theorem field_sub {v : JV} {nm : ByteArray} (h : allF.any (fun y => decide (y = nm)) = true) {q : List UInt8} (hm : matchF q (textsJ v nm) = true) : matchF q (textsJ v svText) = true := by
 rw [List.any_eq_true] at h
 obtain ⟨y, hy, e⟩ := h
 have e := of_decide_eq_true e
 subst e
 have h0 : ∀ y ∈ allF, y ≠ svText := by decide
 have hne : y ≠ svText := h0 y hy
 refine matchF_sub (fun x hx => ?_) hm
 unfold textsJ at hx ⊢
 rw [if_neg hne] at hx
 rw [if_pos rfl]
 exact List.mem_flatMap.2 ⟨y, hy, hx⟩
theorem sieveText_any (v : JV) (r : RV) (q fd : ByteArray) (w : World) (hv : TreeOf w w.heap.size v r) (ov : v.Ok) (hall : AllAt w) (hmax : MaxAt w) :
 Calls Tryz.prog 7 #[r.val, .string q, .string fd] w fun e w' => e = .returned (.bool true) /\ Below w.heap.size w w' := by
 obtain ⟨W0, hW0⟩ : ∃ W0, (w.alloc (.cells #[.int .i64 r.k, .int .i64 r.n, .string r.s, .slice r.pl r.nl r.cl, .slice r.pm r.nm r.cm] 25)).alloc (.cells #[.string q] 9) = W0 := ⟨_, rfl⟩
 have hA0 : VAt W0 w.heap.size r := by rw [<- hW0]; exact heap_alloc_lt (by simp) (heap_alloc_at rfl)
 have hq0 : W0.cell? ⟨w.heap.size + 1, 0, none⟩ = some (.string q) := by
  have h : W0.heap[w.heap.size + 1]? = some (.cells #[.string q] 9 (0, 0)) := by rw [<- hW0]; exact heap_alloc_at (by simp)
  exact (cell_of_row W0 (w.heap.size + 1) 0 _ _ _ h).trans rfl
 have hB0 : Below w.heap.size w W0 := by rw [<- hW0]; exact below2 w _ _
 have hw0 := hB0.size
 have hql := (cell_some hq0).2
 have hv0 : TreeOf W0 W0.heap.size v r := hv.under hB0 hw0
 have hall0 := hall.below hB0
 have hmax0 := hmax.below hB0
 have HVA : Hid (∀ W, Below W0.heap.size W0 W -> VAt W w.heap.size r /\ W.cell? ⟨w.heap.size + 1, 0, none⟩ = some (.string q)) := fun W hb => ⟨hA0.under hb hA0.lt, bcs hb hql hq0⟩
 have HAW : Hid (∀ W, Below W0.heap.size W0 W -> Calls Tryz.prog 17 #[] W fun e w' => e = .returned (.bool true) /\ Below W.heap.size W w') := fun W hb => awake20_any W (hall0.below hb) (hmax0.below hb)
 have HF : Hid (∀ W, Below W0.heap.size W0 W -> Calls Tryz.prog 18 #[r.val, .int .i64 800] W (SomeN v r.nm 800 W)) := fun W hb => few7n_any v r 800 W (by decide) (hv0.under hb hb.size) ov
 have HLV : Hid (∀ W, Below W0.heap.size W0 W -> Calls Tryz.prog 22 #[r.val, .int .i64 8000] W fun e w' => ∃ b : Bool, e = .returned (.bool b) /\ Hid (b = true -> sizeT v <= 8000) /\ Below W.heap.size W w') := fun W hb => light20_any v r 8000 W (by decide) (hv0.under hb hb.size) ov
 have HASK : Hid (∀ (nm : ByteArray) W, Below W0.heap.size W0 W -> Calls Tryz.prog 31 #[.string nm, .pointer (some ⟨w.heap.size + 1, 0, none⟩)] W fun e w' => ∃ x : RV, e = .returned x.val /\ TreeOf w' w'.heap.size (askT nm q) x /\ Below W.heap.size W w') := fun nm W hb => ask_any nm q _ W (bcs hb hql hq0)
 have HHO : Hid (countT v <= 800 -> sizeT v <= 8000 -> q.size <= 64 -> v.k = 6 -> ∀ (nm : ByteArray) (x : RV) W, isFieldB nm = true -> Below W0.heap.size W0 W -> TreeOf W W.heap.size (askT nm q) x -> Calls Tryz.prog 23 #[x.val, r.val] W fun e w' => e = .returned (.bool (matchF q.data.toList (textsJ v nm))) /\ Below W.heap.size W w') := fun h1 h2 h3 h4 nm x W hf hb hx => by
  have := svHolds_any (askT nm q) v x r W W.heap.size (Nat.le_refl _) hx (hv0.under hb hb.size) (ask_ok (field_size hf) h3) ov (ask_count nm q) (by omega) (by omega) (fun h => by cases h) (hall0.below hb) (hmax0.below hb)
  rw [ask_holds hf h3 h4] at this
  exact this
 have HCK : Hid (q.size <= 64 -> ∀ (nm : ByteArray) (x : RV) W, isFieldB nm = true -> Below W0.heap.size W0 W -> TreeOf W W.heap.size (askT nm q) x -> Calls Tryz.prog 19 #[x.val] W fun e w' => e = .returned (.int .i64 0) /\ Below W.heap.size W w') := fun h3 nm x W hf hb hx => by
  have := svCheck_any (askT nm q) x W W.heap.size (Nat.le_refl _) hx (ask_ok (field_size hf) h3) (ask_count nm q) (hall0.below hb)
  rw [ask_chk hf h3] at this
  exact this
 have HST : Hid (countT v <= 800 -> ∀ W, Below W0.heap.size W0 W -> Calls Tryz.prog 26 #[r.val, .string svText] W fun e w' => ∃ p c, e = .returned (.slice p (textsJ v svText).length c) /\ Rd w' w'.heap.size encS 1 (.slice p (textsJ v svText).length c) (textsJ v svText) /\ Below W.heap.size W w') := fun h1 W hb => by
  refine (svtexts_any v r svText W W0.heap.size hb.size (hv0.under hb (Nat.le_refl _)) ov (by omega) (hall0.below hb)).mono ?_
  rintro e w1 ⟨u, rfl, ho, hb⟩
  obtain ⟨a, cap, rfl, _⟩ := ho.len
  exact ⟨_, _, rfl, ho.rd codecS, hb⟩
 have HMT : Hid (countT v <= 800 -> sizeT v <= 8000 -> q.size <= 64 -> ∀ W p c, Below W0.heap.size W0 W -> Rd W W.heap.size encS 1 (.slice p (textsJ v svText).length c) (textsJ v svText) -> Calls Tryz.prog 32 #[.string q, .slice p (textsJ v svText).length c] W fun e w' => e = .returned (.bool (matchF q.data.toList (textsJ v svText))) /\ Below W.heap.size W w') := fun h1 h2 h3 W p c hb hr =>
  match_any W q p _ c _ (by omega) hr (by have := textsJ_len v svText; omega) (fun x hx => by have := textsJ_size hx; omega) (hmax0.below hb)
 have HSUB : Hid (allF.any (fun y => decide (y = fd)) = true -> matchF q.data.toList (textsJ v fd) = true -> matchF q.data.toList (textsJ v svText) = true) := fun h1 h2 => field_sub h1 h2
 have HKK := Lib.hid hv.kk.1
 obtain ⟨X, hX⟩ : ∃ E, matchF q.data.toList (textsJ v svText) = E := ⟨_, rfl⟩
 obtain ⟨L, hL⟩ : ∃ E, (textsJ v svText).length = E := ⟨_, rfl⟩
 rw [hX] at HMT HSUB
 rw [hL] at HST HMT
 have HXX := Lib.hid hX
 obtain ⟨Y, hY⟩ : ∃ E, matchF q.data.toList (textsJ v fd) = E := ⟨_, rfl⟩
 have HYY := Lib.hid hY
 rw [hY] at HSUB
 obtain ⟨A, hA⟩ : ∃ E, allF.any (fun y => decide (y = fd)) = E := ⟨_, rfl⟩
 have HFA : Hid (A = true -> isFieldB fd = true) := fun h => by
  unfold isFieldB
  rw [hA, h]
  simp
 have HAA := Lib.hid hA
 rw [hA] at HSUB
 obtain ⟨c0, c1, c2, c3, c4⟩ := hA0.cells5
 have HB0 := Lib.hid hB0
 have hb0 : Below W0.heap.size W0 W0 := Below.refl _ _
 have qq0 : (0 : Int) <= (q.size : Int) := Int.natCast_nonneg _
 unfold svText at HST
 clear hv ov hall hmax hA0 hv0 hall0 hmax0 hX hL hY hA hB0 hql
 have hmf : ∀ (fn : Fn) (first cap : Array Value) (w : World), (Instr.makeFunc fn first cap).run Tryz.prog w = .ok (.func fn first cap) w := fun _ _ _ _ => rfl
 go_enter Tryz.func7, Tryz.ntmps7
 go_upto_region 1 with fail
 try rw [hW0]
 clear hW0
 obtain ⟨BK, hBK⟩ : ∃ b, (r.k != 6) = b := ⟨_, rfl⟩
 obtain ⟨BQ, hBQ⟩ : ∃ b, decide ((64 : Int) < (q.size : Int)) = b := ⟨_, rfl⟩
 have hBQ' : decide (64 < q.size) = BQ := by rw [<- hBQ, decide_eq_decide]; omega
 have HKQ : Hid (BK = false -> BQ = false -> v.k = 6 /\ q.size <= 64) := fun h1 h2 => by
  rw [h1] at hBK
  rw [h2] at hBQ
  refine ⟨HKK.out.symm.trans (by simpa using hBK), ?_⟩
  have := of_decide_eq_false hBQ
  omega
 go_cut [32] from 11 to 32 (fun x wx => ∃ b : Bool, x = .bool b /\ Hid ((b = false -> (countT v <= 800 /\ sizeT v <= 8000) /\ v.k = 6 /\ q.size <= 64) /\ Below W0.heap.size W0 wx))
 case first =>
  cases BK
  all_goals
   try cases BQ
   all_goals
    go_wp2_with (first
     | (go_at_call 17; (with_reducible refine (HAW.out _ hb0).mono ?_); rintro e w1 ⟨rfl, hbA⟩; (have hb1 := hb0.trans (hbA.mono hb0.size)); (have hA1 := HVA.out _ hb1); (obtain ⟨c0, c1, c2, c3, c4⟩ := hA1.1.cells5); (have hq1 := hA1.2); clear hA1)
     | (go_at_call 18; (with_reducible refine (HF.out _ hb1).mono ?_); rintro e w2 ⟨b1, rfl, HL1, hbB⟩; (have hb2 := hb1.trans (hbB.mono hb1.size)); (have hA2 := HVA.out _ hb2); (obtain ⟨c0, c1, c2, c3, c4⟩ := hA2.1.cells5); (have hq2 := hA2.2); clear hA2; cases b1)
     | (go_at_call 22; (with_reducible refine (HLV.out _ hb2).mono ?_); rintro e w3 ⟨b2, rfl, HL2, hbC⟩; (have hb3 := hb2.trans (hbC.mono hb2.size)); (have hA3 := HVA.out _ hb3); (obtain ⟨c0, c1, c2, c3, c4⟩ := hA3.1.cells5); (have hq3 := hA3.2); clear hA3; cases b2))
    all_goals
     go_meet
     first
      | exact ⟨true, rfl, (fun h => by cases h), hb3⟩
      | exact ⟨true, rfl, (fun h => by cases h), hb2⟩
      | exact ⟨false, rfl, fun _ => ⟨⟨(HL1.out (by trivial)).2.2, HL2.out (by trivial)⟩, HKQ.out (by trivial) (by trivial)⟩, hb3⟩
 case rest =>
 obtain ⟨b, rfl, hx9⟩ := hcut
 obtain ⟨Wa, rfl⟩ : ∃ W, W = wc := ⟨_, rfl⟩
 obtain ⟨hyes, hba⟩ := hx9.out
 have HBA := Lib.hid hba
 clear hx9 hBK hBQ hBQ' HKQ c0 c1 c2 c3 c4 HF HLV
 cases b with
 | true =>
   go_wp2_with (go_at_call 17; (with_reducible refine (HAW.out _ hba).mono ?_); rintro e w1 ⟨rfl, hbA⟩)
   go_ret
   exact ⟨rfl, HB0.out.trans ((hba.trans (hbA.mono hba.size)).mono hw0)⟩
 | false =>
   obtain ⟨⟨hct, hsz⟩, hvk, hq64⟩ := hyes rfl
   have HASK3 : Hid (∀ (nm : ByteArray) W, Below Wa.heap.size Wa W -> Calls Tryz.prog 31 #[.string nm, .pointer (some ⟨w.heap.size + 1, 0, none⟩)] W fun e w' => ∃ x : RV, e = .returned x.val /\ TreeOf w' w'.heap.size (askT nm q) x /\ Below W.heap.size W w') := fun nm W hb => HASK.out nm W (hba.trans (hb.mono hba.size))
   have HHT : Hid (∀ (x : RV) W, Below Wa.heap.size Wa W -> TreeOf W W.heap.size (askT ⟨#[116, 101, 120, 116]⟩ q) x -> Calls Tryz.prog 23 #[x.val, r.val] W fun e w' => e = .returned (.bool X) /\ Below W.heap.size W w') := fun x W hb hx => by
    have := HHO.out hct hsz hq64 hvk svText x W (by decide) (hba.trans (hb.mono hba.size)) hx
    rw [HXX.out] at this
    exact this
   have HHF : Hid (A = true -> ∀ (x : RV) W, Below Wa.heap.size Wa W -> TreeOf W W.heap.size (askT fd q) x -> Calls Tryz.prog 23 #[x.val, r.val] W fun e w' => e = .returned (.bool Y) /\ Below W.heap.size W w') := fun ha x W hb hx => by
    have := HHO.out hct hsz hq64 hvk fd x W (HFA.out ha) (hba.trans (hb.mono hba.size)) hx
    rw [HYY.out] at this
    exact this
   have HCF : Hid (A = true -> ∀ (x : RV) W, Below Wa.heap.size Wa W -> TreeOf W W.heap.size (askT fd q) x -> Calls Tryz.prog 19 #[x.val] W fun e w' => e = .returned (.int .i64 0) /\ Below W.heap.size W w') := fun ha x W hb hx => HCK.out hq64 fd x W (HFA.out ha) (hba.trans (hb.mono hba.size)) hx
   have HST3 := Lib.hid (fun W (hb : Below Wa.heap.size Wa W) => HST.out hct W (hba.trans (hb.mono hba.size)))
   have HMT3 := Lib.hid (fun W p c (hb : Below Wa.heap.size Wa W) => HMT.out hct hsz hq64 W p c (hba.trans (hb.mono hba.size)))
   have HVB : Hid (∀ W, Below Wa.heap.size Wa W -> VAt W w.heap.size r /\ W.cell? ⟨w.heap.size + 1, 0, none⟩ = some (.string q)) := fun W hb => HVA.out W (hba.trans (hb.mono hba.size))
   have hA9 := HVB.out _ (Below.refl _ _)
   obtain ⟨a0, a1, a2, a3, a4⟩ := hA9.1.cells5
   have q9 := hA9.2
   have hza := hA9.1.lt
   have hzc : w.heap.size + 1 < Wa.heap.size := (cell_some q9).2
   have hk0 := KB.drew Wa
   clear HASK HHO HCK HST HMT HVA HAW hyes hct hsz hvk hq64 hba hA9 HXX HYY HFA hb0
   go_upto_region 4 with fail
   go_cut [8] from 35 to 38 (fun x wx => x = .bool X /\ Hid (Below Wa.heap.size Wa wx))
   case first =>
    go_region_held3 (fun w' => Below Wa.heap.size Wa w' /\ ∀ b o, b < Wa.heap.size -> w'.cell? ⟨b, o, none⟩ = Wa.cell? ⟨b, o, none⟩)
     (first | with_reducible exact kt_drew Wa | with_reducible exact kt_same hbk)
     (first
      | (go_at_call 31; (with_reducible refine (HASK3.out _ _ (kbT (by assumption))).mono ?_); rintro e w5 ⟨x5, rfl, ht5, hb5⟩; (have hbk := KB.step (W := Wa) (by assumption) hb5))
      | (go_at_call 23; (with_reducible refine (HHT.out _ _ (kbT (by assumption)) ht5).mono ?_); rintro e w6 ⟨rfl, hb6⟩; (have hbk := KB.step (W := Wa) (by assumption) hb6))
      | fail)
    all_goals (
     go_wp2_with fail
     go_meet
     exact ⟨rfl, hbk.1⟩)
   case rest =>
   obtain ⟨rfl, hxb⟩ := hcut
   obtain ⟨Wb, rfl⟩ : ∃ W, W = wc := ⟨_, rfl⟩
   have hA8 := HVB.out _ hxb.out
   clear a0 a1 a2 a3 a4 q9 hk0 hza hzc
   obtain ⟨a0, a1, a2, a3, a4⟩ := hA8.1.cells5
   have q9 := hA8.2
   have hza := hA8.1.lt
   have hzc : w.heap.size + 1 < Wb.heap.size := (cell_some q9).2
   have hk0 := KB.drew Wb
   have HBB := Lib.hid hxb.out
   have HST4 := Lib.hid (fun W (hb : Below Wb.heap.size Wb W) => HST3.out W (HBB.out.trans (hb.mono HBB.out.size)))
   have HMT4 := Lib.hid (fun W p c (hb : Below Wb.heap.size Wb W) => HMT3.out W p c (HBB.out.trans (hb.mono HBB.out.size)))
   clear hxb hA8 HST3 HMT3
   go_upto_region 5 with fail
   go_cut [44] from 39 to 44 (fun x wx => x = .bool false /\ Hid (Below Wb.heap.size Wb wx))
   case first =>
    cases X
    all_goals
     go_region_held3 (fun w' => Below Wb.heap.size Wb w' /\ ∀ b o, b < Wb.heap.size -> w'.cell? ⟨b, o, none⟩ = Wb.cell? ⟨b, o, none⟩)
     (first | with_reducible exact kt_drew Wb | with_reducible exact kt_same hbk)
      (first
       | (go_at_call 26; (with_reducible refine (HST4.out _ (kbT (by assumption))).mono ?_); rintro e w5 ⟨p5, c5, rfl, hr5, hb5⟩; (have hbk := KB.step (W := Wb) (by assumption) hb5))
       | (go_at_call 32; (with_reducible refine (HMT4.out _ _ _ (kbT (by assumption)) hr5).mono ?_); rintro e w6 ⟨rfl, hb6⟩; (have hbk := KB.step (W := Wb) (by assumption) hb6))
       | fail)
     all_goals (
      go_wp2_with fail
      go_meet
      exact ⟨rfl, hbk.1⟩)
   case rest =>
   obtain ⟨rfl, hxb⟩ := hcut
   obtain ⟨Wd, rfl⟩ : ∃ W, W = wc := ⟨_, rfl⟩
   have HBD : Hid (Below Wa.heap.size Wa Wd) := HBB.out.trans (hxb.out.mono HBB.out.size)
   have hA7 := HVB.out _ HBD.out
   clear a0 a1 a2 a3 a4 q9 hk0 hza hzc
   obtain ⟨a0, a1, a2, a3, a4⟩ := hA7.1.cells5
   have q9 := hA7.2
   clear hxb hA7 HST4 HMT4
   go_upto_region 8 with (go_at_call 31; (with_reducible refine (HASK3.out _ _ HBD.out).mono ?_); rintro e w5 ⟨x5, rfl, ht5, hb5⟩; obtain ⟨xk, xn, xS, xpl, xnl, xcl, xpm, xnm, xcm⟩ := x5)
   have hb6 : Below Wd.heap.size Wd (w5.alloc (.cells #[.int .i64 xk, .int .i64 xn, .string xS, .slice xpl xnl xcl, .slice xpm xnm xcm] 25)) := hb5.alloc hb5.size _
   have hv6 : VAt (w5.alloc (.cells #[.int .i64 xk, .int .i64 xn, .string xS, .slice xpl xnl xcl, .slice xpm xnm xcm] 25)) w5.heap.size ⟨xk, xn, xS, xpl, xnl, xcl, xpm, xnm, xcm⟩ := heap_alloc_at rfl
   have ht6 := ht5.under ((Below.refl w5.heap.size w5).alloc (Nat.le_refl _) (.cells #[.int .i64 xk, .int .i64 xn, .string xS, .slice xpl xnl xcl, .slice xpm xnm xcm] 25)) (Nat.le_of_lt hv6.lt)
   obtain ⟨g, hg⟩ : ∃ g, w5.heap.size = g := ⟨_, rfl⟩
   obtain ⟨W2, hW2⟩ : ∃ W, w5.alloc (.cells #[.int .i64 xk, .int .i64 xn, .string xS, .slice xpl xnl xcl, .slice xpm xnm xcm] 25) = W := ⟨_, rfl⟩
   rw [hW2] at hb6 hv6 ht6
   rw [hg] at hv6
   try rw [hW2]
   try rw [hg]
   obtain ⟨x0, x1, x2, x3, x4⟩ := hv6.cells5
   dsimp only at x0 x1 x2 x3 x4
   have HB6 : Hid (Below Wa.heap.size Wa W2) := HBD.out.trans (hb6.mono HBD.out.size)
   have hA6 := HVB.out _ HB6.out
   clear a0 a1 a2 a3 a4 q9
   obtain ⟨a0, a1, a2, a3, a4⟩ := hA6.1.cells5
   have HT6 := Lib.hid ht6
   have hgl := hv6.lt
   clear hW2 hg hb5 hb6 hv6 ht5 ht6 hA6 HASK3 HHT
   go_cut [10] from 48 to 77 (fun x wx => x = .bool A /\ W2 = wx)
   case first =>
    obtain ⟨b0, hb0'⟩ : ∃ b, decide (fd = ⟨#[110, 97, 109, 101]⟩) = b := ⟨_, rfl⟩
    have e0 : (fd.toList == [110, 97, 109, 101]) = b0 := by rw [<- bytes_dec]; exact hb0'
    obtain ⟨b1, hb1'⟩ : ∃ b, decide (fd = ⟨#[110, 105, 99, 107, 110, 97, 109, 101]⟩) = b := ⟨_, rfl⟩
    have e1 : (fd.toList == [110, 105, 99, 107, 110, 97, 109, 101]) = b1 := by rw [<- bytes_dec]; exact hb1'
    obtain ⟨b2, hb2'⟩ : ∃ b, decide (fd = ⟨#[111, 114, 103, 97, 110, 105, 122, 97, 116, 105, 111, 110]⟩) = b := ⟨_, rfl⟩
    have e2 : (fd.toList == [111, 114, 103, 97, 110, 105, 122, 97, 116, 105, 111, 110]) = b2 := by rw [<- bytes_dec]; exact hb2'
    obtain ⟨b3, hb3'⟩ : ∃ b, decide (fd = ⟨#[101, 109, 97, 105, 108]⟩) = b := ⟨_, rfl⟩
    have e3 : (fd.toList == [101, 109, 97, 105, 108]) = b3 := by rw [<- bytes_dec]; exact hb3'
    obtain ⟨b4, hb4'⟩ : ∃ b, decide (fd = ⟨#[112, 104, 111, 110, 101]⟩) = b := ⟨_, rfl⟩
    have e4 : (fd.toList == [112, 104, 111, 110, 101]) = b4 := by rw [<- bytes_dec]; exact hb4'
    obtain ⟨b5, hb5'⟩ : ∃ b, decide (fd = ⟨#[111, 110, 108, 105, 110, 101, 83, 101, 114, 118, 105, 99, 101]⟩) = b := ⟨_, rfl⟩
    have e5 : (fd.toList == [111, 110, 108, 105, 110, 101, 83, 101, 114, 118, 105, 99, 101]) = b5 := by rw [<- bytes_dec]; exact hb5'
    obtain ⟨b6, hb6'⟩ : ∃ b, decide (fd = ⟨#[97, 100, 100, 114, 101, 115, 115]⟩) = b := ⟨_, rfl⟩
    have e6 : (fd.toList == [97, 100, 100, 114, 101, 115, 115]) = b6 := by rw [<- bytes_dec]; exact hb6'
    obtain ⟨b7, hb7'⟩ : ∃ b, decide (fd = ⟨#[110, 111, 116, 101]⟩) = b := ⟨_, rfl⟩
    have e7 : (fd.toList == [110, 111, 116, 101]) = b7 := by rw [<- bytes_dec]; exact hb7'
    have HAB : Hid ((b0 || (b1 || (b2 || (b3 || (b4 || (b5 || (b6 || b7))))))) = A) := by
     unfold Hid
     rw [<- HAA.out, <- hb0', <- hb1', <- hb2', <- hb3', <- hb4', <- hb5', <- hb6', <- hb7']
     unfold allF
     simp only [List.any_cons, List.any_nil, Bool.or_false]
     simp only [eq_comm (b := fd)]
     rfl
    clear hb0' hb1' hb2' hb3' hb4' hb5' hb6' hb7'
    rcases first8 b0 b1 b2 b3 b4 b5 b6 b7 with rfl | ⟨rfl, rfl⟩ | ⟨rfl, rfl, rfl⟩ | ⟨rfl, rfl, rfl, rfl⟩ | ⟨rfl, rfl, rfl, rfl, rfl⟩ | ⟨rfl, rfl, rfl, rfl, rfl, rfl⟩ | ⟨rfl, rfl, rfl, rfl, rfl, rfl, rfl⟩ | ⟨rfl, rfl, rfl, rfl, rfl, rfl, rfl, rfl⟩ | ⟨rfl, rfl, rfl, rfl, rfl, rfl, rfl, rfl⟩
    all_goals
     go_wp2_with fail
     go_meet
     exact ⟨by rw [<- HAB.out]; rfl, rfl⟩
   case rest =>
   obtain ⟨rfl, rfl⟩ := hcut
   cases A with
   | false =>
     go_wp2_with fail
     go_ret
     exact ⟨rfl, HB0.out.trans ((HBA.out.trans (HB6.out.mono HBA.out.size)).mono hw0)⟩
   | true =>
     have HC1 := Lib.hid (HCF.out rfl ⟨xk, xn, xS, xpl, xnl, xcl, xpm, xnm, xcm⟩ W2 HB6.out HT6.out)
     have HH1 := Lib.hid (HHF.out rfl ⟨xk, xn, xS, xpl, xnl, xcl, xpm, xnm, xcm⟩)
     have HS1 := Lib.hid (HSUB.out rfl)
     dsimp only [RV.val] at HC1 HH1
     clear HCF HHF HSUB HAA
     cases Y
     ·go_wp2_with (first
       | (go_at_call 19; (with_reducible refine HC1.out.mono ?_); rintro e w7 ⟨rfl, hb7⟩; (have y0 := bcs hb7 hgl x0); (have y1 := bcs hb7 hgl x1); (have y2 := bcs hb7 hgl x2); (have y3 := bcs hb7 hgl x3); (have y4 := bcs hb7 hgl x4); (have hA5 := HVB.out _ (HB6.out.trans (hb7.mono HB6.out.size))); (obtain ⟨a0, a1, a2, a3, a4⟩ := hA5.1.cells5); clear hA5)
       | (go_at_call 23; (with_reducible refine (HH1.out _ (HB6.out.trans (hb7.mono HB6.out.size)) (HT6.out.under hb7 hb7.size)).mono ?_); rintro e w8 ⟨rfl, hb8⟩))
      go_ret
      exact ⟨rfl, HB0.out.trans ((HBA.out.trans ((HB6.out.trans ((hb7.trans (hb8.mono hb7.size)).mono HB6.out.size)).mono HBA.out.size)).mono hw0)⟩
     ·obtain rfl : X = true := HS1.out rfl
      go_wp2_with (first
       | (go_at_call 19; (with_reducible refine HC1.out.mono ?_); rintro e w7 ⟨rfl, hb7⟩; (have y0 := bcs hb7 hgl x0); (have y1 := bcs hb7 hgl x1); (have y2 := bcs hb7 hgl x2); (have y3 := bcs hb7 hgl x3); (have y4 := bcs hb7 hgl x4); (have hA5 := HVB.out _ (HB6.out.trans (hb7.mono HB6.out.size))); (obtain ⟨a0, a1, a2, a3, a4⟩ := hA5.1.cells5); clear hA5)
       | (go_at_call 23; (with_reducible refine (HH1.out _ (HB6.out.trans (hb7.mono HB6.out.size)) (HT6.out.under hb7 hb7.size)).mono ?_); rintro e w8 ⟨rfl, hb8⟩))
      go_ret
      exact ⟨rfl, HB0.out.trans ((HBA.out.trans ((HB6.out.trans ((hb7.trans (hb8.mono hb7.size)).mono HB6.out.size)).mono HBA.out.size)).mono hw0)⟩
end
end Go.Proofs.YtffhccmppdgmfaaGreatDoor
