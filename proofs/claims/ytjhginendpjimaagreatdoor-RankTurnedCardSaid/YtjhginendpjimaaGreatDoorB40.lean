import Derived.Test.YtjhginendpjimaaGreatDoorB39
import Derived.Test.YtjhginendpjimaaGreatDoorB27
set_option linter.unusedSimpArgs false
set_option linter.unusedVariables false
set_option maxRecDepth 200000
set_option maxHeartbeats 8000000
namespace Go.Proofs.YtjhginendpjimaaGreatDoor
section
open Go Go.RowKit Go.OpenShut
structure MgI (lt : Nat -> Nat -> Bool) (a b out : List Nat) (i k : Nat) : Prop where
 perm : out.Perm (a.take i ++ b.take k)
 sorted : out.Pairwise (fun x y => lt y x = false)
 low : ∀ x ∈ out, ∀ y ∈ a.drop i ++ b.drop k, lt y x = false
section
variable {lt : Nat -> Nat -> Bool} {a b out : List Nat} {i k : Nat}
theorem MgI.start : MgI lt a b [] 0 0 := ⟨List.Perm.refl _, List.Pairwise.nil, fun x h => by cases h⟩
theorem sorted_drop {x : Nat} (ha : a.Pairwise (fun x y => lt y x = false)) (hx : a[i]? = some x) : ∀ y ∈ a.drop (i + 1), lt y x = false := by
 obtain ⟨h1, h2⟩ := List.getElem?_eq_some_iff.1 hx
 have h3 : (a.drop i).Pairwise (fun x y => lt y x = false) := ha.sublist (List.drop_sublist _ _)
 rw [List.drop_eq_getElem_cons h1, h2, List.pairwise_cons] at h3
 exact h3.1
theorem drop_mem {x : Nat} (hx : a[i]? = some x) : ∀ y, y ∈ a.drop i ↔ y = x \/ y ∈ a.drop (i + 1) := fun y => by
 obtain ⟨h1, h2⟩ := List.getElem?_eq_some_iff.1 hx
 rw [List.drop_eq_getElem_cons h1, h2, List.mem_cons]
theorem MgI.takeA (h : MgI lt a b out i k) (ha : a.Pairwise (fun x y => lt y x = false)) {x : Nat} (hx : a[i]? = some x) (hb : ∀ y ∈ b.drop k, lt y x = false) : MgI lt a b (out ++ [x]) (i + 1) k := by
 refine ⟨?_, ?_, fun z hz y hy => ?_⟩
 ·rw [take_snoc hx, List.append_assoc]
  refine (h.perm.append_right [x]).trans ?_
  rw [List.append_assoc]
  exact List.Perm.append_left _ List.perm_append_comm
 ·rw [List.pairwise_append]
  refine ⟨h.sorted, by simp, fun z hz y hy => ?_⟩
  rw [List.mem_singleton.1 hy]
  exact h.low z hz x (List.mem_append.2 (.inl ((drop_mem hx x).2 (.inl rfl))))
 ·rcases List.mem_append.1 hz with hz | hz
  ·refine h.low z hz y ?_
   rcases List.mem_append.1 hy with hy | hy
   ·exact List.mem_append.2 (.inl ((drop_mem hx y).2 (.inr hy)))
   ·exact List.mem_append.2 (.inr hy)
  ·rw [List.mem_singleton.1 hz]
   rcases List.mem_append.1 hy with hy | hy
   ·exact sorted_drop ha hx y hy
   ·exact hb y hy
theorem MgI.takeB (h : MgI lt a b out i k) (hb : b.Pairwise (fun x y => lt y x = false)) {y : Nat} (hy : b[k]? = some y) (ha : ∀ x ∈ a.drop i, lt x y = false) : MgI lt a b (out ++ [y]) i (k + 1) := by
 refine ⟨?_, ?_, fun z hz x hx => ?_⟩
 ·rw [take_snoc hy, <- List.append_assoc]
  exact h.perm.append_right [y]
 ·rw [List.pairwise_append]
  refine ⟨h.sorted, by simp, fun z hz x hx => ?_⟩
  rw [List.mem_singleton.1 hx]
  exact h.low z hz y (List.mem_append.2 (.inr ((drop_mem hy y).2 (.inl rfl))))
 ·rcases List.mem_append.1 hz with hz | hz
  ·refine h.low z hz x ?_
   rcases List.mem_append.1 hx with hx | hx
   ·exact List.mem_append.2 (.inl hx)
   ·exact List.mem_append.2 (.inr ((drop_mem hy x).2 (.inr hx)))
  ·rw [List.mem_singleton.1 hz]
   rcases List.mem_append.1 hx with hx | hx
   ·exact ha x hx
   ·exact sorted_drop hb hy x hx
theorem MgI.done (h : MgI lt a b out i b.length) (ha : a.Pairwise (fun x y => lt y x = false)) : (out ++ a.drop i).Perm (a ++ b) /\ (out ++ a.drop i).Pairwise (fun x y => lt y x = false) := by
 constructor
 ·refine (h.perm.append_right _).trans ?_
  rw [List.take_length, List.append_assoc]
  refine (List.Perm.append_left _ List.perm_append_comm).trans ?_
  rw [<- List.append_assoc, List.take_append_drop]
 ·rw [List.pairwise_append]
  exact ⟨h.sorted, ha.sublist (List.drop_sublist _ _), fun x hx y hy => h.low x hx y (List.mem_append.2 (.inl hy))⟩
end
theorem ltQ_one {cs : List CmpD} {os : List (ByteArray × JV)} {x y : Nat} (h : x < y) : ltQ cs os x y = !aheadJ cs (os.getD y dO) (os.getD x dO) := by
 rw [ltQ_less, decide_eq_true (show (x : Int) < (y : Int) by omega)]
 cases ha : aheadJ cs (os.getD x dO) (os.getD y dO) with
 | true => rw [(aheadJ_ok cs).asym _ _ ha]; rfl
 | false => simp
def rsA (rs : List RM) (i : Nat) : RM := rs.getD i dRM
structure OEnv (w : World) (B : Nat) (t : JV) (r : RV) (os : List (ByteArray × JV)) (rs : List RM) : Prop where
 ht : TreeOf w B t r
 ot : t.Ok
 own : t.k ≠ 5 -> t.l = []
 len : rs.length = os.length
 obj : ∀ i, i < rs.length -> (rs.getD i dRM).name = (os.getD i dO).1 /\ TreeOf w B (os.getD i dO).2 (rs.getD i dRM).v /\ (os.getD i dO).2.Ok
theorem OEnv.below {w w' : World} {B : Nat} {t : JV} {r : RV} {os : List (ByteArray × JV)} {rs : List RM} (h : OEnv w B t r os rs) (hb : Below B w w') : OEnv w' B t r os rs :=
 ⟨h.ht.under hb (Nat.le_refl _), h.ot, h.own, h.len, fun i hi => ⟨(h.obj i hi).1, (h.obj i hi).2.1.under hb (Nat.le_refl _), (h.obj i hi).2.2⟩⟩
def OrdRet (cs : List CmpD) (os : List (ByteArray × JV)) (rs : List RM) (w : World) (is : List Nat) (e : Ending) (w' : World) : Prop :=
 ∃ (p : Option Addr) (n c : Nat) (js : List Nat), e = .returned (.slice p n c) /\ js.Perm is /\ js.Pairwise (fun x y => ltQ cs os y x = false) /\ Rd w' w'.heap.size encM 6 (.slice p n c) (js.map (rsA rs)) /\ Below w.heap.size w w'
def OrdHyp (t : JV) (r : RV) (os : List (ByteArray × JV)) (rs : List RM) (B : Nat) (is : List Nat) : Prop :=
 ∀ (w : World) (p : Option Addr) (n c : Nat), is.length <= 1000000 -> B <= w.heap.size -> OEnv w B t r os rs -> (∀ i ∈ is, i < rs.length) -> is.Pairwise (· < ·) -> Rd w w.heap.size encM 6 (.slice p n c) (is.map (rsA rs)) ->
   Calls Tryz.prog 41 #[r.val, .slice p n c] w (OrdRet (sortC t) os rs w is)
theorem ord_step (t : JV) (r : RV) (os : List (ByteArray × JV)) (rs : List RM) (B : Nat) (is : List Nat) (ih : ∀ js : List Nat, js.length < is.length -> OrdHyp t r os rs B js) : OrdHyp t r os rs B is := by
 intro w p n c hnb hBw env hbd hinc hrd
 have hnn : n = is.length := by have h := rd_nlen hrd; rw [List.length_map] at h; exact h
 obtain ⟨W0, hW0⟩ : ∃ W0, w.alloc r.obj = W0 := ⟨_, rfl⟩
 have hA0 : VAt W0 w.heap.size r := by rw [<- hW0]; exact heap_alloc_at rfl
 have hB0 : Below w.heap.size w W0 := by rw [<- hW0]; exact (Below.refl _ _).alloc (Nat.le_refl _) _
 have hw0 := hB0.size
 have hgl := hA0.lt
 have n0 : (0 : Int) <= (n : Int) := Int.natCast_nonneg _
 have nb : (n : Int) <= 1000000 := by omega
 have HRD := Lib.hid (hrd.below hB0 (Nat.le_refl _))
 obtain ⟨h, hh⟩ : ∃ h : Nat, n / 2 = h := ⟨_, rfl⟩
 have hhe : (n : Int) / 2 = (h : Int) := by omega
 have h0 : (0 : Int) <= (h : Int) := Int.natCast_nonneg _
 have hbh : (h : Int) <= 1000000 := by omega
 have hhn : h <= n := by omega
 have HENV : Hid (∀ W, Below W0.heap.size W0 W -> OEnv W B t r os rs /\ B <= W.heap.size) := fun W hW => ⟨env.below ((hB0.trans (hW.mono hw0)).mono hBw), Nat.le_trans (Nat.le_trans hBw hw0) hW.size⟩
 by_cases hz : h = 0
 ·subst hz
  have hsml : is.length <= 1 := by omega
  have HSRT : Hid (is.Pairwise (fun x y => ltQ (sortC t) os y x = false)) := by
   match is, hsml with
   | [], _ => exact List.Pairwise.nil
   | [x], _ => exact List.pairwise_singleton _ _
   | _ :: _ :: _, h => simp at h
  obtain ⟨k, nn, s, pl, nl, cl, pm, nm, cm⟩ := r
  dsimp only [RV.val, RV.obj] at *
  have HW := Lib.hid hW0
  have HB0 := Lib.hid hB0
  clear hW0 hB0 hh hnn env hrd ih hbd hinc hnb hsml
  go_enter Tryz.func41, Tryz.ntmps41
  go_upto_region 1 with fail
  rw [HW.out]
  clear HW
  go_wp2_with fail
  go_ret
  exact ⟨p, n, c, is, rfl, List.Perm.refl _, HSRT.out, HRD.out.mono hw0, HB0.out⟩
 ·have hz' : ((h : Int) == 0) = false := by simp; omega
  obtain ⟨v1, hs1, hr1⟩ := slice_h slO (HRD.out) h hhn
  obtain ⟨v2, hs2, hr2⟩ := slice_l slO (HRD.out) h hhn
  rw [<- List.map_take] at hr1
  rw [<- List.map_drop] at hr2
  obtain ⟨p1, c1, hv1, _, _⟩ : ∃ p c, v1 = .slice p (is.take h).length c /\ True /\ True := by obtain ⟨p, c, hv, _, _⟩ := rd_lens hr1; rw [List.length_map] at hv; exact ⟨p, c, hv, trivial, trivial⟩
  obtain ⟨p2, c2, hv2, _, _⟩ : ∃ p c, v2 = .slice p (is.drop h).length c /\ True /\ True := by obtain ⟨p, c, hv, _, _⟩ := rd_lens hr2; rw [List.length_map] at hv; exact ⟨p, c, hv, trivial, trivial⟩
  subst hv1
  subst hv2
  have hl1 : (is.take h).length = h := by rw [List.length_take]; omega
  have hl2 : (is.drop h).length = n - h := by rw [List.length_drop]; omega
  have HI1 : Hid (∀ W, Below W0.heap.size W0 W -> Calls Tryz.prog 41 #[r.val, .slice p1 (is.take h).length c1] W (OrdRet (sortC t) os rs W (is.take h))) := fun W hW =>
   ih (is.take h) (by omega) W p1 _ c1 (by omega) (HENV.out W hW).2 (HENV.out W hW).1 (fun i hi => hbd i (List.mem_of_mem_take hi)) (hinc.sublist (List.take_sublist _ _)) ((hr1.mono hw0).below hW hW.size)
  have HI2 : Hid (∀ W, Below W0.heap.size W0 W -> Calls Tryz.prog 41 #[r.val, .slice p2 (is.drop h).length c2] W (OrdRet (sortC t) os rs W (is.drop h))) := fun W hW =>
   ih (is.drop h) (by omega) W p2 _ c2 (by omega) (HENV.out W hW).2 (HENV.out W hW).1 (fun i hi => hbd i (List.mem_of_mem_drop hi)) (hinc.sublist (List.drop_sublist _ _)) ((hr2.mono hw0).below hW hW.size)
  have HCR : Hid (∀ x ∈ is.take h, ∀ y ∈ is.drop h, x < y) := by
   have h3 := hinc
   rw [<- List.take_append_drop h is, List.pairwise_append] at h3
   exact h3.2.2
  have HAH : Hid (∀ (W : World) (x y : Nat), Below W0.heap.size W0 W -> x < rs.length -> y < rs.length -> Calls Tryz.prog 15 #[r.val, (rsA rs y).val, (rsA rs x).val] W fun e w' => e = .returned (.bool (aheadJ (sortC t) (os.getD y dO) (os.getD x dO))) /\ Below W.heap.size W w') := fun W x y hW hx hy => by
   have e := HENV.out W hW
   have ox := e.1.obj x hx
   have oy := e.1.obj y hy
   exact rAhead_any t r (os.getD y dO) (os.getD x dO) (rsA rs y) (rsA rs x) W B e.2 e.1.ht e.1.ot e.1.own ⟨oy.1, oy.2.1⟩ oy.2.2 ⟨ox.1, ox.2.1⟩ ox.2.2
  have HPJ : Hid (∀ (x y : List Nat), x.Perm (is.take h) -> y.Perm (is.drop h) -> (x ++ y).Perm is) := fun x y hx hy => (hx.append hy).trans (by rw [List.take_append_drop])
  have HBD := Lib.hid hbd
  obtain ⟨CS, hCS⟩ : ∃ C, sortC t = C := ⟨_, rfl⟩
  rw [hCS] at HI1 HI2 HAH
  rw [hCS]
  obtain ⟨n1, hn1⟩ : ∃ m, (is.take h).length = m := ⟨_, rfl⟩
  obtain ⟨n2, hn2⟩ : ∃ m, (is.drop h).length = m := ⟨_, rfl⟩
  have HN12 : Hid ((is.take h).length = n1 /\ (is.drop h).length = n2) := ⟨hn1, hn2⟩
  rw [hn1] at HI1 hs1 hl1
  rw [hn2] at HI2 hs2 hl2
  have hn1b : n1 <= 1000000 := by omega
  have hn2b : n2 <= 1000000 := by omega
  have hnsum : n1 + n2 <= 1000000 := by omega
  obtain ⟨tk, tn, tS, tpl, tnl, tcl, tpm, tnm, tcm⟩ := r
  dsimp only [RV.val, RV.obj] at *
  have HW := Lib.hid hW0
  have HB0 := Lib.hid hB0
  clear hW0 hB0 hh hnn env hrd ih hbd hinc hnb hr1 hr2 hl1 hl2 hn1 hn2 hCS
  go_enter Tryz.func41, Tryz.ntmps41
  go_upto_region 1 with fail
  rw [HW.out]
  clear HW
  obtain ⟨a0, a1, a2, a3, a4⟩ := hA0.cells5
  go_upto_region 4 with fail
  go_cut [6] from 17 to 21 (fun v wq => ∃ (q : Option Addr) (m d : Nat) (js : List Nat), v = .slice q m d /\ Hid (js.Perm (is.take h) /\ js.Pairwise (fun x y => ltQ CS os y x = false) /\ Rd wq wq.heap.size encM 6 (.slice q m d) (js.map (rsA rs)) /\ Below W0.heap.size W0 wq))
  case first =>
   have HI := Lib.hid (HI1.out W0.drew (Below.refl _ _).drew)
   go_region_with (first
    | (go_at_call 41; (with_reducible refine HI.out.mono ?_); rintro e w1 ⟨q, m, d, js, rfl, h1, h2, h3, h4⟩)
    | fail)
   all_goals
    first
     | go_meet
     | (go_wp2_with fail; go_meet)
    exact ⟨_, _, _, js, rfl, h1, h2, h3, (Below.refl _ _).drew.trans h4⟩
  case rest =>
  obtain ⟨q1, m1, d1, ja, rfl, hX⟩ := hcut
  have hpa := hX.out.1
  have hm1 : m1 = ja.length := by have h := rd_nlen hX.out.2.2.1; rw [List.length_map] at h; exact h
  have HJA := Lib.hid (And.intro hX.out.1 hX.out.2.1)
  have HRA := Lib.hid hX.out.2.2.1
  have hb1 := hX.out.2.2.2
  have hA1 := hA0.under hb1 hgl
  have hz1 := hb1.size
  have HB1 := Lib.hid hb1
  have HI2' := Lib.hid (HI2.out wc.drew hb1.drew)
  have hm1b : m1 = n1 := by rw [hm1, hpa.length_eq]; exact HN12.out.1
  subst hm1b
  have HM1 := Lib.hid hm1
  clear hX a0 a1 a2 a3 a4 hpa hb1 HI1 HI2 hm1
  obtain ⟨a0, a1, a2, a3, a4⟩ := hA1.cells5
  go_upto_region 5 with fail
  go_cut [7] from 22 to 26 (fun v wq => ∃ (q : Option Addr) (m d : Nat) (js : List Nat), v = .slice q m d /\ Hid (js.Perm (is.drop h) /\ js.Pairwise (fun x y => ltQ CS os y x = false) /\ Rd wq wq.heap.size encM 6 (.slice q m d) (js.map (rsA rs)) /\ Below wc.heap.size wc wq))
  case first =>
   go_region_with (first
    | (go_at_call 41; (with_reducible refine HI2'.out.mono ?_); rintro e w1 ⟨q, m, d, js, rfl, h1, h2, h3, h4⟩)
    | fail)
   all_goals
    first
     | go_meet
     | (go_wp2_with fail; go_meet)
    exact ⟨_, _, _, js, rfl, h1, h2, h3, (Below.refl _ _).drew.trans h4⟩
  case rest =>
  obtain ⟨q2, m2, d2, jb, rfl, hX⟩ := hcut
  have hpb := hX.out.1
  have hm2 : m2 = jb.length := by have h := rd_nlen hX.out.2.2.1; rw [List.length_map] at h; exact h
  have HJB := Lib.hid (And.intro hX.out.1 hX.out.2.1)
  have HRB := Lib.hid hX.out.2.2.1
  have hb2 := hX.out.2.2.2
  have hA2 := hA1.under hb2 hA1.lt
  have HRA2 := Lib.hid (HRA.out.below hb2 (Nat.le_refl _))
  have hb02 := HB1.out.trans (hb2.mono hz1)
  have HB2 := Lib.hid hb02
  have hm2b : m2 = n2 := by rw [hm2, hpb.length_eq]; exact HN12.out.2
  subst hm2b
  have HM2 := Lib.hid hm2
  have hz12 := hb2.size
  have hz2 := hb02.size
  obtain ⟨W2, hW2⟩ : ∃ W, wc = W := ⟨_, rfl⟩
  rw [hW2] at HRB HRA2 HB2 hA2 hz12 hz2
  try rw [hW2]
  clear hW2 hX a0 a1 a2 a3 a4 hpb hb2 hb02 hm2 HI2' HRA HB1 hA1
  have hgl2 := hA2.lt
  have HBA : Hid (∀ x ∈ ja, x < rs.length) := fun x hx => HBD.out x (List.mem_of_mem_take (HJA.out.1.mem_iff.1 hx))
  have HBB : Hid (∀ x ∈ jb, x < rs.length) := fun x hx => HBD.out x (List.mem_of_mem_drop (HJB.out.1.mem_iff.1 hx))
  have HLTX : Hid (∀ x ∈ ja, ∀ y ∈ jb, x < y) := fun x hx y hy => HCR.out x (HJA.out.1.mem_iff.1 hx) y (HJB.out.1.mem_iff.1 hy)
  have m10 : (0 : Int) <= (m1 : Int) := Int.natCast_nonneg _
  have m20 : (0 : Int) <= (m2 : Int) := Int.natCast_nonneg _
  have m1b : (m1 : Int) <= 1000000 := by omega
  have m2b : (m2 : Int) <= 1000000 := by omega
  go_wp2_with fail
  go_loopw [8, 9, 10] (fun u s9 s10 wr => ∃ (i k : Nat) (out : List Nat), i <= m1 /\ k <= m2 /\ s9 = .int .i64 (i : Int) /\ s10 = .int .i64 (k : Int) /\ Hid (MgI (ltQ CS os) ja jb out i k /\ Own wr W2.heap.size 36 encM 6 u (out.map (rsA rs)) /\ Below W2.heap.size W2 wr)) (fun _ _ s10 _ => m2 - (intOf s10).toNat)
  case atStart => exact ⟨0, 0, [], by omega, by omega, rfl, rfl, MgI.start, Own.nil _ _ _, Below.refl _ _⟩
  case round =>
   obtain ⟨i, k, out, hi, hk, rfl, rfl, hS⟩ := hrel
   have i0 : (0 : Int) <= (i : Int) := Int.natCast_nonneg _
   have k0 : (0 : Int) <= (k : Int) := Int.natCast_nonneg _
   by_cases hlt : k < m2
   ·have hk1 : (k : Int) < (m2 : Int) := by omega
    obtain ⟨y, hy⟩ : ∃ y, jb[k]? = some y := ⟨_, List.getElem?_eq_getElem (by have := HM2.out; omega)⟩
    have hyb := HBB.out y (List.mem_of_getElem? hy)
    obtain ⟨b2, o2, rfl, hbb2, hcb⟩ := rd_at' (HRB.out.below hS.out.2.2 (Nat.le_refl _)) (show (jb.map (rsA rs))[k]? = some (rsA rs y) by rw [List.getElem?_map, hy]; rfl)
    have HB2L : Hid (b2 < W2.heap.size) := hbb2
    have HCB : Hid (∀ W, Below W2.heap.size W2 W -> ∀ j u, (encM (rsA rs y))[j]? = some u -> W.cell? ⟨b2, o2 + k * 6 + j, none⟩ = some u) := fun W hW j u hu => by
     obtain ⟨b3, o3, he, _, hc3⟩ := rd_at' (HRB.out.below hW (Nat.le_refl _)) (show (jb.map (rsA rs))[k]? = some (rsA rs y) by rw [List.getElem?_map, hy]; rfl)
     injection he with he
     injection he with he1 he2
     subst he1
     subst he2
     exact hc3 j u hu
    have HY := Lib.hid hy
    have HYB := Lib.hid hyb
    have HYM := Lib.hid (List.mem_of_getElem? hy)
    obtain ⟨Y, hYe⟩ : ∃ Y, rsA rs y = Y := ⟨_, rfl⟩
    rw [hYe] at HCB
    have HYE := Lib.hid hYe
    obtain ⟨ny, ⟨yk, yn, ys, ypl, ynl, ycl, ypm, ynm, ycm⟩⟩ := Y
    have HS := Lib.hid hS.out
    clear hcb hbb2 hy hyb hYe hS
    have l0 : (k : Int) < (m2 : Int) := hk1
    go_wp2_with fail
    go_loopw [8, 9] (fun u s9 w3 => ∃ (i : Nat) (out : List Nat), i <= m1 /\ s9 = .int .i64 (i : Int) /\ Hid (MgI (ltQ CS os) ja jb out i k /\ Own w3 W2.heap.size 36 encM 6 u (out.map (rsA rs)) /\ Below W2.heap.size W2 w3)) (fun _ s9 _ => m1 - (intOf s9).toNat)
    case atStart => exact ⟨i, out, hi, rfl, HS.out⟩
    case round =>
     clear HS
     obtain ⟨i, out, hi, rfl, hS⟩ := hrel
     have i0 : (0 : Int) <= (i : Int) := Int.natCast_nonneg _
     have hbr := hS.out.2.2
     have hArr := hA2.under hbr hgl2
     obtain ⟨a0, a1, a2, a3, a4⟩ := hArr.cells5
     dsimp only at a0 a1 a2 a3 a4
     have g0 := HCB.out wr hbr 0 _ rfl
     have g1 := HCB.out wr hbr 1 _ rfl
     have g2 := HCB.out wr hbr 2 _ rfl
     have g3 := HCB.out wr hbr 3 _ rfl
     have g4 := HCB.out wr hbr 4 _ rfl
     have g5 := HCB.out wr hbr 5 _ rfl
     rw [Nat.add_zero] at g0
     dsimp only at g0 g1 g2 g3 g4 g5
     have HS3 := Lib.hid hS.out
     have hzr := hbr.size
     by_cases hlt2 : i < m1
     ·have hi1 : (i : Int) < (m1 : Int) := by omega
      obtain ⟨x, hx⟩ : ∃ x, ja[i]? = some x := ⟨_, List.getElem?_eq_getElem (by have := HM1.out; omega)⟩
      have hxm := List.mem_of_getElem? hx
      have hxb := HBA.out x hxm
      have hxy := HLTX.out x hxm y HYM.out
      obtain ⟨b1, o1, rfl, hbb1, hca⟩ := rd_at' (HRA2.out.below (hbr.mono hz12) (Nat.le_refl _)) (show (ja.map (rsA rs))[i]? = some (rsA rs x) by rw [List.getElem?_map, hx]; rfl)
      have HX := Lib.hid hx
      have HLQ := Lib.hid (ltQ_one (cs := CS) (os := os) hxy)
      have HA := HAH.out wr.drew x y (HB2.out.trans (hbr.drew.mono hz2)) hxb HYB.out
      obtain ⟨X, hXe⟩ : ∃ X, rsA rs x = X := ⟨_, rfl⟩
      rw [hXe, HYE.out] at HA
      rw [hXe] at hca
      have HXE := Lib.hid hXe
      obtain ⟨nx, ⟨vk, vn, vs, vpl, vnl, vcl, vpm, vnm, vcm⟩⟩ := X
      dsimp only [RM.val] at HA
      have f0 := hca 0 _ rfl
      have f1 := hca 1 _ rfl
      have f2 := hca 2 _ rfl
      have f3 := hca 3 _ rfl
      have f4 := hca 4 _ rfl
      have f5 := hca 5 _ rfl
      rw [Nat.add_zero] at f0
      dsimp only at f0 f1 f2 f3 f4 f5
      obtain ⟨A, hA⟩ : ∃ A, aheadJ CS (os.getD y dO) (os.getD x dO) = A := ⟨_, rfl⟩
      rw [hA] at HA HLQ
      have HAC := Lib.hid HA
      have HCX : Hid (∀ W, Below wr.heap.size wr W -> W.cell? ⟨b1, o1 + i * 6, none⟩ = some (.string nx) /\ W.cell? ⟨b1, o1 + i * 6 + 1, none⟩ = some (.int .i64 vk) /\ W.cell? ⟨b1, o1 + i * 6 + 2, none⟩ = some (.int .i64 vn) /\ W.cell? ⟨b1, o1 + i * 6 + 3, none⟩ = some (.string vs) /\ W.cell? ⟨b1, o1 + i * 6 + 4, none⟩ = some (.slice vpl vnl vcl) /\ W.cell? ⟨b1, o1 + i * 6 + 5, none⟩ = some (.slice vpm vnm vcm)) := fun W hW => by
       have hb1l : b1 < wr.heap.size := by omega
       exact ⟨bcs hW hb1l f0, bcs hW hb1l f1, bcs hW hb1l f2, bcs hW hb1l f3, bcs hW hb1l f4, bcs hW hb1l f5⟩
      have hbl1 : b1 < wr.heap.size := by omega
      have hbl2 : b2 < wr.heap.size := by have := HB2L.out; omega
      have hblw : w.heap.size < wr.heap.size := by omega
      clear hA HA hca hx hxm hxb hxy hXe hArr
      go_upto_region 11 with fail
      go_cut [49] from 33 to 49 (fun v wq => v = .bool (!A) /\ Hid (Below wr.heap.size wr wq))
      case first =>
       go_region_held3 (fun w' => Below wr.heap.size wr w' /\ ∀ b o, b < wr.heap.size -> w'.cell? ⟨b, o, none⟩ = wr.cell? ⟨b, o, none⟩)
        (first | with_reducible exact kt_drew wr | with_reducible exact kt_same hbk)
        (first
         | (go_at_call 15; (with_reducible refine HAC.out.mono ?_); rintro e w4 ⟨rfl, hb4⟩; (have hbk := KB.step (W := wr) (KB.drew wr) hb4))
         | fail)
       all_goals
        go_wp2_with fail
        go_meet
        exact ⟨rfl, hbk.1⟩
      case rest =>
      obtain ⟨rfl, hY⟩ := hcut
      have hb5 := hY.out
      have HBW := Lib.hid (hbr.trans (hb5.mono hzr))
      have HMG := Lib.hid HS3.out.1
      have hcx := HCX.out wc hb5
      obtain ⟨f0', f1', f2', f3', f4', f5'⟩ := hcx
      have HOW := Lib.hid (HS3.out.2.1.below hb5 (Nat.le_refl _))
      have g0' := HCB.out wc HBW.out 0 _ rfl
      have g1' := HCB.out wc HBW.out 1 _ rfl
      have g2' := HCB.out wc HBW.out 2 _ rfl
      have g3' := HCB.out wc HBW.out 3 _ rfl
      have g4' := HCB.out wc HBW.out 4 _ rfl
      have g5' := HCB.out wc HBW.out 5 _ rfl
      rw [Nat.add_zero] at g0'
      dsimp only at g0' g1' g2' g3' g4' g5'
      clear f0 f1 f2 f3 f4 f5 g0 g1 g2 g3 g4 g5 a0 a1 a2 a3 a4 hb5 hY hbb1 HCX HAC hbr hS
      cases A with
      | true =>
        have HLF : Hid (ltQ CS os x y = false) := HLQ.out
        have HNX : Hid (∀ z ∈ ja.drop i, ltQ CS os z y = false) := fun z hz => by
         rcases (drop_mem HX.out z).1 hz with rfl | hz
         ·exact HLF.out
         ·exact (ltQ_ok CS os).ntrans y x z HLF.out (sorted_drop HJA.out.2 HX.out z hz)
        have HOY := Lib.hid (HOW.out.alloc (.cells #[.string ny, .int .i64 yk, .int .i64 yn, .string ys, .slice ypl ynl ycl, .slice ypm ynm ycm] 36))
        have hszw := HBW.out.size
        have HRY : Hid (Rd (wc.alloc (.cells #[.string ny, .int .i64 yk, .int .i64 yn, .string ys, .slice ypl ynl ycl, .slice ypm ynm ycm] 36)) (wc.heap.size + 1) encM 6 (.slice (some ⟨wc.heap.size, 0, none⟩) 1 1) [rsA rs y]) := by
         rw [HYE.out]
         exact Rd.one codecM (heap_alloc_at rfl) rfl (by omega)
        have HLN : Hid ((out.map (rsA rs)).length + [rsA rs y].length <= maxLen /\ ((out.map (rsA rs)).length + [rsA rs y].length) * 96 <= 140737488355328) := by
         have h1 := HMG.out.perm.length_eq
         rw [List.length_append, List.length_take, List.length_take] at h1
         simp only [List.length_singleton, List.length_map]
         exact ⟨by unfold maxLen; omega, by omega⟩
        have HBY : Hid (Below W2.heap.size W2 (wc.alloc (.cells #[.string ny, .int .i64 yk, .int .i64 yn, .string ys, .slice ypl ynl ycl, .slice ypm ynm ycm] 36))) := HBW.out.alloc hszw _
        have HM8 : Hid (MgI (ltQ CS os) ja jb (out ++ [y]) i (k + 1)) := HMG.out.takeB HJB.out.2 HY.out HNX.out
        clear hszw
        go_wp2_with (at_builtin; refine wpList_append_rd slO codecM (wc.alloc (.cells #[.string ny, .int .i64 yk, .int .i64 yn, .string ys, .slice ypl ynl ycl, .slice ypm ynm ycm] 36)) rfl (.tmp 59) (.tmp 64) rfl (v := u8) rfl rfl HOY.out HRY.out HLN.out.1 HLN.out.2 (by have := HBW.out.size; simp; omega) ?_; intro v8 w8 ho8 hg8 hat8)
        go_roundw
        case rel =>
         refine ⟨i, k + 1, out ++ [y], by omega, by omega, rfl, by go_num, HM8.out, ?_, Below.appended HBY.out hg8 HOY.out (by have := HBW.out.size; simp; omega)⟩
         rw [List.map_append, List.map_singleton]
         exact ho8
        case measure => simp [intOf]; omega
      | false =>
        have HLF : Hid (ltQ CS os x y = true) := HLQ.out
        have HNX : Hid (∀ z ∈ jb.drop k, ltQ CS os z x = false) := fun z hz => by
         have h1 := (ltQ_ok CS os).asym _ _ HLF.out
         rcases (drop_mem HY.out z).1 hz with rfl | hz
         ·exact h1
         ·exact (ltQ_ok CS os).ntrans x y z h1 (sorted_drop HJB.out.2 HY.out z hz)
        have HOX := Lib.hid (HOW.out.alloc (.cells #[.string nx, .int .i64 vk, .int .i64 vn, .string vs, .slice vpl vnl vcl, .slice vpm vnm vcm] 36))
        have hszw := HBW.out.size
        have HRX : Hid (Rd (wc.alloc (.cells #[.string nx, .int .i64 vk, .int .i64 vn, .string vs, .slice vpl vnl vcl, .slice vpm vnm vcm] 36)) (wc.heap.size + 1) encM 6 (.slice (some ⟨wc.heap.size, 0, none⟩) 1 1) [rsA rs x]) := by
         rw [HXE.out]
         exact Rd.one codecM (heap_alloc_at rfl) rfl (by omega)
        have HLN : Hid ((out.map (rsA rs)).length + [rsA rs x].length <= maxLen /\ ((out.map (rsA rs)).length + [rsA rs x].length) * 96 <= 140737488355328) := by
         have h1 := HMG.out.perm.length_eq
         rw [List.length_append, List.length_take, List.length_take] at h1
         simp only [List.length_singleton, List.length_map]
         exact ⟨by unfold maxLen; omega, by omega⟩
        have HBX : Hid (Below W2.heap.size W2 (wc.alloc (.cells #[.string nx, .int .i64 vk, .int .i64 vn, .string vs, .slice vpl vnl vcl, .slice vpm vnm vcm] 36))) := HBW.out.alloc hszw _
        have HM8 : Hid (MgI (ltQ CS os) ja jb (out ++ [x]) (i + 1) k) := HMG.out.takeA HJA.out.2 HX.out HNX.out
        clear hszw
        go_wp2_with (at_builtin; refine wpList_append_rd slO codecM (wc.alloc (.cells #[.string nx, .int .i64 vk, .int .i64 vn, .string vs, .slice vpl vnl vcl, .slice vpm vnm vcm] 36)) rfl (.tmp 50) (.tmp 55) rfl (v := u8) rfl rfl HOX.out HRX.out HLN.out.1 HLN.out.2 (by have := HBW.out.size; simp; omega) ?_; intro v8 w8 ho8 hg8 hat8)
        go_roundw
        case rel =>
         refine ⟨i + 1, out ++ [x], by omega, by go_num, HM8.out, ?_, Below.appended HBX.out hg8 HOX.out (by have := HBW.out.size; simp; omega)⟩
         rw [List.map_append, List.map_singleton]
         exact ho8
        case measure => simp [intOf]; omega
     ·obtain rfl : i = m1 := by omega
      have HMG := Lib.hid HS3.out.1
      have HNX : Hid (∀ z ∈ ja.drop i, ltQ CS os z y = false) := fun z hz => by
       rw [List.drop_eq_nil_of_le (by have := HM1.out; omega)] at hz
       cases hz
      have HS4 := Lib.hid hS.out
      clear hS hArr
      go_wp2_with fail
      go_quiet (fail)
      have HOW : Hid (Own (wr.drewN nq) W2.heap.size 36 encM 6 u8 (out.map (rsA rs))) := HS4.out.2.1
      have HBW : Hid (Below W2.heap.size W2 (wr.drewN nq)) := bdn hbr _
      have HOY := Lib.hid (HOW.out.alloc (.cells #[.string ny, .int .i64 yk, .int .i64 yn, .string ys, .slice ypl ynl ycl, .slice ypm ynm ycm] 36))
      have hszw := HBW.out.size
      have HRY : Hid (Rd ((wr.drewN nq).alloc (.cells #[.string ny, .int .i64 yk, .int .i64 yn, .string ys, .slice ypl ynl ycl, .slice ypm ynm ycm] 36)) ((wr.drewN nq).heap.size + 1) encM 6 (.slice (some ⟨(wr.drewN nq).heap.size, 0, none⟩) 1 1) [rsA rs y]) := by
       rw [HYE.out]
       exact Rd.one codecM (heap_alloc_at rfl) rfl (by omega)
      have HLN : Hid ((out.map (rsA rs)).length + [rsA rs y].length <= maxLen /\ ((out.map (rsA rs)).length + [rsA rs y].length) * 96 <= 140737488355328) := by
       have h1 := HMG.out.perm.length_eq
       rw [List.length_append, List.length_take, List.length_take] at h1
       simp only [List.length_singleton, List.length_map]
       exact ⟨by unfold maxLen; omega, by omega⟩
      have HBY : Hid (Below W2.heap.size W2 ((wr.drewN nq).alloc (.cells #[.string ny, .int .i64 yk, .int .i64 yn, .string ys, .slice ypl ynl ycl, .slice ypm ynm ycm] 36))) := HBW.out.alloc hszw _
      have HM8 : Hid (MgI (ltQ CS os) ja jb (out ++ [y]) i (k + 1)) := HMG.out.takeB HJB.out.2 HY.out HNX.out
      clear hszw
      go_wp2_with (at_builtin; refine wpList_append_rd slO codecM ((wr.drewN nq).alloc (.cells #[.string ny, .int .i64 yk, .int .i64 yn, .string ys, .slice ypl ynl ycl, .slice ypm ynm ycm] 36)) rfl (.tmp 59) (.tmp 64) rfl (v := u8) rfl rfl HOY.out HRY.out HLN.out.1 HLN.out.2 (by have := HBW.out.size; simp; omega) ?_; intro v8 w8 ho8 hg8 hat8)
      go_roundw
      case rel =>
       refine ⟨i, k + 1, out ++ [y], by omega, by omega, rfl, by go_num, HM8.out, ?_, Below.appended HBY.out hg8 HOY.out (by have := HBW.out.size; simp; omega)⟩
       rw [List.map_append, List.map_singleton]
       exact ho8
      case measure => simp [intOf]; omega
   ·obtain rfl : k = m2 := by omega
    have hk2 : k = jb.length := HM2.out
    obtain ⟨v3, hs3, hr3⟩ := slice_l slO HRA2.out i hi
    rw [<- List.map_drop] at hr3
    obtain ⟨p3, n3, c3, hv3⟩ : ∃ p n c, v3 = Value.slice p n c := by obtain ⟨p, c, hv, _, _⟩ := rd_lens hr3; exact ⟨p, _, c, hv⟩
    subst hv3
    have HR3 := Lib.hid (hr3.below (hS.out.2.2.mono hz12) (Nat.le_refl _))
    have HOW := Lib.hid hS.out.2.1
    have HBW := Lib.hid hS.out.2.2
    have HDN := Lib.hid (MgI.done (by have h := hS.out.1; rw [hk2] at h; exact h) HJA.out.2)
    have HLN : Hid ((out.map (rsA rs)).length + ((ja.drop i).map (rsA rs)).length <= maxLen /\ ((out.map (rsA rs)).length + ((ja.drop i).map (rsA rs)).length) * 96 <= 140737488355328) := by
     have h1 := HDN.out.1.length_eq
     rw [List.length_append, List.length_append] at h1
     have h2 := HM1.out
     simp only [List.length_map]
     exact ⟨by unfold maxLen; omega, by omega⟩
    have HFIN : Hid (∀ W, Below W2.heap.size W2 W -> Below w.heap.size w W) := fun W hW => HB0.out.trans ((HB2.out.trans (hW.mono hz2)).mono hw0)
    have HPJ2 := Lib.hid (HDN.out.1.trans (HPJ.out ja jb HJA.out.1 HJB.out.1))
    clear hS hr3 hk2
    go_wp2_with (at_builtin; refine wpList_append_rd slO codecM wr rfl (.tmp 66) (.tmp 69) rfl (v := u8) rfl rfl HOW.out HR3.out HLN.out.1 HLN.out.2 HBW.out.size ?_; intro v8 w8 ho8 hg8 hat8)
    go_ret
    obtain ⟨p8, c8, hv8, _, _⟩ := ho8.len
    refine ⟨p8, _, c8, out ++ ja.drop i, congrArg Ending.returned hv8, HPJ2.out, HDN.out.2, ?_, HFIN.out _ (Below.appended HBW.out hg8 HOW.out HBW.out.size)⟩
    rw [<- hv8, List.map_append]
    exact ho8.rd codecM
theorem ord_any (t : JV) (r : RV) (os : List (ByteArray × JV)) (rs : List RM) (B : Nat) : ∀ (N : Nat) (is : List Nat), is.length <= N -> OrdHyp t r os rs B is
 | 0, is, h => ord_step t r os rs B is (fun js hj => by omega)
 | N + 1, is, h => ord_step t r os rs B is (fun js hj => ord_any t r os rs B N js (by omega))
theorem rs_range (rs : List RM) : (List.range rs.length).map (rsA rs) = rs := by
 apply List.ext_getElem?
 intro i
 by_cases h : i < rs.length
 ·rw [List.getElem?_map, List.getElem?_range h, Option.map_some, List.getElem?_eq_getElem h, rsA, List.getD_eq_getElem?_getD, List.getElem?_eq_getElem h]; rfl
 ·rw [List.getElem?_eq_none (by simpa using h), List.getElem?_eq_none (by omega)]
theorem rOrder_any (t : JV) (r : RV) (os : List (ByteArray × JV)) (rs : List RM) (pv : Option Addr) (nv cv : Nat) (w : World) (B : Nat) (hBw : B <= w.heap.size) (ht : TreeOf w B t r) (ot : t.Ok) (hown : t.k ≠ 5 -> t.l = []) (hl : ObjL w B os rs (.slice pv nv cv)) (hn : os.length <= 1000000) :
 Calls Tryz.prog 18 #[r.val, .slice pv nv cv] w fun e w' => ∃ u, e = .returned u /\ Own w' w.heap.size 9 encS 1 u ((ordQ (sortC t) os).map (fun i => (os.getD i dO).1)) /\ Below w.heap.size w w' := by
 have hrl := hl.len
 have HO : Hid (∀ W, Below w.heap.size w W -> Calls Tryz.prog 41 #[r.val, .slice pv nv cv] W (OrdRet (sortC t) os rs W (List.range rs.length))) := fun W hb =>
  ord_any t r os rs B _ (List.range rs.length) (Nat.le_refl _) W pv nv cv (by simp; omega) (Nat.le_trans hBw hb.size) ⟨ht.under (hb.mono hBw) (Nat.le_refl _), ot, hown, hrl, fun i hi => ⟨(hl.obj i hi).1, (hl.obj i hi).2.1.under (hb.mono hBw) (Nat.le_refl _), (hl.obj i hi).2.2⟩⟩ (fun i hi => by simpa using hi) List.pairwise_lt_range (by rw [rs_range]; exact hl.rd.below (hb.mono hBw) (Nat.le_trans hBw hb.size))
 have HNM : Hid (∀ i, i < os.length -> (rsA rs i).name = (os.getD i dO).1) := fun i hi => (hl.obj i (by omega)).1
 have HB0 : Hid (Below w.heap.size w (w.alloc r.obj)) := (Below.refl _ _).alloc (Nat.le_refl _) _
 have hA0 : VAt (w.alloc r.obj) w.heap.size r := heap_alloc_at rfl
 have HS : Hid (rs.length = os.length /\ os.length <= 1000000) := ⟨hrl, hn⟩
 obtain ⟨k, n, s, pl, nl, cl, pm, nm, cm⟩ := r
 dsimp only [RV.val, RV.obj] at *
 obtain ⟨W0, hW0⟩ : ∃ W, w.alloc (.cells #[.int .i64 k, .int .i64 n, .string s, .slice pl nl cl, .slice pm nm cm] 25) = W := ⟨_, rfl⟩
 rw [hW0] at HB0 hA0
 obtain ⟨cs, hcs⟩ : ∃ C, sortC t = C := ⟨_, rfl⟩
 rw [hcs] at HO
 rw [hcs]
 clear ht ot hl hown hrl hn hcs
 go_enter Tryz.func18, Tryz.ntmps18
 go_upto_region 1 with fail
 try rw [hW0]
 clear hW0
 obtain ⟨a0, a1, a2, a3, a4⟩ := hA0.cells5
 clear hA0
 go_upto_region 2 with (go_at_call 41; (with_reducible refine (HO.out _ HB0.out).mono ?_); rintro e w1 ⟨p, n1, c1, js, rfl, hp, hs, hrd, hb⟩)
 have hn1 : n1 = js.length := by have h := rd_nlen hrd; simpa using h
 have hjl : js.length = os.length := by have h := hp.length_eq; rw [List.length_range] at h; have := HS.out; omega
 have HN : Hid (n1 = js.length /\ n1 <= 1000000) := ⟨hn1, by have := HS.out; omega⟩
 have HQ : Hid (js = ordQ cs os) := ordQ_unique (by rw [<- HS.out.1]; exact hp) hs
 have HM : Hid (∀ i ∈ js, i < os.length) := fun i hi => by have h := hp.mem_iff.1 hi; rw [List.mem_range] at h; have := HS.out; omega
 have HRD := Lib.hid hrd
 have hnb : n1 <= 1000000 := HN.out.2
 have HBA : Hid (Below w.heap.size w w1) := HB0.out.trans (hb.mono HB0.out.size)
 clear hp hs hrd hb hn1 hjl HO HB0 a0 a1 a2 a3 a4
 go_wp2_with fail
 go_loopw [6, 7] (fun o i wr => ∃ k : Nat, k <= n1 /\ i = .int .i64 k /\ Hid (Own wr w1.heap.size 9 encS 1 o ((js.take k).map (fun i => (os.getD i dO).1)) /\ Below w1.heap.size w1 wr /\ Below w.heap.size w wr)) (fun _ i _ => n1 - (intOf i).toNat)
 case atStart => exact ⟨0, Nat.zero_le _, rfl, Own.nil _ _ _, Below.refl _ _, HBA.out⟩
 case round =>
  obtain ⟨k, hk, rfl, hown⟩ := hrel
  by_cases hlt : k < n1
  ·obtain ⟨i, hi⟩ : ∃ x, js[k]? = some x := ⟨_, List.getElem?_eq_getElem (by have := HN.out; omega)⟩
   have hx : (js.map (rsA rs))[k]? = some (rsA rs i) := by rw [List.getElem?_map, hi]; rfl
   have hpn : (rsA rs i).name = (os.getD i dO).1 := HNM.out i (HM.out i (List.mem_of_getElem? hi))
   obtain ⟨x, hxe⟩ : ∃ x, rsA rs i = x := ⟨_, rfl⟩
   rw [hxe] at hx hpn
   obtain ⟨hown, hbr, hbw⟩ := hown.out
   obtain ⟨b1, o1, rfl, hb1, hc1⟩ := rd_at' (HRD.out.below hbr (Nat.le_refl _)) hx
   have f0 := hc1 0 _ rfl
   have f1 := hc1 1 _ rfl
   have f2 := hc1 2 _ rfl
   have f3 := hc1 3 _ rfl
   have f4 := hc1 4 _ rfl
   have f5 := hc1 5 _ rfl
   rw [Nat.add_zero] at f0
   have hk0 : (0 : Int) <= (k : Int) := Int.natCast_nonneg _
   have hk1 : (k : Int) < (n1 : Int) := by omega
   have HSN : Hid ((js.take (k + 1)).map (fun i => (os.getD i dO).1) = (js.take k).map (fun i => (os.getD i dO).1) ++ [x.name]) := by unfold Hid; rw [List.take_add_one, hi]; simp [hpn]
   have HBR := Lib.hid (And.intro hbr hbw)
   have HO2 := Lib.hid (hown.alloc (.cells #[.string x.name] 9))
   have HB2 := Lib.hid (And.intro (hbr.alloc hbr.size (.cells #[.string x.name] 9)) (hbw.alloc hbw.size (.cells #[.string x.name] 9)))
   have HR2 : Hid (Rd (wr.alloc (.cells #[.string x.name] 9)) (wr.heap.size + 1) encS 1 (.slice (some ⟨wr.heap.size, 0, none⟩) 1 1) [x.name]) := Rd.one codecS (heap_alloc_at rfl) rfl (by omega)
   have hl : ((js.take k).map (fun i => (os.getD i dO).1)).length <= 1000000 := by simp; omega
   have HL := Lib.hid hl
   clear hx hpn hxe hi hc1 hbr hbw hown hl hb1
   go_wp2_with (at_builtin; refine wpList_append_rd slS codecS _ rfl _ _ rfl rfl rfl HO2.out HR2.out (by have := HL.out; simp only [List.length_singleton]; unfold maxLen; omega) (by have := HL.out; simp only [List.length_singleton]; omega) (by have := HBR.out.1.size; simp; omega) ?_; intro v1 w2 ho1 hg1 hat1)
   go_roundw
   case rel => exact ⟨k + 1, by omega, by go_num, by rw [HSN.out]; exact ho1, Below.appended HB2.out.1 hg1 HO2.out HB2.out.1.size, Below.appended HB2.out.2 hg1 (HO2.out.mono HBA.out.size) HB2.out.2.size⟩
   case measure => simp [intOf]; omega
  ·obtain rfl : k = n1 := by omega
   go_wp2_with fail
   go_ret
   refine ⟨_, rfl, ?_, hown.out.2.2⟩
   have h := hown.out.1.mono HBA.out.size
   rw [List.take_of_length_le (by have := HN.out; omega), HQ.out] at h
   exact h
end
end Go.Proofs.YtjhginendpjimaaGreatDoor
