import Derived.Test.YtffhccmppdgmfaaGreatDoorF17
import Derived.Test.YtffhccmppdgmfaaGreatDoorF11
import Derived.Test.YtffhccmppdgmfaaGreatDoorF18
import Derived.Test.YtffhccmppdgmfaaGreatDoorF04
import Derived.Test.YtffhccmppdgmfaaGreatDoorF12
set_option linter.unusedSimpArgs false
set_option linter.unusedVariables false
set_option maxRecDepth 200000
set_option maxHeartbeats 8000000
namespace Go.Proofs.YtffhccmppdgmfaaGreatDoor
section
open Go Go.RowKit Go.OpenShut
theorem sameP_yes20 (w : World) (B : Nat) (u v : Value) (l : List ByteArray) (hu : Rd w B encS 1 u l) (hv : Rd w B encS 1 v l) : Calls Tryz.prog 25 #[u, v] w fun e w' => e = .returned (.bool true) /\ ∃ n, w' = w.drewN n := (sameParts_any w B u v l l hu hv).mono (fun e w' h => by rw [decide_eq_true rfl] at h; exact h)
theorem n20_tree (w : World) (B : Nat) : TreeOf w B n20J ⟨1, 0, ⟨#[]⟩, none, 0, 0, none, 0, 0⟩ := TreeOf.mk (r := ⟨1, 0, ⟨#[]⟩, none, 0, 0, none, 0, 0⟩) (rs := []) (rms := []) (Rd.nil _ _) rfl (fun i t q h => by simp at h) (Rd.nil _ _) rfl (fun i p q h => by simp at h) (fun i p q h => by simp at h)
theorem awake20_any (w : World) (hall : AllAt w) (hmax : MaxAt w) : Calls Tryz.prog 17 #[] w fun e w' => e = .returned (.bool true) /\ Below w.heap.size w w' := by
 have HRf : Hid (∀ W, Calls Tryz.prog 38 #[.string tx20f] W (ReadRet W f20J)) := fun W => read_any W tx20f f20J (by decide) read20_f
 have HRg : Hid (∀ W, Calls Tryz.prog 38 #[.string tx20g] W (ReadRet W g20J)) := fun W => read_any W tx20g g20J (by decide) read20_g
 have HRh : Hid (∀ W, Calls Tryz.prog 38 #[.string tx20h] W (ReadRet W h20J)) := fun W => read_any W tx20h h20J (by decide) read20_h
 have HRv : Hid (∀ W, Calls Tryz.prog 38 #[.string tx20v] W (ReadRet W v20J)) := fun W => read_any W tx20v v20J (by decide) read20_v
 unfold tx20f at HRf
 unfold tx20g at HRg
 unfold tx20h at HRh
 unfold tx20v at HRv
 have HALL := Lib.hid hall
 have HMAX := Lib.hid hmax
 clear hall hmax
 go_enter Tryz.func17, Tryz.ntmps17
 go_upto_region 2 with (go_at_call 38; refine (HRf.out _).mono ?_; rintro e wf ⟨rf, rfl, htf, hbf⟩; obtain ⟨fk, fn, fS, fpl, fnl, fcl, fpm, fnm, fcm⟩ := rf)
 have hvf : VAt (wf.alloc (.cells #[.int .i64 fk, .int .i64 fn, .string fS, .slice fpl fnl fcl, .slice fpm fnm fcm] 25)) wf.heap.size ⟨fk, fn, fS, fpl, fnl, fcl, fpm, fnm, fcm⟩ := heap_alloc_at rfl
 have hbbf := hbf.alloc hbf.size (.cells #[.int .i64 fk, .int .i64 fn, .string fS, .slice fpl fnl fcl, .slice fpm fnm fcm] 25)
 have hTf : TreeOf (wf.alloc (.cells #[.int .i64 fk, .int .i64 fn, .string fS, .slice fpl fnl fcl, .slice fpm fnm fcm] 25)) wf.heap.size f20J ⟨fk, fn, fS, fpl, fnl, fcl, fpm, fnm, fcm⟩ := htf.under ((Below.refl _ _).alloc (Nat.le_refl _) _) (Nat.le_refl _)
 have hB := hbbf
 obtain ⟨gf, hgf⟩ : ∃ g, wf.heap.size = g := ⟨_, rfl⟩
 obtain ⟨Wf, hWf⟩ : ∃ W, wf.alloc (.cells #[.int .i64 fk, .int .i64 fn, .string fS, .slice fpl fnl fcl, .slice fpm fnm fcm] 25) = W := ⟨_, rfl⟩
 rw [hWf, hgf] at hvf hTf
 rw [hWf] at hB
 try rw [hWf]
 try rw [hgf]
 replace hTf := hTf.under (Below.refl _ Wf) (Nat.le_of_lt hvf.lt)
 clear hWf hgf htf hbf hbbf HRf
 go_upto_region 3 with (go_at_call 38; refine (HRg.out _).mono ?_; rintro e wg ⟨rg, rfl, htg, hbg⟩; obtain ⟨gk, gn, gS, gpl, gnl, gcl, gpm, gnm, gcm⟩ := rg)
 have hvg : VAt (wg.alloc (.cells #[.int .i64 gk, .int .i64 gn, .string gS, .slice gpl gnl gcl, .slice gpm gnm gcm] 25)) wg.heap.size ⟨gk, gn, gS, gpl, gnl, gcl, gpm, gnm, gcm⟩ := heap_alloc_at rfl
 have hbbg := hbg.alloc hbg.size (.cells #[.int .i64 gk, .int .i64 gn, .string gS, .slice gpl gnl gcl, .slice gpm gnm gcm] 25)
 have hTg : TreeOf (wg.alloc (.cells #[.int .i64 gk, .int .i64 gn, .string gS, .slice gpl gnl gcl, .slice gpm gnm gcm] 25)) wg.heap.size g20J ⟨gk, gn, gS, gpl, gnl, gcl, gpm, gnm, gcm⟩ := htg.under ((Below.refl _ _).alloc (Nat.le_refl _) _) (Nat.le_refl _)
 replace hvf := hvf.under hbbg hvf.lt
 replace hTf := hTf.under hbbg hbbg.size
 replace hB := hB.trans (hbbg.mono hB.size)
 obtain ⟨gg, hgg⟩ : ∃ g, wg.heap.size = g := ⟨_, rfl⟩
 obtain ⟨Wg, hWg⟩ : ∃ W, wg.alloc (.cells #[.int .i64 gk, .int .i64 gn, .string gS, .slice gpl gnl gcl, .slice gpm gnm gcm] 25) = W := ⟨_, rfl⟩
 rw [hWg, hgg] at hvg hTg
 rw [hWg] at hB hvf hTf
 try rw [hWg]
 try rw [hgg]
 replace hTg := hTg.under (Below.refl _ Wg) (Nat.le_of_lt hvg.lt)
 clear hWg hgg htg hbg hbbg HRg
 go_upto_region 4 with (go_at_call 38; refine (HRh.out _).mono ?_; rintro e wh ⟨rh, rfl, hth, hbh⟩; obtain ⟨hk, hn, hS, hpl, hnl, hcl, hpm, hnm, hcm⟩ := rh)
 have hvh : VAt (wh.alloc (.cells #[.int .i64 hk, .int .i64 hn, .string hS, .slice hpl hnl hcl, .slice hpm hnm hcm] 25)) wh.heap.size ⟨hk, hn, hS, hpl, hnl, hcl, hpm, hnm, hcm⟩ := heap_alloc_at rfl
 have hbbh := hbh.alloc hbh.size (.cells #[.int .i64 hk, .int .i64 hn, .string hS, .slice hpl hnl hcl, .slice hpm hnm hcm] 25)
 have hTh : TreeOf (wh.alloc (.cells #[.int .i64 hk, .int .i64 hn, .string hS, .slice hpl hnl hcl, .slice hpm hnm hcm] 25)) wh.heap.size h20J ⟨hk, hn, hS, hpl, hnl, hcl, hpm, hnm, hcm⟩ := hth.under ((Below.refl _ _).alloc (Nat.le_refl _) _) (Nat.le_refl _)
 replace hvf := hvf.under hbbh hvf.lt
 replace hTf := hTf.under hbbh hbbh.size
 replace hvg := hvg.under hbbh hvg.lt
 replace hTg := hTg.under hbbh hbbh.size
 replace hB := hB.trans (hbbh.mono hB.size)
 obtain ⟨gh, hgh⟩ : ∃ g, wh.heap.size = g := ⟨_, rfl⟩
 obtain ⟨Wh, hWh⟩ : ∃ W, wh.alloc (.cells #[.int .i64 hk, .int .i64 hn, .string hS, .slice hpl hnl hcl, .slice hpm hnm hcm] 25) = W := ⟨_, rfl⟩
 rw [hWh, hgh] at hvh hTh
 rw [hWh] at hB hvf hTf hvg hTg
 try rw [hWh]
 try rw [hgh]
 replace hTh := hTh.under (Below.refl _ Wh) (Nat.le_of_lt hvh.lt)
 clear hWh hgh hth hbh hbbh HRh
 go_upto_region 5 with (go_at_call 38; refine (HRv.out _).mono ?_; rintro e wv ⟨rv, rfl, htv, hbv⟩; obtain ⟨vk, vn, vS, vpl, vnl, vcl, vpm, vnm, vcm⟩ := rv)
 have hvv : VAt (wv.alloc (.cells #[.int .i64 vk, .int .i64 vn, .string vS, .slice vpl vnl vcl, .slice vpm vnm vcm] 25)) wv.heap.size ⟨vk, vn, vS, vpl, vnl, vcl, vpm, vnm, vcm⟩ := heap_alloc_at rfl
 have hbbv := hbv.alloc hbv.size (.cells #[.int .i64 vk, .int .i64 vn, .string vS, .slice vpl vnl vcl, .slice vpm vnm vcm] 25)
 have hTv : TreeOf (wv.alloc (.cells #[.int .i64 vk, .int .i64 vn, .string vS, .slice vpl vnl vcl, .slice vpm vnm vcm] 25)) wv.heap.size v20J ⟨vk, vn, vS, vpl, vnl, vcl, vpm, vnm, vcm⟩ := htv.under ((Below.refl _ _).alloc (Nat.le_refl _) _) (Nat.le_refl _)
 replace hvf := hvf.under hbbv hvf.lt
 replace hTf := hTf.under hbbv hbbv.size
 replace hvg := hvg.under hbbv hvg.lt
 replace hTg := hTg.under hbbv hbbv.size
 replace hvh := hvh.under hbbv hvh.lt
 replace hTh := hTh.under hbbv hbbv.size
 replace hB := hB.trans (hbbv.mono hB.size)
 obtain ⟨gv, hgv⟩ : ∃ g, wv.heap.size = g := ⟨_, rfl⟩
 obtain ⟨Wv, hWv⟩ : ∃ W, wv.alloc (.cells #[.int .i64 vk, .int .i64 vn, .string vS, .slice vpl vnl vcl, .slice vpm vnm vcm] 25) = W := ⟨_, rfl⟩
 rw [hWv, hgv] at hvv hTv
 rw [hWv] at hB hvf hTf hvg hTg hvh hTh
 try rw [hWv]
 try rw [hgv]
 replace hTv := hTv.under (Below.refl _ Wv) (Nat.le_of_lt hvv.lt)
 clear hWv hgv htv hbv hbbv HRv
 obtain ⟨cf, cg, ch, cv, zv, cn⟩ := aw20_c
 have hallW : Hid (∀ W, Below Wv.heap.size Wv W -> AllAt W) := fun W hW => (HALL.out.below hB).below hW
 have hmaxW : Hid (∀ W, Below Wv.heap.size Wv W -> MaxAt W) := fun W hW => (HMAX.out.below hB).below hW
 have H1 : Hid (∀ W, Below Wv.heap.size Wv W -> Calls Tryz.prog 23 #[.agg #[.int .i64 fk, .int .i64 fn, .string fS, .slice fpl fnl fcl, .slice fpm fnm fcm], .agg #[.int .i64 vk, .int .i64 vn, .string vS, .slice vpl vnl vcl, .slice vpm vnm vcm]] W fun e w' => e = .returned (.bool true) /\ Below W.heap.size W w') := fun W hW => by
  have h := svHolds_any f20J v20J ⟨fk, fn, fS, fpl, fnl, fcl, fpm, fnm, fcm⟩ ⟨vk, vn, vS, vpl, vnl, vcl, vpm, vnm, vcm⟩ W Wv.heap.size hW.size (hTf.under hW (Nat.le_refl _)) (hTv.under hW (Nat.le_refl _)) f20_ok v20_ok cf cv zv (fun h => by cases h) (hallW.out W hW) (hmaxW.out W hW)
  rw [aw20_1] at h
  exact h
 have H5 : Hid (∀ W, Below Wv.heap.size Wv W -> Calls Tryz.prog 23 #[.agg #[.int .i64 1, .int .i64 0, .string ⟨#[]⟩, .slice none 0 0, .slice none 0 0], .agg #[.int .i64 vk, .int .i64 vn, .string vS, .slice vpl vnl vcl, .slice vpm vnm vcm]] W fun e w' => e = .returned (.bool true) /\ Below W.heap.size W w') := fun W hW => by
  have h := svHolds_any n20J v20J ⟨1, 0, ⟨#[]⟩, none, 0, 0, none, 0, 0⟩ ⟨vk, vn, vS, vpl, vnl, vcl, vpm, vnm, vcm⟩ W Wv.heap.size hW.size (n20_tree _ _) (hTv.under hW (Nat.le_refl _)) n20_ok v20_ok cn cv zv (fun _ => rfl) (hallW.out W hW) (hmaxW.out W hW)
  rw [aw20_5] at h
  exact h
 have H2 : Hid (∀ W, Below Wv.heap.size Wv W -> Calls Tryz.prog 19 #[.agg #[.int .i64 gk, .int .i64 gn, .string gS, .slice gpl gnl gcl, .slice gpm gnm gcm]] W fun e w' => e = .returned (.int .i64 200) /\ Below W.heap.size W w') := fun W hW => by
  have h := svCheck_any g20J ⟨gk, gn, gS, gpl, gnl, gcl, gpm, gnm, gcm⟩ W Wv.heap.size hW.size (hTg.under hW (Nat.le_refl _)) g20_ok cg (hallW.out W hW)
  rw [aw20_2] at h
  exact h
 have H3 : Hid (∀ W, Below Wv.heap.size Wv W -> Calls Tryz.prog 19 #[.agg #[.int .i64 hk, .int .i64 hn, .string hS, .slice hpl hnl hcl, .slice hpm hnm hcm]] W fun e w' => e = .returned (.int .i64 1) /\ Below W.heap.size W w') := fun W hW => by
  have h := svCheck_any h20J ⟨hk, hn, hS, hpl, hnl, hcl, hpm, hnm, hcm⟩ W Wv.heap.size hW.size (hTh.under hW (Nat.le_refl _)) h20_ok ch (hallW.out W hW)
  rw [aw20_3] at h
  exact h
 have H4 : Hid (∀ W, Below Wv.heap.size Wv W -> Calls Tryz.prog 26 #[.agg #[.int .i64 vk, .int .i64 vn, .string vS, .slice vpl vnl vcl, .slice vpm vnm vcm], .string ⟨#[116, 101, 120, 116]⟩] W (OwnRet W 9 encS 1 [⟨#[65, 100, 97]⟩, ⟨#[65]⟩])) := fun W hW => by
  have h := svtexts_any v20J ⟨vk, vn, vS, vpl, vnl, vcl, vpm, vnm, vcm⟩ svText W Wv.heap.size hW.size (hTv.under hW (Nat.le_refl _)) v20_ok cv (hallW.out W hW)
  rw [aw20_4] at h
  exact h
 obtain ⟨p0, p1, p2, p3, p4⟩ := hvf.cells5
 dsimp only at p0 p1 p2 p3 p4
 obtain ⟨q0, q1, q2, q3, q4⟩ := hvv.cells5
 dsimp only at q0 q1 q2 q3 q4
 have HB := Lib.hid hB
 have hk0 : Below Wv.heap.size Wv Wv := Below.refl _ _
 clear hTf hTg hTh hTv cf cg ch cv zv cn hB
 go_wp2_with (first
  | (go_at_call 23; (with_reducible refine (H1.out _ hk0).mono ?_); rintro e w1 ⟨rfl, hk1⟩; (have s0 := bcs hk1 hvg.lt (hvg.cell 0 rfl)); (have s1 := bcs hk1 hvg.lt (hvg.cell 1 rfl)); (have s2 := bcs hk1 hvg.lt (hvg.cell 2 rfl)); (have s3 := bcs hk1 hvg.lt (hvg.cell 3 rfl)); (have s4 := bcs hk1 hvg.lt (hvg.cell 4 rfl)); dsimp only at s0 s1 s2 s3 s4)
  | (go_at_call 19; (with_reducible refine (H2.out _ hk1).mono ?_); rintro e w2 ⟨rfl, hb2⟩; (have hk2 := hk1.trans (hb2.mono hk1.size)); (have t0 := bcs hk2 hvh.lt (hvh.cell 0 rfl)); (have t1 := bcs hk2 hvh.lt (hvh.cell 1 rfl)); (have t2 := bcs hk2 hvh.lt (hvh.cell 2 rfl)); (have t3 := bcs hk2 hvh.lt (hvh.cell 3 rfl)); (have t4 := bcs hk2 hvh.lt (hvh.cell 4 rfl)); dsimp only at t0 t1 t2 t3 t4)
  | (go_at_call 19; (with_reducible refine (H3.out _ hk2).mono ?_); rintro e w3 ⟨rfl, hb3⟩; (have hk3 := hk2.trans (hb3.mono hk2.size)); (have x0 := bcs hk3 hvv.lt (hvv.cell 0 rfl)); (have x1 := bcs hk3 hvv.lt (hvv.cell 1 rfl)); (have x2 := bcs hk3 hvv.lt (hvv.cell 2 rfl)); (have x3 := bcs hk3 hvv.lt (hvv.cell 3 rfl)); (have x4 := bcs hk3 hvv.lt (hvv.cell 4 rfl)); dsimp only at x0 x1 x2 x3 x4)
  | (go_at_call 26; (with_reducible refine (H4.out _ hk3).mono ?_); rintro e w4 ⟨u, rfl, ho4, hb4⟩; (have hk4 := hk3.trans (hb4.mono hk3.size)); (have HO4 := Lib.hid (ho4.rd codecS)); clear ho4)
  | (go_at_call 25; (have hSP := sameP_yes20 (w4.alloc (.cells #[.string ⟨#[65, 100, 97]⟩, .string ⟨#[65]⟩] 9)) (w4.heap.size + 1) u (.slice (some ⟨w4.heap.size, 0, none⟩) 2 2) [⟨#[65, 100, 97]⟩, ⟨#[65]⟩] (HO4.out.below ((Below.refl _ _).alloc (Nat.le_refl _) _) (by omega)) (Rd.block (xs := [(⟨#[65, 100, 97]⟩ : ByteArray), ⟨#[65]⟩]) codecS (heap_alloc_at rfl) rfl (by omega) (show 2 <= maxLen by decide))); (with_reducible refine hSP.mono ?_); rintro e w5 ⟨rfl, n5, rfl⟩; (have hk5 := bdn (hk4.alloc hk4.size (.cells #[.string ⟨#[65, 100, 97]⟩, .string ⟨#[65]⟩] 9)) n5); (have y0 := bcs hk5 hvv.lt (hvv.cell 0 rfl)); (have y1 := bcs hk5 hvv.lt (hvv.cell 1 rfl)); (have y2 := bcs hk5 hvv.lt (hvv.cell 2 rfl)); (have y3 := bcs hk5 hvv.lt (hvv.cell 3 rfl)); (have y4 := bcs hk5 hvv.lt (hvv.cell 4 rfl)); dsimp only at y0 y1 y2 y3 y4)
  | (go_at_call 23; (with_reducible refine (H5.out _ hk5).mono ?_); rintro e w6 ⟨rfl, hb6⟩; (have hk6 := hk5.trans (hb6.mono hk5.size)))
  | fail)
 go_ret
 exact ⟨rfl, HB.out.trans (hk6.mono HB.out.size)⟩
end
section
open Go.RowKit Go.OpenShut
def OwnM (t : JV) : Prop := (t.k ≠ 5 -> t.l = []) /\ ∀ p ∈ t.m, p.2.k ≠ 5 -> p.2.l = []
def OwnRet7 (w : World) (t : JV) (e : Ending) (w' : World) : Prop := ∃ b : Bool, e = .returned (.bool b) /\ Hid (b = true -> OwnM t) /\ Below w.heap.size w w'
theorem own_leaf {k : Int} {nl : Nat} {b5 : Bool} (h5 : (k != 5) = b5) (h : b5 = true -> ¬ 0 < nl) : k ≠ 5 -> nl = 0 := fun hk => by
 have h2 : (k != 5) = true := by simpa using hk
 have := h (h5.symm.trans h2)
 omega
theorem own7m_any (N : Nat) : ∀ (t : JV) (r : RV) (w : World), SizeOf.sizeOf t <= N -> TreeOf w w.heap.size t r -> t.Ok ->
 Calls Tryz.prog 49 #[r.val] w (OwnRet7 w t) := by
 induction N with
 | zero => intro t r w hN; cases t; simp at hN
 | succ N ih =>
   intro t r w hN ht ot
   cases ht with
   | @mk _ l m rs rms hl el hcl hm em hcn hcm =>
   obtain ⟨k, n, s, pl, nl, cl, pm, nm, cm⟩ := r
   cases ot with
   | mk _ _ _ bl bm okl oks okm =>
   dsimp only [RV.val] at *
   have eL := rd_nlen hl
   have eM := rd_nlen hm
   have HT : Hid (∀ (i : Nat) t q, l[i]? = some t -> rs[i]? = some q -> ∀ W, Below w.heap.size w W -> Calls Tryz.prog 49 #[q.val] W (OwnRet7 W t)) :=
    fun i t q h1 h2 W hb => ih t q W (by have := JV.lt_l (k := k) (n := n) (s := s) (m := m) h1; omega) ((hcl i t q h1 h2).under hb hb.size) (okl i t h1)
   have HS : Hid (∀ (i : Nat) p q, m[i]? = some p -> rms[i]? = some q -> ∀ W, Below w.heap.size w W -> Calls Tryz.prog 49 #[q.v.val] W (OwnRet7 W p.2)) :=
    fun i p q h1 h2 W hb => ih p.2 q.v W (by have := JV.lt_m (k := k) (n := n) (s := s) (l := l) h1; omega) ((hcm i p q h1 h2).under hb hb.size) (okm i p h1)
   have HL := Lib.hid hl
   have HM := Lib.hid hm
   have E1 : Hid (l.length = nl /\ rs.length = nl) := ⟨by omega, by omega⟩
   have HE1 : Hid (l.length = nl) := by unfold Hid; omega
   have E2 : Hid (m.length = nm /\ rms.length = nm) := ⟨by omega, by omega⟩
   have hnl : nl <= 1759218604390 := by omega
   have hnm : nm <= 1466015503658 := by omega
   have hA0 : VAt (w.alloc (.cells #[.int .i64 k, .int .i64 n, .string s, .slice pl nl cl, .slice pm nm cm] 25)) w.heap.size ⟨k, n, s, pl, nl, cl, pm, nm, cm⟩ := heap_alloc_at rfl
   have hB0 : Below w.heap.size w (w.alloc (.cells #[.int .i64 k, .int .i64 n, .string s, .slice pl nl cl, .slice pm nm cm] 25)) := (Below.refl _ _).alloc (Nat.le_refl _) _
   clear ih hcl hcn hcm hl hm okl oks okm el em bl bm eL eM hN
   go_enter Tryz.func49, Tryz.ntmps49
   go_upto_region 1 with fail
   obtain ⟨W0, hW0⟩ : ∃ W0, (w.alloc (.cells #[.int .i64 k, .int .i64 n, .string s, .slice pl nl cl, .slice pm nm cm] 25)) = W0 := ⟨_, rfl⟩
   rw [hW0] at hA0 hB0 ⊢
   clear hW0
   have hz := hA0.lt
   have c0 := hA0.cell 0 rfl
   have c3 := hA0.cell 3 rfl
   have c4 := hA0.cell 4 rfl
   dsimp only at c0 c3 c4
   have HA := Lib.hid hA0
   clear hA0
   go_cut [24] from 5 to 24 (fun v wr => ∃ b : Bool, v = .bool b /\ Hid (b = false -> k ≠ 5 -> nl = 0) /\ wr = W0)
   case first =>
    cases h5 : (k != 5) <;> cases h6 : (k != 6) <;> by_cases p1 : 0 < nl <;> by_cases p2 : 0 < nm
    all_goals go_wp2_with fail
    all_goals (go_meet; refine ⟨_, rfl, fun hb => ?_, rfl⟩; first | (cases hb; done) | exact own_leaf h5 (fun h => by first | (cases h; done) | exact p1))
   case rest =>
   obtain ⟨b, rfl, HB5, rfl⟩ := hcut
   cases b with
   | true =>
     go_wp2_with fail
     go_ret
     exact ⟨false, rfl, (fun h => by cases h), hB0⟩
   | false =>
     go_wp2_with fail
     go_loopw [3] (fun i wr => ∃ j : Nat, j <= nl /\ i = .int .i64 j /\ Below wc.heap.size wc wr) (fun i _ => nl - (intOf i).toNat)
     case atStart => exact ⟨0, Nat.zero_le _, rfl, Below.refl _ _⟩
     case round =>
      obtain ⟨j, hj, rfl, hbr⟩ := hrel
      have c3 := bcs hbr hz c3
      have hbw : Below w.heap.size w wr := hB0.trans (hbr.mono hB0.size)
      by_cases hlt : j < nl
      ·obtain ⟨tx, htx⟩ : ∃ x, l[j]? = some x := ⟨_, List.getElem?_eq_getElem (by have := E1.out; omega)⟩
       obtain ⟨x, hx⟩ : ∃ x, rs[j]? = some x := ⟨_, List.getElem?_eq_getElem (by have := E1.out; omega)⟩
       obtain ⟨b1, o1, rfl, hb1, hc1⟩ := rd_at' (HL.out.below hbw (Nat.le_refl _)) hx
       have f0 := hc1 0 _ rfl
       have f1 := hc1 1 _ rfl
       have f2 := hc1 2 _ rfl
       have f3 := hc1 3 _ rfl
       have f4 := hc1 4 _ rfl
       rw [Nat.add_zero] at f0
       have HC := Lib.hid (HT.out j tx x htx hx)
       have hk0 : (0 : Int) <= (j : Int) := Int.natCast_nonneg _
       have hk1 : (j : Int) < (nl : Int) := by omega
       have hzr : wc.heap.size <= wr.heap.size := hbr.size
       have HBR := Lib.hid hbr
       clear hc1 htx hx hbr
       go_wp2_with (go_at_call 49; refine (HC.out _ hbw).mono ?_; rintro e w1 ⟨b, rfl, hM, hb1'⟩; cases b)
       ·go_ret
        exact ⟨false, rfl, (fun h => by cases h), hbw.trans (hb1'.mono hbw.size)⟩
       ·go_roundw
        case rel => exact ⟨j + 1, by omega, by go_num, HBR.out.trans (hb1'.mono (by omega))⟩
        case measure => simp [intOf]; omega
      ·obtain rfl : j = nl := by omega
       have hz1 : wc.heap.size <= wr.heap.size := hbr.size
       have c4 := bcs hbr hz c4
       clear HT HL E1 hbr
       obtain ⟨wo, rfl⟩ : ∃ wo : World, wo = wr := ⟨_, rfl⟩
       go_wp2_with fail
       clear c3
       go_loopw [4] (fun i wq => ∃ j : Nat, j <= nm /\ i = .int .i64 j /\ Hid (∀ (i : Nat) p, i < j -> m[i]? = some p -> p.2.k ≠ 5 -> p.2.l = []) /\ Below wo.heap.size wo wq) (fun i _ => nm - (intOf i).toNat)
       case atStart => exact ⟨0, Nat.zero_le _, rfl, (fun i p h => by omega), Below.refl _ _⟩
       case round =>
        obtain ⟨wq, rfl⟩ : ∃ wq : World, wq = wr := ⟨_, rfl⟩
        obtain ⟨j, hj, rfl, HMJ, hbr⟩ := hrel
        have hbw2 : Below w.heap.size w wq := hbw.trans (hbr.mono (by omega))
        have c4 := bcs hbr (by omega) c4
        by_cases hlt : j < nm
        ·obtain ⟨tx, htx⟩ : ∃ x, m[j]? = some x := ⟨_, List.getElem?_eq_getElem (by have := E2.out; omega)⟩
         obtain ⟨x, hx⟩ : ∃ x, rms[j]? = some x := ⟨_, List.getElem?_eq_getElem (by have := E2.out; omega)⟩
         obtain ⟨b1, o1, rfl, hb1, hc1⟩ := rd_at' (HM.out.below hbw2 (Nat.le_refl _)) hx
         have f0 := hc1 0 _ rfl
         have f1 := hc1 1 _ rfl
         have f2 := hc1 2 _ rfl
         have f3 := hc1 3 _ rfl
         have f4 := hc1 4 _ rfl
         have f5 := hc1 5 _ rfl
         rw [Nat.add_zero] at f0
         have HC := Lib.hid (HS.out j tx x htx hx)
         have HTX := Lib.hid htx
         have hk0 : (0 : Int) <= (j : Int) := Int.natCast_nonneg _
         have hk1 : (j : Int) < (nm : Int) := by omega
         have hzr : wc.heap.size <= wq.heap.size := by have := hbr.size; omega
         have hzq : wo.heap.size <= wq.heap.size := hbr.size
         have HBR := Lib.hid hbr
         clear hc1 htx hx hbr
         go_wp2_with (go_at_call 49; refine (HC.out _ hbw2).mono ?_; rintro e w1 ⟨b, rfl, hM, hb1'⟩; cases b)
         ·go_ret
          exact ⟨false, rfl, (fun h => by cases h), hbw2.trans (hb1'.mono hbw2.size)⟩
         ·go_roundw
          case rel =>
           refine ⟨j + 1, by omega, by go_num, fun i p hi hp => ?_, HBR.out.trans (hb1'.mono (by omega))⟩
           by_cases hij : i < j
           ·exact HMJ.out i p hij hp
           ·obtain rfl : i = j := by omega
            obtain rfl : tx = p := Option.some.inj (HTX.out.symm.trans hp)
            exact (hM.out (by trivial)).1
          case measure => simp [intOf]; omega
        ·obtain rfl : j = nm := by omega
         go_wp2_with fail
         go_ret
         refine ⟨true, rfl, fun _ => ⟨fun hk => ?_, fun p hp => ?_⟩, hbw2⟩
         ·have h1 := HB5.out (by trivial) hk
          have h2 := HE1.out
          exact List.eq_nil_of_length_eq_zero (by show l.length = 0; omega)
         ·obtain ⟨i, hi⟩ := List.getElem?_of_mem hp
          have hlt := (List.getElem?_eq_some_iff.1 hi).1
          exact HMJ.out i p (by have := E2.out; have h3 : i < m.length := hlt; omega) hi
end
section
open Go Go.RowKit Go.OpenShut
theorem countL_tk {l : List JV} {j : Nat} {t : JV} (h : l[j]? = some t) : countL (l.take (j + 1)) = countL (l.take j) + countT t := by
 induction l generalizing j with
 | nil => simp at h
 | cons a l ih =>
   cases j with
   | zero =>
     simp only [List.getElem?_cons_zero, Option.some.injEq] at h
     subst h
     simp [countL]
   | succ j =>
     rw [List.getElem?_cons_succ] at h
     rw [List.take_succ_cons, List.take_succ_cons]
     unfold countL
     rw [ih h]
     omega
theorem countM_tk {l : List (ByteArray × JV)} {j : Nat} {t : ByteArray × JV} (h : l[j]? = some t) : countM (l.take (j + 1)) = countM (l.take j) + countT t.2 := by
 induction l generalizing j with
 | nil => simp at h
 | cons a l ih =>
   obtain ⟨a1, a2⟩ := a
   cases j with
   | zero =>
     simp only [List.getElem?_cons_zero, Option.some.injEq] at h
     subst h
     simp [countM]
   | succ j =>
     rw [List.getElem?_cons_succ] at h
     rw [List.take_succ_cons, List.take_succ_cons]
     unfold countM
     rw [ih h]
     omega
theorem countL_mono (l : List JV) (j : Nat) : countL (l.take j) <= countL l := by
 induction l generalizing j with
 | nil => simp
 | cons a l ih =>
   cases j with
   | zero => rw [List.take_zero, countL]; exact Nat.zero_le _
   | succ j => rw [List.take_succ_cons, countL, countL]; have := ih j; omega
theorem countM_mono (l : List (ByteArray × JV)) (j : Nat) : countM (l.take j) <= countM l := by
 induction l generalizing j with
 | nil => simp
 | cons a l ih =>
   obtain ⟨a1, a2⟩ := a
   cases j with
   | zero => rw [List.take_zero, countM]; exact Nat.zero_le _
   | succ j => rw [List.take_succ_cons, countM, countM]; have := ih j; omega
theorem cnt7_any (N : Nat) : ∀ (t : JV) (r : RV) (most : Nat) (w : World), SizeOf.sizeOf t <= N -> most <= 1000000 -> TreeOf w w.heap.size t r -> t.Ok ->
 Calls Tryz.prog 48 #[r.val, .int .i64 (most : Int)] w fun e w' => ∃ c : Nat, e = .returned (.int .i64 (c : Int)) /\ (c <= most + 1 /\ c <= countT t /\ (c <= most -> c = countT t)) /\ Below w.heap.size w w' := by
 induction N with
 | zero => intro t r most w hN; cases t; simp at hN
 | succ N ih =>
   intro t r most w hN hmost ht ot
   cases ht with
   | @mk _ l m rs rms hl el hcl hm em hcn hcm =>
   obtain ⟨k, n, s, pl, nl, cl, pm, nm, cm⟩ := r
   cases ot with
   | mk _ _ hss bl bm okl oks okm =>
   dsimp only [RV.val] at *
   have eL := rd_nlen hl
   have eM := rd_nlen hm
   have HT : Hid (∀ (i : Nat) t q, l[i]? = some t -> rs[i]? = some q -> ∀ W, Below w.heap.size w W -> ∀ (g : Nat) (k : Int), k = ((most - g : Nat) : Int) -> Calls Tryz.prog 48 #[q.val, .int .i64 k] W fun e w' => ∃ c : Nat, e = .returned (.int .i64 (c : Int)) /\ (c <= (most - g) + 1 /\ c <= countT t /\ (c <= most - g -> c = countT t)) /\ Below W.heap.size W w') :=
    fun i t q h1 h2 W hb g k' hk => by subst hk; exact ih t q (most - g) W (by have := JV.lt_l (k := k) (n := n) (s := s) (m := m) h1; omega) (by omega) ((hcl i t q h1 h2).under hb hb.size) (okl i t h1)
   have HS : Hid (∀ (i : Nat) p q, m[i]? = some p -> rms[i]? = some q -> ∀ W, Below w.heap.size w W -> ∀ (g : Nat) (k : Int), k = ((most - g : Nat) : Int) -> Calls Tryz.prog 48 #[q.v.val, .int .i64 k] W fun e w' => ∃ c : Nat, e = .returned (.int .i64 (c : Int)) /\ (c <= (most - g) + 1 /\ c <= countT p.2 /\ (c <= most - g -> c = countT p.2)) /\ Below W.heap.size W w') :=
    fun i p q h1 h2 W hb g k' hk => by subst hk; exact ih p.2 q.v (most - g) W (by have := JV.lt_m (k := k) (n := n) (s := s) (l := l) h1; omega) (by omega) ((hcm i p q h1 h2).under hb hb.size) (okm i p h1)
   have HFT : Hid (countT (.mk k n s l m) = 1 + countL l + countM m) := by unfold Hid; rw [countT]
   have HL := Lib.hid hl
   have HM := Lib.hid hm
   have E1 : Hid (l.length = nl /\ rs.length = nl) := ⟨by omega, by omega⟩
   have E2 : Hid (m.length = nm /\ rms.length = nm) := ⟨by omega, by omega⟩
   have hnl : nl <= 1759218604390 := by omega
   have hnm : nm <= 1466015503658 := by omega
   have hst : 1 <= 1 := Nat.le_refl 1
   have hst0 : (0 : Int) <= ((1 : Nat) : Int) := Int.natCast_nonneg _
   obtain ⟨R, hR⟩ : ∃ R, countT (.mk k n s l m) = R := ⟨_, rfl⟩
   rw [hR] at HFT ⊢
   clear hR
   have hA0 : VAt (w.alloc (.cells #[.int .i64 k, .int .i64 n, .string s, .slice pl nl cl, .slice pm nm cm] 25)) w.heap.size ⟨k, n, s, pl, nl, cl, pm, nm, cm⟩ := heap_alloc_at rfl
   have hB0 : Below w.heap.size w (w.alloc (.cells #[.int .i64 k, .int .i64 n, .string s, .slice pl nl cl, .slice pm nm cm] 25)) := (Below.refl _ _).alloc (Nat.le_refl _) _
   clear ih hcl hcn hcm hl hm okl oks okm el em bl bm eL eM hN
   go_enter Tryz.func48, Tryz.ntmps48
   go_upto_region 1 with fail
   obtain ⟨W0, hW0⟩ : ∃ W0, (w.alloc (.cells #[.int .i64 k, .int .i64 n, .string s, .slice pl nl cl, .slice pm nm cm] 25)) = W0 := ⟨_, rfl⟩
   rw [hW0] at hA0 hB0 ⊢
   clear hW0
   have hz := hA0.lt
   have c2 := hA0.cell 2 rfl
   have c3 := hA0.cell 3 rfl
   have c4 := hA0.cell 4 rfl
   dsimp only at c2 c3 c4
   clear hA0
   go_wp2_with fail
   go_loopw [5, 6] (fun a i wr => ∃ (g j : Nat), j <= nl /\ g <= most + 1 /\ Hid (g <= 1 + countL (l.take j) /\ (g <= most -> g = 1 + countL (l.take j))) /\ a = .int .i64 (g : Int) /\ i = .int .i64 j /\ Below W0.heap.size W0 wr) (fun _ i _ => nl - (intOf i).toNat)
   case atStart => exact ⟨1, 0, Nat.zero_le _, by omega, ⟨by rw [List.take_zero]; exact Nat.le_add_right _ _, fun _ => by (rw [List.take_zero, countL]; try omega)⟩, rfl, rfl, Below.refl _ _⟩
   case round =>
    obtain ⟨g, j, hj, hgb, HG, rfl, rfl, hbr⟩ := hrel
    have c3 := bcs hbr hz c3
    have hbw : Below w.heap.size w wr := hB0.trans (hbr.mono hB0.size)
    obtain ⟨wo, rfl⟩ : ∃ wo : World, wo = wr := ⟨_, rfl⟩
    have hg0 : (0 : Int) <= (g : Int) := Int.natCast_nonneg _
    by_cases hgo : j < nl /\ g <= most
    ·obtain ⟨hlt, hgm⟩ := hgo
     obtain ⟨tx, htx⟩ : ∃ x, l[j]? = some x := ⟨_, List.getElem?_eq_getElem (by have := E1.out; omega)⟩
     obtain ⟨x, hx⟩ : ∃ x, rs[j]? = some x := ⟨_, List.getElem?_eq_getElem (by have := E1.out; omega)⟩
     obtain ⟨b1, o1, rfl, hb1, hc1⟩ := rd_at' (HL.out.below hbw (Nat.le_refl _)) hx
     have f0 := hc1 0 _ rfl
     have f1 := hc1 1 _ rfl
     have f2 := hc1 2 _ rfl
     have f3 := hc1 3 _ rfl
     have f4 := hc1 4 _ rfl
     rw [Nat.add_zero] at f0
     have HC := Lib.hid (HT.out j tx x htx hx)
     have hk0 : (0 : Int) <= (j : Int) := Int.natCast_nonneg _
     have hk1 : (j : Int) < (nl : Int) := by omega
     have hgi : (g : Int) <= (most : Int) := by omega
     have hdg : decide ((g : Int) <= (most : Int)) = true := decide_eq_true hgi
     have hzr : W0.heap.size <= wo.heap.size := hbr.size
     have HBR := Lib.hid hbr
     have HTK := Lib.hid (countL_tk htx)
     clear hc1 htx hx hbr
     go_wp2_with (go_at_call 48; (with_reducible refine (HC.out _ hbw g _ ?num).mono ?_); (case num => (first | omega | (rw [IntKind.wrap_i64]; omega))); rintro e w1 ⟨c, rfl, ⟨hc1', hc2', hc3'⟩, hb1'⟩; (have hcc : (0 : Int) <= (c : Int) := Int.natCast_nonneg _))
     go_roundw
     case rel =>
      obtain ⟨hG1, hG2⟩ := HG.out
      exact ⟨g + c, j + 1, by omega, by omega, ⟨by rw [HTK.out]; omega, fun h => by rw [HTK.out, hG2 (by omega), hc3' (by omega)]; omega⟩, by go_num, by go_num, HBR.out.trans (hb1'.mono (by omega))⟩
     case measure => simp [intOf]; omega
    ·have hz1 : W0.heap.size <= wo.heap.size := hbr.size
     have c4 := bcs hbr hz c4
     have HG1 : Hid (g <= 1 + countL l /\ (g <= most -> g = 1 + countL l)) := by
      obtain ⟨hG1, hG2⟩ := HG.out
      have := countL_mono l j
      refine ⟨by omega, fun h => ?_⟩
      have hjn : j = nl := by omega
      have hln := E1.out.1
      rw [hG2 h, hjn, <- hln, List.take_length]
     clear HT HL E1 hbr HG
     by_cases p1 : j < nl
     all_goals (try (have hgm : ¬ g <= most := fun h => hgo ⟨p1, h⟩))
     all_goals (try (have hdg : decide ((g : Int) <= (most : Int)) = false := decide_eq_false (by omega)))
     all_goals clear hgo
     all_goals go_wp2_with fail
     all_goals clear c3
     all_goals (
     go_loopw [5, 7] (fun a i wq => ∃ (g j : Nat), j <= nm /\ g <= most + 1 /\ Hid (g <= 1 + countL l + countM (m.take j) /\ (g <= most -> g = 1 + countL l + countM (m.take j))) /\ a = .int .i64 (g : Int) /\ i = .int .i64 j /\ Below wo.heap.size wo wq) (fun _ i _ => nm - (intOf i).toNat)
     case atStart => exact ⟨g, 0, Nat.zero_le _, hgb, ⟨by rw [List.take_zero, countM]; exact HG1.out.1, fun h => by rw [List.take_zero, countM]; exact HG1.out.2 h⟩, rfl, rfl, Below.refl _ _⟩
     case round =>
      clear hgb hg0
      try clear hgm
      try clear hdg
      obtain ⟨g, j, hj, hgb, HG, rfl, rfl, hbr⟩ := hrel
      have hg0 : (0 : Int) <= (g : Int) := Int.natCast_nonneg _
      have hbw2 : Below w.heap.size w wr := hbw.trans (hbr.mono (by omega))
      have c4 := bcs hbr (by omega) c4
      obtain ⟨w3, rfl⟩ : ∃ w3 : World, w3 = wr := ⟨_, rfl⟩
      by_cases hgo : j < nm /\ g <= most
      ·obtain ⟨hlt, hgm⟩ := hgo
       obtain ⟨tx, htx⟩ : ∃ x, m[j]? = some x := ⟨_, List.getElem?_eq_getElem (by have := E2.out; omega)⟩
       obtain ⟨x, hx⟩ : ∃ x, rms[j]? = some x := ⟨_, List.getElem?_eq_getElem (by have := E2.out; omega)⟩
       obtain ⟨b1, o1, rfl, hb1, hc1⟩ := rd_at' (HM.out.below hbw2 (Nat.le_refl _)) hx
       have f0 := hc1 0 _ rfl
       have f1 := hc1 1 _ rfl
       have f2 := hc1 2 _ rfl
       have f3 := hc1 3 _ rfl
       have f4 := hc1 4 _ rfl
       have f5 := hc1 5 _ rfl
       rw [Nat.add_zero] at f0
       have HC := Lib.hid (HS.out j tx x htx hx)
       have hk0 : (0 : Int) <= (j : Int) := Int.natCast_nonneg _
       have hk1 : (j : Int) < (nm : Int) := by omega
       have hgi : (g : Int) <= (most : Int) := by omega
       have hdg : decide ((g : Int) <= (most : Int)) = true := decide_eq_true hgi
       have HBR := Lib.hid hbr
       have hzq : wo.heap.size <= w3.heap.size := hbr.size
       have HTK := Lib.hid (countM_tk htx)
       clear hc1 htx hx hbr
       go_wp2_with (go_at_call 48; (with_reducible refine (HC.out _ hbw2 g _ ?num).mono ?_); (case num => (first | omega | (rw [IntKind.wrap_i64]; omega))); rintro e w1 ⟨c, rfl, ⟨hc1', hc2', hc3'⟩, hb1'⟩; (have hcc : (0 : Int) <= (c : Int) := Int.natCast_nonneg _))
       go_roundw
       case rel =>
        obtain ⟨hG1, hG2⟩ := HG.out
        exact ⟨g + c, j + 1, by omega, by omega, ⟨by rw [HTK.out]; omega, fun h => by rw [HTK.out, hG2 (by omega), hc3' (by omega)]; omega⟩, by go_num, by go_num, HBR.out.trans (hb1'.mono (by omega))⟩
       case measure => simp [intOf]; omega
      ·have HG2 : Hid (g <= R /\ (g <= most -> g = R)) := by
        obtain ⟨hG1, hG2⟩ := HG.out
        have := countM_mono m j
        unfold Hid
        rw [HFT.out]
        refine ⟨by omega, fun h => ?_⟩
        have hjn : j = nm := by omega
        have hln := E2.out.1
        rw [hG2 h, hjn, <- hln, List.take_length]
       by_cases p1 : j < nm
       all_goals (try (have hgm : ¬ g <= most := fun h => hgo ⟨p1, h⟩))
       all_goals (try (have hdg : decide ((g : Int) <= (most : Int)) = false := decide_eq_false (by omega)))
       all_goals clear hgo
       all_goals go_wp2_with fail
       all_goals go_ret
       all_goals exact ⟨g, rfl, ⟨hgb, HG2.out.1, HG2.out.2⟩, hbw2⟩)
end
section
open Go.RowKit Go.OpenShut
def SomeC (t : JV) (n most : Nat) (w : World) (e : Ending) (w' : World) : Prop := ∃ b : Bool, e = .returned (.bool b) /\ Hid (b = true -> n <= 10000 /\ OwnM t /\ countT t <= most) /\ Below w.heap.size w w'
theorem few7c_any (t : JV) (r : RV) (most : Nat) (w : World) (hmost : most <= 1000000) (ht : TreeOf w w.heap.size t r) (ot : t.Ok) :
 Calls Tryz.prog 18 #[r.val, .int .i64 (most : Int)] w (SomeC t r.nm most w) := by
 have HT := Lib.hid ht
 have hA0 : VAt (w.alloc (.cells #[.int .i64 r.k, .int .i64 r.n, .string r.s, .slice r.pl r.nl r.cl, .slice r.pm r.nm r.cm] 25)) w.heap.size r := heap_alloc_at rfl
 have hB0 : Below w.heap.size w (w.alloc (.cells #[.int .i64 r.k, .int .i64 r.n, .string r.s, .slice r.pl r.nl r.cl, .slice r.pm r.nm r.cm] 25)) := (Below.refl _ _).alloc (Nat.le_refl _) _
 clear ht
 go_enter Tryz.func18, Tryz.ntmps18
 go_upto_region 1 with fail
 obtain ⟨W0, hW0⟩ : ∃ W0, (w.alloc (.cells #[.int .i64 r.k, .int .i64 r.n, .string r.s, .slice r.pl r.nl r.cl, .slice r.pm r.nm r.cm] 25)) = W0 := ⟨_, rfl⟩
 rw [hW0] at hA0 hB0 ⊢
 clear hW0
 have hz := hA0.lt
 obtain ⟨c0, c1, c2, c3, c4⟩ := hA0.cells5
 clear hA0
 have HD : Hid (∀ W, Below w.heap.size w W -> Calls Tryz.prog 47 #[r.val, .int .i64 100] W (SomeF r.nm W)) := fun W hb => deep7_any t r W (HT.out.under hb hb.size) ot
 have HN : Hid (∀ W, Below w.heap.size w W -> Calls Tryz.prog 48 #[r.val, .int .i64 (most : Int)] W fun e w' => ∃ c : Nat, e = .returned (.int .i64 (c : Int)) /\ (c <= most + 1 /\ c <= countT t /\ (c <= most -> c = countT t)) /\ Below W.heap.size W w') := fun W hb => cnt7_any _ t r most W (Nat.le_refl _) hmost (HT.out.under hb hb.size) ot
 have HO : Hid (∀ W, Below w.heap.size w W -> Calls Tryz.prog 49 #[r.val] W (OwnRet7 W t)) := fun W hb => own7m_any _ t r W (Nat.le_refl _) (HT.out.under hb hb.size) ot
 go_wp2_with (first
  | (go_at_call 47; refine (HD.out _ hB0).mono ?_; rintro e w1 ⟨b1, rfl, hbL, hbA⟩; (have hb1 := hB0.trans (hbA.mono hB0.size)); (have d0 := bcs hbA hz c0); (have d1 := bcs hbA hz c1); (have d2 := bcs hbA hz c2); (have d3 := bcs hbA hz c3); (have d4 := bcs hbA hz c4); cases b1)
  | (go_at_call 48; refine (HN.out _ hb1).mono ?_; rintro e w2 ⟨d, rfl, hdd, hbB⟩; (have hb2 := hb1.trans (hbB.mono hb1.size)); (have hz1 := Nat.lt_of_lt_of_le hz hbA.size); (have e0 := bcs hbB hz1 d0); (have e1 := bcs hbB hz1 d1); (have e2 := bcs hbB hz1 d2); (have e3 := bcs hbB hz1 d3); (have e4 := bcs hbB hz1 d4); (by_cases hd : (d : Int) <= (most : Int)))
  | (go_at_call 49; refine (HO.out _ hb2).mono ?_; rintro e w3 ⟨b3, rfl, hM, hbC⟩; (have hb3 := hb2.trans (hbC.mono hb2.size))))
 all_goals go_ret
 all_goals first | (refine ⟨b3, rfl, ?_, hb3⟩; have h := hbL.out; exact fun hb => ⟨h trivial, hM.out hb, by have := hdd.2.2 (by omega); omega⟩) | exact ⟨false, rfl, (fun h => by cases h), hb2⟩ | exact ⟨false, rfl, (fun h => by cases h), hb1⟩
end
section
open Go Go.RowKit Go.OpenShut
theorem rdays_any (y m d : Int) (w : World) (y0 : -1 <= y) (y1 : y <= 9999) (m0 : -1 <= m) (m1 : m <= 99) (d0 : -1 <= d) (d1 : d <= 99) : Calls Tryz.prog 85 #[.int .i64 y, .int .i64 m, .int .i64 d] w fun e w' => e = .returned (dayRet (daysF y m d)) /\ w = w' := by
 have HDF : Hid (daysF y m d = if 0 <= y /\ y <= 9999 /\ 1 <= m /\ m <= 12 /\ 1 <= d /\ d <= monthF y m then some (aheadF y - aheadF 1970 + monthsF y (m.toNat - 1) + d - 1) else none) := rfl
 obtain ⟨R, hR⟩ : ∃ R, daysF y m d = R := ⟨_, rfl⟩
 rw [hR] at HDF
 rw [hR]
 clear hR
 have q2 : decide ((9999 : Int) < y) = false := decide_eq_false (by omega)
 by_cases hg : 0 <= y /\ 1 <= m /\ m <= 12 /\ 1 <= d
 ·obtain ⟨g0, g1, g2, g3⟩ := hg
  have q1 : decide (y < 0) = false := decide_eq_false (by omega)
  have q3 : decide (m < 1) = false := decide_eq_false (by omega)
  have q4 : decide ((12 : Int) < m) = false := decide_eq_false (by omega)
  have q5 : decide (d < 1) = false := decide_eq_false (by omega)
  have HLG : Hid (∀ v k W, 0 <= v -> v <= 10000 -> 1 <= k -> k <= 12 -> Calls Tryz.prog 113 #[.int .i64 v, .int .i64 k] W fun e w' => e = .returned (.int .i64 (monthF v k)) /\ W = w') := fun v k W a b c e => rlong_any v k W a b c e
  have HL1 := Lib.hid (fun W => HLG.out y m W g0 (by omega) g1 g2)
  obtain ⟨M, hM⟩ : ∃ M, monthF y m = M := ⟨_, rfl⟩
  rw [hM] at HL1 HDF
  obtain ⟨p, hp⟩ : ∃ p, decide (M < d) = p := ⟨_, rfl⟩
  cases p with
  | true =>
    have hMd := of_decide_eq_true hp
    have HR : Hid (R = none) := by unfold Hid; rw [HDF.out, if_neg (by omega)]
    clear hM
    go_enter Tryz.func85, Tryz.ntmps85
    go_wp2_with (first | (go_at_call 113; (with_reducible refine (HL1.out _).mono ?_); rintro e w1 ⟨rfl, rfl⟩) | fail)
    rw [HR.out]
    refine bodyPost_ret (v := .tuple #[.int .i64 0, .bool false]) (by simp [results, Tryz.results85, go_sem]) rfl ⟨rfl, rfl⟩
  | false =>
    have hMd := of_decide_eq_false hp
    have HR : Hid (R = some (aheadF y - aheadF 1970 + monthsF y (m.toNat - 1) + d - 1)) := by unfold Hid; rw [HDF.out, if_pos (by omega)]
    clear hM HDF
    go_enter Tryz.func85, Tryz.ntmps85
    go_upto_region 5 with (first | (go_at_call 113; (with_reducible refine (HL1.out _).mono ?_); rintro e w1 ⟨rfl, rfl⟩) | fail)
    go_loopw [8, 9] (fun t v wr => ∃ u : Int, 1970 <= u /\ (u = 1970 \/ u <= y) /\ v = .int .i64 u /\ t = .int .i64 (aheadF u - aheadF 1970) /\ w = wr) (fun _ v _ => (y - intOf v).toNat)
    case atStart => exact ⟨1970, by omega, .inl rfl, rfl, by rw [Int.sub_self], rfl⟩
    case round =>
     obtain ⟨u, u0, u1, rfl, rfl, rfl⟩ := hrel
     have hub : u <= 10000 := by omega
     obtain ⟨b0, b1⟩ := aheadF_bound (y := u) (by omega) hub
     have e7 : aheadF 1970 = 719528 := by decide
     by_cases hlt : u < y
     ·have r1 : decide (u < y) = true := decide_eq_true hlt
      have HLU := Lib.hid (fun W => HLG.out u 2 W (by omega) hub (by decide) (by decide))
      have HST := Lib.hid (ahead_step (y := u) (by omega))
      have hmp := month_pos u 2
      obtain ⟨a, ha⟩ : ∃ a, aheadF u = a := ⟨_, rfl⟩
      obtain ⟨l, hl⟩ : ∃ l, monthF u 2 = l := ⟨_, rfl⟩
      rw [ha] at HST b0 b1
      rw [hl] at HST hmp HLU
      rw [e7, ha]
      have HE := Lib.hid e7
      clear ha hl e7
      go_wp2_with (first | (go_at_call 113; (with_reducible refine (HLU.out _).mono ?_); rintro e w1 ⟨rfl, rfl⟩) | fail)
      go_roundw
      case rel => exact ⟨u + 1, by omega, .inr (by omega), by go_num, by rw [HST.out]; (try rw [HE.out]); congr 1; omega, by trivial⟩
      case measure => simp [intOf]; omega
     ·have r1 : decide (u < y) = false := decide_eq_false hlt
      obtain ⟨V, hV⟩ : ∃ V, aheadF u - aheadF 1970 = V := ⟨_, rfl⟩
      rw [hV]
      have HV := Lib.hid hV
      have HE := Lib.hid e7
      clear hV e7
      go_upto_region 9 with fail
      go_loopw [8, 10] (fun t v wr => ∃ u2 : Int, y <= u2 /\ u2 <= u /\ v = .int .i64 u2 /\ t = .int .i64 (V - (aheadF u2 - aheadF y)) /\ w = wr) (fun _ v _ => (1970 - intOf v).toNat)
      case atStart => exact ⟨y, by omega, by omega, rfl, by rw [Int.sub_self, Int.sub_zero], rfl⟩
      case round =>
       obtain ⟨u2, v0, v1, rfl, rfl, rfl⟩ := hrel
       obtain ⟨c0, c1⟩ := aheadF_bound (y := u2) (by omega) (by omega)
       obtain ⟨d3, d4⟩ := aheadF_bound (y := y) g0 (by omega)
       have hVV := HV.out
       rw [HE.out] at hVV
       by_cases hlt2 : u2 < 1970
       ·have r2 : decide (u2 < 1970) = true := decide_eq_true hlt2
        have HLU := Lib.hid (fun W => HLG.out u2 2 W (by omega) (by omega) (by decide) (by decide))
        have HST := Lib.hid (ahead_step (y := u2) (by omega))
        have hmp := month_pos u2 2
        obtain ⟨a, ha⟩ : ∃ a, aheadF u2 = a := ⟨_, rfl⟩
        obtain ⟨z, hz⟩ : ∃ a, aheadF y = a := ⟨_, rfl⟩
        obtain ⟨l, hl⟩ : ∃ l, monthF u2 2 = l := ⟨_, rfl⟩
        rw [ha] at HST c0 c1
        rw [hl] at HST hmp HLU
        rw [hz] at d3 d4
        rw [ha, hz]
        have HZ := Lib.hid hz
        have bV : -800000 <= V /\ V <= 4000000 := by omega
        obtain ⟨bV0, bV1⟩ := bV
        clear ha hl hz hVV
        go_wp2_with (first | (go_at_call 113; (with_reducible refine (HLU.out _).mono ?_); rintro e w1 ⟨rfl, rfl⟩) | fail)
        go_roundw
        case rel => exact ⟨u2 + 1, by omega, by omega, by go_num, by rw [HST.out]; (try rw [HZ.out]); congr 1; omega, by trivial⟩
        case measure => simp [intOf]; omega
       ·have r2 : decide (u2 < 1970) = false := decide_eq_false hlt2
        have hS : V - (aheadF u2 - aheadF y) = aheadF y - aheadF 1970 := by
         rcases u1 with h | h
         ·have : u2 = 1970 := by omega
          subst this
          rw [<- HV.out, h]
          omega
         ·have h5 : u2 = y := by omega
          have h6 : u = y := by omega
          rw [<- HV.out, h5, h6]
          omega
        rw [hS, HE.out]
        obtain ⟨z, hz⟩ : ∃ a, aheadF y = a := ⟨_, rfl⟩
        rw [hz] at d3 d4 HR
        rw [hz]
        clear hz hS hVV
        go_upto_region 13 with fail
        go_loopw [8, 11] (fun t v wr => ∃ j : Int, 1 <= j /\ j <= m /\ v = .int .i64 j /\ t = .int .i64 (z - 719528 + monthsF y (j.toNat - 1)) /\ w = wr) (fun _ v _ => (m - intOf v).toNat)
        case atStart => exact ⟨1, by omega, by omega, rfl, by show _ = Value.int .i64 (z - 719528 + 0); rw [Int.add_zero], rfl⟩
        case round =>
         obtain ⟨j, j0, j1, rfl, rfl, rfl⟩ := hrel
         obtain ⟨k, hk⟩ : ∃ k : Nat, j.toNat - 1 = k := ⟨_, rfl⟩
         have hjk : ((k + 1 : Nat) : Int) = j := by omega
         have hkb : k <= 12 := by omega
         obtain ⟨s0, s1⟩ := monthsF_bound y k
         have hsb : monthsF y k <= 400 := by omega
         rw [hk]
         by_cases hlt3 : j < m
         ·have r3 : decide (j < m) = true := decide_eq_true hlt3
          have HLU := Lib.hid (fun W => HLG.out y j W g0 (by omega) j0 (by omega))
          have hmp := month_pos y j
          have HST : Hid (monthsF y ((j + 1).toNat - 1) = monthsF y k + monthF y j) := by
           unfold Hid
           rw [show (j + 1).toNat - 1 = k + 1 by omega, <- hjk]
           rfl
          obtain ⟨a, ha⟩ : ∃ a, monthsF y k = a := ⟨_, rfl⟩
          obtain ⟨l, hl⟩ : ∃ l, monthF y j = l := ⟨_, rfl⟩
          rw [ha] at HST s0 hsb
          rw [hl] at HST hmp HLU
          rw [ha]
          clear ha hl s1 hjk hk
          go_wp2_with (first | (go_at_call 113; (with_reducible refine (HLU.out _).mono ?_); rintro e w1 ⟨rfl, rfl⟩) | fail)
          go_roundw
          case rel => exact ⟨j + 1, by omega, by omega, by go_num, by rw [HST.out]; congr 1; omega, by trivial⟩
          case measure => simp [intOf]; omega
         ·obtain rfl : j = m := by omega
          have r3 : decide (j < j) = false := decide_eq_false (by omega)
          rw [hk] at HR
          obtain ⟨a, ha⟩ : ∃ a, monthsF y k = a := ⟨_, rfl⟩
          rw [ha] at s0 hsb HR
          rw [ha]
          have HR2 : Hid (R = some (z - 719528 + a + d - 1)) := by unfold Hid; rw [HR.out, HE.out]
          clear ha s1 hjk hk
          go_wp2_with fail
          rw [HR2.out]
          refine bodyPost_ret (v := .tuple #[.int .i64 (z - 719528 + a + d - 1), .bool true]) (by simp [results, Tryz.results85, go_sem]) rfl ⟨rfl, rfl⟩
 ·have HR : Hid (R = none) := by unfold Hid; rw [HDF.out, if_neg (fun e => hg ⟨e.1, e.2.2.1, e.2.2.2.1, e.2.2.2.2.1⟩)]
  obtain ⟨p1, hp1⟩ : ∃ p, decide (y < 0) = p := ⟨_, rfl⟩
  obtain ⟨p3, hp3⟩ : ∃ p, decide (m < 1) = p := ⟨_, rfl⟩
  obtain ⟨p4, hp4⟩ : ∃ p, decide ((12 : Int) < m) = p := ⟨_, rfl⟩
  obtain ⟨p5, hp5⟩ : ∃ p, decide (d < 1) = p := ⟨_, rfl⟩
  cases p1 <;> cases p3 <;> cases p4 <;> cases p5
  case false.false.false.false =>
   have := of_decide_eq_false hp1
   have := of_decide_eq_false hp3
   have := of_decide_eq_false hp4
   have := of_decide_eq_false hp5
   exact absurd ⟨by omega, by omega, by omega, by omega⟩ hg
  all_goals
   clear hg HDF
   go_enter Tryz.func85, Tryz.ntmps85
   go_wp2_with fail
   rw [HR.out]
   refine bodyPost_ret (v := .tuple #[.int .i64 0, .bool false]) (by simp [results, Tryz.results85, go_sem]) rfl ⟨rfl, rfl⟩
end
end Go.Proofs.YtffhccmppdgmfaaGreatDoor
