import Derived.Test.YtffhccmppdgmfaaGreatDoorG17
import Derived.Test.YtffhccmppdgmfaaGreatDoorG11
import Derived.Test.YtffhccmppdgmfaaGreatDoorG19
import Derived.Test.YtffhccmppdgmfaaGreatDoorG08
import Derived.Test.YtffhccmppdgmfaaGreatDoorG03
import Derived.Test.YtffhccmppdgmfaaGreatDoorG00
import Derived.Test.YtffhccmppdgmfaaGreatDoorG04
import Derived.Test.YtffhccmppdgmfaaGreatDoorG02
import Derived.BigQuiet
import Derived.Deep.RegionHeld3
import Derived.Test.YtffhccmppdgmfaaGreatDoorG06
set_option linter.unusedSimpArgs false
set_option linter.unusedVariables false
set_option maxRecDepth 200000
set_option maxHeartbeats 8000000
namespace Go.Proofs.YtffhccmppdgmfaaGreatDoor
section
open Go Go.RowKit Go.OpenShut
theorem sameP_yes20 (w : World) (B : Nat) (u v : Value) (l : List ByteArray) (hu : Rd w B encS 1 u l) (hv : Rd w B encS 1 v l) : Calls Tryz.prog 25 #[u, v] w fun e w' => e = .returned (.bool true) /\ ∃ n, w' = w.drewN n := (sameParts_any w B u v l l hu hv).mono (fun e w' h => by rw [decide_eq_true rfl] at h; exact h)
theorem n20_tree (w : World) (B : Nat) : TreeOf w B n20J ⟨1, 0, ⟨#[]⟩, none, 0, 0, none, 0, 0⟩ := TreeOf.mk (r := ⟨1, 0, ⟨#[]⟩, none, 0, 0, none, 0, 0⟩) (rs := []) (rms := []) (Rd.nil _ _) rfl (fun i t q h => by simp at h) (Rd.nil _ _) rfl (fun i p q h => by simp at h) (fun i p q h => by simp at h)
theorem awake20_any (w : World) (hall : AllAt w) (hmax : MaxAt w) : Calls Tryz.prog 17 #[] w fun e w' => e = .returned (.bool true) /\ Below w.heap.size w w' := by
 have HRf : Hid (∀ W, Calls Tryz.prog 38 #[.string tx20f] W (ReadRet W f20J)) := fun W => read_any W tx20f f20J (by decide) read20_f
 have HRg : Hid (∀ W, Calls Tryz.prog 38 #[.string tx20g] W (ReadRet W g20J)) := fun W => read_any W tx20g g20J (by decide) read20_g
 have HRh : Hid (∀ W, Calls Tryz.prog 38 #[.string tx20h] W (ReadRet W h20J)) := fun W => read_any W tx20h h20J (by decide) read20_h
 have HRv : Hid (∀ W, Calls Tryz.prog 38 #[.string tx20v] W (ReadRet W v20J)) := fun W => read_any W tx20v v20J (by decide) read20_v
 unfold tx20f at HRf
 unfold tx20g at HRg
 unfold tx20h at HRh
 unfold tx20v at HRv
 have HALL := Lib.hid hall
 have HMAX := Lib.hid hmax
 clear hall hmax
 go_enter Tryz.func17, Tryz.ntmps17
 go_upto_region 2 with (go_at_call 38; refine (HRf.out _).mono ?_; rintro e wf ⟨rf, rfl, htf, hbf⟩; obtain ⟨fk, fn, fS, fpl, fnl, fcl, fpm, fnm, fcm⟩ := rf)
 have hvf : VAt (wf.alloc (.cells #[.int .i64 fk, .int .i64 fn, .string fS, .slice fpl fnl fcl, .slice fpm fnm fcm] 25)) wf.heap.size ⟨fk, fn, fS, fpl, fnl, fcl, fpm, fnm, fcm⟩ := heap_alloc_at rfl
 have hbbf := hbf.alloc hbf.size (.cells #[.int .i64 fk, .int .i64 fn, .string fS, .slice fpl fnl fcl, .slice fpm fnm fcm] 25)
 have hTf : TreeOf (wf.alloc (.cells #[.int .i64 fk, .int .i64 fn, .string fS, .slice fpl fnl fcl, .slice fpm fnm fcm] 25)) wf.heap.size f20J ⟨fk, fn, fS, fpl, fnl, fcl, fpm, fnm, fcm⟩ := htf.under ((Below.refl _ _).alloc (Nat.le_refl _) _) (Nat.le_refl _)
 have hB := hbbf
 obtain ⟨gf, hgf⟩ : ∃ g, wf.heap.size = g := ⟨_, rfl⟩
 obtain ⟨Wf, hWf⟩ : ∃ W, wf.alloc (.cells #[.int .i64 fk, .int .i64 fn, .string fS, .slice fpl fnl fcl, .slice fpm fnm fcm] 25) = W := ⟨_, rfl⟩
 rw [hWf, hgf] at hvf hTf
 rw [hWf] at hB
 try rw [hWf]
 try rw [hgf]
 replace hTf := hTf.under (Below.refl _ Wf) (Nat.le_of_lt hvf.lt)
 clear hWf hgf htf hbf hbbf HRf
 go_upto_region 3 with (go_at_call 38; refine (HRg.out _).mono ?_; rintro e wg ⟨rg, rfl, htg, hbg⟩; obtain ⟨gk, gn, gS, gpl, gnl, gcl, gpm, gnm, gcm⟩ := rg)
 have hvg : VAt (wg.alloc (.cells #[.int .i64 gk, .int .i64 gn, .string gS, .slice gpl gnl gcl, .slice gpm gnm gcm] 25)) wg.heap.size ⟨gk, gn, gS, gpl, gnl, gcl, gpm, gnm, gcm⟩ := heap_alloc_at rfl
 have hbbg := hbg.alloc hbg.size (.cells #[.int .i64 gk, .int .i64 gn, .string gS, .slice gpl gnl gcl, .slice gpm gnm gcm] 25)
 have hTg : TreeOf (wg.alloc (.cells #[.int .i64 gk, .int .i64 gn, .string gS, .slice gpl gnl gcl, .slice gpm gnm gcm] 25)) wg.heap.size g20J ⟨gk, gn, gS, gpl, gnl, gcl, gpm, gnm, gcm⟩ := htg.under ((Below.refl _ _).alloc (Nat.le_refl _) _) (Nat.le_refl _)
 replace hvf := hvf.under hbbg hvf.lt
 replace hTf := hTf.under hbbg hbbg.size
 replace hB := hB.trans (hbbg.mono hB.size)
 obtain ⟨gg, hgg⟩ : ∃ g, wg.heap.size = g := ⟨_, rfl⟩
 obtain ⟨Wg, hWg⟩ : ∃ W, wg.alloc (.cells #[.int .i64 gk, .int .i64 gn, .string gS, .slice gpl gnl gcl, .slice gpm gnm gcm] 25) = W := ⟨_, rfl⟩
 rw [hWg, hgg] at hvg hTg
 rw [hWg] at hB hvf hTf
 try rw [hWg]
 try rw [hgg]
 replace hTg := hTg.under (Below.refl _ Wg) (Nat.le_of_lt hvg.lt)
 clear hWg hgg htg hbg hbbg HRg
 go_upto_region 4 with (go_at_call 38; refine (HRh.out _).mono ?_; rintro e wh ⟨rh, rfl, hth, hbh⟩; obtain ⟨hk, hn, hS, hpl, hnl, hcl, hpm, hnm, hcm⟩ := rh)
 have hvh : VAt (wh.alloc (.cells #[.int .i64 hk, .int .i64 hn, .string hS, .slice hpl hnl hcl, .slice hpm hnm hcm] 25)) wh.heap.size ⟨hk, hn, hS, hpl, hnl, hcl, hpm, hnm, hcm⟩ := heap_alloc_at rfl
 have hbbh := hbh.alloc hbh.size (.cells #[.int .i64 hk, .int .i64 hn, .string hS, .slice hpl hnl hcl, .slice hpm hnm hcm] 25)
 have hTh : TreeOf (wh.alloc (.cells #[.int .i64 hk, .int .i64 hn, .string hS, .slice hpl hnl hcl, .slice hpm hnm hcm] 25)) wh.heap.size h20J ⟨hk, hn, hS, hpl, hnl, hcl, hpm, hnm, hcm⟩ := hth.under ((Below.refl _ _).alloc (Nat.le_refl _) _) (Nat.le_refl _)
 replace hvf := hvf.under hbbh hvf.lt
 replace hTf := hTf.under hbbh hbbh.size
 replace hvg := hvg.under hbbh hvg.lt
 replace hTg := hTg.under hbbh hbbh.size
 replace hB := hB.trans (hbbh.mono hB.size)
 obtain ⟨gh, hgh⟩ : ∃ g, wh.heap.size = g := ⟨_, rfl⟩
 obtain ⟨Wh, hWh⟩ : ∃ W, wh.alloc (.cells #[.int .i64 hk, .int .i64 hn, .string hS, .slice hpl hnl hcl, .slice hpm hnm hcm] 25) = W := ⟨_, rfl⟩
 rw [hWh, hgh] at hvh hTh
 rw [hWh] at hB hvf hTf hvg hTg
 try rw [hWh]
 try rw [hgh]
 replace hTh := hTh.under (Below.refl _ Wh) (Nat.le_of_lt hvh.lt)
 clear hWh hgh hth hbh hbbh HRh
 go_upto_region 5 with (go_at_call 38; refine (HRv.out _).mono ?_; rintro e wv ⟨rv, rfl, htv, hbv⟩; obtain ⟨vk, vn, vS, vpl, vnl, vcl, vpm, vnm, vcm⟩ := rv)
 have hvv : VAt (wv.alloc (.cells #[.int .i64 vk, .int .i64 vn, .string vS, .slice vpl vnl vcl, .slice vpm vnm vcm] 25)) wv.heap.size ⟨vk, vn, vS, vpl, vnl, vcl, vpm, vnm, vcm⟩ := heap_alloc_at rfl
 have hbbv := hbv.alloc hbv.size (.cells #[.int .i64 vk, .int .i64 vn, .string vS, .slice vpl vnl vcl, .slice vpm vnm vcm] 25)
 have hTv : TreeOf (wv.alloc (.cells #[.int .i64 vk, .int .i64 vn, .string vS, .slice vpl vnl vcl, .slice vpm vnm vcm] 25)) wv.heap.size v20J ⟨vk, vn, vS, vpl, vnl, vcl, vpm, vnm, vcm⟩ := htv.under ((Below.refl _ _).alloc (Nat.le_refl _) _) (Nat.le_refl _)
 replace hvf := hvf.under hbbv hvf.lt
 replace hTf := hTf.under hbbv hbbv.size
 replace hvg := hvg.under hbbv hvg.lt
 replace hTg := hTg.under hbbv hbbv.size
 replace hvh := hvh.under hbbv hvh.lt
 replace hTh := hTh.under hbbv hbbv.size
 replace hB := hB.trans (hbbv.mono hB.size)
 obtain ⟨gv, hgv⟩ : ∃ g, wv.heap.size = g := ⟨_, rfl⟩
 obtain ⟨Wv, hWv⟩ : ∃ W, wv.alloc (.cells #[.int .i64 vk, .int .i64 vn, .string vS, .slice vpl vnl vcl, .slice vpm vnm vcm] 25) = W := ⟨_, rfl⟩
 rw [hWv, hgv] at hvv hTv
 rw [hWv] at hB hvf hTf hvg hTg hvh hTh
 try rw [hWv]
 try rw [hgv]
 replace hTv := hTv.under (Below.refl _ Wv) (Nat.le_of_lt hvv.lt)
 clear hWv hgv htv hbv hbbv HRv
 obtain ⟨cf, cg, ch, cv, zv, cn⟩ := aw20_c
 have hallW : Hid (∀ W, Below Wv.heap.size Wv W -> AllAt W) := fun W hW => (HALL.out.below hB).below hW
 have hmaxW : Hid (∀ W, Below Wv.heap.size Wv W -> MaxAt W) := fun W hW => (HMAX.out.below hB).below hW
 have H1 : Hid (∀ W, Below Wv.heap.size Wv W -> Calls Tryz.prog 23 #[.agg #[.int .i64 fk, .int .i64 fn, .string fS, .slice fpl fnl fcl, .slice fpm fnm fcm], .agg #[.int .i64 vk, .int .i64 vn, .string vS, .slice vpl vnl vcl, .slice vpm vnm vcm]] W fun e w' => e = .returned (.bool true) /\ Below W.heap.size W w') := fun W hW => by
  have h := svHolds_any f20J v20J ⟨fk, fn, fS, fpl, fnl, fcl, fpm, fnm, fcm⟩ ⟨vk, vn, vS, vpl, vnl, vcl, vpm, vnm, vcm⟩ W Wv.heap.size hW.size (hTf.under hW (Nat.le_refl _)) (hTv.under hW (Nat.le_refl _)) f20_ok v20_ok cf cv zv (fun h => by cases h) (hallW.out W hW) (hmaxW.out W hW)
  rw [aw20_1] at h
  exact h
 have H5 : Hid (∀ W, Below Wv.heap.size Wv W -> Calls Tryz.prog 23 #[.agg #[.int .i64 1, .int .i64 0, .string ⟨#[]⟩, .slice none 0 0, .slice none 0 0], .agg #[.int .i64 vk, .int .i64 vn, .string vS, .slice vpl vnl vcl, .slice vpm vnm vcm]] W fun e w' => e = .returned (.bool true) /\ Below W.heap.size W w') := fun W hW => by
  have h := svHolds_any n20J v20J ⟨1, 0, ⟨#[]⟩, none, 0, 0, none, 0, 0⟩ ⟨vk, vn, vS, vpl, vnl, vcl, vpm, vnm, vcm⟩ W Wv.heap.size hW.size (n20_tree _ _) (hTv.under hW (Nat.le_refl _)) n20_ok v20_ok cn cv zv (fun _ => rfl) (hallW.out W hW) (hmaxW.out W hW)
  rw [aw20_5] at h
  exact h
 have H2 : Hid (∀ W, Below Wv.heap.size Wv W -> Calls Tryz.prog 19 #[.agg #[.int .i64 gk, .int .i64 gn, .string gS, .slice gpl gnl gcl, .slice gpm gnm gcm]] W fun e w' => e = .returned (.int .i64 200) /\ Below W.heap.size W w') := fun W hW => by
  have h := svCheck_any g20J ⟨gk, gn, gS, gpl, gnl, gcl, gpm, gnm, gcm⟩ W Wv.heap.size hW.size (hTg.under hW (Nat.le_refl _)) g20_ok cg (hallW.out W hW)
  rw [aw20_2] at h
  exact h
 have H3 : Hid (∀ W, Below Wv.heap.size Wv W -> Calls Tryz.prog 19 #[.agg #[.int .i64 hk, .int .i64 hn, .string hS, .slice hpl hnl hcl, .slice hpm hnm hcm]] W fun e w' => e = .returned (.int .i64 1) /\ Below W.heap.size W w') := fun W hW => by
  have h := svCheck_any h20J ⟨hk, hn, hS, hpl, hnl, hcl, hpm, hnm, hcm⟩ W Wv.heap.size hW.size (hTh.under hW (Nat.le_refl _)) h20_ok ch (hallW.out W hW)
  rw [aw20_3] at h
  exact h
 have H4 : Hid (∀ W, Below Wv.heap.size Wv W -> Calls Tryz.prog 26 #[.agg #[.int .i64 vk, .int .i64 vn, .string vS, .slice vpl vnl vcl, .slice vpm vnm vcm], .string ⟨#[116, 101, 120, 116]⟩] W (OwnRet W 9 encS 1 [⟨#[65, 100, 97]⟩, ⟨#[65]⟩])) := fun W hW => by
  have h := svtexts_any v20J ⟨vk, vn, vS, vpl, vnl, vcl, vpm, vnm, vcm⟩ svText W Wv.heap.size hW.size (hTv.under hW (Nat.le_refl _)) v20_ok cv (hallW.out W hW)
  rw [aw20_4] at h
  exact h
 obtain ⟨p0, p1, p2, p3, p4⟩ := hvf.cells5
 dsimp only at p0 p1 p2 p3 p4
 obtain ⟨q0, q1, q2, q3, q4⟩ := hvv.cells5
 dsimp only at q0 q1 q2 q3 q4
 have HB := Lib.hid hB
 have hk0 : Below Wv.heap.size Wv Wv := Below.refl _ _
 clear hTf hTg hTh hTv cf cg ch cv zv cn hB
 go_wp2_with (first
  | (go_at_call 23; (with_reducible refine (H1.out _ hk0).mono ?_); rintro e w1 ⟨rfl, hk1⟩; (have s0 := bcs hk1 hvg.lt (hvg.cell 0 rfl)); (have s1 := bcs hk1 hvg.lt (hvg.cell 1 rfl)); (have s2 := bcs hk1 hvg.lt (hvg.cell 2 rfl)); (have s3 := bcs hk1 hvg.lt (hvg.cell 3 rfl)); (have s4 := bcs hk1 hvg.lt (hvg.cell 4 rfl)); dsimp only at s0 s1 s2 s3 s4)
  | (go_at_call 19; (with_reducible refine (H2.out _ hk1).mono ?_); rintro e w2 ⟨rfl, hb2⟩; (have hk2 := hk1.trans (hb2.mono hk1.size)); (have t0 := bcs hk2 hvh.lt (hvh.cell 0 rfl)); (have t1 := bcs hk2 hvh.lt (hvh.cell 1 rfl)); (have t2 := bcs hk2 hvh.lt (hvh.cell 2 rfl)); (have t3 := bcs hk2 hvh.lt (hvh.cell 3 rfl)); (have t4 := bcs hk2 hvh.lt (hvh.cell 4 rfl)); dsimp only at t0 t1 t2 t3 t4)
  | (go_at_call 19; (with_reducible refine (H3.out _ hk2).mono ?_); rintro e w3 ⟨rfl, hb3⟩; (have hk3 := hk2.trans (hb3.mono hk2.size)); (have x0 := bcs hk3 hvv.lt (hvv.cell 0 rfl)); (have x1 := bcs hk3 hvv.lt (hvv.cell 1 rfl)); (have x2 := bcs hk3 hvv.lt (hvv.cell 2 rfl)); (have x3 := bcs hk3 hvv.lt (hvv.cell 3 rfl)); (have x4 := bcs hk3 hvv.lt (hvv.cell 4 rfl)); dsimp only at x0 x1 x2 x3 x4)
  | (go_at_call 26; (with_reducible refine (H4.out _ hk3).mono ?_); rintro e w4 ⟨u, rfl, ho4, hb4⟩; (have hk4 := hk3.trans (hb4.mono hk3.size)); (have HO4 := Lib.hid (ho4.rd codecS)); clear ho4)
  | (go_at_call 25; (have hSP := sameP_yes20 (w4.alloc (.cells #[.string ⟨#[65, 100, 97]⟩, .string ⟨#[65]⟩] 9)) (w4.heap.size + 1) u (.slice (some ⟨w4.heap.size, 0, none⟩) 2 2) [⟨#[65, 100, 97]⟩, ⟨#[65]⟩] (HO4.out.below ((Below.refl _ _).alloc (Nat.le_refl _) _) (by omega)) (Rd.block (xs := [(⟨#[65, 100, 97]⟩ : ByteArray), ⟨#[65]⟩]) codecS (heap_alloc_at rfl) rfl (by omega) (show 2 <= maxLen by decide))); (with_reducible refine hSP.mono ?_); rintro e w5 ⟨rfl, n5, rfl⟩; (have hk5 := bdn (hk4.alloc hk4.size (.cells #[.string ⟨#[65, 100, 97]⟩, .string ⟨#[65]⟩] 9)) n5); (have y0 := bcs hk5 hvv.lt (hvv.cell 0 rfl)); (have y1 := bcs hk5 hvv.lt (hvv.cell 1 rfl)); (have y2 := bcs hk5 hvv.lt (hvv.cell 2 rfl)); (have y3 := bcs hk5 hvv.lt (hvv.cell 3 rfl)); (have y4 := bcs hk5 hvv.lt (hvv.cell 4 rfl)); dsimp only at y0 y1 y2 y3 y4)
  | (go_at_call 23; (with_reducible refine (H5.out _ hk5).mono ?_); rintro e w6 ⟨rfl, hb6⟩; (have hk6 := hk5.trans (hb6.mono hk5.size)))
  | fail)
 go_ret
 exact ⟨rfl, HB.out.trans (hk6.mono HB.out.size)⟩
end
section
open Go.RowKit Go.OpenShut
def TreesV (w : World) (B : Nat) (xs : List RV) : Prop := ∀ x ∈ xs, ∃ t : JV, t.Ok /\ TreeOf w B t x
theorem TreesV.under {w w' : World} {B B' : Nat} {xs : List RV} (h : TreesV w B xs) (hb : Below B w w') (hB : B <= B') : TreesV w' B' xs := fun x hx => by
 obtain ⟨t, h1, h2⟩ := h x hx
 exact ⟨t, h1, h2.under hb hB⟩
theorem TreesV.append {w : World} {B : Nat} {xs ys : List RV} (h : TreesV w B xs) (h' : TreesV w B ys) : TreesV w B (xs ++ ys) := fun x hx => by
 rcases List.mem_append.1 hx with h1 | h1
 ·exact h x h1
 ·exact h' x h1
theorem TreesV.nil (w : World) (B : Nat) : TreesV w B [] := fun x hx => by cases hx
theorem TreesV.one {w : World} {B : Nat} {t : JV} {x : RV} (ot : t.Ok) (h : TreeOf w B t x) : TreesV w B [x] := fun y hy => by
 cases List.mem_singleton.1 hy
 exact ⟨t, ot, h⟩
theorem TreeOf.opened {w : World} {B : Nat} {t : JV} {x : RV} (ot : t.Ok) (h : TreeOf w B t x) : ∃ (rs : List RV) (rms : List RM), Rd w B encV 5 (.slice x.pl x.nl x.cl) rs /\ rs.length = x.nl /\ TreesV w B rs /\ x.nl <= 1759218604390 /\
 Rd w B encM 6 (.slice x.pm x.nm x.cm) rms /\ rms.length = x.nm /\ (∀ (i : Nat) (y : RM), rms[i]? = some y -> ∃ t : JV, t.Ok /\ TreeOf w B t y.v) /\ x.nm <= 1466015503658 := by
 cases h with
 | @mk _ l m rs rms hl el hcl hm em hcn hcm =>
 cases ot with
 | mk _ _ _ bl bm okl oks okm =>
 have eL := rd_nlen hl
 have eM := rd_nlen hm
 refine ⟨rs, rms, hl, by omega, ?_, by omega, hm, by omega, ?_, by omega⟩
 ·intro y hy
  obtain ⟨i, hi, rfl⟩ := List.mem_iff_getElem.1 hy
  exact ⟨l[i], okl i _ (List.getElem?_eq_getElem (by omega)), hcl i _ _ (List.getElem?_eq_getElem (by omega)) (List.getElem?_eq_getElem hi)⟩
 ·intro i y hy
  have hi : i < rms.length := by
   rcases Nat.lt_or_ge i rms.length with h | h
   ·exact h
   ·rw [List.getElem?_eq_none h] at hy; cases hy
  exact ⟨(m[i]'(by omega)).2, okm i _ (List.getElem?_eq_getElem (by omega)), hcm i _ _ (List.getElem?_eq_getElem (by omega)) hy⟩
structure GrowV (W0 : World) (B : Nat) (rs : List RV) (v : Value) (W : World) : Prop where
 own : Own W W0.heap.size 25 encV 5 v rs
 each : TreesV W B rs
 below : Below W0.heap.size W0 W
theorem GrowV.drewN {W0 W : World} {B : Nat} {rs : List RV} {v : Value} (h : GrowV W0 B rs v W) (n : Nat) : GrowV W0 B rs v (W.drewN n) :=
 ⟨h.own, h.each.under (bdn (Below.refl _ _) n) (Nat.le_refl _), bdn h.below n⟩
theorem GrowV.alloc {W0 W : World} {B : Nat} {rs : List RV} {v : Value} (h : GrowV W0 B rs v W) (hB : B <= W0.heap.size) (o : Obj) : GrowV W0 B rs v (W.alloc o) := by
 have := h.below.size
 exact ⟨h.own.alloc o, h.each.under ((Below.refl _ _).alloc (by omega) o) (Nat.le_refl _), h.below.alloc (by omega) o⟩
theorem GrowV.push {W0 W W2 : World} {B : Nat} {rs ys : List RV} {v v' : Value} (h : GrowV W0 B rs v W) (hB : B <= W0.heap.size) (ho : Own W2 W0.heap.size 25 encV 5 v' (rs ++ ys)) (hg : W.grownBy W2 v.ownBlock) (hy : TreesV W B ys) : GrowV W0 B (rs ++ ys) v' W2 := by
 have hb : Below W0.heap.size W W2 := Below.appended (Below.refl _ _) hg h.own h.below.size
 exact ⟨ho, (h.each.append hy).under (hb.mono hB) (Nat.le_refl _), h.below.trans hb⟩
theorem level7_step (N : Nat) (ih : ∀ (most : Int) (p : Option Addr) (n c : Nat) (xs : List RV) (w : World) (B : Nat), most.toNat < N -> most <= 100 -> B <= w.heap.size -> Rd w B encV 5 (.slice p n c) xs -> TreesV w B xs -> n <= 20000 ->
 Calls Tryz.prog 86 #[.slice p n c, .int .i64 most] w (SomeB w)) : ∀ (most : Int) (p : Option Addr) (n c : Nat) (xs : List RV) (w : World) (B : Nat), most.toNat = N -> most <= 100 -> B <= w.heap.size -> Rd w B encV 5 (.slice p n c) xs -> TreesV w B xs -> n <= 20000 ->
 Calls Tryz.prog 86 #[.slice p n c, .int .i64 most] w (SomeB w) := by
 intro most p n c xs w B hN hm hB hr hx hn
 have eL := rd_nlen hr
 have HIH := Lib.hid ih
 have HR := Lib.hid hr
 have HX := Lib.hid hx
 have E1 : Hid (xs.length = n) := by unfold Hid; omega
 clear ih hr hx eL
 go_enter Tryz.func86, Tryz.ntmps86
 go_wp2_with fail
 go_loopw [5, 6] (fun a i wr => ∃ (j : Nat) (rs : List RV) (p' : Option Addr) (n' c' : Nat), j <= n /\ a = .slice p' n' c' /\ i = .int .i64 j /\ rs.length = n' /\ n' <= 20000 /\ Hid (GrowV w B rs (.slice p' n' c') wr)) (fun _ i _ => n - (intOf i).toNat)
 case atStart => exact ⟨0, [], none, 0, 0, Nat.zero_le _, rfl, rfl, rfl, by omega, ⟨Own.nil _ _ _, TreesV.nil _ _, Below.refl _ _⟩⟩
 case round =>
  obtain ⟨j, rs, p', n', c', hj, rfl, rfl, hrs, hn', HG⟩ := hrel
  have HRS := Lib.hid hrs
  have hbr := HG.out.below
  clear hrs
  by_cases hlt : j < n
  ·obtain ⟨x, hx⟩ : ∃ x, xs[j]? = some x := ⟨_, List.getElem?_eq_getElem (by have := E1.out; omega)⟩
   obtain ⟨b1, o1, rfl, hb1, hc1⟩ := rd_at' HR.out hx
   have g0 := hc1 0 _ rfl
   have g1 := hc1 1 _ rfl
   have g2 := hc1 2 _ rfl
   have g3 := hc1 3 _ rfl
   have g4 := hc1 4 _ rfl
   rw [Nat.add_zero] at g0
   have f3 := bcs (hbr.mono hB) hb1 g3
   have f4 := bcs (hbr.mono hB) hb1 g4
   obtain ⟨tx, otx, htx⟩ := HX.out x (List.mem_of_getElem? hx)
   obtain ⟨rs1, rms1, hL, eL1, hTL, hL9, hM, eM1, hTM, hM9⟩ := htx.opened otx
   have HL := Lib.hid hL
   have HM := Lib.hid hM
   have HTL := Lib.hid hTL
   have HTM := Lib.hid hTM
   have EL := Lib.hid eL1
   have EM := Lib.hid eM1
   have hk0 : (0 : Int) <= (j : Int) := Int.natCast_nonneg _
   have hk1 : (j : Int) < (n : Int) := by omega
   clear hc1 hx otx htx hL hM hTL hTM eL1 eM1 g0 g1 g2
   have G4 := Lib.hid g4
   clear g3 g4
   by_cases hbig : x.nl + x.nm <= 20000
   ·go_wp2_with fail
    go_quiet (fail)
    have HG1 : ∀ q, Hid (GrowV w B rs (.slice p' n' c') (wr.drewN q)) := fun q => HG.out.drewN q
    have HL1 : ∀ q, Hid (Rd (wr.drewN q) B encV 5 (.slice x.pl x.nl x.cl) rs1) := fun q => (HL.out.below (hbr.mono hB) (Nat.le_refl _)).drewN q
    have HT1 : ∀ q, Hid (TreesV (wr.drewN q) B rs1) := fun q => HTL.out.under (bdn (hbr.mono hB) q) (Nat.le_refl _)
    have hws : ∀ q, Hid (w.heap.size <= (wr.drewN q).heap.size) := fun q => (HG1 q).out.below.size
    go_wp2_with (at_builtin; refine wpList_append_rd slV codecV _ rfl (.tmp 28) (.tmp 33) rfl (v := .slice p' n' c') rfl rfl (HG1 _).out.own (HL1 _).out ?_ ?_ ?_ ?_; (· have := HRS.out; have := EL.out; unfold maxLen; omega); (· have := HRS.out; have := EL.out; omega); (· exact (hws _).out); intro v2 w2 ho2 hg2 hat2; obtain ⟨p2, c2, hv2, hq1, hq2⟩ := ho2.len; (have hv3 : v2 = .slice p2 (n' + x.nl) c2 := by rw [hv2, List.length_append, HRS.out, EL.out]); clear hv2; subst hv3; clear hq1 hq2; (have HG2 : Hid (GrowV w B (rs ++ rs1) (.slice p2 (n' + x.nl) c2) w2) := (HG1 _).out.push hB ho2 hg2 (HT1 _).out); clear ho2 hg2 hat2; go_frame)
    have HRS2 : Hid ((rs ++ rs1).length = n' + x.nl) := by rw [List.length_append, HRS.out, EL.out]; exact rfl
    have hbr2 := HG2.out.below
    clear HG1 HL1 HT1 hws HL HTL HG HRS hbr f3 f4
    go_loopw [5, 7] (fun a i wr => ∃ (j2 : Nat) (rs2 : List RV) (p3 : Option Addr) (n3 c3 : Nat), j2 <= x.nm /\ a = .slice p3 n3 c3 /\ i = .int .i64 j2 /\ rs2.length = n3 /\ n3 = n' + x.nl + j2 /\ Hid (GrowV w B rs2 (.slice p3 n3 c3) wr)) (fun _ i _ => x.nm - (intOf i).toNat)
    case atStart => exact ⟨0, rs ++ rs1, p2, n' + x.nl, c2, Nat.zero_le _, rfl, rfl, HRS2.out, rfl, HG2⟩
    case round =>
     obtain ⟨j2, rs2, p3, n3, c3, hj2, rfl, rfl, hrs3, hn3, HG3⟩ := hrel
     have HRS3 := Lib.hid hrs3
     have HN3 := Lib.hid hn3
     have hbr3 := HG3.out.below
     have f4 := bcs (hbr3.mono hB) hb1 G4.out
     clear hrs3 hn3
     by_cases hlt2 : j2 < x.nm
     ·obtain ⟨y, hy⟩ : ∃ y, rms1[j2]? = some y := ⟨_, List.getElem?_eq_getElem (by have := EM.out; omega)⟩
      obtain ⟨b2, o2, e2, hb2, hc2⟩ := rd_at' (HM.out.below (hbr3.mono hB) (Nat.le_refl _)) hy
      rw [e2] at f4
      have h0 := hc2 0 _ rfl
      have h1 := hc2 1 _ rfl
      have h2 := hc2 2 _ rfl
      have h3 := hc2 3 _ rfl
      have h4 := hc2 4 _ rfl
      have h5 := hc2 5 _ rfl
      rw [Nat.add_zero] at h0
      obtain ⟨ty, oty, hty⟩ := HTM.out j2 y hy
      have hT4 : Hid (TreesV wr B [y.v]) := TreesV.one oty (hty.under (hbr3.mono hB) (Nat.le_refl _))
      have hk2 : (0 : Int) <= (j2 : Int) := Int.natCast_nonneg _
      have hk3 : (j2 : Int) < (x.nm : Int) := by omega
      have E2 := Lib.hid e2
      clear hc2 hy oty hty e2
      have HG4 : Hid (GrowV w B rs2 (.slice p3 n3 c3) (wr.alloc (.cells #[.int .i64 y.v.k, .int .i64 y.v.n, .string y.v.s, .slice y.v.pl y.v.nl y.v.cl, .slice y.v.pm y.v.nm y.v.cm] 25))) := HG3.out.alloc hB _
      have HT4 : Hid (TreesV (wr.alloc (.cells #[.int .i64 y.v.k, .int .i64 y.v.n, .string y.v.s, .slice y.v.pl y.v.nl y.v.cl, .slice y.v.pm y.v.nm y.v.cm] 25)) B [y.v]) := hT4.out.under ((Below.refl _ _).alloc (by have := hbr3.size; omega) _) (Nat.le_refl _)
      go_wp2_with (at_builtin; refine wpList_append_rd slV codecV (wr.alloc (.cells #[.int .i64 y.v.k, .int .i64 y.v.n, .string y.v.s, .slice y.v.pl y.v.nl y.v.cl, .slice y.v.pm y.v.nm y.v.cm] 25)) rfl (.tmp 45) (.tmp 55) rfl (v := .slice p3 n3 c3) rfl rfl HG4.out.own (Rd.one (B := wr.heap.size + 1) (x := y.v) codecV (heap_alloc_new _ _) rfl (by omega)) ?_ ?_ ?_ ?_; (· have := HRS3.out; have := HN3.out; simp; unfold maxLen; omega); (· have := HRS3.out; have := HN3.out; simp; omega); (· exact HG4.out.below.size); intro v2 w2 ho2 hg2 hat2; obtain ⟨p4, c4, hv2, hq1, hq2⟩ := ho2.len; (have hv3 : v2 = .slice p4 (n3 + 1) c4 := by rw [hv2, List.length_append, HRS3.out]; rfl); clear hv2; subst hv3; clear hq1 hq2; (have HG5 : Hid (GrowV w B (rs2 ++ [y.v]) (.slice p4 (n3 + 1) c4) w2) := HG4.out.push hB ho2 hg2 HT4.out); clear ho2 hg2 hat2; go_frame)
      go_roundw
      case rel => exact ⟨j2 + 1, rs2 ++ [y.v], p4, n3 + 1, c4, by omega, rfl, by go_num, by rw [List.length_append, HRS3.out]; rfl, by have := HN3.out; omega, HG5⟩
      case measure => simp [intOf]; omega
     ·have := HN3.out
      by_cases hend : n3 <= 20000
      ·go_wp2_with fail
       go_roundw
       case rel => exact ⟨j + 1, rs2, p3, n3, c3, by omega, rfl, by go_num, HRS3.out, hend, HG3⟩
       case measure => simp [intOf]; omega
      ·go_wp2_with fail
       go_ret
       exact ⟨false, rfl, hbr3⟩
   ·go_wp2_with fail
    go_quiet (fail)
    go_wp2_with fail
    go_ret
    exact ⟨false, rfl, bdn hbr _⟩
  ·by_cases hz : n' = 0
   ·subst hz
    go_wp2_with fail
    go_ret
    exact ⟨true, rfl, hbr⟩
   ·by_cases hpos : 0 < most
    ·have HC : Hid (Calls Tryz.prog 86 #[.slice p' n' c', .int .i64 (most - 1)] wr (SomeB wr)) :=
      HIH.out (most - 1) p' n' c' rs wr wr.heap.size (by omega) (by omega) (Nat.le_refl _) (HG.out.own.rd codecV) (HG.out.each.under (Below.refl _ _) (by have := hbr.size; omega)) hn'
     have hw : IntKind.i64.wrap (most - 1) = most - 1 := by rw [IntKind.wrap_i64]; omega
     go_wp2_with (go_at_call 86; refine HC.out.mono ?_; rintro e w1 ⟨b, rfl, hb1'⟩)
     go_ret
     exact ⟨_, rfl, hbr.trans (hb1'.mono hbr.size)⟩
    ·go_wp2_with fail
     go_ret
     exact ⟨_, rfl, hbr⟩
theorem level7_any (N : Nat) : ∀ (most : Int) (p : Option Addr) (n c : Nat) (xs : List RV) (w : World) (B : Nat), most.toNat = N -> most <= 100 -> B <= w.heap.size -> Rd w B encV 5 (.slice p n c) xs -> TreesV w B xs -> n <= 20000 ->
 Calls Tryz.prog 86 #[.slice p n c, .int .i64 most] w (SomeB w) := by
 induction N using Nat.strongRecOn with
 | _ N ih => exact level7_step N fun most p n c xs w B h => ih _ h most p n c xs w B rfl
def SomeF (n : Nat) (w : World) (e : Ending) (w' : World) : Prop := ∃ b : Bool, e = .returned (.bool b) /\ Hid (b = true -> n <= 10000) /\ Below w.heap.size w w'
theorem deep7_any (t : JV) (r : RV) (w : World) (ht : TreeOf w w.heap.size t r) (ot : t.Ok) :
 Calls Tryz.prog 47 #[r.val, .int .i64 100] w (SomeF r.nm w) := by
 obtain ⟨rs, rms, hl, el, hT, bl, hm, em, hTM, bm⟩ := ht.opened ot
 obtain ⟨k, n, s, pl, nl, cl, pm, nm, cm⟩ := r
 dsimp only [RV.val] at *
 have hA0 : VAt (w.alloc (.cells #[.int .i64 k, .int .i64 n, .string s, .slice pl nl cl, .slice pm nm cm] 25)) w.heap.size ⟨k, n, s, pl, nl, cl, pm, nm, cm⟩ := heap_alloc_at rfl
 have hB0 : Below w.heap.size w (w.alloc (.cells #[.int .i64 k, .int .i64 n, .string s, .slice pl nl cl, .slice pm nm cm] 25)) := (Below.refl _ _).alloc (Nat.le_refl _) _
 have HT := Lib.hid ht
 clear hl hT hm hTM el em ht
 go_enter Tryz.func47, Tryz.ntmps47
 go_upto_region 1 with fail
 obtain ⟨W0, hW0⟩ : ∃ W0, (w.alloc (.cells #[.int .i64 k, .int .i64 n, .string s, .slice pl nl cl, .slice pm nm cm] 25)) = W0 := ⟨_, rfl⟩
 rw [hW0] at hA0 hB0 ⊢
 clear hW0
 have hz := hA0.lt
 obtain ⟨c0, c1, c2, c3, c4⟩ := hA0.cells5
 dsimp only at c0 c1 c2 c3 c4
 clear hA0
 have HC : Hid (Calls Tryz.prog 86 #[.slice (some ⟨W0.heap.size, 0, none⟩) 1 1, .int .i64 100] (W0.alloc (.cells #[.int .i64 k, .int .i64 n, .string s, .slice pl nl cl, .slice pm nm cm] 25)) (SomeB (W0.alloc (.cells #[.int .i64 k, .int .i64 n, .string s, .slice pl nl cl, .slice pm nm cm] 25)))) :=
  level7_any _ 100 _ 1 1 [⟨k, n, s, pl, nl, cl, pm, nm, cm⟩] _ (W0.heap.size + 1) rfl (by decide) (by simp) (Rd.one codecV (heap_alloc_new _ _) rfl (by omega)) (TreesV.one ot (HT.out.under (hB0.alloc hB0.size _) (by have := hB0.size; omega))) (by decide)
 by_cases h1 : nl <= 10000
 ·by_cases h2 : nm <= 10000
  ·have hnm : Hid (∀ b : Bool, b = true -> nm <= 10000) := fun _ _ => h2
   go_wp2_with (go_at_call 86; refine HC.out.mono ?_; rintro e w1 ⟨b, rfl, hb1'⟩)
   all_goals go_ret
   all_goals exact ⟨_, rfl, hnm.out _, (hB0.alloc hB0.size _).trans (hb1'.mono (by have := hB0.size; simp; omega))⟩
  ·go_wp2_with fail
   go_ret
   exact ⟨false, rfl, (fun h => by cases h), hB0⟩
 ·go_wp2_with fail
  go_ret
  exact ⟨false, rfl, (fun h => by cases h), hB0⟩
def OwnM (t : JV) : Prop := (t.k ≠ 5 -> t.l = []) /\ ∀ p ∈ t.m, p.2.k ≠ 5 -> p.2.l = []
theorem own_leaf {k : Int} {nl : Nat} {b5 : Bool} (h5 : (k != 5) = b5) (h : b5 = true -> ¬ 0 < nl) : k ≠ 5 -> nl = 0 := fun hk => by
 have h2 : (k != 5) = true := by simpa using hk
 have := h (h5.symm.trans h2)
 omega
theorem BoxD.ext' {a b : BoxD} (h1 : a.objs = b.objs) (h2 : a.trail = b.trail) (h3 : a.seq = b.seq) (h4 : a.floor = b.floor) (h5 : a.keep = b.keep) : a = b := by
 cases a; cases b; simp_all
end
section
open Go Go.RowKit Go.OpenShut
theorem countL_tk {l : List JV} {j : Nat} {t : JV} (h : l[j]? = some t) : countL (l.take (j + 1)) = countL (l.take j) + countT t := by
 induction l generalizing j with
 | nil => simp at h
 | cons a l ih =>
   cases j with
   | zero =>
     simp only [List.getElem?_cons_zero, Option.some.injEq] at h
     subst h
     simp [countL]
   | succ j =>
     rw [List.getElem?_cons_succ] at h
     rw [List.take_succ_cons, List.take_succ_cons]
     unfold countL
     rw [ih h]
     omega
theorem countM_tk {l : List (ByteArray × JV)} {j : Nat} {t : ByteArray × JV} (h : l[j]? = some t) : countM (l.take (j + 1)) = countM (l.take j) + countT t.2 := by
 induction l generalizing j with
 | nil => simp at h
 | cons a l ih =>
   obtain ⟨a1, a2⟩ := a
   cases j with
   | zero =>
     simp only [List.getElem?_cons_zero, Option.some.injEq] at h
     subst h
     simp [countM]
   | succ j =>
     rw [List.getElem?_cons_succ] at h
     rw [List.take_succ_cons, List.take_succ_cons]
     unfold countM
     rw [ih h]
     omega
theorem countL_mono (l : List JV) (j : Nat) : countL (l.take j) <= countL l := by
 induction l generalizing j with
 | nil => simp
 | cons a l ih =>
   cases j with
   | zero => rw [List.take_zero, countL]; exact Nat.zero_le _
   | succ j => rw [List.take_succ_cons, countL, countL]; have := ih j; omega
theorem countM_mono (l : List (ByteArray × JV)) (j : Nat) : countM (l.take j) <= countM l := by
 induction l generalizing j with
 | nil => simp
 | cons a l ih =>
   obtain ⟨a1, a2⟩ := a
   cases j with
   | zero => rw [List.take_zero, countM]; exact Nat.zero_le _
   | succ j => rw [List.take_succ_cons, countM, countM]; have := ih j; omega
theorem cnt7_any (N : Nat) : ∀ (t : JV) (r : RV) (most : Nat) (w : World), SizeOf.sizeOf t <= N -> most <= 1000000 -> TreeOf w w.heap.size t r -> t.Ok ->
 Calls Tryz.prog 48 #[r.val, .int .i64 (most : Int)] w fun e w' => ∃ c : Nat, e = .returned (.int .i64 (c : Int)) /\ (c <= most + 1 /\ c <= countT t /\ (c <= most -> c = countT t)) /\ Below w.heap.size w w' := by
 induction N with
 | zero => intro t r most w hN; cases t; simp at hN
 | succ N ih =>
   intro t r most w hN hmost ht ot
   cases ht with
   | @mk _ l m rs rms hl el hcl hm em hcn hcm =>
   obtain ⟨k, n, s, pl, nl, cl, pm, nm, cm⟩ := r
   cases ot with
   | mk _ _ hss bl bm okl oks okm =>
   dsimp only [RV.val] at *
   have eL := rd_nlen hl
   have eM := rd_nlen hm
   have HT : Hid (∀ (i : Nat) t q, l[i]? = some t -> rs[i]? = some q -> ∀ W, Below w.heap.size w W -> ∀ (g : Nat) (k : Int), k = ((most - g : Nat) : Int) -> Calls Tryz.prog 48 #[q.val, .int .i64 k] W fun e w' => ∃ c : Nat, e = .returned (.int .i64 (c : Int)) /\ (c <= (most - g) + 1 /\ c <= countT t /\ (c <= most - g -> c = countT t)) /\ Below W.heap.size W w') :=
    fun i t q h1 h2 W hb g k' hk => by subst hk; exact ih t q (most - g) W (by have := JV.lt_l (k := k) (n := n) (s := s) (m := m) h1; omega) (by omega) ((hcl i t q h1 h2).under hb hb.size) (okl i t h1)
   have HS : Hid (∀ (i : Nat) p q, m[i]? = some p -> rms[i]? = some q -> ∀ W, Below w.heap.size w W -> ∀ (g : Nat) (k : Int), k = ((most - g : Nat) : Int) -> Calls Tryz.prog 48 #[q.v.val, .int .i64 k] W fun e w' => ∃ c : Nat, e = .returned (.int .i64 (c : Int)) /\ (c <= (most - g) + 1 /\ c <= countT p.2 /\ (c <= most - g -> c = countT p.2)) /\ Below W.heap.size W w') :=
    fun i p q h1 h2 W hb g k' hk => by subst hk; exact ih p.2 q.v (most - g) W (by have := JV.lt_m (k := k) (n := n) (s := s) (l := l) h1; omega) (by omega) ((hcm i p q h1 h2).under hb hb.size) (okm i p h1)
   have HFT : Hid (countT (.mk k n s l m) = 1 + countL l + countM m) := by unfold Hid; rw [countT]
   have HL := Lib.hid hl
   have HM := Lib.hid hm
   have E1 : Hid (l.length = nl /\ rs.length = nl) := ⟨by omega, by omega⟩
   have E2 : Hid (m.length = nm /\ rms.length = nm) := ⟨by omega, by omega⟩
   have hnl : nl <= 1759218604390 := by omega
   have hnm : nm <= 1466015503658 := by omega
   have hst : 1 <= 1 := Nat.le_refl 1
   have hst0 : (0 : Int) <= ((1 : Nat) : Int) := Int.natCast_nonneg _
   obtain ⟨R, hR⟩ : ∃ R, countT (.mk k n s l m) = R := ⟨_, rfl⟩
   rw [hR] at HFT ⊢
   clear hR
   have hA0 : VAt (w.alloc (.cells #[.int .i64 k, .int .i64 n, .string s, .slice pl nl cl, .slice pm nm cm] 25)) w.heap.size ⟨k, n, s, pl, nl, cl, pm, nm, cm⟩ := heap_alloc_at rfl
   have hB0 : Below w.heap.size w (w.alloc (.cells #[.int .i64 k, .int .i64 n, .string s, .slice pl nl cl, .slice pm nm cm] 25)) := (Below.refl _ _).alloc (Nat.le_refl _) _
   clear ih hcl hcn hcm hl hm okl oks okm el em bl bm eL eM hN
   go_enter Tryz.func48, Tryz.ntmps48
   go_upto_region 1 with fail
   obtain ⟨W0, hW0⟩ : ∃ W0, (w.alloc (.cells #[.int .i64 k, .int .i64 n, .string s, .slice pl nl cl, .slice pm nm cm] 25)) = W0 := ⟨_, rfl⟩
   rw [hW0] at hA0 hB0 ⊢
   clear hW0
   have hz := hA0.lt
   have c2 := hA0.cell 2 rfl
   have c3 := hA0.cell 3 rfl
   have c4 := hA0.cell 4 rfl
   dsimp only at c2 c3 c4
   clear hA0
   go_wp2_with fail
   go_loopw [5, 6] (fun a i wr => ∃ (g j : Nat), j <= nl /\ g <= most + 1 /\ Hid (g <= 1 + countL (l.take j) /\ (g <= most -> g = 1 + countL (l.take j))) /\ a = .int .i64 (g : Int) /\ i = .int .i64 j /\ Below W0.heap.size W0 wr) (fun _ i _ => nl - (intOf i).toNat)
   case atStart => exact ⟨1, 0, Nat.zero_le _, by omega, ⟨by rw [List.take_zero]; exact Nat.le_add_right _ _, fun _ => by (rw [List.take_zero, countL]; try omega)⟩, rfl, rfl, Below.refl _ _⟩
   case round =>
    obtain ⟨g, j, hj, hgb, HG, rfl, rfl, hbr⟩ := hrel
    have c3 := bcs hbr hz c3
    have hbw : Below w.heap.size w wr := hB0.trans (hbr.mono hB0.size)
    obtain ⟨wo, rfl⟩ : ∃ wo : World, wo = wr := ⟨_, rfl⟩
    have hg0 : (0 : Int) <= (g : Int) := Int.natCast_nonneg _
    by_cases hgo : j < nl /\ g <= most
    ·obtain ⟨hlt, hgm⟩ := hgo
     obtain ⟨tx, htx⟩ : ∃ x, l[j]? = some x := ⟨_, List.getElem?_eq_getElem (by have := E1.out; omega)⟩
     obtain ⟨x, hx⟩ : ∃ x, rs[j]? = some x := ⟨_, List.getElem?_eq_getElem (by have := E1.out; omega)⟩
     obtain ⟨b1, o1, rfl, hb1, hc1⟩ := rd_at' (HL.out.below hbw (Nat.le_refl _)) hx
     have f0 := hc1 0 _ rfl
     have f1 := hc1 1 _ rfl
     have f2 := hc1 2 _ rfl
     have f3 := hc1 3 _ rfl
     have f4 := hc1 4 _ rfl
     rw [Nat.add_zero] at f0
     have HC := Lib.hid (HT.out j tx x htx hx)
     have hk0 : (0 : Int) <= (j : Int) := Int.natCast_nonneg _
     have hk1 : (j : Int) < (nl : Int) := by omega
     have hgi : (g : Int) <= (most : Int) := by omega
     have hdg : decide ((g : Int) <= (most : Int)) = true := decide_eq_true hgi
     have hzr : W0.heap.size <= wo.heap.size := hbr.size
     have HBR := Lib.hid hbr
     have HTK := Lib.hid (countL_tk htx)
     clear hc1 htx hx hbr
     go_wp2_with (go_at_call 48; (with_reducible refine (HC.out _ hbw g _ ?num).mono ?_); (case num => (first | omega | (rw [IntKind.wrap_i64]; omega))); rintro e w1 ⟨c, rfl, ⟨hc1', hc2', hc3'⟩, hb1'⟩; (have hcc : (0 : Int) <= (c : Int) := Int.natCast_nonneg _))
     go_roundw
     case rel =>
      obtain ⟨hG1, hG2⟩ := HG.out
      exact ⟨g + c, j + 1, by omega, by omega, ⟨by rw [HTK.out]; omega, fun h => by rw [HTK.out, hG2 (by omega), hc3' (by omega)]; omega⟩, by go_num, by go_num, HBR.out.trans (hb1'.mono (by omega))⟩
     case measure => simp [intOf]; omega
    ·have hz1 : W0.heap.size <= wo.heap.size := hbr.size
     have c4 := bcs hbr hz c4
     have HG1 : Hid (g <= 1 + countL l /\ (g <= most -> g = 1 + countL l)) := by
      obtain ⟨hG1, hG2⟩ := HG.out
      have := countL_mono l j
      refine ⟨by omega, fun h => ?_⟩
      have hjn : j = nl := by omega
      have hln := E1.out.1
      rw [hG2 h, hjn, <- hln, List.take_length]
     clear HT HL E1 hbr HG
     by_cases p1 : j < nl
     all_goals (try (have hgm : ¬ g <= most := fun h => hgo ⟨p1, h⟩))
     all_goals (try (have hdg : decide ((g : Int) <= (most : Int)) = false := decide_eq_false (by omega)))
     all_goals clear hgo
     all_goals go_wp2_with fail
     all_goals clear c3
     all_goals (
     go_loopw [5, 7] (fun a i wq => ∃ (g j : Nat), j <= nm /\ g <= most + 1 /\ Hid (g <= 1 + countL l + countM (m.take j) /\ (g <= most -> g = 1 + countL l + countM (m.take j))) /\ a = .int .i64 (g : Int) /\ i = .int .i64 j /\ Below wo.heap.size wo wq) (fun _ i _ => nm - (intOf i).toNat)
     case atStart => exact ⟨g, 0, Nat.zero_le _, hgb, ⟨by rw [List.take_zero, countM]; exact HG1.out.1, fun h => by rw [List.take_zero, countM]; exact HG1.out.2 h⟩, rfl, rfl, Below.refl _ _⟩
     case round =>
      clear hgb hg0
      try clear hgm
      try clear hdg
      obtain ⟨g, j, hj, hgb, HG, rfl, rfl, hbr⟩ := hrel
      have hg0 : (0 : Int) <= (g : Int) := Int.natCast_nonneg _
      have hbw2 : Below w.heap.size w wr := hbw.trans (hbr.mono (by omega))
      have c4 := bcs hbr (by omega) c4
      obtain ⟨w3, rfl⟩ : ∃ w3 : World, w3 = wr := ⟨_, rfl⟩
      by_cases hgo : j < nm /\ g <= most
      ·obtain ⟨hlt, hgm⟩ := hgo
       obtain ⟨tx, htx⟩ : ∃ x, m[j]? = some x := ⟨_, List.getElem?_eq_getElem (by have := E2.out; omega)⟩
       obtain ⟨x, hx⟩ : ∃ x, rms[j]? = some x := ⟨_, List.getElem?_eq_getElem (by have := E2.out; omega)⟩
       obtain ⟨b1, o1, rfl, hb1, hc1⟩ := rd_at' (HM.out.below hbw2 (Nat.le_refl _)) hx
       have f0 := hc1 0 _ rfl
       have f1 := hc1 1 _ rfl
       have f2 := hc1 2 _ rfl
       have f3 := hc1 3 _ rfl
       have f4 := hc1 4 _ rfl
       have f5 := hc1 5 _ rfl
       rw [Nat.add_zero] at f0
       have HC := Lib.hid (HS.out j tx x htx hx)
       have hk0 : (0 : Int) <= (j : Int) := Int.natCast_nonneg _
       have hk1 : (j : Int) < (nm : Int) := by omega
       have hgi : (g : Int) <= (most : Int) := by omega
       have hdg : decide ((g : Int) <= (most : Int)) = true := decide_eq_true hgi
       have HBR := Lib.hid hbr
       have hzq : wo.heap.size <= w3.heap.size := hbr.size
       have HTK := Lib.hid (countM_tk htx)
       clear hc1 htx hx hbr
       go_wp2_with (go_at_call 48; (with_reducible refine (HC.out _ hbw2 g _ ?num).mono ?_); (case num => (first | omega | (rw [IntKind.wrap_i64]; omega))); rintro e w1 ⟨c, rfl, ⟨hc1', hc2', hc3'⟩, hb1'⟩; (have hcc : (0 : Int) <= (c : Int) := Int.natCast_nonneg _))
       go_roundw
       case rel =>
        obtain ⟨hG1, hG2⟩ := HG.out
        exact ⟨g + c, j + 1, by omega, by omega, ⟨by rw [HTK.out]; omega, fun h => by rw [HTK.out, hG2 (by omega), hc3' (by omega)]; omega⟩, by go_num, by go_num, HBR.out.trans (hb1'.mono (by omega))⟩
       case measure => simp [intOf]; omega
      ·have HG2 : Hid (g <= R /\ (g <= most -> g = R)) := by
        obtain ⟨hG1, hG2⟩ := HG.out
        have := countM_mono m j
        unfold Hid
        rw [HFT.out]
        refine ⟨by omega, fun h => ?_⟩
        have hjn : j = nm := by omega
        have hln := E2.out.1
        rw [hG2 h, hjn, <- hln, List.take_length]
       by_cases p1 : j < nm
       all_goals (try (have hgm : ¬ g <= most := fun h => hgo ⟨p1, h⟩))
       all_goals (try (have hdg : decide ((g : Int) <= (most : Int)) = false := decide_eq_false (by omega)))
       all_goals clear hgo
       all_goals go_wp2_with fail
       all_goals go_ret
       all_goals exact ⟨g, rfl, ⟨hgb, HG2.out.1, HG2.out.2⟩, hbw2⟩)
end
section
open Go.RowKit Go.OpenShut
def OwnN (t : JV) : Prop := OwnM t /\ (t.k ≠ 6 -> t.m = [])
def OwnRet8 (w : World) (t : JV) (e : Ending) (w' : World) : Prop := ∃ b : Bool, e = .returned (.bool b) /\ Hid (b = true -> OwnN t) /\ Below w.heap.size w w'
theorem own_leaf6 {k : Int} {nl : Nat} {b5 : Bool} (h5 : (k != 6) = b5) (h : b5 = true -> ¬ 0 < nl) : k ≠ 6 -> nl = 0 := fun hk => by
 have h2 : (k != 6) = true := by simpa using hk
 have := h (h5.symm.trans h2)
 omega
theorem own8_any (N : Nat) : ∀ (t : JV) (r : RV) (w : World), SizeOf.sizeOf t <= N -> TreeOf w w.heap.size t r -> t.Ok ->
 Calls Tryz.prog 49 #[r.val] w (OwnRet8 w t) := by
 induction N with
 | zero => intro t r w hN; cases t; simp at hN
 | succ N ih =>
   intro t r w hN ht ot
   cases ht with
   | @mk _ l m rs rms hl el hcl hm em hcn hcm =>
   obtain ⟨k, n, s, pl, nl, cl, pm, nm, cm⟩ := r
   cases ot with
   | mk _ _ _ bl bm okl oks okm =>
   dsimp only [RV.val] at *
   have eL := rd_nlen hl
   have eM := rd_nlen hm
   have HT : Hid (∀ (i : Nat) t q, l[i]? = some t -> rs[i]? = some q -> ∀ W, Below w.heap.size w W -> Calls Tryz.prog 49 #[q.val] W (OwnRet8 W t)) :=
    fun i t q h1 h2 W hb => ih t q W (by have := JV.lt_l (k := k) (n := n) (s := s) (m := m) h1; omega) ((hcl i t q h1 h2).under hb hb.size) (okl i t h1)
   have HS : Hid (∀ (i : Nat) p q, m[i]? = some p -> rms[i]? = some q -> ∀ W, Below w.heap.size w W -> Calls Tryz.prog 49 #[q.v.val] W (OwnRet8 W p.2)) :=
    fun i p q h1 h2 W hb => ih p.2 q.v W (by have := JV.lt_m (k := k) (n := n) (s := s) (l := l) h1; omega) ((hcm i p q h1 h2).under hb hb.size) (okm i p h1)
   have HL := Lib.hid hl
   have HM := Lib.hid hm
   have E1 : Hid (l.length = nl /\ rs.length = nl) := ⟨by omega, by omega⟩
   have HE1 : Hid (l.length = nl) := by unfold Hid; omega
   have E2 : Hid (m.length = nm /\ rms.length = nm) := ⟨by omega, by omega⟩
   have hnl : nl <= 1759218604390 := by omega
   have hnm : nm <= 1466015503658 := by omega
   have hA0 : VAt (w.alloc (.cells #[.int .i64 k, .int .i64 n, .string s, .slice pl nl cl, .slice pm nm cm] 25)) w.heap.size ⟨k, n, s, pl, nl, cl, pm, nm, cm⟩ := heap_alloc_at rfl
   have hB0 : Below w.heap.size w (w.alloc (.cells #[.int .i64 k, .int .i64 n, .string s, .slice pl nl cl, .slice pm nm cm] 25)) := (Below.refl _ _).alloc (Nat.le_refl _) _
   clear ih hcl hcn hcm hl hm okl oks okm el em bl bm eL eM hN
   go_enter Tryz.func49, Tryz.ntmps49
   go_upto_region 1 with fail
   obtain ⟨W0, hW0⟩ : ∃ W0, (w.alloc (.cells #[.int .i64 k, .int .i64 n, .string s, .slice pl nl cl, .slice pm nm cm] 25)) = W0 := ⟨_, rfl⟩
   rw [hW0] at hA0 hB0 ⊢
   clear hW0
   have hz := hA0.lt
   have c0 := hA0.cell 0 rfl
   have c3 := hA0.cell 3 rfl
   have c4 := hA0.cell 4 rfl
   dsimp only at c0 c3 c4
   have HA := Lib.hid hA0
   clear hA0
   go_cut [24] from 5 to 24 (fun v wr => ∃ b : Bool, v = .bool b /\ Hid ((b = false -> k ≠ 5 -> nl = 0) /\ (b = false -> k ≠ 6 -> nm = 0)) /\ wr = W0)
   case first =>
    cases h5 : (k != 5) <;> cases h6 : (k != 6) <;> by_cases p1 : 0 < nl <;> by_cases p2 : 0 < nm
    all_goals go_wp2_with fail
    all_goals (go_meet; exact ⟨_, rfl, ⟨fun hb => by first | (cases hb; done) | exact own_leaf h5 (fun h => by first | (cases h; done) | exact p1), fun hb => by first | (cases hb; done) | exact own_leaf6 h6 (fun h => by first | (cases h; done) | exact p2)⟩, rfl⟩)
   case rest =>
   obtain ⟨b, rfl, HB5, rfl⟩ := hcut
   cases b with
   | true =>
     go_wp2_with fail
     go_ret
     exact ⟨false, rfl, (fun h => by cases h), hB0⟩
   | false =>
     go_wp2_with fail
     go_loopw [3] (fun i wr => ∃ j : Nat, j <= nl /\ i = .int .i64 j /\ Below wc.heap.size wc wr) (fun i _ => nl - (intOf i).toNat)
     case atStart => exact ⟨0, Nat.zero_le _, rfl, Below.refl _ _⟩
     case round =>
      obtain ⟨j, hj, rfl, hbr⟩ := hrel
      have c3 := bcs hbr hz c3
      have hbw : Below w.heap.size w wr := hB0.trans (hbr.mono hB0.size)
      by_cases hlt : j < nl
      ·obtain ⟨tx, htx⟩ : ∃ x, l[j]? = some x := ⟨_, List.getElem?_eq_getElem (by have := E1.out; omega)⟩
       obtain ⟨x, hx⟩ : ∃ x, rs[j]? = some x := ⟨_, List.getElem?_eq_getElem (by have := E1.out; omega)⟩
       obtain ⟨b1, o1, rfl, hb1, hc1⟩ := rd_at' (HL.out.below hbw (Nat.le_refl _)) hx
       have f0 := hc1 0 _ rfl
       have f1 := hc1 1 _ rfl
       have f2 := hc1 2 _ rfl
       have f3 := hc1 3 _ rfl
       have f4 := hc1 4 _ rfl
       rw [Nat.add_zero] at f0
       have HC := Lib.hid (HT.out j tx x htx hx)
       have hk0 : (0 : Int) <= (j : Int) := Int.natCast_nonneg _
       have hk1 : (j : Int) < (nl : Int) := by omega
       have hzr : wc.heap.size <= wr.heap.size := hbr.size
       have HBR := Lib.hid hbr
       clear hc1 htx hx hbr
       go_wp2_with (go_at_call 49; refine (HC.out _ hbw).mono ?_; rintro e w1 ⟨b, rfl, hM, hb1'⟩; cases b)
       ·go_ret
        exact ⟨false, rfl, (fun h => by cases h), hbw.trans (hb1'.mono hbw.size)⟩
       ·go_roundw
        case rel => exact ⟨j + 1, by omega, by go_num, HBR.out.trans (hb1'.mono (by omega))⟩
        case measure => simp [intOf]; omega
      ·obtain rfl : j = nl := by omega
       have hz1 : wc.heap.size <= wr.heap.size := hbr.size
       have c4 := bcs hbr hz c4
       clear HT HL E1 hbr
       obtain ⟨wo, rfl⟩ : ∃ wo : World, wo = wr := ⟨_, rfl⟩
       go_wp2_with fail
       clear c3
       go_loopw [4] (fun i wq => ∃ j : Nat, j <= nm /\ i = .int .i64 j /\ Hid (∀ (i : Nat) p, i < j -> m[i]? = some p -> p.2.k ≠ 5 -> p.2.l = []) /\ Below wo.heap.size wo wq) (fun i _ => nm - (intOf i).toNat)
       case atStart => exact ⟨0, Nat.zero_le _, rfl, (fun i p h => by omega), Below.refl _ _⟩
       case round =>
        obtain ⟨wq, rfl⟩ : ∃ wq : World, wq = wr := ⟨_, rfl⟩
        obtain ⟨j, hj, rfl, HMJ, hbr⟩ := hrel
        have hbw2 : Below w.heap.size w wq := hbw.trans (hbr.mono (by omega))
        have c4 := bcs hbr (by omega) c4
        by_cases hlt : j < nm
        ·obtain ⟨tx, htx⟩ : ∃ x, m[j]? = some x := ⟨_, List.getElem?_eq_getElem (by have := E2.out; omega)⟩
         obtain ⟨x, hx⟩ : ∃ x, rms[j]? = some x := ⟨_, List.getElem?_eq_getElem (by have := E2.out; omega)⟩
         obtain ⟨b1, o1, rfl, hb1, hc1⟩ := rd_at' (HM.out.below hbw2 (Nat.le_refl _)) hx
         have f0 := hc1 0 _ rfl
         have f1 := hc1 1 _ rfl
         have f2 := hc1 2 _ rfl
         have f3 := hc1 3 _ rfl
         have f4 := hc1 4 _ rfl
         have f5 := hc1 5 _ rfl
         rw [Nat.add_zero] at f0
         have HC := Lib.hid (HS.out j tx x htx hx)
         have HTX := Lib.hid htx
         have hk0 : (0 : Int) <= (j : Int) := Int.natCast_nonneg _
         have hk1 : (j : Int) < (nm : Int) := by omega
         have hzr : wc.heap.size <= wq.heap.size := by have := hbr.size; omega
         have hzq : wo.heap.size <= wq.heap.size := hbr.size
         have HBR := Lib.hid hbr
         clear hc1 htx hx hbr
         go_wp2_with (go_at_call 49; refine (HC.out _ hbw2).mono ?_; rintro e w1 ⟨b, rfl, hM, hb1'⟩; cases b)
         ·go_ret
          exact ⟨false, rfl, (fun h => by cases h), hbw2.trans (hb1'.mono hbw2.size)⟩
         ·go_roundw
          case rel =>
           refine ⟨j + 1, by omega, by go_num, fun i p hi hp => ?_, HBR.out.trans (hb1'.mono (by omega))⟩
           by_cases hij : i < j
           ·exact HMJ.out i p hij hp
           ·obtain rfl : i = j := by omega
            obtain rfl : tx = p := Option.some.inj (HTX.out.symm.trans hp)
            exact (hM.out (by trivial)).1.1
          case measure => simp [intOf]; omega
        ·obtain rfl : j = nm := by omega
         go_wp2_with fail
         go_ret
         refine ⟨true, rfl, fun _ => ⟨⟨fun hk => ?_, fun p hp => ?_⟩, fun hk => ?_⟩, hbw2⟩
         ·have h1 := HB5.out.1 (by trivial) hk
          have h2 := HE1.out
          exact List.eq_nil_of_length_eq_zero (by show l.length = 0; omega)
         ·obtain ⟨i, hi⟩ := List.getElem?_of_mem hp
          have hlt := (List.getElem?_eq_some_iff.1 hi).1
          exact HMJ.out i p (by have := E2.out; have h3 : i < m.length := hlt; omega) hi
         ·have h1 := HB5.out.2 (by trivial) hk
          have h2 := E2.out.1
          exact List.eq_nil_of_length_eq_zero (by show m.length = 0; omega)
def SomeN (t : JV) (n most : Nat) (w : World) (e : Ending) (w' : World) : Prop := ∃ b : Bool, e = .returned (.bool b) /\ Hid (b = true -> n <= 10000 /\ OwnN t /\ countT t <= most) /\ Below w.heap.size w w'
theorem few7n_any (t : JV) (r : RV) (most : Nat) (w : World) (hmost : most <= 1000000) (ht : TreeOf w w.heap.size t r) (ot : t.Ok) :
 Calls Tryz.prog 18 #[r.val, .int .i64 (most : Int)] w (SomeN t r.nm most w) := by
 have HT := Lib.hid ht
 have hA0 : VAt (w.alloc (.cells #[.int .i64 r.k, .int .i64 r.n, .string r.s, .slice r.pl r.nl r.cl, .slice r.pm r.nm r.cm] 25)) w.heap.size r := heap_alloc_at rfl
 have hB0 : Below w.heap.size w (w.alloc (.cells #[.int .i64 r.k, .int .i64 r.n, .string r.s, .slice r.pl r.nl r.cl, .slice r.pm r.nm r.cm] 25)) := (Below.refl _ _).alloc (Nat.le_refl _) _
 clear ht
 go_enter Tryz.func18, Tryz.ntmps18
 go_upto_region 1 with fail
 obtain ⟨W0, hW0⟩ : ∃ W0, (w.alloc (.cells #[.int .i64 r.k, .int .i64 r.n, .string r.s, .slice r.pl r.nl r.cl, .slice r.pm r.nm r.cm] 25)) = W0 := ⟨_, rfl⟩
 rw [hW0] at hA0 hB0 ⊢
 clear hW0
 have hz := hA0.lt
 obtain ⟨c0, c1, c2, c3, c4⟩ := hA0.cells5
 clear hA0
 have HD : Hid (∀ W, Below w.heap.size w W -> Calls Tryz.prog 47 #[r.val, .int .i64 100] W (SomeF r.nm W)) := fun W hb => deep7_any t r W (HT.out.under hb hb.size) ot
 have HN : Hid (∀ W, Below w.heap.size w W -> Calls Tryz.prog 48 #[r.val, .int .i64 (most : Int)] W fun e w' => ∃ c : Nat, e = .returned (.int .i64 (c : Int)) /\ (c <= most + 1 /\ c <= countT t /\ (c <= most -> c = countT t)) /\ Below W.heap.size W w') := fun W hb => cnt7_any _ t r most W (Nat.le_refl _) hmost (HT.out.under hb hb.size) ot
 have HO : Hid (∀ W, Below w.heap.size w W -> Calls Tryz.prog 49 #[r.val] W (OwnRet8 W t)) := fun W hb => own8_any _ t r W (Nat.le_refl _) (HT.out.under hb hb.size) ot
 go_wp2_with (first
  | (go_at_call 47; refine (HD.out _ hB0).mono ?_; rintro e w1 ⟨b1, rfl, hbL, hbA⟩; (have hb1 := hB0.trans (hbA.mono hB0.size)); (have d0 := bcs hbA hz c0); (have d1 := bcs hbA hz c1); (have d2 := bcs hbA hz c2); (have d3 := bcs hbA hz c3); (have d4 := bcs hbA hz c4); cases b1)
  | (go_at_call 48; refine (HN.out _ hb1).mono ?_; rintro e w2 ⟨d, rfl, hdd, hbB⟩; (have hb2 := hb1.trans (hbB.mono hb1.size)); (have hz1 := Nat.lt_of_lt_of_le hz hbA.size); (have e0 := bcs hbB hz1 d0); (have e1 := bcs hbB hz1 d1); (have e2 := bcs hbB hz1 d2); (have e3 := bcs hbB hz1 d3); (have e4 := bcs hbB hz1 d4); (by_cases hd : (d : Int) <= (most : Int)))
  | (go_at_call 49; refine (HO.out _ hb2).mono ?_; rintro e w3 ⟨b3, rfl, hM, hbC⟩; (have hb3 := hb2.trans (hbC.mono hb2.size))))
 all_goals go_ret
 all_goals first | (refine ⟨b3, rfl, ?_, hb3⟩; have h := hbL.out; exact fun hb => ⟨h trivial, hM.out hb, by have := hdd.2.2 (by omega); omega⟩) | exact ⟨false, rfl, (fun h => by cases h), hb2⟩ | exact ⟨false, rfl, (fun h => by cases h), hb1⟩
end
end Go.Proofs.YtffhccmppdgmfaaGreatDoor
