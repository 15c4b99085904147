import Derived.Test.YtffhccmppdgmfaaGreatDoorE06
import Derived.Test.YtffhccmppdgmfaaGreatDoorE13
import Derived.Test.YtffhccmppdgmfaaGreatDoorE03
import Derived.Deep.RegionLaw
set_option linter.unusedSimpArgs false
set_option linter.unusedVariables false
set_option maxRecDepth 200000
set_option maxHeartbeats 8000000
namespace Go.Proofs.YtffhccmppdgmfaaGreatDoor
section
open Go.RowKit Go.OpenShut
def NewTree (w : World) (t : JV) (e : Ending) (w' : World) : Prop := ∃ q : RV, e = .returned q.val /\ LoneV w' (Fresh w w') t q /\ Below w.heap.size w w'
theorem set_getE {α : Type} {l : List α} {j : Nat} {x : α} (h : l[j]? = some x) : l.set j x = l := by
 apply List.ext_getElem?
 intro i
 by_cases hij : i = j
 ·subst hij
  rw [List.getElem?_set_self (List.getElem?_eq_some_iff.1 h).1, h]
 ·rw [get_set_ne _ _ hij]
theorem Parts.less {W : World} {b0 g : Nat} {D D' : Nat ⊕ Nat -> Prop} {l : List JV} {m : List (ByteArray × JV)} {ds : List RV} {dms : List RM} {r : RV} {F : Nat ⊕ Nat -> Nat -> Prop} (h : Parts W b0 g D l m ds dms r F) (hD : ∀ a, D' a -> D a) : Parts W b0 g D' l m ds dms r F :=
 ⟨h.box, h.ownL, h.ownM, h.bL, h.bM, h.dr, h.los, h.el, h.em, h.cn, fun i t q hd => h.cl i t q (hD _ hd), fun i t q hd => h.cm i t q (hD _ hd), h.ff, h.dd⟩
structure CopyS (w W : World) (jl jm : Nat) (l : List JV) (m : List (ByteArray × JV)) (rs : List RV) (rms : List RM) (ds : List RV) (dms : List RM) (r : RV) (F : Nat ⊕ Nat -> Nat -> Prop) : Prop where
 parts : Parts W (w.heap.size + 1 + 1) w.heap.size (fun a => (∃ i, a = .inl i /\ i < jl) \/ ∃ i, a = .inr i /\ i < jm) l m ds dms r F
 rl : ∀ i, jl <= i -> ds[i]? = rs[i]?
 rm : ∀ i, jm <= i -> dms[i]? = rms[i]?
 below : Below w.heap.size w W
 out : VAt W (w.heap.size + 1) RV.zero
theorem Parts.drew {W : World} {b0 g : Nat} {D : Nat ⊕ Nat -> Prop} {l : List JV} {m : List (ByteArray × JV)} {ds : List RV} {dms : List RM} {r : RV} {F : Nat ⊕ Nat -> Nat -> Prop} (h : Parts W b0 g D l m ds dms r F) : Parts W.drew b0 g D l m ds dms r F :=
 ⟨h.box, h.ownL, h.ownM, h.bL, h.bM, h.dr, h.los, h.el, h.em, h.cn, fun i t q h1 h2 h3 => (h.cl i t q h1 h2 h3).same fun _ _ => rfl, fun i t q h1 h2 h3 => (h.cm i t q h1 h2 h3).same fun _ _ => rfl, h.ff, h.dd⟩
theorem VAt.set3 {W : World} {g : Nat} {r : RV} (h : VAt W g r) (p : Option Addr) (n c : Nat) : VAt (W.setCell ⟨g, 3, none⟩ (.slice p n c)) g { r with pl := p, nl := n, cl := c } := by
 unfold VAt at h ⊢
 simp [World.setCell, Array.getElem?_modify, h]
theorem CopyS.start {w w1 w2 : World} {b1 : Nat} {k n : Int} {s : ByteArray} {pl pm p' p2 : Option Addr} {nl cl nm cm c' c2 : Nat} {l : List JV} {m : List (ByteArray × JV)} {rs : List RV} {rms : List RM}
 (hA : VAt w2 w.heap.size ⟨k, n, s, pl, nl, cl, pm, nm, cm⟩) (hZ : VAt w2 (w.heap.size + 1) RV.zero) (ho1 : Own w1 b1 25 encV 5 (.slice p' nl c') rs) (hb1 : w.heap.size + 1 + 1 <= b1) (ho2 : Own w2 w1.heap.size 32 encM 6 (.slice p2 nm c2) rms)
 (hb2 : Below w1.heap.size w1 w2) (hb : Below w.heap.size w w2) (hw : w.heap.size + 1 + 1 <= w1.heap.size) (el : l.length = rs.length) (em : m.length = rms.length) (cn : ∀ (i : Nat) (p : ByteArray × JV) (q : RM), m[i]? = some p -> rms[i]? = some q -> p.1 = q.name) :
 CopyS w ((w2.setCell ⟨w.heap.size, 3, none⟩ (.slice p' nl c')).setCell ⟨w.heap.size, 4, none⟩ (.slice p2 nm c2)) 0 0 l m rs rms rs rms ⟨k, n, s, p', nl, c', p2, nm, c2⟩ (fun _ _ => False) := by
 have hg : w2.grownBy ((w2.setCell ⟨w.heap.size, 3, none⟩ (.slice p' nl c')).setCell ⟨w.heap.size, 4, none⟩ (.slice p2 nm c2)) (some w.heap.size) := (grownBy_set w2 w.heap.size 3 _).trans (grownBy_set _ w.heap.size 4 _)
 have hsz : ((w2.setCell ⟨w.heap.size, 3, none⟩ (.slice p' nl c')).setCell ⟨w.heap.size, 4, none⟩ (.slice p2 nm c2)).heap.size = w2.heap.size := by simp
 have hs2 := hb2.size
 have l1 := ho1.lt
 have l2 := ho2.lt
 refine ⟨⟨(hA.set3 p' nl c').set4 p2 nm c2, ((ho1.mono hb1).below hb2 (Nat.le_refl _)).kept hg ?_, (ho2.mono hw).kept hg ?_, ?_, ?_, ?_, by omega, el, em, cn, ?_, ?_, ?_, ?_⟩, fun _ _ => rfl, fun _ _ => rfl, ?_, ?_⟩
 ·cases h : (Value.slice p' nl c').ownBlock with
  | none => exact .inl rfl
  | some j => exact .inr (fun e => by have := (l1 j h).1; cases e; omega)
 ·cases h : (Value.slice p2 nm c2).ownBlock with
  | none => exact .inl rfl
  | some j => exact .inr (fun e => by have := (l2 j h).1; cases e; omega)
 ·intro k h; have := l1 k h; omega
 ·intro k h; have := l2 k h; omega
 ·intro k h h'; have := l1 k h; have := l2 k h'; omega
 ·rintro i t q (⟨_, _, h⟩ | ⟨_, _, h⟩) <;> omega
 ·rintro i t q (⟨_, _, h⟩ | ⟨_, _, h⟩) <;> omega
 ·intro a k h; exact h.elim
 ·intro a b k h; exact h.elim
 ·exact (hb.setCell (p := ⟨w.heap.size, 3, none⟩) (Nat.le_refl _) _).setCell (p := ⟨w.heap.size, 4, none⟩) (Nat.le_refl _) _
 ·exact (hg.block (w.heap.size + 1) (by omega) (fun e => by injection e with e; omega)).trans hZ
theorem CopyS.stepL {w W w1 W2 : World} {j jm : Nat} {l : List JV} {m : List (ByteArray × JV)} {rs ds : List RV} {rms dms : List RM} {r : RV} {F : Nat ⊕ Nat -> Nat -> Prop} (h : CopyS w W j jm l m rs rms ds dms r F) (hb : Below W.drew.heap.size W.drew w1) {t : JV} {x q : RV} (hq : LoneV w1 (Fresh W.drew w1) t q) (ht : l[j]? = some t) (hx : ds[j]? = some x)
 {g2 : Nat} (hg2 : r.pl = some ⟨g2, 0, none⟩) (ho : Own W2 (w.heap.size + 1 + 1) 25 encV 5 (.slice r.pl r.nl r.cl) (ds.set j q)) (hg : w1.grownBy W2 (some g2)) :
 CopyS w W2 (j + 1) jm l m rs rms (ds.set j q) dms r (fun a k => if a = .inl j then Fresh W.drew w1 k else F a k) := by
 have hob : (Value.slice r.pl r.nl r.cl).ownBlock = some g2 := by rw [hg2]; rfl
 have hp := Parts.setL h.parts.drew hb hq hob ho hg (List.getElem?_eq_some_iff.1 hx).1
 rw [set_getE ht] at hp
 have hg2b := (h.parts.ownL.lt g2 hob).1
 have hsz : W.drew.heap.size = W.heap.size := rfl
 have hbs := hb.size
 have hg2s := (h.parts.ownL.lt g2 hob).2
 refine ⟨hp.less ?_, ?_, h.rm, ?_, ?_⟩
 ·rintro a (⟨i, rfl, hi⟩ | hi)
  ·rcases Nat.lt_or_ge i j with h1 | h1
   ·exact .inl (.inl ⟨i, rfl, h1⟩)
   ·exact .inr (by rw [show i = j by omega])
  ·exact .inl (.inr hi)
 ·intro i hi
  rw [get_set_ne _ _ (by omega)]
  exact h.rl i (by omega)
 ·exact (h.below.drew.trans (hb.mono h.below.size)).trans ((Below.refl _ _).grown hg (Nat.le_trans h.below.size hbs) (fun k e => by cases e; omega))
 ·have h1 : VAt w1 (w.heap.size + 1) RV.zero := VAt.under (W := W.drew) h.out hb (by have := h.out.lt; omega)
  exact (hg.block (w.heap.size + 1) h1.lt (fun e => by injection e with e; omega)).trans h1
theorem CopyS.stepM {w W w1 W2 : World} {j jl : Nat} {l : List JV} {m : List (ByteArray × JV)} {rs ds : List RV} {rms dms : List RM} {r : RV} {F : Nat ⊕ Nat -> Nat -> Prop} (h : CopyS w W jl j l m rs rms ds dms r F) (hb : Below W.drew.heap.size W.drew w1) {p : ByteArray × JV} {x : RM} {q : RV} (hq : LoneV w1 (Fresh W.drew w1) p.2 q) (ht : m[j]? = some p) (hx : dms[j]? = some x)
 {g2 : Nat} (hg2 : r.pm = some ⟨g2, 0, none⟩) (ho : Own W2 (w.heap.size + 1 + 1) 32 encM 6 (.slice r.pm r.nm r.cm) (dms.set j ⟨x.name, q⟩)) (hg : w1.grownBy W2 (some g2)) :
 CopyS w W2 jl (j + 1) l m rs rms ds (dms.set j ⟨x.name, q⟩) r (fun a k => if a = .inr j then Fresh W.drew w1 k else F a k) := by
 have hob : (Value.slice r.pm r.nm r.cm).ownBlock = some g2 := by rw [hg2]; rfl
 have hp := Parts.setM h.parts.drew hb hq hob ht hx ho hg
 rw [show (p.1, p.2) = p from rfl, set_getE ht] at hp
 have hg2b := (h.parts.ownM.lt g2 hob).1
 have hsz : W.drew.heap.size = W.heap.size := rfl
 have hbs := hb.size
 have hg2s := (h.parts.ownM.lt g2 hob).2
 refine ⟨hp.less ?_, h.rl, ?_, ?_, ?_⟩
 ·rintro a (hi | ⟨i, rfl, hi⟩)
  ·exact .inl (.inl hi)
  ·rcases Nat.lt_or_ge i j with h1 | h1
   ·exact .inl (.inr ⟨i, rfl, h1⟩)
   ·exact .inr (by rw [show i = j by omega])
 ·intro i hi
  rw [get_set_ne _ _ (by omega)]
  exact h.rm i (by omega)
 ·exact (h.below.drew.trans (hb.mono h.below.size)).trans ((Below.refl _ _).grown hg (Nat.le_trans h.below.size hbs) (fun k e => by cases e; omega))
 ·have h1 : VAt w1 (w.heap.size + 1) RV.zero := VAt.under (W := W.drew) h.out hb (by have := h.out.lt; omega)
  exact (hg.block (w.heap.size + 1) h1.lt (fun e => by injection e with e; omega)).trans h1
theorem Parts.fin {w W : World} {l : List JV} {m : List (ByteArray × JV)} {ds : List RV} {dms : List RM} {r : RV} {D : Nat ⊕ Nat -> Prop} {F : Nat ⊕ Nat -> Nat -> Prop} (h : Parts W (w.heap.size + 1 + 1) w.heap.size D l m ds dms r F) (hD : ∀ i, (i < l.length -> D (.inl i)) /\ (i < m.length -> D (.inr i))) (hb : Below w.heap.size w W) :
 NewTree w (.mk r.k r.n r.s l m) (.returned r.val) (((((W.setCell ⟨w.heap.size + 1, 0, none⟩ (.int .i64 r.k)).setCell ⟨w.heap.size + 1, 1, none⟩ (.int .i64 r.n)).setCell ⟨w.heap.size + 1, 2, none⟩ (.string r.s)).setCell ⟨w.heap.size + 1, 3, none⟩ (.slice r.pl r.nl r.cl)).setCell ⟨w.heap.size + 1, 4, none⟩ (.slice r.pm r.nm r.cm)) := by
 have hg := grownBy_set5 W (w.heap.size + 1) r
 have h1 := h.whole hD
 refine ⟨r, rfl, (h1.same fun k hk => hg.block k hk.2 (fun e => by have := hk.1; injection e with e; omega)).mono fun k hk => ⟨by omega, Nat.lt_of_lt_of_le hk.2 hg.size⟩, Below.stored hb (by omega) r⟩
theorem copy_any (N : Nat) : ∀ (t : JV) (r : RV) (w : World), SizeOf.sizeOf t <= N -> TreeOf w w.heap.size t r -> t.Ok ->
 Calls Tryz.prog 34 #[r.val] w (NewTree w t) := by
 induction N with
 | zero => intro t r w hN; cases t; simp at hN
 | succ N ih =>
   intro t r w hN ht ot
   cases ht with
   | @mk _ l m rs rms hl el hcl hm em hcn hcm =>
   obtain ⟨k, n, s, pl, nl, cl, pm, nm, cm⟩ := r
   cases ot with
   | mk _ _ _ bl bm okl oks okm =>
   dsimp only [RV.val] at *
   have eL := rd_nlen hl
   have eM := rd_nlen hm
   have HT : Hid (∀ (i : Nat) t q, l[i]? = some t -> rs[i]? = some q -> ∀ W, Below w.heap.size w W -> Calls Tryz.prog 34 #[q.val] W (NewTree W t)) :=
    fun i t q h1 h2 W hb => ih t q W (by have := JV.lt_l (k := k) (n := n) (s := s) (m := m) h1; omega) ((hcl i t q h1 h2).under hb hb.size) (okl i t h1)
   have HS : Hid (∀ (i : Nat) p q, m[i]? = some p -> rms[i]? = some q -> ∀ W, Below w.heap.size w W -> Calls Tryz.prog 34 #[q.v.val] W (NewTree W p.2)) :=
    fun i p q h1 h2 W hb => ih p.2 q.v W (by have := JV.lt_m (k := k) (n := n) (s := s) (l := l) h1; omega) ((hcm i p q h1 h2).under hb hb.size) (okm i p h1)
   have HL := Lib.hid hl
   have HM := Lib.hid hm
   have HCN := Lib.hid hcn
   have E1 : Hid (l.length = nl /\ rs.length = nl) := ⟨by omega, by omega⟩
   have E2 : Hid (m.length = nm /\ rms.length = nm) := ⟨by omega, by omega⟩
   have hnl : nl <= 1759218604390 := by omega
   have hnm : nm <= 1466015503658 := by omega
   have hA0 : VAt ((w.alloc (.cells #[.int .i64 k, .int .i64 n, .string s, .slice pl nl cl, .slice pm nm cm] 25)).alloc (.cells #[.int .i64 0, .int .i64 0, .string ⟨#[]⟩, .slice none 0 0, .slice none 0 0] 25)) w.heap.size ⟨k, n, s, pl, nl, cl, pm, nm, cm⟩ := heap_alloc_lt (by simp) (heap_alloc_at rfl)
   have hA1 : VAt ((w.alloc (.cells #[.int .i64 k, .int .i64 n, .string s, .slice pl nl cl, .slice pm nm cm] 25)).alloc (.cells #[.int .i64 0, .int .i64 0, .string ⟨#[]⟩, .slice none 0 0, .slice none 0 0] 25)) (w.heap.size + 1) RV.zero := heap_alloc_at (by simp)
   have hB0 := below2 w (.cells #[.int .i64 k, .int .i64 n, .string s, .slice pl nl cl, .slice pm nm cm] 25) (.cells #[.int .i64 0, .int .i64 0, .string ⟨#[]⟩, .slice none 0 0, .slice none 0 0] 25)
   clear ih hcl hcn hcm hl hm okl oks okm el em bl bm eL eM hN
   go_enter Tryz.func34, Tryz.ntmps34
   go_upto_region 1 with fail
   have hws : ((w.alloc (.cells #[.int .i64 k, .int .i64 n, .string s, .slice pl nl cl, .slice pm nm cm] 25)).alloc (.cells #[.int .i64 0, .int .i64 0, .string ⟨#[]⟩, .slice none 0 0, .slice none 0 0] 25)).heap.size = w.heap.size + 1 + 1 := by simp
   obtain ⟨W0, hW0⟩ : ∃ W0, ((w.alloc (.cells #[.int .i64 k, .int .i64 n, .string s, .slice pl nl cl, .slice pm nm cm] 25)).alloc (.cells #[.int .i64 0, .int .i64 0, .string ⟨#[]⟩, .slice none 0 0, .slice none 0 0] 25)) = W0 := ⟨_, rfl⟩
   rw [hW0] at hA0 hA1 hB0 hws ⊢
   clear hW0
   have HWS := Lib.hid hws
   have c3 := hA0.cell 3 rfl
   have c4 := hA0.cell 4 rfl
   dsimp only at c3 c4
   have hz := hA0.lt
   have HA0 := Lib.hid hA0
   have HA1 := Lib.hid hA1
   have HB0 := Lib.hid hB0
   have HAD : Hid (VAt W0.drew w.heap.size ⟨k, n, s, pl, nl, cl, pm, nm, cm⟩) := hA0
   have HZD : Hid (VAt W0.drew (w.heap.size + 1) RV.zero) := hA1
   clear hA0 hA1 hB0 hws
   go_cut [12] from 5 to 12 (fun v wr => v = .pointer (some ⟨w.heap.size, 4, none⟩) /\ ∃ p' c' p2 c2, Hid (CopyS w wr 0 0 l m rs rms rs rms ⟨k, n, s, p', nl, c', p2, nm, c2⟩ (fun _ _ => False)))
   case first =>
    go_region_law (first
     | (go_simp; go_at_call 69; refine (cloneV_any codecV _ pl nl cl rs (HL.out.below HB0.out.drew HB0.out.size) (by have := E1.out; omega)).mono ?_; rintro e w1 ⟨p', c', rfl, hpn1, ho1, hb1⟩; (have c3' := bcs hb1 hz c3); (have c4' := bcs hb1 hz c4))
     | (go_simp; go_at_call 70; refine (cloneM_any codecM _ pm nm cm rms (HM.out.below (HB0.out.drew.trans (hb1.mono HB0.out.size)) (HB0.out.drew.trans (hb1.mono HB0.out.size)).size) (by have := E2.out; omega)).mono ?_; rintro e w2 ⟨p2, c2, rfl, hpn2, ho2, hb2⟩; (have hA2 := (HAD.out.under hb1 hz).under hb2 (Nat.lt_of_lt_of_le hz hb1.size)); (have d3 := hA2.cell 3 rfl); (have d4 := hA2.cell 4 rfl); (have x3 := hA2.frozen 3); (have x4 := hA2.frozen 4)))
    all_goals go_wp2_with fail
    all_goals (
     go_meet
     exact ⟨rfl, p', c', p2, c2, CopyS.start hA2 (VAt.under (VAt.under (W := W0.drew) HZD.out hb1 HZD.out.lt) hb2 (Nat.lt_of_lt_of_le HZD.out.lt hb1.size)) ho1 (by have := HWS.out; simp; omega) ho2 hb2 ((HB0.out.drew.trans (hb1.mono HB0.out.size)).trans (hb2.mono (Nat.le_trans HB0.out.size hb1.size))) (by have := HWS.out; have := hb1.size; simp at this; omega) (by have := E1.out; omega) (by have := E2.out; omega) HCN.out⟩)
   case rest =>
   obtain ⟨rfl, p', c', p2, c2, hC0⟩ := hcut
   have HC0 := hC0
   have hC0 := HC0.out
   have c3 := hC0.parts.box.cell 3 rfl
   dsimp only at c3
   clear hC0 HA0 HA1 HB0 HAD HZD HWS c4
   go_wp2_with fail
   go_loopw [16] (fun i wr => ∃ (j : Nat) (ds : List RV) (F : Nat ⊕ Nat -> Nat -> Prop), j <= nl /\ i = .int .i64 j /\ Hid (CopyS w wr j 0 l m rs rms ds rms ⟨k, n, s, p', nl, c', p2, nm, c2⟩ F)) (fun i _ => nl - (intOf i).toNat)
   case atStart => exact ⟨0, rs, _, Nat.zero_le _, rfl, HC0⟩
   case round =>
    obtain ⟨j, ds, F, hj, rfl, HC⟩ := hrel
    have hbr := HC.out.below
    by_cases hlt : j < nl
    ·obtain ⟨tx, htx⟩ : ∃ x, l[j]? = some x := ⟨_, List.getElem?_eq_getElem (by have := E1.out; omega)⟩
     obtain ⟨x, hx⟩ : ∃ x, rs[j]? = some x := ⟨_, List.getElem?_eq_getElem (by have := E1.out; omega)⟩
     have hds : ds[j]? = some x := (HC.out.rl j (Nat.le_refl _)).trans hx
     obtain ⟨g2, e2, e3, hg1, hg2, hcell, hfr⟩ := Own.at codecV HC.out.parts.ownL hds
     dsimp only at e2
     subst e2
     have c3 := HC.out.parts.box.cell 3 rfl
     dsimp only at c3
     have hgb := HC.out.parts.box.lt
     have f0 := hcell 0 _ rfl
     have f1 := hcell 1 _ rfl
     have f2 := hcell 2 _ rfl
     have f3 := hcell 3 _ rfl
     have f4 := hcell 4 _ rfl
     rw [Nat.add_zero] at f0
     have HR := Lib.hid (HT.out j tx x htx hx)
     have hk0 : (0 : Int) <= (j : Int) := Int.natCast_nonneg _
     have hk1 : (j : Int) < (nl : Int) := by omega
     have HTX := Lib.hid htx
     have HDS := Lib.hid hds
     have HG1 := Lib.hid hg1
     clear hcell hfr htx hx hds e3 hg1
     go_wp2_with fail
     go_region_law (first
      | (go_simp; go_at_call 34; refine (HR.out _ hbr.drew).mono ?_; rintro e w1 ⟨q, rfl, hq, hb1⟩; (have HP1 := Lib.hid (HC.out.parts.drew.below hb1)); (have c3' := HP1.out.box.cell 3 rfl); dsimp only at c3'; obtain ⟨g3, e4, e5, hg3, hg4, hcell1, hfr1⟩ := Own.at codecV HP1.out.ownL HDS.out; dsimp only at e4; cases e4; (have k0 := hcell1 0 _ rfl); (have k1 := hcell1 1 _ rfl); (have k2 := hcell1 2 _ rfl); (have k3 := hcell1 3 _ rfl); (have k4 := hcell1 4 _ rfl); (have y0 := hfr1 (j * 5)); (have y1 := hfr1 (j * 5 + 1)); (have y2 := hfr1 (j * 5 + 2)); (have y3 := hfr1 (j * 5 + 3)); (have y4 := hfr1 (j * 5 + 4)); rw [Nat.add_zero] at k0; (have HQ := Lib.hid hq); clear hcell1 hfr1 e5 hg3 hg4 hq))
     all_goals (have HS := Lib.hid (Own.storedL HP1.out.ownL HDS.out q))
     all_goals (have HN := Lib.hid (HC.out.stepL hb1 HQ.out HTX.out HDS.out rfl HS.out.1 HS.out.2))
     all_goals go_wp2_with fail
     all_goals (
      go_roundw
      case rel => exact ⟨j + 1, _, _, by omega, by go_num, HN⟩
      case measure => simp [intOf]; omega)
    ·obtain rfl : j = nl := by omega
     have c4 := HC.out.parts.box.cell 4 rfl
     dsimp only at c4
     clear HT hbr c3 HC0
     go_wp2_with fail
     go_loopw [33] (fun i wr => ∃ (i2 : Nat) (dms : List RM) (F : Nat ⊕ Nat -> Nat -> Prop), i2 <= nm /\ i = .int .i64 i2 /\ Hid (CopyS w wr j i2 l m rs rms ds dms ⟨k, n, s, p', j, c', p2, nm, c2⟩ F)) (fun i _ => nm - (intOf i).toNat)
     case atStart => exact ⟨0, rms, F, Nat.zero_le _, rfl, HC⟩
     case round =>
      obtain ⟨i2, dms, F, hi2, rfl, HC⟩ := hrel
      have hbr := HC.out.below
      by_cases hlt2 : i2 < nm
      ·obtain ⟨tx, htx⟩ : ∃ x, m[i2]? = some x := ⟨_, List.getElem?_eq_getElem (by have := E2.out; omega)⟩
       obtain ⟨x, hx⟩ : ∃ x, rms[i2]? = some x := ⟨_, List.getElem?_eq_getElem (by have := E2.out; omega)⟩
       have hds : dms[i2]? = some x := (HC.out.rm i2 (Nat.le_refl _)).trans hx
       obtain ⟨g2, e2, e3, hg1, hg2, hcell, hfr⟩ := Own.at codecM HC.out.parts.ownM hds
       dsimp only at e2
       subst e2
       have c4 := HC.out.parts.box.cell 4 rfl
       dsimp only at c4
       have hgb := HC.out.parts.box.lt
       have f0 := hcell 0 _ rfl
       have f1 := hcell 1 _ rfl
       have f2 := hcell 2 _ rfl
       have f3 := hcell 3 _ rfl
       have f4 := hcell 4 _ rfl
       have f5 := hcell 5 _ rfl
       rw [Nat.add_zero] at f0
       have HR := Lib.hid (HS.out i2 tx x htx hx)
       have hk0 : (0 : Int) <= (i2 : Int) := Int.natCast_nonneg _
       have hk1 : (i2 : Int) < (nm : Int) := by omega
       have HTX := Lib.hid htx
       have HDS := Lib.hid hds
       clear hcell hfr htx hx hds e3 hg1
       go_wp2_with fail
       go_region_law (first
        | (go_simp; go_at_call 34; refine (HR.out _ hbr.drew).mono ?_; rintro e w1 ⟨q, rfl, hq, hb1⟩; (have HP1 := Lib.hid (HC.out.parts.drew.below hb1)); (have c4' := HP1.out.box.cell 4 rfl); dsimp only at c4'; obtain ⟨g3, e4, e5, hg3, hg4, hcell1, hfr1⟩ := Own.at codecM HP1.out.ownM HDS.out; dsimp only at e4; cases e4; (have k0 := hcell1 1 _ rfl); (have k1 := hcell1 2 _ rfl); (have k2 := hcell1 3 _ rfl); (have k3 := hcell1 4 _ rfl); (have k4 := hcell1 5 _ rfl); (have y0 := hfr1 (i2 * 6 + 1)); (have y1 := hfr1 (i2 * 6 + 2)); (have y2 := hfr1 (i2 * 6 + 3)); (have y3 := hfr1 (i2 * 6 + 4)); (have y4 := hfr1 (i2 * 6 + 5)); (have HQ := Lib.hid hq); clear hcell1 hfr1 e5 hg3 hg4 hq))
       all_goals (have HST := Lib.hid (Own.storedV HP1.out.ownM HDS.out q))
       all_goals (have HN := Lib.hid (HC.out.stepM hb1 HQ.out HTX.out HDS.out rfl HST.out.1 HST.out.2))
       all_goals go_wp2_with fail
       all_goals (
        go_roundw
        case rel => exact ⟨i2 + 1, _, _, by omega, by go_num, HN⟩
        case measure => simp [intOf]; omega)
      ·obtain rfl : i2 = nm := by omega
       have HZ := HC.out.out
       obtain ⟨b0, b1, b2, b3, b4⟩ := HC.out.parts.box.cells5
       obtain ⟨z0, z1, z2, z3, z4⟩ := HZ.cells5
       dsimp only [RV.zero] at b0 b1 b2 b3 b4 z0 z1 z2 z3 z4
       have y0 := HZ.frozen 0
       have y1 := HZ.frozen 1
       have y2 := HZ.frozen 2
       have y3 := HZ.frozen 3
       have y4 := HZ.frozen 4
       have HFI := Lib.hid (HC.out.parts.fin (fun a => ⟨fun h => .inl ⟨a, rfl, by have := E1.out; omega⟩, fun h => .inr ⟨a, rfl, by have := E2.out; omega⟩⟩) HC.out.below)
       have HZZ := Lib.hid (HC.out.out.stored ⟨k, n, s, p', j, c', p2, i2, c2⟩)
       clear HZ HC HS
       go_wp2_with fail
       obtain ⟨q0, q1, q2, q3, q4⟩ := HZZ.out.cells5
       refine bodyPost_ret (v := RV.val ⟨k, n, s, p', j, c', p2, i2, c2⟩) (by simp [results, Tryz.results34, go_sem, q0, q1, q2, q3, q4]) rfl HFI.out
end
end Go.Proofs.YtffhccmppdgmfaaGreatDoor
