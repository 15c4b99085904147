import Derived.Test.YtffhccmppdgmfaaGreatDoorB01
import Derived.Test.YtffhccmppdgmfaaGreatDoorB02
import Derived.Deep.RegionLaw
import Derived.Test.YtffhccmppdgmfaaGreatDoorB27
import Derived.Test.YtffhccmppdgmfaaGreatDoorB13
import Derived.Test.YtffhccmppdgmfaaGreatDoorB00
import Derived.Test.YtffhccmppdgmfaaGreatDoorB21
set_option linter.unusedSimpArgs false
set_option linter.unusedVariables false
set_option maxRecDepth 200000
set_option maxHeartbeats 8000000
namespace Go.Proofs.YtffhccmppdgmfaaGreatDoor
section
open Go.RowKit
theorem cloneV_any {α : Type} {enc : α -> List Value} (C : Codec enc 5) (w : World) (p : Option Addr) (n c : Nat) (xs : List α) (hv : Rd w w.heap.size enc 5 (.slice p n c) xs) (hsz : xs.length * 80 <= 140737488355328) :
 Calls Tryz.prog 69 #[.slice p n c] w fun e w' => ∃ p' c', e = .returned (.slice p' n c') /\ (p = none ↔ p' = none) /\ Own w' w.heap.size 25 enc 5 (.slice p' n c') xs /\ Below w.heap.size w w' := by
 have hn : n = xs.length := by
  obtain ⟨_, _, e, _⟩ := hv
  simp only [Value.slice.injEq] at e; exact e.2.1
 subst hn
 have HS := Lib.hid hsz
 have HV := Lib.hid hv
 cases p with
 | none =>
   have h0 : xs.length = 0 /\ c = 0 := by
    obtain ⟨p', cap, he, hlc, hcm, hp0, hp⟩ := hv
    simp only [Value.slice.injEq] at he
    obtain ⟨rfl, h1, rfl⟩ := he
    have := hp0 rfl
    omega
   obtain ⟨h0, rfl⟩ := h0
   obtain rfl := List.eq_nil_of_length_eq_zero h0
   have hnil : ∀ W, (Go.binOp .eql 22 (.slice none 0 0) (.slice none 0 0)).run Tryz.prog W = .ok (.bool true) W := fun W => Lib.run_eql_slice_nil W 22 25 none 0 0 0 0 Tryz.underlying22
   clear hv
   go_enter Tryz.func69, Tryz.ntmps69
   go_wp2
   go_ret
   exact ⟨none, 0, rfl, by simp, Own.nil w _ _, Below.refl _ _⟩
 | some a =>
   have hnil : ∀ W, (Go.binOp .eql 22 (.slice (some a) xs.length c) (.slice none 0 0)).run Tryz.prog W = .ok (.bool false) W := fun W => Lib.run_eql_slice_nil W 22 25 (some a) xs.length c 0 0 Tryz.underlying22
   have hO : Own (w.alloc (.cells #[] 25)) w.heap.size 25 enc 5 (.slice (some ⟨w.heap.size, 0, none⟩) 0 0) ([] : List α) := Own.made (Nat.le_refl _)
   have hB0 : Below w.heap.size w (w.alloc (.cells #[] 25)) := (Below.refl _ _).alloc (Nat.le_refl _) _
   have HR := Lib.hid (HV.out.below hB0 (Nat.le_refl _))
   clear hv
   go_enter Tryz.func69, Tryz.ntmps69
   go_wp2_with (at_builtin; refine wpList_append_rd slV C (w.alloc (.cells #[] 25)) rfl (.tmp 5) (.tmp 6) rfl (v := .slice (some ⟨w.heap.size, 0, none⟩) 0 0) rfl rfl hO HR.out (by have := HS.out; simp; unfold maxLen; omega) (by have := HS.out; simp; omega) (by simp) ?_; intro v1 w1 ho1 hg1 hat1)
   have hb1 : Below w.heap.size w w1 := Below.appended hB0 hg1 hO (by simp)
   rw [List.nil_append] at ho1
   obtain ⟨p1, c1, rfl, _, _⟩ := ho1.len
   have hp1 : p1 ≠ none := by
    rintro rfl
    rcases hat1 with h | h <;> simp [Value.ownBlock] at h
   go_ret
   refine ⟨p1, c1, rfl, ⟨(fun h => by cases h), (fun h => absurd h hp1)⟩, ho1, hb1⟩
end
section
open Go.RowKit Go.OpenShut
def NewTree (w : World) (t : JV) (e : Ending) (w' : World) : Prop := ∃ q : RV, e = .returned q.val /\ LoneV w' (Fresh w w') t q /\ Below w.heap.size w w'
theorem set_getE {α : Type} {l : List α} {j : Nat} {x : α} (h : l[j]? = some x) : l.set j x = l := by
 apply List.ext_getElem?
 intro i
 by_cases hij : i = j
 ·subst hij
  rw [List.getElem?_set_self (List.getElem?_eq_some_iff.1 h).1, h]
 ·rw [get_set_ne _ _ hij]
theorem Parts.less {W : World} {b0 g : Nat} {D D' : Nat ⊕ Nat -> Prop} {l : List JV} {m : List (ByteArray × JV)} {ds : List RV} {dms : List RM} {r : RV} {F : Nat ⊕ Nat -> Nat -> Prop} (h : Parts W b0 g D l m ds dms r F) (hD : ∀ a, D' a -> D a) : Parts W b0 g D' l m ds dms r F :=
 ⟨h.box, h.ownL, h.ownM, h.bL, h.bM, h.dr, h.los, h.el, h.em, h.cn, fun i t q hd => h.cl i t q (hD _ hd), fun i t q hd => h.cm i t q (hD _ hd), h.ff, h.dd⟩
structure CopyS (w W : World) (jl jm : Nat) (l : List JV) (m : List (ByteArray × JV)) (rs : List RV) (rms : List RM) (ds : List RV) (dms : List RM) (r : RV) (F : Nat ⊕ Nat -> Nat -> Prop) : Prop where
 parts : Parts W (w.heap.size + 1 + 1) w.heap.size (fun a => (∃ i, a = .inl i /\ i < jl) \/ ∃ i, a = .inr i /\ i < jm) l m ds dms r F
 rl : ∀ i, jl <= i -> ds[i]? = rs[i]?
 rm : ∀ i, jm <= i -> dms[i]? = rms[i]?
 below : Below w.heap.size w W
 out : VAt W (w.heap.size + 1) RV.zero
theorem Parts.drew {W : World} {b0 g : Nat} {D : Nat ⊕ Nat -> Prop} {l : List JV} {m : List (ByteArray × JV)} {ds : List RV} {dms : List RM} {r : RV} {F : Nat ⊕ Nat -> Nat -> Prop} (h : Parts W b0 g D l m ds dms r F) : Parts W.drew b0 g D l m ds dms r F :=
 ⟨h.box, h.ownL, h.ownM, h.bL, h.bM, h.dr, h.los, h.el, h.em, h.cn, fun i t q h1 h2 h3 => (h.cl i t q h1 h2 h3).same fun _ _ => rfl, fun i t q h1 h2 h3 => (h.cm i t q h1 h2 h3).same fun _ _ => rfl, h.ff, h.dd⟩
theorem VAt.set3 {W : World} {g : Nat} {r : RV} (h : VAt W g r) (p : Option Addr) (n c : Nat) : VAt (W.setCell ⟨g, 3, none⟩ (.slice p n c)) g { r with pl := p, nl := n, cl := c } := by
 unfold VAt at h ⊢
 simp [World.setCell, Array.getElem?_modify, h]
theorem CopyS.start {w w1 w2 : World} {b1 : Nat} {k n : Int} {s : ByteArray} {pl pm p' p2 : Option Addr} {nl cl nm cm c' c2 : Nat} {l : List JV} {m : List (ByteArray × JV)} {rs : List RV} {rms : List RM}
 (hA : VAt w2 w.heap.size ⟨k, n, s, pl, nl, cl, pm, nm, cm⟩) (hZ : VAt w2 (w.heap.size + 1) RV.zero) (ho1 : Own w1 b1 25 encV 5 (.slice p' nl c') rs) (hb1 : w.heap.size + 1 + 1 <= b1) (ho2 : Own w2 w1.heap.size 32 encM 6 (.slice p2 nm c2) rms)
 (hb2 : Below w1.heap.size w1 w2) (hb : Below w.heap.size w w2) (hw : w.heap.size + 1 + 1 <= w1.heap.size) (el : l.length = rs.length) (em : m.length = rms.length) (cn : ∀ (i : Nat) (p : ByteArray × JV) (q : RM), m[i]? = some p -> rms[i]? = some q -> p.1 = q.name) :
 CopyS w ((w2.setCell ⟨w.heap.size, 3, none⟩ (.slice p' nl c')).setCell ⟨w.heap.size, 4, none⟩ (.slice p2 nm c2)) 0 0 l m rs rms rs rms ⟨k, n, s, p', nl, c', p2, nm, c2⟩ (fun _ _ => False) := by
 have hg : w2.grownBy ((w2.setCell ⟨w.heap.size, 3, none⟩ (.slice p' nl c')).setCell ⟨w.heap.size, 4, none⟩ (.slice p2 nm c2)) (some w.heap.size) := (grownBy_set w2 w.heap.size 3 _).trans (grownBy_set _ w.heap.size 4 _)
 have hsz : ((w2.setCell ⟨w.heap.size, 3, none⟩ (.slice p' nl c')).setCell ⟨w.heap.size, 4, none⟩ (.slice p2 nm c2)).heap.size = w2.heap.size := by simp
 have hs2 := hb2.size
 have l1 := ho1.lt
 have l2 := ho2.lt
 refine ⟨⟨(hA.set3 p' nl c').set4 p2 nm c2, ((ho1.mono hb1).below hb2 (Nat.le_refl _)).kept hg ?_, (ho2.mono hw).kept hg ?_, ?_, ?_, ?_, by omega, el, em, cn, ?_, ?_, ?_, ?_⟩, fun _ _ => rfl, fun _ _ => rfl, ?_, ?_⟩
 ·cases h : (Value.slice p' nl c').ownBlock with
  | none => exact .inl rfl
  | some j => exact .inr (fun e => by have := (l1 j h).1; cases e; omega)
 ·cases h : (Value.slice p2 nm c2).ownBlock with
  | none => exact .inl rfl
  | some j => exact .inr (fun e => by have := (l2 j h).1; cases e; omega)
 ·intro k h; have := l1 k h; omega
 ·intro k h; have := l2 k h; omega
 ·intro k h h'; have := l1 k h; have := l2 k h'; omega
 ·rintro i t q (⟨_, _, h⟩ | ⟨_, _, h⟩) <;> omega
 ·rintro i t q (⟨_, _, h⟩ | ⟨_, _, h⟩) <;> omega
 ·intro a k h; exact h.elim
 ·intro a b k h; exact h.elim
 ·exact (hb.setCell (p := ⟨w.heap.size, 3, none⟩) (Nat.le_refl _) _).setCell (p := ⟨w.heap.size, 4, none⟩) (Nat.le_refl _) _
 ·exact (hg.block (w.heap.size + 1) (by omega) (fun e => by injection e with e; omega)).trans hZ
theorem CopyS.stepL {w W w1 W2 : World} {j jm : Nat} {l : List JV} {m : List (ByteArray × JV)} {rs ds : List RV} {rms dms : List RM} {r : RV} {F : Nat ⊕ Nat -> Nat -> Prop} (h : CopyS w W j jm l m rs rms ds dms r F) (hb : Below W.drew.heap.size W.drew w1) {t : JV} {x q : RV} (hq : LoneV w1 (Fresh W.drew w1) t q) (ht : l[j]? = some t) (hx : ds[j]? = some x)
 {g2 : Nat} (hg2 : r.pl = some ⟨g2, 0, none⟩) (ho : Own W2 (w.heap.size + 1 + 1) 25 encV 5 (.slice r.pl r.nl r.cl) (ds.set j q)) (hg : w1.grownBy W2 (some g2)) :
 CopyS w W2 (j + 1) jm l m rs rms (ds.set j q) dms r (fun a k => if a = .inl j then Fresh W.drew w1 k else F a k) := by
 have hob : (Value.slice r.pl r.nl r.cl).ownBlock = some g2 := by rw [hg2]; rfl
 have hp := Parts.setL h.parts.drew hb hq hob ho hg (List.getElem?_eq_some_iff.1 hx).1
 rw [set_getE ht] at hp
 have hg2b := (h.parts.ownL.lt g2 hob).1
 have hsz : W.drew.heap.size = W.heap.size := rfl
 have hbs := hb.size
 have hg2s := (h.parts.ownL.lt g2 hob).2
 refine ⟨hp.less ?_, ?_, h.rm, ?_, ?_⟩
 ·rintro a (⟨i, rfl, hi⟩ | hi)
  ·rcases Nat.lt_or_ge i j with h1 | h1
   ·exact .inl (.inl ⟨i, rfl, h1⟩)
   ·exact .inr (by rw [show i = j by omega])
  ·exact .inl (.inr hi)
 ·intro i hi
  rw [get_set_ne _ _ (by omega)]
  exact h.rl i (by omega)
 ·exact (h.below.drew.trans (hb.mono h.below.size)).trans ((Below.refl _ _).grown hg (Nat.le_trans h.below.size hbs) (fun k e => by cases e; omega))
 ·have h1 : VAt w1 (w.heap.size + 1) RV.zero := VAt.under (W := W.drew) h.out hb (by have := h.out.lt; omega)
  exact (hg.block (w.heap.size + 1) h1.lt (fun e => by injection e with e; omega)).trans h1
theorem CopyS.stepM {w W w1 W2 : World} {j jl : Nat} {l : List JV} {m : List (ByteArray × JV)} {rs ds : List RV} {rms dms : List RM} {r : RV} {F : Nat ⊕ Nat -> Nat -> Prop} (h : CopyS w W jl j l m rs rms ds dms r F) (hb : Below W.drew.heap.size W.drew w1) {p : ByteArray × JV} {x : RM} {q : RV} (hq : LoneV w1 (Fresh W.drew w1) p.2 q) (ht : m[j]? = some p) (hx : dms[j]? = some x)
 {g2 : Nat} (hg2 : r.pm = some ⟨g2, 0, none⟩) (ho : Own W2 (w.heap.size + 1 + 1) 32 encM 6 (.slice r.pm r.nm r.cm) (dms.set j ⟨x.name, q⟩)) (hg : w1.grownBy W2 (some g2)) :
 CopyS w W2 jl (j + 1) l m rs rms ds (dms.set j ⟨x.name, q⟩) r (fun a k => if a = .inr j then Fresh W.drew w1 k else F a k) := by
 have hob : (Value.slice r.pm r.nm r.cm).ownBlock = some g2 := by rw [hg2]; rfl
 have hp := Parts.setM h.parts.drew hb hq hob ht hx ho hg
 rw [show (p.1, p.2) = p from rfl, set_getE ht] at hp
 have hg2b := (h.parts.ownM.lt g2 hob).1
 have hsz : W.drew.heap.size = W.heap.size := rfl
 have hbs := hb.size
 have hg2s := (h.parts.ownM.lt g2 hob).2
 refine ⟨hp.less ?_, h.rl, ?_, ?_, ?_⟩
 ·rintro a (hi | ⟨i, rfl, hi⟩)
  ·exact .inl (.inl hi)
  ·rcases Nat.lt_or_ge i j with h1 | h1
   ·exact .inl (.inr ⟨i, rfl, h1⟩)
   ·exact .inr (by rw [show i = j by omega])
 ·intro i hi
  rw [get_set_ne _ _ (by omega)]
  exact h.rm i (by omega)
 ·exact (h.below.drew.trans (hb.mono h.below.size)).trans ((Below.refl _ _).grown hg (Nat.le_trans h.below.size hbs) (fun k e => by cases e; omega))
 ·have h1 : VAt w1 (w.heap.size + 1) RV.zero := VAt.under (W := W.drew) h.out hb (by have := h.out.lt; omega)
  exact (hg.block (w.heap.size + 1) h1.lt (fun e => by injection e with e; omega)).trans h1
theorem Parts.fin {w W : World} {l : List JV} {m : List (ByteArray × JV)} {ds : List RV} {dms : List RM} {r : RV} {D : Nat ⊕ Nat -> Prop} {F : Nat ⊕ Nat -> Nat -> Prop} (h : Parts W (w.heap.size + 1 + 1) w.heap.size D l m ds dms r F) (hD : ∀ i, (i < l.length -> D (.inl i)) /\ (i < m.length -> D (.inr i))) (hb : Below w.heap.size w W) :
 NewTree w (.mk r.k r.n r.s l m) (.returned r.val) (((((W.setCell ⟨w.heap.size + 1, 0, none⟩ (.int .i64 r.k)).setCell ⟨w.heap.size + 1, 1, none⟩ (.int .i64 r.n)).setCell ⟨w.heap.size + 1, 2, none⟩ (.string r.s)).setCell ⟨w.heap.size + 1, 3, none⟩ (.slice r.pl r.nl r.cl)).setCell ⟨w.heap.size + 1, 4, none⟩ (.slice r.pm r.nm r.cm)) := by
 have hg := grownBy_set5 W (w.heap.size + 1) r
 have h1 := h.whole hD
 refine ⟨r, rfl, (h1.same fun k hk => hg.block k hk.2 (fun e => by have := hk.1; injection e with e; omega)).mono fun k hk => ⟨by omega, Nat.lt_of_lt_of_le hk.2 hg.size⟩, Below.stored hb (by omega) r⟩
theorem copy_any (N : Nat) : ∀ (t : JV) (r : RV) (w : World), SizeOf.sizeOf t <= N -> TreeOf w w.heap.size t r -> t.Ok ->
 Calls Tryz.prog 34 #[r.val] w (NewTree w t) := by
 induction N with
 | zero => intro t r w hN; cases t; simp at hN
 | succ N ih =>
   intro t r w hN ht ot
   cases ht with
   | @mk _ l m rs rms hl el hcl hm em hcn hcm =>
   obtain ⟨k, n, s, pl, nl, cl, pm, nm, cm⟩ := r
   cases ot with
   | mk _ _ _ bl bm okl oks okm =>
   dsimp only [RV.val] at *
   have eL := rd_nlen hl
   have eM := rd_nlen hm
   have HT : Hid (∀ (i : Nat) t q, l[i]? = some t -> rs[i]? = some q -> ∀ W, Below w.heap.size w W -> Calls Tryz.prog 34 #[q.val] W (NewTree W t)) :=
    fun i t q h1 h2 W hb => ih t q W (by have := JV.lt_l (k := k) (n := n) (s := s) (m := m) h1; omega) ((hcl i t q h1 h2).under hb hb.size) (okl i t h1)
   have HS : Hid (∀ (i : Nat) p q, m[i]? = some p -> rms[i]? = some q -> ∀ W, Below w.heap.size w W -> Calls Tryz.prog 34 #[q.v.val] W (NewTree W p.2)) :=
    fun i p q h1 h2 W hb => ih p.2 q.v W (by have := JV.lt_m (k := k) (n := n) (s := s) (l := l) h1; omega) ((hcm i p q h1 h2).under hb hb.size) (okm i p h1)
   have HL := Lib.hid hl
   have HM := Lib.hid hm
   have HCN := Lib.hid hcn
   have E1 : Hid (l.length = nl /\ rs.length = nl) := ⟨by omega, by omega⟩
   have E2 : Hid (m.length = nm /\ rms.length = nm) := ⟨by omega, by omega⟩
   have hnl : nl <= 1759218604390 := by omega
   have hnm : nm <= 1466015503658 := by omega
   have hA0 : VAt ((w.alloc (.cells #[.int .i64 k, .int .i64 n, .string s, .slice pl nl cl, .slice pm nm cm] 25)).alloc (.cells #[.int .i64 0, .int .i64 0, .string ⟨#[]⟩, .slice none 0 0, .slice none 0 0] 25)) w.heap.size ⟨k, n, s, pl, nl, cl, pm, nm, cm⟩ := heap_alloc_lt (by simp) (heap_alloc_at rfl)
   have hA1 : VAt ((w.alloc (.cells #[.int .i64 k, .int .i64 n, .string s, .slice pl nl cl, .slice pm nm cm] 25)).alloc (.cells #[.int .i64 0, .int .i64 0, .string ⟨#[]⟩, .slice none 0 0, .slice none 0 0] 25)) (w.heap.size + 1) RV.zero := heap_alloc_at (by simp)
   have hB0 := below2 w (.cells #[.int .i64 k, .int .i64 n, .string s, .slice pl nl cl, .slice pm nm cm] 25) (.cells #[.int .i64 0, .int .i64 0, .string ⟨#[]⟩, .slice none 0 0, .slice none 0 0] 25)
   clear ih hcl hcn hcm hl hm okl oks okm el em bl bm eL eM hN
   go_enter Tryz.func34, Tryz.ntmps34
   go_upto_region 1 with fail
   have hws : ((w.alloc (.cells #[.int .i64 k, .int .i64 n, .string s, .slice pl nl cl, .slice pm nm cm] 25)).alloc (.cells #[.int .i64 0, .int .i64 0, .string ⟨#[]⟩, .slice none 0 0, .slice none 0 0] 25)).heap.size = w.heap.size + 1 + 1 := by simp
   obtain ⟨W0, hW0⟩ : ∃ W0, ((w.alloc (.cells #[.int .i64 k, .int .i64 n, .string s, .slice pl nl cl, .slice pm nm cm] 25)).alloc (.cells #[.int .i64 0, .int .i64 0, .string ⟨#[]⟩, .slice none 0 0, .slice none 0 0] 25)) = W0 := ⟨_, rfl⟩
   rw [hW0] at hA0 hA1 hB0 hws ⊢
   clear hW0
   have HWS := Lib.hid hws
   have c3 := hA0.cell 3 rfl
   have c4 := hA0.cell 4 rfl
   dsimp only at c3 c4
   have hz := hA0.lt
   have HA0 := Lib.hid hA0
   have HA1 := Lib.hid hA1
   have HB0 := Lib.hid hB0
   have HAD : Hid (VAt W0.drew w.heap.size ⟨k, n, s, pl, nl, cl, pm, nm, cm⟩) := hA0
   have HZD : Hid (VAt W0.drew (w.heap.size + 1) RV.zero) := hA1
   clear hA0 hA1 hB0 hws
   go_cut [12] from 5 to 12 (fun v wr => v = .pointer (some ⟨w.heap.size, 4, none⟩) /\ ∃ p' c' p2 c2, Hid (CopyS w wr 0 0 l m rs rms rs rms ⟨k, n, s, p', nl, c', p2, nm, c2⟩ (fun _ _ => False)))
   case first =>
    go_region_law (first
     | (go_simp; go_at_call 69; refine (cloneV_any codecV _ pl nl cl rs (HL.out.below HB0.out.drew HB0.out.size) (by have := E1.out; omega)).mono ?_; rintro e w1 ⟨p', c', rfl, hpn1, ho1, hb1⟩; (have c3' := bcs hb1 hz c3); (have c4' := bcs hb1 hz c4))
     | (go_simp; go_at_call 70; refine (cloneM_any codecM _ pm nm cm rms (HM.out.below (HB0.out.drew.trans (hb1.mono HB0.out.size)) (HB0.out.drew.trans (hb1.mono HB0.out.size)).size) (by have := E2.out; omega)).mono ?_; rintro e w2 ⟨p2, c2, rfl, hpn2, ho2, hb2⟩; (have hA2 := (HAD.out.under hb1 hz).under hb2 (Nat.lt_of_lt_of_le hz hb1.size)); (have d3 := hA2.cell 3 rfl); (have d4 := hA2.cell 4 rfl); (have x3 := hA2.frozen 3); (have x4 := hA2.frozen 4)))
    all_goals go_wp2_with fail
    all_goals (
     go_meet
     exact ⟨rfl, p', c', p2, c2, CopyS.start hA2 (VAt.under (VAt.under (W := W0.drew) HZD.out hb1 HZD.out.lt) hb2 (Nat.lt_of_lt_of_le HZD.out.lt hb1.size)) ho1 (by have := HWS.out; simp; omega) ho2 hb2 ((HB0.out.drew.trans (hb1.mono HB0.out.size)).trans (hb2.mono (Nat.le_trans HB0.out.size hb1.size))) (by have := HWS.out; have := hb1.size; simp at this; omega) (by have := E1.out; omega) (by have := E2.out; omega) HCN.out⟩)
   case rest =>
   obtain ⟨rfl, p', c', p2, c2, hC0⟩ := hcut
   have HC0 := hC0
   have hC0 := HC0.out
   have c3 := hC0.parts.box.cell 3 rfl
   dsimp only at c3
   clear hC0 HA0 HA1 HB0 HAD HZD HWS c4
   go_wp2_with fail
   go_loopw [16] (fun i wr => ∃ (j : Nat) (ds : List RV) (F : Nat ⊕ Nat -> Nat -> Prop), j <= nl /\ i = .int .i64 j /\ Hid (CopyS w wr j 0 l m rs rms ds rms ⟨k, n, s, p', nl, c', p2, nm, c2⟩ F)) (fun i _ => nl - (intOf i).toNat)
   case atStart => exact ⟨0, rs, _, Nat.zero_le _, rfl, HC0⟩
   case round =>
    obtain ⟨j, ds, F, hj, rfl, HC⟩ := hrel
    have hbr := HC.out.below
    by_cases hlt : j < nl
    ·obtain ⟨tx, htx⟩ : ∃ x, l[j]? = some x := ⟨_, List.getElem?_eq_getElem (by have := E1.out; omega)⟩
     obtain ⟨x, hx⟩ : ∃ x, rs[j]? = some x := ⟨_, List.getElem?_eq_getElem (by have := E1.out; omega)⟩
     have hds : ds[j]? = some x := (HC.out.rl j (Nat.le_refl _)).trans hx
     obtain ⟨g2, e2, e3, hg1, hg2, hcell, hfr⟩ := Own.at codecV HC.out.parts.ownL hds
     dsimp only at e2
     subst e2
     have c3 := HC.out.parts.box.cell 3 rfl
     dsimp only at c3
     have hgb := HC.out.parts.box.lt
     have f0 := hcell 0 _ rfl
     have f1 := hcell 1 _ rfl
     have f2 := hcell 2 _ rfl
     have f3 := hcell 3 _ rfl
     have f4 := hcell 4 _ rfl
     rw [Nat.add_zero] at f0
     have HR := Lib.hid (HT.out j tx x htx hx)
     have hk0 : (0 : Int) <= (j : Int) := Int.natCast_nonneg _
     have hk1 : (j : Int) < (nl : Int) := by omega
     have HTX := Lib.hid htx
     have HDS := Lib.hid hds
     have HG1 := Lib.hid hg1
     clear hcell hfr htx hx hds e3 hg1
     go_wp2_with fail
     go_region_law (first
      | (go_simp; go_at_call 34; refine (HR.out _ hbr.drew).mono ?_; rintro e w1 ⟨q, rfl, hq, hb1⟩; (have HP1 := Lib.hid (HC.out.parts.drew.below hb1)); (have c3' := HP1.out.box.cell 3 rfl); dsimp only at c3'; obtain ⟨g3, e4, e5, hg3, hg4, hcell1, hfr1⟩ := Own.at codecV HP1.out.ownL HDS.out; dsimp only at e4; cases e4; (have k0 := hcell1 0 _ rfl); (have k1 := hcell1 1 _ rfl); (have k2 := hcell1 2 _ rfl); (have k3 := hcell1 3 _ rfl); (have k4 := hcell1 4 _ rfl); (have y0 := hfr1 (j * 5)); (have y1 := hfr1 (j * 5 + 1)); (have y2 := hfr1 (j * 5 + 2)); (have y3 := hfr1 (j * 5 + 3)); (have y4 := hfr1 (j * 5 + 4)); rw [Nat.add_zero] at k0; (have HQ := Lib.hid hq); clear hcell1 hfr1 e5 hg3 hg4 hq))
     all_goals (have HS := Lib.hid (Own.storedL HP1.out.ownL HDS.out q))
     all_goals (have HN := Lib.hid (HC.out.stepL hb1 HQ.out HTX.out HDS.out rfl HS.out.1 HS.out.2))
     all_goals go_wp2_with fail
     all_goals (
      go_roundw
      case rel => exact ⟨j + 1, _, _, by omega, by go_num, HN⟩
      case measure => simp [intOf]; omega)
    ·obtain rfl : j = nl := by omega
     have c4 := HC.out.parts.box.cell 4 rfl
     dsimp only at c4
     clear HT hbr c3 HC0
     go_wp2_with fail
     go_loopw [33] (fun i wr => ∃ (i2 : Nat) (dms : List RM) (F : Nat ⊕ Nat -> Nat -> Prop), i2 <= nm /\ i = .int .i64 i2 /\ Hid (CopyS w wr j i2 l m rs rms ds dms ⟨k, n, s, p', j, c', p2, nm, c2⟩ F)) (fun i _ => nm - (intOf i).toNat)
     case atStart => exact ⟨0, rms, F, Nat.zero_le _, rfl, HC⟩
     case round =>
      obtain ⟨i2, dms, F, hi2, rfl, HC⟩ := hrel
      have hbr := HC.out.below
      by_cases hlt2 : i2 < nm
      ·obtain ⟨tx, htx⟩ : ∃ x, m[i2]? = some x := ⟨_, List.getElem?_eq_getElem (by have := E2.out; omega)⟩
       obtain ⟨x, hx⟩ : ∃ x, rms[i2]? = some x := ⟨_, List.getElem?_eq_getElem (by have := E2.out; omega)⟩
       have hds : dms[i2]? = some x := (HC.out.rm i2 (Nat.le_refl _)).trans hx
       obtain ⟨g2, e2, e3, hg1, hg2, hcell, hfr⟩ := Own.at codecM HC.out.parts.ownM hds
       dsimp only at e2
       subst e2
       have c4 := HC.out.parts.box.cell 4 rfl
       dsimp only at c4
       have hgb := HC.out.parts.box.lt
       have f0 := hcell 0 _ rfl
       have f1 := hcell 1 _ rfl
       have f2 := hcell 2 _ rfl
       have f3 := hcell 3 _ rfl
       have f4 := hcell 4 _ rfl
       have f5 := hcell 5 _ rfl
       rw [Nat.add_zero] at f0
       have HR := Lib.hid (HS.out i2 tx x htx hx)
       have hk0 : (0 : Int) <= (i2 : Int) := Int.natCast_nonneg _
       have hk1 : (i2 : Int) < (nm : Int) := by omega
       have HTX := Lib.hid htx
       have HDS := Lib.hid hds
       clear hcell hfr htx hx hds e3 hg1
       go_wp2_with fail
       go_region_law (first
        | (go_simp; go_at_call 34; refine (HR.out _ hbr.drew).mono ?_; rintro e w1 ⟨q, rfl, hq, hb1⟩; (have HP1 := Lib.hid (HC.out.parts.drew.below hb1)); (have c4' := HP1.out.box.cell 4 rfl); dsimp only at c4'; obtain ⟨g3, e4, e5, hg3, hg4, hcell1, hfr1⟩ := Own.at codecM HP1.out.ownM HDS.out; dsimp only at e4; cases e4; (have k0 := hcell1 1 _ rfl); (have k1 := hcell1 2 _ rfl); (have k2 := hcell1 3 _ rfl); (have k3 := hcell1 4 _ rfl); (have k4 := hcell1 5 _ rfl); (have y0 := hfr1 (i2 * 6 + 1)); (have y1 := hfr1 (i2 * 6 + 2)); (have y2 := hfr1 (i2 * 6 + 3)); (have y3 := hfr1 (i2 * 6 + 4)); (have y4 := hfr1 (i2 * 6 + 5)); (have HQ := Lib.hid hq); clear hcell1 hfr1 e5 hg3 hg4 hq))
       all_goals (have HST := Lib.hid (Own.storedV HP1.out.ownM HDS.out q))
       all_goals (have HN := Lib.hid (HC.out.stepM hb1 HQ.out HTX.out HDS.out rfl HST.out.1 HST.out.2))
       all_goals go_wp2_with fail
       all_goals (
        go_roundw
        case rel => exact ⟨i2 + 1, _, _, by omega, by go_num, HN⟩
        case measure => simp [intOf]; omega)
      ·obtain rfl : i2 = nm := by omega
       have HZ := HC.out.out
       obtain ⟨b0, b1, b2, b3, b4⟩ := HC.out.parts.box.cells5
       obtain ⟨z0, z1, z2, z3, z4⟩ := HZ.cells5
       dsimp only [RV.zero] at b0 b1 b2 b3 b4 z0 z1 z2 z3 z4
       have y0 := HZ.frozen 0
       have y1 := HZ.frozen 1
       have y2 := HZ.frozen 2
       have y3 := HZ.frozen 3
       have y4 := HZ.frozen 4
       have HFI := Lib.hid (HC.out.parts.fin (fun a => ⟨fun h => .inl ⟨a, rfl, by have := E1.out; omega⟩, fun h => .inr ⟨a, rfl, by have := E2.out; omega⟩⟩) HC.out.below)
       have HZZ := Lib.hid (HC.out.out.stored ⟨k, n, s, p', j, c', p2, i2, c2⟩)
       clear HZ HC HS
       go_wp2_with fail
       obtain ⟨q0, q1, q2, q3, q4⟩ := HZZ.out.cells5
       refine bodyPost_ret (v := RV.val ⟨k, n, s, p', j, c', p2, i2, c2⟩) (by simp [results, Tryz.results34, go_sem, q0, q1, q2, q3, q4]) rfl HFI.out
end
section
open Go Go.RowKit Go.OpenShut
inductive JV.LenOk : JV -> Prop
 | mk {k n : Int} {s : ByteArray} {l : List JV} {m : List (ByteArray × JV)} (hl : l.length <= 1759218604390) (hm : m.length <= 1466015503658) (cl : ∀ (i : Nat) (x : JV), l[i]? = some x -> LenOk x) (cm : ∀ (i : Nat) (p : ByteArray × JV), m[i]? = some p -> LenOk p.2) : LenOk (.mk k n s l m)
theorem JV.Ok.len {t : JV} (h : t.Ok) : t.LenOk := by
 induction h with
 | mk _ _ _ hl hm _ _ _ ih1 ih2 => exact .mk hl hm ih1 ih2
theorem same5L_any (N : Nat) : ∀ (t u : JV) (r q : RV) (w : World), SizeOf.sizeOf t <= N -> TreeOf w w.heap.size t r -> TreeOf w w.heap.size u q -> t.LenOk -> u.LenOk ->
 Calls Tryz.prog 36 #[r.val, q.val] w (Said w (t = u)) := by
 induction N with
 | zero => intro t u r q w hN; cases t; simp at hN
 | succ N ih =>
   intro t u r q w hN ht hu ot ou
   cases ht with
   | @mk _ l1 m1 rs1 rms1 hl1 el1 hcl1 hm1 em1 hcn1 hcm1 =>
   cases hu with
   | @mk _ l2 m2 rs2 rms2 hl2 el2 hcl2 hm2 em2 hcn2 hcm2 =>
   have eL1 := rd_nlen hl1
   have eL2 := rd_nlen hl2
   have eM1 := rd_nlen hm1
   have eM2 := rd_nlen hm2
   by_cases hall : r.k = q.k /\ r.n = q.n /\ r.s = q.s /\ r.nl = q.nl /\ r.nm = q.nm
   ·obtain ⟨k1, n1, s1, pl1, nl1, cl1, pm1, nm1, cm1⟩ := r
    obtain ⟨k2, n2, s2, pl2, nl2, cl2, pm2, nm2, cm2⟩ := q
    dsimp only [RV.val] at *
    obtain ⟨rfl, rfl, rfl, rfl, rfl⟩ := hall
    cases ot with
    | mk bl1 bm1 okl1 okm1 =>
    cases ou with
    | mk bl2 bm2 okl2 okm2 =>
    have HT : Hid (∀ (k : Nat) tx ty x y, l1[k]? = some tx -> l2[k]? = some ty -> rs1[k]? = some x -> rs2[k]? = some y -> ∀ W, Below w.heap.size w W -> Calls Tryz.prog 36 #[x.val, y.val] W (Said W (tx = ty))) :=
     fun k tx ty x y h1 h2 h3 h4 W hb => ih tx ty x y W (by have := JV.lt_l (k := k1) (n := n1) (s := s1) (m := m1) h1; omega) ((hcl1 k tx x h1 h3).under hb hb.size) ((hcl2 k ty y h2 h4).under hb hb.size) (okl1 k tx h1) (okl2 k ty h2)
    have HS : Hid (∀ (k : Nat) tx ty x y, m1[k]? = some tx -> m2[k]? = some ty -> rms1[k]? = some x -> rms2[k]? = some y -> ∀ W, Below w.heap.size w W -> Calls Tryz.prog 36 #[x.v.val, y.v.val] W (Said W (tx.2 = ty.2))) :=
     fun k tx ty x y h1 h2 h3 h4 W hb => ih tx.2 ty.2 x.v y.v W (by have := JV.lt_m (k := k1) (n := n1) (s := s1) (l := l1) h1; omega) ((hcm1 k tx x h1 h3).under hb hb.size) ((hcm2 k ty y h2 h4).under hb hb.size) (okm1 k tx h1) (okm2 k ty h2)
    have HN1 := Lib.hid hcn1
    have HN2 := Lib.hid hcn2
    have HL1 := Lib.hid hl1
    have HL2 := Lib.hid hl2
    have HM1 := Lib.hid hm1
    have HM2 := Lib.hid hm2
    have hnl : nl1 <= 1759218604390 := by omega
    have hnm : nm1 <= 1466015503658 := by omega
    have E1 : Hid (l1.length = nl1 /\ l2.length = nl1 /\ rs1.length = nl1 /\ rs2.length = nl1) := ⟨by omega, by omega, by omega, by omega⟩
    have E2 : Hid (m1.length = nm1 /\ m2.length = nm1 /\ rms1.length = nm1 /\ rms2.length = nm1) := ⟨by omega, by omega, by omega, by omega⟩
    clear ih hcl1 hcl2 hcm1 hcm2 hcn1 hcn2 hl1 hl2 hm1 hm2 okl1 okl2 okm1 okm2 el1 el2 em1 em2 eL1 eL2 eM1 eM2 bl1 bl2 bm1 bm2 hN
    go_enter Tryz.func36, Tryz.ntmps36
    go_upto_region 1 with fail
    have hA0 : VAt ((w.alloc (.cells #[.int .i64 k1, .int .i64 n1, .string s1, .slice pl1 nl1 cl1, .slice pm1 nm1 cm1] 25)).alloc (.cells #[.int .i64 k1, .int .i64 n1, .string s1, .slice pl2 nl1 cl2, .slice pm2 nm1 cm2] 25)) w.heap.size ⟨k1, n1, s1, pl1, nl1, cl1, pm1, nm1, cm1⟩ := heap_alloc_lt (by simp) (heap_alloc_at rfl)
    have hA1 : VAt ((w.alloc (.cells #[.int .i64 k1, .int .i64 n1, .string s1, .slice pl1 nl1 cl1, .slice pm1 nm1 cm1] 25)).alloc (.cells #[.int .i64 k1, .int .i64 n1, .string s1, .slice pl2 nl1 cl2, .slice pm2 nm1 cm2] 25)) (w.heap.size + 1) ⟨k1, n1, s1, pl2, nl1, cl2, pm2, nm1, cm2⟩ := heap_alloc_at (by simp)
    have hB0 := below2 w (.cells #[.int .i64 k1, .int .i64 n1, .string s1, .slice pl1 nl1 cl1, .slice pm1 nm1 cm1] 25) (.cells #[.int .i64 k1, .int .i64 n1, .string s1, .slice pl2 nl1 cl2, .slice pm2 nm1 cm2] 25)
    obtain ⟨W0, hW0⟩ : ∃ W0, ((w.alloc (.cells #[.int .i64 k1, .int .i64 n1, .string s1, .slice pl1 nl1 cl1, .slice pm1 nm1 cm1] 25)).alloc (.cells #[.int .i64 k1, .int .i64 n1, .string s1, .slice pl2 nl1 cl2, .slice pm2 nm1 cm2] 25)) = W0 := ⟨_, rfl⟩
    rw [hW0] at hA0 hA1 hB0 ⊢
    clear hW0
    have HA0 := Lib.hid hA0
    have HA1 := Lib.hid hA1
    obtain ⟨p0, p1, p2, p3, p4⟩ := hA0.cells5
    obtain ⟨q0, q1, q2, q3, q4⟩ := hA1.cells5
    have hz := hA1.lt
    clear hA0 hA1
    go_wp2_with fail
    go_loopw [5] (fun i wr => ∃ k : Nat, k <= nl1 /\ i = .int .i64 k /\ Hid (l1.take k = l2.take k) /\ Below W0.heap.size W0 wr) (fun i _ => nl1 - (intOf i).toNat)
    case atStart => exact ⟨0, Nat.zero_le _, rfl, rfl, Below.refl _ _⟩
    case round =>
     obtain ⟨k, hk, rfl, hsm, hbr⟩ := hrel
     have hbw : Below w.heap.size w wr := hB0.trans (hbr.mono (by omega))
     have p3 := bcs hbr (by omega) p3
     have q3 := bcs hbr (by omega) q3
     by_cases hlt : k < nl1
     ·obtain ⟨tx, htx⟩ : ∃ x, l1[k]? = some x := ⟨_, List.getElem?_eq_getElem (by have := E1.out; omega)⟩
      obtain ⟨ty, hty⟩ : ∃ x, l2[k]? = some x := ⟨_, List.getElem?_eq_getElem (by have := E1.out; omega)⟩
      obtain ⟨x, hx⟩ : ∃ x, rs1[k]? = some x := ⟨_, List.getElem?_eq_getElem (by have := E1.out; omega)⟩
      obtain ⟨y, hy⟩ : ∃ x, rs2[k]? = some x := ⟨_, List.getElem?_eq_getElem (by have := E1.out; omega)⟩
      obtain ⟨b1, o1, rfl, hb1, hc1⟩ := rd_at' (HL1.out.below hbw (Nat.le_refl _)) hx
      obtain ⟨b2, o2, rfl, hb2, hc2⟩ := rd_at' (HL2.out.below hbw (Nat.le_refl _)) hy
      have f0 := hc1 0 _ rfl
      have f1 := hc1 1 _ rfl
      have f2 := hc1 2 _ rfl
      have f3 := hc1 3 _ rfl
      have f4 := hc1 4 _ rfl
      have g0 := hc2 0 _ rfl
      have g1 := hc2 1 _ rfl
      have g2 := hc2 2 _ rfl
      have g3 := hc2 3 _ rfl
      have g4 := hc2 4 _ rfl
      rw [Nat.add_zero] at f0 g0
      have HC := Lib.hid (HT.out k tx ty x y htx hty hx hy)
      have hk0 : (0 : Int) <= (k : Int) := Int.natCast_nonneg _
      have hk1 : (k : Int) < (nl1 : Int) := by omega
      have HTX := Lib.hid htx
      have HTY := Lib.hid hty
      clear hc1 hc2 htx hty hx hy
      have hzr : W0.heap.size <= wr.heap.size := hbr.size
      have HBR := Lib.hid hbr
      by_cases hxy : tx = ty
      ·have HXY := Lib.hid hxy
       have HNX := Lib.hid (take_eq HTX.out (hxy ▸ HTY.out) hsm.out)
       clear hxy hbr
       go_wp2_with fail
       go_region_held3 (fun w' => w'.cell? ⟨w.heap.size, 3, none⟩ = some (.slice (some ⟨b1, o1, none⟩) nl1 cl1) /\ w'.cell? ⟨w.heap.size + 1, 3, none⟩ = some (.slice (some ⟨b2, o2, none⟩) nl1 cl2) /\
        w'.cell? ⟨b1, o1 + k * 5, none⟩ = some (.int .i64 x.k) /\ w'.cell? ⟨b1, o1 + k * 5 + 1, none⟩ = some (.int .i64 x.n) /\ w'.cell? ⟨b1, o1 + k * 5 + 2, none⟩ = some (.string x.s) /\ w'.cell? ⟨b1, o1 + k * 5 + 3, none⟩ = some (.slice x.pl x.nl x.cl) /\ w'.cell? ⟨b1, o1 + k * 5 + 4, none⟩ = some (.slice x.pm x.nm x.cm) /\
        w'.cell? ⟨b2, o2 + k * 5, none⟩ = some (.int .i64 y.k) /\ w'.cell? ⟨b2, o2 + k * 5 + 1, none⟩ = some (.int .i64 y.n) /\ w'.cell? ⟨b2, o2 + k * 5 + 2, none⟩ = some (.string y.s) /\ w'.cell? ⟨b2, o2 + k * 5 + 3, none⟩ = some (.slice y.pl y.nl y.cl) /\ w'.cell? ⟨b2, o2 + k * 5 + 4, none⟩ = some (.slice y.pm y.nm y.cm))
        (first | go_keep | (go_split_ands; refine ⟨?_, ?_, ?_, ?_, ?_, ?_, ?_, ?_, ?_, ?_, ?_, ?_⟩ <;> (rw [hb1'.cell (by simp; omega)]; assumption)))
        ((go_at_call 36; refine (HC.out _ ?_).mono ?_; (repeat (first | exact hbw | apply Below.drew)); intro e w1 hs1; obtain ⟨rfl, hb1'⟩ := hs1.yes HXY.out))
       go_wp2_with fail
       go_roundw
       case rel => exact ⟨k + 1, by omega, by go_num, HNX, HBR.out.drew.trans (hb1'.mono (by simp; omega))⟩
       case measure => simp [intOf]; omega
      ·have HXY := Lib.hid hxy
       have HNX := Lib.hid (ne_of_at HTX.out HTY.out hxy)
       clear hxy hbr
       go_wp2_with fail
       go_region_held3 (fun w' => w'.cell? ⟨w.heap.size, 3, none⟩ = some (.slice (some ⟨b1, o1, none⟩) nl1 cl1) /\ w'.cell? ⟨w.heap.size + 1, 3, none⟩ = some (.slice (some ⟨b2, o2, none⟩) nl1 cl2) /\
        w'.cell? ⟨b1, o1 + k * 5, none⟩ = some (.int .i64 x.k) /\ w'.cell? ⟨b1, o1 + k * 5 + 1, none⟩ = some (.int .i64 x.n) /\ w'.cell? ⟨b1, o1 + k * 5 + 2, none⟩ = some (.string x.s) /\ w'.cell? ⟨b1, o1 + k * 5 + 3, none⟩ = some (.slice x.pl x.nl x.cl) /\ w'.cell? ⟨b1, o1 + k * 5 + 4, none⟩ = some (.slice x.pm x.nm x.cm) /\
        w'.cell? ⟨b2, o2 + k * 5, none⟩ = some (.int .i64 y.k) /\ w'.cell? ⟨b2, o2 + k * 5 + 1, none⟩ = some (.int .i64 y.n) /\ w'.cell? ⟨b2, o2 + k * 5 + 2, none⟩ = some (.string y.s) /\ w'.cell? ⟨b2, o2 + k * 5 + 3, none⟩ = some (.slice y.pl y.nl y.cl) /\ w'.cell? ⟨b2, o2 + k * 5 + 4, none⟩ = some (.slice y.pm y.nm y.cm))
        (first | go_keep | (go_split_ands; refine ⟨?_, ?_, ?_, ?_, ?_, ?_, ?_, ?_, ?_, ?_, ?_, ?_⟩ <;> (rw [hb1'.cell (by simp; omega)]; assumption)))
        ((go_at_call 36; refine (HC.out _ ?_).mono ?_; (repeat (first | exact hbw | apply Below.drew)); intro e w1 hs1; obtain ⟨rfl, hb1'⟩ := hs1.no HXY.out))
       go_wp2_with fail
       go_ret
       exact ⟨false, rfl, by simp; exact fun h => absurd h HNX.out, hbw.drew.trans (hb1'.mono hbw.size)⟩
     ·obtain rfl : k = nl1 := by omega
      have hll : l1 = l2 := by
       have h := hsm.out
       have h1 := E1.out
       rw [List.take_of_length_le (by omega), List.take_of_length_le (by omega)] at h
       exact h
      subst hll
      have hz1 : W0.heap.size <= wr.heap.size := hbr.size
      have HB1 := Lib.hid hbr
      have p4 := bcs hbr (by omega) p4
      have q4 := bcs hbr (by omega) q4
      clear HT HL1 HL2 E1 hsm hbr
      obtain ⟨wo, rfl⟩ : ∃ wo : World, wo = wr := ⟨_, rfl⟩
      go_wp2_with fail
      clear p3 q3
      go_loopw [6] (fun i wq => ∃ k : Nat, k <= nm1 /\ i = .int .i64 k /\ Hid (m1.take k = m2.take k) /\ Below wo.heap.size wo wq) (fun i _ => nm1 - (intOf i).toNat)
      case atStart => exact ⟨0, Nat.zero_le _, rfl, rfl, Below.refl _ _⟩
      case round =>
       obtain ⟨wq, rfl⟩ : ∃ wq : World, wq = wr := ⟨_, rfl⟩
       obtain ⟨k, hk, rfl, hsm, hbr⟩ := hrel
       have hbw2 : Below w.heap.size w wq := hbw.trans (hbr.mono (by omega))
       have p4 := bcs hbr (by omega) p4
       have q4 := bcs hbr (by omega) q4
       by_cases hlt : k < nm1
       ·obtain ⟨tx, htx⟩ : ∃ x, m1[k]? = some x := ⟨_, List.getElem?_eq_getElem (by have := E2.out; omega)⟩
        obtain ⟨ty, hty⟩ : ∃ x, m2[k]? = some x := ⟨_, List.getElem?_eq_getElem (by have := E2.out; omega)⟩
        obtain ⟨x, hx⟩ : ∃ x, rms1[k]? = some x := ⟨_, List.getElem?_eq_getElem (by have := E2.out; omega)⟩
        obtain ⟨y, hy⟩ : ∃ x, rms2[k]? = some x := ⟨_, List.getElem?_eq_getElem (by have := E2.out; omega)⟩
        obtain ⟨b1, o1, rfl, hb1, hc1⟩ := rd_at' (HM1.out.below hbw2 (Nat.le_refl _)) hx
        obtain ⟨b2, o2, rfl, hb2, hc2⟩ := rd_at' (HM2.out.below hbw2 (Nat.le_refl _)) hy
        have f0 := hc1 0 _ rfl
        have f1 := hc1 1 _ rfl
        have f2 := hc1 2 _ rfl
        have f3 := hc1 3 _ rfl
        have f4 := hc1 4 _ rfl
        have f5 := hc1 5 _ rfl
        have g0 := hc2 0 _ rfl
        have g1 := hc2 1 _ rfl
        have g2 := hc2 2 _ rfl
        have g3 := hc2 3 _ rfl
        have g4 := hc2 4 _ rfl
        have g5 := hc2 5 _ rfl
        rw [Nat.add_zero] at f0 g0
        have HC := Lib.hid (HS.out k tx ty x y htx hty hx hy)
        have hk0 : (0 : Int) <= (k : Int) := Int.natCast_nonneg _
        have hk1 : (k : Int) < (nm1 : Int) := by omega
        have HTX := Lib.hid htx
        have HTY := Lib.hid hty
        have en1 := HN1.out k tx x htx hx
        have en2 := HN2.out k ty y hty hy
        clear hc1 hc2 htx hty hx hy
        have hzr : W0.heap.size <= wq.heap.size := by have := hbr.size; omega
        have hzq : wo.heap.size <= wq.heap.size := hbr.size
        have HBR := Lib.hid hbr
        by_cases hnm : x.name = y.name
        ·have hq : (x.name.toList == y.name.toList) = true := by rw [str_beq]; simpa using hnm
         have hqn : (x.name.toList != y.name.toList) = false := by rw [bne, hq]; rfl
         by_cases hxy : tx.2 = ty.2
         ·have HXY := Lib.hid hxy
          have hxe : tx = ty := Prod.ext (by rw [en1, en2]; exact hnm) hxy
          have HNX := Lib.hid (take_eq HTX.out (hxe ▸ HTY.out) hsm.out)
          clear hxy hxe en1 en2 hbr hnm
          go_wp2_with fail
          go_region_held3 (fun w' => w'.cell? ⟨w.heap.size, 4, none⟩ = some (.slice (some ⟨b1, o1, none⟩) nm1 cm1) /\ w'.cell? ⟨w.heap.size + 1, 4, none⟩ = some (.slice (some ⟨b2, o2, none⟩) nm1 cm2) /\
         w'.cell? ⟨b1, o1 + k * 6, none⟩ = some (.string x.name) /\ w'.cell? ⟨b1, o1 + k * 6 + 1, none⟩ = some (.int .i64 x.v.k) /\ w'.cell? ⟨b1, o1 + k * 6 + 2, none⟩ = some (.int .i64 x.v.n) /\ w'.cell? ⟨b1, o1 + k * 6 + 3, none⟩ = some (.string x.v.s) /\ w'.cell? ⟨b1, o1 + k * 6 + 4, none⟩ = some (.slice x.v.pl x.v.nl x.v.cl) /\ w'.cell? ⟨b1, o1 + k * 6 + 5, none⟩ = some (.slice x.v.pm x.v.nm x.v.cm) /\
         w'.cell? ⟨b2, o2 + k * 6, none⟩ = some (.string y.name) /\ w'.cell? ⟨b2, o2 + k * 6 + 1, none⟩ = some (.int .i64 y.v.k) /\ w'.cell? ⟨b2, o2 + k * 6 + 2, none⟩ = some (.int .i64 y.v.n) /\ w'.cell? ⟨b2, o2 + k * 6 + 3, none⟩ = some (.string y.v.s) /\ w'.cell? ⟨b2, o2 + k * 6 + 4, none⟩ = some (.slice y.v.pl y.v.nl y.v.cl) /\ w'.cell? ⟨b2, o2 + k * 6 + 5, none⟩ = some (.slice y.v.pm y.v.nm y.v.cm))
          (first | go_keep | (go_split_ands; refine ⟨?_, ?_, ?_, ?_, ?_, ?_, ?_, ?_, ?_, ?_, ?_, ?_, ?_, ?_⟩ <;> (rw [hb1'.cell (by simp; omega)]; assumption)))
          ((go_at_call 36; refine (HC.out _ ?_).mono ?_; (repeat (first | exact hbw2 | apply Below.drew)); intro e w1 hs1; obtain ⟨rfl, hb1'⟩ := hs1.yes HXY.out))
          go_wp2_with fail
          go_roundw
          case rel => exact ⟨k + 1, by omega, by go_num, HNX, HBR.out.drew.trans (hb1'.mono (by simp; omega))⟩
          case measure => simp [intOf]; omega
         ·have HXY := Lib.hid hxy
          have HNX := Lib.hid (ne_of_at HTX.out HTY.out (fun e => hxy (by rw [e])))
          clear hxy en1 en2 hbr hnm
          go_wp2_with fail
          go_region_held3 (fun w' => w'.cell? ⟨w.heap.size, 4, none⟩ = some (.slice (some ⟨b1, o1, none⟩) nm1 cm1) /\ w'.cell? ⟨w.heap.size + 1, 4, none⟩ = some (.slice (some ⟨b2, o2, none⟩) nm1 cm2) /\
         w'.cell? ⟨b1, o1 + k * 6, none⟩ = some (.string x.name) /\ w'.cell? ⟨b1, o1 + k * 6 + 1, none⟩ = some (.int .i64 x.v.k) /\ w'.cell? ⟨b1, o1 + k * 6 + 2, none⟩ = some (.int .i64 x.v.n) /\ w'.cell? ⟨b1, o1 + k * 6 + 3, none⟩ = some (.string x.v.s) /\ w'.cell? ⟨b1, o1 + k * 6 + 4, none⟩ = some (.slice x.v.pl x.v.nl x.v.cl) /\ w'.cell? ⟨b1, o1 + k * 6 + 5, none⟩ = some (.slice x.v.pm x.v.nm x.v.cm) /\
         w'.cell? ⟨b2, o2 + k * 6, none⟩ = some (.string y.name) /\ w'.cell? ⟨b2, o2 + k * 6 + 1, none⟩ = some (.int .i64 y.v.k) /\ w'.cell? ⟨b2, o2 + k * 6 + 2, none⟩ = some (.int .i64 y.v.n) /\ w'.cell? ⟨b2, o2 + k * 6 + 3, none⟩ = some (.string y.v.s) /\ w'.cell? ⟨b2, o2 + k * 6 + 4, none⟩ = some (.slice y.v.pl y.v.nl y.v.cl) /\ w'.cell? ⟨b2, o2 + k * 6 + 5, none⟩ = some (.slice y.v.pm y.v.nm y.v.cm))
          (first | go_keep | (go_split_ands; refine ⟨?_, ?_, ?_, ?_, ?_, ?_, ?_, ?_, ?_, ?_, ?_, ?_, ?_, ?_⟩ <;> (rw [hb1'.cell (by simp; omega)]; assumption)))
          ((go_at_call 36; refine (HC.out _ ?_).mono ?_; (repeat (first | exact hbw2 | apply Below.drew)); intro e w1 hs1; obtain ⟨rfl, hb1'⟩ := hs1.no HXY.out))
          go_wp2_with fail
          go_ret
          exact ⟨false, rfl, by simp; exact fun h => absurd h HNX.out, hbw2.drew.trans (hb1'.mono hbw2.size)⟩
        ·have hq : (x.name.toList == y.name.toList) = false := by rw [str_beq]; simpa using hnm
         have hqn : (x.name.toList != y.name.toList) = true := by rw [bne, hq]; rfl
         have HNX := Lib.hid (ne_of_at HTX.out HTY.out (fun e => hnm (by rw [<- en1, <- en2, e])))
         clear hnm en1 en2 hbr
         go_wp2_with fail
         go_quiet (fail)
         go_wp2_with fail
         go_ret
         exact ⟨false, rfl, by simp; exact fun h => absurd h HNX.out, bdn hbw2 _⟩
       ·obtain rfl : k = nm1 := by omega
        have hmm : m1 = m2 := by
         have h := hsm.out
         have h1 := E2.out
         rw [List.take_of_length_le (by omega), List.take_of_length_le (by omega)] at h
         exact h
        have HMM := Lib.hid hmm
        clear hmm
        go_wp2_with fail
        go_ret
        exact ⟨true, rfl, by rw [HMM.out]; simp, hbw2⟩
   ·refine same5_no r q w _ (fun h => ?_) hall
    simp only [JV.mk.injEq] at h
    obtain ⟨h1, h2, h3, h4, h5⟩ := h
    subst h4 h5
    exact ⟨h1, h2, h3, by omega, by omega⟩
def spoiltB : ByteArray := ⟨#[115, 112, 111, 105, 108, 116]⟩
theorem rankKeeps_any (t : JV) (r : RV) (os : List (ByteArray × JV)) (rs : List RM) (p : Option Addr) (no co : Nat) (w : World) (ht : TreeOf w w.heap.size t r) (ot : t.Ok) (hl : ObjL w w.heap.size os rs (.slice p no co)) :
 Calls Tryz.prog 8 #[r.val, .slice p no co] w fun e w' => e = .returned (.bool true) /\ Below w.heap.size w w' := by
 have hnr : no = rs.length := rd_nlen hl.rd
 have hro := hl.len
 have HN : Hid (no = rs.length /\ no = os.length) := ⟨hnr, by omega⟩
 have HF : Hid (∀ W, Below w.heap.size w W -> Calls Tryz.prog 12 #[r.val, .slice p no co] W (Few21R W t os)) := fun W hb => few21_any t r os rs p no co W (ht.under hb hb.size) ot (hl.under hb hb.size)
 have HRD := Lib.hid hl.rd
 have HO : Hid (∀ W, Below w.heap.size w W -> os.length <= 40 -> Calls Tryz.prog 35 #[r.val, .slice p no co] W fun e w' => ∃ u, e = .returned u /\ Own w' W.heap.size 9 encS 1 u ((ordQ (sortC t) os).map (fun i => (os.getD i dO).1)) /\ Below W.heap.size W w') := fun W hb hn => rkorder_any t r os rs p no co W w.heap.size hb.size (ht.under hb (Nat.le_refl _)) ot (hl.under hb (Nat.le_refl _)) (by omega)
 have HCK : Hid (∀ W, Below w.heap.size w W -> Calls Tryz.prog 33 #[r.val] W fun e w' => e = .returned (.int .i64 (checkE t)) /\ Below W.heap.size W w') := fun W hb => check_any t r W (ht.under hb hb.size) ot
 have HCY : Hid (∀ W, Below w.heap.size w W -> Calls Tryz.prog 34 #[r.val] W (NewTree W t)) := fun W hb => copy_any _ t r W (Nat.le_refl _) (ht.under hb hb.size) ot
 have HOL : Hid (ObjL w w.heap.size os rs (.slice p no co)) := hl
 have hA0 : VAt (w.alloc r.obj) w.heap.size r := heap_alloc_at rfl
 have hB0 : Below w.heap.size w (w.alloc r.obj) := (Below.refl _ _).alloc (Nat.le_refl _) _
 obtain ⟨RT, hRT⟩ : ∃ R, r = R := ⟨_, rfl⟩
 have HTT : Hid (TreeOf w w.heap.size t RT /\ t.Ok) := ⟨hRT ▸ ht, ot⟩
 have HRT : Hid (RT.val = r.val) := by unfold Hid; rw [hRT]
 clear hRT
 obtain ⟨k, n, s, pl, nl, cl, pm, nm, cm⟩ := r
 dsimp only [RV.val, RV.obj] at *
 obtain ⟨W0, hW0⟩ : ∃ W, w.alloc (.cells #[.int .i64 k, .int .i64 n, .string s, .slice pl nl cl, .slice pm nm cm] 25) = W := ⟨_, rfl⟩
 rw [hW0] at hB0 hA0
 obtain ⟨cs, hcs⟩ : ∃ C, sortC t = C := ⟨_, rfl⟩
 rw [hcs] at HO
 have HCS := Lib.hid hcs
 clear ht ot hl hro hnr
 go_enter Tryz.func8, Tryz.ntmps8
 go_upto_region 1 with fail
 try rw [hW0]
 clear hW0
 have hz := hA0.lt
 obtain ⟨c0, c1, c2, c3, c4⟩ := hA0.cells5
 clear hA0
 have HAW : Hid (∀ W, Below W0.heap.size W0 W -> Calls Tryz.prog 11 #[] W fun e w' => e = .returned (.bool true) /\ Below W0.heap.size W0 w') := fun W hb => (awake21_any W).mono fun e w' h => ⟨h.1, hb.trans (h.2.mono hb.size)⟩
 have HFE : Hid (∀ W, Below W0.heap.size W0 W -> Calls Tryz.prog 12 #[.agg #[.int .i64 k, .int .i64 n, .string s, .slice pl nl cl, .slice pm nm cm], .slice p no co] W fun e w' => ∃ b : Bool, e = .returned (.bool b) /\ Hid (b = true -> OwnM t /\ os.length <= 40) /\ Below W0.heap.size W0 w') := fun W hb => (HF.out W (hB0.trans (hb.mono hB0.size))).mono fun e w' h => by
  obtain ⟨b, h1, h2, h3⟩ := h
  exact ⟨b, h1, h2, hb.trans (h3.mono hb.size)⟩
 have HCE : Hid (∀ W, Below W0.heap.size W0 W -> Calls Tryz.prog 33 #[.agg #[.int .i64 k, .int .i64 n, .string s, .slice pl nl cl, .slice pm nm cm]] W fun e w' => e = .returned (.int .i64 (checkE t)) /\ Below W0.heap.size W0 w') := fun W hb => (HCK.out W (hB0.trans (hb.mono hB0.size))).mono fun e w' h => ⟨h.1, hb.trans (h.2.mono hb.size)⟩
 have HB0 := Lib.hid hB0
 have hbO : Below W0.heap.size W0 W0 := Below.refl _ _
 clear HF HCK hB0
 obtain ⟨E, hE⟩ : ∃ E, checkE t = E := ⟨_, rfl⟩
 rw [hE] at HCE
 clear hE
 by_cases h1 : E = 0
 case neg =>
  have q1 : (E != 0) = true := by simpa using h1
  have q2 : (E == 0) = false := by simpa using h1
  clear h1
  go_wp2_with (first
   | (go_at_call 11; (with_reducible refine (HAW.out _ (by first | exact hbC | exact hbB | exact hbA | exact hbO)).mono ?_); rintro e w1 ⟨rfl, hbA⟩; (have d0 := bcs hbA hz c0); (have d1 := bcs hbA hz c1); (have d2 := bcs hbA hz c2); (have d3 := bcs hbA hz c3); (have d4 := bcs hbA hz c4))
   | (go_at_call 12; (with_reducible refine (HFE.out _ (by first | exact hbA)).mono ?_); rintro e w2 ⟨b, rfl, hL, hbB⟩; (have e0 := bcs hbB hz c0); (have e1 := bcs hbB hz c1); (have e2 := bcs hbB hz c2); (have e3 := bcs hbB hz c3); (have e4 := bcs hbB hz c4); cases b)
   | (go_at_call 33; (with_reducible refine (HCE.out _ (by first | exact hbB)).mono ?_); rintro e w3 ⟨rfl, hbC⟩))
  all_goals go_ret
  all_goals exact ⟨rfl, HB0.out.trans (hbA.mono HB0.out.size)⟩
 subst h1
 go_wp2_with (first
  | (go_at_call 11; (with_reducible refine (HAW.out _ (by first | exact hbC | exact hbB | exact hbA | exact hbO)).mono ?_); rintro e w1 ⟨rfl, hbA⟩; (have d0 := bcs hbA hz c0); (have d1 := bcs hbA hz c1); (have d2 := bcs hbA hz c2); (have d3 := bcs hbA hz c3); (have d4 := bcs hbA hz c4))
  | (go_at_call 12; (with_reducible refine (HFE.out _ (by first | exact hbA)).mono ?_); rintro e w2 ⟨b, rfl, hL, hbB⟩; (have e0 := bcs hbB hz c0); (have e1 := bcs hbB hz c1); (have e2 := bcs hbB hz c2); (have e3 := bcs hbB hz c3); (have e4 := bcs hbB hz c4); cases b)
  | (go_at_call 33; (with_reducible refine (HCE.out _ (by first | exact hbB)).mono ?_); rintro e w3 ⟨rfl, hbC⟩; (have hz3 := Nat.lt_of_lt_of_le hz hbC.size); (have g0 := bcs hbC hz c0); (have g1 := bcs hbC hz c1); (have g2 := bcs hbC hz c2); (have g3 := bcs hbC hz c3); (have g4 := bcs hbC hz c4))
  | (at_builtin; refine wpList_append_rd slObT codecM _ rfl _ _ rfl (v := .slice none 0 0) rfl rfl (Own.nil _ w3.heap.size _) ((HOL.out.rd).below (HB0.out.trans (hbC.mono HB0.out.size)) (Nat.le_refl _)) (by have h1 := (hL.out trivial).2; have h2 := HN.out; simp only [List.length_nil]; unfold maxLen; omega) (by have h1 := (hL.out trivial).2; have h2 := HN.out; simp only [List.length_nil]; omega) (Nat.le_refl _) ?_; intro v4 w4 ho4 hg4 hat4; (have hb34 : Below w3.heap.size w3 w4 := Below.appended (Below.refl _ _) hg4 (Own.nil _ w3.heap.size _ : Own w3 w3.heap.size 27 encM 6 (.slice none 0 0) []) (Nat.le_refl _)); (have hz4 := Nat.lt_of_lt_of_le hz3 hb34.size); (have l0 := bcs hb34 hz3 g0); (have l1 := bcs hb34 hz3 g1); (have l2 := bcs hb34 hz3 g2); (have l3 := bcs hb34 hz3 g3); (have l4 := bcs hb34 hz3 g4))
  | (go_at_call 34; (with_reducible refine (HCY.out _ (HB0.out.trans ((hbC.trans (hb34.mono hbC.size)).mono HB0.out.size))).mono ?_); rintro e w5 ⟨⟨qk, qn, qS, qpl, qnl, qcl, qpm, qnm, qcm⟩, rfl, hl5, hb5⟩; (have hz5 := Nat.lt_of_lt_of_le hz4 hb5.size); (have m0 := bcs hb5 hz4 l0); (have m1 := bcs hb5 hz4 l1); (have m2 := bcs hb5 hz4 l2); (have m3 := bcs hb5 hz4 l3); (have m4 := bcs hb5 hz4 l4)))
 ·go_ret
  exact ⟨rfl, HB0.out.trans (hbA.mono HB0.out.size)⟩
 have HOS : Hid (os.length <= 40) := (hL.out trivial).2
 have hno : no <= 40 := by have := HOS.out; have := HN.out; omega
 rw [List.nil_append] at ho4
 obtain ⟨pq, cq, hv4, hcq, _⟩ := ho4.len
 rw [<- HN.out.1] at hv4
 subst hv4
 have hv5 : VAt (w5.alloc (.cells #[.int .i64 qk, .int .i64 qn, .string qS, .slice qpl qnl qcl, .slice qpm qnm qcm] 25)) w5.heap.size ⟨qk, qn, qS, qpl, qnl, qcl, qpm, qnm, qcm⟩ := heap_alloc_at rfl
 have hb5a : Below w5.heap.size w5 (w5.alloc (.cells #[.int .i64 qk, .int .i64 qn, .string qS, .slice qpl qnl qcl, .slice qpm qnm qcm] 25)) := (Below.refl _ _).alloc (Nat.le_refl _) _
 have HT5 : Hid (TreeOf w5 w5.heap.size t ⟨qk, qn, qS, qpl, qnl, qcl, qpm, qnm, qcm⟩) := hl5.tree
 obtain ⟨g5, hg5⟩ : ∃ g, w5.heap.size = g := ⟨_, rfl⟩
 obtain ⟨W5, hW5⟩ : ∃ W, w5.alloc (.cells #[.int .i64 qk, .int .i64 qn, .string qS, .slice qpl qnl qcl, .slice qpm qnm qcm] 25) = W := ⟨_, rfl⟩
 rw [hW5, hg5] at hv5
 rw [hW5] at hb5a
 try rw [hW5]
 try rw [hg5]
 have hz6 := Nat.lt_of_lt_of_le hz5 hb5a.size
 have n0 := bcs hb5a hz5 m0
 have n1 := bcs hb5a hz5 m1
 have n2 := bcs hb5a hz5 m2
 have n3 := bcs hb5a hz5 m3
 have n4 := bcs hb5a hz5 m4
 obtain ⟨r0, r1, r2, r3, r4⟩ := hv5.cells5
 have hgl5 := hv5.lt
 have HWAS : Hid (Rd W5 W5.heap.size encM 6 (.slice pq no cq) rs) := ((ho4.rd codecM).below (hb5.trans (hb5a.mono hb5.size)) (Nat.le_trans hb5.size hb5a.size))
 have HT6 : Hid (TreeOf W5 W5.heap.size t ⟨qk, qn, qS, qpl, qnl, qcl, qpm, qnm, qcm⟩) := HT5.out.under hb5a hb5a.size
 have HB5 : Hid (Below w.heap.size w W5) := HB0.out.trans (((hbC.trans (hb34.mono hbC.size)).trans ((hb5.trans (hb5a.mono hb5.size)).mono (Nat.le_trans hbC.size hb34.size))).mono HB0.out.size)
 clear hW5 hg5 hL hbA hbB hbC hbO HAW HFE HCE HCY c0 c1 c2 c3 c4 hz d0 d1 d2 d3 d4 e0 e1 e2 e3 e4 g0 g1 g2 g3 g4 l0 l1 l2 l3 l4 m0 m1 m2 m3 m4 hz3 hz4 hz5 ho4 hg4 hat4 hb34 hb5 hb5a hl5 HT5 hv5 HB0 hcq
 refine (HO.out _ HB5.out HOS.out).mono ?_
 rintro e w6 ⟨u, rfl, ho6, hb6⟩
 obtain ⟨pu, cu, hu, _, _⟩ := ho6.len
 rw [List.length_map, ordQ_len, <- HN.out.2] at hu
 subst hu
 have HOW : Hid (Own w6 W5.heap.size 9 encS 1 (.slice pu no cu) ((ordQ cs os).map (fun i => (os.getD i dO).1)) /\ Below W5.heap.size W5 w6) := ⟨ho6, hb6⟩
 have HLL : Hid (((ordQ cs os).map (fun i => (os.getD i dO).1)).length = no) := by unfold Hid; rw [List.length_map, ordQ_len, <- HN.out.2]
 clear ho6 hb6 HO
 go_wp2_with fail
 have HSM : Hid (∀ x : JV, x.Ok -> ∀ (r q : RV) (W : World), TreeOf W W.heap.size x r -> TreeOf W W.heap.size x q -> Calls Tryz.prog 36 #[r.val, q.val] W fun e w' => e = .returned (.bool true) /\ Below W.heap.size W w') := fun x ox r q W h1 h2 => (same5L_any _ x x r q W (Nat.le_refl _) h1 h2 ox.len ox.len).mono fun e w' h => by
  obtain ⟨b, e1, e2, e3⟩ := h
  have eb : b = true := e2.2 rfl
  subst eb
  exact ⟨e1, e3⟩
 have hgz : g5 < W5.heap.size := hgl5
 go_loopw [8] (fun i wr => ∃ (k : Nat) (ms : List ByteArray), k <= no /\ i = .int .i64 (k : Int) /\ Hid (ms.length = no /\ Own wr W5.heap.size 9 encS 1 (.slice pu no cu) ms /\ Below W5.heap.size W5 wr)) (fun i _ => no - (intOf i).toNat)
 case atStart => exact ⟨0, _, Nat.zero_le _, rfl, HLL.out, HOW.out⟩
 case round =>
  obtain ⟨k, ms, hk, rfl, HJ⟩ := hrel
  have hk0 : (0 : Int) <= (k : Int) := Int.natCast_nonneg _
  by_cases hlt : k < no
  ·have hk1 : (k : Int) < (no : Int) := by omega
   obtain ⟨hml, hmo, hmb⟩ := HJ.out
   obtain ⟨x, hx⟩ : ∃ x, ms[k]? = some x := ⟨_, List.getElem?_eq_getElem (by omega)⟩
   obtain ⟨g, hpu, hq1, hg1, hg2, hc, hf⟩ := Own.at codecS hmo hx
   subst hpu
   have c0 := hc 0 _ rfl
   have y0 := hf k
   rw [Nat.mul_one, Nat.add_zero] at c0
   have h1 := Own.storedAt codecS hmo (j := 0) (y := spoiltB) (u := .string spoiltB) hx (by decide) rfl
   rw [Nat.mul_one, Nat.add_zero] at h1
   have HN1 : Hid ((ms.set k spoiltB).length = no /\ Own (wr.setCell ⟨g, k, none⟩ (.string spoiltB)) W5.heap.size 9 encS 1 (.slice (some ⟨g, 0, none⟩) no cu) (ms.set k spoiltB) /\ Below W5.heap.size W5 (wr.setCell ⟨g, k, none⟩ (.string spoiltB))) := ⟨by rw [List.length_set, hml], h1.1, hmb.grown h1.2 hmb.size (fun k e => by cases e; exact hg1)⟩
   unfold spoiltB at HN1
   clear hq1 hc hf h1 hx hml hmo hmb HJ
   go_wp2_with fail
   go_roundw
   case rel => exact ⟨k + 1, _, by omega, by go_num, HN1.out⟩
   case measure => simp [intOf]; omega
  ·obtain rfl : k = no := by omega
   obtain ⟨hml, hmo, hmb⟩ := HJ.out
   have HBS := Lib.hid hmb
   clear hml hmo hmb HJ
   go_wp2_with fail
   go_loopw [9] (fun i w2 => ∃ j : Nat, j <= k /\ i = .int .i64 (j : Int) /\ Below W5.heap.size W5 w2) (fun i _ => k - (intOf i).toNat)
   case atStart => exact ⟨0, Nat.zero_le _, rfl, HBS.out⟩
   case round =>
    obtain ⟨j, hj, rfl, hbs⟩ := hrel
    have hj0 : (0 : Int) <= (j : Int) := Int.natCast_nonneg _
    obtain ⟨w8, hw8⟩ : ∃ w8, w8 = wr := ⟨_, rfl⟩
    have hbw : Below w.heap.size w wr := HB5.out.trans (hbs.mono HB5.out.size)
    have HBS2 := Lib.hid hbs
    have HBW := Lib.hid hbw
    by_cases hjk : j < k
    ·have hj1 : (j : Int) < (k : Int) := by omega
     obtain ⟨x, hx⟩ : ∃ x, rs[j]? = some x := ⟨_, List.getElem?_eq_getElem (by have := HN.out; omega)⟩
     obtain ⟨hn1, hn2, hn3⟩ := HOL.out.obj j (by have := HN.out; omega)
     rw [getD_at (d := dRM) hx] at hn2
     obtain ⟨b1, o1, hp1, hb1, hc1⟩ := rd_at' (HRD.out.below hbw (Nat.le_refl _)) hx
     obtain ⟨b2, o2, hp2, hb2, hc2⟩ := rd_at' (HWAS.out.below hbs (Nat.le_refl _)) hx
     obtain rfl := hp1
     obtain rfl := hp2
     have f0 := hc1 0 _ rfl
     have f1 := hc1 1 _ rfl
     have f2 := hc1 2 _ rfl
     have f3 := hc1 3 _ rfl
     have f4 := hc1 4 _ rfl
     have f5 := hc1 5 _ rfl
     have l0 := hc2 0 _ rfl
     have l1 := hc2 1 _ rfl
     have l2 := hc2 2 _ rfl
     have l3 := hc2 3 _ rfl
     have l4 := hc2 4 _ rfl
     have l5 := hc2 5 _ rfl
     rw [Nat.add_zero] at f0 l0
     have HX := Lib.hid (And.intro hn2 hn3)
     have hbl1 : b1 < wr.heap.size := Nat.lt_of_lt_of_le hb1 hbw.size
     have hbl2 : b2 < wr.heap.size := Nat.lt_of_lt_of_le hb2 hbs.size
     have he1 : (x.name.toList == x.name.toList) = true := by rw [str_beq]; simp
     have HSC : Hid (∀ W, Below wr.heap.size wr W -> Calls Tryz.prog 36 #[x.v.val, x.v.val] W fun e w' => e = .returned (.bool true) /\ Below W.heap.size W w') := fun W hb => HSM.out _ HX.out.2 x.v x.v W (HX.out.1.under (HBW.out.trans (hb.mono HBW.out.size)) (Nat.le_trans HBW.out.size hb.size)) (HX.out.1.under (HBW.out.trans (hb.mono HBW.out.size)) (Nat.le_trans HBW.out.size hb.size))
     obtain ⟨xn, xk, xm, xs, xpl, xnl, xcl, xpm, xnm, xcm⟩ := x
     dsimp only [RV.val] at f0 f1 f2 f3 f4 f5 l0 l1 l2 l3 l4 l5 he1 HSC
     clear hx hn1 hn2 hn3 hc1 hc2 hbs hbw hw8 hb1 hb2
     go_upto_region 14 with fail
     go_region_held3 (fun w' => Below wr.heap.size wr w' /\ ∀ b o, b < wr.heap.size -> w'.cell? ⟨b, o, none⟩ = wr.cell? ⟨b, o, none⟩)
      (first | with_reducible exact kt_drew wr | with_reducible exact kt_same hbk)
      (first
       | (go_at_call 36; (with_reducible refine (HSC.out _ ((Below.refl _ _).drew)).mono ?_); rintro e w9 ⟨rfl, hb9⟩; (have hbk := KB.step (W := wr) (KB.drew wr) hb9))
       | fail)
     all_goals go_wp2_with fail
     all_goals (
      go_roundw
      case rel => exact ⟨j + 1, by omega, by go_num, HBS2.out.trans ((show _ /\ _ from hbk).1.mono HBS2.out.size)⟩
      case measure => simp [intOf]; omega)
    ·have HSF : Hid (∀ W, Below wr.heap.size wr W -> Calls Tryz.prog 36 #[RT.val, RV.val ⟨qk, qn, qS, qpl, qnl, qcl, qpm, qnm, qcm⟩] W fun e w' => e = .returned (.bool true) /\ Below W.heap.size W w') := fun W hb => HSM.out t HTT.out.2 RT _ W (HTT.out.1.under (HBW.out.trans (hb.mono HBW.out.size)) (Nat.le_trans HBW.out.size hb.size)) (HT6.out.under (HBS2.out.trans (hb.mono HBS2.out.size)) (Nat.le_trans HBS2.out.size hb.size))
     have c0 := bcs hbs hz6 n0
     have c1 := bcs hbs hz6 n1
     have c2 := bcs hbs hz6 n2
     have c3 := bcs hbs hz6 n3
     have c4 := bcs hbs hz6 n4
     have d0 := bcs hbs hgz r0
     have d1 := bcs hbs hgz r1
     have d2 := bcs hbs hgz r2
     have d3 := bcs hbs hgz r3
     have d4 := bcs hbs hgz r4
     have hzw := Nat.lt_of_lt_of_le hz6 hbs.size
     have hgw := Nat.lt_of_lt_of_le hgz hbs.size
     dsimp only [RV.val] at HSF
     rw [HRT.out] at HSF
     clear hbs hbw hw8 n0 n1 n2 n3 n4 r0 r1 r2 r3 r4
     go_wp2_with (go_at_call 36; (with_reducible refine (HSF.out _ (Below.refl _ _)).mono ?_); rintro e w9 ⟨rfl, hb9⟩)
     go_ret
     exact ⟨rfl, HBW.out.trans (hb9.mono HBW.out.size)⟩
end
section
open Go Go.RowKit Go.ChangeShapes Go.WideShapes Go.Deep
theorem cellsObO : Tryz.prog.cellsOf 27 = 6 := by kernel_rfl
theorem celStO : Tryz.prog.cellsOf 9 = 1 := by kernel_rfl
section
variable {H : Type} {enc : TypeId × Value -> H} {W : World} {base b0 : Nat} {spare : Nat -> Bool} {held : Bool}
theorem open_objL {v : Value} {d : DataW H} {p : List MemPlace} (hval : Value.okWide Tryz.prog W .any b0 30 v) (h : DataW.Trod enc Tryz.prog W base spare held 30 v d p) :
 ∃ q n c os rs, v = .slice q n c /\ ((∀ n ∈ d.weights Tryz.prog 30, n <= 140737488351232) -> ObjL W W.heap.size os rs (.slice q n c)) := by
 obtain ⟨fuel, hf⟩ := h
 obtain ⟨a, len, cap, rfl⟩ := okWide_slice Tryz.underlying30 hval
 obtain ⟨pm, nm, cm, rms, e4, hr4, hd4⟩ := open_list (Q := fun (r : RM) (d : DataW H) => ∃ t, TreeOf W W.heap.size t r.v /\ ((∀ n ∈ d.weights Tryz.prog 27, n <= 140737488351232) -> r.name.size <= 140737488351232 /\ t.Ok)) Tryz.underlying30 cellsObO codecM hf
  (fun m hm cs y hy => by
   obtain ⟨z0, z1, j, rfl, hy1, hlen, u0, u1⟩ := trodF2 Tryz.underlying27 hy
   rw [cellsObO] at hlen
   obtain ⟨a0, a1, a2, a3, a4, a5, rfl⟩ : ∃ a0 a1 a2 a3 a4 a5, cs = [a0, a1, a2, a3, a4, a5] := by
    match cs, hlen with
    | [a, b, c, d, e, f], _ => exact ⟨a, b, c, d, e, f, rfl⟩
   rw [hy1]
   dsimp only at u0 u1
   rw [celStO] at u0
   rw [cellsV] at u1
   simp only [List.drop_zero, List.drop_succ_cons, List.take_succ_cons, List.take_zero] at u0 u1
   obtain ⟨nm, g0, g1, g2⟩ := DataW.trod_string Tryz.underlying9 u0
   simp only [List.cons.injEq, and_true] at g0
   subst g0 g1
   obtain ⟨r, t, h1, h2, h3⟩ := open_val j _ _ u1
   refine ⟨⟨nm, r⟩, by rw [h1]; rfl, t, h2, fun hw => ⟨weights_string (weights_struct Tryz.underlying27 hw (i := 0) rfl rfl), h3 (weights_struct Tryz.underlying27 hw (i := 1) rfl rfl)⟩⟩)
 have hcs : (Value.slice a len cap).cells.toList = [.slice a len cap] := rfl
 rw [hcs] at e4
 simp only [List.cons.injEq, Value.slice.injEq, and_true] at e4
 obtain ⟨rfl, rfl, rfl⟩ := e4
 have hM : ∀ i, i < rms.length -> ∃ p : ByteArray × JV, ∀ q, rms[i]? = some q -> q.name = p.1 /\ TreeOf W W.heap.size p.2 q.v /\ ((∀ n ∈ d.weights Tryz.prog 30, n <= 140737488351232) -> p.1.size <= 140737488351232 /\ p.2.Ok) := by
  intro i hi
  obtain ⟨q, hq⟩ : ∃ q, rms[i]? = some q := ⟨_, List.getElem?_eq_getElem hi⟩
  rcases hd4 with ⟨rfl, _⟩ | ⟨es, sp, h1, h2, h3⟩
  ·simp at hi
  ·obtain ⟨d', hd, t, ht1, ht2⟩ := h3 i q hq
   refine ⟨(q.name, t), fun q' hq' => ?_⟩
   rw [hq] at hq'
   cases hq'
   refine ⟨rfl, ht1, fun hw => ht2 ?_⟩
   dsimp only at h1
   rw [h1] at hw
   exact (weights_slice Tryz.underlying30 hw).2 d' (List.mem_of_getElem? hd)
 obtain ⟨ps, hps, hps2⟩ := list_of rms.length hM
 refine ⟨a, len, cap, ps, rms, rfl, fun hw => ⟨hr4, hps.symm, fun i hi => ?_, fun o ho => ?_⟩⟩
 ·obtain ⟨q, hq⟩ : ∃ q, rms[i]? = some q := ⟨_, List.getElem?_eq_getElem hi⟩
  obtain ⟨x, hx⟩ : ∃ q, ps[i]? = some q := ⟨_, List.getElem?_eq_getElem (by omega)⟩
  obtain ⟨h1, h2, h3⟩ := hps2 i x hx q hq
  rw [getD_at (d := dRM) hq, getD_at (d := dO) hx]
  exact ⟨h1, h2, (h3 hw).2⟩
 ·obtain ⟨i, hi⟩ := List.getElem?_of_mem ho
  obtain ⟨q, hq⟩ : ∃ q, rms[i]? = some q := ⟨_, List.getElem?_eq_getElem (by have := (List.getElem?_eq_some_iff.1 hi).1; omega)⟩
  exact ((hps2 i o hi q hq).2.2 hw).1
end
end
end Go.Proofs.YtffhccmppdgmfaaGreatDoor
