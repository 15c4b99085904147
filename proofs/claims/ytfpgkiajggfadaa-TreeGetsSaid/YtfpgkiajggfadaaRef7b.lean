/- The document's answer of a map without a name, walked. -/
import Derived.Test.YtfpgkiajggfadaaWout2
import Derived.Test.YtfpgkiajggfadaaTree6
import Derived.Deep.RegionLaw
set_option linter.unusedSimpArgs false
set_option linter.unusedVariables false
namespace Go.Proofs.Ytfpgkiajggfadaa
open Go.RowKit Go.OpenShut

/-- The state of the loop: the map that grows, in block o. -/
structure GrowM (W0 : World) (B o : Nat) (ms : List (ByteArray × JV)) (rms : List RM) (pm : Option Addr) (nm cm : Nat) (W : World) : Prop where
  out : VAt W o ⟨6, 0, ⟨#[]⟩, none, 0, 0, pm, nm, cm⟩
  own : Own W (o + 1) 79 encM 6 (.slice pm nm cm) rms
  mems : MemsOf W B ms rms
  below : Below o W0 W
theorem undrew {W W' : World} {r : Option Nat} (h : W.drew.grownBy W' r) : W.grownBy W' r := ⟨h.os, h.tape, h.output, h.size, h.block⟩
/-- A member more. -/
theorem GrowM.push {W0 W W2 : World} {B o : Nat} {ms : List (ByteArray × JV)} {rms : List RM} {pm : Option Addr} {nm cm : Nat} (h : GrowM W0 B o ms rms pm nm cm W) (hBo : B ≤ o) {p : ByteArray × JV} {x : RM} (hn : p.1 = x.name) (ht : TreeOf W B p.2 x.v) {ob : Obj} {p' : Option Addr} {c' : Nat}
    (ho : Own W2 (o + 1) 79 encM 6 (.slice p' (rms.length + 1) c') (rms ++ [x])) (hg : (W.alloc ob).grownBy W2 (Value.slice pm nm cm).ownBlock) : GrowM W0 B o (ms ++ [p]) (rms ++ [x]) p' (rms.length + 1) c' (W2.setCell ⟨o, 4, none⟩ (.slice p' (rms.length + 1) c')) := by
  have hlt := h.own.lt
  have holt := h.out.lt
  have hb1 : Below o W W2 := ((Below.refl _ _).alloc (by omega) ob).grown hg (by simp; omega) (fun k e => by have := (hlt k e).1; omega)
  have hV : VAt W2 o ⟨6, 0, ⟨#[]⟩, none, 0, 0, pm, nm, cm⟩ := (hg.block o (by simp; omega) (fun e => by have := (hlt o e.symm).1; omega)).trans (heap_alloc_lt holt h.out)
  refine ⟨hV.set4 p' (rms.length + 1) c', ?_, ?_, (h.below.trans hb1).setCell (p := ⟨o, 4, none⟩) (Nat.le_refl _) _⟩
  · refine ho.kept (grownBy_set W2 o 4 _) ?_
    have hlt2 := ho.lt
    cases hob : (Value.slice p' (rms.length + 1) c').ownBlock with
    | none => exact .inl rfl
    | some j =>
      refine .inr (fun e => ?_)
      have := (hlt2 j hob).1
      injection e with e
      omega
  · have hb2 : Below o W (W2.setCell ⟨o, 4, none⟩ (.slice p' (rms.length + 1) c')) := hb1.setCell (p := ⟨o, 4, none⟩) (Nat.le_refl _) _
    exact (h.mems.snoc hn ht).under (hb2.mono hBo) (Nat.le_refl _)

set_option maxRecDepth 100000 in
set_option maxHeartbeats 2000000 in
theorem refWithout_any (t : JV) (r : RV) (name : ByteArray) (w : World) (B : Nat) (hBw : B ≤ w.heap.size) (ht : TreeOf w B t r) (ot : t.Ok) :
    Calls Try.prog 31 #[r.val, .string name] w (MapRet w B (cutM t.mem name)) := by
  obtain ⟨rms, hm, hms, hk⟩ := ht.mems
  obtain ⟨k, n, s, pl, nl, cl, pm, nm, cm⟩ := r
  obtain ⟨tk, tn, ts, tl, tm⟩ := t
  cases ot with
  | mk _ _ _ bl bm okl oks okm =>
  dsimp only [RV.val, JV.k, JV.m] at *
  subst hk
  have eM := rd_nlen hm
  have hnm : nm ≤ 1466015503658 := by have := hms.len; omega
  have E2 : Hid (tm.length = nm ∧ rms.length = nm) := ⟨by have := hms.len; omega, by omega⟩
  have HMS := Lib.hid hms
  have HM := Lib.hid hm
  have hA0 : VAt ((w.alloc (.cells #[.int .i64 tk, .int .i64 n, .string s, .slice pl nl cl, .slice pm nm cm] 45)).alloc (.cells #[.int .i64 0, .int .i64 0, .string ⟨#[]⟩, .slice none 0 0, .slice none 0 0] 45)) w.heap.size ⟨tk, n, s, pl, nl, cl, pm, nm, cm⟩ := heap_alloc_lt (by simp) (heap_alloc_at rfl)
  have hA1 : VAt ((w.alloc (.cells #[.int .i64 tk, .int .i64 n, .string s, .slice pl nl cl, .slice pm nm cm] 45)).alloc (.cells #[.int .i64 0, .int .i64 0, .string ⟨#[]⟩, .slice none 0 0, .slice none 0 0] 45)) (w.heap.size + 1) RV.zero := heap_alloc_at (by simp)
  have hB0 := below2 w (.cells #[.int .i64 tk, .int .i64 n, .string s, .slice pl nl cl, .slice pm nm cm] 45) (.cells #[.int .i64 0, .int .i64 0, .string ⟨#[]⟩, .slice none 0 0, .slice none 0 0] 45)
  have HG6 : Hid (tk = 6 → (JV.mk tk tn ts tl tm).mem = tm) := by
    intro h
    show (if tk = 6 then tm else []) = tm; rw [if_pos h]
  have HGN : Hid (tk ≠ 6 → (JV.mk tk tn ts tl tm).mem = []) := by
    intro h
    show (if tk = 6 then tm else []) = []; rw [if_neg h]
  clear hms hm okl oks okm bl bm eM ht
  go_enter Try.func31, Try.ntmps31
  go_upto_region 1 with fail
  obtain ⟨W0, hW0⟩ : ∃ W0, ((w.alloc (.cells #[.int .i64 tk, .int .i64 n, .string s, .slice pl nl cl, .slice pm nm cm] 45)).alloc (.cells #[.int .i64 0, .int .i64 0, .string ⟨#[]⟩, .slice none 0 0, .slice none 0 0] 45)) = W0 := ⟨_, rfl⟩
  rw [hW0] at hA0 hA1 hB0 ⊢
  clear hW0
  have hz := hA1.lt
  have HA0 := Lib.hid hA0
  have HA1 := Lib.hid hA1
  go_upto_region 2 with fail
  have hO0 : VAt (W0.alloc (.cells #[.int .i64 6, .int .i64 0, .string ⟨#[]⟩, .slice none 0 0, .slice none 0 0] 45)) W0.heap.size ⟨6, 0, ⟨#[]⟩, none, 0, 0, none, 0, 0⟩ := heap_alloc_at rfl
  have hB1 : Below W0.heap.size W0 (W0.alloc (.cells #[.int .i64 6, .int .i64 0, .string ⟨#[]⟩, .slice none 0 0, .slice none 0 0] 45)) := (Below.refl _ _).alloc (Nat.le_refl _) _
  have HGR : Hid (GrowM W0 B W0.heap.size (cutM (tm.take 0) name) ((rms.take 0).filter (fun x => !nameB name x)) none 0 0 (W0.alloc (.cells #[.int .i64 6, .int .i64 0, .string ⟨#[]⟩, .slice none 0 0, .slice none 0 0] 45))) :=
    ⟨hO0, Own.nil _ _ _, MemsOf.nil _ _, hB1⟩
  clear hO0 hB1 hA0 hA1
  have hBo : B ≤ W0.heap.size := Nat.le_trans hBw hB0.size
  have HFI : Hid (∀ (pm' : Option Addr) (nm' cm' : Nat) (rms' : List RM) (ms' : List (ByteArray × JV)) (W : World), GrowM W0 B W0.heap.size ms' rms' pm' nm' cm' W → ∀ ms, ms' = ms → MapRet w B ms (.returned (RV.val ⟨6, 0, ⟨#[]⟩, none, 0, 0, pm', nm', cm'⟩)) (((((W.setCell ⟨w.heap.size + 1, 0, none⟩ (.int .i64 6)).setCell ⟨w.heap.size + 1, 1, none⟩ (.int .i64 0)).setCell ⟨w.heap.size + 1, 2, none⟩ (.string ⟨#[]⟩)).setCell ⟨w.heap.size + 1, 3, none⟩ (.slice none 0 0)).setCell ⟨w.heap.size + 1, 4, none⟩ (.slice pm' nm' cm'))) := by
    intro pm' nm' cm' rms' ms' W hG ms e
    subst e
    exact MapRet.fin hBw (by omega) hz hB0.size (hB0.trans (hG.below.mono hB0.size)) (hG.own.mono (by omega)) hG.mems
  by_cases hk : tk = 6
  · have HE := Lib.hid (HG6.out hk)
    subst hk
    clear HG6 HGN
    go_wp2_with fail
    go_loopw [6] (fun i wr => ∃ (k : Nat) (p' : Option Addr) (n' c' : Nat), k ≤ nm ∧ i = .int .i64 k ∧ Hid (GrowM W0 B W0.heap.size (cutM (tm.take k) name) ((rms.take k).filter (fun x => !nameB name x)) p' n' c' wr)) (fun i _ => nm - (intOf i).toNat)
    case atStart => exact ⟨0, none, 0, 0, Nat.zero_le _, rfl, HGR⟩
    case round =>
      obtain ⟨k, p', n', c', hk, rfl, HGW⟩ := hrel
      have hbr := HGW.out.below
      have c0 := (HA0.out.under hbr (by omega)).cell 0 rfl
      have c4 := (HA0.out.under hbr (by omega)).cell 4 rfl
      dsimp only at c0 c4
      by_cases hlt : k < nm
      · obtain ⟨tx, htx⟩ : ∃ x, tm[k]? = some x := ⟨_, List.getElem?_eq_getElem (by have := E2.out; omega)⟩
        obtain ⟨x, hx⟩ : ∃ x, rms[k]? = some x := ⟨_, List.getElem?_eq_getElem (by have := E2.out; omega)⟩
        obtain ⟨b1, o1, rfl, hb1, hc1⟩ := rd_at' (HM.out.below (((hB0.mono hBw).trans (hbr.mono hBo))) (Nat.le_refl _)) hx
        have f0 := hc1 0 _ rfl
        have f1 := hc1 1 _ rfl
        have f2 := hc1 2 _ rfl
        have f3 := hc1 3 _ rfl
        have f4 := hc1 4 _ rfl
        have f5 := hc1 5 _ rfl
        rw [Nat.add_zero] at f0
        have en := HMS.out.name k tx x htx hx
        have HTV := Lib.hid ((HMS.out.val k tx x htx hx).under ((hB0.mono hBw).trans (hbr.mono hBo)) (Nat.le_refl _))
        have HEN := Lib.hid en
        have HTX : Hid (cutM (tm.take (k + 1)) name = cutM (tm.take k) name ++ (if tx.1 = name then [] else [tx])) := by
          unfold Hid cutM
          rw [List.take_add_one, htx, List.filter_append]
          by_cases h : tx.1 = name <;> simp [h]
        have HRX : Hid ((rms.take (k + 1)).filter (fun x => !nameB name x) = (rms.take k).filter (fun x => !nameB name x) ++ (if tx.1 = name then [] else [x])) := by
          unfold Hid
          rw [List.take_add_one, hx, List.filter_append]
          by_cases h : tx.1 = name
          · have h' : x.name = name := by rw [← en]; exact h
            simp [h, nameB, h']
          · have h' : ¬ x.name = name := by rw [← en]; exact h
            simp [h, nameB, h']
        have hk0 : (0 : Int) ≤ (k : Int) := Int.natCast_nonneg _
        have hk1 : (k : Int) < (nm : Int) := by omega
        clear hc1 htx hx
        by_cases hnx : x.name = name
        · have hq : (x.name.toList == name.toList) = true := by rw [str_beq]; simpa using hnx
          have hqn : (x.name.toList != name.toList) = false := by rw [bne, hq]; rfl
          have HNX : Hid (GrowM W0 B W0.heap.size (cutM (tm.take (k + 1)) name) ((rms.take (k + 1)).filter (fun x => !nameB name x)) p' n' c' wr) := by
            have h1 : tx.1 = name := by rw [en]; exact hnx
            unfold Hid
            rw [HTX.out, HRX.out, if_pos h1, if_pos h1, List.append_nil, List.append_nil]
            exact HGW.out
          clear hnx en
          go_wp2_with fail
          go_roundw
          case rel => exact ⟨k + 1, p', n', c', by omega, by go_num, HNX⟩
          case measure => simp [intOf]; omega
        · have hq : (x.name.toList == name.toList) = false := by rw [str_beq]; simpa using hnx
          have hqn : (x.name.toList != name.toList) = true := by rw [bne, hq]; rfl
          have h1 : ¬ tx.1 = name := by rw [en]; exact hnx
          have o4 := HGW.out.out.cell 4 rfl
          have of4 := HGW.out.out.frozen 4
          have hol := HGW.out.out.lt
          have hfa : (wr.alloc (.cells #[.string x.name, .int .i64 x.v.k, .int .i64 x.v.n, .string x.v.s, .slice x.v.pl x.v.nl x.v.cl, .slice x.v.pm x.v.nm x.v.cm] 79)).frozen? ⟨W0.heap.size, 4, none⟩ = false := VAt.frozen (heap_alloc_lt hol HGW.out.out) 4
          dsimp only at o4
          clear hnx en
          go_wp2_with fail
          have hrl : ((rms.take k).filter (fun x => !nameB name x)).length ≤ nm := by
            have := List.length_filter_le (fun x => !nameB name x) (rms.take k)
            have := List.length_take_le k rms
            omega
          have HRL := Lib.hid hrl
          have HBZ : Hid (W0.heap.size + 1 ≤ wr.heap.size) := hol
          clear hrl
          have hne0 := World.new_ne wr ⟨W0.heap.size, 4, none⟩ o4
          go_region_law
            (first
              | (refine step_append_rd slM codecM (wr.alloc (.cells #[.string x.name, .int .i64 x.v.k, .int .i64 x.v.n, .string x.v.s, .slice x.v.pl x.v.nl x.v.cl, .slice x.v.pm x.v.nm x.v.cm] 79)).drew (by rfl) (.tmp 29) (.tmp 35) (by rfl) (v := .slice p' n' c') (by rfl) (by rfl) (HGW.out.own.alloc (.cells #[.string x.name, .int .i64 x.v.k, .int .i64 x.v.n, .string x.v.s, .slice x.v.pl x.v.nl x.v.cl, .slice x.v.pm x.v.nm x.v.cm] 79)) (Rd.one (B := wr.heap.size + 1) (x := x) codecM (heap_alloc_new _ _) rfl (by omega)) (by have := HRL.out; simp; unfold maxLen; omega) (by have := HRL.out; simp; omega) (by have := HBZ.out; simp; omega) ?_
                 intro v2 w2 ho2 hg2 hat2
                 obtain ⟨p2, c2, hv2, hq1, hq2⟩ := ho2.len
                 rw [List.length_append, List.length_singleton] at hv2
                 subst hv2
                 clear hq1 hq2
                 have HY3 : VAt w2 W0.heap.size ⟨6, 0, ⟨#[]⟩, none, 0, 0, p', n', c'⟩ := (hg2.block _ (by simp; omega) (fun e => by have := (HGW.out.own.lt _ e.symm).1; omega)).trans (heap_alloc_lt hol HGW.out.out)
                 have m4' := HY3.cell 4 rfl
                 have x4' := HY3.frozen 4
                 clear HY3)
              | fail)
          all_goals
            have HGN2 : Hid (GrowM W0 B W0.heap.size (cutM (tm.take (k + 1)) name) ((rms.take (k + 1)).filter (fun x => !nameB name x)) p2 (((rms.take k).filter (fun x => !nameB name x)).length + 1) c2 (w2.setCell ⟨W0.heap.size, 4, none⟩ (.slice p2 (((rms.take k).filter (fun x => !nameB name x)).length + 1) c2))) := by
              unfold Hid
              rw [HTX.out, HRX.out, if_neg h1, if_neg h1]
              exact HGW.out.push hBo HEN.out HTV.out ho2 (undrew hg2)
            go_wp2_with fail
            go_roundw
            case rel => exact ⟨k + 1, p2, _, c2, by omega, by go_num, HGN2⟩
            case measure => simp [intOf]; omega
      · obtain rfl : k = nm := by omega
        have HCM : Hid (cutM (tm.take k) name = cutM (JV.mk 6 tn ts tl tm).mem name) := by
          unfold Hid
          rw [HE.out, List.take_of_length_le (by have := E2.out; omega)]
        have HZ2 : VAt wr (w.heap.size + 1) RV.zero := HA1.out.under hbr (by omega)
        have HOU := HGW.out.out
        have z0 := HZ2.cell 0 rfl
        have z1 := HZ2.cell 1 rfl
        have z2 := HZ2.cell 2 rfl
        have z3 := HZ2.cell 3 rfl
        have z4 := HZ2.cell 4 rfl
        have m0 := HOU.cell 0 rfl
        have m1 := HOU.cell 1 rfl
        have m2 := HOU.cell 2 rfl
        have m3 := HOU.cell 3 rfl
        have m4 := HOU.cell 4 rfl
        dsimp only [RV.zero] at z0 z1 z2 z3 z4 m0 m1 m2 m3 m4
        have y0 := HZ2.frozen 0
        have y1 := HZ2.frozen 1
        have y2 := HZ2.frozen 2
        have y3 := HZ2.frozen 3
        have y4 := HZ2.frozen 4
        clear HZ2 HOU
        go_wp2_with fail
        exact bodyPost_ret (v := RV.val ⟨6, 0, ⟨#[]⟩, none, 0, 0, p', n', c'⟩) (by simp [results, Try.results31, go_sem, z0, z1, z2, z3, z4]) rfl (HFI.out p' n' c' _ _ wr HGW.out _ HCM.out)
  · have HE := Lib.hid (HGN.out hk)
    have hq : (tk == 6) = false := by simpa using hk
    clear HG6 HGN hk
    go_wp2_with fail
    go_loopw [6] (fun i wr => i = .int .i64 0 ∧ Hid (GrowM W0 B W0.heap.size (cutM (tm.take 0) name) ((rms.take 0).filter (fun x => !nameB name x)) none 0 0 wr)) (fun i _ => 0)
    case atStart => exact ⟨rfl, HGR⟩
    case round =>
      obtain ⟨rfl, HGW⟩ := hrel
      have hbr := HGW.out.below
      have c0 := (HA0.out.under hbr (by omega)).cell 0 rfl
      have c4 := (HA0.out.under hbr (by omega)).cell 4 rfl
      dsimp only at c0 c4
      have HCM : Hid (cutM (tm.take 0) name = cutM (JV.mk tk tn ts tl tm).mem name) := by
        unfold Hid
        rw [HE.out]; rfl
      have HZ2 : VAt wr (w.heap.size + 1) RV.zero := HA1.out.under hbr (by omega)
      have HOU := HGW.out.out
      have z0 := HZ2.cell 0 rfl
      have z1 := HZ2.cell 1 rfl
      have z2 := HZ2.cell 2 rfl
      have z3 := HZ2.cell 3 rfl
      have z4 := HZ2.cell 4 rfl
      have m0 := HOU.cell 0 rfl
      have m1 := HOU.cell 1 rfl
      have m2 := HOU.cell 2 rfl
      have m3 := HOU.cell 3 rfl
      have m4 := HOU.cell 4 rfl
      dsimp only [RV.zero] at z0 z1 z2 z3 z4 m0 m1 m2 m3 m4
      have y0 := HZ2.frozen 0
      have y1 := HZ2.frozen 1
      have y2 := HZ2.frozen 2
      have y3 := HZ2.frozen 3
      have y4 := HZ2.frozen 4
      clear HZ2 HOU
      by_cases h0 : 0 < nm
      all_goals
        go_wp2_with fail
        exact bodyPost_ret (v := RV.val ⟨6, 0, ⟨#[]⟩, none, 0, 0, none, 0, 0⟩) (by simp [results, Try.results31, go_sem, z0, z1, z2, z3, z4]) rfl (HFI.out none 0 0 _ _ wr HGW.out _ HCM.out)
end Go.Proofs.Ytfpgkiajggfadaa
