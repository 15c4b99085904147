/- The document's answer of a map with another member, walked. -/
import Derived.Test.YtfpgkiajggfadaaRef7b
set_option linter.unusedSimpArgs false
set_option linter.unusedVariables false
namespace Go.Proofs.Ytfpgkiajggfadaa
open Go.RowKit Go.OpenShut

theorem GrowM.alloc {W0 W : World} {B o : Nat} {ms : List (ByteArray × JV)} {rms : List RM} {pm : Option Addr} {nm cm : Nat} (h : GrowM W0 B o ms rms pm nm cm W) (hBo : B ≤ o) (ob : Obj) : GrowM W0 B o ms rms pm nm cm (W.alloc ob) := by
  have holt := h.out.lt
  exact ⟨heap_alloc_lt holt h.out, h.own.alloc ob, h.mems.under ((Below.refl _ _).alloc (by omega) ob) (Nat.le_refl _), h.below.alloc (by omega) ob⟩

/-- One member of the loop. -/
def stepW (name : ByteArray) (x : JV) (a : Bool × List (ByteArray × JV)) (p : ByteArray × JV) : Bool × List (ByteArray × JV) := if p.1 = name ∧ a.1 = false then (true, a.2 ++ [(p.1, x)]) else (a.1, a.2 ++ [p])
def allW (name : ByteArray) (x : JV) (ms : List (ByteArray × JV)) : Bool × List (ByteArray × JV) := ms.foldl (stepW name x) (false, [])
theorem allW_take {name : ByteArray} {x : JV} {ms : List (ByteArray × JV)} {k : Nat} {p : ByteArray × JV} (hp : ms[k]? = some p) : allW name x (ms.take (k + 1)) = stepW name x (allW name x (ms.take k)) p := by
  unfold allW
  rw [List.take_add_one, hp, List.foldl_append]
  rfl
theorem fold_true (name : ByteArray) (x : JV) : ∀ (ms a : List (ByteArray × JV)), ms.foldl (stepW name x) (true, a) = (true, a ++ ms)
  | [], a => by simp
  | p :: ms, a => by
    rw [List.foldl_cons, show stepW name x (true, a) p = (true, a ++ [p]) by simp [stepW], fold_true name x ms]
    simp
theorem fold_false (name : ByteArray) (x : JV) : ∀ (ms a : List (ByteArray × JV)), ms.foldl (stepW name x) (false, a) = match ms.findIdx? (fun p => decide (p.1 = name)) with
    | some i => (true, a ++ ms.set i (name, x))
    | none => (false, a ++ ms)
  | [], a => by simp
  | p :: ms, a => by
    rw [List.foldl_cons, List.findIdx?_cons]
    by_cases h : p.1 = name
    · rw [show stepW name x (false, a) p = (true, a ++ [(p.1, x)]) by simp [stepW, h], fold_true]
      simp [h]
    · rw [show stepW name x (false, a) p = (false, a ++ [p]) by simp [stepW, h], fold_false name x ms]
      simp only [h, decide_false, Bool.false_eq_true, if_false]
      cases ms.findIdx? (fun p => decide (p.1 = name)) <;> simp
theorem allW_put (name : ByteArray) (x : JV) (ms : List (ByteArray × JV)) : (if (allW name x ms).1 = true then (allW name x ms).2 else (allW name x ms).2 ++ [(name, x)]) = putM (ms.findIdx? (fun p => decide (p.1 = name))) ms name x := by
  unfold allW
  rw [fold_false]
  cases ms.findIdx? (fun p => decide (p.1 = name)) <;> simp [putM]

set_option maxRecDepth 100000 in
set_option maxHeartbeats 4000000 in
theorem refWith_any (t x : JV) (r q : RV) (name : ByteArray) (w : World) (B : Nat) (hBw : B ≤ w.heap.size) (ht : TreeOf w B t r) (ot : t.Ok) (hx : TreeOf w B x q) :
    Calls Try.prog 29 #[r.val, .string name, q.val] w (MapRet w B (putM (t.place name) t.mem name x)) := by
  obtain ⟨rms, hm, hms, hk⟩ := ht.mems
  obtain ⟨k, n, s, pl, nl, cl, pm, nm, cm⟩ := r
  obtain ⟨k2, n2, s2, pl2, nl2, cl2, pm2, nm2, cm2⟩ := q
  obtain ⟨tk, tn, ts, tl, tm⟩ := t
  cases ot with
  | mk _ _ _ bl bm okl oks okm =>
  dsimp only [RV.val, JV.k, JV.m] at *
  subst hk
  have eM := rd_nlen hm
  have hnm : nm ≤ 1466015503658 := by have := hms.len; omega
  have E2 : Hid (tm.length = nm ∧ rms.length = nm) := ⟨by have := hms.len; omega, by omega⟩
  have HMS := Lib.hid hms
  have HM := Lib.hid hm
  have HX := Lib.hid hx
  have hA0 : VAt (((w.alloc (.cells #[.int .i64 tk, .int .i64 n, .string s, .slice pl nl cl, .slice pm nm cm] 45)).alloc (.cells #[.int .i64 k2, .int .i64 n2, .string s2, .slice pl2 nl2 cl2, .slice pm2 nm2 cm2] 45)).alloc (.cells #[.int .i64 0, .int .i64 0, .string ⟨#[]⟩, .slice none 0 0, .slice none 0 0] 45)) w.heap.size ⟨tk, n, s, pl, nl, cl, pm, nm, cm⟩ := heap_alloc_lt (by simp; omega) (heap_alloc_lt (by simp) (heap_alloc_at rfl))
  have hA1 : VAt (((w.alloc (.cells #[.int .i64 tk, .int .i64 n, .string s, .slice pl nl cl, .slice pm nm cm] 45)).alloc (.cells #[.int .i64 k2, .int .i64 n2, .string s2, .slice pl2 nl2 cl2, .slice pm2 nm2 cm2] 45)).alloc (.cells #[.int .i64 0, .int .i64 0, .string ⟨#[]⟩, .slice none 0 0, .slice none 0 0] 45)) (w.heap.size + 1) ⟨k2, n2, s2, pl2, nl2, cl2, pm2, nm2, cm2⟩ := heap_alloc_lt (by simp) (heap_alloc_at (by simp))
  have hA2 : VAt (((w.alloc (.cells #[.int .i64 tk, .int .i64 n, .string s, .slice pl nl cl, .slice pm nm cm] 45)).alloc (.cells #[.int .i64 k2, .int .i64 n2, .string s2, .slice pl2 nl2 cl2, .slice pm2 nm2 cm2] 45)).alloc (.cells #[.int .i64 0, .int .i64 0, .string ⟨#[]⟩, .slice none 0 0, .slice none 0 0] 45)) (w.heap.size + 1 + 1) RV.zero := heap_alloc_at (by simp)
  have hB0 := (below2 w (.cells #[.int .i64 tk, .int .i64 n, .string s, .slice pl nl cl, .slice pm nm cm] 45) (.cells #[.int .i64 k2, .int .i64 n2, .string s2, .slice pl2 nl2 cl2, .slice pm2 nm2 cm2] 45)).alloc (by simp; omega) (.cells #[.int .i64 0, .int .i64 0, .string ⟨#[]⟩, .slice none 0 0, .slice none 0 0] 45)
  have hput : ∀ ms : List (ByteArray × JV), (JV.mk tk tn ts tl tm).mem = ms → putM ((JV.mk tk tn ts tl tm).place name) (JV.mk tk tn ts tl tm).mem name x = (if (allW name x ms).1 = true then (allW name x ms).2 else (allW name x ms).2 ++ [(name, x)]) := by
    intro ms e
    rw [allW_put]
    unfold JV.place
    rw [e]
  have HPUT := Lib.hid hput
  have HG6 : Hid (tk = 6 → (JV.mk tk tn ts tl tm).mem = tm) := by
    intro h
    show (if tk = 6 then tm else []) = tm; rw [if_pos h]
  have HGN : Hid (tk ≠ 6 → (JV.mk tk tn ts tl tm).mem = []) := by
    intro h
    show (if tk = 6 then tm else []) = []; rw [if_neg h]
  clear hms hm okl oks okm bl bm eM ht hx hput
  go_enter Try.func29, Try.ntmps29
  go_upto_region 1 with fail
  obtain ⟨W0, hW0⟩ : ∃ W0, (((w.alloc (.cells #[.int .i64 tk, .int .i64 n, .string s, .slice pl nl cl, .slice pm nm cm] 45)).alloc (.cells #[.int .i64 k2, .int .i64 n2, .string s2, .slice pl2 nl2 cl2, .slice pm2 nm2 cm2] 45)).alloc (.cells #[.int .i64 0, .int .i64 0, .string ⟨#[]⟩, .slice none 0 0, .slice none 0 0] 45)) = W0 := ⟨_, rfl⟩
  rw [hW0] at hA0 hA1 hA2 hB0 ⊢
  clear hW0
  have hz := hA2.lt
  have HA0 := Lib.hid hA0
  have HA1 := Lib.hid hA1
  have HA2 := Lib.hid hA2
  go_upto_region 2 with fail
  have hO0 : VAt (W0.alloc (.cells #[.int .i64 6, .int .i64 0, .string ⟨#[]⟩, .slice none 0 0, .slice none 0 0] 45)) W0.heap.size ⟨6, 0, ⟨#[]⟩, none, 0, 0, none, 0, 0⟩ := heap_alloc_at rfl
  have hB1 : Below W0.heap.size W0 (W0.alloc (.cells #[.int .i64 6, .int .i64 0, .string ⟨#[]⟩, .slice none 0 0, .slice none 0 0] 45)) := (Below.refl _ _).alloc (Nat.le_refl _) _
  have HGR : Hid (∃ rs : List RM, rs.length = 0 ∧ GrowM W0 B W0.heap.size (allW name x (tm.take 0)).2 rs none 0 0 (W0.alloc (.cells #[.int .i64 6, .int .i64 0, .string ⟨#[]⟩, .slice none 0 0, .slice none 0 0] 45))) :=
    ⟨[], rfl, hO0, Own.nil _ _ _, MemsOf.nil _ _, hB1⟩
  clear hO0 hB1 hA0 hA1 hA2
  have hBo : B ≤ W0.heap.size := Nat.le_trans hBw hB0.size
  have HFI : Hid (∀ (pm' : Option Addr) (nm' cm' : Nat) (rms' : List RM) (ms' : List (ByteArray × JV)) (W : World), GrowM W0 B W0.heap.size ms' rms' pm' nm' cm' W → ∀ ms, ms' = ms → MapRet w B ms (.returned (RV.val ⟨6, 0, ⟨#[]⟩, none, 0, 0, pm', nm', cm'⟩)) (((((W.setCell ⟨w.heap.size + 1 + 1, 0, none⟩ (.int .i64 6)).setCell ⟨w.heap.size + 1 + 1, 1, none⟩ (.int .i64 0)).setCell ⟨w.heap.size + 1 + 1, 2, none⟩ (.string ⟨#[]⟩)).setCell ⟨w.heap.size + 1 + 1, 3, none⟩ (.slice none 0 0)).setCell ⟨w.heap.size + 1 + 1, 4, none⟩ (.slice pm' nm' cm'))) := by
    intro pm' nm' cm' rms' ms' W hG ms e
    subst e
    exact MapRet.fin hBw (by omega) hz hB0.size (hB0.trans (hG.below.mono hB0.size)) (hG.own.mono (by omega)) hG.mems
  by_cases hk : tk = 6
  · have HE := Lib.hid (HG6.out hk)
    subst hk
    clear HG6 HGN
    go_wp2_with fail
    go_loopw [8, 9] (fun d i wr => ∃ (k : Nat) (p' : Option Addr) (n' c' : Nat) (rs : List RM), k ≤ nm ∧ d = .bool (allW name x (tm.take k)).1 ∧ i = .int .i64 k ∧ rs.length = k ∧ Hid (GrowM W0 B W0.heap.size (allW name x (tm.take k)).2 rs p' n' c' wr)) (fun _ i _ => nm - (intOf i).toNat)
    case atStart =>
      obtain ⟨rs, h1, h2⟩ := HGR.out
      exact ⟨0, none, 0, 0, rs, Nat.zero_le _, rfl, rfl, h1, h2⟩
    case round =>
      obtain ⟨k, p', n', c', rs, hk, rfl, rfl, hrs, HGW⟩ := hrel
      have HRS := Lib.hid hrs
      have hbr := HGW.out.below
      have c0 := (HA0.out.under hbr (by omega)).cell 0 rfl
      have c4 := (HA0.out.under hbr (by omega)).cell 4 rfl
      have d0 := (HA1.out.under hbr (by omega)).cell 0 rfl
      have d1 := (HA1.out.under hbr (by omega)).cell 1 rfl
      have d2 := (HA1.out.under hbr (by omega)).cell 2 rfl
      have d3 := (HA1.out.under hbr (by omega)).cell 3 rfl
      have d4 := (HA1.out.under hbr (by omega)).cell 4 rfl
      dsimp only at c0 c4 d0 d1 d2 d3 d4
      have hne1 := World.new_ne wr ⟨w.heap.size + 1, 0, none⟩ d0
      clear hrs
      by_cases hlt : k < nm
      · obtain ⟨tx, htx⟩ : ∃ x, tm[k]? = some x := ⟨_, List.getElem?_eq_getElem (by have := E2.out; omega)⟩
        obtain ⟨y, hy⟩ : ∃ x, rms[k]? = some x := ⟨_, List.getElem?_eq_getElem (by have := E2.out; omega)⟩
        obtain ⟨b1, o1, rfl, hb1, hc1⟩ := rd_at' (HM.out.below (((hB0.mono hBw).trans (hbr.mono hBo))) (Nat.le_refl _)) hy
        have f0 := hc1 0 _ rfl
        have f1 := hc1 1 _ rfl
        have f2 := hc1 2 _ rfl
        have f3 := hc1 3 _ rfl
        have f4 := hc1 4 _ rfl
        have f5 := hc1 5 _ rfl
        rw [Nat.add_zero] at f0
        have en := HMS.out.name k tx y htx hy
        have HTV := Lib.hid ((HMS.out.val k tx y htx hy).under ((hB0.mono hBw).trans (hbr.mono hBo)) (Nat.le_refl _))
        have HXV := Lib.hid (HX.out.under ((hB0.mono hBw).trans (hbr.mono hBo)) (Nat.le_refl _))
        have HEN := Lib.hid en
        have HTX := Lib.hid (allW_take (name := name) (x := x) htx)
        have hk0 : (0 : Int) ≤ (k : Int) := Int.natCast_nonneg _
        have hk1 : (k : Int) < (nm : Int) := by omega
        have hol := HGW.out.out.lt
        clear hc1 htx hy
        have o4 := HGW.out.out.cell 4 rfl
        have of4 := HGW.out.out.frozen 4
        dsimp only at o4
        by_cases hnx : y.name = name
        · have hq : (y.name.toList == name.toList) = true := by rw [str_beq]; simpa using hnx
          generalize hA : allW name x (tm.take k) = A at HGW HTX ⊢
          clear hA
          obtain ⟨d, acc⟩ := A
          cases d with
          | false =>
            have HS : Hid (allW name x (tm.take (k + 1)) = (true, acc ++ [(tx.1, x)])) := by
              unfold Hid
              rw [HTX.out]
              unfold stepW
              rw [if_pos ⟨by rw [en]; exact hnx, rfl⟩]
            clear hnx en
            obtain ⟨A, hA⟩ : ∃ A : Bool × List (ByteArray × JV), A = (false, acc) := ⟨_, rfl⟩
            have hA2 : acc = A.2 := by rw [hA]
            subst hA2
            clear hA
            have hAl : Below wr.heap.size wr (wr.alloc (.cells #[.string y.name, .int .i64 y.v.k, .int .i64 y.v.n, .string y.v.s, .slice y.v.pl y.v.nl y.v.cl, .slice y.v.pm y.v.nm y.v.cm] 79)) := (Below.refl _ _).alloc (Nat.le_refl _) _
            have d0' := bcs hAl (by omega) d0
            have d1' := bcs hAl (by omega) d1
            have d2' := bcs hAl (by omega) d2
            have d3' := bcs hAl (by omega) d3
            have d4' := bcs hAl (by omega) d4
            clear hAl
            go_upto_region 10 with fail
            clear d0' d1' d2' d3' d4' d0 d1 d2 d3 d4
            have HG1 : Hid (GrowM W0 B W0.heap.size A.2 rs p' n' c' (wr.alloc (.cells #[.string y.name, .int .i64 k2, .int .i64 n2, .string s2, .slice pl2 nl2 cl2, .slice pm2 nm2 cm2] 79))) := HGW.out.alloc hBo _
            have hM1 : MAt (wr.alloc (.cells #[.string y.name, .int .i64 k2, .int .i64 n2, .string s2, .slice pl2 nl2 cl2, .slice pm2 nm2 cm2] 79)) wr.heap.size ⟨y.name, ⟨k2, n2, s2, pl2, nl2, cl2, pm2, nm2, cm2⟩⟩ := heap_alloc_at rfl
            have HV1 : Hid (TreeOf (wr.alloc (.cells #[.string y.name, .int .i64 k2, .int .i64 n2, .string s2, .slice pl2 nl2 cl2, .slice pm2 nm2 cm2] 79)) B ((tx.1, x)).2 (⟨y.name, ⟨k2, n2, s2, pl2, nl2, cl2, pm2, nm2, cm2⟩⟩ : RM).v) := (HXV.out).under ((Below.refl _ _).alloc (by omega) _) (Nat.le_refl _)
            obtain ⟨W1, hW1⟩ : ∃ W1, (wr.alloc (.cells #[.string y.name, .int .i64 k2, .int .i64 n2, .string s2, .slice pl2 nl2 cl2, .slice pm2 nm2 cm2] 79)) = W1 := ⟨_, rfl⟩
            have hws : W1.heap.size = wr.heap.size + 1 := by rw [← hW1]; simp
            have HWS : Hid (W1.heap.size = wr.heap.size + 1) := hws
            rw [hW1] at HG1 hM1 HV1 ⊢
            clear hW1 hws
            have v0 := hM1.cell 0 rfl
            have v1 := hM1.cell 1 rfl
            have v2 := hM1.cell 2 rfl
            have v3 := hM1.cell 3 rfl
            have v4 := hM1.cell 4 rfl
            have v5 := hM1.cell 5 rfl
            have o4 := HG1.out.out.cell 4 rfl
            have hol1 := HG1.out.out.lt
            dsimp only at o4 v0 v1 v2 v3 v4 v5
            have HRL : Hid (rs.length ≤ nm) := by have := HRS.out; unfold Hid; omega
            clear hM1
            go_wp2_with (at_builtin; refine wpList_append_rd slM codecM (W1.alloc (.cells #[.string y.name, .int .i64 k2, .int .i64 n2, .string s2, .slice pl2 nl2 cl2, .slice pm2 nm2 cm2] 79)) rfl (.tmp 40) (.tmp 42) rfl (v := .slice p' n' c') rfl rfl (HG1.out.own.alloc _) (Rd.one (B := W1.heap.size + 1) (x := (⟨y.name, ⟨k2, n2, s2, pl2, nl2, cl2, pm2, nm2, cm2⟩⟩ : RM)) codecM (heap_alloc_new _ _) rfl (by omega)) (by have := HRL.out; simp; unfold maxLen; omega) (by have := HRL.out; simp; omega) (by simp; omega) ?_; intro v2' w2 ho2 hg2 hat2; obtain ⟨p2, c2, hv2, hq1, hq2⟩ := ho2.len; rw [List.length_append, List.length_singleton] at hv2; subst hv2; clear hq1 hq2; (have HY3 : VAt w2 W0.heap.size ⟨6, 0, ⟨#[]⟩, none, 0, 0, p', n', c'⟩ := (hg2.block _ (by simp; omega) (fun e => by have := (HG1.out.own.lt _ e.symm).1; omega)).trans (heap_alloc_lt hol1 HG1.out.out)); (have m4' := HY3.cell 4 rfl); (have x4' := HY3.frozen 4); (have HGN2 : Hid (GrowM W0 B W0.heap.size (A.2 ++ [(tx.1, x)]) (rs ++ [⟨y.name, ⟨k2, n2, s2, pl2, nl2, cl2, pm2, nm2, cm2⟩⟩]) p2 (rs.length + 1) c2 (w2.setCell ⟨W0.heap.size, 4, none⟩ (.slice p2 (rs.length + 1) c2))) := HG1.out.push hBo (p := (tx.1, x)) (x := (⟨y.name, ⟨k2, n2, s2, pl2, nl2, cl2, pm2, nm2, cm2⟩⟩ : RM)) HEN.out HV1.out ho2 hg2); clear HY3 ho2 hg2 hat2; go_frame)
            go_roundw
            case rel => exact ⟨k + 1, p2, rs.length + 1, c2, rs ++ [⟨y.name, ⟨k2, n2, s2, pl2, nl2, cl2, pm2, nm2, cm2⟩⟩], by omega, by rw [HS.out], by go_num, by rw [List.length_append, List.length_singleton, HRS.out], by rw [HS.out]; exact HGN2.out⟩
            case measure => simp [intOf]; omega
          | true =>
            have HS : Hid (allW name x (tm.take (k + 1)) = (true, acc ++ [tx])) := by
              unfold Hid
              rw [HTX.out]
              unfold stepW
              rw [if_neg (fun h => by cases h.2)]
            clear hnx en
            obtain ⟨A, hA⟩ : ∃ A : Bool × List (ByteArray × JV), A = (true, acc) := ⟨_, rfl⟩
            have hA2 : acc = A.2 := by rw [hA]
            subst hA2
            clear hA
            go_upto_region 10 with fail
            have HG1 : Hid (GrowM W0 B W0.heap.size A.2 rs p' n' c' (wr.alloc (.cells #[.string y.name, .int .i64 y.v.k, .int .i64 y.v.n, .string y.v.s, .slice y.v.pl y.v.nl y.v.cl, .slice y.v.pm y.v.nm y.v.cm] 79))) := HGW.out.alloc hBo _
            have hM1 : MAt (wr.alloc (.cells #[.string y.name, .int .i64 y.v.k, .int .i64 y.v.n, .string y.v.s, .slice y.v.pl y.v.nl y.v.cl, .slice y.v.pm y.v.nm y.v.cm] 79)) wr.heap.size y := heap_alloc_at rfl
            have HV1 : Hid (TreeOf (wr.alloc (.cells #[.string y.name, .int .i64 y.v.k, .int .i64 y.v.n, .string y.v.s, .slice y.v.pl y.v.nl y.v.cl, .slice y.v.pm y.v.nm y.v.cm] 79)) B (tx).2 (y : RM).v) := (HTV.out).under ((Below.refl _ _).alloc (by omega) _) (Nat.le_refl _)
            obtain ⟨W1, hW1⟩ : ∃ W1, (wr.alloc (.cells #[.string y.name, .int .i64 y.v.k, .int .i64 y.v.n, .string y.v.s, .slice y.v.pl y.v.nl y.v.cl, .slice y.v.pm y.v.nm y.v.cm] 79)) = W1 := ⟨_, rfl⟩
            have hws : W1.heap.size = wr.heap.size + 1 := by rw [← hW1]; simp
            have HWS : Hid (W1.heap.size = wr.heap.size + 1) := hws
            rw [hW1] at HG1 hM1 HV1 ⊢
            clear hW1 hws
            have v0 := hM1.cell 0 rfl
            have v1 := hM1.cell 1 rfl
            have v2 := hM1.cell 2 rfl
            have v3 := hM1.cell 3 rfl
            have v4 := hM1.cell 4 rfl
            have v5 := hM1.cell 5 rfl
            have o4 := HG1.out.out.cell 4 rfl
            have hol1 := HG1.out.out.lt
            dsimp only at o4 v0 v1 v2 v3 v4 v5
            have HRL : Hid (rs.length ≤ nm) := by have := HRS.out; unfold Hid; omega
            clear hM1
            go_wp2_with (at_builtin; refine wpList_append_rd slM codecM (W1.alloc (.cells #[.string y.name, .int .i64 y.v.k, .int .i64 y.v.n, .string y.v.s, .slice y.v.pl y.v.nl y.v.cl, .slice y.v.pm y.v.nm y.v.cm] 79)) rfl (.tmp 40) (.tmp 42) rfl (v := .slice p' n' c') rfl rfl (HG1.out.own.alloc _) (Rd.one (B := W1.heap.size + 1) (x := (y : RM)) codecM (heap_alloc_new _ _) rfl (by omega)) (by have := HRL.out; simp; unfold maxLen; omega) (by have := HRL.out; simp; omega) (by simp; omega) ?_; intro v2' w2 ho2 hg2 hat2; obtain ⟨p2, c2, hv2, hq1, hq2⟩ := ho2.len; rw [List.length_append, List.length_singleton] at hv2; subst hv2; clear hq1 hq2; (have HY3 : VAt w2 W0.heap.size ⟨6, 0, ⟨#[]⟩, none, 0, 0, p', n', c'⟩ := (hg2.block _ (by simp; omega) (fun e => by have := (HG1.out.own.lt _ e.symm).1; omega)).trans (heap_alloc_lt hol1 HG1.out.out)); (have m4' := HY3.cell 4 rfl); (have x4' := HY3.frozen 4); (have HGN2 : Hid (GrowM W0 B W0.heap.size (A.2 ++ [tx]) (rs ++ [y]) p2 (rs.length + 1) c2 (w2.setCell ⟨W0.heap.size, 4, none⟩ (.slice p2 (rs.length + 1) c2))) := HG1.out.push hBo HEN.out HV1.out ho2 hg2); clear HY3 ho2 hg2 hat2; go_frame)
            go_roundw
            case rel => exact ⟨k + 1, p2, rs.length + 1, c2, rs ++ [y], by omega, by rw [HS.out], by go_num, by rw [List.length_append, List.length_singleton, HRS.out], by rw [HS.out]; exact HGN2.out⟩
            case measure => simp [intOf]; omega
        · have hq : (y.name.toList == name.toList) = false := by rw [str_beq]; simpa using hnx
          have HS : Hid (allW name x (tm.take (k + 1)) = ((allW name x (tm.take k)).1, (allW name x (tm.take k)).2 ++ [tx])) := by
            unfold Hid
            rw [HTX.out]
            unfold stepW
            rw [if_neg (fun h => hnx (by rw [← en]; exact h.1))]
          clear hnx en HTX
          generalize allW name x (tm.take k) = A at HGW HS ⊢
          go_upto_region 10 with fail
          have HG1 : Hid (GrowM W0 B W0.heap.size A.2 rs p' n' c' (wr.alloc (.cells #[.string y.name, .int .i64 y.v.k, .int .i64 y.v.n, .string y.v.s, .slice y.v.pl y.v.nl y.v.cl, .slice y.v.pm y.v.nm y.v.cm] 79))) := HGW.out.alloc hBo _
          have hM1 : MAt (wr.alloc (.cells #[.string y.name, .int .i64 y.v.k, .int .i64 y.v.n, .string y.v.s, .slice y.v.pl y.v.nl y.v.cl, .slice y.v.pm y.v.nm y.v.cm] 79)) wr.heap.size y := heap_alloc_at rfl
          have HV1 : Hid (TreeOf (wr.alloc (.cells #[.string y.name, .int .i64 y.v.k, .int .i64 y.v.n, .string y.v.s, .slice y.v.pl y.v.nl y.v.cl, .slice y.v.pm y.v.nm y.v.cm] 79)) B (tx).2 (y : RM).v) := (HTV.out).under ((Below.refl _ _).alloc (by omega) _) (Nat.le_refl _)
          obtain ⟨W1, hW1⟩ : ∃ W1, (wr.alloc (.cells #[.string y.name, .int .i64 y.v.k, .int .i64 y.v.n, .string y.v.s, .slice y.v.pl y.v.nl y.v.cl, .slice y.v.pm y.v.nm y.v.cm] 79)) = W1 := ⟨_, rfl⟩
          have hws : W1.heap.size = wr.heap.size + 1 := by rw [← hW1]; simp
          have HWS : Hid (W1.heap.size = wr.heap.size + 1) := hws
          rw [hW1] at HG1 hM1 HV1 ⊢
          clear hW1 hws
          have v0 := hM1.cell 0 rfl
          have v1 := hM1.cell 1 rfl
          have v2 := hM1.cell 2 rfl
          have v3 := hM1.cell 3 rfl
          have v4 := hM1.cell 4 rfl
          have v5 := hM1.cell 5 rfl
          have o4 := HG1.out.out.cell 4 rfl
          have hol1 := HG1.out.out.lt
          dsimp only at o4 v0 v1 v2 v3 v4 v5
          have HRL : Hid (rs.length ≤ nm) := by have := HRS.out; unfold Hid; omega
          clear hM1
          go_wp2_with (at_builtin; refine wpList_append_rd slM codecM (W1.alloc (.cells #[.string y.name, .int .i64 y.v.k, .int .i64 y.v.n, .string y.v.s, .slice y.v.pl y.v.nl y.v.cl, .slice y.v.pm y.v.nm y.v.cm] 79)) rfl (.tmp 40) (.tmp 42) rfl (v := .slice p' n' c') rfl rfl (HG1.out.own.alloc _) (Rd.one (B := W1.heap.size + 1) (x := (y : RM)) codecM (heap_alloc_new _ _) rfl (by omega)) (by have := HRL.out; simp; unfold maxLen; omega) (by have := HRL.out; simp; omega) (by simp; omega) ?_; intro v2' w2 ho2 hg2 hat2; obtain ⟨p2, c2, hv2, hq1, hq2⟩ := ho2.len; rw [List.length_append, List.length_singleton] at hv2; subst hv2; clear hq1 hq2; (have HY3 : VAt w2 W0.heap.size ⟨6, 0, ⟨#[]⟩, none, 0, 0, p', n', c'⟩ := (hg2.block _ (by simp; omega) (fun e => by have := (HG1.out.own.lt _ e.symm).1; omega)).trans (heap_alloc_lt hol1 HG1.out.out)); (have m4' := HY3.cell 4 rfl); (have x4' := HY3.frozen 4); (have HGN2 : Hid (GrowM W0 B W0.heap.size (A.2 ++ [tx]) (rs ++ [y]) p2 (rs.length + 1) c2 (w2.setCell ⟨W0.heap.size, 4, none⟩ (.slice p2 (rs.length + 1) c2))) := HG1.out.push hBo HEN.out HV1.out ho2 hg2); clear HY3 ho2 hg2 hat2; go_frame)
          go_roundw
          case rel => exact ⟨k + 1, p2, rs.length + 1, c2, rs ++ [y], by omega, by rw [HS.out], by go_num, by rw [List.length_append, List.length_singleton, HRS.out], by rw [HS.out]; exact HGN2.out⟩
          case measure => simp [intOf]; omega
      · obtain rfl : k = nm := by omega
        have HRL : Hid (rs.length ≤ 1466015503658) := by have := HRS.out; unfold Hid; omega
        have HPA := HPUT.out tm HE.out
        have htk : tm.take k = tm := List.take_of_length_le (by have := E2.out; omega)
        rw [htk] at HGW ⊢
        generalize allW name x tm = A at HGW HPA ⊢
        have HPP := Lib.hid HPA
        clear HPA htk
        obtain ⟨d, acc⟩ := A
        cases d with
        | true =>
          have HCM : Hid (acc = putM ((JV.mk 6 tn ts tl tm).place name) (JV.mk 6 tn ts tl tm).mem name x) := by
            unfold Hid
            rw [HPP.out]; rfl
          have HZ2 : VAt wr (w.heap.size + 1 + 1) RV.zero := HA2.out.under HGW.out.below (by omega)
          have HOU := HGW.out.out
          have z0 := HZ2.cell 0 rfl
          have z1 := HZ2.cell 1 rfl
          have z2 := HZ2.cell 2 rfl
          have z3 := HZ2.cell 3 rfl
          have z4 := HZ2.cell 4 rfl
          have m0 := HOU.cell 0 rfl
          have m1 := HOU.cell 1 rfl
          have m2 := HOU.cell 2 rfl
          have m3 := HOU.cell 3 rfl
          have m4 := HOU.cell 4 rfl
          dsimp only [RV.zero] at z0 z1 z2 z3 z4 m0 m1 m2 m3 m4
          have y0 := HZ2.frozen 0
          have y1 := HZ2.frozen 1
          have y2 := HZ2.frozen 2
          have y3 := HZ2.frozen 3
          have y4 := HZ2.frozen 4
          clear HZ2 HOU
          go_wp2_with fail
          exact bodyPost_ret (v := RV.val ⟨6, 0, ⟨#[]⟩, none, 0, 0, p', n', c'⟩) (by simp [results, Try.results29, go_sem, z0, z1, z2, z3, z4]) rfl (HFI.out p' (n') c' _ _ wr HGW.out _ HCM.out)
        | false =>
          obtain ⟨A, hA⟩ : ∃ A : Bool × List (ByteArray × JV), A = (false, acc) := ⟨_, rfl⟩
          have hA2 : acc = A.2 := by rw [hA]
          subst hA2
          clear hA
          have HCM : Hid (A.2 ++ [(name, x)] = putM ((JV.mk 6 tn ts tl tm).place name) (JV.mk 6 tn ts tl tm).mem name x) := by
            unfold Hid
            rw [HPP.out]; rfl
          have HXV := Lib.hid (HX.out.under ((hB0.mono hBw).trans (HGW.out.below.mono hBo)) (Nat.le_refl _))
          have hol := HGW.out.out.lt
          have o4 := HGW.out.out.cell 4 rfl
          dsimp only at o4
          go_upto_region 13 with (at_builtin; refine wpList_append_rd slM codecM (wr.alloc (.cells #[.string name, .int .i64 k2, .int .i64 n2, .string s2, .slice pl2 nl2 cl2, .slice pm2 nm2 cm2] 79)) rfl (.tmp 48) (.tmp 52) rfl (v := .slice p' n' c') rfl rfl (HGW.out.own.alloc _) (Rd.one (B := wr.heap.size + 1) (x := (⟨name, ⟨k2, n2, s2, pl2, nl2, cl2, pm2, nm2, cm2⟩⟩ : RM)) codecM (heap_alloc_new _ _) rfl (by omega)) (by have := HRL.out; simp; unfold maxLen; omega) (by have := HRL.out; simp; omega) (by simp; omega) ?_; intro v2' w2 ho2 hg2 hat2; obtain ⟨p2, c2, hv2, hq1, hq2⟩ := ho2.len; rw [List.length_append, List.length_singleton] at hv2; subst hv2; clear hq1 hq2; (have HY3 : VAt w2 W0.heap.size ⟨6, 0, ⟨#[]⟩, none, 0, 0, p', n', c'⟩ := (hg2.block _ (by simp; omega) (fun e => by have := (HGW.out.own.lt _ e.symm).1; omega)).trans (heap_alloc_lt hol HGW.out.out)); (have m4' := HY3.cell 4 rfl); (have x4' := HY3.frozen 4); (have HGN2 : Hid (GrowM W0 B W0.heap.size (A.2 ++ [(name, x)]) (rs ++ [⟨name, ⟨k2, n2, s2, pl2, nl2, cl2, pm2, nm2, cm2⟩⟩]) p2 (rs.length + 1) c2 (w2.setCell ⟨W0.heap.size, 4, none⟩ (.slice p2 (rs.length + 1) c2))) := HGW.out.push hBo (p := (name, x)) (x := (⟨name, ⟨k2, n2, s2, pl2, nl2, cl2, pm2, nm2, cm2⟩⟩ : RM)) rfl HXV.out ho2 hg2); clear HY3 ho2 hg2 hat2; go_frame)
          obtain ⟨w3, hw3⟩ : ∃ w3, w2.setCell ⟨W0.heap.size, 4, none⟩ (.slice p2 (rs.length + 1) c2) = w3 := ⟨_, rfl⟩
          rw [hw3] at HGN2 ⊢
          clear hw3 m4' x4' o4
          have HZ2 : VAt w3 (w.heap.size + 1 + 1) RV.zero := HA2.out.under HGN2.out.below (by omega)
          have HOU := HGN2.out.out
          have z0 := HZ2.cell 0 rfl
          have z1 := HZ2.cell 1 rfl
          have z2 := HZ2.cell 2 rfl
          have z3 := HZ2.cell 3 rfl
          have z4 := HZ2.cell 4 rfl
          have m0 := HOU.cell 0 rfl
          have m1 := HOU.cell 1 rfl
          have m2 := HOU.cell 2 rfl
          have m3 := HOU.cell 3 rfl
          have m4 := HOU.cell 4 rfl
          dsimp only [RV.zero] at z0 z1 z2 z3 z4 m0 m1 m2 m3 m4
          have y0 := HZ2.frozen 0
          have y1 := HZ2.frozen 1
          have y2 := HZ2.frozen 2
          have y3 := HZ2.frozen 3
          have y4 := HZ2.frozen 4
          clear HZ2 HOU
          go_wp2_with fail
          exact bodyPost_ret (v := RV.val ⟨6, 0, ⟨#[]⟩, none, 0, 0, p2, rs.length + 1, c2⟩) (by simp [results, Try.results29, go_sem, z0, z1, z2, z3, z4]) rfl (HFI.out p2 (rs.length + 1) c2 _ _ w3 HGN2.out _ HCM.out)
  · have HE := Lib.hid (HGN.out hk)
    have hq : (tk == 6) = false := by simpa using hk
    have HPP := Lib.hid (HPUT.out [] HE.out)
    clear HG6 HGN hk
    go_wp2_with fail
    go_loopw [8, 9] (fun d i wr => d = .bool false ∧ i = .int .i64 0 ∧ Hid (∃ rs : List RM, rs.length = 0 ∧ GrowM W0 B W0.heap.size (allW name x (tm.take 0)).2 rs none 0 0 wr)) (fun _ i _ => 0)
    case atStart => exact ⟨rfl, rfl, HGR⟩
    case round =>
      obtain ⟨rfl, rfl, HGW0⟩ := hrel
      obtain ⟨rs, hrs, hgw⟩ := HGW0.out
      have HRL : Hid (rs.length ≤ 1466015503658) := by unfold Hid; omega
      have hbr := hgw.below
      have c0 := (HA0.out.under hbr (by omega)).cell 0 rfl
      have c4 := (HA0.out.under hbr (by omega)).cell 4 rfl
      have d0 := (HA1.out.under hbr (by omega)).cell 0 rfl
      have d1 := (HA1.out.under hbr (by omega)).cell 1 rfl
      have d2 := (HA1.out.under hbr (by omega)).cell 2 rfl
      have d3 := (HA1.out.under hbr (by omega)).cell 3 rfl
      have d4 := (HA1.out.under hbr (by omega)).cell 4 rfl
      dsimp only at c0 c4 d0 d1 d2 d3 d4
      obtain ⟨A, hA⟩ : ∃ A : Bool × List (ByteArray × JV), A = allW name x (tm.take 0) := ⟨_, rfl⟩
      have hA2 : A.2 = [] := by rw [hA]; rfl
      rw [← hA] at hgw
      obtain ⟨p', hp'⟩ : ∃ p' : Option Addr, p' = none := ⟨_, rfl⟩
      obtain ⟨n', hn'⟩ : ∃ n' : Nat, n' = 0 := ⟨_, rfl⟩
      obtain ⟨c', hc'⟩ : ∃ c' : Nat, c' = 0 := ⟨_, rfl⟩
      have hgw' : GrowM W0 B W0.heap.size A.2 rs p' n' c' wr := by rw [hp', hn', hc']; exact hgw
      have HGW := Lib.hid hgw'
      have HCM : Hid (A.2 ++ [(name, x)] = putM ((JV.mk tk tn ts tl tm).place name) (JV.mk tk tn ts tl tm).mem name x) := by
        unfold Hid
        rw [HPP.out, hA2]; rfl
      clear hA hA2 hgw hgw' hrs HGW0 HGR hp' hn' hc'
      by_cases h0 : 0 < nm
      all_goals
        have HXV := Lib.hid (HX.out.under ((hB0.mono hBw).trans (HGW.out.below.mono hBo)) (Nat.le_refl _))
        have hol := HGW.out.out.lt
        have o4 := HGW.out.out.cell 4 rfl
        dsimp only at o4
        go_upto_region 13 with (at_builtin; refine wpList_append_rd slM codecM (wr.alloc (.cells #[.string name, .int .i64 k2, .int .i64 n2, .string s2, .slice pl2 nl2 cl2, .slice pm2 nm2 cm2] 79)) rfl (.tmp 48) (.tmp 52) rfl (v := .slice p' n' c') rfl rfl (HGW.out.own.alloc _) (Rd.one (B := wr.heap.size + 1) (x := (⟨name, ⟨k2, n2, s2, pl2, nl2, cl2, pm2, nm2, cm2⟩⟩ : RM)) codecM (heap_alloc_new _ _) rfl (by omega)) (by have := HRL.out; simp; unfold maxLen; omega) (by have := HRL.out; simp; omega) (by simp; omega) ?_; intro v2' w2 ho2 hg2 hat2; obtain ⟨p2, c2, hv2, hq1, hq2⟩ := ho2.len; rw [List.length_append, List.length_singleton] at hv2; subst hv2; clear hq1 hq2; (have HY3 : VAt w2 W0.heap.size ⟨6, 0, ⟨#[]⟩, none, 0, 0, p', n', c'⟩ := (hg2.block _ (by simp; omega) (fun e => by have := (HGW.out.own.lt _ e.symm).1; omega)).trans (heap_alloc_lt hol HGW.out.out)); (have m4' := HY3.cell 4 rfl); (have x4' := HY3.frozen 4); (have HGN2 : Hid (GrowM W0 B W0.heap.size (A.2 ++ [(name, x)]) (rs ++ [⟨name, ⟨k2, n2, s2, pl2, nl2, cl2, pm2, nm2, cm2⟩⟩]) p2 (rs.length + 1) c2 (w2.setCell ⟨W0.heap.size, 4, none⟩ (.slice p2 (rs.length + 1) c2))) := HGW.out.push hBo (p := (name, x)) (x := (⟨name, ⟨k2, n2, s2, pl2, nl2, cl2, pm2, nm2, cm2⟩⟩ : RM)) rfl HXV.out ho2 hg2); clear HY3 ho2 hg2 hat2; go_frame)
        obtain ⟨w3, hw3⟩ : ∃ w3, w2.setCell ⟨W0.heap.size, 4, none⟩ (.slice p2 (rs.length + 1) c2) = w3 := ⟨_, rfl⟩
        rw [hw3] at HGN2 ⊢
        clear hw3 m4' x4' o4
        have HZ2 : VAt w3 (w.heap.size + 1 + 1) RV.zero := HA2.out.under HGN2.out.below (by omega)
        have HOU := HGN2.out.out
        have z0 := HZ2.cell 0 rfl
        have z1 := HZ2.cell 1 rfl
        have z2 := HZ2.cell 2 rfl
        have z3 := HZ2.cell 3 rfl
        have z4 := HZ2.cell 4 rfl
        have m0 := HOU.cell 0 rfl
        have m1 := HOU.cell 1 rfl
        have m2 := HOU.cell 2 rfl
        have m3 := HOU.cell 3 rfl
        have m4 := HOU.cell 4 rfl
        dsimp only [RV.zero] at z0 z1 z2 z3 z4 m0 m1 m2 m3 m4
        have y0 := HZ2.frozen 0
        have y1 := HZ2.frozen 1
        have y2 := HZ2.frozen 2
        have y3 := HZ2.frozen 3
        have y4 := HZ2.frozen 4
        clear HZ2 HOU
        go_wp2_with fail
        exact bodyPost_ret (v := RV.val ⟨6, 0, ⟨#[]⟩, none, 0, 0, p2, rs.length + 1, c2⟩) (by simp [results, Try.results29, go_sem, z0, z1, z2, z3, z4]) rfl (HFI.out p2 (rs.length + 1) c2 _ _ w3 HGN2.out _ HCM.out)
end Go.Proofs.Ytfpgkiajggfadaa
