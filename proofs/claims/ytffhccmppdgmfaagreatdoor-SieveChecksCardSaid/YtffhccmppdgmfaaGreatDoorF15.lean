import Derived.Test.YtffhccmppdgmfaaGreatDoorF14
import Derived.Test.YtffhccmppdgmfaaGreatDoorF06
import Derived.Test.YtffhccmppdgmfaaGreatDoorF10
import Derived.Deep.CutBlock
import Derived.BigQuiet
set_option linter.unusedSimpArgs false
set_option linter.unusedVariables false
set_option maxRecDepth 200000
set_option maxHeartbeats 8000000
namespace Go.Proofs.YtffhccmppdgmfaaGreatDoor
section
open Go Go.RowKit Go.OpenShut
def Small (w : World) (k : Nat) : Prop := ∃ cs t z, w.heap[k]? = some (.cells cs t z) /\ cs.size < 5
theorem TokAt.small {W : World} {g : Nat} {t : Tok} (h : TokAt W g t) : Small W g := ⟨_, _, _, h, by simp⟩
theorem RdI.same' {α : Type} {enc : α -> List Value} {sz : Nat} (C : Codec enc sz) (hsz : 5 <= sz) {w w' : World} {S : Nat -> Prop} {v : Value} {xs : List α} (h : RdI w S enc sz v xs) (hk : ∀ k, S k -> w'.heap[k]? = w.heap[k]? \/ Small w k) : RdI w' S enc sz v xs := by
 obtain ⟨p, cap, h1, h2, h3, h4, h5⟩ := h
 refine ⟨p, cap, h1, h2, h3, h4, fun a ha h0 => ?_⟩
 obtain ⟨b, o, e, hb, hr⟩ := h5 a ha h0
 rcases hk b hb with hs | ⟨cs, t, z, hs, hlt⟩
 ·exact ⟨b, o, e, hb, fun i x hx j u hu => (World.cell?_of_block (w := w) (a := ⟨b, o + i * sz + j, none⟩) hs).trans (hr i x hx j u hu)⟩
 ·exfalso
  obtain ⟨x, hx⟩ : ∃ x, xs[0]? = some x := ⟨_, List.getElem?_eq_getElem h0⟩
  obtain ⟨u, hu⟩ : ∃ u, (enc x)[sz - 1]? = some u := ⟨_, List.getElem?_eq_getElem (by rw [C.len]; omega)⟩
  have h6 := hr 0 x hx (sz - 1) u hu
  rw [cell_of_row w b _ cs t z hs] at h6
  have := (Array.getElem?_eq_some_iff.1 h6).1
  omega
theorem TreeS.same' {w w' : World} {S : Nat -> Prop} {t : JV} {r : RV} (h : TreeS w S t r) (hk : ∀ k, S k -> w'.heap[k]? = w.heap[k]? \/ Small w k) : TreeS w' S t r := by
 induction h with
 | mk hl el cl hm em cn cm ih1 ih2 => exact .mk (hl.same' codecV (by decide) hk) el ih1 (hm.same' codecM (by decide) hk) em cn ih2
theorem parM_step {f d p : Nat} {k : List ByteArray} {ts : List Tok} {l : List (ByteArray × JV)} {q : Nat} {r : List Tok} (h : parM f d p k ts = some (l, q, r)) :
 ∃ f' n col t ts' v p' c r', f = f' + 1 /\ ts = n :: col :: t :: ts' /\ n.kind = 4 /\ n.s ∉ k /\ n.s.size <= 1048576 /\ isM col 58 = true /\ parV f' (d + 1) p (t :: ts') = some (v, p', c :: r') /\ p < p' /\ p' <= 8192 /\
   ((isM c 125 = true /\ l = [(n.s, v)] /\ q = p' /\ r = r') \/ (isM c 125 = false /\ isM c 44 = true /\ ∃ l', l = (n.s, v) :: l' /\ parM f' d p' (n.s :: k) r' = some (l', q, r))) := by
 match f, ts, h with
 | 0, ts, h => simp [parM] at h
 | f + 1, [], h => simp [parM] at h
 | f + 1, [_], h => simp [parM] at h
 | f + 1, n :: col :: ts, h =>
   unfold parM at h
   split at h
   ·rename_i hc
    simp only [Bool.and_eq_true, decide_eq_true_eq, Bool.not_eq_true'] at hc
    split at h
    ·rename_i v p' c r' hv
     have hb := (par_bd f).1 _ _ _ _ _ _ hv
     cases ts with
     | nil => cases f <;> simp [parV] at hv
     | cons t ts =>
       have hnk : n.s ∉ k := by
        intro hm
        have h1 := hc.1.1.2
        rw [List.any_eq_false] at h1
        exact h1 _ hm (by simp)
       refine ⟨f, n, col, t, ts, v, p', c, r', rfl, rfl, hc.1.1.1, hnk, hc.1.2, hc.2, hv, hb.1, hb.2.1, ?_⟩
       split at h
       ·cases h; exact .inl ⟨‹_›, rfl, rfl, rfl⟩
       ·rename_i h9
        split at h
        ·rename_i h4
         obtain ⟨x, hx, he⟩ := Option.map_eq_some_iff.1 h
         cases he
         exact .inr ⟨by simpa using h9, h4, x.1, rfl, hx⟩
        ·cases h
    ·cases h
   ·cases h
def knF (l : List ByteArray) (u : List UInt8) : Option Value := if u ∈ l.map (·.data.toList) then some (.bool true) else none
theorem knF_cons (l : List ByteArray) (n : ByteArray) : knF (n :: l) = fun u => if u = n.data.toList then some (.bool true) else knF l u := by
 funext u
 unfold knF
 by_cases h1 : u = n.data.toList
 ·subst h1; simp
 ·by_cases h2 : u ∈ l.map (·.data.toList)
  ·rw [if_neg h1, if_pos h2, if_pos (by rw [List.map_cons]; exact List.mem_cons_of_mem _ h2)]
  ·rw [if_neg h1, if_neg h2, if_neg (by rw [List.map_cons, List.mem_cons]; exact fun e => e.elim h1 h2)]
theorem knF_not {l : List ByteArray} {n : ByteArray} (h : n ∉ l) : knF l n.data.toList = none := by
 unfold knF
 rw [if_neg]
 intro hm
 obtain ⟨x, hx, e⟩ := List.mem_map.1 hm
 exact h (bytes_ext e ▸ hx)
theorem GrM.own {w : World} {base : Nat} {v : Value} {l : List (ByteArray × JV)} (h : GrM w base v l) : ∃ p n c, v = .slice p n c /\ n = l.length /\ ∀ k, v.ownBlock = some k -> base <= k /\ k < w.heap.size := by
 obtain ⟨rs, h1, h2, _⟩ := h.ex
 obtain ⟨p, c, hv, _, _⟩ := h1.len
 exact ⟨p, _, c, hv, by rw [h2], h1.lt⟩
theorem GrM.lower {w : World} {base b' : Nat} {v : Value} {m : List (ByteArray × JV)} (h : GrM w base v m) (hb : b' <= base) : GrM w b' v m := by
 obtain ⟨rs, h1, h2, h4, h3⟩ := h.ex
 exact ⟨rs, h1.mono hb, h2, h4, fun i t q a b => (h3 i t q a b).mono (fun k e => ⟨by omega, e.2⟩)⟩
theorem GrM.small {w w' : World} {base x : Nat} {v : Value} {m : List (ByteArray × JV)} (h : GrM w base v m) (hg : w.grownBy w' (some x)) (hs : Small w x) (hx : v.ownBlock ≠ some x) : GrM w' base v m := by
 obtain ⟨rs, h1, h2, h4, h3⟩ := h.ex
 have hz := hg.size
 have key : ∀ k, k < w.heap.size -> w'.heap[k]? = w.heap[k]? \/ Small w k := fun k hk => by
  by_cases e : k = x
  ·subst e; exact .inr hs
  ·exact .inl (hg.block k hk (fun e2 => by cases e2; exact e rfl))
 exact ⟨rs, h1.same (fun k e => hg.block k (h1.lt k e).2 (fun e2 => by cases e2; exact hx e)), h2, h4, fun i t q a b => ((h3 i t q a b).same' (fun k e => key k e.2.1)).mono (fun k e => ⟨e.1, by omega, e.2.2⟩)⟩
structure MSt (w W : World) (g mb base : Nat) (known : List ByteArray) (ts : List Tok) (en pa : Nat) (o : Value) (l : List (ByteArray × JV)) : Prop where
 rds : RdS W g ts en pa
 gr : GrM W base o l
 mp : MapF W Tryz.prog 9 mb known.length (knF known)
 gw : w.grownBy W (some g)
 lt : g < w.heap.size /\ w.heap.size <= mb /\ mb < base /\ base <= W.heap.size
section
variable {w W W' : World} {g mb base en pa : Nat} {known : List ByteArray} {ts : List Tok} {o : Value} {l : List (ByteArray × JV)} (h : MSt w W g mb base known ts en pa o l)
include h
theorem MSt.go {ts' : List Tok} {pa' : Nat} (hr : RdS W' g ts' en pa') (hg : W.grownBy W' (some g)) : MSt w W' g mb base known ts' en pa' o l := by
 have hl := h.lt
 exact ⟨hr, h.gr.out (fun k h1 h2 => hg.block k h2 (fun e => by cases e; omega)) hg.size, h.mp.kept hg (fun e => by cases e; omega), h.gw.trans hg, hl.1, hl.2.1, hl.2.2.1, Nat.le_trans hl.2.2.2 hg.size⟩
theorem MSt.call (hb : Below W.heap.size W W') : MSt w W' g mb base known ts en pa o l := h.go (h.rds.kept (hb.gbr none) (fun k e => by cases e)) (hb.gbr _)
theorem MSt.alloc (x : Obj) : MSt w (W.alloc x) g mb base known ts en pa o l := h.call ((Below.refl _ _).alloc (Nat.le_refl _) _)
theorem MSt.upd {n : ByteArray} (hm : MapF W' Tryz.prog 9 mb (known.length + 1) (fun u => if u = n.data.toList then some (.bool true) else knF known u)) (hg : W.grownBy W' (some mb)) : MSt w W' g mb base (n :: known) ts en pa o l := by
 have hl := h.lt
 exact ⟨h.rds.kept hg (fun k e => by cases e; omega), h.gr.out (fun k h1 h2 => hg.block k h2 (fun e => by cases e; omega)) hg.size, by rw [knF_cons]; exact hm, h.gw.own_row hg (fun k e => by cases e; omega), hl.1, hl.2.1, hl.2.2.1, Nat.le_trans hl.2.2.2 hg.size⟩
theorem MSt.tok {x : Nat} (hg : W.grownBy W' (some x)) (hs : Small W x) (hx : base <= x) (ho : o.ownBlock ≠ some x) : MSt w W' g mb base known ts en pa o l := by
 have hl := h.lt
 exact ⟨h.rds.kept hg (fun k e => by cases e; omega), h.gr.small hg hs ho, h.mp.kept hg (fun e => by cases e; omega), h.gw.own_row hg (fun k e => by cases e; omega), hl.1, hl.2.1, hl.2.2.1, Nat.le_trans hl.2.2.2 hg.size⟩
theorem MSt.app {o' : Value} {l' : List (ByteArray × JV)} {row : Option Nat} (hgr : GrM W' base o' l') (hg : W.grownBy W' row) (hrow : ∀ k, row = some k -> base <= k) : MSt w W' g mb base known ts en pa o' l' := by
 have hl := h.lt
 exact ⟨h.rds.kept hg (fun k e => by have := hrow k e; omega), hgr, h.mp.kept hg (fun e => by have := hrow _ e.symm; omega), h.gw.own_row hg (fun k e => by have := hrow k e; omega), hl.1, hl.2.1, hl.2.2.1, Nat.le_trans hl.2.2.2 hg.size⟩
end
theorem members_none (w : World) (g en pa deep : Nat) (c : Tok) (r : List Tok) (h : RdS w g (c :: r) en pa) (hc : isM c 125 = true) : Calls Tryz.prog 108 #[.pointer (some ⟨g, 0, none⟩), .int .i64 deep] w fun e w' => e = .returned (.slice none 0 0) /\ RdS w' g r en pa /\ w.grownBy w' (some g) := by
 have HP := Lib.hid (peek_any w g en pa c r 125 true h hc)
 have HN : Hid (∀ W, Below w.heap.size w W -> Calls Tryz.prog 79 #[.pointer (some ⟨g, 0, none⟩)] W (NxtRet W g c r en pa)) := fun W hb => next_any W g en pa c r (h.kept (hb.gbr none) (fun k e => by cases e))
 clear h hc
 go_enter Tryz.func108, Tryz.ntmps108
 go_wp2_with (first
  | (go_at_call 142; refine HP.out.mono ?_; rintro e w1 ⟨rfl, hb1⟩)
  | (go_at_call 79; refine (HN.out _ hb1).mono ?_; rintro e w2 ⟨rfl, hr2, hg2⟩))
 go_ret
 exact ⟨rfl, hr2, ((hb1.gbr none).keep_some hg2)⟩
def MemR (w : World) (g : Nat) (l : List (ByteArray × JV)) (ts : List Tok) (en pa : Nat) (e : Ending) (w' : World) : Prop := ∃ p n c, e = .returned (.slice p n c) /\ GrM w' w.heap.size (.slice p n c) l /\ RdS w' g ts en pa /\ w.grownBy w' (some g)
theorem members_some (N : Nat) (hV : PV N) (w : World) (g en pa deep f0 : Nat) (c : Tok) (r : List Tok) (l : List (ByteArray × JV)) (q : Nat) (rest : List Tok) (h : RdS w g (c :: r) en pa) (hd : deep <= 16) (hc : isM c 125 = false) (hf : f0 <= N) (hl : parM f0 deep pa [] (c :: r) = some (l, q, rest)) :
 Calls Tryz.prog 108 #[.pointer (some ⟨g, 0, none⟩), .int .i64 deep] w (MemR w g l rest en q) := by
 have hgl := h.lt
 have HP := Lib.hid (peek_any w g en pa c r 125 false h hc)
 have HL := Lib.hid hl
 have H0 := Lib.hid h
 have hd0 : (0 : Int) <= (deep : Int) := Int.natCast_nonneg _
 have hd1 : (deep : Int) <= 16 := by omega
 have HV : Hid (∀ f, f <= N -> ∀ (p : Nat) (t : Tok) (ts : List Tok) (v : JV) (q : Nat) (r : List Tok), parV f (deep + 1) p (t :: ts) = some (v, q, r) -> ∀ (w : World), RdS w g ts en p ->
  Calls Tryz.prog 78 #[.pointer (some ⟨g, 0, none⟩), t.val, .int .i64 ((deep : Int) + 1)] w (ValR w g v r en q)) := fun f hf p t ts v q r hp w hr => hV f hf (deep + 1) p t ts v q r hp w g en hr
 clear h hc hl hd hV
 go_enter Tryz.func108, Tryz.ntmps108
 go_upto_region 5 with (go_at_call 142; refine HP.out.mono ?_; rintro e w1 ⟨rfl, hb1⟩)
 have hM0 : MSt w (w1.alloc (.map #[] 0)) g w1.heap.size (w1.heap.size + 1) [] (c :: r) en pa (.slice none 0 0) [] :=
  ⟨(H0.out.kept (hb1.gbr none) (fun k e => by cases e)).kept (World.grownBy_alloc w1 _ none) (fun k e => by cases e), GrM.nil _ _, by have := MapF.made w1 Tryz.prog 9; exact this, (hb1.gbr (some g)).own_row (World.grownBy_alloc w1 _ none) (fun k e => by cases e), hgl, hb1.size, by omega, by simp⟩
 have hmm := @run_makeMap Tryz.prog
 go_wp2_with fail
 clear hmm
 have hb0 : w1.heap.size + 1 = (w1.alloc (.map #[] 0)).heap.size := by simp
 obtain ⟨W1, hW1⟩ : ∃ W, w1.alloc (.map #[] 0) = W := ⟨_, rfl⟩
 rw [hW1] at hM0 hb0
 try rw [hW1]
 clear hW1
 obtain ⟨mb, hmb⟩ : ∃ b, w1.heap.size = b := ⟨_, rfl⟩
 rw [hmb] at hM0 hb0
 try rw [hmb]
 have HM0 := Lib.hid hM0
 clear hM0 hmb hb0 hb1
 go_loopg [5] f0 (fun gk o wr => gk <= N /\ ∃ known ts1 pa1 l1 l2, Hid (parM gk deep pa1 known ts1 = some (l2, q, rest) /\ l = l1 ++ l2 /\ MSt w wr g mb (mb + 1) known ts1 en pa1 o l1 /\ l1.length <= pa1 /\ known.length <= pa1))
 case atStart => exact ⟨hf, [], c :: r, pa, [], l, HL.out, rfl, HM0.out, Nat.zero_le _, Nat.zero_le _⟩
 case round =>
  obtain ⟨hgk, known, ts1, pa1, l1, l2, hH⟩ := hrel
  obtain ⟨hpl, hll, hms, hlen, hkn⟩ := hH.out
  clear hH
  obtain ⟨f', n, col, t, ts', v, p', c1, r', rfl, rfl, hnk, hnot, hsz, hcol, hpv, hp1, hp2, hcase⟩ := parM_step hpl
  obtain ⟨po, no, co, rfl, hno, hlt⟩ := hms.gr.own
  have HNX : Hid (Calls Tryz.prog 79 #[.pointer (some ⟨g, 0, none⟩)] wr (NxtRet wr g n (col :: t :: ts') en pa1)) := next_any wr g en pa1 n _ hms.rds
  have HN2 : Hid (∀ W, RdS W g (col :: t :: ts') en pa1 -> Calls Tryz.prog 79 #[.pointer (some ⟨g, 0, none⟩)] W (NxtRet W g col (t :: ts') en pa1)) := fun W hr => next_any W g en pa1 col _ hr
  have HN3 : Hid (∀ W, RdS W g (t :: ts') en pa1 -> Calls Tryz.prog 79 #[.pointer (some ⟨g, 0, none⟩)] W (NxtRet W g t ts' en pa1)) := fun W hr => next_any W g en pa1 t _ hr
  have HN4 : Hid (∀ W, RdS W g (c1 :: r') en p' -> Calls Tryz.prog 79 #[.pointer (some ⟨g, 0, none⟩)] W (NxtRet W g c1 r' en p')) := fun W hr => next_any W g en p' c1 _ hr
  have HVA : Hid (∀ W, RdS W g ts' en pa1 -> Calls Tryz.prog 78 #[.pointer (some ⟨g, 0, none⟩), t.val, .int .i64 ((deep : Int) + 1)] W (ValR W g v (c1 :: r') en p')) := fun W hr => HV.out f' (by omega) pa1 t ts' v p' (c1 :: r') hpv W hr
  have HI1 : Hid (∀ W, Calls Tryz.prog 106 #[col.val, .string ⟨#[58]⟩] W fun e w' => e = .returned (.bool true) /\ Below W.heap.size W w') := fun W => is_any col 58 W true hcol
  have HLEN : Hid (l1.length < p' /\ p' <= 8192 /\ known.length < p') := ⟨by omega, hp2, by omega⟩
  have HCASE := Lib.hid hcase
  have HLL := Lib.hid hll
  have HMS := Lib.hid hms
  have HROW0 : Hid (∀ k, (Value.slice po no co).ownBlock = some k -> mb + 1 <= k /\ k < wr.heap.size) := hlt
  have HNO := Lib.hid hno
  have HNOT := Lib.hid hnot
  have HSZ := Lib.hid hsz
  clear hpl hpv hcase hll hno hlt hlen hp1 hp2 hms hnot hsz hcol hkn
  obtain ⟨nk, nn, nS, np⟩ := n
  obtain ⟨lk, ln, lS, lp⟩ := col
  obtain ⟨tk, tn, tS, tp⟩ := t
  obtain ⟨ck, cn, cS, cp⟩ := c1
  dsimp only [Tok.val, NxtRet] at *
  subst hnk
  go_upto_region 7 with (go_at_call 79; refine HNX.out.mono ?_; rintro e w2 ⟨rfl, hr2, hg2⟩)
  have hm2 := (HMS.out.go hr2 hg2).alloc (.cells #[.int .i64 4, .int .i64 nn, .string nS, .int .i64 np] 115)
  have hT2 : TokAt (w2.alloc (.cells #[.int .i64 4, .int .i64 nn, .string nS, .int .i64 np] 115)) w2.heap.size ⟨4, nn, nS, np⟩ := heap_alloc_at rfl
  have hge2 : mb + 1 <= w2.heap.size := Nat.le_trans HMS.out.lt.2.2.2 hg2.size
  have hsz2 : wr.heap.size <= w2.heap.size := hg2.size
  obtain ⟨b7, hb7⟩ : ∃ b, w2.heap.size = b := ⟨_, rfl⟩
  obtain ⟨w3, hw3⟩ : ∃ W, w2.alloc (.cells #[.int .i64 4, .int .i64 nn, .string nS, .int .i64 np] 115) = W := ⟨_, rfl⟩
  rw [hw3] at hm2 hT2
  rw [hb7] at hT2 hge2 hsz2
  try rw [hw3]
  try rw [hb7]
  clear hw3 hb7 hr2 hg2 HMS HNX
  have a0 := hT2.cell 0 rfl
  have a1 := hT2.cell 1 rfl
  have a2 := hT2.cell 2 rfl
  have a3 := hT2.cell 3 rfl
  have HM3 := Lib.hid hm2
  have HT3 := Lib.hid hT2
  have HGE := Lib.hid (show mb + 1 <= b7 /\ wr.heap.size <= b7 from ⟨hge2, hsz2⟩)
  have hlk : (knF known nS.data.toList).getD (.bool false) = .bool false := by rw [knF_not HNOT.out]; rfl
  have HLK := Lib.hid hlk
  clear hm2 hT2 hge2 hsz2 hlk
  go_upto_region 11 with (at_lookup; refine wpList_look_F _ rfl _ _ _ rfl 9 4 Tryz.underlying9 Tryz.underlying152 (Tryz.zeroValue4 _) _ _ (knF known) rfl HM3.out.mp nS rfl (by have := HSZ.out; unfold maxLen; omega) (v := .bool false) HLK.out ?_; go_frame)
  go_upto_region 12 with (at_mapUpdate; refine wpList_store_F _ rfl _ _ _ _ rfl 9 4 Tryz.underlying9 Tryz.underlying152 _ _ _ rfl HM3.out.mp (by have := HLEN.out; unfold maxLen; omega) nS rfl (by have := HSZ.out; unfold maxLen; omega) (.bool true) rfl ?_; intro w4 hM4 hG4; go_frame)
  have hm4 := HM3.out.upd hM4 hG4
  have hT4 := HT3.out.keep (hG4.block _ HT3.out.lt (by have := HGE.out; simp; omega))
  have HM4 := Lib.hid hm4
  have HT4 := Lib.hid hT4
  clear hm4 hT4 hM4 hG4 HM3 HT3 a0 a1 a2 a3
  go_upto_region 13 with (go_at_call 79; refine (HN2.out _ HM4.out.rds).mono ?_; rintro e w5 ⟨rfl, hr5, hg5⟩)
  have hT5 := HT4.out.keep (hg5.block b7 HT4.out.lt (by have := HGE.out; have := HM4.out.lt; simp; omega))
  have hT6 : TokAt (w5.alloc (.cells #[.int .i64 lk, .int .i64 ln, .string lS, .int .i64 lp] 115)) b7 ⟨4, nn, nS, np⟩ := hT5.keep (Below.heap_alloc _ _ _ hT5.lt)
  have hT8 : TokAt (w5.alloc (.cells #[.int .i64 lk, .int .i64 ln, .string lS, .int .i64 lp] 115)) w5.heap.size ⟨lk, ln, lS, lp⟩ := heap_alloc_at rfl
  have hm6 := (HM4.out.go hr5 hg5).alloc (.cells #[.int .i64 lk, .int .i64 ln, .string lS, .int .i64 lp] 115)
  obtain ⟨b8, hb8⟩ : ∃ b, w5.heap.size = b := ⟨_, rfl⟩
  obtain ⟨w6, hw6⟩ : ∃ W, w5.alloc (.cells #[.int .i64 lk, .int .i64 ln, .string lS, .int .i64 lp] 115) = W := ⟨_, rfl⟩
  rw [hw6] at hm6 hT6 hT8
  rw [hb8] at hT8
  try rw [hw6]
  try rw [hb8]
  clear hw6 hb8 hr5 hg5 hT5 HT4 HM4 HN2
  have a0 := hT8.cell 0 rfl
  have a1 := hT8.cell 1 rfl
  have a2 := hT8.cell 2 rfl
  have a3 := hT8.cell 3 rfl
  have HM6 := Lib.hid hm6
  have HT6 := Lib.hid hT6
  clear hm6 hT6 hT8
  go_upto_region 15 with (go_at_call 106; refine (HI1.out _).mono ?_; rintro e w7 ⟨rfl, hb7⟩)
  have HM7 := Lib.hid (HM6.out.call hb7)
  have HT7 := Lib.hid (HT6.out.keep (hb7.block _ HT6.out.lt))
  clear hb7 HM6 HT6 HI1 a0 a1 a2 a3
  go_upto_region 16 with (first
   | (go_at_call 79; refine (HN3.out _ HM7.out.rds).mono ?_; rintro e w8 ⟨rfl, hr8, hg8⟩)
   | (go_at_call 78; refine (HVA.out _ hr8).mono ?_; rintro e w9 ⟨rv, rfl, ht9, hr9, hg9⟩; obtain ⟨vk, vn, vs, vpl, vnl, vcl, vpm, vnm, vcm⟩ := rv))
  have hm8 := HM7.out.go hr8 hg8
  have hm9 := hm8.go hr9 hg9
  have hlt7 := HM7.out.lt
  have hT9 := (HT7.out.keep (hg8.block b7 HT7.out.lt (by have := HGE.out; simp; omega)))
  have hT10 := (hT9.keep (hg9.block b7 hT9.lt (by have := HGE.out; simp; omega)))
  have hT11 : TokAt (w9.alloc (.cells #[.int .i64 vk, .int .i64 vn, .string vs, .slice vpl vnl vcl, .slice vpm vnm vcm] 25)) b7 ⟨4, nn, nS, np⟩ := hT10.keep (Below.heap_alloc _ _ _ hT10.lt)
  have hV11 : VAt (w9.alloc (.cells #[.int .i64 vk, .int .i64 vn, .string vs, .slice vpl vnl vcl, .slice vpm vnm vcm] 25)) w9.heap.size ⟨vk, vn, vs, vpl, vnl, vcl, vpm, vnm, vcm⟩ := heap_alloc_at rfl
  have hm11 := hm9.alloc (.cells #[.int .i64 vk, .int .i64 vn, .string vs, .slice vpl vnl vcl, .slice vpm vnm vcm] 25)
  have hown := HM7.out.gr.own
  have ht11 : TreeS (w9.alloc (.cells #[.int .i64 vk, .int .i64 vn, .string vs, .slice vpl vnl vcl, .slice vpm vnm vcm] 25)) (fun k => mb + 1 <= k /\ k < (w9.alloc (.cells #[.int .i64 vk, .int .i64 vn, .string vs, .slice vpl vnl vcl, .slice vpm vnm vcm] 25)).heap.size /\ (Value.slice po no co).ownBlock ≠ some k) v ⟨vk, vn, vs, vpl, vnl, vcl, vpm, vnm, vcm⟩ :=
   (ht9.same (fun k hk => Below.heap_alloc _ _ k hk.2)).mono (fun k hk => ⟨by have := hk.1; have := hm8.lt; omega, by have := hk.2; simp; omega, fun e => by
    obtain ⟨_, _, _, hv, _, hlt⟩ := hown
    cases hv
    have := (hlt k e).2
    have := hk.1
    have := hg8.size
    omega⟩)
  have hrow : ∀ k, (Value.slice po no co).ownBlock = some k -> mb + 1 <= k /\ k < w7.heap.size := fun k e => by
   obtain ⟨_, _, _, hv, _, hlt⟩ := hown
   cases hv
   exact hlt k e
  have hb7lt : b7 < w7.heap.size := HT7.out.lt
  obtain ⟨b9, hb9⟩ : ∃ b, w9.heap.size = b := ⟨_, rfl⟩
  have hz9 : w7.heap.size <= b9 := by rw [<- hb9]; exact Nat.le_trans hg8.size hg9.size
  obtain ⟨w10, hw10⟩ : ∃ W, w9.alloc (.cells #[.int .i64 vk, .int .i64 vn, .string vs, .slice vpl vnl vcl, .slice vpm vnm vcm] 25) = W := ⟨_, rfl⟩
  rw [hw10] at hm11 hT11 hV11 ht11
  rw [hb9] at hV11
  try rw [hw10]
  try rw [hb9]
  clear hw10 hb9 hm8 hm9 hT9 hT10 hown ht9 hr8 hr9 hg8 hg9 HN3 HVA hlt7
  have a2 := hT11.cell 2 rfl
  obtain ⟨v0, v1, v2, v3, v4⟩ := hV11.cells5
  dsimp only at v0 v1 v2 v3 v4
  obtain ⟨rms, hO, hl3, hnm3, hT3⟩ := hm11.gr.ex
  have HL3 := Lib.hid hl3
  have HNM := Lib.hid hnm3
  have HTS := Lib.hid hT3
  have HM11 := Lib.hid hm11
  have HT11 := Lib.hid hT11
  have HT12 := Lib.hid ht11
  have HROW := Lib.hid hrow
  have HO := Lib.hid hO
  clear hm11 hT11 hV11 ht11 hrow hl3 hnm3 hT3 hO HT7 HM7
  go_upto_region 17 with (at_builtin; refine wpList_append_rd slM codecM (w10.alloc (.cells #[.string nS, .int .i64 vk, .int .i64 vn, .string vs, .slice vpl vnl vcl, .slice vpm vnm vcm] 32)) rfl (.tmp 44) (.tmp 49) rfl (v := .slice po no co) rfl rfl (HO.out.alloc _) (Rd.one (B := w10.heap.size + 1) (x := (⟨nS, ⟨vk, vn, vs, vpl, vnl, vcl, vpm, vnm, vcm⟩⟩ : RM)) codecM (heap_alloc_new _ _) rfl (by omega)) (by have := HLEN.out; have := HL3.out; simp only [List.length_singleton]; unfold maxLen; omega) (by have := HLEN.out; have := HL3.out; simp only [List.length_singleton]; omega) (by have := HM11.out.lt; simp; omega) ?_; intro v4 w12 ho4 hg4 hat4)
  have hgr4 : GrM w12 (mb + 1) v4 (l1 ++ [(nS, v)]) := by
   refine GrM.snoc HO.out HL3.out HNM.out HTS.out HT12.out ho4 ((World.grownBy_alloc _ _ _).trans hg4) (fun k e => ?_)
   rcases hat4 with h | h
   ·exact .inl (h ▸ e)
   ·rw [h] at e; cases e; exact .inr (by simp)
  have hne4 : v4.ownBlock ≠ some b7 := fun e => by
   rcases hat4 with h | h
   ·rw [h] at e; have := (HROW0.out _ e).2; have := HGE.out; omega
   ·rw [h] at e; injection e with e; have := HT11.out.lt; simp at e; omega
  have hm12 := (HM11.out.alloc (.cells #[.string nS, .int .i64 vk, .int .i64 vn, .string vs, .slice vpl vnl vcl, .slice vpm vnm vcm] 32)).app hgr4 hg4 (fun k e => (HROW0.out k e).1)
  have hT11a : TokAt (w10.alloc (.cells #[.string nS, .int .i64 vk, .int .i64 vn, .string vs, .slice vpl vnl vcl, .slice vpm vnm vcm] 32)) b7 ⟨4, nn, nS, np⟩ := HT11.out.keep (Below.heap_alloc _ _ _ HT11.out.lt)
  have hT12 := hT11a.keep (hg4.block b7 hT11a.lt (fun e => by have := (HROW0.out _ e.symm).2; have := HGE.out; omega))
  obtain ⟨p4, n4, c4, rfl, hn4, hlt4⟩ := hgr4.own
  have HM12 := Lib.hid hm12
  have HT13 := Lib.hid hT12
  have HNE := Lib.hid hne4
  clear hm12 hT12 hT11a hgr4 hg4 hat4 ho4 HO HT11 HT12 HTS HNM HM11 HL3 hn4 hlt4 hne4 v0 v1 v2 v3 v4 a2
  go_upto_region 18 with (go_at_call 79; refine (HN4.out _ HM12.out.rds).mono ?_; rintro e w13 ⟨rfl, hr13, hg13⟩; (have hT13 := HT13.out.keep (hg13.block b7 HT13.out.lt (by have := HGE.out; have := HM12.out.lt; simp; omega))); (have x0 := hT13.cell 0 rfl); (have x1 := hT13.cell 1 rfl); (have x2 := hT13.cell 2 rfl); (have x3 := hT13.cell 3 rfl); (have y0 := hT13.frozen 0); (have y1 := hT13.frozen 1); (have y2 := hT13.frozen 2); (have y3 := hT13.frozen 3))
  have hm13 := HM12.out.go hr13 hg13
  have hTf := hT13.stored ⟨ck, cn, cS, cp⟩
  have hgf := grownBy_setT w13 b7 ⟨ck, cn, cS, cp⟩
  have hmf := hm13.tok hgf hT13.small (by have := HGE.out; omega) HNE.out
  dsimp only at hTf hgf hmf
  obtain ⟨w14, hw14⟩ : ∃ W, (((w13.setCell ⟨b7, 0, none⟩ (.int .i64 ck)).setCell ⟨b7, 1, none⟩ (.int .i64 cn)).setCell ⟨b7, 2, none⟩ (.string cS)).setCell ⟨b7, 3, none⟩ (.int .i64 cp) = W := ⟨_, rfl⟩
  rw [hw14] at hTf hgf hmf
  try rw [hw14]
  clear hw14 hr13 hg13 hT13 x0 x1 x2 x3 y0 y1 y2 y3 hm13 hgf HM12 HT13 HN4
  have a0 := hTf.cell 0 rfl
  have a1 := hTf.cell 1 rfl
  have a2 := hTf.cell 2 rfl
  have a3 := hTf.cell 3 rfl
  have HMF := Lib.hid hmf
  have HTF := Lib.hid hTf
  clear hmf hTf
  have hcase := HCASE.out
  rcases hcase with ⟨hc1, hc2, hc3, hc4⟩ | ⟨hc1, hc2, l', hc3, hc4⟩
  ·have HI : Hid (∀ W, Calls Tryz.prog 106 #[.agg #[.int .i64 ck, .int .i64 cn, .string cS, .int .i64 cp], .string ⟨#[125]⟩] W fun e w' => e = .returned (.bool true) /\ Below W.heap.size W w') := fun W => is_any ⟨ck, cn, cS, cp⟩ 125 W true hc1
   have HC : Hid (l = l1 ++ [(nS, v)] /\ q = p' /\ rest = r') := ⟨by rw [HLL.out, hc2], hc3, hc4⟩
   clear hc1 hc2 hc3 hc4 HCASE
   go_wp2_with (go_at_call 106; refine (HI.out _).mono ?_; rintro e w15 ⟨rfl, hb15⟩)
   go_ret
   obtain ⟨e1, e2, e3⟩ := HC.out
   have hmz := HMF.out.call hb15
   rw [e1, e2, e3]
   exact ⟨p4, n4, c4, rfl, hmz.gr.lower (by have := hmz.lt; omega), hmz.rds, hmz.gw⟩
  ·have HI : Hid (∀ W, Calls Tryz.prog 106 #[.agg #[.int .i64 ck, .int .i64 cn, .string cS, .int .i64 cp], .string ⟨#[125]⟩] W fun e w' => e = .returned (.bool false) /\ Below W.heap.size W w') := fun W => is_any ⟨ck, cn, cS, cp⟩ 125 W false hc1
   have HJ : Hid (∀ W, Calls Tryz.prog 106 #[.agg #[.int .i64 ck, .int .i64 cn, .string cS, .int .i64 cp], .string ⟨#[44]⟩] W fun e w' => e = .returned (.bool true) /\ Below W.heap.size W w') := fun W => is_any ⟨ck, cn, cS, cp⟩ 44 W true hc2
   have HC : Hid (l = (l1 ++ [(nS, v)]) ++ l' /\ parM f' deep p' (nS :: known) r' = some (l', q, rest)) := ⟨by rw [HLL.out, hc3]; simp, hc4⟩
   clear hc1 hc2 hc3 hc4 HCASE
   go_upto_region 20 with (go_at_call 106; refine (HI.out _).mono ?_; rintro e w15 ⟨rfl, hb15⟩)
   have hT15 := HTF.out.keep (hb15.block _ HTF.out.lt)
   clear a0 a1 a2 a3
   have a0 := hT15.cell 0 rfl
   have a1 := hT15.cell 1 rfl
   have a2 := hT15.cell 2 rfl
   have a3 := hT15.cell 3 rfl
   go_wp2_with (go_at_call 106; refine (HJ.out _).mono ?_; rintro e w16 ⟨rfl, hb16⟩)
   go_roundg f'
   case measure => omega
   case rel =>
    exact ⟨by omega, nS :: known, r', p', l1 ++ [(nS, v)], l', HC.out.2, HC.out.1, (HMF.out.call hb15).call hb16, by have := HLEN.out; simp; omega, by have := HLEN.out; simp; omega⟩
theorem value_list (w : World) (g en pa deep : Nat) (t : Tok) (ts : List Tok) (l : List JV) (q : Nat) (rest : List Tok) (h : RdS w g ts en pa) (hd : deep <= 16) (hp : pa < 8192) (hk : t.kind = 1) (hs : t.s = ⟨#[91]⟩)
 (hL : ∀ W, RdS W g ts en (pa + 1) -> Calls Tryz.prog 107 #[.pointer (some ⟨g, 0, none⟩), .int .i64 deep] W (LstR W g l rest en q)) :
 Calls Tryz.prog 78 #[.pointer (some ⟨g, 0, none⟩), t.val, .int .i64 deep] w (ValR w g (.mk 5 0 ⟨#[]⟩ l []) rest en q) := by
 have hgl := h.lt
 have HLL := Lib.hid hL
 have hg0 := ((World.grownBy_alloc w t.obj none).trans (World.grownBy_alloc _ (.cells #[.int .i64 0, .int .i64 0, .string ⟨#[]⟩, .slice none 0 0, .slice none 0 0] 25) none)).trans (World.grownBy_alloc _ (.cells #[.int .i64 0, .int .i64 0, .string ⟨#[]⟩, .slice none 0 0, .slice none 0 0] 25) none)
 have hT0 : TokAt (((w.alloc t.obj).alloc (.cells #[.int .i64 0, .int .i64 0, .string ⟨#[]⟩, .slice none 0 0, .slice none 0 0] 25)).alloc (.cells #[.int .i64 0, .int .i64 0, .string ⟨#[]⟩, .slice none 0 0, .slice none 0 0] 25)) w.heap.size t := heap_alloc_lt (by simp; omega) (heap_alloc_lt (by simp) (heap_alloc_at rfl))
 have hV1 : VAt (((w.alloc t.obj).alloc (.cells #[.int .i64 0, .int .i64 0, .string ⟨#[]⟩, .slice none 0 0, .slice none 0 0] 25)).alloc (.cells #[.int .i64 0, .int .i64 0, .string ⟨#[]⟩, .slice none 0 0, .slice none 0 0] 25)) (w.heap.size + 1) RV.zero := heap_alloc_lt (by simp) (heap_alloc_at (by simp))
 have hV2 : VAt (((w.alloc t.obj).alloc (.cells #[.int .i64 0, .int .i64 0, .string ⟨#[]⟩, .slice none 0 0, .slice none 0 0] 25)).alloc (.cells #[.int .i64 0, .int .i64 0, .string ⟨#[]⟩, .slice none 0 0, .slice none 0 0] 25)) (w.heap.size + 1 + 1) RV.zero := heap_alloc_at (by simp)
 have hs0 : (((w.alloc t.obj).alloc (.cells #[.int .i64 0, .int .i64 0, .string ⟨#[]⟩, .slice none 0 0, .slice none 0 0] 25)).alloc (.cells #[.int .i64 0, .int .i64 0, .string ⟨#[]⟩, .slice none 0 0, .slice none 0 0] 25)).heap.size = w.heap.size + 3 := by simp
 have hR0 := h.kept hg0 (fun k e => by cases e)
 obtain ⟨tk, tn, tS, tp⟩ := t
 dsimp only [Tok.val, Tok.obj] at *
 subst hk
 subst hs
 have HI : Hid (∀ W, Calls Tryz.prog 106 #[.agg #[.int .i64 1, .int .i64 tn, .string ⟨#[91]⟩, .int .i64 tp], .string ⟨#[91]⟩] W fun e w' => e = .returned (.bool true) /\ Below W.heap.size W w') := fun W => is_any ⟨1, tn, ⟨#[91]⟩, tp⟩ 91 W true (by simp [isM])
 clear h hL
 have d1 : ¬ (16 < (deep : Int)) := by omega
 have d2 : ¬ (16 < deep) := by omega
 have d3 : (deep : Int) <= 16 := by omega
 go_enter Tryz.func78, Tryz.ntmps78
 go_upto_region 3 with fail
 obtain ⟨W0, hW0⟩ : ∃ W0, ((w.alloc (.cells #[.int .i64 1, .int .i64 tn, .string ⟨#[91]⟩, .int .i64 tp] 115)).alloc (.cells #[.int .i64 0, .int .i64 0, .string ⟨#[]⟩, .slice none 0 0, .slice none 0 0] 25)).alloc (.cells #[.int .i64 0, .int .i64 0, .string ⟨#[]⟩, .slice none 0 0, .slice none 0 0] 25) = W0 := ⟨_, rfl⟩
 rw [hW0] at hg0 hT0 hV1 hV2 hs0 hR0
 try rw [hW0]
 clear hW0
 have a0 := hT0.cell 0 rfl
 have a1 := hT0.cell 1 rfl
 have a2 := hT0.cell 2 rfl
 have a3 := hT0.cell 3 rfl
 have HG0 := Lib.hid hg0
 have HT0 := Lib.hid hT0
 have HV1 := Lib.hid hV1
 have HV2 := Lib.hid hV2
 have HR0 := Lib.hid hR0
 have HS0 := Lib.hid hs0
 clear hg0 hT0 hV1 hV2 hR0 hs0
 go_upto_region 14 with (go_at_call 106; refine (HI.out _).mono ?_; rintro e W1 ⟨rfl, hb1⟩)
 have HB1 := Lib.hid hb1
 clear hb1
 have HVC := Lib.hid (HV2.out.keep (HB1.out.block _ HV2.out.lt))
 have HV1C := Lib.hid (HV1.out.keep (HB1.out.block _ HV1.out.lt))
 have HRC := Lib.hid (HR0.out.kept (HB1.out.gbr none) (fun k e => by cases e))
 have HGC := Lib.hid (HG0.out.trans (HB1.out.gbr none))
 have HSC : Hid (w.heap.size + 3 <= W1.heap.size) := by have := HB1.out.size; have := HS0.out; unfold Hid; omega
 clear a0 a1 a2 a3 HV2 HV1 HR0 HG0
 have hV2 := HVC.out
 obtain ⟨v0, v1, v2, v3, v4⟩ := hV2.cells5
 have y0 := hV2.frozen 0
 have y1 := hV2.frozen 1
 have y2 := hV2.frozen 2
 have y3 := hV2.frozen 3
 have y4 := hV2.frozen 4
 dsimp only [RV.zero] at v0 v1 v2 v3 v4
 go_upto_region 17 with fail
 have hv := hV2.setK 5
 have hg := grownBy_set W1 (w.heap.size + 1 + 1) 0 (.int .i64 5)
 have hs1 := HSC.out
 have hv1 := HV1C.out.keep (hg.block _ HV1C.out.lt (by simp))
 have hr := HRC.out.kept hg (fun k e => by cases e; omega)
 have hgw := HGC.out.new_row hg (by omega)
 have hz2 : (W1.setCell ⟨w.heap.size + 1 + 1, 0, none⟩ (.int .i64 5)).heap.size = W1.heap.size := by simp
 dsimp only [RV.zero] at hv
 obtain ⟨W2, hW2⟩ : ∃ W, W1.setCell ⟨w.heap.size + 1 + 1, 0, none⟩ (.int .i64 5) = W := ⟨_, rfl⟩
 rw [hW2] at hv hv1 hr hgw hz2
 try rw [hW2]
 clear hW2 v0 v1 v2 v3 v4 y0 y1 y2 y3 y4 hV2 hg HVC HV1C HRC HGC
 obtain ⟨p0, nn0, c0, hrd, hrl⟩ := hr.ex
 have c2 := hrd.cell 2 rfl
 have z2 := hrd.frozen 2
 have hgx := grownBy_set W2 g 2 (.int .i64 ((pa : Int) + 1))
 have hR3 : RdS (W2.setCell ⟨g, 2, none⟩ (.int .i64 ((pa : Int) + 1))) g ts en (pa + 1) := ⟨p0, nn0, c0, hrd.set2' _ _ (by omega), hrl.below (below_of hgx (by have := hrd.lt; omega) (fun k e => by cases e; exact Nat.le_refl _)) (Nat.le_refl _)⟩
 have hV3 := hv1.keep (hgx.block _ hv1.lt (by simp; omega))
 have hV4 := hv.keep (hgx.block _ hv.lt (by simp; omega))
 have hG3 := hgw.keep_some hgx
 have hz3 : w.heap.size + 3 <= (W2.setCell ⟨g, 2, none⟩ (.int .i64 ((pa : Int) + 1))).heap.size := by simp; omega
 go_upto_region 20 with fail
 have c3 := hR3.cell2
 obtain ⟨W3, hW3⟩ : ∃ W, W2.setCell ⟨g, 2, none⟩ (.int .i64 ((pa : Int) + 1)) = W := ⟨_, rfl⟩
 rw [hW3] at hR3 hV3 hV4 hG3 c3 hz3
 try rw [hW3]
 clear hW3 c2 z2 hgx hrd hrl hv hv1 hr hgw hz2
 obtain ⟨v0, v1, v2, v3, v4⟩ := hV4.cells5
 have HR3 := Lib.hid hR3
 have HV3 := Lib.hid hV3
 have HV4 := Lib.hid hV4
 have HG3 := Lib.hid hG3
 have HZ3 := Lib.hid hz3
 clear hR3 hV3 hV4 hG3 hz3
 go_upto_region 27 with (go_at_call 107; refine (HLL.out _ HR3.out).mono ?_; rintro e w5 ⟨p5, n5, c5, rfl, hgr5, hr5, hg5⟩; (have hV5 := HV4.out.keep (hg5.block (w.heap.size + 1 + 1) HV4.out.lt (by simp; omega))); (obtain ⟨u0, u1, u2, u3, u4⟩ := hV5.cells5); (have y0 := hV5.frozen 0); (have y1 := hV5.frozen 1); (have y2 := hV5.frozen 2); (have y3 := hV5.frozen 3); (have y4 := hV5.frozen 4))
 have hv6 := hV5.setLs p5 n5 c5
 have hg6 := grownBy_set w5 (w.heap.size + 1 + 1) 3 (.slice p5 n5 c5)
 have hv7 := (HV3.out.keep (hg5.block _ HV3.out.lt (by simp; omega))).keep (hg6.block (w.heap.size + 1) (Nat.lt_of_lt_of_le HV3.out.lt hg5.size) (by simp))
 have hr6 := hr5.kept hg6 (fun k e => by cases e; omega)
 have hgw6 := (HG3.out.trans hg5).new_row hg6 (by omega)
 have ht5 := hgr5.whole
 have ht6 := ht5.same (w' := w5.setCell ⟨w.heap.size + 1 + 1, 3, none⟩ (.slice p5 n5 c5)) (fun k hk => hg6.block k hk.2 (fun e => by have := hk.1; have := HZ3.out; cases e; omega))
 have hz6 : (w5.setCell ⟨w.heap.size + 1 + 1, 3, none⟩ (.slice p5 n5 c5)).heap.size = w5.heap.size := by simp
 obtain ⟨W6, hW6⟩ : ∃ W, w5.setCell ⟨w.heap.size + 1 + 1, 3, none⟩ (.slice p5 n5 c5) = W := ⟨_, rfl⟩
 rw [hW6] at hv6 hv7 hr6 hgw6 ht6 hz6
 try rw [hW6]
 dsimp only at hv6
 clear hW6 v0 v1 v2 v3 v4 u0 u1 u2 u3 u4 y0 y1 y2 y3 y4 c3 hg6 hV5 ht5
 obtain ⟨v0, v1, v2, v3, v4⟩ := hv6.cells5
 obtain ⟨z0, z1, z2, z3, z4⟩ := hv7.cells5
 have y0 := hv7.frozen 0
 have y1 := hv7.frozen 1
 have y2 := hv7.frozen 2
 have y3 := hv7.frozen 3
 have y4 := hv7.frozen 4
 dsimp only [RV.zero] at v0 v1 v2 v3 v4 z0 z1 z2 z3 z4
 have HR6 := Lib.hid hr6
 have HG6 := Lib.hid hgw6
 have HT6 := Lib.hid ht6
 have HZ6 := Lib.hid hz6
 have HGX := Lib.hid hg5.size
 clear hr6 hgw6 ht6 hv6 hv7 hgr5 hr5 hg5 hz6
 go_wp2_with fail
 have hg7 := grownBy_set5 W6 (w.heap.size + 1) (⟨5, 0, ⟨#[]⟩, p5, n5, c5, none, 0, 0⟩ : RV)
 have hz7 := hg7.size
 refine bodyPost_ret (v := RV.val ⟨5, 0, ⟨#[]⟩, p5, n5, c5, none, 0, 0⟩) (by simp [results, Tryz.results78, go_sem, z0, z1, z2, z3, z4]) rfl ⟨⟨5, 0, ⟨#[]⟩, p5, n5, c5, none, 0, 0⟩, rfl, ?_, HR6.out.kept hg7 (fun k e => by cases e; omega), HG6.out.new_row hg7 (by omega)⟩
 refine (HT6.out.same (fun k hk => hg7.block k (by have := HZ6.out; omega) (fun e => by have := hk.1; have := HZ3.out; cases e; omega))).mono (fun k hk => ⟨by have := hk.1; have := HZ3.out; omega, ?_⟩)
 exact Nat.lt_of_lt_of_le (show k < W6.heap.size by have := hk.2; have := HZ6.out; omega) hz7
theorem value_map (w : World) (g en pa deep : Nat) (t : Tok) (ts : List Tok) (l : List (ByteArray × JV)) (q : Nat) (rest : List Tok) (h : RdS w g ts en pa) (hd : deep <= 16) (hp : pa < 8192) (hk : t.kind = 1) (hs : t.s = ⟨#[123]⟩)
 (hL : ∀ W, RdS W g ts en (pa + 1) -> Calls Tryz.prog 108 #[.pointer (some ⟨g, 0, none⟩), .int .i64 deep] W (MemR W g l rest en q)) :
 Calls Tryz.prog 78 #[.pointer (some ⟨g, 0, none⟩), t.val, .int .i64 deep] w (ValR w g (.mk 6 0 ⟨#[]⟩ [] l) rest en q) := by
 have hgl := h.lt
 have HLL := Lib.hid hL
 have hg0 := ((World.grownBy_alloc w t.obj none).trans (World.grownBy_alloc _ (.cells #[.int .i64 0, .int .i64 0, .string ⟨#[]⟩, .slice none 0 0, .slice none 0 0] 25) none)).trans (World.grownBy_alloc _ (.cells #[.int .i64 0, .int .i64 0, .string ⟨#[]⟩, .slice none 0 0, .slice none 0 0] 25) none)
 have hT0 : TokAt (((w.alloc t.obj).alloc (.cells #[.int .i64 0, .int .i64 0, .string ⟨#[]⟩, .slice none 0 0, .slice none 0 0] 25)).alloc (.cells #[.int .i64 0, .int .i64 0, .string ⟨#[]⟩, .slice none 0 0, .slice none 0 0] 25)) w.heap.size t := heap_alloc_lt (by simp; omega) (heap_alloc_lt (by simp) (heap_alloc_at rfl))
 have hV1 : VAt (((w.alloc t.obj).alloc (.cells #[.int .i64 0, .int .i64 0, .string ⟨#[]⟩, .slice none 0 0, .slice none 0 0] 25)).alloc (.cells #[.int .i64 0, .int .i64 0, .string ⟨#[]⟩, .slice none 0 0, .slice none 0 0] 25)) (w.heap.size + 1) RV.zero := heap_alloc_lt (by simp) (heap_alloc_at (by simp))
 have hV2 : VAt (((w.alloc t.obj).alloc (.cells #[.int .i64 0, .int .i64 0, .string ⟨#[]⟩, .slice none 0 0, .slice none 0 0] 25)).alloc (.cells #[.int .i64 0, .int .i64 0, .string ⟨#[]⟩, .slice none 0 0, .slice none 0 0] 25)) (w.heap.size + 1 + 1) RV.zero := heap_alloc_at (by simp)
 have hs0 : (((w.alloc t.obj).alloc (.cells #[.int .i64 0, .int .i64 0, .string ⟨#[]⟩, .slice none 0 0, .slice none 0 0] 25)).alloc (.cells #[.int .i64 0, .int .i64 0, .string ⟨#[]⟩, .slice none 0 0, .slice none 0 0] 25)).heap.size = w.heap.size + 3 := by simp
 have hR0 := h.kept hg0 (fun k e => by cases e)
 obtain ⟨tk, tn, tS, tp⟩ := t
 dsimp only [Tok.val, Tok.obj] at *
 subst hk
 subst hs
 have HI : Hid (∀ W, Calls Tryz.prog 106 #[.agg #[.int .i64 1, .int .i64 tn, .string ⟨#[123]⟩, .int .i64 tp], .string ⟨#[91]⟩] W fun e w' => e = .returned (.bool false) /\ Below W.heap.size W w') := fun W => is_any ⟨1, tn, ⟨#[123]⟩, tp⟩ 91 W false (by simp [isM])
 have HJ : Hid (∀ W, Calls Tryz.prog 106 #[.agg #[.int .i64 1, .int .i64 tn, .string ⟨#[123]⟩, .int .i64 tp], .string ⟨#[123]⟩] W fun e w' => e = .returned (.bool true) /\ Below W.heap.size W w') := fun W => is_any ⟨1, tn, ⟨#[123]⟩, tp⟩ 123 W true (by simp [isM])
 clear h hL
 have d1 : ¬ (16 < (deep : Int)) := by omega
 have d2 : ¬ (16 < deep) := by omega
 have d3 : (deep : Int) <= 16 := by omega
 go_enter Tryz.func78, Tryz.ntmps78
 go_upto_region 3 with fail
 obtain ⟨W0, hW0⟩ : ∃ W0, ((w.alloc (.cells #[.int .i64 1, .int .i64 tn, .string ⟨#[123]⟩, .int .i64 tp] 115)).alloc (.cells #[.int .i64 0, .int .i64 0, .string ⟨#[]⟩, .slice none 0 0, .slice none 0 0] 25)).alloc (.cells #[.int .i64 0, .int .i64 0, .string ⟨#[]⟩, .slice none 0 0, .slice none 0 0] 25) = W0 := ⟨_, rfl⟩
 rw [hW0] at hg0 hT0 hV1 hV2 hs0 hR0
 try rw [hW0]
 clear hW0
 have a0 := hT0.cell 0 rfl
 have a1 := hT0.cell 1 rfl
 have a2 := hT0.cell 2 rfl
 have a3 := hT0.cell 3 rfl
 have HG0 := Lib.hid hg0
 have HT0 := Lib.hid hT0
 have HV1 := Lib.hid hV1
 have HV2 := Lib.hid hV2
 have HR0 := Lib.hid hR0
 have HS0 := Lib.hid hs0
 clear hg0 hT0 hV1 hV2 hR0 hs0
 go_upto_region 15 with (go_at_call 106; refine (HI.out _).mono ?_; rintro e Wa ⟨rfl, hb1⟩)
 have hTa := HT0.out.keep (hb1.block _ HT0.out.lt)
 clear a0 a1 a2 a3
 have a0 := hTa.cell 0 rfl
 have a1 := hTa.cell 1 rfl
 have a2 := hTa.cell 2 rfl
 have a3 := hTa.cell 3 rfl
 have HB0 := Lib.hid hb1
 clear hb1 hTa
 go_upto_region 16 with (go_at_call 106; refine (HJ.out _).mono ?_; rintro e W1 ⟨rfl, hb1⟩)
 have HB1 : Hid (Below W0.heap.size W0 W1) := HB0.out.trans (hb1.mono HB0.out.size)
 clear hb1 HB0
 have HVC := Lib.hid (HV2.out.keep (HB1.out.block _ HV2.out.lt))
 have HV1C := Lib.hid (HV1.out.keep (HB1.out.block _ HV1.out.lt))
 have HRC := Lib.hid (HR0.out.kept (HB1.out.gbr none) (fun k e => by cases e))
 have HGC := Lib.hid (HG0.out.trans (HB1.out.gbr none))
 have HSC : Hid (w.heap.size + 3 <= W1.heap.size) := by have := HB1.out.size; have := HS0.out; unfold Hid; omega
 clear a0 a1 a2 a3 HV2 HV1 HR0 HG0
 have hV2 := HVC.out
 obtain ⟨v0, v1, v2, v3, v4⟩ := hV2.cells5
 have y0 := hV2.frozen 0
 have y1 := hV2.frozen 1
 have y2 := hV2.frozen 2
 have y3 := hV2.frozen 3
 have y4 := hV2.frozen 4
 dsimp only [RV.zero] at v0 v1 v2 v3 v4
 go_upto_region 17 with fail
 have hv := hV2.setK 6
 have hg := grownBy_set W1 (w.heap.size + 1 + 1) 0 (.int .i64 6)
 have hs1 := HSC.out
 have hv1 := HV1C.out.keep (hg.block _ HV1C.out.lt (by simp))
 have hr := HRC.out.kept hg (fun k e => by cases e; omega)
 have hgw := HGC.out.new_row hg (by omega)
 have hz2 : (W1.setCell ⟨w.heap.size + 1 + 1, 0, none⟩ (.int .i64 6)).heap.size = W1.heap.size := by simp
 dsimp only [RV.zero] at hv
 obtain ⟨W2, hW2⟩ : ∃ W, W1.setCell ⟨w.heap.size + 1 + 1, 0, none⟩ (.int .i64 6) = W := ⟨_, rfl⟩
 rw [hW2] at hv hv1 hr hgw hz2
 try rw [hW2]
 clear hW2 v0 v1 v2 v3 v4 y0 y1 y2 y3 y4 hV2 hg HVC HV1C HRC HGC
 obtain ⟨p0, nn0, c0, hrd, hrl⟩ := hr.ex
 have c2 := hrd.cell 2 rfl
 have z2 := hrd.frozen 2
 have hgx := grownBy_set W2 g 2 (.int .i64 ((pa : Int) + 1))
 have hR3 : RdS (W2.setCell ⟨g, 2, none⟩ (.int .i64 ((pa : Int) + 1))) g ts en (pa + 1) := ⟨p0, nn0, c0, hrd.set2' _ _ (by omega), hrl.below (below_of hgx (by have := hrd.lt; omega) (fun k e => by cases e; exact Nat.le_refl _)) (Nat.le_refl _)⟩
 have hV3 := hv1.keep (hgx.block _ hv1.lt (by simp; omega))
 have hV4 := hv.keep (hgx.block _ hv.lt (by simp; omega))
 have hG3 := hgw.keep_some hgx
 have hz3 : w.heap.size + 3 <= (W2.setCell ⟨g, 2, none⟩ (.int .i64 ((pa : Int) + 1))).heap.size := by simp; omega
 go_upto_region 20 with fail
 have c3 := hR3.cell2
 obtain ⟨W3, hW3⟩ : ∃ W, W2.setCell ⟨g, 2, none⟩ (.int .i64 ((pa : Int) + 1)) = W := ⟨_, rfl⟩
 rw [hW3] at hR3 hV3 hV4 hG3 c3 hz3
 try rw [hW3]
 clear hW3 c2 z2 hgx hrd hrl hv hv1 hr hgw hz2
 obtain ⟨v0, v1, v2, v3, v4⟩ := hV4.cells5
 have HR3 := Lib.hid hR3
 have HV3 := Lib.hid hV3
 have HV4 := Lib.hid hV4
 have HG3 := Lib.hid hG3
 have HZ3 := Lib.hid hz3
 clear hR3 hV3 hV4 hG3 hz3
 go_upto_region 27 with (go_at_call 108; refine (HLL.out _ HR3.out).mono ?_; rintro e w5 ⟨p5, n5, c5, rfl, hgr5, hr5, hg5⟩; (have hV5 := HV4.out.keep (hg5.block (w.heap.size + 1 + 1) HV4.out.lt (by simp; omega))); (obtain ⟨u0, u1, u2, u3, u4⟩ := hV5.cells5); (have y0 := hV5.frozen 0); (have y1 := hV5.frozen 1); (have y2 := hV5.frozen 2); (have y3 := hV5.frozen 3); (have y4 := hV5.frozen 4))
 have hv6 := hV5.setMs p5 n5 c5
 have hg6 := grownBy_set w5 (w.heap.size + 1 + 1) 4 (.slice p5 n5 c5)
 have hv7 := (HV3.out.keep (hg5.block _ HV3.out.lt (by simp; omega))).keep (hg6.block (w.heap.size + 1) (Nat.lt_of_lt_of_le HV3.out.lt hg5.size) (by simp))
 have hr6 := hr5.kept hg6 (fun k e => by cases e; omega)
 have hgw6 := (HG3.out.trans hg5).new_row hg6 (by omega)
 have ht5 := hgr5.whole
 have ht6 := ht5.same (w' := w5.setCell ⟨w.heap.size + 1 + 1, 4, none⟩ (.slice p5 n5 c5)) (fun k hk => hg6.block k hk.2 (fun e => by have := hk.1; have := HZ3.out; cases e; omega))
 have hz6 : (w5.setCell ⟨w.heap.size + 1 + 1, 4, none⟩ (.slice p5 n5 c5)).heap.size = w5.heap.size := by simp
 obtain ⟨W6, hW6⟩ : ∃ W, w5.setCell ⟨w.heap.size + 1 + 1, 4, none⟩ (.slice p5 n5 c5) = W := ⟨_, rfl⟩
 rw [hW6] at hv6 hv7 hr6 hgw6 ht6 hz6
 try rw [hW6]
 dsimp only at hv6
 clear hW6 v0 v1 v2 v3 v4 u0 u1 u2 u3 u4 y0 y1 y2 y3 y4 c3 hg6 hV5 ht5
 obtain ⟨v0, v1, v2, v3, v4⟩ := hv6.cells5
 obtain ⟨z0, z1, z2, z3, z4⟩ := hv7.cells5
 have y0 := hv7.frozen 0
 have y1 := hv7.frozen 1
 have y2 := hv7.frozen 2
 have y3 := hv7.frozen 3
 have y4 := hv7.frozen 4
 dsimp only [RV.zero] at v0 v1 v2 v3 v4 z0 z1 z2 z3 z4
 have HR6 := Lib.hid hr6
 have HG6 := Lib.hid hgw6
 have HT6 := Lib.hid ht6
 have HZ6 := Lib.hid hz6
 have HGX := Lib.hid hg5.size
 clear hr6 hgw6 ht6 hv6 hv7 hgr5 hr5 hg5 hz6
 go_wp2_with fail
 have hg7 := grownBy_set5 W6 (w.heap.size + 1) (⟨6, 0, ⟨#[]⟩, none, 0, 0, p5, n5, c5⟩ : RV)
 have hz7 := hg7.size
 refine bodyPost_ret (v := RV.val ⟨6, 0, ⟨#[]⟩, none, 0, 0, p5, n5, c5⟩) (by simp [results, Tryz.results78, go_sem, z0, z1, z2, z3, z4]) rfl ⟨⟨6, 0, ⟨#[]⟩, none, 0, 0, p5, n5, c5⟩, rfl, ?_, HR6.out.kept hg7 (fun k e => by cases e; omega), HG6.out.new_row hg7 (by omega)⟩
 refine (HT6.out.same (fun k hk => hg7.block k (by have := HZ6.out; omega) (fun e => by have := hk.1; have := HZ3.out; cases e; omega))).mono (fun k hk => ⟨by have := hk.1; have := HZ3.out; omega, ?_⟩)
 exact Nat.lt_of_lt_of_le (show k < W6.heap.size by have := hk.2; have := HZ6.out; omega) hz7
theorem isM_mark {t : Tok} {c : UInt8} (h : isM t c = true) : t.kind = 1 /\ t.s = ⟨#[c]⟩ := by
 unfold isM at h
 rw [Bool.and_eq_true, decide_eq_true_eq, decide_eq_true_eq] at h
 exact h
theorem value_all : ∀ N, PV N
 | 0 => fun f hf d p t ts v q r h => by
   obtain rfl : f = 0 := by omega
   simp [parV] at h
 | N + 1 => by
   have ih := value_all N
   intro f hf d p t ts v q r h w g en hr
   cases f with
   | zero => simp [parV] at h
   | succ f =>
     have hb := (par_bd (f + 1)).1 _ _ _ _ _ _ h
     unfold parV at h
     split at h
     ·cases h
     ·rename_i hc
      have hp : p < 8192 := by omega
      have leaf : ∀ v', leafOf t = some v' -> Calls Tryz.prog 78 #[.pointer (some ⟨g, 0, none⟩), t.val, .int .i64 d] w (ValR w g v' ts en (p + 1)) := fun v' hv => value_leaf w g en p d t ts v' hr hb.2.2 hp hv
      split at h
      ·rename_i h4
       cases h
       exact leaf _ (by unfold leafOf; rw [if_pos h4])
      ·rename_i h4
       split at h
       ·rename_i h2
        split at h
        ·rename_i h5; cases h; exact leaf _ (by unfold leafOf; rw [if_neg h4, if_pos h2, if_pos h5])
        ·rename_i h5
         split at h
         ·rename_i h6; cases h; exact leaf _ (by unfold leafOf; rw [if_neg h4, if_pos h2, if_neg h5, if_pos h6])
         ·rename_i h6; cases h; exact leaf _ (by unfold leafOf; rw [if_neg h4, if_pos h2, if_neg h5, if_neg h6])
       ·split at h
        ·rename_i h2 h91
         have hm := isM_mark h91
         cases ts with
         | nil => cases h
         | cons c r' =>
           dsimp only at h
           split at h
           ·rename_i h93
            cases h
            exact value_list w g en p d t (c :: _) [] _ _ hr hb.2.2 hp hm.1 hm.2 (fun W hW => list_none W g en (p + 1) d c _ hW h93)
           ·rename_i h93
            obtain ⟨x, hx, he⟩ := Option.map_eq_some_iff.1 h
            cases he
            exact value_list w g en p d t (c :: r') x.1 _ _ hr hb.2.2 hp hm.1 hm.2 (fun W hW => list_some N ih W g en (p + 1) d f c r' x.1 _ _ hW hb.2.2 (by simpa using h93) (by omega) hx)
        ·split at h
         ·rename_i h2 h91 h123
          have hm := isM_mark h123
          cases ts with
          | nil => cases h
          | cons c r' =>
            dsimp only at h
            split at h
            ·rename_i h93
             cases h
             exact value_map w g en p d t (c :: _) [] _ _ hr hb.2.2 hp hm.1 hm.2 (fun W hW => (members_none W g en (p + 1) d c _ hW h93).mono (fun e w' hh => ⟨none, 0, 0, hh.1, GrM.nil _ _, hh.2.1, hh.2.2⟩))
            ·rename_i h93
             obtain ⟨x, hx, he⟩ := Option.map_eq_some_iff.1 h
             cases he
             exact value_map w g en p d t (c :: r') x.1 _ _ hr hb.2.2 hp hm.1 hm.2 (fun W hW => members_some N ih W g en (p + 1) d f c r' x.1 _ _ hW hb.2.2 (by simpa using h93) (by omega) hx)
         ·split at h
          ·rename_i h7 h8 h9 h3
           cases h
           exact leaf _ (by unfold leafOf; rw [if_neg h4, if_neg (by rw [h3]; decide), if_pos h3])
          ·cases h
theorem scpart_any (c : UInt8) (w : World) : Calls Tryz.prog 158 #[.int .u8 c.toNat] w fun e w' => e = .returned (.bool (partCh c)) /\ w' = w := by
 have h0 : (0 : Int) <= (c.toNat : Int) := Int.natCast_nonneg _
 by_cases a1 : 97 <= c.toNat <;> by_cases a2 : c.toNat <= 122 <;> by_cases a3 : 65 <= c.toNat <;> by_cases a4 : c.toNat <= 90 <;> by_cases a5 : 48 <= c.toNat <;> by_cases a6 : c.toNat <= 57 <;> by_cases a7 : c.toNat = 95
 all_goals first | (exfalso; omega) | skip
 all_goals
  have hp : Hid (partCh c = (decide (97 <= c.toNat) && decide (c.toNat <= 122) || decide (65 <= c.toNat) && decide (c.toNat <= 90) || decide (48 <= c.toNat) && decide (c.toNat <= 57) || decide (c.toNat = 95))) := rfl
  go_enter Tryz.func158, Tryz.ntmps158
  go_wp2_with fail
  go_ret
  refine ⟨?_, rfl⟩
  rw [hp.out]
  simp [a1, a2, a3, a4, a5, a6, a7] <;> omega
theorem ext_all (s : ByteArray) (i : Nat) : (s.extract i s.size).data.toList = s.data.toList.drop i := by
 rw [ext_list]
 exact List.take_of_length_le (by rw [List.length_drop, str_len]; omega)
theorem ScS.now {w W : World} {g i : Nat} {s : ByteArray} {l : List Tok} (h : ScS w W g s i l) (n : Nat) : ScS (W.drewN n) (W.drewN n) g s i l := by
 obtain ⟨v, h1, h2⟩ := h.ex
 exact ⟨⟨v, h1, h2.same (fun _ _ => rfl)⟩, Below.refl _ _⟩
theorem word_split {s wd : ByteArray} {i : Nat} (h : wordAt s i wd = true) : ∃ r, s.data.toList.drop i = wd.data.toList ++ r := by
 unfold wordAt at h
 rw [Bool.and_eq_true, decide_eq_true_eq] at h
 refine ⟨(s.data.toList.drop i).drop wd.size, ?_⟩
 conv => lhs; rw [<- List.take_append_drop wd.size (s.data.toList.drop i)]
 rw [h.1]
theorem word_any (w : World) (g i : Nat) (s wd : ByteArray) (l : List Tok) (hS : ScS w w g s i l) (hl : l.length <= 65536) (hs : s.size <= 65536) (hi : i < s.size) (hw : wd = wTrue \/ wd = wFalse \/ wd = wNull) (ha : wordAt s i wd = true) :
 Calls Tryz.prog 141 #[.pointer (some ⟨g, 0, none⟩)] w fun e w' => e = .returned (.bool true) /\ ScS w w' g s (i + wd.size) (l ++ [⟨2, 0, wd, i⟩]) := by
 obtain ⟨r, hr⟩ := word_split ha
 have hend : i + wd.size = s.size \/ (i + wd.size < s.size /\ partCh s[i + wd.size]! = false) := by
  unfold wordAt at ha
  rw [Bool.and_eq_true, Bool.or_eq_true, decide_eq_true_eq, Bool.and_eq_true, decide_eq_true_eq] at ha
  rcases ha.2 with h | h
  ·exact .inl h
  ·exact .inr ⟨of_decide_eq_true h.1, by simpa using h.2⟩
 obtain ⟨⟨v, h1, h2⟩, h3⟩ := hS
 have hgl := h1.lt
 have hA : Below w.heap.size w (w.alloc (.cells #[.string ⟨#[116, 114, 117, 101]⟩, .string ⟨#[102, 97, 108, 115, 101]⟩, .string ⟨#[110, 117, 108, 108]⟩] 9)) := (Below.refl _ _).alloc (Nat.le_refl _) _
 have hB : (w.alloc (.cells #[.string ⟨#[116, 114, 117, 101]⟩, .string ⟨#[102, 97, 108, 115, 101]⟩, .string ⟨#[110, 117, 108, 108]⟩] 9)).heap[w.heap.size]? = some (.cells #[.string ⟨#[116, 114, 117, 101]⟩, .string ⟨#[102, 97, 108, 115, 101]⟩, .string ⟨#[110, 117, 108, 108]⟩] 9 (0, 0)) := heap_alloc_at rfl
 have hs1 : (w.alloc (.cells #[.string ⟨#[116, 114, 117, 101]⟩, .string ⟨#[102, 97, 108, 115, 101]⟩, .string ⟨#[110, 117, 108, 108]⟩] 9)).heap.size = w.heap.size + 1 := by simp
 obtain ⟨W1, hW1⟩ : ∃ W1, w.alloc (.cells #[.string ⟨#[116, 114, 117, 101]⟩, .string ⟨#[102, 97, 108, 115, 101]⟩, .string ⟨#[110, 117, 108, 108]⟩] 9) = W1 := ⟨_, rfl⟩
 rw [hW1] at hA hB hs1
 have HS1 : Hid (ScS w W1 g s i l) := ⟨⟨v, h1.under hA h1.lt, h2.below hA (Nat.le_refl _)⟩, h3.trans (hA.mono (Nat.le_of_lt h1.lt))⟩
 have HZ : Hid (W1.heap.size = w.heap.size + 1 /\ g < w.heap.size) := ⟨hs1, h1.lt⟩
 have a0 : W1.cell? ⟨w.heap.size, 0, none⟩ = some (.string ⟨#[116, 114, 117, 101]⟩) := by rw [cell_of_row W1 w.heap.size 0 _ _ _ hB]; rfl
 have a1 : W1.cell? ⟨w.heap.size, 1, none⟩ = some (.string ⟨#[102, 97, 108, 115, 101]⟩) := by rw [cell_of_row W1 w.heap.size 1 _ _ _ hB]; rfl
 have a2 : W1.cell? ⟨w.heap.size, 2, none⟩ = some (.string ⟨#[110, 117, 108, 108]⟩) := by rw [cell_of_row W1 w.heap.size 2 _ _ _ hB]; rfl
 have s0 : W1.cell? ⟨g, 0, none⟩ = some (.string s) := (h1.under hA h1.lt).cell 0 rfl
 have s1 : W1.cell? ⟨g, 1, none⟩ = some (.int .i64 i) := (h1.under hA h1.lt).cell 1 rfl
 have zg : g < W1.heap.size := by omega
 have i0 : (0 : Int) <= (i : Int) := Int.natCast_nonneg _
 have i1 : (i : Int) <= (s.size : Int) := by omega
 have i2 : i < 4398046510976 := by omega
 have HR : Hid (s.data.toList.drop i = wd.data.toList ++ r) := hr
 have HEND : Hid (i + wd.size = s.size \/ (i + wd.size < s.size /\ partCh s[i + wd.size]! = false)) := hend
 have HW := Lib.hid hw
 have HL : Hid (l.length <= 65536 /\ s.size <= 65536) := ⟨hl, hs⟩
 obtain ⟨m, hm⟩ : ∃ m : Nat, (m = 0 /\ wd = wTrue) \/ (m = 1 /\ wd = wFalse) \/ (m = 2 /\ wd = wNull) := by
  rcases hw with h | h | h
  ·exact ⟨0, .inl ⟨rfl, h⟩⟩
  ·exact ⟨1, .inr (.inl ⟨rfl, h⟩)⟩
  ·exact ⟨2, .inr (.inr ⟨rfl, h⟩)⟩
 have HM := Lib.hid hm
 have hm2 : m <= 2 := by rcases hm with h | h | h <;> omega
 clear hr hend h1 h2 h3 hA hB hs1 hl hs hi ha hw hm
 go_enter Tryz.func141, Tryz.ntmps141
 go_upto_region 2 with fail
 try rw [hW1]
 clear hW1
 go_wp2_with fail
 go_loopw [8] (fun o wr => ∃ k : Nat, k <= m /\ o = .int .i64 (k : Int) /\ ∃ n, wr = W1.drewN n) (fun o _ => 3 - (intOf o).toNat)
 case atStart => exact ⟨0, Nat.zero_le _, rfl, 0, rfl⟩
 case round =>
  obtain ⟨k, hk, rfl, nr, rfl⟩ := hrel
  have hk3 : k = 0 \/ k = 1 \/ k = 2 := by omega
  rcases hk3 with rfl | rfl | rfl
  ·by_cases hkm : 0 = m
   ·subst hkm
    have hwd : wd = wTrue := by rcases HM.out with h | h | h <;> first | exact h.2 | (exfalso; omega)
    have HP : Hid (∀ n, Calls Tryz.prog 157 #[.string (s.extract i s.size), .string ⟨#[116, 114, 117, 101]⟩] (W1.drewN n) fun e w' => e = .returned (.bool true) /\ w' = W1.drewN n) := fun n => (strings_HasPrefix _ _ _).mono (fun e w' h => ⟨by rw [h.1, ext_all, HR.out, hwd]; simp [Lib.hasPrefix, wTrue, List.isPrefixOf], h.2⟩)
    have hen := HEND.out
    rw [hwd] at hen
    have hsz : (wTrue).size = 4 := rfl
    rw [hsz] at hen
    have HWD := Lib.hid hwd
    clear hwd
    rcases hen with hen | ⟨hen1, hen2⟩
    ·have q1 : (((i : Int) + 4) == (s.size : Int)) = true := by simp; omega
     go_wp2_with fail
     go_quiet ((go_at_call 157; exact (HP.out _).mono (fun e w' h => ⟨h.1, _, h.2⟩)))
     go_wp2_with fail
     refine (lay_any _ g i (i + 4) 0 0 s ⟨#[116, 114, 117, 101]⟩ 2 l (HS1.out.now _) HL.out.1).mono ?_
     rintro e w4 ⟨rfl, hS4⟩
     go_wp2_with fail
     go_ret
     refine ⟨rfl, ?_⟩
     rw [HWD.out]
     exact ⟨hS4.ex, HS1.out.below.trans ((bdn (Below.refl _ _) _).trans hS4.below)⟩
    ·have q1 : (((i : Int) + 4) == (s.size : Int)) = false := by simp; omega
     have HPT : Hid (∀ n, Calls Tryz.prog 158 #[.int .u8 s[i + 4].toNat] (W1.drewN n) fun e w' => e = .returned (.bool false) /\ w' = W1.drewN n) := fun n => (scpart_any _ _).mono (fun e w' h => ⟨by rw [h.1, <- get_bang s (i + 4) hen1, hen2], h.2⟩)
     have i3 : ((i : Int) + 4) < (s.size : Int) := by omega
     have i4 : (0 : Int) <= (i : Int) + 4 := by omega
     have i5 : ((i : Int) + 4).toNat = i + 4 := by omega
     go_wp2_with fail
     go_quiet (first | (go_at_call 157; exact (HP.out _).mono (fun e w' h => ⟨h.1, _, h.2⟩)) | (go_at_call 158; exact (HPT.out _).mono (fun e w' h => ⟨h.1, _, h.2⟩)))
     go_wp2_with fail
     refine (lay_any _ g i (i + 4) 0 0 s ⟨#[116, 114, 117, 101]⟩ 2 l (HS1.out.now _) HL.out.1).mono ?_
     rintro e w4 ⟨rfl, hS4⟩
     go_wp2_with fail
     go_ret
     refine ⟨rfl, ?_⟩
     rw [HWD.out]
     exact ⟨hS4.ex, HS1.out.below.trans ((bdn (Below.refl _ _) _).trans hS4.below)⟩
   ·have hlt : 0 < m := by omega
    have HP : Hid (∀ n, Calls Tryz.prog 157 #[.string (s.extract i s.size), .string ⟨#[116, 114, 117, 101]⟩] (W1.drewN n) fun e w' => e = .returned (.bool false) /\ w' = W1.drewN n) := fun n => (strings_HasPrefix _ _ _).mono (fun e w' h => ⟨by
     rw [h.1, ext_all, HR.out]
     rcases HM.out with h | h | h
     ·exfalso; omega
     ·rw [h.2]; first | (exfalso; omega) | simp [Lib.hasPrefix, wFalse, List.isPrefixOf]
     ·rw [h.2]; simp [Lib.hasPrefix, wNull, List.isPrefixOf], h.2⟩)
    go_wp2_with fail
    go_quiet ((go_at_call 157; exact (HP.out _).mono (fun e w' h => ⟨h.1, _, h.2⟩)))
    go_wp2_with fail
    go_roundw
    case rel => exact ⟨0 + 1, by omega, by go_num, _, rfl⟩
    case measure => first | (simp [intOf]; done) | (simp [intOf]; omega)
  ·by_cases hkm : 1 = m
   ·subst hkm
    have hwd : wd = wFalse := by rcases HM.out with h | h | h <;> first | exact h.2 | (exfalso; omega)
    have HP : Hid (∀ n, Calls Tryz.prog 157 #[.string (s.extract i s.size), .string ⟨#[102, 97, 108, 115, 101]⟩] (W1.drewN n) fun e w' => e = .returned (.bool true) /\ w' = W1.drewN n) := fun n => (strings_HasPrefix _ _ _).mono (fun e w' h => ⟨by rw [h.1, ext_all, HR.out, hwd]; simp [Lib.hasPrefix, wFalse, List.isPrefixOf], h.2⟩)
    have hen := HEND.out
    rw [hwd] at hen
    have hsz : (wFalse).size = 5 := rfl
    rw [hsz] at hen
    have HWD := Lib.hid hwd
    clear hwd
    rcases hen with hen | ⟨hen1, hen2⟩
    ·have q1 : (((i : Int) + 5) == (s.size : Int)) = true := by simp; omega
     go_wp2_with fail
     go_quiet ((go_at_call 157; exact (HP.out _).mono (fun e w' h => ⟨h.1, _, h.2⟩)))
     go_wp2_with fail
     refine (lay_any _ g i (i + 5) 0 0 s ⟨#[102, 97, 108, 115, 101]⟩ 2 l (HS1.out.now _) HL.out.1).mono ?_
     rintro e w4 ⟨rfl, hS4⟩
     go_wp2_with fail
     go_ret
     refine ⟨rfl, ?_⟩
     rw [HWD.out]
     exact ⟨hS4.ex, HS1.out.below.trans ((bdn (Below.refl _ _) _).trans hS4.below)⟩
    ·have q1 : (((i : Int) + 5) == (s.size : Int)) = false := by simp; omega
     have HPT : Hid (∀ n, Calls Tryz.prog 158 #[.int .u8 s[i + 5].toNat] (W1.drewN n) fun e w' => e = .returned (.bool false) /\ w' = W1.drewN n) := fun n => (scpart_any _ _).mono (fun e w' h => ⟨by rw [h.1, <- get_bang s (i + 5) hen1, hen2], h.2⟩)
     have i3 : ((i : Int) + 5) < (s.size : Int) := by omega
     have i4 : (0 : Int) <= (i : Int) + 5 := by omega
     have i5 : ((i : Int) + 5).toNat = i + 5 := by omega
     go_wp2_with fail
     go_quiet (first | (go_at_call 157; exact (HP.out _).mono (fun e w' h => ⟨h.1, _, h.2⟩)) | (go_at_call 158; exact (HPT.out _).mono (fun e w' h => ⟨h.1, _, h.2⟩)))
     go_wp2_with fail
     refine (lay_any _ g i (i + 5) 0 0 s ⟨#[102, 97, 108, 115, 101]⟩ 2 l (HS1.out.now _) HL.out.1).mono ?_
     rintro e w4 ⟨rfl, hS4⟩
     go_wp2_with fail
     go_ret
     refine ⟨rfl, ?_⟩
     rw [HWD.out]
     exact ⟨hS4.ex, HS1.out.below.trans ((bdn (Below.refl _ _) _).trans hS4.below)⟩
   ·have hlt : 1 < m := by omega
    have HP : Hid (∀ n, Calls Tryz.prog 157 #[.string (s.extract i s.size), .string ⟨#[102, 97, 108, 115, 101]⟩] (W1.drewN n) fun e w' => e = .returned (.bool false) /\ w' = W1.drewN n) := fun n => (strings_HasPrefix _ _ _).mono (fun e w' h => ⟨by
     rw [h.1, ext_all, HR.out]
     rcases HM.out with h | h | h
     ·exfalso; omega
     ·rw [h.2]; first | (exfalso; omega) | simp [Lib.hasPrefix, wFalse, List.isPrefixOf]
     ·rw [h.2]; simp [Lib.hasPrefix, wNull, List.isPrefixOf], h.2⟩)
    go_wp2_with fail
    go_quiet ((go_at_call 157; exact (HP.out _).mono (fun e w' h => ⟨h.1, _, h.2⟩)))
    go_wp2_with fail
    go_roundw
    case rel => exact ⟨1 + 1, by omega, by go_num, _, rfl⟩
    case measure => first | (simp [intOf]; done) | (simp [intOf]; omega)
  ·by_cases hkm : 2 = m
   ·subst hkm
    have hwd : wd = wNull := by rcases HM.out with h | h | h <;> first | exact h.2 | (exfalso; omega)
    have HP : Hid (∀ n, Calls Tryz.prog 157 #[.string (s.extract i s.size), .string ⟨#[110, 117, 108, 108]⟩] (W1.drewN n) fun e w' => e = .returned (.bool true) /\ w' = W1.drewN n) := fun n => (strings_HasPrefix _ _ _).mono (fun e w' h => ⟨by rw [h.1, ext_all, HR.out, hwd]; simp [Lib.hasPrefix, wNull, List.isPrefixOf], h.2⟩)
    have hen := HEND.out
    rw [hwd] at hen
    have hsz : (wNull).size = 4 := rfl
    rw [hsz] at hen
    have HWD := Lib.hid hwd
    clear hwd
    rcases hen with hen | ⟨hen1, hen2⟩
    ·have q1 : (((i : Int) + 4) == (s.size : Int)) = true := by simp; omega
     go_wp2_with fail
     go_quiet ((go_at_call 157; exact (HP.out _).mono (fun e w' h => ⟨h.1, _, h.2⟩)))
     go_wp2_with fail
     refine (lay_any _ g i (i + 4) 0 0 s ⟨#[110, 117, 108, 108]⟩ 2 l (HS1.out.now _) HL.out.1).mono ?_
     rintro e w4 ⟨rfl, hS4⟩
     go_wp2_with fail
     go_ret
     refine ⟨rfl, ?_⟩
     rw [HWD.out]
     exact ⟨hS4.ex, HS1.out.below.trans ((bdn (Below.refl _ _) _).trans hS4.below)⟩
    ·have q1 : (((i : Int) + 4) == (s.size : Int)) = false := by simp; omega
     have HPT : Hid (∀ n, Calls Tryz.prog 158 #[.int .u8 s[i + 4].toNat] (W1.drewN n) fun e w' => e = .returned (.bool false) /\ w' = W1.drewN n) := fun n => (scpart_any _ _).mono (fun e w' h => ⟨by rw [h.1, <- get_bang s (i + 4) hen1, hen2], h.2⟩)
     have i3 : ((i : Int) + 4) < (s.size : Int) := by omega
     have i4 : (0 : Int) <= (i : Int) + 4 := by omega
     have i5 : ((i : Int) + 4).toNat = i + 4 := by omega
     go_wp2_with fail
     go_quiet (first | (go_at_call 157; exact (HP.out _).mono (fun e w' h => ⟨h.1, _, h.2⟩)) | (go_at_call 158; exact (HPT.out _).mono (fun e w' h => ⟨h.1, _, h.2⟩)))
     go_wp2_with fail
     refine (lay_any _ g i (i + 4) 0 0 s ⟨#[110, 117, 108, 108]⟩ 2 l (HS1.out.now _) HL.out.1).mono ?_
     rintro e w4 ⟨rfl, hS4⟩
     go_wp2_with fail
     go_ret
     refine ⟨rfl, ?_⟩
     rw [HWD.out]
     exact ⟨hS4.ex, HS1.out.below.trans ((bdn (Below.refl _ _) _).trans hS4.below)⟩
   ·exfalso; omega
end
end Go.Proofs.YtffhccmppdgmfaaGreatDoor
