import Derived.Test.YtfgjimpmpckgpaaGreatDoorSg35
import Derived.Test.YtfgjimpmpckgpaaGreatDoorSg10
import Derived.Test.YtfgjimpmpckgpaaGreatDoorSg26
import Derived.Test.YtfgjimpmpckgpaaGreatDoorSg13
import Derived.WalkLawsBesides
import Derived.BigQuiet
import Derived.Test.YtfgjimpmpckgpaaGreatDoorSg06
set_option linter.unusedSimpArgs false
set_option linter.unusedVariables false
set_option maxRecDepth 200000
set_option maxHeartbeats 8000000
namespace Go.Proofs.YtfgjimpmpckgpaaGreatDoor
section
open Go.RowKit Go.OpenShut
open Classical in
noncomputable def cnt (k : Int) (v : JV) (o : Option JV) : Int :=
 if k = 1 then (match o with | some u => if SameT u v then 0 else 1 | none => 1) else if k = 2 then (match o with | some _ => 1 | none => 0) else 0
theorem findJ_isSome {os : Obs} (hr : Rise os) (id : ByteArray) : (findJ os id).isSome = isAt os id := by
 rw [<- look_isSome]
 cases e : look os id with
 | some v =>
   have h := (look_mem hr (id, v)).2 e
   unfold findJ
   rw [Option.isSome_map]
   show _ = true
   rw [List.find?_isSome]
   exact ⟨_, h, by simp⟩
 | none =>
   cases e2 : findJ os id with
   | none => rfl
   | some v =>
     exfalso
     unfold findJ at e2
     obtain ⟨p, hp, hv⟩ := Option.map_eq_some_iff.1 e2
     have h1 := List.find?_some hp
     have h2 := List.mem_of_find?_eq_some hp
     have h3 := (look_mem hr p).1 h2
     simp at h1
     rw [h1, e] at h3
     simp at h3
theorem lastW_fold (id : ByteArray) : ∀ (l : List En) (a : Int), l.foldl (fun a e => if e.id = id then e.what else a) a = if toldB l id = true then lastW l id else a
 | [], a => by simp [toldB]
 | e :: r, a => by
   have h1 := lastW_fold id r (if e.id = id then e.what else a)
   have h2 := lastW_fold id r (if e.id = id then e.what else 0)
   unfold lastW at h1 h2 ⊢
   rw [List.foldl_cons, List.foldl_cons, h1, h2]
   unfold toldB
   rw [List.any_cons]
   by_cases h3 : r.any (fun e => decide (e.id = id)) = true
   ·simp [h3, toldB]
   ·by_cases h4 : e.id = id <;> simp [h3, h4, toldB]
theorem lastW_cons (e : En) (r : List En) (id : ByteArray) : lastW (e :: r) id = if toldB r id = true then lastW r id else if e.id = id then e.what else 0 := by
 unfold lastW
 rw [List.foldl_cons, lastW_fold]
 rfl
theorem since_told {sq : Int} {l : List En} {p : Pa} (hp : p ∈ sinceL sq l) : toldB l p.id = true := by
 obtain ⟨y, hy, h, _⟩ := (sinceL_id sq p.id l).1 ⟨p, hp, rfl⟩
 exact List.any_eq_true.2 ⟨y, hy, by simpa using h⟩
theorem upd_isb (e : En) (p : Pa) : (updP e p).isb = p.isb := by unfold updP; split <;> rfl
theorem since_isb (sq : Int) : ∀ l : List En, (∀ e ∈ l, sq < e.seq) -> ∀ p ∈ sinceL sq l, p.isb = (lastW l p.id != 3)
 | [], _, p, hp => by simp [sinceL] at hp
 | e :: r, h, p, hp => by
   have ih := since_isb sq r (fun x hx => h x (List.mem_cons_of_mem _ hx))
   have he := h e (by simp)
   rw [sinceL_cons, if_neg (by omega)] at hp
   rw [lastW_cons]
   split at hp
   ·obtain ⟨q, hq, rfl⟩ := List.mem_map.1 hp
    rw [upd_isb, upd_id, if_pos (since_told hq)]
    exact ih q hq
   ·rename_i hk
    rcases List.mem_cons.1 hp with rfl | hp
    ·have hn : ¬ toldB r (newP e).id = true := by
      intro ht
      obtain ⟨y, hy, hi⟩ := List.any_eq_true.1 ht
      obtain ⟨q, hq, e2⟩ := (sinceL_id sq e.id r).2 ⟨y, hy, (by simpa using hi : y.id = (newP e).id), h y (List.mem_cons_of_mem _ hy)⟩
      exact hk (List.any_eq_true.2 ⟨q, hq, by simpa using e2⟩)
     rw [if_neg hn, if_pos (show e.id = (newP e).id from rfl)]
     rfl
    ·rw [if_pos (since_told hp)]
     exact ih p hp
theorem right_seq {l : List En} {floor seq : Int} (h : rightB l floor seq = true) : ∀ e ∈ l, floor < e.seq := by
 intro e he
 obtain ⟨k, hk⟩ := List.getElem?_of_mem he
 unfold rightB at h
 simp only [Bool.and_eq_true, List.all_eq_true, List.mem_range] at h
 have := h.2 k (List.getElem?_eq_some_iff.1 hk).1
 rw [okAt_of hk] at this
 simp only [Bool.and_eq_true, beq_iff_eq] at this
 omega
def RightQ (b : BoxD) : Prop := Rising b.objs /\ 0 <= b.keep /\ b.keep <= 1000 /\ (b.trail.length : Int) <= b.keep /\ rightB b.trail b.floor b.seq = true /\ ∀ e ∈ b.trail, (findJ b.objs e.id).isSome = (lastW b.trail e.id != 3)
theorem rightBx_iff (b : BoxD) : RightBx b ↔ RightQ b := by
 unfold RightBx RightQ
 constructor
 ·rintro ⟨h1, h2, h3, h4, h5, h6⟩
  refine ⟨h1, h2, h3, h4, h5, fun e he => ?_⟩
  rw [findJ_isSome (rise_iff.1 h1)]
  obtain ⟨p, hp, hi⟩ := (sinceL_id b.floor e.id b.trail).2 ⟨e, he, rfl, right_seq h5 e he⟩
  rw [<- hi, h6 p hp]
  exact since_isb b.floor b.trail (right_seq h5) p hp
 ·rintro ⟨h1, h2, h3, h4, h5, h6⟩
  refine ⟨h1, h2, h3, h4, h5, fun p hp => ?_⟩
  obtain ⟨e, he, hi⟩ := List.any_eq_true.1 (since_told hp)
  have hi : e.id = p.id := by simpa using hi
  rw [<- findJ_isSome (rise_iff.1 h1), <- hi, h6 e he, since_isb b.floor b.trail (right_seq h5) p hp, hi]
theorem refRight_yes (w : World) (B : Nat) (v : Value) (l : List En) (floor seq : Int) (hv : RdE w B v l) (hf : (Lit.int .i64 floor).wf = true) (hs : (Lit.int .i64 seq).wf = true) (hh : headB l.length floor seq = true) :
 Calls Tryz.prog 88 #[v, .int .i64 floor, .int .i64 seq] w fun e w' => e = .returned (.bool (rightB l floor seq)) /\ ∃ n, w' = w.drewN n := by
 obtain ⟨hok, p, c, rfl, hlc, hcm, hp0, hp⟩ := hv
 unfold maxLen at hcm
 have HH := Lib.hid hh
 unfold headB at hh
 simp only [decide_eq_true_eq] at hh
 obtain ⟨h1, h2, h3, h4⟩ := hh
 have hne : (seq - floor != (l.length : Int)) = false := by rw [bne_eq_false_iff_eq]; exact h4
 have hlen : (l.length : Int) <= 9007199254740991 := by omega
 have h5 : 0 <= seq := by omega
 have hok' := Lib.hid hok
 clear h4 hf hs hok
 go_enter Tryz.func88, Tryz.ntmps88
 go_wp2_with fail
 go_loopw [7] (fun i wr => ∃ k : Nat, k <= l.length /\ i = .int .i64 k /\ Hid (∀ j, j < k -> okAt l floor j = true) /\ ∃ n, wr = w.drewN n) (fun i _ => l.length - (intOf i).toNat)
 case atStart => exact ⟨0, Nat.zero_le _, rfl, fun j hj => by omega, 0, rfl⟩
 case round =>
  obtain ⟨k, hk, rfl, HO, nr, rfl⟩ := hrel
  by_cases hlt : k < l.length
  ·obtain ⟨b1, o1, rfl, hb1, hc1⟩ := slice_at (k := k) hp0 hp (by omega)
   obtain ⟨x, hx, g10, g11, g12⟩ := hc1 k hlt
   have okx := get_ok hok'.out hx
   have HX := Lib.hid hx
   have bx := bounds_i64 okx.1
   have bw := bounds_i64 okx.2.2
   clear hx okx
   by_cases hbad : x.seq ≠ floor + 1 + k \/ x.what < 1 \/ 3 < x.what
   ·have hd1 : x.seq = floor + 1 + k -> 1 <= x.what -> 3 < x.what := by omega
    have HB := Lib.hid (okAt_bad HX.out hbad)
    have hd2 : 1 <= x.what -> x.what <= 3 -> (x.seq != floor + 1 + k) = true := by
     intro a1 a2; rw [bne_iff_ne]; omega
    clear hbad hp hp0 hc1
    go_wp2_with fail
    all_goals (go_ret; exact ⟨ret_bool (rightB_bad hlt HB.out).symm, _, rfl⟩)
   ·have hw1 : 1 <= x.what := by omega
    have hw3 : x.what <= 3 := by omega
    have hsq : (x.seq != floor + 1 + k) = false := by rw [bne_eq_false_iff_eq]; omega
    have hsE : Hid (x.seq = floor + 1 + k) := by unfold Hid; omega
    clear hbad
    go_wp2_with fail
    go_loopw [8, 9] (fun u j wr => ∃ m : Nat, m <= k /\ j = .int .i64 m /\ u = .int .i64 (lastW (l.take m) x.id) /\ ∃ n, wr = w.drewN n) (fun _ j _ => k - (intOf j).toNat)
    case atStart => exact ⟨0, Nat.zero_le _, rfl, rfl, _, rfl⟩
    case round =>
     obtain ⟨m, hm, rfl, rfl, ni, rfl⟩ := hrel
     by_cases hmk : m < k
     ·have hml : m < l.length := by omega
      obtain ⟨y, hy, gy0, gy1, gy2⟩ := hc1 m hml
      have HS := Lib.hid (lastW_take hy x.id)
      clear hy hc1
      by_cases hid : y.id = x.id
      ·have hq : (y.id.toList == x.id.toList) = true := by rw [hid]; simp
       rw [if_pos hid] at HS
       clear hid
       go_wp2_with fail
       go_quiet (fail)
       go_wp2_with fail
       go_roundw
       case rel => exact ⟨m + 1, by omega, by go_num, by rw [HS.out], _, rfl⟩
       case measure => simp [intOf]; omega
      ·have hq : (y.id.toList == x.id.toList) = false := by rw [toList_beq]; simp [hid]
       rw [if_neg hid] at HS
       clear hid
       go_wp2_with fail
       go_quiet (fail)
       go_wp2_with fail
       go_roundw
       case rel => exact ⟨m + 1, by omega, by go_num, by rw [HS.out], _, rfl⟩
       case measure => simp [intOf]; omega
     ·obtain rfl : m = k := by omega
      have hOK := okAt_of (floor := floor) HX.out
      generalize lastW (l.take m) x.id = z at hOK ⊢
      cases hmay : mayB z x.what with
      | true =>
        rw [hmay, hsE.out] at hOK
        simp at hOK
        have HOK := Lib.hid hOK
        clear hOK
        have hnx : Hid (∀ j, j < m + 1 -> okAt l floor j = true) := by
         intro j hj
         by_cases e : j = m
         ·rw [e]; exact HOK.out
         ·exact HO.out j (by omega)
        by_cases e1 : x.what = 1
        ·have hz : (z != 0) = false := by rw [e1] at hmay; simpa [mayB] using hmay
         have q1 : (x.what == 1) = true := by rw [e1]; rfl
         have q2 : (x.what != 1) = false := by rw [e1]; rfl
         clear hmay e1
         go_wp2_with fail
         go_roundw
         case rel => exact ⟨m + 1, by omega, by go_num, hnx, _, rfl⟩
         case measure => simp [intOf]; omega
        ·have hz : (z == 3) = false := by
          have : x.what = 2 \/ x.what = 3 := by omega
          rcases this with e' | e' <;> rw [e'] at hmay <;> simpa [mayB] using hmay
         have q1 : (x.what == 1) = false := by simp [e1]
         have q2 : (x.what != 1) = true := by simp [e1]
         clear hmay e1
         go_wp2_with fail
         go_roundw
         case rel => exact ⟨m + 1, by omega, by go_num, hnx, _, rfl⟩
         case measure => simp [intOf]; omega
      | false =>
        rw [hmay, Bool.and_false] at hOK
        have HOK := Lib.hid (rightB_bad (seq := seq) hlt hOK)
        clear hOK
        by_cases e1 : x.what = 1
        ·have hz : (z != 0) = true := by rw [e1] at hmay; simpa [mayB] using hmay
         have q1 : (x.what == 1) = true := by rw [e1]; rfl
         have q2 : (x.what != 1) = false := by rw [e1]; rfl
         clear hmay e1
         go_wp2_with fail
         go_ret
         exact ⟨ret_bool HOK.out.symm, _, rfl⟩
        ·have hz : (z == 3) = true := by
          have : x.what = 2 \/ x.what = 3 := by omega
          rcases this with e' | e' <;> rw [e'] at hmay <;> simpa [mayB] using hmay
         have q1 : (x.what == 1) = false := by simp [e1]
         have q2 : (x.what != 1) = true := by simp [e1]
         clear hmay e1
         go_wp2_with fail
         go_ret
         exact ⟨ret_bool HOK.out.symm, _, rfl⟩
  ·obtain rfl : k = l.length := by omega
   have HR := Lib.hid (rightB_yes HH.out HO.out)
   go_wp2_with fail
   go_ret
   exact ⟨ret_bool HR.out.symm, _, rfl⟩
theorem refRight_any (w : World) (B : Nat) (v : Value) (l : List En) (floor seq : Int) (hv : RdE w B v l) (hf : (Lit.int .i64 floor).wf = true) (hs : (Lit.int .i64 seq).wf = true) :
 Calls Tryz.prog 88 #[v, .int .i64 floor, .int .i64 seq] w fun e w' => e = .returned (.bool (rightB l floor seq)) /\ ∃ n, w' = w.drewN n := by
 cases hh : headB l.length floor seq with
 | true => exact refRight_yes w B v l floor seq hv hf hs hh
 | false => exact refRight_head w B v l floor seq hv hf hs hh
end
end Go.Proofs.YtfgjimpmpckgpaaGreatDoor
