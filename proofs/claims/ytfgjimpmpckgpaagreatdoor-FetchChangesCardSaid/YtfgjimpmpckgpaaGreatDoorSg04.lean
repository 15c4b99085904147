import Derived.Test.YtfgjimpmpckgpaaGreatDoorSg03
import Derived.Test.YtfgjimpmpckgpaaGreatDoorSg00
set_option linter.unusedSimpArgs false
set_option linter.unusedVariables false
set_option maxRecDepth 200000
set_option maxHeartbeats 8000000
namespace Go.Proofs.YtfgjimpmpckgpaaGreatDoor
section
open Go Go.RowKit Go.OpenShut
def mayK (c : Nat) (t : JV) : Bool :=
 if t.k = 1 then decide (c ≠ 105) && decide (c ≠ 115) && decide (c ≠ 118)
 else if c = 105 \/ c = 73 then decide (t.k = 4) && idB t.s
 else if c = 115 then decide (t.k = 4)
 else if c = 119 then true
 else if c = 108 then decide (t.k = 5) && t.l.all (fun x => decide (x.k = 4) && idB x.s)
 else if c = 116 then decide (t.k = 5) && t.l.all (fun x => decide (x.k = 4) && true)
 else if c = 110 then decide (t.k = 3) && decide (0 <= t.n)
 else if c = 112 then decide (t.k = 3) && decide (1 <= t.n)
 else if c = 122 then decide (t.k = 3)
 else if c = 98 then decide (t.k = 2)
 else false
def letters : List Nat := [105, 73, 115, 108, 116, 119, 110, 112, 122, 98]
theorem TreeOf.head {w : World} {B : Nat} {t : JV} {r : RV} (h : TreeOf w B t r) : t.k = r.k /\ t.n = r.n /\ t.s = r.s := by
 cases h with
 | mk hl el hcl hm em hcn hcm => exact ⟨rfl, rfl, rfl⟩
theorem TreeOf.lst {w : World} {B : Nat} {t : JV} {r : RV} (h : TreeOf w B t r) : ∃ rs, Rd w B encV 5 (.slice r.pl r.nl r.cl) rs /\ t.l.length = rs.length /\ ∀ (i : Nat) x q, t.l[i]? = some x -> rs[i]? = some q -> TreeOf w B x q := by
 cases h with
 | mk hl el hcl hm em hcn hcm => exact ⟨_, hl, el, hcl⟩
theorem all_same {l : List JV} {rs : List RV} {p : JV -> Bool} {q : RV -> Bool} (hlen : l.length = rs.length) (h : ∀ (i : Nat) x y, l[i]? = some x -> rs[i]? = some y -> p x = q y) : l.all p = rs.all q := by
 induction l generalizing rs with
 | nil => cases rs with
   | nil => rfl
   | cons a b => simp at hlen
 | cons a l ih => cases rs with
   | nil => simp at hlen
   | cons b rs =>
     rw [List.all_cons, List.all_cons, h 0 a b rfl rfl, ih (by simpa using hlen) (fun i x y h1 h2 => h (i + 1) x y (by simpa using h1) (by simpa using h2))]
theorem JV.Ok.at_l {t : JV} (h : t.Ok) {i : Nat} {x : JV} (hx : t.l[i]? = some x) : x.Ok := by
 cases h with
 | mk _ _ _ _ _ cl _ _ => exact cl i x hx
theorem JV.Ok.s_le {t : JV} (h : t.Ok) : t.s.size <= 140737488351232 /\ t.l.length <= 1759218604390 := by
 cases h with
 | mk _ _ hs hl _ _ _ _ => exact ⟨hs, hl⟩
theorem refsMay_any (c : Nat) (t : JV) (r : RV) (w : World) (hc : c ∈ letters) (ht : TreeOf w w.heap.size t r) (ot : t.Ok) :
 Calls Tryz.prog 116 #[.int .u8 (c : Int), r.val] w fun e w' => e = .returned (.bool (mayK c t)) /\ Below w.heap.size w w' := by
 obtain ⟨hk, hn, hs⟩ := ht.head
 obtain ⟨rs, hl, hlen, hsub⟩ := ht.lst
 have hsz := ot.s_le
 have hrs : ∀ (i : Nat) x, rs[i]? = some x -> x.s.size <= maxLen := fun i x hx => by
  obtain ⟨y, hy⟩ : ∃ y, t.l[i]? = some y := ⟨_, List.getElem?_eq_getElem (by rw [hlen]; exact (List.getElem?_eq_some_iff.1 hx).1)⟩
  have h1 := (hsub i y x hy hx).head
  have h2 := (ot.at_l hy).s_le
  rw [<- h1.2.2]; unfold maxLen; omega
 have hall1 : t.l.all (fun x => decide (x.k = 4) && idB x.s) = rs.all (fun x => decide (x.k = 4) && idB x.s) := all_same hlen (fun i x y h1 h2 => by have h := (hsub i x y h1 h2).head; rw [h.1, h.2.2])
 have hall2 : t.l.all (fun x => decide (x.k = 4) && true) = rs.all (fun x => decide (x.k = 4) && true) := all_same hlen (fun i x y h1 h2 => by have h := (hsub i x y h1 h2).head; rw [h.1])
 have hB : Below w.heap.size w (w.alloc r.obj) := (Below.refl _ _).alloc (Nat.le_refl _) _
 have hA : VAt (w.alloc r.obj) w.heap.size r := heap_alloc_at rfl
 have HID : Hid (∀ W, Calls Tryz.prog 15 #[.string r.s] W fun e w' => e = .returned (.bool (idB r.s)) /\ w' = W) := fun W => identIs_any r.s W (by rw [<- hs]; unfold maxLen; omega)
 have HT1 : Hid (∀ W, Below w.heap.size w W -> Calls Tryz.prog 144 #[r.val, .func (.func 15) #[] #[]] W fun e w' => e = .returned (.bool (decide (r.k = 5) && rs.all (fun x => decide (x.k = 4) && idB x.s))) /\ Below W.heap.size W w') := fun W hb => textsId_any r W rs (hl.below hb hb.size) (by omega) hrs
 have HT2 : Hid (∀ W, Below w.heap.size w W -> Calls Tryz.prog 144 #[r.val, .func (.func 147) #[] #[]] W fun e w' => e = .returned (.bool (decide (r.k = 5) && rs.all (fun x => decide (x.k = 4) && true))) /\ Below W.heap.size W w') := fun W hb => textsTx_any r W rs (hl.below hb hb.size) (by omega) hrs
 unfold mayK
 rw [hk, hn, hs, hall1, hall2]
 obtain ⟨b1, hb1⟩ : ∃ b, rs.all (fun x => decide (x.k = 4) && idB x.s) = b := ⟨_, rfl⟩
 obtain ⟨b2, hb2⟩ : ∃ b, rs.all (fun x => decide (x.k = 4) && true) = b := ⟨_, rfl⟩
 obtain ⟨b0, hb0⟩ : ∃ b, idB r.s = b := ⟨_, rfl⟩
 rw [hb1] at HT1 ⊢
 rw [hb2] at HT2 ⊢
 rw [hb0] at HID ⊢
 clear hb0 hb1 hb2 hall1 hall2 hrs hsz hlen hsub hl ot ht hk hn hs
 obtain ⟨k, n, s, pl, nl, cl, pm, nm, cm⟩ := r
 dsimp only [RV.val, RV.obj] at *
 obtain ⟨W0, hW0⟩ : ∃ W, w.alloc (.cells #[.int .i64 k, .int .i64 n, .string s, .slice pl nl cl, .slice pm nm cm] 31) = W := ⟨_, rfl⟩
 rw [hW0] at hB hA
 have HB := Lib.hid hB
 have HA := Lib.hid hA
 clear hB hA
 simp only [letters, List.mem_cons, List.not_mem_nil, or_false] at hc
 rcases hc with rfl | rfl | rfl | rfl | rfl | rfl | rfl | rfl | rfl | rfl
 ·by_cases k1 : k = 1
  ·subst k1
   go_enter Tryz.func116, Tryz.ntmps116
   go_upto_region 1 with fail
   try rw [hW0]
   clear hW0
   obtain ⟨a0, a1, a2, a3, a4⟩ := HA.out.cells5
   go_wp2_with fail
   go_ret
   exact ⟨ret_boolI (by simp), HB.out⟩
  ·have q1 : (k == 1) = false := by simpa using k1
   rw [if_neg k1]
   clear k1
   by_cases k4 : k = 4
   ·subst k4
    go_enter Tryz.func116, Tryz.ntmps116
    go_upto_region 1 with fail
    try rw [hW0]
    clear hW0
    obtain ⟨a0, a1, a2, a3, a4⟩ := HA.out.cells5
    go_wp2_with (go_at_call 15; refine (HID.out _).mono ?_; rintro e w1 ⟨rfl, rfl⟩)
    go_ret
    exact ⟨ret_boolI (by simp), HB.out⟩
   ·have q4 : (k == 4) = false := by simpa using k4
    rw [decide_eq_false k4]
    clear k4
    go_enter Tryz.func116, Tryz.ntmps116
    go_upto_region 1 with fail
    try rw [hW0]
    clear hW0
    obtain ⟨a0, a1, a2, a3, a4⟩ := HA.out.cells5
    go_wp2_with fail
    go_ret
    exact ⟨ret_boolI (by simp), HB.out⟩
 ·by_cases k1 : k = 1
  ·subst k1
   go_enter Tryz.func116, Tryz.ntmps116
   go_upto_region 1 with fail
   try rw [hW0]
   clear hW0
   obtain ⟨a0, a1, a2, a3, a4⟩ := HA.out.cells5
   go_wp2_with fail
   go_ret
   exact ⟨ret_boolI (by simp), HB.out⟩
  ·have q1 : (k == 1) = false := by simpa using k1
   rw [if_neg k1]
   clear k1
   by_cases k4 : k = 4
   ·subst k4
    go_enter Tryz.func116, Tryz.ntmps116
    go_upto_region 1 with fail
    try rw [hW0]
    clear hW0
    obtain ⟨a0, a1, a2, a3, a4⟩ := HA.out.cells5
    go_wp2_with (go_at_call 15; refine (HID.out _).mono ?_; rintro e w1 ⟨rfl, rfl⟩)
    go_ret
    exact ⟨ret_boolI (by simp), HB.out⟩
   ·have q4 : (k == 4) = false := by simpa using k4
    rw [decide_eq_false k4]
    clear k4
    go_enter Tryz.func116, Tryz.ntmps116
    go_upto_region 1 with fail
    try rw [hW0]
    clear hW0
    obtain ⟨a0, a1, a2, a3, a4⟩ := HA.out.cells5
    go_wp2_with fail
    go_ret
    exact ⟨ret_boolI (by simp), HB.out⟩
 ·by_cases k1 : k = 1
  ·subst k1
   go_enter Tryz.func116, Tryz.ntmps116
   go_upto_region 1 with fail
   try rw [hW0]
   clear hW0
   obtain ⟨a0, a1, a2, a3, a4⟩ := HA.out.cells5
   go_wp2_with fail
   go_ret
   exact ⟨ret_boolI (by simp), HB.out⟩
  ·have q1 : (k == 1) = false := by simpa using k1
   rw [if_neg k1]
   clear k1
   by_cases k4 : k = 4
   ·subst k4
    go_enter Tryz.func116, Tryz.ntmps116
    go_upto_region 1 with fail
    try rw [hW0]
    clear hW0
    obtain ⟨a0, a1, a2, a3, a4⟩ := HA.out.cells5
    go_wp2_with fail
    go_ret
    exact ⟨ret_boolI (by simp), HB.out⟩
   ·have q4 : (k == 4) = false := by simpa using k4
    rw [decide_eq_false k4]
    clear k4
    go_enter Tryz.func116, Tryz.ntmps116
    go_upto_region 1 with fail
    try rw [hW0]
    clear hW0
    obtain ⟨a0, a1, a2, a3, a4⟩ := HA.out.cells5
    go_wp2_with fail
    go_ret
    exact ⟨ret_boolI (by simp), HB.out⟩
 ·by_cases k1 : k = 1
  ·subst k1
   go_enter Tryz.func116, Tryz.ntmps116
   go_upto_region 1 with fail
   try rw [hW0]
   clear hW0
   obtain ⟨a0, a1, a2, a3, a4⟩ := HA.out.cells5
   go_wp2_with fail
   go_ret
   exact ⟨ret_boolI (by simp), HB.out⟩
  ·have q1 : (k == 1) = false := by simpa using k1
   rw [if_neg k1]
   clear k1
   go_enter Tryz.func116, Tryz.ntmps116
   go_upto_region 1 with fail
   try rw [hW0]
   clear hW0
   obtain ⟨a0, a1, a2, a3, a4⟩ := HA.out.cells5
   go_wp2_with (go_at_call 144; refine (HT1.out _ HB.out).mono ?_; rintro e w1 ⟨rfl, hb1⟩)
   go_ret
   exact ⟨ret_boolI (by simp), HB.out.trans (hb1.mono HB.out.size)⟩
 ·by_cases k1 : k = 1
  ·subst k1
   go_enter Tryz.func116, Tryz.ntmps116
   go_upto_region 1 with fail
   try rw [hW0]
   clear hW0
   obtain ⟨a0, a1, a2, a3, a4⟩ := HA.out.cells5
   go_wp2_with fail
   go_ret
   exact ⟨ret_boolI (by simp), HB.out⟩
  ·have q1 : (k == 1) = false := by simpa using k1
   rw [if_neg k1]
   clear k1
   go_enter Tryz.func116, Tryz.ntmps116
   go_upto_region 1 with fail
   try rw [hW0]
   clear hW0
   obtain ⟨a0, a1, a2, a3, a4⟩ := HA.out.cells5
   go_wp2_with (go_at_call 144; refine (HT2.out _ HB.out).mono ?_; rintro e w1 ⟨rfl, hb1⟩)
   go_ret
   exact ⟨ret_boolI (by simp), HB.out.trans (hb1.mono HB.out.size)⟩
 ·by_cases k1 : k = 1
  ·subst k1
   go_enter Tryz.func116, Tryz.ntmps116
   go_upto_region 1 with fail
   try rw [hW0]
   clear hW0
   obtain ⟨a0, a1, a2, a3, a4⟩ := HA.out.cells5
   go_wp2_with fail
   go_ret
   exact ⟨ret_boolI (by simp), HB.out⟩
  ·have q1 : (k == 1) = false := by simpa using k1
   rw [if_neg k1]
   clear k1
   go_enter Tryz.func116, Tryz.ntmps116
   go_upto_region 1 with fail
   try rw [hW0]
   clear hW0
   obtain ⟨a0, a1, a2, a3, a4⟩ := HA.out.cells5
   go_wp2_with fail
   go_ret
   exact ⟨ret_boolI (by simp), HB.out⟩
 ·by_cases k1 : k = 1
  ·subst k1
   go_enter Tryz.func116, Tryz.ntmps116
   go_upto_region 1 with fail
   try rw [hW0]
   clear hW0
   obtain ⟨a0, a1, a2, a3, a4⟩ := HA.out.cells5
   go_wp2_with fail
   go_ret
   exact ⟨ret_boolI (by simp), HB.out⟩
  ·have q1 : (k == 1) = false := by simpa using k1
   rw [if_neg k1]
   clear k1
   by_cases k4 : k = 3
   ·subst k4
    by_cases hn : 0 <= n
    ·have q5 : decide (0 <= n) = true := decide_eq_true hn
     rw [q5]
     go_enter Tryz.func116, Tryz.ntmps116
     go_upto_region 1 with fail
     try rw [hW0]
     clear hW0
     obtain ⟨a0, a1, a2, a3, a4⟩ := HA.out.cells5
     go_wp2_with fail
     go_ret
     exact ⟨ret_boolI (by simp), HB.out⟩
    ·have q5 : decide (0 <= n) = false := decide_eq_false hn
     rw [q5]
     go_enter Tryz.func116, Tryz.ntmps116
     go_upto_region 1 with fail
     try rw [hW0]
     clear hW0
     obtain ⟨a0, a1, a2, a3, a4⟩ := HA.out.cells5
     go_wp2_with fail
     go_ret
     exact ⟨ret_boolI (by simp), HB.out⟩
   ·have q4 : (k == 3) = false := by simpa using k4
    rw [decide_eq_false k4]
    clear k4
    go_enter Tryz.func116, Tryz.ntmps116
    go_upto_region 1 with fail
    try rw [hW0]
    clear hW0
    obtain ⟨a0, a1, a2, a3, a4⟩ := HA.out.cells5
    go_wp2_with fail
    go_ret
    exact ⟨ret_boolI (by simp), HB.out⟩
 ·by_cases k1 : k = 1
  ·subst k1
   go_enter Tryz.func116, Tryz.ntmps116
   go_upto_region 1 with fail
   try rw [hW0]
   clear hW0
   obtain ⟨a0, a1, a2, a3, a4⟩ := HA.out.cells5
   go_wp2_with fail
   go_ret
   exact ⟨ret_boolI (by simp), HB.out⟩
  ·have q1 : (k == 1) = false := by simpa using k1
   rw [if_neg k1]
   clear k1
   by_cases k4 : k = 3
   ·subst k4
    by_cases hn : 1 <= n
    ·have q5 : decide (1 <= n) = true := decide_eq_true hn
     rw [q5]
     go_enter Tryz.func116, Tryz.ntmps116
     go_upto_region 1 with fail
     try rw [hW0]
     clear hW0
     obtain ⟨a0, a1, a2, a3, a4⟩ := HA.out.cells5
     go_wp2_with fail
     go_ret
     exact ⟨ret_boolI (by simp), HB.out⟩
    ·have q5 : decide (1 <= n) = false := decide_eq_false hn
     rw [q5]
     go_enter Tryz.func116, Tryz.ntmps116
     go_upto_region 1 with fail
     try rw [hW0]
     clear hW0
     obtain ⟨a0, a1, a2, a3, a4⟩ := HA.out.cells5
     go_wp2_with fail
     go_ret
     exact ⟨ret_boolI (by simp), HB.out⟩
   ·have q4 : (k == 3) = false := by simpa using k4
    rw [decide_eq_false k4]
    clear k4
    go_enter Tryz.func116, Tryz.ntmps116
    go_upto_region 1 with fail
    try rw [hW0]
    clear hW0
    obtain ⟨a0, a1, a2, a3, a4⟩ := HA.out.cells5
    go_wp2_with fail
    go_ret
    exact ⟨ret_boolI (by simp), HB.out⟩
 ·by_cases k1 : k = 1
  ·subst k1
   go_enter Tryz.func116, Tryz.ntmps116
   go_upto_region 1 with fail
   try rw [hW0]
   clear hW0
   obtain ⟨a0, a1, a2, a3, a4⟩ := HA.out.cells5
   go_wp2_with fail
   go_ret
   exact ⟨ret_boolI (by simp), HB.out⟩
  ·have q1 : (k == 1) = false := by simpa using k1
   rw [if_neg k1]
   clear k1
   by_cases k4 : k = 3
   ·subst k4
    go_enter Tryz.func116, Tryz.ntmps116
    go_upto_region 1 with fail
    try rw [hW0]
    clear hW0
    obtain ⟨a0, a1, a2, a3, a4⟩ := HA.out.cells5
    go_wp2_with fail
    go_ret
    exact ⟨ret_boolI (by simp), HB.out⟩
   ·have q4 : (k == 3) = false := by simpa using k4
    rw [decide_eq_false k4]
    clear k4
    go_enter Tryz.func116, Tryz.ntmps116
    go_upto_region 1 with fail
    try rw [hW0]
    clear hW0
    obtain ⟨a0, a1, a2, a3, a4⟩ := HA.out.cells5
    go_wp2_with fail
    go_ret
    exact ⟨ret_boolI (by simp), HB.out⟩
 ·by_cases k1 : k = 1
  ·subst k1
   go_enter Tryz.func116, Tryz.ntmps116
   go_upto_region 1 with fail
   try rw [hW0]
   clear hW0
   obtain ⟨a0, a1, a2, a3, a4⟩ := HA.out.cells5
   go_wp2_with fail
   go_ret
   exact ⟨ret_boolI (by simp), HB.out⟩
  ·have q1 : (k == 1) = false := by simpa using k1
   rw [if_neg k1]
   clear k1
   by_cases k4 : k = 2
   ·subst k4
    go_enter Tryz.func116, Tryz.ntmps116
    go_upto_region 1 with fail
    try rw [hW0]
    clear hW0
    obtain ⟨a0, a1, a2, a3, a4⟩ := HA.out.cells5
    go_wp2_with fail
    go_ret
    exact ⟨ret_boolI (by simp), HB.out⟩
   ·have q4 : (k == 2) = false := by simpa using k4
    rw [decide_eq_false k4]
    clear k4
    go_enter Tryz.func116, Tryz.ntmps116
    go_upto_region 1 with fail
    try rw [hW0]
    clear hW0
    obtain ⟨a0, a1, a2, a3, a4⟩ := HA.out.cells5
    go_wp2_with fail
    go_ret
    exact ⟨ret_boolI (by simp), HB.out⟩
end
section
open Go.RowKit Go.OpenShut
section
variable {α : Type} {e : TypeId} {enc : α -> List Value} {sz : Nat}
theorem Own.same {w w' : World} {base : Nat} {v : Value} {xs : List α} (h : Own w base e enc sz v xs) (hk : ∀ k, v.ownBlock = some k -> w'.heap[k]? = w.heap[k]?) : Own w' base e enc sz v xs := by
 obtain ⟨hl, h⟩ := h
 refine ⟨hl, ?_⟩
 rcases h with h | ⟨g, cap, cur, rfl, hg, hh, r⟩
 ·exact .inl h
 ·exact .inr ⟨g, cap, cur, rfl, hg, (hk g rfl).trans hh, r⟩
end
inductive LoneV (w : World) : (Nat -> Prop) -> JV -> RV -> Prop
 | mk {S : Nat -> Prop} {r : RV} {l : List JV} {m : List (ByteArray × JV)} {rs : List RV} {rms : List RM} (F : Nat ⊕ Nat -> Nat -> Prop)
  (hl : Own w 0 31 encV 5 (.slice r.pl r.nl r.cl) rs) (hm : Own w 0 81 encM 6 (.slice r.pm r.nm r.cm) rms)
  (sl : ∀ k, (Value.slice r.pl r.nl r.cl).ownBlock = some k -> S k) (sm : ∀ k, (Value.slice r.pm r.nm r.cm).ownBlock = some k -> S k)
  (dr : ∀ k, (Value.slice r.pl r.nl r.cl).ownBlock = some k -> (Value.slice r.pm r.nm r.cm).ownBlock ≠ some k)
  (el : l.length = rs.length) (em : m.length = rms.length)
  (cn : ∀ (i : Nat) (p : ByteArray × JV) (q : RM), m[i]? = some p -> rms[i]? = some q -> p.1 = q.name)
  (cl : ∀ (i : Nat) (t : JV) (q : RV), l[i]? = some t -> rs[i]? = some q -> LoneV w (F (.inl i)) t q)
  (cm : ∀ (i : Nat) (p : ByteArray × JV) (q : RM), m[i]? = some p -> rms[i]? = some q -> LoneV w (F (.inr i)) p.2 q.v)
  (ff : ∀ a k, F a k -> S k /\ (Value.slice r.pl r.nl r.cl).ownBlock ≠ some k /\ (Value.slice r.pm r.nm r.cm).ownBlock ≠ some k)
  (dd : ∀ a b k, F a k -> F b k -> a = b) : LoneV w S (.mk r.k r.n r.s l m) r
theorem LoneV.same {w w' : World} {S : Nat -> Prop} {t : JV} {r : RV} (h : LoneV w S t r) (hk : ∀ k, S k -> w'.heap[k]? = w.heap[k]?) : LoneV w' S t r := by
 induction h with
 | mk F hl hm sl sm dr el em cn cl cm ff dd ih1 ih2 =>
   exact .mk F (hl.same fun k e => hk k (sl k e)) (hm.same fun k e => hk k (sm k e)) sl sm dr el em cn
    (fun i t q h1 h2 => ih1 i t q h1 h2 fun k hf => hk k (ff _ k hf).1) (fun i p q h1 h2 => ih2 i p q h1 h2 fun k hf => hk k (ff _ k hf).1) ff dd
theorem LoneV.mono {w : World} {S S' : Nat -> Prop} {t : JV} {r : RV} (h : LoneV w S t r) (hs : ∀ k, S k -> S' k) : LoneV w S' t r := by
 cases h with
 | mk F hl hm sl sm dr el em cn cl cm ff dd =>
   exact .mk F hl hm (fun k e => hs k (sl k e)) (fun k e => hs k (sm k e)) dr el em cn cl cm (fun a k hf => ⟨hs k (ff a k hf).1, (ff a k hf).2⟩) dd
theorem LoneV.under {w w' : World} {S : Nat -> Prop} {B : Nat} {t : JV} {r : RV} (h : LoneV w S t r) (hb : Below B w w') (hs : ∀ k, S k -> k < B) : LoneV w' S t r := h.same fun k hk => hb.block k (hs k hk)
theorem LoneV.tree {w : World} {S : Nat -> Prop} {t : JV} {r : RV} (h : LoneV w S t r) : TreeOf w w.heap.size t r := by
 induction h with
 | mk F hl hm sl sm dr el em cn cl cm ff dd ih1 ih2 => exact .mk (hl.rd codecV) el ih1 (hm.rd codecM) em cn ih2
def Fresh (w w' : World) (k : Nat) : Prop := w.heap.size <= k /\ k < w'.heap.size
structure Parts (W : World) (b0 g : Nat) (D : Nat ⊕ Nat -> Prop) (l : List JV) (m : List (ByteArray × JV)) (ds : List RV) (dms : List RM) (r : RV) (F : Nat ⊕ Nat -> Nat -> Prop) : Prop where
 box : VAt W g r
 ownL : Own W b0 31 encV 5 (.slice r.pl r.nl r.cl) ds
 ownM : Own W b0 81 encM 6 (.slice r.pm r.nm r.cm) dms
 bL : ∀ k, (Value.slice r.pl r.nl r.cl).ownBlock = some k -> k ≠ g
 bM : ∀ k, (Value.slice r.pm r.nm r.cm).ownBlock = some k -> k ≠ g
 dr : ∀ k, (Value.slice r.pl r.nl r.cl).ownBlock = some k -> (Value.slice r.pm r.nm r.cm).ownBlock ≠ some k
 los : b0 <= W.heap.size
 el : l.length = ds.length
 em : m.length = dms.length
 cn : ∀ (i : Nat) (p : ByteArray × JV) (q : RM), m[i]? = some p -> dms[i]? = some q -> p.1 = q.name
 cl : ∀ (i : Nat) (t : JV) (q : RV), D (.inl i) -> l[i]? = some t -> ds[i]? = some q -> LoneV W (F (.inl i)) t q
 cm : ∀ (i : Nat) (p : ByteArray × JV) (q : RM), D (.inr i) -> m[i]? = some p -> dms[i]? = some q -> LoneV W (F (.inr i)) p.2 q.v
 ff : ∀ a k, F a k -> (b0 <= k /\ k < W.heap.size) /\ k ≠ g /\ (Value.slice r.pl r.nl r.cl).ownBlock ≠ some k /\ (Value.slice r.pm r.nm r.cm).ownBlock ≠ some k
 dd : ∀ a b k, F a k -> F b k -> a = b
theorem Parts.drewN {W : World} {b0 g : Nat} {D : Nat ⊕ Nat -> Prop} {l : List JV} {m : List (ByteArray × JV)} {ds : List RV} {dms : List RM} {r : RV} {F : Nat ⊕ Nat -> Nat -> Prop} (h : Parts W b0 g D l m ds dms r F) (n : Nat) : Parts (W.drewN n) b0 g D l m ds dms r F :=
 ⟨h.box, h.ownL, h.ownM, h.bL, h.bM, h.dr, h.los, h.el, h.em, h.cn, fun i t q h1 h2 h3 => (h.cl i t q h1 h2 h3).same fun _ _ => rfl, fun i t q h1 h2 h3 => (h.cm i t q h1 h2 h3).same fun _ _ => rfl, h.ff, h.dd⟩
theorem Parts.below {W W' : World} {b0 g : Nat} {D : Nat ⊕ Nat -> Prop} {l : List JV} {m : List (ByteArray × JV)} {ds : List RV} {dms : List RM} {r : RV} {F : Nat ⊕ Nat -> Nat -> Prop} (h : Parts W b0 g D l m ds dms r F) (hb : Below W.heap.size W W') : Parts W' b0 g D l m ds dms r F :=
 have hs := hb.size
 ⟨h.box.under hb h.box.lt, h.ownL.below hb (Nat.le_refl _), h.ownM.below hb (Nat.le_refl _), h.bL, h.bM, h.dr, Nat.le_trans h.los hs, h.el, h.em, h.cn, fun i t q h1 h2 h3 => (h.cl i t q h1 h2 h3).under hb fun k hk => (h.ff _ k hk).1.2, fun i t q h1 h2 h3 => (h.cm i t q h1 h2 h3).under hb fun k hk => (h.ff _ k hk).1.2, fun a k hk => ⟨⟨(h.ff a k hk).1.1, Nat.lt_of_lt_of_le (h.ff a k hk).1.2 hs⟩, (h.ff a k hk).2⟩, h.dd⟩
theorem Parts.whole {W : World} {b0 g : Nat} {D : Nat ⊕ Nat -> Prop} {l : List JV} {m : List (ByteArray × JV)} {ds : List RV} {dms : List RM} {r : RV} {F : Nat ⊕ Nat -> Nat -> Prop} (h : Parts W b0 g D l m ds dms r F) (hD : ∀ i, (i < l.length -> D (.inl i)) /\ (i < m.length -> D (.inr i))) : LoneV W (fun k => b0 <= k /\ k < W.heap.size) (.mk r.k r.n r.s l m) r :=
 .mk F (h.ownL.mono (Nat.zero_le _)) (h.ownM.mono (Nat.zero_le _)) (fun k e => h.ownL.lt k e) (fun k e => h.ownM.lt k e) h.dr h.el h.em h.cn
  (fun i t q h1 h2 => h.cl i t q ((hD i).1 (List.getElem?_eq_some_iff.1 h1).1) h1 h2) (fun i p q h1 h2 => h.cm i p q ((hD i).2 (List.getElem?_eq_some_iff.1 h1).1) h1 h2)
  (fun a k hk => ⟨(h.ff a k hk).1, (h.ff a k hk).2.2⟩) h.dd
end
section
open Go Go.RowKit Go.OpenShut
section
variable {α : Type} {enc : α -> List Value} {sz : Nat}
def RdI (w : World) (S : Nat -> Prop) (enc : α -> List Value) (sz : Nat) (v : Value) (xs : List α) : Prop :=
 ∃ (p : Option Addr) (cap : Nat), v = .slice p xs.length cap /\ xs.length <= cap /\ cap <= maxLen /\ (p = none -> cap = 0) /\
   ∀ a, p = some a -> 0 < xs.length -> ∃ b o, a = ⟨b, o, none⟩ /\ S b /\ RowAt w b o enc sz xs
theorem RdI.same {w w' : World} {S : Nat -> Prop} {v : Value} {xs : List α} (h : RdI w S enc sz v xs) (hk : ∀ k, S k -> w'.heap[k]? = w.heap[k]?) : RdI w' S enc sz v xs := by
 obtain ⟨p, cap, h1, h2, h3, h4, h5⟩ := h
 refine ⟨p, cap, h1, h2, h3, h4, fun a ha h0 => ?_⟩
 obtain ⟨b, o, e, hb, hr⟩ := h5 a ha h0
 exact ⟨b, o, e, hb, fun i x hx j u hu => (World.cell?_of_block (w := w) (a := ⟨b, o + i * sz + j, none⟩) (hk b hb)).trans (hr i x hx j u hu)⟩
theorem RdI.mono {w : World} {S S' : Nat -> Prop} {v : Value} {xs : List α} (h : RdI w S enc sz v xs) (hs : ∀ k, S k -> S' k) : RdI w S' enc sz v xs := by
 obtain ⟨p, cap, h1, h2, h3, h4, h5⟩ := h
 refine ⟨p, cap, h1, h2, h3, h4, fun a ha h0 => ?_⟩
 obtain ⟨b, o, e, hb, hr⟩ := h5 a ha h0
 exact ⟨b, o, e, hs b hb, hr⟩
theorem RdI.rd {w : World} {S : Nat -> Prop} {B : Nat} {v : Value} {xs : List α} (h : RdI w S enc sz v xs) (hs : ∀ k, S k -> k < B) : Rd w B enc sz v xs := by
 obtain ⟨p, cap, h1, h2, h3, h4, h5⟩ := h
 refine ⟨p, cap, h1, h2, h3, h4, fun a ha h0 => ?_⟩
 obtain ⟨b, o, e, hb, hr⟩ := h5 a ha h0
 exact ⟨b, o, e, hs b hb, hr⟩
theorem RdI.nil (w : World) (S : Nat -> Prop) : RdI w S enc sz (.slice none 0 0) ([] : List α) := ⟨none, 0, rfl, Nat.le_refl _, Nat.zero_le _, fun _ => rfl, fun a h _ => by cases h⟩
theorem Own.rdI (C : Codec enc sz) {w : World} {base : Nat} {e : TypeId} {S : Nat -> Prop} {v : Value} {xs : List α} (h : Own w base e enc sz v xs) (hs : ∀ k, v.ownBlock = some k -> S k) : RdI w S enc sz v xs := by
 have hrd := h.rd C
 obtain ⟨p, cap, h1, h2, h3, h4, h5⟩ := hrd
 refine ⟨p, cap, h1, h2, h3, h4, fun a ha h0 => ?_⟩
 obtain ⟨b, o, e, hb, hr⟩ := h5 a ha h0
 exact ⟨b, o, e, hs b (by rw [h1, ha, e]; rfl), hr⟩
end
inductive TreeS (w : World) (S : Nat -> Prop) : JV -> RV -> Prop
 | mk {r : RV} {l : List JV} {m : List (ByteArray × JV)} {rs : List RV} {rms : List RM} (hl : RdI w S encV 5 (.slice r.pl r.nl r.cl) rs) (el : l.length = rs.length) (cl : ∀ (i : Nat) (t : JV) (q : RV), l[i]? = some t -> rs[i]? = some q -> TreeS w S t q)
  (hm : RdI w S encM 6 (.slice r.pm r.nm r.cm) rms) (em : m.length = rms.length) (cn : ∀ (i : Nat) (p : ByteArray × JV) (q : RM), m[i]? = some p -> rms[i]? = some q -> p.1 = q.name)
  (cm : ∀ (i : Nat) (p : ByteArray × JV) (q : RM), m[i]? = some p -> rms[i]? = some q -> TreeS w S p.2 q.v) : TreeS w S (.mk r.k r.n r.s l m) r
theorem TreeS.same {w w' : World} {S : Nat -> Prop} {t : JV} {r : RV} (h : TreeS w S t r) (hk : ∀ k, S k -> w'.heap[k]? = w.heap[k]?) : TreeS w' S t r := by
 induction h with
 | mk hl el cl hm em cn cm ih1 ih2 => exact .mk (hl.same hk) el ih1 (hm.same hk) em cn ih2
theorem TreeS.mono {w : World} {S S' : Nat -> Prop} {t : JV} {r : RV} (h : TreeS w S t r) (hs : ∀ k, S k -> S' k) : TreeS w S' t r := by
 induction h with
 | mk hl el cl hm em cn cm ih1 ih2 => exact .mk (hl.mono hs) el ih1 (hm.mono hs) em cn ih2
theorem TreeS.tree {w : World} {S : Nat -> Prop} {B : Nat} {t : JV} {r : RV} (h : TreeS w S t r) (hs : ∀ k, S k -> k < B) : TreeOf w B t r := by
 induction h with
 | mk hl el cl hm em cn cm ih1 ih2 => exact .mk (hl.rd hs) el ih1 (hm.rd hs) em cn ih2
theorem TreeS.leaf (w : World) (S : Nat -> Prop) (k n : Int) (s : ByteArray) : TreeS w S (.mk k n s [] []) ⟨k, n, s, none, 0, 0, none, 0, 0⟩ :=
 .mk (r := ⟨k, n, s, none, 0, 0, none, 0, 0⟩) (rs := []) (rms := []) (RdI.nil _ _) rfl (fun i t q h => by simp at h) (RdI.nil _ _) rfl (fun i p q h => by simp at h) (fun i p q h => by simp at h)
structure GrL (w : World) (base : Nat) (v : Value) (l : List JV) : Prop where
 ex : ∃ rs, Own w base 31 encV 5 v rs /\ l.length = rs.length /\ ∀ (i : Nat) (t : JV) (q : RV), l[i]? = some t -> rs[i]? = some q -> TreeS w (fun k => base <= k /\ k < w.heap.size /\ v.ownBlock ≠ some k) t q
structure GrM (w : World) (base : Nat) (v : Value) (m : List (ByteArray × JV)) : Prop where
 ex : ∃ rms, Own w base 81 encM 6 v rms /\ m.length = rms.length /\ (∀ (i : Nat) (p : ByteArray × JV) (q : RM), m[i]? = some p -> rms[i]? = some q -> p.1 = q.name) /\ ∀ (i : Nat) (p : ByteArray × JV) (q : RM), m[i]? = some p -> rms[i]? = some q -> TreeS w (fun k => base <= k /\ k < w.heap.size /\ v.ownBlock ≠ some k) p.2 q.v
theorem GrL.nil (w : World) (base : Nat) : GrL w base (.slice none 0 0) [] := ⟨[], Own.nil _ _ _, rfl, fun i t q h => by simp at h⟩
theorem GrM.nil (w : World) (base : Nat) : GrM w base (.slice none 0 0) [] := ⟨[], Own.nil _ _ _, rfl, fun i t q h => by simp at h, fun i t q h => by simp at h⟩
theorem GrL.out {w w' : World} {base : Nat} {v : Value} {l : List JV} (h : GrL w base v l) (hk : ∀ k, base <= k -> k < w.heap.size -> w'.heap[k]? = w.heap[k]?) (hs : w.heap.size <= w'.heap.size) : GrL w' base v l := by
 obtain ⟨rs, h1, h2, h3⟩ := h.ex
 exact ⟨rs, h1.same (fun k e => hk k (h1.lt k e).1 (h1.lt k e).2), h2, fun i t q a b => ((h3 i t q a b).same (fun k e => hk k e.1 e.2.1)).mono (fun k e => ⟨e.1, by omega, e.2.2⟩)⟩
theorem GrM.out {w w' : World} {base : Nat} {v : Value} {m : List (ByteArray × JV)} (h : GrM w base v m) (hk : ∀ k, base <= k -> k < w.heap.size -> w'.heap[k]? = w.heap[k]?) (hs : w.heap.size <= w'.heap.size) : GrM w' base v m := by
 obtain ⟨rs, h1, h2, h4, h3⟩ := h.ex
 exact ⟨rs, h1.same (fun k e => hk k (h1.lt k e).1 (h1.lt k e).2), h2, h4, fun i t q a b => ((h3 i t q a b).same (fun k e => hk k e.1 e.2.1)).mono (fun k e => ⟨e.1, by omega, e.2.2⟩)⟩
theorem snoc_get {α : Type} {l : List α} {x a : α} {j : Nat} (h : (l ++ [x])[j]? = some a) : (j < l.length /\ l[j]? = some a) \/ (j = l.length /\ a = x) := by
 by_cases hj : j < l.length
 ·rw [List.getElem?_append_left hj] at h; exact .inl ⟨hj, h⟩
 ·rw [List.getElem?_append_right (by omega)] at h
  have h2 : j - l.length = 0 := by have := (List.getElem?_eq_some_iff.1 h).1; simp at this; omega
  rw [h2] at h
  simp at h
  exact .inr ⟨by omega, h.symm⟩
theorem GrL.snoc {w1 w2 : World} {base : Nat} {v v2 : Value} {l : List JV} {t : JV} {q : RV} {rs : List RV} (h1 : Own w1 base 31 encV 5 v rs) (h2 : l.length = rs.length) (h3 : ∀ (i : Nat) (t : JV) (q : RV), l[i]? = some t -> rs[i]? = some q -> TreeS w1 (fun k => base <= k /\ k < w1.heap.size /\ v.ownBlock ≠ some k) t q)
 (ht : TreeS w1 (fun k => base <= k /\ k < w1.heap.size /\ v.ownBlock ≠ some k) t q) (ho : Own w2 base 31 encV 5 v2 (rs ++ [q])) (hg : w1.grownBy w2 v.ownBlock) (hat : ∀ k, v2.ownBlock = some k -> v.ownBlock = some k \/ w1.heap.size <= k) : GrL w2 base v2 (l ++ [t]) := by
 have hs := hg.size
 have key : ∀ (t : JV) (q : RV), TreeS w1 (fun k => base <= k /\ k < w1.heap.size /\ v.ownBlock ≠ some k) t q -> TreeS w2 (fun k => base <= k /\ k < w2.heap.size /\ v2.ownBlock ≠ some k) t q :=
  fun t q h => (h.same (fun k e => hg.block k e.2.1 (fun e2 => e.2.2 e2.symm))).mono (fun k e => ⟨e.1, by omega, fun e2 => by
   rcases hat k e2 with h | h
   ·exact e.2.2 h
   ·omega⟩)
 refine ⟨rs ++ [q], ho, by simp [h2], fun i t' q' a b => ?_⟩
 rcases snoc_get a with ⟨ha, a⟩ | ⟨ha, rfl⟩
 ·rcases snoc_get b with ⟨hb, b⟩ | ⟨hb, _⟩
  ·exact key _ _ (h3 i t' q' a b)
  ·omega
 ·rcases snoc_get b with ⟨hb, b⟩ | ⟨hb, rfl⟩
  ·omega
  ·exact key _ _ ht
theorem GrM.snoc {w1 w2 : World} {base : Nat} {v v2 : Value} {m : List (ByteArray × JV)} {n : ByteArray} {t : JV} {q : RV} {rms : List RM} (h1 : Own w1 base 81 encM 6 v rms) (h2 : m.length = rms.length) (h4 : ∀ (i : Nat) (p : ByteArray × JV) (q : RM), m[i]? = some p -> rms[i]? = some q -> p.1 = q.name)
 (h3 : ∀ (i : Nat) (p : ByteArray × JV) (q : RM), m[i]? = some p -> rms[i]? = some q -> TreeS w1 (fun k => base <= k /\ k < w1.heap.size /\ v.ownBlock ≠ some k) p.2 q.v)
 (ht : TreeS w1 (fun k => base <= k /\ k < w1.heap.size /\ v.ownBlock ≠ some k) t q) (ho : Own w2 base 81 encM 6 v2 (rms ++ [⟨n, q⟩])) (hg : w1.grownBy w2 v.ownBlock) (hat : ∀ k, v2.ownBlock = some k -> v.ownBlock = some k \/ w1.heap.size <= k) : GrM w2 base v2 (m ++ [(n, t)]) := by
 have hs := hg.size
 have key : ∀ (t : JV) (q : RV), TreeS w1 (fun k => base <= k /\ k < w1.heap.size /\ v.ownBlock ≠ some k) t q -> TreeS w2 (fun k => base <= k /\ k < w2.heap.size /\ v2.ownBlock ≠ some k) t q :=
  fun t q h => (h.same (fun k e => hg.block k e.2.1 (fun e2 => e.2.2 e2.symm))).mono (fun k e => ⟨e.1, by omega, fun e2 => by
   rcases hat k e2 with h | h
   ·exact e.2.2 h
   ·omega⟩)
 refine ⟨rms ++ [⟨n, q⟩], ho, by simp [h2], fun i p' q' a b => ?_, fun i p' q' a b => ?_⟩
 ·rcases snoc_get a with ⟨ha, a⟩ | ⟨ha, rfl⟩
  ·rcases snoc_get b with ⟨hb, b⟩ | ⟨hb, _⟩
   ·exact h4 i p' q' a b
   ·omega
  ·rcases snoc_get b with ⟨hb, b⟩ | ⟨hb, rfl⟩
   ·omega
   ·rfl
 ·rcases snoc_get a with ⟨ha, a⟩ | ⟨ha, rfl⟩
  ·rcases snoc_get b with ⟨hb, b⟩ | ⟨hb, _⟩
   ·exact key _ _ (h3 i p' q' a b)
   ·omega
  ·rcases snoc_get b with ⟨hb, b⟩ | ⟨hb, rfl⟩
   ·omega
   ·exact key _ _ ht
theorem GrL.whole {w : World} {base : Nat} {p : Option Addr} {n c : Nat} {l : List JV} (h : GrL w base (.slice p n c) l) : TreeS w (fun k => base <= k /\ k < w.heap.size) (.mk 5 0 ⟨#[]⟩ l []) ⟨5, 0, ⟨#[]⟩, p, n, c, none, 0, 0⟩ := by
 obtain ⟨rs, h1, h2, h3⟩ := h.ex
 exact .mk (r := ⟨5, 0, ⟨#[]⟩, p, n, c, none, 0, 0⟩) (rs := rs) (rms := []) (h1.rdI codecV (fun k e => h1.lt k e)) h2 (fun i t q a b => (h3 i t q a b).mono (fun k e => ⟨e.1, e.2.1⟩)) (RdI.nil _ _) rfl (fun i p q h => by simp at h) (fun i p q h => by simp at h)
theorem GrM.whole {w : World} {base : Nat} {p : Option Addr} {n c : Nat} {m : List (ByteArray × JV)} (h : GrM w base (.slice p n c) m) : TreeS w (fun k => base <= k /\ k < w.heap.size) (.mk 6 0 ⟨#[]⟩ [] m) ⟨6, 0, ⟨#[]⟩, none, 0, 0, p, n, c⟩ := by
 obtain ⟨rs, h1, h2, h4, h3⟩ := h.ex
 exact .mk (r := ⟨6, 0, ⟨#[]⟩, none, 0, 0, p, n, c⟩) (rs := []) (rms := rs) (RdI.nil _ _) rfl (fun i p q h => by simp at h) (h1.rdI codecM (fun k e => h1.lt k e)) h2 h4 (fun i t q a b => (h3 i t q a b).mono (fun k e => ⟨e.1, e.2.1⟩))
def textR (s : ByteArray) : RV := ⟨4, 0, s, none, 0, 0, none, 0, 0⟩
def textJ (s : ByteArray) : JV := .mk 4 0 s [] []
theorem textR_of (w : World) (S : Nat -> Prop) (s : ByteArray) : TreeS w S (textJ s) (textR s) := TreeS.leaf w S 4 0 s
theorem textV_any (s : ByteArray) (w : World) : Calls Tryz.prog 36 #[.string s] w fun e w' => e = .returned (RV.val (textR s)) /\ Below w.heap.size w w' := by
 have hZ0 : VAt (w.alloc (.cells #[.int .i64 0, .int .i64 0, .string ⟨#[]⟩, .slice none 0 0, .slice none 0 0] 31)) w.heap.size RV.zero := heap_alloc_at rfl
 have hB0 : Below w.heap.size w (w.alloc (.cells #[.int .i64 0, .int .i64 0, .string ⟨#[]⟩, .slice none 0 0, .slice none 0 0] 31)) := (Below.refl _ _).alloc (Nat.le_refl _) _
 go_enter Tryz.func36, Tryz.ntmps36
 go_upto_region 1 with fail
 obtain ⟨W0, hW0⟩ : ∃ W0, (w.alloc (.cells #[.int .i64 0, .int .i64 0, .string ⟨#[]⟩, .slice none 0 0, .slice none 0 0] 31)) = W0 := ⟨_, rfl⟩
 rw [hW0] at hZ0 hB0 ⊢
 clear hW0
 obtain ⟨z0, z1, z2, z3, z4⟩ := hZ0.cells5
 dsimp only [RV.zero] at z0 z1 z2 z3 z4
 have y0 := hZ0.frozen 0
 have y1 := hZ0.frozen 1
 have y2 := hZ0.frozen 2
 have y3 := hZ0.frozen 3
 have y4 := hZ0.frozen 4
 have HB := Lib.hid hB0
 clear hZ0 hB0
 go_wp2_with fail
 refine bodyPost_ret (v := RV.val ⟨4, 0, s, none, 0, 0, none, 0, 0⟩) (by simp [results, Tryz.results36, go_sem, z0, z1, z2, z3, z4]) rfl ⟨rfl, ?_⟩
 exact Below.stored HB.out (Nat.le_refl _) ⟨4, 0, s, none, 0, 0, none, 0, 0⟩
theorem textV25_any (s : ByteArray) (w : World) : Calls Tryz.prog 43 #[.string s] w fun e w' => e = .returned (RV.val (textR s)) /\ Below w.heap.size w w' := by
 have hZ0 : VAt (w.alloc (.cells #[.int .i64 0, .int .i64 0, .string ⟨#[]⟩, .slice none 0 0, .slice none 0 0] 31)) w.heap.size RV.zero := heap_alloc_at rfl
 have hB0 : Below w.heap.size w (w.alloc (.cells #[.int .i64 0, .int .i64 0, .string ⟨#[]⟩, .slice none 0 0, .slice none 0 0] 31)) := (Below.refl _ _).alloc (Nat.le_refl _) _
 go_enter Tryz.func43, Tryz.ntmps43
 go_upto_region 1 with fail
 obtain ⟨W0, hW0⟩ : ∃ W0, (w.alloc (.cells #[.int .i64 0, .int .i64 0, .string ⟨#[]⟩, .slice none 0 0, .slice none 0 0] 31)) = W0 := ⟨_, rfl⟩
 rw [hW0] at hZ0 hB0 ⊢
 clear hW0
 obtain ⟨z0, z1, z2, z3, z4⟩ := hZ0.cells5
 dsimp only [RV.zero] at z0 z1 z2 z3 z4
 have y0 := hZ0.frozen 0
 have y1 := hZ0.frozen 1
 have y2 := hZ0.frozen 2
 have y3 := hZ0.frozen 3
 have y4 := hZ0.frozen 4
 have HB := Lib.hid hB0
 clear hZ0 hB0
 go_wp2_with fail
 refine bodyPost_ret (v := RV.val ⟨4, 0, s, none, 0, 0, none, 0, 0⟩) (by simp [results, Tryz.results43, go_sem, z0, z1, z2, z3, z4]) rfl ⟨rfl, ?_⟩
 exact Below.stored HB.out (Nat.le_refl _) ⟨4, 0, s, none, 0, 0, none, 0, 0⟩
abbrev RM.obj (r : RM) : Obj := .cells #[.string r.name, .int .i64 r.v.k, .int .i64 r.v.n, .string r.v.s, .slice r.v.pl r.v.nl r.v.cl, .slice r.v.pm r.v.nm r.v.cm] 81
theorem member_any (name : ByteArray) (r : RV) (w : World) : Calls Tryz.prog 35 #[.string name, RV.val r] w fun e w' => e = .returned (RM.val ⟨name, r⟩) /\ Below w.heap.size w w' := by
 obtain ⟨k, n, s, pl, nl, cl, pm, nm, cm⟩ := r
 have hV0 : VAt ((w.alloc (.cells #[.int .i64 k, .int .i64 n, .string s, .slice pl nl cl, .slice pm nm cm] 31)).alloc (.cells #[.string ⟨#[]⟩, .int .i64 0, .int .i64 0, .string ⟨#[]⟩, .slice none 0 0, .slice none 0 0] 81)) w.heap.size ⟨k, n, s, pl, nl, cl, pm, nm, cm⟩ := heap_alloc_lt (by simp) (heap_alloc_at rfl)
 have hZ0 : ((w.alloc (.cells #[.int .i64 k, .int .i64 n, .string s, .slice pl nl cl, .slice pm nm cm] 31)).alloc (.cells #[.string ⟨#[]⟩, .int .i64 0, .int .i64 0, .string ⟨#[]⟩, .slice none 0 0, .slice none 0 0] 81)).heap[w.heap.size + 1]? = some (.cells #[.string ⟨#[]⟩, .int .i64 0, .int .i64 0, .string ⟨#[]⟩, .slice none 0 0, .slice none 0 0] 81) := heap_alloc_at (by simp)
 have hB0 : Below w.heap.size w ((w.alloc (.cells #[.int .i64 k, .int .i64 n, .string s, .slice pl nl cl, .slice pm nm cm] 31)).alloc (.cells #[.string ⟨#[]⟩, .int .i64 0, .int .i64 0, .string ⟨#[]⟩, .slice none 0 0, .slice none 0 0] 81)) := ((Below.refl _ _).alloc (Nat.le_refl _) _).alloc (by simp) _
 go_enter Tryz.func35, Tryz.ntmps35
 go_upto_region 1 with fail
 obtain ⟨W0, hW0⟩ : ∃ W0, ((w.alloc (.cells #[.int .i64 k, .int .i64 n, .string s, .slice pl nl cl, .slice pm nm cm] 31)).alloc (.cells #[.string ⟨#[]⟩, .int .i64 0, .int .i64 0, .string ⟨#[]⟩, .slice none 0 0, .slice none 0 0] 81)) = W0 := ⟨_, rfl⟩
 rw [hW0] at hV0 hZ0 hB0 ⊢
 clear hW0
 obtain ⟨v0, v1, v2, v3, v4⟩ := hV0.cells5
 dsimp only at v0 v1 v2 v3 v4
 have z0 : W0.cell? ⟨w.heap.size + 1, 0, none⟩ = some (.string ⟨#[]⟩) := (cell_of_row W0 (w.heap.size + 1) 0 _ _ _ hZ0).trans rfl
 have z1 : W0.cell? ⟨w.heap.size + 1, 1, none⟩ = some (.int .i64 0) := (cell_of_row W0 (w.heap.size + 1) 1 _ _ _ hZ0).trans rfl
 have z2 : W0.cell? ⟨w.heap.size + 1, 2, none⟩ = some (.int .i64 0) := (cell_of_row W0 (w.heap.size + 1) 2 _ _ _ hZ0).trans rfl
 have z3 : W0.cell? ⟨w.heap.size + 1, 3, none⟩ = some (.string ⟨#[]⟩) := (cell_of_row W0 (w.heap.size + 1) 3 _ _ _ hZ0).trans rfl
 have z4 : W0.cell? ⟨w.heap.size + 1, 4, none⟩ = some (.slice none 0 0) := (cell_of_row W0 (w.heap.size + 1) 4 _ _ _ hZ0).trans rfl
 have z5 : W0.cell? ⟨w.heap.size + 1, 5, none⟩ = some (.slice none 0 0) := (cell_of_row W0 (w.heap.size + 1) 5 _ _ _ hZ0).trans rfl
 have yy : ∀ j, W0.frozen? ⟨w.heap.size + 1, j, none⟩ = false := fun j => by simp [World.frozen?, hZ0]
 have y0 := yy 0
 have y1 := yy 1
 have y2 := yy 2
 have y3 := yy 3
 have y4 := yy 4
 have y5 := yy 5
 have HB := Lib.hid hB0
 clear hV0 hZ0 hB0 yy
 go_wp2_with fail
 refine bodyPost_ret (v := RM.val ⟨name, ⟨k, n, s, pl, nl, cl, pm, nm, cm⟩⟩) (by simp [results, Tryz.results35, go_sem, z0, z1, z2, z3, z4, z5]) rfl ⟨rfl, ?_⟩
 exact Below.setCell (Below.setCell (Below.setCell (Below.setCell (Below.setCell (Below.setCell HB.out (Nat.le_succ _) _) (Nat.le_succ _) _) (Nat.le_succ _) _) (Nat.le_succ _) _) (Nat.le_succ _) _) (Nat.le_succ _) _
def idN : ByteArray := ⟨#[105, 100]⟩
def nameIn (names : JV) (n : ByteArray) : Bool := decide (names.k ≠ 5) || names.l.any (fun x => decide (x.k = 4) && decide (x.s = n))
def showP (names : JV) (p : ByteArray × JV) : Bool := nameIn names p.1 && decide (p.1 ≠ idN)
def showM (v names : JV) : List (ByteArray × JV) := v.m.filter (showP names)
def showJ (id : ByteArray) (v names : JV) : JV := .mk 6 0 ⟨#[]⟩ [] ((idN, textJ id) :: showM v names)
end
section
open Go Go.RowKit
structure Tok where
 kind : Int
 n : Int
 s : ByteArray
 pos : Nat
def encTok (t : Tok) : List Value := [.int .i64 t.kind, .int .i64 t.n, .string t.s, .int .i64 t.pos]
theorem codecTok : Codec encTok 4 := ⟨fun _ => rfl, fun x u hu => by
 simp only [encTok, List.mem_cons, List.not_mem_nil, or_false] at hu
 rcases hu with rfl | rfl | rfl | rfl <;> rfl, by decide⟩
def okCh (c : UInt8) : Bool := decide (32 <= c.toNat) && decide (c.toNat < 128) && decide (c.toNat ≠ 34) && decide (c.toNat ≠ 92)
def spCh (c : UInt8) : Bool := decide (c.toNat = 32) || decide (c.toNat = 9) || decide (c.toNat = 10) || decide (c.toNat = 13)
def mkCh (c : UInt8) : Bool := decide (c.toNat = 123) || decide (c.toNat = 125) || decide (c.toNat = 91) || decide (c.toNat = 93) || decide (c.toNat = 58) || decide (c.toNat = 44)
def wTrue : ByteArray := ⟨#[116, 114, 117, 101]⟩
def wFalse : ByteArray := ⟨#[102, 97, 108, 115, 101]⟩
def wNull : ByteArray := ⟨#[110, 117, 108, 108]⟩
def partCh (c : UInt8) : Bool := decide (97 <= c.toNat) && decide (c.toNat <= 122) || decide (65 <= c.toNat) && decide (c.toNat <= 90) || decide (48 <= c.toNat) && decide (c.toNat <= 57) || decide (c.toNat = 95)
def wordAt (s : ByteArray) (i : Nat) (w : ByteArray) : Bool := decide ((s.data.toList.drop i).take w.size = w.data.toList) && (decide (i + w.size = s.size) || (decide (i + w.size < s.size) && !partCh s[i + w.size]!))
def cutB (s : ByteArray) (a b : Nat) : ByteArray := ⟨((s.data.toList.drop a).take (b - a)).toArray⟩
def endT (s : ByteArray) : Nat -> Nat -> Nat
 | 0, i => i
 | f + 1, i => if decide (i < s.size) && okCh s[i]! then endT s f (i + 1) else i
inductive Toks (s : ByteArray) : Nat -> List Tok -> Prop
 | done : Toks s s.size []
 | space {i : Nat} {l : List Tok} : i < s.size -> spCh s[i]! = true -> Toks s (i + 1) l -> Toks s i l
 | mark {i : Nat} {l : List Tok} : i < s.size -> mkCh s[i]! = true -> Toks s (i + 1) l -> Toks s i (⟨1, 0, ⟨#[s[i]!]⟩, i⟩ :: l)
 | text {i j : Nat} {l : List Tok} : i < j -> j < s.size -> s[i]!.toNat = 34 -> (∀ k, i < k -> k < j -> okCh s[k]! = true) -> s[j]!.toNat = 34 -> Toks s (j + 1) l -> Toks s i (⟨4, 0, cutB s (i + 1) j, i⟩ :: l)
 | word {i : Nat} {w : ByteArray} {l : List Tok} : w = wTrue \/ w = wFalse \/ w = wNull -> i < s.size -> wordAt s i w = true -> Toks s (i + w.size) l -> Toks s i (⟨2, 0, w, i⟩ :: l)
def toksF (s : ByteArray) : Nat -> Nat -> Option (List Tok)
 | 0, _ => none
 | f + 1, i =>
   if i < s.size then
    if spCh s[i]! then toksF s f (i + 1)
    else if mkCh s[i]! then (toksF s f (i + 1)).map (⟨1, 0, ⟨#[s[i]!]⟩, i⟩ :: ·)
    else if s[i]!.toNat = 34 then
     if decide (endT s s.size (i + 1) < s.size) && decide (s[endT s s.size (i + 1)]!.toNat = 34) then (toksF s f (endT s s.size (i + 1) + 1)).map (⟨4, 0, cutB s (i + 1) (endT s s.size (i + 1)), i⟩ :: ·) else none
    else if wordAt s i wTrue then (toksF s f (i + wTrue.size)).map (⟨2, 0, wTrue, i⟩ :: ·)
    else if wordAt s i wFalse then (toksF s f (i + wFalse.size)).map (⟨2, 0, wFalse, i⟩ :: ·)
    else if wordAt s i wNull then (toksF s f (i + wNull.size)).map (⟨2, 0, wNull, i⟩ :: ·)
    else none
   else if i = s.size then some [] else none
theorem endT_ok (s : ByteArray) : ∀ (f i : Nat), i <= endT s f i /\ ∀ k, i <= k -> k < endT s f i -> okCh s[k]! = true
 | 0, i => ⟨Nat.le_refl _, fun k h1 h2 => by unfold endT at h2; omega⟩
 | f + 1, i => by
   unfold endT
   split
   ·rename_i h
    rw [Bool.and_eq_true] at h
    have ih := endT_ok s f (i + 1)
    refine ⟨by omega, fun k h1 h2 => ?_⟩
    by_cases e : k = i
    ·subst e; exact h.2
    ·exact ih.2 k (by omega) h2
   ·exact ⟨Nat.le_refl _, fun k h1 h2 => by omega⟩
theorem toksF_ok (s : ByteArray) : ∀ (f i : Nat) (l : List Tok), toksF s f i = some l -> Toks s i l
 | 0, i, l, h => by simp [toksF] at h
 | f + 1, i, l, h => by
   unfold toksF at h
   split at h
   ·rename_i h0
    split at h
    ·rename_i h1
     exact .space h0 h1 (toksF_ok s f _ l h)
    ·split at h
     ·rename_i h2
      obtain ⟨l', h3, rfl⟩ := Option.map_eq_some_iff.1 h
      exact .mark h0 h2 (toksF_ok s f _ l' h3)
     ·split at h
      ·rename_i h2
       split at h
       ·rename_i h4
        rw [Bool.and_eq_true] at h4
        obtain ⟨l', h3, rfl⟩ := Option.map_eq_some_iff.1 h
        have he := endT_ok s s.size (i + 1)
        exact .text (by omega) (of_decide_eq_true h4.1) h2 (fun k h5 h6 => he.2 k (by omega) h6) (of_decide_eq_true h4.2) (toksF_ok s f _ l' h3)
       ·cases h
      ·split at h
       ·rename_i h2
        obtain ⟨l', h3, rfl⟩ := Option.map_eq_some_iff.1 h
        exact .word (.inl rfl) h0 h2 (toksF_ok s f _ l' h3)
       ·split at h
        ·rename_i h2
         obtain ⟨l', h3, rfl⟩ := Option.map_eq_some_iff.1 h
         exact .word (.inr (.inl rfl)) h0 h2 (toksF_ok s f _ l' h3)
        ·split at h
         ·rename_i h2
          obtain ⟨l', h3, rfl⟩ := Option.map_eq_some_iff.1 h
          exact .word (.inr (.inr rfl)) h0 h2 (toksF_ok s f _ l' h3)
         ·cases h
   ·split at h
    ·rename_i h1
     cases h
     subst h1
     exact .done
    ·cases h
def isM (t : Tok) (c : UInt8) : Bool := decide (t.kind = 1) && decide (t.s = ⟨#[c]⟩)
def bareJ (k n : Int) : JV := .mk k n ⟨#[]⟩ [] []
mutual
def parV : Nat -> Nat -> Nat -> List Tok -> Option (JV × Nat × List Tok)
 | 0, _, _, _ => none
 | _ + 1, _, _, [] => none
 | f + 1, deep, parts, t :: ts =>
   if 16 < deep \/ 8192 <= parts then none
   else if t.kind = 4 then some (.mk 4 0 t.s [] [], parts + 1, ts)
   else if t.kind = 2 then if t.s = wNull then some (bareJ 1 0, parts + 1, ts) else if t.s = wTrue then some (bareJ 2 1, parts + 1, ts) else some (bareJ 2 0, parts + 1, ts)
   else if isM t 91 then
    match ts with
    | [] => none
    | c :: r => if isM c 93 then some (.mk 5 0 ⟨#[]⟩ [] [], parts + 1, r) else (parL f deep (parts + 1) (c :: r)).map (fun x => (.mk 5 0 ⟨#[]⟩ x.1 [], x.2.1, x.2.2))
   else if isM t 123 then
    match ts with
    | [] => none
    | c :: r => if isM c 125 then some (.mk 6 0 ⟨#[]⟩ [] [], parts + 1, r) else (parM f deep (parts + 1) [] (c :: r)).map (fun x => (.mk 6 0 ⟨#[]⟩ [] x.1, x.2.1, x.2.2))
   else none
def parL : Nat -> Nat -> Nat -> List Tok -> Option (List JV × Nat × List Tok)
 | 0, _, _, _ => none
 | f + 1, deep, parts, ts =>
   match parV f (deep + 1) parts ts with
   | some (v, p, c :: r) => if isM c 93 then some ([v], p, r) else if isM c 44 then (parL f deep p r).map (fun x => (v :: x.1, x.2.1, x.2.2)) else none
   | _ => none
def parM : Nat -> Nat -> Nat -> List ByteArray -> List Tok -> Option (List (ByteArray × JV) × Nat × List Tok)
 | f + 1, deep, parts, known, n :: col :: ts =>
   if (decide (n.kind = 4) && !(known.any (fun x => decide (x = n.s))) && decide (n.s.size <= 1048576) && isM col 58) = true then
    match parV f (deep + 1) parts ts with
    | some (v, p, c :: r) => if isM c 125 then some ([(n.s, v)], p, r) else if isM c 44 then (parM f deep p (n.s :: known) r).map (fun x => ((n.s, v) :: x.1, x.2.1, x.2.2)) else none
    | _ => none
   else none
 | _, _, _, _, _ => none
end
def readF (s : ByteArray) : Option JV := match toksF s (s.size + 1) 0 with
 | none => none
 | some ts => match parV (ts.length + 1) 1 0 ts with
   | some (v, _, []) => some v
   | _ => none
end
end Go.Proofs.YtfgjimpmpckgpaaGreatDoor
