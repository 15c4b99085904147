import Derived.Test.YtfgjimpmpckgpaaGreatDoorSg23
import Derived.Test.YtfgjimpmpckgpaaGreatDoorSg10
import Derived.Test.YtfgjimpmpckgpaaGreatDoorSg22
import Derived.BigQuiet
import Derived.Test.YtfgjimpmpckgpaaGreatDoorSg15
import Derived.Test.YtfgjimpmpckgpaaGreatDoorSg24
import Derived.Test.YtfgjimpmpckgpaaGreatDoorSg25
set_option linter.unusedSimpArgs false
set_option linter.unusedVariables false
set_option maxRecDepth 200000
set_option maxHeartbeats 8000000
namespace Go.Proofs.YtfgjimpmpckgpaaGreatDoor
section
open Go.RowKit Go.OpenShut
def RightBx (b : BoxD) : Prop := Rising b.objs /\ 0 <= b.keep /\ b.keep <= 1000 /\ (b.trail.length : Int) <= b.keep /\ rightB b.trail b.floor b.seq = true /\ ∀ p ∈ sinceL b.floor b.trail, isAt b.objs p.id = p.isb
end
section
open Go Go.RowKit Go.OpenShut
def kindsC : ByteArray := ⟨#[97, 99, 99, 111, 117, 110, 116, 73, 100, 58, 105, 32, 115, 105, 110, 99, 101, 83, 116, 97, 116, 101, 58, 115, 32, 109, 97, 120, 67, 104, 97, 110, 103, 101, 115, 58, 112]⟩
def sinceN : ByteArray := ⟨#[115, 105, 110, 99, 101, 83, 116, 97, 116, 101]⟩
def maxN : ByteArray := ⟨#[109, 97, 120, 67, 104, 97, 110, 103, 101, 115]⟩
def ksC : List (ByteArray × Nat) := [(accIdN, 105), (sinceN, 115), (maxN, 112)]
theorem kindsC_ok : Kinds kindsC ksC := ⟨by decide +kernel, by decide +kernel, by decide +kernel, fun j b h => by
 have hall : kindsC.data.toList.all (fun b => decide (b.toNat < 128)) = true := by decide +kernel
 exact of_decide_eq_true (List.all_eq_true.1 hall b (List.mem_of_getElem? h)), by decide +kernel, by decide +kernel, by decide +kernel⟩
theorem kindsC_okR : KindsR kindsC ksC := ⟨by decide +kernel, by decide +kernel, by decide +kernel, by decide +kernel, by decide +kernel, by decide +kernel⟩
def argS (t : JV) : JV := argG t (sinceN, 115)
def argX (t : JV) : JV := argG t (maxN, 112)
def cannotN : ByteArray := ⟨#[99, 97, 110, 110, 111, 116, 67, 97, 108, 99, 117, 108, 97, 116, 101, 67, 104, 97, 110, 103, 101, 115]⟩
def oldN : ByteArray := ⟨#[111, 108, 100, 83, 116, 97, 116, 101]⟩
def newN : ByteArray := ⟨#[110, 101, 119, 83, 116, 97, 116, 101]⟩
def moreN : ByteArray := ⟨#[104, 97, 115, 77, 111, 114, 101, 67, 104, 97, 110, 103, 101, 115]⟩
def madeN : ByteArray := ⟨#[99, 114, 101, 97, 116, 101, 100]⟩
def chgdN : ByteArray := ⟨#[117, 112, 100, 97, 116, 101, 100]⟩
def goneN : ByteArray := ⟨#[100, 101, 115, 116, 114, 111, 121, 101, 100]⟩
def truthJ (b : Bool) : JV := .mk 2 (if b then 1 else 0) ⟨#[]⟩ [] []
def truthR (b : Bool) : RV := ⟨2, if b then 1 else 0, ⟨#[]⟩, none, 0, 0, none, 0, 0⟩
def chgJ (aid : ByteArray) (card : Bool) (old : JV) (c : ChD) : JV :=
 objJ [(accIdN, textJ aid), (oldN, old), (newN, textJ (stateB card c.toN)), (moreN, truthJ c.more), (madeN, listJ (c.made.map textJ)), (chgdN, listJ (c.chgd.map textJ)), (goneN, listJ (c.gone.map textJ))]
theorem stable_existsC {β : Type} {cf : β -> β -> Int} (C : Cmp cf) (h : ∀ zs : List β, ∃ ys, IsStable cf zs.reverse ys) (xs : List β) : ∃ ys, IsStable cf xs ys := by
 have := h xs.reverse
 rwa [List.reverse_reverse] at this
theorem split_lastC {β : Type} (cf : β -> β -> Int) (z : β) : ∀ l : List β, ∃ A B : List β, l.reverse = A ++ B /\ (∀ a, A.getLast? = some a -> ¬ cf z a < 0) /\ ∀ b ∈ B, cf z b < 0
 | [] => ⟨[], [], rfl, fun a h => by simp at h, fun b h => by simp at h⟩
 | x :: l => by
   by_cases hx : cf z x < 0
   ·obtain ⟨A, B, h1, h2, h3⟩ := split_lastC cf z l
    refine ⟨A, B ++ [x], by rw [List.reverse_cons, h1, List.append_assoc], h2, fun b hb => ?_⟩
    rcases List.mem_append.1 hb with hb | hb
    ·exact h3 b hb
    ·rw [List.mem_singleton.1 hb]; exact hx
   ·exact ⟨l.reverse ++ [x], [], by simp, fun a h => by
     simp at h
     rw [<- h]
     exact hx, fun b h => by simp at h⟩
theorem stable_all {β : Type} {cf : β -> β -> Int} (C : Cmp cf) : ∀ zs : List β, ∃ ys, IsStable cf zs.reverse ys
 | [] => ⟨[], IsStable.nil⟩
 | z :: zs => by
   obtain ⟨ys, hy⟩ := stable_all C zs
   obtain ⟨A, B, h1, h2, h3⟩ := split_lastC cf z ys.reverse
   rw [List.reverse_reverse] at h1
   rw [h1] at hy
   rw [List.reverse_cons]
   exact ⟨_, IsStable.snoc C hy h2 h3⟩
noncomputable def ysOf (b : BoxD) (n : Int) : List Pa := Classical.choose (stable_existsC cmpP (stable_all cmpP) (sinceL n b.trail))
theorem ysOf_stable (b : BoxD) (n : Int) : IsStable cfP (sinceL n b.trail) (ysOf b n) := Classical.choose_spec (stable_existsC cmpP (stable_all cmpP) (sinceL n b.trail))
theorem ysOf_eq {b : BoxD} {n : Int} {ys : List Pa} (h : IsStable cfP (sinceL n b.trail) ys) : ys = ysOf b n := IsStable.unique cmpP h (ysOf_stable b n)
noncomputable def chgN (b : BoxD) (n most : Int) : Option ChD := if n < b.floor \/ b.seq < n then none else some (sncD b.seq (ysOf b n) most)
noncomputable def chgO (b : BoxD) (card : Bool) (s : ByteArray) (most : Int) : Option ChD := (seqI card s).bind (fun n => chgN b n most)
theorem sncRet_fix {w : World} {b : BoxD} {n most : Int} {e : Ending} {w' : World} (h : SncRet w b n most e w') :
 ∃ rc, e = .returned (.tuple #[RC.val rc, .int .i64 (if (chgN b n most).isSome then 0 else 190)]) /\ NewChg w' w.heap.size ((chgN b n most).getD ChD.zero) rc /\ Below w.heap.size w w' := by
 obtain ⟨h1, h2⟩ := h
 unfold chgN
 by_cases hc : n < b.floor \/ b.seq < n
 ·rw [if_pos hc] at h1 ⊢
  exact ⟨RC.zero, h1, NewChg.zero _ _, h2⟩
 ·rw [if_neg hc] at h1 ⊢
  obtain ⟨ys, rc, hy, he, hn⟩ := h1
  rw [ysOf_eq hy] at hn
  exact ⟨rc, he, hn, h2⟩
theorem chgN_told {b : BoxD} {n most : Int} {d : ChD} (hr : RightBx b) (h : chgN b n most = some d) : b.floor <= n /\ n <= b.seq /\ Told b.trail b.seq n most d /\ b.trail.length <= 1000 := by
 unfold chgN at h
 by_cases hc : n < b.floor \/ b.seq < n
 ·rw [if_pos hc] at h; cases h
 ·rw [if_neg hc] at h
  cases h
  obtain ⟨_, _, h3, h4, h5, _⟩ := hr
  exact ⟨by omega, by omega, told_ok h5 (ysOf_stable b n) (by omega), by omega⟩
theorem chgN_safe {b : BoxD} {n most : Int} {d : ChD} (hr : RightBx b) (h : chgN b n most = some d) : 0 <= d.toN /\ d.toN <= 9007199254740991 /\ d.made.length <= 1000 /\ d.chgd.length <= 1000 /\ d.gone.length <= 1000 := by
 obtain ⟨h1, h2, h3, h4⟩ := chgN_told hr h
 obtain ⟨h5, h6, h7, _⟩ := right_head' hr.2.2.2.2.1
 have := h3.ge
 have := h3.le
 have := h3.len
 omega
theorem wf_i64 {n : Int} (h1 : -9223372036854775808 <= n) (h2 : n <= 9223372036854775807) : (Lit.int .i64 n).wf = true := by
 simp [Lit.wf, IntKind.min, IntKind.max, IntKind.bits, IntKind.signed]
 omega
theorem chgN_wf {b : BoxD} {n most : Int} {d : ChD} (hr : RightBx b) (h : chgN b n most = some d) : (Lit.int .i64 d.toN).wf = true := by
 obtain ⟨h1, h2, _⟩ := chgN_safe hr h
 exact wf_i64 (by omega) (by omega)
noncomputable def chgWhy (known card : Bool) (b : BoxD) (t : JV) : ByteArray := if argsB t ksC && known then (if (chgO b card (argS t).s (argX t).n).isSome then ⟨#[]⟩ else cannotN) else whyB known t ksC
noncomputable def chgT (aid : ByteArray) (known card : Bool) (b : BoxD) (t : JV) : JV := if argsB t ksC && known then (match chgO b card (argS t).s (argX t).n with | some c => chgJ aid card (argS t) c | none => JV.zero) else JV.zero
def ChgRetS (w : World) (B : Nat) (aid : ByteArray) (known card : Bool) (b : BoxD) (t : JV) (e : Ending) (w' : World) : Prop := ∃ r, e = .returned (.tuple #[RV.val r, .string (chgWhy known card b t)]) /\ TreeS w' (fun k => k < w'.heap.size /\ (k < B \/ w.heap.size <= k)) (chgT aid known card b t) r /\ Below w.heap.size w w'
theorem ChgRetS.bad {w : World} {B : Nat} {aid : ByteArray} {known card : Bool} {b : BoxD} {t : JV} {w' : World} (h : argsB t ksC = false) (hb : Below w.heap.size w w') : ChgRetS w B aid known card b t (.returned (.tuple #[RV.val RV.zero, .string badN])) w' := by
 refine ⟨RV.zero, ?_, ?_, hb⟩
 ·unfold chgWhy whyB; rw [h]; rfl
 ·unfold chgT; rw [h]; exact TreeS.leaf _ _ 0 0 ⟨#[]⟩
theorem ChgRetS.noAcc {w : World} {B : Nat} {aid : ByteArray} {card : Bool} {b : BoxD} {t : JV} {w' : World} (h : argsB t ksC = true) (hb : Below w.heap.size w w') : ChgRetS w B aid false card b t (.returned (.tuple #[RV.val RV.zero, .string noAccN])) w' := by
 refine ⟨RV.zero, ?_, ?_, hb⟩
 ·unfold chgWhy whyB; rw [h]; rfl
 ·unfold chgT; rw [h]; exact TreeS.leaf _ _ 0 0 ⟨#[]⟩
theorem ChgRetS.cannot {w : World} {B : Nat} {aid : ByteArray} {card : Bool} {b : BoxD} {t : JV} {w' : World} (h : argsB t ksC = true) (hg : chgO b card (argS t).s (argX t).n = none) (hb : Below w.heap.size w w') : ChgRetS w B aid true card b t (.returned (.tuple #[RV.val RV.zero, .string cannotN])) w' := by
 refine ⟨RV.zero, ?_, ?_, hb⟩
 ·unfold chgWhy; rw [h, hg]; rfl
 ·unfold chgT; rw [h, hg]; exact TreeS.leaf _ _ 0 0 ⟨#[]⟩
theorem ChgRetS.ok {w : World} {B : Nat} {aid : ByteArray} {card : Bool} {b : BoxD} {t : JV} {w' : World} {r : RV} {c : ChD} (h : argsB t ksC = true) (hg : chgO b card (argS t).s (argX t).n = some c) (ht : TreeS w' (fun k => k < w'.heap.size /\ (k < B \/ w.heap.size <= k)) (chgJ aid card (argS t) c) r) (hb : Below w.heap.size w w') : ChgRetS w B aid true card b t (.returned (.tuple #[RV.val r, .string ⟨#[]⟩])) w' := by
 refine ⟨r, ?_, ?_, hb⟩
 ·unfold chgWhy; rw [h, hg]; rfl
 ·unfold chgT; rw [h, hg]; exact ht
theorem seven_tree {w : World} {S : Nat -> Prop} {base : Nat} {p : Option Addr} {n c : Nat} {n1 n2 n3 n4 n5 n6 n7 : ByteArray} {t1 t2 t3 t4 t5 t6 t7 : JV} {q1 q2 q3 q4 q5 q6 q7 : RV} (ho : Own w base 81 encM 6 (.slice p n c) [⟨n1, q1⟩, ⟨n2, q2⟩, ⟨n3, q3⟩, ⟨n4, q4⟩, ⟨n5, q5⟩, ⟨n6, q6⟩, ⟨n7, q7⟩]) (hs : ∀ k, base <= k -> k < w.heap.size -> S k)
 (h1 : TreeS w S t1 q1) (h2 : TreeS w S t2 q2) (h3 : TreeS w S t3 q3) (h4 : TreeS w S t4 q4) (h5 : TreeS w S t5 q5) (h6 : TreeS w S t6 q6) (h7 : TreeS w S t7 q7) : TreeS w S (objJ [(n1, t1), (n2, t2), (n3, t3), (n4, t4), (n5, t5), (n6, t6), (n7, t7)]) ⟨6, 0, ⟨#[]⟩, none, 0, 0, p, n, c⟩ := by
 refine .mk (r := ⟨6, 0, ⟨#[]⟩, none, 0, 0, p, n, c⟩) (rs := []) (RdI.nil _ _) rfl (fun i t q h => by simp at h) (ho.rdI codecM (fun k e => hs k (ho.lt k e).1 (ho.lt k e).2)) rfl (fun i y q a b => ?_) (fun i y q a b => ?_)
 ·rcases i with _ | _ | _ | _ | _ | _ | _ | i
  all_goals first | (cases a; cases b; rfl) | (simp at a)
 ·rcases i with _ | _ | _ | _ | _ | _ | _ | i
  ·cases a; cases b; exact h1
  ·cases a; cases b; exact h2
  ·cases a; cases b; exact h3
  ·cases a; cases b; exact h4
  ·cases a; cases b; exact h5
  ·cases a; cases b; exact h6
  ·cases a; cases b; exact h7
  ·simp at a
theorem truth_any (b : Bool) (w : World) : Calls Tryz.prog 37 #[.bool b] w fun e w' => e = .returned (RV.val (truthR b)) /\ Below w.heap.size w w' := by
 have hZ0 : VAt ((w.alloc (.cells #[.int .i64 0, .int .i64 0, .string ⟨#[]⟩, .slice none 0 0, .slice none 0 0] 31)).alloc (.cells #[.int .i64 2, .int .i64 0, .string ⟨#[]⟩, .slice none 0 0, .slice none 0 0] 31)) w.heap.size RV.zero := heap_alloc_lt (by simp) (heap_alloc_at rfl)
 have hV0 : VAt ((w.alloc (.cells #[.int .i64 0, .int .i64 0, .string ⟨#[]⟩, .slice none 0 0, .slice none 0 0] 31)).alloc (.cells #[.int .i64 2, .int .i64 0, .string ⟨#[]⟩, .slice none 0 0, .slice none 0 0] 31)) (w.heap.size + 1) ⟨2, 0, ⟨#[]⟩, none, 0, 0, none, 0, 0⟩ := heap_alloc_at (by simp)
 have hB0 : Below w.heap.size w ((w.alloc (.cells #[.int .i64 0, .int .i64 0, .string ⟨#[]⟩, .slice none 0 0, .slice none 0 0] 31)).alloc (.cells #[.int .i64 2, .int .i64 0, .string ⟨#[]⟩, .slice none 0 0, .slice none 0 0] 31)) := ((Below.refl _ _).alloc (Nat.le_refl _) _).alloc (by simp) _
 go_enter Tryz.func37, Tryz.ntmps37
 go_upto_region 2 with fail
 obtain ⟨W0, hW0⟩ : ∃ W0, ((w.alloc (.cells #[.int .i64 0, .int .i64 0, .string ⟨#[]⟩, .slice none 0 0, .slice none 0 0] 31)).alloc (.cells #[.int .i64 2, .int .i64 0, .string ⟨#[]⟩, .slice none 0 0, .slice none 0 0] 31)) = W0 := ⟨_, rfl⟩
 rw [hW0] at hZ0 hV0 hB0 ⊢
 clear hW0
 obtain ⟨z0, z1, z2, z3, z4⟩ := hZ0.cells5
 obtain ⟨v0, v1, v2, v3, v4⟩ := hV0.cells5
 dsimp only [RV.zero] at z0 z1 z2 z3 z4 v0 v1 v2 v3 v4
 have y0 := hZ0.frozen 0
 have y1 := hZ0.frozen 1
 have y2 := hZ0.frozen 2
 have y3 := hZ0.frozen 3
 have y4 := hZ0.frozen 4
 have x1 := hV0.frozen 1
 have HB := Lib.hid hB0
 clear hZ0 hV0 hB0
 cases b
 ·go_wp2_with fail
  refine bodyPost_ret (v := RV.val (truthR false)) (by simp [results, Tryz.results37, go_sem, truthR, z0, z1, z2, z3, z4, v0, v1, v2, v3, v4]) rfl ⟨rfl, ?_⟩
  exact Below.stored HB.out (Nat.le_refl _) (truthR false)
 ·go_wp2_with fail
  refine bodyPost_ret (v := RV.val (truthR true)) (by simp [results, Tryz.results37, go_sem, truthR, z0, z1, z2, z3, z4, v0, v1, v2, v3, v4]) rfl ⟨rfl, ?_⟩
  exact Below.stored (HB.out.setCell (Nat.le_succ _) _) (Nat.le_refl _) (truthR true)
theorem truth26_any (b : Bool) (w : World) : Calls Tryz.prog 45 #[.bool b] w fun e w' => e = .returned (RV.val (truthR b)) /\ Below w.heap.size w w' := by
 have hZ0 : VAt (w.alloc (.cells #[.int .i64 0, .int .i64 0, .string ⟨#[]⟩, .slice none 0 0, .slice none 0 0] 31)) w.heap.size RV.zero := heap_alloc_at rfl
 have hB0 : Below w.heap.size w (w.alloc (.cells #[.int .i64 0, .int .i64 0, .string ⟨#[]⟩, .slice none 0 0, .slice none 0 0] 31)) := (Below.refl _ _).alloc (Nat.le_refl _) _
 go_enter Tryz.func45, Tryz.ntmps45
 go_upto_region 1 with fail
 obtain ⟨W0, hW0⟩ : ∃ W0, (w.alloc (.cells #[.int .i64 0, .int .i64 0, .string ⟨#[]⟩, .slice none 0 0, .slice none 0 0] 31)) = W0 := ⟨_, rfl⟩
 rw [hW0] at hZ0 hB0 ⊢
 clear hW0
 obtain ⟨z0, z1, z2, z3, z4⟩ := hZ0.cells5
 dsimp only [RV.zero] at z0 z1 z2 z3 z4
 have y0 := hZ0.frozen 0
 have y1 := hZ0.frozen 1
 have y2 := hZ0.frozen 2
 have y3 := hZ0.frozen 3
 have y4 := hZ0.frozen 4
 have HB := Lib.hid hB0
 clear hZ0 hB0
 cases b
 ·go_wp2_with fail
  refine bodyPost_ret (v := RV.val (truthR false)) (by simp [results, Tryz.results45, go_sem, truthR, z0, z1, z2, z3, z4]) rfl ⟨rfl, ?_⟩
  exact Below.stored HB.out (Nat.le_refl _) (truthR false)
 ·go_wp2_with fail
  refine bodyPost_ret (v := RV.val (truthR true)) (by simp [results, Tryz.results45, go_sem, truthR, z0, z1, z2, z3, z4]) rfl ⟨rfl, ?_⟩
  exact Below.stored HB.out (Nat.le_refl _) (truthR true)
def spanE (l : List UInt8) (k : Nat) : Nat := k + ((l.drop k).takeWhile digU).length
theorem spanE_step {l : List UInt8} {k : Nat} {c : UInt8} (h : l[k]? = some c) (hd : digU c = true) : spanE l (k + 1) = spanE l k := by
 obtain ⟨hk, hc⟩ := List.getElem?_eq_some_iff.1 h
 unfold spanE
 rw [List.drop_eq_getElem_cons hk, List.takeWhile_cons, hc, if_pos hd, List.length_cons]
 omega
theorem spanE_stop {l : List UInt8} {k : Nat} {c : UInt8} (h : l[k]? = some c) (hd : digU c = false) : spanE l k = k := by
 obtain ⟨hk, hc⟩ := List.getElem?_eq_some_iff.1 h
 unfold spanE
 rw [List.drop_eq_getElem_cons hk, List.takeWhile_cons, hc, hd]
 rfl
theorem spanE_end {l : List UInt8} {k : Nat} (h : l.length <= k) : spanE l k = k := by
 unfold spanE
 rw [List.drop_eq_nil_of_le h]
 rfl
theorem ret_i64 {a b : Int} (h : a = b) : Ending.returned (.int .i64 a) = .returned (.int .i64 b) := by rw [h]
theorem span_any (s : ByteArray) (m : Nat) (w : World) (hs : s.size <= maxLen) (hm : m <= s.size) : Calls Tryz.prog 148 #[.string s, .int .i64 m] w fun e w' => e = .returned (.int .i64 (spanE s.data.toList m : Nat)) /\ w' = w := by
 unfold maxLen at hs
 have hm0 : (0 : Int) <= (m : Int) := Int.natCast_nonneg _
 obtain ⟨E, hE⟩ : ∃ E, spanE s.data.toList m = E := ⟨_, rfl⟩
 rw [hE]
 have HE := Lib.hid hE
 clear hE
 have hsz : Hid (s.data.toList.length <= s.size) := by unfold Hid; rw [Array.length_toList]; exact Nat.le_refl _
 go_enter Tryz.func148, Tryz.ntmps148
 go_wp2_with fail
 go_loop [1] (fun i => ∃ k : Nat, k <= s.size /\ i = .int .i64 (k : Int) /\ Hid (spanE s.data.toList k = E)) (fun i => s.size - (intOf i).toNat)
 case atStart => exact ⟨m, hm, rfl, HE.out⟩
 case round =>
  obtain ⟨k, hk, rfl, hH⟩ := hrel
  have k0 : (0 : Int) <= (k : Int) := Int.natCast_nonneg _
  by_cases hlt : k < s.size
  ·have k1 : (k : Int) < (s.size : Int) := by omega
   have b0 : (0 : Int) <= ((s[k].toNat : Nat) : Int) := Int.natCast_nonneg _
   obtain ⟨c, hc⟩ : ∃ c, s[k] = c := ⟨_, rfl⟩
   have hget : Hid (s.data.toList[k]? = some c) := by
    unfold Hid
    rw [<- hc]
    simp [hlt, ByteArray.getElem_eq_getElem_data]
   rw [hc] at b0
   by_cases a5 : 48 <= c.toNat <;> by_cases a6 : c.toNat <= 57
   all_goals first | (exfalso; omega) | skip
   all_goals
    first
     | (have d5 : decide ((48 : Int) <= ((c.toNat : Nat) : Int)) = true := decide_eq_true (by omega)
        have p5 : (48 : Int) <= ((c.toNat : Nat) : Int) := by omega)
     | (have d5 : decide ((48 : Int) <= ((c.toNat : Nat) : Int)) = false := decide_eq_false (by omega)
        have p5 : ¬ ((48 : Int) <= ((c.toNat : Nat) : Int)) := by omega)
    first
     | (have d6 : decide (((c.toNat : Nat) : Int) <= 57) = true := decide_eq_true (by omega)
        have p6 : ((c.toNat : Nat) : Int) <= 57 := by omega)
     | (have d6 : decide (((c.toNat : Nat) : Int) <= 57) = false := decide_eq_false (by omega)
        have p6 : ¬ (((c.toNat : Nat) : Int) <= 57) := by omega)
    have HDG : Hid (digU c = (decide (48 <= c.toNat) && decide (c.toNat <= 57))) := rfl
    go_wp2_with fail
    first
     | (go_round
        case rel => exact ⟨k + 1, by omega, by go_num, (spanE_step hget.out (by rw [HDG.out]; simp [a5, a6])).trans hH.out⟩
        case measure => simp [intOf]; omega)
     | (go_ret
        exact ⟨ret_i64 (by have h := spanE_stop hget.out (by rw [HDG.out]; simp [a5, a6]); have h2 := hH.out; omega), rfl⟩)
  ·obtain rfl : k = s.size := by omega
   go_wp2_with fail
   go_ret
   exact ⟨ret_i64 (by have h := spanE_end (l := s.data.toList) (k := s.size) hsz.out; have h2 := hH.out; omega), rfl⟩
theorem valD_take {l : List UInt8} {k : Nat} {c : UInt8} (h : l[k]? = some c) : valD (l.take (k + 1)) = stepD (valD (l.take k)) c := by
 rw [List.take_add_one, h, Option.toList_some, valD_snoc]
theorem valD_mono {l : List UInt8} (k : Nat) (h : l.all digU = true) : valD (l.take k) <= valD l := by
 have h2 : l.all digU = true := h
 rw [<- List.take_append_drop k l, List.all_append, Bool.and_eq_true] at h2
 have h3 : valD l = (l.drop k).foldl stepD (valD (l.take k)) := by
  unfold valD
  rw [<- List.foldl_append, List.take_append_drop]
 rw [h3]
 exact foldD_le _ _ h2.2 (valD_nonneg h2.1)
def valRet (l : List UInt8) : Value := if valD l <= 9007199254740991 then .tuple #[.int .i64 (valD l), .bool true] else .tuple #[.int .i64 0, .bool false]
theorem value_any (s : ByteArray) (w : World) (hs : s.size <= maxLen) (hd : s.data.toList.all digU = true) : Calls Tryz.prog 149 #[.string s] w fun e w' => e = .returned (valRet s.data.toList) /\ w' = w := by
 unfold maxLen at hs
 have hsz : Hid (s.data.toList.length = s.size) := by unfold Hid; rw [Array.length_toList]; rfl
 have HDA := Lib.hid hd
 obtain ⟨R, hR⟩ : ∃ R, valRet s.data.toList = R := ⟨_, rfl⟩
 rw [hR]
 have HR := Lib.hid hR
 clear hR hd
 go_enter Tryz.func149, Tryz.ntmps149
 go_wp2_with fail
 go_loop [4, 8] (fun n i => ∃ k : Nat, k <= s.size /\ i = .int .i64 (k : Int) /\ n = .int .i64 (valD (s.data.toList.take k)) /\ Hid (valD (s.data.toList.take k) <= 9007199254740991)) (fun _ i => s.size - (intOf i).toNat)
 case atStart => exact ⟨0, Nat.zero_le _, rfl, rfl, (by unfold Hid; rw [List.take_zero]; decide)⟩
 case round =>
  obtain ⟨k, hk, rfl, rfl, hH⟩ := hrel
  have k0 : (0 : Int) <= (k : Int) := Int.natCast_nonneg _
  by_cases hlt : k < s.size
  ·have k1 : (k : Int) < (s.size : Int) := by omega
   obtain ⟨c, hc⟩ : ∃ c, s[k] = c := ⟨_, rfl⟩
   have hget : Hid (s.data.toList[k]? = some c) := by
    unfold Hid
    rw [<- hc]
    simp [hlt, ByteArray.getElem_eq_getElem_data]
   have hdc : digU c = true := List.all_eq_true.1 HDA.out c (List.mem_of_getElem? hget.out)
   unfold digU at hdc
   rw [Bool.and_eq_true, decide_eq_true_eq, decide_eq_true_eq] at hdc
   have hdd : Hid (48 <= c.toNat /\ c.toNat <= 57) := hdc
   have hnn : Hid (0 <= valD (s.data.toList.take k)) := valD_nonneg (by
    have h2 := HDA.out
    rw [<- List.take_append_drop k s.data.toList, List.all_append, Bool.and_eq_true] at h2
    exact h2.1)
   have HST := Lib.hid (valD_take hget.out)
   obtain ⟨n, hn⟩ : ∃ n, valD (s.data.toList.take k) = n := ⟨_, rfl⟩
   rw [hn] at hH hnn HST
   rw [hn]
   clear hdc hn
   obtain ⟨m, hm⟩ : ∃ m, stepD n c = m := ⟨_, rfl⟩
   rw [hm] at HST
   have hE : wrap64 (wrap64 (n * 10) + (((c.toNat : Nat) : Int) - 48) % 256) = m := by
    have h1 := hH.out
    have h2 := hnn.out
    have h3 := hdd.out
    have h4 : wrap64 (n * 10) = n * 10 := by unfold wrap64; omega
    have h5 : (((c.toNat : Nat) : Int) - 48) % 256 = ((c.toNat : Nat) : Int) - 48 := by omega
    rw [h4, h5, <- hm]
    unfold stepD wrap64
    omega
   have HMM : Hid (valD (s.data.toList.take (k + 1)) = m) := HST.out
   clear hm
   by_cases hg : 9007199254740991 < m
   ·go_wp2_with fail
    go_ret2
    refine ⟨?_, rfl⟩
    rw [<- HR.out]
    unfold valRet
    have h1 := valD_mono (k + 1) HDA.out
    rw [HMM.out] at h1
    rw [if_neg (by omega)]
    rfl
   ·go_wp2_with fail
    go_round
    case rel => exact ⟨k + 1, by omega, by go_num, (by rw [HMM.out]; exact congrArg (Value.int IntKind.i64) hE), by unfold Hid; rw [HMM.out]; omega⟩
    case measure => simp [intOf]; omega
  ·obtain rfl : k = s.size := by omega
   have hta : s.data.toList.take s.size = s.data.toList := List.take_of_length_le (by have := hsz.out; omega)
   rw [hta] at hH
   rw [hta]
   go_wp2_with fail
   go_ret2
   refine ⟨?_, rfl⟩
   rw [<- HR.out]
   unfold valRet
   rw [if_pos hH.out]
   rfl
def stopC (c : UInt8) : Bool := decide (c = 46) || (decide (c = 101) || decide (c = 69))
def stopN (r : List UInt8) : Bool := match r[endN r]? with | some c => stopC c | none => false
def rdOk (r : List UInt8) : Bool := dOk (digsN r) && !stopN r
def readRet (l : List UInt8) (m : Nat) : Value :=
 if rdOk (l.drop m) then .tuple #[.int .i64 (signN (l.drop m)), .int .i64 ((m + endN (l.drop m) : Nat) : Int), .int .i64 0] else .tuple #[.int .i64 0, .int .i64 m, .int .i64 30]
theorem readRet_no {l : List UInt8} {m : Nat} (h : rdOk (l.drop m) = false) : readRet l m = .tuple #[.int .i64 0, .int .i64 m, .int .i64 30] := by unfold readRet; rw [h]; rfl
theorem readRet_yes {l : List UInt8} {m : Nat} (h : rdOk (l.drop m) = true) : readRet l m = .tuple #[.int .i64 (signN (l.drop m)), .int .i64 ((m + endN (l.drop m) : Nat) : Int), .int .i64 0] := by unfold readRet; rw [h]; rfl
theorem rdOk_nil : rdOk [] = false := rfl
theorem spanE_from (l : List UInt8) (m : Nat) : spanE l (m + fromN (l.drop m)) = m + endN (l.drop m) := by
 unfold spanE endN digsN
 rw [List.drop_drop]
 omega
theorem spanE_le (l : List UInt8) {k : Nat} (h : k <= l.length) : k <= spanE l k /\ spanE l k <= l.length := by
 unfold spanE
 have h1 : ((l.drop k).takeWhile digU).length <= (l.drop k).length := (List.takeWhile_prefix digU).length_le
 rw [List.length_drop] at h1
 omega
theorem takeWhile_take {p : UInt8 -> Bool} (l : List UInt8) : l.takeWhile p = l.take (l.takeWhile p).length := by
 have h := List.prefix_iff_eq_take.1 (List.takeWhile_prefix (l := l) p)
 exact h
theorem digsN_cut (l : List UInt8) (m : Nat) : digsN (l.drop m) = (l.drop (m + fromN (l.drop m))).take (spanE l (m + fromN (l.drop m)) - (m + fromN (l.drop m))) := by
 unfold digsN spanE
 rw [List.drop_drop]
 rw [Nat.add_sub_cancel_left]
 exact takeWhile_take _
def stopAt (l : List UInt8) (E : Nat) : Bool := match l[E]? with | some c => stopC c | none => false
theorem stopAt_some {l : List UInt8} {E : Nat} {c : UInt8} (h : l[E]? = some c) : stopAt l E = stopC c := by unfold stopAt; rw [h]
theorem stopAt_none {l : List UInt8} {E : Nat} (h : l[E]? = none) : stopAt l E = false := by unfold stopAt; rw [h]
theorem rdOk_eq {l : List UInt8} {m F E : Nat} (hF : F = m + fromN (l.drop m)) (hE : E = spanE l F) :
 rdOk (l.drop m) = (!((decide (E = F) || (decide (l[F]? = some 48) && decide (1 < E - F))) || stopAt l E) && decide (valD ((l.drop F).take (E - F)) <= 9007199254740991)) := by
 have hd : digsN (l.drop m) = (l.drop F).take (E - F) := by rw [hE, hF]; exact digsN_cut l m
 have hst : stopN (l.drop m) = stopAt l E := by
  unfold stopN stopAt
  rw [List.getElem?_drop, hE, hF, spanE_from]
 have hall : ((l.drop F).take (E - F)).all digU = true := by rw [<- hd]; unfold digsN; exact takeWhile_all _
 have hlen : ((l.drop F).take (E - F)).length = E - F := by
  have h1 : (digsN (l.drop m)).length = E - F := by
   have h2 := spanE_from l m
   rw [<- hF] at h2
   rw [hE, h2]
   unfold endN
   omega
  rw [<- hd]
  exact h1
 unfold rdOk
 rw [hst]
 unfold dOk
 rw [hd, hall, hlen]
 have hEF : F <= E := by rw [hE]; unfold spanE; omega
 have hhd : F < E -> ((l.drop F).take (E - F)).head? = l[F]? := fun h => by
  rw [List.head?_take, if_neg (by omega), List.head?_drop]
 have hem : ((l.drop F).take (E - F)).isEmpty = decide (E = F) := by
  cases hl : (l.drop F).take (E - F) with
  | nil => rw [hl] at hlen; rw [decide_eq_true (by simp at hlen; omega)]; rfl
  | cons a r => rw [hl] at hlen; rw [decide_eq_false (by simp at hlen; omega)]; rfl
 rw [hem]
 by_cases h1 : E = F
 ·simp [h1]
 ·have h2 : F < E := by omega
  rw [hhd h2, decide_eq_false h1]
  have h3 : decide (E - F = 1) = !decide (1 < E - F) := by
   by_cases h : E - F = 1
   ·simp [h]
   ·have : 1 < E - F := by omega
    simp [h, this]
  have h4 : decide (l[F]? ≠ some 48) = !decide (l[F]? = some 48) := by simp
  rw [h3, h4]
  cases decide (1 < E - F) <;> cases decide (l[F]? = some 48) <;> cases decide (valD ((l.drop F).take (E - F)) <= 9007199254740991) <;> cases stopAt l E <;> rfl
theorem signN_eq {l : List UInt8} {m F E : Nat} (hF : F = m + fromN (l.drop m)) (hE : E = spanE l F) : signN (l.drop m) = if F = m then valD ((l.drop F).take (E - F)) else 0 - valD ((l.drop F).take (E - F)) := by
 have hd : digsN (l.drop m) = (l.drop F).take (E - F) := by rw [hE, hF]; exact digsN_cut l m
 unfold signN
 rw [hd]
 unfold fromN at hF
 by_cases h : (l.drop m).head? = some 45
 ·rw [if_pos h] at hF ⊢
  rw [if_neg (by omega)]
 ·rw [if_neg h] at hF ⊢
  rw [if_pos (by omega)]
theorem or32 : ∀ n : Fin 256, (bits BinOp.or IntKind.u8 (((n : Nat) : Nat) : Int) 32 == 101) = (decide ((n : Nat) = 101) || decide ((n : Nat) = 69)) := by decide +kernel
theorem or32_u8 (c : UInt8) : (bits BinOp.or IntKind.u8 ((c.toNat : Nat) : Int) 32 == 101) = (decide (c.toNat = 101) || decide (c.toNat = 69)) := or32 ⟨c.toNat, c.toNat_lt⟩
theorem u8_dec (c d : UInt8) : decide (c = d) = decide (c.toNat = d.toNat) := by
 by_cases h : c = d
 ·simp [h]
 ·rw [decide_eq_false h, decide_eq_false (fun e => h (UInt8.toNat_inj.1 e))]
theorem stopC_eq (c : UInt8) : stopC c = (decide (c.toNat = 46) || (decide (c.toNat = 101) || decide (c.toNat = 69))) := by
 unfold stopC
 rw [u8_dec, u8_dec, u8_dec]
 rfl
theorem get_opt {s : ByteArray} {k : Nat} (h : k < s.size) : s.data.toList[k]? = some s[k] := by simp [h, ByteArray.getElem_eq_getElem_data]
theorem numRead_any (s : ByteArray) (m : Nat) (w : World) (hs : s.size <= maxLen) (hm : m <= s.size) : Calls Tryz.prog 117 #[.string s, .int .i64 m] w fun e w' => e = .returned (readRet s.data.toList m) /\ w' = w := by
 have hs1 : s.size <= maxLen := hs
 unfold maxLen at hs
 have hsz : s.data.toList.length = s.size := by rw [Array.length_toList]; rfl
 have hm0 : (0 : Int) <= (m : Int) := Int.natCast_nonneg _
 have q1 : decide ((m : Int) < 0) = false := decide_eq_false (by omega)
 have q1' : ¬ ((m : Int) < 0) := by omega
 by_cases hlt : m < s.size
 ·have q2 : decide ((s.size : Int) <= (m : Int)) = false := decide_eq_false (by omega)
  have q2' : ¬ ((s.size : Int) <= (m : Int)) := by omega
  have q3 : (m : Int) < (s.size : Int) := by omega
  have hget := get_opt hlt
  obtain ⟨c, hc⟩ : ∃ c, s[m] = c := ⟨_, rfl⟩
  rw [hc] at hget
  have hfr : fromN (s.data.toList.drop m) = if c.toNat = 45 then 1 else 0 := by
   unfold fromN
   rw [List.head?_drop, hget]
   by_cases h : c = 45
   ·rw [h]; rfl
   ·have h2 : ¬ c.toNat = 45 := fun e => h (UInt8.toNat_inj.1 e)
    rw [if_neg (fun e => h (Option.some.inj e)), if_neg h2]
  obtain ⟨F, hF⟩ : ∃ F, F = m + fromN (s.data.toList.drop m) := ⟨_, rfl⟩
  obtain ⟨E, hE⟩ : ∃ E, E = spanE s.data.toList F := ⟨_, rfl⟩
  have hFs : F <= s.size := by rw [hF, hfr]; split <;> omega
  obtain ⟨hFE, hEs⟩ := spanE_le s.data.toList (k := F) (by omega)
  rw [<- hE] at hFE hEs
  rw [hsz] at hEs
  have HOK := Lib.hid (rdOk_eq hF hE)
  have HSG := Lib.hid (signN_eq hF hE)
  have HEN : Hid (m + endN (s.data.toList.drop m) = E) := by
   have h := spanE_from s.data.toList m
   rw [<- hF, <- hE] at h
   exact h.symm
  have hD : (s.extract F E).data.toList = (s.data.toList.drop F).take (E - F) := Lib.extract_data s F E
  have hDA : ((s.data.toList.drop F).take (E - F)).all digU = true := by
   rw [hF, hE, hF, <- digsN_cut]
   unfold digsN
   exact takeWhile_all _
  obtain ⟨D, hDD⟩ : ∃ D, (s.data.toList.drop F).take (E - F) = D := ⟨_, rfl⟩
  rw [hDD] at HOK HSG hD hDA
  have HSP : Hid (∀ W, Calls Tryz.prog 148 #[.string s, .int .i64 (F : Nat)] W fun e w' => e = .returned (.int .i64 (E : Nat)) /\ W = w') := fun W => (span_any s F W hs1 hFs).mono (fun e w' h => ⟨by rw [h.1, hE], h.2.symm⟩)
  have HVL : Hid (∀ W, Calls Tryz.prog 149 #[.string (s.extract F E)] W fun e w' => e = .returned (valRet D) /\ W = w') := fun W => (value_any (s.extract F E) W (by rw [<- str_len, hD, <- hDD]; simp; omega) (by rw [hD]; exact hDA)).mono (fun e w' h => ⟨by rw [h.1, hD], h.2.symm⟩)
  have HNN := Lib.hid (valD_nonneg hDA)
  have HGE : Hid (∀ k, (h : k < s.size) -> s.data.toList[k]? = some s[k]) := fun k h => get_opt h
  have HNG : Hid (∀ k, s.size <= k -> s.data.toList[k]? = none) := fun k h => List.getElem?_eq_none (by omega)
  have HFR : Hid (F = if c.toNat = 45 then m + 1 else m) := by
   unfold Hid
   rw [hF, hfr]
   split <;> rfl
  clear hF hE hfr hget hD hDA hDD hsz
  obtain ⟨R, hR⟩ : ∃ R, readRet s.data.toList m = R := ⟨_, rfl⟩
  rw [hR]
  have HR := Lib.hid hR
  clear hR
  have hF0 : (0 : Int) <= (F : Int) := Int.natCast_nonneg _
  have hE0 : (0 : Int) <= (E : Int) := Int.natCast_nonneg _
  have hFE' : (F : Int) <= (E : Int) := by omega
  have hEs' : (E : Int) <= (s.size : Int) := by omega
  go_enter Tryz.func117, Tryz.ntmps117
  obtain ⟨mb, hmb⟩ : ∃ b, (((c.toNat : Nat) : Int) == 45) = b := ⟨_, rfl⟩
  have HMB : Hid (mb = decide (c.toNat = 45)) := by
   unfold Hid
   rw [<- hmb]
   by_cases h : c.toNat = 45
   ·rw [decide_eq_true h, h]; rfl
   ·rw [decide_eq_false h]; simp; omega
  go_upto_if 24 with fail
  go_cut [7] from 25 to 26 (fun v wr => v = .int .i64 (F : Nat) /\ wr = w)
  case first =>
   have hf := HFR.out
   have hb := HMB.out
   cases mb
   ·have a1 : ¬ c.toNat = 45 := of_decide_eq_false hb.symm
    rw [if_neg a1] at hf
    clear a1 hb
    have HF2 := Lib.hid hf
    clear hf
    go_wp2_with fail
    go_meet
    exact ⟨by rw [HF2.out], rfl⟩
   ·have a1 : c.toNat = 45 := of_decide_eq_true hb.symm
    rw [if_pos a1] at hf
    clear a1 hb
    have HF2 := Lib.hid hf
    clear hf
    go_wp2_with fail
    go_meet
    exact ⟨by rw [HF2.out]; go_num, rfl⟩
  case rest =>
  obtain ⟨rfl, hwc⟩ := hcut
  obtain rfl : w = wc := hwc.symm
  go_upto_region 7 with (first | (go_at_call 148; refine (HSP.out _).mono ?_; rintro e w1 ⟨rfl, rfl⟩) | fail)
  clear HSP hmb
  obtain ⟨tt, htt⟩ : ∃ b, ((decide (E = F) || (decide (s.data.toList[F]? = some 48) && decide (1 < E - F))) || stopAt s.data.toList E) = b := ⟨_, rfl⟩
  rw [htt] at HOK
  have HTT := Lib.hid htt
  clear htt
  go_cut [63] from 30 to 63 (fun v wr => v = .bool tt /\ wr = w)
  case first =>
   obtain ⟨e1, he1⟩ : ∃ b, ((E : Int) == (F : Int)) = b := ⟨_, rfl⟩
   have HE1 : Hid (decide (E = F) = e1) := by
    unfold Hid
    rw [<- he1]
    by_cases h : E = F
    ·rw [decide_eq_true h, h]; simp
    ·rw [decide_eq_false h]; simp; omega
   cases e1
   ·have hlt : F < E := by have := of_decide_eq_false HE1.out; omega
    have hFlt : F < s.size := by omega
    have hFlt' : (F : Int) < (s.size : Int) := by omega
    obtain ⟨c1, hc1⟩ : ∃ c, s[F] = c := ⟨_, rfl⟩
    have hg1 := HGE.out F hFlt
    rw [hc1] at hg1
    obtain ⟨e2, he2⟩ : ∃ b, (((c1.toNat : Nat) : Int) == 48) = b := ⟨_, rfl⟩
    have HE2 : Hid (decide (s.data.toList[F]? = some 48) = e2) := by
     unfold Hid
     rw [hg1, <- he2]
     by_cases h : c1 = 48
     ·rw [h]; rfl
     ·have h2 : ¬ c1.toNat = 48 := fun e => h (UInt8.toNat_inj.1 e)
      rw [decide_eq_false (fun e => h (Option.some.inj e))]
      simp
      omega
    clear hg1
    obtain ⟨e3, he3⟩ : ∃ b, decide ((1 : Int) < (E : Int) - (F : Int)) = b := ⟨_, rfl⟩
    have HE3 : Hid (decide (1 < E - F) = e3) := by
     unfold Hid
     rw [<- he3]
     congr 1
     simp
     omega
    have HE12 := Lib.hid hlt
    by_cases b4 : E < s.size
    ·have i4 : decide ((E : Int) < (s.size : Int)) = true := decide_eq_true (by omega)
     have b4' : (E : Int) < (s.size : Int) := by omega
     obtain ⟨c2, hc2⟩ : ∃ c, s[E] = c := ⟨_, rfl⟩
     have hg2 := HGE.out E b4
     rw [hc2] at hg2
     have HG2 := Lib.hid hg2
     clear hg2
     obtain ⟨e5, he5⟩ : ∃ b, (((c2.toNat : Nat) : Int) == 46) = b := ⟨_, rfl⟩
     obtain ⟨e6, he6⟩ : ∃ b, (bits BinOp.or IntKind.u8 ((c2.toNat : Nat) : Int) 32 == 101) = b := ⟨_, rfl⟩
     have HST : Hid (stopC c2 = (e5 || e6)) := by
      unfold Hid
      rw [stopC_eq, <- he5, <- he6, or32_u8]
      congr 1
      by_cases h : c2.toNat = 46
      ·rw [decide_eq_true h, h]; rfl
      ·rw [decide_eq_false h]; simp; omega
     have HT2 : Hid (tt = ((e2 && e3) || (e5 || e6))) := by
      unfold Hid
      rw [<- HTT.out, HE1.out, HE2.out, HE3.out, stopAt_some HG2.out, <- HST.out]
      rfl
     cases e2 <;> cases e3 <;> cases e5 <;> cases e6
     all_goals
      go_wp2_with fail
      go_meet
      exact ⟨by rw [HT2.out]; rfl, rfl⟩
    ·have i4 : decide ((E : Int) < (s.size : Int)) = false := decide_eq_false (by omega)
     have b4' : ¬ (E : Int) < (s.size : Int) := by omega
     have HT2 : Hid (tt = (e2 && e3)) := by
      unfold Hid
      rw [<- HTT.out, HE1.out, HE2.out, HE3.out, stopAt_none (HNG.out E (by omega))]
      simp
     cases e2 <;> cases e3
     all_goals
      go_wp2_with fail
      go_meet
      exact ⟨by rw [HT2.out]; rfl, rfl⟩
   ·have HT2 : Hid (tt = true) := by
     unfold Hid
     rw [<- HTT.out, HE1.out]
     rfl
    go_wp2_with fail
    go_meet
    exact ⟨by rw [HT2.out], rfl⟩
  case rest =>
  obtain ⟨rfl, hwc⟩ := hcut
  obtain rfl : w = wc := hwc.symm
  have HFEQ : Hid (decide (F = m) = !decide (c.toNat = 45)) := by
   unfold Hid
   have h := HFR.out
   by_cases hc : c.toNat = 45
   ·rw [if_pos hc] at h; rw [decide_eq_true hc, decide_eq_false (by omega)]; rfl
   ·rw [if_neg hc] at h; rw [decide_eq_false hc, decide_eq_true h]; rfl
  cases tt
  ·obtain ⟨vd, hvd⟩ : ∃ b, decide (valD D <= 9007199254740991) = b := ⟨_, rfl⟩
   rw [hvd] at HOK
   have HVD := Lib.hid hvd
   have HVR : Hid (valRet D = if vd then .tuple #[.int .i64 (valD D), .bool true] else .tuple #[.int .i64 0, .bool false]) := by
    unfold Hid valRet
    rw [<- hvd]
    by_cases h : valD D <= 9007199254740991
    ·rw [if_pos h, decide_eq_true h]; rfl
    ·rw [if_neg h, decide_eq_false h]; rfl
   rw [HVR.out] at HVL
   clear hvd HVR HTT HGE HNG
   cases vd
   ·have HRR : Hid (R = .tuple #[.int .i64 0, .int .i64 m, .int .i64 30]) := by
     unfold Hid
     rw [<- HR.out]
     exact readRet_no HOK.out
    simp only [Bool.false_eq_true, if_false] at HVL
    go_wp2_with (first | (go_at_call 149; refine (HVL.out _).mono ?_; rintro e w1 ⟨rfl, rfl⟩) | fail)
    rw [HRR.out]
    refine bodyPost_ret (v := .tuple #[.int .i64 0, .int .i64 m, .int .i64 30]) (by simp [results, Tryz.results117, go_sem]) rfl ⟨rfl, rfl⟩
   ·have HRR : Hid (R = .tuple #[.int .i64 (signN (s.data.toList.drop m)), .int .i64 (E : Nat), .int .i64 0]) := by
     unfold Hid
     rw [<- HR.out, readRet_yes HOK.out, HEN.out]
    have hle := of_decide_eq_true HVD.out
    have hnn := HNN.out
    obtain ⟨n, hn⟩ : ∃ n, valD D = n := ⟨_, rfl⟩
    rw [hn] at HVL HSG hle hnn
    simp only [if_true] at HVL
    rw [HSG.out] at HRR
    clear HSG hn HNN HVD HOK HR
    obtain ⟨mb2, hmb2⟩ : ∃ b, decide (F = m) = b := ⟨_, rfl⟩
    have HM2 := Lib.hid hmb2
    clear hmb2
    cases mb2
    ·have hne : m < F := by have h1 := of_decide_eq_false HM2.out; have h2 := HFR.out; split at h2 <;> omega
     have HRR2 : Hid (R = .tuple #[.int .i64 (0 - n), .int .i64 (E : Nat), .int .i64 0]) := by
      unfold Hid
      rw [HRR.out, if_neg (by omega)]
     have j1 : decide ((m : Int) < (F : Int)) = true := decide_eq_true (by omega)
     have j2 : (m : Int) < (F : Int) := by omega
     go_wp2_with (first | (go_at_call 149; refine (HVL.out _).mono ?_; rintro e w1 ⟨rfl, rfl⟩) | fail)
     rw [HRR2.out]
     rw [show (0 : Int) - n = -n by omega]
     refine bodyPost_ret (v := .tuple #[.int .i64 (-n), .int .i64 (E : Nat), .int .i64 0]) (by simp [results, Tryz.results117, go_sem]) rfl ⟨rfl, rfl⟩
    ·have j1 : decide ((m : Int) < (F : Int)) = false := decide_eq_false (by have h1 := of_decide_eq_true HM2.out; omega)
     have j2 : ¬ (m : Int) < (F : Int) := by have h1 := of_decide_eq_true HM2.out; omega
     have HRR2 : Hid (R = .tuple #[.int .i64 n, .int .i64 (E : Nat), .int .i64 0]) := by
      unfold Hid
      rw [HRR.out, if_pos (of_decide_eq_true HM2.out)]
     go_wp2_with (first | (go_at_call 149; refine (HVL.out _).mono ?_; rintro e w1 ⟨rfl, rfl⟩) | fail)
     rw [HRR2.out]
     refine bodyPost_ret (v := .tuple #[.int .i64 n, .int .i64 (E : Nat), .int .i64 0]) (by simp [results, Tryz.results117, go_sem]) rfl ⟨rfl, rfl⟩
  ·have HRR : Hid (R = .tuple #[.int .i64 0, .int .i64 m, .int .i64 30]) := by
    unfold Hid
    rw [<- HR.out]
    exact readRet_no (by rw [HOK.out]; rfl)
   go_wp2_with fail
   rw [HRR.out]
   refine bodyPost_ret (v := .tuple #[.int .i64 0, .int .i64 m, .int .i64 30]) (by simp [results, Tryz.results117, go_sem]) rfl ⟨rfl, rfl⟩
 ·obtain rfl : m = s.size := by omega
  have q2 : decide ((s.size : Int) <= (s.size : Int)) = true := decide_eq_true (by omega)
  have hd : s.data.toList.drop s.size = [] := List.drop_eq_nil_of_le (by omega)
  rw [readRet_no (by rw [hd]; exact rdOk_nil)]
  clear hd hsz
  go_enter Tryz.func117, Tryz.ntmps117
  go_wp2_with fail
  refine bodyPost_ret (v := .tuple #[.int .i64 0, .int .i64 (s.size : Nat), .int .i64 30]) (by simp [results, Tryz.results117, go_sem]) rfl ⟨rfl, rfl⟩
end
end Go.Proofs.YtfgjimpmpckgpaaGreatDoor
