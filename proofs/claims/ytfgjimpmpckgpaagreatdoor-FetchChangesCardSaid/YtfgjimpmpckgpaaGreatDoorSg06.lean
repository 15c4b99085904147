import Derived.Maps.OwnSet
import Derived.WalkKit
import Derived.StringKeys
import Derived.Deep.Draws
import Derived.Test.YtfgjimpmpckgpaaGreatDoorSg05
import Derived.OpenShut
import Derived.Test.YtfgjimpmpckgpaaGreatDoorProg
import Derived.Test.YtfgjimpmpckgpaaGreatDoorSg00
import Derived.WalkSpells
import Derived.Laws.AppendOwnNone
import Derived.Lib.Hide
set_option linter.unusedSimpArgs false
set_option linter.unusedVariables false
set_option maxRecDepth 200000
set_option maxHeartbeats 8000000
namespace Go.Proofs.YtfgjimpmpckgpaaGreatDoor
section
open Go Go.Maps Go.WideMaps Go.ChangeMaps Go.MapKept Go.WideShapes Go.RowKit
def anyElem (v : Value) : Option (DataW Value × List MemPlace) := some (.held v, [])
def mget (D : DataW Value) (s : List UInt8) : Option Value := match D.atKey (.string s) .nil with
 | .held v => some v
 | _ => none
theorem find_insert {H : Type} (x : Lit × DataW H) (q : Lit × DataW H -> Bool) (hq : q x = false) : ∀ l : List (Lit × DataW H), (DataW.insert x l).find? q = l.find? q
 | [] => by simp [DataW.insert, hq]
 | y :: r => by
   unfold DataW.insert
   split
   ·simp [List.find?_cons, hq]
   ·simp only [List.find?_cons]; split
    ·rfl
    ·exact find_insert x q hq r
theorem find_insert_self {H : Type} (x : Lit × DataW H) (q : Lit × DataW H -> Bool) (hq : q x = true) : ∀ l : List (Lit × DataW H), (∀ y ∈ l, q y = false) -> (DataW.insert x l).find? q = some x
 | [], _ => by simp [DataW.insert, hq]
 | y :: r, h => by
   unfold DataW.insert
   split
   ·simp [List.find?_cons, hq]
   ·simp only [List.find?_cons, h y (by simp)]
    exact find_insert_self x q hq r (fun z hz => h z (by simp [hz]))
theorem find_filter {α : Type} (p q : α -> Bool) (h : ∀ x, q x = true -> p x = true) : ∀ l : List α, (l.filter p).find? q = l.find? q
 | [] => rfl
 | y :: r => by
   simp only [List.filter_cons, List.find?_cons]
   cases hp : p y with
   | true =>
     simp only [if_true, List.find?_cons]
     cases hq : q y with
     | true => rfl
     | false => exact find_filter p q h r
   | false =>
     cases hq : q y with
     | true => rw [h y hq] at hp; cases hp
     | false => simpa using find_filter p q h r
theorem mget_put (E : List (Lit × DataW Value)) (s t : List UInt8) (v : Value) : mget ((DataW.map E).put (.string s) (.held v)) t = if t = s then some v else mget (.map E) t := by
 unfold mget DataW.atKey DataW.put
 dsimp only
 by_cases h : t = s
 ·subst h
  rw [find_insert_self _ _ (by simp [Lit.sameKey]) _ (fun y hy => by simpa using (List.mem_filter.1 hy).2)]
  simp
 ·rw [find_insert _ _ (by simp [Lit.sameKey]; exact fun e => h e.symm), find_filter _ _ (fun x hx => by
   cases hxk : x.1 <;> simp_all [Lit.sameKey])]
  simp [h]
def MapF (w : World) (P : Program) (k : TypeId) (b n : Nat) (f : List UInt8 -> Option Value) : Prop :=
 ∃ E : List (Lit × DataW Value), w.ownsMap P k anyElem b n (.map E) /\ ∀ s, mget (.map E) s = f s
section
variable {P : Program} {k : TypeId} {w : World} {b n : Nat} {f : List UInt8 -> Option Value}
theorem MapF.made (w : World) (P : Program) (k : TypeId) : MapF (w.alloc (.map #[] 0)) P k w.heap.size 0 (fun _ => none) :=
 ⟨[], World.ownsMap_made w P k anyElem, fun _ => rfl⟩
theorem MapF.lt (h : MapF w P k b n f) : b < w.heap.size := by
 obtain ⟨E, h, _⟩ := h
 exact h.lt
theorem MapF.kept {w' : World} {row : Option Nat} (h : MapF w P k b n f) (hg : w.grownBy w' row) (hne : some b ≠ row) : MapF w' P k b n f := by
 obtain ⟨E, h, he⟩ := h
 exact ⟨E, h.kept hg hne, he⟩
theorem MapF.alloc (h : MapF w P k b n f) (o : Obj) : MapF (w.alloc o) P k b n f := by
 obtain ⟨E, h, he⟩ := h
 exact ⟨E, h.alloc o, he⟩
theorem MapF.drewN (h : MapF w P k b n f) (m : Nat) : MapF (w.drewN m) P k b n f := h
theorem MapF.of_block {w' : World} (h : MapF w P k b n f) (hb : w'.heap[b]? = w.heap[b]?) : MapF w' P k b n f := by
 obtain ⟨E, ⟨es, clock, h1, h2⟩, he⟩ := h
 exact ⟨E, ⟨es, clock, hb.trans h1, h2⟩, he⟩
theorem MapF.below {B : Nat} {w' : World} (h : MapF w P k b n f) (hb : Below B w w') (hB : b < B) : MapF w' P k b n f := h.of_block (hb.block b hB)
theorem MapF.mono (h : MapF w P k b n f) {m : Nat} (hm : n <= m) : MapF w P k b m f := by
 obtain ⟨E, h, he⟩ := h
 exact ⟨E, h.mono hm, he⟩
theorem mget_find (E : List (Lit × DataW Value)) (s : List UInt8) : (∃ p, E.find? (fun p => p.1.sameKey (.string s)) = some p /\ ∀ z : DataW Value, (DataW.map E).atKey (.string s) z = p.2) \/
 (E.find? (fun p => p.1.sameKey (.string s)) = none /\ ∀ z : DataW Value, (DataW.map E).atKey (.string s) z = z) := by
 unfold DataW.atKey
 cases h : E.find? (fun p => p.1.sameKey (.string s)) with
 | none => exact .inr ⟨rfl, fun z => by simp [h]⟩
 | some p => exact .inl ⟨p, rfl, fun z => by simp [h]⟩
theorem MapF.look {t e : TypeId} (h : MapF w P k b n f) (hk : P.underlying k = some .string) (ht : P.underlying t = some (.map k e)) {z : Value} (hz : (zeroValue e).run P w = .ok z w) {s : ByteArray} (hs : s.size <= maxLen) :
 (Instr.lookup t (.map (some b)) (.string s) false).run P w = .ok ((f s.data.toList).getD z) w := by
 obtain ⟨E, h, he⟩ := h
 obtain ⟨v, ps, hrun, hv⟩ := h.lookup (string_keyed hk) ht hz (zd := .held z) (zp := []) rfl (keyOf_string_mk hk hs)
 rw [hrun, <- he]
 simp only [anyElem, Option.some.injEq, Prod.mk.injEq] at hv
 have hv1 := hv.1
 unfold mget
 rcases mget_find E s.data.toList with ⟨p, _, hp⟩ | ⟨_, hp⟩
 ·rw [hp] at hv1 ⊢
  rw [<- hv1]; rfl
 ·rw [hp] at hv1 ⊢
  cases hv1; rfl
theorem MapF.store {t e : TypeId} (h : MapF w P k b n f) (hk : P.underlying k = some .string) (ht : P.underlying t = some (.map k e)) (hn : n < maxLen) {s : ByteArray} (hs : s.size <= maxLen) (v : Value) :
 ∃ w', (Instr.mapUpdate t (.map (some b)) (.string s) v).run P w = .ok () w' /\ MapF w' P k b (n + 1) (fun u => if u = s.data.toList then some v else f u) /\ w.grownBy w' (some b) := by
 obtain ⟨E, h, he⟩ := h
 obtain ⟨w', hrun, hown, hg⟩ := h.update (string_keyed hk) ht hn (kl := .string s.data.toList) (keyOf_string_mk hk hs) (d := .held v) (ps := []) rfl
 refine ⟨w', hrun, ⟨_, hown, fun u => ?_⟩, hg⟩
 refine (mget_put E s.data.toList u v).trans ?_
 rw [he u]
end
section
variable {P : Program} (w : World) {ops : Array Oper} {rest : List Oper} {o : Oper} {a : Act} {Q : Exit -> Act -> World -> Prop}
theorem wpList_look_F (hg : o.guard = none) (m x : Operand) (t : TypeId) (hop : o.op = Op.lookup t m x false) (k e : TypeId) (hk : P.underlying k = some .string) (ht : P.underlying t = some (.map k e)) {z : Value} (hz : (zeroValue e).run P w = .ok z w)
 (b n : Nat) (f : List UInt8 -> Option Value) (hm : a.eval m = .map (some b)) (hown : MapF w P k b n f) (s : ByteArray) (hx : a.eval x = .string s) (hs : s.size <= maxLen) {v : Value} (hv : (f s.data.toList).getD z = v)
 (hK : wpList P ops Q rest (a.put o.dst v) w) : wpList P ops Q (o :: rest) a w := by
 refine wpList_plain hg fun K' hK' => ?_
 have hrun := hown.look hk ht hz hs
 rw [hv] at hrun
 unfold Oper.wp
 simp [execOp, hop, hm, hx, hrun, Result.andThen]
 exact hK' _ _ hK
theorem wpList_store_F (hg : o.guard = none) (m x v : Operand) (t : TypeId) (hop : o.op = Op.mapUpdate t m x v) (k e : TypeId) (hk : P.underlying k = some .string) (ht : P.underlying t = some (.map k e))
 (b n : Nat) (f : List UInt8 -> Option Value) (hm : a.eval m = .map (some b)) (hown : MapF w P k b n f) (hn : n < maxLen) (s : ByteArray) (hx : a.eval x = .string s) (hs : s.size <= maxLen) (val : Value) (hv : a.eval v = val)
 (hK : ∀ w', MapF w' P k b (n + 1) (fun u => if u = s.data.toList then some val else f u) -> w.grownBy w' (some b) -> wpList P ops Q rest (a.put o.dst undef) w') : wpList P ops Q (o :: rest) a w := by
 refine wpList_plain hg fun K' hK' => ?_
 obtain ⟨w', hrun, h1, h2⟩ := hown.store hk ht hn hs val
 unfold Oper.wp
 simp [execOp, hop, hm, hx, hv, hrun, Result.andThen]
 exact hK' _ _ (hK w' h1 h2)
end
end
section
open Go.RowKit Go.OpenShut
def lastW (l : List En) (id : ByteArray) : Int := l.foldl (fun a e => if e.id = id then e.what else a) 0
theorem lastW_snoc (l : List En) (e : En) (id : ByteArray) : lastW (l ++ [e]) id = if e.id = id then e.what else lastW l id := by simp [lastW]
def okAt (l : List En) (floor : Int) (k : Nat) : Bool := match l[k]? with
 | some e => e.seq == floor + 1 + k && mayB (lastW (l.take k) e.id) e.what
 | none => true
def headB (n : Nat) (floor seq : Int) : Bool := decide (0 <= floor /\ floor <= seq /\ seq <= 9007199254740991 /\ seq - floor = n)
def rightB (l : List En) (floor seq : Int) : Bool := headB l.length floor seq && (List.range l.length).all (okAt l floor)
theorem rightB_no {l : List En} {floor seq : Int} (h : headB l.length floor seq = false) : rightB l floor seq = false := by simp [rightB, h]
theorem rightB_yes {l : List En} {floor seq : Int} (h : headB l.length floor seq = true) (ha : ∀ k, k < l.length -> okAt l floor k = true) : rightB l floor seq = true := by
 simp only [rightB, h, Bool.true_and, List.all_eq_true, List.mem_range]
 exact ha
theorem rightB_bad {l : List En} {floor seq : Int} {k : Nat} (hk : k < l.length) (h : okAt l floor k = false) : rightB l floor seq = false := by
 unfold rightB
 rw [Bool.and_eq_false_iff]
 right
 rw [Bool.eq_false_iff]
 intro ha
 rw [List.all_eq_true] at ha
 have := ha k (by simpa using hk)
 rw [h] at this
 cases this
theorem refRight_head (w : World) (B : Nat) (v : Value) (l : List En) (floor seq : Int) (hv : RdE w B v l) (hf : (Lit.int .i64 floor).wf = true) (hs : (Lit.int .i64 seq).wf = true) (hh : headB l.length floor seq = false) :
 Calls Tryz.prog 88 #[v, .int .i64 floor, .int .i64 seq] w fun e w' => e = .returned (.bool (rightB l floor seq)) /\ ∃ n, w' = w.drewN n := by
 rw [rightB_no hh]
 obtain ⟨_, p, c, rfl, hlc, hcm, hp0, hp⟩ := hv
 unfold maxLen at hcm
 have b1 := bounds_i64 hf
 have b2 := bounds_i64 hs
 have hd : 0 <= floor -> floor <= seq -> seq <= 9007199254740991 -> ((seq - floor != (l.length : Int)) = true) := by
  intro h1 h2 h3
  unfold headB at hh
  simp only [decide_eq_false_iff_not] at hh
  rw [bne_iff_ne]
  intro h4
  exact hh ⟨h1, h2, h3, h4⟩
 clear hh hp hp0
 go_enter Tryz.func88, Tryz.ntmps88
 go_wp2_with fail
 all_goals (go_ret; exact ⟨rfl, 0, rfl⟩)
theorem okAt_of {l : List En} {floor : Int} {k : Nat} {x : En} (hx : l[k]? = some x) : okAt l floor k = (x.seq == floor + 1 + k && mayB (lastW (l.take k) x.id) x.what) := by simp [okAt, hx]
theorem okAt_bad {l : List En} {floor : Int} {k : Nat} {x : En} (hx : l[k]? = some x) (h : x.seq ≠ floor + 1 + k \/ x.what < 1 \/ 3 < x.what) : okAt l floor k = false := by
 rw [okAt_of hx]
 rcases h with h | h | h
 ·simp [h]
 ·simp [mayB, show ¬ x.what = 1 by omega, show ¬ x.what = 2 by omega, show ¬ x.what = 3 by omega]
 ·simp [mayB, show ¬ x.what = 1 by omega, show ¬ x.what = 2 by omega, show ¬ x.what = 3 by omega]
theorem lastW_take {l : List En} {j : Nat} {y : En} (hy : l[j]? = some y) (id : ByteArray) : lastW (l.take (j + 1)) id = if y.id = id then y.what else lastW (l.take j) id := by
 rw [List.take_add_one, hy]
 exact lastW_snoc _ _ _
theorem get_ok {l : List En} {k : Nat} {x : En} (h : ∀ e ∈ l, e.ok) (hx : l[k]? = some x) : x.ok := h x (List.mem_of_getElem? hx)
end
section
open Go.RowKit
def OwnRet {α : Type} (w : World) (t : TypeId) (enc : α -> List Value) (sz : Nat) (xs : List α) (e : Ending) (w' : World) : Prop :=
 ∃ u, e = .returned u /\ Own w' w.heap.size t enc sz u xs /\ Below w.heap.size w w'
end
end Go.Proofs.YtfgjimpmpckgpaaGreatDoor
