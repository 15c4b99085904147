import Derived.Test.YtjhginendpjimaaGreatDoorA01
import Derived.Test.YtjhginendpjimaaGreatDoorA00
import Derived.Lib.AppendStr
import Derived.Lib.BufferRead
import Derived.Laws.IdiomStrings
import Derived.WalkLawsBesides
set_option linter.unusedSimpArgs false
set_option linter.unusedVariables false
set_option maxRecDepth 200000
set_option maxHeartbeats 8000000
namespace Go.Proofs.YtjhginendpjimaaGreatDoor
section
open Go.RowKit Go.OpenShut
def JV.mem : JV -> List (ByteArray × JV) | .mk k _ _ _ m => if k = 6 then m else []
def JV.place (t : JV) (name : ByteArray) : Option Nat := t.mem.findIdx? (fun p => decide (p.1 = name))
def JV.get (t : JV) (name : ByteArray) : Option JV := (t.place name).bind fun i => t.mem[i]?.map (·.2)
def JV.zero : JV := .mk 0 0 ⟨#[]⟩ [] []
def RV.zero : RV := ⟨0, 0, ⟨#[]⟩, none, 0, 0, none, 0, 0⟩
theorem TreeOf.zero (w : World) (B : Nat) : TreeOf w B JV.zero RV.zero :=
 TreeOf.mk (r := RV.zero) (rs := []) (rms := []) (Rd.nil _ _) rfl (fun i t q h => by simp at h) (Rd.nil _ _) rfl (fun i p q h => by simp at h) (fun i p q h => by simp at h)
def placeI (o : Option Nat) : Int := match o with
 | some i => i
 | none => -1
theorem find_at {α : Type} {p : α -> Bool} {l : List α} {k : Nat} {x : α} (hx : l[k]? = some x) (hp : p x = true) (hno : ∀ (j : Nat) (y : α), j < k -> l[j]? = some y -> p y = false) : l.findIdx? p = some k := by
 rw [List.findIdx?_eq_some_iff_getElem]
 obtain ⟨h, e⟩ := List.getElem?_eq_some_iff.1 hx
 refine ⟨h, by rw [e]; exact hp, fun j hj => ?_⟩
 have := hno j _ hj (List.getElem?_eq_getElem (by omega))
 simpa using this
theorem find_not {α : Type} {p : α -> Bool} {l : List α} (hno : ∀ (j : Nat) (y : α), l[j]? = some y -> p y = false) : l.findIdx? p = none := by
 rw [List.findIdx?_eq_none_iff]
 intro x hx
 obtain ⟨i, hi⟩ := List.getElem?_of_mem hx
 exact hno i x hi
theorem ret_int {k : IntKind} {a b : Int} (h : a = b) : Ending.returned (.int k a) = .returned (.int k b) := by rw [h]
theorem place_any (t : JV) (r : RV) (name : ByteArray) (w : World) (ht : TreeOf w w.heap.size t r) (ot : t.Ok) :
 Calls Tryz.prog 42 #[r.val, .string name] w fun e w' => e = .returned (.int .i64 (placeI (t.place name))) /\ Below w.heap.size w w' := by
 cases ht with
 | @mk _ l m rs rms hl el hcl hm em hcn hcm =>
 obtain ⟨k, n, s, pl, nl, cl, pm, nm, cm⟩ := r
 cases ot with
 | mk _ _ _ bl bm okl oks okm =>
 dsimp only [RV.val] at *
 have eM := rd_nlen hm
 have hA0 : VAt (w.alloc (.cells #[.int .i64 k, .int .i64 n, .string s, .slice pl nl cl, .slice pm nm cm] 25)) w.heap.size ⟨k, n, s, pl, nl, cl, pm, nm, cm⟩ := heap_alloc_at rfl
 have hB0 : Below w.heap.size w (w.alloc (.cells #[.int .i64 k, .int .i64 n, .string s, .slice pl nl cl, .slice pm nm cm] 25)) := (Below.refl _ _).alloc (Nat.le_refl _) _
 have HN := Lib.hid hcn
 have HM := Lib.hid hm
 have E2 : Hid (m.length = nm /\ rms.length = nm) := ⟨by omega, by omega⟩
 have hnm : nm <= 1466015503658 := by omega
 clear hcl hcn hcm hl hm okl oks okm el em bl bm eM
 by_cases hk : k = 6
 ·subst hk
  have hpl : (JV.mk 6 n s l m).place name = m.findIdx? (fun p => decide (p.1 = name)) := by simp [JV.place, JV.mem]
  rw [hpl]
  clear hpl
  go_enter Tryz.func42, Tryz.ntmps42
  go_wp2_with fail
  go_loopw [13] (fun i wr => ∃ k : Nat, k <= nm /\ i = .int .i64 k /\ Hid (∀ j y, j < k -> m[j]? = some y -> decide (y.1 = name) = false) /\ Below w.heap.size w wr) (fun i _ => nm - (intOf i).toNat)
  case atStart => exact ⟨0, Nat.zero_le _, rfl, fun j y h => by omega, hB0⟩
  case round =>
   obtain ⟨k, hk, rfl, hno, hbr⟩ := hrel
   have HNO := Lib.hid hno.out
   clear hno
   by_cases hlt : k < nm
   ·obtain ⟨tx, htx⟩ : ∃ x, m[k]? = some x := ⟨_, List.getElem?_eq_getElem (by have := E2.out; omega)⟩
    obtain ⟨x, hx⟩ : ∃ x, rms[k]? = some x := ⟨_, List.getElem?_eq_getElem (by have := E2.out; omega)⟩
    obtain ⟨b1, o1, rfl, hb1, hc1⟩ := rd_at' (HM.out.below hbr (Nat.le_refl _)) hx
    have f0 := hc1 0 _ rfl
    have f1 := hc1 1 _ rfl
    have f2 := hc1 2 _ rfl
    have f3 := hc1 3 _ rfl
    have f4 := hc1 4 _ rfl
    have f5 := hc1 5 _ rfl
    rw [Nat.add_zero] at f0
    have en := HN.out k tx x htx hx
    have HTX := Lib.hid htx
    have hz := hbr.size
    have HBR := Lib.hid hbr
    clear hc1 htx hx hbr
    by_cases hnx : x.name = name
    ·have hq : (x.name.toList == name.toList) = true := by rw [str_beq]; simpa using hnx
     have HF := Lib.hid (find_at (p := fun p : ByteArray × JV => decide (p.1 = name)) HTX.out (by rw [en]; simpa using hnx) HNO.out)
     clear hnx en
     go_wp2_with fail
     go_ret
     exact ⟨ret_int (by rw [HF.out]; rfl), HBR.out.alloc hz _⟩
    ·have hq : (x.name.toList == name.toList) = false := by rw [str_beq]; simpa using hnx
     have HNX : Hid (∀ j y, j < k + 1 -> m[j]? = some y -> decide (y.1 = name) = false) := by
      intro j y hj hy
      by_cases e : j = k
      ·subst e
       have h := HTX.out
       rw [hy] at h
       cases h
       rw [en]; simpa using hnx
      ·exact HNO.out j y (by omega) hy
     clear hnx en
     go_wp2_with fail
     go_roundw
     case rel => exact ⟨k + 1, by omega, by go_num, HNX, HBR.out.alloc hz _⟩
     case measure => simp [intOf]; omega
   ·obtain rfl : k = nm := by omega
    have HF := Lib.hid (find_not (p := fun p : ByteArray × JV => decide (p.1 = name)) (l := m) (fun j y hy => HNO.out j y (by have := (List.getElem?_eq_some_iff.1 hy).1; have := E2.out; omega) hy))
    go_wp2_with fail
    go_ret
    exact ⟨ret_int (by rw [HF.out]; rfl), hbr⟩
 ·have hpl : placeI ((JV.mk k n s l m).place name) = -1 := by simp [JV.place, JV.mem, hk, placeI]
  have HP := Lib.hid hpl
  have hq : (k != 6) = true := by simpa using hk
  clear hpl hk
  go_enter Tryz.func42, Tryz.ntmps42
  go_wp2_with fail
  go_ret
  exact ⟨ret_int HP.out.symm, hB0⟩
theorem getM {m : List (ByteArray × JV)} {name : ByteArray} {i : Nat} (h : m.findIdx? (fun p => decide (p.1 = name)) = some i) : ∃ p, m[i]? = some p /\ p.1 = name := by
 rw [List.findIdx?_eq_some_iff_getElem] at h
 obtain ⟨h1, h2, _⟩ := h
 exact ⟨m[i], List.getElem?_eq_getElem h1, by simpa using h2⟩
theorem place_mem {t : JV} {name : ByteArray} {i : Nat} (h : t.place name = some i) : ∃ p, t.m[i]? = some p /\ t.k = 6 /\ t.get name = some p.2 := by
 obtain ⟨k, n, s, l, m⟩ := t
 have hp := h
 by_cases hk : k = 6
 ·subst hk
  have e : (JV.mk 6 n s l m).mem = m := rfl
  unfold JV.place at h
  rw [e] at h
  obtain ⟨p, h1, h2⟩ := getM h
  refine ⟨p, h1, rfl, ?_⟩
  unfold JV.get
  rw [hp, e]
  simp [h1]
 ·have e : (JV.mk k n s l m).mem = [] := by simp [JV.mem, hk]
  unfold JV.place at h
  rw [e] at h
  simp at h
theorem VAt.stored {W : World} {g : Nat} {r : RV} (h : VAt W g r) (q : RV) :
 VAt (((((W.setCell ⟨g, 0, none⟩ (.int .i64 q.k)).setCell ⟨g, 1, none⟩ (.int .i64 q.n)).setCell ⟨g, 2, none⟩ (.string q.s)).setCell ⟨g, 3, none⟩ (.slice q.pl q.nl q.cl)).setCell ⟨g, 4, none⟩ (.slice q.pm q.nm q.cm)) g q := by
 unfold VAt at h ⊢
 simp [World.setCell, Array.getElem?_modify, h]
theorem VAt.frozen {W : World} {g : Nat} {r : RV} (h : VAt W g r) (j : Nat) : W.frozen? ⟨g, j, none⟩ = false := by
 unfold VAt at h
 simp [World.frozen?, h]
theorem Below.stored {B g : Nat} {w W : World} (h : Below B w W) (hg : B <= g) (q : RV) :
 Below B w (((((W.setCell ⟨g, 0, none⟩ (.int .i64 q.k)).setCell ⟨g, 1, none⟩ (.int .i64 q.n)).setCell ⟨g, 2, none⟩ (.string q.s)).setCell ⟨g, 3, none⟩ (.slice q.pl q.nl q.cl)).setCell ⟨g, 4, none⟩ (.slice q.pm q.nm q.cm)) :=
 ((((h.setCell (p := ⟨g, 0, none⟩) hg _).setCell (p := ⟨g, 1, none⟩) hg _).setCell (p := ⟨g, 2, none⟩) hg _).setCell (p := ⟨g, 3, none⟩) hg _).setCell (p := ⟨g, 4, none⟩) hg _
structure MemsOf (w : World) (B : Nat) (ms : List (ByteArray × JV)) (rms : List RM) : Prop where
 len : ms.length = rms.length
 name : ∀ (i : Nat) (p : ByteArray × JV) (q : RM), ms[i]? = some p -> rms[i]? = some q -> p.1 = q.name
 val : ∀ (i : Nat) (p : ByteArray × JV) (q : RM), ms[i]? = some p -> rms[i]? = some q -> TreeOf w B p.2 q.v
theorem MemsOf.under {w w' : World} {B B' : Nat} {ms : List (ByteArray × JV)} {rms : List RM} (h : MemsOf w B ms rms) (hb : Below B w w') (hB : B <= B') : MemsOf w' B' ms rms :=
 ⟨h.len, h.name, fun i p q h1 h2 => (h.val i p q h1 h2).under hb hB⟩
theorem MemsOf.nil (w : World) (B : Nat) : MemsOf w B [] [] := ⟨rfl, fun i p q h => by simp at h, fun i p q h => by simp at h⟩
theorem MemsOf.set {w : World} {B : Nat} {ms : List (ByteArray × JV)} {rms : List RM} (h : MemsOf w B ms rms) (i : Nat) {p : ByteArray × JV} {q : RM} (hn : p.1 = q.name) (ht : TreeOf w B p.2 q.v) : MemsOf w B (ms.set i p) (rms.set i q) := by
 refine ⟨by rw [List.length_set, List.length_set, h.len], fun j a b h1 h2 => ?_, fun j a b h1 h2 => ?_⟩
 ·rw [List.getElem?_set] at h1 h2
  split at h1
  ·rename_i e
   rw [if_pos e] at h2
   split at h1
   ·rw [if_pos (by rw [<- h.len]; assumption)] at h2
    cases h1; cases h2; exact hn
   ·cases h1
  ·rename_i e
   rw [if_neg e] at h2
   exact h.name j a b h1 h2
 ·rw [List.getElem?_set] at h1 h2
  split at h1
  ·rename_i e
   rw [if_pos e] at h2
   split at h1
   ·rw [if_pos (by rw [<- h.len]; assumption)] at h2
    cases h1; cases h2; exact ht
   ·cases h1
  ·rename_i e
   rw [if_neg e] at h2
   exact h.val j a b h1 h2
theorem MemsOf.snoc {w : World} {B : Nat} {ms : List (ByteArray × JV)} {rms : List RM} (h : MemsOf w B ms rms) {p : ByteArray × JV} {q : RM} (hn : p.1 = q.name) (ht : TreeOf w B p.2 q.v) : MemsOf w B (ms ++ [p]) (rms ++ [q]) := by
 have key : ∀ (j : Nat) (a : ByteArray × JV) (b : RM), (ms ++ [p])[j]? = some a -> (rms ++ [q])[j]? = some b -> (ms[j]? = some a /\ rms[j]? = some b) \/ (a = p /\ b = q) := by
  intro j a b h1 h2
  have hl := h.len
  by_cases hj : j < ms.length
  ·rw [List.getElem?_append_left hj] at h1
   rw [List.getElem?_append_left (by omega)] at h2
   exact .inl ⟨h1, h2⟩
  ·rw [List.getElem?_append_right (by omega)] at h1 h2
   have : j - ms.length = 0 := by
    have := (List.getElem?_eq_some_iff.1 h1).1
    simp at this; omega
   rw [this] at h1
   rw [<- hl, this] at h2
   simp at h1 h2
   exact .inr ⟨h1.symm, h2.symm⟩
 refine ⟨by simp [h.len], fun j a b h1 h2 => ?_, fun j a b h1 h2 => ?_⟩
 ·rcases key j a b h1 h2 with ⟨h1, h2⟩ | ⟨rfl, rfl⟩
  ·exact h.name j a b h1 h2
  ·exact hn
 ·rcases key j a b h1 h2 with ⟨h1, h2⟩ | ⟨rfl, rfl⟩
  ·exact h.val j a b h1 h2
  ·exact ht
theorem TreeOf.map {w : World} {B base : Nat} {ms : List (ByteArray × JV)} {rms : List RM} {pm : Option Addr} {nm cm : Nat} (h : Own w base 46 encM 6 (.slice pm nm cm) rms) (hm : MemsOf w B ms rms) (hB : B <= w.heap.size) :
 TreeOf w w.heap.size (.mk 6 0 ⟨#[]⟩ [] ms) ⟨6, 0, ⟨#[]⟩, none, 0, 0, pm, nm, cm⟩ :=
 TreeOf.mk (r := ⟨6, 0, ⟨#[]⟩, none, 0, 0, pm, nm, cm⟩) (rs := []) (rms := rms) (Rd.nil _ _) rfl (fun i t q h => by simp at h) (h.rd codecM) hm.len hm.name (fun i p q h1 h2 => (hm.val i p q h1 h2).mono hB)
theorem grownBy_set (W : World) (b o : Nat) (v : Value) : W.grownBy (W.setCell ⟨b, o, none⟩ v) (some b) :=
 ⟨rfl, rfl, rfl, by simp, fun k _ hk => heap_setCell_other W ⟨b, o, none⟩ k v (fun e => hk (by simp [e]))⟩
theorem grownBy_set5 (W : World) (g : Nat) (q : RV) : W.grownBy (((((W.setCell ⟨g, 0, none⟩ (.int .i64 q.k)).setCell ⟨g, 1, none⟩ (.int .i64 q.n)).setCell ⟨g, 2, none⟩ (.string q.s)).setCell ⟨g, 3, none⟩ (.slice q.pl q.nl q.cl)).setCell ⟨g, 4, none⟩ (.slice q.pm q.nm q.cm)) (some g) :=
 ((((grownBy_set W g 0 _).trans (grownBy_set _ g 1 _)).trans (grownBy_set _ g 2 _)).trans (grownBy_set _ g 3 _)).trans (grownBy_set _ g 4 _)
section
variable {α : Type} {e : TypeId} {enc : α -> List Value} {sz : Nat}
theorem Own.same {w w' : World} {base : Nat} {v : Value} {xs : List α} (h : Own w base e enc sz v xs) (hk : ∀ k, v.ownBlock = some k -> w'.heap[k]? = w.heap[k]?) : Own w' base e enc sz v xs := by
 obtain ⟨hl, h⟩ := h
 refine ⟨hl, ?_⟩
 rcases h with h | ⟨g, cap, cur, rfl, hg, hh, r⟩
 ·exact .inl h
 ·exact .inr ⟨g, cap, cur, rfl, hg, (hk g rfl).trans hh, r⟩
end
inductive LoneV (w : World) : (Nat -> Prop) -> JV -> RV -> Prop
 | mk {S : Nat -> Prop} {r : RV} {l : List JV} {m : List (ByteArray × JV)} {rs : List RV} {rms : List RM} (F : Nat ⊕ Nat -> Nat -> Prop)
  (hl : Own w 0 25 encV 5 (.slice r.pl r.nl r.cl) rs) (hm : Own w 0 46 encM 6 (.slice r.pm r.nm r.cm) rms)
  (sl : ∀ k, (Value.slice r.pl r.nl r.cl).ownBlock = some k -> S k) (sm : ∀ k, (Value.slice r.pm r.nm r.cm).ownBlock = some k -> S k)
  (dr : ∀ k, (Value.slice r.pl r.nl r.cl).ownBlock = some k -> (Value.slice r.pm r.nm r.cm).ownBlock ≠ some k)
  (el : l.length = rs.length) (em : m.length = rms.length)
  (cn : ∀ (i : Nat) (p : ByteArray × JV) (q : RM), m[i]? = some p -> rms[i]? = some q -> p.1 = q.name)
  (cl : ∀ (i : Nat) (t : JV) (q : RV), l[i]? = some t -> rs[i]? = some q -> LoneV w (F (.inl i)) t q)
  (cm : ∀ (i : Nat) (p : ByteArray × JV) (q : RM), m[i]? = some p -> rms[i]? = some q -> LoneV w (F (.inr i)) p.2 q.v)
  (ff : ∀ a k, F a k -> S k /\ (Value.slice r.pl r.nl r.cl).ownBlock ≠ some k /\ (Value.slice r.pm r.nm r.cm).ownBlock ≠ some k)
  (dd : ∀ a b k, F a k -> F b k -> a = b) : LoneV w S (.mk r.k r.n r.s l m) r
theorem LoneV.same {w w' : World} {S : Nat -> Prop} {t : JV} {r : RV} (h : LoneV w S t r) (hk : ∀ k, S k -> w'.heap[k]? = w.heap[k]?) : LoneV w' S t r := by
 induction h with
 | mk F hl hm sl sm dr el em cn cl cm ff dd ih1 ih2 =>
   exact .mk F (hl.same fun k e => hk k (sl k e)) (hm.same fun k e => hk k (sm k e)) sl sm dr el em cn
    (fun i t q h1 h2 => ih1 i t q h1 h2 fun k hf => hk k (ff _ k hf).1) (fun i p q h1 h2 => ih2 i p q h1 h2 fun k hf => hk k (ff _ k hf).1) ff dd
theorem LoneV.mono {w : World} {S S' : Nat -> Prop} {t : JV} {r : RV} (h : LoneV w S t r) (hs : ∀ k, S k -> S' k) : LoneV w S' t r := by
 cases h with
 | mk F hl hm sl sm dr el em cn cl cm ff dd =>
   exact .mk F hl hm (fun k e => hs k (sl k e)) (fun k e => hs k (sm k e)) dr el em cn cl cm (fun a k hf => ⟨hs k (ff a k hf).1, (ff a k hf).2⟩) dd
theorem LoneV.under {w w' : World} {S : Nat -> Prop} {B : Nat} {t : JV} {r : RV} (h : LoneV w S t r) (hb : Below B w w') (hs : ∀ k, S k -> k < B) : LoneV w' S t r := h.same fun k hk => hb.block k (hs k hk)
theorem LoneV.tree {w : World} {S : Nat -> Prop} {t : JV} {r : RV} (h : LoneV w S t r) : TreeOf w w.heap.size t r := by
 induction h with
 | mk F hl hm sl sm dr el em cn cl cm ff dd ih1 ih2 => exact .mk (hl.rd codecV) el ih1 (hm.rd codecM) em cn ih2
def Fresh (w w' : World) (k : Nat) : Prop := w.heap.size <= k /\ k < w'.heap.size
structure Parts (W : World) (b0 g : Nat) (D : Nat ⊕ Nat -> Prop) (l : List JV) (m : List (ByteArray × JV)) (ds : List RV) (dms : List RM) (r : RV) (F : Nat ⊕ Nat -> Nat -> Prop) : Prop where
 box : VAt W g r
 ownL : Own W b0 25 encV 5 (.slice r.pl r.nl r.cl) ds
 ownM : Own W b0 46 encM 6 (.slice r.pm r.nm r.cm) dms
 bL : ∀ k, (Value.slice r.pl r.nl r.cl).ownBlock = some k -> k ≠ g
 bM : ∀ k, (Value.slice r.pm r.nm r.cm).ownBlock = some k -> k ≠ g
 dr : ∀ k, (Value.slice r.pl r.nl r.cl).ownBlock = some k -> (Value.slice r.pm r.nm r.cm).ownBlock ≠ some k
 los : b0 <= W.heap.size
 el : l.length = ds.length
 em : m.length = dms.length
 cn : ∀ (i : Nat) (p : ByteArray × JV) (q : RM), m[i]? = some p -> dms[i]? = some q -> p.1 = q.name
 cl : ∀ (i : Nat) (t : JV) (q : RV), D (.inl i) -> l[i]? = some t -> ds[i]? = some q -> LoneV W (F (.inl i)) t q
 cm : ∀ (i : Nat) (p : ByteArray × JV) (q : RM), D (.inr i) -> m[i]? = some p -> dms[i]? = some q -> LoneV W (F (.inr i)) p.2 q.v
 ff : ∀ a k, F a k -> (b0 <= k /\ k < W.heap.size) /\ k ≠ g /\ (Value.slice r.pl r.nl r.cl).ownBlock ≠ some k /\ (Value.slice r.pm r.nm r.cm).ownBlock ≠ some k
 dd : ∀ a b k, F a k -> F b k -> a = b
theorem Parts.drewN {W : World} {b0 g : Nat} {D : Nat ⊕ Nat -> Prop} {l : List JV} {m : List (ByteArray × JV)} {ds : List RV} {dms : List RM} {r : RV} {F : Nat ⊕ Nat -> Nat -> Prop} (h : Parts W b0 g D l m ds dms r F) (n : Nat) : Parts (W.drewN n) b0 g D l m ds dms r F :=
 ⟨h.box, h.ownL, h.ownM, h.bL, h.bM, h.dr, h.los, h.el, h.em, h.cn, fun i t q h1 h2 h3 => (h.cl i t q h1 h2 h3).same fun _ _ => rfl, fun i t q h1 h2 h3 => (h.cm i t q h1 h2 h3).same fun _ _ => rfl, h.ff, h.dd⟩
theorem Parts.below {W W' : World} {b0 g : Nat} {D : Nat ⊕ Nat -> Prop} {l : List JV} {m : List (ByteArray × JV)} {ds : List RV} {dms : List RM} {r : RV} {F : Nat ⊕ Nat -> Nat -> Prop} (h : Parts W b0 g D l m ds dms r F) (hb : Below W.heap.size W W') : Parts W' b0 g D l m ds dms r F :=
 have hs := hb.size
 ⟨h.box.under hb h.box.lt, h.ownL.below hb (Nat.le_refl _), h.ownM.below hb (Nat.le_refl _), h.bL, h.bM, h.dr, Nat.le_trans h.los hs, h.el, h.em, h.cn, fun i t q h1 h2 h3 => (h.cl i t q h1 h2 h3).under hb fun k hk => (h.ff _ k hk).1.2, fun i t q h1 h2 h3 => (h.cm i t q h1 h2 h3).under hb fun k hk => (h.ff _ k hk).1.2, fun a k hk => ⟨⟨(h.ff a k hk).1.1, Nat.lt_of_lt_of_le (h.ff a k hk).1.2 hs⟩, (h.ff a k hk).2⟩, h.dd⟩
theorem Parts.whole {W : World} {b0 g : Nat} {D : Nat ⊕ Nat -> Prop} {l : List JV} {m : List (ByteArray × JV)} {ds : List RV} {dms : List RM} {r : RV} {F : Nat ⊕ Nat -> Nat -> Prop} (h : Parts W b0 g D l m ds dms r F) (hD : ∀ i, (i < l.length -> D (.inl i)) /\ (i < m.length -> D (.inr i))) : LoneV W (fun k => b0 <= k /\ k < W.heap.size) (.mk r.k r.n r.s l m) r :=
 .mk F (h.ownL.mono (Nat.zero_le _)) (h.ownM.mono (Nat.zero_le _)) (fun k e => h.ownL.lt k e) (fun k e => h.ownM.lt k e) h.dr h.el h.em h.cn
  (fun i t q h1 h2 => h.cl i t q ((hD i).1 (List.getElem?_eq_some_iff.1 h1).1) h1 h2) (fun i p q h1 h2 => h.cm i p q ((hD i).2 (List.getElem?_eq_some_iff.1 h1).1) h1 h2)
  (fun a k hk => ⟨(h.ff a k hk).1, (h.ff a k hk).2.2⟩) h.dd
end
section
open Go Go.RowKit Go.OpenShut
section
variable {α : Type} {enc : α -> List Value} {sz : Nat}
def RdI (w : World) (S : Nat -> Prop) (enc : α -> List Value) (sz : Nat) (v : Value) (xs : List α) : Prop :=
 ∃ (p : Option Addr) (cap : Nat), v = .slice p xs.length cap /\ xs.length <= cap /\ cap <= maxLen /\ (p = none -> cap = 0) /\
   ∀ a, p = some a -> 0 < xs.length -> ∃ b o, a = ⟨b, o, none⟩ /\ S b /\ RowAt w b o enc sz xs
theorem RdI.same {w w' : World} {S : Nat -> Prop} {v : Value} {xs : List α} (h : RdI w S enc sz v xs) (hk : ∀ k, S k -> w'.heap[k]? = w.heap[k]?) : RdI w' S enc sz v xs := by
 obtain ⟨p, cap, h1, h2, h3, h4, h5⟩ := h
 refine ⟨p, cap, h1, h2, h3, h4, fun a ha h0 => ?_⟩
 obtain ⟨b, o, e, hb, hr⟩ := h5 a ha h0
 exact ⟨b, o, e, hb, fun i x hx j u hu => (World.cell?_of_block (w := w) (a := ⟨b, o + i * sz + j, none⟩) (hk b hb)).trans (hr i x hx j u hu)⟩
theorem RdI.mono {w : World} {S S' : Nat -> Prop} {v : Value} {xs : List α} (h : RdI w S enc sz v xs) (hs : ∀ k, S k -> S' k) : RdI w S' enc sz v xs := by
 obtain ⟨p, cap, h1, h2, h3, h4, h5⟩ := h
 refine ⟨p, cap, h1, h2, h3, h4, fun a ha h0 => ?_⟩
 obtain ⟨b, o, e, hb, hr⟩ := h5 a ha h0
 exact ⟨b, o, e, hs b hb, hr⟩
theorem RdI.rd {w : World} {S : Nat -> Prop} {B : Nat} {v : Value} {xs : List α} (h : RdI w S enc sz v xs) (hs : ∀ k, S k -> k < B) : Rd w B enc sz v xs := by
 obtain ⟨p, cap, h1, h2, h3, h4, h5⟩ := h
 refine ⟨p, cap, h1, h2, h3, h4, fun a ha h0 => ?_⟩
 obtain ⟨b, o, e, hb, hr⟩ := h5 a ha h0
 exact ⟨b, o, e, hs b hb, hr⟩
theorem RdI.nil (w : World) (S : Nat -> Prop) : RdI w S enc sz (.slice none 0 0) ([] : List α) := ⟨none, 0, rfl, Nat.le_refl _, Nat.zero_le _, fun _ => rfl, fun a h _ => by cases h⟩
theorem Own.rdI (C : Codec enc sz) {w : World} {base : Nat} {e : TypeId} {S : Nat -> Prop} {v : Value} {xs : List α} (h : Own w base e enc sz v xs) (hs : ∀ k, v.ownBlock = some k -> S k) : RdI w S enc sz v xs := by
 have hrd := h.rd C
 obtain ⟨p, cap, h1, h2, h3, h4, h5⟩ := hrd
 refine ⟨p, cap, h1, h2, h3, h4, fun a ha h0 => ?_⟩
 obtain ⟨b, o, e, hb, hr⟩ := h5 a ha h0
 exact ⟨b, o, e, hs b (by rw [h1, ha, e]; rfl), hr⟩
end
inductive TreeS (w : World) (S : Nat -> Prop) : JV -> RV -> Prop
 | mk {r : RV} {l : List JV} {m : List (ByteArray × JV)} {rs : List RV} {rms : List RM} (hl : RdI w S encV 5 (.slice r.pl r.nl r.cl) rs) (el : l.length = rs.length) (cl : ∀ (i : Nat) (t : JV) (q : RV), l[i]? = some t -> rs[i]? = some q -> TreeS w S t q)
  (hm : RdI w S encM 6 (.slice r.pm r.nm r.cm) rms) (em : m.length = rms.length) (cn : ∀ (i : Nat) (p : ByteArray × JV) (q : RM), m[i]? = some p -> rms[i]? = some q -> p.1 = q.name)
  (cm : ∀ (i : Nat) (p : ByteArray × JV) (q : RM), m[i]? = some p -> rms[i]? = some q -> TreeS w S p.2 q.v) : TreeS w S (.mk r.k r.n r.s l m) r
theorem TreeS.same {w w' : World} {S : Nat -> Prop} {t : JV} {r : RV} (h : TreeS w S t r) (hk : ∀ k, S k -> w'.heap[k]? = w.heap[k]?) : TreeS w' S t r := by
 induction h with
 | mk hl el cl hm em cn cm ih1 ih2 => exact .mk (hl.same hk) el ih1 (hm.same hk) em cn ih2
theorem TreeS.mono {w : World} {S S' : Nat -> Prop} {t : JV} {r : RV} (h : TreeS w S t r) (hs : ∀ k, S k -> S' k) : TreeS w S' t r := by
 induction h with
 | mk hl el cl hm em cn cm ih1 ih2 => exact .mk (hl.mono hs) el ih1 (hm.mono hs) em cn ih2
theorem TreeS.tree {w : World} {S : Nat -> Prop} {B : Nat} {t : JV} {r : RV} (h : TreeS w S t r) (hs : ∀ k, S k -> k < B) : TreeOf w B t r := by
 induction h with
 | mk hl el cl hm em cn cm ih1 ih2 => exact .mk (hl.rd hs) el ih1 (hm.rd hs) em cn ih2
theorem TreeS.leaf (w : World) (S : Nat -> Prop) (k n : Int) (s : ByteArray) : TreeS w S (.mk k n s [] []) ⟨k, n, s, none, 0, 0, none, 0, 0⟩ :=
 .mk (r := ⟨k, n, s, none, 0, 0, none, 0, 0⟩) (rs := []) (rms := []) (RdI.nil _ _) rfl (fun i t q h => by simp at h) (RdI.nil _ _) rfl (fun i p q h => by simp at h) (fun i p q h => by simp at h)
structure GrL (w : World) (base : Nat) (v : Value) (l : List JV) : Prop where
 ex : ∃ rs, Own w base 25 encV 5 v rs /\ l.length = rs.length /\ ∀ (i : Nat) (t : JV) (q : RV), l[i]? = some t -> rs[i]? = some q -> TreeS w (fun k => base <= k /\ k < w.heap.size /\ v.ownBlock ≠ some k) t q
structure GrM (w : World) (base : Nat) (v : Value) (m : List (ByteArray × JV)) : Prop where
 ex : ∃ rms, Own w base 46 encM 6 v rms /\ m.length = rms.length /\ (∀ (i : Nat) (p : ByteArray × JV) (q : RM), m[i]? = some p -> rms[i]? = some q -> p.1 = q.name) /\ ∀ (i : Nat) (p : ByteArray × JV) (q : RM), m[i]? = some p -> rms[i]? = some q -> TreeS w (fun k => base <= k /\ k < w.heap.size /\ v.ownBlock ≠ some k) p.2 q.v
theorem GrL.nil (w : World) (base : Nat) : GrL w base (.slice none 0 0) [] := ⟨[], Own.nil _ _ _, rfl, fun i t q h => by simp at h⟩
theorem GrM.nil (w : World) (base : Nat) : GrM w base (.slice none 0 0) [] := ⟨[], Own.nil _ _ _, rfl, fun i t q h => by simp at h, fun i t q h => by simp at h⟩
theorem GrL.out {w w' : World} {base : Nat} {v : Value} {l : List JV} (h : GrL w base v l) (hk : ∀ k, base <= k -> k < w.heap.size -> w'.heap[k]? = w.heap[k]?) (hs : w.heap.size <= w'.heap.size) : GrL w' base v l := by
 obtain ⟨rs, h1, h2, h3⟩ := h.ex
 exact ⟨rs, h1.same (fun k e => hk k (h1.lt k e).1 (h1.lt k e).2), h2, fun i t q a b => ((h3 i t q a b).same (fun k e => hk k e.1 e.2.1)).mono (fun k e => ⟨e.1, by omega, e.2.2⟩)⟩
theorem GrM.out {w w' : World} {base : Nat} {v : Value} {m : List (ByteArray × JV)} (h : GrM w base v m) (hk : ∀ k, base <= k -> k < w.heap.size -> w'.heap[k]? = w.heap[k]?) (hs : w.heap.size <= w'.heap.size) : GrM w' base v m := by
 obtain ⟨rs, h1, h2, h4, h3⟩ := h.ex
 exact ⟨rs, h1.same (fun k e => hk k (h1.lt k e).1 (h1.lt k e).2), h2, h4, fun i t q a b => ((h3 i t q a b).same (fun k e => hk k e.1 e.2.1)).mono (fun k e => ⟨e.1, by omega, e.2.2⟩)⟩
theorem snoc_get {α : Type} {l : List α} {x a : α} {j : Nat} (h : (l ++ [x])[j]? = some a) : (j < l.length /\ l[j]? = some a) \/ (j = l.length /\ a = x) := by
 by_cases hj : j < l.length
 ·rw [List.getElem?_append_left hj] at h; exact .inl ⟨hj, h⟩
 ·rw [List.getElem?_append_right (by omega)] at h
  have h2 : j - l.length = 0 := by have := (List.getElem?_eq_some_iff.1 h).1; simp at this; omega
  rw [h2] at h
  simp at h
  exact .inr ⟨by omega, h.symm⟩
theorem GrL.snoc {w1 w2 : World} {base : Nat} {v v2 : Value} {l : List JV} {t : JV} {q : RV} {rs : List RV} (h1 : Own w1 base 25 encV 5 v rs) (h2 : l.length = rs.length) (h3 : ∀ (i : Nat) (t : JV) (q : RV), l[i]? = some t -> rs[i]? = some q -> TreeS w1 (fun k => base <= k /\ k < w1.heap.size /\ v.ownBlock ≠ some k) t q)
 (ht : TreeS w1 (fun k => base <= k /\ k < w1.heap.size /\ v.ownBlock ≠ some k) t q) (ho : Own w2 base 25 encV 5 v2 (rs ++ [q])) (hg : w1.grownBy w2 v.ownBlock) (hat : ∀ k, v2.ownBlock = some k -> v.ownBlock = some k \/ w1.heap.size <= k) : GrL w2 base v2 (l ++ [t]) := by
 have hs := hg.size
 have key : ∀ (t : JV) (q : RV), TreeS w1 (fun k => base <= k /\ k < w1.heap.size /\ v.ownBlock ≠ some k) t q -> TreeS w2 (fun k => base <= k /\ k < w2.heap.size /\ v2.ownBlock ≠ some k) t q :=
  fun t q h => (h.same (fun k e => hg.block k e.2.1 (fun e2 => e.2.2 e2.symm))).mono (fun k e => ⟨e.1, by omega, fun e2 => by
   rcases hat k e2 with h | h
   ·exact e.2.2 h
   ·omega⟩)
 refine ⟨rs ++ [q], ho, by simp [h2], fun i t' q' a b => ?_⟩
 rcases snoc_get a with ⟨ha, a⟩ | ⟨ha, rfl⟩
 ·rcases snoc_get b with ⟨hb, b⟩ | ⟨hb, _⟩
  ·exact key _ _ (h3 i t' q' a b)
  ·omega
 ·rcases snoc_get b with ⟨hb, b⟩ | ⟨hb, rfl⟩
  ·omega
  ·exact key _ _ ht
theorem GrM.snoc {w1 w2 : World} {base : Nat} {v v2 : Value} {m : List (ByteArray × JV)} {n : ByteArray} {t : JV} {q : RV} {rms : List RM} (h1 : Own w1 base 46 encM 6 v rms) (h2 : m.length = rms.length) (h4 : ∀ (i : Nat) (p : ByteArray × JV) (q : RM), m[i]? = some p -> rms[i]? = some q -> p.1 = q.name)
 (h3 : ∀ (i : Nat) (p : ByteArray × JV) (q : RM), m[i]? = some p -> rms[i]? = some q -> TreeS w1 (fun k => base <= k /\ k < w1.heap.size /\ v.ownBlock ≠ some k) p.2 q.v)
 (ht : TreeS w1 (fun k => base <= k /\ k < w1.heap.size /\ v.ownBlock ≠ some k) t q) (ho : Own w2 base 46 encM 6 v2 (rms ++ [⟨n, q⟩])) (hg : w1.grownBy w2 v.ownBlock) (hat : ∀ k, v2.ownBlock = some k -> v.ownBlock = some k \/ w1.heap.size <= k) : GrM w2 base v2 (m ++ [(n, t)]) := by
 have hs := hg.size
 have key : ∀ (t : JV) (q : RV), TreeS w1 (fun k => base <= k /\ k < w1.heap.size /\ v.ownBlock ≠ some k) t q -> TreeS w2 (fun k => base <= k /\ k < w2.heap.size /\ v2.ownBlock ≠ some k) t q :=
  fun t q h => (h.same (fun k e => hg.block k e.2.1 (fun e2 => e.2.2 e2.symm))).mono (fun k e => ⟨e.1, by omega, fun e2 => by
   rcases hat k e2 with h | h
   ·exact e.2.2 h
   ·omega⟩)
 refine ⟨rms ++ [⟨n, q⟩], ho, by simp [h2], fun i p' q' a b => ?_, fun i p' q' a b => ?_⟩
 ·rcases snoc_get a with ⟨ha, a⟩ | ⟨ha, rfl⟩
  ·rcases snoc_get b with ⟨hb, b⟩ | ⟨hb, _⟩
   ·exact h4 i p' q' a b
   ·omega
  ·rcases snoc_get b with ⟨hb, b⟩ | ⟨hb, rfl⟩
   ·omega
   ·rfl
 ·rcases snoc_get a with ⟨ha, a⟩ | ⟨ha, rfl⟩
  ·rcases snoc_get b with ⟨hb, b⟩ | ⟨hb, _⟩
   ·exact key _ _ (h3 i p' q' a b)
   ·omega
  ·rcases snoc_get b with ⟨hb, b⟩ | ⟨hb, rfl⟩
   ·omega
   ·exact key _ _ ht
theorem GrL.whole {w : World} {base : Nat} {p : Option Addr} {n c : Nat} {l : List JV} (h : GrL w base (.slice p n c) l) : TreeS w (fun k => base <= k /\ k < w.heap.size) (.mk 5 0 ⟨#[]⟩ l []) ⟨5, 0, ⟨#[]⟩, p, n, c, none, 0, 0⟩ := by
 obtain ⟨rs, h1, h2, h3⟩ := h.ex
 exact .mk (r := ⟨5, 0, ⟨#[]⟩, p, n, c, none, 0, 0⟩) (rs := rs) (rms := []) (h1.rdI codecV (fun k e => h1.lt k e)) h2 (fun i t q a b => (h3 i t q a b).mono (fun k e => ⟨e.1, e.2.1⟩)) (RdI.nil _ _) rfl (fun i p q h => by simp at h) (fun i p q h => by simp at h)
theorem GrM.whole {w : World} {base : Nat} {p : Option Addr} {n c : Nat} {m : List (ByteArray × JV)} (h : GrM w base (.slice p n c) m) : TreeS w (fun k => base <= k /\ k < w.heap.size) (.mk 6 0 ⟨#[]⟩ [] m) ⟨6, 0, ⟨#[]⟩, none, 0, 0, p, n, c⟩ := by
 obtain ⟨rs, h1, h2, h4, h3⟩ := h.ex
 exact .mk (r := ⟨6, 0, ⟨#[]⟩, none, 0, 0, p, n, c⟩) (rs := []) (rms := rs) (RdI.nil _ _) rfl (fun i p q h => by simp at h) (h1.rdI codecM (fun k e => h1.lt k e)) h2 h4 (fun i t q a b => (h3 i t q a b).mono (fun k e => ⟨e.1, e.2.1⟩))
end
section
open Go Go.RowKit
def encU (b : UInt8) : List Value := [.int .u8 b.toNat]
theorem infoU : (Tryz.prog.info? 5).map (fun i => (i.zero, i.size, i.bytes)) = some (some (.int .u8 0), 1, 1) := by kernel_rfl
def toB (l : List UInt8) : ByteArray := ⟨l.toArray⟩
theorem cells_bytes (l : List UInt8) : cellsOf encU l = l.map (fun b => Value.int .u8 b.toNat) := by
 induction l with
 | nil => rfl
 | cons b l ih =>
   unfold cellsOf at ih ⊢
   rw [List.flatMap_cons, ih]
   rfl
theorem cells_str (s : ByteArray) : Lib.strCells s = cellsOf encU s.data.toList := (cells_bytes _).symm
abbrev OwnU (w : World) (base : Nat) (v : Value) (l : List UInt8) : Prop := Own w base 5 encU 1 v l
theorem str_len (s : ByteArray) : s.data.toList.length = s.size := Array.length_toList
theorem run_append_str (w : World) (ty : TypeId) {base : Nat} {v : Value} {l : List UInt8} (hown : OwnU w base v l) (s : ByteArray) (hlen : l.length + s.size <= 140737488355328) (hbase : base <= w.heap.size) :
 ∃ v' w', (Builtin.append_ #[130, 9] ty #[v, .string s]).run Tryz.prog w = .ok v' w' /\ OwnU w' base v' (l ++ s.data.toList) /\ w.grownBy w' v.ownBlock := by
 obtain ⟨i, hi, hz, hs1, hby⟩ := info_parts infoU
 have hO : w.ownsRow base 5 1 v l.length (cellsOf encU l) := hown
 obtain ⟨v', w', hr, h2, h3, _⟩ := Lib.run_append_own_string (P := Tryz.prog) w base 130 9 ty 5 i Tryz.underlying130 Tryz.underlying9 hi hz hs1 hby v l.length (cellsOf encU l) hO s (by unfold maxLen; omega) hlen hbase
 refine ⟨v', w', hr, ?_, h3⟩
 unfold OwnU Own
 rw [cellsOf_append, List.length_append, str_len, <- cells_str]
 exact h2
theorem wpList_append_str {ops : Array Oper} {rest : List Oper} {o : Oper} {a : Act} {Q : Exit -> Act -> World -> Prop} (w : World) (hgd : o.guard = none) (s x : Operand)
 (ho : o.op = .call { callee := .builtin .append, args := #[s, x], argTypes := #[130, 9] }) {base : Nat} {v : Value} {l : List UInt8} {t : ByteArray} (hs : a.eval s = v) (hx : a.eval x = .string t) (hown : OwnU w base v l)
 (hlen : l.length + t.size <= 140737488355328) (hbase : base <= w.heap.size)
 (h : ∀ v' w', OwnU w' base v' (l ++ t.data.toList) -> w.grownBy w' v.ownBlock -> wpList Tryz.prog ops Q rest (a.put o.dst v') w') : wpList Tryz.prog ops Q (o :: rest) a w := by
 refine wpList_plain hgd fun K hK => ?_
 obtain ⟨v', w', hr, h2, h3⟩ := run_append_str w o.type hown t hlen hbase
 unfold Oper.wp execOp
 simp only [ho, resolve, invoke, builtin, Sem.run_bind, Sem.run_pure, Result.andThen_ok, List.map_toArray, List.map_cons, List.map_nil, hs, hx, hr]
 exact hK _ _ (h v' w' h2 h3)
theorem str_of_own {w : World} {base : Nat} {v : Value} {l : List UInt8} (h : OwnU w base v l) : (convert 130 9 v).run Tryz.prog w = .ok (.string (toB l)) w := by
 have hO : w.ownsRow base 5 1 v l.length (cellsOf encU l) := h
 rcases hO.2 with ⟨rfl, hn⟩ | ⟨g, cap, cur, rfl, _⟩
 ·have : l = [] := List.eq_nil_of_length_eq_zero hn
  subst this
  exact Lib.run_convert_nil_bytes w _ _ _ 0 Tryz.underlying130 Tryz.underlying5 Tryz.underlying9
 ·refine run_convert_bytes_back w _ _ _ _ cap l Tryz.underlying130 Tryz.underlying5 Tryz.underlying9 (fun j hj => ?_)
  refine hO.cells (g := g) rfl j _ ?_
  rw [cells_bytes, List.getElem?_map, List.getElem?_eq_getElem hj]
  rfl
end
section
open Go Go.RowKit Go.OpenShut
abbrev Tok.val (t : Tok) : Value := .agg #[.int .i64 t.kind, .int .i64 t.n, .string t.s, .int .i64 t.pos]
abbrev Tok.obj (t : Tok) : Obj := .cells #[.int .i64 t.kind, .int .i64 t.n, .string t.s, .int .i64 t.pos] 97
def TokAt (W : World) (g : Nat) (t : Tok) : Prop := W.heap[g]? = some (.cells #[.int .i64 t.kind, .int .i64 t.n, .string t.s, .int .i64 t.pos] 97 (0, 0))
theorem TokAt.lt {W : World} {g : Nat} {t : Tok} (h : TokAt W g t) : g < W.heap.size := (Array.getElem?_eq_some_iff.1 h).1
theorem TokAt.cell {W : World} {g : Nat} {t : Tok} (h : TokAt W g t) (j : Nat) {u : Value} (hu : (encTok t)[j]? = some u) : W.cell? ⟨g, j, none⟩ = some u := by
 unfold TokAt at h
 rw [cell_of_row W g j _ _ _ h, <- Array.getElem?_toList]
 exact hu
theorem TokAt.frozen {W : World} {g : Nat} {t : Tok} (h : TokAt W g t) (j : Nat) : W.frozen? ⟨g, j, none⟩ = false := by
 unfold TokAt at h
 simp [World.frozen?, h]
theorem TokAt.keep {W W' : World} {g : Nat} {t : Tok} (h : TokAt W g t) (hk : W'.heap[g]? = W.heap[g]?) : TokAt W' g t := hk.trans h
theorem TokAt.stored {W : World} {g : Nat} {t : Tok} (h : TokAt W g t) (q : Tok) : TokAt ((((W.setCell ⟨g, 0, none⟩ (.int .i64 q.kind)).setCell ⟨g, 1, none⟩ (.int .i64 q.n)).setCell ⟨g, 2, none⟩ (.string q.s)).setCell ⟨g, 3, none⟩ (.int .i64 q.pos)) g q := by
 unfold TokAt at h ⊢
 simp [World.setCell, Array.getElem?_modify, h]
theorem grownBy_setT (W : World) (g : Nat) (q : Tok) : W.grownBy ((((W.setCell ⟨g, 0, none⟩ (.int .i64 q.kind)).setCell ⟨g, 1, none⟩ (.int .i64 q.n)).setCell ⟨g, 2, none⟩ (.string q.s)).setCell ⟨g, 3, none⟩ (.int .i64 q.pos)) (some g) :=
 (((grownBy_set W g 0 _).trans (grownBy_set _ g 1 _)).trans (grownBy_set _ g 2 _)).trans (grownBy_set _ g 3 _)
theorem rd_lens {α : Type} {enc : α -> List Value} {sz B : Nat} {w : World} {v : Value} {xs : List α} (h : Rd w B enc sz v xs) : ∃ p cap, v = .slice p xs.length cap /\ xs.length <= cap /\ cap <= 9223372036854775807 := by
 obtain ⟨p, cap, he, h1, h2, _⟩ := h
 exact ⟨p, cap, he, h1, h2⟩
def Tok.zero : Tok := ⟨0, 0, ⟨#[]⟩, 0⟩
theorem infoTk : (Tryz.prog.info? 97).map (fun i => (i.zero, i.size, i.bytes)) = some (some (.agg #[.int .i64 0, .int .i64 0, .string ByteArray.empty, .int .i64 0]), 4, 40) := by kernel_rfl
theorem slTk : SlT Tryz.prog 86 97 4 40 := SlT.mk Tryz.underlying86 infoTk rfl
def RdrAt (W : World) (g : Nat) (v : Value) (en pa : Nat) : Prop := W.heap[g]? = some (.cells #[v, .int .i64 en, .int .i64 pa] 94 (0, 0))
theorem RdrAt.lt {W : World} {g en pa : Nat} {v : Value} (h : RdrAt W g v en pa) : g < W.heap.size := (Array.getElem?_eq_some_iff.1 h).1
theorem RdrAt.cell {W : World} {g en pa : Nat} {v : Value} (h : RdrAt W g v en pa) (j : Nat) {u : Value} (hu : [v, Value.int .i64 en, .int .i64 pa][j]? = some u) : W.cell? ⟨g, j, none⟩ = some u := by
 unfold RdrAt at h
 rw [cell_of_row W g j _ _ _ h, <- Array.getElem?_toList]
 exact hu
theorem RdrAt.frozen {W : World} {g en pa : Nat} {v : Value} (h : RdrAt W g v en pa) (j : Nat) : W.frozen? ⟨g, j, none⟩ = false := by
 unfold RdrAt at h
 simp [World.frozen?, h]
theorem RdrAt.keep {W W' : World} {g en pa : Nat} {v : Value} (h : RdrAt W g v en pa) (hk : W'.heap[g]? = W.heap[g]?) : RdrAt W' g v en pa := hk.trans h
theorem RdrAt.set0 {W : World} {g en pa : Nat} {v : Value} (h : RdrAt W g v en pa) (u : Value) : RdrAt (W.setCell ⟨g, 0, none⟩ u) g u en pa := by
 unfold RdrAt at h ⊢
 simp [World.setCell, Array.getElem?_modify, h]
theorem RdrAt.set2 {W : World} {g en pa : Nat} {v : Value} (h : RdrAt W g v en pa) (k : Nat) : RdrAt (W.setCell ⟨g, 2, none⟩ (.int .i64 k)) g v en k := by
 unfold RdrAt at h ⊢
 simp [World.setCell, Array.getElem?_modify, h]
structure RdS (W : World) (g : Nat) (ts : List Tok) (en pa : Nat) : Prop where
 ex : ∃ p n c, RdrAt W g (.slice p n c) en pa /\ Rd W g encTok 4 (.slice p n c) ts
theorem RdS.lt {W : World} {g en pa : Nat} {ts : List Tok} (h : RdS W g ts en pa) : g < W.heap.size := by
 obtain ⟨p, n, c, h1, _⟩ := h.ex
 exact h1.lt
theorem below_of {B : Nat} {w w' : World} {row : Option Nat} (h : w.grownBy w' row) (hb : B <= w.heap.size) (hr : ∀ k, row = some k -> B <= k) : Below B w w' := (Below.refl B w).grown h hb hr
theorem RdS.kept {W W' : World} {g en pa : Nat} {ts : List Tok} {row : Option Nat} (h : RdS W g ts en pa) (hg : W.grownBy W' row) (hr : ∀ k, row = some k -> g < k) : RdS W' g ts en pa := by
 have hl := h.lt
 obtain ⟨p, n, c, h1, h2⟩ := h.ex
 exact ⟨p, n, c, h1.keep (hg.block g hl (fun e => by have := hr g e.symm; omega)), h2.below (below_of hg (by omega) (fun k e => by have := hr k e; omega)) (Nat.le_refl _)⟩
theorem RdS.len {W : World} {g en pa : Nat} {ts : List Tok} (h : RdS W g ts en pa) : ∃ p c, RdrAt W g (.slice p ts.length c) en pa /\ Rd W g encTok 4 (.slice p ts.length c) ts /\ ts.length <= 9223372036854775807 := by
 obtain ⟨p, n, c, h1, h2⟩ := h.ex
 have hl := rd_nlen h2
 obtain ⟨p', c', hv, h3, h4⟩ := rd_lens h2
 simp only [Value.slice.injEq] at hv
 obtain ⟨rfl, rfl, rfl⟩ := hv
 exact ⟨p, c, h1, h2, by omega⟩
theorem is_any (t : Tok) (c : UInt8) (w : World) (b : Bool) (hb : isM t c = b) : Calls Tryz.prog 68 #[t.val, .string ⟨#[c]⟩] w fun e w' => e = .returned (.bool b) /\ Below w.heap.size w w' := by
 subst hb
 unfold isM
 obtain ⟨k, n, s, p⟩ := t
 dsimp only [Tok.val]
 by_cases h1 : k = 1
 ·subst h1
  by_cases h2 : s = ⟨#[c]⟩
  ·subst h2
   go_enter Tryz.func68, Tryz.ntmps68
   go_wp2_with fail
   go_ret
   exact ⟨by simp, (Below.refl _ _).alloc (Nat.le_refl _) _⟩
  ·have hq : (s.toList == (⟨#[c]⟩ : ByteArray).toList) = false := by rw [str_beq]; simpa using h2
   have HR : Hid ((decide ((1 : Int) = 1) && decide (s = ⟨#[c]⟩)) = false) := by simp [Hid, h2]
   rw [HR.out]
   clear h2
   obtain ⟨m, hm⟩ : ∃ m : ByteArray, ⟨#[c]⟩ = m := ⟨_, rfl⟩
   rw [hm] at hq ⊢
   clear HR hm
   go_enter Tryz.func68, Tryz.ntmps68
   go_wp2_with fail
   go_ret
   exact ⟨rfl, (Below.refl _ _).alloc (Nat.le_refl _) _⟩
 ·have HR : Hid ((decide (k = 1) && decide (s = ⟨#[c]⟩)) = false) := by simp [Hid, h1]
  rw [HR.out]
  have hq : (k == 1) = false := by simpa using h1
  clear h1 HR
  go_enter Tryz.func68, Tryz.ntmps68
  go_wp2_with fail
  go_ret
  exact ⟨rfl, (Below.refl _ _).alloc (Nat.le_refl _) _⟩
theorem _root_.Go.World.grownBy.keep_none {w w' : World} {row : Option Nat} (h : w.grownBy w' row) (g : Nat) (hg : g < w.heap.size) (hne : row ≠ some g := by (first | assumption | simp)) : w'.heap[g]? = w.heap[g]? := h.block g hg (fun e => hne e.symm)
theorem _root_.Go.World.grownBy.keep_some {w w1 w2 : World} {g : Nat} (h : w.grownBy w1 none) (h2 : w1.grownBy w2 (some g)) : w.grownBy w2 (some g) :=
 ⟨h2.os.trans h.os, h2.tape.trans h.tape, h2.output.trans h.output, Nat.le_trans h.size h2.size, fun k hk hne => (h2.block k (Nat.lt_of_lt_of_le hk h.size) hne).trans (h.block k hk (by simp))⟩
theorem _root_.Go.World.grownBy.new_row {w w1 w2 : World} {row : Option Nat} {x : Nat} (h : w.grownBy w1 row) (h2 : w1.grownBy w2 (some x)) (hx : w.heap.size <= x) : w.grownBy w2 row :=
 ⟨h2.os.trans h.os, h2.tape.trans h.tape, h2.output.trans h.output, Nat.le_trans h.size h2.size, fun k hk hne => (h2.block k (Nat.lt_of_lt_of_le hk h.size) (fun e => by cases e; omega)).trans (h.block k hk hne)⟩
def NxtRet (w : World) (g : Nat) (t : Tok) (ts : List Tok) (en pa : Nat) (e : Ending) (w' : World) : Prop := e = .returned t.val /\ RdS w' g ts en pa /\ w.grownBy w' (some g)
theorem next_any (w : World) (g en pa : Nat) (t : Tok) (ts : List Tok) (h : RdS w g (t :: ts) en pa) : Calls Tryz.prog 51 #[.pointer (some ⟨g, 0, none⟩)] w (NxtRet w g t ts en pa) := by
 obtain ⟨p, c, h1, h2, h3⟩ := h.len
 have hgl := h1.lt
 obtain ⟨N, hN⟩ : ∃ N, (t :: ts).length = N := ⟨_, rfl⟩
 rw [hN] at h1 h2 h3
 have hN1 : 1 <= N := by rw [<- hN]; simp
 have hr0 := h2
 obtain ⟨v1, hrun, hr1⟩ := slice_l slTk hr0 1 hN1
 obtain ⟨q1, n1, c1, rfl⟩ : ∃ q n c, v1 = Value.slice q n c := (by obtain ⟨p, c, hv, _, _⟩ := rd_lens hr1; exact ⟨p, _, c, hv⟩)
 rw [List.drop_one, List.tail_cons] at hr1
 obtain ⟨b, o, rfl, hb, hc0⟩ := rd_at' (k := 0) h2 (x := t) rfl
 rw [Nat.zero_mul, Nat.add_zero] at hc0
 obtain ⟨tk, tn, tS, tp⟩ := t
 have f0 : w.cell? ⟨b, o, none⟩ = some (.int .i64 tk) := hc0 0 _ rfl
 have f1 : w.cell? ⟨b, o + 1, none⟩ = some (.int .i64 tn) := hc0 1 _ rfl
 have f2 : w.cell? ⟨b, o + 2, none⟩ = some (.string tS) := hc0 2 _ rfl
 have f3 : w.cell? ⟨b, o + 3, none⟩ = some (.int .i64 tp) := hc0 3 _ rfl
 have c0 := h1.cell 0 rfl
 have z0 := h1.frozen 0
 have e0 : ((N : Int) == 0) = false := by simp; omega
 have e1 : (0 : Int) < (N : Int) := by omega
 have HR1 := Lib.hid hr1
 have H1 := Lib.hid h1
 clear hr0 hr1 h2 hc0 h1 hN h
 have hg0 := World.grownBy_alloc w (.cells #[.int .i64 0, .int .i64 0, .string ⟨#[]⟩, .int .i64 0] 97) none
 have hT0 : TokAt (w.alloc (.cells #[.int .i64 0, .int .i64 0, .string ⟨#[]⟩, .int .i64 0] 97)) w.heap.size Tok.zero := heap_alloc_at rfl
 have hs0 : (w.alloc (.cells #[.int .i64 0, .int .i64 0, .string ⟨#[]⟩, .int .i64 0] 97)).heap.size = w.heap.size + 1 := by simp
 have k0 : ∀ b o, b < w.heap.size -> (w.alloc (.cells #[.int .i64 0, .int .i64 0, .string ⟨#[]⟩, .int .i64 0] 97)).cell? ⟨b, o, none⟩ = w.cell? ⟨b, o, none⟩ := fun b o hb => ((Below.refl w.heap.size w).alloc (Nat.le_refl _) _).cell (p := ⟨b, o, none⟩) hb
 go_enter Tryz.func51, Tryz.ntmps51
 go_upto_region 1 with fail
 obtain ⟨W0, hW0⟩ : ∃ W0, w.alloc (.cells #[.int .i64 0, .int .i64 0, .string ⟨#[]⟩, .int .i64 0] 97) = W0 := ⟨_, rfl⟩
 rw [hW0] at hg0 hT0 hs0 k0
 try rw [hW0]
 clear hW0
 have p0 := (k0 g 0 hgl).trans c0
 have g0 := (k0 b o (by omega)).trans f0
 have g1 := (k0 b (o + 1) (by omega)).trans f1
 have g2 := (k0 b (o + 2) (by omega)).trans f2
 have g3 := (k0 b (o + 3) (by omega)).trans f3
 have hrun1 : ∀ W, (Instr.sliceAt 86 (.slice (some ⟨b, o, none⟩) N c) (some (.int .i64 1)) none none).run Tryz.prog W = .ok (.slice q1 n1 c1) W := hrun
 have HG0 := Lib.hid hg0
 have HT0 := Lib.hid hT0
 have HS0 := Lib.hid hs0
 have hgW : g < W0.heap.size := by omega
 clear c0 f0 f1 f2 f3 k0 hrun hg0 hT0 hs0 z0
 have hg1 := World.grownBy_alloc W0 (.cells #[.int .i64 tk, .int .i64 tn, .string tS, .int .i64 tp] 97) none
 have hT1 : TokAt (W0.alloc (.cells #[.int .i64 tk, .int .i64 tn, .string tS, .int .i64 tp] 97)) W0.heap.size ⟨tk, tn, tS, tp⟩ := heap_alloc_at rfl
 have hT2 : TokAt (W0.alloc (.cells #[.int .i64 tk, .int .i64 tn, .string tS, .int .i64 tp] 97)) w.heap.size Tok.zero := HT0.out.keep (hg1.keep_none _ HT0.out.lt)
 have hR1 : RdrAt (W0.alloc (.cells #[.int .i64 tk, .int .i64 tn, .string tS, .int .i64 tp] 97)) g (.slice (some ⟨b, o, none⟩) N c) en pa := (H1.out.keep (HG0.out.keep_none g (by omega))).keep (hg1.keep_none g hgW)
 go_upto_region 4 with fail
 have hz1 : (W0.alloc (.cells #[.int .i64 tk, .int .i64 tn, .string tS, .int .i64 tp] 97)).heap.size = w.heap.size + 2 := by have := HS0.out; simp; omega
 have hg1' := HG0.out.trans hg1
 obtain ⟨q0, hq0⟩ : ∃ q, W0.heap.size = q := ⟨_, rfl⟩
 have hqn : g ≠ q0 /\ w.heap.size ≠ q0 /\ g ≠ w.heap.size := by have := HS0.out; omega
 obtain ⟨W1, hW1⟩ : ∃ W1, W0.alloc (.cells #[.int .i64 tk, .int .i64 tn, .string tS, .int .i64 tp] 97) = W1 := ⟨_, rfl⟩
 rw [hW1] at hT1 hT2 hR1 hz1 hg1'
 rw [hq0] at hT1
 try rw [hW1]
 try rw [hq0]
 clear hg1 hW1 hq0 p0 g0 g1 g2 g3 HT0
 have p0 := hR1.cell 0 rfl
 have z0 := hR1.frozen 0
 have hR2 := hR1.set0 (.slice q1 n1 c1)
 have hg2 := grownBy_set W1 g 0 (.slice q1 n1 c1)
 have hT3 := hT1.keep (hg2.block q0 hT1.lt (by simp; omega))
 have hT4 := hT2.keep (hg2.block w.heap.size hT2.lt (by simp; omega))
 go_upto_region 5 with fail
 obtain ⟨W2, hW2⟩ : ∃ W2, W1.setCell ⟨g, 0, none⟩ (.slice q1 n1 c1) = W2 := ⟨_, rfl⟩
 rw [hW2] at hR2 hg2 hT3 hT4
 try rw [hW2]
 clear hW2 p0 z0 hrun1
 have a0 := hT3.cell 0 rfl
 have a1 := hT3.cell 1 rfl
 have a2 := hT3.cell 2 rfl
 have a3 := hT3.cell 3 rfl
 have b0 := hT4.cell 0 rfl
 have b1 := hT4.cell 1 rfl
 have b2 := hT4.cell 2 rfl
 have b3 := hT4.cell 3 rfl
 have y0 := hT4.frozen 0
 have y1 := hT4.frozen 1
 have y2 := hT4.frozen 2
 have y3 := hT4.frozen 3
 dsimp only [Tok.zero] at a0 a1 a2 a3 b0 b1 b2 b3
 have HR2 := Lib.hid hR2
 have HG2 := Lib.hid (hg1'.keep_some hg2)
 have HZ1 := Lib.hid hz1
 have HS2 := Lib.hid hg2.size
 clear hT1 hT2 hT3 hT4 hR1 hg1' hg2 hR2 hz1
 go_wp2_with fail
 refine bodyPost_ret (v := Tok.val ⟨tk, tn, tS, tp⟩) (by simp [results, Tryz.results51, go_sem, b0, b1, b2, b3]) rfl ⟨rfl, ?_, ?_⟩
 ·have hg3 := grownBy_setT W2 w.heap.size ⟨tk, tn, tS, tp⟩
  obtain ⟨p', n', c', h1, h2⟩ := (⟨_, _, _, HR2.out, (HR1.out.below (below_of HG2.out (by omega) (fun k e => by cases e; exact Nat.le_refl _)) (Nat.le_refl _))⟩ : ∃ p n c, RdrAt W2 g (.slice p n c) en pa /\ Rd W2 g encTok 4 (.slice p n c) ts)
  exact RdS.kept ⟨p', n', c', h1, h2⟩ hg3 (fun k e => by cases e; exact hgl)
 ·exact HG2.out.new_row (grownBy_setT W2 w.heap.size ⟨tk, tn, tS, tp⟩) (Nat.le_refl _)
end
end Go.Proofs.YtjhginendpjimaaGreatDoor
