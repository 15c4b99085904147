import Derived.Test.YtfgjimpmpckgpaaGreatDoorSg18
import Derived.Test.YtfgjimpmpckgpaaGreatDoorSg19
import Derived.Maps.OwnIn
import Derived.RangeFuncBox
import Derived.Stop.RegionWithIn
set_option linter.unusedSimpArgs false
set_option linter.unusedVariables false
set_option maxRecDepth 200000
set_option maxHeartbeats 8000000
namespace Go.Proofs.YtfgjimpmpckgpaaGreatDoor
section
open Go.RowKit Go.Shelf
attribute [local go_sem] Oper.semAt_some
def stepAll (sq : Int) (es : List En) : List Pa := es.foldl (stepP sq) []
theorem stepAll_snoc (sq : Int) (es : List En) (e : En) : stepAll sq (es ++ [e]) = stepP sq (stepAll sq es) e := by simp [stepAll]
def SinI (w : World) (sq : Int) (v0 : Value) (pre : List (Nat × OkE)) (W : World) : Prop :=
 (∃ Q f v, SQ w.heap.size (w.heap.size + 1) pre.length Q f v (w.heap.size + 1 + 1 + 1) (Q.map (·.1)) W /\ Q.map (·.2) = stepAll sq (pre.map (·.2.1))) /\
 Boxed W w.heap.size 2 (.int .i64 sq) /\ Boxed W (w.heap.size + 1 + 1) 184 (.map (some (w.heap.size + 1))) /\ Boxed W (w.heap.size + 1 + 1 + 1 + 1) 23 v0 /\ Below w.heap.size w W
theorem SinI.own (w : World) (sq : Int) (v0 : Value) (B : Nat) (hB : w.heap.size + 1 < B) : OwnFrom B (SinI w sq v0) := by
 rintro pre X Y row ⟨⟨Q, f, v, h1, h2⟩, b3, b5, bS, hb⟩ hg hr
 refine ⟨⟨Q, f, v, h1.kept hg (fun r e => ⟨by have := (hr r e).1; omega, (hr r e).2⟩), h2⟩, boxed_own _ _ (fun (_ : Unit) => _) () X Y row b3 hg (fun r e => (hr r e).2), boxed_own _ _ (fun (_ : Unit) => _) () X Y row b5 hg (fun r e => (hr r e).2), boxed_own _ _ (fun (_ : Unit) => _) () X Y row bS hg (fun r e => (hr r e).2), ?_⟩
 exact hb.grown hg hb.size (fun k e => by have := (hr k e).1; omega)
theorem SinI.next {w : World} {sq : Int} {v0 : Value} {pre : List (Nat × OkE)} {x : Nat × OkE} {W W' : World} (h : SinI w sq v0 pre W) (ht : Trn w.heap.size (w.heap.size + 1) W W')
 (hs : ∃ Q f v, SQ w.heap.size (w.heap.size + 1) (pre.length + 1) Q f v (w.heap.size + 1 + 1 + 1) (Q.map (·.1)) W' /\ Q.map (·.2) = stepP sq (stepAll sq (pre.map (·.2.1))) x.2.1) (B : Nat) (hB : w.heap.size + 1 < B) :
 KeepsFrom B W W' /\ Kq w.heap.size (w.heap.size + 1 + 1 + 1 + 1) W W' /\ SinI w sq v0 (pre ++ [x]) W' := by
 obtain ⟨_, b3, b5, bS, hb⟩ := h
 obtain ⟨Q, f, v, h1, h2⟩ := hs
 have hbS := ht.boxed bS (by decide)
 refine ⟨ht.from hB, ⟨ht.below, hbS.trans bS.symm⟩, ⟨Q, f, v, by simpa using h1, by rw [List.map_append, List.map_singleton, stepAll_snoc]; exact h2⟩, ht.boxed b3 (by decide), ht.boxed b5 (by decide), hbS, hb.trans ht.below⟩
theorem SQ.mono {base mb n : Nat} {Q : List (Nat × Pa)} {f : List UInt8 -> Option Value} {v : Value} {t6 : Nat} {R : List Nat} {W : World} (h : SQ base mb n Q f v t6 R W) : SQ base mb (n + 1) Q f v t6 R W :=
 ⟨h.map.mono (by omega), h.fq, h.fn, h.inj, h.pas, h.box, h.own, by have := h.len; omega⟩
theorem stepP_known (sq : Int) (acc : List Pa) (e : En) (h1 : sq < e.seq) (h2 : ∃ p ∈ acc, p.id = e.id) : stepP sq acc e = acc.map (updP e) := by
 unfold stepP
 rw [if_neg (by omega), if_pos (by simpa using h2)]
theorem stepP_new (sq : Int) (acc : List Pa) (e : En) (h1 : sq < e.seq) (h2 : ∀ p ∈ acc, p.id ≠ e.id) : stepP sq acc e = acc ++ [newP e] := by
 unfold stepP
 rw [if_neg (by omega), if_neg (by simpa using h2)]
theorem updP_id (acc : List Pa) (e : En) (h2 : ∀ p ∈ acc, p.id ≠ e.id) : acc.map (updP e) = acc := by
 conv => rhs; rw [<- List.map_id acc]
 refine List.map_congr_left fun p hp => ?_
 unfold updP
 rw [if_neg (h2 p hp)]
 rfl
theorem known_fst (Q : List (Nat × Pa)) (e : En) : (Q.map fun q => (q.1, updP e q.2)).map (·.1) = Q.map (·.1) := by simp [Function.comp_def]
theorem known_snd (Q : List (Nat × Pa)) (e : En) : (Q.map fun q => (q.1, updP e q.2)).map (·.2) = (Q.map (·.2)).map (updP e) := by simp [Function.comp_def]
theorem infoQ : (Tryz.prog.info? 189).map (fun i => (i.zero, i.size, i.bytes)) = some (some (.pointer none), 1, 8) := by kernel_rfl
theorem backTo_map {α β : Type} (xs : List α) (g : α -> β) : (backTo xs xs.length).map (fun x => g x.2) = xs.reverse.map g := by
 rw [<- backTo_all, List.map_map]
 rfl
def paAt? (W : World) (b : Nat) : Option Pa := match W.heap[b]? with
 | some (.cells ⟨[.string i, .bool a, .bool c, .int .i64 l]⟩ _ _) => some ⟨i, a, c, l⟩
 | _ => none
theorem PaAt.opt {W : World} {b : Nat} {p : Pa} (h : PaAt W b p) : paAt? W b = some p := by
 unfold paAt?
 rw [show W.heap[b]? = _ from h]
def SinJ (W : World) (v : Value) {p : Nat -> Prop} (pre : List (Nat × {b : Nat // p b})) (W' : World) : Prop :=
 (∃ o ps, Boxed W' W.heap.size 133 o /\ Own W' W.heap.size 136 encP 4 o ps /\ ps.map some = pre.map (fun x => paAt? W x.2.1)) /\
 Boxed W' (W.heap.size + 1) 185 v /\ Below W.heap.size W W'
theorem SinJ.own (W : World) (v : Value) {p : Nat -> Prop} (B : Nat) (hB : W.heap.size <= B) : OwnFrom B (SinJ W v (p := p)) := by
 rintro pre X Y row ⟨⟨o, ps, h1, h2, h3⟩, bS, hb⟩ hg hr
 refine ⟨⟨o, ps, boxed_own _ _ (fun (_ : Unit) => _) () X Y row h1 hg (fun r e => (hr r e).2), h2.kept hg ?_, h3⟩, boxed_own _ _ (fun (_ : Unit) => _) () X Y row bS hg (fun r e => (hr r e).2), ?_⟩
 ·cases ho : o.ownBlock with
  | none => exact .inl rfl
  | some r =>
    refine .inr fun e => ?_
    obtain ⟨_, cur, hc⟩ := h2.blk r ho
    obtain ⟨_, o, ho, hoc⟩ := hr _ e.symm
    rw [hc] at ho; cases ho; cases hoc
 ·exact hb.grown hg hb.size (fun k e => by have := (hr k e).1; omega)
theorem Rd.of_map {p : Nat -> Prop} {w : World} {B : Nat} {v : Value} {xs : List {b : Nat // p b}} (h : Rd w B encPt 1 v (xs.map (·.1))) : Rd w B encPs 1 v xs := by
 obtain ⟨p, cap, h1, h2, h3, h4, h5⟩ := h
 rw [List.length_map] at h1 h2
 refine ⟨p, cap, h1, h2, h3, h4, fun a ha h0 => ?_⟩
 obtain ⟨b, o, e1, e2, e3⟩ := h5 a ha (by rw [List.length_map]; exact h0)
 refine ⟨b, o, e1, e2, fun i x hx j u hu => ?_⟩
 exact e3 i x.1 (by rw [List.getElem?_map, hx]; rfl) j u hu
theorem infoTP : (Tryz.prog.info? 136).map (fun i => (i.zero, i.size, i.bytes)) = some (some (.agg #[.string ByteArray.empty, .bool false, .bool false, .int .i64 0]), 4, 32) := by kernel_rfl
theorem map_some_inj {α : Type} : ∀ {xs ys : List α}, xs.map some = ys.map some -> xs = ys
 | [], [], _ => rfl
 | [], _ :: _, h => by simp at h
 | _ :: _, [], h => by simp at h
 | x :: xs, y :: ys, h => by
   simp only [List.map_cons, List.cons.injEq, Option.some.injEq] at h
   rw [h.1, map_some_inj h.2]
instance : Inhabited Pa := ⟨⟨ByteArray.empty, false, false, 0⟩⟩
def SincePost (w : World) (sq : Int) (xs : List OkE) (e : Ending) (w' : World) : Prop :=
 ∃ v ys, e = .returned v /\ IsStable cfP (stepAll sq (xs.reverse.map (·.1))).reverse ys /\ Own w' w.heap.size 136 encP 4 v ys /\ Below w.heap.size w w'
theorem stepIn_append {F : Fence} {n : Nat} {P : Program} {ops : Array Oper} {o : Oper} {a : Act} {K : Act -> World -> Prop} {Q : Exit -> Act -> World -> Prop} {E : Prop} {w w' : World} {v' : Value} (hgd : o.guard = none) (s x : Operand) (t : TypeId)
 (hop : o.op = .call { callee := .builtin .append, args := #[s, x], argTypes := #[t, t] }) (v u : Value) (hs : a.eval s = v) (hx : a.eval x = u) (hrun : (Builtin.append_ #[t, t] o.type #[v, u]).run P w = .ok v' w') (h : K (a.put o.dst v') w') :
 if Region.wanted o (yielded ops a.tmps) = true then Oper.wpIn F n P o a w K Q else E := by
 have hw : Region.wanted o (yielded ops a.tmps) = true := by simp [Region.wanted, hgd]
 rw [if_pos hw]
 unfold Oper.wpIn
 refine ⟨by simp [Oper.about, hop, resolve, Target.leads, Sem.run_pure], ?_⟩
 rw [Oper.semAt_plain F _ _ (by rw [hop]; intro c hc'; cases hc')]
 simp [execOp, hop, resolve, invoke, builtin, hs, hx, hrun, Result.andThen]
 exact h
theorem since_any0 (w : World) (v0 : Value) (xs : List OkE) (hv0 : Rd w w.heap.size encO 3 v0 xs) (hlen : xs.length <= 4398046511104) (sq : Int) :
 Calls Tryz.prog 78 #[v0, .int .i64 sq] w (SincePost w sq xs) := by
 refine (callsIn_wide (n := 6)).1 ?_
 obtain ⟨F, hFw, hF, hro⟩ : ∃ F : Fence, F = Fence.wide /\ (∀ g, F.fn g) /\ F.round = none := ⟨_, rfl, fun _ => trivial, rfl⟩
 obtain ⟨n, hn, hn6⟩ : ∃ n : Nat, 6 <= n /\ 6 = n := ⟨6, by omega, rfl⟩
 rw [<- hFw]
 rw [hn6]
 have HF := Lib.hid hFw
 clear hFw hn6
 have h1 : 1 <= n := by omega
 obtain ⟨i0, hi, hz0, hz1, hz2⟩ := info_parts infoQ
 have hmm := @run_makeMap Tryz.prog
 refine callsIn_of_wp_marks Tryz.func78 rfl (hF _) ?_ hro
 simp only [Tryz.ntmps78, List.size_toArray, List.length_cons, List.length_nil, Nat.reduceAdd, Nat.reduceSub, Array.replicate_succ, Array.replicate_zero, List.push_toArray, List.append_toArray, List.nil_append, List.cons_append]
 have hsl : ∃ a len cap, v0 = .slice a len cap := by obtain ⟨p, cap, rfl, _⟩ := hv0; exact ⟨_, _, _, rfl⟩
 have HV := Lib.hid hv0
 have HS := Lib.hid hsl
 clear hv0 hsl
 gi_wp2_with (gi_at_call 119; refine (backE_in F (n - 1) (hF _) hro _ _ HS.out).mono ?_; rintro e w' ⟨rfl, rfl⟩)
 obtain ⟨W0, hW0⟩ : ∃ W0, ((((w.alloc (.cells #[.int .i64 sq] 2)).alloc (.map #[] 0)).alloc (.cells #[.map (some (w.heap.size + 1))] 184)).alloc (.cells #[.slice none 0 0] 185)).alloc (.cells #[v0] 23) = W0 := ⟨_, rfl⟩
 have hI0 : SinI w sq v0 [] W0 /\ W0.heap.size = w.heap.size + 5 := by
  rw [<- hW0]
  have b3 := (((((Boxed.new w 2 (.int .i64 sq)).alloc (.map #[] 0)).alloc (.cells #[.map (some (w.heap.size + 1))] 184)).alloc (.cells #[.slice none 0 0] 185)).alloc (.cells #[v0] 23))
  have bm := (((MapF.made (w.alloc (.cells #[.int .i64 sq] 2)) Tryz.prog 9).alloc (.cells #[.map (some (w.heap.size + 1))] 184)).alloc (.cells #[.slice none 0 0] 185)).alloc (.cells #[v0] 23)
  have b5 := ((Boxed.new ((w.alloc (.cells #[.int .i64 sq] 2)).alloc (.map #[] 0)) 184 (.map (some (w.heap.size + 1)))).alloc (.cells #[.slice none 0 0] 185)).alloc (.cells #[v0] 23)
  have b6 := (Boxed.new (((w.alloc (.cells #[.int .i64 sq] 2)).alloc (.map #[] 0)).alloc (.cells #[.map (some (w.heap.size + 1))] 184)) 185 (.slice none 0 0)).alloc (.cells #[v0] 23)
  have bS := Boxed.new ((((w.alloc (.cells #[.int .i64 sq] 2)).alloc (.map #[] 0)).alloc (.cells #[.map (some (w.heap.size + 1))] 184)).alloc (.cells #[.slice none 0 0] 185)) 23 v0
  simp only [World.size_alloc] at b3 bm b5 b6 bS
  refine ⟨⟨⟨[], _, _, ⟨bm, by simp, by simp, by simp, by simp, b6, Own.nil _ _ _, by simp⟩, rfl⟩, b3, b5, bS, ?_⟩, by simp⟩
  exact (((((Below.refl _ w).alloc (Nat.le_refl _) _).alloc (by simp) _).alloc (by simp; omega) _).alloc (by simp; omega) _).alloc (by simp; omega) _
 rw [hW0]
 clear hW0
 obtain ⟨hI, hs0⟩ := hI0
 have bS0 := hI.2.2.2.1
 refine wpIn_rangeFunc_ownH hro h1 (gf := 150) (lb := #[.pointer (some ⟨w.heap.size + 1 + 1 + 1 + 1, 0, none⟩)]) rfl (hF _) (enters_of Tryz.func150 (by kernel_rfl) rfl)
  (backE_stops F (n - 1) (hF _) hro (by omega) (w.heap.size + 1 + 1 + 1 + 1) w.heap.size v0 xs hlen W0 (by omega) (by omega) bS0.cell (HV.out.below hI.2.2.2.2 (Nat.le_refl _))) Kq.trans (Kq.book (by omega) (by omega)) (Below.refl _ _) (fun _ => rfl)
  (SinI w sq v0)
  (fun _ _ _ => False)
  (SinI.own w sq v0 _ (by omega))
  (fun _ _ _ _ _ hs _ _ => hs)
  hI
  (fun x a' W => ∃ Bx, EnAt W Bx x.2.1 /\ a' = { tmps := #[v0, .int .i64 sq, undef, .pointer (some ⟨w.heap.size, 0, none⟩), .slice none 0 0, .pointer (some ⟨w.heap.size + 1 + 1, 0, none⟩), .pointer (some ⟨w.heap.size + 1 + 1 + 1, 0, none⟩), undef, .pointer (some ⟨Bx, 0, none⟩), undef, undef, undef, undef, .map (some (w.heap.size + 1)), v0, .func (.func 150) #[] #[.pointer (some ⟨w.heap.size + 1 + 1 + 1 + 1, 0, none⟩)], .int .i64 (x.1 : Nat), .agg #[.int .i64 x.2.1.seq, .string x.2.1.id, .int .i64 x.2.1.what], undef, undef, undef, undef, undef, undef, undef, undef, undef, undef, undef, undef, undef, undef, undef, undef, undef, undef, undef, undef, undef, undef, undef, undef, undef, undef, undef, undef, undef, undef, undef, undef, undef, undef, undef, undef, undef, undef, undef, undef, undef, undef, undef, undef, undef, undef], defers := [] })
  (fun x a' _ X Y row hs hg hr => by
   obtain ⟨Bx, h1, h2⟩ := hs
   refine ⟨Bx, (hg.block Bx (Array.getElem?_eq_some_iff.1 h1).1 (fun e => ?_)).trans h1, h2⟩
   obtain ⟨_, o, ho, hc⟩ := hr Bx e.symm
   rw [show X.heap[Bx]? = _ from h1] at ho; cases ho; cases hc)
  ?assign ?body ?done ?stop
 case assign =>
  rintro l pre x W K hi hK
  obtain ⟨k, ⟨⟨s, i, t⟩, hx⟩⟩ := x
  gi_wp2
  have hsz := hi.2.2.2.2.size
  exact hK _ _ ((KeepsOthers.alloc _ _).from _) ⟨(Below.refl _ W).alloc hsz _, Below.heap_alloc _ _ _ hi.2.2.2.1.lt⟩ (OwnFrom.alloc (SinI.own w sq v0 _ (Nat.lt_succ_self _)) _ hi) ⟨W.heap.size, World.alloc_heap_new W _, rfl⟩
 case body =>
  rintro l pre x a' W hl - hi ⟨Bx, eX, rfl⟩ hlt
  obtain ⟨⟨Q, f, v, HQ, hacc⟩, b3, b5, bS, hB⟩ := id hi
  have HI := Lib.hid hi
  have HB := Lib.hid hB
  have hsz := hB.size
  obtain ⟨k, ⟨⟨s, i, t⟩, hx⟩⟩ := x
  have c0 := eX.cell 0 rfl
  have c1 := eX.cell 1 rfl
  have c2 := eX.cell 2 rfl
  have c3 := b3.cell
  have c5 := b5.cell
  dsimp only at c0 c1 c2
  clear hi hB bS bS0 hI
  by_cases hle : s <= sq
  ·have e1 : decide (s <= sq) = true := by simpa using hle
   have HL := Lib.hid hle
   clear hle
   gi_wp2
   exact HI.out.next (Trn.refl _ _ _) ⟨Q, f, v, HQ.mono, by rw [hacc]; unfold stepP; rw [if_pos HL.out]⟩ _ (by omega)
  ·have e1 : decide (s <= sq) = false := by simpa using hle
   have HL := Lib.hid hle
   clear hle
   cases hf : f i.data.toList with
   | none =>
     have hn0 : pre.length < maxLen := by unfold maxLen; omega
     have HY : Hid ((Q.length + 1) * 8 <= 140737488355328) := by have := HQ.len; unfold Hid; omega
     have HM : Hid (Q.length + 1 <= maxLen) := by have := HQ.len; unfold Hid maxLen; omega
     have hnone : ∀ p ∈ stepAll sq (pre.map (·.2.1)), p.id ≠ i := by
      rw [<- hacc]
      intro p hp e
      obtain ⟨q, hq, rfl⟩ := List.mem_map.1 hp
      have := HQ.fq q hq
      rw [e, hf] at this
      cases this
     have HN := Lib.hid hnone
     have l5 := b5.lt
     have lX : Bx < W.heap.size := (Array.getElem?_eq_some_iff.1 eX).1
     clear hnone
     gi_wp2_with (first
      | (gi_at_lookup; refine wpListIn_look_F _ rfl _ _ _ rfl 9 189 Tryz.underlying9 Tryz.underlying184 (Tryz.zeroValue189 _) _ _ f rfl HQ.map i rfl hx.2.1 (v := .pointer none) (by rw [hf]; rfl) ?_)
      | (gi_at_mapUpdate; refine wpListIn_store_F _ rfl _ _ _ _ rfl 9 189 Tryz.underlying9 Tryz.underlying184 _ _ f rfl (HQ.map.alloc _) hn0 i rfl hx.2.1 (.pointer (some ⟨W.heap.size, 0, none⟩)) rfl ?_
         intro w2 hM2 hg2
         obtain ⟨HQ2, T2⟩ := HQ.fresh hsz (Nat.le_succ _) ⟨i, false, t != 3, s⟩ hf hg2 hM2
         have eX2 := T2.en eX
         have a1 := eX2.cell 1 rfl
         have a2 := eX2.cell 2 rfl
         dsimp only at a1 a2
         have b62 := HQ2.box.cell
         have hsz2 : w.heap.size <= w2.heap.size := Nat.le_trans hsz T2.below.size
         go_frame)
      | (gi_at_builtin; refine wpListIn_append_own _ rfl _ _ 185 rfl w.heap.size 189 i0 (.pointer none) 1 8 Tryz.underlying185 hi hz0 hz1 hz2 rfl (by decide) _ _ _ rfl (HQ2.own.alloc _) ⟨w2.heap.size, 0, none⟩ 1 1 [.pointer (some ⟨W.heap.size, 0, none⟩)] rfl rfl (cell_one_new _ _ _) (by simp [Value.oneCell']) (by simpa using HM.out) (by simpa using HY.out) (by simp; omega) ?_
         intro v' w3 hown' hg3 hnil3
         have hO' : Own w3 w.heap.size 189 encPt 1 v' (Q.map (·.1) ++ [W.heap.size]) := by
          unfold Own
          rw [cellsOf_append, cellsOf_single, List.length_append]
          exact hown'
         obtain ⟨g', cap', rfl⟩ : ∃ g' cap', v' = .slice (some ⟨g', 0, none⟩) (Q.length + 1) cap' := by
          have := ownsRow_succ hown'
          rwa [List.length_map] at this
         obtain ⟨H4, HQ5, T5⟩ := HQ2.append hsz2 (by omega) _ hg3 hO'
         have b64 := H4.cell
         have b64' := H4.frozen
         have eX5 := T5.en eX2
         have a5 := eX5.cell 2 rfl
         dsimp only at a5
         have p5 := (HQ5.pas (W.heap.size, ⟨i, false, t != 3, s⟩) (by simp)).2
         have p50 := p5.cell 1 rfl
         have p51 := p5.frozen 1
         have p52 := p5.frozen 0
         dsimp only at p50 p51 p52
         clear hown' hg3 hnil3
         go_frame))
     have hk := HQ5.known (Nat.le_trans hsz2 T5.below.size) (q := (W.heap.size, ⟨i, false, t != 3, s⟩)) (by simp) ⟨s, i, t⟩ rfl
     have hk1 := hk.1
     rw [show Q.map (·.1) ++ [W.heap.size] = ((Q ++ [(W.heap.size, (⟨i, false, t != 3, s⟩ : Pa))]).map fun q => (q.1, updP ⟨s, i, t⟩ q.2)).map (·.1) by rw [known_fst]; simp] at hk1
     refine HI.out.next ((T2.trans T5).trans hk.2) ⟨_, _, _, hk1, ?_⟩ _ (by omega)
     rw [known_snd, List.map_append, List.map_singleton, hacc, stepP_new sq _ ⟨s, i, t⟩ HL.out HN.out, List.map_append, updP_id _ ⟨s, i, t⟩ HN.out]
     simp [updP, newP]
   | some u =>
     obtain ⟨q, hq, hqi⟩ := HQ.fn _ _ hf
     have hu := HQ.fq q hq
     rw [hqi, hf] at hu
     obtain rfl : u = .pointer (some ⟨q.1, 0, none⟩) := by simpa using hu
     have hqe : q.2.id = i := (data_inj _ _).1 hqi
     have hp := (HQ.pas q hq).2
     have f1 := hp.frozen 1
     have f0 := hp.frozen 0
     have d0 := hp.cell 0 rfl
     have d1 := hp.cell 1 rfl
     have d2 := hp.cell 2 rfl
     have d3 := hp.cell 3 rfl
     have hs2 : Hid (q.2.id = i) := hqe
     clear hqi hu hqe
     gi_wp2_with (gi_at_lookup; refine wpListIn_look_F _ rfl _ _ _ rfl 9 189 Tryz.underlying9 Tryz.underlying184 (Tryz.zeroValue189 _) _ _ f rfl HQ.map i rfl hx.2.1 (v := .pointer (some ⟨q.1, 0, none⟩)) (by rw [hf]; rfl) ?_)
     have hk := HQ.known hsz hq ⟨s, i, t⟩ hs2.out
     exact HI.out.next hk.2 ⟨_, f, v, by rw [known_fst]; exact hk.1.mono, by rw [known_snd, hacc]; exact (stepP_known sq _ ⟨s, i, t⟩ HL.out (by rw [<- hacc]; exact ⟨q.2, List.mem_map.2 ⟨q, hq, rfl⟩, hs2.out⟩)).symm⟩ _ (by omega)
 case done =>
  rintro D ys W hD rfl hi hK
  obtain ⟨⟨Q, f, v, HQ, hacc⟩, b3, b5, bS, hB⟩ := hi
  rw [backTo_map _ (fun x : OkE => x.1)] at hacc
  have c6 := HQ.box.cell
  have l6 := HQ.box.lt
  have hvs : ∃ a len cap, v = .slice a len cap := by obtain ⟨a, cap, h, _⟩ := HQ.own.len; exact ⟨_, _, _, h⟩
  have hQl := HQ.len
  rw [backTo_length _ _ (Nat.le_refl _)] at hQl
  have hp0 : ∀ q ∈ Q, PaAt W q.1 q.2 := fun q hq => (HQ.pas q hq).2
  have hR := HQ.own.rd codecPt
  have hBs := hB.size
  have HP := Lib.hid hp0
  have HR := Lib.hid hR
  have HK := Lib.hid hK
  have HA := Lib.hid hacc
  have HB := Lib.hid hB
  have HV5 := Lib.hid hvs
  clear hp0 hR HQ bS0 hI hK hacc hB b3 b5 bS hvs
  gi_wp2_with (gi_at_call 120; refine (backQ_in F (n - 1) (hF _) hro _ _ HV5.out).mono ?_; rintro e w' ⟨rfl, rfl⟩)
  obtain ⟨W2, hW2⟩ : ∃ W2, (W.alloc (.cells #[.slice none 0 0] 133)).alloc (.cells #[v] 185) = W2 := ⟨_, rfl⟩
  have hI2 : SinJ W v (p := fun b => ∃ p, PaAt W b p) [] W2 /\ W2.heap.size = W.heap.size + 2 := by
   rw [<- hW2]
   have b1 := (Boxed.new W 133 (.slice none 0 0)).alloc (.cells #[v] 185)
   have b2 := Boxed.new (W.alloc (.cells #[.slice none 0 0] 133)) 185 v
   simp only [World.size_alloc] at b1 b2
   exact ⟨⟨⟨_, [], b1, Own.nil _ _ _, rfl⟩, b2, ((Below.refl _ W).alloc (Nat.le_refl _) _).alloc (by simp) _⟩, by simp⟩
  rw [hW2]
  clear hW2
  obtain ⟨hJ, hs2⟩ := hI2
  obtain ⟨xs2, hxs2⟩ : ∃ xs2 : List {b : Nat // ∃ p, PaAt W b p}, xs2.map (·.1) = Q.map (·.1) := ⟨Q.attach.map (fun q => ⟨q.1.1, q.1.2, HP.out q.1 q.2⟩), by rw [List.map_map]; exact List.attach_map_val (l := Q) (f := fun q => q.1)⟩
  have hx2l : xs2.length = Q.length := by simpa using congrArg List.length hxs2
  have hR2 : Rd W2 W.heap.size encPs 1 v xs2 := by
   have := HR.out.below hJ.2.2 (Nat.le_refl _)
   rw [<- hxs2] at this
   exact this.of_map
  refine wpIn_rangeFunc_ownH hro h1 (gf := 151) (lb := #[.pointer (some ⟨W.heap.size + 1, 0, none⟩)]) rfl (hF _) (enters_of Tryz.func151 (by kernel_rfl) rfl)
   (backQ_stops F (n - 1) (hF _) hro (by omega) (W.heap.size + 1) W.heap.size v xs2 (by omega) W2 (by omega) (by omega) hJ.2.1.cell hR2) Kq.trans (Kq.book (by omega) (by omega)) (Below.refl _ _) (fun _ => rfl)
   (SinJ W v)
   (fun _ _ _ => False)
   (SinJ.own W v _ (by omega))
   (fun _ _ _ _ _ hs _ _ => hs)
   hJ
   (fun x a' _ => a' = { tmps := #[v0, .int .i64 sq, undef, .pointer (some ⟨w.heap.size, 0, none⟩), .slice none 0 0, .pointer (some ⟨w.heap.size + 1 + 1, 0, none⟩), .pointer (some ⟨w.heap.size + 1 + 1 + 1, 0, none⟩), undef, undef, undef, .pointer (some ⟨W.heap.size, 0, none⟩), undef, .pointer (some ⟨x.2.1, 0, none⟩), .map (some (w.heap.size + 1)), v0, .func (.func 150) #[] #[.pointer (some ⟨w.heap.size + 1 + 1 + 1 + 1, 0, none⟩)], undef, undef, undef, undef, undef, undef, undef, undef, undef, undef, undef, undef, undef, undef, undef, undef, undef, undef, undef, undef, undef, undef, undef, undef, undef, undef, undef, undef, undef, undef, undef, undef, undef, undef, undef, v, .func (.func 151) #[] #[.pointer (some ⟨W.heap.size + 1, 0, none⟩)], .int .i64 (x.1 : Nat), .pointer (some ⟨x.2.1, 0, none⟩), undef, undef, undef, undef, undef, undef, undef, undef, undef], defers := [] })
   (fun _ _ _ _ _ _ hs _ _ => hs)
   ?assign2 ?body2 ?done2 ?stop2
  case assign2 =>
   rintro l pre x W' K hi hK
   gi_wp2
   exact hK _ _ (KeepsFrom.refl _ _) (Kq.refl _ _ _) hi rfl
  case body2 =>
   rintro l pre x a' W' hl - hi rfl hlt
   obtain ⟨⟨o, ps, bo, HO, hps⟩, b2, hb⟩ := id hi
   obtain ⟨k, ⟨b, hbp⟩⟩ := x
   obtain ⟨pa, hpa⟩ := id hbp
   have hp : PaAt W' b pa := (hb.block b hpa.lt).trans hpa
   have hopt := hpa.opt
   obtain ⟨i, y, z, t⟩ := pa
   have d0 := hp.cell 0 rfl
   have d1 := hp.cell 1 rfl
   have d2 := hp.cell 2 rfl
   have d3 := hp.cell 3 rfl
   dsimp only at d0 d1 d2 d3
   have co := bo.cell
   have lo := bo.lt
   have hplen : ps.length < 4398046511104 := by
    have := congrArg List.length hps
    simp only [List.length_map] at this
    omega
   have hsz := hb.size
   obtain ⟨j0, hj, hjz0, hjz1, hjz2⟩ := info_parts infoTP
   obtain ⟨v', w3, hrun, hown', hg3, hnil3⟩ := run_append_own (P := Tryz.prog) (W'.alloc (.cells #[.string i, .bool y, .bool z, .int .i64 t] 136)).drew W.heap.size 133 133 136 j0 _ 4 32 Tryz.underlying133 hj hjz0 hjz1 hjz2 rfl (by decide) o ps.length (cellsOf encP ps) (HO.alloc _)
    ⟨W'.heap.size, 0, none⟩ 1 1 (encP ⟨i, y, z, t⟩) rfl (World.news_of_block (cs := #[.string i, .bool y, .bool z, .int .i64 t]) (t := 136) (fr := (0, 0)) (World.alloc_heap_new W' _)) (codecP.one _) (by unfold maxLen; omega) (by omega) (by simp; omega)
   have hO' : Own w3 W.heap.size 136 encP 4 v' (ps ++ [⟨i, y, z, t⟩]) := by
    unfold Own
    rw [cellsOf_append, cellsOf_single, List.length_append]
    exact hown'
   obtain ⟨g', cap', rfl⟩ := ownsRow_succ hown'
   have bod : Boxed (W'.alloc (.cells #[.string i, .bool y, .bool z, .int .i64 t] 136)).drew W.heap.size 133 o := bo.alloc _
   have bsd : Boxed (W'.alloc (.cells #[.string i, .bool y, .bool z, .int .i64 t] 136)).drew (W.heap.size + 1) 185 v := b2.alloc _
   have bo3 : Boxed w3 W.heap.size 133 o := bod.kept hg3 (bo.not_row (by decide) HO)
   have bs3 : Boxed w3 (W.heap.size + 1) 185 v := bsd.kept hg3 (b2.not_row (by decide) HO)
   have co3 := bo3.cell
   have fo3 := bo3.frozen
   have hfin : ∀ a2 : Act, ownPostG W2.heap.size (Kq W.heap.size (W.heap.size + 1)) (SinJ W v (p := fun b => ∃ p, PaAt W b p)) (fun _ _ _ => False) (pre ++ [(k, ⟨b, hbp⟩)]) W' Exit.normal a2 (w3.setCell ⟨W.heap.size, 0, none⟩ (.slice (some ⟨g', 0, none⟩) (ps.length + 1) cap')) := by
    intro a2
    obtain ⟨q1, q2, q3, q4, q5⟩ := Boxed.appended (W := W'.drew) (tmp := .cells #[.string i, .bool y, .bool z, .int .i64 t] 136) bo (by decide) HO hsz (Nat.le_refl _) hown' hg3
    have q6 := bs3.other (B' := W.heap.size) (by omega) (.slice (some ⟨g', 0, none⟩) (ps.length + 1) cap')
    exact ⟨KeepsOthers.from (show KeepsOthers W' _ from ⟨q4.size, q4.same⟩) _, ⟨show Below W.heap.size W' _ from ⟨q5.os, q5.tape, q5.output, q5.size, q5.block⟩, q6.trans b2.symm⟩, ⟨_, ps ++ [⟨i, y, z, t⟩], q2, by unfold Own; rw [cellsOf_append, cellsOf_single, List.length_append]; exact q3, by simp [hps, hopt]⟩, q6, hb.trans (show Below W.heap.size W' _ from ⟨q5.os, q5.tape, q5.output, q5.size, q5.block⟩)⟩
   clear hb hO' bod bsd bs3 hg3 hnil3 hpa HO hps
   gi_wp2
   refine wpIn_region_any (by kernel_rfl) ?_
   change wpAnyIn _ _ _ _ _ _ _ _ _ (World.drew _)
   refine wpAnyIn_ready (rs := [0, 1]) (by kernel_rfl) (by simp) (AllReadyIn.cons rfl (fun K hK => ?_) (AllReadyIn.cons rfl (fun K hK => ?_) AllReadyIn.nil))
   ·go_simp; refine hK _ _ ?_; clear hK K
    refine wpAnyIn_ready (rs := [1]) (by kernel_rfl) (by simp) (AllReadyIn.cons rfl (fun K hK => ?_) AllReadyIn.nil)
    go_simp; refine hK _ _ ?_; clear hK K
    refine wpAnyIn_ready (rs := [2]) (by kernel_rfl) (by simp) (AllReadyIn.cons rfl (fun K hK => ?_) AllReadyIn.nil)
    go_simp; refine hK _ _ ?_; clear hK K
    refine wpAnyIn_ready (rs := [3]) (by kernel_rfl) (by simp) (AllReadyIn.cons rfl (fun K hK => ?_) AllReadyIn.nil)
    go_simp; refine hK _ _ ?_; clear hK K
    refine wpAnyIn_ready (rs := [4]) (by kernel_rfl) (by simp) (AllReadyIn.cons rfl (fun K hK => ?_) AllReadyIn.nil)
    go_simp; refine hK _ _ ?_; clear hK K
    refine wpAnyIn_ready (rs := [5]) (by kernel_rfl) (by simp) (AllReadyIn.cons rfl (fun K hK => ?_) AllReadyIn.nil)
    refine stepIn_append rfl _ _ _ rfl _ _ rfl rfl hrun ?_; refine hK _ _ ?_; clear hK K
    refine wpAnyIn_ready (rs := [6]) (by kernel_rfl) (by simp) (AllReadyIn.cons rfl (fun K hK => ?_) AllReadyIn.nil)
    go_simp; refine hK _ _ ?_; clear hK K
    refine wpAnyIn_done (by kernel_rfl) ?_ _
    gi_wp2; exact hfin _
   ·go_simp; refine hK _ _ ?_; clear hK K
    refine wpAnyIn_ready (rs := [0, 2]) (by kernel_rfl) (by simp) (AllReadyIn.cons rfl (fun K hK => ?_) (AllReadyIn.cons rfl (fun K hK => ?_) AllReadyIn.nil))
    ·go_simp; refine hK _ _ ?_; clear hK K
     refine wpAnyIn_ready (rs := [2]) (by kernel_rfl) (by simp) (AllReadyIn.cons rfl (fun K hK => ?_) AllReadyIn.nil)
     go_simp; refine hK _ _ ?_; clear hK K
     refine wpAnyIn_ready (rs := [3]) (by kernel_rfl) (by simp) (AllReadyIn.cons rfl (fun K hK => ?_) AllReadyIn.nil)
     go_simp; refine hK _ _ ?_; clear hK K
     refine wpAnyIn_ready (rs := [4]) (by kernel_rfl) (by simp) (AllReadyIn.cons rfl (fun K hK => ?_) AllReadyIn.nil)
     go_simp; refine hK _ _ ?_; clear hK K
     refine wpAnyIn_ready (rs := [5]) (by kernel_rfl) (by simp) (AllReadyIn.cons rfl (fun K hK => ?_) AllReadyIn.nil)
     refine stepIn_append rfl _ _ _ rfl _ _ rfl rfl hrun ?_; refine hK _ _ ?_; clear hK K
     refine wpAnyIn_ready (rs := [6]) (by kernel_rfl) (by simp) (AllReadyIn.cons rfl (fun K hK => ?_) AllReadyIn.nil)
     go_simp; refine hK _ _ ?_; clear hK K
     refine wpAnyIn_done (by kernel_rfl) ?_ _
     gi_wp2; exact hfin _
    ·go_simp; refine hK _ _ ?_; clear hK K
     refine wpAnyIn_ready (rs := [0, 3]) (by kernel_rfl) (by simp) (AllReadyIn.cons rfl (fun K hK => ?_) (AllReadyIn.cons rfl (fun K hK => ?_) AllReadyIn.nil))
     ·go_simp; refine hK _ _ ?_; clear hK K
      refine wpAnyIn_ready (rs := [3]) (by kernel_rfl) (by simp) (AllReadyIn.cons rfl (fun K hK => ?_) AllReadyIn.nil)
      go_simp; refine hK _ _ ?_; clear hK K
      refine wpAnyIn_ready (rs := [4]) (by kernel_rfl) (by simp) (AllReadyIn.cons rfl (fun K hK => ?_) AllReadyIn.nil)
      go_simp; refine hK _ _ ?_; clear hK K
      refine wpAnyIn_ready (rs := [5]) (by kernel_rfl) (by simp) (AllReadyIn.cons rfl (fun K hK => ?_) AllReadyIn.nil)
      refine stepIn_append rfl _ _ _ rfl _ _ rfl rfl hrun ?_; refine hK _ _ ?_; clear hK K
      refine wpAnyIn_ready (rs := [6]) (by kernel_rfl) (by simp) (AllReadyIn.cons rfl (fun K hK => ?_) AllReadyIn.nil)
      go_simp; refine hK _ _ ?_; clear hK K
      refine wpAnyIn_done (by kernel_rfl) ?_ _
      gi_wp2; exact hfin _
     ·go_simp; refine hK _ _ ?_; clear hK K
      refine wpAnyIn_ready (rs := [0, 4]) (by kernel_rfl) (by simp) (AllReadyIn.cons rfl (fun K hK => ?_) (AllReadyIn.cons rfl (fun K hK => ?_) AllReadyIn.nil))
      ·go_simp; refine hK _ _ ?_; clear hK K
       refine wpAnyIn_ready (rs := [4]) (by kernel_rfl) (by simp) (AllReadyIn.cons rfl (fun K hK => ?_) AllReadyIn.nil)
       go_simp; refine hK _ _ ?_; clear hK K
       refine wpAnyIn_ready (rs := [5]) (by kernel_rfl) (by simp) (AllReadyIn.cons rfl (fun K hK => ?_) AllReadyIn.nil)
       refine stepIn_append rfl _ _ _ rfl _ _ rfl rfl hrun ?_; refine hK _ _ ?_; clear hK K
       refine wpAnyIn_ready (rs := [6]) (by kernel_rfl) (by simp) (AllReadyIn.cons rfl (fun K hK => ?_) AllReadyIn.nil)
       go_simp; refine hK _ _ ?_; clear hK K
       refine wpAnyIn_done (by kernel_rfl) ?_ _
       gi_wp2; exact hfin _
      ·go_simp; refine hK _ _ ?_; clear hK K
       refine wpAnyIn_ready (rs := [0]) (by kernel_rfl) (by simp) (AllReadyIn.cons rfl (fun K hK => ?_) AllReadyIn.nil)
       go_simp; refine hK _ _ ?_; clear hK K
       refine wpAnyIn_ready (rs := [5]) (by kernel_rfl) (by simp) (AllReadyIn.cons rfl (fun K hK => ?_) AllReadyIn.nil)
       refine stepIn_append rfl _ _ _ rfl _ _ rfl rfl hrun ?_; refine hK _ _ ?_; clear hK K
       refine wpAnyIn_ready (rs := [6]) (by kernel_rfl) (by simp) (AllReadyIn.cons rfl (fun K hK => ?_) AllReadyIn.nil)
       go_simp; refine hK _ _ ?_; clear hK K
       refine wpAnyIn_done (by kernel_rfl) ?_ _
       gi_wp2; exact hfin _
  case done2 =>
   rintro D2 ys W3 hD2 rfl hj hK2
   obtain ⟨⟨o, ps, bo, HO, hps⟩, b2, hb⟩ := hj
   rw [backTo_map xs2 (fun x => paAt? W x.1)] at hps
   have hps' : ps = (stepAll sq (xs.reverse.map (·.1))).reverse := by
    rw [<- HA.out]
    have e1 : xs2.reverse.map (fun x => paAt? W x.1) = (Q.map (·.1)).reverse.map (paAt? W) := by rw [<- hxs2, <- List.map_reverse, List.map_map]; rfl
    have e2 : (Q.map (·.1)).reverse.map (paAt? W) = (Q.map (·.2)).reverse.map some := by
     rw [<- List.map_reverse, <- List.map_reverse, List.map_map, List.map_map]
     refine List.map_congr_left fun q hq => ?_
     exact (HP.out q (by simpa using hq)).opt
    rw [e1, e2] at hps
    exact map_some_inj hps
   have co := bo.cell
   have hplen : ps.length < 1152921504606846976 := by
    have := congrArg List.length hps
    simp only [List.length_map, List.length_reverse] at this
    omega
   have hcon : CallsIn F (n - 1) Tryz.prog 121 #[o, .func (.func 122) #[] #[]] W3 (SP.SortPost W3 W.heap.size encP cfP o ps) := by
    rw [HF.out]
    exact callsIn_wide.2 (SP.top_any encP codecP cfP cmpP 122 #[] W3 W.heap.size o ps (enters_of Tryz.func122 (by kernel_rfl) rfl) cmp_any HO hplen)
   have HC := Lib.hid hcon
   clear hcon
   gi_wp2_with (gi_at_call 121; refine HC.out.mono ?_; rintro e w4 ⟨rfl, zs, hst, hown4, hg4⟩; have bo4 := (bo.kept hg4 (bo.not_row (by decide) HO)).cell; go_frame)
   have kD2 : w4.heap[D2]? = some (.deferred (some [])) := by
    refine (hg4.block D2 (Array.getElem?_eq_some_iff.1 hK2).1 (fun e => ?_)).trans hK2
    obtain ⟨_, cur, hc⟩ := HO.blk D2 e.symm
    rw [hK2] at hc
    cases hc
   have kD3 : W3.heap[D]? = some (.deferred (some [])) := (hb.block D (Array.getElem?_eq_some_iff.1 HK.out).1).trans HK.out
   have kD : w4.heap[D]? = some (.deferred (some [])) := by
    refine (hg4.block D (Array.getElem?_eq_some_iff.1 kD3).1 (fun e => ?_)).trans kD3
    obtain ⟨_, cur, hc⟩ := HO.blk D e.symm
    rw [kD3] at hc
    cases hc
   have hDD : D2 ≠ D := by have := (Array.getElem?_eq_some_iff.1 HK.out).1; omega
   have kDp : ∀ ob, (w4.putObj D2 ob).heap[D]? = some (.deferred (some [])) := fun ob => (World.putObj_heap_other hDD.symm).trans kD
   have hB4 : Below w.heap.size w w4 := (HB.out.trans (hb.mono hBs)).grown hg4 (Nat.le_trans hBs hb.size) (fun r e => Nat.le_trans hBs (HO.blk r e).1)
   have hown5 : Own w4 w.heap.size 136 encP 4 o zs := hown4.mono hBs
   refine ⟨by simp, .inl ⟨_, _, rfl, run_takeDeferred kD2, ?_⟩⟩
   refine ⟨by simp, .inl ⟨_, _, rfl, run_takeDeferred (kDp _), ?_⟩⟩
   refine ⟨_, results_tmp rfl _ _ _, o, zs, rfl, by rw [<- hps']; exact hst, ?_, ?_⟩
   ·exact ownsRow_putObj (ownsRow_putObj hown5 _ kD2 rfl) _ (kDp _) rfl
   ·exact (hB4.trans (belowK_b (w := w) (Nat.le_refl _) w4 D2 _ _ (by omega) kD2 rfl rfl)).trans (belowK_b (w := w) (Nat.le_refl _) _ D _ _ (by omega) (kDp _) rfl rfl)
  case stop2 =>
   rintro D c pre W _ _ h _
   exact h.elim
 case stop =>
  rintro D c pre W _ _ h _
  exact h.elim
end
section
open Go.RowKit
def hitB (sq : Int) (x y : En) : Bool := decide (y.id = x.id) && decide (sq < y.seq)
def refAt (sq : Int) (l : List En) (i : Nat) : Option Pa := match l[i]? with
 | none => none
 | some x => if x.seq <= sq then none else if (l.drop (i + 1)).any (hitB sq x) then none else (l.find? (hitB sq x)).map fun f => ⟨x.id, f.what != 1, x.what != 3, x.seq⟩
def refUpTo (sq : Int) (l : List En) (k : Nat) : List Pa := (List.range k).filterMap (refAt sq l)
theorem refUpTo_succ (sq : Int) (l : List En) (k : Nat) : refUpTo sq l (k + 1) = refUpTo sq l k ++ (refAt sq l k).toList := by
 unfold refUpTo
 rw [List.range_succ, List.filterMap_append]
 cases h : refAt sq l k <;> simp [h]
def sinceL (sq : Int) : List En -> List Pa
 | [] => []
 | e :: r => if e.seq <= sq then sinceL sq r else if (sinceL sq r).any (fun p => decide (p.id = e.id)) then (sinceL sq r).map (updP e) else newP e :: sinceL sq r
theorem sinceL_cons (sq : Int) (e : En) (r : List En) : sinceL sq (e :: r) = if e.seq <= sq then sinceL sq r else if (sinceL sq r).any (fun p => decide (p.id = e.id)) then (sinceL sq r).map (updP e) else newP e :: sinceL sq r := rfl
theorem stepAll_rev (sq : Int) : ∀ l : List En, (stepAll sq l.reverse).reverse = sinceL sq l
 | [] => rfl
 | e :: r => by
   have ih := stepAll_rev sq r
   rw [List.reverse_cons, stepAll_snoc]
   have hr : stepAll sq r.reverse = (sinceL sq r).reverse := by rw [<- ih, List.reverse_reverse]
   rw [hr, sinceL_cons]
   unfold stepP
   by_cases h1 : e.seq <= sq
   ·rw [if_pos h1, if_pos h1, List.reverse_reverse]
   ·rw [if_neg h1, if_neg h1, List.any_reverse]
    split
    ·rw [List.map_reverse, List.reverse_reverse]
    ·rw [List.reverse_append, List.reverse_reverse]; rfl
theorem upd_id (e : En) (p : Pa) : (updP e p).id = p.id := by unfold updP; split <;> rfl
theorem sinceL_id (sq : Int) (i : ByteArray) : ∀ l : List En, (∃ p ∈ sinceL sq l, p.id = i) ↔ ∃ y ∈ l, y.id = i /\ sq < y.seq
 | [] => by simp [sinceL]
 | e :: r => by
   have ih := sinceL_id sq i r
   rw [sinceL_cons]
   by_cases h1 : e.seq <= sq
   ·rw [if_pos h1, ih]
    constructor
    ·rintro ⟨y, hy, h⟩; exact ⟨y, List.mem_cons_of_mem _ hy, h⟩
    ·rintro ⟨y, hy, h, h'⟩
     rcases List.mem_cons.1 hy with rfl | hy
     ·omega
     ·exact ⟨y, hy, h, h'⟩
   ·rw [if_neg h1]
    split
    ·rename_i hk
     have e1 : (∃ p ∈ (sinceL sq r).map (updP e), p.id = i) ↔ ∃ p ∈ sinceL sq r, p.id = i := by
      constructor
      ·rintro ⟨p, hp, h⟩
       obtain ⟨q, hq, rfl⟩ := List.mem_map.1 hp
       exact ⟨q, hq, by rw [<- h, upd_id]⟩
      ·rintro ⟨p, hp, h⟩
       exact ⟨_, List.mem_map.2 ⟨p, hp, rfl⟩, by rw [upd_id]; exact h⟩
     rw [e1, ih]
     constructor
     ·rintro ⟨y, hy, h⟩; exact ⟨y, List.mem_cons_of_mem _ hy, h⟩
     ·rintro ⟨y, hy, h, h'⟩
      rcases List.mem_cons.1 hy with rfl | hy
      ·rw [<- ih]
       simp only [List.any_eq_true, decide_eq_true_eq] at hk
       obtain ⟨p, hp, e2⟩ := hk
       exact ⟨p, hp, by rw [e2]; exact h⟩
      ·exact ⟨y, hy, h, h'⟩
    ·constructor
     ·rintro ⟨p, hp, h⟩
      rcases List.mem_cons.1 hp with rfl | hp
      ·exact ⟨e, by simp, h, by omega⟩
      ·obtain ⟨y, hy, h2⟩ := ih.1 ⟨p, hp, h⟩
       exact ⟨y, List.mem_cons_of_mem _ hy, h2⟩
     ·rintro ⟨y, hy, h, h'⟩
      rcases List.mem_cons.1 hy with rfl | hy
      ·exact ⟨newP y, by simp, h⟩
      ·obtain ⟨p, hp, h2⟩ := ih.2 ⟨y, hy, h, h'⟩
       exact ⟨p, List.mem_cons_of_mem _ hp, h2⟩
def putP (sq : Int) (e : En) (p : Pa) : Pa := if sq < e.seq then updP e p else p
theorem refAt_cons (sq : Int) (e : En) (r : List En) (i : Nat) : refAt sq (e :: r) (i + 1) = (refAt sq r i).map (putP sq e) := by
 unfold refAt
 rw [List.getElem?_cons_succ]
 cases h0 : r[i]? with
 | none => rfl
 | some x =>
   dsimp only
   by_cases h1 : x.seq <= sq
   ·rw [if_pos h1, if_pos h1]; rfl
   ·rw [if_neg h1, if_neg h1, List.drop_succ_cons]
    split
    ·rfl
    ·rw [List.find?_cons, Option.map_map]
     cases h2 : hitB sq x e with
     | true =>
       unfold hitB at h2
       simp only [Bool.and_eq_true, decide_eq_true_eq] at h2
       cases h3 : r.find? (hitB sq x) with
       | none =>
         have := List.find?_eq_none.1 h3 x (List.mem_of_getElem? h0)
         unfold hitB at this
         simp at this
         omega
       | some f =>
         simp only [Option.map_some, Function.comp_apply, putP, if_pos h2.2, updP, if_pos h2.1.symm]
     | false =>
       unfold hitB at h2
       simp only [Bool.and_eq_false_iff, decide_eq_false_iff_not] at h2
       congr 1
       funext f
       simp only [Function.comp_apply, putP, updP]
       rcases h2 with h2 | h2
       ·have h4 : ¬ x.id = e.id := fun e' => h2 e'.symm
        by_cases h5 : sq < e.seq
        ·rw [if_pos h5, if_neg h4]
        ·rw [if_neg h5]
       ·rw [if_neg h2]
theorem refUpTo_all (sq : Int) : ∀ l : List En, refUpTo sq l l.length = sinceL sq l
 | [] => rfl
 | e :: r => by
   have ih := refUpTo_all sq r
   unfold refUpTo at ih ⊢
   rw [List.length_cons, List.range_succ_eq_map, List.filterMap_cons, List.filterMap_map]
   have e1 : (List.range r.length).filterMap (refAt sq (e :: r) ∘ Nat.succ) = (sinceL sq r).map (putP sq e) := by
    rw [<- ih, List.map_filterMap]
    congr 1
    funext i
    exact refAt_cons sq e r i
   rw [e1]
   have e0 : refAt sq (e :: r) 0 = if e.seq <= sq then none else if r.any (hitB sq e) then none else some (newP e) := by
    unfold refAt
    rw [List.getElem?_cons_zero]
    dsimp only
    by_cases h1 : e.seq <= sq
    ·rw [if_pos h1, if_pos h1]
    ·rw [if_neg h1, if_neg h1]
     rw [List.drop_succ_cons, List.drop_zero]
     have h2 : hitB sq e e = true := by unfold hitB; simp; omega
     rw [List.find?_cons, h2]
     rfl
   rw [e0, sinceL_cons]
   by_cases h1 : e.seq <= sq
   ·rw [if_pos h1, if_pos h1]
    dsimp only
    have : (putP sq e) = id := by funext p; unfold putP; rw [if_neg (by omega)]; rfl
    rw [this, List.map_id]
   ·have hput : (putP sq e) = updP e := by funext p; unfold putP; rw [if_pos (by omega)]
    rw [if_neg h1, if_neg h1, hput]
    have hany : r.any (hitB sq e) = (sinceL sq r).any (fun p => decide (p.id = e.id)) := by
     rw [Bool.eq_iff_iff]
     have := sinceL_id sq e.id r
     simp only [List.any_eq_true, hitB, Bool.and_eq_true, decide_eq_true_eq]
     exact this.symm
    rw [hany]
    by_cases hk : (sinceL sq r).any (fun p => decide (p.id = e.id)) = true
    ·rw [if_pos hk, if_pos hk]
    ·rw [if_neg hk, if_neg hk]
     have : (sinceL sq r).map (updP e) = sinceL sq r := updP_id _ _ (fun p hp h => hk (by simp only [List.any_eq_true, decide_eq_true_eq]; exact ⟨p, hp, h⟩))
     rw [this]
theorem cells_set : ∀ (xs : List Pa) (p : Nat) (y : Pa), p < xs.length -> ((((cellsOf encP xs).set (p * 4) (.string y.id)).set (p * 4 + 1) (.bool y.was)).set (p * 4 + 2) (.bool y.isb)).set (p * 4 + 3) (.int .i64 y.last) = cellsOf encP (xs.set p y)
 | [], _, _, h => by simp at h
 | x :: xs, 0, y, _ => by simp [cellsOf, encP]
 | x :: xs, p + 1, y, h => by
   have ih := cells_set xs p y (by simpa using h)
   simp only [cellsOf, List.flatMap_cons, List.set_cons_succ] at ih ⊢
   rw [<- ih]
   rw [show (p + 1) * 4 = p * 4 + 1 + 1 + 1 + 1 by omega]
   simp [encP]
theorem Own.stored4 {w : World} {base : Nat} {e : TypeId} {g n cap : Nat} {xs : List Pa} (h : Own w base e encP 4 (.slice (some ⟨g, 0, none⟩) n cap) xs) (hn : n = xs.length) (p : Nat) (hp : p < xs.length) (y : Pa) :
 Own ((((w.setCell ⟨g, p * 4, none⟩ (.string y.id)).setCell ⟨g, p * 4 + 1, none⟩ (.bool y.was)).setCell ⟨g, p * 4 + 2, none⟩ (.bool y.isb)).setCell ⟨g, p * 4 + 3, none⟩ (.int .i64 y.last)) base e encP 4 (.slice (some ⟨g, 0, none⟩) n cap) (xs.set p y) /\
 w.grownBy ((((w.setCell ⟨g, p * 4, none⟩ (.string y.id)).setCell ⟨g, p * 4 + 1, none⟩ (.bool y.was)).setCell ⟨g, p * 4 + 2, none⟩ (.bool y.isb)).setCell ⟨g, p * 4 + 3, none⟩ (.int .i64 y.last)) (some g) := by
 subst hn
 unfold Own at h ⊢
 have h1 := World.ownsRow.stored h (p * 4) (.string y.id)
 have h2 := World.ownsRow.stored h1.1 (p * 4 + 1) (.bool y.was)
 have h3 := World.ownsRow.stored h2.1 (p * 4 + 2) (.bool y.isb)
 have h4 := World.ownsRow.stored h3.1 (p * 4 + 3) (.int .i64 y.last)
 rw [cells_set xs p y hp] at h4
 rw [List.length_set]
 exact ⟨h4.1, ((h1.2.trans h2.2).trans h3.2).trans h4.2⟩
end
end Go.Proofs.YtfgjimpmpckgpaaGreatDoor
