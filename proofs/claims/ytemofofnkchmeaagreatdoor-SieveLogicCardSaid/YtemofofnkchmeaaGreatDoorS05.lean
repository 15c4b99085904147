import Derived.Test.YtemofofnkchmeaaGreatDoorL15
import Derived.Test.YtemofofnkchmeaaGreatDoorL10
import Derived.Test.YtemofofnkchmeaaGreatDoorS03
import Derived.Test.YtemofofnkchmeaaGreatDoorS00
import Derived.Test.YtemofofnkchmeaaGreatDoorL20
import Derived.BigQuiet
import Derived.Test.YtemofofnkchmeaaGreatDoorL24
import Derived.Test.YtemofofnkchmeaaGreatDoorL04
import Derived.Deep.RegionHeld3
import Derived.Deep.DeepCutAuto
import Derived.Deep.CutRange
import Derived.Deep.QuietTactic
import Derived.Outline
import Derived.OpenShut
import Derived.Test.YtemofofnkchmeaaGreatDoorL01
import Derived.Maps.OwnSet
import Derived.WalkKit
import Derived.StringKeys
import Derived.Deep.Draws
import Derived.StillTailTactics
import Derived.Deep.LoopGhost
import Derived.Test.YtemofofnkchmeaaGreatDoorL17
import Derived.Test.YtemofofnkchmeaaGreatDoorL12
import Derived.Test.YtemofofnkchmeaaGreatDoorL11
import Derived.Test.YtemofofnkchmeaaGreatDoorL07
import Derived.Test.YtemofofnkchmeaaGreatDoorL09
import Derived.Test.YtemofofnkchmeaaGreatDoorL02
import Derived.Test.YtemofofnkchmeaaGreatDoorS01
import Derived.Deep.RegionLaw
import Derived.Lib.Bytealg
import Derived.Test.YtemofofnkchmeaaGreatDoorL00
import Derived.Shelf.LaysM
import Derived.Shelf.Small.Strs
import Derived.Shelf.Strconv.Clone
import Derived.Shelf.Strings.Count
import Derived.Shelf.Strings.OnBuilder
import Derived.Shelf.Strings.Repeat
import Derived.Shelf.Strings.Trim
import Derived.Shelf.Strings.SlTrimAscii
import Derived.Test.YtemofofnkchmeaaGreatDoorProg
import Derived.Sort.LotA
import Derived.Shelf.SlSortCmp.Insertion
import Derived.Shelf.SlSortCmp.KitK
import Derived.Sort.WalkB2
import Derived.Sort.WalkB12
import Derived.Lib.Hide
import Derived.Shelf.SlSortCmp.QuietGrown
import Derived.Deep.Cut
import Derived.Sort.OwnSorted
import Derived.Lib.Strings
import Derived.Laws.IdiomStrings
import Derived.Maps.AppendAt
import Derived.Deep.AppendLies
import Derived.RegionTactic
import Derived.OwnWalk
import Derived.WalkSpells
import Derived.Laws.AppendOwnNone
import Derived.ProofKit
import Derived.Below
import Derived.Test.YtemofofnkchmeaaGreatDoorL05
import Derived.WalkLawsBesides
import Derived.StillTactics
import Derived.Deep.Slices
import Derived.Deep.Fields
import Derived.Deep.Strs
import Derived.ChangeSame
import Derived.SizedLaws
import Derived.Shelf.Slices.Turned
set_option linter.unusedSimpArgs false
set_option linter.unusedVariables false
set_option maxRecDepth 200000
set_option maxHeartbeats 8000000
namespace Go.Proofs.YtemofofnkchmeaaGreatDoor
open _root_.Go.RowKit.Below renaming refl->yd
open _root_.Bool renaming and_eq_true->yk,or_eq_true->yw
open _root_.Int renaming natCast_nonneg->ye
open _root_.Go.Lib renaming hasPrefix->yq,hid->yb,indexByte->yf
open _root_.List renaming getElem?_eq_getElem->yh,isPrefixOf->yp,length_cons->yy,length_singleton->ym,take_zero->yz
open _root_.Nat renaming add_zero->yu,le_of_lt->ys,le_refl->yc,zero_le->yt
open _root_.Go.Proofs.Tryz renaming prog->ya
section
open Go Go.RowKit Go.OpenShut
theorem zue:(ya.info? 116).map (fun i=>(i.zero,i.size,i.bytes))=some (some (.agg #[.int .i64 0,.int .i64 0,.string ByteArray.empty,.int .i64 0]),4,40):=by kernel_rfl
theorem slTok:SlT ya 105 116 4 40:=SlT.mk Tryz.underlying105 zue rfl
theorem zf8(w:World)(g i k n a:Nat)(s x:ByteArray)(kd:Int)(l:List Tok)(hS:ScS w w g s i l)(hl:l.length<=65536):
 Calls ya 168 #[.pointer (some ⟨g,0,none⟩),.agg #[.int .i64 kd,.int .i64 n,.string x,.int .i64 a],.int .i64 k] w fun e w'=>e= .returned (.tuple #[])/\ScS w w' g s k (l++[⟨kd,n,x,i⟩]):=by
 obtain⟨⟨v,h1,h2⟩,h3⟩:=hS;obtain⟨p0,n0,c0',rfl⟩:∃p n c,v=Value.slice p n c:=(by obtain⟨p,c,hv,_,_⟩:=h2.len;exact⟨p,_,c,hv⟩)
 have hg:=h1.lt;have hA:Below w.heap.size w (w.alloc (.cells #[.int .i64 kd,.int .i64 n,.string x,.int .i64 a] 116)):=(yd _ _).alloc (yc _) _;have hB:(w.alloc (.cells #[.int .i64 kd,.int .i64 n,.string x,.int .i64 a] 116)).heap[w.heap.size]? =some (.cells #[.int .i64 kd,.int .i64 n,.string x,.int .i64 a] 116 (0,0)):=za rfl;have hs1:(w.alloc (.cells #[.int .i64 kd,.int .i64 n,.string x,.int .i64 a] 116)).heap.size=w.heap.size+1:=by simp
 obtain⟨W1,hW1⟩:∃W1,w.alloc (.cells #[.int .i64 kd,.int .i64 n,.string x,.int .i64 a] 116)=W1:=⟨_,rfl⟩;rw[hW1]at hA hB hs1;have HLT:Hid (∀k,(Value.slice p0 n0 c0').ownBlock=some k->g+1<=k/\k<w.heap.size):=h2.lt;have HC1:=yb (h1.under hA hg);have HO1:=yb (h2.below hA (yc _));have H3:=yb (h3.trans (hA.mono (ys hg)));have HS1:=yb hs1;have HL:Hid (l.length<=65536):=hl;clear h1 h2 h3 hA hs1 hl
 go_enter Tryz.func168,Tryz.ntmps168
 go_upto_region 1 with fail
 try rw[hW1]
 clear hW1;have c1:=HC1.out.cell 1 (u:= .int .i64 i) rfl;have t3:W1.cell? ⟨w.heap.size,3,none⟩=some (.int .i64 a):=by rw[cell_of_row W1 w.heap.size 3 _ _ _ hB];rfl
 have t4:W1.frozen? ⟨w.heap.size,3,none⟩=false:=by simp[World.frozen?,hB]
 have hgw:g≠w.heap.size:=by omega
 have hgw1:w.heap.size<W1.heap.size:=by have:=HS1.out;omega
 go_upto_region 2 with fail
 have hg2:=zz W1 w.heap.size 3 (.int .i64 (i:Int));have hB2:(W1.setCell ⟨w.heap.size,3,none⟩ (.int .i64 (i:Int))).heap[w.heap.size]? =some (.cells #[.int .i64 kd,.int .i64 n,.string x,.int .i64 i] 116 (0,0)):=by simp[World.setCell,Array.getElem?_modify,hB]
 have hC2:=HC1.out.keptR hg2 (fun e=>hgw (by injection e with e;exact e.symm))
 have hO2:Own (W1.setCell ⟨w.heap.size,3,none⟩ (.int .i64 (i:Int))) (g+1) 116 zhK 4 (.slice p0 n0 c0') l:=HO1.out.same (fun k e=>hg2.block k (HO1.out.lt k e).2 (fun e2=>by have:=HLT.out k e;injection e2 with e2;omega))
 have hb2:Below g w (W1.setCell ⟨w.heap.size,3,none⟩ (.int .i64 (i:Int))):=H3.out.grown hg2 (by omega) (fun k e=>by injection e with e;omega)
 obtain⟨W2,hW2⟩:∃W2,W1.setCell ⟨w.heap.size,3,none⟩ (.int .i64 (i:Int))=W2:=⟨_,rfl⟩;rw[hW2]at hB2 hC2 hO2 hb2
 try rw[hW2]
 have hz2:g<W2.heap.size:=hC2.lt;have hw2:w.heap.size<W2.heap.size:=by rw[<-hW2];simpa using hgw1
 clear hW2 c1 t3 t4 hg2;have t0:W2.cell? ⟨w.heap.size,0,none⟩=some (.int .i64 kd):=by rw[cell_of_row W2 w.heap.size 0 _ _ _ hB2];rfl
 have t1:W2.cell? ⟨w.heap.size,1,none⟩=some (.int .i64 n):=by rw[cell_of_row W2 w.heap.size 1 _ _ _ hB2];rfl
 have t2:W2.cell? ⟨w.heap.size,2,none⟩=some (.string x):=by rw[cell_of_row W2 w.heap.size 2 _ _ _ hB2];rfl
 have t3:W2.cell? ⟨w.heap.size,3,none⟩=some (.int .i64 i):=by rw[cell_of_row W2 w.heap.size 3 _ _ _ hB2];rfl
 have c2:=hC2.cell 2 (u:= .slice p0 n0 c0') rfl;have HOX:Hid (Own (W2.alloc (.cells #[.int .i64 kd,.int .i64 n,.string x,.int .i64 i] 116)) (g+1) 116 zhK 4 (.slice p0 n0 c0') l):=hO2.below ((yd _ _).alloc (yc _) _) (yc _);have HRX:Hid (Rd (W2.alloc (.cells #[.int .i64 kd,.int .i64 n,.string x,.int .i64 i] 116)) (W2.heap.size+1) zhK 4 (.slice (some ⟨W2.heap.size,0,none⟩) 1 1) [(⟨kd,n,x,i⟩:Tok)]):=Rd.one zss (za rfl) rfl (by omega)
 have HCX:Hid (ScAt (W2.alloc (.cells #[.int .i64 kd,.int .i64 n,.string x,.int .i64 i] 116)) g s i (.slice p0 n0 c0')):=hC2.under ((yd _ _).alloc (yc _) _) hz2;have HBX:Hid (Below g w (W2.alloc (.cells #[.int .i64 kd,.int .i64 n,.string x,.int .i64 i] 116))):=hb2.alloc (by omega) _
 have HW2:Hid (w.heap.size<W2.heap.size/\g<w.heap.size):=⟨hw2,hg⟩;clear hC2 hO2 hb2 hB2
 go_region_law
  (first
   | (refine zea slTok zss (W2.alloc (.cells #[.int .i64 kd, .int .i64 n, .string x, .int .i64 i] 116)).drew (by rfl) (.tmp 15) (.tmp 17) (by rfl) (v := .slice p0 n0 c0') (by rfl) (by rfl) HOX.out HRX.out (by have := HL.out; simp only [ym]; unfold maxLen; omega) (by have := HL.out; simp only [ym]; omega) (by have := HW2.out; show g + 1 <= (W2.alloc _).heap.size; simp; omega) ?_
      intro v9 w9 ho9 hg9 hat9;obtain⟨p9,n9,c9,rfl⟩:∃p n c,v9=Value.slice p n c:=(by obtain⟨p,c,hv,h1,h2⟩:=ho9.len;exact⟨p,_,c,hv⟩)
      have H9:ScAt w9 g s i (.slice p0 n0 c0'):=(hg9.block g (by have:=HCX.out.lt;exact this) (fun e=>by have:=(HOX.out.lt _ e.symm).1;omega)).trans HCX.out
      have b2:=H9.cell 2 (u:= .slice p0 n0 c0') rfl;have bf:=H9.frozen 2;have b1:=H9.cell 1 (u:= .int .i64 i) rfl;have bf1:=H9.frozen 1)
   |fail)
 all_goals
  have HB9:Below g w w9:=(show Below g w (W2.alloc (.cells #[.int .i64 kd,.int .i64 n,.string x,.int .i64 i] 116)).drew from HBX.out.drew).grown hg9 (by have:=HW2.out;show g<=(W2.alloc _).heap.size;simp;omega) (fun k e=>by have:=(HOX.out.lt k e).1;omega)
  have HN9:=H9.set2 (.slice p9 n9 c9);have HN10:=HN9.set1 k;have hg10:=(zz w9 g 2 (.slice p9 n9 c9)).trans (zz _ g 1 (.int .i64 (k:Int)));have ho10:=ho9.same (w':=(w9.setCell ⟨g,2,none⟩ (.slice p9 n9 c9)).setCell ⟨g,1,none⟩ (.int .i64 (k:Int))) (fun j e=>hg10.block j (ho9.lt j e).2 (fun e2=>by have:=(ho9.lt j e).1;injection e2 with e2;omega))
  have hb10:=HB9.grown hg10 (by have:=H9.lt;omega) (fun j e=>by injection e with e;omega)
  go_wp2_with fail
  go_end0
  exact⟨rfl,⟨⟨_,HN10,ho10⟩,hb10⟩⟩
theorem zsu:∀(l:List UInt8) (c:UInt8),decide (0<=yf l c)=l.any (fun b=>decide (b=c))
 |[],c=>by simp[yf]
 | b :: l, c => by
   have ih:=zsu l c;unfold yf;rw[List.any_cons];by_cases h:b=c
   ·simp[h]
   ·have h2:(b==c)=false:=by simpa using h
    rw[h2,if_neg (by decide),decide_eq_false h,Bool.false_or,<-ih]
    by_cases h3:yf l c= -1
    ·simp[h3]
    ·have h4:(yf l c== -1)=false:=by simpa using h3
     rw[h4,if_neg (by decide)]
     have h5:-1<=yf l c:=index_min l c;by_cases h6:0<=yf l c
     ·rw[decide_eq_true h6,decide_eq_true (by omega)]
     ·omega
where index_min:∀(l:List UInt8) (c:UInt8),-1<=yf l c
 |[],c=>by simp[yf]
 | b :: l, c => by
   have ih:=index_min l c;unfold yf
   split
   ·omega
   ·split
    ·omega
    ·omega
theorem zub(b c:UInt8):(b=c)=(c.toNat=b.toNat):=by
 apply propext
 constructor
 ·intro h;rw[h]
 ·intro h;exact(UInt8.toNat_inj.1 h).symm
theorem zt6(c:UInt8):decide (0<=yf [32,9,10,13] c)=zsh c:=by
 rw[zsu];simp only[List.any_cons,List.any_nil,Bool.or_false,zub,zsh];simp only[Bool.or_assoc]
 rfl
theorem zsX(c:UInt8):decide (0<=yf [123,125,91,93,58,44] c)=zsj c:=by
 rw[zsu];simp only[List.any_cons,List.any_nil,Bool.or_false,zub,zsj];simp only[Bool.or_assoc]
 rfl
theorem zsg(c:UInt8)(w:World):Calls ya 200 #[.int .u8 c.toNat] w fun e w'=>e= .returned (.bool (zsl c))/\w'=w:=by
 have h0:(0:Int)<=(c.toNat:Int):=ye _;by_cases a1:97<=c.toNat<;>by_cases a2:c.toNat<=122<;>by_cases a3:65<=c.toNat<;>by_cases a4:c.toNat<=90<;>by_cases a5:48<=c.toNat<;>by_cases a6:c.toNat<=57<;>by_cases a7:c.toNat=95
 all_goals first|(exfalso;omega)|skip
 all_goals
  have hp:Hid (zsl c=(decide (97<=c.toNat)&&decide (c.toNat<=122)||decide (65<=c.toNat)&&decide (c.toNat<=90)||decide (48<=c.toNat)&&decide (c.toNat<=57)||decide (c.toNat=95))):=rfl
  go_enter Tryz.func200,Tryz.ntmps200
  go_wp2_with fail
  go_ret;refine⟨?_,rfl⟩;rw[hp.out];simp[a1,a2,a3,a4,a5,a6,a7]<;>omega
theorem zrW(s:ByteArray)(i:Nat):(s.extract i s.size).data.toList=s.data.toList.drop i:=by
 rw[zjY];exact List.take_of_length_le (by rw[List.length_drop,zdA];omega)
theorem zsA{s wd:ByteArray}{i:Nat}(h:zgm s i wd=true):∃r,s.data.toList.drop i=wd.data.toList++r:=by
 unfold zgm at h;rw[yk,decide_eq_true_eq]at h;refine⟨(s.data.toList.drop i).drop wd.size,?_⟩
 conv=>lhs;rw[<-List.take_append_drop wd.size (s.data.toList.drop i)]
 rw[h.1]
theorem zt9(w:World)(g i:Nat)(s wd:ByteArray)(l:List Tok)(hS:ScS w w g s i l)(hl:l.length<=65536)(hs:s.size<=65536)(hi:i<s.size)(hw:wd=wTrue\/wd=wFalse\/wd=wNull)(ha:zgm s i wd=true):
 Calls ya 170 #[.pointer (some ⟨g,0,none⟩)] w fun e w'=>e= .returned (.bool true)/\ScS w w' g s (i+wd.size) (l++[⟨2,0,wd,i⟩]):=by
 obtain⟨r,hr⟩:=zsA ha
 have hend:i+wd.size=s.size\/(i+wd.size<s.size/\zsl s[i+wd.size]! =false):=by
  unfold zgm at ha;rw[yk,yw,decide_eq_true_eq,yk,decide_eq_true_eq]at ha
  rcases ha.2 with h|h
  ·exact .inl h
  ·exact .inr ⟨of_decide_eq_true h.1,by simpa using h.2⟩
 obtain⟨⟨v,h1,h2⟩,h3⟩:=hS;have hgl:=h1.lt;have hA:Below w.heap.size w (w.alloc (.cells #[.string ⟨#[116,114,117,101]⟩,.string ⟨#[102,97,108,115,101]⟩,.string ⟨#[110,117,108,108]⟩] 9)):=(yd _ _).alloc (yc _) _;have hB:(w.alloc (.cells #[.string ⟨#[116,114,117,101]⟩,.string ⟨#[102,97,108,115,101]⟩,.string ⟨#[110,117,108,108]⟩] 9)).heap[w.heap.size]? =some (.cells #[.string ⟨#[116,114,117,101]⟩,.string ⟨#[102,97,108,115,101]⟩,.string ⟨#[110,117,108,108]⟩] 9 (0,0)):=za rfl;have hs1:(w.alloc (.cells #[.string ⟨#[116,114,117,101]⟩,.string ⟨#[102,97,108,115,101]⟩,.string ⟨#[110,117,108,108]⟩] 9)).heap.size=w.heap.size+1:=by simp
 obtain⟨W1,hW1⟩:∃W1,w.alloc (.cells #[.string ⟨#[116,114,117,101]⟩,.string ⟨#[102,97,108,115,101]⟩,.string ⟨#[110,117,108,108]⟩] 9)=W1:=⟨_,rfl⟩;rw[hW1]at hA hB hs1;have HS1:Hid (ScS w W1 g s i l):=⟨⟨v,h1.under hA h1.lt,h2.below hA (yc _)⟩,h3.trans (hA.mono (ys h1.lt))⟩;have HZ:Hid (W1.heap.size=w.heap.size+1/\g<w.heap.size):=⟨hs1,h1.lt⟩;have a0:W1.cell? ⟨w.heap.size,0,none⟩=some (.string ⟨#[116,114,117,101]⟩):=by rw[cell_of_row W1 w.heap.size 0 _ _ _ hB];rfl
 have a1:W1.cell? ⟨w.heap.size,1,none⟩=some (.string ⟨#[102,97,108,115,101]⟩):=by rw[cell_of_row W1 w.heap.size 1 _ _ _ hB];rfl
 have a2:W1.cell? ⟨w.heap.size,2,none⟩=some (.string ⟨#[110,117,108,108]⟩):=by rw[cell_of_row W1 w.heap.size 2 _ _ _ hB];rfl
 have s0:W1.cell? ⟨g,0,none⟩=some (.string s):=(h1.under hA h1.lt).cell 0 rfl;have s1:W1.cell? ⟨g,1,none⟩=some (.int .i64 i):=(h1.under hA h1.lt).cell 1 rfl;have zg:g<W1.heap.size:=by omega
 have i0:(0:Int)<=(i:Int):=ye _;have i1:(i:Int)<=(s.size:Int):=by omega
 have i2:i<4398046510976:=by omega
 have HR:Hid (s.data.toList.drop i=wd.data.toList++r):=hr;have HEND:Hid (i+wd.size=s.size\/(i+wd.size<s.size/\zsl s[i+wd.size]! =false)):=hend;have HW:=yb hw;have HL:Hid (l.length<=65536/\s.size<=65536):=⟨hl,hs⟩
 obtain⟨m,hm⟩:∃m:Nat,(m=0/\wd=wTrue)\/(m=1/\wd=wFalse)\/(m=2/\wd=wNull):=by
  rcases hw with h|h|h
  ·exact⟨0,.inl ⟨rfl,h⟩⟩
  ·exact⟨1,.inr (.inl ⟨rfl,h⟩)⟩
  ·exact⟨2,.inr (.inr ⟨rfl,h⟩)⟩
 have HM:=yb hm;have hm2:m<=2:=by rcases hm with h|h|h<;>omega
 clear hr hend h1 h2 h3 hA hB hs1 hl hs hi ha hw hm
 go_enter Tryz.func170,Tryz.ntmps170
 go_upto_region 2 with fail
 try rw[hW1]
 clear hW1
 go_wp2_with fail
 go_loopw [8] (fun o wr=>∃k:Nat,k<=m/\o= .int .i64 (k:Int)/\∃n,wr=W1.drewN n) (fun o _=>3-(intOf o).toNat)
 case atStart=>exact⟨0,yt _,rfl,0,rfl⟩
 case round=>
  obtain⟨k,hk,rfl,nr,rfl⟩:=hrel;have hk3:k=0\/k=1\/k=2:=by omega
  rcases hk3 with rfl|rfl|rfl
  ·by_cases hkm:0=m
   ·subst hkm;have hwd:wd=wTrue:=by rcases HM.out with h|h|h<;>first|exact h.2|(exfalso;omega)
    have HP:Hid (∀n,Calls ya 199 #[.string (s.extract i s.size),.string ⟨#[116,114,117,101]⟩] (W1.drewN n) fun e w'=>e= .returned (.bool true)/\w'=W1.drewN n):=fun n=>(strings_HasPrefix _ _ _).mono (fun e w' h=>⟨by rw[h.1,zrW,HR.out,hwd];simp[yq,wTrue,yp],h.2⟩)
    have hen:=HEND.out;rw[hwd]at hen;have hsz:(wTrue).size=4:=rfl;rw[hsz]at hen;have HWD:=yb hwd;clear hwd
    rcases hen with hen|⟨hen1,hen2⟩
    ·have q1:(((i:Int)+4)==(s.size:Int))=true:=by simp;omega
     go_wp2_with fail
     go_quiet ((go_at_call 199;exact(HP.out _).mono (fun e w' h=>⟨h.1,_,h.2⟩)))
     go_wp2_with fail
     refine(zf8 _ g i (i+4) 0 0 s ⟨#[116,114,117,101]⟩ 2 l (HS1.out.now _) HL.out.1).mono ?_;rintro e w4 ⟨rfl,hS4⟩
     go_wp2_with fail
     go_ret;refine⟨rfl,?_⟩;rw[HWD.out];exact⟨hS4.ex,HS1.out.below.trans ((bdn (yd _ _) _).trans hS4.below)⟩
    ·have q1:(((i:Int)+4)==(s.size:Int))=false:=by simp;omega
     have HPT:Hid (∀n,Calls ya 200 #[.int .u8 s[i+4].toNat] (W1.drewN n) fun e w'=>e= .returned (.bool false)/\w'=W1.drewN n):=fun n=>(zsg _ _).mono (fun e w' h=>⟨by rw[h.1,<-zhg s (i+4) hen1,hen2],h.2⟩)
     have i3:((i:Int)+4)<(s.size:Int):=by omega
     have i4:(0:Int)<=(i:Int)+4:=by omega
     have i5:((i:Int)+4).toNat=i+4:=by omega
     go_wp2_with fail
     go_quiet (first|(go_at_call 199;exact(HP.out _).mono (fun e w' h=>⟨h.1,_,h.2⟩))|(go_at_call 200;exact(HPT.out _).mono (fun e w' h=>⟨h.1,_,h.2⟩)))
     go_wp2_with fail
     refine(zf8 _ g i (i+4) 0 0 s ⟨#[116,114,117,101]⟩ 2 l (HS1.out.now _) HL.out.1).mono ?_;rintro e w4 ⟨rfl,hS4⟩
     go_wp2_with fail
     go_ret;refine⟨rfl,?_⟩;rw[HWD.out];exact⟨hS4.ex,HS1.out.below.trans ((bdn (yd _ _) _).trans hS4.below)⟩
   ·have hlt:0<m:=by omega
    have HP:Hid (∀n,Calls ya 199 #[.string (s.extract i s.size),.string ⟨#[116,114,117,101]⟩] (W1.drewN n) fun e w'=>e= .returned (.bool false)/\w'=W1.drewN n):=fun n=>(strings_HasPrefix _ _ _).mono (fun e w' h=>⟨by
     rw[h.1,zrW,HR.out]
     rcases HM.out with h|h|h
     ·exfalso;omega
     ·rw[h.2];first|(exfalso;omega)|simp[yq,wFalse,yp]
     ·rw[h.2];simp[yq,wNull,yp],h.2⟩)
    go_wp2_with fail
    go_quiet ((go_at_call 199;exact(HP.out _).mono (fun e w' h=>⟨h.1,_,h.2⟩)))
    go_wp2_with fail
    go_roundw
    case rel=>exact⟨0+1,by omega,by go_num,_,rfl⟩
    case measure=>first|(simp[intOf];done)|(simp[intOf];omega)
  ·by_cases hkm:1=m
   ·subst hkm;have hwd:wd=wFalse:=by rcases HM.out with h|h|h<;>first|exact h.2|(exfalso;omega)
    have HP:Hid (∀n,Calls ya 199 #[.string (s.extract i s.size),.string ⟨#[102,97,108,115,101]⟩] (W1.drewN n) fun e w'=>e= .returned (.bool true)/\w'=W1.drewN n):=fun n=>(strings_HasPrefix _ _ _).mono (fun e w' h=>⟨by rw[h.1,zrW,HR.out,hwd];simp[yq,wFalse,yp],h.2⟩)
    have hen:=HEND.out;rw[hwd]at hen;have hsz:(wFalse).size=5:=rfl;rw[hsz]at hen;have HWD:=yb hwd;clear hwd
    rcases hen with hen|⟨hen1,hen2⟩
    ·have q1:(((i:Int)+5)==(s.size:Int))=true:=by simp;omega
     go_wp2_with fail
     go_quiet ((go_at_call 199;exact(HP.out _).mono (fun e w' h=>⟨h.1,_,h.2⟩)))
     go_wp2_with fail
     refine(zf8 _ g i (i+5) 0 0 s ⟨#[102,97,108,115,101]⟩ 2 l (HS1.out.now _) HL.out.1).mono ?_;rintro e w4 ⟨rfl,hS4⟩
     go_wp2_with fail
     go_ret;refine⟨rfl,?_⟩;rw[HWD.out];exact⟨hS4.ex,HS1.out.below.trans ((bdn (yd _ _) _).trans hS4.below)⟩
    ·have q1:(((i:Int)+5)==(s.size:Int))=false:=by simp;omega
     have HPT:Hid (∀n,Calls ya 200 #[.int .u8 s[i+5].toNat] (W1.drewN n) fun e w'=>e= .returned (.bool false)/\w'=W1.drewN n):=fun n=>(zsg _ _).mono (fun e w' h=>⟨by rw[h.1,<-zhg s (i+5) hen1,hen2],h.2⟩)
     have i3:((i:Int)+5)<(s.size:Int):=by omega
     have i4:(0:Int)<=(i:Int)+5:=by omega
     have i5:((i:Int)+5).toNat=i+5:=by omega
     go_wp2_with fail
     go_quiet (first|(go_at_call 199;exact(HP.out _).mono (fun e w' h=>⟨h.1,_,h.2⟩))|(go_at_call 200;exact(HPT.out _).mono (fun e w' h=>⟨h.1,_,h.2⟩)))
     go_wp2_with fail
     refine(zf8 _ g i (i+5) 0 0 s ⟨#[102,97,108,115,101]⟩ 2 l (HS1.out.now _) HL.out.1).mono ?_;rintro e w4 ⟨rfl,hS4⟩
     go_wp2_with fail
     go_ret;refine⟨rfl,?_⟩;rw[HWD.out];exact⟨hS4.ex,HS1.out.below.trans ((bdn (yd _ _) _).trans hS4.below)⟩
   ·have hlt:1<m:=by omega
    have HP:Hid (∀n,Calls ya 199 #[.string (s.extract i s.size),.string ⟨#[102,97,108,115,101]⟩] (W1.drewN n) fun e w'=>e= .returned (.bool false)/\w'=W1.drewN n):=fun n=>(strings_HasPrefix _ _ _).mono (fun e w' h=>⟨by
     rw[h.1,zrW,HR.out]
     rcases HM.out with h|h|h
     ·exfalso;omega
     ·rw[h.2];first|(exfalso;omega)|simp[yq,wFalse,yp]
     ·rw[h.2];simp[yq,wNull,yp],h.2⟩)
    go_wp2_with fail
    go_quiet ((go_at_call 199;exact(HP.out _).mono (fun e w' h=>⟨h.1,_,h.2⟩)))
    go_wp2_with fail
    go_roundw
    case rel=>exact⟨1+1,by omega,by go_num,_,rfl⟩
    case measure=>first|(simp[intOf];done)|(simp[intOf];omega)
  ·by_cases hkm:2=m
   ·subst hkm;have hwd:wd=wNull:=by rcases HM.out with h|h|h<;>first|exact h.2|(exfalso;omega)
    have HP:Hid (∀n,Calls ya 199 #[.string (s.extract i s.size),.string ⟨#[110,117,108,108]⟩] (W1.drewN n) fun e w'=>e= .returned (.bool true)/\w'=W1.drewN n):=fun n=>(strings_HasPrefix _ _ _).mono (fun e w' h=>⟨by rw[h.1,zrW,HR.out,hwd];simp[yq,wNull,yp],h.2⟩)
    have hen:=HEND.out;rw[hwd]at hen;have hsz:(wNull).size=4:=rfl;rw[hsz]at hen;have HWD:=yb hwd;clear hwd
    rcases hen with hen|⟨hen1,hen2⟩
    ·have q1:(((i:Int)+4)==(s.size:Int))=true:=by simp;omega
     go_wp2_with fail
     go_quiet ((go_at_call 199;exact(HP.out _).mono (fun e w' h=>⟨h.1,_,h.2⟩)))
     go_wp2_with fail
     refine(zf8 _ g i (i+4) 0 0 s ⟨#[110,117,108,108]⟩ 2 l (HS1.out.now _) HL.out.1).mono ?_;rintro e w4 ⟨rfl,hS4⟩
     go_wp2_with fail
     go_ret;refine⟨rfl,?_⟩;rw[HWD.out];exact⟨hS4.ex,HS1.out.below.trans ((bdn (yd _ _) _).trans hS4.below)⟩
    ·have q1:(((i:Int)+4)==(s.size:Int))=false:=by simp;omega
     have HPT:Hid (∀n,Calls ya 200 #[.int .u8 s[i+4].toNat] (W1.drewN n) fun e w'=>e= .returned (.bool false)/\w'=W1.drewN n):=fun n=>(zsg _ _).mono (fun e w' h=>⟨by rw[h.1,<-zhg s (i+4) hen1,hen2],h.2⟩)
     have i3:((i:Int)+4)<(s.size:Int):=by omega
     have i4:(0:Int)<=(i:Int)+4:=by omega
     have i5:((i:Int)+4).toNat=i+4:=by omega
     go_wp2_with fail
     go_quiet (first|(go_at_call 199;exact(HP.out _).mono (fun e w' h=>⟨h.1,_,h.2⟩))|(go_at_call 200;exact(HPT.out _).mono (fun e w' h=>⟨h.1,_,h.2⟩)))
     go_wp2_with fail
     refine(zf8 _ g i (i+4) 0 0 s ⟨#[110,117,108,108]⟩ 2 l (HS1.out.now _) HL.out.1).mono ?_;rintro e w4 ⟨rfl,hS4⟩
     go_wp2_with fail
     go_ret;refine⟨rfl,?_⟩;rw[HWD.out];exact⟨hS4.ex,HS1.out.below.trans ((bdn (yd _ _) _).trans hS4.below)⟩
   ·exfalso;omega
theorem zpu(l:List UInt8)(c:UInt8):yf l ((c.toNat:Int)).toNat.toUInt8=yf l c:=by
 rw[Int.toNat_natCast]
 congr 1
 simp
theorem ScS.self{w W:World}{g i:Nat}{s:ByteArray}{l:List Tok}(h:ScS w W g s i l):ScS W W g s i l:=⟨h.ex,yd _ _⟩
theorem ztV(w:World)(g i:Nat)(s:ByteArray)(l:List Tok)(hS:ScS w w g s i l)(hl:l.length<=65536)(hs:s.size<=65536)(hi:i<s.size)(ha:zsj s[i]! =true):
 Calls ya 106 #[.pointer (some ⟨g,0,none⟩)] w fun e w'=>e= .returned (.int .i64 0)/\ScS w w' g s (i+1) (l++[⟨1,0,⟨#[s[i]!]⟩,i⟩]):=by
 have ht:s.extract i (i+1)=⟨#[s[i]!]⟩:=zgj (zsC hi);have HLY:Hid (∀n,Calls ya 168 #[.pointer (some ⟨g,0,none⟩),.agg #[.int .i64 1,.int .i64 0,.string (s.extract i (i+1)),.int .i64 0],.int .i64 ((i:Int)+1)] (w.drewN n) fun e w'=>e= .returned (.tuple #[])/\ScS (w.drewN n) w' g s (i+1) (l++[⟨1,0,s.extract i (i+1),i⟩])):=fun n=>zf8 (w.drewN n) g i (i+1) 0 0 s (s.extract i (i+1)) 1 l (hS.now n) hl
 rw[<-ht];obtain⟨c0,c1,hg⟩:=hS.cells;have hmk:=ha;unfold zsj at ha;simp only[yw,decide_eq_true_eq]at ha;rw[zhg s i hi]at ha hmk;have HIX:Hid (∀W,Calls ya 105 #[.string ⟨#[123,125,91,93,58,44]⟩,.int .u8 (s[i].toNat:Int)] W fun e w'=>e= .returned (.int .i64 (yf [123,125,91,93,58,44] s[i]))/\w'=W):=fun W=>(strings_IndexByte _ _ W).mono (fun e w' h=>⟨by rw[h.1,zpu],h.2⟩)
 have hix:=zsX s[i];rw[hmk]at hix;have hix2:0<=yf [123,125,91,93,58,44] s[i]:=of_decide_eq_true hix;obtain⟨x,hx⟩:∃x,yf [123,125,91,93,58,44] s[i]=x:=⟨_,rfl⟩;rw[hx]at HIX hix hix2;have i0:(0:Int)<=(i:Int):=ye _;have i1:(i:Int)<(s.size:Int):=by omega
 have i2:i<4398046510976:=by omega
 have e1:(((s[i].toNat:Nat):Int)==34)=false:=by simp;omega
 have e2:(((s[i].toNat:Nat):Int)==45)=false:=by simp;omega
 have e3:s[i].toNat<48\/(48<=s[i].toNat/\57<s[i].toNat):=by omega
 have k1:IntKind.i64.wrap ((i:Int)+1)=(i:Int)+1:=IntWalk.i64_in _ (by omega)
 have k2:(0:Int)<=(i:Int)+1:=by omega
 have k3:((i:Int)+1).toNat=i+1:=by omega
 have k4:(i:Int)+1<=(s.size:Int):=by omega
 have k5:(i:Int)<=(i:Int)+1:=by omega
 have HI:=yb hi;clear ha hmk ht hx hs hl hS
 rcases e3 with e3|⟨e3,e4⟩
 all_goals first
  | (have q1 : ¬ (48 <= s[i].toNat) := by omega
     have q2:¬((48:Int)<=((s[i].toNat:Nat):Int)):=by omega
     have q3:decide ((48:Int)<=((s[i].toNat:Nat):Int))=false:=decide_eq_false q2;have q4:decide (48<=s[i].toNat)=false:=decide_eq_false q1;have q5:True:=trivial;have q6:True:=trivial;have q7:True:=trivial)
  | (have q1 : ¬ (s[i].toNat <= 57) := by omega
     have q2:¬(((s[i].toNat:Nat):Int)<=57):=by omega
     have q3:decide (((s[i].toNat:Nat):Int)<=57)=false:=decide_eq_false q2;have q4:decide (s[i].toNat<=57)=false:=decide_eq_false q1;have q5:((48:Int)<=((s[i].toNat:Nat):Int)):=by omega
     have q6:decide ((48:Int)<=((s[i].toNat:Nat):Int))=true:=decide_eq_true q5;have q7:decide (48<=s[i].toNat)=true:=decide_eq_true e3)
 all_goals
  go_enter Tryz.func106,Tryz.ntmps106
  go_wp2_with fail
  go_quiet (fail)
  go_wp2_with (go_at_call 105;refine(HIX.out _).mono ?_;rintro e w1 ⟨rfl,rfl⟩)
  have HL2:=yb (HLY.out (nq+1));have c0':(w.drewN nq).cell? ⟨g,0,none⟩=some (.string s):=c0;have c1':(w.drewN nq).cell? ⟨g,1,none⟩=some (.int .i64 i):=c1;have hdd:(w.drewN nq).drew=w.drewN (nq+1):=rfl;rw[<-hdd]at HL2;obtain⟨W,hW⟩:∃W,w.drewN nq=W:=⟨_,rfl⟩;rw[hW]at c0' c1' HL2
  try rw[hW]
  have c0'':({heap:=W.heap,tape:=W.tape,drawn:=W.drawn+1,os:=W.os,output:=W.output}:World).cell? ⟨g,0,none⟩=some (.string s):=c0';have c1'':({heap:=W.heap,tape:=W.tape,drawn:=W.drawn+1,os:=W.os,output:=W.output}:World).cell? ⟨g,1,none⟩=some (.int .i64 i):=c1'
  go_still_tail 21,(by kernel_rfl)
  change wpList _ _ _ _ _ W.drew;have HBW:Hid (Below w.heap.size w W.drew):=by rw[<-hW];exact bdn (yd _ _) (nq+1)
  generalize W.drew=W2 at HL2 HBW⊢
  clear c0' c1' c0'' c1'' hW hdd
  go_wp2_with (go_at_call 168;refine HL2.out.mono ?_;rintro e w4 ⟨rfl,hS4⟩)
  go_ret;exact⟨rfl,hS4.ex,(HBW.out.mono (ys hg)).trans hS4.below⟩
theorem ztW(w:World)(g i j:Nat)(s:ByteArray)(l:List Tok)(hS:ScS w w g s i l)(hl:l.length<=65536)(hs:s.size<=65536)(hij:i<j)(hj:j<s.size)(h0:s[i]!.toNat=34)(hm:∀k,i<k->k<j->zsk s[k]! =true)(h1:s[j]!.toNat=34):
 Calls ya 106 #[.pointer (some ⟨g,0,none⟩)] w fun e w'=>e= .returned (.int .i64 0)/\ScS w w' g s (j+1) (l++[⟨4,0,zsb s (i+1) j,i⟩]):=by
 have HCR:Hid (∀n,Calls ya 167 #[.string s,.int .i64 i] (w.drewN n) fun e w'=>e= .returned (.tuple #[.string (zsb s (i+1) j),.int .i64 ((j:Int)+1),.int .i64 0])/\Below (w.drewN n).heap.size (w.drewN n) w'):=fun n=>zs7 s i j (w.drewN n) hs hij hj h0 hm h1
 have HLY:Hid (∀W,ScS W W g s i l->Calls ya 168 #[.pointer (some ⟨g,0,none⟩),.agg #[.int .i64 4,.int .i64 0,.string (zsb s (i+1) j),.int .i64 0],.int .i64 ((j:Int)+1)] W fun e w'=>e= .returned (.tuple #[])/\ScS W w' g s (j+1) (l++[⟨4,0,zsb s (i+1) j,i⟩])):=fun W h=>zf8 W g i (j+1) 0 0 s (zsb s (i+1) j) 4 l h hl
 obtain⟨c0,c1,hg⟩:=hS.cells;have hi:i<s.size:=by omega
 rw[zhg s i hi]at h0;have i0:(0:Int)<=(i:Int):=ye _;have i1:(i:Int)<(s.size:Int):=by omega
 have i2:i<4398046510976:=by omega
 have e1:(((s[i].toNat:Nat):Int)==34)=true:=by simp;omega
 have HSS:=yb hS;obtain⟨x,hx⟩:∃x,zsb s (i+1) j=x:=⟨_,rfl⟩;rw[hx]at HCR HLY;rw[hx];clear hm h0 h1 hx hs hl hS
 go_enter Tryz.func106,Tryz.ntmps106
 go_wp2_with fail
 go_quiet (fail)
 go_wp2_with fail
 have keep:∀(n:Nat) (w3:World),Below (w.drewN n).heap.size (w.drewN n) w3->w3.cell? ⟨g,0,none⟩=some (.string s)/\w3.cell? ⟨g,1,none⟩=some (.int .i64 i):=fun n w3 hb=>⟨zc hb hg c0,zc hb hg c1⟩
 have HK:=yb keep;clear keep
 go_region_held3 (fun w'=>w'.cell? ⟨g,0,none⟩=some (.string s)/\w'.cell? ⟨g,1,none⟩=some (.int .i64 i))
  (first|exact⟨c0,c1⟩|exact hc3)
  ((go_at_call 167;refine(HCR.out _).mono ?_;rintro e w3 ⟨rfl,hb3⟩;have hc3:=HK.out _ _ hb3))
 have HB3:Hid (Below w.heap.size w w3):=(bdn (yd _ _) _).trans hb3;clear hb3
 go_wp2_with (go_at_call 168;refine(HLY.out _ (HSS.out.call HB3.out).self).mono ?_;rintro e w4 ⟨rfl,hS4⟩)
 go_ret;exact⟨rfl,hS4.ex,(HB3.out.mono (ys hg)).trans hS4.below⟩
theorem zsz{s wd:ByteArray}{i:Nat}(hw:wd=wTrue\/wd=wFalse\/wd=wNull)(hi:i<s.size)(ha:zgm s i wd=true):s[i]! =116\/s[i]! =102\/s[i]! =110:=by
 obtain⟨r,hr⟩:=zsA ha
 have h1:(s.data.toList.drop i)[0]? =some s[i]! :=by
  rw[List.getElem?_drop,yu,yh (by rw[Array.length_toList];exact hi),zhg s i hi]
  rfl
 rw[hr]at h1
 rcases hw with rfl|rfl|rfl
 ·left;simp[wTrue]at h1;exact h1.symm
 ·right;left;simp[wFalse]at h1;exact h1.symm
 ·right;right;simp[wNull]at h1;exact h1.symm
theorem ztY(w:World)(g i:Nat)(s wd:ByteArray)(l:List Tok)(hS:ScS w w g s i l)(hl:l.length<=65536)(hs:s.size<=65536)(hi:i<s.size)(hw:wd=wTrue\/wd=wFalse\/wd=wNull)(ha:zgm s i wd=true):
 Calls ya 106 #[.pointer (some ⟨g,0,none⟩)] w fun e w'=>e= .returned (.int .i64 0)/\ScS w w' g s (i+wd.size) (l++[⟨2,0,wd,i⟩]):=by
 have HWD:Hid (∀n,Calls ya 170 #[.pointer (some ⟨g,0,none⟩)] (w.drewN n) fun e w'=>e= .returned (.bool true)/\ScS (w.drewN n) w' g s (i+wd.size) (l++[⟨2,0,wd,i⟩])):=fun n=>zt9 (w.drewN n) g i s wd l (hS.now n) hl hs hi hw ha
 have hf:=zsz hw hi ha;obtain⟨c0,c1,hg⟩:=hS.cells;have hmk:zsj s[i]! =false:=by rcases hf with h|h|h<;>rw[h]<;>decide
 rw[zhg s i hi]at hf hmk;have hb:s[i].toNat=116\/s[i].toNat=102\/s[i].toNat=110:=by rcases hf with h|h|h<;>rw[h]<;>decide
 have HIX:Hid (∀W,Calls ya 105 #[.string ⟨#[123,125,91,93,58,44]⟩,.int .u8 (s[i].toNat:Int)] W fun e w'=>e= .returned (.int .i64 (yf [123,125,91,93,58,44] s[i]))/\w'=W):=fun W=>(strings_IndexByte _ _ W).mono (fun e w' h=>⟨by rw[h.1,zpu],h.2⟩)
 have hix:=zsX s[i];rw[hmk]at hix;have hix2:¬(0<=yf [123,125,91,93,58,44] s[i]):=of_decide_eq_false hix;obtain⟨x,hx⟩:∃x,yf [123,125,91,93,58,44] s[i]=x:=⟨_,rfl⟩;rw[hx]at HIX hix hix2;have i0:(0:Int)<=(i:Int):=ye _;have i1:(i:Int)<(s.size:Int):=by omega
 have i2:i<4398046510976:=by omega
 have e1:(((s[i].toNat:Nat):Int)==34)=false:=by simp;omega
 have e2:(((s[i].toNat:Nat):Int)==45)=false:=by simp;omega
 have q1:¬(s[i].toNat<=57):=by omega
 have q2:¬(((s[i].toNat:Nat):Int)<=57):=by omega
 have q3:decide (((s[i].toNat:Nat):Int)<=57)=false:=decide_eq_false q2;have q4:decide (s[i].toNat<=57)=false:=decide_eq_false q1;have q5:((48:Int)<=((s[i].toNat:Nat):Int)):=by omega
 have q6:decide ((48:Int)<=((s[i].toNat:Nat):Int))=true:=decide_eq_true q5;have q8:48<=s[i].toNat:=by omega
 have q7:decide (48<=s[i].toNat)=true:=decide_eq_true q8;have hlt:x<0:=by omega
 clear hf hmk hb hx hs hl hS ha
 go_enter Tryz.func106,Tryz.ntmps106
 go_wp2_with fail
 go_quiet (fail)
 go_wp2_with (first
  |(go_at_call 105;refine(HIX.out _).mono ?_;rintro e w1 ⟨rfl,rfl⟩)
  |(go_at_call 170;refine(HWD.out _).mono ?_;rintro e w4 ⟨rfl,hS4⟩))
 go_ret;exact⟨rfl,hS4.ex,(bdn (yd _ _) _).trans hS4.below⟩
theorem zt4{k:IntKind}{a b:Int}(h:a=b):Ending.returned (.int k a)= .returned (.int k b):=by rw[h]
theorem zt7(s:ByteArray)(i:Nat)(w:World)(hs:s.size<=65536)(hi:i+1<s.size)(h1:49<=s[i].toNat)(h2:s[i].toNat<=57)(h3:s[i+1].toNat=125):
 Calls ya 197 #[.string s,.int .i64 (i:Int)] w fun e w'=>e= .returned (.int .i64 ((i:Int)+1))/\w'=w:=by
 have i0:(0:Int)<=(i:Int):=ye _
 go_enter Tryz.func197,Tryz.ntmps197
 go_wp2_with fail
 have HI:Hid (∀k,k=i+1->(h:k<s.size)->s[k].toNat=125):=fun k e h=>by subst e;exact h3
 go_loopw [1] (fun a wr=>∃k:Nat,k<s.size/\(k=i\/k=i+1)/\a= .int .i64 (k:Int)/\w=wr) (fun a _=>(s.size-(intOf a).toNat))
 case atStart=>exact⟨i,by omega,.inl rfl,rfl,rfl⟩
 case round=>
  obtain⟨k,hk,hki,rfl,rfl⟩:=hrel;have k0:(0:Int)<=(k:Int):=ye _;have k1:(k:Int)<(s.size:Int):=by omega
  by_cases he:k=i
  ·subst he;have q1:((48:Int)<=((s[k].toNat:Nat):Int)):=by omega
   have q2:(((s[k].toNat:Nat):Int)<=57):=by omega
   have q3:decide ((48:Int)<=((s[k].toNat:Nat):Int))=true:=decide_eq_true q1;have q4:decide (((s[k].toNat:Nat):Int)<=57)=true:=decide_eq_true q2;have q5:48<=s[k].toNat:=by omega
   clear h3
   go_wp2_with fail
   go_roundw
   case rel=>exact⟨k+1,hi,.inr rfl,by go_num,by trivial⟩
   case measure=>simp[intOf];omega
  ·have hk2:k=i+1:=by omega
   have q0:=HI.out k hk2 hk;have q1:((48:Int)<=((s[k].toNat:Nat):Int)):=by omega
   have q2:¬(((s[k].toNat:Nat):Int)<=57):=by omega
   have q3:decide ((48:Int)<=((s[k].toNat:Nat):Int))=true:=decide_eq_true q1;have q4:decide (((s[k].toNat:Nat):Int)<=57)=false:=decide_eq_false q2;have q5:48<=s[k].toNat:=by omega
   have q6:¬s[k].toNat<=57:=by omega
   have HK2:=yb hk2;clear h3 q0 h1 h2 hk2 hki he hi
   go_wp2_with fail
   go_ret;exact⟨zt4 (by have:=HK2.out;omega),rfl⟩
theorem ztK(s:ByteArray)(w:World)(hs:s.size=1)(h1:49<=s[0].toNat)(h2:s[0].toNat<=57):
 Calls ya 198 #[.string s] w fun e w'=>e= .returned (.tuple #[.int .i64 ((s[0].toNat:Int)-48),.bool true])/\w'=w:=by
 obtain⟨d,hd⟩:∃d,s[0]=d:=⟨_,rfl⟩;rw[hd]at h1 h2;rw[hd];have HD:Hid (∀k,k=0->(h:k<s.size)->s[k]=d):=fun k e h=>by subst e;exact hd
 have hlt:=d.toNat_lt;clear hd
 go_enter Tryz.func198,Tryz.ntmps198
 go_wp2_with fail
 go_loopw [4,8] (fun a b wr=>((b= .int .i64 0/\a= .int .i64 0)\/(b= .int .i64 1/\a= .int .i64 ((d.toNat:Int)-48)))/\w=wr) (fun _ b _=>(1-(intOf b).toNat))
 case atStart=>exact⟨.inl ⟨rfl,rfl⟩,rfl⟩
 case round=>
  obtain⟨hrel,rfl⟩:=hrel
  rcases hrel with⟨rfl,rfl⟩|⟨rfl,rfl⟩
  ·have l1:(0:Int)<(s.size:Int):=by omega
   have l2:0<s.size:=by omega
   have hd:=HD.out 0 rfl l2
   have hw:IntKind.u8.wrap ((d.toNat:Int)-48)=(d.toNat:Int)-48:=by
    unfold IntKind.wrap;simp[IntKind.bits,IntKind.signed]
    try omega
   go_wp2_with fail
   exact⟨⟨.inr ⟨rfl,rfl⟩,trivial⟩,by simp[intOf]⟩
  ·have l1:(s.size:Int)=1:=by omega
   go_wp2_with fail
   refine bodyPost_ret (v:= .tuple #[.int .i64 ((d.toNat:Int)-48),.bool true]) (by simp[results,Tryz.results198,go_sem]) rfl ⟨rfl,rfl⟩
theorem ztO(s:ByteArray)(i:Nat)(h:i<s.size):(s.extract i (i+1)).size=1/\∀h',(s.extract i (i+1))[0]'h'=s[i]:=by
 refine⟨by rw[ByteArray.size_extract];omega,fun h'=> ?_⟩
 simp[ByteArray.getElem_extract]
theorem zsY(s:ByteArray)(i:Nat)(w:World)(hs:s.size<=65536)(hi:i+1<s.size)(h1:49<=s[i].toNat)(h2:s[i].toNat<=57)(h3:s[i+1].toNat=125):
 Calls ya 169 #[.string s,.int .i64 (i:Int)] w fun e w'=>e= .returned (.tuple #[.int .i64 ((s[i].toNat:Int)-48),.int .i64 ((i:Int)+1),.int .i64 0])/\w'=w:=by
 have HSP:Hid (∀W,Calls ya 197 #[.string s,.int .i64 (i:Int)] W fun e w'=>e= .returned (.int .i64 ((i:Int)+1))/\w'=W):=fun W=>zt7 s i W hs hi h1 h2 h3
 obtain⟨z1,z2⟩:=ztO s i (by omega)
 have HVA:Hid (∀W,Calls ya 198 #[.string (s.extract i (i+1))] W fun e w'=>e= .returned (.tuple #[.int .i64 ((s[i].toNat:Int)-48),.bool true])/\w'=W):=fun W=>by
  have:=ztK (s.extract i (i+1)) W z1 (by rw[z2];exact h1) (by rw[z2];exact h2)
  rw[z2]at this;exact this
 have hor:∀x:UInt8,x.toNat=125->(IntKind.u8.wrap ((125:Int))=125):=fun _ _=>rfl
 obtain⟨k,hk⟩:∃k,i+1=k:=⟨_,rfl⟩;rw[hk]at HVA;have i0:(0:Int)<=(i:Int):=ye _;have i1:(i:Int)<(s.size:Int):=by omega
 have e1:(((s[i].toNat:Nat):Int)==45)=false:=by simp;omega
 have e2:(((s[i].toNat:Nat):Int)==48)=false:=by simp;omega
 have i2:(i:Int)+1<(s.size:Int):=by omega
 clear z1 z2 hor
 go_enter Tryz.func169,Tryz.ntmps169
 go_upto_region 7 with(go_at_call 197;(with_reducible refine(HSP.out _).mono ?_);rintro e w1 ⟨rfl,rfl⟩)
 have e3:(((i:Int)+1)==(i:Int))=false:=by(rw[beq_eq_false_iff_ne];omega)
 have e5:(i:Int)+1-(i:Int)=1:=by omega
 have hk':k<s.size:=by omega
 have gk:s[k].toNat=125:=by subst hk;exact h3
 have q1:(((s[k].toNat:Nat):Int)==46)=false:=by rw[gk];rfl
 have q2:¬((s[k].toNat:Nat):Int)=46:=by omega
 have q3:(bits BinOp.or IntKind.u8 ((s[k].toNat:Nat):Int) 32==101)=false:=by rw[gk];rfl
 clear gk h3 h1 h2
 go_wp2_with (go_at_call 198;(with_reducible refine(HVA.out _).mono ?_);rintro e w2 ⟨rfl,rfl⟩)
 refine bodyPost_ret (v:= .tuple #[.int .i64 ((s[i].toNat:Int)-48),.int .i64 ((i:Int)+1),.int .i64 0]) (by simp[results,Tryz.results169,go_sem]) rfl ⟨rfl,rfl⟩
theorem zuh(w:World)(g i:Nat)(s:ByteArray)(l:List Tok)(hS:ScS w w g s i l)(hl:l.length<=65536)(hs:s.size<=65536)(hi:i+1<s.size)(h1:49<=s[i]!.toNat)(h2:s[i]!.toNat<=57)(h3:s[i+1]!.toNat=125):
 Calls ya 106 #[.pointer (some ⟨g,0,none⟩)] w fun e w'=>e= .returned (.int .i64 0)/\ScS w w' g s (i+1) (l++[⟨3,(s[i]!.toNat:Int)-48,⟨#[]⟩,i⟩]):=by
 rw[zhg s i (by omega)]at h1 h2⊢
 rw[zhg s (i+1) hi]at h3;obtain⟨D,hD⟩:∃D:Nat,(s[i].toNat:Int)-48=(D:Int):=⟨s[i].toNat-48,by omega⟩
 have HCR:Hid (∀W,Calls ya 169 #[.string s,.int .i64 i] W fun e w'=>e= .returned (.tuple #[.int .i64 (D:Int),.int .i64 ((i:Int)+1),.int .i64 0])/\w'=W):=fun W=>hD▸zsY s i W hs hi h1 h2 h3
 have HLY:Hid (∀W,ScS W W g s i l->Calls ya 168 #[.pointer (some ⟨g,0,none⟩),.agg #[.int .i64 3,.int .i64 (D:Int),.string ⟨#[]⟩,.int .i64 0],.int .i64 ((i:Int)+1)] W fun e w'=>e= .returned (.tuple #[])/\ScS W w' g s (i+1) (l++[⟨3,(D:Int),⟨#[]⟩,i⟩])):=fun W h=>zf8 W g i (i+1) D 0 s ⟨#[]⟩ 3 l h hl
 rw[hD];clear hD;obtain⟨c0,c1,hg⟩:=hS.cells;have i0:(0:Int)<=(i:Int):=ye _;have i1:(i:Int)<(s.size:Int):=by omega
 have i2:i<4398046510976:=by omega
 have e1:(((s[i].toNat:Nat):Int)==34)=false:=by simp;omega
 have e2:(((s[i].toNat:Nat):Int)==45)=false:=by simp;omega
 have q1:((48:Int)<=((s[i].toNat:Nat):Int)):=by omega
 have q2:(((s[i].toNat:Nat):Int)<=57):=by omega
 have q3:decide ((48:Int)<=((s[i].toNat:Nat):Int))=true:=decide_eq_true q1;have q4:decide (((s[i].toNat:Nat):Int)<=57)=true:=decide_eq_true q2;have q5:48<=s[i].toNat:=by omega
 have HSS:=yb hS;clear hs hl hS h1 h3
 go_enter Tryz.func106,Tryz.ntmps106
 go_wp2_with fail
 go_quiet (fail)
 go_upto_region 9 with fail
 go_quiet ((go_at_call 169;exact(HCR.out _).mono (fun e w' h=>⟨h.1,_,h.2⟩)))
 go_upto_region 12 with fail
 go_wp2_with (go_at_call 168;(first|(refine(HLY.out _ (HSS.out.now _)).mono ?_)|(refine(HLY.out _ ((HSS.out.now _).now _)).mono ?_));rintro e w4 ⟨rfl,hS4⟩)
 go_ret;exact⟨rfl,hS4.ex,(bdn (yd _ _) _).trans hS4.below⟩
theorem zul{s:ByteArray}{i:Nat}{l:List Tok}(h:Toks s i l):i<=s.size:=by
 induction h with
 |done=>exact yc _
 |space h=>omega
 |mark h=>omega
 |text h=>omega
 |num h=>omega
 |word _ h=>omega
theorem zt8{s:ByteArray}{i:Nat}{l:List Tok}(h:Toks s i l):l.length+i<=s.size:=by
 induction h with
 |done=>simp
 |space h _ _ ih=>omega
 |mark h _ _ ih=>rw[yy];omega
 |text h _ _ _ _ _ ih=>rw[yy];omega
 |num h _ _ _ _ ih=>rw[yy];omega
 | @word i w l hw hi ha ht ih =>
   have:1<=w.size:=by rcases hw with rfl|rfl|rfl<;>decide
   rw[yy];omega
def TksR(w:World)(l:List Tok)(e:Ending)(w':World):Prop:=∃p n c,e= .returned (.tuple #[.slice p n c,.int .i64 0,.int .i64 0])/\Own w' w.heap.size 116 zhK 4 (.slice p n c) l/\Below w.heap.size w w'
theorem ztr(w:World)(s:ByteArray)(l:List Tok)(hs:s.size<=65536)(ht:Toks s 0 l):Calls ya 57 #[.string s] w (TksR w l):=by
 have d1:¬(65536<(s.size:Int)):=by omega
 have d2:¬(65536<s.size):=by omega
 have HT:=yb ht;have hA:ScAt (w.alloc (.cells #[.string s,.int .i64 0,.slice none 0 0] 179)) w.heap.size s 0 (.slice none 0 0):=za rfl;have hS0:ScS (w.alloc (.cells #[.string s,.int .i64 0,.slice none 0 0] 179)) (w.alloc (.cells #[.string s,.int .i64 0,.slice none 0 0] 179)) w.heap.size s 0 []:=⟨⟨_,hA,Own.nil _ _ _⟩,yd _ _⟩;have hB0:Below w.heap.size w (w.alloc (.cells #[.string s,.int .i64 0,.slice none 0 0] 179)):=(yd _ _).alloc (yc _) _;clear ht hA
 go_enter Tryz.func57,Tryz.ntmps57
 go_wp2_with fail
 obtain⟨g,hg⟩:∃g,w.heap.size=g:=⟨_,rfl⟩;obtain⟨W0,hW0⟩:∃W,w.alloc (.cells #[.string s,.int .i64 0,.slice none 0 0] 179)=W:=⟨_,rfl⟩;rw[hW0]at hS0 hB0;rw[hg]at hS0
 try rw[hW0]
 try rw[hg]
 have HS0:=yb hS0;have HB0:=yb hB0;have HG:=yb hg;clear hS0 hB0 hW0 hg
 go_loopg [6] s.size (fun gk o wr=>∃i l1 l2,gk=s.size-i/\Hid (Toks s i l2/\l=l1++l2/\ScS W0 wr g s i l1/\l1.length<=i))
 case atStart=>exact⟨0,[],l,rfl,HT.out,rfl,HS0.out,yc _⟩
 case round=>
  obtain⟨i,l1,l2,hgk,hH⟩:=hrel;obtain⟨htk,hll,hsc,hlen⟩:=hH.out;clear hH;obtain⟨c0,c1,hgw⟩:=hsc.cells;have hle:=zul htk;have HGK:=yb hgk;have HLL:=yb hll;have HSC:=yb hsc;have HLEN:=yb hlen;clear hgk hll hlen;have i0:(0:Int)<=(i:Int):=ye _;by_cases hi:i<s.size
  ·have i1:(i:Int)<(s.size:Int):=by omega
   have i2:i<4398046510976:=by omega
   have HIX:Hid (∀W,Calls ya 105 #[.string ⟨#[32,9,10,13]⟩,.int .u8 (s[i].toNat:Int)] W fun e w'=>e= .returned (.int .i64 (yf [32,9,10,13] s[i]))/\w'=W):=fun W=>(strings_IndexByte _ _ W).mono (fun e w' h=>⟨by rw[h.1,zpu],h.2⟩)
   have hix:=zt6 s[i];by_cases hsp:zsh s[i]! =true
   ·have ht2:Toks s (i+1) l2:=by
     cases htk with
     |done=>omega
     |space _ _ h=>exact h
     |mark _ h=>exfalso;revert h hsp;unfold zsh zsj;simp only[yw,decide_eq_true_eq];omega
     |text _ _ h=>exfalso;revert hsp;unfold zsh;simp only[yw,decide_eq_true_eq];omega
     |num _ h1 h2=>exfalso;revert hsp;unfold zsh;simp only[yw,decide_eq_true_eq];omega
     |word h1 h2 h3=>exfalso;have:=zsz h1 h2 h3;revert hsp;rcases this with h|h|h<;>rw[h]<;>decide
    have HT2:=yb ht2;rw[zhg s i hi]at hsp;rw[hsp]at hix;have hix2:0<=yf [32,9,10,13] s[i]:=of_decide_eq_true hix;obtain⟨x,hx⟩:∃x,yf [32,9,10,13] s[i]=x:=⟨_,rfl⟩;rw[hx]at HIX hix hix2;obtain⟨v,hv1,hv2⟩:=hsc.ex;have z1:=hv1.frozen 1;have hset:=hv1.set1 (i+1);have hgr:=zz wr g 1 (.int .i64 ((i+1:Nat):Int));have hsc2:ScS W0 (wr.setCell ⟨g,1,none⟩ (.int .i64 ((i+1:Nat):Int))) g s (i+1) l1:=⟨⟨v,hset,hv2.same (fun k e=>hgr.block k (hv2.lt k e).2 (fun e2=>by cases e2;have:=(hv2.lt g e).1;omega))⟩,hsc.below.grown hgr (by omega) (fun k e=>by cases e;exact yc _)⟩
    have ec:((i+1:Nat):Int)=(i:Int)+1:=by omega
    rw[ec]at hsc2;have HS2:=yb hsc2;clear hsp hx htk ht2 hset hgr hsc hsc2 hv1 hv2 ec
    go_wp2_with (go_at_call 105;refine(HIX.out _).mono ?_;rintro e w1 ⟨rfl,rfl⟩)
    go_roundg (s.size-(i+1))
    case measure=>have:=HGK.out;omega
    case rel=>exact⟨i+1,l1,l2,rfl,HT2.out,HLL.out,HS2.out,by have:=HLEN.out;omega⟩
   ·have ht2:∃(t:Tok) (nx:Nat) (l3:List Tok),l2=t::l3/\i<nx/\Toks s nx l3/\(∀W,ScS W W g s i l1->Calls ya 106 #[.pointer (some ⟨g,0,none⟩)] W fun e w'=>e= .returned (.int .i64 0)/\ScS W w' g s nx (l1++[t])):=by
     have hl1:l1.length<=65536:=by have:=HLEN.out;omega
     cases htk with
     |done=>omega
     |space _ h _=>exact absurd h hsp
     |mark h1 h2 h3=>exact⟨_,i+1,_,rfl,by omega,h3,fun W hW=>ztV W g i s l1 hW hl1 hs h1 h2⟩
     | @text _ j _ h1 h2 h3 h4 h5 h6=>exact⟨_,j+1,_,rfl,by omega,h6,fun W hW=>ztW W g i j s l1 hW hl1 hs h1 h2 h3 h4 h5⟩
     |num h1 h2 h3 h4 h5=>exact⟨_,i+1,_,rfl,by omega,h5,fun W hW=>zuh W g i s l1 hW hl1 hs h1 h2 h3 h4⟩
     | @word _ wd _ h1 h2 h3 h4 =>
       have:1<=wd.size:=by rcases h1 with rfl|rfl|rfl<;>decide
       exact⟨_,i+wd.size,_,rfl,by omega,h4,fun W hW=>ztY W g i s wd l1 hW hl1 hs h2 h1 h3⟩
    obtain⟨t,nx,l3,hl2,hnx,ht3,hone⟩:=ht2;have HON:=yb hone;have HL2:Hid (l=(l1++[t])++l3):=by unfold Hid;rw[HLL.out,hl2];simp
    have HT3:=yb ht3;have hsp2:zsh s[i]=false:=by rw[<-zhg s i hi];simpa using hsp
    rw[hsp2]at hix;have hix2:¬(0<=yf [32,9,10,13] s[i]):=of_decide_eq_false hix;obtain⟨x,hx⟩:∃x,yf [32,9,10,13] s[i]=x:=⟨_,rfl⟩;rw[hx]at HIX hix hix2;have hlt:x<0:=by omega
    clear hsp hsp2 hx htk hl2 ht3 hone hsc
    go_wp2_with (first
     |(go_at_call 105;refine(HIX.out _).mono ?_;rintro e w1 ⟨rfl,rfl⟩)
     |(go_at_call 106;refine(HON.out _ HSC.out.self).mono ?_;rintro e w2 ⟨rfl,hS2⟩))
    go_roundg (s.size-nx)
    case measure=>have:=HGK.out;omega
    case rel=>exact⟨nx,l1++[t],l3,rfl,HT3.out,HL2.out,⟨hS2.ex,HSC.out.below.trans hS2.below⟩,by have:=HLEN.out;simp;omega⟩
  ·obtain rfl:i=s.size:=by omega
   have hl2:l2=[]:=List.eq_nil_of_length_eq_zero (by have:=zt8 htk;omega)
   have HL1:Hid (l=l1):=by unfold Hid;rw[HLL.out,hl2,List.append_nil]
   obtain⟨v,hv1,hv2⟩:=hsc.ex;obtain⟨p,n,c,rfl⟩:∃p n c,v=Value.slice p n c:=by obtain⟨p,c,hv,_,_⟩:=hv2.len;exact⟨p,_,c,hv⟩
   have c2:=hv1.cell 2 rfl;have HV:=yb hv2;have HBW:=yb hsc.below;clear htk hl2 hv1 hv2 hsc
   go_wp2_with fail
   go_ret3
   rw[HL1.out];exact⟨p,n,c,rfl,HV.out.mono (by have:=HG.out;omega),by have h:=HBW.out;rw[<-HG.out]at h;exact HB0.out.trans h⟩
theorem ztp(N:Nat):∀(t:JV) (r:RV) (most:Nat) (w:World),SizeOf.sizeOf t<=N->most<=1000000->TreeOf w w.heap.size t r->t.Ok->
 Calls ya 31 #[r.val,.int .i64 (most:Int)] w fun e w'=>∃c:Nat,e= .returned (.int .i64 (c:Int))/\(c<=most+140737488355328/\c<=zr t/\(c<=most->c=zr t))/\Below w.heap.size w w':=by
 induction N with
 |zero=>intro t r most w hN;cases t;simp at hN
 | succ N ih =>
   intro t r most w hN hmost ht ot;cases ht with
   | @mk _ l m rs rms hl el hcl hm em hcn hcm=>
   obtain⟨k,n,s,pl,nl,cl,pm,nm,cm⟩:=r;cases ot with
   |mk _ _ hss bl bm okl oks okm=>
   dsimp only[RV.val]at*;have eL:=zi hl;have eM:=zi hm
   have HT:Hid (∀(i:Nat) t q,l[i]? =some t->rs[i]? =some q->∀W,Below w.heap.size w W->∀(g:Nat) (k:Int),k=((most-g:Nat):Int)->Calls ya 31 #[q.val,.int .i64 k] W fun e w'=>∃c:Nat,e= .returned (.int .i64 (c:Int))/\(c<=(most-g)+140737488355328/\c<=zr t/\(c<=most-g->c=zr t))/\Below W.heap.size W w'):=
    fun i t q h1 h2 W hb g k' hk=>by subst hk;exact ih t q (most-g) W (by have:=JV.lt_l (k:=k) (n:=n) (s:=s) (m:=m) h1;omega) (by omega) ((hcl i t q h1 h2).under hb hb.size) (okl i t h1)
   have HS:Hid (∀(i:Nat) p q,m[i]? =some p->rms[i]? =some q->∀W,Below w.heap.size w W->∀(g:Nat) (k:Int),k=((most-g:Nat):Int)->Calls ya 31 #[q.v.val,.int .i64 k] W fun e w'=>∃c:Nat,e= .returned (.int .i64 (c:Int))/\(c<=(most-g)+140737488355328/\c<=zr p.2/\(c<=most-g->c=zr p.2))/\Below W.heap.size W w'):=
    fun i p q h1 h2 W hb g k' hk=>by subst hk;exact ih p.2 q.v (most-g) W (by have:=JV.lt_m (k:=k) (n:=n) (s:=s) (l:=l) h1;omega) (by omega) ((hcm i p q h1 h2).under hb hb.size) (okm i p h1)
   have HFT:Hid (zr (.mk k n s l m)=s.size+zbN l+zcg m):=by unfold Hid;rw[zr]
   have HL:=yb hl;have HM:=yb hm;have E1:Hid (l.length=nl/\rs.length=nl):=⟨by omega,by omega⟩
   have E2:Hid (m.length=nm/\rms.length=nm):=⟨by omega,by omega⟩
   have hnl:nl<=1759218604390:=by omega
   have hnm:nm<=1466015503658:=by omega
   have hst:s.size<=140737488355328:=by omega
   have hst0:(0:Int)<=((s.size:Nat):Int):=ye _;obtain⟨R,hR⟩:∃R,zr (.mk k n s l m)=R:=⟨_,rfl⟩;rw[hR]at HFT⊢;clear hR;have hA0:VAt (w.alloc (.cells #[.int .i64 k,.int .i64 n,.string s,.slice pl nl cl,.slice pm nm cm] 25)) w.heap.size ⟨k,n,s,pl,nl,cl,pm,nm,cm⟩:=za rfl;have hB0:Below w.heap.size w (w.alloc (.cells #[.int .i64 k,.int .i64 n,.string s,.slice pl nl cl,.slice pm nm cm] 25)):=(yd _ _).alloc (yc _) _;clear ih hcl hcn hcm hl hm okl oks okm el em bl bm eL eM hN
   go_enter Tryz.func31,Tryz.ntmps31
   go_upto_region 1 with fail
   obtain⟨W0,hW0⟩:∃W0,(w.alloc (.cells #[.int .i64 k,.int .i64 n,.string s,.slice pl nl cl,.slice pm nm cm] 25))=W0:=⟨_,rfl⟩;rw[hW0]at hA0 hB0⊢;clear hW0;have hz:=hA0.lt;have c2:=hA0.cell 2 rfl;have c3:=hA0.cell 3 rfl;have c4:=hA0.cell 4 rfl;dsimp only at c2 c3 c4;clear hA0
   go_wp2_with fail
   go_loopw [5,6] (fun a i wr=>∃(g j:Nat),j<=nl/\g<=most+140737488355328/\Hid (g<=s.size+zbN (l.take j)/\(g<=most->g=s.size+zbN (l.take j)))/\a= .int .i64 (g:Int)/\i= .int .i64 j/\Below W0.heap.size W0 wr) (fun _ i _=>nl-(intOf i).toNat)
   case atStart=>exact⟨s.size,0,yt _,by omega,⟨by rw[yz];exact Nat.le_add_right _ _,fun _=>by(rw[yz,zbN];try omega)⟩,rfl,rfl,yd _ _⟩
   case round=>
    obtain⟨g,j,hj,hgb,HG,rfl,rfl,hbr⟩:=hrel;have c3:=zc hbr hz c3;have hbw:Below w.heap.size w wr:=hB0.trans (hbr.mono hB0.size);obtain⟨wo,rfl⟩:∃wo:World,wo=wr:=⟨_,rfl⟩;have hg0:(0:Int)<=(g:Int):=ye _;by_cases hgo:j<nl/\g<=most
    ·obtain⟨hlt,hgm⟩:=hgo;obtain⟨tx,htx⟩:∃x,l[j]? =some x:=⟨_,yh (by have:=E1.out;omega)⟩
     obtain⟨x,hx⟩:∃x,rs[j]? =some x:=⟨_,yh (by have:=E1.out;omega)⟩
     obtain⟨b1,o1,rfl,hb1,hc1⟩:=zq (HL.out.below hbw (yc _)) hx;have f0:=hc1 0 _ rfl;have f1:=hc1 1 _ rfl;have f2:=hc1 2 _ rfl;have f3:=hc1 3 _ rfl;have f4:=hc1 4 _ rfl;rw[yu]at f0;have HC:=yb (HT.out j tx x htx hx);have hk0:(0:Int)<=(j:Int):=ye _;have hk1:(j:Int)<(nl:Int):=by omega
     have hgi:(g:Int)<=(most:Int):=by omega
     have hdg:decide ((g:Int)<=(most:Int))=true:=decide_eq_true hgi;have hzr:W0.heap.size<=wo.heap.size:=hbr.size;have HBR:=yb hbr;have HTK:=yb (zpR htx);clear hc1 htx hx hbr
     go_wp2_with (go_at_call 31;(with_reducible refine(HC.out _ hbw g _ ?num).mono ?_);(case num=>(first|omega|(rw[IntKind.wrap_i64];omega)));rintro e w1 ⟨c,rfl,⟨hc1',hc2',hc3'⟩,hb1'⟩;(have hcc:(0:Int)<=(c:Int):=ye _))
     go_roundw
     case rel=>
      obtain⟨hG1,hG2⟩:=HG.out;exact⟨g+c,j+1,by omega,by omega,⟨by rw[HTK.out];omega,fun h=>by rw[HTK.out,hG2 (by omega),hc3' (by omega)];omega⟩,by go_num,by go_num,HBR.out.trans (hb1'.mono (by omega))⟩
     case measure=>simp[intOf];omega
    ·have hz1:W0.heap.size<=wo.heap.size:=hbr.size;have c4:=zc hbr hz c4
     have HG1:Hid (g<=s.size+zbN l/\(g<=most->g=s.size+zbN l)):=by
      obtain⟨hG1,hG2⟩:=HG.out;have:=zmM l j;refine⟨by omega,fun h=> ?_⟩
      have hjn:j=nl:=by omega
      have hln:=E1.out.1;rw[hG2 h,hjn,<-hln,List.take_length]
     clear HT HL E1 hbr HG;by_cases p1:j<nl
     all_goals (try(have hgm:¬g<=most:=fun h=>hgo ⟨p1,h⟩))
     all_goals (try(have hdg:decide ((g:Int)<=(most:Int))=false:=decide_eq_false (by omega)))
     all_goals clear hgo
     all_goals go_wp2_with fail
     all_goals clear c3
     all_goals (
     go_loopw [5,7] (fun a i wq=>∃(g j:Nat),j<=nm/\g<=most+140737488355328/\Hid (g<=s.size+zbN l+zcg (m.take j)/\(g<=most->g=s.size+zbN l+zcg (m.take j)))/\a= .int .i64 (g:Int)/\i= .int .i64 j/\Below wo.heap.size wo wq) (fun _ i _=>nm-(intOf i).toNat)
     case atStart=>exact⟨g,0,yt _,hgb,⟨by rw[yz,zcg];exact HG1.out.1,fun h=>by rw[yz,zcg];exact HG1.out.2 h⟩,rfl,rfl,yd _ _⟩
     case round=>
      clear hgb hg0
      try clear hgm
      try clear hdg
      obtain⟨g,j,hj,hgb,HG,rfl,rfl,hbr⟩:=hrel;have hg0:(0:Int)<=(g:Int):=ye _;have hbw2:Below w.heap.size w wr:=hbw.trans (hbr.mono (by omega))
      have c4:=zc hbr (by omega) c4
      obtain⟨w3,rfl⟩:∃w3:World,w3=wr:=⟨_,rfl⟩;by_cases hgo:j<nm/\g<=most
      ·obtain⟨hlt,hgm⟩:=hgo;obtain⟨tx,htx⟩:∃x,m[j]? =some x:=⟨_,yh (by have:=E2.out;omega)⟩
       obtain⟨x,hx⟩:∃x,rms[j]? =some x:=⟨_,yh (by have:=E2.out;omega)⟩
       obtain⟨b1,o1,rfl,hb1,hc1⟩:=zq (HM.out.below hbw2 (yc _)) hx;have f0:=hc1 0 _ rfl;have f1:=hc1 1 _ rfl;have f2:=hc1 2 _ rfl;have f3:=hc1 3 _ rfl;have f4:=hc1 4 _ rfl;have f5:=hc1 5 _ rfl;rw[yu]at f0;have HC:=yb (HS.out j tx x htx hx);have hk0:(0:Int)<=(j:Int):=ye _;have hk1:(j:Int)<(nm:Int):=by omega
       have hgi:(g:Int)<=(most:Int):=by omega
       have hdg:decide ((g:Int)<=(most:Int))=true:=decide_eq_true hgi;have HBR:=yb hbr;have hzq:wo.heap.size<=w3.heap.size:=hbr.size;have HTK:=yb (zpS htx);clear hc1 htx hx hbr
       go_wp2_with (go_at_call 31;(with_reducible refine(HC.out _ hbw2 g _ ?num).mono ?_);(case num=>(first|omega|(rw[IntKind.wrap_i64];omega)));rintro e w1 ⟨c,rfl,⟨hc1',hc2',hc3'⟩,hb1'⟩;(have hcc:(0:Int)<=(c:Int):=ye _))
       go_roundw
       case rel=>
        obtain⟨hG1,hG2⟩:=HG.out;exact⟨g+c,j+1,by omega,by omega,⟨by rw[HTK.out];omega,fun h=>by rw[HTK.out,hG2 (by omega),hc3' (by omega)];omega⟩,by go_num,by go_num,HBR.out.trans (hb1'.mono (by omega))⟩
       case measure=>simp[intOf];omega
      ·have HG2:Hid (g<=R/\(g<=most->g=R)):=by
        obtain⟨hG1,hG2⟩:=HG.out;have:=zmN m j;unfold Hid;rw[HFT.out];refine⟨by omega,fun h=> ?_⟩
        have hjn:j=nm:=by omega
        have hln:=E2.out.1;rw[hG2 h,hjn,<-hln,List.take_length]
       by_cases p1:j<nm
       all_goals (try(have hgm:¬g<=most:=fun h=>hgo ⟨p1,h⟩))
       all_goals (try(have hdg:decide ((g:Int)<=(most:Int))=false:=decide_eq_false (by omega)))
       all_goals clear hgo
       all_goals go_wp2_with fail
       all_goals go_ret
       all_goals exact⟨g,rfl,⟨hgb,HG2.out.1,HG2.out.2⟩,hbw2⟩)
theorem ztP(t:JV)(r:RV)(name:ByteArray)(w:World)(B:Nat)(hBw:B<=w.heap.size)(ht:TreeOf w B t r)(ot:t.Ok):
 Calls ya 15 #[r.val,.string name] w fun e w'=>e= .returned (.bool (t.get name).isSome)/\Below w.heap.size w w':=by
 obtain⟨W0,hW0⟩:∃W0,w.alloc r.obj=W0:=⟨_,rfl⟩;have hA0:VAt W0 w.heap.size r:=by rw[<-hW0];exact za rfl
 have hB0:Below w.heap.size w W0:=by rw[<-hW0];exact(yd _ _).alloc (yc _) _
 have hw0:=hB0.size;have HC:=yb (ztb t r name W0 B (Nat.le_trans hBw hw0) (ht.under (hB0.mono hBw) (yc _)) ot);obtain⟨o,ho⟩:∃o,t.get name=o:=⟨_,rfl⟩;rw[ho]at HC;rw[ho];obtain⟨k,n,s,pl,nl,cl,pm,nm,cm⟩:=r;dsimp only[RV.val,RV.obj]at*;have HW:=yb hW0;have HB0:=yb hB0;clear hW0 hB0 ht ot ho
 go_enter Tryz.func15,Tryz.ntmps15
 go_upto_region 1 with fail
 rw[HW.out];clear HW;obtain⟨a0,a1,a2,a3,a4⟩:=hA0.cells5
 go_wp2_with (go_at_call 34;(with_reducible refine HC.out.mono ?_);rintro e w1 ⟨rv,bb,rfl,hbb,ht1,hb1⟩;(have HBB:=yb hbb);clear hbb;obtain⟨rk,rn,rS,rpl,rnl,rcl,rpm,rnm,rcm⟩:=rv)
 go_ret;exact⟨by rw[<-HBB.out];rfl,HB0.out.trans ((hb1.alloc hb1.size _).mono hw0)⟩
end
end Go.Proofs.YtemofofnkchmeaaGreatDoor
