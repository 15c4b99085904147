import Derived.Test.YtemofofnkchmeaaGreatDoorL02
import Derived.Test.YtemofofnkchmeaaGreatDoorProg
import Derived.WalkKit
import Derived.WalkSpells
import Derived.Lib.Hide
import Derived.Outline
set_option linter.unusedSimpArgs false
set_option linter.unusedVariables false
set_option maxRecDepth 200000
set_option maxHeartbeats 8000000
namespace Go.Proofs.YtemofofnkchmeaaGreatDoor
open _root_.Int renaming natCast_nonneg->ye
open _root_.Go.Lib renaming hid->yb
open _root_.Go.Proofs.Tryz renaming prog->ya
section
open Go Go.RowKit
def szN(b:Nat):Nat:=if b<128 then 1 else if b<194 then 0 else if b<224 then 2 else if b<240 then 3 else if b<245 then 4 else 0
def szP(b:Nat):Int:=if b<128 then b else if b<194 then 0 else if b<224 then b % 32 else if b<240 then b % 16 else if b<245 then b % 8 else 0
theorem zuH(b:Nat):szN b<=4:=by
 unfold szN
 repeat' split
 all_goals omega
theorem zt3{k l:IntKind}{a b c d:Int}(h:a=b)(h':c=d):Ending.returned (.tuple #[.int k a,.int l c])= .returned (.tuple #[.int k b,.int l d]):=by rw[h,h']
theorem ztJ(b:UInt8)(w:World):Calls ya 226 #[.int .u8 b.toNat] w fun e w'=>e= .returned (.tuple #[.int .i64 (szN b.toNat),.int .i32 (szP b.toNat)])/\w=w':=by
 have hb:(b.toNat:Int)<256:=by have:=b.toNat_lt;omega
 have h0:(0:Int)<=(b.toNat:Int):=ye _
 go_enter Tryz.func226,Tryz.ntmps226
 go_wp2_with fail
 all_goals go_ret2
 all_goals refine⟨zt3 ?_ ?_,rfl⟩
 all_goals (first|unfold szN|unfold szP)
 all_goals (repeat' split)
 all_goals omega
def zhv(p n:Int):Bool:=if n=3 then decide (2048<=p)&&(decide (p<55296)||decide (57343<p))else if n=4 then decide (65536<=p)&&decide (p<=1114111)else true
theorem zsm{a b:Bool}(h:a=b):Ending.returned (.bool a)= .returned (.bool b):=by rw[h]
theorem ztI(p n:Int)(w:World):Calls ya 227 #[.int .i32 p,.int .i64 n] w fun e w'=>e= .returned (.bool (zhv p n))/\w=w':=by
 by_cases h3:n=3
 ·subst h3;by_cases a:2048<=p<;>by_cases b:p<55296<;>by_cases c:57343<p
  all_goals first|(exfalso;omega)|skip
  all_goals go_enter Tryz.func227,Tryz.ntmps227
  all_goals go_wp2_with fail
  all_goals go_ret
  all_goals refine⟨zsm ?_,rfl⟩
  all_goals simp[zhv]<;>omega
 ·by_cases h4:n=4
  ·subst h4;clear h3;by_cases a:65536<=p<;>by_cases b:p<=1114111
   all_goals first|(exfalso;omega)|skip
   all_goals go_enter Tryz.func227,Tryz.ntmps227
   all_goals go_wp2_with fail
   all_goals go_ret
   all_goals refine⟨zsm ?_,rfl⟩
   all_goals simp[zhv]<;>omega
  ·have q3:(n==3)=false:=by simpa using h3
   have q4:(n==4)=false:=by simpa using h4
   have hf:Hid (zhv p n=true):=by unfold Hid zhv;rw[if_neg h3,if_neg h4]
   clear h3 h4
   go_enter Tryz.func227,Tryz.ntmps227
   go_wp2_with fail
   go_ret;exact⟨zsm hf.out.symm,rfl⟩
def zua(p:Int)(b:UInt8):Int:=bits BinOp.or IntKind.i32 (wrap32 (p*64)) ((b.toNat:Int) % 64)
def zdY(s:ByteArray)(i:Nat)(p0:Int):Nat->Option Int
 |0=>some p0
 | k + 1 => match zdY s i p0 k with
   |none=>none
   |some p=>if s[i+(k+1)]!.toNat<128\/191<s[i+(k+1)]!.toNat then none else some (zua p s[i+(k+1)]!)
def zng (s : ByteArray) (i : Nat) : Int × Nat := if i < s.size then
    if szN s[i]!.toNat=0\/s.size<i+szN s[i]!.toNat then(0,0)else
    match zdY s i (szP s[i]!.toNat) (szN s[i]!.toNat-1)with
    |none=>(0,0)
    |some p=>if zhv p (szN s[i]!.toNat:Nat)=true then(p,szN s[i]!.toNat)else(0,0)
 else(0,0)
theorem ztj{s:ByteArray}{i:Nat}{p0:Int}{k m:Nat}(h:zdY s i p0 k=none)(hm:k<=m):zdY s i p0 m=none:=by
 induction m with
 | zero => obtain rfl : k = 0 := by omega
           exact h
 | succ m ih =>
   by_cases e:k=m+1
   ·subst e;exact h
   ·unfold zdY;rw[ih (by omega)]
theorem zsI{s:ByteArray}{i:Nat}{p0 p:Int}{k:Nat}(h:zdY s i p0 k=some p)(hj:i+(k+1)<s.size)(hb:s[i+(k+1)].toNat<128\/191<s[i+(k+1)].toNat):zdY s i p0 (k+1)=none:=by
 unfold zdY;rw[h,zhg s _ hj];simp only;rw[if_pos hb]
theorem zti{s:ByteArray}{i:Nat}{p0 p:Int}{k:Nat}(h:zdY s i p0 k=some p)(hj:i+(k+1)<s.size)(h1:¬s[i+(k+1)].toNat<128)(h2:¬191<s[i+(k+1)].toNat):zdY s i p0 (k+1)=some (zua p s[i+(k+1)]):=by
 unfold zdY;rw[h,zhg s _ hj];simp only;rw[if_neg (by omega)]
theorem zsa{s:ByteArray}{i:Nat}(hi:i<s.size):zng s i=if szN s[i].toNat=0\/s.size<i+szN s[i].toNat then(0,0)else
 match zdY s i (szP s[i].toNat) (szN s[i].toNat-1)with
 |none=>(0,0)
 |some p=>if zhv p (szN s[i].toNat:Nat)=true then(p,szN s[i].toNat)else(0,0):=by
 unfold zng;rw[if_pos hi,zhg s i hi]
theorem zsZ{s:ByteArray}{i n:Nat}{p0:Int}{k:Nat}(hi:i<s.size)(hn:szN s[i].toNat=n)(hp:szP s[i].toNat=p0)(h:zdY s i p0 k=none)(hk:k<=n-1):zng s i=(0,0):=by
 rw[zsa hi,hn,hp]
 split
 ·rfl
 ·rw[ztj h hk]
theorem ztU{s:ByteArray}{i n:Nat}{p0 p:Int}(hi:i<s.size)(hn:szN s[i].toNat=n)(hp:szP s[i].toNat=p0)(h0:n≠0)(hle:i+n<=s.size)(h:zdY s i p0 (n-1)=some p):zng s i=if zhv p n=true then(p,n)else(0,0):=by
 rw[zsa hi,hn,hp,if_neg (by omega),h]
theorem zoO{s:ByteArray}{i:Nat}{a:Int}{b:Nat}(h:zng s i=(a,b)):Ending.returned (.tuple #[.int .i32 a,.int .i64 b])= .returned (.tuple #[.int .i32 (zng s i).1,.int .i64 (zng s i).2]):=by rw[h]
theorem zug(s:ByteArray)(i:Nat)(w:World)(hs:s.size<=maxLen)(hi:i<s.size):
 Calls ya 196 #[.string s,.int .i64 i] w fun e w'=>e= .returned (.tuple #[.int .i32 (zng s i).1,.int .i64 (zng s i).2])/\w=w':=by
 unfold maxLen at hs;have h0:(0:Int)<=(i:Int):=ye _;obtain⟨n,hn⟩:∃n,szN s[i].toNat=n:=⟨_,rfl⟩;obtain⟨p0,hp⟩:∃p,szP s[i].toNat=p:=⟨_,rfl⟩;have hN:n<=4:=hn▸zuH _
 have HC:Hid (∀w:World,Calls ya 226 #[.int .u8 s[i].toNat] w fun e w'=>e= .returned (.tuple #[.int .i64 n,.int .i32 p0])/\w=w'):=by
  unfold Hid;subst hn hp;exact fun w=>ztJ s[i] w
 have HN:=yb hn;have HP:=yb hp;have HI:=yb hi;clear hn hp;by_cases hn0:n=0
 ·subst hn0;have HR:Hid (zng s i=(0,0)):=by unfold Hid;rw[zsa hi,if_pos (.inl HN.out)]
  go_enter Tryz.func196,Tryz.ntmps196
  go_wp2_with (go_at_call 226;refine(HC.out _).mono ?_;rintro e w' ⟨rfl,rfl⟩)
  go_ret2
  exact⟨zoO HR.out,rfl⟩
 have q0:((n:Int)==0)=false:=by simp;omega
 have HN0:=yb hn0;clear hn0;by_cases hle:i+n<=s.size
 ·have HLE:=yb hle
  go_enter Tryz.func196,Tryz.ntmps196
  go_wp2_with (go_at_call 226;refine(HC.out _).mono ?_;rintro e w' ⟨rfl,rfl⟩)
  go_loop [7,8] (fun pt iv=>∃(k:Nat) (p:Int),k+1<=n/\iv= .int .i64 ((k+1:Nat):Int)/\pt= .int .i32 p/\Hid (zdY s i p0 k=some p)) (fun _ iv=>n-(intOf iv).toNat)
  case atStart=>exact⟨0,p0,by simp at q0;omega,by go_num,rfl,rfl⟩
  case round=>
   obtain⟨k,p,hk,rfl,rfl,hc⟩:=hrel;by_cases hlt:k+1<n
   ·have hk0:(0:Int)<=((k+1:Nat):Int):=ye _;have hx:i+(k+1)<s.size:=by omega
    by_cases hb1:s[i+(k+1)].toNat<128
    ·have HR:=yb (zsZ HI.out HN.out HP.out (zsI hc.out hx (.inl hb1)) (by omega))
     go_wp2_with fail
     go_ret2
     exact⟨zoO HR.out,rfl⟩
    ·by_cases hb2:191<s[i+(k+1)].toNat
     ·have HR:=yb (zsZ HI.out HN.out HP.out (zsI hc.out hx (.inr hb2)) (by omega))
      go_wp2_with fail
      go_ret2
      exact⟨zoO HR.out,rfl⟩
     ·have HR:=yb (zti hc.out hx hb1 hb2)
      go_wp2_with fail
      refine⟨⟨k+1,_,by omega,by go_num,rfl,HR⟩,by simp[intOf];omega⟩
   ·obtain rfl:n=k+1:=by omega
    have HE:Hid (zng s i=if zhv p ((k+1:Nat):Int)=true then(p,k+1)else(0,0)):=ztU HI.out HN.out HP.out HN0.out HLE.out hc.out
    have HF:Hid (∀(m:Int) (w:World),m=((k+1:Nat):Int)->Calls ya 227 #[.int .i32 p,.int .i64 m] w fun e w'=>e= .returned (.bool (zhv p ((k+1:Nat):Int)))/\w=w'):=by
     intro m w hm;subst hm;exact ztI _ _ _
    unfold Hid at HE
    generalize zhv p ((k+1:Nat):Int)=b at HE HF
    have HE:=yb HE;cases b with
    | true =>
      go_wp2_with fail
      refine(HF.out _ _ (by simp)).mono ?_
      rintro e w' ⟨rfl,rfl⟩
      go_wp2_with fail
      go_ret2
      exact⟨by rw[<-zoO (a:=p) (b:=k+1) (by rw[HE.out];rfl)];rfl,rfl⟩
    | false =>
      go_wp2_with fail
      refine(HF.out _ _ (by simp)).mono ?_
      rintro e w' ⟨rfl,rfl⟩
      go_wp2_with fail
      go_ret2
      exact⟨zoO (by rw[HE.out];rfl),rfl⟩
 ·go_enter Tryz.func196,Tryz.ntmps196
  have HR:Hid (zng s i=(0,0)):=by unfold Hid;rw[zsa HI.out,HN.out,if_pos (.inr (by omega))]
  go_wp2_with (go_at_call 226;refine(HC.out _).mono ?_;rintro e w' ⟨rfl,rfl⟩)
  go_ret2
  exact⟨zoO HR.out,rfl⟩
end
end Go.Proofs.YtemofofnkchmeaaGreatDoor
