/- A part of a proof about the given program: the abstract machine, what functions compute, laid in few texts. -/
import Derived.Test.YticjnnmnjfpopaaGreatDoorKEj
import Derived.Lib.SlBytesConst
set_option linter.unusedSimpArgs false
set_option linter.unusedVariables false
set_option linter.constructorNameAsVariable false
namespace Go.Ab.S16
open Go Go.Proofs Go.RowKit
theorem yB (n k:Nat) (g:Nat→Bool) (b:Bool):(cz n g).set k (.v (.bool b))=cz n fun c=>if c=k then b else g c:=by
 unfold cz;rw[Fw];refine List.map_congr_left fun U _=> ?_;by_cases h:U=k
 ·rw[if_pos h];simp only[if_pos h];rfl
 rw[if_neg h];simp only[if_neg h]
def jX (m:bK) (aD:List ByteArray) (i k:Nat):Nat→Bool:=fun c=>jY m (aD.take i) c||(decide (c<k)&&p6 m (aD.getD i ⟨#[]⟩) c)
theorem Yz (m:bK) (aD:List ByteArray) (i:Nat):jX m aD i 0=jY m (aD.take i):=by
 funext c
 unfold jX;simp
theorem Nd (m:bK) (aD:List ByteArray) (i:Nat) (h:i<aD.length) (c:Nat):jY m (aD.take (i+1)) c=(jY m (aD.take i) c||p6 m (aD.getD i ⟨#[]⟩) c):=by
 unfold jY;rw[List.take_succ_eq_append_getElem h,List.any_append,dC _ _ _ h];simp
theorem WI {n:Nat} {f g:Nat→Bool} (h:∀c,c<n→f c=g c):cz n f=cz n g:=by
 unfold cz;exact List.map_congr_left fun c ag=>by rw[h c (List.mem_range.1 ag)]
theorem Yy (m:bK) (aD:List ByteArray) (i k:Nat):(fun c=>if c=k then(jX m aD i k k||p6 m (aD.getD i ⟨#[]⟩) k)else jX m aD i k c)=jX m aD i (k+1):=by
 funext c
 by_cases h:c=k
 ·subst h;rw[if_pos rfl];unfold jX;rw[decide_eq_false (Nat.lt_irrefl _),decide_eq_true (Nat.lt_succ_self _),Bool.false_and,Bool.or_false,Bool.true_and]
 rw[if_neg h];unfold jX;have:decide (c<k+1)=decide (c<k):=decide_eq_decide.2 ⟨fun ah=>by omega,fun ah=>by omega⟩;rw[this]
def q6 (m:bK) (out:List Nat) (k l:Nat):Bool:=(List.range l).all fun U=> !du m k U||out.contains U
theorem V2 (m:bK) (out:List Nat) (k l:Nat):q6 m out k (l+1)=(q6 m out k l&&(!du m k l||out.contains l)):=by
 unfold q6;rw[List.range_succ,List.all_append];simp
theorem v8 (m:bK) (w:Nat→Bool) (out:List Nat) (k:Nat):iW m w out k=(w k&& !out.contains k&&q6 m out k m.edges.length):=rfl
theorem Pw {p:Nat→Bool} {n:Nat} (h:∀k,k<n→p k=false):(List.range n).find? p=none:=by
 rw[List.find?_eq_none];intro k aj;rw[h k (List.mem_range.1 aj)];decide
theorem HL {p:Nat→Bool} {n k:Nat} (aj:k<n) (aP:p k=true) (h:∀U,U<k→p U=false):(List.range n).find? p=some k:=by
 rw[List.find?_eq_some_iff_getElem];refine⟨aP,k,by simpa using aj,by simp,fun U aR=> ?_⟩;rw[List.getElem_range,h U aR];rfl
theorem Hp (out:List Nat) (k c:Nat):(out++[k]).contains c=if c=k then true else out.contains c:=by
 by_cases h:c=k
 ·subst h;simp
 rw[if_neg h];simp[h]
def um:Nat⊕List Nat→D
 | .inl c=> .bd [.ai [], .v (.int .i64 (c:Int))]
 | .inr l=> .bd [.ai (l.map a_), .v (.int .i64 0)]
theorem FB (m:bK) (aD:List ByteArray) (σ:al) (aA:m.edges.length<2^20) (af:∀e∈m.edges,e.small) (bc:aD.length<2^30):
  AC Tryz.prog 45 [m.d, .ai (aD.map ab)] σ (fun e σ'=>e= .ret (um (hX m aD))∧σ'=σ):=by
 refine AC.still ?_ σ;refine AC.forget (R:=fun e _=>e= .ret (um (hX m aD))) ?_ fun e σ' h=>⟨[],aQ.nil _,h,rfl⟩;refine AC.l7 (R:=fun e _=>e= .ret (um (hX m aD))∨(hX m aD= .inl 6∧e= .ret (.bd [.v (.slice none 0 0), .v (.int .i64 6)]))) ?_ fun e σ' h=> ?_;rotate_left
 ·rcases h with h|⟨bj,rfl⟩
  ·exact .inl h
  refine .inr ⟨_,um (hX m aD),rfl,fun w S v h=> ?_,rfl⟩;rw[bj];cases h with
  |bd h=>
   obtain⟨a0,gH,rfl,hI,h⟩:=h.cons_inv;exact .bd (.cons (ca.pU _ _ _ hI) h)
 have fX:m.d= .agg [.ai (m.edges.map aM.d), .ai (m.defs.map ab)]:=rfl;have bn:(m.edges.map aM.d).length=m.edges.length:=List.length_map ..;have hk:(aD.map ab).length=aD.length:=List.length_map ..;obtain⟨n,au⟩:∃n,n=m.edges.length:=⟨_,rfl⟩;rw[←au]at bn;refine AC.bI Tryz.func45 Tryz.ntmps45 fun C ar=> ?_;rw[fX];refine j.J (j.rg [0,1] fun K I=> ?_);simp only[go_sem];intro bP;apply I;have g1:av bP [(bP,aE.arr 2 [D.agg [.ai (m.edges.map aM.d), .ai (m.defs.map ab)]])]=some (.arr 2 [D.agg [.ai (m.edges.map aM.d), .ai (m.defs.map ab)]]):=by rw[bE]
 have jq:(0:Int)≤(n:Int):=by omega
 have dD:((List.range n).map fun a=>D.ai (cz n (du m a))).length=n:=by simp
 refine j.J (j.rg [1,2] fun K I=> ?_);simp only[go_sem,g1];refine a1 Tryz.call58 (BW m _ aA af) ?_;simp only[go_sem,uQ];apply I;refine j.J (j.rg [1,2,6] fun K I=> ?_);simp only[go_sem,g1,bn,jq];refine⟨by omega,fun gB xv=> ?_⟩;have zA:bP≠gB:=fun e=>by subst e;rw[bE]at xv;cases xv
 apply I;rw[FF];refine j.J (j.rg [1,2,6,7] fun K I=> ?_);simp only[go_sem,zA];refine a1 Tryz.call85 (Wg m _ aA af) ?_;simp only[go_sem];apply I;obtain⟨S,bh⟩:∃S,S=wk m:=⟨_,rfl⟩;rw[show ft [] (gQ m (m.edges.flatMap aM.bG))=S from bh.symm];have qm:S.length<2^40:=by
  have hY:=vZ [] (gQ m (m.edges.flatMap aM.bG));have fa:(gQ m (m.edges.flatMap aM.bG)).length≤(m.edges.flatMap aM.bG).length:=List.length_filter_le ..;have yv:=wq m af m.edges.length (Nat.le_refl _);unfold e1 at yv;rw[List.take_length]at yv;rw[bh];unfold wk;simp only[List.length_nil]at hY;omega
 refine j.J (j.J (j.rg [1,2,6,7,8] fun K I=> ?_));simp only[go_sem];apply I;refine j.aG ?_;refine j.rebase [1,2,6,7,8,9] ?_;simp only[go_sem];refine j.while (fun(i:Nat) env' aS=>(i≤aD.length∧(aD.take i).any (fun t=>decide (dd m t<0)&& !inB S t)=false)∧env'=[(1, .ai (aD.map ab)),(2, .ptr bP 2 0 0),(6, .ai ((List.range n).map fun a=>D.ai (cz n (du m a)))),(7, .own (some gB) 1 n),(8, .ai (S.map ab)),(9, .v (.int .i64 (i:Int)))]∧aS=[(gB,aE.arr 1 (cz n (jY m (aD.take i)))),(bP,aE.arr 2 [D.agg [.ai (m.edges.map aM.d), .ai (m.defs.map ab)]])]) (fun(i:Nat)=>aD.length-i) 0 ⟨⟨Nat.zero_le _,rfl⟩,by rw[au];rfl,rfl⟩ ?_
 rintro i env' aS ⟨⟨hi,j'⟩,rfl,rfl⟩ aB;have cH:=aB;refine j.J (j.J (j.rg [1,2,6,7,8,9] fun K I=> ?_));simp only[go_sem,hk];apply I;refine j.cond rfl (fun k5=> ?_) (fun k5=> ?_)
 ·have aC:i<aD.length:=Int.ofNat_lt.1 (by simpa using k5);have aq:=b6 ab aD i aC;rw[ab]at aq;have bf:(0:Int)≤(i:Int):=by omega
  have bp:(i:Int)<(aD.length:Int):=by omega
  have x7:=dC aD i ⟨#[]⟩ aC;refine j.aN (j.J (j.aG (j.J ?_)));refine j.draw [1,2,6,7,8,9] [] [bP] [] [(0,true),(1,true),(2,true),(3,true),(4,true),(5,false),(6,true)] (by kernel_rfl) (by decide) (by kernel_rfl) fun K I=> ?_;simp only[go_sem,zA,hk,aq,bf,bp];refine a1 Tryz.call47 (vI m aD[i] _ (by omega) (fun e he=>by have:=(af e he).outs;omega)) ?_;simp only[go_sem,zA];apply I;refine j.J (j.J ?_);rcases(show(dd m aD[i]<0∧inB S aD[i]=false)∨(dd m aD[i]<0∧inB S aD[i]=true)∨∃x:Nat,dd m aD[i]=x∧x<n from by
   have:=KO m aD[i];by_cases h:dd m aD[i]<0
   ·cases ae:inB S aD[i]
    ·exact .inl ⟨h,rfl⟩
    exact .inr (.inl ⟨h,rfl⟩)
   exact .inr (.inr ⟨(dd m aD[i]).toNat,by omega,by omega⟩))with⟨an,ae⟩|⟨an,ae⟩|⟨x,an,Ay⟩
  ·have d1:decide (dd m aD[i]<0)=true:=decide_eq_true an;refine j.rg [1,2,6,7,8,9,10] fun K I=> ?_;simp only[go_sem,hk,aq,bf,bp,d1];refine a1 Tryz.call57 (pO S aD[i] _ qm) ?_;simp only[go_sem,show(S.any fun s=>s.toList==aD[i].toList)=false from ae,Bool.not_false];apply I;refine j.bZ rfl (j.J (j.rg [] fun K I=> ?_));simp only[go_sem];apply I;refine j.ret ar Tryz.func45 (by simp[go_sem]) ?_;simp only[go_sem];right
   have I7:hX m aD= .inl 6:=by
    unfold hX;rw[if_pos];rw[List.any_eq_true];exact⟨aD[i],List.getElem_mem aC,by rw[d1,←bh,ae];rfl⟩
   first|exact I7|exact⟨I7,rfl⟩
  ·have d1:decide (dd m aD[i]<0)=true:=decide_eq_true an;refine j.rg [1,2,6,7,8,9,10] fun K I=> ?_;simp only[go_sem,hk,aq,bf,bp,d1];refine a1 Tryz.call57 (pO S aD[i] _ qm) ?_;simp only[go_sem,show(S.any fun s=>s.toList==aD[i].toList)=true from ae,Bool.not_true];apply I;refine j.bJ rfl (j.aN (j.J (j.rg [1,2,6,7,8,9,10] fun K I=> ?_)));simp only[go_sem];apply I;refine j.aG ?_;refine j.rebase [1,2,6,7,8,9,10,11] ?_;simp only[go_sem];refine j.while (fun(k:Nat) env' aS=>(k=0)∧env'=[(1, .ai (aD.map ab)),(2, .ptr bP 2 0 0),(6, .ai ((List.range n).map fun a=>D.ai (cz n (du m a)))),(7, .own (some gB) 1 n),(8, .ai (S.map ab)),(9, .v (.int .i64 (i:Int))),(10, .v (.int .i64 (dd m aD[i]))),(11, .v (.int .i64 (k:Int)))]∧aS=[(gB,aE.arr 1 (cz n (jY m (aD.take i)))),(bP,aE.arr 2 [D.agg [.ai (m.edges.map aM.d), .ai (m.defs.map ab)]])]) (fun(k:Nat)=>k) 0 ⟨rfl,rfl,rfl⟩ ?_;rintro k env' aS ⟨rfl,rfl,rfl⟩ aB;have eg:=aB;have js:decide (dd m aD[i]≥0)=false:=decide_eq_false (by omega);have Ka:jY m (aD.take (i+1))=jY m (aD.take i):=by
    funext c
    rw[Nd m aD i aC,x7];unfold p6;rw[if_pos an,Bool.or_false]
   refine j.J (j.J ?_);rcases Nat.eq_zero_or_pos n with DU|DU
   ·have d3:decide (((0:Nat):Int)<(n:Int))=false:=decide_eq_false (by omega);refine j.rg [1,2,6,7,8,9,10,11] fun K I=> ?_;simp only[go_sem,d3];apply I;refine j.bJ rfl (j.exit rfl (j.ba (j.rg [1,2,6,7,8,9] fun K I=> ?_)));simp only[go_sem];apply I;refine j.rebase [1,2,6,7,8,9] ?_;simp only[go_sem];rw[bH i (by omega)];refine cH (i+1) _ _ ⟨⟨by omega, ?_⟩,rfl,by rw[Ka]⟩ (by omega);rw[List.take_succ_eq_append_getElem aC,List.any_append,j'];simp[ae]
   have d3:decide (((0:Nat):Int)<(n:Int))=true:=decide_eq_true (by omega);refine j.rg [1,2,6,7,8,9,10,11] fun K I=> ?_;simp only[go_sem,d3,js];apply I;refine j.bJ rfl (j.exit rfl (j.ba (j.rg [1,2,6,7,8,9] fun K I=> ?_)));simp only[go_sem];apply I;refine j.rebase [1,2,6,7,8,9] ?_;simp only[go_sem];rw[bH i (by omega)];refine cH (i+1) _ _ ⟨⟨by omega, ?_⟩,rfl,by rw[Ka]⟩ (by omega);rw[List.take_succ_eq_append_getElem aC,List.any_append,j'];simp[ae]
  have d1:decide (((x:Nat):Int)<0)=false:=decide_eq_false (by omega);rw[an];refine j.rg [1,2,6,7,8,9,10] fun K I=> ?_;simp only[go_sem,d1];apply I;refine j.bJ rfl (j.aN (j.J (j.rg [1,2,6,7,8,9,10] fun K I=> ?_)));simp only[go_sem];apply I;refine j.aG ?_;refine j.rebase [1,2,6,7,8,9,10,11] ?_;simp only[go_sem];refine j.while (fun(k:Nat) env' aS=>(k≤n)∧env'=[(1, .ai (aD.map ab)),(2, .ptr bP 2 0 0),(6, .ai ((List.range n).map fun a=>D.ai (cz n (du m a)))),(7, .own (some gB) 1 n),(8, .ai (S.map ab)),(9, .v (.int .i64 (i:Int))),(10, .v (.int .i64 (x:Int))),(11, .v (.int .i64 (k:Int)))]∧aS=[(gB,aE.arr 1 (cz n (jX m aD i k))),(bP,aE.arr 2 [D.agg [.ai (m.edges.map aM.d), .ai (m.defs.map ab)]])]) (fun(k:Nat)=>n-k) 0 ⟨Nat.zero_le _,rfl,by rw[Yz]⟩ ?_;rintro k env' aS ⟨aj,rfl,rfl⟩ aB;have hl:=aB;have qE:decide (((x:Nat):Int)≥0)=true:=decide_eq_true (by omega);have Kb:∀c,p6 m (aD.getD i ⟨#[]⟩) c=(decide ((c:Int)=(x:Int))||du m x c):=fun c=>by
   unfold p6;rw[x7,an,if_neg (by omega),Int.toNat_natCast]
  refine j.J (j.J ?_);rcases Nat.lt_or_ge k n with jL|jL
  ·have d3:decide (((k:Nat):Int)<(n:Int))=true:=decide_eq_true (by omega);refine j.rg [1,2,6,7,8,9,10,11] fun K I=> ?_;simp only[go_sem,d3,qE];apply I;have dc:(0:Int)≤(k:Int):=by omega
   have cb:(k:Int)<(n:Int):=by omega
   have tY:(0:Int)≤(x:Int):=by omega
   have tZ:(x:Int)<(n:Int):=by omega
   have kh:=ur (fun a=>D.ai (cz n (du m a))) .any Ay;have fJ:=nQ n (du m x);have r_:=jT (du m x) jL;have ki:=jT (jX m aD i k) jL;have iO:=nQ n (jX m aD i k);have aL:∀b,b=(jX m aD i k k||p6 m (aD.getD i ⟨#[]⟩) k)→(fun c=>if c=k then b else jX m aD i k c)=jX m aD i (k+1):=fun b ae=>by rw[ae];exact Yy m aD i k
   refine j.bZ rfl (j.aN (j.J (j.aG ?_)));rcases(show jX m aD i k k=true∨(jX m aD i k k=false∧k=x)∨(jX m aD i k k=false∧k≠x)from by cases jX m aD i k k<;>simp<;>omega)with dj|⟨dj,fe⟩|⟨dj,fe⟩
   ·refine j.rg [1,2,6,7,8,9,10,11] fun K I=> ?_;simp only[go_sem,dD,dc,cb,ki,iO,dj];refine⟨jL,jL, ?_⟩;rw[yB,aL true (by rw[dj];rfl)]
    apply I;refine j.ba (j.rg [1,2,6,7,8,9,10,11] fun K I=> ?_);simp only[go_sem];apply I;refine j.rebase [1,2,6,7,8,9,10,11] ?_;simp only[go_sem];rw[bH k (by omega)];exact hl (k+1) _ _ ⟨by omega,rfl,rfl⟩ (by omega)
   ·have d5:((k:Int)==(x:Int))=true:=by rw[fe];simp
    refine j.rg [1,2,6,7,8,9,10,11] fun K I=> ?_;simp only[go_sem,dD,dc,cb,ki,iO,dj,d5];refine⟨jL,jL, ?_⟩;rw[yB,aL true (by rw[dj,Kb,decide_eq_true (by omega)];rfl)]
    apply I;refine j.ba (j.rg [1,2,6,7,8,9,10,11] fun K I=> ?_);simp only[go_sem];apply I;refine j.rebase [1,2,6,7,8,9,10,11] ?_;simp only[go_sem];rw[bH k (by omega)];exact hl (k+1) _ _ ⟨by omega,rfl,rfl⟩ (by omega)
   have d5:((k:Int)==(x:Int))=false:=by rw[beq_eq_false_iff_ne];omega
   refine j.rg [1,2,6,7,8,9,10,11] fun K I=> ?_;simp only[go_sem,dD,dc,cb,tY,tZ,ki,iO,dj,d5,kh,fJ,r_];refine⟨jL,jL, ?_⟩;rw[yB,aL (du m x k) (by rw[dj,Kb,decide_eq_false (by omega)];rfl)]
   apply I;refine j.ba (j.rg [1,2,6,7,8,9,10,11] fun K I=> ?_);simp only[go_sem];apply I;refine j.rebase [1,2,6,7,8,9,10,11] ?_;simp only[go_sem];rw[bH k (by omega)];exact hl (k+1) _ _ ⟨by omega,rfl,rfl⟩ (by omega)
  have d3:decide (((k:Nat):Int)<(n:Int))=false:=decide_eq_false (by omega);refine j.rg [1,2,6,7,8,9,10,11] fun K I=> ?_;simp only[go_sem,d3];apply I;refine j.bJ rfl (j.exit rfl (j.ba (j.rg [1,2,6,7,8,9] fun K I=> ?_)));simp only[go_sem];apply I;refine j.rebase [1,2,6,7,8,9] ?_;simp only[go_sem];rw[bH i (by omega)];have RP:k=n:=by omega
  refine cH (i+1) _ _ ⟨⟨by omega, ?_⟩,rfl, ?_⟩ (by omega)
  ·rw[List.take_succ_eq_append_getElem aC,List.any_append,j'];simp only[List.any_cons,List.any_nil,Bool.or_false,Bool.false_or,an];rw[d1];rfl
  rw[WI fun c ag=> ?_];unfold jX;rw[Nd m aD i aC,RP,decide_eq_true ag,Bool.true_and]
 have cC:i=aD.length:=by
  have h:(aD.length:Int)≤i:=by simpa using k5
  omega
 subst cC;rw[List.take_length]at j'⊢;have JS:hX m aD= .inr (ll m (jY m aD) n []):=by
  unfold hX;rw[←bh,if_neg (by rw[j'];decide),au]
 refine j.exit rfl (j.J (j.rg [2,6,7] fun K I=> ?_));simp only[go_sem];apply I;refine j.J (j.rg [2,6,7,12] fun K I=> ?_);simp only[go_sem,zA,bn,jq];refine⟨by omega,fun ct rP=> ?_⟩;apply I;obtain⟨w,hw⟩:∃w,w=jY m aD:=⟨_,rfl⟩;rw[←hw]at JS⊢;have Av:gB≠ct:=fun e=>by subst e;rw[bE]at rP;cases rP
 rw[FF];have aO:cz n (fun _=>false)=cz n (fun k=>([]:List Nat).contains k):=rfl;rw[aO];refine j.im 12 1 rfl ?_;refine j.le (cn.refl _) (σ':=[(ct,aE.arr 1 (cz n (fun k=>([]:List Nat).contains k))),(gB,aE.arr 1 (cz n w))]) (aQ.append_left [_,_] [_]) ?_;refine j.aG ?_;refine j.rebase [6,7,12,13] ?_;simp only[go_sem];refine j.while (fun(out:List Nat) env' aS=>∃o:Option Nat,(out.Nodup∧(∀k∈out,k<n)∧ll m w n []=ll m w (n-out.length) out∧aV o 1 (out.map a_) [(ct,aE.arr 1 (cz n (fun k=>out.contains k))),(gB,aE.arr 1 (cz n w))])∧env'=[(6, .ai ((List.range n).map fun a=>D.ai (cz n (du m a)))),(7, .own (some gB) 1 n),(12, .own o 1 out.length),(13, .own (some ct) 1 n)]∧aS=cellsOf o 1 (out.map a_)++[(ct,aE.arr 1 (cz n (fun k=>out.contains k))),(gB,aE.arr 1 (cz n w))]) (fun(out:List Nat)=>n-out.length) [] ⟨none,⟨List.nodup_nil,fun k aj=>(by cases aj),rfl,aV.nil _ _⟩,rfl,rfl⟩ ?_;rintro out env' aS ⟨o,⟨cM,aC,D2,aT⟩,rfl,rfl⟩ aB;have vE:=aB;have CA:=aT.keep (show av gB [(ct,aE.arr 1 (cz n (fun k=>out.contains k))),(gB,aE.arr 1 (cz n w))]=some (.arr 1 (cz n w)) by rw[aW,if_neg Av,bE]);have gd:=aT.keep (show av ct [(ct,aE.arr 1 (cz n (fun k=>out.contains k))),(gB,aE.arr 1 (cz n w))]=some (.arr 1 (cz n (fun k=>out.contains k)))from bE ..);have Aw:=nQ n w;have ei:=nQ n (fun k=>out.contains k);refine j.aG (j.J (j.rg [6,7,12,13] fun K I=> ?_));simp only[go_sem];apply I
 refine j.J (j.J (j.rg [6,7,12,13,14] fun K I=> ?_));simp only[go_sem];apply I;refine j.aG ?_;refine j.rebase [6,7,12,13,14,15] ?_;simp only[go_sem];refine j.while (fun(U:Nat) env' aS=>∃q:Int,(U≤n∧((q=-1∧∀k,k<U→iW m w out k=false)∨∃dF:Nat,q=(dF:Int)∧dF<n∧iW m w out dF=true∧∀k,k<dF→iW m w out k=false))∧env'=[(6, .ai ((List.range n).map fun a=>D.ai (cz n (du m a)))),(7, .own (some gB) 1 n),(12, .own o 1 out.length),(13, .own (some ct) 1 n),(14, .v (.int .i64 q)),(15, .v (.int .i64 (U:Int)))]∧aS=cellsOf o 1 (out.map a_)++[(ct,aE.arr 1 (cz n (fun k=>out.contains k))),(gB,aE.arr 1 (cz n w))]) (fun(U:Nat)=>n-U) 0 ⟨-1,⟨Nat.zero_le _, .inl ⟨rfl,fun k aj=>by omega⟩⟩,rfl,rfl⟩ ?_;rintro U env' aS ⟨q,⟨aR,bW⟩,rfl,rfl⟩ aB;have pN:=aB;refine j.J (j.J ?_);rcases(show(U<n∧q=-1∧∀k,k<U→iW m w out k=false)∨(U<n∧∃dF:Nat,q=(dF:Int)∧dF<n∧iW m w out dF=true∧∀k,k<dF→iW m w out k=false)∨(U=n∧∃dF:Nat,q=(dF:Int)∧dF<n∧iW m w out dF=true∧∀k,k<dF→iW m w out k=false)∨(U=n∧q=-1∧∀k,k<U→iW m w out k=false)from by
  rcases Nat.lt_or_ge U n with h|h
  ·rcases bW with bW|bW
   ·exact .inl ⟨h,bW⟩
   exact .inr (.inl ⟨h,bW⟩)
  have:U=n:=by omega
  rcases bW with bW|bW
  ·exact .inr (.inr (.inr ⟨this,bW⟩))
  exact .inr (.inr (.inl ⟨this,bW⟩)))with⟨gK,rfl,dr⟩|⟨gK,dF,rfl,oE,kI,Dq⟩|⟨gK,dF,rfl,oE,kI,Dq⟩|⟨gK,rfl,dr⟩
 ·have sU:decide ((U:Int)<(n:Int))=true:=decide_eq_true (by omega);have B_:decide ((-1:Int)<0)=true:=rfl;refine j.rg [6,7,12,13,14,15] fun K I=> ?_;simp only[go_sem,sU,B_];apply I;refine j.bZ rfl (j.aN (j.J (j.aG (j.J (j.J ?_)))));rcases(show w U=false∨(w U=true∧out.contains U=true)∨(w U=true∧out.contains U=false)from by cases w U<;>cases out.contains U<;>simp)with dj|⟨dj,fe⟩|⟨dj,fe⟩
  ·have dp:(0:Int)≤(U:Int):=by omega
   have dq:(U:Int)<(n:Int):=by omega
   have dK:=jT w gK;have d1:=jT (fun k=>out.contains k) gK;refine j.rg [6,7,12,13,14,15] fun K I=> ?_;simp only[go_sem,CA,Aw,dp,dq,dK,dj];refine⟨gK, ?_⟩;apply I;refine j.bZ rfl (j.exit rfl (j.rg [6,7,12,13,14,15] fun K I=> ?_));simp only[go_sem];apply I;refine j.rebase [6,7,12,13,14,15] ?_;simp only[go_sem];rw[bH U (by omega)];refine pN (U+1) _ _ ⟨-1,⟨by omega, .inl ⟨rfl,fun k aj=> ?_⟩⟩,rfl,rfl⟩ (by omega);rcases Nat.lt_or_ge k U with h|h
   ·exact dr k h
   obtain rfl:k=U:=by omega
   rw[v8,dj];rfl
  ·have dp:(0:Int)≤(U:Int):=by omega
   have dq:(U:Int)<(n:Int):=by omega
   have dK:=jT w gK;have d1:=jT (fun k=>out.contains k) gK;refine j.rg [6,7,12,13,14,15] fun K I=> ?_;simp only[go_sem,CA,gd,Aw,ei,dp,dq,dK,d1,dj,fe];refine⟨gK,gK, ?_⟩;apply I;refine j.bZ rfl (j.exit rfl (j.rg [6,7,12,13,14,15] fun K I=> ?_));simp only[go_sem];apply I;refine j.rebase [6,7,12,13,14,15] ?_;simp only[go_sem];rw[bH U (by omega)];refine pN (U+1) _ _ ⟨-1,⟨by omega, .inl ⟨rfl,fun k aj=> ?_⟩⟩,rfl,rfl⟩ (by omega);rcases Nat.lt_or_ge k U with h|h
   ·exact dr k h
   obtain rfl:k=U:=by omega
   rw[v8,dj,fe];rfl
  have dp:(0:Int)≤(U:Int):=by omega
  have dq:(U:Int)<(n:Int):=by omega
  have dK:=jT w gK;have d1:=jT (fun k=>out.contains k) gK;refine j.rg [6,7,12,13,14,15] fun K I=> ?_;simp only[go_sem,CA,gd,Aw,ei,dp,dq,dK,d1,dj,fe];refine⟨gK,gK, ?_⟩;apply I;refine j.bJ rfl (j.aN (j.J (j.rg [6,7,12,13,14,15] fun K I=> ?_)));simp only[go_sem];apply I;refine j.J (j.J (j.rg [6,7,12,13,14,15,16] fun K I=> ?_));simp only[go_sem];apply I;refine j.aG ?_;refine j.rebase [6,7,12,13,14,15,16,17] ?_;simp only[go_sem];refine j.while (fun(l:Nat) env' aS=>(l≤n)∧env'=[(6, .ai ((List.range n).map fun a=>D.ai (cz n (du m a)))),(7, .own (some gB) 1 n),(12, .own o 1 out.length),(13, .own (some ct) 1 n),(14, .v (.int .i64 (-1))),(15, .v (.int .i64 (U:Int))),(16, .v (.bool (q6 m out U l))),(17, .v (.int .i64 (l:Int)))]∧aS=cellsOf o 1 (out.map a_)++[(ct,aE.arr 1 (cz n (fun k=>out.contains k))),(gB,aE.arr 1 (cz n w))]) (fun(l:Nat)=>n-l) 0 ⟨Nat.zero_le _,rfl,rfl⟩ ?_;rintro l env' aS ⟨acp,rfl,rfl⟩ aB;have Ez:=aB;refine j.J (j.J (j.rg [6,7,12,13,14,15,16,17] fun K I=> ?_));simp only[go_sem,ei];apply I;refine j.cond rfl (fun CD=> ?_) (fun CD=> ?_)
  ·have jn:l<n:=Int.ofNat_lt.1 (by simpa using CD);have ij:(0:Int)≤(l:Int):=by omega
   have iI:(l:Int)<(n:Int):=by omega
   have GI:=ur (fun a=>D.ai (cz n (du m a))) .any gK;have br:=nQ n (du m U);have b3:=jT (du m U) jn;have d2:=jT (fun k=>out.contains k) jn;have eD:=V2 m out U l;refine j.aN (j.J (j.aG ?_));rcases(show q6 m out U l=false∨(q6 m out U l=true∧du m U l=false)∨(q6 m out U l=true∧du m U l=true)from by cases q6 m out U l<;>cases du m U l<;>simp)with dw|⟨dw,z2⟩|⟨dw,z2⟩
   ·refine j.rg [6,7,12,13,14,15,16,17] fun K I=> ?_;simp only[go_sem,dw];apply I;refine j.ba (j.rg [6,7,12,13,14,15,16,17] fun K I=> ?_);simp only[go_sem];apply I;refine j.rebase [6,7,12,13,14,15,16,17] ?_;simp only[go_sem];rw[bH l (by omega)];exact Ez (l+1) _ _ ⟨by omega,by rw[eD,dw];rfl,rfl⟩ (by omega)
   ·refine j.rg [6,7,12,13,14,15,16,17] fun K I=> ?_;simp only[go_sem,dD,dp,dq,ij,iI,GI,br,b3,dw,z2];apply I;refine j.ba (j.rg [6,7,12,13,14,15,16,17] fun K I=> ?_);simp only[go_sem];apply I;refine j.rebase [6,7,12,13,14,15,16,17] ?_;simp only[go_sem];rw[bH l (by omega)];exact Ez (l+1) _ _ ⟨by omega,by rw[eD,dw,z2];rfl,rfl⟩ (by omega)
   refine j.rg [6,7,12,13,14,15,16,17] fun K I=> ?_;simp only[go_sem,gd,ei,dD,dp,dq,ij,iI,GI,br,b3,d2,dw,z2];refine⟨jn, ?_⟩;apply I;refine j.ba (j.rg [6,7,12,13,14,15,16,17] fun K I=> ?_);simp only[go_sem];apply I;refine j.rebase [6,7,12,13,14,15,16,17] ?_;simp only[go_sem];rw[bH l (by omega)];exact Ez (l+1) _ _ ⟨by omega,by rw[eD,dw,z2];rfl,rfl⟩ (by omega)
  have hle:l=n:=by
   have h:(n:Int)≤l:=by simpa using CD
   omega
  subst hle;refine j.exit rfl (j.J (j.rg [6,7,12,13,14,15,16] fun K I=> ?_));simp only[go_sem];apply I;refine j.cond rfl (fun rG=> ?_) (fun rG=> ?_)
  ·have D_:iW m w out U=true:=by rw[v8,dj,fe,←au];exact rG
   refine j.rg [6,7,12,13,15] fun K I=> ?_;simp only[go_sem];apply I;refine j.ba (j.rg [6,7,12,13,14,15] fun K I=> ?_);simp only[go_sem];apply I;refine j.rebase [6,7,12,13,14,15] ?_;simp only[go_sem];rw[bH U (by omega)];exact pN (U+1) _ _ ⟨(U:Int),⟨by omega, .inr ⟨U,rfl,gK,D_,dr⟩⟩,rfl,rfl⟩ (by omega)
  have D_:iW m w out U=false:=by rw[v8,dj,fe,←au];exact rG
  refine j.aN (j.ba (j.rg [6,7,12,13,14,15] fun K I=> ?_));simp only[go_sem];apply I;refine j.rebase [6,7,12,13,14,15] ?_;simp only[go_sem];rw[bH U (by omega)];refine pN (U+1) _ _ ⟨-1,⟨by omega, .inl ⟨rfl,fun k aj=> ?_⟩⟩,rfl,rfl⟩ (by omega);rcases Nat.lt_or_ge k U with h|h
  ·exact dr k h
  obtain rfl:k=U:=by omega
  exact D_
 ·have sU:decide ((U:Int)<(n:Int))=true:=decide_eq_true (by omega);have B_:decide (((dF:Nat):Int)<0)=false:=decide_eq_false (by omega);have oI:dF∉out:=fun h=>by
   rw[v8,List.contains_iff_mem.2 h]at kI;simp at kI
  refine j.rg [6,7,12,13,14,15] fun K I=> ?_;simp only[go_sem,sU,B_];apply I;refine j.bJ rfl (j.exit rfl (j.J (j.J ?_)));have wZ:decide (((dF:Nat):Int)<0)=false:=decide_eq_false (by omega);refine j.rg [6,7,12,13,14] fun K I=> ?_;simp only[go_sem,wZ];apply I;refine j.bJ rfl (j.aN (j.J ?_));have dc:(0:Int)≤(dF:Int):=by omega
  have cb:(dF:Int)<(n:Int):=by omega
  have bm:=jT (fun k=>out.contains k) oE;refine j.rg [6,7,12,13,14] fun K I=> ?_;simp only[go_sem,gd,ei,dc,cb,bm];have fK:sset ct (aE.arr 1 ((cz n (fun k=>out.contains k)).set dF (D.v (.bool true)))) (cellsOf o 1 (out.map a_)++[(ct,aE.arr 1 (cz n (fun k=>out.contains k))),(gB,aE.arr 1 (cz n w))])=cellsOf o 1 (out.map a_)++[(ct,aE.arr 1 (cz n (fun k=>(out++[dF]).contains k))),(gB,aE.arr 1 (cz n w))]:=by
   have pC:(fun c=>if c=dF then true else out.contains c)=fun k=>(out++[dF]).contains k:=by
    funext c
    rw[Hp]
   rw[aT.sset (by rw[bE];rfl),gz,yB,pC]
  rw[fK];refine⟨oE, ?_⟩;apply I;have b7:aV o 1 (out.map a_) [(ct,aE.arr 1 (cz n (fun k=>(out++[dF]).contains k))),(gB,aE.arr 1 (cz n w))]:=⟨fun c ag=>by
   have:=aT.fresh c ag;rw[aW]at this⊢;split at this
   ·cases this
   rename_i aZ;rw[if_neg aZ];exact this,aT.zero⟩
  have aH:=b7.bL;have aw:=b7.cB;have dW:(out.map a_).length=out.length:=List.length_map ..;have cv:List.take out.length (out.map a_)=out.map a_:=List.take_of_length_le (by omega);have ew:out.length<n:=by
   have:=nD (l:=dF::out) (m:=List.range n) (List.nodup_cons.2 ⟨oI,cM⟩) (fun x an=>by
    rcases List.mem_cons.1 an with rfl|an
    ·exact List.mem_range.2 oE
    exact List.mem_range.2 (aC x an))
   rw[List.length_range,List.length_cons]at this;omega
  refine j.fw [6,7,12,13,14] [138] fun K I=> ?_;simp only[go_sem,aH,aw,dW,cv];refine⟨by decide,⟨Nat.le_refl _,fun y aF=>by rw[aF];exact⟨rfl,rfl⟩,by omega,by omega⟩,fun ob aO ax=> ?_⟩;have bt:out.map a_++[D.v (.int .i64 (dF:Int))]=(out++[dF]).map a_:=by rw[List.map_append];rfl
  rw[bt]at aO⊢;apply I;refine j.ba ?_;refine j.rebase [6,7,12,13] ?_;simp only[go_sem];refine vE (out++[dF]) _ _ ⟨ob,⟨?_,fun k aj=> ?_, ?_,⟨ax,aO⟩⟩,by rw[List.length_map],rfl⟩ (by simp only[List.length_append,List.length_cons,List.length_nil];omega)
  ·rw[List.nodup_append];exact⟨cM,by simp,fun a bb b ae=>by rw[List.mem_singleton.1 ae];exact fun e=>oI (e▸bb)⟩
  ·rcases List.mem_append.1 aj with aj|aj
   ·exact aC k aj
   rw[List.mem_singleton.1 aj];exact oE
  rw[D2,show n-out.length=(n-(out++[dF]).length)+1 from by simp only[List.length_append,List.length_cons,List.length_nil];omega,ll,←au,HL oE kI Dq]
 ·have sU:decide ((U:Int)<(n:Int))=false:=decide_eq_false (by omega);have oI:dF∉out:=fun h=>by
   rw[v8,List.contains_iff_mem.2 h]at kI;simp at kI
  refine j.rg [6,7,12,13,14,15] fun K I=> ?_;simp only[go_sem,sU];apply I;refine j.bJ rfl (j.exit rfl (j.J (j.J ?_)));have wZ:decide (((dF:Nat):Int)<0)=false:=decide_eq_false (by omega);refine j.rg [6,7,12,13,14] fun K I=> ?_;simp only[go_sem,wZ];apply I;refine j.bJ rfl (j.aN (j.J ?_));have dc:(0:Int)≤(dF:Int):=by omega
  have cb:(dF:Int)<(n:Int):=by omega
  have bm:=jT (fun k=>out.contains k) oE;refine j.rg [6,7,12,13,14] fun K I=> ?_;simp only[go_sem,gd,ei,dc,cb,bm];have fK:sset ct (aE.arr 1 ((cz n (fun k=>out.contains k)).set dF (D.v (.bool true)))) (cellsOf o 1 (out.map a_)++[(ct,aE.arr 1 (cz n (fun k=>out.contains k))),(gB,aE.arr 1 (cz n w))])=cellsOf o 1 (out.map a_)++[(ct,aE.arr 1 (cz n (fun k=>(out++[dF]).contains k))),(gB,aE.arr 1 (cz n w))]:=by
   have pC:(fun c=>if c=dF then true else out.contains c)=fun k=>(out++[dF]).contains k:=by
    funext c
    rw[Hp]
   rw[aT.sset (by rw[bE];rfl),gz,yB,pC]
  rw[fK];refine⟨oE, ?_⟩;apply I;have b7:aV o 1 (out.map a_) [(ct,aE.arr 1 (cz n (fun k=>(out++[dF]).contains k))),(gB,aE.arr 1 (cz n w))]:=⟨fun c ag=>by
   have:=aT.fresh c ag;rw[aW]at this⊢;split at this
   ·cases this
   rename_i aZ;rw[if_neg aZ];exact this,aT.zero⟩
  have aH:=b7.bL;have aw:=b7.cB;have dW:(out.map a_).length=out.length:=List.length_map ..;have cv:List.take out.length (out.map a_)=out.map a_:=List.take_of_length_le (by omega);have ew:out.length<n:=by
   have:=nD (l:=dF::out) (m:=List.range n) (List.nodup_cons.2 ⟨oI,cM⟩) (fun x an=>by
    rcases List.mem_cons.1 an with rfl|an
    ·exact List.mem_range.2 oE
    exact List.mem_range.2 (aC x an))
   rw[List.length_range,List.length_cons]at this;omega
  refine j.fw [6,7,12,13,14] [138] fun K I=> ?_;simp only[go_sem,aH,aw,dW,cv];refine⟨by decide,⟨Nat.le_refl _,fun y aF=>by rw[aF];exact⟨rfl,rfl⟩,by omega,by omega⟩,fun ob aO ax=> ?_⟩;have bt:out.map a_++[D.v (.int .i64 (dF:Int))]=(out++[dF]).map a_:=by rw[List.map_append];rfl
  rw[bt]at aO⊢;apply I;refine j.ba ?_;refine j.rebase [6,7,12,13] ?_;simp only[go_sem];refine vE (out++[dF]) _ _ ⟨ob,⟨?_,fun k aj=> ?_, ?_,⟨ax,aO⟩⟩,by rw[List.length_map],rfl⟩ (by simp only[List.length_append,List.length_cons,List.length_nil];omega)
  ·rw[List.nodup_append];exact⟨cM,by simp,fun a bb b ae=>by rw[List.mem_singleton.1 ae];exact fun e=>oI (e▸bb)⟩
  ·rcases List.mem_append.1 aj with aj|aj
   ·exact aC k aj
   rw[List.mem_singleton.1 aj];exact oE
  rw[D2,show n-out.length=(n-(out++[dF]).length)+1 from by simp only[List.length_append,List.length_cons,List.length_nil];omega,ll,←au,HL oE kI Dq]
 have sU:decide ((U:Int)<(n:Int))=false:=decide_eq_false (by omega);refine j.rg [6,7,12,13,14,15] fun K I=> ?_;simp only[go_sem,sU];apply I;refine j.bJ rfl (j.exit rfl (j.J (j.J ?_)));have wZ:decide ((-1:Int)<0)=true:=rfl;refine j.rg [6,7,12,13,14] fun K I=> ?_;simp only[go_sem,wZ];apply I;refine j.bZ rfl (j.J ?_);have c1:ll m w (n-out.length) out=out:=by
  have ns:=Pw (p:=iW m w out) (n:=n) fun k aj=>dr k (by omega);cases n-out.length with
  |zero=>rfl
  |succ f=>rw[ll,←au,ns]
 refine j.rebase [12] ?_;simp only[go_sem];refine j.le (cn.refl _) (aQ.append_left (cellsOf o 1 (out.map a_)) _) ?_;rw[←List.append_nil (cellsOf o 1 (out.map a_))];refine pW 12 (o:=o) (xs:=out.map a_) (by rw[List.length_map];rfl) ⟨fun c ag=>rfl,aT.zero⟩ (fun c ag=>dO.nil c) (fun c ag p aP aj=> ?_) ?_
 ·simp only[List.mem_cons,List.not_mem_nil,or_false]at aP;rcases aP with rfl<;>first|rfl|exact absurd rfl aj
 simp only[go_sem];refine j.rg [12] fun K I=> ?_;simp only[go_sem];apply I;refine j.ret ar Tryz.func45 (by simp[go_sem]) ?_;simp only[go_sem];left
 rw[JS,D2,c1];rfl
def iv (m:bK) (aD:List ByteArray):List ByteArray:=if aD.length=0 then ko m else aD
def AT:Nat⊕List Nat→Nat
 | .inl c=>c
 | .inr _=>0
def hv (m:bK) (aD:List ByteArray):Nat:=if ku m≠0 then ku m else if p7 m=true then 5 else AT (hX m (iv m aD))
def h9 (m:bK) (aD:List ByteArray):List ByteArray:=if ku m≠0 then []else if p7 m=true then []else iv m aD
theorem Mc (m:bK) (af:∀e∈m.edges,e.small) (aw:m.defs.length<2^20) (aA:m.edges.length<2^20):(ko m).length<2^30:=by
 unfold ko;split
 ·omega
 have aa:(dB m (m.edges.flatMap aM.outs)).length≤(m.edges.flatMap aM.outs).length:=List.length_filter_le ..;have ah:=vT m af m.edges.length (Nat.le_refl _);unfold cR at ah;rw[List.take_length]at ah;omega
theorem Oc (m:bK) (aD:List ByteArray) (σ:al) (aA:m.edges.length<2^20) (af:∀e∈m.edges,e.small) (aw:m.defs.length<2^20) (bc:aD.length<2^30):
  AC Tryz.prog 43 [m.d, .ai (aD.map ab)] σ (fun e σ'=>e= .ret (.bd [.ai ((h9 m aD).map ab), .v (.int .i64 (hv m aD:Int))])∧σ'=σ):=by
 refine AC.still ?_ σ;refine AC.forget (R:=fun e _=>e= .ret (.bd [.ai ((h9 m aD).map ab), .v (.int .i64 (hv m aD:Int))])) ?_ fun e σ' h=>⟨[],aQ.nil _,h,rfl⟩;refine AC.l7 (R:=fun e _=>e= .ret (.bd [.ai ((h9 m aD).map ab), .v (.int .i64 (hv m aD:Int))])∨(h9 m aD=[]∧e= .ret (.bd [.v (.slice none 0 0), .v (.int .i64 (hv m aD:Int))]))) ?_ fun e σ' h=> ?_;rotate_left
 ·rcases h with h|⟨bj,rfl⟩
  ·exact .inl h
  refine .inr ⟨_, .bd [.ai ((h9 m aD).map ab), .v (.int .i64 (hv m aD:Int))],rfl,fun w S v h=> ?_,rfl⟩;rw[bj];cases h with
  |bd h=>
   obtain⟨a0,gH,rfl,hI,h⟩:=h.cons_inv;exact .bd (.cons (ca.pU _ _ _ hI) h)
 have fX:m.d= .agg [.ai (m.edges.map aM.d), .ai (m.defs.map ab)]:=rfl;have hk:(aD.map ab).length=aD.length:=List.length_map ..;have vB:(iv m aD).length<2^30:=by
  unfold iv;split
  ·exact Mc m af aw aA
  exact bc
 refine AC.bI Tryz.func43 Tryz.ntmps43 fun C ar=> ?_;rw[fX];refine j.J (j.rg [0,1] fun K I=> ?_);simp only[go_sem];intro bP;apply I;have g1:av bP [(bP,aE.arr 2 [D.agg [.ai (m.edges.map aM.d), .ai (m.defs.map ab)]])]=some (.arr 2 [D.agg [.ai (m.edges.map aM.d), .ai (m.defs.map ab)]]):=by rw[bE]
 refine j.J (j.J (j.rg [1,2] fun K I=> ?_));simp only[go_sem,g1];refine a1 Tryz.call21 (YD m _ aA af) ?_;simp only[go_sem];apply I;refine j.J (j.rg [1,2,6] fun K I=> ?_);simp only[go_sem];apply I;refine j.cond rfl (fun e9=> ?_) (fun e9=> ?_)
 ·have hw:ku m≠0:=by
   have:=e9;rw[bne_iff_ne]at this;omega
  refine j.J (j.rg [6] fun K I=> ?_);simp only[go_sem];apply I;refine j.ret ar Tryz.func43 (by simp[go_sem]) ?_;simp only[go_sem];right
  exact⟨if_pos hw,by rw[show hv m aD=ku m from if_pos hw]⟩
 have hw:¬ku m≠0:=by
  have:=e9;rw[bne_eq_false_iff_eq]at this;omega
 refine j.aN (j.J (j.J (j.rg [1,2] fun K I=> ?_)));simp only[go_sem,g1];refine a1 Tryz.call26 (Wl m _ aA af) ?_;simp only[go_sem];apply I;refine j.cond rfl (fun fV=> ?_) (fun fV=> ?_)
 ·have cu:hv m aD=5:=by unfold hv;rw[if_neg hw,if_pos fV]
  refine j.J (j.rg [] fun K I=> ?_);simp only[go_sem];apply I;refine j.ret ar Tryz.func43 (by simp[go_sem]) ?_;simp only[go_sem];right
  exact⟨by unfold h9;rw[if_neg hw,if_pos fV],by rw[cu];rfl⟩
 have bx:hv m aD=AT (hX m (iv m aD)):=by unfold hv;rw[if_neg hw,if_neg (by rw[fV];decide)]
 have bY:h9 m aD=iv m aD:=by unfold h9;rw[if_neg hw,if_neg (by rw[fV];decide)]
 refine j.aN (j.J (j.J (j.rg [1,2] fun K I=> ?_)));simp only[go_sem,hk];apply I;refine j.join (fun env' σ'=>env'=[(1, .ai ((iv m aD).map ab)),(2, .ptr bP 2 0 0)]∧σ'=[(bP,aE.arr 2 [D.agg [.ai (m.edges.map aM.d), .ai (m.defs.map ab)]])]) (fun k1 cb=> ?_) ?_
 ·refine j.cond rfl (fun od=> ?_) (fun od=> ?_)
  ·have bj:aD.length=0:=by simpa using od
   refine j.rg [2] fun K I=> ?_;simp only[go_sem,g1];refine a1 Tryz.call83 (Wh m _ aA af) ?_;simp only[go_sem];apply I;refine j.rebase [1,2] ?_;simp only[go_sem];exact cb _ _ ⟨by unfold iv;rw[if_pos bj],rfl⟩
  have bj:¬aD.length=0:=by simpa using od
  refine j.aN ?_;refine j.rebase [1,2] ?_;simp only[go_sem];exact cb _ _ ⟨by unfold iv;rw[if_neg bj],rfl⟩
 rintro env' σ' ⟨rfl,rfl⟩;refine j.J ?_;rcases aP:hX m (iv m aD)with c|P
 ·refine j.rg [1,2] fun K I=> ?_;simp only[go_sem,g1];refine a1 Tryz.call45 (FB m (iv m aD) _ aA af vB) ?_;simp only[go_sem,aP,um];apply I;refine j.J (j.rg [1,8] fun K I=> ?_);simp only[go_sem];apply I;refine j.ret ar Tryz.func43 (by simp[go_sem]) ?_;simp only[go_sem];left
  rw[bY,bx,aP];rfl
 refine j.rg [1,2] fun K I=> ?_;simp only[go_sem,g1];refine a1 Tryz.call45 (FB m (iv m aD) _ aA af vB) ?_;simp only[go_sem,aP,um];apply I;refine j.J (j.rg [1,8] fun K I=> ?_);simp only[go_sem];apply I;refine j.ret ar Tryz.func43 (by simp[go_sem]) ?_;simp only[go_sem];left
 rw[bY,bx,aP];rfl
end Go.Ab.S16
namespace Go.Ab
open Go
variable {P : Program} {N : cP} {C : Ctx P N} {k : List Item} {env : Env} {σ : al} {ops : Array Oper} {i U : Nat} {rest : List Nat} {dH dI : Oper}
theorem j.U6 (tL:ops[i]?=some dH) (gk:dH.guard=none) (qD:ops[U]?=some dI) (cW:dI.guard=none) {T e8:TypeId} {len k1 k2:Nat} {ps:Array (Nat×Operand)} (DZ:dH.op= .buildSlice T len ps) (lM:dH.dst=some k1) (JL:dI.op= .convert T T (.tmp k1)) (hS:dI.dst=some k2)
  (Iv:dstB N (some k1)) (Qz:dstB N (some k2)) (bY:P.underlying T=some (.slice e8)) (qi:P.underlying e8=some (.int .u8))
  (ak:cQ P (cK C) (fun env' σ'=>j C (.inRegion ops rest::k) (eputo (some k2) (eget k1 env') env') σ') (some k1) env σ (aBuildSlice P T len (ps.toList.map fun p=>(p.1,ev env p.2)))):
  j C (.inRegion ops (i::U::rest)::k) env σ:=by
 intro a w S aw h;unfold aBuildSlice at ak;split at ak
 ·rename_i e he
  have Rf:e=e8:=by
   have:=l6 he;rw[bY]at this;cases this;rfl
  subst Rf;split at ak
  ·rename_i n z au aO
   split at ak
   ·rename_i xs hG
    obtain⟨⟨aa,ah,aJ,bg,cu⟩,aj⟩:=ak;have lX:bw w S (cx z) z:=nN aa;have qR:=pY lX aJ;have x_:z.cells.size=n:=by have:=qR.length;simpa [ah]using this
    obtain⟨cI,ax,iM,eo,oF⟩:=Cj (n:=n) (len:=len) _ (ps.toList.map fun p=>(p.1,a.eval p.2)) _ xs ((Array.range (len*n)).map (z.cells[· %z.cells.size]!)) hG (by simp) (AP h ps.toList)
     (fun x an=>by rw[(List.mem_replicate.1 an).2];exact ah) (by simp) (AG qR ah)
    have dE:=n' xs n eo;have tp:cI.size=len*n:=by have:=iM.length;rw[dE,oF]at this;simpa using this
    have oH:¬(16777216<len*n):=by omega
    have qx:Instr.fill (fun i=>some (i*n,n)) (Array.map (fun x=>z.cells[x%z.cells.size]!) (Array.range (len*n))) (List.map (fun p=>(p.1,a.eval p.2)) ps.toList)=some cI:=ax;have qI:(execOp a.eval dH).run P w= .ok (.value (.slice (some ⟨w.heap.size,0,none⟩) len len)) (w.alloc (.cells cI e)):=by
     by_cases bj:len*n=0
     ·have Ev:Array.map (fun x=>z.cells[x%z.cells.size]!) (Array.range 0)=(#[]:Array Value):=by simp
      rw[bj,Ev]at qx;simp[execOp,DZ,Instr.buildSlice,run_underlying (l6 he),run_sizeOf au,bj,qx,newRow,Array.range_zero']
     simp[execOp,DZ,Instr.buildSlice,run_underlying (l6 he),run_sizeOf au,p0 aO,bj,oH,qx,newRow]
    have ki:Region.wanted dH (yielded ops a.tmps)=true:=by simp[Region.wanted,gk]
    refine AK tL ki (fun c ag=>by rw[DZ]at ag;cases ag) ?_
    simp only[Oper.wp,Oper.upon,qI];have iO:Region.wanted dI (yielded ops (a.put dH.dst (.slice (some ⟨w.heap.size,0,none⟩) len len)).tmps)=true:=by simp[Region.wanted,cW]
    refine AK qD iO (fun c ag=>by rw[JL]at ag;cases ag) ?_
    have lb:gR (w.alloc (.cells cI e (cI.size,cI.size+1))) S w.heap.size (.arr n xs):=
     ⟨cI,e,cI.size,cI.size+1,_,heap_alloc w _,iM.ev (uW h.fr.lt _),fun k x an=>by simpa using an,eo, .inr (Nat.le_refl _)⟩
    have cl:bw (w.alloc (.cells cI e (cI.size,cI.size+1))) S (.own (some w.heap.size) n len) (.slice (some ⟨w.heap.size,0,none⟩) len len):=bw.own (heap_alloc w _) (Nat.le_refl _) (by omega) (by omega);have hj:=l_ (dst:=some k1) h (kZ Iv) cl (wm h.store h.fr.lt _ _ lb) (w7 h _ (.arr n xs));have fZ:=l_ (dst:=some k2) hj (kZ Qz) cl hj.store (Fr.refl _ hj.fr.lt);have cG:(a.put dH.dst (.slice (some ⟨w.heap.size,0,none⟩) len len)).eval (.tmp k1)= .slice (some ⟨w.heap.size,0,none⟩) len len:=by
     have aC:k1<a.tmps.size:=by rw[h.size.1];exact(kZ Iv k1 rfl).1
     rw[lM];simp[Act.put,Act.eval,aC]
    have SD:(execOp (a.put dH.dst (.slice (some ⟨w.heap.size,0,none⟩) len len)).eval dI).run P (w.alloc (.cells cI e))= .ok (.value (.slice (some ⟨w.heap.size,0,none⟩) len len)) (w.alloc (.cells cI e (cI.size,cI.size+1))):=by
     have:=Lib.run_convert_bytes_const (P:=P) w T e cI len len bY qi;simp[execOp,JL,cG,this]
    simp only[Oper.wp,Oper.upon,SD];have ch:=aj _ (lh h.store);rw[lM,hS];refine ch _ _ S ?_ ?_
    ·rw[put_defers,put_defers];exact aw
    simpa [eputo,j6]using fZ
   exact ak.elim
  exact ak.elim
 exact ak.elim
end Go.Ab
namespace Go.Ab.S16
open Go Go.Proofs Go.RowKit
def sy:Nat⊕List ay→List ay
 | .inl _=>[]
 | .inr l=>l
def ux:Nat⊕List ay→Nat
 | .inl c=>c
 | .inr _=>0
theorem Hz (m:bK) (l:List ay) (aD:List ByteArray) (cG:wG m l aD) (σ:al):
  AC Tryz.prog 12 [m.d, .ai (l.map ay.d), .ai (aD.map ab)] σ (fun e σ'=>e= .ret (.bd [.ai ((sy (hy m l aD)).map ay.d),d_ (ux (hy m l aD))])∧σ'=σ):=by
 have h:=Pm m l aD cG;have ah:AC Tryz.prog 12 [m.d, .ai (l.map ay.d), .ai (aD.map ab)] [] (fun e σ'=>(e= .ret (.bd [.ai ((sy (hy m l aD)).map ay.d),d_ (ux (hy m l aD))])∧σ'=[])∨∃a7 b,hy m l aD= .inr a7∧e= .ret (.bd [.own (some b) 2 a7.length,d_ 0])∧σ'=[(b, .arr 2 (a7.map ay.d))]):=by
  refine(h.l7 (R':=fun e σ'=>(e= .ret (.bd [.ai ((sy (hy m l aD)).map ay.d),d_ (ux (hy m l aD))]))∨∃a7 b,hy m l aD= .inr a7∧e= .ret (.bd [.own (some b) 2 a7.length,d_ 0])∧aQ [(b, .arr 2 (a7.map ay.d))] σ') fun e σ' bR=> ?_).forget fun e σ' bR=> ?_
  ·cases ag:hy m l aD with
   |inl c=>
    rw[ag]at bR;refine .inr ⟨_,_,bR,fun w S v ak=> ?_, .inl rfl⟩;cases ak with
    |bd ao=>
     obtain⟨v0,vs,rfl,gH,fJ⟩:=ao.cons_inv;exact .bd (.cons (ca.pU w S v0 gH) fJ)
   |inr a7=>
    rw[ag]at bR;obtain⟨o,aq,he,af⟩:=bR;cases o with
    |some b=>exact .inl (.inr ⟨a7,b,rfl,he,af⟩)
    |none=>
     have an:=aq.zero rfl;refine .inr ⟨_,_,he,fun w S v ak=> ?_, .inl rfl⟩;cases ak with
     |bd ao=>
      obtain⟨v0,vs,rfl,gH,fJ⟩:=ao.cons_inv;refine .bd (.cons ?_ fJ);show bw w S (.ai (a7.map ay.d)) v0
      rw[an];exact ca.l5 _ _ w S v0 gH
  rcases bR with h|⟨a7,b,aa,ah,aJ⟩
  ·exact⟨[],aQ.nil _, .inl ⟨h,rfl⟩⟩
  exact⟨_,aJ, .inr ⟨a7,b,aa,ah,rfl⟩⟩
 refine ah.AU (R':=fun e=>e= .ret (.bd [.ai ((sy (hy m l aD)).map ay.d),d_ (ux (hy m l aD))])) (fun e σ' bR=> ?_) σ;rcases bR with aJ|⟨a7,b,ag,rfl,rfl⟩
 ·exact .inl aJ
 refine .inr ⟨_,b,2,_,rfl,rfl, ?_⟩;rw[ag];unfold d_ sy ux;simp only[D.b',hb,true_and];rw[if_pos (by simp),List.take_of_length_le (by simp)];rfl
def str (l:List UInt8):ByteArray:=aK l
def y0:bK:=⟨[⟨[aK [99]],[aK [98]],[],[],aK [99,97,116,32,98,32,98,32,62,32,99],aK []⟩,⟨[aK [98]],[aK [97]],[],[],aK [99,97,116,32,97,32,62,32,98],aK []⟩],[]⟩
def uP:List ay:=[⟨aK [97],[120]⟩]
def GH:List ay:=[⟨aK [98],[120]⟩,⟨aK [99],[120,120]⟩]
theorem NS:hy y0 uP []= .inr GH:=by kernel_rfl
theorem yH (p:Nat→Bool) (s:ByteArray):∀(f pos:Nat) (st:Option Nat) (acc:List (Nat×Nat)),(Lib.spansFromP p s f pos st acc).1.length≤acc.length+f
 |0,_,_,_=>Nat.le_refl _
 |f+1,pos,st,acc=>by
  unfold Lib.spansFromP;split
  ·split
   ·split
    ·refine Nat.le_trans (yH p s f _ _ _) ?_;rw[List.length_append];simp;omega
    exact Nat.le_trans (yH p s f _ _ _) (by omega)
   split
   ·exact Nat.le_trans (yH p s f _ _ _) (by omega)
   exact Nat.le_trans (yH p s f _ _ _) (by omega)
  exact Nat.le_add_right _ _
theorem YA (s:ByteArray):(e3 s).length≤s.size+1:=by
 unfold e3 Lib.goFieldsP Lib.spansOfP;rw[List.length_map];have:=yH (fun x=>x==32) s s.size 0 none [];generalize Lib.spansFromP (fun x=>x==32) s s.size 0 none []=r at this;unfold Lib.closeSpans;split
 ·rw[List.length_append];simp at this⊢;omega
 simp at this;omega
theorem Nh (s:ByteArray):∀w∈e3 s,w.size≤s.size:=fun w hw=>by
 unfold e3 Lib.goFieldsP at hw;obtain⟨x,_,rfl⟩:=List.mem_map.1 hw;rw[ByteArray.size_extract];omega
theorem Vf {ws outs:List ByteArray} {dep:ByteArray} (h:gx ws=some (outs,dep)):outs.length≤ws.length:=by
 have key:∀{ws outs:List ByteArray} {d dep:ByteArray},gf ws d=some (outs,dep)→outs=ws:=fun{ws outs d dep} h=>by
  unfold gf at h;split at h
  ·cases h;rfl
  cases h
 unfold gx at h;split at h
 ·split at h
  ·rw[key h,List.length_take];omega
  cases h
 rw[key h];exact Nat.le_refl _
theorem Xy {cmd:ByteArray} {x:kU} (h:h1 cmd=some x):x.args.length≤(e3 cmd).length∧(∀w∈x.args,w∈e3 cmd)∧x.outs.length≤(e3 cmd).length:=by
 have key:∀{o:Bool} {ws:List ByteArray},lp o ws=some x→x.args.length≤ws.length∧(∀w∈x.args,w∈ws)∧x.outs.length≤ws.length:=fun{o ws} h=>by
  unfold lp at h;split at h
  ·split at h
   ·split at h
    ·rename_i aH
     split at h
     ·cases h
      have:=Vf aH;refine⟨?_,fun w hw=>List.mem_of_mem_take (List.mem_of_mem_drop hw), ?_⟩
      ·simp only[List.length_drop,List.length_take];omega
      rw[List.length_drop]at this;exact Nat.le_trans this (by omega)
     cases h
    cases h
   cases h
  cases h
 unfold h1 at h;split at h
 ·obtain⟨aa,ah,aJ⟩:=key h;rw[List.length_drop]at aa aJ;exact⟨by omega,fun w hw=>List.mem_of_mem_drop (ah w hw),by omega⟩
 exact key h
theorem TJ (c:UInt8) (B:Nat):∀l:List (List UInt8),(∀x∈l,x.length≤B)→(Lib.join l [c]).length≤l.length*(B+1)
 |[],_=>by simp[Lib.join_nil]
 |x::r,h=>by
  have aa:=EK (x::r) c;have ah:hU (x::r)≤(x::r).length*(B+1):=by
   have:∀l:List (List UInt8),(∀x∈l,x.length≤B)→hU l≤l.length*(B+1):=by
    intro l;induction l with
    |nil=>intro _;simp[hU]
    |cons y l aB=>
     intro aA;have a:=aA y (by simp);have b:=aB fun z aO=>aA z (by simp[aO]);unfold hU at b⊢;rw[List.map_cons,List.sum_cons,List.length_cons,Nat.succ_mul];omega
   exact this _ h
  exact Nat.le_trans aa ah
theorem Ha (cmd:ByteArray) (h:cmd.size≤20000):uI cmd:=by
 have aa:=YA cmd;refine⟨by omega,by omega,fun w hw=>by have:=Nh cmd w hw;omega,fun x an=> ?_⟩;obtain⟨hP,a2,a3⟩:=Xy an;refine⟨by omega, ?_,by omega⟩;have:=TJ 32 20000 (x.args.map (·.data.toList)) (fun y aF=>by
  obtain⟨w,hw,rfl⟩:=List.mem_map.1 aF;have:=Nh cmd w (a2 w hw);have af:w.data.toList.length=w.size:=by simp
  omega)
 rw[List.length_map]at this;have:x.args.length*(20000+1)≤20001*20001:=Nat.mul_le_mul (by omega) (by omega);omega
end Go.Ab.S16
namespace Go.Ab
open Go
variable {P : Program}
mutual
def kl:D→D
 | .v (.slice none 0 0)=> .ai []
 | .agg cs=> .agg (oW cs)
 | .ai xs=> .ai (oW xs)
 | .bd xs=> .bd (oW xs)
 |d=>d
def oW:List D→List D
 |[]=>[]
 |d::r=>kl d::oW r
end
theorem vO:∀ds,oW ds=ds.map kl
 |[]=>rfl
 |d::ds=>by rw[oW,vO ds];rfl
theorem K8 (x:Value):kl (.v x)= .v x∨(x= .slice none 0 0∧kl (.v x)= .ai []):=by
 by_cases h:x= .slice none 0 0
 ·subst h;exact .inr ⟨rfl,by unfold kl;rfl⟩
 refine .inl ?_;unfold kl;split<;>first|rfl|simp_all
theorem K7 (d:D):(kl d).cells=d.cells.map kl:=by
 cases d with
 |agg cs=>simp[kl,D.cells,vO]
 |ai xs=>simp[kl,D.cells]
 |bd xs=>simp[kl,D.cells]
 |v x=>
  rcases K8 x with h|⟨_,h⟩<;>simp[h,D.cells]
 |_=>simp[kl,D.cells]
theorem HO:∀ds:List D,flat (ds.map kl)=(flat ds).map kl
 |[]=>rfl
 |d::ds=>by simp[K7,HO ds]
mutual
theorem Wn {w:World} {S:Nat→Prop}:∀{d:D} {v:Value},bw w S d v→bw w S (kl d) v
 |_,_, .any=> .any
 |_,_, .v (x:=x) h=>by
  rcases K8 x with aa|⟨rfl,aa⟩
  ·rw[aa];exact .v h
  rw[aa];exact .iX
 |_,_, .ptr=> .ptr
 |_,_, .c0 aa ah aJ=> .c0 aa ah aJ
 |_,_, .iX=> .iX
 |_,_, .ai (xs:=xs) (cap:=cap) (b:=b) (off:=off) aa ah aJ bg cu=>by
  have aA:(oW xs).length=xs.length:=by rw[vO,List.length_map]
  have ao:=yy ah;rw[vO,←HO,←vO]at ao;have key:bw w S (.ai (oW xs)) (.slice (some ⟨b,off,none⟩) (oW xs).length cap):=bw.ai aa ao aJ (fun y aF=>by
   rw[vO]at aF;obtain⟨z,aO,rfl⟩:=List.mem_map.1 aF;rw[K7,List.length_map];exact bg z aO) (by rw[aA];exact cu)
  rw[aA]at key;exact key
 |_,_, .hV=> .hV
 |_,_, .own a8 au ag hm=> .own a8 au ag hm
 |_,_, .lv=> .lv
 |_,_, .win a8 au ag hm=> .win a8 au ag hm
 |_,_, .agg ao=> .agg (yy ao)
 |_,_, .bd ao=> .bd (yy ao)
 |_,_, .map=> .map
 |_,_, .bX ax ag=> .bX ax ag
 |_,_, .dX h=> .dX h
theorem yy {w:World} {S:Nat→Prop}:∀{ds:List D} {vs:List Value},bq w S ds vs→bq w S (oW ds) vs
 |_,_, .nil=> .nil
 |_,_, .cons h t=> .cons (Wn h) (yy t)
end
theorem AC.kl {f:FuncId} {args ky:List D} {σ:al} {R:cf→al→Prop} (h:AC P f ky σ R) (he:oW args=ky):AC P f args σ R:=
 h.uL fun w S vs ao=>he▸yy ao
end Go.Ab
namespace Go.Ab.S16
open Go Go.Proofs Go.RowKit
theorem Cb (outs ins impl order:List ByteArray) (cmd dep:ByteArray) (aa:outs.length≤10) (ah:ins.length≤10) (aJ:impl.length≤10) (bg:order.length≤10) (ag:cmd.size≤20000) (af:∀f∈outs++ins++impl++order,f.size<2^40):BJ ⟨outs,ins,impl,order,cmd,dep⟩:=
 ⟨⟨aa,ah,aJ,bg⟩,Ha cmd ag,fun f ax=>af f (by simp[ax]),fun f ax=>af f (by
  have:f∈ins++impl++order:=ax;simp only[List.mem_append]at this⊢;rcases this with(h|h)|h
  ·exact .inl (.inl (.inr h))
  ·exact .inl (.inr h)
  exact .inr h)⟩
theorem NT:wG y0 uP []:=by
 refine⟨by decide,fun e he=> ?_,by decide,by decide,fun f ax=> ?_,by decide⟩
 ·simp only[y0,List.mem_cons,List.not_mem_nil,or_false]at he;rcases he with rfl|rfl
  ·exact Cb _ _ _ _ _ _ (by decide) (by decide) (by decide) (by decide) (by decide) (by decide)
  exact Cb _ _ _ _ _ _ (by decide) (by decide) (by decide) (by decide) (by decide) (by decide)
 simp only[uP,List.mem_cons,List.not_mem_nil,or_false]at ax;subst ax;exact⟨by decide,by decide⟩
theorem NO {α:Type} (a b c d e:α) (l:List α):(a::b::c::d::e::l).toArray[4]?=some e:=rfl
theorem NP {α:Type} (a b c d e f:α) (l:List α):(a::b::c::d::e::f::l).toArray[5]?=some f:=rfl
theorem NQ {α:Type} (a b c d e f g:α) (l:List α):(a::b::c::d::e::f::g::l).toArray[6]?=some g:=rfl
theorem NR {α:Type} (a b c d e f g h:α) (l:List α):(a::b::c::d::e::f::g::h::l).toArray[7]?=some h:=rfl
theorem at8 {α:Type} (a b c d e f g h i:α) (l:List α):(a::b::c::d::e::f::g::h::i::l).toArray[8]?=some i:=rfl
theorem at9 {α:Type} (a b c d e f g h i U:α) (l:List α):(a::b::c::d::e::f::g::h::i::U::l).toArray[9]?=some U:=rfl
theorem NN {α:Type} (a b c d e f g h i U k:α) (l:List α):(a::b::c::d::e::f::g::h::i::U::k::l).toArray[10]?=some k:=rfl
theorem NU (σ:al):AC Tryz.prog 17 [] σ (fun e σ'=>e= .ret (.v (.bool true))∧σ'=σ):=by
 refine AC.still ?_ σ;refine AC.forget (R:=fun e _=>e= .ret (.v (.bool true))) ?_ fun e σ' h=>⟨[],aQ.nil _,h,rfl⟩;have cG:=fun σ=>Hz y0 uP [] NT σ;simp only[NS,sy,ux]at cG;refine AC.bI Tryz.func17 Tryz.ntmps17 fun C ar=> ?_;refine j.J (j.rg [] fun K I=> ?_);simp only[go_sem];apply I;refine j.J ?_;refine j.fw [] [4,5,7,8,10] fun K I=> ?_;simp only[go_sem];refine⟨by decide,by decide,by decide,by decide,⟨by decide,by decide⟩,fun bP=> ?_⟩;apply I;refine j.J ?_;refine j.v' [1] ?_;refine j.op (uM _ _) rfl nofun gC ?_;simp only[go_sem];refine j.U6 (e8:=5) (uN _ _ _) rfl (uO _ _ _ _) rfl rfl rfl rfl rfl gC gC (by kernel_rfl) (by kernel_rfl) ?_;simp only[go_sem];refine⟨by decide,fun b ae=> ?_⟩;refine j.rebase [13,15] ?_;simp only[go_sem];refine j.le (cn.refl _) (σ':=cellsOf (some b) 1 [bD 120]++[]) (wh (aQ.nil _)) ?_;refine pW 15 (o:=some b) (xs:=[bD 120]) rfl ⟨fun c ag=>rfl,nofun⟩ (fun c ag=>dO.nil c) (fun c ag p aP aj=> ?_) ?_
 ·simp only[List.mem_cons,List.not_mem_nil,or_false]at aP;rcases aP with rfl|rfl
  ·rfl
  exact absurd rfl aj
 simp only[go_sem];refine j.op (BV _ _ _ _ _) rfl nofun gC ?_;simp only[go_sem];refine j.op (NO _ _ _ _ _ _) rfl nofun gC ?_;simp only[go_sem];refine⟨⟨by decide,by decide⟩,fun br=> ?_⟩;refine j.rebase [13,17] ?_;simp only[go_sem];refine j.le (cn.refl _) (σ':=cellsOf (some br) 2 (uP.map ay.d)++[]) (wh (aQ.nil _)) ?_;refine pW 17 (o:=some br) (xs:=uP.map ay.d) rfl ⟨fun c ag=>rfl,nofun⟩ (fun c ag=>dO.nil c) (fun c ag p aP aj=> ?_) ?_
 ·simp only[List.mem_cons,List.not_mem_nil,or_false]at aP;rcases aP with rfl|rfl
  ·rfl
  exact absurd rfl aj
 simp only[go_sem];refine j.op (NP _ _ _ _ _ _ _) rfl nofun gC ?_;simp only[go_sem];refine a1 Tryz.call12 ((cG _).kl (by kernel_rfl)) ?_;simp only[go_sem];refine j.op (NQ _ _ _ _ _ _ _ _) rfl nofun gC ?_;simp only[go_sem];refine j.op (NR _ _ _ _ _ _ _ _ _) rfl nofun gC ?_;simp only[go_sem];refine j.op (at8 _ _ _ _ _ _ _ _ _ _) rfl nofun gC ?_;simp only[go_sem];refine j.op (at9 _ _ _ _ _ _ _ _ _ _ _) rfl nofun gC ?_;simp only[go_sem];refine j.op (NN _ _ _ _ _ _ _ _ _ _ _ _) rfl nofun gC ?_;simp only[go_sem];refine j.uv ?_;refine j.J ?_;have aH:GH.map ay.d=[.agg [.v (.string ⟨#[98]⟩), .ai [bD 120]], .agg [.v (.string ⟨#[99]⟩), .ai [bD 120,bD 120]]]:=rfl;rw[aH];unfold d_;have s6:(((0:Nat):Int)==0)=true:=rfl;have Qg:(((2:Nat):Int)==2)=true:=rfl;have iC:decide ((0:Int)≤((UInt8.toNat 120:Nat):Int)∧((UInt8.toNat 120:Nat):Int)<256)=true:=by decide
 have mB:bytesOf [D.v (Value.int .u8 ((UInt8.toNat 120:Nat):Int))]=⟨#[120]⟩:=rfl;have hR:bytesOf [D.v (Value.int .u8 ((UInt8.toNat 120:Nat):Int)),D.v (Value.int .u8 ((UInt8.toNat 120:Nat):Int))]=⟨#[120,120]⟩:=rfl;refine j.rg [2,3] fun K I=> ?_;simp only[go_sem,s6,Qg,iC,mB,hR,BEq.rfl,Bool.and_self];refine⟨by decide,by decide,by decide,by decide, ?_⟩;apply I;refine j.ret ar Tryz.func17 (by simp[go_sem]) ?_;simp only[go_sem]
def aM.all (e:aM):List ByteArray:=e.outs++e.ins++e.impl++e.order
def cN (m:bK) (i:Nat):List ByteArray:=m.defs++(m.edges.take i).flatMap aM.all
def rC (e:aM):Bool:=decide (e.outs.length≤10∧e.ins.length≤10∧e.impl.length≤10∧e.order.length≤10∧e.cmd.size≤300∧e.dep.size≤200)
def jg (m:bK):Bool:=decide (m.edges.length≤30∧m.defs.length≤20)&&m.edges.all rC&&(cN m m.edges.length).all fun f=>decide (f.size≤200)
def qV (l:List ay):Bool:=decide (l.length≤10)&&l.all fun f=>decide (f.b.length≤200∧f.name.size≤200)
theorem K6 (m:bK) (i:Nat) (h:i<m.edges.length):cN m (i+1)=cN m i++m.edges[i].all:=by
 unfold cN;rw[List.take_succ_eq_append_getElem h,List.flatMap_append,←List.append_assoc];simp
theorem ze {m:bK} (h:jg m=true):∀e∈m.edges,rC e=true:=fun e he=>by
 unfold jg at h;rw[Bool.and_eq_true,Bool.and_eq_true,List.all_eq_true]at h;exact h.1.2 e he
theorem HB {m:bK} (h:jg m=true):∀f∈cN m m.edges.length,f.size≤200:=fun f ax=>by
 unfold jg at h;rw[Bool.and_eq_true,List.all_eq_true]at h;simpa using h.2 f ax
theorem Ci {m:bK} (h:jg m=true):m.edges.length≤30∧m.defs.length≤20:=by
 unfold jg at h;rw[Bool.and_eq_true,Bool.and_eq_true,decide_eq_true_eq]at h;exact h.1.1
theorem w5 {e:aM} (h:rC e=true):e.small∧e.cmd.size≤300∧e.dep.size≤200:=by
 unfold rC at h;rw[decide_eq_true_eq]at h;exact⟨⟨h.1,h.2.1,h.2.2.1,h.2.2.2.1⟩,h.2.2.2.2⟩
theorem Ch {m:bK} (h:jg m=true→False):D.v (Value.bool false)=D.v (Value.bool (jg m)):=by
 cases ae:jg m with
 |false=>rfl
 |true=>exact(h ae).elim
theorem po {m:bK} (h:30<m.edges.length∨20<m.defs.length):cf.ret (D.v (Value.bool false))=cf.ret (D.v (Value.bool (jg m))):=congrArg cf.ret (Ch fun ae=>by have:=Ci ae;omega)
theorem pq {m:bK} {i:Nat} (hi:i<m.edges.length) (h:10<m.edges[i].outs.length∨10<m.edges[i].ins.length∨10<m.edges[i].impl.length∨10<m.edges[i].order.length∨300<m.edges[i].cmd.size∨200<m.edges[i].dep.size):cf.ret (D.v (Value.bool false))=cf.ret (D.v (Value.bool (jg m))):=congrArg cf.ret (Ch fun ae=>by obtain⟨⟨hP,a2,a3,a4⟩,a5,Nv⟩:=w5 (ze ae _ (List.getElem_mem hi));omega)
theorem pr {m:bK} {U:Nat} (aR:U<(cN m m.edges.length).length) (h:200<(cN m m.edges.length)[U].size):cf.ret (D.v (Value.bool false))=cf.ret (D.v (Value.bool (jg m))):=congrArg cf.ret (Ch fun ae=>by have:=HB ae _ (List.getElem_mem aR);omega)
theorem NG {e:aM} (h:e.small):e.all.length≤40:=by
 have aa:=h.outs;have ah:=h.ins;have aJ:=h.impl;have bg:=h.order;unfold aM.all;simp only[List.length_append];omega
theorem E3 {m:bK} (aw:m.defs.length≤20):∀i,i≤m.edges.length→(∀e∈m.edges.take i,rC e=true)→(cN m i).length≤20+40*i
 |0,_,_=>by simp[cN];omega
 |i+1,h,af=>by
  rw[List.take_succ_eq_append_getElem (by omega)]at af;have aa:=E3 aw i (by omega) fun e he=>af e (List.mem_append.2 (.inl he));have ah:=NG (w5 (af m.edges[i] (List.mem_append.2 (.inr (List.mem_singleton.2 rfl))))).1;rw[K6 m i (by omega),List.length_append];omega
theorem pn {m:bK} (aa:m.edges.length≤30) (ah:m.defs.length≤20) (aJ:∀e∈m.edges.take m.edges.length,rC e=true) (bg:∀f∈(cN m m.edges.length).take (cN m m.edges.length).length,f.size≤200):D.v (Value.bool true)=D.v (Value.bool (jg m)):=by
 rw[List.take_length]at aJ bg;have:jg m=true:=by
  unfold jg;rw[Bool.and_eq_true,Bool.and_eq_true,List.all_eq_true,List.all_eq_true,decide_eq_true_eq];exact⟨⟨⟨aa,ah⟩,aJ⟩,fun f ax=>by simpa using bg f ax⟩
 rw[this]
set_option maxRecDepth 4000 in
theorem zd (m:bK) (σ:al):AC Tryz.prog 10 [m.d] σ (fun e σ'=>e= .ret (.v (.bool (jg m)))∧σ'=σ):=by
 refine AC.still ?_ σ;refine AC.forget (R:=fun e _=>e= .ret (.v (.bool (jg m)))) ?_ fun e σ' h=>⟨[],aQ.nil _,h,rfl⟩;unfold bK.d;have bn:(m.edges.map aM.d).length=m.edges.length:=List.length_map ..;have ei:(m.defs.map ab).length=m.defs.length:=List.length_map ..;refine AC.bI Tryz.func10 Tryz.ntmps10 fun C ar=> ?_;refine j.J (j.rg [0] fun K I=> ?_);simp only[go_sem];intro bP;apply I;generalize eL:[(bP,aE.arr 2 [D.agg [.ai (m.edges.map aM.d), .ai (m.defs.map ab)]])]=ρ;have g1:av bP ρ=some (.arr 2 [D.agg [.ai (m.edges.map aM.d), .ai (m.defs.map ab)]]):=by rw[←eL,bE]
 refine j.J (j.J ?_);rcases(show(30<m.edges.length)∨(m.edges.length≤30∧20<m.defs.length)∨(m.edges.length≤30∧m.defs.length≤20)from by omega)with aa|⟨aa,ah⟩|⟨aa,ah⟩
 ·have d1:decide (((m.edges.length:Nat):Int)>30)=true:=decide_eq_true (by omega);refine j.rg [1] fun K I=> ?_;simp only[go_sem,g1,bn,ei,d1];apply I;refine j.bZ rfl (j.J (j.rg [] fun K I=> ?_));simp only[go_sem];apply I;refine j.ret ar Tryz.func10 (by simp[go_sem]) ?_;simp only[go_sem];first|exact po (by omega)|exact pq aC (by omega)|exact pr en (by omega)|exact congrArg cf.ret (pn aa ah gW ih)|skip
 ·have d1:decide (((m.edges.length:Nat):Int)>30)=false:=decide_eq_false (by omega);have d2:decide (((m.defs.length:Nat):Int)>20)=true:=decide_eq_true (by omega);refine j.rg [1] fun K I=> ?_;simp only[go_sem,g1,bn,ei,d1,d2];apply I;refine j.bZ rfl (j.J (j.rg [] fun K I=> ?_));simp only[go_sem];apply I;refine j.ret ar Tryz.func10 (by simp[go_sem]) ?_;simp only[go_sem];first|exact po (by omega)|exact pq aC (by omega)|exact pr en (by omega)|exact congrArg cf.ret (pn aa ah gW ih)|skip
 have d1:decide (((m.edges.length:Nat):Int)>30)=false:=decide_eq_false (by omega);have d2:decide (((m.defs.length:Nat):Int)>20)=false:=decide_eq_false (by omega);refine j.rg [1] fun K I=> ?_;simp only[go_sem,g1,bn,ei,d1,d2];apply I;refine j.bJ rfl (j.aN (j.J ?_));refine j.fw [1] [17] fun K I=> ?_;simp only[go_sem,g1,ei];refine⟨⟨c' _,by omega,by omega⟩,fun o aO ax=> ?_⟩;have RB:aV o 1 ((cN m 0).map ab) ρ:=⟨ax,by unfold cN;simpa using aO⟩
 have jq:cN m 0=m.defs:=by unfold cN;simp
 apply I;refine j.J (j.J (j.rg [1,3] fun K I=> ?_));simp only[go_sem];apply I;refine j.aG ?_;refine j.rebase [1,3,4] ?_;simp only[go_sem];refine j.while (fun(i:Nat) env' aS=>∃o:Option Nat,(i≤m.edges.length∧aV o 1 ((cN m i).map ab) ρ∧∀e∈m.edges.take i,rC e=true)∧env'=[(1, .ptr bP 2 0 0),(3, .own o 1 (cN m i).length),(4, .v (.int .i64 (i:Int)))]∧aS=cellsOf o 1 ((cN m i).map ab)++ρ) (fun(i:Nat)=>m.edges.length-i) 0 ⟨o,⟨by omega,RB,by simp⟩,by rw[jq];rfl,by rw[jq]⟩ ?_
 rintro i env' aS ⟨o,⟨hi,aT,gW⟩,rfl,rfl⟩ aB;have cH:=aB;refine j.J (j.J ?_);have gk:=aT.keep g1;refine j.rg [1,3,4] fun K I=> ?_;simp only[go_sem,gk,bn];apply I;refine j.cond rfl (fun CE=> ?_) (fun CE=> ?_)
 ·have aC:i<m.edges.length:=Int.ofNat_lt.1 (by simpa using CE);have aq:=b6 aM.d m.edges i aC;rw[aM.d]at aq;have bf:(0:Int)≤(i:Int):=by omega
  have bp:(i:Int)<(m.edges.length:Int):=by omega
  have mN:=E3 ah i hi gW;have eD:=K6 m i aC;refine j.aN (j.J (j.aG (j.J (j.rg [1,3,4] fun K I=> ?_))));simp only[go_sem,gk,bn,aq,bf,bp];intro be mC;apply I;obtain⟨gJ,hle⟩:=aT.push (x:= .arr 6 [aM.d m.edges[i]]) mC;refine j.le (cn.refl _) hle ?_;have nh:=(aT.jP mC).1;have dQ:=(gJ.keep (bE be (.arr 6 [aM.d m.edges[i]]) _)).trans (congrArg (fun x=>some (aE.arr 6 [x])) (aM.rB m.edges[i]));have rX:av be ((be, .arr 6 [aM.d m.edges[i]])::ρ)=some (.arr 6 [D.agg [.ai (m.edges[i].outs.map ab), .ai (m.edges[i].ins.map ab), .ai (m.edges[i].impl.map ab), .ai (m.edges[i].order.map ab), .v (.string m.edges[i].cmd), .v (.string m.edges[i].dep)]]):=bE ..;have bs:(m.edges[i].outs.map ab).length=m.edges[i].outs.length:=List.length_map ..;have kk:(m.edges[i].ins.map ab).length=m.edges[i].ins.length:=List.length_map ..;have kM:(m.edges[i].impl.map ab).length=m.edges[i].impl.length:=List.length_map ..;have kN:(m.edges[i].order.map ab).length=m.edges[i].order.length:=List.length_map ..;refine j.J (j.J ?_);rcases(show(10<m.edges[i].outs.length)∨(m.edges[i].outs.length≤10∧10<m.edges[i].ins.length)∨(m.edges[i].outs.length≤10∧m.edges[i].ins.length≤10∧10<m.edges[i].impl.length)∨(m.edges[i].outs.length≤10∧m.edges[i].ins.length≤10∧m.edges[i].impl.length≤10∧10<m.edges[i].order.length)∨(m.edges[i].outs.length≤10∧m.edges[i].ins.length≤10∧m.edges[i].impl.length≤10∧m.edges[i].order.length≤10∧300<m.edges[i].cmd.size)∨(m.edges[i].outs.length≤10∧m.edges[i].ins.length≤10∧m.edges[i].impl.length≤10∧m.edges[i].order.length≤10∧m.edges[i].cmd.size≤300∧200<m.edges[i].dep.size)∨(m.edges[i].outs.length≤10∧m.edges[i].ins.length≤10∧m.edges[i].impl.length≤10∧m.edges[i].order.length≤10∧m.edges[i].cmd.size≤300∧m.edges[i].dep.size≤200)from by omega)with aa|⟨aa,ah⟩|⟨aa,ah,aJ⟩|⟨aa,ah,aJ,bg⟩|⟨aa,ah,aJ,bg,cu⟩|⟨aa,ah,aJ,bg,cu,de⟩|⟨aa,ah,aJ,bg,cu,de⟩
  ·have d1:decide (((m.edges[i].outs.length:Nat):Int)>10)=true:=decide_eq_true (by omega);refine j.rg [1,3,4,5] fun K I=> ?_;simp only[go_sem,dQ,bs,kk,kM,kN,d1];apply I;refine j.bZ rfl (j.J (j.rg [] fun K I=> ?_));simp only[go_sem];apply I;refine j.ret ar Tryz.func10 (by simp[go_sem]) ?_;simp only[go_sem];first|exact po (by omega)|exact pq aC (by omega)|exact pr en (by omega)|exact congrArg cf.ret (pn aa ah gW ih)|skip
  ·have d1:decide (((m.edges[i].outs.length:Nat):Int)>10)=false:=decide_eq_false (by omega);have d2:decide (((m.edges[i].ins.length:Nat):Int)>10)=true:=decide_eq_true (by omega);refine j.rg [1,3,4,5] fun K I=> ?_;simp only[go_sem,dQ,bs,kk,kM,kN,d1,d2];apply I;refine j.bZ rfl (j.J (j.rg [] fun K I=> ?_));simp only[go_sem];apply I;refine j.ret ar Tryz.func10 (by simp[go_sem]) ?_;simp only[go_sem];first|exact po (by omega)|exact pq aC (by omega)|exact pr en (by omega)|exact congrArg cf.ret (pn aa ah gW ih)|skip
  ·have d1:decide (((m.edges[i].outs.length:Nat):Int)>10)=false:=decide_eq_false (by omega);have d2:decide (((m.edges[i].ins.length:Nat):Int)>10)=false:=decide_eq_false (by omega);have d3:decide (((m.edges[i].impl.length:Nat):Int)>10)=true:=decide_eq_true (by omega);refine j.rg [1,3,4,5] fun K I=> ?_;simp only[go_sem,dQ,bs,kk,kM,kN,d1,d2,d3];apply I;refine j.bZ rfl (j.J (j.rg [] fun K I=> ?_));simp only[go_sem];apply I;refine j.ret ar Tryz.func10 (by simp[go_sem]) ?_;simp only[go_sem];first|exact po (by omega)|exact pq aC (by omega)|exact pr en (by omega)|exact congrArg cf.ret (pn aa ah gW ih)|skip
  ·have d1:decide (((m.edges[i].outs.length:Nat):Int)>10)=false:=decide_eq_false (by omega);have d2:decide (((m.edges[i].ins.length:Nat):Int)>10)=false:=decide_eq_false (by omega);have d3:decide (((m.edges[i].impl.length:Nat):Int)>10)=false:=decide_eq_false (by omega);have d4:decide (((m.edges[i].order.length:Nat):Int)>10)=true:=decide_eq_true (by omega);refine j.rg [1,3,4,5] fun K I=> ?_;simp only[go_sem,dQ,bs,kk,kM,kN,d1,d2,d3,d4];apply I;refine j.bZ rfl (j.J (j.rg [] fun K I=> ?_));simp only[go_sem];apply I;refine j.ret ar Tryz.func10 (by simp[go_sem]) ?_;simp only[go_sem];first|exact po (by omega)|exact pq aC (by omega)|exact pr en (by omega)|exact congrArg cf.ret (pn aa ah gW ih)|skip
  ·have d1:decide (((m.edges[i].outs.length:Nat):Int)>10)=false:=decide_eq_false (by omega);have d2:decide (((m.edges[i].ins.length:Nat):Int)>10)=false:=decide_eq_false (by omega);have d3:decide (((m.edges[i].impl.length:Nat):Int)>10)=false:=decide_eq_false (by omega);have d4:decide (((m.edges[i].order.length:Nat):Int)>10)=false:=decide_eq_false (by omega);have d5:decide (((m.edges[i].cmd.size:Nat):Int)>300)=true:=decide_eq_true (by omega);refine j.rg [1,3,4,5] fun K I=> ?_;simp only[go_sem,dQ,bs,kk,kM,kN,d1,d2,d3,d4,d5];apply I;refine j.bZ rfl (j.J (j.rg [] fun K I=> ?_));simp only[go_sem];apply I;refine j.ret ar Tryz.func10 (by simp[go_sem]) ?_;simp only[go_sem];first|exact po (by omega)|exact pq aC (by omega)|exact pr en (by omega)|exact congrArg cf.ret (pn aa ah gW ih)|skip
  ·have d1:decide (((m.edges[i].outs.length:Nat):Int)>10)=false:=decide_eq_false (by omega);have d2:decide (((m.edges[i].ins.length:Nat):Int)>10)=false:=decide_eq_false (by omega);have d3:decide (((m.edges[i].impl.length:Nat):Int)>10)=false:=decide_eq_false (by omega);have d4:decide (((m.edges[i].order.length:Nat):Int)>10)=false:=decide_eq_false (by omega);have d5:decide (((m.edges[i].cmd.size:Nat):Int)>300)=false:=decide_eq_false (by omega);have d6:decide (((m.edges[i].dep.size:Nat):Int)>200)=true:=decide_eq_true (by omega);refine j.rg [1,3,4,5] fun K I=> ?_;simp only[go_sem,dQ,bs,kk,kM,kN,d1,d2,d3,d4,d5,d6];apply I;refine j.bZ rfl (j.J (j.rg [] fun K I=> ?_));simp only[go_sem];apply I;refine j.ret ar Tryz.func10 (by simp[go_sem]) ?_;simp only[go_sem];first|exact po (by omega)|exact pq aC (by omega)|exact pr en (by omega)|exact congrArg cf.ret (pn aa ah gW ih)|skip
  have d1:decide (((m.edges[i].outs.length:Nat):Int)>10)=false:=decide_eq_false (by omega);have d2:decide (((m.edges[i].ins.length:Nat):Int)>10)=false:=decide_eq_false (by omega);have d3:decide (((m.edges[i].impl.length:Nat):Int)>10)=false:=decide_eq_false (by omega);have d4:decide (((m.edges[i].order.length:Nat):Int)>10)=false:=decide_eq_false (by omega);have d5:decide (((m.edges[i].cmd.size:Nat):Int)>300)=false:=decide_eq_false (by omega);have d6:decide (((m.edges[i].dep.size:Nat):Int)>200)=false:=decide_eq_false (by omega);refine j.rg [1,3,4,5] fun K I=> ?_;simp only[go_sem,dQ,bs,kk,kM,kN,d1,d2,d3,d4,d5,d6];apply I;refine j.bJ rfl (j.aN ?_);refine j.draw [1,3,4,5] [] [be] [] [(0,true),(1,true),(2,true),(4,true),(5,true),(7,true),(8,true),(10,true),(11,true),(3,false),(6,false),(9,false),(12,false),(13,true)] (by kernel_rfl) (by decide) (by kernel_rfl) fun K I=> ?_;simp only[go_sem,dQ];have z0:(if o=none then []else(cN m i).map ab)=(cN m i).map ab:=by
   split
   ·rename_i h;exact(gJ.zero h).symm
   rfl
  have dW:((cN m i).map ab).length=(cN m i).length:=List.length_map ..;have cv:List.take (cN m i).length ((cN m i).map ab)=(cN m i).map ab:=List.take_of_length_le (by omega);have aw:=gJ.cB;obtain⟨wA,qS⟩:∃wA,wA=((be,aE.arr 6 [m.edges[i].d])::ρ):=⟨_,rfl⟩;rw[←qS]at aw dQ rX gJ;rw[←qS];simp only[z0,cv,aw];refine⟨⟨by omega,c' _,by omega,by omega⟩,fun yh t_ nn=> ?_⟩;have gk:aV yh 1 ((cN m i).map ab++m.edges[i].outs.map ab) wA:=⟨nn,t_⟩;have dw:(if yh=none then []else(cN m i).map ab++m.edges[i].outs.map ab)=(cN m i).map ab++m.edges[i].outs.map ab:=by
   split
   ·rename_i h;exact(t_ h).symm
   rfl
  have k1:List.take ((cN m i).map ab++m.edges[i].outs.map ab).length ((cN m i).map ab++m.edges[i].outs.map ab)=(cN m i).map ab++m.edges[i].outs.map ab:=List.take_of_length_le (Nat.le_refl _);have dj:((cN m i).map ab++m.edges[i].outs.map ab).length=(cN m i).length+m.edges[i].outs.length:=by simp only[List.length_append,List.length_map]
  simp only[dw,k1,rb nn];refine⟨?_,⟨Nat.le_refl _,c' _,by omega,by omega⟩,fun gw jO gF=> ?_⟩
  ·rintro _ rfl;rw[gk.keep rX,dQ]
  have cW:aV gw 1 ((cN m i).map ab++m.edges[i].outs.map ab++m.edges[i].ins.map ab) wA:=⟨gF,jO⟩;have z2:(if gw=none then []else(cN m i).map ab++m.edges[i].outs.map ab++m.edges[i].ins.map ab)=(cN m i).map ab++m.edges[i].outs.map ab++m.edges[i].ins.map ab:=by
   split
   ·rename_i h;exact(jO h).symm
   rfl
  have k2:List.take ((cN m i).map ab++m.edges[i].outs.map ab++m.edges[i].ins.map ab).length ((cN m i).map ab++m.edges[i].outs.map ab++m.edges[i].ins.map ab)=(cN m i).map ab++m.edges[i].outs.map ab++m.edges[i].ins.map ab:=List.take_of_length_le (Nat.le_refl _);have fe:((cN m i).map ab++m.edges[i].outs.map ab++m.edges[i].ins.map ab).length=(cN m i).length+m.edges[i].outs.length+m.edges[i].ins.length:=by simp only[List.length_append,List.length_map]
  simp only[z2,k2,rb gF];refine⟨?_,⟨Nat.le_refl _,c' _,by omega,by omega⟩,fun iT Kc vl=> ?_⟩
  ·rintro _ rfl;rw[cW.keep rX,gk.keep rX]
  have fI:aV iT 1 ((cN m i).map ab++m.edges[i].outs.map ab++m.edges[i].ins.map ab++m.edges[i].impl.map ab) wA:=⟨vl,Kc⟩;have z3:(if iT=none then []else(cN m i).map ab++m.edges[i].outs.map ab++m.edges[i].ins.map ab++m.edges[i].impl.map ab)=(cN m i).map ab++m.edges[i].outs.map ab++m.edges[i].ins.map ab++m.edges[i].impl.map ab:=by
   split
   ·rename_i h;exact(Kc h).symm
   rfl
  have TM:List.take ((cN m i).map ab++m.edges[i].outs.map ab++m.edges[i].ins.map ab++m.edges[i].impl.map ab).length ((cN m i).map ab++m.edges[i].outs.map ab++m.edges[i].ins.map ab++m.edges[i].impl.map ab)=(cN m i).map ab++m.edges[i].outs.map ab++m.edges[i].ins.map ab++m.edges[i].impl.map ab:=List.take_of_length_le (Nat.le_refl _);have y3:((cN m i).map ab++m.edges[i].outs.map ab++m.edges[i].ins.map ab++m.edges[i].impl.map ab).length=(cN m i).length+m.edges[i].outs.length+m.edges[i].ins.length+m.edges[i].impl.length:=by simp only[List.length_append,List.length_map]
  simp only[z3,TM,rb vl];refine⟨?_,⟨Nat.le_refl _,c' _,by omega,by omega⟩,fun K9 Tp Rj=> ?_⟩
  ·rintro _ rfl;rw[fI.keep rX,cW.keep rX]
  have eX:aV K9 1 ((cN m i).map ab++m.edges[i].outs.map ab++m.edges[i].ins.map ab++m.edges[i].impl.map ab++m.edges[i].order.map ab) wA:=⟨Rj,Tp⟩;refine⟨?_, ?_⟩
  ·rintro _ rfl;rw[eX.keep rX,fI.keep rX]
  have Rc:(cN m i).map ab++m.edges[i].outs.map ab++m.edges[i].ins.map ab++m.edges[i].impl.map ab++m.edges[i].order.map ab=(cN m (i+1)).map ab:=by rw[eD];unfold aM.all;simp
  rw[Rc]at eX⊢;apply I;subst qS;have dz:=eX.drop nh;refine j.le (cn.refl _) dz.2 ?_;refine j.ba (j.rg [1,3,4] fun K I=> ?_);simp only[go_sem];apply I;refine j.rebase [1,3,4] ?_;simp only[go_sem];rw[bH i (by omega)];refine aB (i+1) _ _ ⟨K9,⟨by omega,dz.1,fun e he=> ?_⟩,by rw[List.length_map],rfl⟩ (by omega);rw[List.take_succ_eq_append_getElem aC]at he;rcases List.mem_append.1 he with he|he
  ·exact gW e he
  rw[List.mem_singleton.1 he];unfold rC;rw[decide_eq_true_eq];exact⟨by omega,by omega,by omega,by omega,by omega,by omega⟩
 have cC:i=m.edges.length:=by
  have h:(m.edges.length:Int)≤i:=by simpa using CE
  omega
 subst cC;refine j.exit rfl (j.J (j.J (j.rg [3] fun K I=> ?_)));simp only[go_sem];apply I;refine j.aG ?_;have hh:=E3 ah m.edges.length (Nat.le_refl _) gW;refine j.le (cn.refl _) (aQ.append_left (cellsOf o 1 ((cN m m.edges.length).map ab)) ρ) ?_;rw[←List.append_nil (cellsOf o 1 ((cN m m.edges.length).map ab))];refine pW 3 (o:=o) (xs:=(cN m m.edges.length).map ab) (by rw[List.length_map];rfl) ⟨fun c ag=>rfl,aT.zero⟩ (fun c ag=>dO.nil c) (fun c ag p aP aj=> ?_) ?_
 ·simp only[List.mem_cons,List.not_mem_nil,or_false]at aP;rcases aP with rfl|rfl<;>first|rfl|exact absurd rfl aj
 simp only[go_sem];have dW:((cN m m.edges.length).map ab).length=(cN m m.edges.length).length:=List.length_map ..;refine j.rebase [3,6] ?_;simp only[go_sem];refine j.while (fun(U:Nat) env' aS=>(U≤(cN m m.edges.length).length∧∀f∈(cN m m.edges.length).take U,f.size≤200)∧env'=[(3, .ai ((cN m m.edges.length).map ab)),(6, .v (.int .i64 (U:Int)))]∧aS=[]) (fun(U:Nat)=>(cN m m.edges.length).length-U) 0 ⟨⟨by omega,by simp⟩,rfl,rfl⟩ ?_;rintro U env' aS ⟨⟨aR,ih⟩,rfl,rfl⟩ aB;have eg:=aB;refine j.J (j.J (j.rg [3,6] fun K I=> ?_));simp only[go_sem,dW];apply I;refine j.cond rfl (fun zB=> ?_) (fun zB=> ?_)
 ·have en:U<(cN m m.edges.length).length:=Int.ofNat_lt.1 (by simpa using zB);have eT:=b6 ab (cN m m.edges.length) U en;rw[ab]at eT;have dp:(0:Int)≤(U:Int):=by omega
  have dq:(U:Int)<((cN m m.edges.length).length:Int):=by omega
  refine j.aN (j.J (j.aG (j.J (j.rg [3,6] fun K I=> ?_))));simp only[go_sem,dW,eT,dp,dq];apply I;refine j.cond rfl (fun CU=> ?_) (fun CU=> ?_)
  ·have Df:200<(cN m m.edges.length)[U].size:=Int.ofNat_lt.1 (by simpa using CU);refine j.J (j.rg [] fun K I=> ?_);simp only[go_sem];apply I;refine j.ret ar Tryz.func10 (by simp[go_sem]) ?_;simp only[go_sem];first|exact po (by omega)|exact pq aC (by omega)|exact pr en (by omega)|exact congrArg cf.ret (pn aa ah gW ih)|skip
  have SL:(cN m m.edges.length)[U].size≤200:=by
   have h:((cN m m.edges.length)[U].size:Int)≤200:=by simpa using CU
   omega
  refine j.aN (j.ba (j.rg [3,6] fun K I=> ?_));simp only[go_sem];apply I;refine j.rebase [3,6] ?_;simp only[go_sem];rw[bH U (by omega)];refine eg (U+1) _ _ ⟨⟨by omega,fun f ax=> ?_⟩,rfl,rfl⟩ (by omega);rw[List.take_succ_eq_append_getElem en]at ax;rcases List.mem_append.1 ax with ax|ax
  ·exact ih f ax
  rw[List.mem_singleton.1 ax];exact SL
 have hE:U=(cN m m.edges.length).length:=by
  have h:((cN m m.edges.length).length:Int)≤U:=by simpa using zB
  omega
 subst hE;refine j.exit rfl (j.J (j.rg [] fun K I=> ?_));simp only[go_sem];apply I;refine j.ret ar Tryz.func10 (by simp[go_sem]) ?_;simp only[go_sem];first|exact po (by omega)|exact pq aC (by omega)|exact pr en (by omega)|exact congrArg cf.ret (pn aa ah gW ih)|skip
theorem so {l:List ay} (h:qV l=true→False):D.v (Value.bool false)=D.v (Value.bool (qV l)):=by
 cases ae:qV l with
 |false=>rfl
 |true=>exact(h ae).elim
theorem qW {l:List ay} (h:qV l=true):l.length≤10∧∀f∈l,f.b.length≤200∧f.name.size≤200:=by
 unfold qV at h;rw[Bool.and_eq_true,List.all_eq_true,decide_eq_true_eq]at h;exact⟨h.1,fun f ax=>by simpa using h.2 f ax⟩
theorem EL (l:List ay) (σ:al):AC Tryz.prog 11 [.ai (l.map ay.d)] σ (fun e σ'=>e= .ret (.v (.bool (qV l)))∧σ'=σ):=by
 have bn:(l.map ay.d).length=l.length:=List.length_map ..;refine AC.bI Tryz.func11 Tryz.ntmps11 fun C ar=> ?_;refine j.J (j.rg [0] fun K I=> ?_);simp only[go_sem];apply I;refine j.J (j.J (j.rg [0] fun K I=> ?_));simp only[go_sem,bn];apply I;refine j.cond rfl (fun de=> ?_) (fun de=> ?_)
 ·have aa:10<l.length:=Int.ofNat_lt.1 (by simpa using de);refine j.J (j.rg [] fun K I=> ?_);simp only[go_sem];apply I;refine j.ret ar Tryz.func11 (by simp[go_sem]) ?_;simp only[go_sem];first|exact congrArg cf.ret (so fun h=>by have:=qW h;omega)|exact congrArg cf.ret (so fun h=>by have:=(qW h).2 _ (List.getElem_mem aC);omega)|skip
 have aa:l.length≤10:=by
  have h:(l.length:Int)≤10:=by simpa using de
  omega
 refine j.aN (j.J (j.J (j.rg [0] fun K I=> ?_)));simp only[go_sem];apply I;refine j.aG ?_;refine j.rebase [0,3] ?_;simp only[go_sem];refine j.while (fun(i:Nat) env' aS=>(i≤l.length∧∀f∈l.take i,f.b.length≤200∧f.name.size≤200)∧env'=[(0, .ai (l.map ay.d)),(3, .v (.int .i64 (i:Int)))]∧aS=σ) (fun(i:Nat)=>l.length-i) 0 ⟨⟨by omega,by simp⟩,rfl,rfl⟩ ?_;rintro i env' aS ⟨⟨hi,af⟩,rfl,rfl⟩ aB;have cH:=aB;refine j.J (j.J (j.rg [0,3] fun K I=> ?_));simp only[go_sem,bn];apply I;refine j.cond rfl (fun mv=> ?_) (fun mv=> ?_)
 ·have aC:i<l.length:=Int.ofNat_lt.1 (by simpa using mv);have aq:=b6 ay.d l i aC;rw[ay.d]at aq;have bf:(0:Int)≤(i:Int):=by omega
  have bp:(i:Int)<(l.length:Int):=by omega
  have dD:(l[i].b.map bD).length=l[i].b.length:=List.length_map ..;refine j.aN (j.J (j.aG (j.J ?_)));rcases(show(200<l[i].b.length)∨(l[i].b.length≤200∧200<l[i].name.size)∨(l[i].b.length≤200∧l[i].name.size≤200)from by omega)with aa|⟨aa,ah⟩|⟨aa,ah⟩
  ·have d1:decide (((l[i].b.length:Nat):Int)>200)=true:=decide_eq_true (by omega);refine j.rg [0,3] fun K I=> ?_;simp only[go_sem,bn,aq,bf,bp,dD,d1];apply I;refine j.bZ rfl (j.J (j.rg [] fun K I=> ?_));simp only[go_sem];apply I;refine j.ret ar Tryz.func11 (by simp[go_sem]) ?_;simp only[go_sem];first|exact congrArg cf.ret (so fun h=>by have:=qW h;omega)|exact congrArg cf.ret (so fun h=>by have:=(qW h).2 _ (List.getElem_mem aC);omega)|skip
  ·have d1:decide (((l[i].b.length:Nat):Int)>200)=false:=decide_eq_false (by omega);have d2:decide (((l[i].name.size:Nat):Int)>200)=true:=decide_eq_true (by omega);refine j.rg [0,3] fun K I=> ?_;simp only[go_sem,bn,aq,bf,bp,dD,d1,d2];apply I;refine j.bZ rfl (j.J (j.rg [] fun K I=> ?_));simp only[go_sem];apply I;refine j.ret ar Tryz.func11 (by simp[go_sem]) ?_;simp only[go_sem];first|exact congrArg cf.ret (so fun h=>by have:=qW h;omega)|exact congrArg cf.ret (so fun h=>by have:=(qW h).2 _ (List.getElem_mem aC);omega)|skip
  have d1:decide (((l[i].b.length:Nat):Int)>200)=false:=decide_eq_false (by omega);have d2:decide (((l[i].name.size:Nat):Int)>200)=false:=decide_eq_false (by omega);refine j.rg [0,3] fun K I=> ?_;simp only[go_sem,bn,aq,bf,bp,dD,d1,d2];apply I;refine j.bJ rfl (j.aN (j.ba (j.rg [0,3] fun K I=> ?_)));simp only[go_sem];apply I;refine j.rebase [0,3] ?_;simp only[go_sem];rw[bH i (by omega)];refine aB (i+1) _ _ ⟨⟨by omega,fun f ax=> ?_⟩,rfl,rfl⟩ (by omega);rw[List.take_succ_eq_append_getElem aC]at ax;rcases List.mem_append.1 ax with ax|ax
  ·exact af f ax
  rw[List.mem_singleton.1 ax];exact⟨by omega,by omega⟩
 have cC:i=l.length:=by
  have h:(l.length:Int)≤i:=by simpa using mv
  omega
 subst cC;rw[List.take_length]at af;have Tl:qV l=true:=by
  unfold qV;rw[Bool.and_eq_true,List.all_eq_true,decide_eq_true_eq];exact⟨aa,fun f ax=>by simpa using af f ax⟩
 rw[Tl]at ar;refine j.exit rfl (j.J (j.rg [] fun K I=> ?_));simp only[go_sem];apply I;refine j.ret ar Tryz.func11 (by simp[go_sem]) ?_;simp only[go_sem];first|exact congrArg cf.ret (so fun h=>by have:=qW h;omega)|exact congrArg cf.ret (so fun h=>by have:=(qW h).2 _ (List.getElem_mem aC);omega)|skip
theorem U1 (l:List ay) (σ:al) (aA:l.length<2^20) (ae:∀f∈l,f.b.length<2^20):
  AC Tryz.prog 14 [.ai (l.map ay.d)] σ (fun e σ'=>∃o,aV o 2 (l.map ay.d) σ∧e= .ret (.own o 2 l.length)∧σ'=cellsOf o 2 (l.map ay.d)++σ):=by
 have bn:(l.map ay.d).length=l.length:=List.length_map ..;refine AC.bI Tryz.func14 Tryz.ntmps14 fun C ar=> ?_;refine j.J (j.rg [0] fun K I=> ?_);simp only[go_sem];apply I;refine j.J (j.rg [0] fun K I=> ?_);simp only[go_sem];apply I;refine j.J (j.J (j.rg [0,3] fun K I=> ?_));simp only[go_sem];apply I;refine j.aG (j.im 3 2 rfl ?_);refine j.rebase [0,3,4] ?_;simp only[go_sem];refine j.while (fun(i:Nat) env' aS=>∃o:Option Nat,(i≤l.length∧aV o 2 ((l.take i).map ay.d) σ)∧env'=[(0, .ai (l.map ay.d)),(3, .own o 2 i),(4, .v (.int .i64 (i:Int)))]∧aS=cellsOf o 2 ((l.take i).map ay.d)++σ) (fun(i:Nat)=>l.length-i) 0 ⟨none,⟨by omega,aV.nil _ _⟩,rfl,rfl⟩ ?_;rintro i env' aS ⟨o,⟨hi,aT⟩,rfl,rfl⟩ aB;have cH:=aB;refine j.J (j.J (j.rg [0,3,4] fun K I=> ?_));simp only[go_sem,bn];apply I;refine j.cond rfl (fun qi=> ?_) (fun qi=> ?_)
 ·have aC:i<l.length:=Int.ofNat_lt.1 (by simpa using qi);have aq:=b6 ay.d l i aC;rw[ay.d]at aq;have bf:(0:Int)≤(i:Int):=by omega
  have bp:(i:Int)<(l.length:Int):=by omega
  have dD:(l[i].b.map bD).length=l[i].b.length:=List.length_map ..;have mB:=ae _ (List.getElem_mem aC);have aH:=aT.bL;have aw:=aT.cB;have dW:((l.take i).map ay.d).length=i:=by rw[List.length_map,List.length_take];omega
  have cv:List.take i ((l.take i).map ay.d)=(l.take i).map ay.d:=List.take_of_length_le (by omega);have bt:(l.take i).map ay.d++[D.agg [.v (.string l[i].name), .ai (l[i].b.map bD)]]=(l.take (i+1)).map ay.d:=by
   rw[List.take_succ_eq_append_getElem aC,List.map_append];rfl
  refine j.aN (j.J (j.aG ?_));refine j.draw [0,3,4] [17,23,25] [] [] [(0,true),(1,true),(2,true),(3,true),(4,true),(5,true),(6,true),(7,true),(8,true),(9,true),(10,true),(11,true),(12,true),(13,true),(14,true),(15,false),(16,true)] (by kernel_rfl) (by decide) (by kernel_rfl) fun K I=> ?_;simp only[go_sem,bn,aq,bf,bp,aH,aw,dW,cv];refine⟨⟨fun y aF=> ?_,by omega,by omega⟩,⟨by decide,by decide⟩,⟨Nat.le_refl _,fun y aF=>by rw[aF];exact⟨rfl,rfl⟩,by omega,by omega⟩,fun ob aO ax=> ?_⟩
  ·obtain⟨x,_,rfl⟩:=List.mem_map.1 aF;exact⟨rfl,rfl⟩
  rw[bt]at aO⊢;have kH:((l.take (i+1)).map ay.d).length=i+1:=by rw[List.length_map,List.length_take];omega
  rw[kH];apply I;refine j.ba (j.rg [0,3,4] fun K I=> ?_);simp only[go_sem];apply I;refine j.rebase [0,3,4] ?_;simp only[go_sem];rw[bH i (by omega)];exact aB (i+1) _ _ ⟨ob,⟨by omega,⟨ax,aO⟩⟩,rfl,rfl⟩ (by omega)
 have cC:i=l.length:=by
  have h:(l.length:Int)≤i:=by simpa using qi
  omega
 subst cC;rw[List.take_length]at aT⊢;refine j.exit rfl (j.J (j.rg [3] fun K I=> ?_));simp only[go_sem];apply I;refine j.ret ar Tryz.func14 (by simp[go_sem]) ?_;simp only[go_sem];exact⟨o,aT,rfl,rfl⟩
theorem AJ (l:List ay) (σ:al) (aA:l.length<2^20) (ae:∀f∈l,f.b.length<2^20):
  AC Tryz.prog 14 [.ai (l.map ay.d)] σ (fun e σ'=>e= .ret (.ai (l.map ay.d))∧σ'=σ):=by
 refine AC.q5 (sz:=2) ((U1 l [] aA ae).mono ?_) σ;rintro e σ' ⟨o,aT,rfl,rfl⟩;exact⟨o,aT,by rw[List.length_map],rfl⟩
theorem j.Vx {P:Program} {N:cP} {C:Ctx P N} {todo:List Item} {env:Env} {o:Option Nat} {b sz n:Nat} {xs:List D} {y:D} {ρ:al} (aT:aV o sz xs ((b, .arr 2 [.agg [.own o sz n,y]])::ρ)) (au:n=xs.length) (aF:∀c,D.b' c sz xs y=y) (fq:∀c,o=some c→dO c ρ) (he:∀c,kB c sz xs env=env)
  (h:j C todo env ((b, .arr 2 [.agg [.ai xs,y]])::ρ)):j C todo env (cellsOf o sz xs++(b, .arr 2 [.agg [.own o sz n,y]])::ρ):=by
 subst au;cases o with
 |none=>
  have an:=aT.zero rfl;subst an;refine j.q9 (ys:=[.agg [.ai [],y]]) (fun w S vs h=>by
   obtain⟨v,vs,rfl,aa,ah⟩:=bq.cons_inv (show bq w S (.own none sz 0::[y]) vs from h);exact .cons (ca.l5 _ _ w S v aa) ah) (by intro z aO;simp only[List.mem_singleton]at aO;subst aO;rfl) h
 |some c=>
  have ax:=aT.fresh c rfl;have aZ:c≠b:=fun e=>by subst e;rw[bE]at ax;cases ax
  refine j.o1 c (bE c _ _) ?_;rw[he c];have bt:di c sz xs ((c,aE.arr sz xs)::(b, .arr 2 [.agg [.own (some c) sz xs.length,y]])::ρ)=(b, .arr 2 [.agg [.ai xs,y]])::ρ:=by
   rw[di,if_pos rfl,di,if_neg aZ,fq c rfl];simp only[aE.b',List.map_cons,List.map_nil,D.b',hb,aF c];rw[if_pos ⟨trivial,trivial,Nat.le_refl _⟩,List.take_length]
  change j C todo env (di c sz xs ((c,aE.arr sz xs)::(b, .arr 2 [.agg [.own (some c) sz xs.length,y]])::ρ));rw[bt];exact h
theorem P3 (m:bK) (σ:al) (aA:m.edges.length<2^20) (aw:m.defs.length<2^20) (af:∀e∈m.edges,e.small):
  AC Tryz.prog 13 [m.d] σ (fun e σ'=>e= .ret m.d∧σ'=σ):=by
 refine AC.still ?_ σ;refine AC.forget (R:=fun e _=>e= .ret m.d) ?_ fun e σ' h=>⟨[],aQ.nil _,h,rfl⟩;unfold bK.d;have bn:(m.edges.map aM.d).length=m.edges.length:=List.length_map ..;have ei:(m.defs.map ab).length=m.defs.length:=List.length_map ..;refine AC.bI Tryz.func13 Tryz.ntmps13 fun C ar=> ?_;refine j.J (j.rg [0] fun K I=> ?_);simp only[go_sem];intro bP br hR;have e9:bP≠br:=fun e=>by subst e;rw[bE]at hR;cases hR
 apply I;have g1:av bP [(br,aE.arr 2 [D.agg [.v (.slice none 0 0), .v (.slice none 0 0)]]),(bP,aE.arr 2 [D.agg [.ai (m.edges.map aM.d), .ai (m.defs.map ab)]])]=some (.arr 2 [D.agg [.ai (m.edges.map aM.d), .ai (m.defs.map ab)]]):=by rw[aW,if_neg e9,bE]
 refine j.J ?_;refine j.fw [1,2] [6,9] fun K I=> ?_;simp only[go_sem,g1];refine⟨⟨c' _,by omega,by omega⟩,fun b3 dP=> ?_⟩;have h':bP≠b3:=fun e=>by subst e;rw[g1]at dP;cases dP
 have jF:br≠b3:=fun e=>by subst e;rw[bE]at dP;cases dP
 apply I;refine j.J (j.J (j.rg [1,2,3] fun K I=> ?_));simp only[go_sem];apply I;refine j.aG ?_;refine j.q9 (ys:=[.agg [.own none 6 0, .ai (m.defs.map ab)]]) (fun w S vs h=>by
  obtain⟨v,vs,rfl,aa,ah⟩:=bq.cons_inv (show bq w S (.v (.slice none 0 0)::[.ai (m.defs.map ab)]) vs from h);exact .cons (ca.mU 6 w S v aa) ah) (by simp[D.cells]) ?_
 obtain⟨ρ,fq⟩:∃ρ:al,ρ=[(br,aE.arr 2 [D.agg [.v (.slice none 0 0), .v (.slice none 0 0)]]),(bP,aE.arr 2 [D.agg [.ai (m.edges.map aM.d), .ai (m.defs.map ab)]])]:=⟨_,rfl⟩;rw[←fq]at g1 dP⊢;have gd:∀o i,av bP ((b3,aE.arr 2 [D.agg [.own o 6 i, .ai (m.defs.map ab)]])::ρ)=some (.arr 2 [D.agg [.ai (m.edges.map aM.d), .ai (m.defs.map ab)]]):=fun o i=>by rw[aW,if_neg h',g1]
 refine j.rebase [1,2,3,4] ?_;simp only[go_sem];refine j.while (fun(i:Nat) env' aS=>∃o:Option Nat,(i≤m.edges.length∧aV o 6 ((m.edges.take i).map aM.d) ((b3,aE.arr 2 [D.agg [.own o 6 i, .ai (m.defs.map ab)]])::ρ))∧env'=[(1, .ptr bP 2 0 0),(2, .ptr br 2 0 0),(3, .ptr b3 2 0 0),(4, .v (.int .i64 (i:Int)))]∧aS=cellsOf o 6 ((m.edges.take i).map aM.d)++(b3,aE.arr 2 [D.agg [.own o 6 i, .ai (m.defs.map ab)]])::ρ) (fun(i:Nat)=>m.edges.length-i) 0 ⟨none,⟨by omega,aV.nil _ _⟩,rfl,rfl⟩ ?_;rintro i env' aS ⟨o,⟨hi,aT⟩,rfl,rfl⟩ aB;have cH:=aB;refine j.J (j.J ?_);have H2:=aT.keep (gd o i);refine j.rg [1,2,3,4] fun K I=> ?_;simp only[go_sem,H2,bn];apply I;refine j.cond rfl (fun fV=> ?_) (fun fV=> ?_)
 ·have aC:i<m.edges.length:=Int.ofNat_lt.1 (by simpa using fV);have aq:=b6 aM.d m.edges i aC;rw[aM.d]at aq;have bf:(0:Int)≤(i:Int):=by omega
  have bp:(i:Int)<(m.edges.length:Int):=by omega
  have dh:=af _ (List.getElem_mem aC);refine j.aN (j.J (j.aG (j.J (j.rg [1,2,3,4] fun K I=> ?_))));simp only[go_sem,H2,bn,aq,bf,bp];intro bo ou;apply I;obtain⟨gJ,hle⟩:=aT.push (x:= .arr 6 [aM.d m.edges[i]]) ou;refine j.le (cn.refl _) hle ?_;have zP:=(aT.jP ou).1;have xh:b3≠bo:=fun e=>by subst e;rw[bE]at zP;cases zP
  have dQ:=(gJ.keep (bE bo (.arr 6 [aM.d m.edges[i]]) _)).trans (congrArg (fun x=>some (aE.arr 6 [x])) (aM.rB m.edges[i]));have fI:=gJ.keep (show av b3 ((bo, .arr 6 [aM.d m.edges[i]])::(b3,aE.arr 2 [D.agg [.own o 6 i, .ai (m.defs.map ab)]])::ρ)=some (aE.arr 2 [D.agg [.own o 6 i, .ai (m.defs.map ab)]]) by rw[aW,if_neg xh,bE]);have aH:=gJ.bL;have aw:=gJ.cB;have dW:((m.edges.take i).map aM.d).length=i:=by rw[List.length_map,List.length_take];omega
  have cv:List.take i ((m.edges.take i).map aM.d)=(m.edges.take i).map aM.d:=List.take_of_length_le (by omega);have bs:(m.edges[i].outs.map ab).length=m.edges[i].outs.length:=List.length_map ..;have kk:(m.edges[i].ins.map ab).length=m.edges[i].ins.length:=List.length_map ..;have kM:(m.edges[i].impl.map ab).length=m.edges[i].impl.length:=List.length_map ..;have kN:(m.edges[i].order.map ab).length=m.edges[i].order.length:=List.length_map ..;refine j.draw [1,2,3,4,5] [25,28,29,32,33,36,37,40,46] [b3,bo] [26] [(0,true),(1,true),(2,true),(3,true),(4,true),(5,true),(6,true),(7,true),(8,true),(9,true),(10,true),(11,true),(12,true),(13,true),(14,true),(15,true),(16,true),(17,true),(18,true),(19,true),(20,true),(21,true),(22,true),(23,true),(24,false),(25,true),(26,false)] (by kernel_rfl) (by decide) (by kernel_rfl) fun K I=> ?_;simp only[go_sem,dQ,fI,aH,aw,dW,cv];have hY:=dh.outs;have fa:=dh.ins;have yv:=dh.impl;have LS:=dh.order;refine⟨⟨c' _,by omega,by omega⟩,⟨c' _,by omega,by omega⟩,⟨c' _,by omega,by omega⟩,⟨c' _,by omega,by omega⟩,⟨by decide,by decide⟩,⟨Nat.le_refl _,fun y aF=>by rw[aF];exact⟨rfl,rfl⟩,by omega,by omega⟩,fun ob aO ax=> ?_⟩;have bt:(m.edges.take i).map aM.d++[D.agg [.ai (m.edges[i].outs.map ab), .ai (m.edges[i].ins.map ab), .ai (m.edges[i].impl.map ab), .ai (m.edges[i].order.map ab), .v (.string m.edges[i].cmd), .v (.string m.edges[i].dep)]]=(m.edges.take (i+1)).map aM.d:=by
   rw[List.take_succ_eq_append_getElem aC,List.map_append];rfl
  rw[bt]at aO⊢;have b7:aV ob 6 ((m.edges.take (i+1)).map aM.d) ((bo, .arr 6 [aM.d m.edges[i]])::(b3,aE.arr 2 [D.agg [.own o 6 i, .ai (m.defs.map ab)]])::ρ):=⟨ax,aO⟩;have Cv:av b3 ((bo,aE.arr 6 [aM.d m.edges[i]])::(b3,aE.arr 2 [D.agg [.own o 6 i, .ai (m.defs.map ab)]])::ρ)=some (aE.arr 2 [D.agg [.own o 6 i, .ai (m.defs.map ab)]]):=by rw[aW,if_neg xh,bE]
  have H5:av bo ((bo,aE.arr 6 [aM.d m.edges[i]])::(b3,aE.arr 2 [D.agg [.own o 6 i, .ai (m.defs.map ab)]])::ρ)=some (.arr 6 [aM.d m.edges[i]]):=bE ..;refine⟨?_, ?_⟩
  ·rintro b (rfl|rfl)
   ·rw[b7.keep Cv,fI]
   rw[b7.keep H5,gJ.keep H5]
  have Rq:=b7.keep Cv;have kH:((m.edges.take (i+1)).map aM.d).length=i+1:=by rw[List.length_map,List.length_take];omega
  simp only[go_sem,Rq,kH];have fK:sset b3 (aE.arr 2 [D.agg [.own ob 6 (i+1), .ai (m.defs.map ab)]]) (cellsOf ob 6 ((m.edges.take (i+1)).map aM.d)++(bo, .arr 6 [aM.d m.edges[i]])::(b3,aE.arr 2 [D.agg [.own o 6 i, .ai (m.defs.map ab)]])::ρ)=cellsOf ob 6 ((m.edges.take (i+1)).map aM.d)++(bo, .arr 6 [aM.d m.edges[i]])::(b3,aE.arr 2 [D.agg [.own ob 6 (i+1), .ai (m.defs.map ab)]])::ρ:=by
   rw[b7.sset (by rw[Cv];rfl)]
   rw[sset,if_neg xh,gz]
  rw[fK];have fC:aV ob 6 ((m.edges.take (i+1)).map aM.d) ((bo, .arr 6 [aM.d m.edges[i]])::(b3,aE.arr 2 [D.agg [.own ob 6 (i+1), .ai (m.defs.map ab)]])::ρ):=⟨fun c ag=>by
   have:=ax c ag;rw[aW]at this⊢;split at this
   ·cases this
   rename_i au
   rw[if_neg au];rw[aW]at this⊢;split at this
   ·cases this
   rename_i iK;rw[if_neg iK];exact this,aO⟩
  have dz:=fC.drop (by rw[aW,if_neg (Ne.symm xh)];rw[aW,if_neg (Ne.symm xh)]at zP;exact zP);apply I;refine j.le (cn.refl _) dz.2 ?_;refine j.ba (j.rg [1,2,3,4] fun K I=> ?_);simp only[go_sem];apply I;refine j.rebase [1,2,3,4] ?_;simp only[go_sem];rw[bH i (by omega)];exact aB (i+1) _ _ ⟨ob,⟨by omega,dz.1⟩,rfl,rfl⟩ (by omega)
 have cC:i=m.edges.length:=by
  have h:(m.edges.length:Int)≤i:=by simpa using fV
  omega
 subst cC;rw[List.take_length]at aT⊢;refine j.Vx aT bn.symm (fun c=>rfl) (fun c ag=> ?_) (fun c=>rfl) ?_
 ·have ax:=aT.fresh c ag;obtain⟨_,ax⟩:=eF ax;rw[fq]at ax⊢;obtain⟨ey,ax⟩:=eF ax;obtain⟨kO,ax⟩:=eF ax;exact .cons ey (fun _ _=>rfl) (.cons kO (fun _ _=>rfl) (.nil c))
 subst fq;refine j.exit rfl (j.J (j.rg [2,3] fun K I=> ?_));simp only[go_sem,jF,jF.symm];apply I;refine j.le (cn.refl _) (σ':=[(br,aE.arr 2 [D.agg [.ai (m.edges.map aM.d), .ai (m.defs.map ab)]])]) (aQ.cons (by rw[aW,if_neg jF,bE]) (aQ.nil _)) ?_;refine j.ret ar Tryz.func13 (by simp[go_sem]) ?_;simp only[go_sem]
end Go.Ab.S16
namespace Go.Ab.S16
open Go Go.Proofs
theorem yc {α:Type} {f:α→D}:∀{xs:List D},(∀x∈xs,∃a,x=f a)→∃l:List α,xs=l.map f
 |[],_=>⟨[],rfl⟩
 |x::xs,h=>by
  obtain⟨a,bb⟩:=h x (by simp);obtain⟨l,aA⟩:=yc (f:=f) (xs:=xs) fun y aF=>h y (by simp[aF]);exact⟨a::l,by rw[bb,aA];rfl⟩
theorem YF {ds:List D} (h:ga (.slice (.int .u8)) ds):∃l:List UInt8,ds=[.ai (l.map bD)]:=by
 unfold ga at h;obtain⟨xs,rfl,_,h⟩:=h;obtain⟨l,rfl⟩:=yc (f:=bD) (xs:=xs) fun x an=>by
  obtain⟨aa,_,aJ⟩:=h x an;rw[aa rfl]at aJ;unfold ga at aJ;obtain⟨n,au,Ep⟩:=aJ;cases au
  have:0≤n∧n<256:=by
   simp[Lit.wf,IntKind.min,IntKind.max,IntKind.signed,IntKind.bits]at Ep;omega
  exact⟨UInt8.ofNat n.toNat,by unfold bD;congr 2;simp;omega⟩
 exact⟨l,rfl⟩
theorem wz {ds:List D} (h:ga (.slice .str) ds):∃l:List ByteArray,ds=[.ai (l.map ab)]:=by
 unfold ga at h;obtain⟨xs,rfl,_,h⟩:=h;obtain⟨l,rfl⟩:=yc (f:=ab) (xs:=xs) fun x an=>by
  obtain⟨aa,_,aJ⟩:=h x an;rw[aa rfl]at aJ;unfold ga at aJ;obtain⟨n,au,_⟩:=aJ;cases au
  exact⟨n,rfl⟩
 exact⟨l,rfl⟩
theorem Gf {ds:List D} (h:ga .str ds):∃s:ByteArray,ds=[.v (.string s)]:=by
 unfold ga at h;obtain⟨s,rfl,_⟩:=h;exact⟨s,rfl⟩
def y':ea:= .struct [.slice .str, .slice .str, .slice .str, .slice .str, .str, .str]
def AH:ea:= .struct [.slice y', .slice .str]
def w6:ea:= .struct [.str, .slice (.int .u8)]
theorem YG {cs:List D} (h:ga y' cs):∃e:aM,D.agg cs=e.d:=by
 unfold y' ga at h;obtain⟨a0,gH,rfl,bj,r⟩:=h;obtain⟨hP,bu,rfl,aa,r⟩:=r;obtain⟨a2,jS,rfl,ah,r⟩:=r;obtain⟨a3,nK,rfl,aJ,r⟩:=r;obtain⟨a4,yw,rfl,bg,r⟩:=r;obtain⟨a5,Fv,rfl,cu,r⟩:=r;unfold uJ at r;subst r;obtain⟨EI,rfl⟩:=wz bj;obtain⟨bs,rfl⟩:=wz aa;obtain⟨kk,rfl⟩:=wz ah;obtain⟨kM,rfl⟩:=wz aJ;obtain⟨WQ,rfl⟩:=Gf bg;obtain⟨WR,rfl⟩:=Gf cu;exact⟨⟨EI,bs,kk,kM,WQ,WR⟩,rfl⟩
theorem YI {cs:List D} (h:ga w6 cs):∃f:ay,D.agg cs=f.d:=by
 unfold w6 ga at h;obtain⟨a0,gH,rfl,bj,r⟩:=h;obtain⟨hP,bu,rfl,aa,r⟩:=r;unfold uJ at r;subst r;obtain⟨WO,rfl⟩:=Gf bj;obtain⟨bs,rfl⟩:=YF aa;exact⟨⟨WO,bs⟩,rfl⟩
theorem YH {ds:List D} (h:ga (.slice y') ds):∃l:List aM,ds=[.ai (l.map aM.d)]:=by
 unfold ga at h;obtain⟨xs,rfl,_,a8⟩:=h;obtain⟨l,rfl⟩:=yc (f:=aM.d) (xs:=xs) fun x an=>by
  obtain⟨_,ah,aJ⟩:=a8 x an;obtain⟨cs,rfl⟩:=ah rfl;exact YG aJ
 exact⟨l,rfl⟩
theorem YJ {ds:List D} (h:ga (.slice w6) ds):∃l:List ay,ds=[.ai (l.map ay.d)]:=by
 unfold ga at h;obtain⟨xs,rfl,_,a8⟩:=h;obtain⟨l,rfl⟩:=yc (f:=ay.d) (xs:=xs) fun x an=>by
  obtain⟨_,ah,aJ⟩:=a8 x an;obtain⟨cs,rfl⟩:=ah rfl;exact YI aJ
 exact⟨l,rfl⟩
theorem YK {d:D} (h:BP AH d):∃m:bK,d=m.d:=by
 obtain⟨cs,rfl,hw⟩:=h.2 rfl;unfold AH ga at hw;obtain⟨a0,gH,Qc,bj,r⟩:=hw;obtain⟨hP,bu,rfl,aa,r⟩:=r;unfold uJ at r;subst r;obtain⟨EI,rfl⟩:=YH bj;obtain⟨bs,rfl⟩:=wz aa;exact⟨⟨EI,bs⟩,by rw[Qc];rfl⟩
end Go.Ab.S16
namespace Go.Ab.S16
open Go Go.Proofs Go.RowKit
theorem Pr {m:bK} (h:jg m=true) {l:List ay} (aA:l.length≤400) (ax:∀f∈l,f.b.length≤200∧f.name.size≤200) {aD:List ByteArray} (bc:aD.length≤20):wG m l aD:=by
 have aa:=Ci h;refine⟨by omega,fun e he=> ?_,by omega,aA,fun f mF=>by have:=ax f mF;omega,by omega⟩;obtain⟨⟨hP,a2,a3,a4⟩,a5,Nv⟩:=w5 (ze h e he);refine Cb e.outs e.ins e.impl e.order e.cmd e.dep hP a2 a3 a4 (by omega) fun f mF=> ?_;have au:f∈cN m m.edges.length:=by
  unfold cN;rw[List.take_length];exact List.mem_append.2 (.inr (List.mem_flatMap.2 ⟨e,he,by unfold aM.all;exact mF⟩))
 have:=HB h f au;omega
theorem Hy {g:b9} (af:∀e∈g.aU.edges,e.small) {l:List ay}:∀{r:List Nat} {made x:List ay},jE g l r made= .inr x→(∀f∈made,f.b.length<2^20)→(∀f∈x,f.b.length<2^20)∧x.length≤made.length+10*r.length
 |[],made,x,h,hm=>by
  simp only[jE,Sum.inr.injEq]at h;subst h;exact⟨hm,by simp⟩
 |n::r,made,x,h,hm=>by
  rw[jE]at h;cases aL:lE g l n made with
  |inl c=>rw[aL]at h;cases h
  |inr qX=>
   rw[aL]at h;obtain⟨_,d,aw,ax,rfl⟩:=XZ.1 aL;have aa:=Hd aw;have ah:d.outs.length≤10:=by
    have:=congrArg List.length (Pz ax);rw[List.length_map]at this;rw[this];exact E8 g.aU af n
   obtain⟨aJ,bg⟩:=Hy af h fun f mF=>by
    rcases List.mem_append.1 mF with mF|mF
    ·exact hm f mF
    exact(aa f mF).1
   refine⟨aJ, ?_⟩;rw[List.length_append]at bg;rw[List.length_cons];omega
theorem Pl {m:bK} {l x:List ay} {aD:List ByteArray} (cG:wG m l aD) (h:hy m l aD= .inr x):(∀f∈x,f.b.length<2^20)∧x.length≤600:=by
 unfold hy at h;cases aq:iS m with
 |inl c=>rw[aq]at h;cases h
 |inr g=>
  rw[aq]at h;obtain⟨cc,rfl⟩:=K4 (by have:=cG.edges;omega) (fun e he=>(cG.sW e he).small) cG.defs (fun e he=>(cG.sW e he).outs) aq;have jH:=cG.edges;simp only at h;unfold nc at h;split at h
  ·cases h
  split at h
  ·cases h
  rename_i P ia
  split at h
  ·cases h
  obtain⟨aa,ah⟩:=Hy cc.b5 h (fun f ax=>by cases ax);have:=(Lx cc ia).1;simp at ah;exact⟨aa,by omega⟩
theorem GS {b:List UInt8}:∀z∈b.map bD,(match z with|D.v (Value.int IntKind.u8 n)=>decide (0≤n∧n<256)|_=>false)=true:=fun z aO=>by
 obtain⟨c,_,rfl⟩:=List.mem_map.1 aO;have:=c.toNat_lt;exact decide_eq_true ⟨Int.natCast_nonneg _,by omega⟩
end Go.Ab.S16
namespace Go.Ab.S16
open Go Go.Proofs
def A_ (m:bK) (l made:List ay) (n:Nat):List ay:=l.filter (fun f=>decide (dd m f.name<0)&& !kQ f.name)++made.filter fun f=>iY m n f.name
def nL (m:bK) (l:List ay) (n:Nat) (made:List ay):Nat⊕List ay:=
 if(gh m n).bG.any (lZ m l)=true then .inl 6
 else match dm (gh m n).cmd ((gh m n).ins++(gh m n).impl) (A_ m l made n)with
  |none=> .inl 13
  |some x=>if((x.dep.toList==(gh m n).dep.toList)&&gU (gh m n).outs x.outs)=true then .inr (made++x.outs)else .inl 13
def pX (m:bK) (l:List ay):List Nat→List ay→Nat⊕List ay
 |[],made=> .inr made
 |n::r,made=>match nL m l n made with
  | .inl c=> .inl c
  | .inr qX=>pX m l r qX
def Ff:Nat⊕List Nat→List Nat
 | .inl _=>[]
 | .inr P=>P
def sx (m:bK) (l:List ay) (aD:List ByteArray):Nat⊕List ay:=
 if hv m aD≠0 then .inl (hv m aD)else if(h9 m aD).any (lZ m l)=true then .inl 6 else pX m l (Ff (hX m (h9 m aD))) []
theorem any_congr {α:Type} {p q:α→Bool} {l:List α} (h:∀x∈l,p x=q x):l.any p=l.any q:=by
 induction l with
 |nil=>rfl
 |cons x l aB=>rw[List.any_cons,List.any_cons,h x (List.mem_cons_self ..),aB fun y aF=>h y (List.mem_cons_of_mem _ aF)]
theorem KX {g:b9} (aq:g.ja) (l:List ay) (f:ByteArray):lY g l f=lZ g.aU l f:=by
 obtain⟨cc,_⟩:=rD aq;unfold lY lZ;have:(!(cE g.mks f).isSome)=decide (dd g.aU f<0):=by
  rw[Bool.eq_iff_iff,decide_eq_true_eq,vK cc];cases(cE g.mks f).isSome<;>simp
 rw[this,Bool.and_comm]
theorem X_ {g:b9}:nU g=ko g.aU:=by
 unfold nU ko dB kept;split
 ·rfl
 refine List.filter_congr fun f _=> ?_;congr 1
 rw[Bool.eq_iff_iff,List.contains_iff_mem,M5];unfold uD;rw[List.any_eq_true];constructor
 ·rintro⟨e,he,h⟩;exact⟨e,he,(si _ _).2 h⟩
 rintro⟨e,he,h⟩;exact⟨e,he,(si _ _).1 h⟩
theorem Pu {g:b9} (aq:g.ja) {n:Nat} (au:n<g.aU.edges.length) (l made:List ay):sZ g l made n=A_ g.aU l made n:=by
 obtain⟨cc,_⟩:=rD aq;unfold sZ A_ kept;rw[List.filter_append,List.filter_filter];congr 1
 ·refine List.filter_congr fun f _=> ?_;unfold sY sv;have hm:decide (dd g.aU f.name<0)= !(cE g.mks f.name).isSome:=by
   rw[Bool.eq_iff_iff,decide_eq_true_eq,vK cc];cases(cE g.mks f.name).isSome<;>simp
  rw[hm,←yp];cases(cE g.mks f.name).isSome<;>cases kn f.name<;>simp
 refine List.filter_congr fun f _=> ?_;rw[←Ya aq au f.name];unfold sY;rw[Bool.not_not]
theorem Ib {g:b9} (aq:g.ja) (l:List ay):∀(r:List Nat) (made:List ay),(∀n∈r,n<g.aU.edges.length)→jE g l r made=pX g.aU l r made
 |[],_,_=>rfl
 |n::r,made,h=>by
  have sb:lE g l n made=nL g.aU l n made:=by
   unfold lE nL;rw[Pu aq (h n (List.mem_cons_self ..)),any_congr fun f _=>KX aq l f];rfl
  rw[jE,pX,sb];cases nL g.aU l n made with
  |inl c=>rfl
  |inr qX=>exact Ib aq l r qX fun k aj=>h k (List.mem_cons_of_mem _ aj)
theorem V_ {m:bK} (af:∀e∈m.edges,e.small) (l:List ay) (aD:List ByteArray):hy m l aD=sx m l aD:=by
 obtain⟨dK,fb⟩:=UP af;unfold hy sx;cases aq:iS m with
 |inl c=>
  have ag:=K5 aq;have hw:=dK c aq;have bx:hv m aD=c:=by unfold hv;rw[if_pos (by rw[hw];exact ag),hw]
  simp only;rw[bx,if_pos ag]
 |inr g=>
  have hw:=fb g aq;obtain⟨ax,rfl⟩:=UO af aq;simp only;unfold nc;rw[YE ax];by_cases cu:p7 g.aU=true
  ·have bx:hv g.aU aD=5:=by unfold hv;rw[if_neg (by rw[hw];decide),if_pos cu]
   rw[if_pos cu,bx,if_pos (by decide)]
  have bY:h9 g.aU aD=iv g.aU aD:=by unfold h9;rw[if_neg (by rw[hw];decide),if_neg cu]
  have bx:hv g.aU aD=AT (hX g.aU (iv g.aU aD)):=by unfold hv;rw[if_neg (by rw[hw];decide),if_neg cu]
  have bc:kr g aD=iv g.aU aD:=by unfold kr iv;rw[X_]
  rw[if_neg cu,bc,Fg ax,bx,bY];cases aP:hX g.aU (iv g.aU aD)with
  |inl c=>
   have ag:c≠0:=by
    have:=Fg ax (iv g.aU aD);rw[aP]at this;exact Ly this
   exact(if_pos ag).symm
  |inr P=>
   have ia:∀n∈P,n<g.aU.edges.length:=fun n au=>by
    have:=Fg ax (iv g.aU aD);rw[aP]at this;obtain⟨_,_,aJ,_⟩:=Vq ax this;have:=((aJ n).1 au).lt ax (sq ax.oS _);rwa [ax.jd]at this
   rw[show AT (.inr P)=0 from rfl,if_neg (show¬(0:Nat)≠0 by decide),any_congr (l:=iv g.aU aD) fun f _=>KX ax l f];simp only[Ff];rw[Ib ax l P [] ia]
end Go.Ab.S16
namespace Go.Ab.S16
open Go Go.Proofs Go.RowKit
theorem Gp (m:bK) (n k:Nat):lB m n (k+1)=lB m n k++if du m n k=true then g' m k else []:=by
 unfold lB;rw[List.range_succ,List.flatMap_append];simp
theorem BQ (m:bK) (af:∀e∈m.edges,e.small) (n:Nat):∀k,(lB m n k).length≤10*k
 |0=>by simp[lB]
 |k+1=>by
  have aa:=BQ m af n k;have ah:=E8 m af k;rw[Gp,List.length_append];split
  ·omega
  simp;omega
theorem Nx (m:bK) (n:Nat) (σ:al) (aA:m.edges.length<2^20) (af:∀e∈m.edges,e.small) (au:n<m.edges.length):
  AC Tryz.prog 62 [m.d, .v (.int .i64 (n:Int))] σ (fun e σ'=>e= .ret (.ai ((qe m n).map ab))∧σ'=σ):=by
 refine AC.still ?_ σ;refine AC.forget (R:=fun e _=>e= .ret (.ai ((qe m n).map ab))) ?_ fun e σ' h=>⟨[],aQ.nil _,h,rfl⟩;have fX:m.d= .agg [.ai (m.edges.map aM.d), .ai (m.defs.map ab)]:=rfl;have bn:(m.edges.map aM.d).length=m.edges.length:=List.length_map ..;refine AC.bI Tryz.func62 Tryz.ntmps62 fun C ar=> ?_;rw[fX];refine j.J (j.rg [0,1] fun K I=> ?_);simp only[go_sem];intro bP;apply I;have g1:av bP [(bP,aE.arr 2 [D.agg [.ai (m.edges.map aM.d), .ai (m.defs.map ab)]])]=some (.arr 2 [D.agg [.ai (m.edges.map aM.d), .ai (m.defs.map ab)]]):=by rw[bE]
 have dD:((List.range m.edges.length).map fun a=>D.ai (cz m.edges.length (du m a))).length=m.edges.length:=by simp
 have jq:(0:Int)≤(n:Int):=by omega
 have jr:(n:Int)<(m.edges.length:Int):=by omega
 have kh:=ur (fun a=>D.ai (cz m.edges.length (du m a))) .any au;have fJ:=nQ m.edges.length (du m n);refine j.J (j.rg [1,2] fun K I=> ?_);simp only[go_sem,g1];refine a1 Tryz.call58 (BW m _ aA af) ?_;simp only[go_sem,uQ];apply I;refine j.J (j.rg [1,2,5] fun K I=> ?_);simp only[go_sem];apply I;refine j.J (j.J (j.rg [1,2,5,6] fun K I=> ?_));simp only[go_sem];apply I;refine j.aG (j.pT 6 rfl ?_);refine j.rebase [1,2,5,6,7] ?_;simp only[go_sem];refine j.while (fun(i:Nat) env' aS=>(i≤m.edges.length)∧env'=[(1, .v (.int .i64 (n:Int))),(2, .ptr bP 2 0 0),(5, .ai ((List.range m.edges.length).map fun a=>D.ai (cz m.edges.length (du m a)))),(6, .ai ((ft [] (lB m n i)).map ab)),(7, .v (.int .i64 (i:Int)))]∧aS=[(bP,aE.arr 2 [D.agg [.ai (m.edges.map aM.d), .ai (m.defs.map ab)]])]) (fun(i:Nat)=>m.edges.length-i) 0 ⟨Nat.zero_le _,rfl,rfl⟩ ?_;rintro i env' aS ⟨hi,rfl,rfl⟩ aB;have cH:=aB;refine j.J (j.J (j.rg [1,2,5,6,7] fun K I=> ?_));simp only[go_sem,g1,bn];apply I;refine j.cond rfl (fun fV=> ?_) (fun fV=> ?_)
 ·have aC:i<m.edges.length:=Int.ofNat_lt.1 (by simpa using fV);have aq:=b6 aM.d m.edges i aC;rw[aM.d]at aq;have bf:(0:Int)≤(i:Int):=by omega
  have bp:(i:Int)<(m.edges.length:Int):=by omega
  have dh:=(af _ (List.getElem_mem aC)).outs;have ew:(m.edges[i].outs.map ab).length=m.edges[i].outs.length:=List.length_map ..;have mN:=BQ m af n i;have xW:=vZ [] (lB m n i);simp only[List.length_nil]at xW;have eD:=Gp m n i;rw[ym m aC]at eD;have r_:=jT (du m n) aC;refine j.aN (j.J (j.aG (j.J (j.rg [1,2,5,6,7] fun K I=> ?_))));simp only[go_sem];apply I;refine j.aG ?_;refine j.rebase [1,2,5,6,7,8] ?_;simp only[go_sem];refine j.while (fun(U:Nat) env' aS=>(U≤m.edges[i].outs.length∧(du m n i=false→U=0))∧env'=[(1, .v (.int .i64 (n:Int))),(2, .ptr bP 2 0 0),(5, .ai ((List.range m.edges.length).map fun a=>D.ai (cz m.edges.length (du m a)))),(6, .ai ((ft (ft [] (lB m n i)) (m.edges[i].outs.take U)).map ab)),(7, .v (.int .i64 (i:Int))),(8, .v (.int .i64 (U:Int)))]∧aS=[(bP,aE.arr 2 [D.agg [.ai (m.edges.map aM.d), .ai (m.defs.map ab)]])]) (fun(U:Nat)=>m.edges[i].outs.length-U) 0 ⟨⟨Nat.zero_le _,fun _=>rfl⟩,rfl,rfl⟩ ?_;rintro U env' aS ⟨⟨aR,II⟩,rfl,rfl⟩ aB;have eg:=aB;refine j.J (j.J ?_);rcases(show(U<m.edges[i].outs.length∧du m n i=true)∨(U<m.edges[i].outs.length∧du m n i=false)∨U=m.edges[i].outs.length from by cases du m n i<;>simp<;>omega)with⟨en,rR⟩|⟨en,rR⟩|hE
  ·have xC:decide ((U:Int)<(m.edges[i].outs.length:Int))=true:=decide_eq_true (by omega);refine j.rg [1,2,5,6,7,8] fun K I=> ?_;simp only[go_sem,g1,bn,aq,bf,bp,ew,xC,dD,jq,jr,kh,fJ,r_,rR];apply I;refine j.bZ rfl (j.aN (j.J (j.aG ?_)));have eT:=b6 ab m.edges[i].outs U en;rw[ab]at eT;have dp:(0:Int)≤(U:Int):=by omega
   have dq:(U:Int)<(m.edges[i].outs.length:Int):=by omega
   have lT:=vZ (ft [] (lB m n i)) (m.edges[i].outs.take U);have Ss:(m.edges[i].outs.take U).length≤10:=by rw[List.length_take];omega
   refine j.rg [1,2,5,6,7,8] fun K I=> ?_;simp only[go_sem,g1,bn,aq,bf,bp,ew,eT,dp,dq];refine a1 Tryz.call59 (LO _ m.edges[i].outs[U] _ (by omega)) ?_;simp only[go_sem];apply I;refine j.ba (j.rg [1,2,5,6,7,8] fun K I=> ?_);simp only[go_sem];apply I;refine j.rebase [1,2,5,6,7,8] ?_;simp only[go_sem];rw[bH U (by omega),←VC _ _ U en];exact eg (U+1) _ _ ⟨⟨by omega,fun h=>by rw[rR]at h;cases h⟩,rfl,rfl⟩ (by omega)
  ·have xC:decide ((U:Int)<(m.edges[i].outs.length:Int))=true:=decide_eq_true (by omega);have dp:=II rR;subst dp;refine j.rg [1,2,5,6,7,8] fun K I=> ?_;simp only[go_sem,g1,bn,aq,bf,bp,ew,xC,dD,jq,jr,kh,fJ,r_,rR];apply I;refine j.bJ rfl (j.exit rfl (j.ba (j.rg [1,2,5,6,7] fun K I=> ?_)));simp only[go_sem];apply I;refine j.rebase [1,2,5,6,7] ?_;simp only[go_sem];rw[bH i (by omega)];rw[rR,if_neg (by decide),List.append_nil]at eD;exact cH (i+1) _ _ ⟨by omega,by rw[eD];rfl,rfl⟩ (by omega)
  have xC:decide ((U:Int)<(m.edges[i].outs.length:Int))=false:=decide_eq_false (by omega);refine j.rg [1,2,5,6,7,8] fun K I=> ?_;simp only[go_sem,g1,bn,aq,bf,bp,ew,xC];apply I;refine j.bJ rfl (j.exit rfl (j.ba (j.rg [1,2,5,6,7] fun K I=> ?_)));simp only[go_sem];apply I;refine j.rebase [1,2,5,6,7] ?_;simp only[go_sem];rw[bH i (by omega)];have gq:ft (ft [] (lB m n i)) (m.edges[i].outs.take U)=ft [] (lB m n (i+1)):=by
   rw[hE,List.take_length,eD,Fo];cases ae:du m n i with
   |true=>rfl
   |false=>
    have:m.edges[i].outs=[]:=List.length_eq_zero_iff.1 (by rw[←hE];exact II ae);rw[this];rfl
  exact cH (i+1) _ _ ⟨by omega,by rw[gq],rfl⟩ (by omega)
 have cC:i=m.edges.length:=by
  have h:(m.edges.length:Int)≤i:=by simpa using fV
  omega
 subst cC;refine j.exit rfl (j.J (j.rg [6] fun K I=> ?_));simp only[go_sem];apply I;refine j.ret ar Tryz.func62 (by simp[go_sem]) ?_;simp only[go_sem];rfl
theorem Md (m:bK) (n:Int) (f:ByteArray) (σ:al) (aA:m.edges.length<2^20) (af:∀e∈m.edges,e.small):
  AC Tryz.prog 24 [m.d, .v (.int .i64 n), .v (.string f)] σ (fun e σ'=>e= .ret (.v (.bool (iY m n f)))∧σ'=σ):=by
 refine AC.still ?_ σ;refine AC.forget (R:=fun e _=>e= .ret (.v (.bool (iY m n f)))) ?_ fun e σ' h=>⟨[],aQ.nil _,h,rfl⟩;have fX:m.d= .agg [.ai (m.edges.map aM.d), .ai (m.defs.map ab)]:=rfl;have bn:(m.edges.map aM.d).length=m.edges.length:=List.length_map ..;refine AC.bI Tryz.func24 Tryz.ntmps24 fun C ar=> ?_;rw[fX];refine j.J (j.rg [0,1,2] fun K I=> ?_);simp only[go_sem];intro bP;apply I;have g1:av bP [(bP,aE.arr 2 [D.agg [.ai (m.edges.map aM.d), .ai (m.defs.map ab)]])]=some (.arr 2 [D.agg [.ai (m.edges.map aM.d), .ai (m.defs.map ab)]]):=by rw[bE]
 refine j.J (j.J (j.rg [1,2,3] fun K I=> ?_));simp only[go_sem,g1];refine a1 Tryz.call47 (vI m f _ (by omega) (fun e he=>by have:=(af e he).outs;omega)) ?_;simp only[go_sem];apply I;refine j.cond rfl (fun mv=> ?_) (fun mv=> ?_)
 ·have hm:dd m f<0:=by simpa using mv
  refine j.J (j.rg [2] fun K I=> ?_);simp only[go_sem];refine a1 Tryz.call19 (FA f _) ?_;simp only[go_sem];apply I;refine j.ret ar Tryz.func24 (by simp[go_sem]) ?_;simp only[go_sem];unfold iY;rw[if_pos hm]
 have hm:¬dd m f<0:=by simpa using mv
 refine j.aN (j.J ?_);rcases(show n<0∨(0≤n∧(m.edges.length:Int)≤n)∨∃k:Nat,n=(k:Int)∧k<m.edges.length from by
  by_cases aa:n<0
  ·exact .inl aa
  by_cases ah:(m.edges.length:Int)≤n
  ·exact .inr (.inl ⟨by omega,ah⟩)
  exact .inr (.inr ⟨n.toNat,by omega,by omega⟩))with aa|⟨aa,ah⟩|⟨k,rfl,aj⟩
 ·have d1:decide (n≥0)=false:=decide_eq_false (by omega);refine j.rg [1,2,3] fun K I=> ?_;simp only[go_sem,g1,bn,d1];apply I;refine j.ret ar Tryz.func24 (by simp[go_sem]) ?_;simp only[go_sem];unfold iY;rw[if_neg hm,decide_eq_false (by omega)];rfl
 ·have d1:decide (n≥0)=true:=decide_eq_true (by omega);have d2:decide (n<(m.edges.length:Int))=false:=decide_eq_false (by omega);refine j.rg [1,2,3] fun K I=> ?_;simp only[go_sem,g1,bn,d1,d2];apply I;refine j.ret ar Tryz.func24 (by simp[go_sem]) ?_;simp only[go_sem];unfold iY;rw[if_neg hm,decide_eq_false (by omega)];rfl
 have d1:decide ((k:Int)≥0)=true:=decide_eq_true (by omega);have d2:decide ((k:Int)<(m.edges.length:Int))=true:=decide_eq_true (by omega);have e_:(qe m k).length<2^40:=by
  have aa:=vZ [] (lB m k m.edges.length);have ah:=BQ m af k m.edges.length;simp only[List.length_nil]at aa;unfold qe;omega
 refine j.rg [1,2,3] fun K I=> ?_;simp only[go_sem,g1,bn,d1,d2];refine a1 Tryz.call62 (Nx m k _ aA af aj) ?_;simp only[go_sem];refine a1 Tryz.call57 (pO (qe m k) f _ e_) ?_;simp only[go_sem];apply I;refine j.ret ar Tryz.func24 (by simp[go_sem]) ?_;simp only[go_sem];unfold iY;rw[if_neg hm,decide_eq_true ⟨by omega,by omega⟩,Bool.true_and,Int.toNat_natCast];rfl
theorem Lj (m:bK) (w:Nat→Bool):∀(f:Nat) (out:List Nat),(∀k∈out,k<m.edges.length)→(ll m w f out).length≤out.length+f∧∀k∈ll m w f out,k<m.edges.length
 |0,out,h=>⟨Nat.le_refl _,h⟩
 |f+1,out,h=>by
  unfold ll;cases ax:(List.range m.edges.length).find? (iW m w out)with
  |none=>exact⟨by show out.length≤_;omega,h⟩
  |some n=>
   have au:=List.mem_range.1 (List.mem_of_find?_eq_some ax);have:=Lj m w f (out++[n]) fun k aj=>by
    rcases List.mem_append.1 aj with aj|aj
    ·exact h k aj
    rw[List.mem_singleton.1 aj];exact au
   rw[List.length_append,List.length_singleton]at this;exact⟨Nat.le_trans this.1 (by omega),this.2⟩
theorem Vp {m:bK} {aD:List ByteArray} {P:List Nat} (h:hX m aD= .inr P):P.length≤m.edges.length∧∀k∈P,k<m.edges.length:=by
 unfold hX at h;split at h
 ·cases h
 cases h
 have:=Lj m (jY m aD) m.edges.length [] (fun k aj=>by cases aj);rw[List.length_nil,Nat.zero_add]at this;exact this
def Cf:Nat⊕List ay→D
 | .inl c=> .bd [.ai [], .v (.int .i64 (c:Int))]
 | .inr l=> .bd [.ai (l.map ay.d), .v (.int .i64 0)]
def nd (m:bK) (f:ay):Bool:=decide (dd m f.name<0)&& !kQ f.name
def uf (m:bK) (b:Nat):al:=[(b,aE.arr 2 [D.agg [.ai (m.edges.map aM.d), .ai (m.defs.map ab)]])]
def eY (m:bK) (b3:Nat) (o:Option Nat) (made:List ay) (b:Nat) (E:aM):al:=(b, .arr 6 [E.d])::(cellsOf o 2 (made.map ay.d)++uf m b3)
theorem Oy {cmd:ByteArray} {decl:List ByteArray} {files:List ay} {x:hO} (h:dm cmd decl files=some x):∀f∈x.outs,f.b.length≤65536:=by
 unfold dm at h;split at h
 ·cases h
 unfold lC at h;split at h
 ·cases h
 split at h
 ·rename_i ae
  cases h
  intro f ax;obtain⟨n,_,rfl⟩:=List.mem_map.1 ax;exact ae
 cases h
theorem HD {α:Type} (p:α→Bool) (l:List α) (k:Nat) (h:k<l.length):(l.take (k+1)).filter p=(l.take k).filter p++if p l[k]=true then [l[k]]else []:=by
 rw[List.take_succ_eq_append_getElem h,List.filter_append,List.filter_cons];rfl
theorem AC.Vw {P:Program} {f:FuncId} {args:List D} {σ:al} {R:cf→al→Prop} {b sz:Nat} {xs:List D} (ae:av b σ=some (.arr sz xs)) (h:AC P f (hb b sz xs args) (di b sz xs σ) R):AC P f args σ R:=by
 intro w S vs bh aL ak;obtain⟨bx,c6,bl⟩:=vY aL bh.lt ae;refine(h w _ vs ⟨bl.lt,bh.g.ev bx⟩ c6 (q7 bx (.inr rfl) (aL b _ ae).2 ak)).mono ?_;rintro e w' ⟨cX,σ',S',bR,c1,qL,oz⟩;exact⟨cX,σ',S',bR,c1,qL,bl.trans oz⟩
theorem AC.AV {P:Program} {f:FuncId} {σ τ:al} {R:cf→al→Prop} {o:Option Nat} {sz n:Nat} {xs:List D} {a d:D} (an:bL sz o σ=some xs) (au:n=xs.length) (bj:o=none→σ=τ) (aa:∀c,o=some c→di c sz xs σ=τ) (bb:∀c,D.b' c sz xs a=a) (aw:∀c,D.b' c sz xs d=d)
  (h:AC P f [a, .ai xs,d] τ R):AC P f [a, .own o sz n,d] σ R:=by
 subst au;cases o with
 |none=>
  rw[bj rfl];simp only[bL,Option.some.injEq]at an;subst an;refine AC.uL h fun w S vs h=> ?_;obtain⟨v1,l',rfl,aa,ah⟩:=h.cons_inv;obtain⟨v2,uE,rfl,aJ,bg⟩:=ah.cons_inv;exact .cons aa (.cons (ca.l5 _ _ w S v2 aJ) bg)
 |some b=>
  simp only[bL]at an;split at an
  ·rename_i s ys aq
   split at an
   ·rename_i af
    cases an;subst af
    refine AC.Vw aq ?_;rw[aa b rfl];have:hb b s xs [a, .own (some b) s xs.length,d]=[a, .ai xs,d]:=by
     simp only[hb,D.b',bb,aw];rw[if_pos ⟨trivial,trivial,Nat.le_refl _⟩,List.take_length]
    rw[this];exact h
   cases an
  cases an
theorem Uw {m:bK} {b3 dy c:Nat} {o:Option Nat} {made:List ay} {E:aM} (h:av c (eY m b3 o made dy E)=none) (g:(av b3 (eY m b3 o made dy E)).isSome=true):dO c (eY m b3 o made dy E):=by
 have ah:=eF h;have tM:o≠some c:=l4 (aQ.append_left _ _) ah.2;have aJ:c≠b3:=fun e=>by subst e;rw[h]at g;cases g
 refine dO.cons ah.1 (fun sz xs=>rfl) (dO.cells tM (fun y aF sz xs=> ?_) (dO.cons aJ (fun sz xs=>rfl) (dO.nil c)));obtain⟨f,_,rfl⟩:=List.mem_map.1 aF;rfl
theorem dO.top {c sz:Nat} {xs:List D} {ρ:al} (h:dO c ρ) (s:Nat) (ys:List D):di c s ys (cellsOf (some c) sz xs++ρ)=ρ:=by
 show di c s ys ((c,_)::ρ)=ρ
 simp only[di,if_true];exact h s ys
def Nk:hO:=⟨[],false,⟨#[]⟩,⟨#[]⟩⟩
def L2:Option hO→hO
 |none=>Nk
 |some x=>x
theorem V9 (l:List UInt8) (decl:List ByteArray) (files:List ay) (aA:l.length<2^15) (dE:files.length<2^31) (gG:∀f∈files,f.b.length<2^20) (aw:decl.length<2^40) (σ:al):
  AC Tryz.prog 48 [.v (.string (aK l)), .ai (decl.map ab), .ai (files.map ay.d)] σ (fun e σ'=>e= .ret (.bd [(L2 (dm (aK l) decl files)).d, .v (.bool (dm (aK l) decl files).isSome)])∧σ'=σ):=by
 refine(V8 l decl files aA dE gG aw σ).l7 fun e σ' h=> ?_;cases ag:dm (aK l) decl files with
 |some x=>rw[ag]at h;exact .inl h
 |none=>
  rw[ag]at h;obtain⟨rfl,rfl⟩:=h;refine .inr ⟨_, .bd [Nk.d, .v (.bool false)],rfl,fun w S v h=> ?_,rfl,rfl⟩;cases h with
  |bd h=>
   obtain⟨a0,gH,rfl,hI,jh⟩:=h.cons_inv;cases hI with
   |agg q=>
    obtain⟨hP,bu,rfl,hY,fa⟩:=q.cons_inv;exact .bd (.cons (.agg (.cons (ca.pU _ _ _ hY) fa)) jh)
end Go.Ab.S16
