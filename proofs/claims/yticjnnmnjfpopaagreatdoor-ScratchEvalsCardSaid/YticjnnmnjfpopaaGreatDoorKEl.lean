/- A part of a proof about the given program: the abstract machine, what functions compute, laid in few texts. -/
import Derived.Test.YticjnnmnjfpopaaGreatDoorKEk
import Derived.Test.YticjnnmnjfpopaaGreatDoorTie
import Derived.Test.YticjnnmnjfpopaaGreatDoorCards
import Derived.ProofKit
import Derived.LaidMore
import Derived.OpenShut
import Derived.Lay
import Derived.SevenTiedAt
import Derived.Stop.Joined
import Derived.Lib.LaidU8
set_option linter.unusedSimpArgs false
set_option linter.unusedVariables false
set_option linter.constructorNameAsVariable false
namespace Go.Ab.S16
open Go Go.Proofs Go.RowKit
set_option maxRecDepth 16000 in
set_option maxHeartbeats 8000000 in
theorem V' (m:bK) (l:List ay) (aD:List ByteArray) (aA:m.edges.length<2^20) (af:∀e∈m.edges,e.small) (nk:∀e∈m.edges,e.cmd.size≤20000) (aw:m.defs.length<2^20) (bc:aD.length<2^30) (dE:l.length<2^20) (gG:∀f∈l,f.b.length<2^20) (σ:al):
  AC Tryz.prog 15 [m.d, .ai (l.map ay.d), .ai (aD.map ab)] σ (fun e σ'=>e= .ret (Cf (sx m l aD))∧σ'=σ):=by
 refine AC.still ?_ σ;refine AC.forget (R:=fun e _=>e= .ret (Cf (sx m l aD))) ?_ fun e σ' h=>⟨[],aQ.nil _,h,rfl⟩;have fX:m.d= .agg [.ai (m.edges.map aM.d), .ai (m.defs.map ab)]:=rfl;have vB:(h9 m aD).length<2^30:=by
  unfold h9 iv;split
  ·exact(by decide)
  split
  ·exact(by decide)
  split
  ·exact Mc m af aw aA
  exact bc
 have bn:(l.map ay.d).length=l.length:=List.length_map ..;refine AC.bI Tryz.func15 Tryz.ntmps15 fun C ar=> ?_;rw[fX];refine j.J (j.rg [0,1,2] fun K I=> ?_);simp only[go_sem];intro b3;apply I;have g3:av b3 (uf m b3)=some (.arr 2 [D.agg [.ai (m.edges.map aM.d), .ai (m.defs.map ab)]]):=bE ..;change j C _ _ (uf m b3);refine j.J (j.rg [1,2,3] fun K I=> ?_);simp only[go_sem,g3];refine a1 Tryz.call43 (Oc m aD _ aA af aw bc) ?_;simp only[go_sem];apply I;refine j.J (j.J (j.rg [1,2,3,8] fun K I=> ?_));simp only[go_sem];apply I;refine j.cond rfl (fun s_=> ?_) (fun s_=> ?_)
 ·have bx:hv m aD≠0:=by
   have:=s_;rw[bne_iff_ne]at this;omega
  refine j.J (j.rg [8] fun K I=> ?_);simp only[go_sem];apply I;refine j.pT 6 rfl ?_;simp only[go_sem];refine j.ret ar Tryz.func15 (by simp[go_sem]) ?_;simp only[go_sem];rw[show sx m l aD= .inl (hv m aD)from if_pos bx];rfl
 have bx:¬hv m aD≠0:=by
  have:=s_;rw[bne_eq_false_iff_eq]at this;omega
 refine j.aN (j.J (j.J (j.rg [1,2,3] fun K I=> ?_)));simp only[go_sem,g3];refine a1 Tryz.call44 (KY m l (h9 m aD) _ aA af (by omega) (by omega)) ?_;simp only[go_sem];apply I;refine j.cond rfl (fun k6=> ?_) (fun k6=> ?_)
 ·have qj:(h9 m aD).any (lZ m l)=true:=k6;refine j.J (j.rg [] fun K I=> ?_);simp only[go_sem];apply I;refine j.pT 6 rfl ?_;simp only[go_sem];refine j.ret ar Tryz.func15 (by simp[go_sem]) ?_;simp only[go_sem];rw[show sx m l aD= .inl 6 from(if_neg bx).trans (if_pos qj)];rfl
 have qj:¬(h9 m aD).any (lZ m l)=true:=by rw[k6];decide
 obtain⟨P,aP⟩:∃P,hX m (h9 m aD)= .inr P:=by
  have bj:hv m aD=0:=Decidable.not_not.1 bx;unfold hv at bj;unfold h9;split at bj
  ·rename_i h;exact absurd bj h
  rename_i h
  rw[if_neg h];split at bj
  ·cases bj
  rename_i cu
  rw[if_neg cu];unfold hX at bj⊢;split at bj
  ·cases bj
  rename_i de
  rw[if_neg de];exact⟨_,rfl⟩
 have bR:sx m l aD=pX m l P []:=by
  have:sx m l aD=pX m l (Ff (hX m (h9 m aD))) []:=(if_neg bx).trans (if_neg qj);rw[this,aP];rfl
 have QA:=Vp aP;have zK:(P.map a_).length=P.length:=List.length_map ..;rw[bR]at ar;refine j.aN (j.J (j.rg [1,2,3] fun K I=> ?_));simp only[go_sem,g3];refine a1 Tryz.call45 (FB m (h9 m aD) _ aA af vB) ?_;simp only[go_sem,aP,um];apply I;refine j.J (j.rg [1,3,9] fun K I=> ?_);simp only[go_sem];apply I;refine j.J (j.J (j.rg [1,3,9,11] fun K I=> ?_));simp only[go_sem];apply I;refine j.aG (j.im 11 2 rfl ?_);refine j.rebase [1,3,9,11,12] ?_;simp only[go_sem];refine j.while (fun(i:Nat) env' aS=>∃(o:Option Nat) (made:List ay),(i≤P.length∧aV o 2 (made.map ay.d) (uf m b3)∧pX m l (P.drop i) made=pX m l P []∧made.length≤10*i∧∀f∈made,f.b.length<2^20)∧env'=[(1, .ai (l.map ay.d)),(3, .ptr b3 2 0 0),(9, .ai (P.map a_)),(11, .own o 2 made.length),(12, .v (.int .i64 (i:Int)))]∧aS=cellsOf o 2 (made.map ay.d)++uf m b3) (fun(i:Nat)=>P.length-i) 0 ⟨none,[],⟨Nat.zero_le _,aV.nil _ _,rfl,Nat.zero_le _,fun f ax=>by cases ax⟩,rfl,rfl⟩ ?_;rintro i env' aS ⟨o,made,⟨hi,ch,cT,dW,r7⟩,rfl,rfl⟩ aB;have cH:=aB;refine j.J (j.J (j.rg [1,3,9,11,12] fun K I=> ?_));simp only[go_sem,zK];apply I;refine j.cond rfl (fun CH=> ?_) (fun CH=> ?_)
 ·have aC:i<P.length:=by simpa using CH
  have rW:=b6 a_ P i aC;rw[a_]at rW;have bf:(0:Int)≤(i:Int):=by omega
  have bp:(i:Int)<(P.length:Int):=by omega
  obtain⟨n,au⟩:∃n,n=P[i]:=⟨_,rfl⟩;rw[←au]at rW;have hh:n<m.edges.length:=QA.2 n (by rw[au];exact List.getElem_mem _);have dQ:=b6 aM.d m.edges n hh;have vk:gh m n=m.edges[n]:=by unfold gh;rw[List.getD_eq_getElem?_getD,List.getElem?_eq_getElem hh];rfl
  obtain⟨E,rL⟩:∃E,E=gh m n:=⟨_,rfl⟩;rw[←vk,←rL,aM.d]at dQ;have dh:E.small:=by rw[rL,vk];exact af _ (List.getElem_mem _)
  have Q2:E.cmd.size≤20000:=by rw[rL,vk];exact nk _ (List.getElem_mem _)
  have hC:(a' E.cmd).length<2^15:=by
   have h:(a' E.cmd).length=E.cmd.size:=by rw[←gu,gr]
   omega
  have jH:(m.edges.map aM.d).length=m.edges.length:=List.length_map ..;have jq:(0:Int)≤(n:Int):=by omega
  have jr:(n:Int)<(m.edges.length:Int):=by omega
  have zn:=ch.keep g3;rw[List.drop_eq_getElem_cons aC,←au,pX]at cT;refine j.aN (j.J (j.aG (j.J ?_)));refine j.draw [1,3,9,11,12] [] [b3] [9] [(0,true),(1,true),(2,true),(3,true),(4,true),(5,true),(6,true),(7,true),(8,false),(9,false)] (by kernel_rfl) (by decide) (by kernel_rfl) fun K I=> ?_;simp only[go_sem,zK,rW,bf,bp,dQ,jH,jq,jr,zn,List.take_succ_cons,List.take_zero,List.length_cons,List.length_nil,List.drop_succ_cons,List.drop_zero,List.drop_nil,List.append_nil,List.cons_append,List.nil_append,D.cells];intro dy zN;have Qd:dy≠b3:=fun e=>by rw[e,zn]at zN;cases zN
  have Ij:b3≠dy:=Ne.symm Qd;refine⟨fun bP e=>by subst e;rw[aW,if_neg Ij], ?_⟩;apply I;change j C _ _ (eY m b3 o made dy E);have iz:av dy (eY m b3 o made dy E)=some (.arr 6 [D.agg [.ai (E.outs.map ab), .ai (E.ins.map ab), .ai (E.impl.map ab), .ai (E.order.map ab), .v (.string E.cmd), .v (.string E.dep)]]):=bE ..;have uZ:av b3 (eY m b3 o made dy E)=some (.arr 2 [D.agg [.ai (m.edges.map aM.d), .ai (m.defs.map ab)]]):=by unfold eY;rw[aW,if_neg Ij];exact zn
  have Se:o≠some dy:=l4 (aQ.append_left _ _) zN;refine j.J (j.J ?_);refine j.draw [1,3,9,11,12,13] [] [b3,dy] [] [(0,true),(1,true),(2,true),(3,false),(4,false)] (by kernel_rfl) (by decide) (by kernel_rfl) fun K I=> ?_;simp only[go_sem,uZ,iz];refine a1 Tryz.call46 (A' E _ dh) ?_;simp only[go_sem,uZ,iz];refine a1 Tryz.call44 (KY m l E.bG _ aA af (by omega) (by have aa:=dh.ins;have ah:=dh.impl;have aJ:=dh.order;unfold aM.bG;simp only[List.length_append];omega)) ?_;simp only[go_sem,uZ,iz];apply I;refine j.cond rfl (fun tc=> ?_) (fun tc=> ?_)
  ·have xQ:(gh m n).bG.any (lZ m l)=true:=by rw[←rL];exact tc
   have aL:nL m l n made= .inl 6:=by unfold nL;exact if_pos xQ
   refine j.J (j.rg [] fun K I=> ?_);simp only[go_sem];apply I;refine j.pT 6 rfl ?_;simp only[go_sem];refine j.ret ar Tryz.func15 (by simp[go_sem]) ?_;simp only[go_sem];rw[←cT,aL];rfl
  have xQ:¬(gh m n).bG.any (lZ m l)=true:=by rw[←rL,tc];decide
  refine j.aN (j.J (j.rg [1,3,9,11,12,13] fun K I=> ?_));simp only[go_sem];apply I;refine j.J (j.J (j.rg [1,3,9,11,12,13,14] fun K I=> ?_));simp only[go_sem];apply I;refine j.aG (j.im 14 2 rfl ?_);refine j.rebase [1,3,9,11,12,13,14,15] ?_;simp only[go_sem];refine j.while (fun(k:Nat) env' aS=>∃(q:Option Nat),(k≤l.length∧aV q 2 (((l.take k).filter (nd m)).map ay.d) (eY m b3 o made dy E))∧env'=[(1, .ai (l.map ay.d)),(3, .ptr b3 2 0 0),(9, .ai (P.map a_)),(11, .own o 2 made.length),(12, .v (.int .i64 (i:Int))),(13, .ptr dy 6 0 0),(14, .own q 2 ((l.take k).filter (nd m)).length),(15, .v (.int .i64 (k:Int)))]∧aS=cellsOf q 2 (((l.take k).filter (nd m)).map ay.d)++eY m b3 o made dy E) (fun(k:Nat)=>l.length-k) 0 ⟨none,⟨Nat.zero_le _,aV.nil _ _⟩,rfl,rfl⟩ ?_;rintro k env' aS ⟨q,⟨aj,iE⟩,rfl,rfl⟩ aB;have eg:=aB;refine j.J (j.J (j.rg [1,3,9,11,12,13,14,15] fun K I=> ?_));simp only[go_sem,bn];apply I;refine j.cond rfl (fun td=> ?_) (fun td=> ?_)
  ·have eO:k<l.length:=by simpa using td
   have tx:=b6 ay.d l k eO;rw[ay.d]at tx;have dc:(0:Int)≤(k:Int):=by omega
   have ke:(k:Int)<(l.length:Int):=by omega
   have mu:=iE.keep uZ;have gY:=HD (nd m) l k eO;refine j.aN (j.J (j.aG (j.J ?_)));have fm:=vI m l[k].name (cellsOf q 2 (((l.take k).filter (nd m)).map ay.d)++eY m b3 o made dy E) (by omega) (fun e he=>by have:=(af e he).outs;omega);have JN:=FA l[k].name (cellsOf q 2 (((l.take k).filter (nd m)).map ay.d)++eY m b3 o made dy E);rcases(show decide (dd m l[k].name<0)=false∨(decide (dd m l[k].name<0)=true∧kQ l[k].name=true)∨(decide (dd m l[k].name<0)=true∧kQ l[k].name=false)from by
    cases decide (dd m l[k].name<0)with
    |false=>exact .inl rfl
    |true=>
     cases kQ l[k].name with
     |true=>exact .inr (.inl ⟨rfl,rfl⟩)
     |false=>exact .inr (.inr ⟨rfl,rfl⟩))with r6|⟨r6,tL⟩|⟨r6,tL⟩
   ·refine j.draw [1,3,9,11,12,13,14,15] [] [b3] [] [(0,true),(1,true),(2,true),(3,true),(4,true),(5,true),(6,false),(7,true),(8,true),(9,true),(10,true),(11,true),(12,true),(13,true),(14,false),(15,true),(16,true)] (by kernel_rfl) (by decide) (by kernel_rfl) fun K I=> ?_;simp only[go_sem,bn,tx,dc,ke,mu];refine a1 Tryz.call47 fm ?_;simp only[go_sem,mu,r6];apply I;refine j.bJ rfl (j.aN (j.ba (j.rg [1,3,9,11,12,13,14,15] fun K I=> ?_)));simp only[go_sem];apply I;refine j.rebase [1,3,9,11,12,13,14,15] ?_;simp only[go_sem];rw[bH k (by omega)];rw[if_neg (by unfold nd;rw[r6,Bool.false_and];decide),List.append_nil]at gY
    rw[←gY]at iE⊢;exact eg (k+1) _ _ ⟨q,⟨by omega,iE⟩,rfl,rfl⟩ (by omega)
   ·refine j.draw [1,3,9,11,12,13,14,15] [] [b3] [] [(0,true),(1,true),(2,true),(3,true),(4,true),(5,true),(6,false),(7,true),(8,true),(9,true),(10,true),(11,true),(12,true),(13,true),(14,false),(15,true),(16,true)] (by kernel_rfl) (by decide) (by kernel_rfl) fun K I=> ?_;simp only[go_sem,bn,tx,dc,ke,mu];refine a1 Tryz.call47 fm ?_;simp only[go_sem,mu,r6,bn,tx,dc,ke];refine a1 Tryz.call19 JN ?_;simp only[go_sem,mu,tL,Bool.not_true];apply I;refine j.bJ rfl (j.aN (j.ba (j.rg [1,3,9,11,12,13,14,15] fun K I=> ?_)));simp only[go_sem];apply I;refine j.rebase [1,3,9,11,12,13,14,15] ?_;simp only[go_sem];rw[bH k (by omega)];rw[if_neg (by unfold nd;rw[r6,tL];decide),List.append_nil]at gY
    rw[←gY]at iE⊢;exact eg (k+1) _ _ ⟨q,⟨by omega,iE⟩,rfl,rfl⟩ (by omega)
   refine j.draw [1,3,9,11,12,13,14,15] [] [b3] [] [(0,true),(1,true),(2,true),(3,true),(4,true),(5,true),(6,false),(7,true),(8,true),(9,true),(10,true),(11,true),(12,true),(13,true),(14,false),(15,true),(16,true)] (by kernel_rfl) (by decide) (by kernel_rfl) fun K I=> ?_;simp only[go_sem,bn,tx,dc,ke,mu];refine a1 Tryz.call47 fm ?_;simp only[go_sem,mu,r6,bn,tx,dc,ke];refine a1 Tryz.call19 JN ?_;simp only[go_sem,mu,tL,Bool.not_false];apply I;refine j.bZ rfl ?_;rw[if_pos (show nd m l[k]=true by unfold nd;rw[r6,tL];rfl)]at gY
   obtain⟨F,c7⟩:∃F,F=(l.take k).filter (nd m):=⟨_,rfl⟩;rw[←c7]at gY iE⊢;have CW:F.length≤k:=by rw[c7];exact Nat.le_trans (List.length_filter_le ..) (by rw[List.length_take];omega)
   have vw:=iE.bL;have vi:=iE.cB;have tV:List.take F.length (F.map ay.d)=F.map ay.d:=List.take_of_length_le (by simp);have Qo:(F.map ay.d).length=F.length:=List.length_map ..;refine j.fw [1,3,9,11,12,13,14,15] [85] fun K I=> ?_;simp only[go_sem,bn,tx,dc,ke,vw,vi,tV,Qo];refine⟨by decide,⟨by omega,fun y aF=>by rw[aF];exact⟨rfl,rfl⟩,by omega,by omega⟩,fun ob aO ax=> ?_⟩;have g_:F.map ay.d++[D.agg [.v (.string l[k].name), .ai (l[k].b.map bD)]]=(F++[l[k]]).map ay.d:=by rw[List.map_append];rfl
   have oG:((F++[l[k]]).map ay.d).length=(F++[l[k]]).length:=List.length_map ..;rw[g_]at aO⊢;rw[oG];apply I;refine j.ba (j.rg [1,3,9,11,12,13,14,15] fun K I=> ?_);simp only[go_sem];apply I;refine j.rebase [1,3,9,11,12,13,14,15] ?_;simp only[go_sem];rw[bH k (by omega)];refine eg (k+1) _ _ ⟨ob,⟨by omega,by rw[gY];exact⟨ax,aO⟩⟩,by rw[gY],by rw[gY]⟩ (by omega)
  have gZ:k=l.length:=by
   have:¬k<l.length:=by simpa using td
   omega
  rw[gZ,List.take_length]at iE⊢;obtain⟨F,c7⟩:∃F,F=l.filter (nd m):=⟨_,rfl⟩;rw[←c7]at iE⊢;have CW:F.length≤l.length:=by rw[c7];exact List.length_filter_le ..
  refine j.exit rfl (j.J (j.J (j.rg [1,3,9,11,12,13,14] fun K I=> ?_)));simp only[go_sem];apply I;refine j.aG ?_;refine j.rebase [1,3,9,11,12,13,14,16] ?_;simp only[go_sem];refine j.while (fun(k:Nat) env' aS=>∃(fa:Option Nat),(k≤made.length∧aV fa 2 ((F++(made.take k).filter fun f=>iY m n f.name).map ay.d) (eY m b3 o made dy E))∧env'=[(1, .ai (l.map ay.d)),(3, .ptr b3 2 0 0),(9, .ai (P.map a_)),(11, .own o 2 made.length),(12, .v (.int .i64 (i:Int))),(13, .ptr dy 6 0 0),(14, .own fa 2 (F++(made.take k).filter fun f=>iY m n f.name).length),(16, .v (.int .i64 (k:Int)))]∧aS=cellsOf fa 2 ((F++(made.take k).filter fun f=>iY m n f.name).map ay.d)++eY m b3 o made dy E) (fun(k:Nat)=>made.length-k) 0 ⟨q,⟨Nat.zero_le _,by rw[List.take_zero,List.filter_nil,List.append_nil];exact iE⟩,by rw[List.take_zero,List.filter_nil,List.append_nil];rfl,by rw[List.take_zero,List.filter_nil,List.append_nil]⟩ ?_
  rintro k env' aS ⟨fa,⟨gl,nr⟩,rfl,rfl⟩ aB;have hl:=aB;refine j.J (j.J (j.rg [1,3,9,11,12,13,14,16] fun K I=> ?_));simp only[go_sem];apply I;refine j.cond rfl (fun CT=> ?_) (fun CT=> ?_)
  ·have xN:k<made.length:=by simpa using CT
   obtain⟨c,rfl⟩:∃c,o=some c:=by
    cases o with
    |none=>
     have:=congrArg List.length (ch.zero rfl);rw[List.length_map,List.length_nil]at this;omega
    |some c=>exact⟨c,rfl⟩
   have P0:av c (eY m b3 (some c) made dy E)=some (.arr 2 (made.map ay.d)):=by
    unfold eY;rw[aW,if_neg (fun e=>Se (by rw[e]))];exact bE ..
   have mu:=nr.keep uZ;have u3:=nr.keep P0;have jl:=b6 ay.d made k xN;rw[ay.d]at jl;have fY:(made.map ay.d).length=made.length:=List.length_map ..;have dc:(0:Int)≤(k:Int):=by omega
   have ke:(k:Int)<(made.length:Int):=by omega
   have gY:=HD (fun f=>iY m n f.name) made k xN;refine j.aN (j.J (j.aG (j.J ?_)));cases Aq:iY m n made[k].name
   ·refine j.draw [1,3,9,11,12,13,14,16] [] [b3,c] [] [(0,true),(1,true),(2,true),(3,true),(4,true),(5,true),(6,true),(7,true),(8,true),(9,true),(10,false)] (by kernel_rfl) (by decide) (by kernel_rfl) fun K I=> ?_;simp only[go_sem,zK,rW,bf,bp,mu,u3,jl,fY,dc,ke,xN];refine a1 Tryz.call24 (Md m (n:Int) made[k].name _ aA af) ?_;simp only[go_sem,Aq,mu,u3];apply I;refine j.bJ rfl (j.aN (j.ba (j.rg [1,3,9,11,12,13,14,16] fun K I=> ?_)));simp only[go_sem];apply I;refine j.rebase [1,3,9,11,12,13,14,16] ?_;simp only[go_sem];rw[bH k (by omega)];rw[if_neg (by rw[Aq];decide),List.append_nil]at gY
    rw[←gY]at nr⊢;exact hl (k+1) _ _ ⟨fa,⟨by omega,nr⟩,rfl,rfl⟩ (by omega)
   refine j.draw [1,3,9,11,12,13,14,16] [] [b3,c] [] [(0,true),(1,true),(2,true),(3,true),(4,true),(5,true),(6,true),(7,true),(8,true),(9,true),(10,false)] (by kernel_rfl) (by decide) (by kernel_rfl) fun K I=> ?_;simp only[go_sem,zK,rW,bf,bp,mu,u3,jl,fY,dc,ke,xN];refine a1 Tryz.call24 (Md m (n:Int) made[k].name _ aA af) ?_;simp only[go_sem,Aq,mu,u3];apply I;refine j.bZ rfl ?_;rw[if_pos (show(fun f:ay=>iY m n f.name) made[k]=true from Aq)]at gY;obtain⟨G,lI⟩:∃G,G=F++(made.take k).filter fun f=>iY m n f.name:=⟨_,rfl⟩;have CY:F++((made.take (k+1)).filter fun f=>iY m n f.name)=G++[made[k]]:=by rw[gY,lI,List.append_assoc]
   rw[←lI]at nr u3⊢;have Qw:G.length≤l.length+made.length:=by
    rw[lI,List.length_append];have:((made.take k).filter fun f=>iY m n f.name).length≤made.length:=Nat.le_trans (List.length_filter_le ..) (by rw[List.length_take];omega);omega
   have vw:=nr.bL;have vi:=nr.cB;have tV:List.take G.length (G.map ay.d)=G.map ay.d:=List.take_of_length_le (by simp);have Qx:(G.map ay.d).length=G.length:=List.length_map ..;refine j.fw [1,3,9,11,12,13,14,16] [109] fun K I=> ?_;simp only[go_sem,u3,jl,fY,dc,ke,xN,vw,vi,tV,Qx];refine⟨by decide,⟨by omega,fun y aF=>by rw[aF];exact⟨rfl,rfl⟩,by omega,by omega⟩,fun ob aO ax=> ?_⟩;have g_:G.map ay.d++[D.agg [.v (.string made[k].name), .ai (made[k].b.map bD)]]=(G++[made[k]]).map ay.d:=by rw[List.map_append];rfl
   have oG:((G++[made[k]]).map ay.d).length=(G++[made[k]]).length:=List.length_map ..;rw[g_]at aO⊢;rw[oG];apply I;refine j.ba (j.rg [1,3,9,11,12,13,14,16] fun K I=> ?_);simp only[go_sem];apply I;refine j.rebase [1,3,9,11,12,13,14,16] ?_;simp only[go_sem];rw[bH k (by omega)];refine hl (k+1) _ _ ⟨ob,⟨by omega,by rw[CY];exact⟨ax,aO⟩⟩,by rw[CY],by rw[CY]⟩ (by omega)
  have RO:k=made.length:=by
   have:¬k<made.length:=by simpa using CT
   omega
  rw[RO,List.take_length]at nr⊢;obtain⟨G,lI⟩:∃G,G=F++made.filter fun f=>iY m n f.name:=⟨_,rfl⟩;rw[←lI]at nr⊢;have Qw:G.length≤l.length+made.length:=by
   rw[lI,List.length_append];have:=List.length_filter_le (fun f:ay=>iY m n f.name) made;omega
  have CX:G=A_ m l made n:=by rw[lI,c7];rfl
  have Qv:∀f∈G,f.b.length<2^20:=fun f ax=>by
   rw[lI]at ax;rcases List.mem_append.1 ax with h|h
   ·rw[c7]at h;exact gG f (List.mem_filter.1 h).1
   exact r7 f (List.mem_filter.1 h).1
  refine j.exit rfl (j.J ?_);refine j.rebase [1,3,9,11,12,13,14] ?_;simp only[go_sem];refine pW 14 (o:=fa) (xs:=G.map ay.d) (by rw[List.length_map];rfl) nr (fun c ag=> ?_) (fun c ag p aP aj=> ?_) ?_
  ·have aa:=nr.fresh c ag;have ah:=eF aa;have tM:o≠some c:=l4 (aQ.append_left _ _) ah.2;have aJ:c≠b3:=fun e=>by rw[e,zn]at ah;cases ah.2
   refine dO.cons ah.1 (fun sz xs=>rfl) (dO.cells tM (fun y aF sz xs=> ?_) (dO.cons aJ (fun sz xs=>rfl) (dO.nil c)));obtain⟨f,_,rfl⟩:=List.mem_map.1 aF;rfl
  ·have aa:=nr.fresh c ag;have ah:=eF aa;have tM:o≠some c:=l4 (aQ.append_left _ _) ah.2;simp only[List.mem_cons,List.not_mem_nil,or_false]at aP;rcases aP with rfl|rfl|rfl|rfl|rfl|rfl|rfl
   ·rfl
   ·rfl
   ·rfl
   ·cases o with
    |none=>rfl
    |some k=>
     show(if k=c∧_ then _ else _)=_
     rw[if_neg (fun e=>tM (by rw[e.1]))]
   ·rfl
   ·rfl
   exact absurd rfl aj
  simp only[go_sem];have u7:=V9 (a' E.cmd) (E.ins++E.impl) G hC (by omega) Qv (by have aa:=dh.ins;have ah:=dh.impl;rw[List.length_append];omega);rw[gr]at u7;obtain⟨cU,sg⟩:∃cU,cU=L2 (dm E.cmd (E.ins++E.impl) G):=⟨_,rfl⟩;obtain⟨uj,pI⟩:∃uj,uj=(dm E.cmd (E.ins++E.impl) G).isSome:=⟨_,rfl⟩;rw[←sg,←pI]at u7;have mQ:cU.d.cells.length=4:=rfl;have pM:cU.d.plain=true:=rfl;have zL:∀c,av c (eY m b3 o made dy E)=none→dO c (eY m b3 o made dy E):=fun c ag=>Uw ag (by rw[uZ];rfl)
  have pw:∀eb,av eb (eY m b3 o made dy E)=none→dy≠eb∧∀Z,av dy ((eb,Z)::eY m b3 o made dy E)=some (aE.arr 6 [D.agg [.ai (E.outs.map ab), .ai (E.ins.map ab), .ai (E.impl.map ab), .ai (E.order.map ab), .v (.string E.cmd), .v (.string E.dep)]]):=fun eb h=>by
   have aZ:dy≠eb:=fun e=>by rw[←e,iz]at h;cases h
   exact⟨aZ,fun Z=>by rw[aW,if_neg aZ,iz]⟩
  have DM:E.ins.map ab++E.impl.map ab=(E.ins++E.impl).map ab:=(List.map_append ..).symm;have C1:(E.ins.map ab).length=E.ins.length:=List.length_map ..;have C3:(E.impl.map ab).length=E.impl.length:=List.length_map ..;have ab6:=dh.ins;have aca:=dh.impl;have El:List.take E.ins.length (E.ins.map ab)=E.ins.map ab:=List.take_of_length_le (by omega);have c5:(∀(y:D),y∈E.ins.map ab→y.cells.length=1∧y.plain=true)∧(0+(E.ins.map ab).length)*16≤2^46∧0+(E.ins.map ab).length<2^46:=⟨c' _,by omega,by omega⟩;have B0:E.ins.length≤E.ins.length∧(∀(y:D),y∈E.impl.map ab→y.cells.length=1∧y.plain=true)∧(E.ins.length+E.impl.length)*16≤2^46∧E.ins.length+E.impl.length<2^46:=⟨Nat.le_refl _,c' _,by omega,by omega⟩;refine j.Hq [1,3,9,11,12,13,14] [114] [dy] [] (.op 0 true (.op 2 true (.op 3 true (.op 4 true (.op 6 true (.op 7 true (.op 9 true (.op 1 true (.alt 5 14 (.alt 8 14 (.alt 10 14 (.op 11 true (.op 12 true (.op 13 true (.op 14 false (.op 15 false (.op 16 true .nil)))))) (.op 10 false (.op 11 true (.op 12 true (.op 13 true (.op 15 false (.op 16 true .nil))))))) (.op 8 false (.op 10 false (.op 11 true (.op 12 true (.op 13 true (.op 15 false (.op 16 true .nil)))))))) (.op 5 false (.op 8 false (.op 10 false (.op 11 true (.op 12 true (.op 13 true (.op 15 false (.op 16 true .nil))))))))))))))))) (by kernel_rfl) (by decide) (by kernel_rfl) fun K I=> ?_;simp only[go_sem,iz];refine(fun(pJ:∀(eb:Nat) (env':Env),av eb (eY m b3 o made dy E)=none→(eget 1 env'= .ai (l.map ay.d)∧eget 3 env'= .ptr b3 2 0 0∧eget 9 env'= .ai (P.map a_)∧eget 11 env'= .own o 2 made.length∧eget 12 env'= .v (.int .i64 (i:Int))∧eget 13 env'= .ptr dy 6 0 0∧eget 17 env'= .ptr eb 4 0 0∧eget 18 env'= .v (.bool uj))→K env' ((eb, .arr 4 [cU.d])::eY m b3 o made dy E))=> ?_) ?_
  ·refine⟨⟨c5,fun ob aO ax=> ?_⟩, ?_⟩
   ·have mH:aV ob 1 (E.ins.map ab) (eY m b3 o made dy E):=⟨ax,aO⟩;have DW:=mH.bL;have Di:=mH.cB;refine⟨fun b ae=>by subst ae;rw[mH.keep iz,iz], ?_⟩;have DC:(if ob=none then []else E.ins.map ab)=E.ins.map ab:=by
     split
     ·rename_i h;rw[aO h]
     rfl
    simp only[go_sem,DW,Di,DC,C1,El,DM,C3];refine⟨⟨B0,fun gw jO gF=> ?_⟩, ?_⟩
    ·have cW:aV gw 1 ((E.ins++E.impl).map ab) (eY m b3 o made dy E):=⟨gF,jO⟩;refine⟨fun b ae=>by subst ae;rw[cW.keep iz,mH.keep iz], ?_, ?_⟩
     ·refine a1 Tryz.call48 (AC.AV cW.bL rfl (fun h=>by subst h;rfl) (fun c ag=>by subst ag;exact dO.top (zL c (cW.fresh c rfl)) _ _) (fun c=>rfl) (fun c=>rfl) (u7 (eY m b3 o made dy E))) ?_
      simp only[go_sem,iz,mQ,pM];refine⟨fun b ae=>by subst ae;rw[iz,cW.keep iz],fun eb k'=> ?_⟩;obtain⟨mw,hz⟩:=pw eb k';exact⟨fun b ae=>by subst ae;rw[hz,iz],fun b ae=>by subst ae;rw[hz,hz],pJ eb _ k' ⟨rfl,rfl,rfl,rfl,rfl,rfl,rfl,rfl⟩⟩
     intro eb k';have n17:=cW.jP k';obtain⟨mw,hz⟩:=pw eb n17.1;refine⟨fun b ae=>by subst ae;rw[aW,if_neg mw], ?_⟩;refine⟨_,Tryz.call48,(AC.AV (τ:=(eb,(aE.arr 4 [D.agg [D.v (Value.slice none 0 0),D.v (Value.bool false),D.v (Value.string ByteArray.empty),D.v (Value.string ByteArray.empty)]]))::eY m b3 o made dy E) ((yj n17.2).trans cW.bL) rfl (fun h=>by subst h;rfl) (fun c ag=> ?_) (fun c=>rfl) (fun c=>rfl) (u7 _)).mono ?_⟩
     ·subst ag;have aZ:c≠eb:=fun e=>n17.2 (by rw[e]);show di c 1 _ ((eb,(aE.arr 4 [D.agg [D.v (Value.slice none 0 0),D.v (Value.bool false),D.v (Value.string ByteArray.empty),D.v (Value.string ByteArray.empty)]]))::(cellsOf (some c) 1 _++eY m b3 o made dy E))=_
      rw[di,if_neg aZ,dO.top (zL c (cW.fresh c rfl))];rfl
     rintro e σ1 ⟨rfl,rfl⟩;simp only[go_sem,iz,mQ,pM];exact⟨fun b ae=>by subst ae;rw[hz,aW,if_neg mw,cW.keep iz],fun b ae=>by subst ae;rw[hz,hz],pJ eb _ n17.1 ⟨rfl,rfl,rfl,rfl,rfl,rfl,rfl,rfl⟩⟩
    intro eb k';have n17:=mH.jP k';obtain⟨mw,hz⟩:=pw eb n17.1;have Sh:∀{Z:aE},bL 1 ob ((eb,Z)::(cellsOf ob 1 (E.ins.map ab)++eY m b3 o made dy E))=some (E.ins.map ab):=(yj n17.2).trans mH.bL;have Q9:∀{Z:aE},h0 ob ((eb,Z)::(cellsOf ob 1 (E.ins.map ab)++eY m b3 o made dy E))=(eb,Z)::eY m b3 o made dy E:=fun{Z}=>by
     have:=Mx (o:=ob) (A:=[(eb,Z)]) (B:=cellsOf ob 1 (E.ins.map ab)++eY m b3 o made dy E) (fun c ag=>by rw[aW,if_neg (fun e=>n17.2 (by rw[ag,e]))];rfl)
     rw[mH.cB]at this;exact this
    refine⟨fun b ae=>by subst ae;rw[aW,if_neg mw], ?_⟩;simp only[go_sem,Sh,Q9,C1,El,DM,C3];refine⟨B0,fun gw jO gF=> ?_⟩;have cW:aV gw 1 ((E.ins++E.impl).map ab) ((eb,(aE.arr 4 [D.agg [D.v (Value.slice none 0 0),D.v (Value.bool false),D.v (Value.string ByteArray.empty),D.v (Value.string ByteArray.empty)]]))::eY m b3 o made dy E):=⟨gF,jO⟩;refine⟨fun b ae=>by subst ae;rw[cW.keep (hz _),aW,if_neg mw,mH.keep iz], ?_⟩;refine a1 Tryz.call48 (AC.AV cW.bL rfl (fun h=>by subst h;rfl) (fun c ag=>by subst ag;exact dO.top (dO.cons (eF (cW.fresh c rfl)).1 (fun _ _=>rfl) (zL c (eF (cW.fresh c rfl)).2)) _ _) (fun c=>rfl) (fun c=>rfl) (u7 _)) ?_
    simp only[go_sem,iz,mQ,pM];exact⟨fun b ae=>by subst ae;rw[hz,cW.keep (hz _)],fun b ae=>by subst ae;rw[hz,hz],pJ eb _ n17.1 ⟨rfl,rfl,rfl,rfl,rfl,rfl,rfl,rfl⟩⟩
   intro eb k';obtain⟨mw,hz⟩:=pw eb k';refine⟨fun b ae=>by subst ae;rw[hz,iz],c5,fun ob aO ax=> ?_⟩;have mH:aV ob 1 (E.ins.map ab) ((eb,(aE.arr 4 [D.agg [D.v (Value.slice none 0 0),D.v (Value.bool false),D.v (Value.string ByteArray.empty),D.v (Value.string ByteArray.empty)]]))::eY m b3 o made dy E):=⟨ax,aO⟩;have DW:=mH.bL;have Di:=mH.cB;have DC:(if ob=none then []else E.ins.map ab)=E.ins.map ab:=by
    split
    ·rename_i h;rw[aO h]
    rfl
   refine⟨fun b ae=>by subst ae;rw[mH.keep (hz _),hz], ?_⟩;simp only[go_sem,DW,Di,DC,C1,El,DM,C3];refine⟨B0,fun gw jO gF=> ?_⟩;have cW:aV gw 1 ((E.ins++E.impl).map ab) ((eb,(aE.arr 4 [D.agg [D.v (Value.slice none 0 0),D.v (Value.bool false),D.v (Value.string ByteArray.empty),D.v (Value.string ByteArray.empty)]]))::eY m b3 o made dy E):=⟨gF,jO⟩;refine⟨fun b ae=>by subst ae;rw[cW.keep (hz _),mH.keep (hz _)], ?_⟩;refine a1 Tryz.call48 (AC.AV cW.bL rfl (fun h=>by subst h;rfl) (fun c ag=>by subst ag;exact dO.top (dO.cons (eF (cW.fresh c rfl)).1 (fun _ _=>rfl) (zL c (eF (cW.fresh c rfl)).2)) _ _) (fun c=>rfl) (fun c=>rfl) (u7 _)) ?_
   simp only[go_sem,iz,mQ,pM];exact⟨fun b ae=>by subst ae;rw[hz,cW.keep (hz _)],fun b ae=>by subst ae;rw[hz,hz],pJ eb _ k' ⟨rfl,rfl,rfl,rfl,rfl,rfl,rfl,rfl⟩⟩
  rintro eb env' k' ⟨bt,er,OZ,B',Ca,OQ,OS,OT⟩;apply I;refine j.pk (env':=[(1, .ai (l.map ay.d)),(3, .ptr b3 2 0 0),(9, .ai (P.map a_)),(11, .own o 2 made.length),(12, .v (.int .i64 (i:Int))),(13, .ptr dy 6 0 0),(17, .ptr eb 4 0 0),(18, .v (.bool uj))]) ?_ (fun U=> ?_);rotate_left
  ·simp only[eget];repeat' split
   all_goals first
    |(rename_i h;subst h;first|(rw[bt];exact ca.refl _)|(rw[er];exact ca.refl _)|(rw[OZ];exact ca.refl _)|(rw[B'];exact ca.refl _)|(rw[Ca];exact ca.refl _)|(rw[OQ];exact ca.refl _)|(rw[OS];exact ca.refl _)|(rw[OT];exact ca.refl _))
    |exact ca.any _
  refine j.J (j.J ?_);rcases(show dm E.cmd (E.ins++E.impl) G=none∨(∃x,dm E.cmd (E.ins++E.impl) G=some x∧((x.dep.toList==E.dep.toList)&&gU E.outs x.outs)=false)∨(∃x,dm E.cmd (E.ins++E.impl) G=some x∧((x.dep.toList==E.dep.toList)&&gU E.outs x.outs)=true)from by
   cases dm E.cmd (E.ins++E.impl) G with
   |none=>exact .inl rfl
   |some x=>
    cases ax:((x.dep.toList==E.dep.toList)&&gU E.outs x.outs)with
    |false=>exact .inr (.inl ⟨x,rfl,ax⟩)
    |true=>exact .inr (.inr ⟨x,rfl,ax⟩))with ag|⟨x,ag,mG⟩|⟨x,ag,mG⟩
  ·rw[ag]at sg pI;change uj=false at pI;subst pI;refine j.rg [1,3,9,11,12,13,17,18] fun K I=> ?_;simp only[go_sem,Bool.not_false];apply I;refine j.bZ rfl (j.J (j.rg [] fun K I=> ?_));simp only[go_sem];apply I;refine j.pT 6 rfl ?_;simp only[go_sem];refine j.ret ar Tryz.func15 (by simp[go_sem]) ?_;simp only[go_sem];rw[←cT,show nL m l n made= .inl 13 from by unfold nL;rw[if_neg xQ,←CX,←rL,ag]];rfl
  ·rw[ag]at sg pI;change uj=true at pI;change cU=x at sg;subst pI;subst sg;have mw:eb≠dy:=(eF k').1;have Es:=B7 (Ha _ Q2) ag;have xf:∀Z,av dy ((eb,Z)::eY m b3 o made dy E)=some (aE.arr 6 [D.agg [.ai (E.outs.map ab), .ai (E.ins.map ab), .ai (E.impl.map ab), .ai (E.order.map ab), .v (.string E.cmd), .v (.string E.dep)]]):=(pw eb k').2;have u5:∀σ,av eb ((eb,aE.arr 4 [cU.d])::σ)=some (.arr 4 [D.agg [.ai (cU.outs.map ay.d), .v (.bool cU.once), .v (.string cU.dep), .v (.string cU.mj)]]):=fun σ=>bE ..;refine j.rg [1,3,9,11,12,13,17,18] fun K I=> ?_;simp only[go_sem,xf,u5,Bool.not_true];refine a1 Tryz.call49 (Ma E cU _ (by have:=dh.outs;omega) (by omega)) ?_;simp only[go_sem,mG,Bool.not_false,xf,u5];apply I;refine j.bZ rfl (j.J (j.rg [] fun K I=> ?_));simp only[go_sem];apply I;refine j.pT 6 rfl ?_;simp only[go_sem];refine j.ret ar Tryz.func15 (by simp[go_sem]) ?_;simp only[go_sem];rw[←cT,show nL m l n made= .inl 13 from by unfold nL;rw[if_neg xQ,←CX,←rL,ag];exact if_neg (by rw[mG];decide)];rfl
  rw[ag]at sg pI;change uj=true at pI;change cU=x at sg;subst pI;subst sg;have mw:eb≠dy:=(eF k').1;have xf:∀Z,av dy ((eb,Z)::eY m b3 o made dy E)=some (aE.arr 6 [D.agg [.ai (E.outs.map ab), .ai (E.ins.map ab), .ai (E.impl.map ab), .ai (E.order.map ab), .v (.string E.cmd), .v (.string E.dep)]]):=(pw eb k').2;have u5:∀σ,av eb ((eb,aE.arr 4 [cU.d])::σ)=some (.arr 4 [D.agg [.ai (cU.outs.map ay.d), .v (.bool cU.once), .v (.string cU.dep), .v (.string cU.mj)]]):=fun σ=>bE ..;have Es:cU.outs.length≤10:=by
   have aa:oV E.outs (cU.outs.map ay.name)=true:=((Bool.and_eq_true _ _).mp mG).2;have ah:=congrArg List.length (K2 aa);rw[List.length_map]at ah;have:=dh.outs;omega
  have aL:nL m l n made= .inr (made++cU.outs):=by unfold nL;rw[if_neg xQ,←CX,←rL,ag];exact if_pos mG
  rw[aL]at cT;refine j.rg [1,3,9,11,12,13,17,18] fun K I=> ?_;simp only[go_sem,xf,u5,Bool.not_true];refine a1 Tryz.call49 (Ma E cU _ (by have:=dh.outs;omega) (by omega)) ?_;simp only[go_sem,mG,Bool.not_true,xf,u5];apply I;refine j.bJ rfl (j.aN ?_);have IN:av eb (cellsOf o 2 (made.map ay.d)++uf m b3)=none:=(eF k').2;obtain⟨Dt,SF⟩:=ch.push (x:= .arr 4 [cU.d]) IN;refine j.le (cn.refl _) (SF.trans (wh (fO (aQ.refl _) zN))) ?_;have g17:=Dt.keep (u5 _);have aH:=Dt.bL;have hS:=Dt.cB;have fY:(made.map ay.d).length=made.length:=List.length_map ..;have iP:(cU.outs.map ay.d).length=cU.outs.length:=List.length_map ..;have S0:List.take made.length (made.map ay.d)=made.map ay.d:=List.take_of_length_le (by omega);have g_:made.map ay.d++cU.outs.map ay.d=(made++cU.outs).map ay.d:=(List.map_append ..).symm;have vv:made.length+cU.outs.length=(made++cU.outs).length:=(List.length_append ..).symm;refine j.rg [1,3,9,11,12,17] fun K I=> ?_;simp only[go_sem,g17,aH,hS,fY,iP,S0,g_,vv];refine⟨⟨Nat.le_refl _,fun y aF=> ?_,by rw[←vv];omega,by rw[←vv];omega⟩,fun ob aO ax=> ?_⟩
  ·obtain⟨f,_,rfl⟩:=List.mem_map.1 aF;exact⟨rfl,rfl⟩
  apply I;obtain⟨eK,x3⟩:=aV.drop (⟨ax,aO⟩:aV ob 2 ((made++cU.outs).map ay.d) ((eb,aE.arr 4 [cU.d])::uf m b3)) (ch.jP IN).1;refine j.le (cn.refl _) x3 ?_;refine j.ba (j.rg [1,3,9,11,12] fun K I=> ?_);simp only[go_sem];apply I;refine j.rebase [1,3,9,11,12] ?_;simp only[go_sem];rw[bH i (by omega)];exact cH (i+1) _ _ ⟨ob,made++cU.outs,⟨by omega,eK,cT,by rw[List.length_append];omega,fun f ax=>by
   rcases List.mem_append.1 ax with h|h
   ·exact r7 f h
   have:=Oy ag f h;omega⟩,by rw[List.length_append,List.length_map,List.length_append],rfl⟩ (by omega)
 have cC:i=P.length:=by
  have:¬i<P.length:=by simpa using CH
  omega
 subst cC;have jk:pX m l P []= .inr made:=by rw[←cT,List.drop_length];rfl
 rw[jk]at ar;refine j.exit rfl (j.J ?_);refine j.rebase [11] ?_;simp only[go_sem];refine pW 11 (o:=o) (xs:=made.map ay.d) (by rw[List.length_map];rfl) ch (fun c ag=>dO.cons (eF (ch.fresh c ag)).1 (fun sz xs=>rfl) (dO.nil c)) (fun c ag p aP aj=> ?_) ?_
 ·simp only[List.mem_cons,List.not_mem_nil,or_false]at aP;rcases aP with rfl;exact absurd rfl aj
 simp only[go_sem];refine j.rg [11] fun K I=> ?_;simp only[go_sem];apply I;refine j.ret ar Tryz.func15 (by simp[go_sem]) ?_;simp only[go_sem];rfl
theorem Xs (x:List ay) (σ:al) (an:x.length<2^40):
  AC Tryz.prog 16 [.ai (x.map ay.d), .ai (x.map ay.d)] σ (fun e σ'=>e= .ret (.v (.bool true))∧σ'=σ):=by
 have iP:(x.map ay.d).length=x.length:=List.length_map ..;refine AC.bI Tryz.func16 Tryz.ntmps16 fun C ar=> ?_;refine j.J (j.rg [0,1] fun K I=> ?_);simp only[go_sem];apply I;refine j.J (j.J (j.rg [0,1] fun K I=> ?_));simp only[go_sem,bne_self_eq_false];apply I;refine j.bJ rfl (j.aN (j.J (j.J (j.rg [0,1] fun K I=> ?_))));simp only[go_sem];apply I;refine j.aG ?_;refine j.rebase [0,1,5] ?_;simp only[go_sem];refine j.while (fun(i:Nat) env' aS=>(i≤x.length)∧env'=[(0, .ai (x.map ay.d)),(1, .ai (x.map ay.d)),(5, .v (.int .i64 (i:Int)))]∧aS=σ) (fun(i:Nat)=>x.length-i) 0 ⟨Nat.zero_le _,rfl,rfl⟩ ?_;rintro i env' aS ⟨hi,rfl,rfl⟩ aB;have cH:=aB;refine j.J (j.J (j.rg [0,1,5] fun K I=> ?_));simp only[go_sem,iP];apply I;refine j.cond rfl (fun Ig=> ?_) (fun Ig=> ?_)
 ·have aC:i<x.length:=Int.ofNat_lt.1 (by simpa using Ig);have aq:=b6 ay.d x i aC;rw[ay.d]at aq;have bf:(0:Int)≤(i:Int):=by omega
  have bp:(i:Int)<(x.length:Int):=by omega
  refine j.aN (j.J (j.aG (j.J ?_)));refine j.draw [0,1,5] [] [] [] [(0,true),(1,true),(2,true),(3,true),(4,true),(5,true),(6,true),(7,true),(8,true),(9,true),(10,true),(11,true),(12,true),(13,true),(14,true),(15,true),(16,true),(17,true),(18,true),(19,true),(20,true),(21,true),(22,true),(23,true),(24,true),(25,true)] (by kernel_rfl) (by decide) (by kernel_rfl) fun K I=> ?_;simp only[go_sem,iP,aq,bf,bp,GU,BEq.rfl,bne_self_eq_false,Bool.not_true];refine⟨GS,GS, ?_⟩;apply I;refine j.bJ rfl (j.aN (j.ba (j.rg [0,1,5] fun K I=> ?_)));simp only[go_sem];apply I;refine j.rebase [0,1,5] ?_;simp only[go_sem];rw[bH i (by omega)];exact aB (i+1) _ _ ⟨by omega,rfl,rfl⟩ (by omega)
 refine j.exit rfl (j.J (j.rg [] fun K I=> ?_));simp only[go_sem];apply I;refine j.ret ar Tryz.func16 (by simp[go_sem]) ?_;simp only[go_sem]
theorem Pn (a b:Bool) (n:Nat):a=false∨(a=true∧b=false)∨(a=true∧b=true∧20<n)∨(a=true∧b=true∧n≤20):=by
 cases a
 ·exact .inl rfl
 cases b
 ·exact .inr (.inl ⟨rfl,rfl⟩)
 rcases Nat.lt_or_ge 20 n with h|h
 ·exact .inr (.inr (.inl ⟨rfl,rfl,h⟩))
 exact .inr (.inr (.inr ⟨rfl,rfl,h⟩))
theorem Pg (x:Nat⊕List ay):Cf x= .bd [.ai ((sy x).map ay.d), .v (.int .i64 (ux x:Int))]:=by
 cases x<;>rfl
set_option maxRecDepth 4000 in
set_option maxHeartbeats 1600000 in
theorem Xx (m:bK) (l:List ay) (aD:List ByteArray) (σ:al):
  AC Tryz.prog 3 [m.d, .ai (l.map ay.d), .ai (aD.map ab)] σ (fun e σ'=>e= .ret (.v (.bool true))∧σ'=σ):=by
 refine AC.still ?_ σ;refine AC.forget (R:=fun e _=>e= .ret (.v (.bool true))) ?_ fun e σ' h=>⟨[],aQ.nil _,h,rfl⟩;have hk:(aD.map ab).length=aD.length:=List.length_map ..;have fX:m.d= .agg [.ai (m.edges.map aM.d), .ai (m.defs.map ab)]:=rfl;refine AC.bI Tryz.func3 Tryz.ntmps3 fun C ar=> ?_;rw[fX];refine j.J (j.rg [0,1,2] fun K I=> ?_);simp only[go_sem];intro bP;apply I;have g1:av bP [(bP,aE.arr 2 [D.agg [.ai (m.edges.map aM.d), .ai (m.defs.map ab)]])]=some (.arr 2 [D.agg [.ai (m.edges.map aM.d), .ai (m.defs.map ab)]]):=by rw[bE]
 refine j.J (j.J ?_);rcases Pn (jg m) (qV l) aD.length with aa|⟨aa,ah⟩|⟨aa,ah,aJ⟩|⟨aa,ah,aJ⟩
 ·refine j.rg [1,2,3] fun K I=> ?_;simp only[go_sem,g1];refine a1 Tryz.call10 (zd m _) ?_;simp only[go_sem,aa,Bool.not_false];apply I;refine j.bZ rfl (j.J (j.rg [] fun K I=> ?_));simp only[go_sem];apply I;refine j.ret ar Tryz.func3 (by simp[go_sem]) ?_;simp only[go_sem]
 ·refine j.rg [1,2,3] fun K I=> ?_;simp only[go_sem,g1];refine a1 Tryz.call10 (zd m _) ?_;simp only[go_sem,aa,Bool.not_true];refine a1 Tryz.call11 (EL l _) ?_;simp only[go_sem,ah,Bool.not_false];apply I;refine j.bZ rfl (j.J (j.rg [] fun K I=> ?_));simp only[go_sem];apply I;refine j.ret ar Tryz.func3 (by simp[go_sem]) ?_;simp only[go_sem]
 ·have d1:decide (((aD.length:Nat):Int)>20)=true:=decide_eq_true (by omega);refine j.rg [1,2,3] fun K I=> ?_;simp only[go_sem,g1];refine a1 Tryz.call10 (zd m _) ?_;simp only[go_sem,aa,Bool.not_true];refine a1 Tryz.call11 (EL l _) ?_;simp only[go_sem,ah,Bool.not_true,hk,d1];apply I;refine j.bZ rfl (j.J (j.rg [] fun K I=> ?_));simp only[go_sem];apply I;refine j.ret ar Tryz.func3 (by simp[go_sem]) ?_;simp only[go_sem]
 have d1:decide (((aD.length:Nat):Int)>20)=false:=decide_eq_false (by omega);refine j.rg [1,2,3] fun K I=> ?_;simp only[go_sem,g1];refine a1 Tryz.call10 (zd m _) ?_;simp only[go_sem,aa,Bool.not_true];refine a1 Tryz.call11 (EL l _) ?_;simp only[go_sem,ah,Bool.not_true,hk,d1];apply I;refine j.bJ rfl (j.aN (j.J ?_));have dW:=Ci aa;have dh:∀e∈m.edges,e.small:=fun e he=>(w5 (ze aa e he)).1;have dg:∀e∈m.edges,e.cmd.size≤20000:=fun e he=>by have:=(w5 (ze aa e he)).2.1;omega
 have tH:=qW ah;have Ob:=fun σ=>P3 m σ (by omega) (by omega) dh;have co:=fun σ=>AJ l σ (by omega) (fun f ax=>by have:=tH.2 f ax;omega);have cG:=Pr aa (by omega) tH.2 aJ;have ce:=fun σ=>Hz m l aD cG σ;have OC:=fun σ=>V' m l aD (by omega) dh dg (by omega) (by omega) (by omega) (fun f ax=>by have:=tH.2 f ax;omega) σ;have tO:=V_ dh l aD;refine j.fw [1,2,3] [29,31] fun K I=> ?_;simp only[go_sem,g1];refine a1 Tryz.call13 (Ob _) ?_;simp only[go_sem];refine a1 Tryz.call14 (co _) ?_;simp only[go_sem];refine⟨⟨c' _,by omega,by omega⟩, ?_⟩;refine a1 Tryz.call12 (ce _) ?_;simp only[go_sem,d_];apply I;refine j.J (j.rg [1,2,3,7,8] fun K I=> ?_);simp only[go_sem,g1];refine a1 Tryz.call15 (OC _) ?_;simp only[go_sem,←tO,Pg];apply I;refine j.J (j.rg [7,8,9,10] fun K I=> ?_);simp only[go_sem];refine⟨_,Tryz.call16,(Xs (sy (hy m l aD)) _ (by
  cases he:hy m l aD with
  |inl c=>exact(by show 0<2^40;decide)
  |inr x=>
   have:=(Pl cG he).2;show x.length<2^40
   omega)).mono ?_⟩
 rintro e σ1 ⟨rfl,rfl⟩;simp only[go_sem,BEq.rfl];refine a1 Tryz.call17 (NU _) ?_;simp only[go_sem];apply I;refine j.ret ar Tryz.func3 (by simp[go_sem]) ?_;simp only[go_sem]
theorem Xw (xs:List D) (h:wM [AH, .slice w6, .slice .str] xs):AC Tryz.prog 3 xs [] (fun e _=>e= .ret (.v (.bool true))):=by
 obtain⟨d,ds,rfl,aa,d2,aaj,rfl,ah,d3,aak,rfl,aJ,bg⟩:=h;unfold wM at bg;subst bg;obtain⟨m,rfl⟩:=YK aa;obtain⟨l,aA⟩:=YJ (ah.1 rfl);cases aA
 obtain⟨aD,bc⟩:=wz (aJ.1 rfl);cases bc
 exact(Xx m l aD []).mono fun e σ' h=>h.1
end Go.Ab.S16
namespace Go.Proofs.YticjnnmnjfpopaaGreatDoor
open Go.ChangeShapes Go.WideShapes Go.ChangeAt Go.RowKit Go.Ab
theorem Vj:ownKnob Tryz.prog.godebug=none:=by kernel_rfl
theorem TY:laidOutB Tryz.prog=true:=by kernel_rfl
theorem N9 {w:World} {a:Addr} {v:Value} (h:w.cell? a=some v):a.block<w.heap.size:=by
 unfold World.cell? at h;split at h
 ·rename_i ae;exact(Array.getElem?_eq_some_iff.1 ae).1
 cases h
def pc:List (String×DataW Unit):=Rows.scratchFitsRow.laid
theorem Kz:(pc.all fun x=>x.2.handleName?.isNone)=true:=by kernel_rfl
theorem TX (os:Os) (args:Array Value):laidMetH Tryz.prog pc ((World.laidAll Tryz.prog os pc).forCall (fun _ _=>0) ⟨#[],args,[]⟩).memory:=by
 rw[MakeChecks.laidMetH_plain _ _ _ Kz];exact laidMet_laidAll _ (by kernel_rfl) (by kernel_rfl)
theorem TZ (os:Os) (args:Array Value):((World.laidAll Tryz.prog os pc).forCall (fun _ _=>0) ⟨#[],args,[]⟩).Shaped Tryz.prog:=
 World.shaped_of_ZipB (by kernel_rfl) (by kernel_rfl)
theorem TW {W:World} (h:laidMetH Tryz.prog pc W):p_ W (fun b=>b<W.heap.size):=by
 rw[MakeChecks.laidMetH_plain _ _ _ Kz]at h;intro g vs aq;unfold Cy at aq;simp only[zw]at aq;split at aq
 ·rename_i Rz
  subst Rz;simp only[Option.some.injEq]at aq;obtain⟨w_,ajk,cs,fuel,p,tu,Ej,ak,aw⟩:=Lib.laidMet.reads h (show("math/bits.deBruijn64tab",Rows.laid_math_bits_deBruijn64tab)∈pc from .tail _ (.head _));have Jl:Tryz.prog.globalNamed "math/bits.deBruijn64tab"=some 3:=by kernel_rfl
  have S3:(Tryz.prog.globals[3]?).map (·.type)=some 265:=by kernel_rfl
  obtain rfl:=Option.some.inj (Jl.symm.trans tu);obtain rfl:=Option.some.inj (S3.symm.trans Ej);have dg:=Lib.cells_of_tab (n:=64) (k:= .u8) (e:=5) (zs:=vs.filterMap fun v=>match v with| .int _ z=>some z|_=>none) (by kernel_rfl) (by kernel_rfl) (by kernel_rfl) (by kernel_rfl) (by
   subst aq;exact aw)
  have qO:(vs.filterMap fun v=>match v with| .int _ z=>some z|_=>none).map (fun z=>Value.int .u8 z)=vs:=by subst aq;rfl
  rw[qO]at dg;have ve:∀k x,vs[k]?=some x→W.cell? ⟨3,k,none⟩=some x:=fun k x an=>by
   rw[World.var?_cell Jl ak k];rw[←dg]at an;simpa using an
  have bj:W.cell? ⟨3,0,none⟩=some (.int .u8 0):=ve 0 _ (by subst aq;rfl)
  exact⟨N9 bj,fun k x an=>by rw[Nat.zero_add];exact ve k x an⟩
 cases aq
end Go.Proofs.YticjnnmnjfpopaaGreatDoor
