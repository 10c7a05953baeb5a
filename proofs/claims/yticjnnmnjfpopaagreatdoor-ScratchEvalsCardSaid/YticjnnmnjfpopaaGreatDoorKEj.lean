/- A part of a proof about the given program: the abstract machine, what functions compute, laid in few texts. -/
import Derived.Test.YticjnnmnjfpopaaGreatDoorKEi
set_option linter.unusedSimpArgs false
set_option linter.unusedVariables false
set_option linter.constructorNameAsVariable false
namespace Go.Ab.S16
open Go Go.Proofs Go.RowKit
theorem O' (p:List UInt8):i_ (aK (p++[10])) ⟨#[10]⟩=aK p:=by
 have af:(aK (p++[10])).size=p.length+1:=by rw[gu];simp
 have ae:lr (aK (p++[10])) ⟨#[10]⟩=true:=by
  unfold lr;rw[af,Bool.and_eq_true,decide_eq_true_eq];refine⟨by show 1≤_;omega, ?_⟩;rw[show(⟨#[10]⟩:ByteArray).size=1 from rfl,oT,cr,cr];show(((p++[10]).take (p.length+1)).drop (p.length+1-1)==[10])=true
  rw[List.take_of_length_le (by simp),show p.length+1-1=p.length from by omega,List.drop_left];rfl
 unfold i_;rw[if_pos ae,af,show(⟨#[10]⟩:ByteArray).size=1 from rfl,oT,show p.length+1-1=p.length from by omega,List.take_left,List.drop_zero]
theorem Pa {p:List UInt8} (h:∀c∈p,c≠10):i_ (aK p) ⟨#[10]⟩=aK p:=by
 have ae:lr (aK p) ⟨#[10]⟩=false:=by
  cases ae:lr (aK p) ⟨#[10]⟩with
  |false=>rfl
  |true=>
   unfold lr at ae;rw[gu,Bool.and_eq_true,decide_eq_true_eq,show(⟨#[10]⟩:ByteArray).size=1 from rfl,oT,cr,cr]at ae;obtain⟨aa,ah⟩:=ae;have aJ:p.drop (p.length-1)=[10]:=by
    rw[List.take_of_length_le (Nat.le_refl _)]at ah;exact eq_of_beq ah
   have bg:(10:UInt8)∈p:=List.mem_of_mem_drop (i:=p.length-1) (by rw[aJ];simp);exact absurd rfl (h _ bg)
 unfold i_;rw[if_neg (by rw[ae];decide)]
theorem Kj (p:List UInt8):(if Lib.hasPrefix p ld then some (p.drop 9)else none)=lf (aK p):=by
 have aP:Lib.hasPrefix p ld=(decide (9≤p.length)&&(p.take 9==ld)):=(Lib.hasPrefix_of_take p ld).symm;unfold lf;rw[gu,ht,aP];by_cases h:p.length<9
 ·rw[if_pos (Or.inl h),decide_eq_false (by omega)];rfl
 rw[decide_eq_true (show 9≤p.length by omega),Bool.true_and];by_cases aJ:p.take 9=ld
 ·rw[if_pos (by rw[aJ];rfl),if_neg (fun e=>e.elim h (fun e=>e aJ))]
 rw[if_neg (fun e=>aJ (eq_of_beq e)),if_pos (Or.inr aJ)]
theorem Tw (p:List UInt8):oR (p++[10])=lf (aK p):=by
 unfold oR mR;rw[O',ht,Kj]
theorem Ki {p:List UInt8} (h:∀c∈p,c≠10):oR p=lf (aK p):=by
 unfold oR mR;rw[Pa h,ht,Kj]
theorem KL {f:List UInt8→cZ→Option cZ} (r:List UInt8):∀(p cur:List UInt8) (st:cZ),(∀c∈p,c≠10)→fF f (p++10::r) cur st=(f (cur++p++[10]) st).bind (fF f r [])
 |[],cur,st,_=>by
  rw[List.nil_append,fF,if_pos rfl,List.append_nil]
 |c::p,cur,st,h=>by
  rw[List.cons_append,fF,if_neg (h c (List.mem_cons_self ..)),KL r p (cur++[c]) st fun x an=>h x (List.mem_cons_of_mem _ an)];simp
theorem KM {f:List UInt8→cZ→Option cZ}:∀(p cur:List UInt8) (st:cZ),(∀c∈p,c≠10)→fF f p cur st=f (cur++p) st
 |[],cur,st,_=>by rw[fF,List.append_nil]
 |c::p,cur,st,h=>by
  rw[fF,if_neg (h c (List.mem_cons_self ..)),KM p (cur++[c]) st fun x an=>h x (List.mem_cons_of_mem _ an)];simp
theorem LN {files:List ay} {rec:List UInt8→cZ→Option cZ} {st:cZ} (h:st.Ok):fv files rec [] st=some st:=by
 have hi:oR []=none:=by rw[Ki (by simp)];rfl
 unfold fv;rw[hi];simp only[List.append_nil];rw[if_pos h.out]
structure p' (b:List UInt8) (a e:Nat):Prop where
 le:a≤e
 len:e≤b.length
 no:∀U (h:U<b.length),a≤U→U<e→b[U]≠10
 nl:∀h:e<b.length,b[e]=10
theorem p'.mem {b:List UInt8} {a e:Nat} (h:p' b a e):∀c∈(b.take e).drop a,c≠10:=fun c ag=>by
 obtain⟨U,aR,rfl⟩:=List.getElem_of_mem ag;rw[List.length_drop,List.length_take]at aR;rw[List.getElem_drop,List.getElem_take];exact h.no _ (by omega) (by omega) (by omega)
theorem p'.cut {b:List UInt8} {a e:Nat} (h:p' b a e) (he:e<b.length):b.drop a=(b.take e).drop a++10::b.drop (e+1)∧(b.take (e+1)).drop a=(b.take e).drop a++[10]:=by
 have aa:b=b.take e++b[e]::b.drop (e+1):=by rw[←List.drop_eq_getElem_cons he,List.take_append_drop]
 have ah:=h.le;rw[h.nl he]at aa;constructor
 ·conv=>lhs;rw[aa]
  rw[List.drop_append_of_le_length (by rw[List.length_take];omega)]
 rw[List.take_succ_eq_append_getElem he,List.drop_append_of_le_length (by rw[List.length_take];omega),h.nl he]
theorem p'.ld {b:List UInt8} {a e:Nat} (h:p' b a e):oR ((b.take (min (e+1) b.length)).drop a)=lf (aK ((b.take e).drop a)):=by
 rcases Nat.lt_or_ge e b.length with he|he
 ·rw[Nat.min_eq_left (by omega),(h.cut he).2,Tw]
 have ae:e=b.length:=by have:=h.len;omega
 rw[Nat.min_eq_right (by omega),←ae];exact Ki h.mem
theorem p'.go {files:List ay} {rec:List UInt8→cZ→Option cZ} (ao:∀b st fH,st.Ok→rec b st=some fH→fH.Ok) {b:List UInt8} {a e:Nat} (h:p' b a e) {st:cZ} (aL:st.Ok):
  fF (fv files rec) (b.drop a) [] st=(fv files rec ((b.take (min (e+1) b.length)).drop a) st).bind (fF (fv files rec) (b.drop (min (e+1) b.length)) []):=by
 rcases Nat.lt_or_ge e b.length with he|he
 ·rw[Nat.min_eq_left (by omega),(h.cut he).1,(h.cut he).2,KL _ _ _ _ h.mem,List.nil_append]
 have ae:e=b.length:=by have:=h.len;omega
 have hm:=h.mem;rw[ae,List.take_length]at hm;rw[Nat.min_eq_right (by omega),List.take_length,List.drop_length,KM _ _ _ hm,List.nil_append];cases aP:fv files rec (b.drop a) st with
 |none=>rfl
 |some s=>exact(by rw[Option.bind_some,fF,LN (AY ao _ _ _ aL aP)])
def ho (n:Nat):aE:= .arr 1 [.v (.int .i64 (n:Int))]
section
variable (files : List ay) (b2 : Nat)
def yQ (oU:Nat):Prop:=∀(a6 fo:Option Nat) (b:List UInt8) (st:cZ) (R0:al),st.Ok→(av b2 R0).isSome=true→ek a6 fo st R0→b.length<2^40→
 AC Tryz.prog 119 [.ai (files.map ay.d), .own a6 1 st.out.length, .ai (b.map bD), .v (.int .i64 (11-(oU:Int))), .own fo 1 st.found.length, .ptr b2 1 0 0] (cd a6 fo st (sset b2 (ho st.many) R0)) (fun e σ'=>match f' files oU b st with
  |some cS=>∃fs et,ek fs et cS R0∧e= .ret (.bd [.own fs 1 cS.out.length, .own et 1 cS.found.length, .v (.bool true)])∧σ'=cd fs et cS (sset b2 (ho cS.many) R0)
  |none=>e= .ret (.bd [.v (.slice none 0 0), .v (.slice none 0 0), .v (.bool false)])∧mf b2 R0 σ')
theorem Tx {s:ByteArray} {n:List UInt8} (h:lf s=some n):n.length≤s.size:=by
 unfold lf at h;split at h
 ·cases h
 cases h
 rw[List.length_drop];show s.data.toList.length-9≤s.data.size
 simp
theorem yW (n:ByteArray):∀l:List ByteArray,(l.any fun s=>n.toList==s.toList)=inB l n
 |[]=>rfl
 |s::l=>by
  have h:(n.toList==s.toList)=(s.toList==n.toList):=by
   rw[Bool.eq_iff_iff,beq_iff_eq,beq_iff_eq];exact⟨Eq.symm,Eq.symm⟩
  rw[List.any_cons,yW n l,h];rfl
theorem WN:yQ files b2 0:=by
 intro a6 fo b st R0 aL lK aq dD;have aw:decide ((11-((0:Nat):Int))>10)=true:=by decide
 obtain⟨n2,vj⟩:∃n2:Int,n2=11-((0:Nat):Int):=⟨_,rfl⟩;rw[←vj]at aw⊢;refine AC.bI Tryz.func119 Tryz.ntmps119 fun C ar=> ?_;refine j.J (j.rg [0,1,2,3,4,5] fun K I=> ?_);simp only[go_sem];apply I;refine j.J (j.J (j.rg [0,1,2,3,4,5] fun K I=> ?_));simp only[go_sem,aw];apply I;refine j.bZ rfl (j.J (j.rg [] fun K I=> ?_));simp only[go_sem];apply I;refine j.ret ar Tryz.func119 (by simp[go_sem]) ?_;simp only[go_sem];exact vF b2 aq
set_option maxHeartbeats 4000000 in
theorem WM (dE:files.length<2^31) (gG:∀f∈files,f.b.length<2^40) (d:Nat) (aw:d≤10) (r':yQ files b2 d):yQ files b2 (d+1):=by
 intro a6 fo b st R0 aL lK aq dD;have xB:decide ((11-((d+1:Nat):Int))>10)=false:=decide_eq_false (by omega);have Dl:IntKind.i64.wrap ((11-((d+1:Nat):Int))+1)=11-(d:Int):=by rw[kt _ (by omega) (by omega)];omega
 obtain⟨n2,vj⟩:∃n2:Int,n2=11-((d+1:Nat):Int):=⟨_,rfl⟩;rw[←vj]at xB Dl⊢;have pA:(b.map bD).length=b.length:=List.length_map ..;obtain⟨F,c7⟩:∃F,F=fv files (f' files d):=⟨_,rfl⟩;have mL:f' files (d+1) b st=fF F b [] st:=by rw[c7];rfl
 have zF:∀l s cS,cZ.Ok s→F l s=some cS→cS.Ok:=fun l s cS af he=>AY (yu files d) l s cS af (by rw[←c7];exact he);rw[mL];refine AC.bI Tryz.func119 Tryz.ntmps119 fun C ar=> ?_;refine j.J (j.rg [0,1,2,3,4,5] fun K I=> ?_);simp only[go_sem];apply I;refine j.J (j.J (j.rg [0,1,2,3,4,5] fun K I=> ?_));simp only[go_sem,xB];apply I;refine j.bJ rfl (j.aN (j.J (j.rg [0,1,2,3,4,5] fun K I=> ?_)));simp only[go_sem];apply I;refine j.J (j.aG ?_);refine j.rebase [0,1,2,3,4,5,15] ?_;simp only[go_sem];refine j.while (fun(i:Nat) env' aS=>∃(o:Option Nat) (f:Option Nat) (s:cZ),(i≤b.length∧s.Ok∧ek o f s R0∧fF F (b.drop i) [] s=fF F b [] st)∧env'=[(0, .ai (files.map ay.d)),(1, .own o 1 s.out.length),(2, .ai (b.map bD)),(3, .v (.int .i64 n2)),(4, .own f 1 s.found.length),(5, .ptr b2 1 0 0),(15, .v (.int .i64 (i:Int)))]∧aS=cd o f s (sset b2 (ho s.many) R0)) (fun(i:Nat)=>b.length-i) 0 ⟨a6,fo,st,⟨Nat.zero_le _,aL,aq,rfl⟩,rfl,rfl⟩ ?_;rintro i env' aS ⟨o,f,s,⟨hi,af,aT,ch⟩,rfl,rfl⟩ aB;have cH:=aB;have gk:∀{x:aE},ek o f s (sset b2 x R0):=fun{x}=>aT.base fun b ae=>hp ae;have IS:∀{x:aE},av b2 (sset b2 x R0)=some x:=fun{x}=>by
  rw[jU,if_pos rfl];obtain⟨z,aO⟩:=Option.isSome_iff_exists.1 lK;rw[aO];rfl
 have u1:∀{x:aE},av b2 (cd o f s (sset b2 x R0))=some x:=gk.keep IS;have Bh:∀{x y:aE},sset b2 y (cd o f s (sset b2 x R0))=cd o f s (sset b2 y R0):=fun{x y}=>by
  rw[gk.sset _ (by rw[IS];rfl),Bo]
 refine j.J (j.J (j.rg [0,1,2,3,4,5,15] fun K I=> ?_));simp only[go_sem,pA];apply I;refine j.cond rfl (fun rJ=> ?_) (fun rJ=> ?_)
 ·have aC:i<b.length:=by simpa using rJ
  refine j.aN (j.aG (j.J (j.rg [0,1,2,3,4,5,15] fun K I=> ?_)));simp only[go_sem];apply I;refine j.J ?_;refine j.join (fun env' σ'=>∃e,p' b i e∧env'=[(0, .ai (files.map ay.d)),(1, .own o 1 s.out.length),(2, .ai (b.map bD)),(3, .v (.int .i64 n2)),(4, .own f 1 s.found.length),(5, .ptr b2 1 0 0),(15, .v (.int .i64 (i:Int))),(16, .v (.int .i64 (e:Int)))]∧σ'=cd o f s (sset b2 (ho s.many) R0)) (fun k1 cb=> ?_) ?_
  ·refine j.aG ?_;refine j.rebase [0,1,2,3,4,5,15,16] ?_;simp only[go_sem];refine j.while (fun(k:Nat) env' aS=>(i≤k∧k≤b.length∧∀U (h:U<b.length),i≤U→U<k→b[U]≠10)∧env'=[(0, .ai (files.map ay.d)),(1, .own o 1 s.out.length),(2, .ai (b.map bD)),(3, .v (.int .i64 n2)),(4, .own f 1 s.found.length),(5, .ptr b2 1 0 0),(15, .v (.int .i64 (i:Int))),(16, .v (.int .i64 (k:Int)))]∧aS=cd o f s (sset b2 (ho s.many) R0)) (fun(k:Nat)=>b.length-k) i ⟨⟨Nat.le_refl _,hi,fun U h aa ah=>by omega⟩,rfl,rfl⟩ ?_;rintro k env' aS ⟨⟨xM,eU,dr⟩,rfl,rfl⟩ aB;have eg:=aB;refine j.J (j.J ?_);rcases(show(∃h:k<b.length,b[k]≠10)∨(∃h:k<b.length,b[k]=10)∨k=b.length from by
    rcases Nat.lt_or_ge k b.length with h|h
    ·by_cases bg:b[k]=10
     ·exact .inr (.inl ⟨h,bg⟩)
     exact .inl ⟨h,bg⟩
    exact .inr (.inr (by omega)))with⟨eO,aZ⟩|⟨eO,he⟩|he
   ·have d4:decide ((k:Int)<(b.length:Int))=true:=decide_eq_true (by omega);have nq:=b6 bD b k eO;rw[bD]at nq;have dc:(0:Int)≤(k:Int):=by omega
    have ke:(k:Int)<(b.length:Int):=by omega
    have k0:((b[k].toNat:Int) !=10)=true:=by
     rw[bne_iff_ne];intro h;exact aZ (UInt8.toNat_inj.1 (by show b[k].toNat=10;omega))
    refine j.rg [0,1,2,3,4,5,15,16] fun K I=> ?_;simp only[go_sem,pA,d4,nq,dc,ke,k0];apply I;refine j.bZ rfl (j.aN (j.aG (j.rg [0,1,2,3,4,5,15,16] fun K I=> ?_)));simp only[go_sem];apply I;refine j.ba ?_;refine j.rebase [0,1,2,3,4,5,15,16] ?_;simp only[go_sem];rw[bH k (by omega)];refine eg (k+1) _ _ ⟨⟨by omega,by omega,fun U h aa ah=> ?_⟩,rfl,rfl⟩ (by omega);by_cases iH:U=k
    ·subst iH;exact aZ
    exact dr U h aa (by omega)
   ·have d4:decide ((k:Int)<(b.length:Int))=true:=decide_eq_true (by omega);have nq:=b6 bD b k eO;rw[bD]at nq;have dc:(0:Int)≤(k:Int):=by omega
    have ke:(k:Int)<(b.length:Int):=by omega
    have k0:((b[k].toNat:Int) !=10)=false:=by rw[he];rfl
    refine j.rg [0,1,2,3,4,5,15,16] fun K I=> ?_;simp only[go_sem,pA,d4,nq,dc,ke,k0];apply I;refine j.bJ rfl (j.exit rfl ?_);refine j.rebase [0,1,2,3,4,5,15,16] ?_;simp only[go_sem];exact cb _ _ ⟨k,⟨xM,eU,dr,fun _=>he⟩,rfl,rfl⟩
   have d4:decide ((k:Int)<(b.length:Int))=false:=decide_eq_false (by omega);refine j.rg [0,1,2,3,4,5,15,16] fun K I=> ?_;simp only[go_sem,pA,d4];apply I;refine j.bJ rfl (j.exit rfl ?_);refine j.rebase [0,1,2,3,4,5,15,16] ?_;simp only[go_sem];exact cb _ _ ⟨k,⟨xM,eU,dr,fun h=>by omega⟩,rfl,rfl⟩
  rintro env' σ' ⟨e,px,rfl,rfl⟩;refine j.J ?_;have Tc:IntKind.i64.wrap ((e:Int)+1)=((e+1:Nat):Int):=bH e (by have:=px.len;omega);have jo:gy Tryz.prog (Builtin.min_ #[] 0 #[Value.int .i64 ((e+1:Nat):Int),Value.int .i64 (b.length:Int)])=some (.int .i64 ((min (e+1) b.length:Nat):Int)):=by
   show some (Value.int .i64 (if(b.length:Int)<((e+1:Nat):Int)then(b.length:Int)else((e+1:Nat):Int)))=_
   congr 2
   split<;>omega
  have ab7:=px.len;have It:=px.le;have qA:=px.ld;have pF:=px.go (files:=files) (rec:=f' files d) (yu files d) af;rw[←c7,ch]at pF;obtain⟨bN,bk⟩:∃bN,bN=min (e+1) b.length:=⟨_,rfl⟩;rw[←bk]at jo qA pF;have JH:bN≤b.length:=by omega
  have acx:i<bN:=by omega
  have bf:(0:Int)≤(i:Int):=by omega
  have cC:(i:Int)≤(e:Int):=by omega
  have jH:(e:Int)≤(b.length:Int):=by omega
  have RJ:(i:Int)≤(bN:Int):=by omega
  have hh:(bN:Int)≤(b.length:Int):=by omega
  obtain⟨jx,jn⟩:∃jx,jx=(b.take bN).drop i:=⟨_,rfl⟩;rw[←jn]at qA pF;obtain⟨o',x8⟩:∃o',o'=(b.take e).drop i:=⟨_,rfl⟩;rw[←x8]at qA;have acq:jx.length<2^40:=by rw[jn,List.length_drop,List.length_take];omega
  have I1:List.drop i (List.take e (b.map bD))=o'.map bD:=by rw[x8,←List.map_take,←List.map_drop]
  have Q6:List.drop i (List.take bN (b.map bD))=jx.map bD:=by rw[jn,←List.map_take,←List.map_drop]
  have zS:=Gz o';have IV:bytesOf (o'.map bD)=aK o':=by
   have:=GV o';rwa [List.take_of_length_le (by simp)]at this
  refine j.rg [0,1,2,3,4,5,15,16] fun K I=> ?_;simp only[go_sem,pA,Tc,jo];apply I;refine j.J ?_;rcases d':lf (aK o')with _|n
  ·refine j.rg [0,1,2,3,4,5,15,16,17] fun K I=> ?_;simp only[go_sem,pA,bf,cC,jH,I1,zS,IV];refine⟨fun y aF=>(nG b y aF).1, ?_⟩;refine a1 Tryz.call143 (Kk (aK o') _ (by rw[gu,x8,List.length_drop,List.length_take];omega)) ?_;simp only[go_sem,d'];apply I;refine j.J (j.J (j.rg [0,1,2,3,4,5,15,17,18,19] fun K I=> ?_));simp only[go_sem];apply I;refine j.bZ rfl (j.J ?_);have aH:bL 1 o (cd o f s (sset b2 (ho s.many) R0))=some (s.out.map bD):=(gk (x:=ho s.many)).o.bL;have ei:h0 o (cd o f s (sset b2 (ho s.many) R0))=cellsOf f 1 (s.found.map ab)++sset b2 (ho s.many) R0:=(gk (x:=ho s.many)).o.cB;have cv:List.take s.out.length (s.out.map bD)=s.out.map bD:=List.take_of_length_le (by simp);refine j.rg [0,1,2,3,4,5,15,17] fun K I=> ?_;simp only[go_sem,pA,bf,RJ,hh,Q6,aH,ei,cv];refine⟨fun y aF=>(nG b y aF).1,⟨by simp,fun y aF=>nG jx y aF,by simp only[List.length_map];have:=af.out;omega,by simp only[List.length_map];have:=af.out;omega⟩,fun gw aO ax=> ?_⟩;simp only[←List.map_append]at aO⊢;have b7:ek gw f ⟨s.out++jx,s.found,s.many⟩ R0:=⟨⟨fun c ag=>n0 (ax c ag) fun h=>re h,aO⟩,aT.f⟩;have lR:((s.out++jx).map bD).length=(s.out++jx).length:=List.length_map ..;simp only[lR];apply I;refine j.J (j.J ?_);by_cases hle:(s.out++jx).length≤65536
   ·have iC:decide (((s.out++jx).length:Int)>65536)=false:=decide_eq_false (by omega);have dv:F jx s=some ⟨s.out++jx,s.found,s.many⟩:=by rw[c7];unfold fv;rw[qA,d'];exact if_pos hle
    refine j.rg [0,1,2,3,4,5,17] fun K I=> ?_;simp only[go_sem,iC];apply I;refine j.bJ rfl (j.aN (j.J (j.rg [0,1,2,3,4,5,17] fun K I=> ?_)));simp only[go_sem];apply I;refine j.exit rfl ?_;refine j.rebase [0,1,2,3,4,5,15] ?_;simp only[go_sem];refine cH bN _ _ ⟨gw,f,⟨s.out++jx,s.found,s.many⟩,⟨JH,zF _ _ _ af dv,b7, ?_⟩,rfl,rfl⟩ (by omega);rw[pF,dv];rfl
   have iC:decide (((s.out++jx).length:Int)>65536)=true:=decide_eq_true (by omega);have dv:F jx s=none:=by rw[c7];unfold fv;rw[qA,d'];exact if_neg hle
   refine j.rg [0,1,2,3,4,5,17] fun K I=> ?_;simp only[go_sem,iC];apply I;refine j.bZ rfl (j.J (j.rg [] fun K I=> ?_));simp only[go_sem];apply I;refine j.ret ar Tryz.func119 (by simp[go_sem]) ?_;simp only[go_sem];rw[pF,dv];exact vF b2 b7
  refine j.rg [0,1,2,3,4,5,15,16,17] fun K I=> ?_;simp only[go_sem,pA,bf,cC,jH,I1,zS,IV];refine⟨fun y aF=>(nG b y aF).1, ?_⟩;refine a1 Tryz.call143 (Kk (aK o') _ (by rw[gu,x8,List.length_drop,List.length_take];omega)) ?_;simp only[go_sem,d'];apply I;refine j.J (j.J (j.rg [0,1,2,3,4,5,15,17,18,19] fun K I=> ?_));simp only[go_sem];apply I;refine j.bJ rfl (j.aN (j.J ?_));have key:findF files (aK n)=none∨(∃own,findF files (aK n)=some own∧dt n=false)∨(∃own,findF files (aK n)=some own∧dt n=true∧¬s.many+1≤1000)∨(∃own,findF files (aK n)=some own∧dt n=true∧s.many+1≤1000):=by
   cases ax:findF files (aK n)with
   |none=>exact .inl rfl
   |some own=>
    cases ao:dt n with
    |false=>exact .inr (.inl ⟨own,rfl,rfl⟩)
    |true=>
     by_cases hm:s.many+1≤1000
     ·exact .inr (.inr (.inr ⟨own,rfl,rfl,hm⟩))
     exact .inr (.inr (.inl ⟨own,rfl,rfl,hm⟩))
  have qQ:IntKind.i64.wrap ((s.many:Int)+1)=((s.many+1:Nat):Int):=bH _ (by have:=af.many;omega);have gX:=fun σ=>yx files (aK n) σ (by omega);have Sc:(aK n).size<2^40:=by
   have aa:=Tx d';rw[gu]at aa⊢;have ah:o'.length≤b.length:=by rw[x8,List.length_drop,List.length_take];omega
   omega
  have D9:=fun σ=>v_ (aK n) Sc σ;have tk:a' (aK n)=n:=rfl;rcases key with ax|⟨own,ax,ao⟩|⟨own,ax,ao,hm⟩|⟨own,ax,ao,hm⟩
  ·refine j.rg [0,1,2,3,4,5,17,18] fun K I=> ?_;simp only[go_sem];refine a1 Tryz.call84 (gX _) ?_;simp only[go_sem,ax,findD];apply I;refine j.J (j.rg [0,1,2,3,4,5,17,18,20,21] fun K I=> ?_);simp only[go_sem,u1,Bh,ho,qQ];apply I;refine j.J (j.J (j.rg [0,1,2,3,4,5,17,18,20,21] fun K I=> ?_));simp only[go_sem];apply I;refine j.bZ rfl (j.J (j.rg [] fun K I=> ?_));simp only[go_sem];apply I;refine j.ret ar Tryz.func119 (by simp[go_sem]) ?_;simp only[go_sem];have dv:F jx s=none:=by rw[c7];unfold fv;simp only[qA,d',ax]
   rw[pF,dv];exact vF b2 aT
  ·refine j.rg [0,1,2,3,4,5,17,18] fun K I=> ?_;simp only[go_sem];refine a1 Tryz.call84 (gX _) ?_;simp only[go_sem,ax,findD];apply I;refine j.J (j.rg [0,1,2,3,4,5,17,18,20,21] fun K I=> ?_);simp only[go_sem,u1,Bh,ho,qQ];apply I;refine j.J (j.J (j.rg [0,1,2,3,4,5,17,18,20,21] fun K I=> ?_));simp only[go_sem];refine a1 Tryz.call116 (D9 _) ?_;simp only[go_sem,tk,ao];apply I;refine j.bZ rfl (j.J (j.rg [] fun K I=> ?_));simp only[go_sem];apply I;refine j.ret ar Tryz.func119 (by simp[go_sem]) ?_;simp only[go_sem];have dv:F jx s=none:=by
    rw[c7];unfold fv;simp only[qA,d',ax];exact if_neg (fun h=>by rw[ao]at h;cases h.1)
   rw[pF,dv];exact vF b2 aT
  ·refine j.rg [0,1,2,3,4,5,17,18] fun K I=> ?_;simp only[go_sem];refine a1 Tryz.call84 (gX _) ?_;simp only[go_sem,ax,findD];apply I;refine j.J (j.rg [0,1,2,3,4,5,17,18,20,21] fun K I=> ?_);simp only[go_sem,u1,Bh,ho,qQ];apply I;refine j.J (j.J ?_);have tq:decide (((s.many+1:Nat):Int)>1000)=true:=decide_eq_true (by omega);refine j.rg [0,1,2,3,4,5,17,18,20,21] fun K I=> ?_;simp only[go_sem];refine a1 Tryz.call116 (D9 _) ?_;simp only[go_sem,tk,ao,u1,tq];apply I;refine j.bZ rfl (j.J (j.rg [] fun K I=> ?_));simp only[go_sem];apply I;refine j.ret ar Tryz.func119 (by simp[go_sem]) ?_;simp only[go_sem];have dv:F jx s=none:=by
    rw[c7];unfold fv;simp only[qA,d',ax];exact if_neg (fun h=>hm h.2)
   rw[pF,dv];exact vF b2 aT
  refine j.rg [0,1,2,3,4,5,17,18] fun K I=> ?_;simp only[go_sem];refine a1 Tryz.call84 (gX _) ?_;simp only[go_sem,ax,findD];apply I;refine j.J (j.rg [0,1,2,3,4,5,17,18,20,21] fun K I=> ?_);simp only[go_sem,u1,Bh,ho,qQ];apply I;refine j.J (j.J ?_);have tq:decide (((s.many+1:Nat):Int)>1000)=false:=decide_eq_false (by omega);refine j.rg [0,1,2,3,4,5,17,18,20,21] fun K I=> ?_;simp only[go_sem];refine a1 Tryz.call116 (D9 _) ?_;simp only[go_sem,tk,ao,u1,tq];apply I;refine j.bJ rfl (j.aN (j.J (j.J ?_)));have nt:∀{x:aE},bL 1 f (cd o f s (sset b2 x R0))=some (s.found.map ab):=fun{x}=>zy gk.f gk.o;have Dj:∀{x:aE},h0 f (cd o f s (sset b2 x R0))=cellsOf o 1 (s.out.map bD)++sset b2 x R0:=fun{x}=>zz gk.f gk.o;have Em:List.take s.found.length (s.found.map ab)=s.found.map ab:=List.take_of_length_le (by simp);have ach:s.found.length≤1000:=Nat.le_trans af.found af.many;refine j.rg [0,1,2,3,4,5,17,18,20] fun K I=> ?_;simp only[go_sem];refine a1 Tryz.call57 (Kh s.found (aK n) _ nt rfl (by omega)) ?_;simp only[go_sem];apply I;refine j.join (fun env' σ'=>∃jf,ek o jf ⟨s.out,gS s.found (aK n),s.many+1⟩ R0∧env'=[(0, .ai (files.map ay.d)),(1, .own o 1 s.out.length),(2, .ai (b.map bD)),(3, .v (.int .i64 n2)),(4, .own jf 1 (gS s.found (aK n)).length),(5, .ptr b2 1 0 0),(17, .v (.int .i64 (bN:Int))),(20, .ai (own.map bD))]∧σ'=cd o jf ⟨s.out,gS s.found (aK n),s.many+1⟩ (sset b2 (ho (s.many+1)) R0)) (fun k1 cb=> ?_) ?_
  ·refine j.cond rfl (fun j8=> ?_) (fun j8=> ?_)
   ·have eN:gS s.found (aK n)=s.found++[aK n]:=by
     have h:inB s.found (aK n)=false:=by simpa using j8
     unfold gS;rw[yW,h];rfl
    refine j.fw [0,1,2,3,4,5,17,18,20] [99] fun K I=> ?_;simp only[go_sem,nt,Dj,Em];refine⟨by decide,⟨by simp,fun y aF=>by rw[aF];exact⟨rfl,rfl⟩,by rw[List.length_map];omega,by rw[List.length_map];omega⟩,fun iT aO vl=> ?_⟩;have g_:s.found.map ab++[D.v (Value.string (aK n))]=(s.found++[aK n]).map ab:=by rw[List.map_append];rfl
    have tH:((s.found++[aK n]).map ab).length=(s.found++[aK n]).length:=List.length_map ..;simp only[g_]at aO⊢;simp only[tH];apply I;have vn:aV iT 1 ((s.found++[aK n]).map ab) (cellsOf o 1 (s.out.map bD)++sset b2 (ho (s.many+1)) R0):=⟨vl,aO⟩;have rY:aV o 1 (s.out.map bD) (sset b2 (ho (s.many+1)) R0):=(xg (gk (x:=ho (s.many+1))).o gk.f).1;have sc:=vn.swap rY;refine j.le (cn.refl _) sc.2.2 ?_;refine j.rebase [0,1,2,3,4,5,17,20] ?_;simp only[go_sem];exact cb _ _ ⟨iT,by rw[eN];exact ek.base (ρ:=sset b2 (ho (s.many+1)) R0) ⟨sc.1,sc.2.1⟩ fun b ae=>re ae,by rw[eN],by rw[eN];rfl⟩
   have eN:gS s.found (aK n)=s.found:=by
    have h:inB s.found (aK n)=true:=by simpa using j8
    unfold gS;rw[yW,h];rfl
   refine j.aN ?_;refine j.rebase [0,1,2,3,4,5,17,20] ?_;simp only[go_sem];exact cb _ _ ⟨f,by rw[eN];exact⟨aT.o,aT.f⟩,by rw[eN],by rw[eN];rfl⟩
  rintro env' σ' ⟨jf,fC,rfl,rfl⟩;refine j.J ?_;have x5:cZ.Ok ⟨s.out,gS s.found (aK n),s.many+1⟩:=by
   refine⟨af.out, ?_,hm, ?_⟩
   ·have:=af.found;show(gS s.found (aK n)).length≤s.many+1
    unfold gS;split
    ·omega
    simp;omega
   intro m fY;change m∈gS s.found (aK n)at fY;unfold gS at fY;split at fY
   ·exact af.right m fY
   rcases List.mem_append.1 fY with fY|fY
   ·exact af.right m fY
   rw[List.mem_singleton.1 fY,ht];exact ao
  have ew:own.length<2^40:=by
   unfold findF at ax;cases ig:files.find? (fun f=>f.name.toList==(aK n).toList)with
   |none=>rw[ig]at ax;cases ax
   |some f=>rw[ig]at ax;cases ax;exact gG f (List.mem_of_find?_eq_some ig)
  have gE:=r' o jf own ⟨s.out,gS s.found (aK n),s.many+1⟩ R0 x5 lK fC ew;have dv:F jx s=f' files d own ⟨s.out,gS s.found (aK n),s.many+1⟩:=by
   rw[c7];unfold fv;simp only[qA,d',ax];exact if_pos ⟨ao,hm⟩
  rcases bW:f' files d own ⟨s.out,gS s.found (aK n),s.many+1⟩with _|cS;all_goals rw[bW]at gE dv
  ·refine j.rg [0,1,2,3,4,5,17,20] fun K I=> ?_;simp only[go_sem,Dl];refine⟨_,Tryz.call119,gE.mono ?_⟩;rintro e σ1 ⟨rfl,aj⟩;simp only[go_sem];apply I;refine j.J (j.J (j.rg [0,1,2,3,4,5,17,21] fun K I=> ?_));simp only[go_sem];apply I;refine j.bZ rfl (j.J (j.rg [] fun K I=> ?_));simp only[go_sem];apply I;refine j.ret ar Tryz.func119 (by simp[go_sem]) ?_;simp only[go_sem];rw[pF,dv];exact aj
  refine j.rg [0,1,2,3,4,5,17,20] fun K I=> ?_;simp only[go_sem,Dl];refine⟨_,Tryz.call119,gE.mono ?_⟩;rintro e σ1 ⟨dI,f2,tA,rfl,rfl⟩;simp only[go_sem];apply I;refine j.J (j.J (j.rg [0,1,2,3,4,5,17,21] fun K I=> ?_));simp only[go_sem];apply I;refine j.bJ rfl (j.aN (j.rg [0,1,2,3,4,5,17] fun K I=> ?_));simp only[go_sem];apply I;refine j.ba ?_;refine j.rebase [0,1,2,3,4,5,15] ?_;simp only[go_sem];refine cH bN _ _ ⟨dI,f2,cS,⟨JH,zF _ _ _ af dv,tA, ?_⟩,rfl,rfl⟩ (by omega);rw[pF,dv];rfl
 have cC:i=b.length:=by
  have h:¬i<b.length:=by simpa using rJ
  omega
 refine j.exit rfl (j.J (j.rg [1,4] fun K I=> ?_));simp only[go_sem];apply I;refine j.ret ar Tryz.func119 (by simp[go_sem]) ?_;simp only[go_sem];have c1:fF F b [] st=some s:=by rw[←ch,cC,List.drop_length,fF,c7,LN af]
 rw[c1];exact⟨o,f,aT,rfl,rfl⟩
theorem Mo (dE:files.length<2^31) (gG:∀f∈files,f.b.length<2^40):∀oU,oU≤11→yQ files b2 oU
 |0,_=>WN files b2
 |d+1,h=>WM files b2 dE gG d (by omega) (Mo dE gG d (by omega))
end
end Go.Ab.S16
namespace Go.Ab.S16
open Go Go.Proofs Go.RowKit
section
variable {P : Program} {N : cP} {C : Ctx P N} {todo : List Item} {env : Env}
theorem pW (k:Nat) {o:Option Nat} {sz:Nat} {xs:List D} {ρ:al} (aj:eget k env= .own o sz xs.length) (aq:aV o sz xs ρ) (fq:∀c,o=some c→dO c ρ) (he:∀c,o=some c→∀p∈env,p.1≠k→D.b' c sz xs p.2=p.2)
  (h:j C todo (eput k (.ai xs) env) ρ):j C todo env (cellsOf o sz xs++ρ):=by
 cases o with
 |none=>
  have an:=aq.zero rfl;subst an;refine j.pk h fun U=> ?_;rw[j6];split
  ·rename_i aR;rw[aR,aj];exact ca.l5 _ _
  exact ca.refl _
 |some c=>
  refine j.o1 c (bE c _ _) ?_;have bt:di c sz xs ((c,aE.arr sz xs)::ρ)=ρ:=by
   simp only[di,if_true];exact fq c rfl sz xs
  change j C todo (kB c sz xs env) (di c sz xs ((c,aE.arr sz xs)::ρ));rw[bt];refine j.pk h fun U=> ?_;rw[uV,j6];split
  ·rename_i aR
   rw[aR,aj];show ca (if c=c∧sz=sz∧xs.length≤xs.length then D.ai (xs.take xs.length)else _) _
   rw[if_pos ⟨rfl,rfl,Nat.le_refl _⟩,List.take_length];exact ca.refl _
  rename_i aR
  have:∀env:Env,(∀p∈env,p.1≠k→D.b' c sz xs p.2=p.2)→D.b' c sz xs (eget U env)=eget U env:=by
   intro env;induction env with
   |nil=>intro _;rfl
   |cons p r aB=>
    obtain⟨i,d⟩:=p;intro aP;show D.b' c sz xs (if U=i then d else eget U r)=if U=i then d else eget U r
    by_cases iG:U=i
    ·rw[if_pos iG];exact aP (i,d) (by simp) (fun e=>aR (iG.trans e))
    rw[if_neg iG];exact aB fun p D4=>aP p (by simp[D4])
  rw[this env (he c rfl)];exact ca.refl _
end
structure BJ (e:aM):Prop where
 small:e.small
 cmd:uI e.cmd
 outs:∀f∈e.outs,f.size<2^40
 bG:∀f∈e.bG,f.size<2^40
structure wG (m:bK) (l:List ay) (aD:List ByteArray):Prop where
 edges:m.edges.length≤60
 sW:∀e∈m.edges,BJ e
 defs:m.defs.length<2^20
 files:l.length≤400
 file:∀f∈l,f.b.length<2^20∧f.name.size<2^40
 aD:aD.length<2^20
theorem K5 {m:bK} {c:Nat} (h:iS m= .inl c):c≠0:=by
 unfold iS at h;split at h
 ·cases h;decide
 dsimp only at h;split at h
 ·cases h;decide
 cases h
theorem Ly {g:b9} {aD:List ByteArray} {c:Nat} (h:ln g aD= .inl c):c≠0:=by
 unfold ln at h;split at h
 ·cases h;decide
 cases h
theorem EG {α:Type} (p:α→Bool) (l:List α):∀x∈kept p l,x∈l:=fun x an=>(List.mem_filter.1 an).1
def gT (b3 b4 b8 mb:Nat) (m:bK) (g:b9) (l:List ay):al:=[(b8, .arr 1 [g.d mb]),(mb, .mp (dG g.mks)),(b4, .arr 1 [.ai (l.map ay.d)]),(b3, .arr 2 [m.d])]
structure BI (b3 b4 b8 mb:Nat):Prop where
 Qj:b8≠mb
 xj:b8≠b4
 zB:b8≠b3
 R1:mb≠b4
 acu:mb≠b3
 oh:b4≠b3
section
variable {b3 b4 b8 mb : Nat} {m : bK} {g : b9} {l : List ay}
theorem O2:av b8 (gT b3 b4 b8 mb m g l)=some (.arr 1 [g.d mb]):=bE ..
theorem O3 (h:BI b3 b4 b8 mb):av mb (gT b3 b4 b8 mb m g l)=some (.mp (dG g.mks)):=by
 unfold gT;rw[aW,if_neg (Ne.symm h.Qj),bE]
theorem O1 (h:BI b3 b4 b8 mb):av b4 (gT b3 b4 b8 mb m g l)=some (.arr 1 [.ai (l.map ay.d)]):=by
 unfold gT;rw[aW,if_neg (Ne.symm h.xj),aW,if_neg (Ne.symm h.R1),bE]
end
theorem B7 {cmd:ByteArray} {decl:List ByteArray} {files:List ay} {x:hO} (nk:uI cmd) (h:dm cmd decl files=some x):x.outs.length<2^20:=by
 unfold dm at h;split at h
 ·cases h
 rename_i y aF
 unfold lC at h;split at h
 ·cases h
 split at h
 ·cases h
  rw[List.length_map];exact(nk.args y aF).2.2
 cases h
theorem Hd {cmd:ByteArray} {decl:List ByteArray} {files:List ay} {x:hO} (h:dm cmd decl files=some x):∀f∈x.outs,f.b.length<2^20∧f.name.size<2^40:=by
 unfold dm at h;split at h
 ·cases h
 rename_i y aF
 unfold lC at h;split at h
 ·cases h
 split at h
 ·rename_i hle
  cases h
  intro f ax;obtain⟨n,au,rfl⟩:=List.mem_map.1 ax;have ao:=yA ((FQ aF).2.1 n au);have af:(a' n).length=n.size:=by show n.data.toList.length=_;simp
  exact⟨Nat.lt_of_le_of_lt hle (by decide),by show n.size<_;omega⟩
 cases h
theorem Py {outs:List ByteArray} {a7:List ay} (h:gU outs a7=true):a7.length=outs.length:=by
 unfold gU oV at h;simp at h;omega
theorem MO {g:b9} (aq:g.Ok) (au:∀e∈g.aU.edges,∀f∈e.bG,f.size<2^40):∀f∈h2 g,f.size<2^40:=fun f ax=>by
 have aa:f∈hd g.aU:=EG _ _ f ax;unfold hd mi at aa;obtain⟨b,ae,rfl⟩:=List.mem_map.1 aa;have ah:=(B5 ((kq (g.aU.edges.flatMap aM.bG)).map a')).subset ae;obtain⟨s,af,rfl⟩:=List.mem_map.1 ah;rw[wi]at af;obtain⟨e,he,fZ⟩:=List.mem_flatMap.1 af;rw[gr];exact au e he s fZ
theorem MW {g:b9} (aq:g.Ok) {aD:List ByteArray} (bc:aD.length<2^30):(kr g aD).length<2^30:=by
 unfold kr;split
 ·unfold nU;split
  ·have:=aq.dl;omega
  have aa:(kept (fun f=>(hd g.aU).contains f) (g.aU.edges.flatMap aM.outs)).length≤(g.aU.edges.flatMap aM.outs).length:=uc ..;have ah:=Cm aM.outs 10 g.aU.edges (fun e he=>(aq.b5 e he).outs);have:=aq.el;omega
 exact bc
set_option maxHeartbeats 8000000 in
theorem Pm (m:bK) (l:List ay) (aD:List ByteArray) (cG:wG m l aD):
  AC Tryz.prog 12 [m.d, .ai (l.map ay.d), .ai (aD.map ab)] [] (fun e σ'=>match hy m l aD with
   | .inl c=>e= .ret (.bd [.v (.slice none 0 0),d_ c])
   | .inr a7=>∃o,aV o 2 (a7.map ay.d) []∧e= .ret (.bd [.own o 2 a7.length,d_ 0])∧aQ (cellsOf o 2 (a7.map ay.d)) σ'):=by
 have dh:∀e∈m.edges,e.small:=fun e he=>(cG.sW e he).small;have jH:=cG.edges;have dE:=cG.files;have hk:=cG.aD;have jt:=fun σ=>UQ m (by omega) dh cG.defs σ;have pz:∀f∈l,f.b.length<2^40:=fun f ax=>Nat.lt_trans (cG.file f ax).1 (by decide);have JD:∀f∈l,f.name.size<2^40:=fun f ax=>(cG.file f ax).2;unfold bK.d at jt⊢;refine AC.bI Tryz.func12 Tryz.ntmps12 fun C ar=> ?_;refine j.J (j.rg [0,1,2] fun K I=> ?_);simp only[go_sem];intro b3 b4 lJ;have oh:b4≠b3:=fun e=>by rw[e]at lJ;simp at lJ
 have g3:av b3 [(b4, .arr 1 [.ai (l.map ay.d)]),(b3, .arr 2 [.agg [.ai (m.edges.map aM.d), .ai (m.defs.map ab)]])]=some (.arr 2 [.agg [.ai (m.edges.map aM.d), .ai (m.defs.map ab)]]):=by rw[aW,if_neg (Ne.symm oh),bE]
 apply I;refine j.J ?_;rcases aq:iS m with c|g
 ·rw[aq]at jt;refine j.rg [2,3,4] fun K I=> ?_;simp only[go_sem,g3];refine a1 Tryz.call20 (jt _) ?_;simp only[go_sem];intro b8 zQ;apply I;have Dh:((c:Int) !=0)=true:=by
   have:=K5 aq;rw[bne_iff_ne];omega
  have he:hy m l aD= .inl c:=by unfold hy;rw[aq]
  refine j.J (j.J (j.rg [2,4,8,9] fun K I=> ?_));simp only[go_sem,Dh];apply I;refine j.bZ rfl (j.J (j.rg [9] fun K I=> ?_));simp only[go_sem];apply I;refine j.ret ar Tryz.func12 (by simp[go_sem]) ?_;simp only[go_sem];rw[he];rfl
 rw[aq]at jt;refine j.rg [2,3,4] fun K I=> ?_;simp only[go_sem,g3];refine⟨_,Tryz.call20,(jt _).mono ?_⟩;rintro e σ1 ⟨mb,r7,rfl,rfl⟩;simp only[go_sem];intro b8 zQ;refine⟨⟨rfl,rfl⟩, ?_⟩;apply I;have aZ:∀{b c:Nat} {x:aE} {τ:al},av b ((c,x)::τ)=none→b≠c∧av b τ=none:=fun{b c x τ} h=>by
  rw[aW]at h;split at h
  ·cases h
  rename_i e;exact⟨e,h⟩
 have Iq:BI b3 b4 b8 mb:=⟨(aZ zQ).1,(aZ (aZ zQ).2).1,(aZ (aZ (aZ zQ).2).2).1,(aZ r7).1,(aZ (aZ r7).2).1,oh⟩;obtain⟨pG,jl⟩:=K4 (by omega) dh cG.defs (fun e he=>(cG.sW e he).outs) aq;have Rg:hy m l aD=nc g l aD:=by unfold hy;rw[aq]
 rw[Rg]at ar;change j C _ _ (gT b3 b4 b8 mb m g l);have g8:=O2 (b3:=b3) (b4:=b4) (b8:=b8) (mb:=mb) (m:=m) (g:=g) (l:=l);have s5:=O3 (m:=m) (g:=g) (l:=l) Iq;have g4:=O1 (m:=m) (g:=g) (l:=l) Iq;have vq:(g.d mb).cells.length=1:=rfl;have acn:(g.d mb).plain=true:=rfl;have vp:(g.d mb).cells.headD .any=g.d mb:=rfl;refine j.J (j.J (j.rg [2,4,8,9] fun K I=> ?_));simp only[go_sem];apply I;refine j.bJ rfl (j.aN (j.J (j.J ?_)));rcases hw:uF g with _|_
 ·refine j.rg [2,4,8] fun K I=> ?_;simp only[go_sem,g8,vq,vp];refine a1 Tryz.call25 (Nj g pG mb _ s5 (MO pG fun e he=>(cG.sW e (by rw[←jl];exact he)).bG)) ?_;simp only[go_sem,hw];apply I;refine j.bJ rfl (j.aN (j.J (j.J ?_)));have bn:(aD.map ab).length=aD.length:=List.length_map ..;refine j.rg [2,4,8] fun K I=> ?_;simp only[go_sem,bn];apply I;refine j.join (fun env' σ'=>env'=[(2, .ai ((kr g aD).map ab)),(4, .ptr b4 1 0 0),(8, .ptr b8 1 0 0)]∧σ'=gT b3 b4 b8 mb m g l) (fun k1 cb=> ?_) ?_
  ·refine j.cond rfl (fun CF=> ?_) (fun CF=> ?_)
   ·have aO:aD.length=0:=by
     have:=CF;simp at this;rw[this];rfl
    refine j.rg [4,8] fun K I=> ?_;simp only[go_sem,g8,vq,vp];refine a1 Tryz.call30 (X8 g mb _ (by rw[jl];omega) (by rw[jl];exact dh) (by rw[jl];exact cG.defs)) ?_;simp only[go_sem];apply I;refine j.rebase [2,4,8] ?_;simp only[go_sem];refine cb _ _ ⟨?_,rfl⟩;unfold kr;rw[if_pos aO]
   have aO:¬aD.length=0:=by
    have:=CF;simp at this;intro h;exact this (List.length_eq_zero_iff.1 h)
   refine j.aN ?_;refine j.rebase [2,4,8] ?_;simp only[go_sem];refine cb _ _ ⟨?_,rfl⟩;unfold kr;rw[if_neg aO]
  rintro env' σ' ⟨rfl,rfl⟩;refine j.J ?_;rcases aP:ln g (kr g aD)with c|f_
  ·have sd:(kr g aD).length<2^30:=MW pG (by omega);refine j.rg [2,4,8] fun K I=> ?_;simp only[go_sem,g8,vq,vp];refine a1 Tryz.call31 (Lz g pG mb (kr g aD) _ s5 sd) ?_;simp only[go_sem,aP,Fe];apply I;refine j.J (j.J ?_);have Dh:((c:Int) !=0)=true:=by
    have:=Ly aP;rw[bne_iff_ne];omega
   have he:nc g l aD= .inl c:=by unfold nc;rw[hw];simp only[Bool.false_eq_true,if_false,aP]
   refine j.rg [2,4,8,9,10] fun K I=> ?_;simp only[go_sem,Dh];apply I;refine j.bZ rfl (j.J (j.rg [9] fun K I=> ?_));simp only[go_sem];apply I;refine j.ret ar Tryz.func12 (by simp[go_sem]) ?_;simp only[go_sem];rw[he];rfl
  have sd:(kr g aD).length<2^30:=MW pG (by omega);refine j.rg [2,4,8] fun K I=> ?_;simp only[go_sem,g8,vq,vp];refine a1 Tryz.call31 (Lz g pG mb (kr g aD) _ s5 sd) ?_;simp only[go_sem,aP,Fe];apply I;refine j.J (j.J (j.rg [2,4,8,9,10] fun K I=> ?_));simp only[go_sem];apply I;refine j.bJ rfl (j.aN (j.J (j.rg [2,4,8,10] fun K I=> ?_)));simp only[go_sem];apply I;refine j.J (j.J ?_);rcases Ag:(kr g aD).any (lY g l)with _|_
  ·refine j.rg [2,4,8,10,11] fun K I=> ?_;simp only[go_sem];refine a1 Tryz.call34 (rz (kr g aD) _ [.ptr b8 1 0 0, .ptr b4 1 0 0] (lY g l) _ (by omega) (zb g mb b8 b4 l _ _ s5 g8 g4 (by omega) pz)) ?_;simp only[go_sem,Ag];apply I;refine j.bJ rfl (j.aN (j.J (j.rg [4,8,10,11] fun K I=> ?_)));simp only[go_sem];apply I;refine j.J (j.J (j.im 12 2 rfl ?_));simp only[go_sem];have Ri:nc g l aD=jE g l f_ []:=by unfold nc;rw[hw];simp only[Bool.false_eq_true,if_false,aP,Ag]
   rw[Ri]at ar;obtain⟨gn,JP⟩:=Lx pG aP;rw[jl]at gn JP;have JT:(f_.map a_).length=f_.length:=List.length_map ..;refine j.rg [4,8,10,11,12] fun K I=> ?_;simp only[go_sem,JT];apply I;refine j.aG ?_;refine j.rebase [4,8,11,12,49,50,51] ?_;simp only[go_sem];refine j.while (fun(i:Nat) env' aS=>∃ir:Option Nat,∃made:List ay,(i≤f_.length∧jE g l (f_.drop i) made=jE g l f_ []∧made.length≤10*i∧(∀f∈made,f.b.length<2^20∧f.name.size<2^40)∧aV ir 2 (made.map ay.d) (gT b3 b4 b8 mb m g l))∧env'=[(4, .ptr b4 1 0 0),(8, .ptr b8 1 0 0),(11, .bX (.func 32) [] [.ptr b8 1 0 0, .ptr b4 1 0 0]),(12, .own ir 2 made.length),(49, .ai (f_.map a_)),(50, .v (.int .i64 (f_.length:Int))),(51, .v (.int .i64 (i:Int)))]∧aS=cellsOf ir 2 (made.map ay.d)++gT b3 b4 b8 mb m g l) (fun(i:Nat)=>f_.length-i) 0 ⟨none,[],⟨Nat.zero_le _,rfl,Nat.le_refl _,fun f ax=>(by cases ax),aV.nil _ _⟩,rfl,rfl⟩ ?_;rintro i env' aS ⟨ir,made,⟨hi,ch,dW,fX,aT⟩,rfl,rfl⟩ aB;have cH:=aB;refine j.J (j.rg [4,8,11,12,49,50,51] fun K I=> ?_);simp only[go_sem];apply I;refine j.J ?_;refine j.cond rfl (fun CJ=> ?_) (fun CJ=> ?_)
   ·have aC:i<f_.length:=by simpa using CJ
    have xY:=b6 a_ f_ i aC;rw[a_]at xY;have bf:(0:Int)≤(i:Int):=by omega
    have bp:(i:Int)<(f_.length:Int):=by omega
    have oH:=JP _ (List.getElem_mem aC);obtain⟨n,au⟩:∃n,f_[i]=n:=⟨_,rfl⟩;rw[au]at xY oH;have dz:f_.drop i=n::f_.drop (i+1):=by rw[List.drop_eq_getElem_cons aC,au]
    rw[dz]at ch;have DQ:n<g.aU.edges.length:=by rw[jl];exact oH
    have bx:g.aU.edges[n]=jD g n:=by unfold jD;rw[List.getD_eq_getElem?_getD,List.getElem?_eq_getElem DQ];rfl
    obtain⟨E,xk⟩:∃E,jD g n=E:=⟨_,rfl⟩;rw[xk]at bx;have zE:BJ E:=cG.sW E (by rw[←jl,←bx];exact List.getElem_mem _);refine j.aN (j.J (j.aG (j.J (j.rg [4,8,11,12,49,50,51] fun K I=> ?_))));simp only[go_sem,JT,xY,bf,bp];intro kW IJ;apply I;obtain⟨tz,RS⟩:=aT.push (x:= .arr 1 [a_ n]) IJ;have IK:=(aT.jP IJ).1;refine j.le (cn.refl _) RS ?_;have cb:∀{b:Nat} {o:aE},av b (gT b3 b4 b8 mb m g l)=some o→av b ((kW, .arr 1 [a_ n])::gT b3 b4 b8 mb m g l)=some o:=fun{b o} h=>by
     rw[aW,if_neg (fun e=>by rw[e,IK]at h;cases h)];exact h
    have PS:=tz.keep (cb g8);have PM:=tz.keep (bE kW (.arr 1 [a_ n]) (gT b3 b4 b8 mb m g l));refine j.J (j.rg [4,8,11,12,14,49,50,51] fun K I=> ?_);simp only[go_sem,PS,PM,vq,vp];refine a1 Tryz.call35 (O4 g mb n _ DQ (by rw[jl];omega) (by rw[jl];exact dh)) ?_;simp only[go_sem,bx,aM.d];intro kX IL;apply I;obtain⟨b7,RT⟩:=tz.push (x:= .arr 6 [E.d]) IL;have IM:=(tz.jP IL).1;refine j.le (cn.refl _) RT ?_;have gl:∀{b:Nat} {o:aE},av b ((kW, .arr 1 [a_ n])::gT b3 b4 b8 mb m g l)=some o→av b ((kX, .arr 6 [E.d])::(kW, .arr 1 [a_ n])::gT b3 b4 b8 mb m g l)=some o:=fun{b o} h=>by
     rw[aW,if_neg (fun e=>by rw[e,IM]at h;cases h)];exact h
    have zo:=b7.keep (gl (cb g8));have Cu:=b7.keep (gl (cb g4));have zx:=b7.keep (gl (cb s5));have PN:=b7.keep (gl (bE kW (.arr 1 [a_ n]) (gT b3 b4 b8 mb m g l)));have PO:=b7.keep (bE kX (.arr 6 [E.d]) ((kW, .arr 1 [a_ n])::gT b3 b4 b8 mb m g l));have mr:=PO.trans (congrArg (fun x=>some (aE.arr 6 [x])) (show E.d= .agg [.ai (E.outs.map ab), .ai (E.ins.map ab), .ai (E.impl.map ab), .ai (E.order.map ab), .v (.string E.cmd), .v (.string E.dep)]from rfl));have oN:=zE.small;have ic:=fun σ=>B6 [E.ins,E.impl,E.order] σ (by simp) (fun x an=>by
     have aa:=oN.ins;have ah:=oN.impl;have aJ:=oN.order;simp only[List.mem_cons,List.not_mem_nil,or_false]at an;rcases an with rfl|rfl|rfl<;>omega)
    have Jc:[E.ins,E.impl,E.order].flatten=E.bG:=by unfold aM.bG;simp
    rw[Jc]at ic;have hh:=ss E oN;refine j.J (j.J ?_);rcases jo:E.bG.any (lY g l)with _|_
    ·refine j.fw [4,8,11,12,14,15,49,50,51] [64] fun K I=> ?_;simp only[go_sem,mr];refine⟨by decide, ?_⟩;refine a1 Tryz.call36 (ic _) ?_;simp only[go_sem];refine a1 Tryz.call34 (rz E.bG _ [.ptr b8 1 0 0, .ptr b4 1 0 0] (lY g l) _ (by omega) (zb g mb b8 b4 l _ _ zx zo Cu (by omega) pz)) ?_;simp only[go_sem,jo];apply I;refine j.bJ rfl (j.aN (j.J (j.rg [4,8,11,12,14,15,49,50,51] fun K I=> ?_)));simp only[go_sem];apply I;refine j.J ?_;obtain⟨A,gj⟩:∃A,kept (sv g) l=A:=⟨_,rfl⟩;have lR:(l.map ay.d).length=l.length:=List.length_map ..;refine j.rg [4,8,11,12,15,16,49,50,51] fun K I=> ?_;simp only[go_sem,Cu];refine⟨_,Tryz.call39,(Oh (l.map ay.d) _ (AR l) (by omega)).mono ?_⟩;rintro e σ1 ⟨K_,jI,rfl,rfl⟩;simp only[go_sem,lR];refine⟨_,Tryz.call38,(Hk K_ l 40 [.ptr b8 1 0 0] (sv g) _ (by omega) jI (fun τ hle=>Pk g mb b8 l τ (hle _ _ zx) (hle _ _ zo) JD)).mono ?_⟩;rintro e mc ⟨rfl,rfl,tw⟩;simp only[go_sem];apply I;rw[gj]at tw⊢;have pw:A.length≤l.length:=by rw[←gj];exact uc ..
     have Il:∀f∈A,f∈l:=by rw[←gj];exact EG _ _
     refine j.J ?_;refine j.fw [4,8,11,12,15,16,17,49,50,51] [75] fun K I=> ?_;simp only[go_sem];refine⟨by decide, ?_⟩;refine⟨_,Tryz.call41,(Om K_ ir A made _ tw.bL (E6 tw b7.bL) (by omega) (by omega)).mono ?_⟩;rintro e YN ⟨ed,fI,rfl,rfl⟩;simp only[go_sem];refine⟨_,Tryz.call38,(Hk ed (A++made) 37 [.ptr b8 1 0 0, .ptr kW 1 0 0] (sY g n) _ (by rw[List.length_append];omega) fI (fun τ hle=>Pj g pG mb b8 kW n DQ (A++made) τ (hle _ _ (tw.keep zx)) (hle _ _ (tw.keep zo)) (hle _ _ (tw.keep PN)) (fun f ax=>by
      rcases List.mem_append.1 ax with ax|ax
      ·exact JD f (Il f ax)
      exact(fX f ax).2))).mono ?_⟩
     rintro e alh ⟨rfl,rfl,eX⟩;simp only[go_sem];apply I;have c7:kept (sY g n) (A++made)=sZ g l made n:=by unfold sZ;rw[gj]
     rw[c7]at eX⊢;obtain⟨F,u9⟩:∃F,sZ g l made n=F:=⟨_,rfl⟩;rw[u9]at eX⊢;have oq:∀{c:Nat} {A B:al},av c (A++B)=none→av c A=none∧av c B=none:=fun{c A B} h=>by
      rw[kp]at h;split at h
      ·cases h
      exact⟨by assumption,h⟩
     have vm:aV ed 2 (F.map ay.d) (cellsOf ir 2 (made.map ay.d)++((kX, .arr 6 [E.d])::(kW, .arr 1 [a_ n])::gT b3 b4 b8 mb m g l)):=k3 eX fun b ae=>(oq ae).2;refine j.le (cn.refl _) (aQ.append (aQ.append_left _ _) (tw.sle.trans eX.sle)) ?_;refine j.rebase [4,8,11,12,15,18,49,50,51] ?_;simp only[go_sem];have CW:F.length=(F.map ay.d).length:=(List.length_map ..).symm;rw[CW];refine pW 18 rfl vm (fun c ag=> ?_) (fun c ag p aP aj=> ?_) ?_
     ·have bj:=vm.fresh c ag;have DO:ir≠some c:=l4 (aQ.append_left _ _) bj;have aZ:∀{b c:Nat} {x:aE} {τ:al},av b ((c,x)::τ)=none→b≠c∧av b τ=none:=fun{b c x τ} h=>by
       rw[aW]at h;split at h
       ·cases h
       rename_i e;exact⟨e,h⟩
      have aa:=aZ (oq bj).2;have ah:=aZ aa.2;have aJ:=aZ (show av c ((b8,_)::_)=none from ah.2);have bg:=aZ aJ.2;have cu:=aZ bg.2;have de:=aZ cu.2;refine dO.cells DO (fun y aF s ys=> ?_) (.cons aa.1 (fun _ _=>rfl) (.cons ah.1 (fun _ _=>rfl) (.cons aJ.1 (fun _ _=>rfl) (.cons bg.1 (fun _ _=>EX _ _ _ _) (.cons cu.1 (fun _ _=>rfl) (.cons de.1 (fun _ _=>rfl) (.nil c)))))));obtain⟨z,_,rfl⟩:=List.mem_map.1 aF;rfl
     ·have DO:ir≠some c:=l4 (aQ.append_left _ _) (vm.fresh c ag);simp only[List.mem_cons,List.not_mem_nil,or_false]at aP;rcases aP with rfl|rfl|rfl|rfl|rfl|rfl|rfl|rfl|rfl;case inr.inr.inr.inl=>
       show D.b' c 2 _ (.own ir 2 made.length)= .own ir 2 made.length
       cases ir with
       |none=>rfl
       |some q=>
        show(if q=c∧_∧_ then _ else _)=_
        rw[if_neg (fun h=>DO (by rw[h.1]))]
      all_goals first|rfl|exact absurd rfl aj
     simp only[go_sem];refine j.J ?_;obtain⟨yT,oj⟩:∃yT:al,cellsOf ir 2 (made.map ay.d)++((kX,aE.arr 6 [E.d])::(kW, .arr 1 [a_ n])::gT b3 b4 b8 mb m g l)=yT:=⟨_,rfl⟩;rw[oj]at mr⊢;have Qs:∀f∈F,f∈A++made:=by rw[←u9,←c7];exact EG _ _
     have Qn:∀f∈F,f.b.length<2^20:=fun f ax=>by
      rcases List.mem_append.1 (Qs f ax)with h|h
      ·exact(cG.file f (Il f h)).1
      exact(fX f h).1
     have Qq:F.length<2^31:=by
      have:F.length≤(A++made).length:=by rw[←u9,←c7];exact uc ..
      rw[List.length_append]at this;omega
     have tn:=fun σ=>B6 [E.ins,E.impl] σ (by simp) (fun x an=>by
      have aa:=oN.ins;have ah:=oN.impl;simp only[List.mem_cons,List.not_mem_nil,or_false]at an;rcases an with rfl|rfl<;>omega)
     have Dn:[E.ins,E.impl].flatten=E.ins++E.impl:=by simp
     rw[Dn]at tn;have zV:=fun σ=>OA E.cmd (E.ins++E.impl) F zE.cmd Qq Qn (by have aa:=oN.ins;have ah:=oN.impl;rw[List.length_append];omega) σ;obtain⟨cU,qg,ox,dg⟩:∃cU:hO,∃qg:Int,wX (dm E.cmd (E.ins++E.impl) F)= .bd [cU.d,d_ qg]∧((dm E.cmd (E.ins++E.impl) F=none∧qg=13)∨(dm E.cmd (E.ins++E.impl) F=some cU∧qg=0)):=by
      cases h:dm E.cmd (E.ins++E.impl) F with
      |none=>exact⟨_,13,rfl, .inl ⟨rfl,rfl⟩⟩
      |some x=>exact⟨x,0,rfl, .inr ⟨rfl,rfl⟩⟩
     rw[ox]at zV;have mQ:cU.d.cells.length=4:=rfl;have pM:cU.d.plain=true:=rfl;refine j.Hq [4,8,11,12,15,18,49,50,51] [86] [kX] [] (.op 0 true (.op 1 true (.op 2 true (.op 3 true (.op 4 true (.op 5 true (.op 8 true (.op 6 true (.alt 7 13 (.alt 9 13 (.op 10 true (.op 11 true (.op 12 true (.op 13 false (.op 14 false (.op 15 true .nil)))))) (.op 9 false (.op 10 true (.op 11 true (.op 12 true (.op 14 false (.op 15 true .nil))))))) (.op 7 false (.op 9 false (.op 10 true (.op 11 true (.op 12 true (.op 14 false (.op 15 true .nil)))))))))))))))) (by kernel_rfl) (by decide) (by kernel_rfl) fun K I=> ?_;simp only[go_sem,mr];refine(fun(pJ:∀(j0:Nat) (env':Env),av j0 yT=none→(eget 4 env'= .ptr b4 1 0 0∧eget 8 env'= .ptr b8 1 0 0∧eget 11 env'= .bX (.func 32) [] [.ptr b8 1 0 0, .ptr b4 1 0 0]∧eget 12 env'= .own ir 2 made.length∧eget 15 env'= .ptr kX 6 0 0∧eget 19 env'= .ptr j0 4 0 0∧eget 20 env'=d_ qg∧eget 49 env'= .ai (f_.map a_)∧eget 50 env'= .v (.int .i64 (f_.length:Int))∧eget 51 env'= .v (.int .i64 (i:Int)))→K env' ((j0, .arr 4 [cU.d])::yT))=> ?_) ?_
     ·refine⟨by decide, ?_, ?_⟩
      ·refine a1 Tryz.call36 (tn _) ?_;simp only[go_sem,mr,mQ,pM];refine⟨?_, ?_⟩
       ·refine a1 Tryz.call42 (zV _) ?_;simp only[go_sem,mr,mQ,pM];intro j0 la;have eW:kX≠j0:=fun e=>by rw[←e,mr]at la;cases la
        exact⟨fun b ae=>(by subst ae;rw[aW,if_neg eW]),fun b ae=>(by subst ae;rw[aW,aW,if_neg eW,if_neg eW]),pJ j0 _ la ⟨rfl,rfl,rfl,rfl,rfl,rfl,rfl,rfl,rfl,rfl⟩⟩
       intro j0 la;have eW:kX≠j0:=fun e=>by rw[←e,mr]at la;cases la
       refine⟨fun b ae=>(by subst ae;rw[aW,if_neg eW]), ?_⟩;refine a1 Tryz.call42 (zV _) ?_;simp only[go_sem,mr,mQ,pM];exact⟨fun b ae=>(by subst ae;rw[aW,aW,if_neg eW,if_neg eW]),pJ j0 _ la ⟨rfl,rfl,rfl,rfl,rfl,rfl,rfl,rfl,rfl,rfl⟩⟩
      intro j0 la;have eW:kX≠j0:=fun e=>by rw[←e,mr]at la;cases la
      refine⟨fun b ae=>(by subst ae;rw[aW,if_neg eW]), ?_⟩;refine a1 Tryz.call36 (tn _) ?_;simp only[go_sem,mr,mQ,pM];refine a1 Tryz.call42 (zV _) ?_;simp only[go_sem,mr,mQ,pM];exact⟨fun b ae=>(by subst ae;rw[aW,aW,if_neg eW,if_neg eW]),pJ j0 _ la ⟨rfl,rfl,rfl,rfl,rfl,rfl,rfl,rfl,rfl,rfl⟩⟩
     rintro j0 env' la ⟨h_,e8,B',Ca,OR,OU,OV,OW,OX,OY⟩;apply I;refine j.pk (env':=[(4, .ptr b4 1 0 0),(8, .ptr b8 1 0 0),(11, .bX (.func 32) [] [.ptr b8 1 0 0, .ptr b4 1 0 0]),(12, .own ir 2 made.length),(15, .ptr kX 6 0 0),(19, .ptr j0 4 0 0),(20,d_ qg),(49, .ai (f_.map a_)),(50, .v (.int .i64 (f_.length:Int))),(51, .v (.int .i64 (i:Int)))]) ?_ (fun U=> ?_);rotate_left
     ·simp only[eget];repeat' split
      all_goals first
       |(rename_i h;subst h;first|(rw[h_];exact ca.refl _)|(rw[e8];exact ca.refl _)|(rw[B'];exact ca.refl _)|(rw[Ca];exact ca.refl _)|(rw[OR];exact ca.refl _)|(rw[OU];exact ca.refl _)|(rw[OV];exact ca.refl _)|(rw[OW];exact ca.refl _)|(rw[OX];exact ca.refl _)|(rw[OY];exact ca.refl _))
       |exact ca.any _
     rw[←oj]at la mr⊢;obtain⟨fC,RU⟩:=b7.push (x:= .arr 4 [cU.d]) la;have IP:=(b7.jP la).1;refine j.le (cn.refl _) RU ?_;have Ct:=fC.keep (bE j0 (.arr 4 [cU.d]) ((kX, .arr 6 [E.d])::(kW, .arr 1 [a_ n])::gT b3 b4 b8 mb m g l));have RM:∀{b:Nat} {o:aE},av b ((kX, .arr 6 [E.d])::(kW, .arr 1 [a_ n])::gT b3 b4 b8 mb m g l)=some o→av b ((j0, .arr 4 [cU.d])::(kX, .arr 6 [E.d])::(kW, .arr 1 [a_ n])::gT b3 b4 b8 mb m g l)=some o:=fun{b o} h=>by
      rw[aW,if_neg (fun e=>by rw[e,IP]at h;cases h)];exact h
     have H0:=fC.keep (RM (bE kX (.arr 6 [E.d]) ((kW, .arr 1 [a_ n])::gT b3 b4 b8 mb m g l)));have Io:D.agg (List.take 6 E.d.cells)=E.d:=rfl;have Ip:E.d.cells.length=6:=rfl;have IA:D.agg (List.take 4 cU.d.cells)=cU.d:=rfl;refine j.J (j.J ?_);rcases(show(dm E.cmd (E.ins++E.impl) F=none∧qg=13)∨(dm E.cmd (E.ins++E.impl) F=some cU∧qg=0∧((cU.dep.toList==E.dep.toList)&&gU E.outs cU.outs)=false)∨(dm E.cmd (E.ins++E.impl) F=some cU∧qg=0∧((cU.dep.toList==E.dep.toList)&&gU E.outs cU.outs)=true)from(by
      rcases dg with h|⟨aa,ah⟩
      ·exact .inl h
      cases aJ:((cU.dep.toList==E.dep.toList)&&gU E.outs cU.outs)with
      |false=>exact .inr (.inl ⟨aa,ah,rfl⟩)
      |true=>exact .inr (.inr ⟨aa,ah,rfl⟩)))with⟨ie,rfl⟩|⟨ie,rfl,mG⟩|⟨ie,rfl,mG⟩
     ·have tt:lE g l n made= .inl 13:=by unfold lE;rw[xk,jo,u9,ie];rfl
      have he:jE g l f_ []= .inl 13:=by rw[←ch,jE,tt]
      refine j.rg [4,8,11,12,15,19,20,49,50,51] fun K I=> ?_;simp only[go_sem,d_];apply I;refine j.bZ rfl (j.J (j.rg [] fun K I=> ?_));simp only[go_sem];apply I;refine j.ret ar Tryz.func12 (by simp[go_sem]) ?_;simp only[go_sem];rw[he];rfl
     ·have tt:lE g l n made= .inl 13:=by unfold lE;rw[xk,jo,u9,ie];simp only[mG];rfl
      have he:jE g l f_ []= .inl 13:=by rw[←ch,jE,tt]
      have Es:=B7 zE.cmd ie;refine j.rg [4,8,11,12,15,19,20,49,50,51] fun K I=> ?_;simp only[go_sem,d_,H0,Ct,Io,Ip,IA,mQ];refine a1 Tryz.call28 (HM E cU _ (by have:=oN.outs;omega) (by omega)) ?_;simp only[go_sem,mG];apply I;refine j.bZ rfl (j.J (j.rg [] fun K I=> ?_));simp only[go_sem];apply I;refine j.ret ar Tryz.func12 (by simp[go_sem]) ?_;simp only[go_sem];rw[he];rfl
     have tt:lE g l n made= .inr (made++cU.outs):=by unfold lE;rw[xk,jo,u9,ie];simp only[mG];rfl
     rw[jE,tt]at ch;have Es:=B7 zE.cmd ie;refine j.rg [4,8,11,12,15,19,20,49,50,51] fun K I=> ?_;simp only[go_sem,d_,H0,Ct,Io,Ip,IA,mQ];refine a1 Tryz.call28 (HM E cU _ (by have:=oN.outs;omega) (by omega)) ?_;simp only[go_sem,mG];apply I;refine j.bJ rfl (j.aN ?_);have Tg:cU.d.cells.headD .any= .ai (cU.outs.map ay.d):=rfl;have aH:=fC.bL;have aw:=fC.cB;have cv:List.take made.length (made.map ay.d)=made.map ay.d:=List.take_of_length_le (by simp);refine j.rg [4,8,11,12,19,49,50,51] fun K I=> ?_;simp only[go_sem,Ct,mQ,Tg,aH,aw,cv];refine⟨⟨by simp,AR cU.outs,by simp only[List.length_map];omega,by simp only[List.length_map];omega⟩,fun ob aO ax=> ?_⟩;apply I;have fY:made.map ay.d++cU.outs.map ay.d=(made++cU.outs).map ay.d:=(List.map_append ..).symm;rw[fY]at aO⊢;have Ru:aV ob 2 ((made++cU.outs).map ay.d) (gT b3 b4 b8 mb m g l):=⟨fun c ag=>by
      have aZ:∀{b c:Nat} {x:aE} {τ:al},av b ((c,x)::τ)=none→b≠c∧av b τ=none:=fun{b c x τ} h=>by
       rw[aW]at h;split at h
       ·cases h
       rename_i e;exact⟨e,h⟩
      exact(aZ (aZ (aZ (ax c ag)).2).2).2,aO⟩
     refine j.le (cn.refl _) (σ':=cellsOf ob 2 ((made++cU.outs).map ay.d)++gT b3 b4 b8 mb m g l) (aQ.append (aQ.append_left _ _) ?_) ?_
     ·have Rt:aV ob 2 ((made++cU.outs).map ay.d) ((j0, .arr 4 [cU.d])::(kX, .arr 6 [E.d])::(kW, .arr 1 [a_ n])::gT b3 b4 b8 mb m g l):=⟨ax,aO⟩;exact(gP (gP (gP (aQ.refl _) IK) IM) IP).trans Rt.sle
     have oG:((made++cU.outs).map ay.d).length=(made++cU.outs).length:=List.length_map ..;rw[oG];refine j.ba (j.rg [4,8,11,12,49,50,51] fun K I=> ?_);simp only[go_sem];apply I;refine j.rebase [4,8,11,12,49,50,51] ?_;simp only[go_sem];rw[bH i (by omega)];refine aB (i+1) _ _ ⟨ob,made++cU.outs,⟨by omega,ch, ?_, ?_,Ru⟩,rfl,rfl⟩ (by omega)
     ·have aa:=Py (Bool.and_eq_true _ _▸mG).2;have ah:=oN.outs;rw[List.length_append];omega
     intro f gF;rcases List.mem_append.1 gF with h|h
     ·exact fX f h
     exact Hd ie f h
    have tt:lE g l n made= .inl 6:=by unfold lE;rw[xk,if_pos jo]
    have he:jE g l f_ []= .inl 6:=by rw[←ch,jE,tt]
    refine j.fw [4,8,11,12,14,15,49,50,51] [64] fun K I=> ?_;simp only[go_sem,mr];refine⟨by decide, ?_⟩;refine a1 Tryz.call36 (ic _) ?_;simp only[go_sem];refine a1 Tryz.call34 (rz E.bG _ [.ptr b8 1 0 0, .ptr b4 1 0 0] (lY g l) _ (by omega) (zb g mb b8 b4 l _ _ zx zo Cu (by omega) pz)) ?_;simp only[go_sem,jo];apply I;refine j.bZ rfl (j.J (j.rg [] fun K I=> ?_));simp only[go_sem];apply I;refine j.ret ar Tryz.func12 (by simp[go_sem]) ?_;simp only[go_sem];rw[he];rfl
   have cC:i=f_.length:=by
    have:=CJ;simp at this;omega
   subst cC;rw[List.drop_length,jE]at ch;refine j.exit rfl (j.J (j.rg [12] fun K I=> ?_));simp only[go_sem];apply I;refine j.ret ar Tryz.func12 (by simp[go_sem]) ?_;simp only[go_sem];rw[←ch];exact⟨ir,⟨fun c ag=>rfl,aT.zero⟩,rfl,aQ.append_left _ _⟩
  have he:nc g l aD= .inl 6:=by unfold nc;rw[hw];simp only[Bool.false_eq_true,if_false,aP,Ag,if_true]
  refine j.rg [2,4,8,10,11] fun K I=> ?_;simp only[go_sem];refine a1 Tryz.call34 (rz (kr g aD) _ [.ptr b8 1 0 0, .ptr b4 1 0 0] (lY g l) _ (by omega) (zb g mb b8 b4 l _ _ s5 g8 g4 (by omega) pz)) ?_;simp only[go_sem,Ag];apply I;refine j.bZ rfl (j.J (j.rg [] fun K I=> ?_));simp only[go_sem];apply I;refine j.ret ar Tryz.func12 (by simp[go_sem]) ?_;simp only[go_sem];rw[he];rfl
 have he:nc g l aD= .inl 5:=by unfold nc;rw[if_pos hw]
 refine j.rg [2,4,8] fun K I=> ?_;simp only[go_sem,g8,vq,vp];refine a1 Tryz.call25 (Nj g pG mb _ s5 (MO pG fun e he=>(cG.sW e (by rw[←jl];exact he)).bG)) ?_;simp only[go_sem,hw];apply I;refine j.bZ rfl (j.J (j.rg [] fun K I=> ?_));simp only[go_sem];apply I;refine j.ret ar Tryz.func12 (by simp[go_sem]) ?_;simp only[go_sem];rw[he];rfl
end Go.Ab.S16
namespace Go.Ab.S16
open Go Go.Proofs Go.RowKit
theorem VU:((⟨#[112,117,116]⟩:ByteArray).toList==(⟨#[112,117,116]⟩:ByteArray).toList)=true:=by rw[cr];rfl
theorem VM:((⟨#[99,97,116]⟩:ByteArray).toList==(⟨#[112,117,116]⟩:ByteArray).toList)=false:=by rw[cr,cr];rfl
theorem VL:((⟨#[99,97,116]⟩:ByteArray).toList==(⟨#[99,97,116]⟩:ByteArray).toList)=true:=by rw[cr];rfl
theorem LV:((⟨#[99,97,116]⟩:ByteArray).toList==(⟨#[114,101,118]⟩:ByteArray).toList)=false:=by rw[cr,cr];rfl
theorem LW:((⟨#[99,97,116]⟩:ByteArray).toList==(⟨#[115,117,109]⟩:ByteArray).toList)=false:=by rw[cr,cr];rfl
theorem LU:((⟨#[99,97,116]⟩:ByteArray).toList==(⟨#[105,110,99]⟩:ByteArray).toList)=false:=by rw[cr,cr];rfl
theorem VW:((⟨#[114,101,118]⟩:ByteArray).toList==(⟨#[112,117,116]⟩:ByteArray).toList)=false:=by rw[cr,cr];rfl
theorem VV:((⟨#[114,101,118]⟩:ByteArray).toList==(⟨#[99,97,116]⟩:ByteArray).toList)=false:=by rw[cr,cr];rfl
theorem A4:((⟨#[114,101,118]⟩:ByteArray).toList==(⟨#[114,101,118]⟩:ByteArray).toList)=true:=by rw[cr];rfl
theorem LY:((⟨#[114,101,118]⟩:ByteArray).toList==(⟨#[115,117,109]⟩:ByteArray).toList)=false:=by rw[cr,cr];rfl
theorem LX:((⟨#[114,101,118]⟩:ByteArray).toList==(⟨#[105,110,99]⟩:ByteArray).toList)=false:=by rw[cr,cr];rfl
theorem VY:((⟨#[115,117,109]⟩:ByteArray).toList==(⟨#[112,117,116]⟩:ByteArray).toList)=false:=by rw[cr,cr];rfl
theorem VX:((⟨#[115,117,109]⟩:ByteArray).toList==(⟨#[99,97,116]⟩:ByteArray).toList)=false:=by rw[cr,cr];rfl
theorem A5:((⟨#[115,117,109]⟩:ByteArray).toList==(⟨#[114,101,118]⟩:ByteArray).toList)=false:=by rw[cr,cr];rfl
theorem A6:((⟨#[115,117,109]⟩:ByteArray).toList==(⟨#[115,117,109]⟩:ByteArray).toList)=true:=by rw[cr];rfl
theorem LZ:((⟨#[115,117,109]⟩:ByteArray).toList==(⟨#[105,110,99]⟩:ByteArray).toList)=false:=by rw[cr,cr];rfl
theorem VT:((⟨#[105,110,99]⟩:ByteArray).toList==(⟨#[112,117,116]⟩:ByteArray).toList)=false:=by rw[cr,cr];rfl
theorem VS:((⟨#[105,110,99]⟩:ByteArray).toList==(⟨#[99,97,116]⟩:ByteArray).toList)=false:=by rw[cr,cr];rfl
theorem A2:((⟨#[105,110,99]⟩:ByteArray).toList==(⟨#[114,101,118]⟩:ByteArray).toList)=false:=by rw[cr,cr];rfl
theorem A3:((⟨#[105,110,99]⟩:ByteArray).toList==(⟨#[115,117,109]⟩:ByteArray).toList)=false:=by rw[cr,cr];rfl
theorem A1:((⟨#[105,110,99]⟩:ByteArray).toList==(⟨#[105,110,99]⟩:ByteArray).toList)=true:=by rw[cr];rfl
theorem VP:((⟨#[102,97,105,108]⟩:ByteArray).toList==(⟨#[112,117,116]⟩:ByteArray).toList)=false:=by rw[cr,cr];rfl
theorem VN:((⟨#[102,97,105,108]⟩:ByteArray).toList==(⟨#[99,97,116]⟩:ByteArray).toList)=false:=by rw[cr,cr];rfl
theorem VQ:((⟨#[102,97,105,108]⟩:ByteArray).toList==(⟨#[114,101,118]⟩:ByteArray).toList)=false:=by rw[cr,cr];rfl
theorem VR:((⟨#[102,97,105,108]⟩:ByteArray).toList==(⟨#[115,117,109]⟩:ByteArray).toList)=false:=by rw[cr,cr];rfl
theorem VO:((⟨#[102,97,105,108]⟩:ByteArray).toList==(⟨#[105,110,99]⟩:ByteArray).toList)=false:=by rw[cr,cr];rfl
theorem Ys {v:ByteArray} (h:hn (a' v)=true):v=(⟨#[112,117,116]⟩:ByteArray)∨v=(⟨#[99,97,116]⟩:ByteArray)∨v=(⟨#[114,101,118]⟩:ByteArray)∨v=(⟨#[115,117,109]⟩:ByteArray)∨v=(⟨#[105,110,99]⟩:ByteArray)∨v=(⟨#[102,97,105,108]⟩:ByteArray):=by
 have key:∀{l:List UInt8},a' v=l→v=aK l:=fun{l} h=>by rw[←h,gr]
 unfold hn at h;rw[List.contains_eq_mem,decide_eq_true_eq]at h;simp only[List.mem_cons,List.not_mem_nil,or_false]at h;rcases h with h|h|h|h|h|h
 ·exact .inr (.inl (key h))
 ·exact .inr (.inr (.inl (key h)))
 ·exact .inr (.inr (.inr (.inl (key h))))
 ·exact .inl (key h)
 ·exact .inr (.inr (.inr (.inr (.inl (key h)))))
 exact .inr (.inr (.inr (.inr (.inr (key h)))))
def nM (args decl:List ByteArray) (files:List ay) (verb:List UInt8):Option (List UInt8×List ByteArray):=
 if verb=[112,117,116]then some (nJ args,[])
 else if verb=[99,97,116]then(ff decl files args []).map fun b=>(b,[])
 else if verb=[114,101,118]then if args.length=1 then(ff decl files args []).map fun b=>(b.reverse,[])else none
 else if verb=[115,117,109]then if args.length=0 then none else(ff decl files args []).map fun b=>(o9 b,[])
 else if verb=[105,110,99]then if args.length=1 then(ff decl files args []).bind fun b=>(f' files 11 b ⟨[],[],0⟩).map fun s=>(s.out,s.found)else none
 else none
def p5:Option (List UInt8×List ByteArray)→D
 |none=> .bd [.v (.slice none 0 0), .v (.slice none 0 0), .v (.bool false)]
 |some x=> .bd [.ai (x.1.map bD), .ai (x.2.map ab), .v (.bool true)]
def Ic (args:List ByteArray) (v:ByteArray):Prop:=v=(⟨#[99,97,116]⟩:ByteArray)∨(v=(⟨#[114,101,118]⟩:ByteArray)∧args.length=1)∨(v=(⟨#[115,117,109]⟩:ByteArray)∧args.length≠0)∨(v=(⟨#[105,110,99]⟩:ByteArray)∧args.length=1)
theorem TI (xs:List (List UInt8)) (x:List UInt8):Lib.join (xs++[x]) [32]=if xs=[]then x else Lib.join xs [32]++[32]++x:=by
 cases xs with
 |nil=>exact Lib.join_one x [32]
 |cons y r=>
  rw[if_neg (by simp),List.cons_append,Lib.join_cons,Lib.join_cons];unfold Lib.joinTail;rw[List.map_append,List.flatten_append];simp
def lg (args:List ByteArray) (i:Nat):List UInt8:=Lib.join ((args.take i).map (·.data.toList)) [32]
theorem Ks (args:List ByteArray) (i:Nat) (h:i<args.length):lg args (i+1)=(if i=0 then []else lg args i++[32])++args[i].data.toList:=by
 unfold lg;rw[List.take_succ_eq_append_getElem h,List.map_append,List.map_cons,List.map_nil,TI];cases i with
 |zero=>rfl
 |succ i=>
  rw[if_neg (fun e=>by
   have:=congrArg List.length e;rw[List.length_map,List.length_take,List.length_nil]at this;omega),if_neg (by omega)]
theorem EE (args:List ByteArray) (af:∀a∈args,a.size<2^20):∀i,i≤args.length→(lg args i).length≤i*2^21
 |0,_=>by unfold lg;rw[List.take_zero];simp[Lib.join,List.intercalate]
 |i+1,h=>by
  have aB:=EE args af i (by omega);have aa:=af args[i] (List.getElem_mem _);have ah:args[i].data.toList.length=args[i].size:=by simp
  rw[Ks args i (by omega),List.length_append,ah];split
  ·simp;omega
  rw[List.length_append,List.length_singleton];omega
theorem FK (bz bM:Operand) (a:List UInt8) (b:ByteArray) (h:a.length+b.size<2^60):cF Tryz.prog .add 9 bz bM (.v (.string (aK a))) (.v (.string b))= .val True (.v (.string (aK (a++b.data.toList)))):=by
 have:=wc bz bM a b.data.toList (by
  have:b.data.toList.length=b.size:=by simp
  omega)
 exact this
theorem Me {args decl:List ByteArray} {files:List ay} {v:ByteArray} (aq:Ic args v) (h:ff decl files args []=none):nM args decl files (a' v)=none:=by
 rcases aq with rfl|⟨rfl,bb⟩|⟨rfl,bb⟩|⟨rfl,bb⟩
 ·show(ff decl files args []).map _=none
  rw[h];rfl
 ·show(if args.length=1 then(ff decl files args []).map _ else none)=none
  rw[if_pos bb,h];rfl
 ·show(if args.length=0 then none else(ff decl files args []).map _)=none
  rw[if_neg bb,h];rfl
 show(if args.length=1 then(ff decl files args []).bind _ else none)=none
 rw[if_pos bb,h];rfl
theorem LF {P:Program} {N:cP} {C:Ctx P N} {todo:List Item} {a6 fo:Option Nat} {xs ys:List D} {R:al} {v:Value} (aq:aV a6 1 xs (cellsOf fo 1 ys++R)) (ax:aV fo 1 ys R) (aF:∀y∈ys,∀c sz zs,D.b' c sz zs y=y) (h:j C todo [(8, .ai xs),(9, .ai ys),(10, .v v)] []):
  j C todo [(8, .own a6 1 xs.length),(9, .own fo 1 ys.length),(10, .v v)] (cellsOf a6 1 xs++(cellsOf fo 1 ys++R)):=by
 refine j.le (cn.refl _) ((aQ.append (aQ.append_left _ _) ((aQ.append (aQ.append_left _ _) (aQ.nil _)).trans aq.sle)):aQ (cellsOf a6 1 xs++(cellsOf fo 1 ys++[])) _) ?_;have cW:aV a6 1 xs (cellsOf fo 1 ys++[]):=k3 aq fun b ae=>n0 ae fun _=>rfl;have gF:aV fo 1 ys []:=k3 ax fun b ae=>rfl;refine pW 8 rfl cW (fun c ag=> ?_) (fun c ag p aP aj=> ?_) ?_
 ·exact dO.cells (l4 (aQ.append_left _ _) (cW.fresh c ag)) (fun y Tj sz zs=>aF y Tj c sz zs) (dO.nil c)
 ·have aZ:fo≠some c:=l4 (aQ.append_left _ _) (cW.fresh c ag);simp only[List.mem_cons,List.not_mem_nil,or_false]at aP;rcases aP with rfl|rfl|rfl
  ·exact absurd rfl aj
  ·cases fo with
   |none=>rfl
   |some k=>
    show(if k=c∧_ then _ else _)=_
    rw[if_neg (fun e=>aZ (by rw[e.1]))]
  rfl
 refine j.rebase [8,9,10] ?_;simp only[go_sem];rw[←List.append_nil (cellsOf fo 1 ys)];refine pW 9 rfl gF (fun c ag=>dO.nil c) (fun c ag p aP aj=> ?_) ?_
 ·simp only[List.mem_cons,List.not_mem_nil,or_false]at aP;rcases aP with rfl|rfl|rfl<;>first|rfl|exact absurd rfl aj
 refine j.rebase [8,9,10] ?_;simp only[go_sem];exact h
set_option maxRecDepth 16000 in
set_option maxHeartbeats 8000000 in
theorem Wc (v:ByteArray) (args decl:List ByteArray) (files:List ay) (ak:hn (a' v)=true) (dE:files.length<2^31) (gG:∀f∈files,f.b.length<2^20) (aw:decl.length<2^40) (e_:args.length<2^16) (has:∀a∈args,a.size<2^20) (σ:al):
  AC Tryz.prog 87 [.v (.string v), .ai (args.map ab), .ai (decl.map ab), .ai (files.map ay.d)] σ (fun e σ'=>e= .ret (p5 (nM args decl files (a' v)))∧σ'=σ):=by
 refine AC.still ?_ σ;refine AC.forget (R:=fun e _=>e= .ret (p5 (nM args decl files (a' v)))) ?_ fun e σ' h=>⟨[],aQ.nil _,h,rfl⟩;have bn:(args.map ab).length=args.length:=List.length_map ..;have SK:=Ys ak;refine AC.bI Tryz.func87 Tryz.ntmps87 fun C ar=> ?_;refine j.J (j.rg [0,1,2,3] fun K I=> ?_);simp only[go_sem];apply I;refine j.J (j.J (j.rg [0,1,2,3] fun K I=> ?_));simp only[go_sem];apply I;refine j.join (fun env' σ'=>(v=(⟨#[99,97,116]⟩:ByteArray)∨v=(⟨#[114,101,118]⟩:ByteArray)∨v=(⟨#[115,117,109]⟩:ByteArray)∨v=(⟨#[105,110,99]⟩:ByteArray))∧env'=[(0, .v (.string v)),(1, .ai (args.map ab)),(2, .ai (decl.map ab)),(3, .ai (files.map ay.d))]∧σ'=[]) (fun k1 cb=> ?_) ?_
 ·refine j.aG (j.J ?_);rcases SK with rfl|rfl|rfl|rfl|rfl|rfl
  ·refine j.rg [0,1,2,3,20] fun K I=> ?_;simp only[go_sem,VU];apply I;refine j.bZ rfl (j.J (j.rg [1] fun K I=> ?_));simp only[go_sem];apply I;refine j.J (j.J (j.rg [1,11] fun K I=> ?_));simp only[go_sem];apply I;refine j.aG ?_;refine j.rebase [1,11,12] ?_;simp only[go_sem];refine j.while (fun(i:Nat) env' aS=>(i≤args.length)∧env'=[(1, .ai (args.map ab)),(11, .v (.string (aK (lg args i)))),(12, .v (.int .i64 (i:Int)))]∧aS=[]) (fun(i:Nat)=>args.length-i) 0 ⟨Nat.zero_le _,rfl,rfl⟩ ?_;rintro i env' aS ⟨hi,rfl,rfl⟩ aB;have cH:=aB;have kc:=EE args has i hi;have z':(lg args i).length≤2^37:=Nat.le_trans kc (Nat.le_trans (Nat.mul_le_mul_right _ (show i≤2^16 by omega)) (by decide));refine j.J (j.J (j.rg [1,11,12] fun K I=> ?_));simp only[go_sem,bn];apply I;refine j.cond rfl (fun s_=> ?_) (fun s_=> ?_)
   ·have aC:i<args.length:=by simpa using s_
    have aq:=b6 ab args i aC;rw[ab]at aq;have bf:(0:Int)≤(i:Int):=by omega
    have bp:(i:Int)<(args.length:Int):=by omega
    have py:=has args[i] (List.getElem_mem _);have ih:=Ks args i aC;refine j.aN (j.J (j.aG (j.J (j.J (j.rg [1,11,12] fun K I=> ?_)))));simp only[go_sem];apply I;refine j.join (fun env' σ'=>env'=[(1, .ai (args.map ab)),(11, .v (.string (aK (if i=0 then []else lg args i++[32])))),(12, .v (.int .i64 (i:Int)))]∧σ'=[]) (fun k1 cb=> ?_) ?_
    ·refine j.cond rfl (fun og=> ?_) (fun og=> ?_)
     ·have aZ:i≠0:=by
       have:(i:Int)>0:=by simpa using og
       omega
      have eN:=fun(bz bM:Operand)=>FK bz bM (lg args i) ⟨#[32]⟩ (by show _+1<_;omega);have bU:(⟨#[32]⟩:ByteArray).data.toList=[32]:=rfl;refine j.rg [1,11,12] fun K I=> ?_;simp only[go_sem,eN,bU];apply I;refine j.rebase [1,11,12] ?_;simp only[go_sem];exact cb _ _ ⟨by rw[if_neg aZ],rfl⟩
     have Tq:i=0:=by
      have:¬(i:Int)>0:=by simpa using og
      omega
     refine j.aN ?_;refine j.rebase [1,11,12] ?_;simp only[go_sem];exact cb _ _ ⟨by subst Tq;rfl,rfl⟩
    rintro env' σ' ⟨rfl,rfl⟩;have u':=fun(bz bM:Operand)=>FK bz bM (if i=0 then []else lg args i++[32]) args[i] (by split<;>simp<;>omega)
    rw[←ih]at u';refine j.rg [1,11,12] fun K I=> ?_;simp only[go_sem,bn,aq,bf,bp,u'];apply I;refine j.ba (j.rg [1,11,12] fun K I=> ?_);simp only[go_sem];apply I;refine j.rebase [1,11,12] ?_;simp only[go_sem];rw[bH i (by omega)];exact cH (i+1) _ _ ⟨by omega,rfl,rfl⟩ (by omega)
   have cC:i=args.length:=by
    have:¬i<args.length:=by simpa using s_
    omega
   have Jt:lg args i++[10]=nJ args:=by rw[cC];unfold lg nJ;rw[List.take_length]
   refine j.exit rfl (j.J ?_);have eN:=fun(bz bM:Operand)=>FK bz bM (lg args i) ⟨#[10]⟩ (by show _+1<_;omega);rw[show lg args i++(⟨#[10]⟩:ByteArray).data.toList=nJ args from Jt]at eN;refine j.fw [11] [41] fun K I=> ?_;simp only[go_sem,eN];have kc:=EE args has i hi;have gn:(nJ args).length≤2^37+1:=by
    rw[←Jt,List.length_append,List.length_singleton];have:(lg args i).length≤2^37:=Nat.le_trans kc (Nat.le_trans (Nat.mul_le_mul_right _ (show i≤2^16 by omega)) (by decide));omega
   refine⟨⟨by rw[gu];omega,fun b=>by rw[gu,List.length_map];rfl⟩, ?_⟩
   apply I;refine j.pT 9 rfl ?_;simp only[go_sem];refine j.ret ar Tryz.func87 (by simp[go_sem]) ?_;simp only[go_sem];rfl
  ·refine j.rg [0,1,2,3,20] fun K I=> ?_;simp only[go_sem,VM];apply I;refine j.bJ rfl (j.J (j.J (j.rg [0,1,2,3,20] fun K I=> ?_)));simp only[go_sem,VL];apply I;refine j.bZ rfl (j.aN (j.bZ rfl (j.aN (j.ba ?_))));refine j.rebase [0,1,2,3] ?_;simp only[go_sem];exact cb _ _ ⟨.inl rfl,rfl,rfl⟩
  ·refine j.rg [0,1,2,3,20] fun K I=> ?_;simp only[go_sem,VW];apply I;refine j.bJ rfl (j.J (j.J (j.rg [0,1,2,3,20] fun K I=> ?_)));simp only[go_sem,VV];apply I;refine j.bJ rfl (j.J (j.rg [0,1,2,3,20] fun K I=> ?_));simp only[go_sem,A4];apply I;refine j.bZ rfl (j.aN (j.bZ rfl (j.aN (j.ba ?_))));refine j.rebase [0,1,2,3] ?_;simp only[go_sem];exact cb _ _ ⟨.inr (.inl rfl),rfl,rfl⟩
  ·refine j.rg [0,1,2,3,20] fun K I=> ?_;simp only[go_sem,VY];apply I;refine j.bJ rfl (j.J (j.J (j.rg [0,1,2,3,20] fun K I=> ?_)));simp only[go_sem,VX];apply I;refine j.bJ rfl (j.J (j.rg [0,1,2,3,20] fun K I=> ?_));simp only[go_sem,A5];apply I;refine j.bJ rfl (j.J (j.rg [0,1,2,3,20] fun K I=> ?_));simp only[go_sem,A6];apply I;refine j.bZ rfl (j.aN (j.bZ rfl (j.aN (j.ba ?_))));refine j.rebase [0,1,2,3] ?_;simp only[go_sem];exact cb _ _ ⟨.inr (.inr (.inl rfl)),rfl,rfl⟩
  ·refine j.rg [0,1,2,3,20] fun K I=> ?_;simp only[go_sem,VT];apply I;refine j.bJ rfl (j.J (j.J (j.rg [0,1,2,3,20] fun K I=> ?_)));simp only[go_sem,VS];apply I;refine j.bJ rfl (j.J (j.rg [0,1,2,3,20] fun K I=> ?_));simp only[go_sem,A2];apply I;refine j.bJ rfl (j.J (j.rg [0,1,2,3,20] fun K I=> ?_));simp only[go_sem,A3];apply I;refine j.bJ rfl (j.rg [0,1,2,3,20] fun K I=> ?_);simp only[go_sem,A1];apply I;refine j.bZ rfl (j.aN (j.ba ?_));refine j.rebase [0,1,2,3] ?_;simp only[go_sem];exact cb _ _ ⟨.inr (.inr (.inr rfl)),rfl,rfl⟩
  refine j.rg [0,1,2,3,20] fun K I=> ?_;simp only[go_sem,VP];apply I;refine j.bJ rfl (j.J (j.J (j.rg [0,1,2,3,20] fun K I=> ?_)));simp only[go_sem,VN];apply I;refine j.bJ rfl (j.J (j.rg [0,1,2,3,20] fun K I=> ?_));simp only[go_sem,VQ];apply I;refine j.bJ rfl (j.J (j.rg [0,1,2,3,20] fun K I=> ?_));simp only[go_sem,VR];apply I;refine j.bJ rfl (j.rg [0,1,2,3,20] fun K I=> ?_);simp only[go_sem,VO];apply I;refine j.bJ rfl (j.J (j.rg [] fun K I=> ?_));simp only[go_sem];apply I;refine j.ret ar Tryz.func87 (by simp[go_sem]) ?_;simp only[go_sem];rfl
 rintro env' σ' ⟨qO,rfl,rfl⟩;refine j.J (j.J ?_);refine j.join (fun env' σ'=>∃ct:Bool,(ct=false→Ic args v)∧(ct=true→nM args decl files (a' v)=none)∧env'=[(0, .v (.string v)),(1, .ai (args.map ab)),(2, .ai (decl.map ab)),(3, .ai (files.map ay.d)),(66, .v (.bool ct))]∧σ'=[]) (fun k1 cb=> ?_) ?_
 ·have lH:(v=(⟨#[99,97,116]⟩:ByteArray))∨(v=(⟨#[114,101,118]⟩:ByteArray)∧args.length=1)∨(v=(⟨#[114,101,118]⟩:ByteArray)∧args.length≠1)∨(v=(⟨#[115,117,109]⟩:ByteArray)∧args.length=0)∨(v=(⟨#[115,117,109]⟩:ByteArray)∧args.length≠0)∨(v=(⟨#[105,110,99]⟩:ByteArray)∧args.length=1)∨(v=(⟨#[105,110,99]⟩:ByteArray)∧args.length≠1):=by
   by_cases aa:args.length=1
   ·rcases qO with h|h|h|h
    ·exact .inl h
    ·exact .inr (.inl ⟨h,aa⟩)
    ·exact .inr (.inr (.inr (.inr (.inl ⟨h,by omega⟩))))
    exact .inr (.inr (.inr (.inr (.inr (.inl ⟨h,aa⟩)))))
   by_cases bj:args.length=0
   ·rcases qO with h|h|h|h
    ·exact .inl h
    ·exact .inr (.inr (.inl ⟨h,aa⟩))
    ·exact .inr (.inr (.inr (.inl ⟨h,bj⟩)))
    exact .inr (.inr (.inr (.inr (.inr (.inr ⟨h,aa⟩)))))
   rcases qO with h|h|h|h
   ·exact .inl h
   ·exact .inr (.inr (.inl ⟨h,aa⟩))
   ·exact .inr (.inr (.inr (.inr (.inl ⟨h,bj⟩))))
   exact .inr (.inr (.inr (.inr (.inr (.inr ⟨h,aa⟩)))))
  have Hm:args.length=1→((args.length:Int) !=1)=false:=fun h=>by rw[h];rfl
  have Hn:args.length≠1→((args.length:Int) !=1)=true:=fun h=>by rw[bne_iff_ne];omega
  have OD:args.length=0→((args.length:Int)==0)=true:=fun h=>by rw[h];rfl
  have OE:args.length≠0→((args.length:Int)==0)=false:=fun h=>by rw[beq_eq_false_iff_ne];omega
  rcases lH with rfl|⟨rfl,bb⟩|⟨rfl,bb⟩|⟨rfl,bb⟩|⟨rfl,bb⟩|⟨rfl,bb⟩|⟨rfl,bb⟩
  ·refine j.rg [0,1,2,3] fun K I=> ?_;simp only[go_sem,LV,LU,LW];apply I;refine j.rebase [0,1,2,3,66] ?_;simp only[go_sem];exact cb _ _ ⟨false,fun _=> .inl rfl,fun h=>(by cases h),rfl,rfl⟩
  ·refine j.rg [0,1,2,3] fun K I=> ?_;simp only[go_sem,A4,LX,LY,bn,Hm bb];apply I;refine j.rebase [0,1,2,3,66] ?_;simp only[go_sem];exact cb _ _ ⟨false,fun _=> .inr (.inl ⟨rfl,bb⟩),fun h=>(by cases h),rfl,rfl⟩
  ·refine j.rg [0,1,2,3] fun K I=> ?_;simp only[go_sem,A4,LX,LY,bn,Hn bb];apply I;refine j.rebase [0,1,2,3,66] ?_;simp only[go_sem];exact cb _ _ ⟨true,fun h=>(by cases h),fun _=>if_neg bb,rfl,rfl⟩
  ·refine j.rg [0,1,2,3] fun K I=> ?_;simp only[go_sem,A5,LZ,A6,bn,OD bb];apply I;refine j.rebase [0,1,2,3,66] ?_;simp only[go_sem];exact cb _ _ ⟨true,fun h=>(by cases h),fun _=>if_pos bb,rfl,rfl⟩
  ·refine j.rg [0,1,2,3] fun K I=> ?_;simp only[go_sem,A5,LZ,A6,bn,OE bb];apply I;refine j.rebase [0,1,2,3,66] ?_;simp only[go_sem];exact cb _ _ ⟨false,fun _=> .inr (.inr (.inl ⟨rfl,bb⟩)),fun h=>(by cases h),rfl,rfl⟩
  ·refine j.rg [0,1,2,3] fun K I=> ?_;simp only[go_sem,A2,A1,A3,bn,Hm bb];apply I;refine j.rebase [0,1,2,3,66] ?_;simp only[go_sem];exact cb _ _ ⟨false,fun _=> .inr (.inr (.inr ⟨rfl,bb⟩)),fun h=>(by cases h),rfl,rfl⟩
  refine j.rg [0,1,2,3] fun K I=> ?_;simp only[go_sem,A2,A1,A3,bn,Hn bb];apply I;refine j.rebase [0,1,2,3,66] ?_;simp only[go_sem];exact cb _ _ ⟨true,fun h=>(by cases h),fun _=>if_neg bb,rfl,rfl⟩
 rintro env' σ' ⟨ct,Dv,QU,rfl,rfl⟩;refine j.cond rfl (fun CO=> ?_) (fun CO=> ?_)
 ·have CP:ct=true:=by simpa using CO
  refine j.J (j.rg [] fun K I=> ?_);simp only[go_sem];apply I;refine j.ret ar Tryz.func87 (by simp[go_sem]) ?_;simp only[go_sem];rw[QU CP];rfl
 have CP:ct=false:=by simpa using CO
 have eK:=Dv CP;refine j.aN (j.J (j.rg [0,1,2,3] fun K I=> ?_));simp only[go_sem];apply I;refine j.J (j.J (j.rg [0,1,2,3,13] fun K I=> ?_));simp only[go_sem];apply I;refine j.aG (j.im 13 1 rfl ?_);refine j.rebase [0,1,2,3,13,14] ?_;simp only[go_sem];refine j.while (fun(i:Nat) env' aS=>∃(o:Option Nat) (out:List UInt8),(i≤args.length∧aV o 1 (out.map bD) []∧ff decl files (args.drop i) out=ff decl files args []∧out.length≤i*2^20)∧env'=[(0, .v (.string v)),(1, .ai (args.map ab)),(2, .ai (decl.map ab)),(3, .ai (files.map ay.d)),(13, .own o 1 out.length),(14, .v (.int .i64 (i:Int)))]∧aS=cellsOf o 1 (out.map bD)) (fun(i:Nat)=>args.length-i) 0 ⟨none,[],⟨Nat.zero_le _,aV.nil _ _,rfl,by simp⟩,rfl,rfl⟩ ?_;rintro i env' aS ⟨o,out,⟨hi,aT,cT,kf⟩,rfl,rfl⟩ aB;have eg:=aB;have lb:out.length≤2^36:=Nat.le_trans kf (Nat.le_trans (Nat.mul_le_mul_right _ (show i≤2^16 by omega)) (by decide));refine j.J (j.J (j.rg [0,1,2,3,13,14] fun K I=> ?_));simp only[go_sem,bn];apply I;refine j.cond rfl (fun CQ=> ?_) (fun CQ=> ?_)
 ·have aC:i<args.length:=by simpa using CQ
  have aq:=b6 ab args i aC;rw[ab]at aq;have bf:(0:Int)≤(i:Int):=by omega
  have bp:(i:Int)<(args.length:Int):=by omega
  rw[List.drop_eq_getElem_cons aC,ff]at cT;unfold h7 at cT;rw[yW args[i] decl]at cT;refine j.aN (j.J (j.aG (j.J ?_)));rcases(show findF files args[i]=none∨(∃aY,findF files args[i]=some aY∧S16.inB decl args[i]=false)∨(∃aY,findF files args[i]=some aY∧S16.inB decl args[i]=true)from by
   cases ax:findF files args[i]with
   |none=>exact .inl rfl
   |some aY=>
    cases d':S16.inB decl args[i]with
    |false=>exact .inr (.inl ⟨aY,rfl,rfl⟩)
    |true=>exact .inr (.inr ⟨aY,rfl,rfl⟩))with ax|⟨aY,ax,d'⟩|⟨aY,ax,d'⟩
  ·refine j.rg [0,1,2,3,13,14] fun K I=> ?_;simp only[go_sem,bn,aq,bf,bp];refine a1 Tryz.call84 (yx files args[i] _ (by omega)) ?_;simp only[go_sem,ax,findD];apply I;refine j.J (j.J (j.rg [0,1,2,3,13,14,15,16] fun K I=> ?_));simp only[go_sem,Bool.not_false];apply I;refine j.bZ rfl (j.J (j.rg [] fun K I=> ?_));simp only[go_sem];apply I;refine j.ret ar Tryz.func87 (by simp[go_sem]) ?_;simp only[go_sem];rw[ax]at cT;rw[Me eK cT.symm];rfl
  ·refine j.rg [0,1,2,3,13,14] fun K I=> ?_;simp only[go_sem,bn,aq,bf,bp];refine a1 Tryz.call84 (yx files args[i] _ (by omega)) ?_;simp only[go_sem,ax,findD];apply I;refine j.J (j.J ?_);have DE:(decl.any fun s=>s.toList==args[i].toList)=false:=d';refine j.rg [0,1,2,3,13,14,15,16] fun K I=> ?_;simp only[go_sem,bn,aq,bf,bp,Bool.not_true];refine a1 Tryz.call57 (pO decl args[i] _ aw) ?_;simp only[go_sem,DE];apply I;refine j.bZ rfl (j.J (j.rg [] fun K I=> ?_));simp only[go_sem];apply I;refine j.ret ar Tryz.func87 (by simp[go_sem]) ?_;simp only[go_sem];rw[ax,Option.bind_some,d',if_neg (by decide)]at cT;rw[Me eK cT.symm];rfl
  refine j.rg [0,1,2,3,13,14] fun K I=> ?_;simp only[go_sem,bn,aq,bf,bp];refine a1 Tryz.call84 (yx files args[i] _ (by omega)) ?_;simp only[go_sem,ax,findD];apply I;refine j.J (j.J ?_);have DE:(decl.any fun s=>s.toList==args[i].toList)=true:=d';refine j.rg [0,1,2,3,13,14,15,16] fun K I=> ?_;simp only[go_sem,bn,aq,bf,bp,Bool.not_true];refine a1 Tryz.call57 (pO decl args[i] _ aw) ?_;simp only[go_sem,DE];apply I;refine j.bJ rfl (j.aN ?_);have aH:=aT.bL;have ei:=aT.cB;rw[List.append_nil]at aH ei;have cv:List.take out.length (out.map bD)=out.map bD:=List.take_of_length_le (by simp);have kE:aY.length<2^20:=by
   unfold findF at ax;cases ig:files.find? (fun f=>f.name.toList==args[i].toList)with
   |none=>rw[ig]at ax;cases ax
   |some f=>rw[ig]at ax;cases ax;exact gG f (List.mem_of_find?_eq_some ig)
  rw[ax,Option.bind_some,d',if_pos rfl,Option.bind_some]at cT;refine j.rg [0,1,2,3,13,14,15] fun K I=> ?_;simp only[go_sem,aH,ei,cv];refine⟨⟨by simp,fun y aF=>nG aY y aF,by simp only[List.length_map];omega,by simp only[List.length_map];omega⟩,fun ob aO qx=> ?_⟩;simp only[←List.map_append]at aO⊢;have lR:((out++aY).map bD).length=(out++aY).length:=List.length_map ..;simp only[lR];apply I;refine j.ba (j.rg [0,1,2,3,13,14] fun K I=> ?_);simp only[go_sem];apply I;refine j.rebase [0,1,2,3,13,14] ?_;simp only[go_sem];rw[bH i (by omega)];exact eg (i+1) _ _ ⟨ob,out++aY,⟨by omega,⟨qx,aO⟩,cT,by simp;omega⟩,rfl,rfl⟩ (by omega)
 have cC:i=args.length:=by
  have:¬i<args.length:=by simpa using CQ
  omega
 have b0:ff decl files args []=some out:=by rw[←cT,cC,List.drop_length];rfl
 refine j.exit rfl (j.J (j.J ?_));refine j.rebase [0,3,13] ?_;simp only[go_sem];rw[←List.append_nil (cellsOf o 1 (out.map bD))];refine pW 13 (o:=o) (xs:=out.map bD) (by rw[List.length_map];rfl) aT (fun c ag=>dO.nil c) (fun c ag p aP aj=> ?_) ?_
 ·simp only[List.mem_cons,List.not_mem_nil,or_false]at aP;rcases aP with rfl|rfl|rfl<;>first|rfl|exact absurd rfl aj
 simp only[go_sem];have ew:(out.map bD).length=out.length:=List.length_map ..;refine j.rg [0,3,13] fun K I=> ?_;simp only[go_sem];apply I;refine j.aG (j.J ?_);rcases eK with rfl|⟨rfl,bb⟩|⟨rfl,bb⟩|⟨rfl,bb⟩
 ·refine j.rg [3,13,96] fun K I=> ?_;simp only[go_sem,LV];apply I;refine j.bJ rfl (j.J (j.rg [3,13,96] fun K I=> ?_));simp only[go_sem,LW];apply I;refine j.bJ rfl (j.J (j.rg [3,13,96] fun K I=> ?_));simp only[go_sem,LU];apply I;refine j.bJ rfl (j.aN (j.ba (j.J (j.rg [13] fun K I=> ?_))));simp only[go_sem];apply I;refine j.pT 9 rfl ?_;simp only[go_sem];refine j.ret ar Tryz.func87 (by simp[go_sem]) ?_;simp only[go_sem];show _=cf.ret (p5 ((ff decl files args []).map _))
  rw[b0];rfl
 ·refine j.rg [3,13,96] fun K I=> ?_;simp only[go_sem,A4];apply I;refine j.bZ rfl (j.J (j.rg [13] fun K I=> ?_));simp only[go_sem];apply I;refine j.J (j.J (j.rg [13,17] fun K I=> ?_));simp only[go_sem,ew];apply I;refine j.aG (j.im 17 1 rfl ?_);refine j.rebase [13,17,18] ?_;simp only[go_sem];refine j.while (fun(k:Nat) env' aS=>∃(q:Option Nat),(k≤out.length∧aV q 1 ((out.reverse.take k).map bD) [])∧env'=[(13, .ai (out.map bD)),(17, .own q 1 k),(18, .v (.int .i64 ((out.length:Int)-1-(k:Int))))]∧aS=cellsOf q 1 ((out.reverse.take k).map bD)) (fun(k:Nat)=>out.length-k) 0 ⟨none,⟨Nat.zero_le _,aV.nil _ _⟩,by rw[kt _ (by omega) (by omega)];simp,rfl⟩ ?_;rintro k env' aS ⟨q,⟨aj,iE⟩,rfl,rfl⟩ aB;have hl:=aB;refine j.J (j.J (j.rg [13,17,18] fun K I=> ?_));simp only[go_sem];apply I;refine j.cond rfl (fun CC=> ?_) (fun CC=> ?_)
  ·have eO:k<out.length:=by
    have:(out.length:Int)-1-(k:Int)≥0:=by simpa using CC
    omega
   have aR:(out.length:Int)-1-(k:Int)=((out.length-1-k:Nat):Int):=by omega
   have kc:out.length-1-k<out.length:=by omega
   have ch:=b6 bD out (out.length-1-k) kc;rw[bD]at ch;have dp:(0:Int)≤((out.length-1-k:Nat):Int):=by omega
   have dq:((out.length-1-k:Nat):Int)<(out.length:Int):=by omega
   have vw:=iE.bL;have vi:=iE.cB;rw[List.append_nil]at vw vi;have dW:((out.reverse.take k).map bD).length=k:=by rw[List.length_map,List.length_take,List.length_reverse];omega
   have tV:List.take k ((out.reverse.take k).map bD)=(out.reverse.take k).map bD:=List.take_of_length_le (by omega);refine j.aN (j.J (j.aG ?_));refine j.fw [13,17,18] [111] fun K I=> ?_;simp only[go_sem,ew,aR,ch,dp,dq,vw,vi,tV,dW];refine⟨by decide,⟨Nat.le_refl _,fun y aF=>by rw[aF];exact⟨rfl,rfl⟩,by omega,by omega⟩,fun ob aO ax=> ?_⟩;have xO:k<out.reverse.length:=by rw[List.length_reverse];exact eO
   have SE:out.reverse[k]=out[out.length-1-k]:=by rw[List.getElem_reverse]
   have bt:(out.reverse.take k).map bD++[D.v (Value.int IntKind.u8 (out[out.length-1-k].toNat:Int))]=(out.reverse.take (k+1)).map bD:=by
    rw[List.take_succ_eq_append_getElem xO,List.map_append,SE];rfl
   have iI:((out.reverse.take (k+1)).map bD).length=k+1:=by rw[List.length_map,List.length_take,List.length_reverse];omega
   rw[bt]at aO⊢;rw[iI];apply I;refine j.ba (j.rg [13,17,18] fun K I=> ?_);simp only[go_sem];apply I;refine j.rebase [13,17,18] ?_;simp only[go_sem];rw[show IntKind.i64.wrap (((out.length-1-k:Nat):Int)-1)=(out.length:Int)-1-((k+1:Nat):Int)from by rw[kt _ (by omega) (by omega)];omega];exact hl (k+1) _ _ ⟨ob,⟨by omega,⟨ax,aO⟩⟩,rfl,rfl⟩ (by omega)
  have gZ:k=out.length:=by
   have:¬(out.length:Int)-1-(k:Int)≥0:=by simpa using CC
   omega
  subst gZ;rw[show out.reverse.take out.length=out.reverse from List.take_of_length_le (by simp)]at iE⊢;have ju:(out.reverse.map bD).length=out.length:=by simp
  refine j.exit rfl (j.J (j.rg [17] fun K I=> ?_));simp only[go_sem];apply I;refine j.im 9 1 rfl ?_;refine j.rebase [8,9,10] ?_;simp only[go_sem];rw[show D.own q 1 out.length=D.own q 1 (out.reverse.map bD).length from by rw[ju],←List.append_nil (cellsOf q 1 (out.reverse.map bD))];refine LF (fo:=none) (ys:=[]) (R:=[]) iE (aV.nil _ _) (fun y aF=>by cases aF) ?_;refine j.ret ar Tryz.func87 (by simp[go_sem]) ?_;simp only[go_sem];show _=cf.ret (p5 (if args.length=1 then(ff decl files args []).map _ else none))
  rw[if_pos bb,b0];rfl
 ·refine j.rg [3,13,96] fun K I=> ?_;simp only[go_sem,A5];apply I;refine j.bJ rfl (j.J (j.rg [3,13,96] fun K I=> ?_));simp only[go_sem,A6];apply I;refine j.bZ rfl (j.J ?_);have eN:=fun(bz bM:Operand)=>wc bz bM (jj (fA out) 16) [10] (by rw[z6];decide)
  refine j.fw [13] [120] fun K I=> ?_;simp only[go_sem];refine a1 Tryz.call118 (Wa out _ (by omega)) ?_;simp only[go_sem];refine a1 Tryz.call117 (Wb (fA out) (vb out) _) ?_;simp only[go_sem,eN];refine⟨⟨by rw[List.size_toArray,List.length_append,z6];decide,fun b=>by rw[List.size_toArray,List.length_map]⟩, ?_⟩
  apply I;refine j.pT 9 rfl ?_;simp only[go_sem];refine j.ret ar Tryz.func87 (by simp[go_sem]) ?_;simp only[go_sem];show _=cf.ret (p5 (if args.length=0 then none else(ff decl files args []).map _))
  have aL:o9 out=jj (fA out) 16++[10]:=by
   unfold o9;rw[I9 15 (fA out) (Nat.lt_of_lt_of_eq (vb out) (by decide))]
  rw[if_neg bb,b0,←aL];rfl
 refine j.rg [3,13,96] fun K I=> ?_;simp only[go_sem,A2];apply I;refine j.bJ rfl (j.J (j.rg [3,13,96] fun K I=> ?_));simp only[go_sem,A3];apply I;refine j.bJ rfl (j.J (j.rg [3,13,96] fun K I=> ?_));simp only[go_sem,A1];apply I;refine j.bZ rfl (j.J (j.rg [3,13] fun K I=> ?_));simp only[go_sem];intro b2;apply I;refine j.J ?_;have SO:cZ.Ok ⟨[],[],0⟩:=⟨by simp,by simp,by simp,by simp⟩;have aP:=Mo files b2 dE (fun f ax=>Nat.lt_trans (gG f ax) (by decide)) 11 (Nat.le_refl _) none none out ⟨[],[],0⟩ [(b2,ho 0)] SO (by rw[bE];rfl) ⟨aV.nil _ _,aV.nil _ _⟩ (by omega)
 have tQ:cd none none ⟨[],[],0⟩ (sset b2 (ho 0) [(b2,ho 0)])=[(b2,aE.arr 1 [.v (.int .i64 0)])]:=by rw[gz];rfl
 rw[tQ]at aP;have lT:=AC.uL (args:=[.ai (files.map ay.d), .v (.slice none 0 0), .ai (out.map bD), .v (.int .i64 0), .v (.slice none 0 0), .ptr b2 1 0 0]) aP fun w S vs h=>by
  obtain⟨v1,l',rfl,aa,ah⟩:=h.cons_inv;obtain⟨v2,uE,rfl,aJ,bg⟩:=ah.cons_inv;obtain⟨v3,akq,rfl,cu,de⟩:=bg.cons_inv;obtain⟨v4,akr,rfl,lH,qi⟩:=de.cons_inv;obtain⟨v5,aks,rfl,eM,mv⟩:=qi.cons_inv;exact .cons aa (.cons (ca.mU 1 w S v2 aJ) (.cons cu (.cons lH (.cons (ca.mU 1 w S v5 eM) mv))))
 clear aP;rcases bW:f' files 11 out ⟨[],[],0⟩with _|cS;all_goals rw[bW]at lT
 ·refine j.rg [3,13,19] fun K I=> ?_;simp only[go_sem];refine⟨_,Tryz.call119,lT.mono ?_⟩;rintro e σ1 ⟨rfl,aj⟩;simp only[go_sem];apply I;refine j.ret ar Tryz.func87 (by simp[go_sem]) ?_;simp only[go_sem];show _=cf.ret (p5 (if args.length=1 then(ff decl files args []).bind _ else none))
  rw[if_pos bb,b0,Option.bind_some,bW];rfl
 refine j.rg [3,13,19] fun K I=> ?_;simp only[go_sem];refine⟨_,Tryz.call119,lT.mono ?_⟩;rintro e σ1 ⟨a6,fo,Dw,rfl,rfl⟩;simp only[go_sem];apply I;refine j.rebase [8,9,10] ?_;simp only[go_sem];have Dx:ek a6 fo cS (sset b2 (ho cS.many) [(b2,ho 0)]):=Dw.base fun b ae=>hp ae;rw[gz]at Dx;rw[show D.own a6 1 cS.out.length=D.own a6 1 (cS.out.map bD).length from by rw[List.length_map],show D.own fo 1 cS.found.length=D.own fo 1 (cS.found.map ab).length from by rw[List.length_map]];refine LF Dx.o Dx.f (fun y aF=> ?_) ?_
 ·obtain⟨n,_,rfl⟩:=List.mem_map.1 aF;exact fun c sz zs=>rfl
 refine j.ret ar Tryz.func87 (by simp[go_sem]) ?_;simp only[go_sem];show _=cf.ret (p5 (if args.length=1 then(ff decl files args []).bind _ else none))
 rw[if_pos bb,b0,Option.bind_some,bW];rfl
theorem Gy {decl:List ByteArray} {files:List ay}:∀(r:List ByteArray) (out o:List UInt8),ff decl files r out=some o→out.length≤o.length
 |[],out,o,h=>by cases h;exact Nat.le_refl _
 |n::r,out,o,h=>by
  rw[ff]at h;obtain⟨b,_,ae⟩:=Option.bind_eq_some_iff.1 h;have:=Gy r _ o ae;rw[List.length_append]at this;omega
def sC (x:List UInt8×List ByteArray):Bool:=decide (x.1.length≤65536)
theorem Gu {decl:List ByteArray} {files:List ay}:∀(r:List ByteArray) (out:List UInt8),((ff decl files r out).map fun b=>(b,([]:List ByteArray))).filter sC=((nZ decl files r out).map fun b=>(b,([]:List ByteArray))).filter sC
 |[],out=>rfl
 |n::r,out=>by
  rw[ff,nZ];cases h7 decl files n with
  |none=>rfl
  |some b=>
   rw[Option.bind_some,Option.bind_some];split
   ·exact Gu r _
   rename_i ae
   cases hu:ff decl files r (out++b)with
   |none=>rfl
   |some o=>
    have:=Gy r _ o hu;rw[List.length_append]at this;rw[Option.map_some,Option.map_none];have ax:sC (o,[])=false:=decide_eq_false (by show¬o.length≤65536;omega);rw[Option.filter_some,ax];rfl
theorem Ld (args decl:List ByteArray) (files:List ay) (h:args.length=1):ff decl files args []=lk decl files args:=by
 match args,h with
 |[n],_=>
  rw[ff];show _=h7 decl files n
  cases h7 decl files n with
  |none=>rfl
  |some b=>rfl
theorem Lg (args decl:List ByteArray) (files:List ay) (h:args.length≠1):lk decl files args=none:=by
 match args,h with
 |[],_=>rfl
 |[n],h=>exact absurd rfl h
 |_::_::_,_=>rfl
theorem Mf (args decl:List ByteArray) (files:List ay) (v:List UInt8):(nM args decl files v).filter sC=(q_ args decl files v).filter sC:=by
 unfold nM q_;by_cases aa:v=[112,117,116]
 ·rw[if_pos aa,if_neg (by rw[aa];decide),if_neg (by rw[aa];decide),if_neg (by rw[aa];decide),if_pos aa]
 rw[if_neg aa];by_cases ah:v=[99,97,116]
 ·rw[if_pos ah,if_pos ah];exact Gu args []
 rw[if_neg ah,if_neg ah];by_cases aJ:v=[114,101,118]
 ·rw[if_pos aJ,if_pos aJ];by_cases bb:args.length=1
  ·rw[if_pos bb,Ld args decl files bb,Option.map_map];rfl
  rw[if_neg bb,Lg args decl files bb];rfl
 rw[if_neg aJ,if_neg aJ];by_cases bg:v=[115,117,109]
 ·rw[if_pos bg,if_pos bg];unfold uB;by_cases bb:args.length=0
  ·rw[if_pos bb,if_neg (by omega)];rfl
  rw[if_neg bb,if_pos (by omega),Option.map_map];rfl
 rw[if_neg bg,if_neg bg,if_neg aa];by_cases cu:v=[105,110,99]
 ·rw[if_pos cu,if_pos cu];unfold sj;by_cases bb:args.length=1
  ·rw[if_pos bb,Ld args decl files bb];cases lk decl files args with
   |none=>rfl
   |some b=>rfl
  rw[if_neg bb,Lg args decl files bb];rfl
 rw[if_neg cu,if_neg cu]
theorem He {x:kU} {decl:List ByteArray} {files:List ay} (h:(nM x.args decl files (a' x.verb)).filter sC=none):lC x decl files=none:=by
 rw[Mf]at h;unfold lC;cases ao:q_ x.args decl files (a' x.verb)with
 |none=>rfl
 |some p=>
  obtain⟨b,f⟩:=p;rw[ao,Option.filter_some]at h;simp only;split at h
  ·cases h
  rename_i af
  rw[if_neg];intro hle;exact af (decide_eq_true hle)
theorem Oz {x:kU} {decl:List ByteArray} {files:List ay} {b:List UInt8} {f:List ByteArray} (h:nM x.args decl files (a' x.verb)=some (b,f)) (ae:b.length≤65536):q_ x.args decl files (a' x.verb)=some (b,f)∧lC x decl files=some ⟨x.outs.map fun n=>⟨n,b⟩,x.once,x.dep,if(!(x.dep.toList==(⟨#[]⟩:ByteArray).toList))=true then aK (ha (x.outs.getD 0 ⟨#[]⟩) f++[10])else⟨#[]⟩⟩:=by
 have aa:=Mf x.args decl files (a' x.verb);rw[h,Option.filter_some,if_pos (show sC (b,f)=true from decide_eq_true ae)]at aa;have ah:=(Option.filter_eq_some_iff.1 aa.symm).1;refine⟨ah, ?_⟩;unfold lC;rw[ah];exact if_pos ae
theorem Ve {ws outs:List ByteArray} {dep:ByteArray} (h:gx ws=some (outs,dep)):outs.length≤ws.length:=by
 have key:∀{ws outs:List ByteArray} {d dep:ByteArray},gf ws d=some (outs,dep)→outs=ws:=fun{ws outs d dep} h=>by
  unfold gf at h;split at h
  ·cases h;rfl
  cases h
 unfold gx at h;split at h
 ·split at h
  ·rw[key h,List.length_take];omega
  cases h
 rw[key h];exact Nat.le_refl _
theorem MD {once:Bool} {ws:List ByteArray} {x:kU} (h:l9 once ws=some x):(∀a∈x.args,a∈ws)∧x.args.length≤ws.length∧x.outs.length≤ws.length:=by
 unfold l9 at h;split at h
 ·split at h
  ·rename_i aH
   split at h
   ·cases h
    refine⟨fun a bb=>List.mem_of_mem_take (List.mem_of_mem_drop bb), ?_, ?_⟩
    ·show((ws.take _).drop 1).length≤_
     rw[List.length_drop,List.length_take];omega
    have:=Ve aH;rw[List.length_drop]at this;refine Nat.le_trans this (Nat.sub_le _ _)
   cases h
  cases h
 cases h
theorem Xz {l:List UInt8} {x:kU} (h:nS (aK l)=some x):(∀a∈x.args,a.size≤l.length)∧x.args.length≤l.length+1∧x.outs.length≤l.length+1:=by
 have hw:(e3 (aK l)).length≤l.length+1:=by
  rw[BF,List.length_map];exact yM l []
 unfold nS at h;split at h
 ·obtain⟨aa,ah,aJ⟩:=MD h;rw[List.length_drop]at ah aJ;exact⟨fun a bb=>Gd l a (List.mem_of_mem_drop (aa a bb)),by omega,by omega⟩
 obtain⟨aa,ah,aJ⟩:=MD h;exact⟨fun a bb=>Gd l a (aa a bb),by omega,by omega⟩
def L1:Option hO→D
 |none=> .bd [.agg [.v (.slice none 0 0), .v (.bool false), .v (.string ⟨#[]⟩), .v (.string ⟨#[]⟩)], .v (.bool false)]
 |some x=> .bd [x.d, .v (.bool true)]
theorem P1 {α:Type} (l:List α) (i:Nat) (d:α) (h:i<l.length):l.getD i d=l[i]:=by
 rw[List.getD_eq_getElem?_getD,List.getElem?_eq_getElem h];rfl
def nR (outs:List ByteArray) (b:List UInt8) (k:Nat):List D:=(outs.take k).map (fU b)++(outs.drop k).map gi
theorem WG (outs:List ByteArray) (b:List UInt8) (k:Nat):(nR outs b k).length=outs.length:=by
 unfold nR;rw[List.length_append,List.length_map,List.length_map,List.length_take,List.length_drop];omega
theorem WE {outs:List ByteArray} {b:List UInt8} {k:Nat} (h:k<outs.length):(nR outs b k).getD k .any=gi outs[k]:=by
 unfold nR;have aA:((outs.take k).map (fU b)).length=k:=by rw[List.length_map,List.length_take];omega
 rw[List.getD_eq_getElem?_getD,List.getElem?_append_right (by omega),aA,Nat.sub_self,List.drop_eq_getElem_cons h];rfl
theorem WH {outs:List ByteArray} {b:List UInt8} {k:Nat} (h:k<outs.length):(nR outs b k).set k (fU b outs[k])=nR outs b (k+1):=by
 unfold nR;have aA:((outs.take k).map (fU b)).length=k:=by rw[List.length_map,List.length_take];omega
 rw[List.set_append_right _ _ (by omega),aA,Nat.sub_self,List.drop_eq_getElem_cons h,List.map_cons,List.set_cons_zero,List.take_succ_eq_append_getElem h,List.map_append,List.append_assoc];rfl
theorem WD (outs:List ByteArray) (b:List UInt8):nR outs b outs.length=(outs.map fun n=>(⟨n,b⟩:ay)).map ay.d:=by
 unfold nR;rw[List.take_length,List.drop_length,List.map_map,List.map_nil,List.append_nil];rfl
set_option maxRecDepth 16000 in
set_option maxHeartbeats 4000000 in
theorem V8 (l:List UInt8) (decl:List ByteArray) (files:List ay) (aA:l.length<2^15) (dE:files.length<2^31) (gG:∀f∈files,f.b.length<2^20) (aw:decl.length<2^40) (σ:al):
  AC Tryz.prog 48 [.v (.string (aK l)), .ai (decl.map ab), .ai (files.map ay.d)] σ (fun e σ'=>e= .ret (L1 (dm (aK l) decl files))∧σ'=σ):=by
 refine AC.still ?_ σ;refine AC.forget (R:=fun e _=>e= .ret (L1 (dm (aK l) decl files))) ?_ fun e σ' h=>⟨[],aQ.nil _,h,rfl⟩;refine AC.bI Tryz.func48 Tryz.ntmps48 fun C ar=> ?_;have fD:=Wf l (by omega);refine j.J (j.rg [0,1,2] fun K I=> ?_);simp only[go_sem];intro dk;apply I;refine j.J ?_;have aP:=fD [(dk,aE.arr 4 [D.agg [.v (.slice none 0 0), .v (.bool false), .v (.string ⟨#[]⟩), .v (.string ⟨#[]⟩)]])];rcases af:nS (aK l)with _|x;all_goals rw[af]at aP
 ·refine j.rg [0,1,2,6] fun K I=> ?_;simp only[go_sem];refine a1 Tryz.call86 aP ?_;simp only[go_sem,FO];intro mg zR;apply I;have hC:dm (aK l) decl files=none:=by unfold dm;rw[FP,af];rfl
  refine j.le (cn.refl _) (gP (aQ.refl _) zR) ?_;refine j.J (j.J (j.rg [1,2,6,8,9,10] fun K I=> ?_));simp only[go_sem,Bool.not_false];apply I;refine j.bZ rfl (j.J (j.rg [6] fun K I=> ?_));simp only[go_sem];apply I;refine j.ret ar Tryz.func48 (by simp[go_sem]) ?_;simp only[go_sem];rw[hC];rfl
 refine j.rg [0,1,2,6] fun K I=> ?_;simp only[go_sem];refine⟨_,Tryz.call86,aP.mono ?_⟩;rintro e σ1 ⟨o,aT,rfl,rfl⟩;simp only[go_sem,p2];intro mg zR;apply I;have gq:∀{Y:aE},aQ [(dk,aE.arr 4 [D.agg [.v (.slice none 0 0), .v (.bool false), .v (.string ⟨#[]⟩), .v (.string ⟨#[]⟩)]])] ((mg,Y)::(cellsOf o 2 (x.outs.map gi)++[(dk,aE.arr 4 [D.agg [.v (.slice none 0 0), .v (.bool false), .v (.string ⟨#[]⟩), .v (.string ⟨#[]⟩)]])])):=fun{Y}=>gP aT.sle zR;refine j.J (j.J ?_);cases ak:hn (a' x.verb)
 ·refine j.rg [1,2,6,8,9,10] fun K I=> ?_;simp only[go_sem,ak,Bool.not_false];apply I;refine j.bZ rfl (j.J ?_);have hC:dm (aK l) decl files=none:=by
   unfold dm;rw[FP,af,Option.filter_some,ak];rfl
  refine j.le (cn.refl _) gq ?_;refine j.rg [6] fun K I=> ?_;simp only[go_sem];apply I;refine j.ret ar Tryz.func48 (by simp[go_sem]) ?_;simp only[go_sem];rw[hC];rfl
 refine j.rg [1,2,6,8,9,10] fun K I=> ?_;simp only[go_sem,ak,Bool.not_true];apply I;refine j.bJ rfl (j.aN (j.J ?_));have qj:h1 (aK l)=some x:=by rw[FP,af,Option.filter_some,ak];rfl
 obtain⟨_,D1,ew,vj⟩:=FQ qj;obtain⟨has,e_,tM⟩:=Xz af;have fX:=Wc x.verb x.args decl files ak dE gG aw (by omega) (fun a bb=>by have:=has a bb;omega);have ie:dm (aK l) decl files=lC x decl files:=by unfold dm;rw[qj]
 obtain⟨c,rfl⟩:∃c,o=some c:=by
  cases o with
  |none=>
   have:=congrArg List.length (aT.zero rfl);rw[List.length_map,List.length_nil]at this;omega
  |some c=>exact⟨c,rfl⟩
 have Dk:List.take (x.args.map ab).length (x.args.map ab)=x.args.map ab:=List.take_length;have mM:ab x.verb=D.v (.string x.verb):=rfl;have r_:nM x.args decl files (a' x.verb)=none∨(∃b mo,nM x.args decl files (a' x.verb)=some (b,mo)∧65536<b.length)∨(∃b mo,nM x.args decl files (a' x.verb)=some (b,mo)∧b.length≤65536):=by
  rcases nM x.args decl files (a' x.verb)with _|⟨b,mo⟩
  ·exact .inl rfl
  rcases Nat.lt_or_ge 65536 b.length with h|h
  ·exact .inr (.inl ⟨b,mo,rfl,h⟩)
  exact .inr (.inr ⟨b,mo,rfl,h⟩)
 rcases r_ with ao|⟨b,mo,ao,xu⟩|⟨b,mo,ao,xu⟩
 ·refine j.draw [1,2,6,8,9] [] [] [] [(0,true),(1,true),(2,true),(3,true),(4,true),(5,true),(6,true),(7,false),(8,true),(9,true),(10,true),(11,true),(12,true),(13,true),(14,true)] (by kernel_rfl) (by decide) (by kernel_rfl) fun K I=> ?_;simp only[go_sem,Dk,mM];refine⟨by omega,⟨by omega,Int.le_refl _,fun y aF=>aF.elim (fun h=>by rw[h];rfl) fun h=>(c' _ y h).1⟩, ?_⟩
  refine a1 Tryz.call87 (fX _) ?_;simp only[go_sem,ao,p5];apply I;refine j.J (j.J (j.rg [6,9,10,11,12] fun K I=> ?_));simp only[go_sem];apply I;refine j.bZ rfl (j.J ?_);have hC:dm (aK l) decl files=none:=by rw[ie,He (by rw[ao];rfl)]
  refine j.le (cn.refl _) gq ?_;refine j.rg [6] fun K I=> ?_;simp only[go_sem];apply I;refine j.ret ar Tryz.func48 (by simp[go_sem]) ?_;simp only[go_sem];rw[hC];rfl
 ·refine j.draw [1,2,6,8,9] [] [] [] [(0,true),(1,true),(2,true),(3,true),(4,true),(5,true),(6,true),(7,false),(8,true),(9,true),(10,true),(11,true),(12,true),(13,true),(14,true)] (by kernel_rfl) (by decide) (by kernel_rfl) fun K I=> ?_;simp only[go_sem,Dk,mM];refine⟨by omega,⟨by omega,Int.le_refl _,fun y aF=>aF.elim (fun h=>by rw[h];rfl) fun h=>(c' _ y h).1⟩, ?_⟩
  refine a1 Tryz.call87 (fX _) ?_;simp only[go_sem,ao,p5];apply I;refine j.J (j.J ?_);have hg:decide ((b.length:Int)>65536)=true:=decide_eq_true (by omega);have dD:(b.map bD).length=b.length:=List.length_map ..;refine j.rg [6,9,10,11,12] fun K I=> ?_;simp only[go_sem,hg,dD];apply I;refine j.bZ rfl (j.J ?_);have hC:dm (aK l) decl files=none:=by rw[ie,He (by rw[ao,Option.filter_some,show sC (b,mo)=false from decide_eq_false (by show¬b.length≤65536;omega)];rfl)]
  refine j.le (cn.refl _) gq ?_;refine j.rg [6] fun K I=> ?_;simp only[go_sem];apply I;refine j.ret ar Tryz.func48 (by simp[go_sem]) ?_;simp only[go_sem];rw[hC];rfl
 refine j.draw [1,2,6,8,9] [] [] [] [(0,true),(1,true),(2,true),(3,true),(4,true),(5,true),(6,true),(7,false),(8,true),(9,true),(10,true),(11,true),(12,true),(13,true),(14,true)] (by kernel_rfl) (by decide) (by kernel_rfl) fun K I=> ?_;simp only[go_sem,Dk,mM];refine⟨by omega,⟨by omega,Int.le_refl _,fun y aF=>aF.elim (fun h=>by rw[h];rfl) fun h=>(c' _ y h).1⟩, ?_⟩
 refine a1 Tryz.call87 (fX _) ?_;simp only[go_sem,ao,p5];apply I;refine j.J (j.J ?_);have hg:decide ((b.length:Int)>65536)=false:=decide_eq_false (by omega);have dD:(b.map bD).length=b.length:=List.length_map ..;refine j.rg [6,9,10,11,12] fun K I=> ?_;simp only[go_sem,hg,dD];apply I;refine j.bJ rfl (j.aN (j.J (j.J (j.rg [6,9,11,12] fun K I=> ?_))));simp only[go_sem];apply I;have fk:av c [(dk,aE.arr 4 [D.agg [.v (.slice none 0 0), .v (.bool false), .v (.string ⟨#[]⟩), .v (.string ⟨#[]⟩)]])]=none:=aT.fresh c rfl;have nj:c≠dk:=fun e=>by rw[e,bE]at fk;cases fk
 have eM:=eF zR;have my:mg≠c:=eM.1;have j8:mg≠dk:=(eF eM.2).1;refine j.aG ?_;refine j.rebase [6,9,11,12,13] ?_;simp only[go_sem];refine j.while (fun(i:Nat) env' aS=>(i≤x.outs.length)∧env'=[(6, .ptr dk 4 0 0),(9, .ptr mg 4 0 0),(11, .ai (b.map bD)),(12, .ai (mo.map ab)),(13, .v (.int .i64 (i:Int)))]∧aS=[(mg,aE.arr 4 [D.agg [.own (some c) 2 x.outs.length, .v (.bool x.once), .v (.string x.dep), .v (.string ⟨#[]⟩)]]),(c,aE.arr 2 (nR x.outs b i)),(dk,aE.arr 4 [D.agg [.v (.slice none 0 0), .v (.bool false), .v (.string ⟨#[]⟩), .v (.string ⟨#[]⟩)]])]) (fun(i:Nat)=>x.outs.length-i) 0 ⟨Nat.zero_le _,rfl,rfl⟩ ?_;rintro i env' aS ⟨hi,rfl,rfl⟩ aB;have cH:=aB;refine j.J (j.J (j.rg [6,9,11,12,13] fun K I=> ?_));simp only[go_sem,my,j8,nj,my.symm,j8.symm,nj.symm];apply I;refine j.cond rfl (fun hQ=> ?_) (fun hQ=> ?_)
 ·have aC:i<x.outs.length:=by simpa using hQ
  have D8:=WE (b:=b) aC;have nu:(nR x.outs b i).set i (D.agg [.v (.string x.outs[i]), .ai (b.map bD)])=nR x.outs b (i+1):=WH aC;have ju:=WG x.outs b i;have bf:(0:Int)≤(i:Int):=by omega
  have bp:(i:Int)<(x.outs.length:Int):=by omega
  refine j.aN (j.J (j.aG (j.rg [6,9,11,12,13] fun K I=> ?_)));simp only[go_sem,my,j8,nj,my.symm,j8.symm,nj.symm,D8,ju,bf,bp,aC,gi,nu,List.take_succ_cons,List.take_zero,List.drop_succ_cons,List.drop_zero,List.cons_append,List.nil_append];apply I;refine j.ba (j.rg [6,9,11,12,13] fun K I=> ?_);simp only[go_sem];apply I;refine j.rebase [6,9,11,12,13] ?_;simp only[go_sem];rw[bH i (by omega)];exact aB (i+1) _ _ ⟨by omega,rfl,rfl⟩ (by omega)
 have cC:i=x.outs.length:=by
  have:¬i<x.outs.length:=by simpa using hQ
  omega
 subst cC;rw[WD];obtain⟨bS,dg⟩:=Oz ao xu;obtain⟨bl,jk⟩:=Mp bS;obtain⟨O,jG⟩:∃O,O=x.outs.map fun n=>(⟨n,b⟩:ay):=⟨_,rfl⟩;rw[←jG]at dg⊢;have zH:(O.map ay.d).length=x.outs.length:=by rw[jG];simp
 have s6:x.outs[0]'ew=x.outs.getD 0 ⟨#[]⟩:=(P1 x.outs 0 _ ew).symm;have tv:(O.map ay.d).getD 0 .any= .agg [.v (.string (x.outs.getD 0 ⟨#[]⟩)), .ai (b.map bD)]:=by
  rw[←s6,jG,List.map_map,b6 _ x.outs 0 ew];rfl
 have vy:=D1 _ (List.getElem_mem ew);rw[s6]at vy;have xZ:=We (x.outs.getD 0 ⟨#[]⟩) mo;have gn:=yA vy;have Sm:(0:Int)<(x.outs.length:Int):=by omega
 refine j.exit rfl (j.J (j.J (j.rg [6,9,12] fun K I=> ?_)));simp only[go_sem,my,j8,nj,my.symm,j8.symm,nj.symm];apply I;refine j.join (fun env' σ'=>env'=[(6, .ptr dk 4 0 0),(9, .ptr mg 4 0 0)]∧σ'=[(mg,aE.arr 4 [D.agg [.own (some c) 2 x.outs.length, .v (.bool x.once), .v (.string x.dep), .v (.string (if(!(x.dep.toList==(⟨#[]⟩:ByteArray).toList))=true then aK (ha (x.outs.getD 0 ⟨#[]⟩) mo++[10])else⟨#[]⟩))]]),(c,aE.arr 2 (O.map ay.d)),(dk,aE.arr 4 [D.agg [.v (.slice none 0 0), .v (.bool false), .v (.string ⟨#[]⟩), .v (.string ⟨#[]⟩)]])]) (fun k1 cb=> ?_) ?_
 ·refine j.cond rfl (fun CM=> ?_) (fun CM=> ?_)
  ·refine j.rg [6,9,12] fun K I=> ?_;simp only[go_sem,my,j8,nj,my.symm,j8.symm,nj.symm,tv,zH,Sm];refine⟨ew, ?_⟩;refine a1 Tryz.call88 (xZ _ (by omega) (by omega) (fun d aw=>by have:=yA (bl d aw);omega)) ?_;simp only[go_sem,my,j8,nj,my.symm,j8.symm,nj.symm];apply I;refine j.rebase [6,9] ?_;simp only[go_sem];exact cb _ _ ⟨rfl,by rw[if_pos CM]⟩
  refine j.aN ?_;refine j.rebase [6,9] ?_;simp only[go_sem];exact cb _ _ ⟨rfl,by rw[if_neg (by rw[CM];decide)]⟩
 rintro env' σ' ⟨rfl,rfl⟩;refine j.J ?_;obtain⟨y_,oy⟩:∃y_,y_=(if(!(x.dep.toList==(⟨#[]⟩:ByteArray).toList))=true then aK (ha (x.outs.getD 0 ⟨#[]⟩) mo++[10])else⟨#[]⟩):=⟨_,rfl⟩;rw[←oy]at dg⊢;refine j.o1 c (sz:=2) (xs:=O.map ay.d) (by rw[aW,if_neg my.symm,bE]) ?_;have ts:kB c 2 (O.map ay.d) [(6,D.ptr dk 4 0 0),(9,D.ptr mg 4 0 0)]=[(6,D.ptr dk 4 0 0),(9,D.ptr mg 4 0 0)]:=rfl;have lV:di c 2 (O.map ay.d) [(mg,aE.arr 4 [D.agg [.own (some c) 2 x.outs.length, .v (.bool x.once), .v (.string x.dep), .v (.string y_)]]),(c,aE.arr 2 (O.map ay.d)),(dk,aE.arr 4 [D.agg [.v (.slice none 0 0), .v (.bool false), .v (.string ⟨#[]⟩), .v (.string ⟨#[]⟩)]])]=[(mg,aE.arr 4 [D.agg [.ai (O.map ay.d), .v (.bool x.once), .v (.string x.dep), .v (.string y_)]]),(dk,aE.arr 4 [D.agg [.v (.slice none 0 0), .v (.bool false), .v (.string ⟨#[]⟩), .v (.string ⟨#[]⟩)]])]:=by
  simp only[di,if_true,if_neg my,if_neg my.symm,if_neg nj.symm,if_neg nj,aE.b',List.map_cons,List.map_nil,D.b',hb];rw[if_pos (show True∧True∧x.outs.length≤(O.map ay.d).length from⟨trivial,trivial,by rw[zH];exact Nat.le_refl _⟩),List.take_of_length_le (by rw[zH];exact Nat.le_refl _)]
 rw[ts,lV];refine j.rg [6,9] fun K I=> ?_;simp only[go_sem,j8,j8.symm];apply I;refine j.le (cn.refl _) (gP (aQ.refl _) (by rw[aW,if_neg j8];rfl)) ?_
 refine j.ret ar Tryz.func48 (by simp[go_sem]) ?_;simp only[go_sem];rw[ie,dg];rfl
end Go.Ab.S16
namespace Go.Ab.S16
open Go Go.Proofs
def p6 (m:bK) (t:ByteArray) (k:Nat):Bool:=if dd m t<0 then false else decide ((k:Int)=dd m t)||du m (dd m t).toNat k
def jY (m:bK) (aD:List ByteArray) (k:Nat):Bool:=aD.any fun t=>p6 m t k
def iW (m:bK) (w:Nat→Bool) (out:List Nat) (k:Nat):Bool:=w k&& !out.contains k&&(List.range m.edges.length).all fun U=> !du m k U||out.contains U
def ll (m:bK) (w:Nat→Bool):Nat→List Nat→List Nat
 |0,out=>out
 |f+1,out=>match (List.range m.edges.length).find? (iW m w out)with
  |some n=>ll m w f (out++[n])
  |none=>out
def wk (m:bK):List ByteArray:=ft [] (gQ m (m.edges.flatMap aM.bG))
def hX (m:bK) (aD:List ByteArray):Nat⊕List Nat:=if(aD.any fun t=>decide (dd m t<0)&& !inB (wk m) t)=true then .inl 6 else .inr (ll m (jY m aD) m.edges.length [])
theorem XX {g:b9} (aq:g.ja) (f:ByteArray):inB (wk g.aU) f=(h2 g).contains f:=by
 obtain⟨cc,_⟩:=rD aq;rw[Bool.eq_iff_iff,si,List.contains_iff_mem,FU];unfold wk gQ;rw[Fp,List.mem_filter,List.mem_flatMap,decide_eq_true_eq,vK cc];constructor
 ·rintro(h|h)
  ·cases h
  exact h
 exact .inr
theorem Ck {α:Type} (w p:α→Bool):∀l:List α,(l.filter w).find? p=l.find? fun x=>w x&&p x
 |[]=>rfl
 |x::l=>by
  rw[List.filter_cons,List.find?_cons];cases h:w x with
  |true=>
   rw[if_pos rfl,List.find?_cons,Bool.true_and];cases p x with
   |true=>rfl
   |false=>exact Ck w p l
  |false=>
   rw[if_neg (by decide),Bool.false_and];exact Ck w p l
theorem Nf {g:b9} (aq:g.ja) (aD:List ByteArray) {k:Nat} (aj:k<g.aU.edges.length):jY g.aU aD k=true↔hr g.aI (cw g.mks aD) k:=by
 obtain⟨cc,fj⟩:=rD aq;unfold jY;rw[List.any_eq_true];constructor
 ·rintro⟨t,bc,h⟩;unfold p6 at h;rcases KP g.aU t with au|⟨n,au⟩
  ·rw[if_pos au]at h;cases h
  rw[if_neg (by omega),au,Int.toNat_natCast,Bool.or_eq_true,decide_eq_true_eq]at h;have aA:=(vJ cc t n).1 au;have hm:n∈cw g.mks aD:=(ET _ _).2 ⟨t,bc,aA⟩;have hh:=yn ((cc.look t n).1 aA);rcases h with h|h
  ·have:k=n:=by omega
   rw[this];exact .base hm
  have ao:=(rr cc hh aj).1 h;rw[←fj]at ao;clear h aj;induction ao with
  |base ae=>exact .step (.base hm) ae
  |step _ ae aB=>exact .step aB ae
 intro h;have key:∀k,hr g.aI (cw g.mks aD) k→∃t∈aD,∃n,cE g.mks t=some n∧(k=n∨hr g.aI (g.aI.getD n []) k):=fun k h=>by
  induction h with
  |base ae=>
   obtain⟨t,bc,aA⟩:=(ET _ _).1 ae;exact⟨t,bc,_,aA, .inl rfl⟩
  |step _ ae aB=>
   obtain⟨t,bc,n,aA,ah⟩:=aB;refine⟨t,bc,n,aA, .inr ?_⟩;rcases ah with rfl|ah
   ·exact .base ae
   exact .step ah ae
 obtain⟨t,bc,n,aA,ah⟩:=key k h;refine⟨t,bc, ?_⟩;have au:=(vJ cc t n).2 aA;have hh:=yn ((cc.look t n).1 aA);unfold p6;rw[if_neg (by omega),au,Int.toNat_natCast,Bool.or_eq_true,decide_eq_true_eq];rcases ah with rfl|ah
 ·exact .inl rfl
 rw[fj]at ah;exact .inr ((rr cc hh aj).2 ah)
theorem V4 {g:b9} (aq:g.ja) (aD:List ByteArray):hc g.aI (cw g.mks aD)=(List.range g.aU.edges.length).filter (jY g.aU aD):=by
 have aC:=sq aq.oS aD;have cM:=L8 aq.hs aC;have aP:(hc g.aI (cw g.mks aD)).Perm ((List.range g.aU.edges.length).filter (jY g.aU aD)):=by
  refine(List.perm_ext_iff_of_nodup cM (List.nodup_range.filter _)).2 fun k=> ?_;rw[o3 aq.hs aC,List.mem_filter,List.mem_range];constructor
  ·intro h;have aj:=h.lt aq aC;rw[aq.jd]at aj;exact⟨aj,(Nf aq aD aj).2 h⟩
  rintro⟨aj,h⟩;exact(Nf aq aD aj).1 h
 refine List.Perm.eq_of_pairwise (le:=fun a b:Nat=>a≤b) (fun a b _ _ aa ah=>Nat.le_antisymm aa ah) ?_ ?_ aP
 ·have:=AA (le:=fun x y:Nat=>decide (x≤y)) (fun a b c aa ah=>by simp at*;omega) (fun a b=>by simp;omega) (o2 g.aI (cw g.mks aD));exact this.imp fun h=>by simpa using h
 exact(List.pairwise_lt_range.imp fun h=>Nat.le_of_lt h).filter _
theorem V3 {g:b9} (aq:g.ja) (w:Nat→Bool) {out:List Nat} (bY:jc g.aI out) {k:Nat} (aj:k<g.aU.edges.length):iW g.aU w out k=(w k&&ready g.aI out k):=by
 obtain⟨cc,fj⟩:=rD aq;unfold iW ready;rw[Bool.and_assoc];congr 2
 rw[Bool.eq_iff_iff,List.all_eq_true,List.all_eq_true];constructor
 ·intro h U aR;have kc:=BR aq k U aR;rw[aq.jd]at kc;have:=h U (List.mem_range.2 kc);rw[(rr cc aj kc).2 (by rw[←fj];exact .base aR)]at this;simpa using this
 intro h U aR;have kc:=List.mem_range.1 aR;cases ae:du g.aU k U with
 |false=>rfl
 |true=>
  have ao:=(rr cc aj kc).1 ae;rw[←fj]at ao;have:∀x,hr g.aI (g.aI.getD k []) x→x∈out:=fun x an=>by
   induction an with
   |base ae=>simpa using h _ ae
   |step _ ae aB=>exact(show jc g.aI (out++[]) by simpa using bY).back _ aB _ ae
  simpa using this U ao
theorem Va {g:b9} (aq:g.ja) (w:Nat→Bool):∀(f jf:Nat) (out:List Nat),f≤jf→out.Nodup→jc g.aI out→(∀n∈out,n∈(List.range g.aU.edges.length).filter w)→((List.range g.aU.edges.length).filter w).length≤out.length+f→jz g.aI ((List.range g.aU.edges.length).filter w) f out=ll g.aU w jf out:=by
 have gX:∀out,jc g.aI out→((List.range g.aU.edges.length).filter w).find? (ready g.aI out)=(List.range g.aU.edges.length).find? (iW g.aU w out):=fun out bY=>by
  rw[Ck];have:∀l:List Nat,(∀k∈l,k<g.aU.edges.length)→l.find? (fun x=>w x&&ready g.aI out x)=l.find? (iW g.aU w out):=fun l=>by
   induction l with
   |nil=>intro _;rfl
   |cons x l aB=>
    intro h;rw[List.find?_cons,List.find?_cons,V3 aq w bY (h x (List.mem_cons_self ..)),aB fun k aj=>h k (List.mem_cons_of_mem _ aj)]
  exact this _ fun k aj=>List.mem_range.1 aj
 intro f;induction f with
 |zero=>
  intro jf out ax au bY af aA;rw[jz];cases jf with
  |zero=>rfl
  |succ jf=>
   rw[ll,←gX out bY];have:((List.range g.aU.edges.length).filter w).find? (ready g.aI out)=none:=by
    rw[List.find?_eq_none];intro x an;have d':=zk au af (by omega) x an;unfold ready;rw[List.contains_iff_mem.2 d'];simp
   rw[this]
 |succ f aB=>
  intro jf out ax au bY af aA;obtain⟨jf,rfl⟩:∃k,jf=k+1:=⟨jf-1,by omega⟩;rw[jz,ll,gX out bY];cases iK:(List.range g.aU.edges.length).find? (iW g.aU w out)with
  |some n=>
   rw[←gX out bY]at iK;have ao:=List.find?_some iK;have r8:=List.mem_of_find?_eq_some iK;unfold ready at ao;rw[Bool.and_eq_true,Bool.not_eq_true',List.all_eq_true]at ao;refine aB jf (out++[n]) (by omega) ?_ (bY.snoc fun k aj=>by simpa using ao.2 k aj) (fun k aj=> ?_) (by simp only[List.length_append,List.length_cons,List.length_nil];omega)
   ·rw[List.nodup_append];exact⟨au,by simp,fun a bb b ae=>by simp only[List.mem_singleton]at ae;rw[ae];exact fun e=>by have:=ao.1;rw[←e,List.contains_iff_mem.2 bb]at this;cases this⟩
   rcases List.mem_append.1 aj with aj|aj
   ·exact af k aj
   rw[List.mem_singleton.1 aj];exact r8
  |none=>rfl
theorem Fg {g:b9} (aq:g.ja) (aD:List ByteArray):ln g aD=hX g.aU aD:=by
 obtain⟨cc,_⟩:=rD aq;unfold ln hX;have aa:(aD.any fun f=> !(h2 g).contains f&& !(cE g.mks f).isSome)=(aD.any fun t=>decide (dd g.aU t<0)&& !inB (wk g.aU) t):=by
  congr 1
  funext t
  rw[XX aq,Bool.and_comm];congr 1
  rw[Bool.eq_iff_iff,decide_eq_true_eq,vK cc];cases(cE g.mks t).isSome<;>simp
 rw[aa];split
 ·rfl
 congr 1
 unfold iV;rw[V4 aq];exact Va aq _ _ _ [] (by
  have:=List.length_filter_le (jY g.aU aD) (List.range g.aU.edges.length);rwa [List.length_range]at this) List.nodup_nil (fun p n r he=>by simp at he) (fun n au=>by cases au) (by simp)
end Go.Ab.S16
