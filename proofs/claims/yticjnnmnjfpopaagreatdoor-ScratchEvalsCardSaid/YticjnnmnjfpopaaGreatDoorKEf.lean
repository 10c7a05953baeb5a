/- A part of a proof about the given program: the abstract machine, what functions compute, laid in few texts. -/
import Derived.Test.YticjnnmnjfpopaaGreatDoorKEe
import Derived.Laws.BitsAllLaws
set_option linter.unusedSimpArgs false
set_option linter.unusedVariables false
set_option linter.constructorNameAsVariable false
namespace Go.Ab.S16
open Go Go.Proofs
theorem xg {ob dI:Option Nat} {mX mY:Nat} {xs ys:List D} {ρ:al} (h:aV ob mX xs (cellsOf dI mY ys++ρ)) (ah:aV dI mY ys ρ):aV ob mX xs ρ∧aQ (cellsOf ob mX xs++ρ) (cellsOf ob mX xs++(cellsOf dI mY ys++ρ)):=by
 cases dI with
 |none=>exact⟨h,aQ.refl _⟩
 |some c=>exact h.drop (ah.fresh c rfl)
theorem zy {o dI:Option Nat} {sz mY:Nat} {xs ys:List D} {ρ:al} (h:aV o sz xs ρ) (ah:aV dI mY ys (cellsOf o sz xs++ρ)):bL sz o (cellsOf dI mY ys++(cellsOf o sz xs++ρ))=some xs:=by
 cases o with
 |none=>rw[h.zero rfl];rfl
 |some c=>
  have aj:=ah.keep (b:=c) (x:= .arr sz xs) (bE c _ _);simp[bL,aj]
theorem zz {o dI:Option Nat} {sz mY:Nat} {xs ys:List D} {ρ:al} (h:aV o sz xs ρ) (ah:aV dI mY ys (cellsOf o sz xs++ρ)):h0 o (cellsOf dI mY ys++(cellsOf o sz xs++ρ))=cellsOf dI mY ys++ρ:=by
 cases o with
 |none=>rfl
 |some c=>
  cases dI with
  |none=>exact h.cB
  |some a=>
   have nf:c≠a:=fun e=>by
    have:=ah.fresh a rfl;rw[←e]at this;change av c ((c,_)::_)=none at this;rw[bE]at this;cases this
   have aw:=h.cB;change cB c ((c,_)::ρ)=ρ at aw;show cB c ((a,_)::(c,_)::ρ)=(a,_)::ρ
   simp only[cB,if_neg nf,if_true]at aw⊢;rw[aw]
def nZ (decl:List ByteArray) (files:List ay):List ByteArray→List UInt8→Option (List UInt8)
 |[],out=>some out
 |n::r,out=>(h7 decl files n).bind fun b=>if out.length+b.length≤131072 then nZ decl files r (out++b)else none
theorem BT {decl:List ByteArray} {files:List ay} {n:ByteArray} {b:List UInt8} {B:Nat} (ae:∀f∈files,f.b.length<B) (h:h7 decl files n=some b):b.length<B:=by
 unfold h7 findF at h;obtain⟨x,an,ah⟩:=Option.bind_eq_some_iff.1 h;obtain⟨f,ax,rfl⟩:=Option.map_eq_some_iff.1 an;split at ah
 ·cases ah;exact ae f (List.mem_of_find?_eq_some ax)
 cases ah
theorem NF (args decl:List ByteArray) (files:List ay) (found:D) (many:Int) (az:Nat) (σ:al) (ag:av az σ=some (dU args decl files found many)) (aA:files.length<2^31) (ae:∀f∈files,f.b.length<2^40) (aw:decl.length<2^40) (bb:args.length<2^40):
  AC Tryz.prog 130 [.ptr az 5 0 0] σ (pa (nZ decl files args []) (q3 σ) σ):=by
 have e_:(args.map ab).length=args.length:=List.length_map ..;have ic:=ag;unfold dU at ag;refine AC.bI Tryz.func130 Tryz.ntmps130 fun C ar=> ?_;refine j.J (j.rg [0] fun K I=> ?_);simp only[go_sem];apply I;refine j.J (j.rg [0] fun K I=> ?_);simp only[go_sem];apply I;refine j.J (j.J (j.rg [0,3] fun K I=> ?_));simp only[go_sem,ag,e_];apply I;refine j.aG (j.im 3 1 rfl ?_);refine j.rebase [0,3,9,10,11] ?_;simp only[go_sem];refine j.while (fun(i:Nat) env' aS=>∃o:Option Nat,∃out:List UInt8,(i≤args.length∧aV o 1 (out.map bD) σ∧nZ decl files (args.drop i) out=nZ decl files args []∧out.length≤131072)∧env'=[(0, .ptr az 5 0 0),(3, .own o 1 out.length),(9, .ai (args.map ab)),(10, .v (.int .i64 (args.length:Int))),(11, .v (.int .i64 (i:Int)))]∧aS=cellsOf o 1 (out.map bD)++σ) (fun(i:Nat)=>args.length-i) 0 ⟨none,[],⟨by omega,aV.nil _ _,rfl,by simp⟩,rfl,rfl⟩ ?_;rintro i env' aS ⟨o,out,⟨hi,aT,cT,kf⟩,rfl,rfl⟩ aB;have cH:=aB;refine j.J (j.rg [0,3,9,10,11] fun K I=> ?_);simp only[go_sem];apply I;refine j.J ?_;refine j.cond rfl (fun e9=> ?_) (fun e9=> ?_)
 ·have aC:i<args.length:=by simpa using e9
  have aq:=b6 ab args i aC;rw[ab]at aq;have bf:(0:Int)≤(i:Int):=by omega
  have bp:(i:Int)<((args.map ab).length:Int):=by omega
  have rS:=aT.keep ic;have ot:=BU args decl files found many az args[i] _ rS aA ae aw;have dW:(out.map bD).length=out.length:=List.length_map ..;have cv:List.take out.length (out.map bD)=out.map bD:=List.take_of_length_le (by omega);rw[List.drop_eq_getElem_cons aC,nZ]at cT;refine j.aN (j.J (j.aG (j.J (j.rg [0,3,9,10,11] fun K I=> ?_))));simp only[go_sem,aq,bf,bp];apply I;refine j.J ?_;rcases k7:h7 decl files args[i]with _|aY;all_goals rw[k7]at ot cT
  ·refine j.rg [0,3,5,9,10,11] fun K I=> ?_;simp only[go_sem];refine⟨_,Tryz.call133,ot.mono ?_⟩;rintro e σ1 ⟨rfl,gq⟩;simp only[go_sem];exact cK.of ar Tryz.func130 (by rw[←cT];exact⟨rfl,fun b x ae=>gq b x (aT.sle b x ae)⟩)
  have dD:=BT ae k7;rw[Option.bind_some]at cT;refine j.rg [0,3,5,9,10,11] fun K I=> ?_;simp only[go_sem];refine⟨_,Tryz.call133,ot.mono ?_⟩;rintro e σ1 ⟨dI,b7,rfl,rfl⟩;have aH:=zy aT b7;have hS:=zz aT b7;have fZ:=b7.bL;have oG:(aY.map bD).length=aY.length:=List.length_map ..;have tT:List.take (aY.map bD).length (aY.map bD)=aY.map bD:=List.take_of_length_le (Nat.le_refl _);simp only[go_sem,aH,hS,fZ,cv,tT,Nat.le_refl];refine⟨⟨by omega,nG _,by omega,by omega⟩,fun ob aO ax=> ?_⟩;have ch:aV ob 1 (out.map bD++aY.map bD) (cellsOf dI 1 (aY.map bD)++σ):=⟨ax,aO⟩;have cW:aV dI 1 (aY.map bD) σ:=⟨fun c ag=>by
   have de:=b7.fresh c ag;cases o with
   |none=>exact de
   |some k=>
    change av c ((k,_)::σ)=none at de;exact(eF de).2,b7.zero⟩
  have dz:=xg ch cW;rw[←List.map_append]at dz⊢;apply I;refine j.le (cn.refl _) dz.2 ?_;have vv:((out++aY).map bD).length=out.length+aY.length:=by simp
  rcases Nat.lt_or_ge 131072 (out.length+aY.length)with Df|Df
  ·have lN:decide (((out.length+aY.length:Nat):Int)≤131072)=false:=by simp;omega
   refine j.rg [0,3,9,10,11] fun K I=> ?_;simp only[go_sem,vv,lN];refine⟨_,Tryz.call81,(eE false _).mono ?_⟩;rintro e σ1 ⟨rfl,rfl⟩;simp only[go_sem];exact cK.of ar Tryz.func130 (by rw[←cT,if_neg (by omega)];exact⟨rfl,dz.1.sle⟩)
  have lN:decide (((out.length+aY.length:Nat):Int)≤131072)=true:=by simp;omega
  refine j.rg [0,3,9,10,11] fun K I=> ?_;simp only[go_sem,vv,lN];refine⟨_,Tryz.call81,(eE true _).mono ?_⟩;rintro e σ1 ⟨rfl,rfl⟩;simp only[go_sem];apply I;refine j.ba (j.rg [0,3,9,10,11] fun K I=> ?_);simp only[go_sem];apply I;refine j.rebase [0,3,9,10,11] ?_;simp only[go_sem];rw[bH i (by omega)];rw[if_pos Df]at cT;refine aB (i+1) _ _ ⟨ob,out++aY,⟨by omega,dz.1,cT,by simp;omega⟩, ?_,rfl⟩ (by omega);simp only[List.length_append,List.length_map]
 have cC:i=args.length:=by simp at e9;omega
 subst cC;rw[List.drop_length,nZ]at cT;refine j.exit rfl (j.J (j.rg [3] fun K I=> ?_));simp only[go_sem];apply I;refine j.ret ar Tryz.func130 (by simp[go_sem]) ?_;simp only[go_sem];rw[←cT];exact⟨o,aT,by rw[List.length_map],rfl⟩
def lk (decl:List ByteArray) (files:List ay):List ByteArray→Option (List UInt8)
 |[n]=>h7 decl files n
 |_=>none
theorem Le (args decl:List ByteArray) (files:List ay) (found:D) (many:Int) (az:Nat) (σ:al) (ag:av az σ=some (dU args decl files found many)) (aA:files.length<2^31) (ae:∀f∈files,f.b.length<2^40) (aw:decl.length<2^40) (bb:args.length<2^40):
  AC Tryz.prog 131 [.ptr az 5 0 0] σ (pa (lk decl files args) (q3 σ) σ):=by
 have e_:(args.map ab).length=args.length:=List.length_map ..;have ic:=ag;unfold dU at ag;refine AC.bI Tryz.func131 Tryz.ntmps131 fun C ar=> ?_;rcases Nat.decEq args.length 1 with aZ|he
 ·have gm:lk decl files args=none:=by
   unfold lk;split
   ·exact absurd rfl aZ
   rfl
  have lN:((args.length:Int)==1)=false:=by simp;omega
  rw[gm]at ar;refine j.J (j.rg [0] fun K I=> ?_);simp only[go_sem];apply I;refine j.J (j.rg [0] fun K I=> ?_);simp only[go_sem,ag,e_,lN];refine⟨_,Tryz.call81,(eE false _).mono ?_⟩;rintro e σ1 ⟨rfl,rfl⟩;simp only[go_sem];exact cK.of ar Tryz.func131 ⟨rfl,aQ.refl _⟩
 obtain⟨n,rfl⟩:∃n,args=[n]:=by
  match args,he with
  |[n],_=>exact⟨n,rfl⟩
 have ot:=BU [n] decl files found many az n _ ic aA ae aw;have gm:lk decl files [n]=h7 decl files n:=rfl;have lN:(((([n]:List ByteArray).length:Nat):Int)==1)=true:=rfl;have xP:([n]:List ByteArray).map ab=[.v (.string n)]:=rfl;rw[gm]at ar;refine j.J (j.rg [0] fun K I=> ?_);simp only[go_sem];apply I;refine j.J (j.rg [0] fun K I=> ?_);simp only[go_sem,ag,e_,lN];refine⟨_,Tryz.call81,(eE true _).mono ?_⟩;rintro e σ1 ⟨rfl,rfl⟩;simp only[go_sem];apply I;refine j.J ?_;rcases k7:h7 decl files n with _|aY;all_goals rw[k7]at ot ar
 ·refine j.rg [0] fun K I=> ?_;simp only[go_sem,ag,xP];refine⟨by decide, ?_⟩;refine⟨_,Tryz.call133,ot.mono ?_⟩;rintro e σ1 ⟨rfl,gq⟩;simp only[go_sem];exact cK.of ar Tryz.func131 ⟨rfl,gq⟩
 refine j.rg [0] fun K I=> ?_;simp only[go_sem,ag,xP];refine⟨by decide, ?_⟩;refine⟨_,Tryz.call133,ot.mono ?_⟩;rintro e σ1 ⟨dI,b7,rfl,rfl⟩;simp only[go_sem];apply I;refine j.ret ar Tryz.func131 (by simp[go_sem]) ?_;simp only[go_sem];exact⟨dI,b7,rfl,rfl⟩
theorem N8 (args decl:List ByteArray) (files:List ay) (found:D) (many:Int) (az:Nat) (σ:al) (ag:av az σ=some (dU args decl files found many)) (aA:files.length<2^31) (ae:∀f∈files,f.b.length<2^40) (aw:decl.length<2^40) (bb:args.length<2^40):
  AC Tryz.prog 106 [.ptr az 5 0 0] σ (pa (nZ decl files args []) (q3 σ) σ):=by
 have b0:=NF args decl files found many az σ ag aA ae aw bb;refine AC.bI Tryz.func106 Tryz.ntmps106 fun C ar=> ?_;refine j.J (j.rg [0] fun K I=> ?_);simp only[go_sem];apply I;refine j.J ?_;rcases k7:nZ decl files args []with _|aY;all_goals rw[k7]at b0 ar
 ·refine j.rg [0] fun K I=> ?_;simp only[go_sem];refine⟨_,Tryz.call130,b0.mono ?_⟩;rintro e σ1 ⟨rfl,gq⟩;simp only[go_sem];exact cK.of ar Tryz.func106 ⟨rfl,gq⟩
 refine j.rg [0] fun K I=> ?_;simp only[go_sem];refine⟨_,Tryz.call130,b0.mono ?_⟩;rintro e σ1 ⟨dI,b7,rfl,rfl⟩;simp only[go_sem];apply I;refine j.ret ar Tryz.func106 (by simp[go_sem]) ?_;simp only[go_sem];exact⟨dI,b7,rfl,rfl⟩
theorem Pq (az:Nat) (σ:al):AC Tryz.prog 111 [.ptr az 5 0 0] σ (pa (α:=List UInt8) none (q3 σ) σ):=by
 refine AC.bI Tryz.func111 Tryz.ntmps111 fun C ar=> ?_;refine j.J (j.rg [] fun K I=> ?_);simp only[go_sem];apply I;refine j.J (j.rg [] fun K I=> ?_);simp only[go_sem];refine⟨_,Tryz.call81,(eE false _).mono ?_⟩;rintro e σ1 ⟨rfl,rfl⟩;simp only[go_sem];exact cK.of ar Tryz.func111 ⟨rfl,aQ.refl _⟩
def nJ (args:List ByteArray):List UInt8:=Lib.join (args.map (·.data.toList)) [32]++[10]
theorem VE (args decl:List ByteArray) (files:List ay) (found:D) (many:Int) (az:Nat) (σ:al) (ag:av az σ=some (dU args decl files found many)) (bb:args.length<2^30) (aR:(Lib.join (args.map (·.data.toList)) [32]).length<2^45):
  AC Tryz.prog 109 [.ptr az 5 0 0] σ (q3 σ (nJ args)):=by
 unfold dU at ag;have Aa:=EF args ⟨#[32]⟩ σ (by omega) (by
  show(Lib.join (args.map (·.data.toList)) [32]).length≤_
  omega)
 refine AC.bI Tryz.func109 Tryz.ntmps109 fun C ar=> ?_;refine j.J (j.rg [0] fun K I=> ?_);simp only[go_sem];apply I;refine j.J ?_;have bU:(⟨(Lib.join (args.map (·.data.toList)) [32]).toArray⟩:ByteArray).size+(⟨#[10]⟩:ByteArray).size<4611686018427387904:=by
  show(Lib.join (args.map (·.data.toList)) [32]).toArray.size+1<_
  simp;omega
 have eN:=GO (P:=Tryz.prog) (T:=9) (x:= .tmp 7) (y:= .const (.string ⟨#[10]⟩)) ⟨(Lib.join (args.map (·.data.toList)) [32]).toArray⟩ ⟨#[10]⟩ bU;refine j.rg [0] fun K I=> ?_;simp only[go_sem,ag];refine a1 Tryz.call114 Aa ?_;simp only[go_sem,eN];refine⟨by simp;omega,fun b ae=> ?_⟩;have bt:((⟨(Lib.join (args.map (fun x:ByteArray=>x.data.toList)) [32]).toArray⟩:ByteArray)++⟨#[10]⟩).data.toList=nJ args:=by
  rw[ByteArray.data_append];simp[nJ]
 have b_:(Lib.join (args.map (fun x:ByteArray=>x.data.toList)) [32]).toArray.size+(#[10]:Array UInt8).size=((nJ args).map bD).length:=by simp[nJ]
 rw[bt,b_];apply I;refine j.ret ar Tryz.func109 (by simp[go_sem]) ?_;simp only[go_sem];exact⟨some b,⟨fun c ag=>by cases ag;exact ae,nofun⟩,rfl,rfl⟩
def gO (l:List UInt8) (i:Nat):List UInt8:=(List.range l.length).map fun k=>if k<i∨l.length≤k+i then l.getD (l.length-1-k) 0 else l.getD k 0
theorem yz (l:List UInt8) (i:Nat):(gO l i).length=l.length:=by simp[gO]
theorem Wv (l:List UInt8):gO l 0=l:=by
 apply List.ext_getElem
 ·simp[gO]
 intro k aa ah;simp only[gO,List.getElem_map,List.getElem_range];rw[if_neg (by omega)];exact dC l k 0 ah
theorem Mi (l:List UInt8) (i k:Nat) (aa:i≤k) (ah:k+i<l.length):(gO l i)[k]'(by rw[yz];omega)=l[k]:=by
 simp only[gO,List.getElem_map,List.getElem_range];rw[if_neg (by omega)];exact dC l k 0 (by omega)
theorem Wu (l:List UInt8) (i:Nat) (h:2*i+1<l.length):((gO l i).set i l[l.length-1-i]).set (l.length-1-i) l[i]=gO l (i+1):=by
 apply List.ext_getElem
 ·simp[gO]
 intro k aa ah;rw[yz]at ah;rw[List.getElem_set,List.getElem_set];by_cases aj:l.length-1-i=k
 ·rw[if_pos aj];simp only[gO,List.getElem_map,List.getElem_range];rw[if_pos (by omega),show l.length-1-k=i by omega];exact(dC l i 0 (by omega)).symm
 rw[if_neg aj];by_cases gl:i=k
 ·rw[if_pos gl];simp only[gO,List.getElem_map,List.getElem_range];rw[if_pos (by omega),←gl];exact(dC l (l.length-1-i) 0 (by omega)).symm
 rw[if_neg gl];simp only[gO,List.getElem_map,List.getElem_range];by_cases ag:k<i∨l.length≤k+i
 ·rw[if_pos ag,if_pos (by omega)]
 rw[if_neg ag,if_neg (by omega)]
theorem Wt (l:List UInt8) (i:Nat) (h:l.length≤2*i+1) (hi:2*i≤l.length):gO l i=l.reverse:=by
 apply List.ext_getElem
 ·simp[gO]
 intro k aa ah;have aj:k<l.length:=by simpa using ah
 rw[List.getElem_reverse];simp only[gO,List.getElem_map,List.getElem_range];by_cases ag:k<i∨l.length≤k+i
 ·rw[if_pos ag];exact dC l _ 0 (by omega)
 rw[if_neg ag];rw[dC l k 0 aj];congr 1
 omega
theorem Wy (b:Nat) (l:List UInt8) (ρ:al) (aA:l.length<2^40):
  AC Tryz.prog 132 [.own (some b) 1 l.length] ((b, .arr 1 (l.map bD))::ρ) (fun e σ'=>e= .ret (.bd [])∧σ'=(b, .arr 1 (l.reverse.map bD))::ρ):=by
 have tX:IntKind.i64.wrap ((l.length:Int)-1)=(l.length:Int)-1-((0:Nat):Int):=by rw[IntKind.wrap_i64];omega
 refine AC.bI Tryz.func132 Tryz.ntmps132 fun C ar=> ?_;refine j.J (j.rg [0] fun K I=> ?_);simp only[go_sem];apply I;refine j.aG ?_;refine j.rebase [0,2,3] ?_;simp only[go_sem];refine j.while (fun(i:Nat) env' aS=>(2*i≤l.length)∧env'=[(0, .own (some b) 1 l.length),(2, .v (.int .i64 (i:Int))),(3, .v (.int .i64 ((l.length:Int)-1-i)))]∧aS=(b, .arr 1 ((gO l i).map bD))::ρ) (fun(i:Nat)=>l.length-i) 0 ⟨by omega,by rw[tX];rfl,by rw[Wv]⟩ ?_
 rintro i env' aS ⟨hi,rfl,rfl⟩ aB;have cH:=aB;refine j.J (j.J (j.rg [0,2,3] fun K I=> ?_));simp only[go_sem];apply I;refine j.cond rfl (fun eM=> ?_) (fun eM=> ?_)
 ·have aC:(i:Int)<(l.length:Int)-1-i:=by simpa using eM
  have tI:2*i+1<l.length:=by omega
  have gK:(l.length:Int)-1-i=((l.length-1-i:Nat):Int):=by omega
  have bf:(0:Int)≤(i:Int):=by omega
  have bp:(i:Int)<(l.length:Int):=by omega
  have dp:(0:Int)≤((l.length-1-i:Nat):Int):=by omega
  have dq:((l.length-1-i:Nat):Int)<(l.length:Int):=by omega
  have np:((gO l i).map bD).getD i .any=bD l[i]:=by rw[b6 bD (gO l i) i (by rw[yz];omega),Mi l i i (by omega) (by omega)]
  have eT:((gO l i).map bD).getD (l.length-1-i) .any=bD l[l.length-1-i]:=by rw[b6 bD (gO l i) (l.length-1-i) (by rw[yz];omega),Mi l i (l.length-1-i) (by omega) (by omega)]
  have dD:((gO l i).map bD).length=l.length:=by rw[List.length_map,yz]
  have Jj:(((gO l i).map bD).set i (.v (.int .u8 (l[l.length-1-i].toNat:Int)))).getD (l.length-1-i) .any=bD l[l.length-1-i]:=by
   rw[←eT,List.getD_eq_getElem?_getD,List.getElem?_set_ne (by omega),←List.getD_eq_getElem?_getD]
  have gp:(((gO l i).map bD).set i (.v (.int .u8 (l[l.length-1-i].toNat:Int)))).set (l.length-1-i) (.v (.int .u8 (l[i].toNat:Int)))=(gO l (i+1)).map bD:=by
   rw[←Wu l i tI,List.map_set,List.map_set];rfl
  have gq:(((gO l i).map bD).set i (.v (.int .u8 (l[l.length-1-i].toNat:Int)))).length=l.length:=by rw[List.length_set,dD]
  rw[bD]at np eT Jj;refine j.aN (j.J (j.aG ?_));refine j.draw [0,2,3] [] [b] [15,13] [(0,true),(1,true),(2,true),(3,true),(4,true),(5,true),(6,true),(7,true),(8,true),(9,true),(10,true),(11,true),(12,true),(13,false),(14,true),(15,false)] (by kernel_rfl) (by decide) (by kernel_rfl) fun K I=> ?_;simp only[go_sem,gK,bf,bp,dp,dq,np,eT,dD,gq,Jj,gp];refine⟨by omega,by omega,by omega,by omega, ?_⟩;apply I;refine j.ba (j.rg [0,2,3] fun K I=> ?_);simp only[go_sem];apply I;refine j.rebase [0,2,3] ?_;simp only[go_sem];rw[bH i (by omega)];have Td:IntKind.i64.wrap (((l.length-1-i:Nat):Int)-1)=(l.length:Int)-1-((i+1:Nat):Int):=by rw[IntKind.wrap_i64];omega
  rw[Td];exact aB (i+1) _ _ ⟨by omega,rfl,rfl⟩ (by omega)
 have hle:¬(i:Int)<(l.length:Int)-1-i:=by simpa using eM
 refine j.exit rfl ?_;refine j.done ar Tryz.func132 (by simp[go_sem]) ?_;simp only[go_sem];rw[Wt l i (by omega) hi]
theorem Wx (σ:al):AC Tryz.prog 132 [.own none 1 0] σ (fun e σ'=>e= .ret (.bd [])∧σ'=σ):=by
 have tX:IntKind.i64.wrap (0-1)=-1:=by rw[IntKind.wrap_i64];omega
 refine AC.bI Tryz.func132 Tryz.ntmps132 fun C ar=> ?_;refine j.J (j.rg [0] fun K I=> ?_);simp only[go_sem,tX];apply I;refine j.aG ?_;refine j.rebase [0,2,3] ?_;simp only[go_sem];refine j.while (fun(i:Nat) env' aS=>(True)∧env'=[(0, .own none 1 0),(2, .v (.int .i64 0)),(3, .v (.int .i64 (-1)))]∧σ=aS) (fun(i:Nat)=>0) 0 ⟨trivial,rfl,rfl⟩ ?_;rintro i env' aS ⟨-,rfl,rfl⟩ aB;have cH:=aB;refine j.J (j.J (j.rg [0,2,3] fun K I=> ?_));simp only[go_sem];apply I;refine j.bJ rfl (j.exit rfl ?_);refine j.done ar Tryz.func132 (by simp[go_sem]) ?_;simp only[go_sem]
theorem Wz (o:Option Nat) (l:List UInt8) (ρ:al) (aq:aV o 1 (l.map bD) ρ) (aA:l.length<2^40):
  AC Tryz.prog 132 [.own o 1 (l.map bD).length] (cellsOf o 1 (l.map bD)++ρ) (fun e σ'=>e= .ret (.bd [])∧σ'=cellsOf o 1 (l.reverse.map bD)++ρ):=by
 cases o with
 |none=>
  have:l=[]:=by have:=aq.zero rfl;simpa using this
  subst this;exact Wx ρ
 |some b=>
  rw[List.length_map];exact Wy b l ρ aA
theorem Ww (args decl:List ByteArray) (files:List ay) (found:D) (many:Int) (az:Nat) (σ:al) (ag:av az σ=some (dU args decl files found many)) (aA:files.length<2^31) (ae:∀f∈files,f.b.length<2^40) (aw:decl.length<2^40) (bb:args.length<2^40):
  AC Tryz.prog 107 [.ptr az 5 0 0] σ (pa ((lk decl files args).map List.reverse) (q3 σ) σ):=by
 have gm:=Le args decl files found many az σ ag aA ae aw bb;refine AC.bI Tryz.func107 Tryz.ntmps107 fun C ar=> ?_;refine j.J (j.rg [0] fun K I=> ?_);simp only[go_sem];apply I;refine j.J ?_;rcases k7:lk decl files args with _|aY;all_goals rw[k7]at gm ar
 ·refine j.rg [0] fun K I=> ?_;simp only[go_sem];refine⟨_,Tryz.call131,gm.mono ?_⟩;rintro e σ1 ⟨rfl,gq⟩;simp only[go_sem];exact cK.of ar Tryz.func107 ⟨rfl,gq⟩
 refine j.rg [0] fun K I=> ?_;simp only[go_sem];refine⟨_,Tryz.call131,gm.mono ?_⟩;rintro e σ1 ⟨dI,b7,rfl,rfl⟩;simp only[go_sem];apply I;refine j.J ?_;have dD:aY.length<2^40:=by
  unfold lk at k7;split at k7
  ·exact BT ae k7
  cases k7
 refine j.rg [3] fun K I=> ?_;simp only[go_sem];refine a1 Tryz.call132 (Wz dI aY σ b7 dD) ?_;simp only[go_sem];apply I;refine j.J (j.rg [3] fun K I=> ?_);simp only[go_sem];apply I;refine j.ret ar Tryz.func107 (by simp[go_sem]) ?_;simp only[go_sem];refine⟨dI,aV.Fz b7 fun h=> ?_, ?_,rfl⟩
 ·have:aY=[]:=by simpa using h
  rw[this];rfl
 simp
def qq (h:Nat) (c:UInt8):Nat:=(h^^^c.toNat)*1099511628211%18446744073709551616
def fA (l:List UInt8):Nat:=l.foldl qq 14695981039346656037
theorem Nl (P:Program) (T:TypeId) (bz bM:Operand) (a b:Nat) (bb:a<18446744073709551616) (ae:b<18446744073709551616):cF P .xor T bz bM (.v (.int .u64 (a:Int))) (.v (.int .u64 (b:Int)))= .val True (.v (.int .u64 ((a^^^b:Nat):Int))):=by
 have an:a^^^b<2^64:=Nat.xor_lt_two_pow (by omega) (by omega);have h:IntKind.u64.wrap ((a%2^IntKind.u64.bits^^^b%2^IntKind.u64.bits:Nat):Int)=((a^^^b:Nat):Int):=by
  rw[show IntKind.u64.bits=64 from rfl,Nat.mod_eq_of_lt (by omega),Nat.mod_eq_of_lt (by omega),IntKind.wrap_u64];omega
 simp[cF,ifcNil,fQ,cJ,dJ,eqGuard,binOp,Op.intBits,okV,cx,fN];exact h
theorem QP (h:Nat) (a8:h<18446744073709551616) (c:UInt8) (σ:al):AC Tryz.prog 158 [.v (.int .u64 (h:Int)),bD c] σ (fun e σ'=>e= .ret (.v (.int .u64 (qq h c:Int)))∧σ'=σ):=by
 have ag:c.toNat<256:=c.toNat_lt;have hw:IntKind.u64.wrap (c.toNat:Int)=(c.toNat:Int):=by rw[IntKind.wrap_u64];omega
 have an:=fun bz bM=>Nl Tryz.prog 170 bz bM h c.toNat a8 (by omega);have hm:IntKind.u64.wrap (((h^^^c.toNat:Nat):Int)*1099511628211)=(qq h c:Int):=by
  rw[IntKind.wrap_u64];unfold qq;omega
 refine AC.bI Tryz.func158 Tryz.ntmps158 fun C ar=> ?_;refine j.J (j.rg [0,1] fun K I=> ?_);simp only[go_sem];apply I;refine j.J (j.rg [0,1] fun K I=> ?_);simp only[go_sem,bD,hw,an,hm];apply I;refine j.ret ar Tryz.func158 (by simp[go_sem]) ?_;simp only[go_sem]
theorem QQ (h:Nat) (c:UInt8):qq h c<18446744073709551616:=Nat.mod_lt _ (by omega)
theorem IH (l:List UInt8) (i:Nat) (h:i<l.length):fA (l.take (i+1))=qq (fA (l.take i)) l[i]:=by
 unfold fA;rw[List.take_succ_eq_append_getElem h,List.foldl_append,List.foldl_cons,List.foldl_nil]
theorem vb (l:List UInt8):fA l<18446744073709551616:=by
 have key:∀(l:List UInt8) (h:Nat),h<18446744073709551616→l.foldl qq h<18446744073709551616:=by
  intro l;induction l with
  |nil=>intro h a8;exact a8
  |cons c l aB=>intro h _;exact aB _ (QQ h c)
 exact key l _ (by omega)
theorem PG (o:Option Nat) (l:List UInt8) (σ:al) (aq:bL 1 o σ=some (l.map bD)) (aA:l.length<2^40):
  AC Tryz.prog 159 [.v (.int .u64 14695981039346656037), .own o 1 l.length, .bX (.func 158) [] []] σ (fun e σ'=>e= .ret (.v (.int .u64 (fA l:Int)))∧σ'=σ):=by
 have bn:(l.map bD).length=l.length:=List.length_map ..;cases o with
 |none=>
  have:l=[]:=by
   simp only[bL,Option.some.injEq]at aq;simpa using aq.symm
  subst this;refine AC.bI Tryz.func159 Tryz.ntmps159 fun C ar=> ?_;refine j.J (j.rg [0,1,2] fun K I=> ?_);simp only[go_sem];apply I;refine j.J (j.J (j.rg [0,1,2] fun K I=> ?_));simp only[go_sem];apply I;refine j.aG ?_;refine j.rebase [0,2,9,10,11] ?_;simp only[go_sem];refine j.while (fun(i:Nat) env' aS=>(True)∧env'=[(0, .v (.int .u64 14695981039346656037)),(2, .bX (.func 158) [] []),(9, .own none 1 0),(10, .v (.int .i64 0)),(11, .v (.int .i64 0))]∧σ=aS) (fun(i:Nat)=>0) 0 ⟨trivial,rfl,rfl⟩ ?_;rintro i env' aS ⟨-,rfl,rfl⟩ aB;have cH:=aB;refine j.J (j.rg [0,2,9,10,11] fun K I=> ?_);simp only[go_sem];apply I;refine j.J (j.bJ rfl (j.exit rfl (j.J (j.rg [0] fun K I=> ?_))));simp only[go_sem];apply I;refine j.ret ar Tryz.func159 (by simp[go_sem]) ?_;simp only[go_sem];rfl
 |some b=>
  have ae:av b σ=some (.arr 1 (l.map bD)):=by
   simp only[bL]at aq;split at aq
   ·rename_i s xs af
    split at aq
    ·rename_i aa
     cases aq;subst aa;exact af
    cases aq
   cases aq
  refine AC.bI Tryz.func159 Tryz.ntmps159 fun C ar=> ?_;refine j.J (j.rg [0,1,2] fun K I=> ?_);simp only[go_sem];apply I;refine j.J (j.J (j.rg [0,1,2] fun K I=> ?_));simp only[go_sem];apply I;refine j.aG ?_;refine j.rebase [0,2,9,10,11] ?_;simp only[go_sem];refine j.while (fun(i:Nat) env' aS=>(i≤l.length)∧env'=[(0, .v (.int .u64 (fA (l.take i):Int))),(2, .bX (.func 158) [] []),(9, .own (some b) 1 l.length),(10, .v (.int .i64 (l.length:Int))),(11, .v (.int .i64 (i:Int)))]∧σ=aS) (fun(i:Nat)=>l.length-i) 0 ⟨by omega,rfl,rfl⟩ ?_;rintro i env' aS ⟨hi,rfl,rfl⟩ aB;have cH:=aB;refine j.J (j.rg [0,2,9,10,11] fun K I=> ?_);simp only[go_sem];apply I;refine j.J ?_;refine j.cond rfl (fun e9=> ?_) (fun e9=> ?_)
  ·have aC:i<l.length:=by simpa using e9
   have lP:=b6 bD l i aC;have bf:(0:Int)≤(i:Int):=by omega
   have bp:(i:Int)<(l.length:Int):=by omega
   have eD:=IH l i aC;have fB:∀c,(bD c).cells=[bD c]:=fun _=>rfl;have QX:∀c,(bD c).plain=true:=fun _=>rfl;refine j.aN (j.J (j.aG (j.J (j.rg [0,2,9,10,11] fun K I=> ?_))));simp only[go_sem,lP,bf,bp,ae,bn,aC,fB,QX];apply I;refine j.rg [0,2,8,9,10,11] fun K I=> ?_;simp only[go_sem];refine a1 Tryz.call158 (QP (fA (l.take i)) (vb _) l[i] _) ?_;simp only[go_sem];apply I;refine j.ba (j.rg [0,2,9,10,11] fun K I=> ?_);simp only[go_sem];apply I;refine j.rebase [0,2,9,10,11] ?_;simp only[go_sem];rw[bH i (by omega),←eD];exact aB (i+1) _ _ ⟨by omega,rfl,rfl⟩ (by omega)
  have cC:i=l.length:=by simp at e9;omega
  subst cC;refine j.exit rfl (j.J (j.rg [0] fun K I=> ?_));simp only[go_sem];apply I;refine j.ret ar Tryz.func159 (by simp[go_sem]) ?_;simp only[go_sem];rw[List.take_length]
theorem QR (o:Option Nat) (l:List UInt8) (σ:al) (aq:bL 1 o σ=some (l.map bD)) (aA:l.length<2^40):
  AC Tryz.prog 135 [.own o 1 l.length] σ (fun e σ'=>e= .ret (.v (.int .u64 (fA l:Int)))∧σ'=σ):=by
 refine AC.bI Tryz.func135 Tryz.ntmps135 fun C ar=> ?_;refine j.J (j.rg [0] fun K I=> ?_);simp only[go_sem];apply I;refine j.J (j.rg [0] fun K I=> ?_);simp only[go_sem];apply I;refine j.J (j.rg [0,3] fun K I=> ?_);simp only[go_sem];refine a1 Tryz.call159 (PG o l _ aq aA) ?_;simp only[go_sem];apply I;refine j.ret ar Tryz.func135 (by simp[go_sem]) ?_;simp only[go_sem]
end Go.Ab.S16
namespace Go.Ab
open Go
variable {P : Program} {N : cP} {C : Ctx P N} {todo : List Item} {env : Env} {ρ : al}
theorem PC {cs:List D} (h:∀c∈cs,c.cells=[c]):flat cs=cs:=by
 induction cs with
 |nil=>rfl
 |cons c cs aB=>rw[n_,h c (by simp),aB fun d aw=>h d (by simp[aw])];rfl
theorem j.Ws (k:Nat) {b n:Nat} {cs:List D} (aj:eget k env= .ptr b n 0 0) (ag:∀c∈cs,c.cells=[c]) (h:j C todo (eput k (.ptr b 1 0 0) env) ((b, .arr 1 cs)::ρ)):j C todo env ((b, .arr n [.agg cs])::ρ):=by
 have ah:j C todo env ((b, .arr 1 cs)::ρ):=by
  refine j.pk h fun U=> ?_;rw[j6];split
  ·rename_i aR
   rw[aR,aj];intro w S v ak;cases ak with
   |ptr=>
    have:=@bw.ptr w S b 1 0 0;simpa using this
  exact ca.refl _
 intro a w S aw fp;refine ah a w S aw ⟨fp.env,fun c o ic=> ?_,{fp.fr with fh:=fun c ic=>fp.fr.fh c ?_},fp.size⟩
 ·rw[aW]at ic;by_cases fk:c=b
  ·rw[if_pos fk]at ic;cases ic
   obtain⟨aa,cI,e,lo,hi,vals,ah,aJ,bg,cu,de⟩:=fp.store c (.arr n [.agg cs]) (by rw[aW,if_pos fk]);have bt:flat [D.agg cs]=cs:=by simp[flat,D.cells]
   rw[bt]at aJ;exact⟨aa,cI,e,lo,hi,vals,ah,by rw[PC ag];exact aJ,bg,fun x an=>by rw[ag x an];rfl,de⟩
  rw[if_neg fk]at ic;exact fp.store c o (by rw[aW,if_neg fk];exact ic)
 unfold cq at*;rw[aW]at ic⊢;split at ic<;>simp_all
end Go.Ab
namespace Go.Ab.S16
open Go Go.Proofs
def Bs:List D:=match zc 3 with| .c0 cs=>cs|_=>[]
theorem X5:zc 3= .c0 Bs:=by kernel_rfl
theorem X4:Bs.drop 15= .v (.int .u8 4)::Bs.drop 16:=by kernel_rfl
theorem X6:Bs.length=64:=by kernel_rfl
theorem UN:sP Tryz.prog .neg (.v (.int .u64 16))= .val True (.v (.int .u64 18446744073709551600)):=by kernel_rfl
theorem NI (bz bM:Operand):cF Tryz.prog .and 170 bz bM (.v (.int .u64 16)) (.v (.int .u64 18446744073709551600))= .val True (.v (.int .u64 16)):=by kernel_rfl
theorem UG (bz bM:Operand):cF Tryz.prog .mul 170 bz bM (.v (.int .u64 16)) (.v (.int .u64 285870213051353865))= .val True (.v (.int .u64 4573923408821661840)):=by kernel_rfl
theorem XC (bz bM:Operand):cF Tryz.prog .shr 170 bz bM (.v (.int .u64 4573923408821661840)) (.v (.int .u64 58))= .val True (.v (.int .u64 15)):=by kernel_rfl
theorem YB:IntKind.i64.wrap 4=4:=by rw[IntKind.wrap_i64];omega
theorem Ni:IntKind.u64.wrap 4=4:=by rw[IntKind.wrap_u64];omega
theorem Ge:IntKind.u64.wrap 16=16:=by rw[IntKind.wrap_u64];omega
theorem YC:IntKind.u64.wrap (16-1)=15:=by rw[IntKind.wrap_u64];omega
theorem Yh (σ:al):AC Tryz.prog 214 [.v (.int .u64 16)] σ (fun e σ'=>e= .ret (.v (.int .i64 4))∧σ'=σ):=by
 refine AC.bI Tryz.func214 Tryz.ntmps214 fun C ar=> ?_;refine j.J (j.rg [0] fun K I=> ?_);simp only[go_sem];apply I;refine j.J (j.J (j.rg [0] fun K I=> ?_));simp only[go_sem];apply I;refine j.bJ rfl (j.aN (j.J (j.rg [0] fun K I=> ?_)));simp only[go_sem,UN,NI,UG,XC,X5,X4,X6,YB];refine⟨by decide,by omega, ?_⟩;apply I;refine j.ret ar Tryz.func214 (by simp[go_sem]) ?_;simp only[go_sem]
theorem Yi (σ:al):AC Tryz.prog 207 [.v (.int .u64 16)] σ (fun e σ'=>e= .ret (.v (.int .i64 4))∧σ'=σ):=by
 refine AC.bI Tryz.func207 Tryz.ntmps207 fun C ar=> ?_;refine j.J (j.rg [0] fun K I=> ?_);simp only[go_sem];apply I;refine j.J (j.bJ rfl (j.aN (j.J (j.rg [0] fun K I=> ?_))));simp only[go_sem];refine a1 Tryz.call214 (Yh _) ?_;simp only[go_sem];apply I;refine j.ret ar Tryz.func207 (by simp[go_sem]) ?_;simp only[go_sem]
theorem Vs (σ:al):AC Tryz.prog 206 [.v (.int .i64 16)] σ (fun e σ'=>e= .ret (.v (.bool true))∧σ'=σ):=by
 have aa:IntKind.i64.wrap (16-1)=15:=by rw[IntKind.wrap_i64];omega
 have ah:∀bz bM,cF Tryz.prog .and 3 bz bM (.v (.int .i64 16)) (.v (.int .i64 15))= .val True (.v (.int .i64 0)):=fun bz bM=>by kernel_rfl
 refine AC.bI Tryz.func206 Tryz.ntmps206 fun C ar=> ?_;refine j.J (j.rg [0] fun K I=> ?_);simp only[go_sem];apply I;refine j.J (j.rg [0] fun K I=> ?_);simp only[go_sem,aa,ah];apply I;refine j.ret ar Tryz.func206 (by simp[go_sem]) ?_;simp only[go_sem]
def gg (n:Nat):UInt8:=[48,49,50,51,52,53,54,55,56,57,97,98,99,100,101,102,103,104,105,106,107,108,109,110,111,112,113,114,115,116,117,118,119,120,121,122].getD n 0
def fl (u:Nat):List UInt8:=if h:u<16 then [gg u]else fl (u/16)++[gg (u%16)]
theorem Dm (u:Nat) (h:16≤u):fl u=fl (u/16)++[gg (u%16)]:=by
 rw[fl,dif_neg (by omega)]
theorem xG (u:Nat) (h:u<16):fl u=[gg u]:=by
 rw[fl,dif_pos h]
theorem XD (bz bM:Operand) (v:Nat):cF Tryz.prog .shr 170 bz bM (.v (.int .u64 (v:Int))) (.v (.int .u64 4))= .val True (.v (.int .u64 ((v/16:Nat):Int))):=by
 have h:=GP (P:=Tryz.prog) (T:=170) (x:=bz) (y:=bM) .u64 .u64 (v:Int) 4;have ah:(v:Int).fdiv (2^min 4 IntKind.u64.bits)=((v/16:Nat):Int):=by
  rw[show(2^min 4 IntKind.u64.bits:Int)=16 from rfl,Int.fdiv_eq_ediv_of_nonneg _ (by omega)];omega
 rw[ah]at h;exact h
theorem NH (bz bM:Operand) (u:Nat) (h:u<18446744073709551616):cF Tryz.prog .and 146 bz bM (.v (.int .u64 (u:Int))) (.v (.int .u64 15))= .val True (.v (.int .u64 ((u%16:Nat):Int))):=by
 have ah:IntKind.u64.wrap ((u%2^IntKind.u64.bits&&&15%2^IntKind.u64.bits:Nat):Int)=((u%16:Nat):Int):=by
  rw[show IntKind.u64.bits=64 from rfl,Nat.mod_eq_of_lt (by omega),show 15%2^64=2^4-1 from rfl,Nat.and_two_pow_sub_one_eq_mod,IntKind.wrap_u64];omega
 simp[cF,ifcNil,fQ,cJ,dJ,eqGuard,binOp,Op.intBits,okV,cx,fN];exact ah
theorem NZ (u:Nat) (hu:u<18446744073709551616) (σ:al):AC Tryz.prog 189 [.v (.slice none 0 0), .v (.int .u64 (u:Int)), .v (.int .i64 16), .v (.bool false), .v (.bool false)] σ (fun e σ'=>e= .ret (.bd [.v (.slice none 0 0), .v (.string ⟨(fl u).toArray⟩)])∧σ'=σ):=by
 refine AC.still ?_ σ;refine AC.forget (R:=fun e _=>e= .ret (.bd [.v (.slice none 0 0), .v (.string ⟨(fl u).toArray⟩)])) ?_ fun e σ' h=>⟨[],aQ.nil _,h,rfl⟩;refine AC.bI Tryz.func189 Tryz.ntmps189 fun C ar=> ?_;refine j.J (j.rg [0,1,2,3,4] fun K I=> ?_);simp only[go_sem];apply I;refine j.J (j.J (j.rg [0,1,2,3,4,10,11] fun K I=> ?_));simp only[go_sem];apply I;refine j.bJ rfl (j.aN (j.J (j.rg [0,1,2,3,4,10,11] fun K I=> ?_)));simp only[go_sem];refine⟨?_,fun wQ=> ?_⟩
 ·simp[D.cell,D.cells]
 apply I;refine j.Ws 12 rfl (by simp[D.cells]) ?_;change j C _ _ [(wQ, .arr 1 ((List.replicate 65 (0:UInt8)).map bD))];obtain⟨dL,tY,Ti⟩:∃xs:List UInt8,List.replicate 65 (0:UInt8)=xs∧xs.length=65:=⟨_,rfl,rfl⟩;rw[tY];refine j.J (j.rg [0,1,2,3,4,10,11,12] fun K I=> ?_);simp only[go_sem];apply I;refine j.J (j.J (j.rg [0,1,2,3,4,10,11,12,13] fun K I=> ?_));simp only[go_sem];apply I;refine j.bJ rfl (j.aN (j.J (j.J (j.rg [0,1,2,3,4,10,11,12,13] fun K I=> ?_))));simp only[go_sem];refine a1 Tryz.call206 (Vs _) ?_;simp only[go_sem];apply I;refine j.bZ rfl (j.J (j.rg [0,1,2,3,4,10,11,12,13] fun K I=> ?_));simp only[go_sem,Ge,Ni];refine a1 Tryz.call207 (Yi _) ?_;simp only[go_sem,Ni];apply I;refine j.J (j.rg [0,1,2,3,4,10,11,12,13,14] fun K I=> ?_);simp only[go_sem,Ge];apply I;refine j.J (j.rg [0,1,2,3,4,10,11,12,13,14,15] fun K I=> ?_);simp only[go_sem,Ge,YC];apply I;refine j.J (j.aG ?_);refine j.rebase [0,1,3,4,10,11,12,13,14,15,16] ?_;simp only[go_sem];refine j.while (fun(v:Nat) env' aS=>∃i:Nat,∃xs:List UInt8,(50≤i∧i≤65∧xs.length=65∧v<16^(i-49)∧fl v++xs.drop i=fl u)∧env'=[(0, .v (.slice none 0 0)),(1, .v (.int .u64 (v:Int))),(3, .v (.bool false)),(4, .v (.bool false)),(10, .v (.slice none 0 0)),(11, .v (.string ⟨#[]⟩)),(12, .ptr wQ 1 0 0),(13, .v (.int .i64 (i:Int))),(14, .v (.int .u64 4)),(15, .v (.int .u64 16)),(16, .v (.int .u64 15))]∧aS=[(wQ, .arr 1 (xs.map bD))]) (fun(v:Nat)=>v) u ⟨65,dL,⟨by omega,by omega,Ti,by simpa using hu,by rw[List.drop_of_length_le (by omega),List.append_nil]⟩,rfl,rfl⟩ ?_
 rintro v env' aS ⟨i,xs,⟨bp,kG,iP,ak,cT⟩,rfl,rfl⟩ aB;have cH:=aB;have ac0:16^(i-49)≤16^16:=Nat.pow_le_pow_right (by omega) (by omega);have S6:v<18446744073709551616:=by omega
 have J':IntKind.i64.wrap ((i:Int)-1)=((i-1:Nat):Int):=by rw[IntKind.wrap_i64];omega
 have bb:=fun bz bM=>NH bz bM v S6;have dW:(xs.map bD).length=65:=by rw[List.length_map,iP]
 have oB:((i-1:Nat):Int)<65:=by omega
 have bf:(0:Int)≤((i-1:Nat):Int):=by omega
 have jm:i-1<65:=by omega
 refine j.J (j.J (j.rg [0,1,3,4,10,11,12,13,14,15,16] fun K I=> ?_));simp only[go_sem];apply I;refine j.cond rfl (fun rK=> ?_) (fun rK=> ?_)
 ·have dQ:16≤v:=by
   have:(16:Int)≤(v:Int):=by simpa using rK
   omega
  have vj:(bD (gg (v%16)))=D.v (Value.int .u8 ((gg (v%16)).toNat:Int)):=rfl;have x9:i-1<xs.length:=by omega
  have np:((xs.map bD).getD (i-1) .any)= .v (.int .u8 (xs[i-1].toNat:Int)):=b6 bD xs (i-1) x9;have SH:=fun bz bM=>XD bz bM v;refine j.aN (j.aG (j.J (j.rg [0,1,3,4,10,11,12,13,14,15,16] fun K I=> ?_)));simp only[go_sem,J'];apply I;refine j.J (j.rg [0,1,3,4,10,11,12,13,14,15,16] fun K I=> ?_);simp only[go_sem,bb,dW,oB,bf,jm,Nat.zero_add,np];refine⟨⟨by omega,by
   show _<((36:Nat):Int)
   omega⟩,oB, ?_⟩
  apply I;change j C _ _ [(wQ, .arr 1 ((xs.map bD).set (i-1) (bD (gg (v%16)))))];have gp:(xs.map bD).set (i-1) (bD (gg (v%16)))=(xs.set (i-1) (gg (v%16))).map bD:=by rw[List.map_set]
  rw[gp];refine j.rg [0,1,3,4,10,11,12,13,14,15,16] fun K I=> ?_;simp only[go_sem,SH];apply I;refine j.ba ?_;refine j.rebase [0,1,3,4,10,11,12,13,14,15,16] ?_;simp only[go_sem];have qN:v/16<16^(i-1-49):=by
   rw[Nat.div_lt_iff_lt_mul (by omega),←Nat.pow_succ];rw[show(i-1-49).succ=i-49 by omega];exact ak
  have RI:50≤i-1:=by
   rcases Nat.lt_or_ge i 51 with h|h
   ·have:i-49=1:=by omega
    rw[this]at ak;omega
   omega
  refine aB (v/16) _ _ ⟨i-1,xs.set (i-1) (gg (v%16)),⟨RI,by omega,by rw[List.length_set,iP],qN, ?_⟩,rfl,rfl⟩ (by omega);rw[←cT,Dm v dQ,List.append_assoc];congr 1
  rw[List.drop_eq_getElem_cons (by rw[List.length_set];exact x9),List.getElem_set_self,List.drop_set_of_lt (by omega),show i-1+1=i by omega];rfl
 have RX:v<16:=by
  have:¬(16:Int)≤(v:Int):=by simpa using rK
  omega
 have x9:i-1<xs.length:=by omega
 have np:((xs.map bD).getD (i-1) .any)= .v (.int .u8 (xs[i-1].toNat:Int)):=b6 bD xs (i-1) x9;refine j.exit rfl (j.J (j.rg [0,1,3,4,10,11,12,13] fun K I=> ?_));simp only[go_sem,J'];apply I;refine j.rg [0,1,3,4,10,11,12,13] fun K I=> ?_;simp only[go_sem,dW,oB,bf,jm,Nat.zero_add,np];refine⟨⟨by omega,by
  show _<((36:Nat):Int)
  omega⟩,oB, ?_⟩
 apply I;change j C _ _ [(wQ, .arr 1 ((xs.map bD).set (i-1) (bD (gg v))))];have gp:(xs.map bD).set (i-1) (bD (gg v))=(xs.set (i-1) (gg v)).map bD:=by rw[List.map_set]
 rw[gp];have hT:(xs.set (i-1) (gg v)).drop (i-1)=fl u:=by
  rw[←cT,xG v RX,List.drop_eq_getElem_cons (by rw[List.length_set];exact x9),List.getElem_set_self,List.drop_set_of_lt (by omega),show i-1+1=i by omega];rfl
 obtain⟨ys,oP,Tn⟩:∃ys:List UInt8,xs.set (i-1) (gg v)=ys∧ys.length=65:=⟨_,rfl,by rw[List.length_set,iP]⟩;rw[oP]at hT⊢;refine j.J (j.J (j.rg [0,3,4,10,11,12,13] fun K I=> ?_));simp only[go_sem];apply I;refine j.bJ rfl (j.aN (j.J (j.J (j.rg [0,4,10,11,12,13] fun K I=> ?_))));simp only[go_sem];apply I;refine j.bJ rfl (j.aN (j.J (j.rg [10,12,13] fun K I=> ?_)));simp only[go_sem];have To:(ys.map bD).length=65:=by rw[List.length_map,Tn]
 refine⟨⟨bf,by omega,by omega,by omega⟩,⟨fun x an=> ?_,by omega⟩, ?_⟩
 ·obtain⟨c,_,rfl⟩:=List.mem_map.1 an;have:=c.toNat_lt;simp only[bD,decide_eq_true_eq];omega
 have ae:bytesOf (List.take (((65:Nat):Int)-((i-1:Nat):Int)).toNat (List.drop (0+(i-1)) (ys.map bD)))=⟨(fl u).toArray⟩:=by
  rw[Nat.zero_add,List.take_of_length_le (by rw[List.length_drop,To];omega),←List.map_drop,hT];exact GU _
 rw[ae];apply I;refine j.ret ar Tryz.func189 (by simp[go_sem]) ?_;simp only[go_sem]
theorem Tu (u:Nat) (hu:u<18446744073709551616) (σ:al):AC Tryz.prog 157 [.v (.int .u64 (u:Int)), .v (.int .i64 16)] σ (fun e σ'=>e= .ret (.v (.string ⟨(fl u).toArray⟩))∧σ'=σ):=by
 refine AC.bI Tryz.func157 Tryz.ntmps157 fun C ar=> ?_;refine j.J (j.rg [0,1] fun K I=> ?_);simp only[go_sem];apply I;refine j.J (j.J (j.rg [0,1] fun K I=> ?_));simp only[go_sem];apply I;refine j.bJ rfl (j.aN (j.J (j.rg [0,1] fun K I=> ?_)));simp only[go_sem];refine a1 Tryz.call189 (NZ u hu _) ?_;simp only[go_sem];apply I;refine j.J (j.rg [8] fun K I=> ?_);simp only[go_sem];apply I;refine j.ret ar Tryz.func157 (by simp[go_sem]) ?_;simp only[go_sem]
theorem PF (u:Nat) (hu:u<18446744073709551616) (σ:al):AC Tryz.prog 134 [.v (.int .u64 (u:Int)), .v (.int .i64 16)] σ (fun e σ'=>e= .ret (.v (.string ⟨(fl u).toArray⟩))∧σ'=σ):=by
 refine AC.bI Tryz.func134 Tryz.ntmps134 fun C ar=> ?_;refine j.J (j.rg [0,1] fun K I=> ?_);simp only[go_sem];apply I;refine j.J (j.rg [0,1] fun K I=> ?_);simp only[go_sem];refine a1 Tryz.call157 (Tu u hu _) ?_;simp only[go_sem];apply I;refine j.ret ar Tryz.func134 (by simp[go_sem]) ?_;simp only[go_sem]
theorem I8:∀(k u:Nat),u<16^(k+1)→1≤(fl u).length∧(fl u).length≤k+1
 |0,u,h=>by
  rw[xG u (by simpa using h)];simp
 |k+1,u,h=>by
  by_cases af:u<16
  ·rw[xG u af];simp
  have ah:=I8 k (u/16) (by rw[Nat.div_lt_iff_lt_mul (by omega),←Nat.pow_succ];exact h);rw[Dm u (by omega),List.length_append];simp only[List.length_singleton];omega
def o9 (l:List UInt8):List UInt8:=List.replicate (16-(fl (fA l)).length) 48++fl (fA l)++[10]
def ff (decl:List ByteArray) (files:List ay):List ByteArray→List UInt8→Option (List UInt8)
 |[],out=>some out
 |n::r,out=>(h7 decl files n).bind fun b=>ff decl files r (out++b)
def uB (decl:List ByteArray) (files:List ay) (args:List ByteArray):Option (List UInt8):=if args.length>0 then(ff decl files args []).map o9 else none
theorem repeatL_one (c:Nat):Lib.repeatL ([48]:List UInt8) c=List.replicate c 48:=by
 induction c with
 |zero=>rfl
 |succ c aB=>rw[Lib.repeatL,aB,List.replicate_succ];rfl
theorem wc (bz bM:Operand) (a b:List UInt8) (h:a.length+b.length<2^60):cF Tryz.prog .add 9 bz bM (.v (.string ⟨a.toArray⟩)) (.v (.string ⟨b.toArray⟩))= .val True (.v (.string ⟨(a++b).toArray⟩)):=by
 have af:∀l:List UInt8,(⟨l.toArray⟩:ByteArray).size=l.length:=fun l=>by
  show l.toArray.size=_
  simp
 have aa:=GO (P:=Tryz.prog) (T:=9) (x:=bz) (y:=bM) ⟨a.toArray⟩ ⟨b.toArray⟩ (by rw[af,af];omega);rw[aa];have ah:(⟨a.toArray⟩:ByteArray)++⟨b.toArray⟩=⟨(a++b).toArray⟩:=by
  have:∀x y:ByteArray,x.data=y.data→x=y:=fun x y h=>by cases x;cases y;cases h;rfl
  apply this;rw[ByteArray.data_append];simp
 rw[ah]
theorem X3 (args decl:List ByteArray) (files:List ay) (found:D) (many:Int) (az:Nat) (σ:al) (ag:av az σ=some (dU args decl files found many)) (aA:files.length<2^31) (ae:∀f∈files,f.b.length<2^20) (aw:decl.length<2^40) (bb:args.length<2^16):
  AC Tryz.prog 108 [.ptr az 5 0 0] σ (pa (uB decl files args) (q3 σ) σ):=by
 have e_:(args.map ab).length=args.length:=List.length_map ..;have pz:∀f∈files,f.b.length<2^40:=fun f ax=>Nat.lt_trans (ae f ax) (by decide);have ic:=ag;unfold dU at ag;refine AC.bI Tryz.func108 Tryz.ntmps108 fun C ar=> ?_;rcases Nat.eq_zero_or_pos args.length with bj|qE
 ·have qM:uB decl files args=none:=by unfold uB;rw[if_neg (show¬args.length>0 by omega)]
  have lN:decide ((args.length:Int)>0)=false:=decide_eq_false (by omega);rw[qM]at ar;refine j.J (j.rg [0] fun K I=> ?_);simp only[go_sem];apply I;refine j.J (j.rg [0] fun K I=> ?_);simp only[go_sem,ag,e_,lN];refine⟨_,Tryz.call81,(eE false _).mono ?_⟩;rintro e σ1 ⟨rfl,rfl⟩;simp only[go_sem];exact cK.of ar Tryz.func108 ⟨rfl,aQ.refl _⟩
 have qM:uB decl files args=(ff decl files args []).map o9:=by unfold uB;rw[if_pos qE]
 have lN:decide ((args.length:Int)>0)=true:=decide_eq_true (by omega);rw[qM]at ar;refine j.J (j.rg [0] fun K I=> ?_);simp only[go_sem];apply I;refine j.J (j.rg [0] fun K I=> ?_);simp only[go_sem,ag,e_,lN];refine⟨_,Tryz.call81,(eE true _).mono ?_⟩;rintro e σ1 ⟨rfl,rfl⟩;simp only[go_sem];apply I;refine j.J (j.rg [0] fun K I=> ?_);simp only[go_sem];apply I;refine j.J (j.J (j.rg [0,3] fun K I=> ?_));simp only[go_sem,ag,e_];apply I;refine j.aG (j.im 3 1 rfl ?_);refine j.rebase [0,3,17,18,19] ?_;simp only[go_sem];refine j.while (fun(i:Nat) env' aS=>∃o:Option Nat,∃out:List UInt8,(i≤args.length∧aV o 1 (out.map bD) σ1∧ff decl files (args.drop i) out=ff decl files args []∧out.length≤i*2^20)∧env'=[(0, .ptr az 5 0 0),(3, .own o 1 out.length),(17, .ai (args.map ab)),(18, .v (.int .i64 (args.length:Int))),(19, .v (.int .i64 (i:Int)))]∧aS=cellsOf o 1 (out.map bD)++σ1) (fun(i:Nat)=>args.length-i) 0 ⟨none,[],⟨by omega,aV.nil _ _,rfl,by simp⟩,rfl,rfl⟩ ?_;rintro i env' aS ⟨o,out,⟨hi,aT,cT,kf⟩,rfl,rfl⟩ aB;have cH:=aB;have acy:out.length≤2^36:=Nat.le_trans kf (Nat.le_trans (Nat.mul_le_mul_right _ (show i≤2^16 by omega)) (by decide));refine j.J (j.rg [0,3,17,18,19] fun K I=> ?_);simp only[go_sem];apply I;refine j.J ?_;refine j.cond rfl (fun oe=> ?_) (fun oe=> ?_)
 ·have aC:i<args.length:=by simpa using oe
  have aq:=b6 ab args i aC;rw[ab]at aq;have bf:(0:Int)≤(i:Int):=by omega
  have bp:(i:Int)<((args.map ab).length:Int):=by omega
  have rS:=aT.keep ic;have ot:=BU args decl files found many az args[i] _ rS aA pz aw;have dW:(out.map bD).length=out.length:=List.length_map ..;have cv:List.take out.length (out.map bD)=out.map bD:=List.take_of_length_le (by omega);rw[List.drop_eq_getElem_cons aC,ff]at cT;refine j.aN (j.J (j.aG (j.J (j.rg [0,3,17,18,19] fun K I=> ?_))));simp only[go_sem,aq,bf,bp];apply I;rcases k7:h7 decl files args[i]with _|aY;all_goals rw[k7]at ot cT
  ·refine j.rg [0,3,5,17,18,19] fun K I=> ?_;simp only[go_sem];refine⟨_,Tryz.call133,ot.mono ?_⟩;rintro e mc ⟨rfl,gq⟩;simp only[go_sem];exact cK.of ar Tryz.func108 (by rw[←cT];exact⟨rfl,fun b x ae=>gq b x (aT.sle b x ae)⟩)
  have dD:=BT ae k7;rw[Option.bind_some]at cT;refine j.rg [0,3,5,17,18,19] fun K I=> ?_;simp only[go_sem];refine⟨_,Tryz.call133,ot.mono ?_⟩;rintro e mc ⟨dI,b7,rfl,rfl⟩;have aH:=zy aT b7;have hS:=zz aT b7;have fZ:=b7.bL;have oG:(aY.map bD).length=aY.length:=List.length_map ..;have tT:List.take (aY.map bD).length (aY.map bD)=aY.map bD:=List.take_of_length_le (Nat.le_refl _);simp only[go_sem,aH,hS,fZ,cv,tT,Nat.le_refl];refine⟨⟨by omega,nG _,by omega,by omega⟩,fun ob aO ax=> ?_⟩;have ch:aV ob 1 (out.map bD++aY.map bD) (cellsOf dI 1 (aY.map bD)++σ1):=⟨ax,aO⟩;have cW:aV dI 1 (aY.map bD) σ1:=⟨fun c ag=>by
   have de:=b7.fresh c ag;cases o with
   |none=>exact de
   |some k=>
    change av c ((k,_)::σ1)=none at de;exact(eF de).2,b7.zero⟩
  have dz:=xg ch cW;rw[←List.map_append]at dz⊢;apply I;refine j.le (cn.refl _) dz.2 ?_;refine j.ba (j.rg [0,3,17,18,19] fun K I=> ?_);simp only[go_sem];apply I;refine j.rebase [0,3,17,18,19] ?_;simp only[go_sem];rw[bH i (by omega)];refine aB (i+1) _ _ ⟨ob,out++aY,⟨by omega,dz.1,cT,by rw[List.length_append];omega⟩, ?_,rfl⟩ (by omega);simp only[List.length_append,List.length_map]
 have cC:i=args.length:=by simp at oe;omega
 subst cC;rw[List.drop_length,ff]at cT;have dW:(out.map bD).length=out.length:=List.length_map ..;have Jq:=I8 15 (fA out) (vb out);refine j.exit rfl (j.J (j.rg [3] fun K I=> ?_));simp only[go_sem];refine⟨_,Tryz.call135,(QR o out _ aT.bL (by omega)).mono ?_⟩;rintro e σ1 ⟨rfl,rfl⟩;simp only[go_sem];refine⟨_,Tryz.call134,(PF (fA out) (vb out) _).mono ?_⟩;rintro e σ1 ⟨rfl,rfl⟩;simp only[go_sem];apply I;refine j.J ?_;have bU:(⟨(fl (fA out)).toArray⟩:ByteArray).size=(fl (fA out)).length:=by
  show(fl (fA out)).toArray.size=_
  simp
 have iN:IntKind.i64.wrap (16-((fl (fA out)).length:Int))=((16-(fl (fA out)).length:Nat):Int):=by rw[IntKind.wrap_i64];omega
 have C9:=fun bz bM=>wc bz bM (Lib.repeatL [48] (16-(fl (fA out)).length)) (fl (fA out)) (by rw[repeatL_one,List.length_replicate];omega);have u':=fun bz bM=>wc bz bM (Lib.repeatL [48] (16-(fl (fA out)).length)++fl (fA out)) [10] (by rw[repeatL_one,List.length_append,List.length_replicate];simp only[List.length_singleton];omega);refine j.rg [6] fun K I=> ?_;simp only[go_sem,bU,iN];refine⟨_,Tryz.call136,(Wq ⟨#[48]⟩ (16-(fl (fA out)).length) _ (by omega) (by show 1*_≤_;omega)).mono ?_⟩;rintro e σ1 ⟨rfl,rfl⟩;simp only[go_sem,C9,u'];have aL:Lib.repeatL [48] (16-(fl (fA out)).length)++fl (fA out)++[10]=o9 out:=by rw[repeatL_one];rfl
 rw[aL];have gq:(o9 out).length≤33:=by unfold o9;simp only[List.length_append,List.length_replicate,List.length_singleton];omega
 have S2:(o9 out).toArray.size=((o9 out).map bD).length:=by simp
 rw[S2];refine⟨by rw[List.length_map];omega,fun b QW=> ?_⟩;have eS:aV (some b) 1 ((o9 out).map bD) (cellsOf o 1 (out.map bD)++σ1):=⟨fun c ag=>by cases ag;exact QW,nofun⟩;have dz:=xg eS aT;apply I;refine j.le (cn.refl _) dz.2 ?_;refine j.ret ar Tryz.func108 (by simp[go_sem]) ?_;simp only[go_sem];rw[←cT];exact⟨some b,dz.1,rfl,rfl⟩
def hq:List (Value×D):=
 il (.string ⟨#[102,97,105,108]⟩) (.bX (.func 111) [] [])
  (il (.string ⟨#[105,110,99]⟩) (.bX (.func 110) [] [])
   (il (.string ⟨#[112,117,116]⟩) (.bX (.func 109) [] [])
    (il (.string ⟨#[115,117,109]⟩) (.bX (.func 108) [] [])
     (il (.string ⟨#[114,101,118]⟩) (.bX (.func 107) [] [])
      (il (.string ⟨#[99,97,116]⟩) (.bX (.func 106) [] []) [])))))
def wC (l:List (Value×D)):Prop:=∀e∈l,∃s,e.1= .string s
theorem Gv:wC []:=fun e he=>by cases he
theorem sr (s:ByteArray) (d:D):∀{l:List (Value×D)},wC l→wC (il (.string s) d l)
 |[],_=>fun e he=>by
  change e∈[(Value.string s,d)]at he;simp only[List.mem_singleton]at he;exact⟨s,by rw[he]⟩
 |(k,v)::r,h=>fun e he=>by
  rw[il]at he;split at he
  ·rcases List.mem_cons.1 he with he|he
   ·exact⟨s,by rw[he]⟩
   exact h e (by simp[he])
  rcases List.mem_cons.1 he with he|he
  ·exact⟨_,by rw[he];exact(h (k,v) (by simp)).choose_spec⟩
  exact sr s d (fun e he=>h e (by simp[he])) e he
theorem uK {l:List (Value×D)} (h:wC l) (s:ByteArray):∀e∈l,kK .string (.string s) e.1=true:=fun e he=>by
 obtain⟨t,bc⟩:=h e he;rw[bc];rfl
theorem Yu:wC hq:=sr _ _ (sr _ _ (sr _ _ (sr _ _ (sr _ _ (sr _ _ Gv)))))
theorem Bx (σ:al):AC Tryz.prog 80 [] σ (fun e σ'=>∃b1,av b1 σ=none∧e= .ret (.map b1)∧σ'=(b1, .mp hq)::σ):=by
 refine AC.bI Tryz.func80 Tryz.ntmps80 fun C ar=> ?_;refine j.J (j.rg [] fun K I=> ?_);simp only[go_sem];apply I;refine j.J (j.rg [] fun K I=> ?_);simp only[go_sem];intro b1 hg;refine⟨rfl,⟨rfl,uK ?_ _⟩,⟨rfl,uK ?_ _⟩,⟨rfl,uK ?_ _⟩,⟨rfl,uK ?_ _⟩,⟨rfl,uK ?_ _⟩, ?_⟩;iterate 5 (rotate_left)
 apply I;rotate_left
 all_goals first|(repeat (first|exact Gv|apply sr));done|skip
 refine j.ret ar Tryz.func80 (by simp[go_sem]) ?_;simp only[go_sem];exact⟨b1,hg,rfl,rfl⟩
theorem OL (g:FuncId) (cg:List D) (p:ay→Bool) (ρ:al) (bc:sO cg g p [] ρ):
  AC Tryz.prog 38 [.own none 2 0, .bX (.func g) [] cg] ρ (fun e σ'=>e= .ret (.own none 2 0)∧σ'=ρ):=by
 have oB:=(EA [] g cg p ρ (by simp) bc).uL (args:=[.own none 2 0, .bX (.func g) [] cg]) (fun w S vs h=>by
  obtain⟨v,vs,rfl,aa,ah⟩:=h.cons_inv;exact .cons (ca.l5 _ _ _ _ _ aa) ah)
 refine AC.bI Tryz.func38 Tryz.ntmps38 fun C ar=> ?_;refine j.J (j.rg [0,1] fun K I=> ?_);simp only[go_sem];apply I;refine j.J (j.rg [0,1] fun K I=> ?_);simp only[go_sem];refine a1 Tryz.call65 oB ?_;simp only[go_sem];apply I;refine j.J (j.J (j.rg [0,1,5] fun K I=> ?_));simp only[go_sem];apply I;refine j.bZ rfl (j.J (j.rg [0] fun K I=> ?_));simp only[go_sem];apply I;refine j.ret ar Tryz.func38 (by simp[go_sem]) ?_;simp only[go_sem]
theorem Hk (o:Option Nat) (l:List ay) (g:FuncId) (cg:List D) (p:ay→Bool) (ρ:al) (aA:l.length<2^40) (aq:aV o 2 (l.map ay.d) ρ) (bc:∀τ,aQ ρ τ→sO cg g p l τ):
  AC Tryz.prog 38 [.own o 2 l.length, .bX (.func g) [] cg] (cellsOf o 2 (l.map ay.d)++ρ)
   (fun e σ'=>e= .ret (.own o 2 (kept p l).length)∧σ'=cellsOf o 2 ((kept p l).map ay.d)++ρ∧aV o 2 ((kept p l).map ay.d) ρ):=by
 cases o with
 |none=>
  have:l=[]:=by have:=aq.zero rfl;simpa using this
  subst this;refine(OL g cg p ρ (bc ρ (aQ.refl ρ))).mono ?_;rintro e σ' ⟨rfl,rfl⟩;exact⟨rfl,rfl,aV.nil _ _⟩
 |some b=>
  refine(OK b l g cg p ρ aA (aq.fresh b rfl) bc).cut ?_;rintro e σ' ⟨rfl,k,rfl⟩;exact .inr ⟨b,2,_,_,ρ,rfl,rfl,rfl,⟨aq.fresh,nofun⟩⟩
def lY (g:b9) (l:List ay) (f:ByteArray):Bool:= !(cE g.mks f).isSome&& !(findF l f).isSome
theorem zb (g:b9) (mb pg GQ:Nat) (l:List ay) (a7:List ByteArray) (σ:al) (hm:av mb σ=some (.mp (dG g.mks))) (aa:av pg σ=some (.arr 1 [g.d mb])) (ah:av GQ σ=some (.arr 1 [.ai (l.map ay.d)])) (aA:l.length<2^31) (ae:∀f∈l,f.b.length<2^40):
  nY [.ptr pg 1 0 0, .ptr GQ 1 0 0] 32 (lY g l) a7 σ:=by
 refine⟨Tryz.call32,fun f _=> ?_⟩;have fm:=Cz g mb f σ hm;have eK:g.d mb= .c0 (g.cells mb):=rfl;rw[eK]at fm aa;have lO:=Pv l f σ aA ae;have hD:∀o:Option (List UInt8),∃x,findD o= .bd [.ai x, .v (.bool o.isSome)]:=fun o=>by cases o<;>exact⟨_,rfl⟩
 obtain⟨x,an⟩:=hD (findF l f);rw[an]at lO;refine AC.bI Tryz.func32 Tryz.ntmps32 fun C ar=> ?_;refine j.J (j.rg [0,1,2] fun K I=> ?_);simp only[go_sem];apply I;refine j.J (j.rg [0,1,2] fun K I=> ?_);simp only[go_sem,ab,aa];refine a1 Tryz.call33 fm ?_;simp only[go_sem];apply I;refine j.J (j.rg [0,2,6] fun K I=> ?_);simp only[go_sem,ah,ab];refine a1 Tryz.call27 lO ?_;simp only[go_sem];apply I;refine j.J ?_;rcases Bool.eq_false_or_eq_true (cE g.mks f).isSome with af|af
 ·refine j.rg [6,8] fun K I=> ?_;simp only[go_sem,af];apply I;refine j.ret ar Tryz.func32 (by simp[go_sem]) ?_;simp only[go_sem];unfold lY;rw[af];simp
 refine j.rg [6,8] fun K I=> ?_;simp only[go_sem,af];apply I;refine j.ret ar Tryz.func32 (by simp[go_sem]) ?_;simp only[go_sem];unfold lY;rw[af];simp
def sY (g:b9) (n:Nat) (f:ay):Bool:= !(if(cE g.mks f.name).isSome then(kV g n).contains f.name else !kn f.name)
theorem Pj (g:b9) (aq:g.Ok) (mb pg BX n:Nat) (au:n<g.aU.edges.length) (l:List ay) (σ:al) (hm:av mb σ=some (.mp (dG g.mks))) (aa:av pg σ=some (.arr 1 [g.d mb])) (ah:av BX σ=some (.arr 1 [a_ n])) (bU:∀f∈l,f.name.size<2^40):
  sO [.ptr pg 1 0 0, .ptr BX 1 0 0] 37 (sY g n) l σ:=by
 refine⟨Tryz.call37,fun f ax=> ?_⟩;refine AC.forget (R:=fun e σ'=>e= .ret (.v (.bool (sY g n f)))∧aQ σ σ') ?_ fun e σ' h=>⟨σ,h.2,h.1,rfl⟩;have eK:g.d mb= .c0 (g.cells mb):=rfl;rw[eK]at aa;unfold ay.d;refine AC.bI Tryz.func37 Tryz.ntmps37 fun C ar=> ?_;refine j.J (j.rg [0,1,2] fun K I=> ?_);simp only[go_sem];intro b3 dP;have jr:pg≠b3:=fun e=>by rw[e,dP]at aa;cases aa
 have iK:BX≠b3:=fun e=>by rw[e,dP]at ah;cases ah
 have r9:mb≠b3:=fun e=>by rw[e,dP]at hm;cases hm
 have SW:=X' g aq mb n au f.name (bU f ax) ((b3, .arr 2 [.agg [.v (.string f.name), .ai (f.b.map bD)]])::σ) (by rw[aW,if_neg r9];exact hm);apply I;refine j.J (j.rg [1,2,3] fun K I=> ?_);simp only[go_sem,jr,iK,aa,ah];refine a1 Tryz.call23 SW ?_;simp only[go_sem];apply I;refine j.ret ar Tryz.func37 (by simp[go_sem]) ?_;simp only[go_sem];exact⟨rfl,fO (aQ.refl _) dP⟩
def sv (g:b9) (f:ay):Bool:=(cE g.mks f.name).isSome||kn f.name
theorem Pk (g:b9) (mb pg:Nat) (l:List ay) (σ:al) (hm:av mb σ=some (.mp (dG g.mks))) (aa:av pg σ=some (.arr 1 [g.d mb])) (bU:∀f∈l,f.name.size<2^40):
  sO [.ptr pg 1 0 0] 40 (sv g) l σ:=by
 refine⟨Tryz.call40,fun f ax=> ?_⟩;refine AC.forget (R:=fun e σ'=>e= .ret (.v (.bool (sv g f)))∧aQ σ σ') ?_ fun e σ' h=>⟨σ,h.2,h.1,rfl⟩;have eK:g.d mb= .c0 (g.cells mb):=rfl;rw[eK]at aa;unfold ay.d;refine AC.bI Tryz.func40 Tryz.ntmps40 fun C ar=> ?_;refine j.J (j.rg [0,1] fun K I=> ?_);simp only[go_sem];intro b3 dP;have jr:pg≠b3:=fun e=>by rw[e,dP]at aa;cases aa
 have r9:mb≠b3:=fun e=>by rw[e,dP]at hm;cases hm
 have fm:=Cz g mb f.name ((b3, .arr 2 [.agg [.v (.string f.name), .ai (f.b.map bD)]])::σ) (by rw[aW,if_neg r9];exact hm);rw[eK]at fm;apply I;refine j.J (j.rg [1,2] fun K I=> ?_);simp only[go_sem,jr,aa];refine a1 Tryz.call33 fm ?_;simp only[go_sem];apply I;refine j.J ?_;rcases Bool.eq_false_or_eq_true (cE g.mks f.name).isSome with af|af
 ·refine j.rg [2,5] fun K I=> ?_;simp only[go_sem,af];apply I;refine j.ret ar Tryz.func40 (by simp[go_sem]) ?_;simp only[go_sem];unfold sv;rw[af];exact⟨by simp,fO (aQ.refl _) dP⟩
 refine j.rg [2,5] fun K I=> ?_;simp only[go_sem,af];refine a1 Tryz.call18 (E9 f.name _ (bU f ax)) ?_;simp only[go_sem];apply I;refine j.ret ar Tryz.func40 (by simp[go_sem]) ?_;simp only[go_sem];unfold sv;rw[af];exact⟨by simp,fO (aQ.refl _) dP⟩
def gN (s:ByteArray):List ByteArray→List ByteArray
 |[]=>[s]
 |x::r=>if a' x<a' s then x::gN s r else if x=s then x::r else s::x::r
theorem LK {s:ByteArray} {l:List ByteArray}:∀{i:Nat},i≤l.length→(∀x∈l.take i,a' x<a' s)→gN s l=l.take i++gN s (l.drop i):=by
 intro i hi h;induction l generalizing i with
 |nil=>simp
 |cons x r aB=>
  cases i with
  |zero=>simp
  |succ i=>
   have an:a' x<a' s:=h x (by simp);rw[gN,if_pos an,aB (by simpa using hi) (fun y aF=>h y (by simp[aF]))];simp
theorem VG (l:List ByteArray) (s:ByteArray) (σ:al) (aA:l.length<2^40):
  AC Tryz.prog 59 [.ai (l.map ab), .v (.string s)] σ (fun e σ'=>(e= .ret (.ai ((gN s l).map ab))∧σ'=σ)∨∃o,aV o 1 ((gN s l).map ab) σ∧e= .ret (.own o 1 ((gN s l).map ab).length)∧σ'=cellsOf o 1 ((gN s l).map ab)++σ):=by
 have bn:(l.map ab).length=l.length:=List.length_map ..;have nw:∀i,(List.take i (l.map ab)).length=min i l.length:=fun i=>by rw[List.length_take,bn]
 refine AC.bI Tryz.func59 Tryz.ntmps59 fun C ar=> ?_;refine j.J (j.rg [0,1] fun K I=> ?_);simp only[go_sem];apply I;refine j.J (j.rg [0,1] fun K I=> ?_);simp only[go_sem];apply I;refine j.J (j.aG ?_);refine j.rebase [0,1,5] ?_;simp only[go_sem];refine j.while (fun(i:Nat) env' aS=>(i≤l.length∧∀x∈l.take i,a' x<a' s)∧env'=[(0, .ai (l.map ab)),(1, .v (.string s)),(5, .v (.int .i64 (i:Int)))]∧σ=aS) (fun(i:Nat)=>l.length-i) 0 ⟨⟨by omega,by simp⟩,rfl,rfl⟩ ?_;rintro i env' aS ⟨⟨hi,b0⟩,rfl,rfl⟩ aB;have cH:=aB;refine j.J (j.J ?_);rcases Nat.lt_or_ge i l.length with aC|dQ
 ·have aw:decide ((i:Int)<(l.length:Int))=true:=decide_eq_true (by omega);have aq:=b6 ab l i aC;rw[ab]at aq;have bf:(0:Int)≤(i:Int):=by omega
  have bp:(i:Int)<(l.length:Int):=by omega
  refine j.rg [0,1,5] fun K I=> ?_;simp only[go_sem,bn,aw,aq,bf,bp,decide_true];apply I;refine j.cond rfl (fun od=> ?_) (fun od=> ?_)
  ·have ae:a' l[i]<a' s:=by
    have:=od;rw[Go.Proofs.bytesLess_eq,cr,cr]at this;exact of_decide_eq_true this
   refine j.aN (j.aG (j.rg [0,1,5] fun K I=> ?_));simp only[go_sem];apply I;refine j.ba ?_;refine j.rebase [0,1,5] ?_;simp only[go_sem];rw[bH i (by omega)];refine aB (i+1) _ _ ⟨⟨by omega,fun x an=> ?_⟩,rfl,rfl⟩ (by omega);rw[List.take_succ_eq_append_getElem aC]at an;rcases List.mem_append.1 an with an|an
   ·exact b0 x an
   simp only[List.mem_singleton]at an;rw[an];exact ae
  have ae:¬a' l[i]<a' s:=by
   have:=od;rw[Go.Proofs.bytesLess_eq,cr,cr]at this;exact of_decide_eq_false this
  have mL:=LK hi b0;rw[List.drop_eq_getElem_cons aC,gN,if_neg ae]at mL;refine j.exit rfl (j.J (j.J ?_));by_cases bW:l[i]=s
  ·have qs:(l[i].toList==s.toList)=true:=by rw[bW];simp
   refine j.rg [0,1,5] fun K I=> ?_;simp only[go_sem,bn,aw,aq,bf,bp,decide_true,qs];apply I;refine j.bZ rfl (j.J (j.rg [0] fun K I=> ?_));simp only[go_sem];apply I;refine j.ret ar Tryz.func59 (by simp[go_sem]) ?_;simp only[go_sem];rw[if_pos bW]at mL;rw[mL,←List.drop_eq_getElem_cons aC,List.take_append_drop];first|exact .inl ⟨rfl,rfl⟩|exact .inl rfl|trace_state
  have qs:(l[i].toList==s.toList)=false:=by
   rw[cr,cr];exact beq_false_of_ne fun e=>bW (by rw[←gr l[i],←gr s];exact congrArg aK e)
  rw[if_neg bW,←List.drop_eq_getElem_cons aC]at mL;refine j.rg [0,1,5] fun K I=> ?_;simp only[go_sem,bn,aw,aq,bf,bp,decide_true,qs];apply I;refine j.bJ rfl (j.aN (j.J ?_));refine j.fw [0,1,5] [40] fun K I=> ?_;simp only[go_sem,bn];refine⟨by decide,fun b ae=>⟨⟨by omega,by omega,fun x an=>(c' _ x an).1⟩,⟨fun y aF=>c' _ y (List.mem_of_mem_take aF),by rw[nw];omega,by rw[nw];omega⟩,fun ob aO ax=> ?_⟩⟩;have bt:(if ob=none then []else List.take i (l.map ab))=List.take i (l.map ab):=by
   split
   ·rename_i h;exact(aO h).symm
   rfl
  have b_:List.take (List.take i (l.map ab)).length (List.take i (l.map ab))=List.take i (l.map ab):=List.take_of_length_le (Nat.le_refl _);rw[uz ae]at ax⊢;simp only[bt,b_,rb ax];refine⟨by decide,⟨Nat.le_refl _,fun y aF=>by subst aF;exact⟨rfl,rfl⟩,by rw[nw];omega,by rw[nw];omega⟩,fun gw jO gF=> ?_⟩;apply I;have cW:aV gw 1 (List.take i (l.map ab)++[.v (.string s)]) σ:=⟨gF,jO⟩;have qD:=cW.bL;have hS:=cW.cB;have tT:List.take (List.take i (l.map ab)++[D.v (.string s)]).length (List.take i (l.map ab)++[D.v (.string s)])=List.take i (l.map ab)++[D.v (.string s)]:=List.take_of_length_le (Nat.le_refl _);refine j.J (j.rg [0,5,6] fun K I=> ?_);simp only[go_sem,bn,qD,hS,tT];have ei:List.drop i (List.take l.length (l.map ab))=(l.drop i).map ab:=by
   rw[List.take_of_length_le (by omega),List.map_drop]
  have gp:List.take i (l.map ab)++[D.v (.string s)]++List.drop i (List.take l.length (l.map ab))=(gN s l).map ab:=by
   rw[ei,mL,←List.map_take];simp only[List.map_append,List.map_cons,List.map_nil,List.append_assoc,List.cons_append,List.nil_append];rfl
  refine⟨⟨by omega,by omega,by omega,fun x an=>(c' _ x an).1⟩,⟨Nat.le_refl _,by rw[ei];exact c' _, ?_, ?_⟩,fun ob aO ax=> ?_⟩
  ·rw[ei];simp only[List.length_append,List.length_map,List.length_drop,List.length_singleton,nw];omega
  ·rw[ei];simp only[List.length_append,List.length_map,List.length_drop,List.length_singleton,nw];omega
  rw[gp]at aO⊢;apply I;refine j.ret ar Tryz.func59 (by simp[go_sem]) ?_;simp only[go_sem];exact .inr ⟨ob,⟨ax,aO⟩,rfl,rfl⟩
 have aw:decide ((i:Int)<(l.length:Int))=false:=decide_eq_false (by omega);refine j.rg [0,1,5] fun K I=> ?_;simp only[go_sem,bn,aw];apply I;refine j.bJ rfl (j.exit rfl (j.J (j.J ?_)));have mL:=LK hi b0;have cC:i=l.length:=by omega
 refine j.rg [0,1,5] fun K I=> ?_;simp only[go_sem,bn,aw];apply I;refine j.bJ rfl (j.aN (j.J ?_));refine j.fw [0,1,5] [40] fun K I=> ?_;simp only[go_sem,bn];refine⟨by decide,fun b ae=>⟨⟨by omega,by omega,fun x an=>(c' _ x an).1⟩,⟨fun y aF=>c' _ y (List.mem_of_mem_take aF),by rw[nw];omega,by rw[nw];omega⟩,fun ob aO ax=> ?_⟩⟩;have bt:(if ob=none then []else List.take i (l.map ab))=List.take i (l.map ab):=by
  split
  ·rename_i h;exact(aO h).symm
  rfl
 have b_:List.take (List.take i (l.map ab)).length (List.take i (l.map ab))=List.take i (l.map ab):=List.take_of_length_le (Nat.le_refl _);rw[uz ae]at ax⊢;simp only[bt,b_,rb ax];refine⟨by decide,⟨Nat.le_refl _,fun y aF=>by subst aF;exact⟨rfl,rfl⟩,by rw[nw];omega,by rw[nw];omega⟩,fun gw jO gF=> ?_⟩;apply I;have cW:aV gw 1 (List.take i (l.map ab)++[.v (.string s)]) σ:=⟨gF,jO⟩;have qD:=cW.bL;have hS:=cW.cB;have tT:List.take (List.take i (l.map ab)++[D.v (.string s)]).length (List.take i (l.map ab)++[D.v (.string s)])=List.take i (l.map ab)++[D.v (.string s)]:=List.take_of_length_le (Nat.le_refl _);refine j.J (j.rg [0,5,6] fun K I=> ?_);simp only[go_sem,bn,qD,hS,tT];have ei:List.drop i (List.take l.length (l.map ab))=(l.drop i).map ab:=by
  rw[List.take_of_length_le (by omega),List.map_drop]
 have gp:List.take i (l.map ab)++[D.v (.string s)]++List.drop i (List.take l.length (l.map ab))=(gN s l).map ab:=by
  rw[ei,mL,←List.map_take];simp only[cC,List.drop_length,gN,List.map_append,List.map_cons,List.map_nil,List.append_assoc,List.cons_append,List.nil_append];rfl
 refine⟨⟨by omega,by omega,by omega,fun x an=>(c' _ x an).1⟩,⟨Nat.le_refl _,by rw[ei];exact c' _, ?_, ?_⟩,fun ob aO ax=> ?_⟩
 ·rw[ei];simp only[List.length_append,List.length_map,List.length_drop,List.length_singleton,nw];omega
 ·rw[ei];simp only[List.length_append,List.length_map,List.length_drop,List.length_singleton,nw];omega
 rw[gp]at aO⊢;apply I;refine j.ret ar Tryz.func59 (by simp[go_sem]) ?_;simp only[go_sem];exact .inr ⟨ob,⟨ax,aO⟩,rfl,rfl⟩
theorem LO (l:List ByteArray) (s:ByteArray) (σ:al) (aA:l.length<2^40):
  AC Tryz.prog 59 [.ai (l.map ab), .v (.string s)] σ (fun e σ'=>e= .ret (.ai ((gN s l).map ab))∧σ'=σ):=
 AC.Fi (sz:=1) (VG l s [] aA) σ
theorem LM (s:ByteArray):∀l:List ByteArray,(gN s l).length≤l.length+1
 |[]=>by simp[gN]
 |x::r=>by
  unfold gN;have:=LM s r;split
  ·simp;omega
  split<;>simp
def ft (out a7:List ByteArray):List ByteArray:=a7.foldl (fun o f=>gN f o) out
theorem VC (out a7:List ByteArray) (i:Nat) (h:i<a7.length):ft out (a7.take (i+1))=gN a7[i] (ft out (a7.take i)):=by
 unfold ft;rw[List.take_succ_eq_append_getElem h,List.foldl_append];rfl
theorem vZ (out a7:List ByteArray):(ft out a7).length≤out.length+a7.length:=by
 induction a7 generalizing out with
 |nil=>exact Nat.le_refl _
 |cons f a7 aB=>
  have aa:=aB (gN f out);have ah:=LM f out;show(ft (gN f out) a7).length≤_
  simp only[List.length_cons];omega
theorem Fo (out a b:List ByteArray):ft out (a++b)=ft (ft out a) b:=List.foldl_append ..
theorem j.pT {P:Program} {N:cP} {C:Ctx P N} {todo:List Item} {env:Env} {σ:al} (k:Nat) (bj:eget k env= .v (.slice none 0 0)) (h:j C todo (eput k (.ai []) env) σ):j C todo env σ:=
 h.pk fun U=>by
  rw[j6];split
  ·rename_i aR;rw[aR,bj];exact ca.pU
  exact ca.refl _
theorem Mb (e:aM) (h:e.small):
  AC Tryz.prog 46 [e.d] [] (fun r σ'=>∃o,aV o 1 (e.bG.map ab) []∧r= .ret (.own o 1 (e.bG.map ab).length)∧σ'=cellsOf o 1 (e.bG.map ab)++[]):=by
 have aa:=h.ins;have ah:=h.impl;have aJ:=h.order;have bs:(e.ins.map ab).length=e.ins.length:=List.length_map ..;have kk:(e.impl.map ab).length=e.impl.length:=List.length_map ..;have kM:(e.order.map ab).length=e.order.length:=List.length_map ..;unfold aM.d;refine AC.bI Tryz.func46 Tryz.ntmps46 fun C ar=> ?_;refine j.J (j.rg [0] fun K I=> ?_);simp only[go_sem];intro bP;apply I;generalize eL:[(bP,aE.arr 6 [D.agg [.ai (e.outs.map ab), .ai (e.ins.map ab), .ai (e.impl.map ab), .ai (e.order.map ab), .v (.string e.cmd), .v (.string e.dep)]])]=ρ;have g1:av bP ρ=some (.arr 6 [D.agg [.ai (e.outs.map ab), .ai (e.ins.map ab), .ai (e.impl.map ab), .ai (e.order.map ab), .v (.string e.cmd), .v (.string e.dep)]]):=by rw[←eL,bE]
 refine j.J ?_;refine j.draw [1] [] [bP] [] [(1,true),(2,true),(4,true),(5,true),(7,true),(8,true),(0,false),(3,false),(6,false),(9,false),(10,true)] (by kernel_rfl) (by decide) (by kernel_rfl) fun K I=> ?_;simp only[go_sem,g1];refine⟨by decide,fun b ae=>⟨?_,⟨c' _,by omega,by omega⟩,fun ob aO ax=> ?_⟩⟩
 ·rintro _ rfl;rw[aW,if_neg (fun e=>by rw[←e,g1]at ae;cases ae)]
 have aZ:bP≠b:=fun e=>by rw[←e,g1]at ae;cases ae
 rw[uz ae]at ax⊢;have gk:aV ob 1 (e.ins.map ab) ρ:=⟨ax,aO⟩;have bt:(if ob=none then []else e.ins.map ab)=e.ins.map ab:=by
  split
  ·rename_i h;exact(aO h).symm
  rfl
 have b_:List.take (e.ins.map ab).length (e.ins.map ab)=e.ins.map ab:=List.take_of_length_le (Nat.le_refl _);simp only[bt,b_,rb ax];refine⟨?_,⟨Nat.le_refl _,c' _,by omega,by omega⟩,fun yh t_ nn=> ?_⟩
 ·rintro _ rfl;rw[gk.keep g1,aW,if_neg aZ,g1]
 have cW:aV yh 1 (e.ins.map ab++e.impl.map ab) ρ:=⟨nn,t_⟩;have er:(if yh=none then []else e.ins.map ab++e.impl.map ab)=e.ins.map ab++e.impl.map ab:=by
  split
  ·rename_i h;exact(t_ h).symm
  rfl
 have h_:List.take (e.ins.map ab++e.impl.map ab).length (e.ins.map ab++e.impl.map ab)=e.ins.map ab++e.impl.map ab:=List.take_of_length_le (Nat.le_refl _);simp only[er,h_,rb nn];have kN:(e.ins.map ab++e.impl.map ab).length=e.ins.length+e.impl.length:=by simp
 refine⟨?_,⟨Nat.le_refl _,c' _,by omega,by omega⟩,fun gw jO gF=> ?_⟩
 ·rintro _ rfl;rw[cW.keep g1,gk.keep g1]
 have fI:aV gw 1 (e.ins.map ab++e.impl.map ab++e.order.map ab) ρ:=⟨gF,jO⟩;refine⟨?_, ?_⟩
 ·rintro _ rfl;rw[fI.keep g1,cW.keep g1]
 have au:e.ins.map ab++e.impl.map ab++e.order.map ab=e.bG.map ab:=by unfold aM.bG;simp
 rw[au]at fI⊢;apply I;subst eL;have dz:=fI.drop (b:=bP) (ρ:=[]) rfl;refine j.le (cn.refl _) dz.2 ?_;refine j.ret ar Tryz.func46 (by simp[go_sem]) ?_;simp only[go_sem];exact⟨gw,dz.1,rfl,rfl⟩
theorem A' (e:aM) (σ:al) (h:e.small):
  AC Tryz.prog 46 [e.d] σ (fun r σ'=>r= .ret (.ai (e.bG.map ab))∧σ'=σ):=
 AC.q5 (Mb e h) σ
def gQ (m:bK) (l:List ByteArray):List ByteArray:=l.filter fun f=>decide (dd m f<0)
theorem XW (m:bK) (l:List ByteArray) (U:Nat) (h:U<l.length):gQ m (l.take (U+1))=gQ m (l.take U)++if dd m l[U]<0 then [l[U]]else []:=by
 unfold gQ;rw[List.take_succ_eq_append_getElem h,List.filter_append];congr 1
 by_cases aP:dd m l[U]<0
 ·rw[if_pos aP];simp[aP]
 rw[if_neg aP];simp[aP]
theorem Wg (m:bK) (σ:al) (aA:m.edges.length<2^20) (af:∀e∈m.edges,e.small):
  AC Tryz.prog 85 [m.d] σ (fun e σ'=>e= .ret (.ai ((ft [] (gQ m (m.edges.flatMap aM.bG))).map ab))∧σ'=σ):=by
 refine AC.still ?_ σ;refine AC.forget (R:=fun e _=>e= .ret (.ai ((ft [] (gQ m (m.edges.flatMap aM.bG))).map ab))) ?_ fun e σ' h=>⟨[],aQ.nil _,h,rfl⟩;have fX:m.d= .agg [.ai (m.edges.map aM.d), .ai (m.defs.map ab)]:=rfl;have fm:=fun f τ=>vI m f τ (by omega) (fun e he=>by have:=(af e he).outs;omega);rw[fX]at fm⊢;have bn:(m.edges.map aM.d).length=m.edges.length:=List.length_map ..;refine AC.bI Tryz.func85 Tryz.ntmps85 fun C ar=> ?_;refine j.J (j.rg [0] fun K I=> ?_);simp only[go_sem];intro bP;apply I;generalize eL:[(bP,aE.arr 2 [D.agg [.ai (m.edges.map aM.d), .ai (m.defs.map ab)]])]=τ;have g1:av bP τ=some (.arr 2 [D.agg [.ai (m.edges.map aM.d), .ai (m.defs.map ab)]]):=by rw[←eL,bE]
 refine j.J (j.rg [1] fun K I=> ?_);simp only[go_sem];apply I;refine j.J (j.J (j.rg [1,3] fun K I=> ?_));simp only[go_sem];apply I;refine j.aG (j.pT 3 rfl ?_);refine j.rebase [1,3,4] ?_;simp only[go_sem];refine j.while (fun(i:Nat) env' aS=>(i≤m.edges.length)∧env'=[(1, .ptr bP 2 0 0),(3, .ai ((ft [] (gQ m (e1 m i))).map ab)),(4, .v (.int .i64 (i:Int)))]∧τ=aS) (fun(i:Nat)=>m.edges.length-i) 0 ⟨by omega,rfl,rfl⟩ ?_;rintro i env' aS ⟨hi,rfl,rfl⟩ aB;have cH:=aB;refine j.J (j.J (j.rg [1,3,4] fun K I=> ?_));simp only[go_sem,g1,bn];apply I;refine j.cond rfl (fun j7=> ?_) (fun j7=> ?_)
 ·have aC:i<m.edges.length:=by simpa using j7
  have aq:=b6 aM.d m.edges i aC;rw[aM.d]at aq;have bf:(0:Int)≤(i:Int):=by omega
  have bp:(i:Int)<(m.edges.length:Int):=by omega
  have dh:=af _ (List.getElem_mem aC);have hh:=ss _ dh;have ew:(m.edges[i].bG.map ab).length=m.edges[i].bG.length:=List.length_map ..;have mN:=wq m af i hi;have eD:=F7 m i aC;refine j.aN (j.J (j.aG (j.J (j.rg [1,3,4] fun K I=> ?_))));simp only[go_sem,g1,bn,aq,bf,bp];refine⟨_,Tryz.call46,(A' m.edges[i] _ dh).mono ?_⟩;rintro e σ1 ⟨rfl,rfl⟩;simp only[go_sem];apply I;refine j.J (j.rg [1,3,4,5] fun K I=> ?_);simp only[go_sem];apply I;refine j.aG ?_;refine j.rebase [1,3,4,5,6] ?_;simp only[go_sem];refine j.while (fun(U:Nat) env' aS=>(U≤m.edges[i].bG.length)∧env'=[(1, .ptr bP 2 0 0),(3, .ai ((ft (ft [] (gQ m (e1 m i))) (gQ m (m.edges[i].bG.take U))).map ab)),(4, .v (.int .i64 (i:Int))),(5, .ai (m.edges[i].bG.map ab)),(6, .v (.int .i64 (U:Int)))]∧σ1=aS) (fun(U:Nat)=>m.edges[i].bG.length-U) 0 ⟨by omega,rfl,rfl⟩ ?_;rintro U env' aS ⟨aR,rfl,rfl⟩ aB;have eg:=aB;refine j.J (j.J (j.rg [1,3,4,5,6] fun K I=> ?_));simp only[go_sem,ew];apply I;refine j.cond rfl (fun jF=> ?_) (fun jF=> ?_)
  ·have en:U<m.edges[i].bG.length:=by simpa using jF
   have eT:=b6 ab m.edges[i].bG U en;rw[ab]at eT;have dp:(0:Int)≤(U:Int):=by omega
   have dq:(U:Int)<(m.edges[i].bG.length:Int):=by omega
   have nn:(gQ m (e1 m i)).length≤(e1 m i).length:=List.length_filter_le ..;have gF:(gQ m (m.edges[i].bG.take U)).length≤(m.edges[i].bG.take U).length:=List.length_filter_le ..;have xW:=vZ [] (gQ m (e1 m i));have lT:=vZ (ft [] (gQ m (e1 m i))) (gQ m (m.edges[i].bG.take U));have Ss:(m.edges[i].bG.take U).length≤30:=by rw[List.length_take];omega
   simp only[List.length_nil]at xW;have oM:=XW m m.edges[i].bG U en;refine j.aN (j.J (j.aG (j.J ?_)));refine j.draw [1,3,4,5,6] [] [bP] [] [(0,true),(1,true),(2,true),(3,true),(4,true),(5,false),(6,true)] (by kernel_rfl) (by decide) (by kernel_rfl) fun K I=> ?_;simp only[go_sem,g1,ew,eT,dp,dq];refine a1 Tryz.call47 (fm m.edges[i].bG[U] _) ?_;simp only[go_sem,g1];apply I;refine j.cond rfl (fun iB=> ?_) (fun iB=> ?_)
   ·have js:dd m m.edges[i].bG[U]<0:=by simpa using iB
    rw[if_pos js]at oM;refine j.rg [1,3,4,5,6] fun K I=> ?_;simp only[go_sem,ew,eT,dp,dq];refine a1 Tryz.call59 (LO _ m.edges[i].bG[U] _ (by omega)) ?_;simp only[go_sem];apply I;refine j.ba (j.rg [1,3,4,5,6] fun K I=> ?_);simp only[go_sem];apply I;refine j.rebase [1,3,4,5,6] ?_;simp only[go_sem];have Su:ft (ft [] (gQ m (e1 m i))) (gQ m (m.edges[i].bG.take (U+1)))=gN m.edges[i].bG[U] (ft (ft [] (gQ m (e1 m i))) (gQ m (m.edges[i].bG.take U))):=by
     rw[oM,Fo];rfl
    rw[bH U (by omega),←Su];exact eg (U+1) _ _ ⟨by omega,rfl,rfl⟩ (by omega)
   have js:¬dd m m.edges[i].bG[U]<0:=by simpa using iB
   rw[if_neg js,List.append_nil]at oM;refine j.aN (j.ba (j.rg [1,3,4,5,6] fun K I=> ?_));simp only[go_sem];apply I;refine j.rebase [1,3,4,5,6] ?_;simp only[go_sem];rw[bH U (by omega),←oM];exact eg (U+1) _ _ ⟨by omega,rfl,rfl⟩ (by omega)
  have hE:U=m.edges[i].bG.length:=by simp at jF;omega
  subst hE;have An:gQ m (e1 m (i+1))=gQ m (e1 m i)++gQ m m.edges[i].bG:=by rw[eD];unfold gQ;rw[List.filter_append]
  rw[List.take_length,←Fo,←An];refine j.exit rfl (j.ba (j.rg [1,3,4] fun K I=> ?_));simp only[go_sem];apply I;refine j.rebase [1,3,4] ?_;simp only[go_sem];rw[bH i (by omega)];exact cH (i+1) _ _ ⟨by omega,rfl,rfl⟩ (by omega)
 have cC:i=m.edges.length:=by simp at j7;omega
 subst cC;refine j.exit rfl (j.J (j.rg [3] fun K I=> ?_));simp only[go_sem];apply I;refine j.ret ar Tryz.func85 (by simp[go_sem]) ?_;simp only[go_sem];unfold e1;rw[List.take_length]
theorem GN (P:Program) (T:TypeId) (x y:Operand) (k:IntKind) (a b:Int) (ae:b≠0):cF P .rem T x y (.v (.int k a)) (.v (.int k b))= .val True (.v (.int k (a.tmod b))):=by
 simp[cF,ifcNil,fQ,cJ,dJ,eqGuard,binOp,Op.intDiv,okV,cx,fN,ae]
theorem NY (P:Program) (T:TypeId) (x y:Operand) (k:IntKind) (a b:Int) (ae:b≠0):cF P .quo T x y (.v (.int k a)) (.v (.int k b))= .val True (.v (.int k (k.wrap (a.tdiv b)))):=by
 simp[cF,ifcNil,fQ,cJ,dJ,eqGuard,binOp,Op.intDiv,okV,cx,fN,ae]
theorem YM (h c:Nat) (ag:c<256):h-h%256+(h%256^^^c)=h^^^c:=by
 have aa:(h^^^c)/2^8=h/2^8^^^c/2^8:=Nat.xor_div_two_pow;have ah:(h^^^c)%2^8=h%2^8^^^c%2^8:=Nat.xor_mod_two_pow;rw[show c/2^8=0 by omega,Nat.xor_zero]at aa;rw[show c%2^8=c by omega]at ah;have aJ:=Nat.div_add_mod (h^^^c) (2^8);rw[aa,ah]at aJ;have bg:=Nat.div_add_mod h (2^8);have cu:(2:Nat)^8=256:=rfl;rw[cu]at aJ bg;omega
theorem Wa (l:List UInt8) (σ:al) (aA:l.length<2^40):
  AC Tryz.prog 118 [.ai (l.map bD)] σ (fun e σ'=>e= .ret (.v (.int .u64 (fA l:Int)))∧σ'=σ):=by
 have bn:(l.map bD).length=l.length:=List.length_map ..;refine AC.bI Tryz.func118 Tryz.ntmps118 fun C ar=> ?_;refine j.J (j.rg [0] fun K I=> ?_);simp only[go_sem];apply I;refine j.J (j.rg [0] fun K I=> ?_);simp only[go_sem];apply I;refine j.J (j.J (j.rg [0,3] fun K I=> ?_));simp only[go_sem];apply I;refine j.aG ?_;refine j.rebase [0,3,4] ?_;simp only[go_sem];refine j.while (fun(i:Nat) env' aS=>(i≤l.length)∧env'=[(0, .ai (l.map bD)),(3, .v (.int .u64 (fA (l.take i):Int))),(4, .v (.int .i64 (i:Int)))]∧σ=aS) (fun(i:Nat)=>l.length-i) 0 ⟨by omega,rfl,rfl⟩ ?_;rintro i env' aS ⟨hi,rfl,rfl⟩ aB;have cH:=aB;refine j.J (j.J (j.rg [0,3,4] fun K I=> ?_));simp only[go_sem,bn];apply I;refine j.cond rfl (fun eM=> ?_) (fun eM=> ?_)
 ·have aC:i<l.length:=by simpa using eM
  have lP:=b6 bD l i aC;rw[bD]at lP;have bf:(0:Int)≤(i:Int):=by omega
  have bp:(i:Int)<(l.length:Int):=by omega
  have eD:=IH l i aC;have Jq:=vb (l.take i);have ag:l[i].toNat<256:=l[i].toNat_lt;obtain⟨h,a8⟩:∃h,fA (l.take i)=h:=⟨_,rfl⟩;rw[a8]at eD Jq⊢;have SB:∀bz bM,cF Tryz.prog .rem 170 bz bM (.v (.int .u64 (h:Int))) (.v (.int .u64 256))= .val True (.v (.int .u64 ((h%256:Nat):Int))):=fun bz bM=>by
   rw[GN _ _ _ _ .u64 (h:Int) 256 (by omega),Int.tmod_eq_emod_of_nonneg (by omega)];have:(h:Int)%256=((h%256:Nat):Int):=by omega
   rw[this]
  have hw:IntKind.u64.wrap (l[i].toNat:Int)=(l[i].toNat:Int):=by rw[IntKind.wrap_u64];omega
  have x2:IntKind.u64.wrap ((h:Int)-((h%256:Nat):Int))=((h-h%256:Nat):Int):=by rw[IntKind.wrap_u64];omega
  have an:=fun bz bM=>Nl Tryz.prog 170 bz bM (h%256) l[i].toNat (by omega) (by omega);have acs:=YM h l[i].toNat ag;have iP:h^^^l[i].toNat<2^64:=Nat.xor_lt_two_pow (by omega) (by omega);have eN:IntKind.u64.wrap (((h-h%256:Nat):Int)+((h%256^^^l[i].toNat:Nat):Int))=((h^^^l[i].toNat:Nat):Int):=by rw[IntKind.wrap_u64];omega
  have hm:IntKind.u64.wrap (((h^^^l[i].toNat:Nat):Int)*1099511628211)=(qq h l[i]:Int):=by
   rw[IntKind.wrap_u64];unfold qq;omega
  refine j.aN (j.J (j.aG (j.J (j.rg [0,3,4] fun K I=> ?_))));simp only[go_sem,SB];apply I;refine j.J (j.rg [0,3,4,5] fun K I=> ?_);simp only[go_sem,bn,lP,bf,bp,hw,x2,an,eN];apply I;refine j.rg [0,3,4] fun K I=> ?_;simp only[go_sem,hm];apply I;refine j.ba (j.rg [0,3,4] fun K I=> ?_);simp only[go_sem];apply I;refine j.rebase [0,3,4] ?_;simp only[go_sem];rw[bH i (by omega),←eD];exact aB (i+1) _ _ ⟨by omega,rfl,rfl⟩ (by omega)
 have cC:i=l.length:=by simp at eM;omega
 subst cC;refine j.exit rfl (j.J (j.rg [3] fun K I=> ?_));simp only[go_sem];apply I;refine j.ret ar Tryz.func118 (by simp[go_sem]) ?_;simp only[go_sem];rw[List.take_length]
def jj (u:Nat):Nat→List UInt8
 |0=>[]
 |k+1=>jj (u/16) k++[gg (u%16)]
theorem OO:gg 0=48:=rfl
theorem I':∀k,jj 0 k=List.replicate k 48
 |0=>rfl
 |k+1=>by
  show jj 0 k++[gg 0]=_
  rw[I' k,OO,List.replicate_succ']
theorem I9:∀(k u:Nat),u<16^(k+1)→jj u (k+1)=List.replicate (k+1-(fl u).length) 48++fl u
 |0,u,h=>by
  have hu:u<16:=by simpa using h
  rw[xG u hu];show jj (u/16) 0++[gg (u%16)]=_
  rw[Nat.mod_eq_of_lt hu];rfl
 |k+1,u,h=>by
  show jj (u/16) (k+1)++[gg (u%16)]=_
  have ah:u/16<16^(k+1):=by rw[Nat.div_lt_iff_lt_mul (by omega),←Nat.pow_succ];exact h
  by_cases af:u<16
  ·rw[show u/16=0 by omega,I',xG u af,Nat.mod_eq_of_lt af];simp
  rw[I9 k (u/16) ah,Dm u (by omega),List.length_append,List.append_assoc];simp only[List.length_singleton];congr 2
  omega
theorem I_:∀(k u:Nat),jj u (k+1)=gg (u/16^k%16)::jj u k
 |0,u=>by
  show jj (u/16) 0++[gg (u%16)]=_
  rw[Nat.pow_zero,Nat.div_one];rfl
 |k+1,u=>by
  show jj (u/16) (k+1)++[gg (u%16)]=_
  rw[I_ k (u/16),Nat.div_div_eq_div_mul,←Nat.pow_succ'];rfl
theorem z6:∀(k u:Nat),(jj u k).length=k
 |0,_=>rfl
 |k+1,u=>by
  show(jj (u/16) k++[gg (u%16)]).length=_
  rw[List.length_append,z6 k];rfl
theorem Po:∀d:Fin 16,((⟨#[48,49,50,51,52,53,54,55,56,57,97,98,99,100,101,102]⟩:ByteArray).extract d.val (d.val+1)).data=#[gg d.val]:=by
 intro d;rw[ByteArray.data_extract];revert d
 decide
theorem Pp (d:Nat) (h:d<16):(⟨#[48,49,50,51,52,53,54,55,56,57,97,98,99,100,101,102]⟩:ByteArray).extract d (d+1)=⟨#[gg d]⟩:=by
 have:=Po ⟨d,h⟩;have e:∀x y:ByteArray,x.data=y.data→x=y:=fun x y h=>by cases x;cases y;cases h;rfl
 exact e _ _ this
theorem Wm (bz bM:Operand) (v:Nat):cF Tryz.prog .rem 170 bz bM (.v (.int .u64 (v:Int))) (.v (.int .u64 16))= .val True (.v (.int .u64 ((v%16:Nat):Int))):=by
 rw[GN _ _ _ _ .u64 (v:Int) 16 (by omega),Int.tmod_eq_emod_of_nonneg (by omega)];have:(v:Int)%16=((v%16:Nat):Int):=by omega
 rw[this]
theorem VZ (bz bM:Operand) (v:Nat) (ak:v<18446744073709551616):cF Tryz.prog .quo 170 bz bM (.v (.int .u64 (v:Int))) (.v (.int .u64 16))= .val True (.v (.int .u64 ((v/16:Nat):Int))):=by
 rw[NY _ _ _ _ .u64 (v:Int) 16 (by omega),Int.tdiv_eq_ediv_of_nonneg (by omega),IntKind.wrap_u64];have:(v:Int)/16%18446744073709551616=((v/16:Nat):Int):=by omega
 rw[this]
theorem Wb (u:Nat) (hu:u<18446744073709551616) (σ:al):
  AC Tryz.prog 117 [.v (.int .u64 (u:Int))] σ (fun e σ'=>e= .ret (.v (.string ⟨(jj u 16).toArray⟩))∧σ'=σ):=by
 refine AC.bI Tryz.func117 Tryz.ntmps117 fun C ar=> ?_;refine j.J (j.rg [0] fun K I=> ?_);simp only[go_sem];apply I;refine j.J (j.rg [0] fun K I=> ?_);simp only[go_sem];apply I;refine j.J (j.J (j.rg [0,3] fun K I=> ?_));simp only[go_sem];apply I;refine j.aG ?_;refine j.rebase [0,3,4] ?_;simp only[go_sem];refine j.while (fun(i:Nat) env' aS=>(i≤16)∧env'=[(0, .v (.int .u64 ((u/16^i:Nat):Int))),(3, .v (.string ⟨(jj u i).toArray⟩)),(4, .v (.int .i64 (i:Int)))]∧σ=aS) (fun(i:Nat)=>16-i) 0 ⟨by omega,by rw[Nat.pow_zero,Nat.div_one];rfl,rfl⟩ ?_
 rintro i env' aS ⟨hi,rfl,rfl⟩ aB;have cH:=aB;refine j.J (j.J (j.rg [0,3,4] fun K I=> ?_));simp only[go_sem];apply I;refine j.cond rfl (fun de=> ?_) (fun de=> ?_)
 ·have aC:i<16:=by
   have:(i:Int)<16:=by simpa using de
   omega
  have bl:=I_ i u;have jN:u/16^i<18446744073709551616:=Nat.lt_of_le_of_lt (Nat.div_le_self _ _) hu;have bW:=fun bz bM=>VZ bz bM (u/16^i) jN;have ao:=fun bz bM=>Wm bz bM (u/16^i);have hw:IntKind.u64.wrap (((u/16^i%16:Nat):Int)+1)=((u/16^i%16+1:Nat):Int):=by rw[IntKind.wrap_u64];omega
  have an:=Pp (u/16^i%16) (by omega);have eO:=z6 i u;have bb:=fun bz bM=>wc bz bM [gg (u/16^i%16)] (jj u i) (by rw[eO];simp only[List.length_singleton];omega);have tn:[gg (u/16^i%16)]++jj u i=jj u (i+1):=by rw[bl];rfl
  refine j.aN (j.J (j.aG (j.J (j.rg [0,3,4] fun K I=> ?_))));simp only[go_sem,ao,hw,an,bb,tn];refine⟨⟨by omega,by omega,by
   show _≤((16:Nat):Int)
   omega⟩, ?_⟩
  apply I;refine j.rg [0,3,4] fun K I=> ?_;simp only[go_sem,bW];apply I;refine j.ba (j.rg [0,3,4] fun K I=> ?_);simp only[go_sem];apply I;refine j.rebase [0,3,4] ?_;simp only[go_sem];rw[bH i (by omega)];refine aB (i+1) _ _ ⟨by omega, ?_,rfl⟩ (by omega);rw[Nat.div_div_eq_div_mul,←Nat.pow_succ]
 have cC:i=16:=by
  have:¬(i:Int)<16:=by simpa using de
  omega
 subst cC;refine j.exit rfl (j.J (j.rg [3] fun K I=> ?_));simp only[go_sem];apply I;refine j.ret ar Tryz.func117 (by simp[go_sem]) ?_;simp only[go_sem]
def uD (m:bK) (f:ByteArray):Bool:=m.edges.any fun e=>inB e.bG f
def dB (m:bK) (l:List ByteArray):List ByteArray:=l.filter fun f=> !uD m f
def ko (m:bK):List ByteArray:=if m.defs.length>0 then m.defs else dB m (m.edges.flatMap aM.outs)
theorem PK (m:bK) (l:List ByteArray) (U:Nat) (h:U<l.length):dB m (l.take (U+1))=dB m (l.take U)++if uD m l[U]=true then []else [l[U]]:=by
 unfold dB;rw[List.take_succ_eq_append_getElem h,List.filter_append];congr 1
 by_cases aP:uD m l[U]=true
 ·rw[if_pos aP];simp[aP]
 rw[if_neg aP];simp[aP]
theorem any_succ {α:Type} (p:α→Bool) (l:List α) (k:Nat) (h:k<l.length):(l.take (k+1)).any p=((l.take k).any p||p l[k]):=by
 rw[List.take_succ_eq_append_getElem h,List.any_append];simp
theorem Wi (m:bK) (aA:m.edges.length<2^20) (af:∀e∈m.edges,e.small):
  AC Tryz.prog 83 [m.d] [] (fun e σ'=>(e= .ret (.ai ((ko m).map ab))∧σ'=[])∨∃o,aV o 1 ((ko m).map ab) []∧e= .ret (.own o 1 ((ko m).map ab).length)∧σ'=cellsOf o 1 ((ko m).map ab)++[]):=by
 refine AC.forget (R:=fun e σ'=>e= .ret (.ai ((ko m).map ab))∨∃o,aV o 1 ((ko m).map ab) []∧e= .ret (.own o 1 ((ko m).map ab).length)∧aQ (cellsOf o 1 ((ko m).map ab)++[]) σ') ?_ fun e σ' h=> ?_;rotate_left
 ·rcases h with h|⟨o,aa,ah,aJ⟩
  ·exact⟨[],aQ.nil _, .inl ⟨h,rfl⟩⟩
  exact⟨_,aJ, .inr ⟨o,aa,ah,rfl⟩⟩
 have fX:m.d= .agg [.ai (m.edges.map aM.d), .ai (m.defs.map ab)]:=rfl;rw[fX];have bn:(m.edges.map aM.d).length=m.edges.length:=List.length_map ..;have ei:(m.defs.map ab).length=m.defs.length:=List.length_map ..;refine AC.bI Tryz.func83 Tryz.ntmps83 fun C ar=> ?_;refine j.J (j.rg [0] fun K I=> ?_);simp only[go_sem];intro bP;apply I;refine j.J (j.J (j.rg [1] fun K I=> ?_));simp only[go_sem,ei];apply I;refine j.cond rfl (fun e9=> ?_) (fun e9=> ?_)
 ·have oy:m.defs.length>0:=by simpa using e9
  refine j.J (j.rg [1] fun K I=> ?_);simp only[go_sem];apply I;refine j.ret ar Tryz.func83 (by simp[go_sem]) ?_;simp only[go_sem];exact .inl (by unfold ko;rw[if_pos oy])
 have oy:¬m.defs.length>0:=by simpa using e9
 generalize eL:[(bP,aE.arr 2 [D.agg [.ai (m.edges.map aM.d), .ai (m.defs.map ab)]])]=τ;have g1:av bP τ=some (.arr 2 [D.agg [.ai (m.edges.map aM.d), .ai (m.defs.map ab)]]):=by rw[←eL,bE]
 refine j.aN (j.J (j.rg [1] fun K I=> ?_));simp only[go_sem];apply I;refine j.J (j.J (j.rg [1,3] fun K I=> ?_));simp only[go_sem];apply I;refine j.aG (j.im 3 1 rfl ?_);refine j.rebase [1,3,4] ?_;simp only[go_sem];refine j.while (fun(i:Nat) env' aS=>∃o:Option Nat,(i≤m.edges.length∧aV o 1 ((dB m (cR m i)).map ab) τ)∧env'=[(1, .ptr bP 2 0 0),(3, .own o 1 (dB m (cR m i)).length),(4, .v (.int .i64 (i:Int)))]∧aS=cellsOf o 1 ((dB m (cR m i)).map ab)++τ) (fun(i:Nat)=>m.edges.length-i) 0 ⟨none,⟨by omega,aV.nil _ _⟩,rfl,rfl⟩ ?_;rintro i env' aS ⟨o,⟨hi,aT⟩,rfl,rfl⟩ aB;have cH:=aB;refine j.J (j.J ?_);have P5:=aT.keep g1;refine j.rg [1,3,4] fun K I=> ?_;simp only[go_sem,P5,bn];apply I;refine j.cond rfl (fun eW=> ?_) (fun eW=> ?_)
 ·have aC:i<m.edges.length:=by simpa using eW
  have aq:=b6 aM.d m.edges i aC;rw[aM.d]at aq;have bf:(0:Int)≤(i:Int):=by omega
  have bp:(i:Int)<(m.edges.length:Int):=by omega
  have dh:=(af _ (List.getElem_mem aC)).outs;have ew:(m.edges[i].outs.map ab).length=m.edges[i].outs.length:=List.length_map ..;have mN:=vT m af i hi;have eD:=AM m i aC;have ig:∀l,dB m (cR m i++l)=dB m (cR m i)++dB m l:=fun l=>by unfold dB;rw[List.filter_append]
  refine j.aN (j.J (j.aG (j.J (j.rg [1,3,4] fun K I=> ?_))));simp only[go_sem];apply I;refine j.aG ?_;refine j.rebase [1,3,4,5] ?_;simp only[go_sem];refine j.while (fun(U:Nat) env' aS=>∃dI:Option Nat,(U≤m.edges[i].outs.length∧aV dI 1 ((dB m (cR m i)++dB m (m.edges[i].outs.take U)).map ab) τ)∧env'=[(1, .ptr bP 2 0 0),(3, .own dI 1 (dB m (cR m i)++dB m (m.edges[i].outs.take U)).length),(4, .v (.int .i64 (i:Int))),(5, .v (.int .i64 (U:Int)))]∧aS=cellsOf dI 1 ((dB m (cR m i)++dB m (m.edges[i].outs.take U)).map ab)++τ) (fun(U:Nat)=>m.edges[i].outs.length-U) 0 ⟨o,⟨by omega,by simpa [dB]using aT⟩,by simp[dB],by simp[dB]⟩ ?_;rintro U env' aS ⟨dI,⟨aR,b7⟩,rfl,rfl⟩ aB;have eg:=aB;have zv:=b7.keep g1;refine j.J (j.J (j.rg [1,3,4,5] fun K I=> ?_));simp only[go_sem,zv,bn,aq,bf,bp,ew];apply I;refine j.cond rfl (fun og=> ?_) (fun og=> ?_)
  ·have en:U<m.edges[i].outs.length:=by simpa using og
   have eT:=b6 ab m.edges[i].outs U en;rw[ab]at eT;have dp:(0:Int)≤(U:Int):=by omega
   have dq:(U:Int)<(m.edges[i].outs.length:Int):=by omega
   have oM:=PK m m.edges[i].outs U en;refine j.aN (j.J (j.aG (j.J (j.rg [1,3,4,5] fun K I=> ?_))));simp only[go_sem,zv,bn,aq,bf,bp,ew,eT,dp,dq];apply I;refine j.J (j.rg [1,3,4,5,6] fun K I=> ?_);simp only[go_sem];apply I;refine j.J (j.J (j.rg [1,3,4,5,6,7] fun K I=> ?_));simp only[go_sem];apply I;refine j.aG ?_;refine j.rebase [1,3,4,5,6,7,8] ?_;simp only[go_sem];refine j.while (fun(k:Nat) env' aS=>(k≤m.edges.length)∧env'=[(1, .ptr bP 2 0 0),(3, .own dI 1 (dB m (cR m i)++dB m (m.edges[i].outs.take U)).length),(4, .v (.int .i64 (i:Int))),(5, .v (.int .i64 (U:Int))),(6, .v (.string m.edges[i].outs[U])),(7, .v (.bool ((m.edges.take k).any fun e=>inB e.bG m.edges[i].outs[U]))),(8, .v (.int .i64 (k:Int)))]∧aS=cellsOf dI 1 ((dB m (cR m i)++dB m (m.edges[i].outs.take U)).map ab)++τ) (fun(k:Nat)=>m.edges.length-k) 0 ⟨by omega,rfl,rfl⟩ ?_;rintro k env' aS ⟨aj,rfl,rfl⟩ aB;have hl:=aB;refine j.J (j.J (j.rg [1,3,4,5,6,7,8] fun K I=> ?_));simp only[go_sem,zv,bn];apply I;refine j.cond rfl (fun rK=> ?_) (fun rK=> ?_)
   ·have tJ:k<m.edges.length:=by simpa using rK
    have nq:=b6 aM.d m.edges k tJ;rw[aM.d]at nq;have dc:(0:Int)≤(k:Int):=by omega
    have cb:(k:Int)<(m.edges.length:Int):=by omega
    have Eh:=af _ (List.getElem_mem tJ);have acw:=ss _ Eh;have xq:=any_succ (fun e:aM=>inB e.bG m.edges[i].outs[U]) m.edges k tJ;refine j.aN (j.J (j.aG ?_));rcases Bool.eq_false_or_eq_true ((m.edges.take k).any fun e=>inB e.bG m.edges[i].outs[U])with hu|hu;all_goals rw[hu]at xq⊢
    ·refine j.rg [1,3,4,5,6,7,8] fun K I=> ?_;simp only[go_sem];apply I;refine j.ba (j.rg [1,3,4,5,6,7,8] fun K I=> ?_);simp only[go_sem];apply I;refine j.rebase [1,3,4,5,6,7,8] ?_;simp only[go_sem];rw[bH k (by omega)];exact hl (k+1) _ _ ⟨by omega,by rw[xq];rfl,rfl⟩ (by omega)
    refine j.rg [1,3,4,5,6,7,8] fun K I=> ?_;simp only[go_sem,zv,bn,nq,dc,cb];refine a1 Tryz.call46 (A' m.edges[k] _ Eh) ?_;simp only[go_sem];refine a1 Tryz.call57 (pO m.edges[k].bG m.edges[i].outs[U] _ (by omega)) ?_;simp only[go_sem];apply I;refine j.ba (j.rg [1,3,4,5,6,7,8] fun K I=> ?_);simp only[go_sem];apply I;refine j.rebase [1,3,4,5,6,7,8] ?_;simp only[go_sem];rw[bH k (by omega)];exact hl (k+1) _ _ ⟨by omega,by rw[xq];rfl,rfl⟩ (by omega)
   have gZ:k=m.edges.length:=by simp at rK;omega
   subst gZ;have S4:((m.edges.take m.edges.length).any fun e=>inB e.bG m.edges[i].outs[U])=uD m m.edges[i].outs[U]:=by rw[List.take_length];rfl
   rw[S4];refine j.exit rfl (j.J (j.rg [1,3,4,5,6,7] fun K I=> ?_));simp only[go_sem];apply I;refine j.cond rfl (fun te=> ?_) (fun te=> ?_)
   ·have hu:uD m m.edges[i].outs[U]=false:=by simpa using te
    rw[if_neg (by rw[hu];simp)]at oM;have aH:=b7.bL;have aw:=b7.cB;have aci:(dB m (cR m i)).length≤(cR m i).length:=List.length_filter_le ..;have Dn:(dB m (m.edges[i].outs.take U)).length≤(m.edges[i].outs.take U).length:=List.length_filter_le ..;have Jc:(m.edges[i].outs.take U).length≤10:=by rw[List.length_take];omega
    have dW:((dB m (cR m i)++dB m (m.edges[i].outs.take U)).map ab).length=(dB m (cR m i)).length+(dB m (m.edges[i].outs.take U)).length:=by simp
    have oG:(dB m (cR m i)++dB m (m.edges[i].outs.take U)).length=(dB m (cR m i)).length+(dB m (m.edges[i].outs.take U)).length:=by simp
    have cv:List.take (dB m (cR m i)++dB m (m.edges[i].outs.take U)).length ((dB m (cR m i)++dB m (m.edges[i].outs.take U)).map ab)=(dB m (cR m i)++dB m (m.edges[i].outs.take U)).map ab:=List.take_of_length_le (by omega);refine j.fw [1,3,4,5,6] [64] fun K I=> ?_;simp only[go_sem,aH,aw,cv];refine⟨by decide,⟨by omega,fun y aF=>by subst aF;exact⟨rfl,rfl⟩,by omega,by omega⟩,fun ob aO ax=> ?_⟩;have bt:(dB m (cR m i)++dB m (m.edges[i].outs.take U)).map ab++[D.v (.string m.edges[i].outs[U])]=(dB m (cR m i)++dB m (m.edges[i].outs.take (U+1))).map ab:=by
     rw[oM,←List.append_assoc,List.map_append (l₂:=[m.edges[i].outs[U]])];rfl
    rw[bt]at aO⊢;have fI:aV ob 1 ((dB m (cR m i)++dB m (m.edges[i].outs.take (U+1))).map ab) τ:=⟨ax,aO⟩;apply I;refine j.ba (j.rg [1,3,4,5] fun K I=> ?_);simp only[go_sem];apply I;refine j.rebase [1,3,4,5] ?_;simp only[go_sem];rw[bH U (by omega)];exact eg (U+1) _ _ ⟨ob,⟨by omega,fI⟩,by rw[List.length_map],rfl⟩ (by omega)
   have hu:uD m m.edges[i].outs[U]=true:=by simpa using te
   rw[if_pos hu,List.append_nil]at oM;refine j.aN (j.ba (j.rg [1,3,4,5] fun K I=> ?_));simp only[go_sem];apply I;refine j.rebase [1,3,4,5] ?_;simp only[go_sem];rw[bH U (by omega)];exact eg (U+1) _ _ ⟨dI,⟨by omega,by rw[oM];exact b7⟩,by rw[oM],by rw[oM]⟩ (by omega)
  have hE:U=m.edges[i].outs.length:=by simp at og;omega
  subst hE;rw[List.take_length,←ig,←eD]at*;refine j.exit rfl (j.ba (j.rg [1,3,4] fun K I=> ?_));simp only[go_sem];apply I;refine j.rebase [1,3,4] ?_;simp only[go_sem];rw[bH i (by omega)];exact cH (i+1) _ _ ⟨dI,⟨by omega,b7⟩,rfl,rfl⟩ (by omega)
 have cC:i=m.edges.length:=by simp at eW;omega
 subst cC;have hu:cR m m.edges.length=m.edges.flatMap aM.outs:=by unfold cR;rw[List.take_length]
 have bc:ko m=dB m (cR m m.edges.length):=by unfold ko;rw[if_neg oy,hu]
 refine j.exit rfl (j.J (j.rg [3] fun K I=> ?_));simp only[go_sem];apply I;refine j.ret ar Tryz.func83 (by simp[go_sem]) ?_;simp only[go_sem];rw[bc];subst eL;have dz:=aT.drop (b:=bP) (ρ:=[]) rfl;exact .inr ⟨o,dz.1,by rw[List.length_map],by simpa using dz.2⟩
theorem Wh (m:bK) (σ:al) (aA:m.edges.length<2^20) (af:∀e∈m.edges,e.small):
  AC Tryz.prog 83 [m.d] σ (fun e σ'=>e= .ret (.ai ((ko m).map ab))∧σ'=σ):=
 AC.Fi (sz:=1) (Wi m aA af) σ
def lZ (m:bK) (l:List ay) (f:ByteArray):Bool:= !(findF l f).isSome&&decide (dd m f<0)
theorem KY (m:bK) (l:List ay) (bT:List ByteArray) (σ:al) (aA:m.edges.length<2^20) (af:∀e∈m.edges,e.small) (ax:l.length<2^31) (au:bT.length<2^40):
  AC Tryz.prog 44 [m.d, .ai (l.map ay.d), .ai (bT.map ab)] σ (fun e σ'=>e= .ret (.v (.bool (bT.any (lZ m l))))∧σ'=σ):=by
 refine AC.still ?_ σ;refine AC.forget (R:=fun e _=>e= .ret (.v (.bool (bT.any (lZ m l))))) ?_ fun e σ' h=>⟨[],aQ.nil _,h,rfl⟩;have fX:m.d= .agg [.ai (m.edges.map aM.d), .ai (m.defs.map ab)]:=rfl;have fm:=fun f τ=>vI m f τ (by omega) (fun e he=>by have:=(af e he).outs;omega);rw[fX]at fm⊢;have bn:(bT.map ab).length=bT.length:=List.length_map ..;have hD:∀o:Option (List UInt8),∃x,findD o= .bd [.ai x, .v (.bool o.isSome)]:=fun o=>by cases o<;>exact⟨_,rfl⟩
 refine AC.bI Tryz.func44 Tryz.ntmps44 fun C ar=> ?_;refine j.J (j.rg [0,1,2] fun K I=> ?_);simp only[go_sem];intro bP;apply I;generalize eL:[(bP,aE.arr 2 [D.agg [.ai (m.edges.map aM.d), .ai (m.defs.map ab)]])]=τ;have g1:av bP τ=some (.arr 2 [D.agg [.ai (m.edges.map aM.d), .ai (m.defs.map ab)]]):=by rw[←eL,bE]
 refine j.J (j.J (j.rg [1,2,3] fun K I=> ?_));simp only[go_sem];apply I;refine j.aG ?_;refine j.rebase [1,2,3,7] ?_;simp only[go_sem];refine j.while (fun(i:Nat) env' aS=>(i≤bT.length∧∀f∈bT.take i,lZ m l f=false)∧env'=[(1, .ai (l.map ay.d)),(2, .ai (bT.map ab)),(3, .ptr bP 2 0 0),(7, .v (.int .i64 (i:Int)))]∧τ=aS) (fun(i:Nat)=>bT.length-i) 0 ⟨⟨by omega,by simp⟩,rfl,rfl⟩ ?_;rintro i env' aS ⟨⟨hi,b0⟩,rfl,rfl⟩ aB;have cH:=aB;refine j.J (j.J (j.rg [1,2,3,7] fun K I=> ?_));simp only[go_sem,bn];apply I;refine j.cond rfl (fun h'=> ?_) (fun h'=> ?_)
 ·have aC:i<bT.length:=by simpa using h'
  have aq:=b6 ab bT i aC;rw[ab]at aq;have bf:(0:Int)≤(i:Int):=by omega
  have bp:(i:Int)<(bT.length:Int):=by omega
  obtain⟨x,an⟩:=hD (findF l bT[i]);have lO:=yx l bT[i] τ (by omega);rw[an]at lO;refine j.aN (j.J (j.aG (j.J (j.rg [1,2,3,7] fun K I=> ?_))));simp only[go_sem,bn,aq,bf,bp];refine a1 Tryz.call84 lO ?_;simp only[go_sem];apply I;refine j.J ?_;rcases Bool.eq_false_or_eq_true (findF l bT[i]).isSome with hw|hw;all_goals rw[hw]
  ·refine j.draw [1,2,3,7,9] [] [bP] [] [(0,true),(1,true),(2,true),(3,true),(4,true),(5,true),(6,true),(7,true),(8,false),(9,true),(10,true)] (by kernel_rfl) (by decide) (by kernel_rfl) fun K I=> ?_;simp only[go_sem];apply I;refine j.bJ rfl (j.aN (j.ba (j.rg [1,2,3,7] fun K I=> ?_)));simp only[go_sem];apply I;refine j.rebase [1,2,3,7] ?_;simp only[go_sem];rw[bH i (by omega)];exact aB (i+1) _ _ ⟨⟨by omega,o_ aC b0 (by unfold lZ;rw[hw];rfl)⟩,rfl,rfl⟩ (by omega)
  refine j.draw [1,2,3,7,9] [] [bP] [] [(0,true),(1,true),(2,true),(3,true),(4,true),(5,true),(6,true),(7,true),(8,false),(9,true),(10,true)] (by kernel_rfl) (by decide) (by kernel_rfl) fun K I=> ?_;simp only[go_sem,g1,bn,aq,bf,bp];refine a1 Tryz.call47 (fm bT[i] _) ?_;simp only[go_sem];apply I;refine j.cond rfl (fun s'=> ?_) (fun s'=> ?_)
  ·have js:dd m bT[i]<0:=by simpa using s'
   refine j.J (j.rg [] fun K I=> ?_);simp only[go_sem];apply I;refine j.ret ar Tryz.func44 (by simp[go_sem]) ?_;simp only[go_sem];rw[List.any_eq_true.2 ⟨bT[i],List.getElem_mem aC,by unfold lZ;rw[hw];simpa using js⟩]
  have js:¬dd m bT[i]<0:=by simpa using s'
  refine j.aN (j.ba (j.rg [1,2,3,7] fun K I=> ?_));simp only[go_sem];apply I;refine j.rebase [1,2,3,7] ?_;simp only[go_sem];rw[bH i (by omega)];exact aB (i+1) _ _ ⟨⟨by omega,o_ aC b0 (by unfold lZ;rw[hw];simpa using js)⟩,rfl,rfl⟩ (by omega)
 have cC:i=bT.length:=by simp at h';omega
 subst cC;rw[List.take_length]at b0;refine j.exit rfl (j.J (j.rg [] fun K I=> ?_));simp only[go_sem];apply I;refine j.ret ar Tryz.func44 (by simp[go_sem]) ?_;simp only[go_sem];rw[List.any_eq_false.2 fun f gF=>by rw[b0 f gF];simp]
theorem Wd (e:aM) (h:e.small) (σ:al):
  AC Tryz.prog 46 [e.d] σ (fun r σ'=>∃o,aV o 1 (e.bG.map ab) σ∧r= .ret (.own o 1 (e.bG.map ab).length)∧σ'=cellsOf o 1 (e.bG.map ab)++σ):=by
 refine((Mb e h).quiet (σ:=σ)).mono ?_;rintro r σ' ⟨σ1,⟨o,aq,rfl,rfl⟩,bW,rfl⟩;rw[List.append_nil]at bW⊢;refine⟨o,⟨fun b ae=> ?_,aq.zero⟩,rfl,rfl⟩;subst ae;cases af:av b σ with
 |none=>rfl
 |some x=>
  have:=bW b (by rw[af];simp);change av b [(b,_)]=none at this;rw[bE]at this;cases this
def p7 (m:bK):Bool:=m.edges.any fun e=>(e.bG++e.outs).any kQ
theorem Wl (m:bK) (σ:al) (aA:m.edges.length<2^20) (af:∀e∈m.edges,e.small):
  AC Tryz.prog 26 [m.d] σ (fun e σ'=>e= .ret (.v (.bool (p7 m)))∧σ'=σ):=by
 refine AC.still ?_ σ;refine AC.forget (R:=fun e _=>e= .ret (.v (.bool (p7 m)))) ?_ fun e σ' h=>⟨[],aQ.nil _,h,rfl⟩;have fX:m.d= .agg [.ai (m.edges.map aM.d), .ai (m.defs.map ab)]:=rfl;rw[fX];have bn:(m.edges.map aM.d).length=m.edges.length:=List.length_map ..;refine AC.bI Tryz.func26 Tryz.ntmps26 fun C ar=> ?_;refine j.J (j.rg [0] fun K I=> ?_);simp only[go_sem];intro bP;apply I;generalize eL:[(bP,aE.arr 2 [D.agg [.ai (m.edges.map aM.d), .ai (m.defs.map ab)]])]=τ;have g1:av bP τ=some (.arr 2 [D.agg [.ai (m.edges.map aM.d), .ai (m.defs.map ab)]]):=by rw[←eL,bE]
 refine j.J (j.J (j.rg [1] fun K I=> ?_));simp only[go_sem];apply I;refine j.aG ?_;refine j.rebase [1,3] ?_;simp only[go_sem];refine j.while (fun(i:Nat) env' aS=>(i≤m.edges.length∧∀e∈m.edges.take i,(e.bG++e.outs).any kQ=false)∧env'=[(1, .ptr bP 2 0 0),(3, .v (.int .i64 (i:Int)))]∧τ=aS) (fun(i:Nat)=>m.edges.length-i) 0 ⟨⟨by omega,by simp⟩,rfl,rfl⟩ ?_;rintro i env' aS ⟨⟨hi,b0⟩,rfl,rfl⟩ aB;have cH:=aB;refine j.J (j.J (j.rg [1,3] fun K I=> ?_));simp only[go_sem,g1,bn];apply I;refine j.cond rfl (fun mv=> ?_) (fun mv=> ?_)
 ·have aC:i<m.edges.length:=by simpa using mv
  have aq:=b6 aM.d m.edges i aC;rw[aM.d]at aq;have bf:(0:Int)≤(i:Int):=by omega
  have bp:(i:Int)<(m.edges.length:Int):=by omega
  have dh:=af _ (List.getElem_mem aC);have hh:=ss _ dh;have ew:=dh.outs;refine j.aN (j.J (j.aG (j.J ?_)));refine j.draw [1,3] [] [bP] [] [(0,true),(1,true),(2,true),(3,true),(4,true),(6,true),(7,true),(8,true),(9,true),(10,true),(11,true),(5,false),(12,false),(13,true)] (by kernel_rfl) (by decide) (by kernel_rfl) fun K I=> ?_;simp only[go_sem,g1,bn,aq,bf,bp];refine⟨_,Tryz.call46,(Wd m.edges[i] dh _).mono ?_⟩;rintro e σ1 ⟨o,aT,rfl,rfl⟩;have aH:=aT.bL;have aw:=aT.cB;have cv:List.take (m.edges[i].bG.map ab).length (m.edges[i].bG.map ab)=m.edges[i].bG.map ab:=List.take_of_length_le (Nat.le_refl _);simp only[go_sem,g1,aH,aw,cv];have bs:(m.edges[i].bG.map ab).length=m.edges[i].bG.length:=List.length_map ..;have kk:(m.edges[i].outs.map ab).length=m.edges[i].outs.length:=List.length_map ..;refine⟨?_,⟨Nat.le_refl _,c' _,by omega,by omega⟩,fun ob aO ax=>⟨?_, ?_⟩⟩
  ·rintro _ rfl;rw[aT.keep g1,g1]
  ·rintro _ rfl;have Rs:aV ob 1 (m.edges[i].bG.map ab++m.edges[i].outs.map ab) τ:=⟨ax,aO⟩;rw[Rs.keep g1,aT.keep g1]
  rw[←List.map_append]at aO⊢;have cW:aV ob 1 ((m.edges[i].bG++m.edges[i].outs).map ab) τ:=⟨ax,aO⟩;apply I;refine j.rebase [1,3,4] ?_;simp only[go_sem];refine j.Fj 4 (o:=ob) (sz:=1) (xs:=(m.edges[i].bG++m.edges[i].outs).map ab) rfl cW (fun c ag=> ?_) (by simp[D.b']) ?_
  ·rw[←eL]at ag⊢;exact .cons (eF ag).1 (fun _ _=>rfl) (.nil c)
  have iP:((m.edges[i].bG++m.edges[i].outs).map ab).length=(m.edges[i].bG++m.edges[i].outs).length:=List.length_map ..;refine j.J (j.rg [1,3,4] fun K I=> ?_);simp only[go_sem];apply I;refine j.aG ?_;refine j.rebase [1,3,4,5] ?_;simp only[go_sem];refine j.while (fun(U:Nat) env' aS=>(U≤(m.edges[i].bG++m.edges[i].outs).length∧∀f∈(m.edges[i].bG++m.edges[i].outs).take U,kQ f=false)∧env'=[(1, .ptr bP 2 0 0),(3, .v (.int .i64 (i:Int))),(4, .ai ((m.edges[i].bG++m.edges[i].outs).map ab)),(5, .v (.int .i64 (U:Int)))]∧τ=aS) (fun(U:Nat)=>(m.edges[i].bG++m.edges[i].outs).length-U) 0 ⟨⟨by omega,by simp⟩,rfl,rfl⟩ ?_;rintro U env' aS ⟨⟨aR,e_⟩,rfl,rfl⟩ aB;have eg:=aB;refine j.J (j.J (j.rg [1,3,4,5] fun K I=> ?_));simp only[go_sem,iP];apply I;refine j.cond rfl (fun k5=> ?_) (fun k5=> ?_)
  ·have en:U<(m.edges[i].bG++m.edges[i].outs).length:=by
    have:(U:Int)<((m.edges[i].bG++m.edges[i].outs).length:Int):=of_decide_eq_true k5;omega
   have eT:=b6 ab (m.edges[i].bG++m.edges[i].outs) U en;rw[ab]at eT;have dp:(0:Int)≤(U:Int):=by omega
   have dq:(U:Int)<((m.edges[i].bG++m.edges[i].outs).length:Int):=by omega
   refine j.aN (j.J (j.aG (j.J (j.rg [1,3,4,5] fun K I=> ?_))));simp only[go_sem,iP,eT,dp,dq];refine a1 Tryz.call19 (FA (m.edges[i].bG++m.edges[i].outs)[U] _) ?_;simp only[go_sem];apply I;refine j.cond rfl (fun dx=> ?_) (fun dx=> ?_)
   ·refine j.J (j.rg [] fun K I=> ?_);simp only[go_sem];apply I;refine j.ret ar Tryz.func26 (by simp[go_sem]) ?_;simp only[go_sem];have aa:(m.edges[i].bG++m.edges[i].outs).any kQ=true:=List.any_eq_true.2 ⟨_,List.getElem_mem en,dx⟩;have ah:p7 m=true:=List.any_eq_true.2 ⟨_,List.getElem_mem aC,aa⟩;rw[ah]
   refine j.aN (j.ba (j.rg [1,3,4,5] fun K I=> ?_));simp only[go_sem];apply I;refine j.rebase [1,3,4,5] ?_;simp only[go_sem];have ae:kQ (m.edges[i].bG++m.edges[i].outs)[U]=false:=by simpa using dx
   rw[bH U (by simp only[List.length_append]at en;omega)];exact eg (U+1) _ _ ⟨⟨by omega,o_ en e_ ae⟩,rfl,rfl⟩ (by omega)
  have hE:U=(m.edges[i].bG++m.edges[i].outs).length:=by
   have:¬(U:Int)<((m.edges[i].bG++m.edges[i].outs).length:Int):=of_decide_eq_false k5;omega
  rw[hE,List.take_length]at e_;have dr:(m.edges[i].bG++m.edges[i].outs).any kQ=false:=by
   rw[List.any_eq_false];intro f gF;rw[e_ f gF];simp
  refine j.exit rfl (j.ba (j.rg [1,3] fun K I=> ?_));simp only[go_sem];apply I;refine j.rebase [1,3] ?_;simp only[go_sem];rw[bH i (by omega)];exact cH (i+1) _ _ ⟨⟨by omega,o_ aC b0 dr⟩,rfl,rfl⟩ (by omega)
 have cC:i=m.edges.length:=by simp at mv;omega
 subst cC;rw[List.take_length]at b0;refine j.exit rfl (j.J (j.rg [] fun K I=> ?_));simp only[go_sem];apply I;refine j.ret ar Tryz.func26 (by simp[go_sem]) ?_;simp only[go_sem];have ah:p7 m=false:=by
  unfold p7;rw[List.any_eq_false];intro e he;rw[b0 e he];simp
 rw[ah]
theorem ra (bz bM:Operand) (x y:ByteArray) (h:(a' x).length+(a' y).length<2^60):cF Tryz.prog .add 9 bz bM (.v (.string x)) (.v (.string y))= .val True (.v (.string (aK (a' x++a' y)))):=by
 have:=wc bz bM (a' x) (a' y) h;have e:∀s:ByteArray,(⟨(a' s).toArray⟩:ByteArray)=s:=gr;rw[e,e]at this;exact this
def ha (out:ByteArray) (ds:List ByteArray):List UInt8:=a' out++[58]++ds.flatMap fun d=>32::a' d
theorem LA (out:ByteArray) (ds:List ByteArray) (i:Nat) (h:i<ds.length):ha out (ds.take (i+1))=ha out (ds.take i)++(32::a' ds[i]):=by
 unfold ha;rw[List.take_succ_eq_append_getElem h,List.flatMap_append];simp
theorem Fh (out:ByteArray) (ds:List ByteArray) (B:Nat) (fW:∀d∈ds,(a' d).length≤B):∀i,i≤ds.length→(ha out (ds.take i)).length≤(a' out).length+1+i*(B+1)
 |0,_=>by simp[ha]
 |i+1,h=>by
  have aa:=Fh out ds B fW i (by omega);have ah:=fW ds[i] (List.getElem_mem (by omega));rw[LA out ds i (by omega),List.length_append,List.length_cons,Nat.add_mul];omega
theorem We (out:ByteArray) (ds:List ByteArray) (σ:al) (aH:(a' out).length<2^20) (aw:ds.length<2^20) (fW:∀d∈ds,(a' d).length≤2^20):
  AC Tryz.prog 88 [.v (.string out), .ai (ds.map ab)] σ (fun e σ'=>e= .ret (.v (.string (aK (ha out ds++[10]))))∧σ'=σ):=by
 have bn:(ds.map ab).length=ds.length:=List.length_map ..;have zT:∀i,i≤ds.length→(ha out (ds.take i)).length≤2^42:=fun i hi=>by
  have aa:=Fh out ds (2^20) fW i hi;have ah:i*(2^20+1)≤2^20*(2^20+1):=Nat.mul_le_mul_right _ (by omega);omega
 have kD:=fun bz bM=>ra bz bM out ⟨#[58]⟩ (by show(a' out).length+1<_;omega);refine AC.bI Tryz.func88 Tryz.ntmps88 fun C ar=> ?_;refine j.J (j.rg [0,1] fun K I=> ?_);simp only[go_sem];apply I;refine j.J (j.rg [0,1] fun K I=> ?_);simp only[go_sem,kD];apply I;refine j.J (j.J (j.rg [1,5] fun K I=> ?_));simp only[go_sem];apply I;refine j.aG ?_;refine j.rebase [1,5,6] ?_;simp only[go_sem];refine j.while (fun(i:Nat) env' aS=>(i≤ds.length)∧env'=[(1, .ai (ds.map ab)),(5, .v (.string (aK (ha out (ds.take i))))),(6, .v (.int .i64 (i:Int)))]∧σ=aS) (fun(i:Nat)=>ds.length-i) 0 ⟨by omega,by simp[ha];rfl,rfl⟩ ?_
 rintro i env' aS ⟨hi,rfl,rfl⟩ aB;have cH:=aB;refine j.J (j.J (j.rg [1,5,6] fun K I=> ?_));simp only[go_sem,bn];apply I;refine j.cond rfl (fun e9=> ?_) (fun e9=> ?_)
 ·have aC:i<ds.length:=by simpa using e9
  have aq:=b6 ab ds i aC;rw[ab]at aq;have bf:(0:Int)≤(i:Int):=by omega
  have bp:(i:Int)<(ds.length:Int):=by omega
  have ei:=fW ds[i] (List.getElem_mem aC);have eD:=LA out ds i aC;have mB:=zT i hi;have u_:=fun bz bM=>ra bz bM ⟨#[32]⟩ ds[i] (by show 1+(a' ds[i]).length<_;omega);have QJ:=fun bz bM=>ra bz bM (aK (ha out (ds.take i))) (aK (a' ⟨#[32]⟩++a' ds[i])) (by
   have bt:(a' (aK (a' ⟨#[32]⟩++a' ds[i]))).length=1+(a' ds[i]).length:=by
    rw[ht,List.length_append];rfl
   rw[bt,ht];omega)
  refine j.aN (j.J (j.aG (j.rg [1,5,6] fun K I=> ?_)));simp only[go_sem,bn,aq,bf,bp,u_,QJ];apply I;refine j.ba (j.rg [1,5,6] fun K I=> ?_);simp only[go_sem];apply I;refine j.rebase [1,5,6] ?_;simp only[go_sem];rw[bH i (by omega)];exact aB (i+1) _ _ ⟨by omega,by rw[eD];rfl,rfl⟩ (by omega)
 have cC:i=ds.length:=by simp at e9;omega
 subst cC;have mB:=zT ds.length (Nat.le_refl _);rw[List.take_length]at mB⊢;have C8:=fun bz bM=>ra bz bM (aK (ha out ds)) ⟨#[10]⟩ (by show(ha out ds).length+1<_;omega);refine j.exit rfl (j.J (j.rg [5] fun K I=> ?_));simp only[go_sem,C8];apply I;refine j.ret ar Tryz.func88 (by simp[go_sem]) ?_;simp only[go_sem];rfl
def ld:List UInt8:=[35,105,110,99,108,117,100,101,32]
def lf (s:ByteArray):Option (List UInt8):=if s.size<9∨(a' s).take 9≠ld then none else some ((a' s).drop 9)
theorem Kk (s:ByteArray) (σ:al) (af:s.size<2^40):
  AC Tryz.prog 143 [.v (.string s)] σ (fun e σ'=>e= .ret (match lf s with|some n=> .bd [.v (.string (aK n)), .v (.bool true)]|none=> .bd [.v (.string ⟨#[]⟩), .v (.bool false)])∧σ'=σ):=by
 refine AC.bI Tryz.func143 Tryz.ntmps143 fun C ar=> ?_;rcases Nat.lt_or_ge s.size 9 with eM|eM
 ·have hi:lf s=none:=by unfold lf;rw[if_pos (.inl eM)]
  rw[hi]at ar;have aw:decide ((s.size:Int)<9)=true:=decide_eq_true (by omega);refine j.J (j.rg [0] fun K I=> ?_);simp only[go_sem];apply I;refine j.J (j.J (j.rg [0] fun K I=> ?_));simp only[go_sem,aw];apply I;refine j.bZ rfl (j.J (j.rg [] fun K I=> ?_));simp only[go_sem];apply I;refine j.ret ar Tryz.func143 (by simp[go_sem]) ?_;simp only[go_sem]
 have aw:decide ((s.size:Int)<9)=false:=decide_eq_false (by omega);have an:(s.extract 0 9).toList=(a' s).take 9:=by
  rw[cr,ByteArray.data_extract];show(s.data.extract 0 9).toList=s.data.toList.take 9
  simp
 have aF:(⟨#[35,105,110,99,108,117,100,101,32]⟩:ByteArray).toList=ld:=by rw[cr];rfl
 have aO:s.extract 9 s.size=aK ((a' s).drop 9):=by
  have e:∀x y:ByteArray,x.data=y.data→x=y:=fun x y h=>by cases x;cases y;cases h;rfl
  apply e;rw[ByteArray.data_extract];show s.data.extract 9 s.data.size=(s.data.toList.drop 9).toArray
  apply Array.ext';simp;exact List.take_of_length_le (by rw[List.length_drop];exact Nat.le_refl _)
 refine j.J (j.rg [0] fun K I=> ?_);simp only[go_sem];apply I;refine j.J (j.J (j.rg [0] fun K I=> ?_));simp only[go_sem,aw,an,aF];refine⟨by omega, ?_⟩;apply I;refine j.cond rfl (fun j7=> ?_) (fun j7=> ?_)
 ·have aZ:(a' s).take 9≠ld:=by
   intro h;rw[h]at j7;simp at j7
  have hi:lf s=none:=by unfold lf;rw[if_pos (.inr aZ)]
  refine j.J (j.rg [] fun K I=> ?_);simp only[go_sem];apply I;refine j.ret ar Tryz.func143 (by simp[go_sem]) ?_;simp only[go_sem];rw[hi]
 have he:(a' s).take 9=ld:=by simpa using j7
 have hi:lf s=some ((a' s).drop 9):=by unfold lf;rw[if_neg (by rintro(h|h);(· omega);exact h he)]
 refine j.aN (j.J (j.rg [0] fun K I=> ?_));simp only[go_sem,aO];refine⟨by omega, ?_⟩;apply I;refine j.ret ar Tryz.func143 (by simp[go_sem]) ?_;simp only[go_sem];rw[hi]
end Go.Ab.S16
namespace Go.Ab.S16
open Go Go.Proofs Go.RowKit
theorem Ym (r:Int) (σ:al):AC Tryz.prog 218 [.v (.int .i32 r)] σ (fun e σ'=>e= .ret (.v (.bool (Lib.validRune r)))∧σ'=σ):=
 AC.vR (vs:=[.int .i32 r]) (r:= .bool (Lib.validRune r)) rfl fun w=>Tryz.utf8_ValidRune r w
theorem Ty (s:ByteArray) (c:Int) (σ:al):AC Tryz.prog 217 [.v (.string s), .v (.int .u8 c)] σ (fun e σ'=>e= .ret (.v (.int .i64 (Lib.indexByte s.data.toList c.toNat.toUInt8)))∧σ'=σ):=
 AC.vR (vs:=[.string s, .int .u8 c]) (r:= .int .i64 (Lib.indexByte s.data.toList c.toNat.toUInt8)) rfl fun w=>Tryz.strings_IndexByte s c w
def hx:ByteArray:=⟨#[46,95,45,43,47]⟩
theorem O7 (r:Int) (h:128≤r):∃(n:Nat) (b:UInt8),1≤n∧n≤3∧(Utf8.encode r).size=n+1∧(Utf8.encode r).data.toList.getD n 0=b∧128≤b.toNat:=by
 have key:∀c:Nat,128≤(UInt8.ofNat (0x80+c%64)).toNat:=fun c=>by
  rw[UInt8.toNat_ofNat'];have:=Nat.mod_lt c (show 0<64 by omega);omega
 unfold Utf8.encode;generalize ag:(if Utf8.valid r=true then r.toNat else Utf8.runeError)=c;have rG:128≤c:=by
  rw[←ag];split
  ·omega
  decide
 simp only;rw[if_neg (by omega)];split
 ·exact⟨1,_,by omega,by omega,rfl,rfl,key c⟩
 split
 ·exact⟨2,_,by omega,by omega,rfl,rfl,key c⟩
 exact⟨3,_,by omega,by omega,rfl,rfl,key c⟩
theorem indexByte_none:∀(l:List UInt8) (c:UInt8),c∉l→Lib.indexByte l c=-1
 |[],_,_=>rfl
 |b::l,c,h=>by
  rw[Lib.indexByte];have ae:(b==c)=false:=by
   rw[beq_eq_false_iff_ne];exact fun e=>h (by rw[e];simp)
  rw[ae,indexByte_none l c (fun hm=>h (by simp[hm]))];rfl
theorem indexByte_some:∀(l:List UInt8) (c:UInt8),c∈l→0≤Lib.indexByte l c
 |b::l,c,h=>by
  rw[Lib.indexByte];split
  ·omega
  rename_i ae
  have hm:c∈l:=by
   rcases List.mem_cons.1 h with h|h
   ·exact absurd (by rw[h];simp) ae
   exact h
  have:=indexByte_some l c hm;split
  ·rename_i ah
   rw[beq_iff_eq]at ah;omega
  omega
theorem Ot (l:List UInt8) (c:UInt8):l.contains c=decide (0≤Lib.indexByte l c):=by
 by_cases h:c∈l
 ·rw[decide_eq_true (indexByte_some l c h)];simpa using h
 rw[indexByte_none l c h];simpa using h
theorem Ow (σ:al) (r:Int):lA Tryz.prog σ 21 9 (.v (.int .i32 r))= .val True (.v (.string (Utf8.encode r))):=by
 have aa:Tryz.prog.underlying 21=some (.int .i32):=by kernel_rfl
 have ah:Tryz.prog.underlying 9=some .string:=by kernel_rfl
 generalize Tryz.prog=P at aa ah;show dJ P (convert 21 9 (.int .i32 r))=_
 simp only[dJ,convert,nI,yt,aa,ah,Option.bind_some,Conv.intToString,fN,okV,cx,if_true]
theorem TC (r:Int) (h:128≤r) (σ:al):AC Tryz.prog 211 [.v (.string hx), .v (.int .i32 r)] σ (fun e σ'=>e= .ret (.v (.int .i64 (-1)))∧σ'=σ):=by
 refine AC.still ?_ σ;refine AC.forget (R:=fun e _=>e= .ret (.v (.int .i64 (-1)))) ?_ fun e σ' h=>⟨[],aQ.nil _,h,rfl⟩;refine AC.bI Tryz.func211 Tryz.ntmps211 fun C ar=> ?_;have bj:decide ((0:Int)≤r)=true:=decide_eq_true (by omega);have aa:decide (r<128)=false:=decide_eq_false (by omega);obtain⟨n,b,jr,r9,bU,r1,ae⟩:=O7 r h;by_cases he:r=65533
 ·subst he;have lN:∀p<5,(Utf8.decode hx p).2=1∧((((Utf8.decode hx p).1:Nat):Int)==65533)=false:=by decide
  refine j.J (j.rg [0,1] fun K I=> ?_);simp only[go_sem];apply I;refine j.aG (j.J (j.rg [0,1] fun K I=> ?_));simp only[go_sem,bj,aa];apply I;refine j.bJ rfl (j.J (j.rg [0,1] fun K I=> ?_));simp only[go_sem];apply I;refine j.bZ rfl (j.J (j.J (j.rg [0] fun K I=> ?_)));simp only[go_sem];intro bi;apply I;refine j.aG ?_;refine j.rebase [175] ?_;simp only[go_sem];refine j.while (fun(p:Nat) env' aS=>(p≤5)∧env'=[(175, .ptr bi 0 0 0)]∧aS=[(bi, .lq hx p)]) (fun(p:Nat)=>5-p) 0 ⟨by omega,rfl,rfl⟩ ?_;rintro p env' aS ⟨aP,rfl,rfl⟩ aB;have cH:=aB;refine j.J ?_;rcases Nat.lt_or_ge p 5 with Aj|Aj
  ·have dv:p<hx.size:=Aj;refine j.rg [175] fun K I=> ?_;simp only[go_sem,dv];apply I;refine j.J (j.bZ rfl (j.aN (j.aG (j.J (j.rg [175,176] fun K I=> ?_)))));simp only[go_sem];apply I;refine j.J ?_;have aw:=(lN p Aj).2;refine j.rg [5,6,175] fun K I=> ?_;simp only[go_sem,aw];apply I;refine j.bJ rfl (j.aN (j.ba ?_));refine j.rebase [175] ?_;simp only[go_sem];refine aB (p+1) _ _ ⟨by omega,rfl, ?_⟩ (by omega);rw[(lN p Aj).1]
  have dv:¬p<hx.size:=by show¬p<5;omega
  refine j.rg [175] fun K I=> ?_;simp only[go_sem,dv];apply I;refine j.J (j.bJ rfl (j.exit rfl (j.J (j.rg [] fun K I=> ?_))));simp only[go_sem];apply I;refine j.ret ar Tryz.func211 (by simp[go_sem]) ?_;simp only[go_sem]
 have ah:(r==65533)=false:=by simpa using he
 refine j.J (j.rg [0,1] fun K I=> ?_);simp only[go_sem];apply I;refine j.aG (j.J (j.rg [0,1] fun K I=> ?_));simp only[go_sem,bj,aa];apply I;refine j.bJ rfl (j.J (j.rg [0,1] fun K I=> ?_));simp only[go_sem,ah];apply I;refine j.bJ rfl (j.J (j.rg [0,1] fun K I=> ?_));simp only[go_sem];refine a1 Tryz.call218 (Ym r _) ?_;simp only[go_sem];apply I;refine j.cond rfl (fun Qe=> ?_) (fun Qe=> ?_)
 ·refine j.J (j.rg [] fun K I=> ?_);simp only[go_sem];apply I;refine j.ret ar Tryz.func211 (by simp[go_sem]) ?_;simp only[go_sem]
 refine j.scope ?_;refine j.J (j.rg [0,1] fun K I=> ?_);simp only[go_sem,Ow];apply I;refine j.J (j.rg [0,7] fun K I=> ?_);simp only[go_sem,bU];apply I;refine j.J (j.rg [0,7,8] fun K I=> ?_);simp only[go_sem];apply I;refine j.J (j.rg [0,7,8,9] fun K I=> ?_);simp only[go_sem];apply I;refine j.J (j.aG ?_);refine j.rebase [0,7,8,9] ?_;simp only[go_sem];refine j.while (fun(i:Nat) env' aS=>(True)∧env'=[(0, .v (.string hx)),(7, .v (.string (Utf8.encode r))),(8, .v (.int .i64 n)),(9, .v (.int .i64 n))]∧aS=[]) (fun(i:Nat)=>0) 0 ⟨trivial,by simp[Int.add_sub_cancel,kt (n:Int) (by omega) (by omega)],rfl⟩ ?_;rintro i env' aS ⟨hi,rfl,rfl⟩ aB;have cH:=aB;refine j.J (j.J ?_);have lM:decide ((n:Int)<(hx.size:Int))=true:=decide_eq_true (by show(n:Int)<5;omega);refine j.rg [0,7,8,9] fun K I=> ?_;simp only[go_sem,lM];apply I;refine j.bZ rfl (j.aN (j.aG ?_));refine j.scope ?_;refine j.J (j.J ?_);have pC:((hx.data.toList.getD n 0).toNat:Int)<128:=by
  have:∀n<5,(hx.data.toList.getD n 0).toNat<128:=by decide
  have:=this n (by omega);omega
 have R_:(((hx.data.toList.getD n 0).toNat:Int) !=(b.toNat:Int))=true:=by
  rw[bne_iff_ne];omega
 refine j.draw [0,7,8,9] [] [] [] [(0,true),(1,true),(2,true),(3,true),(4,true),(5,true),(6,true)] (by kernel_rfl) (by decide) (by kernel_rfl) fun K I=> ?_;simp only[go_sem,r1,R_];refine⟨⟨by omega,by show(n:Int)<5;omega⟩,⟨by omega,by omega⟩, ?_⟩;apply I;refine j.bZ rfl (j.J ?_);have hw:IntKind.i64.wrap ((n:Int)+1)=((n+1:Nat):Int):=bH n (by omega);have xu:b.toNat.toUInt8=b:=by simp
 have oB:Lib.indexByte (hx.extract (n+1) hx.size).data.toList b=-1:=indexByte_none _ _ fun hm=>by
  have iN:∀x∈(hx.extract (n+1) hx.size).data.toList,x∈hx.data.toList:=fun x an=>by
   rw[ByteArray.data_extract,Array.toList_extract]at an;exact List.mem_of_mem_drop (List.mem_of_mem_take an)
  have b0:∀x∈hx.data.toList,x.toNat<128:=by decide
  have:=b0 b (iN b hm);omega
 refine j.draw [0,7,8,9] [] [] [] [(0,true),(1,true),(2,true),(3,true),(4,true),(5,true),(6,true),(7,false),(8,true)] (by kernel_rfl) (by decide) (by kernel_rfl) fun K I=> ?_;simp only[go_sem,hw,r1];refine⟨⟨by omega,by show((n+1:Nat):Int)≤5;omega,Int.le_refl _⟩,⟨by omega,by omega⟩, ?_⟩;refine a1 Tryz.call217 (Ty _ _ _) ?_;simp only[go_sem,Int.toNat_natCast,xu,oB];apply I;refine j.J (j.J (j.rg [0,7,8,9,11] fun K I=> ?_));simp only[go_sem,xu,oB];apply I;refine j.bZ rfl (j.J (j.rg [] fun K I=> ?_));simp only[go_sem];apply I;refine j.ret ar Tryz.func211 (by simp[go_sem]) ?_;simp only[go_sem]
theorem y8 (r:Nat) (σ:al):AC Tryz.prog 196 [.v (.string hx), .v (.int .i32 (r:Int))] σ (fun e σ'=>e= .ret (.v (.bool (decide (r<128)&&hx.data.toList.contains (UInt8.ofNat r))))∧σ'=σ):=by
 rcases Nat.lt_or_ge r 128 with h|h
 ·refine(Oq hx (r:Int) σ (by omega) (by omega)).mono ?_;rintro e σ' ⟨rfl,rfl⟩;refine⟨?_,rfl⟩;rw[decide_eq_true h,Ot];rfl
 refine AC.bI Tryz.func196 Tryz.ntmps196 fun C ar=> ?_;have aw:decide (r<128)=false:=decide_eq_false (by omega);refine j.J (j.rg [0,1] fun K I=> ?_);simp only[go_sem];apply I;refine j.J (j.rg [0,1] fun K I=> ?_);simp only[go_sem];refine a1 Tryz.call211 (TC r (by omega) _) ?_;simp only[go_sem];apply I;refine j.ret ar Tryz.func196 (by simp[go_sem]) ?_;simp only[go_sem];rw[aw];rfl
def jQ (r:Nat):Bool:=decide (97≤r∧r≤122)||decide (65≤r∧r≤90)||decide (48≤r∧r≤57)||(decide (r<128)&&hx.data.toList.contains (UInt8.ofNat r))
theorem Vn (r:Nat) (σ:al):AC Tryz.prog 167 [.v (.int .i32 (r:Int))] σ (fun e σ'=>e= .ret (.v (.bool (jQ r)))∧σ'=σ):=by
 refine AC.bI Tryz.func167 Tryz.ntmps167 fun C ar=> ?_;have key:(97≤r∧r≤122)∨(65≤r∧r≤90)∨(48≤r∧r≤57)∨r<48∨(58≤r∧r≤64)∨(91≤r∧r≤96)∨122<r:=by omega
 have fin:∀b:Bool,b=jQ r→cf.ret (.v (.bool b))=cf.ret (.v (.bool (jQ r))):=fun b h=>by rw[h]
 rcases key with h|h|h|h|h|h|h
 ·have bt:decide ((97:Int)≤(r:Int))=true:=decide_eq_true (by omega);have b_:decide ((r:Int)≤122)=true:=decide_eq_true (by omega);have er:decide ((65:Int)≤(r:Int))=true:=decide_eq_true (by omega);have h_:decide ((r:Int)≤90)=false:=decide_eq_false (by omega);have ml:decide ((48:Int)≤(r:Int))=true:=decide_eq_true (by omega);have mm:decide ((r:Int)≤57)=false:=decide_eq_false (by omega);refine j.J (j.rg [0] fun K I=> ?_);simp only[go_sem];apply I;refine j.J (j.rg [0] fun K I=> ?_);simp only[go_sem,bt,b_,er,h_,ml,mm];apply I;refine j.ret ar Tryz.func167 (by simp[go_sem]) ?_;simp only[go_sem];refine fin _ ?_;symm
  simp[jQ];omega
 ·have bt:decide ((97:Int)≤(r:Int))=false:=decide_eq_false (by omega);have b_:decide ((r:Int)≤122)=true:=decide_eq_true (by omega);have er:decide ((65:Int)≤(r:Int))=true:=decide_eq_true (by omega);have h_:decide ((r:Int)≤90)=true:=decide_eq_true (by omega);have ml:decide ((48:Int)≤(r:Int))=true:=decide_eq_true (by omega);have mm:decide ((r:Int)≤57)=false:=decide_eq_false (by omega);refine j.J (j.rg [0] fun K I=> ?_);simp only[go_sem];apply I;refine j.J (j.rg [0] fun K I=> ?_);simp only[go_sem,bt,b_,er,h_,ml,mm];apply I;refine j.ret ar Tryz.func167 (by simp[go_sem]) ?_;simp only[go_sem];refine fin _ ?_;symm
  simp[jQ];omega
 ·have bt:decide ((97:Int)≤(r:Int))=false:=decide_eq_false (by omega);have b_:decide ((r:Int)≤122)=true:=decide_eq_true (by omega);have er:decide ((65:Int)≤(r:Int))=false:=decide_eq_false (by omega);have h_:decide ((r:Int)≤90)=true:=decide_eq_true (by omega);have ml:decide ((48:Int)≤(r:Int))=true:=decide_eq_true (by omega);have mm:decide ((r:Int)≤57)=true:=decide_eq_true (by omega);refine j.J (j.rg [0] fun K I=> ?_);simp only[go_sem];apply I;refine j.J (j.rg [0] fun K I=> ?_);simp only[go_sem,bt,b_,er,h_,ml,mm];apply I;refine j.ret ar Tryz.func167 (by simp[go_sem]) ?_;simp only[go_sem];refine fin _ ?_;symm
  simp[jQ];omega
 ·have bt:decide ((97:Int)≤(r:Int))=false:=decide_eq_false (by omega);have b_:decide ((r:Int)≤122)=true:=decide_eq_true (by omega);have er:decide ((65:Int)≤(r:Int))=false:=decide_eq_false (by omega);have h_:decide ((r:Int)≤90)=true:=decide_eq_true (by omega);have ml:decide ((48:Int)≤(r:Int))=false:=decide_eq_false (by omega);have mm:decide ((r:Int)≤57)=true:=decide_eq_true (by omega);refine j.J (j.rg [0] fun K I=> ?_);simp only[go_sem];apply I;refine j.J (j.rg [0] fun K I=> ?_);simp only[go_sem,bt,b_,er,h_,ml,mm];refine a1 Tryz.call196 (y8 r _) ?_;simp only[go_sem];apply I;refine j.ret ar Tryz.func167 (by simp[go_sem]) ?_;simp only[go_sem];refine fin _ ?_;have f1:decide (97≤r∧r≤122)=false:=decide_eq_false (by omega);have f2:decide (65≤r∧r≤90)=false:=decide_eq_false (by omega);have f3:decide (48≤r∧r≤57)=false:=decide_eq_false (by omega);unfold jQ;rw[f1,f2,f3];rfl
 ·have bt:decide ((97:Int)≤(r:Int))=false:=decide_eq_false (by omega);have b_:decide ((r:Int)≤122)=true:=decide_eq_true (by omega);have er:decide ((65:Int)≤(r:Int))=false:=decide_eq_false (by omega);have h_:decide ((r:Int)≤90)=true:=decide_eq_true (by omega);have ml:decide ((48:Int)≤(r:Int))=true:=decide_eq_true (by omega);have mm:decide ((r:Int)≤57)=false:=decide_eq_false (by omega);refine j.J (j.rg [0] fun K I=> ?_);simp only[go_sem];apply I;refine j.J (j.rg [0] fun K I=> ?_);simp only[go_sem,bt,b_,er,h_,ml,mm];refine a1 Tryz.call196 (y8 r _) ?_;simp only[go_sem];apply I;refine j.ret ar Tryz.func167 (by simp[go_sem]) ?_;simp only[go_sem];refine fin _ ?_;have f1:decide (97≤r∧r≤122)=false:=decide_eq_false (by omega);have f2:decide (65≤r∧r≤90)=false:=decide_eq_false (by omega);have f3:decide (48≤r∧r≤57)=false:=decide_eq_false (by omega);unfold jQ;rw[f1,f2,f3];rfl
 ·have bt:decide ((97:Int)≤(r:Int))=false:=decide_eq_false (by omega);have b_:decide ((r:Int)≤122)=true:=decide_eq_true (by omega);have er:decide ((65:Int)≤(r:Int))=true:=decide_eq_true (by omega);have h_:decide ((r:Int)≤90)=false:=decide_eq_false (by omega);have ml:decide ((48:Int)≤(r:Int))=true:=decide_eq_true (by omega);have mm:decide ((r:Int)≤57)=false:=decide_eq_false (by omega);refine j.J (j.rg [0] fun K I=> ?_);simp only[go_sem];apply I;refine j.J (j.rg [0] fun K I=> ?_);simp only[go_sem,bt,b_,er,h_,ml,mm];refine a1 Tryz.call196 (y8 r _) ?_;simp only[go_sem];apply I;refine j.ret ar Tryz.func167 (by simp[go_sem]) ?_;simp only[go_sem];refine fin _ ?_;have f1:decide (97≤r∧r≤122)=false:=decide_eq_false (by omega);have f2:decide (65≤r∧r≤90)=false:=decide_eq_false (by omega);have f3:decide (48≤r∧r≤57)=false:=decide_eq_false (by omega);unfold jQ;rw[f1,f2,f3];rfl
 have bt:decide ((97:Int)≤(r:Int))=true:=decide_eq_true (by omega);have b_:decide ((r:Int)≤122)=false:=decide_eq_false (by omega);have er:decide ((65:Int)≤(r:Int))=true:=decide_eq_true (by omega);have h_:decide ((r:Int)≤90)=false:=decide_eq_false (by omega);have ml:decide ((48:Int)≤(r:Int))=true:=decide_eq_true (by omega);have mm:decide ((r:Int)≤57)=false:=decide_eq_false (by omega);refine j.J (j.rg [0] fun K I=> ?_);simp only[go_sem];apply I;refine j.J (j.rg [0] fun K I=> ?_);simp only[go_sem,bt,b_,er,h_,ml,mm];refine a1 Tryz.call196 (y8 r _) ?_;simp only[go_sem];apply I;refine j.ret ar Tryz.func167 (by simp[go_sem]) ?_;simp only[go_sem];refine fin _ ?_;have f1:decide (97≤r∧r≤122)=false:=decide_eq_false (by omega);have f2:decide (65≤r∧r≤90)=false:=decide_eq_false (by omega);have f3:decide (48≤r∧r≤57)=false:=decide_eq_false (by omega);unfold jQ;rw[f1,f2,f3];rfl
end Go.Ab.S16
