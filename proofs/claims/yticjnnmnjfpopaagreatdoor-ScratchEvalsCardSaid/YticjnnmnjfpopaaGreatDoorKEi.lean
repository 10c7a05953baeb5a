/- A part of a proof about the given program: the abstract machine, what functions compute, laid in few texts. -/
import Derived.Test.YticjnnmnjfpopaaGreatDoorKEh
set_option linter.unusedSimpArgs false
set_option linter.unusedVariables false
set_option linter.constructorNameAsVariable false
namespace Go.Ab.S16
open Go Go.Proofs Go.RowKit
theorem Oh (xs:List D) (σ:al) (aP:∀x∈xs,x.cells.length=2∧x.plain=true) (aA:xs.length<2^40):
  AC Tryz.prog 39 [.ai xs] σ (fun e σ'=>∃o,aV o 2 xs σ∧e= .ret (.own o 2 xs.length)∧σ'=cellsOf o 2 xs++σ):=by
 refine AC.l7 (R:=fun e σ'=>(∃o,aV o 2 xs σ∧e= .ret (.own o 2 xs.length)∧σ'=cellsOf o 2 xs++σ)∨(xs=[]∧e= .ret (.v (.slice none 0 0))∧σ'=σ)) ?_ fun e σ' h=> ?_;rotate_left
 ·rcases h with h|⟨rfl,rfl,rfl⟩
  ·exact .inl h
  exact .inr ⟨_,_,rfl,ca.mU 2,none,aV.nil _ _,rfl,rfl⟩
 refine AC.bI Tryz.func39 Tryz.ntmps39 fun C ar=> ?_;refine j.J (j.rg [0] fun K I=> ?_);simp only[go_sem];apply I;refine j.J (j.J (j.rg [0] fun K I=> ?_));simp only[go_sem];intro t bc;apply I;refine j.cond rfl (fun bg=> ?_) (fun bg=> ?_)
 ·have an:xs=[]:=by
   cases xs with
   |nil=>rfl
   |cons a l=>have:=bc (by simp);rw[bg]at this;cases this
  refine j.J (j.rg [] fun K I=> ?_);simp only[go_sem];apply I;refine j.ret ar Tryz.func39 (by simp[go_sem]) ?_;simp only[go_sem];exact .inr an
 refine j.aN (j.J (j.rg [0] fun K I=> ?_));simp only[go_sem];refine⟨by decide,fun b ae=>⟨⟨aP,by omega,by omega⟩,fun ob aO ax=> ?_⟩⟩;rw[uz ae]at ax⊢;apply I;refine j.ret ar Tryz.func39 (by simp[go_sem]) ?_;simp only[go_sem];exact .inl ⟨ob,⟨ax,aO⟩,rfl,rfl⟩
theorem AR (l:List ay):∀y∈l.map ay.d,y.cells.length=2∧y.plain=true:=AS ay.d 2 (fun _=>⟨rfl,rfl⟩) l
theorem E6 {o fG:Option Nat} {sz s:Nat} {xs ys:List D} {σ:al} (aT:aV o sz xs σ) (an:bL s fG σ=some ys):bL s fG (cellsOf o sz xs++σ)=some ys:=by
 rw[E5 fun c ag=> ?_,an];subst ag;cases o with
 |none=>rfl
 |some k=>
  have aj:=aT.fresh k rfl;have:c≠k:=fun e=>by
   subst e;simp only[bL,aj]at an;cases an
  show av c [(k,_)]=none
  rw[aW,if_neg this];rfl
theorem Om (fG ir:Option Nat) (A M:List ay) (σ:al) (bb:bL 2 fG σ=some (A.map ay.d)) (hm:bL 2 ir σ=some (M.map ay.d)) (Ae:A.length≤1000) (lR:M.length≤1000):
  AC Tryz.prog 41 [.ai [.own fG 2 A.length, .own ir 2 M.length]] σ (fun e σ'=>∃o,aV o 2 ((A++M).map ay.d) σ∧e= .ret (.own o 2 (A++M).length)∧σ'=cellsOf o 2 ((A++M).map ay.d)++σ):=by
 have tv:∀{α:Type} (x y d:α),[x,y].getD 0 d=x:=fun _ _ _=>rfl;have gk:∀{α:Type} (x y d:α),[x,y].getD 1 d=y:=fun _ _ _=>rfl;have gj:List.take A.length (A.map ay.d)=A.map ay.d:=List.take_of_length_le (by simp);have qj:List.take M.length (M.map ay.d)=M.map ay.d:=List.take_of_length_le (by simp);have pw:A.length≤(A.map ay.d).length:=by simp
 have Iu:M.length≤(M.map ay.d).length:=by simp
 refine AC.bI Tryz.func41 Tryz.ntmps41 fun C ar=> ?_;obtain⟨T,bY⟩:∃T:Nat→List ay,T=fun i=>if i=0 then []else if i=1 then A else A++M:=⟨_,rfl⟩;have oj:T 0=[]:=by rw[bY];rfl
 have kC:T 1=A:=by rw[bY];rfl
 have gD:T 2=A++M:=by rw[bY];rfl
 refine j.J (j.rg [0] fun K I=> ?_);simp only[go_sem];apply I;refine j.J (j.rg [0] fun K I=> ?_);simp only[go_sem];apply I;refine j.J (j.J (j.rg [0,3] fun K I=> ?_));simp only[go_sem];apply I;refine j.aG ?_;refine j.rebase [0,3,9,10,11] ?_;simp only[go_sem];refine j.while (fun(i:Nat) env' aS=>(i≤2)∧env'=[(0, .ai [.own fG 2 A.length, .own ir 2 M.length]),(3, .v (.int .i64 ((T i).length:Int))),(9, .ai [.own fG 2 A.length, .own ir 2 M.length]),(10, .v (.int .i64 2)),(11, .v (.int .i64 (i:Int)))]∧σ=aS) (fun(i:Nat)=>2-i) 0 ⟨by omega,by rw[oj];rfl,rfl⟩ ?_
 rintro i env' aS ⟨hi,rfl,rfl⟩ aB;have cH:=aB;refine j.J (j.rg [0,3,9,10,11] fun K I=> ?_);simp only[go_sem];apply I;refine j.J ?_;refine j.cond rfl (fun e9=> ?_) (fun e9=> ?_)
 ·have aC:i<2:=by
   have:=e9;simp at this;omega
  refine j.aN (j.J (j.aG (j.J ?_)));rcases(show i=0∨i=1 by omega)with rfl|rfl
  ·refine j.rg [0,3,9,10,11] fun K I=> ?_;simp only[go_sem];refine⟨⟨by decide,by decide⟩, ?_⟩;apply I;refine j.J ?_;have hw:IntKind.i64.wrap (((T 0).length:Int)+(A.length:Int))=((T 1).length:Int):=by
    rw[oj,kC,kt _ (by simp only[List.length_nil];omega) (by simp only[List.length_nil];omega)];simp
   have js:decide (((T 1).length:Int)<0)=false:=by simp
   refine j.rg [0,3,5,9,10,11] fun K I=> ?_;simp only[go_sem,hw];apply I;refine j.J (j.rg [0,3,9,10,11] fun K I=> ?_);simp only[go_sem,js];apply I;refine j.bJ rfl (j.aN (j.ba (j.rg [0,3,9,10,11] fun K I=> ?_)));simp only[go_sem];apply I;refine j.rebase [0,3,9,10,11] ?_;simp only[go_sem];rw[bH 0 (by omega)];exact aB 1 _ _ ⟨by omega,rfl,rfl⟩ (by omega)
  refine j.rg [0,3,9,10,11] fun K I=> ?_;simp only[go_sem];refine⟨⟨by decide,by decide⟩, ?_⟩;apply I;refine j.J ?_;have hw:IntKind.i64.wrap (((T 1).length:Int)+(M.length:Int))=((T 2).length:Int):=by
   rw[kC,gD,List.length_append,kt _ (by omega) (by omega)];omega
  have js:decide (((T 2).length:Int)<0)=false:=by simp
  refine j.rg [0,3,5,9,10,11] fun K I=> ?_;simp only[go_sem,hw];apply I;refine j.J (j.rg [0,3,9,10,11] fun K I=> ?_);simp only[go_sem,js];apply I;refine j.bJ rfl (j.aN (j.ba (j.rg [0,3,9,10,11] fun K I=> ?_)));simp only[go_sem];apply I;refine j.rebase [0,3,9,10,11] ?_;simp only[go_sem];rw[bH 1 (by omega)];exact aB 2 _ _ ⟨by omega,rfl,rfl⟩ (by omega)
 have:i=2:=by
  have:=e9;simp at this;omega
 subst this;have acb:(T 2).length≤2000:=by rw[gD,List.length_append];omega
 refine j.exit rfl (j.J (j.rg [0,3] fun K I=> ?_));simp only[go_sem];refine⟨_,Tryz.call76,(P7 _ σ (by omega) (by omega)).mono ?_⟩;rintro e σ1 ⟨o,aT,rfl,rfl⟩;simp only[go_sem];apply I;refine j.J (j.J (j.rg [0,6] fun K I=> ?_));simp only[go_sem];apply I;refine j.aG ?_;refine j.rebase [6,25,26,27] ?_;simp only[go_sem];refine j.while (fun(i:Nat) env' aS=>∃o:Option Nat,(i≤2∧aV o 2 ((T i).map ay.d) σ)∧env'=[(6, .own o 2 ((T i).map ay.d).length),(25, .ai [.own fG 2 A.length, .own ir 2 M.length]),(26, .v (.int .i64 2)),(27, .v (.int .i64 (i:Int)))]∧aS=cellsOf o 2 ((T i).map ay.d)++σ) (fun(i:Nat)=>2-i) 0 ⟨o,⟨by omega,by rw[oj];exact aT⟩,by rw[oj];rfl,by rw[oj];rfl⟩ ?_
 rintro i env' aS ⟨o,⟨hi,aT⟩,rfl,rfl⟩ aB;have eg:=aB;refine j.J (j.rg [6,25,26,27] fun K I=> ?_);simp only[go_sem];apply I;refine j.J ?_;refine j.cond rfl (fun k4=> ?_) (fun k4=> ?_)
 ·have aC:i<2:=by
   have:=k4;simp at this;omega
  have aH:=aT.bL;have aw:=aT.cB;have An:=E6 aT bb;have dh:=E6 aT hm;have cv:List.take ((T i).map ay.d).length ((T i).map ay.d)=(T i).map ay.d:=List.take_of_length_le (Nat.le_refl _);refine j.aN (j.J (j.aG (j.J ?_)));rcases(show i=0∨i=1 by omega)with rfl|rfl
  ·refine j.rg [6,25,26,27] fun K I=> ?_;simp only[go_sem];refine⟨⟨by decide,by decide⟩, ?_⟩;apply I;refine j.rg [6,8,25,26,27] fun K I=> ?_;simp only[go_sem,aH,aw,cv,An,dh,pw,Iu,gj,qj];refine⟨⟨Nat.le_refl _,AR A,by simp only[List.length_map,oj,List.length_nil];omega,by simp only[List.length_map,oj,List.length_nil];omega⟩,fun ob aO ax=> ?_⟩;apply I;refine j.ba (j.rg [6,25,26,27] fun K I=> ?_);simp only[go_sem];apply I;refine j.rebase [6,25,26,27] ?_;simp only[go_sem];have bt:(T 0).map ay.d++A.map ay.d=(T 1).map ay.d:=by rw[oj,kC];rfl
   rw[bH 0 (by omega),bt];exact aB 1 _ _ ⟨ob,⟨by omega,by rw[←bt];exact aT.app aO ax⟩,rfl,rfl⟩ (by omega)
  refine j.rg [6,25,26,27] fun K I=> ?_;simp only[go_sem];refine⟨⟨by decide,by decide⟩, ?_⟩;apply I;refine j.rg [6,8,25,26,27] fun K I=> ?_;simp only[go_sem,aH,aw,cv,An,dh,pw,Iu,gj,qj];refine⟨⟨Nat.le_refl _,AR M,by simp only[List.length_map,kC];omega,by simp only[List.length_map,kC];omega⟩,fun ob aO ax=> ?_⟩;apply I;refine j.ba (j.rg [6,25,26,27] fun K I=> ?_);simp only[go_sem];apply I;refine j.rebase [6,25,26,27] ?_;simp only[go_sem];have bt:(T 1).map ay.d++M.map ay.d=(T 2).map ay.d:=by rw[kC,gD,List.map_append]
  rw[bH 1 (by omega),bt];exact aB 2 _ _ ⟨ob,⟨by omega,by rw[←bt];exact aT.app aO ax⟩,rfl,rfl⟩ (by omega)
 have:i=2:=by
  have:=k4;simp at this;omega
 subst this;rw[gD]at aT⊢;refine j.exit rfl (j.J (j.rg [6] fun K I=> ?_));simp only[go_sem];apply I;refine j.ret ar Tryz.func41 (by simp[go_sem]) ?_;simp only[go_sem];exact⟨o,aT,by rw[List.length_map],rfl⟩
def jD (g:b9) (n:Nat):aM:=g.aU.edges.getD n ⟨[],[],[],[],⟨#[]⟩,⟨#[]⟩⟩
def sZ (g:b9) (l made:List ay) (n:Nat):List ay:=kept (sY g n) (kept (sv g) l++made)
def lE (g:b9) (l:List ay) (n:Nat) (made:List ay):Nat⊕List ay:=
 if(jD g n).bG.any (lY g l)=true then .inl 6
 else match dm (jD g n).cmd ((jD g n).ins++(jD g n).impl) (sZ g l made n)with
  |none=> .inl 13
  |some x=>if((x.dep.toList==(jD g n).dep.toList)&&gU (jD g n).outs x.outs)=true then .inr (made++x.outs)else .inl 13
def jE (g:b9) (l:List ay):List Nat→List ay→Nat⊕List ay
 |[],made=> .inr made
 |n::r,made=>match lE g l n made with
  | .inl c=> .inl c
  | .inr qX=>jE g l r qX
def kr (g:b9) (aD:List ByteArray):List ByteArray:=if aD.length=0 then nU g else aD
def nc (g:b9) (l:List ay) (aD:List ByteArray):Nat⊕List ay:=
 if uF g=true then .inl 5 else match ln g (kr g aD)with
  | .inl c=> .inl c
  | .inr f_=>if(kr g aD).any (lY g l)=true then .inl 6 else jE g l f_ []
def hy (m:bK) (l:List ay) (aD:List ByteArray):Nat⊕List ay:=match iS m with
 | .inl c=> .inl c
 | .inr g=>nc g l aD
theorem yl (aI:List (List Nat)) (b5:List Nat):∀(f:Nat) (out:List Nat),(∀n∈out,n∈b5)→(∀n∈jz aI b5 f out,n∈b5)∧(jz aI b5 f out).length≤out.length+f
 |0,out,h=>⟨h,Nat.le_refl _⟩
 |f+1,out,h=>by
  unfold jz;split
  ·rename_i n au
   have hm:=List.mem_of_find?_eq_some au;obtain⟨aa,ah⟩:=yl aI b5 f (out++[n]) (fun k aj=>by
    rcases List.mem_append.1 aj with aj|aj
    ·exact h k aj
    rw[List.mem_singleton.1 aj];exact hm)
   refine⟨aa, ?_⟩;rw[List.length_append]at ah;simp at ah;omega
  exact⟨h,by omega⟩
theorem Lx {g:b9} (aq:g.Ok) {aD:List ByteArray} {f_:List Nat} (h:ln g aD= .inr f_):f_.length≤g.aU.edges.length∧∀n∈f_,n<g.aU.edges.length:=by
 unfold ln at h;split at h
 ·cases h
 cases h
 obtain⟨aa,ah⟩:=A9 g.aI (fun l aA=>(aq.hs l aA).2) (cw g.mks aD) (fun n au=>by rw[aq.jd];exact sq aq.oS aD n au);obtain⟨aJ,bg⟩:=yl g.aI (hc g.aI (cw g.mks aD)) (hc g.aI (cw g.mks aD)).length [] (fun n au=>by cases au);rw[aq.jd]at aa ah;refine⟨?_,fun n au=>ah n (aJ n au)⟩;unfold iV;simp at bg;omega
end Go.Ab.S16
namespace Go.Ab.S16
open Go Go.Proofs
inductive hr (aI:List (List Nat)) (c2:List Nat):Nat→Prop
 |base {n:Nat}:n∈c2→hr aI c2 n
 |step {k n:Nat}:hr aI c2 k→n∈aI.getD k []→hr aI c2 n
theorem GM (aI:List (List Nat)) (c2:List Nat):∀(f k:Nat) (met:List Nat),(∀n∈met,hr aI c2 n)→∀n∈kY aI f k met,hr aI c2 n
 |0,_,_,h=>h
 |f+1,k,met,h=>by
  unfold kY;split
  ·rename_i aj
   refine GM aI c2 f (k+1) _ fun n au=> ?_;rcases(m_ _ _ n).1 au with au|au
   ·exact h n au
   exact .step (h _ (List.getElem_mem aj)) au
  exact h
theorem GK (aI:List (List Nat)) (fj:∀l∈aI,∀n∈l,n<aI.length):∀(f k:Nat) (met:List Nat),met.Nodup→(∀n∈met,n<aI.length)→k≤met.length→aI.length+1≤f+k→(∀n∈met.take k,∀U∈aI.getD n [],U∈met)→(∀n∈met,n∈kY aI f k met)∧∀n∈kY aI f k met,∀U∈aI.getD n [],U∈kY aI f k met
 |0,k,met,au,hm,aj,ax,ag=>by
  have:=nD au (m:=List.range aI.length) (fun x an=>List.mem_range.2 (hm x an));rw[List.length_range]at this;omega
 |f+1,k,met,au,hm,aj,ax,ag=>by
  unfold kY;split
  ·rename_i aC
   have fm:=hm _ (List.getElem_mem aC);have aq:aI.getD met[k] []=aI[met[k]]:=dC aI met[k] [] fm;have cW:=fj _ (List.getElem_mem fm);obtain⟨r,ao⟩:=F_ (aI.getD met[k] []) met;have RY:∀n∈dY met (aI.getD met[k] []),n<aI.length:=fun n au=>by
    rcases(m_ _ _ n).1 au with au|au
    ·exact hm n au
    rw[aq]at au;exact cW n au
   have aB:=GK aI fj f (k+1) (dY met (aI.getD met[k] [])) (rk _ _ au) RY (Nat.le_trans aC (yJ _ _)) (by omega) (fun n au U aR=>by
    rw[ao,List.take_append_of_le_length aC,List.take_succ_eq_append_getElem aC]at au;rcases List.mem_append.1 au with au|au
    ·exact(m_ _ _ U).2 (.inl (ag n au U aR))
    rw[List.mem_singleton.1 au]at aR;exact(m_ _ _ U).2 (.inr aR))
   exact⟨fun n au=>aB.1 n ((m_ _ _ n).2 (.inl au)),aB.2⟩
  have gZ:k=met.length:=by omega
  rw[gZ,List.take_length]at ag;exact⟨fun n h=>h,ag⟩
theorem o3 {aI:List (List Nat)} (fj:∀l∈aI,∀n∈l,n<aI.length) {c2:List Nat} (ax:∀n∈c2,n<aI.length) (n:Nat):n∈hc aI c2↔hr aI c2 n:=by
 have aP:(hc aI c2).Perm (o2 aI c2):=sl _;rw[aP.mem_iff];have hm:∀n∈dY [] c2,n∈c2:=fun n au=>by
  rcases(m_ _ _ n).1 au with h|h
  ·cases h
  exact h
 constructor
 ·exact GM aI c2 _ _ _ (fun n au=> .base (hm n au)) n
 intro h;obtain⟨aa,ah⟩:=GK aI fj (aI.length+1) 0 (dY [] c2) (rk _ _ List.nodup_nil) (fun n au=>ax n (hm n au)) (Nat.zero_le _) (by omega) (fun n au=>by cases au);induction h with
 |base h=>exact aa _ ((m_ _ _ _).2 (.inr h))
 |step _ h aB=>exact ah _ aB _ h
theorem L8 {aI:List (List Nat)} (fj:∀l∈aI,∀n∈l,n<aI.length) {c2:List Nat} (ax:∀n∈c2,n<aI.length):(hc aI c2).Nodup:=by
 have aP:(hc aI c2).Perm (o2 aI c2):=sl _;exact aP.nodup_iff.2 (L7 aI fj c2 ax).1
def jc (aI:List (List Nat)) (out:List Nat):Prop:=∀p n r,out=p++n::r→∀k∈aI.getD n [],k∈p
theorem jc.snoc {aI:List (List Nat)} {out:List Nat} {n:Nat} (h:jc aI out) (au:∀k∈aI.getD n [],k∈out):jc aI (out++[n]):=by
 intro p m r he k aj;rcases List.eq_nil_or_concat r with rfl|⟨jR,x,rfl⟩
 ·obtain⟨rfl,ah⟩:=List.append_inj' he rfl;rw[List.cons.injEq]at ah;rw[←ah.1]at aj;exact au k aj
 have tr:out++[n]=(p++m::jR)++[x]:=by rw[he];simp
 obtain⟨aa,_⟩:=List.append_inj' tr rfl;exact h p m jR aa k aj
theorem jc.along {aI:List (List Nat)} {A:List Nat} (bY:jc aI A) {Q:Nat→Prop} (h:∀n∈A,(∀k∈aI.getD n [],Q k)→Q n):∀n∈A,Q n:=by
 have key:∀i,i≤A.length→∀n∈A.take i,Q n:=by
  intro i;induction i with
  |zero=>intro _ n au;simp at au
  |succ i aB=>
   intro hi n au;rw[List.take_succ_eq_append_getElem (by omega)]at au;rcases List.mem_append.1 au with au|au
   ·exact aB (by omega) n au
   rw[List.mem_singleton.1 au];refine h _ (List.getElem_mem _) fun k aj=>aB (by omega) k (bY (A.take i) A[i] (A.drop (i+1)) ?_ k aj);rw[←List.drop_eq_getElem_cons,List.take_append_drop]
 intro n au;exact key A.length (Nat.le_refl _) n (by rwa [List.take_length])
theorem jc.back {aI:List (List Nat)} {p r:List Nat} (h:jc aI (p++r)):∀k∈p,∀U∈aI.getD k [],U∈p:=by
 intro k aj U aR;obtain⟨Lu,Fa,rfl⟩:=List.append_of_mem aj;have:=h Lu k (Fa++r) (by simp) U aR;exact List.mem_append.2 (.inl this)
theorem jc.ahead {aI:List (List Nat)} {p r:List Nat} {n:Nat} (h:jc aI (p++n::r)) {k:Nat} (aj:hr aI (aI.getD n []) k):k∈p:=by
 induction aj with
 |base ae=>exact h p n r rfl _ ae
 |step _ aR aB=>exact h.back _ aB _ aR
theorem AL (aI:List (List Nat)) (b5:List Nat):∀(f:Nat) (out:List Nat),out.Nodup→jc aI out→(jz aI b5 f out).Nodup∧jc aI (jz aI b5 f out)
 |0,out,aa,ah=>⟨aa,ah⟩
 |f+1,out,aa,ah=>by
  unfold jz;split
  ·rename_i n au
   have ao:=List.find?_some au;unfold ready at ao;rw[Bool.and_eq_true,Bool.not_eq_true',List.all_eq_true]at ao;refine AL aI b5 f (out++[n]) ?_ (ah.snoc fun k aj=>by simpa using ao.2 k aj);rw[List.nodup_append];exact⟨aa,by simp,fun a bb b ae=>by simp only[List.mem_singleton]at ae;rw[ae];exact fun e=>by have:=ao.1;rw[←e,List.contains_iff_mem.2 bb]at this;cases this⟩
  exact⟨aa,ah⟩
theorem zk {l m:List Nat} (aA:l.Nodup) (af:∀x∈l,x∈m) (hle:m.length≤l.length):∀x∈m,x∈l:=fun x an=>by
 by_cases h:x∈l
 ·exact h
 have:=nD (l:=x::l) (m:=m) (List.nodup_cons.2 ⟨h,aA⟩) (fun y aF=>by
  rcases List.mem_cons.1 aF with rfl|aF
  ·exact an
  exact af y aF)
 simp at this;omega
theorem Lk {aI:List (List Nat)} {A S:List Nat} (gj:jc aI A) (bh:∀n∈S,n∈A) (ag:∀n∈S,∀k∈aI.getD n [],k∈S):∀(f:Nat) (out:List Nat),out.Nodup→(∀n∈out,n∈S)→S.length≤out.length+f→∀n∈S,n∈jz aI S f out
 |0,out,aa,ah,aJ=>zk aa ah aJ
 |f+1,out,aa,ah,aJ=>by
  unfold jz;split
  ·rename_i m hm
   have ao:=List.find?_some hm;have r8:=List.mem_of_find?_eq_some hm;unfold ready at ao;rw[Bool.and_eq_true,Bool.not_eq_true']at ao;refine Lk gj bh ag f (out++[m]) ?_ (fun n au=> ?_) (by simp only[List.length_append,List.length_cons,List.length_nil];omega)
   ·rw[List.nodup_append];exact⟨aa,by simp,fun a bb b ae=>by simp only[List.mem_singleton]at ae;rw[ae];exact fun e=>by have:=ao.1;rw[←e,List.contains_iff_mem.2 bb]at this;cases this⟩
   rcases List.mem_append.1 au with au|au
   ·exact ah n au
   rw[List.mem_singleton.1 au];exact r8
  rename_i dr
  rw[List.find?_eq_none]at dr;intro n au;refine gj.along (Q:=fun n=>n∈S→n∈out) (fun n _ aB Ah=> ?_) n (bh n au) au;have ao:=dr n Ah;by_cases aH:n∈out
  ·exact aH
  refine absurd ?_ ao;unfold ready;rw[Bool.and_eq_true,Bool.not_eq_true',List.all_eq_true];refine⟨by simpa using aH,fun k aj=> ?_⟩;simpa using aB k aj (ag n Ah k aj)
theorem U_ {aI:List (List Nat)} {A S:List Nat} (gj:jc aI A) (bh:∀n∈S,n∈A) (ag:∀n∈S,∀k∈aI.getD n [],k∈S) (n:Nat):n∈iV aI S↔n∈S:=
 ⟨(yl aI S S.length [] (fun n au=>by cases au)).1 n,Lk gj bh ag S.length [] List.nodup_nil (fun n au=>by cases au) (by simp) n⟩
theorem Ln {i:Nat}:∀{outs:List ByteArray} {mks mks':List (ByteArray×Nat)},jA mks i outs=some mks'→mks'=mks++outs.map fun f=>(f,i)
 |[],mks,mks',h=>by
  have:mks=mks':=by simpa [jA]using h
  subst this;simp
 |f::r,mks,mks',h=>by
  have aa:=h;rw[show f::r=(f::r).take (0+1)++r by rfl]at aa;unfold jA at aa;rw[List.foldl_append]at aa;simp only[Nat.zero_add,List.take_succ_cons,List.take_zero,List.foldl_cons,List.foldl_nil,Option.bind_some]at aa;split at aa
  ·rw[HU (fun m f=>if(cE m f).isSome then none else some (m++[(f,i)]))]at aa;cases aa
  rw[Ln (outs:=r) (mks:=mks++[(f,i)]) (mks':=mks') aa];simp
def pR (edges:List aM) (n:Nat):List (ByteArray×Nat):=(List.range n).flatMap fun i=>(edges.getD i ⟨[],[],[],[],⟨#[]⟩,⟨#[]⟩⟩).outs.map fun f=>(f,i)
theorem yX {edges:List aM}:∀{n:Nat},n≤edges.length→∀{mks:List (ByteArray×Nat)},jC edges n=some mks→mks=pR edges n
 |0,_,mks,h=>by
  have:mks=[]:=by simpa [jC]using h.symm
  subst this;rfl
 |n+1,au,mks,h=>by
  rw[wP edges n (by omega)]at h;cases hm:jC edges n with
  |none=>rw[hm]at h;cases h
  |some m2=>
   rw[hm,Option.bind_some]at h;rw[Ln h,yX (by omega) hm];unfold pR;rw[List.range_succ,List.flatMap_append];simp only[List.flatMap_cons,List.flatMap_nil,List.append_nil];rw[dC edges n _ (by omega)]
theorem AF {mks:List (ByteArray×Nat)} (au:(mks.map (·.1)).Nodup) (f:ByteArray) (n:Nat):cE mks f=some n↔(f,n)∈mks:=by
 constructor
 ·intro h;obtain⟨p,aP,rfl,rfl⟩:=EO h;exact aP
 intro h;induction mks with
 |nil=>cases h
 |cons p r aB=>
  rw[List.map_cons,List.nodup_cons]at au;unfold cE;rw[List.find?_cons];rcases List.mem_cons.1 h with rfl|h
  ·simp
  cases ax:(f==p.1)with
  |true=>
   rw[beq_iff_eq]at ax;exact absurd (List.mem_map.2 ⟨(f,n),h,ax⟩) au.1
  |false=>exact aB au.2 h
theorem ET {mks:List (ByteArray×Nat)} (a7:List ByteArray) (n:Nat):n∈cw mks a7↔∃f∈a7,cE mks f=some n:=by
 have key:∀i,i≤a7.length→(n∈cw mks (a7.take i)↔∃f∈a7.take i,cE mks f=some n):=by
  intro i;induction i with
  |zero=>intro _;simp[cw]
  |succ i aB=>
   intro hi;have aB:=aB (by omega);rw[yd mks a7 i (by omega),List.take_succ_eq_append_getElem (by omega)];have an:(∃f∈a7.take i++[a7[i]],cE mks f=some n)↔(∃f∈a7.take i,cE mks f=some n)∨cE mks a7[i]=some n:=by
    constructor
    ·rintro⟨f,ax,h⟩;rcases List.mem_append.1 ax with ax|ax
     ·exact .inl ⟨f,ax,h⟩
     rw[List.mem_singleton.1 ax]at h;exact .inr h
    rintro(⟨f,ax,h⟩|h)
    ·exact⟨f,List.mem_append.2 (.inl ax),h⟩
    exact⟨_,List.mem_append.2 (.inr (List.mem_singleton.2 rfl)),h⟩
   rw[an,←aB];split
   ·rename_i m hm
    rw[hm];split
    ·rename_i ag
     rw[List.contains_iff_mem]at ag;constructor
     ·exact .inl
     rintro(h|h)
     ·exact h
     cases h;exact ag
    rw[List.mem_append,List.mem_singleton,Option.some.injEq];constructor
    ·rintro(h|h)
     ·exact .inl h
     exact .inr h.symm
    rintro(h|h)
    ·exact .inl h
    exact .inr h.symm
   rename_i hm
   rw[hm];simp
 have:=key a7.length (Nat.le_refl _);rwa [List.take_length]at this
structure b9.ja (g:b9):Prop where
 aI:g.aI=g.aU.edges.map fun e=>cw g.mks e.bG
 eP:(g.mks.map (·.1)).Nodup
 EY:∀f n,cE g.mks f=some n↔f∈g' g.aU n
 adk:∀n,(g' g.aU n).Nodup
 Yf:∃A,jc g.aI A∧∀n,n<g.aU.edges.length→n∈A
 jd:g.aI.length=g.aU.edges.length
 hs:∀l∈g.aI,∀n∈l,n<g.aI.length
 oS:∀p∈g.mks,p.2<g.aI.length
theorem KZ (m:bK) (f:ByteArray) (n:Nat):(f,n)∈pR m.edges m.edges.length↔f∈g' m n:=by
 unfold pR g';rw[List.mem_flatMap];constructor
 ·rintro⟨i,hi,h⟩;obtain⟨x,an,he⟩:=List.mem_map.1 h;rw[Prod.mk.injEq]at he;obtain⟨rfl,rfl⟩:=he;have hi:=List.mem_range.1 hi;rw[List.getElem?_eq_getElem hi];rw[dC _ _ _ hi]at an;exact an
 intro h;by_cases hi:n<m.edges.length
 ·rw[List.getElem?_eq_getElem hi]at h;exact⟨n,List.mem_range.2 hi,List.mem_map.2 ⟨f,by rw[dC _ _ _ hi];exact h,rfl⟩⟩
 rw[List.getElem?_eq_none (by omega)]at h;cases h
theorem UD (edges:List aM) (n:Nat) (au:n<edges.length):(edges[n].outs).Sublist ((pR edges edges.length).map (·.1)):=by
 unfold pR;rw[List.map_flatMap];have aa:(edges[n].outs)=((edges.getD n ⟨[],[],[],[],⟨#[]⟩,⟨#[]⟩⟩).outs.map fun f=>(f,n)).map (·.1):=by
  rw[dC _ _ _ au,List.map_map];exact(List.map_id _).symm
 rw[aa];obtain⟨a,b,gV⟩:=List.append_of_mem (List.mem_range.2 au);rw[gV,List.flatMap_append,List.flatMap_cons];exact(List.sublist_append_left _ _).trans (List.sublist_append_right _ _)
theorem UO {m:bK} (af:∀e∈m.edges,e.small) {g:b9} (h:iS m= .inr g):g.ja∧g.aU=m:=by
 unfold iS at h;split at h
 ·cases h
 rename_i mks hm
 dsimp only at h;split at h
 ·cases h
 rename_i hlen
 cases h
 obtain⟨aa,_⟩:=yY af m.edges.length (Nat.le_refl _) mks hm;have fm:=yX (Nat.le_refl _) hm;have aC:=sq aa.lt;refine⟨⟨rfl,aa.eP,fun f n=> ?_,fun n=> ?_, ?_,by simp,fun l aA n au=> ?_,fun p aP=>by have:=aa.lt p aP;simpa using this⟩,rfl⟩
 ·rw[AF aa.eP];show(f,n)∈mks↔_
  rw[fm];exact KZ m f n
 ·show(g' m n).Nodup
  unfold g';by_cases au:n<m.edges.length
  ·rw[List.getElem?_eq_getElem au];refine List.Nodup.sublist (UD m.edges n au) ?_;rw[←fm];exact aa.eP
  rw[List.getElem?_eq_none (by omega)];exact List.nodup_nil
 ·obtain⟨t1,t2⟩:=AL (m.edges.map fun e=>cw mks e.bG) (List.range m.edges.length) (List.range m.edges.length).length [] List.nodup_nil (fun p n r he=>by simp at he);refine⟨_,t2,fun n au=> ?_⟩;refine zk t1 (yl _ _ _ [] (fun n au=>by cases au)).1 ?_ n (List.mem_range.2 au);exact Nat.le_trans (Nat.le_of_eq List.length_range) (Nat.not_lt.1 hlen)
 obtain⟨e,he,rfl⟩:=List.mem_map.1 aA;simpa using aC e.bG n au
theorem hr.lt {g:b9} (aq:g.ja) {c2:List Nat} (ax:∀n∈c2,n<g.aI.length) {n:Nat} (h:hr g.aI c2 n):n<g.aI.length:=by
 induction h with
 |base h=>exact ax _ h
 |step aa ah aB=>
  rw[dC _ _ _ aB]at ah;exact aq.hs _ (List.getElem_mem aB) _ ah
theorem BR {g:b9} (aq:g.ja) (n:Nat):∀k∈g.aI.getD n [],k<g.aI.length:=fun k aj=>by
 by_cases au:n<g.aI.length
 ·rw[dC _ _ _ au]at aj;exact aq.hs _ (List.getElem_mem au) _ aj
 rw[List.getD_eq_getElem?_getD,List.getElem?_eq_none (by omega)]at aj;cases aj
theorem NA {g:b9} (aq:g.ja) (n:Nat) (f:ByteArray):f∈kV g n↔∃k,hr g.aI (g.aI.getD n []) k∧f∈g' g.aU k:=by
 unfold kV eR;rw[wi,List.mem_flatMap];constructor
 ·rintro⟨k,aj,h⟩;exact⟨k,(o3 aq.hs (BR aq n) k).1 aj,h⟩
 rintro⟨k,aj,h⟩;exact⟨k,(o3 aq.hs (BR aq n) k).2 aj,h⟩
theorem Vq {g:b9} (aq:g.ja) {aD:List ByteArray} {P:List Nat} (h:ln g aD= .inr P):P.Nodup∧jc g.aI P∧(∀n,n∈P↔hr g.aI (cw g.mks aD) n)∧∀f∈aD,f∈h2 g∨(cE g.mks f).isSome=true:=by
 unfold ln at h;split at h
 ·cases h
 rename_i cc
 cases h
 have aC:=sq aq.oS aD;obtain⟨A,gj,Ql⟩:=aq.Yf;obtain⟨t1,t2⟩:=AL g.aI (hc g.aI (cw g.mks aD)) (hc g.aI (cw g.mks aD)).length [] List.nodup_nil (fun p n r he=>by simp at he);refine⟨t1,t2,fun n=> ?_,fun f ax=> ?_⟩
 ·rw[U_ gj (fun n au=> ?_) (fun n au k aj=> ?_) n,o3 aq.hs aC]
  ·exact Ql n (by rw[←aq.jd];exact((o3 aq.hs aC n).1 au).lt aq aC)
  exact(o3 aq.hs aC k).2 (.step ((o3 aq.hs aC n).1 au) aj)
 rw[Bool.not_eq_true,List.any_eq_false]at cc;have:=cc f ax;cases aA:(cE g.mks f).isSome with
 |true=>exact .inr rfl
 |false=>
  rw[aA]at this;simp at this;exact .inl this
def uo (f:Nat→Nat→Bool) (i U:Nat):Nat→Nat→Bool:=fun a c=>if a=i∧c=U then true else f a c
def jW (k i:Nat) (f:Nat→Nat→Bool):Nat→Nat→Nat→Bool
 |0=>f
 |m+1=>if(jW k i f m i k&&jW k i f m k m)=true then uo (jW k i f m) i m else jW k i f m
def ma (n k:Nat) (f:Nat→Nat→Bool):Nat→Nat→Nat→Bool
 |0=>f
 |m+1=>jW k m (ma n k f m) n
def fy (n:Nat) (f:Nat→Nat→Bool):Nat→Nat→Nat→Bool
 |0=>f
 |m+1=>ma n m (fy n f m) n
theorem yK (k i:Nat) (f:Nat→Nat→Bool):∀m a c,jW k i f m a c=(f a c||(decide (a=i∧c<m)&&(f a k&&f k c)))
 |0,a,c=>by simp[jW]
 |m+1,a,c=>by
  have bt:jW k i f m i k=f i k:=by
   rw[yK k i f m];cases f i k<;>simp
  have b_:jW k i f m k m=f k m:=by
   rw[yK k i f m];by_cases h:k=i∧m<m
   ·omega
   simp
  unfold jW;rw[bt,b_];by_cases nf:a=i∧c=m
  ·obtain⟨rfl,rfl⟩:=nf;have aa:jW k a f c a c=f a c:=by
    rw[yK k a f c];simp
   split
   ·rename_i h
    unfold uo;rw[if_pos ⟨rfl,rfl⟩];simp only[Bool.and_eq_true]at h;simp[h.1,h.2]
   rename_i h
   rw[aa];have:(f a k&&f k c)=false:=by simpa using h
   rw[this];simp
  have ah:decide (a=i∧c<m+1)=decide (a=i∧c<m):=by
   congr 1
   exact propext ⟨fun h=>⟨h.1,by have:=fun e=>nf ⟨h.1,e⟩;omega⟩,fun h=>⟨h.1,by omega⟩⟩
  rw[ah,←yK k i f m];split
  ·unfold uo;rw[if_neg nf]
  rfl
theorem BB (n k:Nat) (f:Nat→Nat→Bool) (aj:k<n):∀m a c,ma n k f m a c=(f a c||(decide (a<m∧c<n)&&(f a k&&f k c)))
 |0,a,c=>by simp[ma]
 |m+1,a,c=>by
  have bt:∀a,ma n k f m a k=f a k:=fun a=>by
   rw[BB n k f aj m];cases f a k<;>simp
  have b_:∀c,ma n k f m k c=f k c:=fun c=>by
   rw[BB n k f aj m];cases h:f k c<;>simp
  unfold ma;rw[yK,bt,b_,BB n k f aj m];by_cases ID:a=m
  ·subst ID;have d1:decide (a<a∧c<n)=false:=by simp
   have d2:decide (a<a+1∧c<n)=decide (a=a∧c<n):=by simp
   rw[d1,d2];simp
  have d1:decide (a=m∧c<n)=false:=by simp[ID]
  have d2:decide (a<m+1∧c<n)=decide (a<m∧c<n):=by
   congr 1
   exact propext ⟨fun h=>⟨by omega,h.2⟩,fun h=>⟨by omega,h.2⟩⟩
  rw[d1,d2];simp
theorem yL (n:Nat) (f:Nat→Nat→Bool) (m:Nat) (hm:m<n) {a c:Nat} (bb:a<n) (ag:c<n):fy n f (m+1) a c=(fy n f m a c||(fy n f m a m&&fy n f m m c)):=by
 rw[fy,BB n m _ hm,decide_eq_true (show a<n∧c<n from⟨bb,ag⟩),Bool.true_and]
theorem Gb (n:Nat) (f:Nat→Nat→Bool):∀m,m≤n→∀{a c:Nat},a<n→c<n→f a c=true→fy n f m a c=true
 |0,_,_,_,_,_,h=>h
 |m+1,hm,_,_,bb,ag,h=>by rw[yL n f m (by omega) bb ag,Gb n f m (by omega) bb ag h];rfl
theorem Nc (n:Nat) (f:Nat→Nat→Bool):∀m,m≤n→∀{a b c:Nat},b<m→a<n→c<n→fy n f m a b=true→fy n f m b c=true→fy n f m a c=true
 |0,_,_,_,_,h,_,_,_,_=>by omega
 |m+1,hm,a,b,c,ae,bb,ag,aa,ah=>by
  have jo:m<n:=by omega
  have aB:=fun{a b c:Nat} (ae:b<m) (bb:a<n) (ag:c<n)=>Nc n f m (by omega) (a:=a) (b:=b) (c:=c) ae bb ag;rw[yL n f m jo bb (by omega),Bool.or_eq_true,Bool.and_eq_true]at aa;rw[yL n f m jo (by omega) ag,Bool.or_eq_true,Bool.and_eq_true]at ah;rw[yL n f m jo bb ag,Bool.or_eq_true,Bool.and_eq_true];by_cases lK:b=m
  ·subst lK;have g1:fy n f b a b=true:=by rcases aa with h|h;exact h;exact h.1
   have g2:fy n f b b c=true:=by rcases ah with h|h;exact h;exact h.2
   exact .inr ⟨g1,g2⟩
  have k_:b<m:=by omega
  rcases aa with aa|aa
  ·rcases ah with ah|ah
   ·exact .inl (aB k_ bb ag aa ah)
   exact .inr ⟨aB k_ bb jo aa ah.1,ah.2⟩
  rcases ah with ah|ah
  ·exact .inr ⟨aa.1,aB k_ jo ag aa.2 ah⟩
  exact .inr ⟨aa.1,ah.2⟩
theorem BC (n:Nat) (f:Nat→Nat→Bool) {T:Nat→Nat→Prop} (bj:∀a c,f a c=true→T a c) (bc:∀a b c,T a b→T b c→T a c):∀m,m≤n→∀{a c:Nat},a<n→c<n→fy n f m a c=true→T a c
 |0,_,a,c,_,_,h=>bj a c h
 |m+1,hm,a,c,bb,ag,h=>by
  rw[yL n f m (by omega) bb ag,Bool.or_eq_true,Bool.and_eq_true]at h;rcases h with h|h
  ·exact BC n f bj bc m (by omega) bb ag h
  exact bc _ _ _ (BC n f bj bc m (by omega) bb (by omega) h.1) (BC n f bj bc m (by omega) (by omega) ag h.2)
def gh (m:bK) (n:Nat):aM:=m.edges.getD n ⟨[],[],[],[],⟨#[]⟩,⟨#[]⟩⟩
def pS (m:bK) (a c:Nat):Bool:=(gh m a).bG.any fun f=>decide (dd m f=(c:Int))
def du (m:bK) (a c:Nat):Bool:=fy m.edges.length (pS m) m.edges.length a c
theorem p4 (a b:ByteArray):(a.toList==b.toList)=(a==b):=by
 by_cases h:a=b
 ·subst h;simp
 have aa:(a==b)=false:=by
  cases a8:(a==b)with
  |false=>rfl
  |true=>exact absurd ((bytes_beq a b).1 a8) h
 rw[aa];cases a8:(a.toList==b.toList)with
 |false=>rfl
 |true=>
  rw[beq_iff_eq,cr,cr]at a8;exact absurd (by rw[←gr a,←gr b];exact congrArg aK a8) h
theorem K2 {a b:List ByteArray} (h:oV a b=true):a=b:=by
 unfold oV at h;rw[Bool.and_eq_true,decide_eq_true_eq,List.all_eq_true]at h;refine List.ext_getElem h.1 fun i aa ah=> ?_;have:=h.2 i (List.mem_range.2 aa);rw[p4,dC _ _ _ aa,dC _ _ _ ah]at this;exact(bytes_beq _ _).1 this
theorem XZ {g:b9} {l made qX:List ay} {n:Nat}:lE g l n made= .inr qX↔((jD g n).bG.any (lY g l)=false∧∃d,dm (jD g n).cmd ((jD g n).ins++(jD g n).impl) (sZ g l made n)=some d∧((d.dep.toList==(jD g n).dep.toList)&&gU (jD g n).outs d.outs)=true∧qX=made++d.outs):=by
 unfold lE;constructor
 ·intro h;split at h
  ·cases h
  rename_i hm
  refine⟨by simpa using hm, ?_⟩;split at h
  ·cases h
  rename_i d aw
  split at h
  ·rename_i ax
   cases h
   exact⟨d,aw,ax,rfl⟩
  cases h
 rintro⟨aa,d,ah,aJ,rfl⟩;rw[if_neg (by rw[aa];decide),ah]
 simp only;rw[if_pos aJ]
theorem Pz {g:b9} {n:Nat} {d:hO} (h:((d.dep.toList==(jD g n).dep.toList)&&gU (jD g n).outs d.outs)=true):d.outs.map ay.name=g' g.aU n:=by
 rw[Bool.and_eq_true]at h;have:=K2 h.2;rw[←this];unfold jD g';rw[List.getD_eq_getElem?_getD];cases g.aU.edges[n]?<;>rfl
theorem Oj {α:Type} [DecidableEq α] [Inhabited α] (zs:List α) (x:α):x∈Lib.compact zs↔x∈zs:=by
 refine⟨fun h=>(B5 zs).subset h,fun h=> ?_⟩;obtain⟨i,hi,rfl⟩:=List.getElem_of_mem h;have key:∀i,i<zs.length→zs.toArray[i]!∈Lib.compact zs:=by
  intro i;induction i with
  |zero=>
   intro hi;unfold Lib.compact Lib.compactUpTo;exact List.mem_map.2 ⟨0,List.mem_filter.2 ⟨List.mem_range.2 hi,by simp[Lib.keeps]⟩,rfl⟩
  |succ i aB=>
   intro hi;cases aj:Lib.keeps zs.toArray (i+1)with
   |true=>
    unfold Lib.compact Lib.compactUpTo;exact List.mem_map.2 ⟨i+1,List.mem_filter.2 ⟨List.mem_range.2 hi,aj⟩,rfl⟩
   |false=>
    unfold Lib.keeps at aj;have:zs.toArray[i+1]! =zs.toArray[i]!:=by
     simpa using aj
    rw[this];exact aB (by omega)
 have:=key i hi;simpa [hi]using this
theorem M5 (m:bK) (f:ByteArray):f∈hd m↔∃e∈m.edges,f∈e.bG:=by
 have aa:f∈hd m↔a' f∈(hd m).map a':=by
  rw[List.mem_map];constructor
  ·intro h;exact⟨f,h,rfl⟩
  rintro⟨y,aF,he⟩;have:y=f:=by rw[←gr y,←gr f,he]
  rw[←this];exact aF
 rw[aa];unfold hd;rw[Hb,Oj,List.mem_map];constructor
 ·rintro⟨y,aF,he⟩;have Tm:y=f:=by rw[←gr y,←gr f,he]
  rw[wi,List.mem_flatMap]at aF;obtain⟨e,he,h⟩:=aF;exact⟨e,he,Tm▸h⟩
 rintro⟨e,he,h⟩;exact⟨f,(wi _ _).2 (List.mem_flatMap.2 ⟨e,he,h⟩),rfl⟩
theorem FU (g:b9) (f:ByteArray):f∈h2 g↔(∃e∈g.aU.edges,f∈e.bG)∧(cE g.mks f).isSome=false:=by
 unfold h2 kept;rw[List.mem_filter,M5];simp
theorem Lr {g:b9} (aq:g.ja) (f:ByteArray):f∈l3 g↔(cE g.mks f).isSome=true:=by
 unfold l3;rw[wi,List.mem_map,Option.isSome_iff_exists];constructor
 ·rintro⟨p,aP,rfl⟩;exact⟨p.2,(AF aq.eP _ _).2 aP⟩
 rintro⟨n,au⟩;exact⟨(f,n),(AF aq.eP _ _).1 au,rfl⟩
theorem si (l:List ByteArray) (f:ByteArray):inB l f=true↔f∈l:=by
 unfold inB;rw[List.any_eq_true];constructor
 ·rintro⟨x,an,h⟩;rw[p4]at h;rw[←(bytes_beq _ _).1 h];exact an
 intro h;exact⟨f,h,by rw[beq_iff_eq]⟩
theorem EZ (edges:List aM):∀n,n≤edges.length→(pR edges n).map (·.1)=(edges.take n).flatMap aM.outs
 |0,_=>rfl
 |n+1,h=>by
  have aB:=EZ edges n (by omega);unfold pR at aB⊢;rw[List.range_succ,List.flatMap_append,List.map_append,aB,List.take_succ_eq_append_getElem (by omega),List.flatMap_append];simp only[List.flatMap_cons,List.flatMap_nil,List.append_nil];rw[dC edges n _ (by omega),List.map_map];congr 1
  exact List.map_id _
theorem Lp {i:Nat}:∀{outs:List ByteArray} {mks:List (ByteArray×Nat)},(mks.map (·.1)++outs).Nodup→jA mks i outs=some (mks++outs.map fun f=>(f,i))
 |[],mks,_=>by simp[jA]
 |f::r,mks,h=>by
  have ax:(cE mks f).isSome=false:=by
   cases aA:cE mks f with
   |none=>rfl
   |some n=>
    obtain⟨p,aP,_,rfl⟩:=EO aA;exact absurd rfl ((List.nodup_append.1 h).2.2 _ (List.mem_map_of_mem (f:=(·.1)) aP) _ (List.mem_cons_self ..))
  have aB:=Lp (i:=i) (outs:=r) (mks:=mks++[(f,i)]) (by rw[List.map_append];simpa using h)
  unfold jA at aB⊢;rw[List.foldl_cons,Option.bind_some,if_neg (by rw[ax];decide),aB]
  simp
theorem Gx {edges:List aM}:∀{n:Nat},n≤edges.length→((edges.take n).flatMap aM.outs).Nodup→jC edges n=some (pR edges n)
 |0,_,_=>rfl
 |n+1,au,h=>by
  have ah:=h;rw[List.take_succ_eq_append_getElem (by omega),List.flatMap_append]at ah;simp only[List.flatMap_cons,List.flatMap_nil,List.append_nil]at ah;rw[wP edges n (by omega),Gx (by omega) (List.nodup_append.1 ah).1,Option.bind_some,Lp (by rw[EZ edges n (by omega)];exact ah)];unfold pR;rw[List.range_succ,List.flatMap_append];simp only[List.flatMap_cons,List.flatMap_nil,List.append_nil];rw[dC edges n _ (by omega)]
structure rn (m:bK) (mks:List (ByteArray×Nat)):Prop where
 eP:(mks.map (·.1)).Nodup
 look:∀f n,cE mks f=some n↔f∈g' m n
 lt:∀p∈mks,p.2<m.edges.length
theorem UE {m:bK} (af:∀e∈m.edges,e.small) {mks:List (ByteArray×Nat)} (h:jC m.edges m.edges.length=some mks):rn m mks:=by
 obtain⟨aa,_⟩:=yY af m.edges.length (Nat.le_refl _) mks h;have fm:=yX (Nat.le_refl _) h;refine⟨aa.eP,fun f n=> ?_,aa.lt⟩;rw[AF aa.eP,fm];exact KZ m f n
theorem ym (m:bK) {i:Nat} (h:i<m.edges.length):g' m i=m.edges[i].outs:=by
 unfold g';rw[List.getElem?_eq_getElem h];rfl
theorem yn {m:bK} {f:ByteArray} {n:Nat} (h:f∈g' m n):n<m.edges.length:=by
 by_cases au:n<m.edges.length
 ·exact au
 unfold g' at h;rw[List.getElem?_eq_none (by omega)]at h;cases h
theorem KP (m:bK) (f:ByteArray):dd m f<0∨∃n:Nat,dd m f=(n:Int):=by
 unfold dd;rcases ya (fun e:aM=>inB e.outs f) m.edges with⟨h,_⟩|⟨i,_,h,_⟩
 ·exact .inl (by rw[h];decide)
 exact .inr ⟨i,h⟩
theorem vJ {m:bK} {mks:List (ByteArray×Nat)} (h:rn m mks) (f:ByteArray) (n:Nat):dd m f=(n:Int)↔cE mks f=some n:=by
 unfold dd;rcases ya (fun e:aM=>inB e.outs f) m.edges with⟨aa,ah⟩|⟨i,hi,aa,_,ah⟩
 ·rw[aa];constructor
  ·intro h;omega
  intro aA;have hm:=(h.look f n).1 aA;have au:=yn hm;rw[ym m au]at hm;have:=ah _ (List.getElem_mem au);rw[(si _ _).2 hm]at this;cases this
 have aA:cE mks f=some i:=(h.look f i).2 (by rw[ym m hi];exact(si _ _).1 ah);rw[aa,aA,Option.some.injEq];omega
theorem vK {m:bK} {mks:List (ByteArray×Nat)} (h:rn m mks) (f:ByteArray):dd m f<0↔(cE mks f).isSome=false:=by
 cases aA:cE mks f with
 |none=>
  simp only[Option.isSome_none,iff_true];have:=KP m f;rcases this with bj|⟨n,au⟩
  ·exact bj
  have:=(vJ h f n).1 au;rw[aA]at this;cases this
 |some n=>
  have:=(vJ h f n).2 aA;simp only[Option.isSome_some,Bool.true_eq_false,iff_false];omega
def ix (m:bK) (mks:List (ByteArray×Nat)):List (List Nat):=m.edges.map fun e=>cw mks e.bG
section
variable {m : bK} {mks : List (ByteArray × Nat)}
theorem Gt:(ix m mks).length=m.edges.length:=by unfold ix;simp
theorem Gs (a:Nat):(ix m mks).getD a []=cw mks (gh m a).bG:=by
 unfold ix gh;rw[List.getD_eq_getElem?_getD,List.getD_eq_getElem?_getD,List.getElem?_map];cases m.edges[a]?<;>rfl
theorem wO (h:rn m mks) (a:Nat):∀c∈(ix m mks).getD a [],c<m.edges.length:=fun c ag=>by
 rw[Gs]at ag;exact sq h.lt _ c ag
theorem ND (h:rn m mks):∀l∈ix m mks,∀c∈l,c<(ix m mks).length:=fun l aA c ag=>by
 obtain⟨i,hi,rfl⟩:=List.getElem_of_mem aA;rw[Gt];exact wO h i c (by rw[dC _ _ _ hi];exact ag)
theorem E2 (h:rn m mks) (a c:Nat):pS m a c=true↔c∈(ix m mks).getD a []:=by
 rw[Gs,ET];unfold pS;rw[List.any_eq_true];constructor
 ·rintro⟨f,ax,ag⟩;exact⟨f,ax,(vJ h f c).1 (by simpa using ag)⟩
 rintro⟨f,ax,ag⟩;exact⟨f,ax,by simpa using(vJ h f c).2 ag⟩
theorem L3 {aI:List (List Nat)} {a b c:Nat} (aa:hr aI (aI.getD a []) b) (ah:hr aI (aI.getD b []) c):hr aI (aI.getD a []) c:=by
 induction ah with
 |base h=>exact .step aa h
 |step _ h aB=>exact .step aB h
theorem rr (h:rn m mks) {a c:Nat} (bb:a<m.edges.length) (ag:c<m.edges.length):du m a c=true↔hr (ix m mks) ((ix m mks).getD a []) c:=by
 unfold du;constructor
 ·exact BC _ _ (T:=fun a c=>hr (ix m mks) ((ix m mks).getD a []) c) (fun a c aa=> .base ((E2 h a c).1 aa)) (fun a b c aa ah=>L3 aa ah) _ (Nat.le_refl _) bb ag
 intro ao;have:c<m.edges.length∧fy m.edges.length (pS m) m.edges.length a c=true:=by
  clear ag;induction ao with
  |base ae=>
   have:=wO h a _ ae;exact⟨this,Gb _ _ _ (Nat.le_refl _) bb this ((E2 h _ _).2 ae)⟩
  |step _ ae aB=>
   have:=wO h _ _ ae;exact⟨this,Nc _ _ _ (Nat.le_refl _) aB.1 bb this aB.2 (Gb _ _ _ (Nat.le_refl _) aB.1 this ((E2 h _ _).2 ae))⟩
 exact this.2
end
theorem Ll {aI:List (List Nat)} {N:Nat} (aX:aI.length=N) (gV:∀l∈aI,∀n∈l,n<aI.length) (nf:∀c,¬hr aI (aI.getD c []) c):∀(f:Nat) (out:List Nat),out.Nodup→(∀n∈out,n<N)→N≤out.length+f→N≤(jz aI (List.range N) f out).length
 |0,out,_,_,aJ=>aJ
 |f+1,out,aa,ah,aJ=>by
  have aq:∀n,∀k∈aI.getD n [],k<aI.length:=fun n k aj=>by
   by_cases au:n<aI.length
   ·rw[dC _ _ _ au]at aj;exact gV _ (List.getElem_mem au) _ aj
   rw[List.getD_eq_getElem?_getD,List.getElem?_eq_none (by omega)]at aj;cases aj
  unfold jz;split
  ·rename_i n au
   have ao:=List.find?_some au;have r8:=List.mem_of_find?_eq_some au;unfold ready at ao;rw[Bool.and_eq_true,Bool.not_eq_true']at ao;refine Ll aX gV nf f (out++[n]) ?_ (fun k aj=> ?_) (by simp only[List.length_append,List.length_cons,List.length_nil];omega)
   ·rw[List.nodup_append];exact⟨aa,by simp,fun a bb b ae=>by simp only[List.mem_singleton]at ae;rw[ae];exact fun e=>by have:=ao.1;rw[←e,List.contains_iff_mem.2 bb]at this;cases this⟩
   rcases List.mem_append.1 aj with aj|aj
   ·exact ah k aj
   rw[List.mem_singleton.1 aj];exact List.mem_range.1 r8
  rename_i dr
  rw[List.find?_eq_none]at dr;have b0:∀n,n<N→n∈out:=by
   have key:∀rm n,(hc aI (aI.getD n [])).length<rm→n<N→n∈out:=by
    intro rm;induction rm with
    |zero=>intro n h;omega
    |succ rm aB=>
     intro n ac7 au;by_cases aH:n∈out
     ·exact aH
     have ao:=dr n (List.mem_range.2 au);unfold ready at ao;rw[Bool.and_eq_true,not_and,Bool.not_eq_true',List.all_eq_true]at ao;have ao:=ao (by simpa using aH);refine absurd (fun k aj=> ?_) ao;have aco:=aq n k aj;have d':k∈hc aI (aI.getD n []):=(o3 gV (aq n) k).2 (.base aj);have aC:(hc aI (aI.getD k [])).length<(hc aI (aI.getD n [])).length:=by
      have:=nD (l:=k::hc aI (aI.getD k [])) (m:=hc aI (aI.getD n [])) (List.nodup_cons.2 ⟨fun ag=>nf k ((o3 gV (aq k) k).1 ag),L8 gV (aq k)⟩) (fun x an=>by
       rcases List.mem_cons.1 an with rfl|an
       ·exact d'
       exact(o3 gV (aq n) x).2 (L3 (.base aj) ((o3 gV (aq k) x).1 an)))
      rw[List.length_cons]at this;omega
     simpa using aB k (by omega) (by omega)
   exact fun n au=>key _ n (Nat.lt_succ_self _) au
  have:=nD (l:=List.range N) (m:=out) List.nodup_range (fun n au=>b0 n (List.mem_range.1 au));simpa using this
theorem PL {aI:List (List Nat)} {N:Nat} (aX:aI.length=N) (gV:∀l∈aI,∀n∈l,n<aI.length) (h:N≤(iV aI (List.range N)).length) (c:Nat) (ag:c<N):¬hr aI (aI.getD c []) c:=fun ao=>by
 obtain⟨t1,t2⟩:=AL aI (List.range N) (List.range N).length [] List.nodup_nil (fun p n r he=>by simp at he);have d':c∈jz aI (List.range N) (List.range N).length []:=zk t1 (yl _ _ _ [] (fun n au=>by cases au)).1 (by exact Nat.le_trans (Nat.le_of_eq List.length_range) h) c (List.mem_range.2 ag);obtain⟨p,r,he⟩:=List.append_of_mem d';rw[he]at t1 t2;have:=t2.ahead ao;exact absurd rfl ((List.nodup_append.1 t1).2.2 c this c (List.mem_cons_self ..))
def ku (m:bK):Nat:=if(m.edges.flatMap aM.outs).Nodup then(if((List.range m.edges.length).any fun i=>du m i i)=true then 12 else 0)else 11
theorem UP {m:bK} (af:∀e∈m.edges,e.small):(∀c,iS m= .inl c→ku m=c)∧(∀g,iS m= .inr g→ku m=0):=by
 unfold iS ku;cases hm:jC m.edges m.edges.length with
 |none=>
  have cM:¬(m.edges.flatMap aM.outs).Nodup:=fun au=>by
   have:=Gx (edges:=m.edges) (Nat.le_refl _) (by rw[List.take_length];exact au);rw[hm]at this;cases this
  rw[if_neg cM];exact⟨fun c h=>by cases h;rfl,fun g h=>by cases h⟩
 |some mks=>
  have cc:=UE af hm;have cM:(m.edges.flatMap aM.outs).Nodup:=by
   have aa:=EZ m.edges m.edges.length (Nat.le_refl _);rw[List.take_length]at aa;rw[←aa,←yX (Nat.le_refl _) hm];exact cc.eP
  rw[if_pos cM];have IB:(ix m mks).length=m.edges.length:=Gt;have gV:=ND cc;simp only;by_cases hlen:(iV (ix m mks) (List.range m.edges.length)).length<m.edges.length
  ·have xA:((List.range m.edges.length).any fun i=>du m i i)=true:=by
    cases j':((List.range m.edges.length).any fun i=>du m i i)with
    |true=>rfl
    |false=>
     rw[List.any_eq_false]at j';have:=Ll IB gV (fun c ao=>by
      have dn:c<m.edges.length:=by
       have:∀x,hr (ix m mks) ((ix m mks).getD c []) x→x<m.edges.length:=fun x an=>by
        induction an with
        |base ae=>exact wO cc _ _ ae
        |step _ ae _=>exact wO cc _ _ ae
       exact this c ao
      exact j' c (List.mem_range.2 dn) ((rr cc dn dn).2 ao)) (List.range m.edges.length).length [] List.nodup_nil (fun n au=>by cases au) (by simp)
     unfold iV at hlen;omega
   rw[xA,if_pos rfl];constructor
   ·intro c h;rw[show(m.edges.map fun e=>cw mks e.bG)=ix m mks from rfl,if_pos hlen]at h;cases h;rfl
   intro g h;rw[show(m.edges.map fun e=>cw mks e.bG)=ix m mks from rfl,if_pos hlen]at h;cases h
  have xA:((List.range m.edges.length).any fun i=>du m i i)=false:=by
   rw[List.any_eq_false];intro i hi;have jm:=List.mem_range.1 hi;have:=PL IB gV (Nat.not_lt.1 hlen) i jm;rw[←rr cc jm jm]at this;exact this
  rw[xA];constructor
  ·intro c h;rw[show(m.edges.map fun e=>cw mks e.bG)=ix m mks from rfl,if_neg hlen]at h;cases h
  intro g h;rfl
theorem LL (s:ByteArray):∀(l:List ByteArray) (x:ByteArray),x∈gN s l↔x=s∨x∈l
 |[],x=>by unfold gN;simp
 |y::l,x=>by
  unfold gN;split
  ·rw[List.mem_cons,List.mem_cons,LL s l x];constructor
   ·rintro(h|h|h)
    ·exact .inr (.inl h)
    ·exact .inl h
    exact .inr (.inr h)
   rintro(h|h|h)
   ·exact .inr (.inl h)
   ·exact .inl h
   exact .inr (.inr h)
  split
  ·rename_i he
   rw[List.mem_cons];constructor
   ·exact .inr
   rintro(h|h)
   ·exact .inl (by rw[h,he])
   exact h
  rw[List.mem_cons]
theorem Fp:∀(a7 out:List ByteArray) (x:ByteArray),x∈ft out a7↔x∈out∨x∈a7
 |[],out,x=>by simp[ft]
 |f::a7,out,x=>by
  have:=Fp a7 (gN f out) x;rw[show ft out (f::a7)=ft (gN f out) a7 from rfl,this,LL,List.mem_cons];constructor
  ·rintro((h|h)|h)
   ·exact .inr (.inl h)
   ·exact .inl h
   exact .inr (.inr h)
  rintro(h|h|h)
  ·exact .inl (.inr h)
  ·exact .inl (.inl h)
  exact .inr h
def lB (m:bK) (n i:Nat):List ByteArray:=(List.range i).flatMap fun k=>if du m n k=true then g' m k else []
def qe (m:bK) (n:Nat):List ByteArray:=ft [] (lB m n m.edges.length)
def iY (m:bK) (n:Int) (f:ByteArray):Bool:=if dd m f<0 then !kQ f else decide (0≤n∧n<m.edges.length)&&inB (qe m n.toNat) f
theorem Ny (m:bK) (n:Nat) (f:ByteArray):f∈qe m n↔∃k,k<m.edges.length∧du m n k=true∧f∈g' m k:=by
 unfold qe lB;rw[Fp,List.mem_flatMap];constructor
 ·rintro(h|⟨k,aj,h⟩)
  ·cases h
  split at h
  ·rename_i ae;exact⟨k,List.mem_range.1 aj,ae,h⟩
  cases h
 rintro⟨k,aj,ae,h⟩;exact .inr ⟨k,List.mem_range.2 aj,by rw[if_pos ae];exact h⟩
theorem rD {g:b9} (aq:g.ja):rn g.aU g.mks∧g.aI=ix g.aU g.mks:=
 ⟨⟨aq.eP,aq.EY,fun p aP=>by rw[←aq.jd];exact aq.oS p aP⟩,aq.aI⟩
theorem NC {g:b9} (aq:g.ja) {n:Nat} (au:n<g.aU.edges.length) (f:ByteArray):(kV g n).contains f=inB (qe g.aU n) f:=by
 obtain⟨cc,fj⟩:=rD aq;rw[Bool.eq_iff_iff,List.contains_iff_mem,NA aq,si,Ny];constructor
 ·rintro⟨k,aj,ax⟩;have eO:=yn ax;rw[fj]at aj;exact⟨k,eO,(rr cc au eO).2 aj,ax⟩
 rintro⟨k,eO,ae,ax⟩;refine⟨k, ?_,ax⟩;rw[fj];exact(rr cc au eO).1 ae
theorem Ya {g:b9} (aq:g.ja) {n:Nat} (au:n<g.aU.edges.length) (f:ByteArray):(if(cE g.mks f).isSome=true then(kV g n).contains f else !kn f)=iY g.aU n f:=by
 obtain⟨cc,_⟩:=rD aq;unfold iY;by_cases h:dd g.aU f<0
 ·rw[if_pos h,if_neg (by rw[(vK cc f).1 h];decide),yp]
 have aA:(cE g.mks f).isSome=true:=by
  cases a8:(cE g.mks f).isSome with
  |true=>rfl
  |false=>exact absurd ((vK cc f).2 a8) h
 rw[if_neg h,if_pos aA,NC aq au];have:decide (0≤(n:Int)∧(n:Int)<g.aU.edges.length)=true:=decide_eq_true ⟨by omega,by omega⟩;rw[this,Bool.true_and,Int.toNat_natCast]
theorem YE {g:b9} (aq:g.ja):uF g=p7 g.aU:=by
 unfold uF p7;rw[Bool.eq_iff_iff,Bool.or_eq_true,List.any_eq_true,List.any_eq_true,List.any_eq_true];constructor
 ·rintro(⟨f,ax,aH⟩|⟨f,ax,aH⟩)
  ·obtain⟨n,au⟩:=Option.isSome_iff_exists.1 ((Lr aq f).1 ax);have hm:=(aq.EY f n).1 au;have aC:=yn hm;rw[ym _ aC]at hm;exact⟨_,List.getElem_mem aC,List.any_eq_true.2 ⟨f,List.mem_append.2 (.inr hm),by rw[←yp];exact aH⟩⟩
  obtain⟨⟨e,he,gW⟩,_⟩:=(FU g f).1 ax;exact⟨e,he,List.any_eq_true.2 ⟨f,List.mem_append.2 (.inl gW),by rw[←yp];exact aH⟩⟩
 rintro⟨e,he,h⟩;obtain⟨f,ax,aH⟩:=List.any_eq_true.1 h;rw[←yp]at aH;by_cases aA:(cE g.mks f).isSome=true
 ·exact .inl ⟨f,(Lr aq f).2 aA,aH⟩
 rcases List.mem_append.1 ax with ax|ax
 ·exact .inr ⟨f,(FU g f).2 ⟨⟨e,he,ax⟩,by simpa using aA⟩,aH⟩
 obtain⟨i,hi,rfl⟩:=List.getElem_of_mem he;have:=(aq.EY f i).2 (by rw[ym _ hi];exact ax);rw[this]at aA;exact absurd rfl aA
end Go.Ab.S16
namespace Go.Ab.S16
open Go Go.Proofs Go.RowKit
def MV (t:Bool):D:= .v (.bool t)
def cz (n:Nat) (g:Nat→Bool):List D:=(List.range n).map fun U=>MV (g U)
def e4 (n:Nat) (cs:Nat→Nat) (f:Nat→Nat→Bool):Nat→al
 |0=>[]
 |i+1=>(cs i, .arr 1 (cz n (f i)))::e4 n cs f i
def iZ (n:Nat) (cs:Nat→Nat) (i:Nat):List D:=(List.range n).map fun U=>if U<i then .own (some (cs U)) 1 n else .v (.slice none 0 0)
theorem nQ (n:Nat) (g:Nat→Bool):(cz n g).length=n:=by unfold cz;simp
theorem F2 (n:Nat) (cs:Nat→Nat) (i:Nat):(iZ n cs i).length=n:=by unfold iZ;simp
theorem ur {α:Type} (F:Nat→α) (z:α) {n k:Nat} (h:k<n):((List.range n).map F).getD k z=F k:=by simp[h]
theorem Fw {α:Type} (F:Nat→α) (n k:Nat) (x:α):((List.range n).map F).set k x=(List.range n).map fun U=>if U=k then x else F U:=by
 refine List.ext_getElem (by simp) fun i aa ah=> ?_;simp at aa;rw[List.getElem_set];simp only[List.getElem_map,List.getElem_range];by_cases h:k=i
 ·rw[if_pos h,if_pos h.symm]
 rw[if_neg h,if_neg (fun e=>h e.symm)]
theorem jT {n k:Nat} (g:Nat→Bool) (h:k<n):(cz n g).getD k .any= .v (.bool (g k)):=ur _ _ h
theorem Ml (n k:Nat) (g:Nat→Bool):(cz n g).set k (.v (.bool true))=cz n fun c=>if c=k then true else g c:=by
 unfold cz;rw[Fw];refine List.map_congr_left fun U _=> ?_;by_cases h:U=k
 ·rw[if_pos h];simp only[if_pos h];rfl
 rw[if_neg h];simp only[if_neg h]
theorem M0 {n k i:Nat} (cs:Nat→Nat) (h:k<n) (hi:k<i):(iZ n cs i).getD k .any= .own (some (cs k)) 1 n:=by
 unfold iZ;rw[ur _ _ h,if_pos hi]
theorem Yd (n i:Nat) (cs:Nat→Nat):(iZ n cs i).set i (.own (some (cs i)) 1 n)=iZ n cs (i+1):=by
 unfold iZ;rw[Fw];refine List.map_congr_left fun U _=> ?_;by_cases h:U=i
 ·rw[if_pos h,if_pos (by omega),h]
 rw[if_neg h];by_cases ah:U<i
 ·rw[if_pos ah,if_pos (by omega)]
 rw[if_neg ah,if_neg (by omega)]
theorem Ye (n:Nat) (cs:Nat→Nat):List.replicate n (.v (.slice none 0 0))=iZ n cs 0:=by
 unfold iZ;refine List.ext_getElem (by simp) fun i aa ah=> ?_;simp
theorem FF (n:Nat):List.replicate n (.v (.bool false))=cz n fun _=>false:=by
 unfold cz;refine List.ext_getElem (by simp) fun i aa ah=> ?_;simp[MV]
theorem Yc {n i:Nat} {cs cs':Nat→Nat} (h:∀U,U<i→cs U=cs' U):iZ n cs i=iZ n cs' i:=by
 unfold iZ;refine List.map_congr_left fun U _=> ?_;split
 ·rename_i aR;rw[h U aR]
 rfl
theorem B1 {n:Nat} {cs cs':Nat→Nat} {f jf:Nat→Nat→Bool}:∀{i:Nat},(∀U,U<i→cs U=cs' U)→(∀U,U<i→f U=jf U)→e4 n cs f i=e4 n cs' jf i
 |0,_,_=>rfl
 |i+1,h,ax=>by
  unfold e4;rw[h i (by omega),ax i (by omega),B1 (fun U aR=>h U (by omega)) fun U aR=>ax U (by omega)]
structure wE (cs:Nat→Nat) (i:Nat) (ρ:al):Prop where
 inj:∀U k,U<i→k<i→cs U=cs k→U=k
 fr:∀U,U<i→av (cs U) ρ=none
section
variable {n : Nat} {cs : Nat → Nat} {f : Nat → Nat → Bool} {ρ : al}
theorem y5:∀{i:Nat},wE cs i ρ→∀{U:Nat},U<i→av (cs U) (e4 n cs f i++ρ)=some (.arr 1 (cz n (f U)))
 |0,_,U,h=>by omega
 |i+1,aH,U,h=>by
  unfold e4;rw[List.cons_append,aW];by_cases aR:U=i
  ·subst aR;rw[if_pos rfl]
  rw[if_neg (fun e=>aR (aH.inj U i (by omega) (by omega) e))];exact y5 ⟨fun a b bb ae=>aH.inj a b (by omega) (by omega),fun a bb=>aH.fr a (by omega)⟩ (by omega)
theorem GX:∀{i:Nat} {b:Nat},(∀U,U<i→cs U≠b)→av b (e4 n cs f i++ρ)=av b ρ
 |0,_,_=>rfl
 |i+1,b,h=>by
  unfold e4;rw[List.cons_append,aW,if_neg (fun e=>h i (by omega) e.symm)];exact GX fun U aR=>h U (by omega)
theorem wS {i:Nat} (aH:wE cs i ρ) {b:Nat} {o:aE} (h:av b ρ=some o):av b (e4 n cs f i++ρ)=some o:=by
 rw[GX fun U aR e=>by rw[←e,aH.fr U aR]at h;cases h]
 exact h
theorem B2 {g:Nat→Bool}:∀{i:Nat},wE cs i ρ→∀{U:Nat},U<i→sset (cs U) (.arr 1 (cz n g)) (e4 n cs f i++ρ)=e4 n cs (fun a=>if a=U then g else f a) i++ρ
 |0,_,U,h=>by omega
 |i+1,aH,U,h=>by
  unfold e4;rw[List.cons_append,List.cons_append];by_cases aR:U=i
  ·subst aR;rw[gz,if_pos rfl];congr 2
   exact B1 (fun _ _=>rfl) fun a bb=>by rw[if_neg (by omega)]
  rw[sset,if_neg (fun e=>aR (aH.inj U i (by omega) (by omega) e)),if_neg (fun e=>aR e.symm)];rw[B2 ⟨fun a b bb ae=>aH.inj a b (by omega) (by omega),fun a bb=>aH.fr a (by omega)⟩ (by omega)]
theorem GY {x:aE}:∀{i:Nat} {b:Nat},(∀U,U<i→cs U≠b)→sset b x (e4 n cs f i++ρ)=e4 n cs f i++sset b x ρ
 |0,_,_=>rfl
 |i+1,b,h=>by
  unfold e4;rw[List.cons_append,List.cons_append,sset,if_neg (fun e=>h i (by omega) e.symm),GY fun U aR=>h U (by omega)]
end
def kA (n:Nat) (cs:Nat→Nat) (f:Nat→Nat→Bool) (i:Nat):List D:=(List.range n).map fun U=>if U<i then .own (some (cs U)) 1 n else .ai (cz n (f U))
theorem O8 (n:Nat) (cs:Nat→Nat) (f:Nat→Nat→Bool):kA n cs f n=iZ n cs n:=by
 unfold kA iZ;refine List.map_congr_left fun U aR=> ?_;rw[if_pos (List.mem_range.1 aR),if_pos (List.mem_range.1 aR)]
theorem VA (b s n:Nat) (xs:List D) (g:Nat→Bool):(cz n g).map (D.b' b s xs)=cz n g:=by
 unfold cz;rw[List.map_map];rfl
theorem MR {n b s:Nat} {xs:List D} {cs:Nat→Nat} {f:Nat→Nat→Bool} {ρ:al}:∀{i:Nat},(∀U,U<i→cs U≠b)→di b s xs (e4 n cs f i++ρ)=e4 n cs f i++di b s xs ρ
 |0,_=>rfl
 |i+1,h=>by
  unfold e4;rw[List.cons_append,List.cons_append,di,if_neg (fun e=>h i (by omega) e.symm),MR fun U aR=>h U (by omega)];simp only[aE.b',VA]
theorem j.LH {P:Program} {N:cP} {C:Ctx P N} {todo:List Item} {env:Env} {n fz:Nat} {cs:Nat→Nat} {f:Nat→Nat→Bool}:∀{i:Nat},i≤n→(∀U k,U<i→k<i→cs U=cs k→U=k)→(∀U,U<i→cs U≠fz)→(∀U s xs,U<i→kB (cs U) s xs env=env)→
  j C todo env [(fz, .arr 1 (kA n cs f 0))]→j C todo env (e4 n cs f i++[(fz, .arr 1 (kA n cs f i))])
 |0,_,_,_,_,h=>h
 |i+1,hi,aR,ae,he,h=>by
  unfold e4;refine j.o1 (cs i) (bE ..) ?_;rw[he i _ _ (by omega)];have bt:di (cs i) 1 (cz n (f i)) ((cs i,aE.arr 1 (cz n (f i)))::(e4 n cs f i++[(fz, .arr 1 (kA n cs f (i+1)))]))=e4 n cs f i++[(fz, .arr 1 (kA n cs f i))]:=by
   rw[di,if_pos rfl,MR fun U ah e=>by have:=aR U i (by omega) (by omega) e;omega];congr 1
   rw[di,if_neg (ae i (by omega)),di];simp only[aE.b'];congr 3
   unfold kA;rw[List.map_map];refine List.map_congr_left fun U _=> ?_;simp only[Function.comp];by_cases aa:U<i
   ·rw[if_pos (by omega),if_pos aa];simp only[D.b'];rw[if_neg (fun e=>by have:=aR U i (by omega) (by omega) e.1;omega)]
   by_cases ah:U=i
   ·subst ah;rw[if_pos (by omega),if_neg (by omega)];simp only[D.b'];rw[if_pos ⟨trivial,trivial,by rw[nQ];exact Nat.le_refl _⟩,List.take_of_length_le (by rw[nQ];exact Nat.le_refl _)]
   rw[if_neg (by omega),if_neg aa];rfl
  show j C todo env (di (cs i) 1 (cz n (f i)) ((cs i,aE.arr 1 (cz n (f i)))::(e4 n cs f i++[(fz, .arr 1 (kA n cs f (i+1)))])))
  rw[bt];exact j.LH (by omega) (fun U k aa ah=>aR U k (by omega) (by omega)) (fun U aa=>ae U (by omega)) (fun U s xs aa=>he U s xs (by omega)) h
theorem Vz {b c s a n:Nat} {xs:List D} (h:c≠b):D.b' b s xs (.own (some c) a n)= .own (some c) a n:=by
 simp only[D.b'];rw[if_neg (fun e=>h e.1)]
def ey (m:bK) (i l:Nat):Nat→Nat→Bool:=fun a c=>if a<i then pS m a c else if a=i then((gh m i).bG.take l).any fun f=>decide (dd m f=(c:Int))else false
theorem UJ (m:bK) (i:Nat) (h:i<m.edges.length):ey m i (gh m i).bG.length=ey m (i+1) 0:=by
 funext a c
 unfold ey;rw[List.take_length,List.take_zero];by_cases aa:a<i
 ·rw[if_pos aa,if_pos (by omega)]
 rw[if_neg aa];by_cases ah:a=i
 ·subst ah;rw[if_pos rfl,if_pos (by omega)];rfl
 rw[if_neg ah,if_neg (by omega)];split<;>rfl
theorem UH (m:bK):ey m m.edges.length 0=pS m:=by
 funext a c
 unfold ey;rw[List.take_zero];by_cases aa:a<m.edges.length
 ·rw[if_pos aa]
 rw[if_neg aa];have:pS m a c=false:=by
  unfold pS gh;rw[List.getD_eq_getElem?_getD,List.getElem?_eq_none (by omega)];rfl
 rw[this];split<;>rfl
theorem E1 (m:bK) (i l c:Nat):ey m i l i c=((gh m i).bG.take l).any fun f=>decide (dd m f=(c:Int)):=by
 unfold ey;rw[if_neg (Nat.lt_irrefl _),if_pos rfl]
theorem UI (m:bK) (i l:Nat) (aA:l<(gh m i).bG.length) {x:Nat} (an:dd m (gh m i).bG[l]=(x:Int)):(fun a=>if a=i then(fun c=>if c=x then true else ey m i l i c)else ey m i l a)=ey m i (l+1):=by
 funext a c
 by_cases bb:a=i
 ·subst bb;rw[if_pos rfl,E1,E1,List.take_succ_eq_append_getElem aA,List.any_append];simp only[List.any_cons,List.any_nil,Bool.or_false,an];by_cases ag:c=x
  ·rw[if_pos ag,ag,decide_eq_true rfl,Bool.or_true]
  rw[if_neg ag];have:decide ((x:Int)=(c:Int))=false:=decide_eq_false (by omega);rw[this,Bool.or_false]
 rw[if_neg bb];unfold ey;by_cases aa:a<i
 ·rw[if_pos aa,if_pos aa]
 rw[if_neg aa,if_neg aa,if_neg bb,if_neg bb]
theorem UK (m:bK) (i l:Nat) (aA:l<(gh m i).bG.length) (an:dd m (gh m i).bG[l]<0):ey m i l=ey m i (l+1):=by
 funext a c
 unfold ey;rw[List.take_succ_eq_append_getElem aA,List.any_append];simp only[List.any_cons,List.any_nil,Bool.or_false];have:decide (dd m (gh m i).bG[l]=(c:Int))=false:=decide_eq_false (by omega);rw[this,Bool.or_false]
theorem KO (m:bK) (f:ByteArray):dd m f<(m.edges.length:Int):=by
 unfold dd;rcases ya (fun e:aM=>inB e.outs f) m.edges with⟨h,_⟩|⟨i,hi,h,_⟩
 ·rw[h];omega
 rw[h];omega
def uQ (m:bK):D:= .ai ((List.range m.edges.length).map fun i=> .ai (cz m.edges.length (du m i)))
theorem BW (m:bK) (σ:al) (aA:m.edges.length<2^20) (af:∀e∈m.edges,e.small):
  AC Tryz.prog 58 [m.d] σ (fun e σ'=>e= .ret (uQ m)∧σ'=σ):=by
 refine AC.still ?_ σ;refine AC.forget (R:=fun e _=>e= .ret (uQ m)) ?_ fun e σ' h=>⟨[],aQ.nil _,h,rfl⟩;unfold bK.d;have bn:(m.edges.map aM.d).length=m.edges.length:=List.length_map ..;obtain⟨n,au⟩:∃n,n=m.edges.length:=⟨_,rfl⟩;rw[←au]at bn;refine AC.bI Tryz.func58 Tryz.ntmps58 fun C ar=> ?_;refine j.J (j.rg [0] fun K I=> ?_);simp only[go_sem];intro bP;apply I;refine j.J (j.rg [1] fun K I=> ?_);simp only[go_sem,bn];apply I;refine j.J ?_;have jq:(0:Int)≤(n:Int):=by omega
 refine j.rg [1,3] fun K I=> ?_;simp only[go_sem,jq];refine⟨by omega,fun fz tl=> ?_⟩;have Qf:bP≠fz:=fun e=>by subst e;rw[bE]at tl;cases tl
 apply I;obtain⟨ρ,fq⟩:∃ρ:Nat→(Nat→Nat)→al,ρ=fun i cs=>[(fz, .arr 1 (iZ n cs i)),(bP,aE.arr 2 [D.agg [.ai (m.edges.map aM.d), .ai (m.defs.map ab)]])]:=⟨_,rfl⟩;have go:∀i cs,av fz (ρ i cs)=some (.arr 1 (iZ n cs i)):=fun i cs=>by rw[fq];exact bE ..
 have g1:∀i cs,av bP (ρ i cs)=some (.arr 2 [D.agg [.ai (m.edges.map aM.d), .ai (m.defs.map ab)]]):=fun i cs=>by rw[fq];show av bP ((fz,_)::_)=_;rw[aW,if_neg Qf,bE]
 refine j.J (j.J (j.rg [1,3,4] fun K I=> ?_));simp only[go_sem];apply I;refine j.aG ?_;refine j.rebase [1,3,4,5] ?_;simp only[go_sem];refine j.while (fun(i:Nat) env' aS=>∃cs:Nat→Nat,(i≤n∧wE cs i (ρ i cs))∧env'=[(1, .ptr bP 2 0 0),(3, .v (.int .i64 (n:Int))),(4, .own (some fz) 1 n),(5, .v (.int .i64 (i:Int)))]∧aS=e4 n cs (ey m i 0) i++ρ i cs) (fun(i:Nat)=>n-i) 0 ⟨fun _=>0,⟨by omega,⟨fun U k h=>by omega,fun U h=>by omega⟩⟩,rfl,by rw[fq,Ye n fun _=>0];rfl⟩ ?_
 rintro i env' aS ⟨cs,⟨hi,dg⟩,rfl,rfl⟩ aB;have cH:=aB;refine j.J (j.J (j.rg [1,3,4,5] fun K I=> ?_));simp only[go_sem];apply I;refine j.cond rfl (fun eW=> ?_) (fun eW=> ?_)
 ·have aC:i<n:=Int.ofNat_lt.1 (by simpa using eW);have bf:(0:Int)≤(i:Int):=by omega
  have bp:(i:Int)<(n:Int):=by omega
  have ch:=wS (n:=n) (f:=ey m i 0) dg (go i cs);have gk:=wS (n:=n) (f:=ey m i 0) dg (g1 i cs);refine j.aN (j.J (j.aG (j.J (j.rg [1,3,4,5] fun K I=> ?_))));simp only[go_sem,jq,bf,bp];refine⟨⟨by omega,by omega,by omega⟩,fun c ag=> ?_⟩;have vg:fz≠c:=fun e=>by subst e;rw[ch]at ag;cases ag
  have pB:bP≠c:=fun e=>by subst e;rw[gk]at ag;cases ag
  have ic:∀U,U<i→cs U≠c:=fun U aR e=>by rw[←e,y5 dg aR]at ag;cases ag
  have Ef:av fz ((c,aE.arr 1 (List.replicate n (D.v (Value.bool false))))::(e4 n cs (ey m i 0) i++ρ i cs))=some (.arr 1 (iZ n cs i)):=by rw[aW,if_neg vg,ch]
  obtain⟨cs',IZ⟩:∃cs':Nat→Nat,cs'=fun U=>if U=i then c else cs U:=⟨_,rfl⟩;have zU:cs' i=c:=by rw[IZ];exact if_pos rfl
  have qv:∀U,U<i→cs U=cs' U:=fun U aR=>by rw[IZ];exact(if_neg (by omega)).symm
  have S1:(iZ n cs i).getD i .any= .v (.slice none 0 0):=by
   unfold iZ;rw[ur _ _ aC,if_neg (Nat.lt_irrefl _)]
  have hk:=F2 n cs i;simp only[go_sem,Ef,S1,hk];have R7:ey m i 0 i=fun _=>false:=by
   funext c
   rw[E1];rfl
  have aL:sset fz (aE.arr 1 ((iZ n cs i).set i (D.own (some c) 1 n))) ((c,aE.arr 1 (List.replicate n (D.v (Value.bool false))))::(e4 n cs (ey m i 0) i++ρ i cs))=e4 n cs' (ey m i 0) (i+1)++ρ (i+1) cs':=by
   rw[sset,if_neg vg,GY (fun U aR e=>by have:=dg.fr U aR;rw[e,go]at this;cases this),B1 qv fun _ _=>rfl,Yc qv,←zU,Yd,FF,←R7,fq]
   show _::(_++sset fz _ ((fz,_)::_))=(_::_)++_
   rw[gz];rfl
  have xU:wE cs' (i+1) (ρ (i+1) cs'):=by
   have aZ:∀U,U<i+1→cs' U≠fz∧cs' U≠bP:=fun U aR=>by
    by_cases h:U=i
    ·subst h;rw[zU];exact⟨Ne.symm vg,Ne.symm pB⟩
    rw[←qv U (by omega)];exact⟨fun e=>(by have:=dg.fr U (by omega);rw[e,go]at this;cases this),fun e=>(by have:=dg.fr U (by omega);rw[e,g1]at this;cases this)⟩
   refine⟨fun U k aR aj e=> ?_,fun U aR=> ?_⟩
   ·by_cases aa:U=i
    ·by_cases ah:k=i
     ·omega
     rw[aa,zU,←qv k (by omega)]at e;exact absurd e.symm (ic k (by omega))
    by_cases ah:k=i
    ·rw[ah,zU,←qv U (by omega)]at e;exact absurd e (ic U (by omega))
    rw[←qv U (by omega),←qv k (by omega)]at e;exact dg.inj U k (by omega) (by omega) e
   rw[fq];show av (cs' U) ((fz,_)::(bP,_)::[])=none
   rw[aW,if_neg (aZ U aR).1,aW,if_neg (aZ U aR).2];rfl
  rw[aL];refine⟨aC, ?_⟩;apply I;have lR:i<m.edges.length:=by omega
  have aq:=b6 aM.d m.edges i lR;rw[aM.d]at aq;have vk:gh m i=m.edges[i]:=by unfold gh;rw[dC _ _ _ lR]
  have dh:=af _ (List.getElem_mem lR);have Ds:=fun f=>wS (n:=n) (f:=f) xU (g1 (i+1) cs');have vr:=fun f=>wS (n:=n) (f:=f) xU (go (i+1) cs');refine j.J (j.rg [1,3,4,5] fun K I=> ?_);simp only[go_sem,Ds,bn,aq,bf,bp];refine a1 Tryz.call46 (A' m.edges[i] _ dh) ?_;simp only[go_sem];apply I;rw[←vk];obtain⟨q,bW⟩:∃q,q=(gh m i).bG:=⟨_,rfl⟩;rw[←bW];have JX:(q.map ab).length=q.length:=List.length_map ..;have ac3:q.length≤30:=by rw[bW,vk];exact ss _ dh
  refine j.J (j.rg [1,3,4,5,6] fun K I=> ?_);simp only[go_sem];apply I;refine j.aG ?_;refine j.rebase [1,3,4,5,6,7] ?_;simp only[go_sem];refine j.while (fun(U:Nat) env' aS=>(U≤q.length)∧env'=[(1, .ptr bP 2 0 0),(3, .v (.int .i64 (n:Int))),(4, .own (some fz) 1 n),(5, .v (.int .i64 (i:Int))),(6, .ai (q.map ab)),(7, .v (.int .i64 (U:Int)))]∧aS=e4 n cs' (ey m i U) (i+1)++ρ (i+1) cs') (fun(U:Nat)=>q.length-U) 0 ⟨Nat.zero_le _,rfl,rfl⟩ ?_;rintro U env' aS ⟨aR,rfl,rfl⟩ aB;have eg:=aB;refine j.J (j.J (j.rg [1,3,4,5,6,7] fun K I=> ?_));simp only[go_sem,JX];apply I;refine j.cond rfl (fun dx=> ?_) (fun dx=> ?_)
  ·have en:U<q.length:=Int.ofNat_lt.1 (by simpa using dx);have eT:=b6 ab q U en;rw[ab]at eT;have dp:(0:Int)≤(U:Int):=by omega
   have dq:(U:Int)<(q.length:Int):=by omega
   have Jz:U<(gh m i).bG.length:=by rw[←bW];exact en
   have JW:q[U]=(gh m i).bG[U]:=by simp only[bW]
   refine j.aN (j.J (j.aG (j.J ?_)));refine j.draw [1,3,4,5,6,7] [] [bP] [] [(0,true),(1,true),(2,true),(3,true),(4,true),(5,false),(6,true)] (by kernel_rfl) (by decide) (by kernel_rfl) fun K I=> ?_;simp only[go_sem,Ds,JX,eT,dp,dq];refine a1 Tryz.call47 (vI m q[U] _ (by omega) (fun e he=>by have:=(af e he).outs;omega)) ?_;simp only[go_sem,Ds];apply I;refine j.J ?_;rcases(show dd m q[U]<0∨∃x:Nat,dd m q[U]=x∧x<n from by
    have:=KO m q[U];by_cases h:dd m q[U]<0
    ·exact .inl h
    exact .inr ⟨(dd m q[U]).toNat,by omega,by omega⟩)with an|⟨x,an,Ay⟩
   ·have iC:decide (dd m q[U]≥0)=false:=decide_eq_false (by omega);refine j.rg [1,3,4,5,6,7,8] fun K I=> ?_;simp only[go_sem,iC];apply I;refine j.bJ rfl (j.aN (j.ba (j.rg [1,3,4,5,6,7] fun K I=> ?_)));simp only[go_sem];apply I;refine j.rebase [1,3,4,5,6,7] ?_;simp only[go_sem];rw[bH U (by omega),UK m i U Jz (by rw[←JW];exact an)];exact eg (U+1) _ _ ⟨by omega,rfl,rfl⟩ (by omega)
   refine j.rg [1,3,4,5,6,7,8] fun K I=> ?_;simp only[go_sem,an];apply I;refine j.bZ rfl ?_;have tY:(0:Int)≤(x:Int):=by omega
   have tZ:(x:Int)<(n:Int):=by omega
   have jI:=y5 (n:=n) (f:=ey m i U) xU (Nat.lt_succ_self i);have sd:=M0 cs' aC (Nat.lt_succ_self i);have SZ:=F2 n cs' (i+1);have ju:=nQ n (ey m i U i);have D8:=jT (ey m i U i) Ay;refine j.rg [1,3,4,5,6,7,8] fun K I=> ?_;simp only[go_sem,vr,bf,bp,tY,tZ,sd,SZ,jI,ju,D8];refine⟨aC,Ay, ?_⟩;rw[Ml,B2 xU (Nat.lt_succ_self i),UI m i U Jz (by rw[←JW];exact an)];apply I;refine j.ba (j.rg [1,3,4,5,6,7] fun K I=> ?_);simp only[go_sem];apply I;refine j.rebase [1,3,4,5,6,7] ?_;simp only[go_sem];rw[bH U (by omega)];exact eg (U+1) _ _ ⟨by omega,rfl,rfl⟩ (by omega)
  have hE:U=q.length:=by
   have h:(q.length:Int)≤U:=by simpa using dx
   omega
  subst hE;rw[bW,UJ m i lR];refine j.exit rfl (j.ba (j.rg [1,3,4,5] fun K I=> ?_));simp only[go_sem];apply I;refine j.rebase [1,3,4,5] ?_;simp only[go_sem];rw[bH i (by omega)];exact cH (i+1) _ _ ⟨cs',⟨by omega,xU⟩,rfl,rfl⟩ (by omega)
 have cC:i=n:=by
  have h:(n:Int)≤i:=by simpa using eW
  omega
 subst cC;have c7:ey m i 0=pS m:=by rw[au];exact UH m
 rw[c7];obtain⟨F,Ir⟩:∃F,F=pS m:=⟨_,rfl⟩;rw[←Ir];have vr:=fun f=>wS (n:=i) (f:=f) dg (go i cs);have hk:=F2 i cs i;have sd:=fun{k:Nat} (h:k<i)=>M0 cs h h;have jI:=fun(f:Nat→Nat→Bool) {k:Nat} (h:k<i)=>y5 (n:=i) (f:=f) dg h;refine j.exit rfl (j.J (j.J (j.rg [3,4] fun K I=> ?_)));simp only[go_sem];apply I;refine j.aG ?_;refine j.rebase [3,4,9] ?_;simp only[go_sem];refine j.while (fun(k:Nat) env' aS=>(k≤i)∧env'=[(3, .v (.int .i64 (i:Int))),(4, .own (some fz) 1 i),(9, .v (.int .i64 (k:Int)))]∧aS=e4 i cs (fy i F k) i++ρ i cs) (fun(k:Nat)=>i-k) 0 ⟨Nat.zero_le _,rfl,rfl⟩ ?_;rintro k env' aS ⟨aj,rfl,rfl⟩ aB;have hl:=aB;refine j.J (j.J (j.rg [3,4,9] fun K I=> ?_));simp only[go_sem];apply I;refine j.cond rfl (fun CK=> ?_) (fun CK=> ?_)
 ·have jL:k<i:=Int.ofNat_lt.1 (by simpa using CK);refine j.aN (j.J (j.aG (j.J (j.rg [3,4,9] fun K I=> ?_))));simp only[go_sem];apply I;refine j.aG ?_;refine j.rebase [3,4,9,10] ?_;simp only[go_sem];refine j.while (fun(a:Nat) env' aS=>(a≤i)∧env'=[(3, .v (.int .i64 (i:Int))),(4, .own (some fz) 1 i),(9, .v (.int .i64 (k:Int))),(10, .v (.int .i64 (a:Int)))]∧aS=e4 i cs (ma i k (fy i F k) a) i++ρ i cs) (fun(a:Nat)=>i-a) 0 ⟨Nat.zero_le _,rfl,rfl⟩ ?_;rintro a env' aS ⟨bb,rfl,rfl⟩ aB;have vE:=aB;refine j.J (j.J (j.rg [3,4,9,10] fun K I=> ?_));simp only[go_sem];apply I;refine j.cond rfl (fun td=> ?_) (fun td=> ?_)
  ·have ti:a<i:=Int.ofNat_lt.1 (by simpa using td);refine j.aN (j.J (j.aG (j.J (j.rg [3,4,9,10] fun K I=> ?_))));simp only[go_sem];apply I;refine j.aG ?_;refine j.rebase [3,4,9,10,11] ?_;simp only[go_sem];refine j.while (fun(U:Nat) env' aS=>(U≤i)∧env'=[(3, .v (.int .i64 (i:Int))),(4, .own (some fz) 1 i),(9, .v (.int .i64 (k:Int))),(10, .v (.int .i64 (a:Int))),(11, .v (.int .i64 (U:Int)))]∧aS=e4 i cs (jW k a (ma i k (fy i F k) a) U) i++ρ i cs) (fun(U:Nat)=>i-U) 0 ⟨Nat.zero_le _,rfl,rfl⟩ ?_;rintro U env' aS ⟨aR,rfl,rfl⟩ aB;have pN:=aB;refine j.J (j.J (j.rg [3,4,9,10,11] fun K I=> ?_));simp only[go_sem];apply I;refine j.cond rfl (fun CN=> ?_) (fun CN=> ?_)
   ·have gK:U<i:=Int.ofNat_lt.1 (by simpa using CN);obtain⟨f,ax⟩:∃f,f=jW k a (ma i k (fy i F k) a) U:=⟨_,rfl⟩;have gY:jW k a (ma i k (fy i F k) a) (U+1)=if(f a k&&f k U)=true then uo f a U else f:=by rw[jW,ax]
    rw[←ax];have dc:(0:Int)≤(k:Int):=by omega
    have cb:(k:Int)<(i:Int):=by omega
    have kD:(0:Int)≤(a:Int):=by omega
    have u_:(a:Int)<(i:Int):=by omega
    have dp:(0:Int)≤(U:Int):=by omega
    have dq:(U:Int)<(i:Int):=by omega
    have zm:=jI f ti;have H3:=jI f jL;have t1:=sd ti;have t2:=sd jL;have bu:=jT (f a) jL;have jS:=jT (f k) gK;have nK:=jT (f a) gK;have kO:=nQ i (f a);have ey:=nQ i (f k);refine j.aN (j.J (j.aG (j.J ?_)));rcases(show f a k=false∨(f a k=true∧f k U=false)∨(f a k=true∧f k U=true)from by cases f a k<;>cases f k U<;>simp)with cA|⟨cA,fc⟩|⟨cA,fc⟩
    ·refine j.rg [3,4,9,10,11] fun K I=> ?_;simp only[go_sem,vr,hk,t1,zm,bu,kO,kD,u_,dc,cb,cA,ti,jL];apply I;refine j.bJ rfl (j.aN (j.ba (j.rg [3,4,9,10,11] fun K I=> ?_)));simp only[go_sem];apply I;refine j.rebase [3,4,9,10,11] ?_;simp only[go_sem];have gW:jW k a (ma i k (fy i F k) a) (U+1)=f:=by rw[gY,cA];rfl
     rw[bH U (by omega),←gW];exact pN (U+1) _ _ ⟨by omega,rfl,rfl⟩ (by omega)
    ·refine j.rg [3,4,9,10,11] fun K I=> ?_;simp only[go_sem,vr,hk,t1,t2,zm,H3,bu,jS,kO,ey,kD,u_,dc,cb,dp,dq,cA,fc,ti,jL,gK];apply I;refine j.bJ rfl (j.aN (j.ba (j.rg [3,4,9,10,11] fun K I=> ?_)));simp only[go_sem];apply I;refine j.rebase [3,4,9,10,11] ?_;simp only[go_sem];have gW:jW k a (ma i k (fy i F k) a) (U+1)=f:=by rw[gY,cA,fc];rfl
     rw[bH U (by omega),←gW];exact pN (U+1) _ _ ⟨by omega,rfl,rfl⟩ (by omega)
    refine j.rg [3,4,9,10,11] fun K I=> ?_;simp only[go_sem,vr,hk,t1,t2,zm,H3,bu,jS,kO,ey,kD,u_,dc,cb,dp,dq,cA,fc,ti,jL,gK];apply I;refine j.bZ rfl (j.rg [3,4,9,10,11] fun K I=> ?_);simp only[go_sem,vr,hk,t1,zm,nK,kO,kD,u_,dp,dq];refine⟨ti,gK, ?_⟩;have xZ:(fun x=>if x=a then(fun c=>if c=U then true else f a c)else f x)=uo f a U:=by
     funext x c
     unfold uo;by_cases aa:x=a
     ·subst aa;rw[if_pos rfl];by_cases ah:c=U
      ·rw[if_pos ah,if_pos ⟨rfl,ah⟩]
      rw[if_neg ah,if_neg (fun h=>ah h.2)]
     rw[if_neg aa,if_neg (fun h=>aa h.1)]
    rw[Ml,B2 dg ti,xZ];apply I;refine j.ba (j.rg [3,4,9,10,11] fun K I=> ?_);simp only[go_sem];apply I;refine j.rebase [3,4,9,10,11] ?_;simp only[go_sem];have gW:jW k a (ma i k (fy i F k) a) (U+1)=uo f a U:=by rw[gY,cA,fc];rfl
    rw[bH U (by omega),←gW];exact pN (U+1) _ _ ⟨by omega,rfl,rfl⟩ (by omega)
   have iG:U=i:=by
    have h:(i:Int)≤U:=by simpa using CN
    omega
   subst iG;refine j.exit rfl (j.ba (j.rg [3,4,9,10] fun K I=> ?_));simp only[go_sem];apply I;refine j.rebase [3,4,9,10] ?_;simp only[go_sem];rw[bH a (by omega)];exact vE (a+1) _ _ ⟨by omega,rfl,rfl⟩ (by omega)
  have py:a=i:=by
   have h:(i:Int)≤a:=by simpa using td
   omega
  subst py;refine j.exit rfl (j.ba (j.rg [3,4,9] fun K I=> ?_));simp only[go_sem];apply I;refine j.rebase [3,4,9] ?_;simp only[go_sem];rw[bH k (by omega)];exact hl (k+1) _ _ ⟨by omega,rfl,rfl⟩ (by omega)
 have tF:k=i:=by
  have h:(i:Int)≤k:=by simpa using CK
  omega
 subst tF;have fk:∀U,U<k→cs U≠fz:=fun U aR e=>by have:=dg.fr U aR;rw[e,go]at this;cases this
 refine j.rebase [4] ?_;simp only[go_sem];refine j.le (cn.refl _) (σ':=e4 k cs (fy k F k) k++[(fz,aE.arr 1 (kA k cs (fy k F k) k))]) (by
  rw[O8,fq];show aQ (e4 k cs (fy k F k) k++[_]) (e4 k cs (fy k F k) k++([_]++[_]))
  rw[←List.append_assoc];exact aQ.append_left _ _) ?_
 refine j.LH (Nat.le_refl _) (fun x y an aF e=>dg.inj x y an aF e) fk (fun x s xs an=> ?_) ?_
 ·show [(4,D.b' (cs x) s xs (.own (some fz) 1 k))]=_
  rw[Vz (fun e=>fk x an e.symm)]
 refine j.o1 fz (bE ..) ?_;have jH:(kA k cs (fy k F k) 0).length=k:=by unfold kA;simp
 have ts:kB fz 1 (kA k cs (fy k F k) 0) [(4, .own (some fz) 1 k)]=[(4, .ai (kA k cs (fy k F k) 0))]:=by
  show [(4,D.b' fz 1 (kA k cs (fy k F k) 0) (.own (some fz) 1 k))]=_
  simp only[D.b'];rw[if_pos ⟨trivial,trivial,by omega⟩,List.take_of_length_le (by omega)]
 rw[ts];refine j.exit rfl (j.J (j.rg [4] fun K I=> ?_));simp only[go_sem];apply I;refine j.ret ar Tryz.func58 (by simp[go_sem]) ?_;simp only[go_sem];have QV:kA k cs (fy k F k) 0=(List.range m.edges.length).map fun a=> .ai (cz m.edges.length (du m a)):=by
  unfold kA;rw[←au];refine List.map_congr_left fun a _=> ?_;rw[if_neg (Nat.not_lt_zero _),Ir];unfold du;rw[←au]
 unfold uQ;rw[←QV]
end Go.Ab.S16
namespace Go.Ab.S16
open Go Go.Proofs Go.RowKit
theorem Kh {ob:Option Nat} {n:Nat} (l:List ByteArray) (v:ByteArray) (σ:al) (an:bL 1 ob σ=some (l.map ab)) (au:n=l.length) (aA:l.length<2^40):
  AC Tryz.prog 57 [.own ob 1 n, .v (.string v)] σ (fun e σ'=>e= .ret (.v (.bool (inB l v)))∧σ'=σ):=by
 subst au;have:=hN.yo (rest:=[.v (.string v)]) (n:=l.length) an (by simp) (fun _ _ _=>rfl);rw[List.take_of_length_le (by simp)]at this;exact AC.ud this rfl ((pO l v [] aA).mono fun e σ' h=>h)
theorem YD (m:bK) (σ:al) (aA:m.edges.length<2^20) (af:∀e∈m.edges,e.small):
  AC Tryz.prog 21 [m.d] σ (fun e σ'=>e= .ret (.v (.int .i64 (ku m:Int)))∧σ'=σ):=by
 refine AC.still ?_ σ;refine AC.forget (R:=fun e _=>e= .ret (.v (.int .i64 (ku m:Int)))) ?_ fun e σ' h=>⟨[],aQ.nil _,h,rfl⟩;have fX:m.d= .agg [.ai (m.edges.map aM.d), .ai (m.defs.map ab)]:=rfl;have bn:(m.edges.map aM.d).length=m.edges.length:=List.length_map ..;refine AC.bI Tryz.func21 Tryz.ntmps21 fun C ar=> ?_;rw[fX];refine j.J (j.rg [0] fun K I=> ?_);simp only[go_sem];intro bP;apply I;generalize eL:[(bP,aE.arr 2 [D.agg [.ai (m.edges.map aM.d), .ai (m.defs.map ab)]])]=ρ;have g1:av bP ρ=some (.arr 2 [D.agg [.ai (m.edges.map aM.d), .ai (m.defs.map ab)]]):=by rw[←eL,bE]
 refine j.J (j.rg [1] fun K I=> ?_);simp only[go_sem];apply I;refine j.J (j.J (j.rg [1,3] fun K I=> ?_));simp only[go_sem];apply I;refine j.aG (j.im 3 1 rfl ?_);refine j.rebase [1,3,4] ?_;simp only[go_sem];refine j.while (fun(i:Nat) env' aS=>∃o:Option Nat,(i≤m.edges.length∧aV o 1 ((cR m i).map ab) ρ∧(cR m i).Nodup)∧env'=[(1, .ptr bP 2 0 0),(3, .own o 1 (cR m i).length),(4, .v (.int .i64 (i:Int)))]∧aS=cellsOf o 1 ((cR m i).map ab)++ρ) (fun(i:Nat)=>m.edges.length-i) 0 ⟨none,⟨by omega,aV.nil _ _,List.nodup_nil⟩,rfl,rfl⟩ ?_;rintro i env' aS ⟨o,⟨hi,aT,cM⟩,rfl,rfl⟩ aB;have cH:=aB;refine j.J (j.J ?_);have s3:=aT.keep g1;refine j.rg [1,3,4] fun K I=> ?_;simp only[go_sem,s3,bn];apply I;refine j.cond rfl (fun e9=> ?_) (fun e9=> ?_)
 ·have aC:i<m.edges.length:=Int.ofNat_lt.1 (by simpa using e9);have aq:=b6 aM.d m.edges i aC;rw[aM.d]at aq;have bf:(0:Int)≤(i:Int):=by omega
  have bp:(i:Int)<(m.edges.length:Int):=by omega
  have dh:=(af _ (List.getElem_mem aC)).outs;have ew:(m.edges[i].outs.map ab).length=m.edges[i].outs.length:=List.length_map ..;have mN:=vT m af i hi;have eD:=AM m i aC;refine j.aN (j.J (j.aG (j.J (j.rg [1,3,4] fun K I=> ?_))));simp only[go_sem];apply I;refine j.aG ?_;refine j.rebase [1,3,4,5] ?_;simp only[go_sem];refine j.while (fun(U:Nat) env' aS=>∃o:Option Nat,(U≤m.edges[i].outs.length∧aV o 1 ((cR m i++m.edges[i].outs.take U).map ab) ρ∧(cR m i++m.edges[i].outs.take U).Nodup)∧env'=[(1, .ptr bP 2 0 0),(3, .own o 1 (cR m i++m.edges[i].outs.take U).length),(4, .v (.int .i64 (i:Int))),(5, .v (.int .i64 (U:Int)))]∧aS=cellsOf o 1 ((cR m i++m.edges[i].outs.take U).map ab)++ρ) (fun(U:Nat)=>m.edges[i].outs.length-U) 0 ⟨o,⟨Nat.zero_le _,by simpa using aT,by simpa using cM⟩,by simp,by simp⟩ ?_;rintro U env' aS ⟨o,⟨aR,aT,cM⟩,rfl,rfl⟩ aB;have eg:=aB;refine j.J (j.J ?_);have s3:=aT.keep g1;refine j.rg [1,3,4,5] fun K I=> ?_;simp only[go_sem,s3,bn,aq,bf,bp,ew];apply I;refine j.cond rfl (fun jF=> ?_) (fun jF=> ?_)
  ·have en:U<m.edges[i].outs.length:=Int.ofNat_lt.1 (by simpa using jF);have eT:=b6 ab m.edges[i].outs U en;rw[ab]at eT;have dp:(0:Int)≤(U:Int):=by omega
   have dq:(U:Int)<(m.edges[i].outs.length:Int):=by omega
   have iP:(cR m i++m.edges[i].outs.take U).length≤10*i+10:=by rw[List.length_append,List.length_take];omega
   refine j.aN (j.J (j.aG (j.J (j.J (j.rg [1,3,4,5] fun K I=> ?_)))));simp only[go_sem,s3,bn,aq,bf,bp,ew,eT,dp,dq];refine a1 Tryz.call57 (Kh (cR m i++m.edges[i].outs.take U) m.edges[i].outs[U] _ aT.bL rfl (by omega)) ?_;simp only[go_sem];apply I;refine j.cond rfl (fun dx=> ?_) (fun dx=> ?_)
   ·have d':=(si _ _).1 dx;have dr:ku m=11:=by
     unfold ku;rw[if_neg];intro b0;have iN:(cR m i++m.edges[i].outs.take (U+1)).Nodup:=by
      refine b0.sublist ?_;have aa:m.edges.flatMap aM.outs=cR m i++(m.edges[i].outs++(m.edges.drop (i+1)).flatMap aM.outs):=by
       unfold cR;rw[←List.flatMap_cons,←List.drop_eq_getElem_cons aC,←List.flatMap_append,List.take_append_drop]
      rw[aa];exact List.Sublist.append (List.Sublist.refl _) ((List.take_sublist _ _).trans (List.sublist_append_left _ _))
     rw[List.take_succ_eq_append_getElem en,←List.append_assoc]at iN;exact(List.nodup_append.1 iN).2.2 _ d' _ (List.mem_singleton.2 rfl) rfl
    refine j.J (j.rg [] fun K I=> ?_);simp only[go_sem];apply I;refine j.ret ar Tryz.func21 (by simp[go_sem]) ?_;simp only[go_sem];rw[dr];rfl
   have oI:m.edges[i].outs[U]∉cR m i++m.edges[i].outs.take U:=fun hm=>by
    have:=(si _ _).2 hm;rw[dx]at this;cases this
   have aH:=aT.bL;have aw:=aT.cB;have dW:((cR m i++m.edges[i].outs.take U).map ab).length=(cR m i++m.edges[i].outs.take U).length:=List.length_map ..;have cv:List.take (cR m i++m.edges[i].outs.take U).length ((cR m i++m.edges[i].outs.take U).map ab)=(cR m i++m.edges[i].outs.take U).map ab:=List.take_of_length_le (by omega);refine j.aN ?_;refine j.fw [1,3,4,5] [47] fun K I=> ?_;simp only[go_sem,s3,bn,aq,bf,bp,ew,eT,dp,dq,aH,aw,dW,cv];refine⟨by decide,⟨Nat.le_refl _,fun y aF=>by rw[aF];exact⟨rfl,rfl⟩,by omega,by omega⟩,fun ob aO ax=> ?_⟩;have bt:(cR m i++m.edges[i].outs.take U).map ab++[D.v (.string m.edges[i].outs[U])]=(cR m i++m.edges[i].outs.take (U+1)).map ab:=by
    rw[List.take_succ_eq_append_getElem en,←List.append_assoc,List.map_append (l₂:=[m.edges[i].outs[U]])];rfl
   rw[bt]at aO⊢;apply I;refine j.ba (j.rg [1,3,4,5] fun K I=> ?_);simp only[go_sem];apply I;refine j.rebase [1,3,4,5] ?_;simp only[go_sem];rw[bH U (by omega)];refine eg (U+1) _ _ ⟨ob,⟨by omega,⟨ax,aO⟩, ?_⟩,by rw[List.length_map],rfl⟩ (by omega);rw[List.take_succ_eq_append_getElem en,←List.append_assoc];exact List.nodup_append.2 ⟨cM,by simp,fun a bb b ae=>by rw[List.mem_singleton.1 ae];exact fun e=>oI (e▸bb)⟩
  have hE:U=m.edges[i].outs.length:=by
   have h:(m.edges[i].outs.length:Int)≤U:=by simpa using jF
   omega
  subst hE;rw[List.take_length,←eD]at aT cM⊢;refine j.exit rfl (j.ba (j.rg [1,3,4] fun K I=> ?_));simp only[go_sem];apply I;refine j.rebase [1,3,4] ?_;simp only[go_sem];rw[bH i (by omega)];exact cH (i+1) _ _ ⟨o,⟨by omega,aT,cM⟩,rfl,rfl⟩ (by omega)
 have cC:i=m.edges.length:=by
  have h:(m.edges.length:Int)≤i:=by simpa using e9
  omega
 subst cC;have Sr:cR m m.edges.length=m.edges.flatMap aM.outs:=by unfold cR;rw[List.take_length]
 rw[Sr]at cM;have s3:=aT.keep g1;refine j.exit rfl (j.J (j.rg [1] fun K I=> ?_));simp only[go_sem,s3];refine a1 Tryz.call58 (BW m _ aA af) ?_;simp only[go_sem];apply I;refine j.le (cn.refl _) (aQ.nil _) ?_;have dD:((List.range m.edges.length).map fun a=>D.ai (cz m.edges.length (du m a))).length=m.edges.length:=by simp
 unfold uQ;refine j.J (j.J (j.rg [6] fun K I=> ?_));simp only[go_sem];apply I;refine j.aG ?_;refine j.rebase [6,7] ?_;simp only[go_sem];refine j.while (fun(k:Nat) env' aS=>(k≤m.edges.length∧∀a<k,du m a a=false)∧env'=[(6, .ai ((List.range m.edges.length).map fun a=>D.ai (cz m.edges.length (du m a)))),(7, .v (.int .i64 (k:Int)))]∧aS=[]) (fun(k:Nat)=>m.edges.length-k) 0 ⟨⟨Nat.zero_le _,fun a h=>by omega⟩,rfl,rfl⟩ ?_;rintro k env' aS ⟨⟨aj,xM⟩,rfl,rfl⟩ aB;have hl:=aB;refine j.J (j.J (j.rg [6,7] fun K I=> ?_));simp only[go_sem,dD];apply I;refine j.cond rfl (fun tb=> ?_) (fun tb=> ?_)
 ·have eO:k<m.edges.length:=Int.ofNat_lt.1 (by simpa using tb);have dc:(0:Int)≤(k:Int):=by omega
  have cb:(k:Int)<(m.edges.length:Int):=by omega
  have kh:=ur (fun a=>D.ai (cz m.edges.length (du m a))) .any eO;have fJ:=nQ m.edges.length (du m k);have r_:=jT (du m k) eO;refine j.aN (j.J (j.aG (j.J (j.rg [6,7] fun K I=> ?_))));simp only[go_sem,dD,dc,cb,kh,fJ,r_];apply I;refine j.cond rfl (fun xi=> ?_) (fun xi=> ?_)
  ·have xA:((List.range m.edges.length).any fun i=>du m i i)=true:=List.any_eq_true.2 ⟨k,List.mem_range.2 eO,xi⟩;have dr:ku m=12:=by unfold ku;rw[if_pos cM,if_pos xA]
   refine j.J (j.rg [] fun K I=> ?_);simp only[go_sem];apply I;refine j.ret ar Tryz.func21 (by simp[go_sem]) ?_;simp only[go_sem];rw[dr];rfl
  refine j.aN (j.ba (j.rg [6,7] fun K I=> ?_));simp only[go_sem];apply I;refine j.rebase [6,7] ?_;simp only[go_sem];rw[bH k (by omega)];refine hl (k+1) _ _ ⟨⟨by omega,fun a bb=> ?_⟩,rfl,rfl⟩ (by omega);by_cases xq:a=k
  ·rw[xq];exact xi
  exact xM a (by omega)
 have gZ:k=m.edges.length:=by
  have h:(m.edges.length:Int)≤k:=by simpa using tb
  omega
 subst gZ;have dr:ku m=0:=by
  unfold ku;rw[if_pos cM,if_neg];intro h;obtain⟨a,bb,ae⟩:=List.any_eq_true.1 h;rw[xM a (List.mem_range.1 bb)]at ae;cases ae
 refine j.exit rfl (j.J (j.rg [] fun K I=> ?_));simp only[go_sem];apply I;refine j.ret ar Tryz.func21 (by simp[go_sem]) ?_;simp only[go_sem];rw[dr];rfl
def l9 (once:Bool) (ws:List ByteArray):Option kU:=
 match ws.findIdx? (fun s=>(⟨#[62]⟩:ByteArray).toList==s.toList)with
 |some (k+1)=>match gx (ws.drop (k+2))with
  |some (outs,dep)=>if(!(dep.toList==(⟨#[]⟩:ByteArray).toList))=((ws.getD 0 ⟨#[]⟩).toList==(⟨#[105,110,99]⟩:ByteArray).toList)then some ⟨ws.getD 0 ⟨#[]⟩,(ws.take (k+1)).drop 1,once,outs,dep⟩else none
  |none=>none
 |_=>none
def nS (s:ByteArray):Option kU:=if nE (e3 s)=true then l9 true ((e3 s).drop 1)else l9 false (e3 s)
theorem ME (once:Bool) (ws:List ByteArray):lp once ws=(l9 once ws).filter fun x=>hn (a' x.verb):=by
 unfold lp l9;cases ws.findIdx? (fun s=>(⟨#[62]⟩:ByteArray).toList==s.toList)with
 |none=>rfl
 |some k=>
  cases k with
  |zero=>rfl
  |succ k=>
   simp only;cases gx (ws.drop (k+2))with
   |none=>split<;>rfl
   |some p=>
    obtain⟨o,d⟩:=p;simp only;cases ak:hn (a' (ws.getD 0 ⟨#[]⟩))with
    |true=>
     rw[if_pos rfl];split
     ·simp only[Option.filter];rw[if_pos ak]
     rfl
    |false=>
     rw[if_neg (by decide)];split
     ·simp only[Option.filter];rw[if_neg (by rw[ak];decide)]
     rfl
theorem FP (s:ByteArray):h1 s=(nS s).filter fun x=>hn (a' x.verb):=by
 unfold h1 nS;split
 ·exact ME ..
 exact ME ..
theorem yM:∀(l cur:List UInt8),(e2 l cur).length≤l.length+1
 |[],cur=>by
  unfold e2;split<;>simp
 |c::r,cur=>by
  unfold e2;split
  ·split
   ·have:=yM r [];simp;omega
   have:=yM r [];simp;omega
  have:=yM r (cur++[c]);simp;omega
theorem Gd (l:List UInt8) (s:ByteArray) (h:s∈e3 (aK l)):s.size≤l.length:=by
 rw[BF]at h;obtain⟨w,hw,rfl⟩:=List.mem_map.1 h;rw[gu];have key:∀(l cur:List UInt8),∀w∈e2 l cur,w.length≤cur.length+l.length:=fun l=>by
  induction l with
  |nil=>
   intro cur w hw;unfold e2 at hw;split at hw
   ·cases hw
   rw[List.mem_singleton.1 hw];simp
  |cons c r aB=>
   intro cur w hw;unfold e2 at hw;split at hw
   ·split at hw
    ·have:=aB [] w hw;simp at this⊢;omega
    rcases List.mem_cons.1 hw with rfl|hw
    ·simp
    have:=aB [] w hw;simp at this⊢;omega
   have:=aB _ w hw;simp at this⊢;omega
 have:=key l [] w hw;simpa using this
theorem HJ {ws:List ByteArray} {p:ByteArray→Bool} {k:Nat} (aj:k<ws.length) (aP:p ws[k]=true) (dr:∀U (h:U<ws.length),U<k→p ws[U]=false):ws.findIdx? p=some k:=by
 rw[List.findIdx?_eq_some_iff_getElem];exact⟨aj,aP,fun U aR=>by rw[dr U (by omega) aR];decide⟩
theorem HK {ws:List ByteArray} {p:ByteArray→Bool} (dr:∀U (h:U<ws.length),p ws[U]=false):ws.findIdx? p=none:=by
 rw[List.findIdx?_eq_none_iff];intro x an;obtain⟨U,aR,rfl⟩:=List.getElem_of_mem an;exact dr U aR
theorem Yp (v:ByteArray):((v.toList==(⟨#[99,97,116]⟩:ByteArray).toList)=true)∨((v.toList==(⟨#[99,97,116]⟩:ByteArray).toList)=false∧(v.toList==(⟨#[114,101,118]⟩:ByteArray).toList)=true)∨((v.toList==(⟨#[99,97,116]⟩:ByteArray).toList)=false∧(v.toList==(⟨#[114,101,118]⟩:ByteArray).toList)=false∧(v.toList==(⟨#[115,117,109]⟩:ByteArray).toList)=true)∨((v.toList==(⟨#[99,97,116]⟩:ByteArray).toList)=false∧(v.toList==(⟨#[114,101,118]⟩:ByteArray).toList)=false∧(v.toList==(⟨#[115,117,109]⟩:ByteArray).toList)=false∧(v.toList==(⟨#[112,117,116]⟩:ByteArray).toList)=true)∨((v.toList==(⟨#[99,97,116]⟩:ByteArray).toList)=false∧(v.toList==(⟨#[114,101,118]⟩:ByteArray).toList)=false∧(v.toList==(⟨#[115,117,109]⟩:ByteArray).toList)=false∧(v.toList==(⟨#[112,117,116]⟩:ByteArray).toList)=false∧(v.toList==(⟨#[105,110,99]⟩:ByteArray).toList)=true)∨((v.toList==(⟨#[99,97,116]⟩:ByteArray).toList)=false∧(v.toList==(⟨#[114,101,118]⟩:ByteArray).toList)=false∧(v.toList==(⟨#[115,117,109]⟩:ByteArray).toList)=false∧(v.toList==(⟨#[112,117,116]⟩:ByteArray).toList)=false∧(v.toList==(⟨#[105,110,99]⟩:ByteArray).toList)=false∧(v.toList==(⟨#[102,97,105,108]⟩:ByteArray).toList)=true)∨((v.toList==(⟨#[99,97,116]⟩:ByteArray).toList)=false∧(v.toList==(⟨#[114,101,118]⟩:ByteArray).toList)=false∧(v.toList==(⟨#[115,117,109]⟩:ByteArray).toList)=false∧(v.toList==(⟨#[112,117,116]⟩:ByteArray).toList)=false∧(v.toList==(⟨#[105,110,99]⟩:ByteArray).toList)=false∧(v.toList==(⟨#[102,97,105,108]⟩:ByteArray).toList)=false):=by
 by_cases aa:(v.toList==(⟨#[99,97,116]⟩:ByteArray).toList)=true
 ·exact .inl aa
 by_cases ah:(v.toList==(⟨#[114,101,118]⟩:ByteArray).toList)=true
 ·exact .inr (.inl ⟨eq_false_of_ne_true aa,ah⟩)
 by_cases aJ:(v.toList==(⟨#[115,117,109]⟩:ByteArray).toList)=true
 ·exact .inr (.inr (.inl ⟨eq_false_of_ne_true aa,eq_false_of_ne_true ah,aJ⟩))
 by_cases bg:(v.toList==(⟨#[112,117,116]⟩:ByteArray).toList)=true
 ·exact .inr (.inr (.inr (.inl ⟨eq_false_of_ne_true aa,eq_false_of_ne_true ah,eq_false_of_ne_true aJ,bg⟩)))
 by_cases cu:(v.toList==(⟨#[105,110,99]⟩:ByteArray).toList)=true
 ·exact .inr (.inr (.inr (.inr (.inl ⟨eq_false_of_ne_true aa,eq_false_of_ne_true ah,eq_false_of_ne_true aJ,eq_false_of_ne_true bg,cu⟩))))
 by_cases de:(v.toList==(⟨#[102,97,105,108]⟩:ByteArray).toList)=true
 ·exact .inr (.inr (.inr (.inr (.inr (.inl ⟨eq_false_of_ne_true aa,eq_false_of_ne_true ah,eq_false_of_ne_true aJ,eq_false_of_ne_true bg,eq_false_of_ne_true cu,de⟩)))))
 exact .inr (.inr (.inr (.inr (.inr (.inr (⟨eq_false_of_ne_true aa,eq_false_of_ne_true ah,eq_false_of_ne_true aJ,eq_false_of_ne_true bg,eq_false_of_ne_true cu,eq_false_of_ne_true de⟩))))))
theorem wx {v w:ByteArray} (h:(v.toList==w.toList)=true) (hw:hn (a' w)=true):hn (a' v)=true:=by
 rw[p4]at h;rw[(bytes_beq _ _).1 h];exact hw
theorem Yq {v:ByteArray} (aa:(v.toList==(⟨#[99,97,116]⟩:ByteArray).toList)=false) (ah:(v.toList==(⟨#[114,101,118]⟩:ByteArray).toList)=false) (aJ:(v.toList==(⟨#[115,117,109]⟩:ByteArray).toList)=false) (bg:(v.toList==(⟨#[112,117,116]⟩:ByteArray).toList)=false) (cu:(v.toList==(⟨#[105,110,99]⟩:ByteArray).toList)=false) (de:(v.toList==(⟨#[102,97,105,108]⟩:ByteArray).toList)=false):hn (a' v)=false:=by
 unfold hn;have key:∀w:ByteArray,(v.toList==w.toList)=false→a' v≠a' w:=fun w h e=>by
  rw[p4]at h;have:v=w:=by rw[←gr v,←gr w,e]
  rw[this,(bytes_beq _ _).2 rfl]at h;cases h
 rw[List.contains_eq_mem,decide_eq_false_iff_not];intro hm;simp only[List.mem_cons,List.not_mem_nil,or_false]at hm;rcases hm with h|h|h|h|h|h
 ·exact key ⟨#[99,97,116]⟩ aa h
 ·exact key ⟨#[114,101,118]⟩ ah h
 ·exact key ⟨#[115,117,109]⟩ aJ h
 ·exact key ⟨#[112,117,116]⟩ bg h
 ·exact key ⟨#[105,110,99]⟩ cu h
 exact key ⟨#[102,97,105,108]⟩ de h
def gi (n:ByteArray):D:= .agg [.v (.string n), .v (.slice none 0 0)]
def FO:D:= .bd [.v (.slice none 0 0), .agg [.v (.slice none 0 0), .v (.bool false), .v (.string ⟨#[]⟩), .v (.string ⟨#[]⟩)], .v (.bool false)]
def p2 (o:Option Nat) (x:kU):D:= .bd [.ai ((x.verb::x.args).map ab), .agg [.own o 2 x.outs.length, .v (.bool x.once), .v (.string x.dep), .v (.string ⟨#[]⟩)], .v (.bool (hn (a' x.verb)))]
set_option maxRecDepth 16000 in
set_option maxHeartbeats 8000000 in
theorem Wf (l:List UInt8) (af:l.length<2^36) (σ:al):
  AC Tryz.prog 86 [.v (.string (aK l))] σ (fun e σ'=>match nS (aK l)with
   |none=>e= .ret FO∧σ'=σ
   |some x=>∃o,aV o 2 (x.outs.map gi) σ∧e= .ret (p2 o x)∧σ'=cellsOf o 2 (x.outs.map gi)++σ):=by
 refine AC.forget (R:=fun e σ'=>match nS (aK l)with
   |none=>e= .ret FO∧aQ σ σ'
   |some x=>∃o,aV o 2 (x.outs.map gi) σ∧e= .ret (p2 o x)∧aQ (cellsOf o 2 (x.outs.map gi)++σ) σ') ?_ fun e σ' h=> ?_
 rotate_left
 ·revert h
  cases nS (aK l)with
  |none=>exact fun h=>⟨σ,h.2,h.1,rfl⟩
  |some x=>exact fun⟨o,aa,ah,aJ⟩=>⟨_,aJ,o,aa,ah,rfl⟩
 obtain⟨W,ib⟩:∃W,W=e3 (aK l):=⟨_,rfl⟩;have oo:(W.map ab).length=W.length:=List.length_map ..;refine AC.bI Tryz.func86 Tryz.ntmps86 fun C ar=> ?_;refine j.J (j.rg [0] fun K I=> ?_);simp only[go_sem];intro b3 dP;apply I;refine j.J (j.rg [0,3] fun K I=> ?_);simp only[go_sem];refine a1 Tryz.call115 (Wj l af _) ?_;simp only[go_sem];apply I;rw[←ib];refine j.J (j.rg [3,5] fun K I=> ?_);simp only[go_sem];intro dk vc;have dx:b3≠dk:=fun e=>by subst e;rw[bE]at vc;cases vc
 have dE:∀X Y,aQ ((b3,Y)::σ) ((dk,X)::(b3,Y)::σ):=fun X Y=>fO (aQ.refl _) (by rw[aW,if_neg (Ne.symm dx)];rw[aW,if_neg (Ne.symm dx)]at vc;exact vc);apply I;refine j.J (j.J ?_);rcases(show W=[]∨(∃w r,W=w::r)from by
  cases W with
  |nil=>exact .inl rfl
  |cons w r=>exact .inr ⟨w,r,rfl⟩)with hw|⟨w,r,hw⟩
 ·have d1:decide ((W.length:Int)>0)=false:=by rw[hw];rfl
  have au:nS (aK l)=none:=by unfold nS;rw[←ib,hw];rfl
  rw[au]at ar;refine j.rg [3,5,6] fun K I=> ?_;simp only[go_sem,oo,d1];apply I;refine j.bJ rfl (j.aN (j.J (j.rg [3,5,6] fun K I=> ?_)));simp only[go_sem];apply I;refine j.J (j.aG ?_);refine j.rebase [3,5,6,7] ?_;simp only[go_sem];refine j.while (fun(i:Nat) env' aS=>(i=0)∧env'=[(3, .ptr b3 4 0 0),(5, .ai (W.map ab)),(6, .ptr dk 4 0 0),(7, .v (.int .i64 (i:Int)))]∧aS=(dk,aE.arr 4 [D.agg [.v (.slice none 0 0), .v (.bool false), .v (.string ⟨#[]⟩), .v (.string ⟨#[]⟩)]])::(b3,aE.arr 4 [D.agg [.v (.slice none 0 0), .v (.bool false), .v (.string ⟨#[]⟩), .v (.string ⟨#[]⟩)]])::σ) (fun(i:Nat)=>i) 0 ⟨rfl,rfl,rfl⟩ ?_;rintro i env' aS ⟨rfl,rfl,rfl⟩ aB;have cH:=aB;refine j.J (j.J ?_);have d2:decide (((0:Nat):Int)<(W.length:Int))=false:=by rw[hw];rfl
  refine j.rg [3,5,6,7] fun K I=> ?_;simp only[go_sem,oo,d2];apply I;refine j.bJ rfl (j.exit rfl (j.J (j.J ?_)));have d3:(((0:Nat):Int)==0)=true:=rfl;refine j.rg [3,5,6,7] fun K I=> ?_;simp only[go_sem,oo,d3];apply I;refine j.bZ rfl (j.J (j.rg [3] fun K I=> ?_));simp only[go_sem,dx,dx.symm];apply I;refine j.le (cn.refl _) (dE _ _) ?_;refine j.ret ar Tryz.func86 (by simp[go_sem]) ?_;simp only[go_sem];exact⟨rfl,fO (aQ.refl _) dP⟩
 have d1:decide ((W.length:Int)>0)=true:=by rw[hw];exact decide_eq_true (by simp)
 have tv:(W.map ab).getD 0 .any= .v (.string w):=by rw[hw];rfl
 have oJ:nE W=(w.toList==(⟨#[111,110,99,101]⟩:ByteArray).toList):=by rw[hw];rfl
 have iI:(1:Int)≤(W.length:Int):=by rw[hw,List.length_cons];omega
 have ij:(0:Int)<(W.length:Int):=by omega
 refine j.rg [3,5,6] fun K I=> ?_;simp only[go_sem,oo,d1,tv,ij,←oJ];apply I;refine j.join (fun env' σ'=>env'=[(3, .ptr b3 4 0 0),(5, .ai ((if nE W=true then W.drop 1 else W).map ab)),(6, .ptr dk 4 0 0)]∧σ'=(dk,aE.arr 4 [D.agg [.v (.slice none 0 0), .v (.bool (nE W)), .v (.string ⟨#[]⟩), .v (.string ⟨#[]⟩)]])::(b3,aE.arr 4 [D.agg [.v (.slice none 0 0), .v (.bool false), .v (.string ⟨#[]⟩), .v (.string ⟨#[]⟩)]])::σ) (fun k1 cb=> ?_) ?_
 ·refine j.cond rfl (fun jF=> ?_) (fun jF=> ?_)
  ·have ae:nE W=true:=jF;refine j.J (j.rg [3,5,6] fun K I=> ?_);simp only[go_sem];apply I;refine j.rg [3,5,6] fun K I=> ?_;simp only[go_sem];refine⟨⟨by omega,by omega,fun y aF=>(c' _ y aF).1⟩, ?_⟩;apply I;refine j.rebase [3,5,6] ?_;simp only[go_sem];have dz:List.drop 1 (List.take (W.map ab).length (W.map ab))=(W.drop 1).map ab:=by rw[List.take_of_length_le (Nat.le_refl _),List.map_drop]
   exact cb _ _ ⟨by rw[ae,if_pos rfl,dz],by rw[ae];rfl⟩
  have ae:nE W=false:=jF;refine j.aN ?_;refine j.rebase [3,5,6] ?_;simp only[go_sem];exact cb _ _ ⟨by rw[ae,if_neg (by decide)],by rw[ae];rfl⟩
 rintro env' σ' ⟨rfl,rfl⟩;refine j.J ?_;obtain⟨V,om⟩:∃V,V=if nE W=true then W.drop 1 else W:=⟨_,rfl⟩;obtain⟨on,JK⟩:∃on,on=nE W:=⟨_,rfl⟩;rw[←om,←JK];have QF:nS (aK l)=l9 on V:=by
  rw[om,JK];unfold nS;rw[←ib];cases nE W<;>rfl
 rw[QF]at ar;have j_:(V.map ab).length=V.length:=List.length_map ..;have acd:V.length≤l.length+1:=by
  have aa:=yM l [];have ah:W.length=(e2 l []).length:=by rw[ib,BF,List.length_map]
  rw[om];split
  ·rw[List.length_drop];omega
  omega
 obtain⟨gt,Jn⟩:∃gt:ByteArray→Bool,gt=fun s=>s.toList==(⟨#[62]⟩:ByteArray).toList:=⟨_,rfl⟩;have Jo:(fun s:ByteArray=>(⟨#[62]⟩:ByteArray).toList==s.toList)=gt:=by
  rw[Jn];funext s
  rw[p4,p4,Bool.eq_iff_iff,bytes_beq,bytes_beq];exact⟨fun h=>h.symm,fun h=>h.symm⟩
 have vu:∀s:ByteArray,(s.toList==(⟨#[62]⟩:ByteArray).toList)=gt s:=fun s=>by rw[Jn]
 refine j.rg [3,5,6] fun K I=> ?_;simp only[go_sem];apply I;refine j.J (j.aG ?_);refine j.rebase [3,5,6,7] ?_;simp only[go_sem];refine j.while (fun(i:Nat) env' aS=>(i≤V.length∧∀U (h:U<V.length),U<i→gt V[U]=false)∧env'=[(3, .ptr b3 4 0 0),(5, .ai (V.map ab)),(6, .ptr dk 4 0 0),(7, .v (.int .i64 (i:Int)))]∧aS=(dk,aE.arr 4 [D.agg [.v (.slice none 0 0), .v (.bool on), .v (.string ⟨#[]⟩), .v (.string ⟨#[]⟩)]])::(b3,aE.arr 4 [D.agg [.v (.slice none 0 0), .v (.bool false), .v (.string ⟨#[]⟩), .v (.string ⟨#[]⟩)]])::σ) (fun(i:Nat)=>V.length-i) 0 ⟨⟨Nat.zero_le _,fun U h aR=>by omega⟩,rfl,rfl⟩ ?_;rintro i env' aS ⟨⟨hi,dr⟩,rfl,rfl⟩ aB;have eg:=aB;refine j.J (j.J ?_);rcases(show(∃h:i<V.length,gt V[i]=false)∨(∃h:i<V.length,gt V[i]=true)∨i=V.length from by
  rcases Nat.lt_or_ge i V.length with h|h
  ·cases aq:gt V[i]
   ·exact .inl ⟨h,aq⟩
   exact .inr (.inl ⟨h,aq⟩)
  exact .inr (.inr (by omega)))with⟨aC,aq⟩|⟨aC,aq⟩|he
 ·have d4:decide ((i:Int)<(V.length:Int))=true:=decide_eq_true (by omega);have np:=b6 ab V i aC;rw[ab]at np;have bf:(0:Int)≤(i:Int):=by omega
  have bp:(i:Int)<(V.length:Int):=by omega
  refine j.rg [3,5,6,7] fun K I=> ?_;simp only[go_sem,j_,d4,np,bf,bp,vu,aq,Bool.not_false];apply I;refine j.bZ rfl (j.aN (j.aG (j.rg [3,5,6,7] fun K I=> ?_)));simp only[go_sem];apply I;refine j.ba ?_;refine j.rebase [3,5,6,7] ?_;simp only[go_sem];rw[bH i (by omega)];refine eg (i+1) _ _ ⟨⟨by omega,fun U h aR=> ?_⟩,rfl,rfl⟩ (by omega);by_cases iG:U=i
  ·subst iG;exact aq
  exact dr U h (by omega)
 ·have d4:decide ((i:Int)<(V.length:Int))=true:=decide_eq_true (by omega);have np:=b6 ab V i aC;rw[ab]at np;have bf:(0:Int)≤(i:Int):=by omega
  have bp:(i:Int)<(V.length:Int):=by omega
  have Ja:V.findIdx? (fun s=>(⟨#[62]⟩:ByteArray).toList==s.toList)=some i:=by rw[Jo];exact HJ aC aq dr
  refine j.rg [3,5,6,7] fun K I=> ?_;simp only[go_sem,j_,d4,np,bf,bp,vu,aq,Bool.not_true];apply I;refine j.bJ rfl (j.exit rfl (j.J (j.J ?_)));rcases Nat.eq_zero_or_pos i with dc|dc
  ·have d5:((i:Int)==0)=true:=by rw[dc];rfl
   refine j.rg [3,5,6,7] fun K I=> ?_;simp only[go_sem,j_,d5];apply I;refine j.bZ rfl (j.J (j.rg [3] fun K I=> ?_));simp only[go_sem,dx,dx.symm];apply I;refine j.le (cn.refl _) (dE _ _) ?_;refine j.ret ar Tryz.func86 (by simp[go_sem]) ?_;simp only[go_sem];rw[show l9 on V=none by unfold l9;rw[Ja,dc]];exact⟨rfl,fO (aQ.refl _) dP⟩
  have d5:((i:Int)==0)=false:=by rw[beq_eq_false_iff_ne];omega
  have d6:((i:Int)==(V.length:Int))=false:=by rw[beq_eq_false_iff_ne];omega
  refine j.rg [3,5,6,7] fun K I=> ?_;simp only[go_sem,j_,d5,d6];apply I;refine j.bJ rfl (j.aN (j.J ?_));have ki:IntKind.i64.wrap ((i:Int)+1)=((i+1:Nat):Int):=bH i (by omega);have SY:List.take V.length (V.map ab)=V.map ab:=List.take_of_length_le (by omega);have Rb:List.drop (i+1) (V.map ab)=(V.drop (i+1)).map ab:=(List.map_drop ..).symm;have tY:(0:Int)≤((i+1:Nat):Int):=by omega
  have tZ:((i+1:Nat):Int)≤(V.length:Int):=by omega
  refine j.rg [3,5,6,7] fun K I=> ?_;simp only[go_sem,ki,j_,SY,Rb,tY,tZ];refine⟨⟨Int.le_refl _,fun y aF=>(c' _ y aF).1⟩, ?_⟩;apply I;obtain⟨h5,zG⟩:∃h5,h5=V.drop (i+1):=⟨_,rfl⟩;rw[←zG];have zH:(h5.map ab).length=h5.length:=List.length_map ..;have ab8:h5.length≤l.length+1:=by rw[zG,List.length_drop];omega
  obtain⟨fL,rfl⟩:∃fL,i=fL+1:=⟨i-1,by omega⟩;have ql:l9 on V=match gx h5 with
    |some (outs,dep)=>if(!(dep.toList==(⟨#[]⟩:ByteArray).toList))=((V.getD 0 ⟨#[]⟩).toList==(⟨#[105,110,99]⟩:ByteArray).toList)then some ⟨V.getD 0 ⟨#[]⟩,(V.take (fL+1)).drop 1,on,outs,dep⟩else none
    |none=>none:=by
   unfold l9;rw[Ja,zG]
  obtain⟨co,vg⟩:∃co:ByteArray→Bool,co=fun s=>s.toList==(⟨#[58]⟩:ByteArray).toList:=⟨_,rfl⟩;have IW:(fun s:ByteArray=>(⟨#[58]⟩:ByteArray).toList==s.toList)=co:=by
   rw[vg];funext s
   rw[p4,p4,Bool.eq_iff_iff,bytes_beq,bytes_beq];exact⟨fun h=>h.symm,fun h=>h.symm⟩
  have lL:∀s:ByteArray,(s.toList==(⟨#[58]⟩:ByteArray).toList)=co s:=fun s=>by rw[vg]
  have zI:∀s∈h5,s.size<2^40:=fun s fZ=>by
   have aa:s∈W:=by
    rw[zG]at fZ;have:=List.mem_of_mem_drop fZ;rw[om]at this;split at this
    ·exact List.mem_of_mem_drop this
    exact this
   rw[ib]at aa;have:=Gd l s aa;omega
  refine j.J (j.J (j.rg [3,5,6,7,8] fun K I=> ?_));simp only[go_sem];apply I;refine j.aG ?_;refine j.rebase [3,5,6,7,8,9] ?_;simp only[go_sem];refine j.while (fun(q:Nat) env' aS=>∃(O:List ByteArray) (dep:ByteArray),((O=h5∧dep=⟨#[]⟩∧q≤h5.length∧∀U (h:U<h5.length),U<q→co h5[U]=false)∨(q=O.length+1∧O.length+2=h5.length∧gx h5=gf O dep∧∀s∈O,s∈h5))∧env'=[(3, .ptr b3 4 0 0),(5, .ai (V.map ab)),(6, .ptr dk 4 0 0),(7, .v (.int .i64 ((fL+1:Nat):Int))),(8, .ai (O.map ab)),(9, .v (.int .i64 (q:Int)))]∧aS=(dk,aE.arr 4 [D.agg [.v (.slice none 0 0), .v (.bool on), .v (.string dep), .v (.string ⟨#[]⟩)]])::(b3,aE.arr 4 [D.agg [.v (.slice none 0 0), .v (.bool false), .v (.string ⟨#[]⟩), .v (.string ⟨#[]⟩)]])::σ) (fun(q:Nat)=>h5.length+1-q) 0 ⟨h5,⟨#[]⟩, .inl ⟨rfl,rfl,Nat.zero_le _,fun U h aR=>by omega⟩,rfl,rfl⟩ ?_;rintro q env' aS ⟨O,dep,xR,rfl,rfl⟩ aB;have hl:=aB;have ji:(O.map ab).length=O.length:=List.length_map ..;refine j.J (j.J (j.rg [3,5,6,7,8,9] fun K I=> ?_));simp only[go_sem,ji];apply I;refine j.cond rfl (fun tc=> ?_) (fun tc=> ?_)
  ·have aC:q<O.length:=Int.ofNat_lt.1 (by simpa using tc);obtain⟨rfl,rfl,bW,lS⟩:O=h5∧dep=⟨#[]⟩∧q≤h5.length∧∀U (h:U<h5.length),U<q→co h5[U]=false:=by
    rcases xR with h|⟨aa,_,_⟩
    ·exact h
    omega
   have iE:=b6 ab O q aC;rw[ab]at iE;have D6:(0:Int)≤(q:Int):=by omega
   have Ak:(q:Int)<(O.length:Int):=by omega
   refine j.aN (j.J (j.aG (j.J (j.J ?_))));rcases Bool.eq_false_or_eq_true (co O[q])with ag|ag
   ·refine j.rg [3,5,6,7,8,9] fun K I=> ?_;simp only[go_sem,ji,iE,D6,Ak,lL,ag,Bool.not_true];apply I;have iN:IntKind.i64.wrap ((O.length:Int)-2)=(O.length:Int)-2:=kt _ (by omega) (by omega);have Er:IntKind.i64.wrap ((q:Int)+1)=((q+1:Nat):Int):=bH q (by omega);have lO:O.findIdx? (fun s=>(⟨#[58]⟩:ByteArray).toList==s.toList)=some q:=by rw[IW];exact HJ aC ag lS
    refine j.bJ rfl (j.aN (j.J (j.J ?_)));rcases(show q+2≠O.length∨(q+2=O.length∧dt (a' (O.getD (q+1) ⟨#[]⟩))=false)∨(q+2=O.length∧dt (a' (O.getD (q+1) ⟨#[]⟩))=true)from by
     by_cases h:q+2=O.length
     ·cases ao:dt (a' (O.getD (q+1) ⟨#[]⟩))
      ·exact .inr (.inl ⟨h,rfl⟩)
      exact .inr (.inr ⟨h,rfl⟩)
     exact .inl h)with dj|⟨dj,fe⟩|⟨dj,fe⟩
    ·have bt:((q:Int) !=(O.length:Int)-2)=true:=by rw[bne_iff_ne];omega
     refine j.rg [3,5,6,7,8,9] fun K I=> ?_;simp only[go_sem,ji,iN,bt];apply I;refine j.bZ rfl (j.J (j.rg [3] fun K I=> ?_));simp only[go_sem,dx,dx.symm];apply I;refine j.le (cn.refl _) (dE _ _) ?_;refine j.ret ar Tryz.func86 (by simp[go_sem]) ?_;simp only[go_sem];rw[ql,show gx O=none by unfold gx;rw[lO];exact if_neg (fun h=>dj h.1)];exact⟨rfl,fO (aQ.refl _) dP⟩
    ·have bt:((q:Int) !=(O.length:Int)-2)=false:=by rw[bne_eq_false_iff_eq];omega
     have lU:q+1<O.length:=by omega
     have vt:=b6 ab O (q+1) lU;rw[ab]at vt;have vC:(0:Int)≤((q+1:Nat):Int):=by omega
     have Ax:((q+1:Nat):Int)<(O.length:Int):=by omega
     rw[dC _ _ _ lU]at fe;refine j.rg [3,5,6,7,8,9] fun K I=> ?_;simp only[go_sem,ji,iN,bt,Er,vt,vC,Ax];refine a1 Tryz.call116 (v_ O[q+1] (zI _ (List.getElem_mem lU)) _) ?_;simp only[go_sem,fe,Bool.not_false];apply I;refine j.bZ rfl (j.J (j.rg [3] fun K I=> ?_));simp only[go_sem,dx,dx.symm];apply I;refine j.le (cn.refl _) (dE _ _) ?_;refine j.ret ar Tryz.func86 (by simp[go_sem]) ?_;simp only[go_sem];rw[ql,show gx O=none by unfold gx;rw[lO];exact if_neg (fun h=>by rw[dC _ _ _ lU,fe]at h;cases h.2)]
     exact⟨rfl,fO (aQ.refl _) dP⟩
    have bt:((q:Int) !=(O.length:Int)-2)=false:=by rw[bne_eq_false_iff_eq];omega
    have lU:q+1<O.length:=by omega
    have vt:=b6 ab O (q+1) lU;rw[ab]at vt;have vC:(0:Int)≤((q+1:Nat):Int):=by omega
    have Ax:((q+1:Nat):Int)<(O.length:Int):=by omega
    have tN:gx O=gf (O.take q) O[q+1]:=by
     unfold gx;rw[lO];exact(if_pos ⟨dj,fe⟩).trans (by rw[dC _ _ _ lU])
    rw[dC _ _ _ lU]at fe;refine j.rg [3,5,6,7,8,9] fun K I=> ?_;simp only[go_sem,ji,iN,bt,Er,vt,vC,Ax];refine a1 Tryz.call116 (v_ O[q+1] (zI _ (List.getElem_mem lU)) _) ?_;simp only[go_sem,fe,Bool.not_true];apply I;refine j.bJ rfl (j.aN (j.J (j.rg [3,5,6,7,8,9] fun K I=> ?_)));simp only[go_sem,ji,Er,vt,vC,Ax];apply I;have SA:(q:Int)≤(O.length:Int):=by omega
    have tV:List.take q (O.map ab)=(O.take q).map ab:=(List.map_take ..).symm;refine j.rg [3,5,6,7,8,9] fun K I=> ?_;simp only[go_sem,ji,D6,SA,tV];refine⟨fun y aF=>(c' _ y aF).1, ?_⟩;apply I;refine j.ba (j.rg [3,5,6,7,8,9] fun K I=> ?_);simp only[go_sem];apply I;refine j.rebase [3,5,6,7,8,9] ?_;simp only[go_sem];rw[bH q (by omega)];exact hl (q+1) _ _ ⟨O.take q,O[q+1], .inr ⟨by rw[List.length_take];omega,by rw[List.length_take];omega,tN,fun s fZ=>List.mem_of_mem_take fZ⟩,rfl,rfl⟩ (by omega)
   refine j.rg [3,5,6,7,8,9] fun K I=> ?_;simp only[go_sem,ji,iE,D6,Ak,lL,ag,Bool.not_false];apply I;refine j.bZ rfl (j.exit rfl (j.rg [3,5,6,7,8,9] fun K I=> ?_));simp only[go_sem];apply I;refine j.rebase [3,5,6,7,8,9] ?_;simp only[go_sem];rw[bH q (by omega)];refine hl (q+1) _ _ ⟨O,⟨#[]⟩, .inl ⟨rfl,rfl,by omega,fun U h aR=> ?_⟩,rfl,rfl⟩ (by omega);by_cases RL:U=q
   ·subst RL;exact ag
   exact lS U h (by omega)
  have dQ:O.length≤q:=by
   have h:¬q<O.length:=fun h=>by
    have ah:¬(q:Int)<(O.length:Int):=by simpa using tc
    omega
   omega
  have jG:gx h5=gf O dep:=by
   rcases xR with⟨rfl,rfl,aJ,bg⟩|⟨_,_,h⟩
   ·unfold gx;rw[IW,HK fun U h=>bg U h (by omega)]
   exact h.1
  have C2:∀s∈O,s.size<2^40:=fun s fZ=>by
   rcases xR with⟨rfl,_,_,_⟩|⟨_,_,_,h⟩
   ·exact zI s fZ
   exact zI s (h s fZ)
  have ab9:O.length≤l.length+1:=by
   rcases xR with⟨rfl,_,_,_⟩|⟨_,h,_,_⟩<;>omega
  have C5:0<V.length:=by omega
  have pD:(V.map ab).getD 0 .any= .v (.string (V.getD 0 ⟨#[]⟩)):=by rw[b6 ab V 0 C5,dC V 0 _ C5];rfl
  have qn:(0:Int)<(V.length:Int):=by omega
  obtain⟨v0,sf⟩:∃v0,v0=V.getD 0 ⟨#[]⟩:=⟨_,rfl⟩;rw[←sf]at pD ql;rw[jG]at ql;clear xR;refine j.exit rfl (j.J (j.J ?_));rcases(show O.length=0∨(O.length≠0∧((!(dep.toList==(⟨#[]⟩:ByteArray).toList)) !=(v0.toList==(⟨#[105,110,99]⟩:ByteArray).toList))=true)∨(O.length≠0∧((!(dep.toList==(⟨#[]⟩:ByteArray).toList)) !=(v0.toList==(⟨#[105,110,99]⟩:ByteArray).toList))=false)from by
   by_cases h:O.length=0
   ·exact .inl h
   cases ae:((!(dep.toList==(⟨#[]⟩:ByteArray).toList)) !=(v0.toList==(⟨#[105,110,99]⟩:ByteArray).toList))
   ·exact .inr (.inr ⟨h,rfl⟩)
   exact .inr (.inl ⟨h,rfl⟩))with dj|⟨dj,fe⟩|⟨dj,fe⟩
  ·have bt:((O.length:Int)==0)=true:=by rw[dj];rfl
   refine j.draw [3,5,6,7,8] [] [dk] [] [(0,true),(1,true),(2,true),(3,true),(4,true),(5,true),(6,true),(7,true),(8,true),(9,true),(10,true),(11,true),(12,true)] (by kernel_rfl) (by decide) (by kernel_rfl) fun K I=> ?_;simp only[go_sem,ji,bt];apply I;refine j.bZ rfl (j.J (j.rg [3] fun K I=> ?_));simp only[go_sem,dx,dx.symm];apply I;refine j.le (cn.refl _) (dE _ _) ?_;refine j.ret ar Tryz.func86 (by simp[go_sem]) ?_;simp only[go_sem];rw[ql,show gf O dep=none from if_neg (fun h=>by have:=h.2;omega)];exact⟨rfl,fO (aQ.refl _) dP⟩
  ·have bt:((O.length:Int)==0)=false:=by rw[beq_eq_false_iff_ne];omega
   refine j.draw [3,5,6,7,8] [] [dk] [] [(0,true),(1,true),(2,true),(3,true),(4,true),(5,true),(6,true),(7,true),(8,true),(9,true),(10,true),(11,true),(12,true)] (by kernel_rfl) (by decide) (by kernel_rfl) fun K I=> ?_;simp only[go_sem,ji,bt,j_,pD,qn,fe];apply I;refine j.bZ rfl (j.J (j.rg [3] fun K I=> ?_));simp only[go_sem,dx,dx.symm];apply I;refine j.le (cn.refl _) (dE _ _) ?_;refine j.ret ar Tryz.func86 (by simp[go_sem]) ?_;simp only[go_sem];rw[ql];have aZ:¬(!(dep.toList==(⟨#[]⟩:ByteArray).toList))=(v0.toList==(⟨#[105,110,99]⟩:ByteArray).toList):=by rw[bne_iff_ne]at fe;exact fe
   cases vf:gf O dep with
   |none=>exact⟨rfl,fO (aQ.refl _) dP⟩
   |some p=>
    obtain⟨Lu,Fa⟩:=p;have:Fa=dep:=by
     unfold gf at vf;split at vf
     ·cases vf;rfl
     cases vf
    subst this;simp only;rw[if_neg aZ];exact⟨rfl,fO (aQ.refl _) dP⟩
  have bt:((O.length:Int)==0)=false:=by rw[beq_eq_false_iff_ne];omega
  refine j.draw [3,5,6,7,8] [] [dk] [] [(0,true),(1,true),(2,true),(3,true),(4,true),(5,true),(6,true),(7,true),(8,true),(9,true),(10,true),(11,true),(12,true)] (by kernel_rfl) (by decide) (by kernel_rfl) fun K I=> ?_;simp only[go_sem,ji,bt,j_,pD,qn,fe];apply I;refine j.bJ rfl (j.aN (j.J (j.J ?_)));have heq:(!(dep.toList==(⟨#[]⟩:ByteArray).toList))=(v0.toList==(⟨#[105,110,99]⟩:ByteArray).toList):=by rw[bne_eq_false_iff_eq]at fe;exact fe
  refine j.rg [3,5,6,7,8] fun K I=> ?_;simp only[go_sem];apply I;refine j.aG ?_;refine j.rebase [3,5,6,7,8,10] ?_;simp only[go_sem];refine j.while (fun(U:Nat) env' aS=>(U≤O.length∧∀c,c<U→oX O c=true)∧env'=[(3, .ptr b3 4 0 0),(5, .ai (V.map ab)),(6, .ptr dk 4 0 0),(7, .v (.int .i64 ((fL+1:Nat):Int))),(8, .ai (O.map ab)),(10, .v (.int .i64 (U:Int)))]∧aS=(dk,aE.arr 4 [D.agg [.v (.slice none 0 0), .v (.bool on), .v (.string dep), .v (.string ⟨#[]⟩)]])::(b3,aE.arr 4 [D.agg [.v (.slice none 0 0), .v (.bool false), .v (.string ⟨#[]⟩), .v (.string ⟨#[]⟩)]])::σ) (fun(U:Nat)=>O.length-U) 0 ⟨⟨Nat.zero_le _,fun c ag=>by omega⟩,rfl,rfl⟩ ?_;rintro U env' aS ⟨⟨aR,cc⟩,rfl,rfl⟩ aB;have vE:=aB;refine j.J (j.J (j.rg [3,5,6,7,8,10] fun K I=> ?_));simp only[go_sem,ji];apply I;refine j.cond rfl (fun s8=> ?_) (fun s8=> ?_)
  ·have aC:U<O.length:=Int.ofNat_lt.1 (by simpa using s8);have eT:=b6 ab O U aC;rw[ab]at eT;have dp:(0:Int)≤(U:Int):=by omega
   have dq:(U:Int)<(O.length:Int):=by omega
   have mJ:(U:Int)≤(O.length:Int):=by omega
   have J7:List.take U (O.map ab)=(O.take U).map ab:=(List.map_take ..).symm;have j':((O.take U).any fun s=>s.toList==O[U].toList)=((O.take U).any fun s=>O[U].toList==s.toList):=by
    congr 1
    funext s
    rw[p4,p4,Bool.eq_iff_iff,bytes_beq,bytes_beq];exact⟨fun h=>h.symm,fun h=>h.symm⟩
   have DX:oX O U=(dt (a' O[U])&& !((O.take U).any fun s=>O[U].toList==s.toList)):=by unfold oX;rw[List.getElem?_eq_getElem aC]
   refine j.aN (j.J (j.aG (j.J ?_)));rcases(by cases dt (a' O[U])<;>cases((O.take U).any fun s=>O[U].toList==s.toList)<;>simp:dt (a' O[U])=false∨(dt (a' O[U])=true∧((O.take U).any fun s=>O[U].toList==s.toList)=true)∨(dt (a' O[U])=true∧((O.take U).any fun s=>O[U].toList==s.toList)=false))with dw|⟨dw,z2⟩|⟨dw,z2⟩
   ·refine j.draw [3,5,6,7,8,10] [] [] [] [(0,true),(1,true),(2,true),(3,true),(4,false),(5,true),(6,true),(7,true),(8,true),(9,true),(10,true),(11,true),(12,true),(13,true),(14,false),(15,true)] (by kernel_rfl) (by decide) (by kernel_rfl) fun K I=> ?_;simp only[go_sem,ji,eT,dp,dq];refine a1 Tryz.call116 (v_ O[U] (C2 _ (List.getElem_mem aC)) _) ?_;simp only[go_sem,dw,Bool.not_false];apply I;refine j.bZ rfl (j.J (j.rg [3] fun K I=> ?_));simp only[go_sem,dx,dx.symm];apply I;refine j.le (cn.refl _) (dE _ _) ?_;refine j.ret ar Tryz.func86 (by simp[go_sem]) ?_;simp only[go_sem];rw[ql,show gf O dep=none from if_neg (fun h=>by have:=h.1 U aC;rw[DX,dw]at this;cases this)]
    exact⟨rfl,fO (aQ.refl _) dP⟩
   ·refine j.draw [3,5,6,7,8,10] [] [] [] [(0,true),(1,true),(2,true),(3,true),(4,false),(5,true),(6,true),(7,true),(8,true),(9,true),(10,true),(11,true),(12,true),(13,true),(14,false),(15,true)] (by kernel_rfl) (by decide) (by kernel_rfl) fun K I=> ?_;simp only[go_sem,ji,eT,dp,dq];refine a1 Tryz.call116 (v_ O[U] (C2 _ (List.getElem_mem aC)) _) ?_;simp only[go_sem,dw,Bool.not_true,ji,eT,dp,dq,mJ,J7];refine⟨fun y aF=>(c' _ y aF).1, ?_⟩;refine a1 Tryz.call57 (pO (O.take U) O[U] _ (by rw[List.length_take];omega)) ?_;simp only[go_sem,j',z2];apply I;refine j.bZ rfl (j.J (j.rg [3] fun K I=> ?_));simp only[go_sem,dx,dx.symm];apply I;refine j.le (cn.refl _) (dE _ _) ?_;refine j.ret ar Tryz.func86 (by simp[go_sem]) ?_;simp only[go_sem];rw[ql,show gf O dep=none from if_neg (fun h=>by have:=h.1 U aC;rw[DX,dw,z2]at this;cases this)]
    exact⟨rfl,fO (aQ.refl _) dP⟩
   refine j.draw [3,5,6,7,8,10] [] [] [] [(0,true),(1,true),(2,true),(3,true),(4,false),(5,true),(6,true),(7,true),(8,true),(9,true),(10,true),(11,true),(12,true),(13,true),(14,false),(15,true)] (by kernel_rfl) (by decide) (by kernel_rfl) fun K I=> ?_;simp only[go_sem,ji,eT,dp,dq];refine a1 Tryz.call116 (v_ O[U] (C2 _ (List.getElem_mem aC)) _) ?_;simp only[go_sem,dw,Bool.not_true,ji,eT,dp,dq,mJ,J7];refine⟨fun y aF=>(c' _ y aF).1, ?_⟩;refine a1 Tryz.call57 (pO (O.take U) O[U] _ (by rw[List.length_take];omega)) ?_;simp only[go_sem,j',z2];apply I;refine j.bJ rfl (j.aN (j.ba (j.rg [3,5,6,7,8,10] fun K I=> ?_)));simp only[go_sem];apply I;refine j.rebase [3,5,6,7,8,10] ?_;simp only[go_sem];rw[bH U (by omega)];refine vE (U+1) _ _ ⟨⟨by omega,fun c ag=> ?_⟩,rfl,rfl⟩ (by omega);by_cases qv:c=U
   ·subst qv;rw[DX,dw,z2];rfl
   exact cc c (by omega)
  have hE:U=O.length:=by
   have h:¬U<O.length:=fun h=>by
    have ah:¬(U:Int)<(O.length:Int):=by simpa using s8
    omega
   omega
  have vf:gf O dep=some (O,dep):=if_pos ⟨fun c ag=>cc c (by omega),by omega⟩;have Rm:l9 on V=some ⟨v0,(V.take (fL+1)).drop 1,on,O,dep⟩:=by rw[ql,vf];exact if_pos heq
  rw[Rm]at ar;refine j.exit rfl (j.J (j.J (j.rg [3,5,6,7,8] fun K I=> ?_)));simp only[go_sem];apply I;refine j.aG ?_;refine j.q9 (ys:=[D.agg [.own none 2 0, .v (.bool on), .v (.string dep), .v (.string ⟨#[]⟩)]]) (fun w S vs h=>by
   obtain⟨v,vs,rfl,aa,ah⟩:=bq.cons_inv (show bq w S (.v (.slice none 0 0)::[.v (.bool on), .v (.string dep), .v (.string ⟨#[]⟩)]) vs from h);exact .cons (ca.mU 2 w S v aa) ah) (by simp[D.cells]) ?_
  refine j.rebase [3,5,6,7,8,11] ?_;simp only[go_sem];refine j.while (fun(c:Nat) env' aS=>∃o:Option Nat,(c≤O.length∧aV o 2 ((O.take c).map gi) ((dk,aE.arr 4 [D.agg [.own o 2 c, .v (.bool on), .v (.string dep), .v (.string ⟨#[]⟩)]])::(b3,aE.arr 4 [D.agg [.v (.slice none 0 0), .v (.bool false), .v (.string ⟨#[]⟩), .v (.string ⟨#[]⟩)]])::σ))∧env'=[(3, .ptr b3 4 0 0),(5, .ai (V.map ab)),(6, .ptr dk 4 0 0),(7, .v (.int .i64 ((fL+1:Nat):Int))),(8, .ai (O.map ab)),(11, .v (.int .i64 (c:Int)))]∧aS=cellsOf o 2 ((O.take c).map gi)++(dk,aE.arr 4 [D.agg [.own o 2 c, .v (.bool on), .v (.string dep), .v (.string ⟨#[]⟩)]])::(b3,aE.arr 4 [D.agg [.v (.slice none 0 0), .v (.bool false), .v (.string ⟨#[]⟩), .v (.string ⟨#[]⟩)]])::σ) (fun(c:Nat)=>O.length-c) 0 ⟨none,⟨Nat.zero_le _,aV.nil _ _⟩,rfl,rfl⟩ ?_;rintro c env' aS ⟨o,⟨ag,aT⟩,rfl,rfl⟩ aB;have pN:=aB;refine j.J (j.J (j.rg [3,5,6,7,8,11] fun K I=> ?_));simp only[go_sem,ji];apply I;refine j.cond rfl (fun rG=> ?_) (fun rG=> ?_)
  ·have aC:c<O.length:=Int.ofNat_lt.1 (by simpa using rG);have jI:=b6 ab O c aC;rw[ab]at jI;have tm:(0:Int)≤(c:Int):=by omega
   have pB:(c:Int)<(O.length:Int):=by omega
   have mK:=aT.bL;have kg:=aT.cB;have ka:=aT.keep (bE dk (aE.arr 4 [D.agg [.own o 2 c, .v (.bool on), .v (.string dep), .v (.string ⟨#[]⟩)]]) ((b3,aE.arr 4 [D.agg [.v (.slice none 0 0), .v (.bool false), .v (.string ⟨#[]⟩), .v (.string ⟨#[]⟩)]])::σ));have dW:((O.take c).map gi).length=c:=by rw[List.length_map,List.length_take];omega
   have SV:List.take c ((O.take c).map gi)=(O.take c).map gi:=List.take_of_length_le (by omega);refine j.aN (j.J (j.aG ?_));refine j.draw [3,5,6,7,8,11] [138] [dk] [10] [(0,true),(1,true),(2,true),(3,true),(4,true),(5,true),(6,true),(7,true),(8,false),(9,true),(10,false)] (by kernel_rfl) (by decide) (by kernel_rfl) fun K I=> ?_;simp only[go_sem,ji,jI,tm,pB,ka,mK,kg,dW,SV];refine⟨⟨by decide,by decide⟩,⟨Nat.le_refl _,fun y aF=>by rw[aF];exact⟨rfl,rfl⟩,by omega,by omega⟩,fun ob aO ax=> ?_⟩;have bt:(O.take c).map gi++[D.agg [.v (.string O[c]), .v (.slice none 0 0)]]=(O.take (c+1)).map gi:=by
    rw[List.take_succ_eq_append_getElem aC,List.map_append];rfl
   rw[bt]at aO⊢;have b7:aV ob 2 ((O.take (c+1)).map gi) ((dk,aE.arr 4 [D.agg [.own o 2 c, .v (.bool on), .v (.string dep), .v (.string ⟨#[]⟩)]])::(b3,aE.arr 4 [D.agg [.v (.slice none 0 0), .v (.bool false), .v (.string ⟨#[]⟩), .v (.string ⟨#[]⟩)]])::σ):=⟨ax,aO⟩;refine⟨by rintro b rfl;rw[b7.keep (bE ..),ka], ?_⟩;have Rr:=b7.keep (bE dk (aE.arr 4 [D.agg [.own o 2 c, .v (.bool on), .v (.string dep), .v (.string ⟨#[]⟩)]]) ((b3,aE.arr 4 [D.agg [.v (.slice none 0 0), .v (.bool false), .v (.string ⟨#[]⟩), .v (.string ⟨#[]⟩)]])::σ));have kH:((O.take (c+1)).map gi).length=c+1:=by rw[List.length_map,List.length_take];omega
   simp only[go_sem,Rr,kH];have fK:sset dk (aE.arr 4 [D.agg [.own ob 2 (c+1), .v (.bool on), .v (.string dep), .v (.string ⟨#[]⟩)]]) (cellsOf ob 2 ((O.take (c+1)).map gi)++(dk,aE.arr 4 [D.agg [.own o 2 c, .v (.bool on), .v (.string dep), .v (.string ⟨#[]⟩)]])::(b3,aE.arr 4 [D.agg [.v (.slice none 0 0), .v (.bool false), .v (.string ⟨#[]⟩), .v (.string ⟨#[]⟩)]])::σ)=cellsOf ob 2 ((O.take (c+1)).map gi)++(dk,aE.arr 4 [D.agg [.own ob 2 (c+1), .v (.bool on), .v (.string dep), .v (.string ⟨#[]⟩)]])::(b3,aE.arr 4 [D.agg [.v (.slice none 0 0), .v (.bool false), .v (.string ⟨#[]⟩), .v (.string ⟨#[]⟩)]])::σ:=by
    rw[b7.sset (by rw[bE];rfl),gz]
   rw[fK];have fC:aV ob 2 ((O.take (c+1)).map gi) ((dk,aE.arr 4 [D.agg [.own ob 2 (c+1), .v (.bool on), .v (.string dep), .v (.string ⟨#[]⟩)]])::(b3,aE.arr 4 [D.agg [.v (.slice none 0 0), .v (.bool false), .v (.string ⟨#[]⟩), .v (.string ⟨#[]⟩)]])::σ):=⟨fun d aw=>by
    have:=ax d aw;rw[aW]at this⊢;split at this
    ·cases this
    rename_i aZ;rw[if_neg aZ];exact this,aO⟩
   apply I;refine j.ba (j.rg [3,5,6,7,8,11] fun K I=> ?_);simp only[go_sem];apply I;refine j.rebase [3,5,6,7,8,11] ?_;simp only[go_sem];rw[bH c (by omega)];exact pN (c+1) _ _ ⟨ob,⟨by omega,fC⟩,rfl,rfl⟩ (by omega)
  have Q3:c=O.length:=by
   have h:¬c<O.length:=fun h=>by
    have ah:¬(c:Int)<(O.length:Int):=by simpa using rG
    omega
   omega
  subst Q3;rw[List.take_length]at aT⊢;have ka:=aT.keep (bE dk (aE.arr 4 [D.agg [.own o 2 O.length, .v (.bool on), .v (.string dep), .v (.string ⟨#[]⟩)]]) ((b3,aE.arr 4 [D.agg [.v (.slice none 0 0), .v (.bool false), .v (.string ⟨#[]⟩), .v (.string ⟨#[]⟩)]])::σ));have fI:=aT.keep (show av b3 ((dk,aE.arr 4 [D.agg [.own o 2 O.length, .v (.bool on), .v (.string dep), .v (.string ⟨#[]⟩)]])::(b3,aE.arr 4 [D.agg [.v (.slice none 0 0), .v (.bool false), .v (.string ⟨#[]⟩), .v (.string ⟨#[]⟩)]])::σ)=some (aE.arr 4 [D.agg [.v (.slice none 0 0), .v (.bool false), .v (.string ⟨#[]⟩), .v (.string ⟨#[]⟩)]]) by rw[aW,if_neg dx,bE]);have rZ:(0:Int)≤((fL+1:Nat):Int):=by omega
  have r0:((fL+1:Nat):Int)≤(V.length:Int):=by omega
  have gl:(0:Int)≤((fL+1:Nat):Int)∧((fL+1:Nat):Int)≤(V.length:Int):=⟨rZ,r0⟩;have tU:List.take (fL+1) (V.map ab)=(V.take (fL+1)).map ab:=(List.map_take ..).symm;have qP:v0::(V.take (fL+1)).drop 1=V.take (fL+1):=by
   rw[sf];cases V with
   |nil=>simp at C5
   |cons a r=>simp
  have tR:sset b3 (aE.arr 4 [D.agg [.own o 2 O.length, .v (.bool on), .v (.string dep), .v (.string ⟨#[]⟩)]]) (cellsOf o 2 (O.map gi)++(dk,aE.arr 4 [D.agg [.own o 2 O.length, .v (.bool on), .v (.string dep), .v (.string ⟨#[]⟩)]])::(b3,aE.arr 4 [D.agg [.v (.slice none 0 0), .v (.bool false), .v (.string ⟨#[]⟩), .v (.string ⟨#[]⟩)]])::σ)=cellsOf o 2 (O.map gi)++(dk,aE.arr 4 [D.agg [.own o 2 O.length, .v (.bool on), .v (.string dep), .v (.string ⟨#[]⟩)]])::(b3,aE.arr 4 [D.agg [.own o 2 O.length, .v (.bool on), .v (.string dep), .v (.string ⟨#[]⟩)]])::σ:=by
   rw[aT.sset (by rw[aW,if_neg dx,bE];rfl),sset,if_neg dx,gz]
  have qy:aV o 2 (O.map gi) ((dk,aE.arr 4 [D.agg [.own o 2 O.length, .v (.bool on), .v (.string dep), .v (.string ⟨#[]⟩)]])::(b3,aE.arr 4 [D.agg [.own o 2 O.length, .v (.bool on), .v (.string dep), .v (.string ⟨#[]⟩)]])::σ):=⟨fun d aw=>by
   have:=aT.fresh d aw;rw[aW]at this⊢;split at this
   ·cases this
   rename_i aZ
   rw[if_neg aZ];rw[aW]at this⊢;split at this
   ·cases this
   rename_i Ai;rw[if_neg Ai];exact this,aT.zero⟩
  have QT:av dk ((b3,aE.arr 4 [D.agg [.own o 2 O.length, .v (.bool on), .v (.string dep), .v (.string ⟨#[]⟩)]])::σ)=none:=by rw[aW,if_neg (Ne.symm dx)];rw[aW,if_neg (Ne.symm dx)]at vc;exact vc
  have lM:=qy.drop QT;have hS:=lM.1.drop dP;have tC:=hS.1;have r9:av b3 (cellsOf o 2 (O.map gi)++σ)=none:=by
   cases o with
   |none=>exact dP
   |some d=>
    have:=lM.1.fresh d rfl;have aZ:b3≠d:=fun e=>by rw[e,bE]at this;cases this
    show av b3 ((d,_)::σ)=none
    rw[aW,if_neg aZ];exact dP
  have pL:aQ ((b3,aE.arr 4 [D.agg [.own o 2 O.length, .v (.bool on), .v (.string dep), .v (.string ⟨#[]⟩)]])::(cellsOf o 2 (O.map gi)++σ)) (cellsOf o 2 (O.map gi)++(dk,aE.arr 4 [D.agg [.own o 2 O.length, .v (.bool on), .v (.string dep), .v (.string ⟨#[]⟩)]])::(b3,aE.arr 4 [D.agg [.own o 2 O.length, .v (.bool on), .v (.string dep), .v (.string ⟨#[]⟩)]])::σ):=
   aQ.cons (qy.keep (by rw[aW,if_neg dx,bE])) (fun b ob ae=>lM.2 b ob (hS.2 b ob ae))
  have qK:aQ (cellsOf o 2 (O.map gi)++σ) ((b3,aE.arr 4 [D.agg [.own o 2 O.length, .v (.bool on), .v (.string dep), .v (.string ⟨#[]⟩)]])::(cellsOf o 2 (O.map gi)++σ)):=fO (aQ.refl _) r9;refine j.exit rfl (j.J ?_);rcases Yp v0 with cA|⟨cA,fc⟩|⟨cA,fc,dA⟩|⟨cA,fc,dA,rl⟩|⟨cA,fc,dA,rl,uG⟩|⟨cA,fc,dA,rl,uG,yN⟩|⟨cA,fc,dA,rl,uG,yN⟩
  ·refine j.draw [3,5,6,7] [] [dk] [] [(0,true),(1,true),(2,true),(3,true),(4,true),(5,true),(6,true),(7,true),(8,true),(9,true),(10,true),(11,true),(12,true),(13,true),(14,true),(15,true),(16,true),(17,true),(18,true),(19,true),(20,true),(21,true),(22,true),(23,true),(24,true),(25,true),(26,true),(27,true),(28,true),(29,true),(30,true),(31,true),(32,true),(33,true),(34,true),(35,true),(36,true),(37,true),(38,true),(39,false),(40,true)] (by kernel_rfl) (by decide) (by kernel_rfl) fun K I=> ?_;simp only[go_sem,j_,pD,qn,rZ,r0,tU,ka,fI,cA];refine⟨fun y aF=>(c' _ y aF).1, ?_⟩;rw[tR];refine⟨by rintro b rfl;rw[qy.keep (bE ..),ka], ?_⟩;apply I;refine j.le (cn.refl _) pL ?_;refine j.ret ar Tryz.func86 (by simp[go_sem]) ?_;simp only[go_sem];exact⟨o,tC,by unfold p2;rw[wx cA (by decide),qP],qK⟩
  ·refine j.draw [3,5,6,7] [] [dk] [] [(0,true),(1,true),(2,true),(3,true),(4,true),(5,true),(6,true),(7,true),(8,true),(9,true),(10,true),(11,true),(12,true),(13,true),(14,true),(15,true),(16,true),(17,true),(18,true),(19,true),(20,true),(21,true),(22,true),(23,true),(24,true),(25,true),(26,true),(27,true),(28,true),(29,true),(30,true),(31,true),(32,true),(33,true),(34,true),(35,true),(36,true),(37,true),(38,true),(39,false),(40,true)] (by kernel_rfl) (by decide) (by kernel_rfl) fun K I=> ?_;simp only[go_sem,j_,pD,qn,rZ,r0,tU,ka,fI,cA,fc];refine⟨fun y aF=>(c' _ y aF).1, ?_⟩;rw[tR];refine⟨by rintro b rfl;rw[qy.keep (bE ..),ka], ?_⟩;apply I;refine j.le (cn.refl _) pL ?_;refine j.ret ar Tryz.func86 (by simp[go_sem]) ?_;simp only[go_sem];exact⟨o,tC,by unfold p2;rw[wx fc (by decide),qP],qK⟩
  ·refine j.draw [3,5,6,7] [] [dk] [] [(0,true),(1,true),(2,true),(3,true),(4,true),(5,true),(6,true),(7,true),(8,true),(9,true),(10,true),(11,true),(12,true),(13,true),(14,true),(15,true),(16,true),(17,true),(18,true),(19,true),(20,true),(21,true),(22,true),(23,true),(24,true),(25,true),(26,true),(27,true),(28,true),(29,true),(30,true),(31,true),(32,true),(33,true),(34,true),(35,true),(36,true),(37,true),(38,true),(39,false),(40,true)] (by kernel_rfl) (by decide) (by kernel_rfl) fun K I=> ?_;simp only[go_sem,j_,pD,qn,rZ,r0,tU,ka,fI,cA,fc,dA];refine⟨fun y aF=>(c' _ y aF).1, ?_⟩;rw[tR];refine⟨by rintro b rfl;rw[qy.keep (bE ..),ka], ?_⟩;apply I;refine j.le (cn.refl _) pL ?_;refine j.ret ar Tryz.func86 (by simp[go_sem]) ?_;simp only[go_sem];exact⟨o,tC,by unfold p2;rw[wx dA (by decide),qP],qK⟩
  ·refine j.draw [3,5,6,7] [] [dk] [] [(0,true),(1,true),(2,true),(3,true),(4,true),(5,true),(6,true),(7,true),(8,true),(9,true),(10,true),(11,true),(12,true),(13,true),(14,true),(15,true),(16,true),(17,true),(18,true),(19,true),(20,true),(21,true),(22,true),(23,true),(24,true),(25,true),(26,true),(27,true),(28,true),(29,true),(30,true),(31,true),(32,true),(33,true),(34,true),(35,true),(36,true),(37,true),(38,true),(39,false),(40,true)] (by kernel_rfl) (by decide) (by kernel_rfl) fun K I=> ?_;simp only[go_sem,j_,pD,qn,rZ,r0,tU,ka,fI,cA,fc,dA,rl];refine⟨fun y aF=>(c' _ y aF).1, ?_⟩;rw[tR];refine⟨by rintro b rfl;rw[qy.keep (bE ..),ka], ?_⟩;apply I;refine j.le (cn.refl _) pL ?_;refine j.ret ar Tryz.func86 (by simp[go_sem]) ?_;simp only[go_sem];exact⟨o,tC,by unfold p2;rw[wx rl (by decide),qP],qK⟩
  ·refine j.draw [3,5,6,7] [] [dk] [] [(0,true),(1,true),(2,true),(3,true),(4,true),(5,true),(6,true),(7,true),(8,true),(9,true),(10,true),(11,true),(12,true),(13,true),(14,true),(15,true),(16,true),(17,true),(18,true),(19,true),(20,true),(21,true),(22,true),(23,true),(24,true),(25,true),(26,true),(27,true),(28,true),(29,true),(30,true),(31,true),(32,true),(33,true),(34,true),(35,true),(36,true),(37,true),(38,true),(39,false),(40,true)] (by kernel_rfl) (by decide) (by kernel_rfl) fun K I=> ?_;simp only[go_sem,j_,pD,qn,rZ,r0,tU,ka,fI,cA,fc,dA,rl,uG];refine⟨fun y aF=>(c' _ y aF).1, ?_⟩;rw[tR];refine⟨by rintro b rfl;rw[qy.keep (bE ..),ka], ?_⟩;apply I;refine j.le (cn.refl _) pL ?_;refine j.ret ar Tryz.func86 (by simp[go_sem]) ?_;simp only[go_sem];exact⟨o,tC,by unfold p2;rw[wx uG (by decide),qP],qK⟩
  ·refine j.draw [3,5,6,7] [] [dk] [] [(0,true),(1,true),(2,true),(3,true),(4,true),(5,true),(6,true),(7,true),(8,true),(9,true),(10,true),(11,true),(12,true),(13,true),(14,true),(15,true),(16,true),(17,true),(18,true),(19,true),(20,true),(21,true),(22,true),(23,true),(24,true),(25,true),(26,true),(27,true),(28,true),(29,true),(30,true),(31,true),(32,true),(33,true),(34,true),(35,true),(36,true),(37,true),(38,true),(39,false),(40,true)] (by kernel_rfl) (by decide) (by kernel_rfl) fun K I=> ?_;simp only[go_sem,j_,pD,qn,rZ,r0,tU,ka,fI,cA,fc,dA,rl,uG,yN];refine⟨fun y aF=>(c' _ y aF).1, ?_⟩;rw[tR];refine⟨by rintro b rfl;rw[qy.keep (bE ..),ka], ?_⟩;apply I;refine j.le (cn.refl _) pL ?_;refine j.ret ar Tryz.func86 (by simp[go_sem]) ?_;simp only[go_sem];exact⟨o,tC,by unfold p2;rw[wx yN (by decide),qP],qK⟩
  refine j.draw [3,5,6,7] [] [dk] [] [(0,true),(1,true),(2,true),(3,true),(4,true),(5,true),(6,true),(7,true),(8,true),(9,true),(10,true),(11,true),(12,true),(13,true),(14,true),(15,true),(16,true),(17,true),(18,true),(19,true),(20,true),(21,true),(22,true),(23,true),(24,true),(25,true),(26,true),(27,true),(28,true),(29,true),(30,true),(31,true),(32,true),(33,true),(34,true),(35,true),(36,true),(37,true),(38,true),(39,false),(40,true)] (by kernel_rfl) (by decide) (by kernel_rfl) fun K I=> ?_;simp only[go_sem,j_,pD,qn,rZ,r0,tU,ka,fI,cA,fc,dA,rl,uG,yN];refine⟨fun y aF=>(c' _ y aF).1, ?_⟩;rw[tR];refine⟨by rintro b rfl;rw[qy.keep (bE ..),ka], ?_⟩;apply I;refine j.le (cn.refl _) pL ?_;refine j.ret ar Tryz.func86 (by simp[go_sem]) ?_;simp only[go_sem];exact⟨o,tC,by unfold p2;rw[Yq cA fc dA rl uG yN,qP],qK⟩
 have d4:decide ((i:Int)<(V.length:Int))=false:=decide_eq_false (by omega);have ns:l9 on V=none:=by unfold l9;rw[Jo,HK fun U h=>dr U h (by omega)]
 refine j.rg [3,5,6,7] fun K I=> ?_;simp only[go_sem,j_,d4];apply I;refine j.bJ rfl (j.exit rfl (j.J (j.J ?_)));rcases Nat.eq_zero_or_pos i with dc|dc
 ·have d5:((i:Int)==0)=true:=by rw[dc];rfl
  refine j.rg [3,5,6,7] fun K I=> ?_;simp only[go_sem,j_,d5];apply I;refine j.bZ rfl (j.J (j.rg [3] fun K I=> ?_));simp only[go_sem,dx,dx.symm];apply I;refine j.le (cn.refl _) (dE _ _) ?_;refine j.ret ar Tryz.func86 (by simp[go_sem]) ?_;simp only[go_sem];rw[ns];exact⟨rfl,fO (aQ.refl _) dP⟩
 have d5:((i:Int)==0)=false:=by rw[beq_eq_false_iff_ne];omega
 have d6:((i:Int)==(V.length:Int))=true:=by rw[he];simp
 refine j.rg [3,5,6,7] fun K I=> ?_;simp only[go_sem,j_,d5,d6];apply I;refine j.bZ rfl (j.J (j.rg [3] fun K I=> ?_));simp only[go_sem,dx,dx.symm];apply I;refine j.le (cn.refl _) (dE _ _) ?_;refine j.ret ar Tryz.func86 (by simp[go_sem]) ?_;simp only[go_sem];rw[ns];exact⟨rfl,fO (aQ.refl _) dP⟩
end Go.Ab.S16
