/- A part of a proof about the given program: the abstract machine, what functions compute, laid in few texts. -/
import Derived.Test.YticjnnmnjfpopaaGreatDoorKEg
set_option linter.unusedSimpArgs false
set_option linter.unusedVariables false
set_option linter.constructorNameAsVariable false
namespace Go.Ab.S16
open Go Go.Proofs Go.RowKit
theorem l4 {o:Option Nat} {sz:Nat} {xs:List D} {τ:al} {b:Nat} (h:aQ (cellsOf o sz xs) τ) (ae:av b τ=none):o≠some b:=fun e=>by
 subst e;have:=h b (.arr sz xs) (bE ..);rw[ae]at this;cases this
theorem yj {o:Option Nat} {sz:Nat} {b:Nat} {x:aE} {σ:al} (au:o≠some b):bL sz o ((b,x)::σ)=bL sz o σ:=by
 cases o with
 |none=>rfl
 |some c=>
  have:c≠b:=fun e=>au (by rw[e]);simp only[bL,aW,if_neg this]
theorem gP {τ σ:al} {b:Nat} {x:aE} (h:aQ τ σ) (ae:av b σ=none):aQ τ ((b,x)::σ):=fun c o ag=>by
 have:=h c o ag;rw[aW,if_neg (fun e=>by rw[e,ae]at this;cases this)]
 exact this
theorem GV (b:List UInt8):bytesOf ((b.map bD).take b.length)=aK b:=by
 rw[List.take_of_length_le (by simp)];unfold bytesOf aK;congr 2
 rw[List.map_map];have:∀c:UInt8,(byteOf∘bD) c=c:=fun c=>by simp[byteOf,bD]
 rw[List.map_congr_left (fun c _=>this c)];simp
theorem Gz (b:List UInt8):(b.map bD).all isByte=true:=by
 rw[List.all_eq_true];intro x an;obtain⟨c,_,rfl⟩:=List.mem_map.1 an;simp only[bD,isByte,decide_eq_true_eq];have:=UInt8.toNat_lt c;omega
theorem Bo (b:Nat) (x y:aE):∀σ:al,sset b x (sset b y σ)=sset b x σ
 |[]=>rfl
 |(c,o)::σ=>by
  by_cases h:b=c
  ·subst h;rw[gz,gz,gz]
  rw[fx h,fx h,fx h,Bo b x y σ]
theorem n0 {c:Nat} {A B Gh:al} (h:av c (A++B)=none) (aw:av c B=none→av c Gh=none):av c (A++Gh)=none:=by
 rw[kp]at h⊢;split at h
 ·cases h
 exact aw h
theorem Be {a6 fo:Option Nat} {st:cZ} {A B:al} {c:Nat} (h:av c (cd a6 fo st A)=none) (aw:av c A=none→av c B=none):av c (cd a6 fo st B)=none:=n0 h fun ah=>n0 ah aw
theorem E5 {o:Option Nat} {sz:Nat} {A B:al} (h:∀c,o=some c→av c A=none):bL sz o (A++B)=bL sz o B:=by
 cases o with
 |none=>rfl
 |some c=>simp only[bL,p1 (h c rfl)]
theorem Mu {c:Nat}:∀{A B:al},av c A=none→cB c (A++B)=A++cB c B
 |[],_,_=>rfl
 |(k,o)::A,B,h=>by
  rw[aW]at h;split at h
  ·cases h
  rename_i e
  rw[List.cons_append,Mv e,Mu h];rfl
theorem Mx {o:Option Nat} {A B:al} (h:∀c,o=some c→av c A=none):h0 o (A++B)=A++h0 o B:=by
 cases o with
 |none=>rfl
 |some c=>exact Mu (h c rfl)
theorem Oa {o dI:Option Nat} {sz mY:Nat} {xs ys:List D} {ρ:al} (h:aV dI mY ys (cellsOf o sz xs++ρ)):∀c,o=some c→av c (cellsOf dI mY ys)=none:=fun c ag=>by
 subst ag;cases dI with
 |none=>rfl
 |some k=>
  have aj:=h.fresh k rfl;change av k ((c,_)::ρ)=none at aj;have:c≠k:=fun e=>by rw[e,bE]at aj;cases aj
  show av c [(k,_)]=none
  rw[aW,if_neg this];rfl
theorem WL {a6 fo:Option Nat} {st:cZ} {A B:al} (aq:ek a6 fo st B) (h:aQ A B):aQ (cd a6 fo st A) (cd a6 fo st B):=
 aQ.append (aQ.append_left _ _) ((aQ.append (aQ.append_left _ _) (h.trans aq.f.sle)).trans aq.o.sle)
theorem WK {a6 fo:Option Nat} {st:cZ} {A B:al} {c:Nat} (aq:ek a6 fo st B) (ae:(av c B).isSome=true) (bb:av c A=none):av c (cd a6 fo st A)=none:=by
 obtain⟨x,an⟩:=Option.isSome_iff_exists.1 ae;have aa:∀{o:Option Nat} {xs:List D},(∀k,o=some k→c≠k)→av c (cellsOf o 1 xs)=none:=fun{o xs} h=>by
  cases o with
  |none=>rfl
  |some k=>
   show av c [(k,_)]=none
   rw[aW,if_neg (h k rfl)];rfl
 have ah:=aa (o:=a6) (xs:=st.out.map bD) fun k aj e=>by
  have:=aq.o.fresh k aj;rw[←e,aq.f.keep an]at this;cases this
 have aJ:=aa (o:=fo) (xs:=st.found.map ab) fun k aj e=>by
  have:=aq.f.fresh k aj;rw[←e,an]at this;cases this
 unfold cd;rw[p1 ah,p1 aJ,bb]
section
variable (args decl : List ByteArray) (files : List ay) (az : Nat)
def fR (R0:al) (st:cZ) (fo:Option Nat):al:=sset az (dU args decl files (.own fo 1 st.found.length) (st.many:Int)) R0
def yP (oU:Nat):Prop:=∀(a6 fo ob:Option Nat) (b:List UInt8) (st:cZ) (R0:al),st.Ok→(av az R0).isSome=true→ek a6 fo st R0→aV ob 1 (b.map bD) (cd a6 fo st (fR args decl files az R0 st fo))→b.length<2^40→
 AC Tryz.prog 137 [.ptr az 5 0 0, .own a6 1 st.out.length, .own ob 1 b.length, .v (.int .i64 (11-(oU:Int)))] (cellsOf ob 1 (b.map bD)++cd a6 fo st (fR args decl files az R0 st fo)) (fun e σ'=>match f' files oU b st with
  |some cS=>∃fs et,ek fs et cS R0∧e= .ret (.own fs 1 cS.out.length)∧σ'=cd fs et cS (fR args decl files az R0 cS et)
  |none=>e= .panic mn∧mf az R0 σ')
theorem ek.Yb {a6 fo:Option Nat} {st:cZ} {R:al} {l r b4 bo bF:Nat} {x:aE} {v5 v7:D} (h:ek a6 fo st R) (aH:∀c∈[l,r,b4,bo,bF],a6≠some c∧fo≠some c):ek a6 fo st (bV az l r b4 bo bF x v5 v7 R):=by
 have aZ:∀{o:Option Nat} {c:Nat},o=some c→(∀k∈[l,r,b4,bo,bF],o≠some k)→c≠l∧c≠r∧c≠b4∧c≠bo∧c≠bF:=fun{o c} ag aj=>⟨fun e=>aj l (by simp) (by rw[ag,e]),fun e=>aj r (by simp) (by rw[ag,e]),fun e=>aj b4 (by simp) (by rw[ag,e]),fun e=>aj bo (by simp) (by rw[ag,e]),fun e=>aj bF (by simp) (by rw[ag,e])⟩;have aP:∀{c:Nat},(c≠l∧c≠r∧c≠b4∧c≠bo∧c≠bF)→av c (bV az l r b4 bo bF x v5 v7 R)=av c R:=fun{c} ⟨aa,ah,aJ,bg,cu⟩=>by
  unfold bV;rw[aW,if_neg aa,aW,if_neg ah,aW,if_neg cu,aW,if_neg bg,aW,if_neg aJ]
 refine⟨⟨fun c ag=> ?_,h.o.zero⟩,⟨fun c ag=> ?_,h.f.zero⟩⟩
 ·have aa:=h.o.fresh c ag;rw[kp]at aa⊢;split at aa
  ·cases aa
  rw[aP (aZ ag fun k aj=>(aH k aj).1)];exact aa
 rw[aP (aZ ag fun k aj=>(aH k aj).2)];exact h.f.fresh c ag
theorem vF {a6 fo:Option Nat} {st:cZ} {R0:al} {x:aE} (h:ek a6 fo st R0):mf az R0 (cd a6 fo st (sset az x R0)):=fun b o ae ao=>by
 refine(h.base (ρ':=sset az x R0) fun b ae=>hp ae).keep ?_;rw[jU,if_neg ae];exact ao
theorem VK:yP args decl files az 0:=by
 intro a6 fo ob b st R0 aL fB aq eS dD;refine AC.bI Tryz.func137 Tryz.ntmps137 fun C ar=> ?_;refine j.J (j.rg [0,1,2,3] fun K I=> ?_);simp only[go_sem];intro b4 lJ bo ou bF ng;apply I;refine j.J (j.rg [2,4,5,7,8] fun K I=> ?_);simp only[go_sem];refine⟨_,Tryz.call81,(eE false _).mono ?_⟩;rintro e σ1 ⟨rfl,rfl⟩;simp only[go_sem];exact cK.of ar Tryz.func137 ⟨rfl,(vF az aq).F3 (gP (gP (gP eS.sle lJ) ou) ng)⟩
theorem VJ (dE:files.length<2^31) (gG:∀f∈files,f.b.length<2^40) (d:Nat) (aw:d≤10) (r':yP args decl files az d):yP args decl files az (d+1):=by
 intro a6 fo ob b st R0 aL fB aq eS dD;refine AC.bI Tryz.func137 Tryz.ntmps137 fun C ar=> ?_;have oy:decide ((11-((d+1:Nat):Int))≤10)=true:=decide_eq_true (by omega);refine j.J (j.rg [0,1,2,3] fun K I=> ?_);simp only[go_sem];intro b4 lJ bo ou bF ng;apply I;refine j.J (j.rg [2,4,5,7,8] fun K I=> ?_);simp only[go_sem,oy];refine⟨_,Tryz.call81,(eE true _).mono ?_⟩;rintro e σ1 ⟨rfl,rfl⟩;simp only[go_sem];apply I;refine j.J (j.J ?_);have Ec:aQ (cellsOf ob 1 (b.map bD)) (cellsOf ob 1 (b.map bD)++cd a6 fo st (fR args decl files az R0 st fo)):=aQ.append_left _ _;have Si:ob≠some b4:=l4 Ec lJ;have Sj:ob≠some bo:=l4 (gP Ec lJ) ou;have Sk:ob≠some bF:=l4 (gP (gP Ec lJ) ou) ng;have lb:=(yj (sz:=1) (x:= .arr 1 [.v (.int .i64 (11-((d+1:Nat):Int)))]) Sk).trans ((yj (x:= .arr 1 [.own a6 1 st.out.length]) Sj).trans ((yj (x:= .arr 1 [.ptr az 5 0 0]) Si).trans eS.bL));have rR:=GV b;have zS:=Gz b;have pA:b.length≤(b.map bD).length:=by simp
 refine j.rg [2,4,5,7,8] fun K I=> ?_;simp only[go_sem,lb,rR,zS];refine⟨pA, ?_⟩;refine⟨_,Tryz.call163,(XU b 10 _).mono ?_⟩;rintro e σ1 ⟨aY,ct,aG,aX,hA,rfl,rfl⟩;simp only[go_sem];apply I;refine j.aG ?_;refine j.rebase [4,5,7,8,19] ?_;simp only[go_sem];refine j.L0 ar.MY rfl Tryz.call208 fun bs bu Gj ep mz kh iI tf=> ?_;have r5:bs≠bu:=by
  intro e;rw[e,bE]at iI;cases iI
 rw[aW,if_neg r5]at iI;have oq:∀{c:Nat} {A B:al},av c (A++B)=none→av c A=none∧av c B=none:=fun{c A B} h=>by
  rw[kp]at h;split at h
  ·cases h
  exact⟨by assumption,h⟩
 have aZ:∀{b c:Nat} {x:aE} {τ:al},av b ((c,x)::τ)=none→b≠c∧av b τ=none:=fun{b c x τ} h=>by
  rw[aW]at h;split at h
  ·cases h
  rename_i e;exact⟨e,h⟩
 have fJ:=oq kh;have ik:=oq iI;have rW:ek a6 fo st (fR args decl files az R0 st fo):=aq.base fun b ae=>hp ae;have J1:aQ (fR args decl files az R0 st fo) (cd a6 fo st (fR args decl files az R0 st fo)):=fun c o ag=>rW.keep ag;have pK:∀{c:Nat},av c (cellsOf ob 1 (b.map bD)++cd a6 fo st (fR args decl files az R0 st fo))=none→av c R0=none∧a6≠some c∧fo≠some c:=fun{c} h=>by
  have ah:=(oq h).2;refine⟨re (yg J1 ah),l4 (aQ.append_left _ _) ah,l4 (aQ.append_left _ _) (oq ah).2⟩
 have ia:ly bs bu b4 bo bF R0:=⟨r5,(aZ (aZ (aZ ik.2).2).2).1,(aZ (aZ ik.2).2).1,(aZ ik.2).1,(aZ (aZ (aZ fJ.2).2).2).1,(aZ (aZ fJ.2).2).1,(aZ fJ.2).1,Ne.symm (aZ ou).1,Ne.symm (aZ (aZ ng).2).1,Ne.symm (aZ ng).1,(pK (aZ (aZ (aZ ik.2).2).2).2).1,(pK (aZ (aZ (aZ fJ.2).2).2).2).1,(pK lJ).1,(pK (aZ ou).2).1,(pK (aZ (aZ ng).2).2).1⟩;have Jg:ek a6 fo st (bV az bs bu b4 bo bF .ec .any .any R0):=aq.Yb az fun c ag=>by
  simp only[List.mem_cons,List.not_mem_nil,or_false]at ag;rcases ag with rfl|rfl|rfl|rfl|rfl
  ·exact(pK (aZ (aZ (aZ ik.2).2).2).2).2
  ·exact(pK (aZ (aZ (aZ fJ.2).2).2).2).2
  ·exact(pK lJ).2
  ·exact(pK (aZ ou).2).2
  exact(pK (aZ (aZ ng).2).2).2
 obtain⟨pd,th⟩:∃pd:Option Nat→Option Nat→cZ→aE→al,∀a6 fo st x,pd a6 fo st x=cd a6 fo st (bV az bs bu b4 bo bF x (.own a6 1 st.out.length) (.v (.int .i64 (11-((d+1:Nat):Int)))) (fR args decl files az R0 st fo)):=⟨_,fun _ _ _ _=>rfl⟩;have vA:∀(line:List UInt8) (st:cZ) (a6 fo:Option Nat),st.Ok→ek a6 fo st (bV az bs bu b4 bo bF .ec .any .any R0)→line.length<2^40→h4 Tryz.prog bs [.v (.string (aK line))] (pd a6 fo st (ep .ready none)) (fun e fP=>match fv files (f' files d) line st with
   |some cS=>e= .ret (.v (.bool true))∧∃fs et,ek fs et cS (bV az bs bu b4 bo bF .ec .any .any R0)∧fP=pd fs et cS (ep .ready none)
   |none=>e= .panic mn∧mf az R0 fP∧av bu fP=some .ec):=by
  intro line st a6 fo aL aT bn;rw[th];have eS:∀{x y:aE} {v5 v7:D},ek a6 fo st (bV az bs bu b4 bo bF x v5 v7 (sset az y R0)):=fun{x y v5 v7}=>aT.base fun b ae=>hW (fun h=>hp h) ae;have fi:∀{y:aE},ly bs bu b4 bo bF (sset az y R0):=fun{y}=>ia.base fun b ae=>hp ae;have rO:∀{y:aE},av az (sset az y R0)=some y:=fun{y}=>by
   rw[jU,if_pos rfl];obtain⟨z,aO⟩:=Option.isSome_iff_exists.1 fB;rw[aO];rfl
  unfold fR;refine h4.La mz Tryz.func137 (eS.keep nF) (by decide) rfl fun BH j9=> ?_;simp only[go_sem,q4];have x2:∀{y:aE} {v5 v7:D} (x Gg:aE),sset bs Gg (cd a6 fo st (bV az bs bu b4 bo bF x v5 v7 (sset az y R0)))=cd a6 fo st (bV az bs bu b4 bo bF Gg v5 v7 (sset az y R0)):=fun{y v5 v7} x Gg=>by
   rw[eS.sset _ (by rw[nF];rfl),yq]
  have g5:∀{x y:aE} {v5 v7:D},av bo (cd a6 fo st (bV az bs bu b4 bo bF x v5 v7 (sset az y R0)))=some (.arr 1 [v5]):=eS.keep (oY fi);have g4:∀{x y:aE} {v5 v7:D},av b4 (cd a6 fo st (bV az bs bu b4 bo bF x v5 v7 (sset az y R0)))=some (.arr 1 [.ptr az 5 0 0]):=eS.keep (AN fi);have oa:∀{x y:aE} {v5 v7:D},av az (cd a6 fo st (bV az bs bu b4 bo bF x v5 v7 (sset az y R0)))=some y:=eS.keep (mV fi rO);have Bg:∀{x y z:aE} {v5 v7:D},sset az z (cd a6 fo st (bV az bs bu b4 bo bF x v5 v7 (sset az y R0)))=cd a6 fo st (bV az bs bu b4 bo bF x v5 v7 (sset az z R0)):=fun{x y z v5 v7}=>by
   rw[eS.sset _ (by rw[mV fi rO];rfl),AO fi (by rw[rO];rfl),Bo]
  have g7:∀{x y:aE} {v5 v7:D},av bF (cd a6 fo st (bV az bs bu b4 bo bF x v5 v7 (sset az y R0)))=some (.arr 1 [v7]):=eS.keep (Fb fi);have aH:∀{x y:aE} {v5 v7:D},bL 1 a6 (cd a6 fo st (bV az bs bu b4 bo bF x v5 v7 (sset az y R0)))=some (st.out.map bD):=fun{x y v5 v7}=>(eS (x:=x) (y:=y) (v5:=v5) (v7:=v7)).o.bL;have ei:∀{x y:aE} {v5 v7:D},h0 a6 (cd a6 fo st (bV az bs bu b4 bo bF x v5 v7 (sset az y R0)))=cellsOf fo 1 (st.found.map ab)++bV az bs bu b4 bo bF x v5 v7 (sset az y R0):=fun{x y v5 v7}=>(eS (x:=x) (y:=y) (v5:=v5) (v7:=v7)).o.cB;have cv:List.take st.out.length (st.out.map bD)=st.out.map bD:=List.take_of_length_le (by simp);have DJ:∀{x y:aE} {v5 v7:D},mf az R0 (cd a6 fo st (bV az bs bu b4 bo bF x v5 v7 (sset az y R0))):=fun{x y v5 v7} b o ae ao=>eS.keep (mV fi (by rw[jU,if_neg ae];exact ao));have xO:∀{x y:aE} {v5 v7:D},av bu (cd a6 fo st (bV az bs bu b4 bo bF x v5 v7 (sset az y R0)))=some .ec:=eS.keep (vV fi);have bc:(i_ (aK line) ⟨#[10]⟩).size<2^40:=by
   have:(aK line).size=line.length:=gu line;unfold i_;split
   ·rw[ByteArray.size_extract];omega
   omega
  have vx:Lib.hasPrefix (i_ (aK line) ⟨#[10]⟩).data.toList (⟨#[35,105,110,99,108,117,100,101,32]⟩:ByteArray).data.toList=Lib.hasPrefix (mR line) ld:=rfl;refine j.rg [4,5,7,8,20] fun K I=> ?_;simp only[go_sem];apply I;refine j.GJ j9 mz (eS.keep nF) ?_;simp only[go_sem,x2];refine j.aG (j.J ?_);cases d':Lib.hasPrefix (mR line) ld
  ·refine j.rg [4,5,7,8,9] fun K I=> ?_;simp only[go_sem];refine a1 Tryz.call51 (F4 (aK line) ⟨#[10]⟩ _ (by rw[gu];omega) (by decide)) ?_;simp only[go_sem];refine a1 Tryz.call164 (Hh (i_ (aK line) ⟨#[10]⟩) ⟨#[35,105,110,99,108,117,100,101,32]⟩ _) ?_;simp only[go_sem,vx,d'];apply I;refine j.J (j.J (j.rg [4,5,7,8,9,10,11] fun K I=> ?_));simp only[go_sem];apply I;refine j.bZ rfl (j.J ?_);have qB:oR line=none:=by unfold oR;rw[d'];rfl
   have Q':(aK line).data.toList=line:=rfl;refine j.rg [5,8,9] fun K I=> ?_;simp only[go_sem,g5,aH,ei,cv,Q'];refine⟨⟨by simp,fun y aF=>nG line y aF,by simp only[List.length_map];have:=aL.out;omega,by simp only[List.length_map];have:=aL.out;omega⟩,fun gw aO ax=> ?_⟩;simp only[←List.map_append]at aO⊢;have b7:ek gw fo ⟨st.out++line,st.found,st.many⟩ (bV az bs bu b4 bo bF .ec .any .any R0):=⟨⟨fun c ag=>n0 (ax c ag) fun h=>hW (fun h=>re h) h,aO⟩,aT.f⟩;have mI:∀{x y:aE} {v5 v7:D},ek gw fo ⟨st.out++line,st.found,st.many⟩ (bV az bs bu b4 bo bF x v5 v7 (sset az y R0)):=fun{x y v5 v7}=>b7.base fun b ae=>hW (fun h=>hp h) ae;have PQ:∀{x y:aE} {v5 v7:D},av bo (cellsOf gw 1 ((st.out++line).map bD)++(cellsOf fo 1 (st.found.map ab)++bV az bs bu b4 bo bF x v5 v7 (sset az y R0)))=some (.arr 1 [v5]):=mI.keep (oY fi);have WS:∀{x y:aE} {v5 v7 w:D},sset bo (.arr 1 [w]) (cellsOf gw 1 ((st.out++line).map bD)++(cellsOf fo 1 (st.found.map ab)++bV az bs bu b4 bo bF x v5 v7 (sset az y R0)))=cd gw fo ⟨st.out++line,st.found,st.many⟩ (bV az bs bu b4 bo bF x w v7 (sset az y R0)):=fun{x y v5 v7 w}=>by
    have:=mI.sset (R:=bV az bs bu b4 bo bF x v5 v7 (sset az y R0)) (b:=bo) (.arr 1 [w]) (by rw[oY fi];rfl)
    rw[Fc fi]at this;exact this
   have lR:((st.out++line).map bD).length=(st.out++line).length:=List.length_map ..;simp only[go_sem,PQ,WS,lR];apply I;have H6:∀{x y:aE} {v5 v7:D},av bo (cd gw fo ⟨st.out++line,st.found,st.many⟩ (bV az bs bu b4 bo bF x v5 v7 (sset az y R0)))=some (.arr 1 [v5]):=mI.keep (oY fi);refine j.J ?_;by_cases hle:(st.out++line).length≤65536
   ·have iC:decide (((st.out++line).length:Int)≤65536)=true:=decide_eq_true (by omega);refine j.rg [5,8] fun K I=> ?_;simp only[go_sem,H6,iC];refine⟨_,Tryz.call81,(eE true _).mono ?_⟩;rintro e σ1 ⟨rfl,rfl⟩;simp only[go_sem];apply I;refine j.exit rfl ?_;refine j.uy j9 mz (mI.keep nF) ?_;have dv:fv files (f' files d) line st=some ⟨st.out++line,st.found,st.many⟩:=by unfold fv;rw[qB];exact if_pos hle
    rw[dv];refine⟨rfl,gw,fo,b7, ?_⟩;rw[mI.sset _ (by rw[nF];rfl),yq,th]
    rfl
   have iC:decide (((st.out++line).length:Int)≤65536)=false:=decide_eq_false (by omega);refine j.rg [5,8] fun K I=> ?_;simp only[go_sem,H6,iC];refine⟨_,Tryz.call81,(eE false _).mono ?_⟩;rintro e σ1 ⟨rfl,rfl⟩;simp only[go_sem];have dv:fv files (f' files d) line st=none:=by unfold fv;rw[qB];exact if_neg hle
   refine cK.vP j9 ?_;rw[dv];exact⟨rfl,fun b o ae ao=>mI.keep (mV fi (by rw[jU,if_neg ae];exact ao)),mI.keep (vV fi)⟩
  have JE:(⟨(Lib.trimPrefix (i_ (aK line) ⟨#[10]⟩).data.toList [35,105,110,99,108,117,100,101,32]).toArray⟩:ByteArray)=aK ((mR line).drop 9):=by
   have:Lib.trimPrefix (mR line) ld=(mR line).drop 9:=by unfold Lib.trimPrefix;rw[if_pos d'];rfl
   exact congrArg aK this
  have qB:oR line=some ((mR line).drop 9):=by unfold oR;rw[d'];rfl
  obtain⟨n,au⟩:∃n,(mR line).drop 9=n:=⟨_,rfl⟩;rw[au]at JE qB;have hh:(aK n).size<2^40:=by
   rw[gu,←au,List.length_drop];have:(mR line).length=(i_ (aK line) ⟨#[10]⟩).size:=by unfold mR a';simp
   omega
  have qQ:IntKind.i64.wrap ((st.many:Int)+1)=((st.many+1:Nat):Int):=bH _ (by have:=aL.many;omega);have tk:a' (aK n)=n:=rfl;have key:findF files (aK n)=none∨(∃own,findF files (aK n)=some own∧dt n=false)∨(∃own,findF files (aK n)=some own∧dt n=true∧¬st.many+1≤1000)∨(∃own,findF files (aK n)=some own∧dt n=true∧st.many+1≤1000):=by
   cases ax:findF files (aK n)with
   |none=>exact .inl rfl
   |some own=>
    cases ao:dt n with
    |false=>exact .inr (.inl ⟨own,rfl,rfl⟩)
    |true=>
     by_cases hm:st.many+1≤1000
     ·exact .inr (.inr (.inr ⟨own,rfl,rfl,hm⟩))
     exact .inr (.inr (.inl ⟨own,rfl,rfl,hm⟩))
  have gX:=fun σ=>HI files (aK n) σ dE gG;refine j.rg [4,5,7,8,9] fun K I=> ?_;simp only[go_sem];refine a1 Tryz.call51 (F4 (aK line) ⟨#[10]⟩ _ (by rw[gu];omega) (by decide)) ?_;simp only[go_sem];refine a1 Tryz.call164 (Hh (i_ (aK line) ⟨#[10]⟩) ⟨#[35,105,110,99,108,117,100,101,32]⟩ _) ?_;simp only[go_sem,vx,d',JE];apply I;refine j.J (j.J (j.rg [4,5,7,8,9,10,11] fun K I=> ?_));simp only[go_sem];apply I;refine j.bJ rfl (j.aN (j.J ?_));rcases key with ax|⟨own,ax,ao⟩|⟨own,ax,ao,hm⟩|⟨own,ax,ao,hm⟩
  ·rw[ax]at gX;refine j.rg [4,5,7,8,10] fun K I=> ?_;simp only[go_sem,g4,oa,dU];refine a1 Tryz.call27 (gX _) ?_;simp only[go_sem];apply I;refine j.J (j.rg [4,5,7,8,10,12,13] fun K I=> ?_);simp only[go_sem,g4,oa,dU,qQ,Bg];apply I;refine j.J (j.rg [4,5,7,8,10,12,13] fun K I=> ?_);simp only[go_sem];refine⟨_,Tryz.call81,(eE false _).mono ?_⟩;rintro e σ1 ⟨rfl,rfl⟩;simp only[go_sem];have dv:fv files (f' files d) line st=none:=by unfold fv;rw[qB];simp only[ax]
   refine cK.vP j9 ?_;rw[dv];exact⟨rfl,DJ,xO⟩
  ·rw[ax]at gX;refine j.rg [4,5,7,8,10] fun K I=> ?_;simp only[go_sem,g4,oa,dU];refine⟨_,Tryz.call27,(gX _).mono ?_⟩;rintro e σ1 ⟨ed,fI,rfl,rfl⟩;simp only[go_sem];apply I;have eX:∀{x y:aE} {v5 v7:D},aV ed 1 (own.map bD) (cd a6 fo st (bV az bs bu b4 bo bF x v5 v7 (sset az y R0))):=fun{x y v5 v7}=>k3 fI fun b ae=>Be ae fun h=>hW (fun h=>hp (re h)) h;have pt:∀{x y:aE} {v5 v7:D},av b4 (cellsOf ed 1 (own.map bD)++cd a6 fo st (bV az bs bu b4 bo bF x v5 v7 (sset az y R0)))=some (.arr 1 [.ptr az 5 0 0]):=eX.keep g4;have lF:∀{x y:aE} {v5 v7:D},av az (cellsOf ed 1 (own.map bD)++cd a6 fo st (bV az bs bu b4 bo bF x v5 v7 (sset az y R0)))=some y:=eX.keep oa;have yD:∀{x y z:aE} {v5 v7:D},sset az z (cellsOf ed 1 (own.map bD)++cd a6 fo st (bV az bs bu b4 bo bF x v5 v7 (sset az y R0)))=cellsOf ed 1 (own.map bD)++cd a6 fo st (bV az bs bu b4 bo bF x v5 v7 (sset az z R0)):=fun{x y z v5 v7}=>by
    rw[eX.sset (by rw[oa];rfl),Bg]
   refine j.J (j.rg [4,5,7,8,10,12,13] fun K I=> ?_);simp only[go_sem,pt,lF,dU,qQ,yD];apply I;refine j.J (j.rg [4,5,7,8,10,12,13] fun K I=> ?_);simp only[go_sem,ao];refine a1 Tryz.call113 (nP (aK n) hh _) ?_;simp only[go_sem,tk,ao];refine⟨_,Tryz.call81,(eE false _).mono ?_⟩;rintro e σ1 ⟨rfl,rfl⟩;simp only[go_sem];have dv:fv files (f' files d) line st=none:=by unfold fv;rw[qB];simp only[ax];exact if_neg (fun h=>by rw[ao]at h;cases h.1)
   refine cK.vP j9 ?_;rw[dv];exact⟨rfl,DJ.F3 eX.sle,eX.keep xO⟩
  ·rw[ax]at gX;refine j.rg [4,5,7,8,10] fun K I=> ?_;simp only[go_sem,g4,oa,dU];refine⟨_,Tryz.call27,(gX _).mono ?_⟩;rintro e σ1 ⟨ed,fI,rfl,rfl⟩;simp only[go_sem];apply I;have eX:∀{x y:aE} {v5 v7:D},aV ed 1 (own.map bD) (cd a6 fo st (bV az bs bu b4 bo bF x v5 v7 (sset az y R0))):=fun{x y v5 v7}=>k3 fI fun b ae=>Be ae fun h=>hW (fun h=>hp (re h)) h;have pt:∀{x y:aE} {v5 v7:D},av b4 (cellsOf ed 1 (own.map bD)++cd a6 fo st (bV az bs bu b4 bo bF x v5 v7 (sset az y R0)))=some (.arr 1 [.ptr az 5 0 0]):=eX.keep g4;have lF:∀{x y:aE} {v5 v7:D},av az (cellsOf ed 1 (own.map bD)++cd a6 fo st (bV az bs bu b4 bo bF x v5 v7 (sset az y R0)))=some y:=eX.keep oa;have yD:∀{x y z:aE} {v5 v7:D},sset az z (cellsOf ed 1 (own.map bD)++cd a6 fo st (bV az bs bu b4 bo bF x v5 v7 (sset az y R0)))=cellsOf ed 1 (own.map bD)++cd a6 fo st (bV az bs bu b4 bo bF x v5 v7 (sset az z R0)):=fun{x y z v5 v7}=>by
    rw[eX.sset (by rw[oa];rfl),Bg]
   refine j.J (j.rg [4,5,7,8,10,12,13] fun K I=> ?_);simp only[go_sem,pt,lF,dU,qQ,yD];apply I;refine j.J ?_;have tq:decide (((st.many+1:Nat):Int)≤1000)=false:=decide_eq_false (by omega);refine j.rg [4,5,7,8,10,12,13] fun K I=> ?_;simp only[go_sem,ao];refine a1 Tryz.call113 (nP (aK n) hh _) ?_;simp only[go_sem,tk,ao,pt,lF,tq];refine⟨_,Tryz.call81,(eE false _).mono ?_⟩;rintro e σ1 ⟨rfl,rfl⟩;simp only[go_sem];have dv:fv files (f' files d) line st=none:=by unfold fv;rw[qB];simp only[ax];exact if_neg (fun h=>hm h.2)
   refine cK.vP j9 ?_;rw[dv];exact⟨rfl,DJ.F3 eX.sle,eX.keep xO⟩
  rw[ax]at gX;refine j.rg [4,5,7,8,10] fun K I=> ?_;simp only[go_sem,g4,oa,dU];refine⟨_,Tryz.call27,(gX _).mono ?_⟩;rintro e σ1 ⟨ed,fI,rfl,rfl⟩;simp only[go_sem];apply I;have eX:∀{x y:aE} {v5 v7:D},aV ed 1 (own.map bD) (cd a6 fo st (bV az bs bu b4 bo bF x v5 v7 (sset az y R0))):=fun{x y v5 v7}=>k3 fI fun b ae=>Be ae fun h=>hW (fun h=>hp (re h)) h;have pt:∀{x y:aE} {v5 v7:D},av b4 (cellsOf ed 1 (own.map bD)++cd a6 fo st (bV az bs bu b4 bo bF x v5 v7 (sset az y R0)))=some (.arr 1 [.ptr az 5 0 0]):=eX.keep g4;have lF:∀{x y:aE} {v5 v7:D},av az (cellsOf ed 1 (own.map bD)++cd a6 fo st (bV az bs bu b4 bo bF x v5 v7 (sset az y R0)))=some y:=eX.keep oa;have yD:∀{x y z:aE} {v5 v7:D},sset az z (cellsOf ed 1 (own.map bD)++cd a6 fo st (bV az bs bu b4 bo bF x v5 v7 (sset az y R0)))=cellsOf ed 1 (own.map bD)++cd a6 fo st (bV az bs bu b4 bo bF x v5 v7 (sset az z R0)):=fun{x y z v5 v7}=>by
   rw[eX.sset (by rw[oa];rfl),Bg]
  refine j.J (j.rg [4,5,7,8,10,12,13] fun K I=> ?_);simp only[go_sem,pt,lF,dU,qQ,yD];apply I;refine j.J ?_;have tq:decide (((st.many+1:Nat):Int)≤1000)=true:=decide_eq_true (by omega);refine j.rg [4,5,7,8,10,12,13] fun K I=> ?_;simp only[go_sem,ao];refine a1 Tryz.call113 (nP (aK n) hh _) ?_;simp only[go_sem,tk,ao,pt,lF,tq];refine⟨_,Tryz.call81,(eE true _).mono ?_⟩;rintro e σ1 ⟨rfl,rfl⟩;simp only[go_sem];apply I;refine j.J (j.J (j.rg [4,5,7,8,10,12] fun K I=> ?_));simp only[go_sem,pt,lF];have bt:∀c,fo=some c→av c (cellsOf ed 1 (own.map bD))=none:=fun c ag=>by
   subst ag;have bl:∀k,ed=some k→c≠k:=fun k aj e=>by
    subst aj;have:=(eX (x:=ep .busy none) (y:= .ec) (v5:= .any) (v7:= .any)).fresh k rfl;rw[←e]at this;have ah:=(eS (x:=ep .busy none) (y:= .ec) (v5:= .any) (v7:= .any)).o.keep (bE c (.arr 1 (st.found.map ab)) (bV az bs bu b4 bo bF (ep .busy none) .any .any (sset az .ec R0)));exact absurd (this.symm.trans ah) (by simp)
   cases ed with
   |none=>rfl
   |some k=>
    show av c [(k,_)]=none
    rw[aW,if_neg (bl k rfl)];rfl
  have nt:∀{x y:aE} {v5 v7:D},bL 1 fo (cellsOf ed 1 (own.map bD)++cd a6 fo st (bV az bs bu b4 bo bF x v5 v7 (sset az y R0)))=some (st.found.map ab):=fun{x y v5 v7}=>by
   rw[E5 bt];exact zy eS.f eS.o
  have Dj:∀{x y:aE} {v5 v7:D},h0 fo (cellsOf ed 1 (own.map bD)++cd a6 fo st (bV az bs bu b4 bo bF x v5 v7 (sset az y R0)))=cellsOf ed 1 (own.map bD)++(cellsOf a6 1 (st.out.map bD)++bV az bs bu b4 bo bF x v5 v7 (sset az y R0)):=fun{x y v5 v7}=>by
   rw[Mx bt];exact congrArg _ (zz eS.f eS.o)
  have Em:List.take st.found.length (st.found.map ab)=st.found.map ab:=List.take_of_length_le (by simp);have JY:bu≠az:=fun e=>by
   have:=ia.uh;rw[e]at this;rw[this]at fB;cases fB
  refine a1 Tryz.call50 (Ov st.found (aK n) _ nt rfl (by have:=aL.found;have:=aL.many;omega)) ?_;simp only[go_sem];apply I;refine j.cond rfl (fun CR=> ?_) (fun CR=> ?_)
  ·have oI:(st.found.any fun s=>(aK n).toList==s.toList)=false:=by simpa using CR
   refine j.draw [4,5,7,8,10,12] [78] [az,b4] [10] [(0,true),(1,true),(2,true),(3,true),(4,true),(5,true),(6,true),(7,false),(8,true),(9,true),(10,false)] (by kernel_rfl) (by decide) (by kernel_rfl) fun K I=> ?_;simp only[go_sem,pt,lF,nt,Dj,Em];refine⟨by decide,⟨by simp,fun y aF=>by rw[aF];exact⟨rfl,rfl⟩,by rw[List.length_map];have:=aL.found;have:=aL.many;omega,by rw[List.length_map];have:=aL.found;have:=aL.many;omega⟩,fun iT aO vl=> ?_⟩;have g_:st.found.map ab++[D.v (Value.string (aK n))]=(st.found++[aK n]).map ab:=by rw[List.map_append];rfl
   simp only[g_]at aO⊢;have vn:∀{x y:aE} {v5 v7:D},aV iT 1 ((st.found++[aK n]).map ab) (cellsOf ed 1 (own.map bD)++(cellsOf a6 1 (st.out.map bD)++bV az bs bu b4 bo bF x v5 v7 (sset az y R0))):=fun{x y v5 v7}=>⟨fun c ag=>n0 (vl c ag) fun h=>n0 h fun h=>hW (fun h=>hp (re h)) h,aO⟩;have rY:∀{x y:aE} {v5 v7:D},aV a6 1 (st.out.map bD) (bV az bs bu b4 bo bF x v5 v7 (sset az y R0)):=fun{x y v5 v7}=>(xg (eS (x:=x) (y:=y) (v5:=v5) (v7:=v7)).o eS.f).1;have xJ:∀{x y:aE} {v5 v7:D},aV ed 1 (own.map bD) (cellsOf a6 1 (st.out.map bD)++bV az bs bu b4 bo bF x v5 v7 (sset az y R0)):=fun{x y v5 v7}=>k3 (eX (x:=x) (y:=y) (v5:=v5) (v7:=v7)) fun b ae=>n0 (show av b (cellsOf a6 1 (st.out.map bD)++(cellsOf fo 1 (st.found.map ab)++_))=none from ae) fun h=>(oq h).2;have H7:∀{x y:aE} {v5 v7:D},av az (cellsOf iT 1 ((st.found++[aK n]).map ab)++(cellsOf ed 1 (own.map bD)++(cellsOf a6 1 (st.out.map bD)++bV az bs bu b4 bo bF x v5 v7 (sset az y R0))))=some y:=fun{x y v5 v7}=>vn.keep (xJ.keep (rY.keep (mV fi rO)));have H4:∀{x y:aE} {v5 v7:D},av b4 (cellsOf iT 1 ((st.found++[aK n]).map ab)++(cellsOf ed 1 (own.map bD)++(cellsOf a6 1 (st.out.map bD)++bV az bs bu b4 bo bF x v5 v7 (sset az y R0))))=some (.arr 1 [.ptr az 5 0 0]):=fun{x y v5 v7}=>vn.keep (xJ.keep (rY.keep (AN fi)));have WT:∀{x y z:aE} {v5 v7:D},sset az z (cellsOf iT 1 ((st.found++[aK n]).map ab)++(cellsOf ed 1 (own.map bD)++(cellsOf a6 1 (st.out.map bD)++bV az bs bu b4 bo bF x v5 v7 (sset az y R0))))=cellsOf iT 1 ((st.found++[aK n]).map ab)++(cellsOf ed 1 (own.map bD)++(cellsOf a6 1 (st.out.map bD)++bV az bs bu b4 bo bF x v5 v7 (sset az z R0))):=fun{x y z v5 v7}=>by
    rw[vn.sset (by rw[xJ.keep (rY.keep (mV fi rO))];rfl),xJ.sset (by rw[rY.keep (mV fi rO)];rfl),rY.sset (by rw[mV fi rO];rfl),AO fi (by rw[rO];rfl),Bo]
   refine⟨?_, ?_⟩
   ·rintro b (rfl|rfl)
    ·rw[H7,lF]
    rw[H4,pt]
   have tH:((st.found++[aK n]).map ab).length=(st.found++[aK n]).length:=List.length_map ..;simp only[go_sem,H7,WT,H4,tH];apply I;have Ao:∀{x y:aE} {v5 v7:D},_:=fun{x y v5 v7}=>(vn (x:=x) (y:=y) (v5:=v5) (v7:=v7)).swap xJ;have Ap:∀{x y:aE} {v5 v7:D},_:=fun{x y v5 v7}=>(Ao (x:=x) (y:=y) (v5:=v5) (v7:=v7)).2.1.swap rY;have RD:ek a6 iT ⟨st.out,st.found++[aK n],st.many+1⟩ (bV az bs bu b4 bo bF .ec .any .any R0):=ek.base ⟨(Ap (x:= .ec) (y:= .ec) (v5:= .any) (v7:= .any)).1,Ap.2.1⟩ fun b ae=>hW (fun h=>re h) ae;have z7:∀{x y:aE} {v5 v7:D},aV ed 1 (own.map bD) (cd a6 iT ⟨st.out,st.found++[aK n],st.many+1⟩ (bV az bs bu b4 bo bF x v5 v7 (sset az y R0))):=fun{x y v5 v7}=>k3 (Ao (x:=x) (y:=y) (v5:=v5) (v7:=v7)).1 fun b ae=>yg Ap.2.2 ae;refine j.le (cn.refl _) ((aQ.append (aQ.append_left _ _) (Ap.2.2.trans Ao.1.sle)).trans Ao.2.2) ?_;have x5:cZ.Ok ⟨st.out,st.found++[aK n],st.many+1⟩:=⟨aL.out,(by have:=aL.found;show(st.found++[aK n]).length≤st.many+1;simp;omega),hm,(fun m hm=>by
    rcases List.mem_append.1 hm with hm|hm
    ·exact aL.right m hm
    rw[List.mem_singleton.1 hm];exact ao)⟩
   have iO:IntKind.i64.wrap (11-((d+1:Nat):Int)+1)=11-(d:Int):=by rw[kt _ (by omega) (by omega)];omega
   have oJ:(own.map bD).length=own.length:=List.length_map ..;have ew:own.length<2^40:=by
    unfold findF at ax;cases ig:files.find? (fun f=>f.name.toList==(aK n).toList)with
    |none=>rw[ig]at ax;cases ax
    |some f=>rw[ig]at ax;cases ax;exact gG f (List.mem_of_find?_eq_some ig)
   have xy:∀(cS:cZ) (et:Option Nat),fR args decl files az (bV az bs bu b4 bo bF (ep .busy none) (.own a6 1 st.out.length) (.v (.int .i64 (11-((d+1:Nat):Int)))) R0) cS et=bV az bs bu b4 bo bF (ep .busy none) (.own a6 1 st.out.length) (.v (.int .i64 (11-((d+1:Nat):Int)))) (fR args decl files az R0 cS et):=fun cS et=>AO ia fB;have fC:ek a6 iT ⟨st.out,st.found++[aK n],st.many+1⟩ (bV az bs bu b4 bo bF .ec .any .any R0):=RD;have gE:=r' a6 iT ed own ⟨st.out,st.found++[aK n],st.many+1⟩ (bV az bs bu b4 bo bF (ep .busy none) (.own a6 1 st.out.length) (.v (.int .i64 (11-((d+1:Nat):Int)))) R0) x5 (by
    obtain⟨z,aO⟩:=Option.isSome_iff_exists.1 fB;rw[mV ia aO];rfl) (fC.base fun b ae=>hW id ae) (by rw[xy];exact z7) ew
   simp only[xy]at gE;have dv:fv files (f' files d) line st=f' files d own ⟨st.out,st.found++[aK n],st.many+1⟩:=by
    unfold fv;rw[qB];simp only[ax];rw[if_pos ⟨ao,hm⟩,show gS st.found (aK n)=st.found++[aK n] by unfold gS;rw[oI];rfl]
   have xa:∀{x y:aE} {v5 v7:D},av b4 (cellsOf ed 1 (own.map bD)++cd a6 iT ⟨st.out,st.found++[aK n],st.many+1⟩ (bV az bs bu b4 bo bF x v5 v7 (sset az y R0)))=some (.arr 1 [.ptr az 5 0 0]):=fun{x y v5 v7}=>(z7 (x:=x) (y:=y) (v5:=v5) (v7:=v7)).keep ((fC.base fun b ae=>hW (fun h=>hp h) ae).keep (AN fi));have xb:∀{x y:aE} {v5 v7:D},av bo (cellsOf ed 1 (own.map bD)++cd a6 iT ⟨st.out,st.found++[aK n],st.many+1⟩ (bV az bs bu b4 bo bF x v5 v7 (sset az y R0)))=some (.arr 1 [v5]):=fun{x y v5 v7}=>(z7 (x:=x) (y:=y) (v5:=v5) (v7:=v7)).keep ((fC.base fun b ae=>hW (fun h=>hp h) ae).keep (oY fi));have xc:∀{x y:aE} {v5 v7:D},av bF (cellsOf ed 1 (own.map bD)++cd a6 iT ⟨st.out,st.found++[aK n],st.many+1⟩ (bV az bs bu b4 bo bF x v5 v7 (sset az y R0)))=some (.arr 1 [v7]):=fun{x y v5 v7}=>(z7 (x:=x) (y:=y) (v5:=v5) (v7:=v7)).keep ((fC.base fun b ae=>hW (fun h=>hp h) ae).keep (Fb fi));change j BH _ _ (cellsOf ed 1 (own.map bD)++cd a6 iT ⟨st.out,st.found++[aK n],st.many+1⟩ (bV az bs bu b4 bo bF (ep .busy none) (.own a6 1 st.out.length) (.v (.int .i64 (11-((d+1:Nat):Int)))) (fR args decl files az R0 ⟨st.out,st.found++[aK n],st.many+1⟩ iT)));unfold fR at gE⊢;rcases bW:f' files d own ⟨st.out,st.found++[aK n],st.many+1⟩with _|cS
   ·rw[bW]at gE dv;refine j.rg [4,5,7,8,12] fun K I=> ?_;simp only[go_sem,xa,xb,xc,iO,oJ];refine⟨_,Tryz.call137,gE.mono ?_⟩;rintro e σ1 ⟨rfl,aj⟩;simp only[go_sem];refine cK.vP j9 ?_;rw[dv];exact⟨rfl,aj.bV ia,aj _ _ JY (vV ia)⟩
   rw[bW]at gE dv;refine j.rg [4,5,7,8,12] fun K I=> ?_;simp only[go_sem,xa,xb,xc,iO,oJ];refine⟨_,Tryz.call137,gE.mono ?_⟩;rintro e σ1 ⟨fs,et,tB,rfl,rfl⟩;simp only[go_sem];have kb:∀{x y:aE} {v5 v7:D},ek fs et cS (bV az bs bu b4 bo bF x v5 v7 (sset az y R0)):=fun{x y v5 v7}=>tB.base fun b ae=>hW (fun h=>hp h) ae;have Cw:∀{x y:aE} {v5 v7:D},av bo (cd fs et cS (bV az bs bu b4 bo bF x v5 v7 (sset az y R0)))=some (.arr 1 [v5]):=kb.keep (oY fi);have FI:∀{x y:aE} {v5 v7 w:D},sset bo (.arr 1 [w]) (cd fs et cS (bV az bs bu b4 bo bF x v5 v7 (sset az y R0)))=cd fs et cS (bV az bs bu b4 bo bF x w v7 (sset az y R0)):=fun{x y v5 v7 w}=>by
    rw[kb.sset _ (by rw[oY fi];rfl),Fc fi]
   simp only[go_sem,Cw,FI];apply I;refine j.ba ?_;refine j.uy j9 mz (kb.keep nF) ?_;rw[dv];refine⟨rfl,fs,et,tB.base fun b ae=>hW id ae, ?_⟩;rw[kb.sset _ (by rw[nF];rfl),yq,th]
   rfl
  have oI:(st.found.any fun s=>(aK n).toList==s.toList)=true:=by simpa using CR
  refine j.aN ?_;have x5:cZ.Ok ⟨st.out,st.found,st.many+1⟩:=⟨aL.out,(by have:=aL.found;show st.found.length≤st.many+1;omega),hm,aL.right⟩
  have iO:IntKind.i64.wrap (11-((d+1:Nat):Int)+1)=11-(d:Int):=by rw[kt _ (by omega) (by omega)];omega
  have oJ:(own.map bD).length=own.length:=List.length_map ..;have ew:own.length<2^40:=by
   unfold findF at ax;cases ig:files.find? (fun f=>f.name.toList==(aK n).toList)with
   |none=>rw[ig]at ax;cases ax
   |some f=>rw[ig]at ax;cases ax;exact gG f (List.mem_of_find?_eq_some ig)
  have xy:∀(cS:cZ) (et:Option Nat),fR args decl files az (bV az bs bu b4 bo bF (ep .busy none) (.own a6 1 st.out.length) (.v (.int .i64 (11-((d+1:Nat):Int)))) R0) cS et=bV az bs bu b4 bo bF (ep .busy none) (.own a6 1 st.out.length) (.v (.int .i64 (11-((d+1:Nat):Int)))) (fR args decl files az R0 cS et):=fun cS et=>AO ia fB;have fC:ek a6 fo ⟨st.out,st.found,st.many+1⟩ (bV az bs bu b4 bo bF .ec .any .any R0):=⟨aT.o,aT.f⟩;have gE:=r' a6 fo ed own ⟨st.out,st.found,st.many+1⟩ (bV az bs bu b4 bo bF (ep .busy none) (.own a6 1 st.out.length) (.v (.int .i64 (11-((d+1:Nat):Int)))) R0) x5 (by
   obtain⟨z,aO⟩:=Option.isSome_iff_exists.1 fB;rw[mV ia aO];rfl) (fC.base fun b ae=>hW id ae) (by rw[xy];exact eX) ew
  simp only[xy]at gE;have dv:fv files (f' files d) line st=f' files d own ⟨st.out,st.found,st.many+1⟩:=by
   unfold fv;rw[qB];simp only[ax];rw[if_pos ⟨ao,hm⟩,show gS st.found (aK n)=st.found by unfold gS;rw[if_pos oI]]
  have xa:∀{x y:aE} {v5 v7:D},av b4 (cellsOf ed 1 (own.map bD)++cd a6 fo ⟨st.out,st.found,st.many+1⟩ (bV az bs bu b4 bo bF x v5 v7 (sset az y R0)))=some (.arr 1 [.ptr az 5 0 0]):=fun{x y v5 v7}=>(eX (x:=x) (y:=y) (v5:=v5) (v7:=v7)).keep ((fC.base fun b ae=>hW (fun h=>hp h) ae).keep (AN fi));have xb:∀{x y:aE} {v5 v7:D},av bo (cellsOf ed 1 (own.map bD)++cd a6 fo ⟨st.out,st.found,st.many+1⟩ (bV az bs bu b4 bo bF x v5 v7 (sset az y R0)))=some (.arr 1 [v5]):=fun{x y v5 v7}=>(eX (x:=x) (y:=y) (v5:=v5) (v7:=v7)).keep ((fC.base fun b ae=>hW (fun h=>hp h) ae).keep (oY fi));have xc:∀{x y:aE} {v5 v7:D},av bF (cellsOf ed 1 (own.map bD)++cd a6 fo ⟨st.out,st.found,st.many+1⟩ (bV az bs bu b4 bo bF x v5 v7 (sset az y R0)))=some (.arr 1 [v7]):=fun{x y v5 v7}=>(eX (x:=x) (y:=y) (v5:=v5) (v7:=v7)).keep ((fC.base fun b ae=>hW (fun h=>hp h) ae).keep (Fb fi));change j BH _ _ (cellsOf ed 1 (own.map bD)++cd a6 fo ⟨st.out,st.found,st.many+1⟩ (bV az bs bu b4 bo bF (ep .busy none) (.own a6 1 st.out.length) (.v (.int .i64 (11-((d+1:Nat):Int)))) (fR args decl files az R0 ⟨st.out,st.found,st.many+1⟩ fo)));unfold fR at gE⊢;rcases bW:f' files d own ⟨st.out,st.found,st.many+1⟩with _|cS
  ·rw[bW]at gE dv;refine j.rg [4,5,7,8,12] fun K I=> ?_;simp only[go_sem,xa,xb,xc,iO,oJ];refine⟨_,Tryz.call137,gE.mono ?_⟩;rintro e σ1 ⟨rfl,aj⟩;simp only[go_sem];refine cK.vP j9 ?_;rw[dv];exact⟨rfl,aj.bV ia,aj _ _ JY (vV ia)⟩
  rw[bW]at gE dv;refine j.rg [4,5,7,8,12] fun K I=> ?_;simp only[go_sem,xa,xb,xc,iO,oJ];refine⟨_,Tryz.call137,gE.mono ?_⟩;rintro e σ1 ⟨fs,et,tB,rfl,rfl⟩;simp only[go_sem];have kb:∀{x y:aE} {v5 v7:D},ek fs et cS (bV az bs bu b4 bo bF x v5 v7 (sset az y R0)):=fun{x y v5 v7}=>tB.base fun b ae=>hW (fun h=>hp h) ae;have Cw:∀{x y:aE} {v5 v7:D},av bo (cd fs et cS (bV az bs bu b4 bo bF x v5 v7 (sset az y R0)))=some (.arr 1 [v5]):=kb.keep (oY fi);have FI:∀{x y:aE} {v5 v7 w:D},sset bo (.arr 1 [w]) (cd fs et cS (bV az bs bu b4 bo bF x v5 v7 (sset az y R0)))=cd fs et cS (bV az bs bu b4 bo bF x w v7 (sset az y R0)):=fun{x y v5 v7 w}=>by
   rw[kb.sset _ (by rw[oY fi];rfl),Fc fi]
  simp only[go_sem,Cw,FI];apply I;refine j.ba ?_;refine j.uy j9 mz (kb.keep nF) ?_;rw[dv];refine⟨rfl,fs,et,tB.base fun b ae=>hW id ae, ?_⟩;rw[kb.sset _ (by rw[nF];rfl),yq,th]
  rfl
 obtain⟨F,c7⟩:∃F,fv files (f' files d)=F:=⟨_,rfl⟩;rw[c7]at vA;have mL:f' files (d+1) b st=fF F b [] st:=by rw[←c7];rfl
 rw[mL]at tf;have zF:∀l s cS,s.Ok→F l s=some cS→cS.Ok:=fun l s cS af he=>AY (yu files d) l s cS af (by rw[c7];exact he);have fW:BN bs 10 1 (fun r τ=>∃a6 fo s1,cZ.Ok s1∧ek a6 fo s1 (bV az bs bu b4 bo bF .ec .any .any R0)∧τ=pd a6 fo s1 (ep .ready none)∧fF F r [] s1=fF F b [] st∧r.length≤b.length) (fun e τ=>match e with
   | .ret _=>∃a6 fo cS,fF F b [] st=some cS∧ek a6 fo cS (bV az bs bu b4 bo bF .ec .any .any R0)∧τ=pd a6 fo cS (ep .ready none)
   | .panic B8=>B8=mn∧fF F b [] st=none∧mf az R0 τ∧av bu τ=some .ec):=by
  refine⟨?_, ?_⟩
  ·rintro r k τ ⟨a6,fo,s1,cc,aT,rfl,ch,jn⟩ aj eO;rw[KK r [] s1 k aj,List.nil_append]at ch;refine(vA (r.take (k+1)) s1 a6 fo cc aT (by rw[List.length_take];omega)).mono ?_;intro e fP h;cases ag:F (r.take (k+1)) s1 with
   |none=>
    rw[ag]at h ch;obtain⟨rfl,cb,gl⟩:=h;exact .inr (.inr ⟨mn,rfl,rfl,ch.symm,cb,gl⟩)
   |some s2=>
    rw[ag]at h ch;obtain⟨rfl,fs,et,tu,rfl⟩:=h;exact .inl ⟨rfl,fs,et,s2,zF _ _ _ cc ag,tu,rfl,ch,by rw[List.length_drop];omega⟩
  rintro r τ ⟨a6,fo,s1,cc,aT,rfl,ch,jn⟩ aj;rw[KJ r [] s1 aj,List.nil_append]at ch;refine(vA r s1 a6 fo cc aT (by omega)).mono ?_;intro e fP h;cases ag:F r s1 with
  |none=>
   rw[ag]at h ch;obtain⟨rfl,cb,gl⟩:=h;exact .inr ⟨mn,rfl,rfl,ch.symm,cb,gl⟩
  |some s2=>
   rw[ag]at h ch;obtain⟨rfl,fs,et,tu,rfl⟩:=h;exact .inl ⟨_,rfl,fs,et,s2,ch.symm,tu,rfl⟩
 have zJ:∀{y:aE},ly bs bu b4 bo bF (sset az y R0):=fun{y}=>ia.base fun b ae=>hp ae;have acm:∀{x y:aE} {v5 v7:D},ek a6 fo st (bV az bs bu b4 bo bF x v5 v7 (sset az y R0)):=fun{x y v5 v7}=>Jg.base fun b ae=>hW (fun h=>hp h) ae;have e5:aQ (cd a6 fo st (fR args decl files az R0 st fo)) ((bF, .arr 1 [.v (.int .i64 (11-((d+1:Nat):Int)))])::(bo, .arr 1 [.own a6 1 st.out.length])::(b4, .arr 1 [.ptr az 5 0 0])::(cellsOf ob 1 (b.map bD)++cd a6 fo st (fR args decl files az R0 st fo))):=gP (gP (gP eS.sle lJ) ou) ng;have C7:aQ (cd a6 fo st (fR args decl files az R0 st fo)) ((bs,ep .ready none)::(bu, .ec)::(ej aY ct aG b 10 1++((bF, .arr 1 [.v (.int .i64 (11-((d+1:Nat):Int)))])::(bo, .arr 1 [.own a6 1 st.out.length])::(b4, .arr 1 [.ptr az 5 0 0])::(cellsOf ob 1 (b.map bD)++cd a6 fo st (fR args decl files az R0 st fo))))):=gP (gP (e5.trans (aQ.append_right hA.symm)) kh) (by rw[aW,if_neg r5];exact iI);have Ai:∀{c k:Nat} {x:aE} {τ:al},av k τ=none→av c τ≠none→c≠k:=fun{c k x τ} aj ag e=>ag (by rw[e];exact aj);have d':∀{c:Nat} {o:aE},av c ((bF, .arr 1 [.v (.int .i64 (11-((d+1:Nat):Int)))])::(bo, .arr 1 [.own a6 1 st.out.length])::(b4, .arr 1 [.ptr az 5 0 0])::(cellsOf ob 1 (b.map bD)++cd a6 fo st (fR args decl files az R0 st fo)))=some o→av c ((bs,ep .ready none)::(bu, .ec)::(ej aY ct aG b 10 1++((bF, .arr 1 [.v (.int .i64 (11-((d+1:Nat):Int)))])::(bo, .arr 1 [.own a6 1 st.out.length])::(b4, .arr 1 [.ptr az 5 0 0])::(cellsOf ob 1 (b.map bD)++cd a6 fo st (fR args decl files az R0 st fo)))))=some o:=fun{c o} h=>
  (gP (gP (aQ.append_right hA.symm) kh) (by rw[aW,if_neg r5];exact iI)) c o h
 have x':aQ (pd a6 fo st (ep .ready none)) ((bs,ep .ready none)::(bu, .ec)::(ej aY ct aG b 10 1++((bF, .arr 1 [.v (.int .i64 (11-((d+1:Nat):Int)))])::(bo, .arr 1 [.own a6 1 st.out.length])::(b4, .arr 1 [.ptr az 5 0 0])::(cellsOf ob 1 (b.map bD)++cd a6 fo st (fR args decl files az R0 st fo))))):=by
  rw[th];unfold cd bV;refine aQ.append ((aQ.append_left _ _).trans C7) (aQ.append (((aQ.append_left _ _).trans rW.o.sle).trans C7) ?_);refine .cons (bE ..) (.cons (by rw[aW,if_neg (Ne.symm r5),bE]) (.cons (d' (bE ..)) (.cons (d' ?_) (.cons (d' ?_) (J1.trans C7)))))
  ·rw[aW,if_neg ia.CL,bE]
  rw[aW,if_neg ia.hQ,aW,if_neg ia.Ik,bE]
 have C':dN (ej aY ct aG b 10 1) (pd a6 fo st (ep .ready none)):=fun c ag=>by
  cases an:av c (pd a6 fo st (ep .ready none))with
  |none=>rfl
  |some o=>
   have aa:=x' c o an;have dn:c≠bs:=fun e=>ag (by rw[e];exact ik.1);have IY:c≠bu:=fun e=>ag (by rw[e];exact fJ.1);rw[aW,if_neg dn,aW,if_neg IY]at aa;have ah:=hA c ag;obtain⟨y,aF⟩:=Option.ne_none_iff_exists'.1 ag;rw[th]at an;have aJ:av c (cd a6 fo st (bV az bs bu b4 bo bF (ep .ready none) (.own a6 1 st.out.length) (.v (.int .i64 (11-((d+1:Nat):Int)))) (fR args decl files az R0 st fo)))=none:=Be (A:=fR args decl files az R0 st fo) (yg e5 ah) fun h=>by
    have bg:=aZ (show av c ((bF,_)::_)=none from ah);have cu:=aZ bg.2;have de:=aZ cu.2;unfold bV;rw[aW,if_neg dn,aW,if_neg IY,aW,if_neg bg.1,aW,if_neg cu.1,aW,if_neg de.1,h]
   rw[aJ]at an;cases an
 refine(MP (by omega) fW aX b dD (pd a6 fo st (ep .ready none)) _ ⟨a6,fo,st,aL,Jg,rfl,rfl,Nat.le_refl _⟩ C' x' (fun c o ag=> ?_)).mono ?_
 ·rw[aW,if_neg (fun e=>by rw[e,ik.1]at ag;cases ag),aW,if_neg (fun e=>by rw[e,fJ.1]at ag;cases ag)]
  exact yF ag
 rintro e σ' ⟨fP,hle,mA⟩;rcases e with B8|B8;rotate_left
 ·obtain⟨rfl,ns,cb,gl⟩:=mA;refine cK.ofM (σ':=cB bu fP) tf Tryz.func137 (by simp) (fun c ag=> ?_) (fun c o ag=> ?_) (fun c ag=> ?_) ?_
  ·rw[List.mem_singleton.1 ag];exact hle _ _ gl
  ·rw[wg]at ag;split at ag
   ·cases ag
   exact hle _ _ ag
  ·rw[List.mem_singleton.1 ag,wg,if_pos rfl]
  rw[ns];refine⟨rfl,fun c o fk ag=> ?_⟩;rw[wg,if_neg (fun e=>by rw[e,ia.uh]at ag;cases ag)]
  exact cb c o fk ag
 obtain⟨fs,et,cS,Ei,aT,rfl⟩:=mA;rw[Ei]at tf;rw[th]at hle;have kb:∀{x y:aE} {v5 v7:D},ek fs et cS (bV az bs bu b4 bo bF x v5 v7 (sset az y R0)):=fun{x y v5 v7}=>aT.base fun b ae=>hW (fun h=>hp h) ae;unfold fR at hle tf;refine⟨.ready,none,hle _ _ (kb.keep nF),rfl, ?_⟩;refine j.le (cn.refl _) (hle.sset (by rw[kb.keep nF];rfl)) ?_
 rw[kb.sset _ (by rw[nF];rfl),yq]
 simp only[Option.map_none,Option.toList_none,List.nil_append];have PR:∀{x y:aE} {v5 v7:D},av bo (cd fs et cS (bV az bs bu b4 bo bF x v5 v7 (sset az y R0)))=some (.arr 1 [v5]):=kb.keep (oY zJ);have Sw:∀c,av c (bV az bs bu b4 bo bF .ec .any .any R0)=none→av c R0=none:=fun c ag=>by
  cases an:av c R0 with
  |none=>rfl
  |some o=>rw[mV ia an]at ag;cases ag
 have RC:ek fs et cS R0:=aT.base Sw;refine j.ba (j.J (j.rg [5] fun K I=> ?_));simp only[go_sem,PR];apply I;refine j.Mh (σ':=cd fs et cS (sset az (dU args decl files (.own et 1 cS.found.length) (cS.many:Int)) R0)) tf Tryz.func137 (by simp) (fun c ag=> ?_) (WL kb (fun c o ag=>mV zJ ag)) (fun c ag=> ?_) (by simp[go_sem]) ?_
 ·rw[List.mem_singleton.1 ag];exact kb.keep (vV zJ)
 ·rw[List.mem_singleton.1 ag];exact WK (kb (x:= .ec) (y:= .ec) (v5:= .any) (v7:= .any)) (by rw[vV zJ];rfl) (hp ia.uh)
 simp only[go_sem];exact⟨fs,et,RC,rfl,rfl⟩
theorem LQ (dE:files.length<2^31) (gG:∀f∈files,f.b.length<2^40):∀oU,oU≤11→yP args decl files az oU
 |0,_=>VK args decl files az
 |d+1,h=>VJ args decl files az dE gG d (by omega) (LQ dE gG d (by omega))
end
end Go.Ab.S16
namespace Go.Ab.S16
open Go Go.Proofs Go.RowKit
def sj (args decl:List ByteArray) (files:List ay):Option cZ:=(lk decl files args).bind fun b=>f' files 11 b ⟨[],[],0⟩
def qc (args decl:List ByteArray) (files:List ay) (az:Nat) (σ:al) (spec:Option (List UInt8×List ByteArray)) (e:cf) (σ':al):Prop:=match spec with
 |some (b,found)=>∃(o fo:Option Nat) (many:Int),aV o 1 (b.map bD) (cellsOf fo 1 (found.map ab)++sset az (dU args decl files (.own fo 1 found.length) many) σ)∧aV fo 1 (found.map ab) (sset az (dU args decl files (.own fo 1 found.length) many) σ)∧e= .ret (.own o 1 b.length)∧σ'=cellsOf o 1 (b.map bD)++(cellsOf fo 1 (found.map ab)++sset az (dU args decl files (.own fo 1 found.length) many) σ)
 |none=>e= .panic mn∧mf az σ σ'
section
variable (args decl : List ByteArray) (files : List ay) (az : Nat) (σ : al)
theorem qc.yi {spec:Option (List UInt8)} {e:cf} {σ':al} (ag:av az σ=some (dU args decl files (.own none 1 0) 0)) (h:pa spec (q3 σ) σ e σ'):qc args decl files az σ (spec.map fun b=>(b,[])) e σ':=by
 cases spec with
 |none=>exact⟨h.1,fun b o _ ae=>h.2 b o ae⟩
 |some b=>
  obtain⟨o,aq,he,af⟩:=h;have fK:sset az (dU args decl files (.own none 1 ([]:List ByteArray).length) 0) σ=σ:=Bn ag;refine⟨o,none,0, ?_, ?_, ?_, ?_⟩
  ·show aV o 1 (b.map bD) (sset az _ σ)
   rw[fK];exact aq
  ·exact aV.nil _ _
  ·rw[he,List.length_map]
  rw[af,fK];rfl
theorem Tv (ag:av az σ=some (dU args decl files (.own none 1 0) 0)) (aA:files.length<2^31) (ae:∀f∈files,f.b.length<2^40) (aw:decl.length<2^40) (bb:args.length<2^40):
  AC Tryz.prog 110 [.ptr az 5 0 0] σ (qc args decl files az σ ((sj args decl files).map fun s=>(s.out,s.found))):=by
 have gm:=Le args decl files (.own none 1 0) 0 az σ ag aA ae aw bb;refine AC.bI Tryz.func110 Tryz.ntmps110 fun C ar=> ?_;cases aa:lk decl files args with
 |none=>
  rw[aa]at gm;have hi:sj args decl files=none:=by unfold sj;rw[aa];rfl
  rw[hi]at ar;refine j.J (j.rg [0] fun K I=> ?_);simp only[go_sem];apply I;refine j.J (j.rg [0] fun K I=> ?_);simp only[go_sem];refine⟨_,Tryz.call131,gm.mono ?_⟩;rintro e σ1 ⟨rfl,af⟩;simp only[go_sem];exact cK.of ar Tryz.func110 ⟨rfl,fun b o _ ae=>af b o ae⟩
 |some b=>
  rw[aa]at gm;have hi:sj args decl files=f' files 11 b ⟨[],[],0⟩:=by unfold sj;rw[aa];rfl
  have dD:b.length<2^40:=by
   unfold lk at aa;split at aa
   ·unfold h7 at aa;obtain⟨sS,ax,ah⟩:=Option.bind_eq_some_iff.1 aa;split at ah
    ·cases ah
     unfold findF at ax;cases ig:files.find? (fun f=>f.name.toList==_)with
     |none=>rw[ig]at ax;cases ax
     |some f=>rw[ig]at ax;cases ax;exact ae f (List.mem_of_find?_eq_some ig)
    cases ah
   cases aa
  have fK:sset az (dU args decl files (.own none 1 ([]:List ByteArray).length) ((0:Nat):Int)) σ=σ:=Bn ag;have dv:=fun(ob:Option Nat) (aq:aV ob 1 (b.map bD) σ)=>LQ args decl files az aA ae 11 (Nat.le_refl _) none none ob b ⟨[],[],0⟩ σ ⟨by simp,by simp,by simp,by simp⟩ (by rw[ag];rfl) ⟨aV.nil _ _,aV.nil _ _⟩ (by
   show aV ob 1 (b.map bD) (sset az _ σ)
   rw[fK];exact aq) dD
  rw[hi]at ar;refine j.J (j.rg [0] fun K I=> ?_);simp only[go_sem];apply I;refine j.J (j.rg [0] fun K I=> ?_);simp only[go_sem];refine⟨_,Tryz.call131,gm.mono ?_⟩;rintro e σ1 ⟨o,aq,rfl,rfl⟩;simp only[go_sem];have aP:=dv o aq;unfold fR at aP;rw[fK]at aP;have lT:=AC.uL (args:=[.ptr az 5 0 0, .v (.slice none 0 0), .own o 1 (b.map bD).length, .v (.int .i64 0)]) aP fun w S vs h=>by
   obtain⟨v1,l',rfl,aa,ah⟩:=h.cons_inv;obtain⟨v2,uE,rfl,aJ,bg⟩:=ah.cons_inv;rw[List.length_map]at bg;exact .cons aa (.cons (ca.mU 1 w S v2 aJ) bg)
  clear aP;rcases bW:f' files 11 b ⟨[],[],0⟩with _|cS
  ·rw[bW]at lT ar;refine⟨_,Tryz.call137,lT.mono ?_⟩;rintro e σ' ⟨rfl,aj⟩;simp only[go_sem];exact cK.of ar Tryz.func110 ⟨rfl,aj⟩
  rw[bW]at lT ar;refine⟨_,Tryz.call137,lT.mono ?_⟩;rintro e σ' ⟨a6,fo,Dw,rfl,rfl⟩;simp only[go_sem];apply I;refine j.ret ar Tryz.func110 (by simp[go_sem]) ?_;simp only[go_sem];have oA:ek a6 fo cS (sset az (dU args decl files (.own fo 1 cS.found.length) (cS.many:Int)) σ):=Dw.base fun b ae=>hp ae;exact⟨a6,fo,(cS.many:Int),oA.o,oA.f,rfl,rfl⟩
def q_ (args decl:List ByteArray) (files:List ay) (verb:List UInt8):Option (List UInt8×List ByteArray):=
 if verb=[99,97,116]then(nZ decl files args []).map fun b=>(b,[])
 else if verb=[114,101,118]then((lk decl files args).map List.reverse).map fun b=>(b,[])
 else if verb=[115,117,109]then(uB decl files args).map fun b=>(b,[])
 else if verb=[112,117,116]then some (nJ args,[])
 else if verb=[105,110,99]then(sj args decl files).map fun s=>(s.out,s.found)
 else none
def hn (verb:List UInt8):Bool:=[[99,97,116],[114,101,118],[115,117,109],[112,117,116],[105,110,99],[102,97,105,108]].contains verb
theorem Nb (verb:List UInt8) (ak:hn verb=true) (ag:av az σ=some (dU args decl files (.own none 1 0) 0)) (aA:files.length<2^31) (ae:∀f∈files,f.b.length<2^20) (aw:decl.length<2^40) (bb:args.length<2^16)
  (aR:(Lib.join (args.map (·.data.toList)) [32]).length<2^45):∃g,e' (.string (aK verb)) hq=some (.bX (.func g) [] [])∧(∀args w,(callFunc g args).run Tryz.prog w= .ok (.enter g args) w)∧AC Tryz.prog g [.ptr az 5 0 0] σ (qc args decl files az σ (q_ args decl files verb)):=by
 have pz:∀f∈files,f.b.length<2^40:=fun f ax=>Nat.lt_trans (ae f ax) (by decide);have key:verb=[99,97,116]∨verb=[114,101,118]∨verb=[115,117,109]∨verb=[112,117,116]∨verb=[105,110,99]∨verb=[102,97,105,108]:=by simpa [hn]using ak
 rcases key with rfl|rfl|rfl|rfl|rfl|rfl
 ·refine⟨_,(by kernel_rfl:e' (.string (aK [99,97,116])) hq=some (.bX (.func 106) [] [])),Tryz.call106, ?_⟩;exact(N8 args decl files _ _ az σ ag aA pz aw (by omega)).mono fun e σ' h=>qc.yi args decl files az σ ag h
 ·refine⟨_,(by kernel_rfl:e' (.string (aK [114,101,118])) hq=some (.bX (.func 107) [] [])),Tryz.call107, ?_⟩;exact(Ww args decl files _ _ az σ ag aA pz aw (by omega)).mono fun e σ' h=>qc.yi args decl files az σ ag h
 ·refine⟨_,(by kernel_rfl:e' (.string (aK [115,117,109])) hq=some (.bX (.func 108) [] [])),Tryz.call108, ?_⟩;exact(X3 args decl files _ _ az σ ag aA ae aw bb).mono fun e σ' h=>qc.yi args decl files az σ ag h
 ·refine⟨_,(by kernel_rfl:e' (.string (aK [112,117,116])) hq=some (.bX (.func 109) [] [])),Tryz.call109, ?_⟩;exact(VE args decl files _ _ az σ ag (by omega) aR).mono fun e σ' h=>qc.yi (spec:=some (nJ args)) args decl files az σ ag h
 ·refine⟨_,(by kernel_rfl:e' (.string (aK [105,110,99])) hq=some (.bX (.func 110) [] [])),Tryz.call110, ?_⟩;exact Tv args decl files az σ ag aA pz aw (by omega)
 refine⟨_,(by kernel_rfl:e' (.string (aK [102,97,105,108])) hq=some (.bX (.func 111) [] [])),Tryz.call111, ?_⟩;exact(Pq az σ).mono fun e σ' h=>qc.yi (spec:=none) args decl files az σ ag h
end
end Go.Ab.S16
namespace Go.Ab.S16
open Go Go.Proofs Go.RowKit
theorem Yr (verb:List UInt8) (ak:hn verb=false):e' (.string (aK verb)) hq=none:=by
 have e:hq=[(.string (aK [99,97,116]), .bX (.func 106) [] []),(.string (aK [114,101,118]), .bX (.func 107) [] []),(.string (aK [115,117,109]), .bX (.func 108) [] []),(.string (aK [112,117,116]), .bX (.func 109) [] []),(.string (aK [105,110,99]), .bX (.func 110) [] []),(.string (aK [102,97,105,108]), .bX (.func 111) [] [])]:=by kernel_rfl
 have aj:∀w:List UInt8,verb≠w→¬kj (.string (aK verb)) (.string (aK w))=true:=fun w h bW=>by
  have:aK verb=aK w:=by simpa [kj]using bW
  exact h (by rw[←ht verb,this,ht])
 simp only[hn,List.contains_eq_mem,List.mem_cons,List.not_mem_nil,or_false,decide_eq_false_iff_not,not_or]at ak;obtain⟨aa,ah,aJ,bg,cu,de⟩:=ak;rw[e];simp only[e',if_neg (aj _ aa),if_neg (aj _ ah),if_neg (aj _ aJ),if_neg (aj _ bg),if_neg (aj _ cu),if_neg (aj _ de)]
theorem XS (W:World) (x:Nat):FnGives Tryz.prog 104 #[] #[encR x] (.bool (x==32)) W:=by
 unfold FnGives;show Calls Tryz.prog 104 #[.int .i32 (x:Int)] W _
 go_enter Tryz.func104,Tryz.ntmps104
 go_wp2
 go_ret
 have an:((x:Int)==32)=(x==32):=by
  rw[Bool.eq_iff_iff,beq_iff_eq,beq_iff_eq];omega
 refine⟨?_,0,rfl⟩;show Ending.returned (.bool ((x:Int)==32))=Ending.returned (.bool (x==32))
 rw[an]
def e3 (s:ByteArray):List ByteArray:=Lib.goFieldsP (fun x=>x==32) s
theorem Pt (s:ByteArray) (af:s.size≤4294967296) (σ:al):AC Tryz.prog 103 [.v (.string s), .bX (.func 104) [] []] σ
  (fun e σ'=>∃o,aV o 1 ((e3 s).map ab) σ∧e= .ret (.own o 1 ((e3 s).map ab).length)∧σ'=cellsOf o 1 ((e3 s).map ab)++σ):=by
 refine(AC.E4 (e0:=9) (R:=fun xs=>xs=(e3 s).map Value.string) fun w S vs bh aL ao=> ?_).mono ?_
 ·obtain⟨v1,l',rfl,aa,ah⟩:=ao.cons_inv;obtain⟨v2,uE,rfl,aJ,bg⟩:=ah.cons_inv;obtain rfl:=bg.gv;obtain rfl:=aa.eh;cases aJ with
  |bX ax ag=>
  obtain rfl:=ax.gv;obtain rfl:=ag.gv;refine(Tryz.strings_FieldsFunc_runes 104 #[] Tryz.call104 (fun x=>x==32) s w af (fun W x _ _=>XS W x)).mono ?_;rintro e w' ⟨A,rfl,gj,gp,ae⟩;refine⟨_,(e3 s).map Value.string,rfl, ?_, ?_,rfl,ae⟩
  ·rw[List.length_map];exact gp
  rw[List.all_eq_true];intro v ak;obtain⟨t,_,rfl⟩:=List.mem_map.1 ak;rfl
 rintro e σ' ⟨o,xs,rfl,aq,rfl,rfl⟩;have hm:((e3 s).map Value.string).map D.v=(e3 s).map ab:=by rw[List.map_map];rfl
 rw[hm]at aq⊢;exact⟨o,aq,rfl,rfl⟩
def oX (ws:List ByteArray) (i:Nat):Bool:=match ws[i]? with
 |some n=>dt (a' n)&& !((ws.take i).any fun s=>n.toList==s.toList)
 |none=>true
def gf (ws:List ByteArray) (dep:ByteArray):Option (List ByteArray×ByteArray):=if(∀i<ws.length,oX ws i=true)∧0<ws.length then some (ws,dep)else none
def gx (ws:List ByteArray):Option (List ByteArray×ByteArray):=
 match ws.findIdx? (fun s=>(⟨#[58]⟩:ByteArray).toList==s.toList)with
 |some k=>if k+2=ws.length∧dt (a' (ws.getD (k+1) ⟨#[]⟩))=true then gf (ws.take k) (ws.getD (k+1) ⟨#[]⟩)else none
 |none=>gf ws ⟨#[]⟩
theorem Vb (ws:List ByteArray) (aA:ws.length<2^40) (fW:∀s∈ws,s.size<2^40) (σ:al):
  AC Tryz.prog 105 [.ai (ws.map ab)] σ (pa (gx ws) (fun x e σ'=>e= .ret (.bd [.ai (x.1.map ab), .v (.string x.2)])∧σ'=σ) σ):=by
 have bn:(ws.map ab).length=ws.length:=List.length_map ..;refine AC.bI Tryz.func105 Tryz.ntmps105 fun C ar=> ?_;cases aj:ws.findIdx? (fun s=>(⟨#[58]⟩:ByteArray).toList==s.toList)with
 |none=>
  have hi:fE (fun s:ByteArray=>(⟨#[58]⟩:ByteArray).toList==s.toList) ws=-1:=by unfold fE;rw[aj]
  have aH:gx ws=gf ws ⟨#[]⟩:=by unfold gx;rw[aj]
  rw[aH]at ar;refine j.J (j.rg [0] fun K I=> ?_);simp only[go_sem];apply I;refine j.J (j.rg [0,3] fun K I=> ?_);simp only[go_sem];refine⟨_,Tryz.call89,(ua ws ⟨#[58]⟩ _ aA).mono ?_⟩;rintro e σ1 ⟨rfl,rfl⟩;simp only[go_sem,hi];apply I;refine j.J (j.J (j.rg [0,3,4] fun K I=> ?_));simp only[go_sem];apply I;refine j.bJ rfl (j.aN (j.J (j.J (j.rg [0,3] fun K I=> ?_))));simp only[go_sem,bn];apply I;refine j.aG ?_;refine j.rebase [0,3,33,34,35] ?_;simp only[go_sem];refine j.while (fun(i:Nat) env' aS=>(i≤ws.length∧∀U<i,oX ws U=true)∧env'=[(0, .ai (ws.map ab)),(3, .v (.string ⟨#[]⟩)),(33, .ai (ws.map ab)),(34, .v (.int .i64 (ws.length:Int))),(35, .v (.int .i64 (i:Int)))]∧σ1=aS) (fun(i:Nat)=>ws.length-i) 0 ⟨⟨Nat.zero_le _,fun U aR=>absurd aR (by omega)⟩,rfl,rfl⟩ ?_;rintro i env' aS ⟨⟨kG,b0⟩,rfl,rfl⟩ aB;have cH:=aB;refine j.J (j.rg [0,3,33,34,35] fun K I=> ?_);simp only[go_sem];apply I;refine j.J ?_;refine j.cond rfl (fun dx=> ?_) (fun dx=> ?_)
  ·have aC:i<ws.length:=by simpa using dx
   have aq:=b6 ab ws i aC;rw[ab]at aq;have bf:(0:Int)≤(i:Int):=by omega
   have bp:(i:Int)<(ws.length:Int):=by omega
   have bU:=fW _ (List.getElem_mem aC);have cc:oX ws i=(dt (a' ws[i])&& !((ws.take i).any fun s=>ws[i].toList==s.toList)):=by unfold oX;rw[List.getElem?_eq_getElem aC]
   have cv:(ws.map ab).take i=(ws.take i).map ab:=(List.map_take ..).symm;refine j.aN (j.J (j.aG (j.J (j.rg [0,3,33,34,35] fun K I=> ?_))));simp only[go_sem,bn,aq,bf,bp];apply I;rcases(by cases dt (a' ws[i])<;>cases((ws.take i).any fun s=>ws[i].toList==s.toList)<;>simp:dt (a' ws[i])=false∨(dt (a' ws[i])=true∧((ws.take i).any fun s=>ws[i].toList==s.toList)=true)∨(dt (a' ws[i])=true∧((ws.take i).any fun s=>ws[i].toList==s.toList)=false))with ao|⟨ao,bb⟩|⟨ao,bb⟩
   ·refine j.rg [0,3,5,6,33,34,35] fun K I=> ?_;simp only[go_sem,cv];refine a1 Tryz.call113 (nP _ bU _) ?_;simp only[go_sem,ao];refine⟨_,Tryz.call81,(eE false _).mono ?_⟩;rintro e σ1 ⟨rfl,rfl⟩;simp only[go_sem];refine cK.of ar Tryz.func105 ?_;rw[show gf ws ⟨#[]⟩=none from if_neg fun h=>by have:=h.1 i aC;rw[cc,ao]at this;cases this]
    exact⟨rfl,aQ.refl _⟩
   ·refine j.rg [0,3,5,6,33,34,35] fun K I=> ?_;simp only[go_sem,cv];refine a1 Tryz.call113 (nP _ bU _) ?_;simp only[go_sem,ao];refine⟨⟨by omega,by omega,fun y aF=>(c' _ y aF).1⟩, ?_⟩;simp only[cv];refine a1 Tryz.call50 (rA (ws.take i) _ _ (by rw[List.length_take];omega)) ?_;simp only[go_sem,bb];refine⟨_,Tryz.call81,(eE false _).mono ?_⟩;rintro e σ1 ⟨rfl,rfl⟩;simp only[go_sem];refine cK.of ar Tryz.func105 ?_;rw[show gf ws ⟨#[]⟩=none from if_neg fun h=>by have:=h.1 i aC;rw[cc,ao,bb]at this;cases this]
    exact⟨rfl,aQ.refl _⟩
   refine j.rg [0,3,5,6,33,34,35] fun K I=> ?_;simp only[go_sem,cv];refine a1 Tryz.call113 (nP _ bU _) ?_;simp only[go_sem,ao];refine⟨⟨by omega,by omega,fun y aF=>(c' _ y aF).1⟩, ?_⟩;simp only[cv];refine a1 Tryz.call50 (rA (ws.take i) _ _ (by rw[List.length_take];omega)) ?_;simp only[go_sem,bb];refine⟨_,Tryz.call81,(eE true _).mono ?_⟩;rintro e σ1 ⟨rfl,rfl⟩;simp only[go_sem];apply I;refine j.ba (j.rg [0,3,33,34,35] fun K I=> ?_);simp only[go_sem];apply I;refine j.rebase [0,3,33,34,35] ?_;simp only[go_sem];rw[bH i (by omega)];exact aB (i+1) _ _ ⟨⟨by omega,fun U aR=>(by rcases Nat.lt_or_ge U i with h|h;(· exact b0 U h);rw[show U=i by omega,cc,ao,bb];rfl)⟩,rfl,rfl⟩ (by omega)
  have cC:i=ws.length:=by simp at dx;omega
  subst cC;refine j.exit rfl (j.J ?_);by_cases aO:0<ws.length
  ·have t':decide ((ws.length:Int)>0)=true:=decide_eq_true (by omega);refine j.rg [0,3] fun K I=> ?_;simp only[go_sem,bn];simp only[t'];refine⟨_,Tryz.call81,(eE true _).mono ?_⟩;rintro e σ1 ⟨rfl,rfl⟩;simp only[go_sem];apply I;refine j.J (j.rg [0,3] fun K I=> ?_);simp only[go_sem];apply I;refine j.ret ar Tryz.func105 (by simp[go_sem]) ?_;simp only[go_sem];rw[show gf ws ⟨#[]⟩=some (ws,⟨#[]⟩)from if_pos ⟨b0,aO⟩];exact⟨rfl,rfl⟩
  have t':decide ((ws.length:Int)>0)=false:=decide_eq_false (by omega);refine j.rg [0,3] fun K I=> ?_;simp only[go_sem,bn];simp only[t'];refine⟨_,Tryz.call81,(eE false _).mono ?_⟩;rintro e σ1 ⟨rfl,rfl⟩;simp only[go_sem];refine cK.of ar Tryz.func105 ?_;rw[show gf ws ⟨#[]⟩=none from if_neg fun h=>aO h.2];exact⟨rfl,aQ.refl _⟩
 |some k=>
  have hi:fE (fun s:ByteArray=>(⟨#[58]⟩:ByteArray).toList==s.toList) ws=(k:Int):=by unfold fE;rw[aj]
  have eO:k<ws.length:=(List.findIdx?_eq_some_iff_getElem.1 aj).1;have dc:decide ((k:Int)≥0)=true:=decide_eq_true (by omega);obtain⟨dep,I3⟩:∃dep,ws.getD (k+1) ⟨#[]⟩=dep:=⟨_,rfl⟩;obtain⟨W,ib⟩:∃W,ws.take k=W:=⟨_,rfl⟩;have aH:gx ws=if k+2=ws.length∧dt (a' dep)=true then gf W dep else none:=by unfold gx;rw[aj,←I3,←ib]
  have oo:(W.map ab).length=W.length:=List.length_map ..;have ace:W.length=k:=by rw[←ib,List.length_take];omega
  have C6:∀s∈W,s.size<2^40:=fun s af=>fW s (List.mem_of_mem_take (by rw[ib];exact af));have iO:IntKind.i64.wrap ((ws.length:Int)-2)=(ws.length:Int)-2:=kt _ (by omega) (by omega);have ki:IntKind.i64.wrap ((k:Int)+1)=((k+1:Nat):Int):=bH k (by omega);by_cases ah:k+2=ws.length
  ·have bW:((k:Int)==(ws.length:Int)-2)=true:=by rw[beq_iff_eq];omega
   have aq:=b6 ab ws (k+1) (by omega);have zX:ws[k+1]'(by omega)=dep:=by rw[←I3,List.getD_eq_getElem?_getD,List.getElem?_eq_getElem (by omega)];rfl
   rw[ab,zX]at aq;have I2:dep.size<2^40:=by rw[←zX];exact fW _ (List.getElem_mem _)
   have bf:(0:Int)≤((k+1:Nat):Int):=by omega
   have bp:((k+1:Nat):Int)<(ws.length:Int):=by omega
   have SR:(ws.map ab).take k=W.map ab:=by rw[←ib,List.map_take]
   cases ao:dt (a' dep)with
   |false=>
    have au:gx ws=none:=by rw[aH];exact if_neg fun h=>by rw[ao]at h;cases h.2
    rw[au]at ar;refine j.J (j.rg [0] fun K I=> ?_);simp only[go_sem];apply I;refine j.J (j.rg [0,3] fun K I=> ?_);simp only[go_sem];refine a1 Tryz.call89 (ua ws ⟨#[58]⟩ _ aA) ?_;simp only[go_sem,hi];apply I;refine j.J (j.J (j.rg [0,3,4] fun K I=> ?_));simp only[go_sem,hi,dc];apply I;refine j.bZ rfl (j.J (j.rg [0,4] fun K I=> ?_));simp only[go_sem,bn,iO,bW,ki,aq,bf,bp];refine a1 Tryz.call113 (nP dep I2 _) ?_;simp only[go_sem,ao];refine⟨_,Tryz.call81,(eE false _).mono ?_⟩;rintro e σ1 ⟨rfl,rfl⟩;simp only[go_sem];exact cK.of ar Tryz.func105 ⟨rfl,aQ.refl _⟩
   |true=>
    have au:gx ws=gf W dep:=by rw[aH];exact if_pos ⟨ah,ao⟩
    rw[au]at ar;refine j.J (j.rg [0] fun K I=> ?_);simp only[go_sem];apply I;refine j.J (j.rg [0,3] fun K I=> ?_);simp only[go_sem];refine⟨_,Tryz.call89,(ua ws ⟨#[58]⟩ _ aA).mono ?_⟩;rintro e σ1 ⟨rfl,rfl⟩;simp only[go_sem,hi];apply I;refine j.J (j.J (j.rg [0,3,4] fun K I=> ?_));simp only[go_sem,hi,dc];apply I;refine j.bZ rfl (j.J (j.rg [0,4] fun K I=> ?_));simp only[go_sem,bn,iO,bW,ki,aq,bf,bp];refine⟨_,Tryz.call113,(nP dep I2 _).mono ?_⟩;rintro e σ1 ⟨rfl,rfl⟩;simp only[go_sem,ao];refine⟨_,Tryz.call81,(eE true _).mono ?_⟩;rintro e σ1 ⟨rfl,rfl⟩;simp only[go_sem];apply I;refine j.draw [0,4] [] [] [] [(0,true),(1,true),(2,true),(3,true),(4,true),(5,true),(6,true),(7,true),(8,true),(9,true)] (by kernel_rfl) (by decide) (by kernel_rfl) fun K I=> ?_;simp only[go_sem,bn,ki,aq,bf,bp,SR];refine⟨⟨by omega,by omega,fun y aF=>(c' _ y aF).1⟩, ?_⟩;apply I;refine j.J (j.J (j.rg [0,3] fun K I=> ?_));simp only[go_sem,oo];apply I;refine j.aG ?_;refine j.rebase [0,3,33,34,35] ?_;simp only[go_sem];refine j.while (fun(i:Nat) env' aS=>(i≤W.length∧∀U<i,oX W U=true)∧env'=[(0, .ai (W.map ab)),(3, .v (.string dep)),(33, .ai (W.map ab)),(34, .v (.int .i64 (W.length:Int))),(35, .v (.int .i64 (i:Int)))]∧σ1=aS) (fun(i:Nat)=>W.length-i) 0 ⟨⟨Nat.zero_le _,fun U aR=>absurd aR (by omega)⟩,rfl,rfl⟩ ?_;rintro i env' aS ⟨⟨kG,b0⟩,rfl,rfl⟩ aB;have cH:=aB;refine j.J (j.rg [0,3,33,34,35] fun K I=> ?_);simp only[go_sem]
    apply I;refine j.J ?_;refine j.cond rfl (fun dx=> ?_) (fun dx=> ?_)
    ·have aC:i<W.length:=by simpa using dx
     have aq:=b6 ab W i aC;rw[ab]at aq;have bf:(0:Int)≤(i:Int):=by omega
     have bp:(i:Int)<(W.length:Int):=by omega
     have bU:=C6 _ (List.getElem_mem aC);have cc:oX W i=(dt (a' W[i])&& !((W.take i).any fun s=>W[i].toList==s.toList)):=by unfold oX;rw[List.getElem?_eq_getElem aC]
     have cv:(W.map ab).take i=(W.take i).map ab:=(List.map_take ..).symm;refine j.aN (j.J (j.aG (j.J (j.rg [0,3,33,34,35] fun K I=> ?_))));simp only[go_sem,oo,aq,bf,bp];apply I;rcases(by cases dt (a' W[i])<;>cases((W.take i).any fun s=>W[i].toList==s.toList)<;>simp:dt (a' W[i])=false∨(dt (a' W[i])=true∧((W.take i).any fun s=>W[i].toList==s.toList)=true)∨(dt (a' W[i])=true∧((W.take i).any fun s=>W[i].toList==s.toList)=false))with ao|⟨ao,bb⟩|⟨ao,bb⟩
     ·refine j.rg [0,3,5,6,33,34,35] fun K I=> ?_;simp only[go_sem,cv];refine a1 Tryz.call113 (nP _ bU _) ?_;simp only[go_sem,ao];refine⟨_,Tryz.call81,(eE false _).mono ?_⟩;rintro e σ1 ⟨rfl,rfl⟩;simp only[go_sem];refine cK.of ar Tryz.func105 ?_;rw[show gf W (dep)=none from if_neg fun h=>by have:=h.1 i aC;rw[cc,ao]at this;cases this]
      exact⟨rfl,aQ.refl _⟩
     ·refine j.rg [0,3,5,6,33,34,35] fun K I=> ?_;simp only[go_sem,cv];refine a1 Tryz.call113 (nP _ bU _) ?_;simp only[go_sem,ao];refine⟨⟨by omega,by omega,fun y aF=>(c' _ y aF).1⟩, ?_⟩;simp only[cv];refine a1 Tryz.call50 (rA (W.take i) _ _ (by rw[List.length_take];omega)) ?_;simp only[go_sem,bb];refine⟨_,Tryz.call81,(eE false _).mono ?_⟩;rintro e σ1 ⟨rfl,rfl⟩;simp only[go_sem];refine cK.of ar Tryz.func105 ?_;rw[show gf W (dep)=none from if_neg fun h=>by have:=h.1 i aC;rw[cc,ao,bb]at this;cases this]
      exact⟨rfl,aQ.refl _⟩
     refine j.rg [0,3,5,6,33,34,35] fun K I=> ?_;simp only[go_sem,cv];refine a1 Tryz.call113 (nP _ bU _) ?_;simp only[go_sem,ao];refine⟨⟨by omega,by omega,fun y aF=>(c' _ y aF).1⟩, ?_⟩;simp only[cv];refine a1 Tryz.call50 (rA (W.take i) _ _ (by rw[List.length_take];omega)) ?_;simp only[go_sem,bb];refine⟨_,Tryz.call81,(eE true _).mono ?_⟩;rintro e σ1 ⟨rfl,rfl⟩;simp only[go_sem];apply I;refine j.ba (j.rg [0,3,33,34,35] fun K I=> ?_);simp only[go_sem];apply I;refine j.rebase [0,3,33,34,35] ?_;simp only[go_sem];rw[bH i (by omega)];exact aB (i+1) _ _ ⟨⟨by omega,fun U aR=>(by rcases Nat.lt_or_ge U i with h|h;(· exact b0 U h);rw[show U=i by omega,cc,ao,bb];rfl)⟩,rfl,rfl⟩ (by omega)
    have cC:i=W.length:=by simp at dx;omega
    subst cC;refine j.exit rfl (j.J ?_);by_cases aO:0<W.length
    ·have t':decide ((W.length:Int)>0)=true:=decide_eq_true (by omega);refine j.rg [0,3] fun K I=> ?_;simp only[go_sem,oo];simp only[t'];refine⟨_,Tryz.call81,(eE true _).mono ?_⟩;rintro e σ1 ⟨rfl,rfl⟩;simp only[go_sem];apply I;refine j.J (j.rg [0,3] fun K I=> ?_);simp only[go_sem];apply I;refine j.ret ar Tryz.func105 (by simp[go_sem]) ?_;simp only[go_sem];rw[show gf W (dep)=some (W,dep)from if_pos ⟨b0,aO⟩];exact⟨rfl,rfl⟩
    have t':decide ((W.length:Int)>0)=false:=decide_eq_false (by omega);refine j.rg [0,3] fun K I=> ?_;simp only[go_sem,oo];simp only[t'];refine⟨_,Tryz.call81,(eE false _).mono ?_⟩;rintro e σ1 ⟨rfl,rfl⟩;simp only[go_sem];refine cK.of ar Tryz.func105 ?_;rw[show gf W (dep)=none from if_neg fun h=>aO h.2];exact⟨rfl,aQ.refl _⟩
  have bW:((k:Int)==(ws.length:Int)-2)=false:=by rw[beq_eq_false_iff_ne];omega
  have au:gx ws=none:=by rw[aH];exact if_neg fun h=>ah h.1
  rw[au]at ar;refine j.J (j.rg [0] fun K I=> ?_);simp only[go_sem];apply I;refine j.J (j.rg [0,3] fun K I=> ?_);simp only[go_sem];refine a1 Tryz.call89 (ua ws ⟨#[58]⟩ _ aA) ?_;simp only[go_sem,hi];apply I;refine j.J (j.J (j.rg [0,3,4] fun K I=> ?_));simp only[go_sem,hi,dc];apply I;refine j.bZ rfl (j.J (j.rg [0,4] fun K I=> ?_));simp only[go_sem,bn,iO,bW];refine⟨_,Tryz.call81,(eE false _).mono ?_⟩;rintro e σ1 ⟨rfl,rfl⟩;simp only[go_sem];exact cK.of ar Tryz.func105 ⟨rfl,aQ.refl _⟩
def e2:List UInt8→List UInt8→List (List UInt8)
 |[],cur=>if cur=[]then []else [cur]
 |c::r,cur=>if c=32 then(if cur=[]then e2 r []else cur::e2 r [])else e2 r (cur++[c])
theorem Gc:∀(m r cur:List UInt8),(∀c∈m,c≠32)→e2 (m++r) cur=e2 r (cur++m)
 |[],r,cur,_=>by simp
 |c::m,r,cur,h=>by
  rw[List.cons_append,e2,if_neg (h c (List.mem_cons_self ..)),Gc m r (cur++[c]) fun x an=>h x (List.mem_cons_of_mem _ an)];simp
theorem OF (n je bP br b3:Nat) (U:Nat) (aR:1≤U) (h:U<(Lib.decodeN n je bP br b3).2):U<n∧128≤(if U=1 then bP else if U=2 then br else b3):=by
 unfold Lib.decodeN at h;split at h
 ·exact absurd h (by simp only;omega)
 split at h
 ·rename_i ag
  split at h
  ·have dq:U=1:=by simp only at h;omega
   subst dq;exact⟨ag.2.1,by rw[if_pos rfl];omega⟩
  exact absurd h (by simp only;omega)
 split at h
 ·rename_i ag
  split at h
  ·rcases(show U=1∨U=2 by simp only at h;omega)with rfl|rfl
   ·exact⟨ag.2.1.1,by rw[if_pos rfl];omega⟩
   exact⟨ag.2.2.1,by rw[if_neg (by decide),if_pos rfl];omega⟩
  exact absurd h (by simp only;omega)
 split at h
 ·rename_i ag
  split at h
  ·rcases(show U=1∨U=2∨U=3 by simp only at h;omega)with rfl|rfl|rfl
   ·exact⟨ag.2.1.1,by rw[if_pos rfl];omega⟩
   ·exact⟨ag.2.2.1.1,by rw[if_neg (by decide),if_pos rfl];omega⟩
   exact⟨ag.2.2.2.1,by rw[if_neg (by decide),if_neg (by decide)];omega⟩
  exact absurd h (by simp only;omega)
 exact absurd h (by simp only;omega)
theorem OI (n je bP br b3:Nat):(Lib.decodeN n je bP br b3).2≤4∧1≤(Lib.decodeN n je bP br b3).2:=by
 unfold Lib.decodeN;repeat' split
 all_goals simp only
 all_goals omega
theorem OJ (l:List UInt8) (i:Nat) (hi:i<l.length) (h:128≤(l.getD i 0).toNat):i+(Utf8.decode (aK l) i).2≤l.length∧1≤(Utf8.decode (aK l) i).2∧∀c∈(l.drop i).take (Utf8.decode (aK l) i).2,c≠32:=by
 have aw:=Lib.decode_at (aK l) i;obtain⟨wy,dK⟩:=OI ((aK l).size-i) ((aK l).get! i).toNat ((aK l).get! (i+1)).toNat ((aK l).get! (i+2)).toNat ((aK l).get! (i+3)).toNat
 rw[←aw]at wy dK;have ag:∀U,1≤U→U<(Utf8.decode (aK l) i).2→U<l.length-i∧128≤(l.getD (i+U) 0).toNat:=fun U aa ah=>by
  rw[aw]at ah;obtain⟨hY,fa⟩:=OF _ _ _ _ _ U aa ah;rw[←aw]at ah;rw[gu]at hY;refine⟨hY, ?_⟩;rw[u4,u4,u4]at fa;have aA:(aK l).data.toList=l:=rfl;rw[aA]at fa;rcases(show U=1∨U=2∨U=3 by omega)with rfl|rfl|rfl
  ·rwa [if_pos rfl]at fa
  ·rwa [if_neg (by omega),if_pos rfl]at fa
  rwa [if_neg (by omega),if_neg (by omega)]at fa
 have hle:i+(Utf8.decode (aK l) i).2≤l.length:=by
  rcases Nat.lt_or_ge 1 (Utf8.decode (aK l) i).2 with hw|hw
  ·have:=(ag ((Utf8.decode (aK l) i).2-1) (by omega) (by omega)).1;omega
  omega
 refine⟨hle,dK,fun c hC=> ?_⟩;obtain⟨U,aR,rfl⟩:=List.getElem_of_mem hC;rw[List.length_take,List.length_drop]at aR;rw[List.getElem_take,List.getElem_drop];have ae:128≤(l.getD (i+U) 0).toNat:=by
  rcases Nat.eq_zero_or_pos U with rfl|aP
  ·exact h
  exact(ag U aP (by omega)).2
 rw[dC l (i+U) 0 (by omega)]at ae;intro e;rw[e]at ae;exact absurd ae (by decide)
theorem XT (l:List UInt8):∀(f pos:Nat) (st:Option Nat) (acc:List (Nat×Nat)),l.length≤f+pos→pos≤l.length→(∀a,st=some a→a<pos)→
  (Lib.closeSpans (aK l) (Lib.spansFromP (fun x=>x==32) (aK l) f pos st acc)).map (fun x=>(aK l).extract x.1 x.2)=acc.map (fun x=>(aK l).extract x.1 x.2)++(e2 (l.drop pos) ((st.map fun a=>(l.take pos).drop a).getD [])).map aK:=by
 have c1:∀(pos:Nat) (st:Option Nat) (acc:List (Nat×Nat)),pos=l.length→(∀a,st=some a→a<pos)→(Lib.closeSpans (aK l) (acc,st)).map (fun x=>(aK l).extract x.1 x.2)=acc.map (fun x=>(aK l).extract x.1 x.2)++(e2 (l.drop pos) ((st.map fun a=>(l.take pos).drop a).getD [])).map aK:=fun pos st acc aP aL=>by
  subst aP;rw[List.drop_length];cases st with
  |none=>
   simp[Lib.closeSpans,e2]
  |some a=>
   have:=aL a rfl;have aZ:(l.take l.length).drop a≠[]:=fun h=>by
    have:=congrArg List.length h;rw[List.length_drop,List.length_take,List.length_nil]at this;omega
   simp only[Lib.closeSpans,Option.map_some,Option.getD_some,e2,if_neg aZ,List.map_append,List.map_cons,List.map_nil];rw[oT,gu]
 intro f;induction f with
 |zero=>
  intro pos st acc aa ah aJ;exact c1 pos st acc (by omega) aJ
 |succ f aB=>
  intro pos st acc aa ah aJ;unfold Lib.spansFromP;rcases Nat.lt_or_ge pos l.length with aC|dQ
  ·rw[if_pos (by rw[gu];exact aC)];have eK:l.getD pos 0=l[pos]:=dC l pos 0 aC;have ei:(aK l).data.toList=l:=rfl;have xD:=List.drop_eq_getElem_cons aC;rcases Nat.lt_or_ge l[pos].toNat 128 with ae|ae
   ·have aw:=Hj (aK l) pos (by rw[ei,eK];exact ae);rw[ei,eK]at aw;rw[aw];simp only;by_cases iB:l[pos]=32
    ·have aP:(l[pos].toNat==32)=true:=by rw[iB];rfl
     rw[if_pos aP,xD,e2,if_pos iB];cases st with
     |none=>
      rw[aB (pos+1) none acc (by omega) (by omega) (fun a h=>by cases h)];simp
     |some a=>
      have bb:=aJ a rfl;have aZ:(l.take pos).drop a≠[]:=fun h=>by
       have:=congrArg List.length h;rw[List.length_drop,List.length_take,List.length_nil]at this;omega
      rw[aB (pos+1) none _ (by omega) (by omega) (fun a h=>by cases h)];simp only[Option.map_some,Option.getD_some,if_neg aZ,List.map_append,List.map_cons,List.map_nil,List.append_assoc,List.cons_append,List.nil_append,Option.map_none,Option.getD_none];rw[oT]
    have aP:(l[pos].toNat==32)=false:=by
     rw[beq_eq_false_iff_ne];intro h;exact iB (UInt8.toNat_inj.1 h)
    rw[if_neg (by rw[aP];decide),xD,e2,if_neg iB]
    cases st with
    |none=>
     rw[aB (pos+1) (some pos) acc (by omega) (by omega) (fun a h=>by cases h;omega)];congr 2
     simp only[Option.map_some,Option.getD_some,Option.map_none,Option.getD_none,List.nil_append];congr 1
     rw[List.take_succ_eq_append_getElem aC,List.drop_append_of_le_length (by rw[List.length_take];omega),List.drop_of_length_le (by rw[List.length_take];omega)];rfl
    |some a=>
     have bb:=aJ a rfl;rw[aB (pos+1) (some a) acc (by omega) (by omega) (fun b h=>by cases h;omega)];congr 2
     simp only[Option.map_some,Option.getD_some];congr 1
     rw[List.take_succ_eq_append_getElem aC,List.drop_append_of_le_length (by rw[List.length_take];omega)]
   obtain⟨mh,nb,c3⟩:=OJ l pos aC (by rw[eK];exact ae);have aq:=Hi (aK l) pos (by rw[ei,eK];exact ae);obtain⟨wd,Av⟩:∃wd,wd=(Utf8.decode (aK l) pos).2:=⟨_,rfl⟩;rw[←Av]at mh nb c3⊢;have aP:((Utf8.decode (aK l) pos).1==32)=false:=by rw[beq_eq_false_iff_ne];omega
   rw[if_neg (by rw[aP];decide)]
   have J5:l.drop pos=(l.drop pos).take wd++l.drop (pos+wd):=by
    rw[←List.drop_drop,List.take_append_drop]
   have I0:∀a,a≤pos→(l.take (pos+wd)).drop a=(l.take pos).drop a++(l.drop pos).take wd:=fun a bb=>by
    rw[List.take_add,List.drop_append_of_le_length (by rw[List.length_take];omega)]
   cases st with
   |none=>
    rw[aB (pos+wd) (some pos) acc (by omega) (by omega) (fun a h=>by cases h;omega)];congr 2
    conv=>rhs;rw[J5]
    rw[Gc _ _ _ c3];simp only[Option.map_some,Option.getD_some,Option.map_none,Option.getD_none,List.nil_append];congr 1
    rw[I0 pos (Nat.le_refl _),List.drop_of_length_le (by rw[List.length_take];omega)];rfl
   |some a=>
    have bb:=aJ a rfl;rw[aB (pos+wd) (some a) acc (by omega) (by omega) (fun b h=>by cases h;omega)];congr 2
    conv=>rhs;rw[J5]
    rw[Gc _ _ _ c3];simp only[Option.map_some,Option.getD_some];congr 1
    exact I0 a (by omega)
  rw[if_neg (by rw[gu];omega)];exact c1 pos st acc (by omega) aJ
theorem BF (l:List UInt8):e3 (aK l)=(e2 l []).map aK:=by
 have:=XT l (aK l).size 0 none [] (by rw[gu];omega) (Nat.zero_le _) (fun a h=>by cases h);simpa [e3,Lib.goFieldsP,Lib.spansOfP]using this
theorem BE {l:List UInt8} {i a:Nat} {ws:List (List UInt8)} (hi:i≤l.length) (iB:∀h:i<l.length,l[i]=32) (hinv:e2 l []=ws++e2 (l.drop i) ((l.take i).drop a)):
  (i+1≤l.length→e2 l []=(ws++if(l.take i).drop a=[]then []else [(l.take i).drop a])++e2 (l.drop (i+1)) ((l.take (i+1)).drop (i+1)))∧(i+1=l.length+1→e2 l []=ws++if(l.take i).drop a=[]then []else [(l.take i).drop a]):=by
 constructor
 ·intro h;have aC:i<l.length:=h;have bj:(l.take (i+1)).drop (i+1)=[]:=List.drop_of_length_le (by rw[List.length_take];omega);rw[hinv,List.drop_eq_getElem_cons aC,e2,if_pos (iB aC),bj];split
  ·simp
  simp
 intro h;rw[hinv,List.drop_of_length_le (by omega),e2]
theorem Wk (l:List UInt8) (af:l.length<2^36):
  AC Tryz.prog 115 [.v (.string (aK l))] [] (fun e σ'=>∃o,aV o 1 ((e2 l []).map ez) []∧e= .ret (.own o 1 (e2 l []).length)∧σ'=cellsOf o 1 ((e2 l []).map ez)++[]):=by
 have bU:=gu l;have kF:(aK l).data.toList=l:=rfl;refine AC.bI Tryz.func115 Tryz.ntmps115 fun C ar=> ?_;refine j.J (j.rg [0] fun K I=> ?_);simp only[go_sem];apply I;refine j.J (j.rg [0] fun K I=> ?_);simp only[go_sem];apply I;refine j.J (j.rg [0,3] fun K I=> ?_);simp only[go_sem];apply I;refine j.J (j.J (j.rg [0,3,4] fun K I=> ?_));simp only[go_sem];apply I;refine j.aG (j.im 3 1 rfl ?_);refine j.rebase [0,3,4,5] ?_;simp only[go_sem];refine j.while (fun(i:Nat) env' aS=>∃(o:Option Nat) (ws:List (List UInt8)) (a:Nat),(i≤l.length+1∧a≤i∧aV o 1 (ws.map ez) []∧ws.length≤i∧(i≤l.length→e2 l []=ws++e2 (l.drop i) ((l.take i).drop a))∧(i=l.length+1→e2 l []=ws))∧env'=[(0, .v (.string (aK l))),(3, .own o 1 ws.length),(4, .v (.int .i64 (a:Int))),(5, .v (.int .i64 (i:Int)))]∧aS=cellsOf o 1 (ws.map ez)) (fun(i:Nat)=>l.length+1-i) 0 ⟨none,[],0,⟨by omega,by omega,aV.nil _ _,by decide,fun _=>by simp,fun h=>by omega⟩,rfl,rfl⟩ ?_;rintro i env' aS ⟨o,ws,a,⟨lQ,bb,aT,Aw,DF,cT⟩,rfl,rfl⟩ aB;have cH:=aB;refine j.J (j.J (j.rg [0,3,4,5] fun K I=> ?_));simp only[go_sem,bU];apply I;refine j.cond rfl (fun eM=> ?_) (fun eM=> ?_)
 ·have hi:i≤l.length:=by
   have h:(i:Int)≤(l.length:Int):=by simpa using eM
   omega
  have hinv:=DF hi;refine j.aN (j.J (j.aG (j.J ?_)));rcases(show(∃h:i<l.length,l[i]≠32)∨(∃h:i<l.length,l[i]=32)∨i=l.length from by
   rcases Nat.lt_or_ge i l.length with h|h
   ·by_cases bg:l[i]=32
    ·exact .inr (.inl ⟨h,bg⟩)
    exact .inl ⟨h,bg⟩
   exact .inr (.inr (by omega)))with⟨aC,aZ⟩|⟨aC,he⟩|he
  ·have d1:((i:Int)==(l.length:Int))=false:=by rw[beq_eq_false_iff_ne];omega
   have bf:(0:Int)≤(i:Int):=by omega
   have bp:(i:Int)<(l.length:Int):=by omega
   have aq:l.getD i 0=l[i]:=dC l i 0 aC;have k0:((l[i].toNat:Int)==32)=false:=by
    rw[beq_eq_false_iff_ne];intro h;exact aZ (UInt8.toNat_inj.1 (by show l[i].toNat=32;omega))
   refine j.rg [0,3,4,5] fun K I=> ?_;simp only[go_sem,bU,kF,aq,bf,bp,bD,d1,k0];apply I;refine j.bJ rfl (j.aN (j.ba (j.rg [0,3,4,5] fun K I=> ?_)));simp only[go_sem];apply I;refine j.rebase [0,3,4,5] ?_;simp only[go_sem];rw[bH i (by omega)];refine aB (i+1) _ _ ⟨o,ws,a,⟨by omega,by omega,aT,by omega,fun _=> ?_,fun h=>by omega⟩,rfl,rfl⟩ (by omega);rw[hinv,List.drop_eq_getElem_cons aC,e2,if_neg aZ,List.take_succ_eq_append_getElem aC,List.drop_append_of_le_length (by rw[List.length_take];omega)]
  ·have d1:((i:Int)==(l.length:Int))=false:=by rw[beq_eq_false_iff_ne];omega
   have bf:(0:Int)≤(i:Int):=by omega
   have bp:(i:Int)<(l.length:Int):=by omega
   have aq:l.getD i 0=l[i]:=dC l i 0 aC;have k0:((l[i].toNat:Int)==32)=true:=by rw[he];rfl
   have iB:∀h:i<l.length,l[i]=32:=fun _=>he;refine j.rg [0,3,4,5] fun K I=> ?_;simp only[go_sem,bU,kF,aq,bf,bp,bD,d1,k0];apply I;refine j.bZ rfl (j.J (j.J ?_));rcases Nat.lt_or_ge a i with py|py
   ·have d9:decide ((i:Int)>(a:Int))=true:=decide_eq_true (by omega);refine j.rg [0,3,4,5] fun K I=> ?_;simp only[go_sem,d9];apply I;refine j.bZ rfl ?_;have mK:=aT.bL;have kg:=aT.cB;rw[List.append_nil]at mK kg;have hex:(aK l).extract a i=aK ((l.take i).drop a):=oT l a i;have kD:(0:Int)≤(a:Int):=by omega
    have C_:(a:Int)≤(i:Int):=by omega
    have jm:(i:Int)≤(l.length:Int):=by omega
    have cv:List.take ws.length (ws.map ez)=ws.map ez:=List.take_of_length_le (by simp);have dW:(ws.map ez).length=ws.length:=List.length_map ..;refine j.fw [0,3,4,5] [30] fun K I=> ?_;simp only[go_sem,bU,hex,kD,C_,jm,mK,kg,cv,dW];refine⟨by decide,⟨Nat.le_refl _,fun y aF=>by rw[aF];exact⟨rfl,rfl⟩,by omega,by omega⟩,fun ob aO ax=> ?_⟩;have sV:ws.map ez++[D.v (.string (aK ((l.take i).drop a)))]=(ws++[(l.take i).drop a]).map ez:=by rw[List.map_append];rfl
    rw[sV]at aO⊢;apply I;refine j.rg [0,3,5] fun K I=> ?_;simp only[go_sem];apply I;refine j.ba (j.rg [0,3,4,5] fun K I=> ?_);simp only[go_sem];apply I;refine j.rebase [0,3,4,5] ?_;simp only[go_sem];rw[bH i (by omega)];have aL:=BE hi iB hinv;rw[if_neg (fun h=>by have:=congrArg List.length h;rw[List.length_drop,List.length_take,List.length_nil]at this;omega)]at aL;exact aB (i+1) _ _ ⟨ob,ws++[(l.take i).drop a],i+1,⟨by omega,by omega,⟨ax,aO⟩,by simp;omega,aL.1,aL.2⟩,by rw[List.length_map],rfl⟩ (by omega)
   have d9:decide ((i:Int)>(a:Int))=false:=decide_eq_false (by omega);refine j.rg [0,3,4,5] fun K I=> ?_;simp only[go_sem,d9];apply I;refine j.bJ rfl (j.aN (j.rg [0,3,5] fun K I=> ?_));simp only[go_sem];apply I;refine j.ba (j.rg [0,3,4,5] fun K I=> ?_);simp only[go_sem];apply I;refine j.rebase [0,3,4,5] ?_;simp only[go_sem];rw[bH i (by omega)];have aL:=BE hi iB hinv;rw[if_pos (List.drop_of_length_le (by rw[List.length_take];omega)),List.append_nil]at aL;exact aB (i+1) _ _ ⟨o,ws,i+1,⟨by omega,by omega,aT,by omega,aL.1,aL.2⟩,rfl,rfl⟩ (by omega)
  have d1:((i:Int)==(l.length:Int))=true:=by rw[he];simp
  have iB:∀h:i<l.length,l[i]=32:=fun h=>by omega
  refine j.rg [0,3,4,5] fun K I=> ?_;simp only[go_sem,bU,d1];apply I;refine j.bZ rfl (j.J (j.J ?_));rcases Nat.lt_or_ge a i with py|py
  ·have d9:decide ((i:Int)>(a:Int))=true:=decide_eq_true (by omega);refine j.rg [0,3,4,5] fun K I=> ?_;simp only[go_sem,d9];apply I;refine j.bZ rfl ?_;have mK:=aT.bL;have kg:=aT.cB;rw[List.append_nil]at mK kg;have hex:(aK l).extract a i=aK ((l.take i).drop a):=oT l a i;have kD:(0:Int)≤(a:Int):=by omega
   have C_:(a:Int)≤(i:Int):=by omega
   have jm:(i:Int)≤(l.length:Int):=by omega
   have cv:List.take ws.length (ws.map ez)=ws.map ez:=List.take_of_length_le (by simp);have dW:(ws.map ez).length=ws.length:=List.length_map ..;refine j.fw [0,3,4,5] [30] fun K I=> ?_;simp only[go_sem,bU,hex,kD,C_,jm,mK,kg,cv,dW];refine⟨by decide,⟨Nat.le_refl _,fun y aF=>by rw[aF];exact⟨rfl,rfl⟩,by omega,by omega⟩,fun ob aO ax=> ?_⟩;have sV:ws.map ez++[D.v (.string (aK ((l.take i).drop a)))]=(ws++[(l.take i).drop a]).map ez:=by rw[List.map_append];rfl
   rw[sV]at aO⊢;apply I;refine j.rg [0,3,5] fun K I=> ?_;simp only[go_sem];apply I;refine j.ba (j.rg [0,3,4,5] fun K I=> ?_);simp only[go_sem];apply I;refine j.rebase [0,3,4,5] ?_;simp only[go_sem];rw[bH i (by omega)];have aL:=BE hi iB hinv;rw[if_neg (fun h=>by have:=congrArg List.length h;rw[List.length_drop,List.length_take,List.length_nil]at this;omega)]at aL;exact aB (i+1) _ _ ⟨ob,ws++[(l.take i).drop a],i+1,⟨by omega,by omega,⟨ax,aO⟩,by simp;omega,aL.1,aL.2⟩,by rw[List.length_map],rfl⟩ (by omega)
  have d9:decide ((i:Int)>(a:Int))=false:=decide_eq_false (by omega);refine j.rg [0,3,4,5] fun K I=> ?_;simp only[go_sem,d9];apply I;refine j.bJ rfl (j.aN (j.rg [0,3,5] fun K I=> ?_));simp only[go_sem];apply I;refine j.ba (j.rg [0,3,4,5] fun K I=> ?_);simp only[go_sem];apply I;refine j.rebase [0,3,4,5] ?_;simp only[go_sem];rw[bH i (by omega)];have aL:=BE hi iB hinv;rw[if_pos (List.drop_of_length_le (by rw[List.length_take];omega)),List.append_nil]at aL;exact aB (i+1) _ _ ⟨o,ws,i+1,⟨by omega,by omega,aT,by omega,aL.1,aL.2⟩,rfl,rfl⟩ (by omega)
 have cC:i=l.length+1:=by
  have h:¬(i:Int)≤(l.length:Int):=by simpa using eM
  omega
 have ch:=cT cC;refine j.exit rfl (j.J (j.rg [3] fun K I=> ?_));simp only[go_sem];apply I;refine j.ret ar Tryz.func115 (by simp[go_sem]) ?_;simp only[go_sem];exact⟨o,by rw[ch];exact aT,by rw[ch],by rw[ch]⟩
theorem Wj (l:List UInt8) (af:l.length<2^36) (σ:al):
  AC Tryz.prog 115 [.v (.string (aK l))] σ (fun e σ'=>e= .ret (.ai ((e3 (aK l)).map ab))∧σ'=σ):=by
 have hm:(e3 (aK l)).map ab=(e2 l []).map ez:=by rw[BF,List.map_map];rfl
 rw[hm];refine AC.q5 (sz:=1) ((Wk l af).mono ?_) σ;rintro e σ' ⟨o,aT,rfl,rfl⟩;exact⟨o,aT,by rw[List.length_map],rfl⟩
theorem Ps (s:ByteArray) (af:s.size≤4294967296) (σ:al):AC Tryz.prog 103 [.v (.string s), .bX (.func 104) [] []] σ (fun e σ'=>e= .ret (.ai ((e3 s).map ab))∧σ'=σ):=
 AC.q5 ((Pt s af []).mono fun e σ' ⟨o,aq,he,af⟩=>⟨o,aq,he,by rw[af]⟩) σ
def Az:Option TypeDesc→Bool
 |some (.func _ _ _)=>true
 |_=>false
structure kU where
 verb:ByteArray
 args:List ByteArray
 once:Bool
 outs:List ByteArray
 dep:ByteArray
def kU.d (s:kU):D:= .bd [.v (.string s.verb), .ai (s.args.map ab), .v (.bool s.once), .ai (s.outs.map ab), .v (.string s.dep)]
theorem Pd {P:Program} {T:TypeId} (h:Az (P.underlying T)=true) (d:Nat):gy P (Op.equalIn (d+1) T .nilFunc .nilFunc)=some true:=by
 have:∃a b c,P.underlying T=some (.func a b c):=by
  unfold Az at h;split at h
  ·exact⟨_,_,_,by assumption⟩
  cases h
 obtain⟨a,b,c,hu⟩:=this;simp only[Op.equalIn,nI,yt,hu,Option.bind_some,fN]
theorem Pf {P:Program} {T:TypeId} (h:Az (P.underlying T)=true):gy P (Op.equal T .nilFunc .nilFunc)=some true:=Pd h 9999
theorem NW (P:Program) (T:TypeId) (x y:Operand) (h:Az (P.underlying T)=true):cF P .neq T x y (.v .nilFunc) (.v .nilFunc)= .val True (.v (.bool false)):=by
 simp[cF,ifcNil,fQ,cJ,dJ,eqGuard,binOp,okV,cx,fN,nI,yr,Pf h]
theorem NX (x y:Operand):cF Tryz.prog .neq 131 x y (.v .nilFunc) (.v .nilFunc)= .val True (.v (.bool false)):=NW _ _ _ _ (by kernel_rfl)
theorem Yt (verb:List UInt8) (ak:hn verb=true):∃g,e' (.string (aK verb)) hq=some (.bX (.func g) [] []):=by
 have key:verb=[99,97,116]∨verb=[114,101,118]∨verb=[115,117,109]∨verb=[112,117,116]∨verb=[105,110,99]∨verb=[102,97,105,108]:=by simpa [hn]using ak
 rcases key with rfl|rfl|rfl|rfl|rfl|rfl
 ·exact⟨_,(by kernel_rfl:e' (.string (aK [99,97,116])) hq=some (.bX (.func 106) [] []))⟩
 ·exact⟨_,(by kernel_rfl:e' (.string (aK [114,101,118])) hq=some (.bX (.func 107) [] []))⟩
 ·exact⟨_,(by kernel_rfl:e' (.string (aK [115,117,109])) hq=some (.bX (.func 108) [] []))⟩
 ·exact⟨_,(by kernel_rfl:e' (.string (aK [112,117,116])) hq=some (.bX (.func 109) [] []))⟩
 ·exact⟨_,(by kernel_rfl:e' (.string (aK [105,110,99])) hq=some (.bX (.func 110) [] []))⟩
 exact⟨_,(by kernel_rfl:e' (.string (aK [102,97,105,108])) hq=some (.bX (.func 111) [] []))⟩
theorem By (s:ByteArray):kK .string (.string s) (.string s)=true∧∀e∈hq,kK .string (.string s) e.1=true:=⟨rfl,uK Yu s⟩
def nE (ws:List ByteArray):Bool:=match ws with|w::_=>w.toList==(⟨#[111,110,99,101]⟩:ByteArray).toList|[]=>false
def lp (once:Bool) (ws:List ByteArray):Option kU:=
 match ws.findIdx? (fun s=>(⟨#[62]⟩:ByteArray).toList==s.toList)with
 |some (k+1)=>if hn (a' (ws.getD 0 ⟨#[]⟩))=true then
   match gx (ws.drop (k+2))with
   |some (outs,dep)=>if(!(dep.toList==(⟨#[]⟩:ByteArray).toList))=((ws.getD 0 ⟨#[]⟩).toList==(⟨#[105,110,99]⟩:ByteArray).toList)then some ⟨ws.getD 0 ⟨#[]⟩,(ws.take (k+1)).drop 1,once,outs,dep⟩else none
   |none=>none
  else none
 |_=>none
def h1 (s:ByteArray):Option kU:=if nE (e3 s)=true then lp true ((e3 s).drop 1)else lp false (e3 s)
set_option maxHeartbeats 4000000 in
theorem XA (s:ByteArray) (af:s.size≤4294967296) (aA:(e3 s).length<2^40) (fW:∀w∈e3 s,w.size<2^40) (σ:al):
  AC Tryz.prog 79 [.v (.string s)] σ (pa (h1 s) (fun x e σ'=>e= .ret x.d∧σ'=σ) σ):=by
 have bn:((e3 s).map ab).length=(e3 s).length:=List.length_map ..;refine AC.bI Tryz.func79 Tryz.ntmps79 fun C ar=> ?_;refine j.J (j.rg [0] fun K I=> ?_);simp only[go_sem];apply I;refine j.J (j.rg [0,4] fun K I=> ?_);simp only[go_sem];refine⟨_,Tryz.call103,(Ps s af _).mono ?_⟩;rintro e σ1 ⟨rfl,rfl⟩;simp only[go_sem];apply I;refine j.J (j.J ?_);rcases hw:e3 s with _|⟨w,ws⟩
 ·have fD:h1 s=none:=by unfold h1;rw[hw];rfl
  refine j.rg [4,7] fun K I=> ?_;simp only[go_sem];apply I;refine j.bJ rfl (j.aN (j.J (j.rg [4,7] fun K I=> ?_)));simp only[go_sem];refine a1 Tryz.call89 (ua [] ⟨#[62]⟩ _ (by simp)) ?_;simp only[go_sem];apply I;refine j.J ?_;refine j.draw [4,7,8] [] [] [] [(0,true),(1,true),(2,true),(4,true),(5,true),(6,true),(3,false),(7,true),(8,true),(9,true),(10,false)] (by kernel_rfl) (by decide) (by kernel_rfl) fun K I=> ?_;simp only[go_sem];refine⟨_,Tryz.call81,(eE false _).mono ?_⟩;rintro e σ1 ⟨rfl,rfl⟩;simp only[go_sem];refine cK.of ar Tryz.func79 ?_;rw[fD];exact⟨rfl,aQ.refl _⟩
 have jn:decide (((ws.map ab).length+1:Nat)>(0:Int))=true:=decide_eq_true (by omega);have sc:(ab w).cells=[.v (.string w)]:=rfl;refine j.rg [4,7] fun K I=> ?_;simp only[go_sem,List.map_cons,List.length_cons,jn,sc];refine⟨by omega, ?_⟩;apply I;refine j.join (fun env' σ'=>∃once ws,env'=[(4, .v (.bool once)),(7, .ai (ws.map ab))]∧σ'=σ1∧h1 s=lp once ws∧ws.length<2^40∧∀w∈ws,w.size<2^40) (fun k1 cb=> ?_) ?_
 ·refine j.cond rfl (fun eW=> ?_) (fun eW=> ?_)
  ·refine j.draw [7] [] [] [] [(0,true),(1,true),(2,true),(3,true)] (by kernel_rfl) (by decide) (by kernel_rfl) fun K I=> ?_;simp only[go_sem];refine⟨⟨by omega,by omega,fun y aF=>(c' (w::ws) y (List.mem_cons.2 aF)).1⟩, ?_⟩;apply I;refine j.rebase [4,7] ?_;simp only[go_sem];have aH:nE (w::ws)=true:=eW;refine cb _ _ ⟨true,ws, ?_,rfl, ?_, ?_,fun x an=>fW x (by rw[hw];simp[an])⟩
   ·rw[List.take_of_length_le (by simp)]
   ·unfold h1;rw[hw,if_pos aH];rfl
   rw[hw]at aA;simp at aA;omega
  refine j.aN ?_;refine j.rebase [4,7] ?_;simp only[go_sem];have aH:¬nE (w::ws)=true:=by
   intro h;have ah:(w.toList==(⟨#[111,110,99,101]⟩:ByteArray).toList)=false:=eW;change(w.toList==(⟨#[111,110,99,101]⟩:ByteArray).toList)=true at h;rw[ah]at h;cases h
  refine cb _ _ ⟨false,w::ws,rfl,rfl, ?_, ?_,fun x an=>fW x (by rw[hw];exact an)⟩
  ·unfold h1;rw[hw,if_neg aH]
  rw[hw]at aA;exact aA
 rintro env' σ' ⟨once,W,rfl,rfl,fD,oo,C6⟩;refine j.J ?_;have qo:(W.map ab).length=W.length:=List.length_map ..;refine j.rg [4,7] fun K I=> ?_;simp only[go_sem];refine a1 Tryz.call89 (ua W ⟨#[62]⟩ _ oo) ?_;simp only[go_sem];apply I;refine j.J ?_;rcases(show(W.findIdx? (fun s=>(⟨#[62]⟩:ByteArray).toList==s.toList)=none)∨(W.findIdx? (fun s=>(⟨#[62]⟩:ByteArray).toList==s.toList)=some 0)∨(∃k,W.findIdx? (fun s=>(⟨#[62]⟩:ByteArray).toList==s.toList)=some (k+1)∧hn (a' (W.getD 0 ⟨#[]⟩))=false)∨(∃k,W.findIdx? (fun s=>(⟨#[62]⟩:ByteArray).toList==s.toList)=some (k+1)∧hn (a' (W.getD 0 ⟨#[]⟩))=true)from(by
  cases aj:W.findIdx? (fun s=>(⟨#[62]⟩:ByteArray).toList==s.toList)with
  |none=>exact .inl rfl
  |some k=>
   cases k with
   |zero=>exact .inr (.inl rfl)
   |succ k=>
    cases ak:hn (a' (W.getD 0 ⟨#[]⟩))with
    |false=>exact .inr (.inr (.inl ⟨k,rfl,rfl⟩))
    |true=>exact .inr (.inr (.inr ⟨k,rfl,rfl⟩))))with aj|aj|⟨k,aj,ak⟩|⟨k,aj,ak⟩
 ·have hi:fE (fun s:ByteArray=>(⟨#[62]⟩:ByteArray).toList==s.toList) W=-1:=by unfold fE;rw[aj]
  have x4:h1 s=none:=by rw[fD];unfold lp;rw[aj]
  refine j.draw [4,7,8] [] [] [] [(0,true),(1,true),(2,true),(4,true),(5,true),(6,true),(3,false),(7,true),(8,true),(9,true),(10,false)] (by kernel_rfl) (by decide) (by kernel_rfl) fun K I=> ?_;simp only[go_sem,hi];refine⟨_,Tryz.call81,(eE false _).mono ?_⟩;rintro e σ1 ⟨rfl,rfl⟩;simp only[go_sem];refine cK.of ar Tryz.func79 ?_;rw[x4];exact⟨rfl,aQ.refl _⟩
 ·have hi:fE (fun s:ByteArray=>(⟨#[62]⟩:ByteArray).toList==s.toList) W=0:=by unfold fE;rw[aj];rfl
  have x4:h1 s=none:=by rw[fD];unfold lp;rw[aj]
  refine j.draw [4,7,8] [] [] [] [(0,true),(1,true),(2,true),(4,true),(5,true),(6,true),(3,false),(7,true),(8,true),(9,true),(10,false)] (by kernel_rfl) (by decide) (by kernel_rfl) fun K I=> ?_;simp only[go_sem,hi];refine⟨_,Tryz.call81,(eE false _).mono ?_⟩;rintro e σ1 ⟨rfl,rfl⟩;simp only[go_sem];refine cK.of ar Tryz.func79 ?_;rw[x4];exact⟨rfl,aQ.refl _⟩
 ·have hi:fE (fun s:ByteArray=>(⟨#[62]⟩:ByteArray).toList==s.toList) W=((k+1:Nat):Int):=by unfold fE;rw[aj]
  have eO:k+1<W.length:=(List.findIdx?_eq_some_iff_getElem.1 aj).1;have cb:decide (((k+1:Nat):Int)≥1)=true:=decide_eq_true (by omega);have x4:h1 s=none:=by rw[fD];unfold lp;rw[aj];simp only[ak];rfl
  have aq:=b6 ab W 0 (by omega);have bf:(0:Int)<(W.length:Int):=by omega
  have sf:W[0]'(by omega)=W.getD 0 ⟨#[]⟩:=by rw[List.getD_eq_getElem?_getD,List.getElem?_eq_getElem (by omega)];rfl
  rw[ab,sf]at aq;have g_:=Yr (a' (W.getD 0 ⟨#[]⟩)) ak;rw[gr]at g_;refine j.draw [4,7,8] [] [] [] [(0,true),(1,true),(2,true),(4,true),(5,true),(6,true),(3,false),(7,false),(8,true),(9,true),(10,false)] (by kernel_rfl) (by decide) (by kernel_rfl) fun K I=> ?_;simp only[go_sem,hi,cb,qo,aq,bf,g_];refine⟨_,Tryz.call80,(Bx _).mono ?_⟩;rintro e mc ⟨b1,hg,rfl,rfl⟩;simp only[go_sem,qo,aq,bf,g_,NX];refine⟨By _, ?_⟩;refine⟨_,Tryz.call81,(eE false _).mono ?_⟩;rintro e σ1 ⟨rfl,rfl⟩;simp only[go_sem];refine cK.of ar Tryz.func79 ?_;rw[x4];exact⟨rfl,gP (aQ.refl _) hg⟩
 have hi:fE (fun s:ByteArray=>(⟨#[62]⟩:ByteArray).toList==s.toList) W=((k+1:Nat):Int):=by unfold fE;rw[aj]
 have eO:k+1<W.length:=(List.findIdx?_eq_some_iff_getElem.1 aj).1;have cb:decide (((k+1:Nat):Int)≥1)=true:=decide_eq_true (by omega);have aq:=b6 ab W 0 (by omega);have bf:(0:Int)<(W.length:Int):=by omega
 have sf:W[0]'(by omega)=W.getD 0 ⟨#[]⟩:=by rw[List.getD_eq_getElem?_getD,List.getElem?_eq_getElem (by omega)];rfl
 rw[ab,sf]at aq;obtain⟨g,g_⟩:=Yt (a' (W.getD 0 ⟨#[]⟩)) ak;rw[gr]at g_;refine j.draw [4,7,8] [] [] [] [(0,true),(1,true),(2,true),(4,true),(5,true),(6,true),(3,false),(7,false),(8,true),(9,true),(10,false)] (by kernel_rfl) (by decide) (by kernel_rfl) fun K I=> ?_;simp only[go_sem,hi,cb,qo,aq,bf,g_];refine⟨_,Tryz.call80,(Bx _).mono ?_⟩;rintro e mc ⟨b1,hg,rfl,rfl⟩;simp only[go_sem,qo,aq,bf,g_];refine⟨By _, ?_⟩;refine⟨_,Tryz.call81,(eE true _).mono ?_⟩;rintro e σ1 ⟨rfl,rfl⟩;simp only[go_sem];apply I;refine j.le (cn.refl _) (gP (aQ.refl _) hg) ?_;have iO:IntKind.i64.wrap (((k+1:Nat):Int)+1)=((k+2:Nat):Int):=bH (k+1) (by omega);have x7:List.drop (k+2) (W.map ab)=(W.drop (k+2)).map ab:=(List.map_drop ..).symm;have J8:List.take W.length (W.map ab)=W.map ab:=List.take_of_length_le (by simp);have xV:=fun σ=>Vb (W.drop (k+2)) (by rw[List.length_drop];omega) (fun x an=>C6 x (List.mem_of_mem_drop an)) σ;refine j.J ?_;rcases aH:gx (W.drop (k+2))with _|⟨outs,dep⟩
 ·rw[aH]at xV;refine j.rg [4,7,8] fun K I=> ?_;simp only[go_sem,iO,x7,J8,qo];refine⟨⟨by omega,by omega,by omega,fun y aF=>(c' W y aF).1⟩, ?_⟩;refine⟨_,Tryz.call105,(xV _).mono ?_⟩;rintro e YN ⟨rfl,SG⟩;simp only[go_sem];refine cK.of ar Tryz.func79 ?_;rw[show h1 s=none by rw[fD];unfold lp;rw[aj];simp only[ak,aH,if_true]];exact⟨rfl,SG⟩
 rw[aH]at xV;refine j.rg [4,7,8] fun K I=> ?_;simp only[go_sem,iO,x7,J8,qo];refine⟨⟨by omega,by omega,by omega,fun y aF=>(c' W y aF).1⟩, ?_⟩;refine a1 Tryz.call105 (xV _) ?_;simp only[go_sem];apply I;refine j.J ?_;by_cases bW:(!(dep.toList==(⟨#[]⟩:ByteArray).toList))=((W.getD 0 ⟨#[]⟩).toList==(⟨#[105,110,99]⟩:ByteArray).toList)
 ·refine j.rg [4,5,6,7,8] fun K I=> ?_;simp only[go_sem,qo,aq,bf];simp only[bW,BEq.rfl];refine⟨_,Tryz.call81,(eE true _).mono ?_⟩;rintro e σ1 ⟨rfl,rfl⟩;simp only[go_sem];apply I;refine j.J ?_;refine j.draw [4,5,6,7,8] [] [] [] [(0,true),(1,true),(2,true),(3,true),(4,true),(5,true),(6,true),(7,true),(8,true),(9,true),(10,true),(11,true),(12,true),(13,true)] (by kernel_rfl) (by decide) (by kernel_rfl) fun K I=> ?_;simp only[go_sem,qo,aq,bf];have vB:List.drop 1 (List.take (k+1) (W.map ab))=((W.take (k+1)).drop 1).map ab:=by rw[List.map_drop,List.map_take]
  refine⟨⟨by omega,by omega,fun y aF=>(c' W y aF).1⟩, ?_⟩;simp only[vB];apply I;refine j.ret ar Tryz.func79 (by simp[go_sem]) ?_;simp only[go_sem];rw[show h1 s=some ⟨W.getD 0 ⟨#[]⟩,(W.take (k+1)).drop 1,once,outs,dep⟩ by rw[fD];unfold lp;rw[aj];simp only[ak,aH,if_true];exact if_pos bW];exact⟨rfl,rfl⟩
 refine j.rg [4,5,6,7,8] fun K I=> ?_;simp only[go_sem,qo,aq,bf];have lU:((!(dep.toList==(⟨#[]⟩:ByteArray).toList))==((W.getD 0 ⟨#[]⟩).toList==(⟨#[105,110,99]⟩:ByteArray).toList))=false:=by rw[beq_eq_false_iff_ne];exact bW
 simp only[lU];refine⟨_,Tryz.call81,(eE false _).mono ?_⟩;rintro e σ1 ⟨rfl,rfl⟩;simp only[go_sem];refine cK.of ar Tryz.func79 ?_;rw[show h1 s=none by rw[fD];unfold lp;rw[aj];simp only[ak,aH,if_true];exact if_neg bW];exact⟨rfl,aQ.refl _⟩
end Go.Ab.S16
namespace Go.Ab.S16
open Go Go.Proofs
theorem P' (br:Nat) (σ:al) (ae:av br σ=some (.arr 1 [.v (.int .i64 0)])) {R:kv→al→Prop}
  (bR:∀σ',aQ (sset br (.arr 1 [.v (.int .i64 13)]) σ) σ'→R (.oZ mn true) σ'):p8 Tryz.prog 102 [.ptr br 1 0 0] (.oZ mn false) σ R:=by
 unfold mn at bR⊢;refine p8.vQ Tryz.func102 rfl Tryz.ntmps102 (by simp) fun C ar=> ?_;refine j.J ?_;refine j.V6 (k1:=4) (k2:=1) ar rfl rfl rfl rfl rfl rfl (by simp[dstB,pQ]) (by simp[dstB,pQ]) fun C ar=> ?_;simp only[go_sem];repeat' (first|refine j.J ?_|refine j.aN ?_|refine j.ba ?_|refine j.aG ?_|refine j.exit rfl ?_|(refine j.rg [0,1] fun K I=> ?_;simp only[go_sem];apply I))
 refine j.bZ rfl ?_;repeat refine j.J ?_
 refine j.rg [0,1] fun K I=> ?_;simp only[go_sem,ae];intro gB xv;apply I;repeat refine j.J ?_
 repeat' (first|refine j.J ?_|refine j.aN ?_|refine j.ba ?_|refine j.aG ?_|refine j.exit rfl ?_|(refine j.rg [0,1,2,3] fun K I=> ?_;simp only[go_sem];apply I))
 refine j.bJ rfl (j.aN ?_);have aZ:br≠gB:=fun e=>by subst e;rw[xv]at ae;cases ae
 refine j.rg [0,2] fun K I=> ?_;simp only[go_sem,ae,aZ];apply I;exact j.Ho ar Tryz.func102 rfl (bR _ (gP (aQ.refl _) (by rw[jU,if_neg aZ.symm];exact xv)))
theorem Qa (br:Nat) (σ:al) {R:kv→al→Prop} (bR:R .ret σ):p8 Tryz.prog 102 [.ptr br 1 0 0] .ret σ R:=by
 refine p8.vQ Tryz.func102 rfl Tryz.ntmps102 (by simp) fun C ar=> ?_;refine j.J ?_;refine j.V7 (k1:=4) (k2:=1) ar rfl rfl rfl rfl rfl rfl (by simp[dstB,pQ]) (by simp[dstB,pQ]) ?_;simp only[go_sem];repeat' (first|refine j.J ?_|refine j.aN ?_|refine j.ba ?_|refine j.aG ?_|refine j.exit rfl ?_|(refine j.rg [0,1] fun K I=> ?_;simp only[go_sem];apply I))
 refine j.bJ rfl ?_;repeat' (first|refine j.J ?_|refine j.aN ?_|refine j.ba ?_|refine j.aG ?_|refine j.exit rfl ?_|(refine j.rg [0] fun K I=> ?_;simp only[go_sem];apply I))
 exact j.Ho ar Tryz.func102 rfl bR
theorem Qb (g:FuncId) (cg:List D) (σ:al) {Gl R:cf→al→Prop} (gE:∀args w,(callFunc g args).run Tryz.prog w= .ok (.enter g args) w) (aq:AC Tryz.prog g cg σ Gl)
  (bR:∀e σ',Gl e σ'→(e= .ret (.bd [])∧R (.ret (.v (.int .i64 0))) σ')∨(e= .panic mn∧R (.ret (.v (.int .i64 13))) σ')):
  AC Tryz.prog 77 [.bX (.func g) [] cg] σ R:=by
 refine AC.forget (R:=fun e aS=>∃σ',aQ σ' aS∧R e σ') ?_ fun e σ' h=>h;refine AC.bI Tryz.func77 Tryz.ntmps77 fun C ar=> ?_;refine j.J (j.rg [0] fun K I=> ?_);simp only[go_sem];intro br hR;apply I;refine j.J ?_;refine j.defer (L:=[(2, .ptr br 1 0 0)]) (k1:=3) ar Tryz.call102 rfl rfl rfl rfl rfl rfl (by decide) rfl rfl (by simp[eget]) (by simp) fun C ar=> ?_;have bl:=aq.frame (σ:=(br, .arr 1 [.v (.int .i64 0)])::σ) (ρ:=[(br, .arr 1 [.v (.int .i64 0)])]) (gP (aQ.refl _) hR) (aQ.cons (bE ..) (aQ.nil _)) (dN.cons hR (dN.nil _));refine j.J (j.rg [0,2] fun K I=> ?_);simp only[go_sem];refine⟨g,gE, ?_⟩;simp only[go_sem];refine bl.mono ?_;rintro e mc ⟨σ1,QB,hA,rfl⟩;have mB:av br σ1=none:=hA br (by simp[av]);have dP:av br (σ1++[(br, .arr 1 [.v (.int .i64 0)])])=some (.arr 1 [.v (.int .i64 0)]):=by rw[p1 mB,bE]
 have J4:∀x,aQ σ1 (sset br x (σ1++[(br, .arr 1 [.v (.int .i64 0)])])):=fun x b o ae=>by
  have aZ:b≠br:=fun e=>by subst e;rw[mB]at ae;cases ae
  rw[jU,if_neg aZ];exact yF ae
 have gp:∀n,av br (sset br (.arr 1 [.v (.int .i64 n)]) (σ1++[(br, .arr 1 [.v (.int .i64 0)])]))=some (.arr 1 [.v (.int .i64 n)]):=fun n=>by
  rw[jU,if_pos rfl,dP];rfl
 rcases bR e σ1 QB with⟨rfl,tP⟩|⟨rfl,tP⟩
 ·simp only[go_sem];apply I;refine j.J (j.rg [2] fun K I=> ?_);simp only[go_sem,dP];apply I;refine j.Wr ar Tryz.func77 (Qa br _ ?_);refine⟨?_, ?_⟩
  ·simp only[go_sem,gp];simp[nO,go_sem,gp]
  refine⟨σ1,J4 _, ?_⟩;simp only[go_sem,gp];exact tP
 simp only[go_sem];refine cK.UZ ar Tryz.func77 (P' br _ dP fun σ' hle=> ?_);have JZ:=hle br _ (gp 13);refine⟨?_, ?_⟩
 ·simp[nO,go_sem,JZ]
 refine⟨σ1,(J4 _).trans hle, ?_⟩;simp only[go_sem,JZ];exact tP
end Go.Ab.S16
namespace Go.Ab.S16
open Go Go.Proofs Go.RowKit
def lC (x:kU) (decl:List ByteArray) (files:List ay):Option hO:=
 match q_ x.args decl files (a' x.verb)with
 |none=>none
 |some (b,found)=>if b.length≤65536 then some ⟨x.outs.map fun n=>⟨n,b⟩,x.once,x.dep,if(!(x.dep.toList==(⟨#[]⟩:ByteArray).toList))=true then aK (ha (x.outs.getD 0 ⟨#[]⟩) found++[10])else⟨#[]⟩⟩else none
def dm (cmd:ByteArray) (decl:List ByteArray) (files:List ay):Option hO:=
 match h1 cmd with
 |none=>none
 |some x=>lC x decl files
def cL (bA bB bC bD:Nat) (cmd:ByteArray) (decl:List ByteArray) (files:List ay) (v:D):al:=[(bD, .arr 4 [v]),(bC, .arr 1 [.ai (files.map ay.d)]),(bB, .arr 1 [.ai (decl.map ab)]),(bA, .arr 1 [.v (.string cmd)])]
structure wD (bA bB bC bD:Nat):Prop where
 hs:bA≠bB
 ac:bA≠bC
 ad:bA≠bD
 az:bB≠bC
 ct:bB≠bD
 uT:bC≠bD
section
variable {bA bB bC bD : Nat} {cmd : ByteArray} {decl : List ByteArray} {files : List ay} {v w : D}
theorem y1:av bD (cL bA bB bC bD cmd decl files v)=some (.arr 4 [v]):=bE ..
theorem N6 (h:wD bA bB bC bD):av bC (cL bA bB bC bD cmd decl files v)=some (.arr 1 [.ai (files.map ay.d)]):=by
 unfold cL;rw[aW,if_neg h.uT,bE]
theorem N5 (h:wD bA bB bC bD):av bB (cL bA bB bC bD cmd decl files v)=some (.arr 1 [.ai (decl.map ab)]):=by
 unfold cL;rw[aW,if_neg h.ct,aW,if_neg h.az,bE]
theorem N4 (h:wD bA bB bC bD):av bA (cL bA bB bC bD cmd decl files v)=some (.arr 1 [.v (.string cmd)]):=by
 unfold cL;rw[aW,if_neg h.ad,aW,if_neg h.ac,aW,if_neg h.hs,bE]
theorem N7:sset bD (.arr 4 [w]) (cL bA bB bC bD cmd decl files v)=cL bA bB bC bD cmd decl files w:=by
 unfold cL;rw[gz]
theorem wR {b:Nat} (h:av b (cL bA bB bC bD cmd decl files v)=none):av b (cL bA bB bC bD cmd decl files w)=none:=by
 unfold cL at*;simp only[aW]at*;repeat' split at h
 all_goals first|cases h|skip
 simp_all
end
theorem Ls {ws outs:List ByteArray} {dep:ByteArray} (h:gx ws=some (outs,dep)):(∀n∈outs,dt (a' n)=true)∧0<outs.length:=by
 have key:∀{ws outs:List ByteArray} {d dep:ByteArray},gf ws d=some (outs,dep)→(∀n∈outs,dt (a' n)=true)∧0<outs.length:=fun{ws outs d dep} h=>by
  unfold gf at h;split at h
  ·rename_i ag
   cases h
   refine⟨fun n au=> ?_,ag.2⟩;obtain⟨i,hi,rfl⟩:=List.getElem_of_mem au;have:=ag.1 i hi;unfold oX at this;rw[List.getElem?_eq_getElem hi]at this;exact(Bool.and_eq_true _ _▸this).1
  cases h
 unfold gx at h;split at h
 ·split at h
  ·exact key h
  cases h
 exact key h
theorem FQ {cmd:ByteArray} {x:kU} (h:h1 cmd=some x):hn (a' x.verb)=true∧(∀n∈x.outs,dt (a' n)=true)∧0<x.outs.length∧((!(x.dep.toList==(⟨#[]⟩:ByteArray).toList))=(x.verb.toList==(⟨#[105,110,99]⟩:ByteArray).toList)):=by
 have key:∀{o:Bool} {ws:List ByteArray},lp o ws=some x→hn (a' x.verb)=true∧(∀n∈x.outs,dt (a' n)=true)∧0<x.outs.length∧((!(x.dep.toList==(⟨#[]⟩:ByteArray).toList))=(x.verb.toList==(⟨#[105,110,99]⟩:ByteArray).toList)):=fun{o ws} h=>by
  unfold lp at h;split at h
  ·split at h
   ·rename_i ak
    split at h
    ·rename_i aH
     split at h
     ·rename_i aw
      cases h
      exact⟨ak,(Ls aH).1,(Ls aH).2,aw⟩
     cases h
    cases h
   cases h
  cases h
 unfold h1 at h;split at h
 ·exact key h
 exact key h
theorem Mp {args decl:List ByteArray} {files:List ay} {verb b:List UInt8} {found:List ByteArray} (h:q_ args decl files verb=some (b,found)):(∀n∈found,dt (a' n)=true)∧found.length≤1000:=by
 have dF:∀{o:Option (List UInt8)},(o.map fun b=>(b,([]:List ByteArray)))=some (b,found)→(∀n∈found,dt (a' n)=true)∧found.length≤1000:=fun{o} h=>by
  cases o with
  |none=>cases h
  |some c=>cases h;exact⟨fun n au=>(by cases au),(by simp)⟩
 unfold q_ at h;repeat' split at h
 ·exact dF h
 ·exact dF h
 ·exact dF h
 ·cases h;exact⟨fun n au=>(by cases au),(by simp)⟩
 ·unfold sj at h;cases hi:(lk decl files args).bind fun b=>f' files 11 b ⟨[],[],0⟩with
  |none=>rw[hi]at h;cases h
  |some s=>
   rw[hi]at h;cases h
   obtain⟨b,_,aP⟩:=Option.bind_eq_some_iff.1 hi;have:=yu files 11 b ⟨[],[],0⟩ s ⟨by simp,by simp,by simp,by simp⟩ aP;exact⟨this.right,Nat.le_trans this.found this.many⟩
 cases h
theorem yA {n:ByteArray} (h:dt (a' n)=true):(a' n).length≤100:=by
 unfold dt at h;rw[Bool.and_eq_true,decide_eq_true_eq,decide_eq_true_eq]at h;obtain⟨bj,aa⟩:=h;rw[←aa];unfold dZ at bj⊢;split
 ·simp
 split
 ·simp
 split
 ·simp
 split
 ·simp
 split
 ·simp
 rename_i h;simpa using h
theorem hN.Vi {σ:al} {ob:Option Nat} {sz n:Nat} {xs:List D} {v:Value} (an:bL sz ob σ=some xs) (au:n≤xs.length):hN σ [.v v, .own ob sz n] [.v v, .ai (xs.take n)]:=by
 cases ob with
 |none=>
  simp only[bL,Option.some.injEq]at an;subst an;refine .le fun w S vs h=> ?_;obtain⟨v1,l',rfl,oO,ak⟩:=h.cons_inv;obtain⟨v2,uE,rfl,qN,S5⟩:=ak.cons_inv;cases qN with
  |hV=>simp only[List.take_nil];exact .cons oO (.cons .iX S5)
 |some b=>
  simp only[bL]at an;split at an
  ·rename_i s ys aq
   split at an
   ·rename_i af
    cases an;subst af
    refine .b' aq ?_;have:hb b s xs [.v v, .own (some b) s n]=[.v v, .ai (xs.take n)]:=by
     simp only[hb,D.b'];rw[if_pos ⟨trivial,trivial,au⟩]
    rw[this];exact .refl _ _
   cases an
  cases an
end Go.Ab.S16
namespace Go.Ab.S16
open Go Go.Proofs Go.RowKit
structure uI (cmd:ByteArray):Prop where
 size:cmd.size≤4294967296
 words:(e3 cmd).length<2^40
 word:∀w∈e3 cmd,w.size<2^40
 args:∀x,h1 cmd=some x→x.args.length<2^16∧(Lib.join (x.args.map (·.data.toList)) [32]).length<2^45∧x.outs.length<2^20
def fT:D:= .agg [.own none 2 0, .v (.bool false), .v (.string ⟨#[]⟩), .v (.string ⟨#[]⟩)]
def fU (b:List UInt8) (n:ByteArray):D:=ay.d ⟨n,b⟩
theorem Ox (c8 c9 c_ cO:Nat) (aX:wD c8 c9 c_ cO) (cmd:ByteArray) (decl:List ByteArray) (files:List ay) (nk:uI cmd) (dE:files.length<2^31) (gG:∀f∈files,f.b.length<2^20) (aw:decl.length<2^40):
  AC Tryz.prog 78 [.ptr c8 1 0 0, .ptr c9 1 0 0, .ptr c_ 1 0 0, .ptr cO 4 0 0] (cL c8 c9 c_ cO cmd decl files fT) (fun e σ'=>match dm cmd decl files with
   |some x=>e= .ret (.bd [])∧∃a6,aV a6 2 (x.outs.map ay.d) (cL c8 c9 c_ cO cmd decl files fT)∧σ'=cellsOf a6 2 (x.outs.map ay.d)++cL c8 c9 c_ cO cmd decl files (.agg [.own a6 2 (x.outs.map ay.d).length, .v (.bool x.once), .v (.string x.dep), .v (.string x.mj)])
   |none=>e= .panic mn):=by
 have fD:=fun σ=>XA cmd nk.size nk.words nk.word σ;have Ia:=N4 aX (cmd:=cmd) (decl:=decl) (files:=files) (v:=fT);have PZ:=N5 aX (cmd:=cmd) (decl:=decl) (files:=files) (v:=fT);have gc:=N6 aX (cmd:=cmd) (decl:=decl) (files:=files) (v:=fT);have gd:=y1 (bA:=c8) (bB:=c9) (bC:=c_) (bD:=cO) (cmd:=cmd) (decl:=decl) (files:=files) (v:=fT);refine AC.bI Tryz.func78 Tryz.ntmps78 fun C ar=> ?_;rcases af:h1 cmd with _|x
 ·have ag:dm cmd decl files=none:=by unfold dm;rw[af]
  rw[ag]at ar;refine j.J ?_;have aP:=fD (cL c8 c9 c_ cO cmd decl files fT);rw[af]at aP;refine j.rg [0,1,2,3] fun K I=> ?_;simp only[go_sem,Ia];refine⟨_,Tryz.call79,aP.mono ?_⟩;rintro e σ1 ⟨rfl,hj⟩;simp only[go_sem];exact cK.of ar Tryz.func78 rfl
 obtain⟨ak,D1,ew,vj⟩:=FQ af;obtain⟨e_,IC,tM⟩:=nk.args x af;have ie:dm cmd decl files=lC x decl files:=by unfold dm;rw[af]
 refine j.J ?_;have aP:=fD (cL c8 c9 c_ cO cmd decl files fT);rw[af]at aP;refine j.rg [0,1,2,3] fun K I=> ?_;simp only[go_sem,Ia];refine a1 Tryz.call79 aP ?_;simp only[go_sem,kU.d];apply I;refine j.J (j.rg [1,2,3,4,5,6,7,8] fun K I=> ?_);simp only[go_sem,PZ,gc];intro az fB;apply I;refine j.q9 (ys:=[.agg [.ai (x.args.map ab), .ai (decl.map ab), .ai (files.map ay.d), .own none 1 0, .v (.int .i64 0)]]) (fun w S vs h=>by
  obtain⟨v0,vs,rfl,gH,h⟩:=bq.cons_inv (show bq w S (.ai (x.args.map ab)::[.ai (decl.map ab), .ai (files.map ay.d), .v (.slice none 0 0), .v (.int .i64 0)]) vs from h);obtain⟨v1,vs,rfl,bu,h⟩:=h.cons_inv;obtain⟨v2,vs,rfl,jS,h⟩:=h.cons_inv;obtain⟨v3,vs,rfl,nK,h⟩:=h.cons_inv;exact .cons gH (.cons bu (.cons jS (.cons (ca.mU 1 w S v3 nK) h)))) (by simp[D.cells]) ?_
 change j C _ _ ((az,dU x.args decl files (.own none 1 0) 0)::cL c8 c9 c_ cO cmd decl files fT);refine j.J ?_;rcases ao:q_ x.args decl files (a' x.verb)with _|⟨b,found⟩
 ·have tm:dm cmd decl files=none:=by rw[ie];unfold lC;rw[ao]
  rw[tm]at ar;refine j.rg [3,4,6,7,8,9] fun K I=> ?_;simp only[go_sem];refine⟨_,Tryz.call80,(Bx _).mono ?_⟩;rintro e σ1 ⟨b1,hg,rfl,rfl⟩;have zW:az≠b1:=fun e=>by
   rw[e,aW,if_pos rfl]at hg;cases hg
  obtain⟨g,g_,dQ,jI⟩:=Nb x.args decl files az ((b1, .mp hq)::(az,dU x.args decl files (.own none 1 0) 0)::cL c8 c9 c_ cO cmd decl files fT) (a' x.verb) ak (by rw[aW,if_neg zW,bE]) dE gG aw e_ IC;rw[gr]at g_;rw[ao]at jI;simp only[go_sem,g_];refine⟨By _, ?_⟩;refine⟨g,dQ,jI.mono ?_⟩;rintro e mc ⟨rfl,aj⟩;simp only[go_sem];exact cK.of ar Tryz.func78 rfl
 refine j.rg [3,4,6,7,8,9] fun K I=> ?_;simp only[go_sem];refine⟨_,Tryz.call80,(Bx _).mono ?_⟩;rintro e σ1 ⟨b1,hg,rfl,rfl⟩;have zW:az≠b1:=fun e=>by
  rw[e,aW,if_pos rfl]at hg;cases hg
 obtain⟨g,g_,dQ,jI⟩:=Nb x.args decl files az ((b1, .mp hq)::(az,dU x.args decl files (.own none 1 0) 0)::cL c8 c9 c_ cO cmd decl files fT) (a' x.verb) ak (by rw[aW,if_neg zW,bE]) dE gG aw e_ IC;rw[gr]at g_;rw[ao]at jI;simp only[go_sem,g_];refine⟨By _, ?_⟩;refine⟨g,dQ,jI.mono ?_⟩;rintro e mc ⟨o,fo,many,ch,pE,rfl,rfl⟩;simp only[go_sem];have fK:sset az (dU x.args decl files (.own fo 1 found.length) many) ((b1, .mp hq)::(az,dU x.args decl files (.own none 1 0) 0)::cL c8 c9 c_ cO cmd decl files fT)=(b1, .mp hq)::(az,dU x.args decl files (.own fo 1 found.length) many)::cL c8 c9 c_ cO cmd decl files fT:=by
  rw[fx zW,gz]
 rw[fK]at ch pE;simp only[fK];apply I;have pC:av b1 ((az,dU x.args decl files (.own fo 1 found.length) many)::cL c8 c9 c_ cO cmd decl files fT)=none:=by
  rw[aW]at hg⊢;split at hg
  ·cases hg
  rename_i e;rw[if_neg e];exact hg
 have Ry:=(pE.drop pC).1;have RA:aV o 1 (b.map bD) (cellsOf fo 1 (found.map ab)++((az,dU x.args decl files (.own fo 1 found.length) many)::cL c8 c9 c_ cO cmd decl files fT)):=k3 ch fun c ag=>n0 ag fun h=>by
  rw[aW]at h;split at h
  ·cases h
  exact h
 have qK:aQ ((az,dU x.args decl files (.own fo 1 found.length) many)::cL c8 c9 c_ cO cmd decl files fT) ((b1, .mp hq)::(az,dU x.args decl files (.own fo 1 found.length) many)::cL c8 c9 c_ cO cmd decl files fT):=gP (aQ.refl _) pC;refine j.le (cn.refl _) (aQ.append (aQ.append_left _ _) ((aQ.append (aQ.append_left _ _) (qK.trans pE.sle)).trans ch.sle)) ?_;have oJ:b.length=(b.map bD).length:=(List.length_map ..).symm;rw[oJ];refine j.rebase [3,6,7,8,9,10] ?_;simp only[go_sem];refine j.Fj 10 rfl RA (fun c ag=> ?_) (fun c p aP aj=> ?_) ?_
 ·have rS:=ag;have lO:fo≠some c:=l4 (aQ.append_left _ _) ag;have aa:av c ((az,dU x.args decl files (.own fo 1 found.length) many)::cL c8 c9 c_ cO cmd decl files fT)=none:=by
   rw[kp]at ag;split at ag
   ·cases ag
   exact ag
  have aZ:∀{b c:Nat} {x:aE} {τ:al},av b ((c,x)::τ)=none→b≠c∧av b τ=none:=fun{b c x τ} h=>by
   rw[aW]at h;split at h
   ·cases h
   rename_i e;exact⟨e,h⟩
  have ah:=aZ aa;have aJ:=aZ (show av c ((cO,_)::_)=none from ah.2);have bg:=aZ aJ.2;have cu:=aZ bg.2;have de:=aZ cu.2;have Sx:∀s ys,D.b' c s ys (.own fo 1 found.length)= .own fo 1 found.length:=fun s ys=>by
   cases fo with
   |none=>rfl
   |some k=>
    show(if k=c∧1=s∧found.length≤ys.length then _ else _)=_
    rw[if_neg (fun h=>lO (by rw[h.1]))]
  refine dO.cells lO (fun y aF s ys=> ?_) (.cons ah.1 (fun s ys=> ?_) (.cons aJ.1 (fun _ _=>rfl) (.cons bg.1 (fun _ _=>rfl) (.cons cu.1 (fun _ _=>rfl) (.cons de.1 (fun _ _=>rfl) (.nil c))))))
  ·obtain⟨z,_,rfl⟩:=List.mem_map.1 aF;rfl
  unfold dU;simp only[aE.b',List.map_cons,List.map_nil,D.b',hb];rw[show D.b' c s ys (.own fo 1 found.length)= .own fo 1 found.length from Sx s ys]
 ·simp only[List.mem_cons,List.not_mem_nil,or_false]at aP;rcases aP with rfl|rfl|rfl|rfl|rfl|rfl;all_goals first|rfl|exact absurd rfl aj
 simp only[go_sem];have xI:∀{y:aE} {w:D},aV fo 1 (found.map ab) ((az,y)::cL c8 c9 c_ cO cmd decl files w):=fun{y w}=>k3 Ry fun c ag=>by
  rw[aW]at ag⊢;split at ag
  ·cases ag
  rename_i e;rw[if_neg e];exact wR ag
 have Dd:cO≠az:=fun e=>by
  subst e;rw[gd]at fB;cases fB
 have xd:∀{y:aE} {w:D},av cO (cellsOf fo 1 (found.map ab)++((az,y)::cL c8 c9 c_ cO cmd decl files w))=some (.arr 4 [w]):=fun{y w}=>xI.keep (by rw[aW,if_neg Dd,y1]);have FJ:∀{y:aE} {w z:D},sset cO (.arr 4 [z]) (cellsOf fo 1 (found.map ab)++((az,y)::cL c8 c9 c_ cO cmd decl files w))=cellsOf fo 1 (found.map ab)++((az,y)::cL c8 c9 c_ cO cmd decl files z):=fun{y w z}=>by
  rw[xI.sset (by rw[aW,if_neg Dd,y1];rfl),fx Dd,N7]
 refine j.J ?_;by_cases hle:b.length≤65536
 ·have iC:decide ((b.length:Int)≤65536)=true:=decide_eq_true (by omega);refine j.rg [3,6,7,8,9,10] fun K I=> ?_;simp only[go_sem,←oJ];simp only[iC];refine⟨_,Tryz.call81,(eE true _).mono ?_⟩;rintro e σ1 ⟨rfl,rfl⟩;simp only[go_sem];apply I;refine j.J ?_;unfold fT;refine j.rg [3,6,7,8,9,10] fun K I=> ?_;simp only[go_sem,xd,FJ];apply I;refine j.J (j.J ?_);have DY:(x.outs.map ab).length=x.outs.length:=List.length_map ..;refine j.rg [3,7,8,9,10] fun K I=> ?_;simp only[go_sem,DY];apply I;refine j.aG ?_;refine j.rebase [3,7,8,9,10,37,38,39] ?_;simp only[go_sem];refine j.while (fun(i:Nat) env' aS=>∃a6:Option Nat,(i≤x.outs.length∧aV a6 2 ((x.outs.take i).map (fU b)) (cellsOf fo 1 (found.map ab)++((az,dU x.args decl files (.own fo 1 found.length) many)::cL c8 c9 c_ cO cmd decl files fT)))∧env'=[(3, .ptr cO 4 0 0),(7, .ai (x.outs.map ab)),(8, .v (.string x.dep)),(9, .ptr az 5 0 0),(10, .ai (b.map bD)),(37, .ai (x.outs.map ab)),(38, .v (.int .i64 (x.outs.length:Int))),(39, .v (.int .i64 (i:Int)))]∧aS=cellsOf a6 2 ((x.outs.take i).map (fU b))++(cellsOf fo 1 (found.map ab)++((az,dU x.args decl files (.own fo 1 found.length) many)::cL c8 c9 c_ cO cmd decl files (.agg [.own a6 2 i, .v (.bool x.once), .v (.string ⟨#[]⟩), .v (.string ⟨#[]⟩)])))) (fun(i:Nat)=>x.outs.length-i) 0 ⟨none,⟨Nat.zero_le _,aV.nil _ _⟩,rfl,rfl⟩ ?_;rintro i env' aS ⟨a6,⟨hi,aT⟩,rfl,rfl⟩ aB;have cH:=aB;have b7:∀{y:aE} {w:D},aV a6 2 ((x.outs.take i).map (fU b)) (cellsOf fo 1 (found.map ab)++((az,y)::cL c8 c9 c_ cO cmd decl files w)):=fun{y w}=>k3 aT fun c ag=>n0 ag fun h=>by
   rw[aW]at h⊢;split at h
   ·cases h
   rename_i e;rw[if_neg e];exact wR h
  have xe:∀{y:aE} {w:D},av cO (cellsOf a6 2 ((x.outs.take i).map (fU b))++(cellsOf fo 1 (found.map ab)++((az,y)::cL c8 c9 c_ cO cmd decl files w)))=some (.arr 4 [w]):=fun{y w}=>b7.keep xd;have Mq:∀{y:aE} {w z:D},sset cO (.arr 4 [z]) (cellsOf a6 2 ((x.outs.take i).map (fU b))++(cellsOf fo 1 (found.map ab)++((az,y)::cL c8 c9 c_ cO cmd decl files w)))=cellsOf a6 2 ((x.outs.take i).map (fU b))++(cellsOf fo 1 (found.map ab)++((az,y)::cL c8 c9 c_ cO cmd decl files z)):=fun{y w z}=>by
   rw[b7.sset (by rw[xd];rfl),FJ]
  have xD:∀{y:aE} {w:D},aQ (cellsOf a6 2 ((x.outs.take i).map (fU b))++cL c8 c9 c_ cO cmd decl files w) (cellsOf a6 2 ((x.outs.take i).map (fU b))++(cellsOf fo 1 (found.map ab)++((az,y)::cL c8 c9 c_ cO cmd decl files w))):=fun{y w}=>aQ.append (aQ.append_left _ _) (((gP (aQ.refl _) (wR fB)).trans xI.sle).trans b7.sle);refine j.J (j.rg [3,7,8,9,10,37,38,39] fun K I=> ?_);simp only[go_sem];apply I;refine j.J ?_;refine j.cond rfl (fun ta=> ?_) (fun ta=> ?_)
  ·have aC:i<x.outs.length:=by simpa using ta
   have aq:=b6 ab x.outs i aC;rw[ab]at aq;have bf:(0:Int)≤(i:Int):=by omega
   have bp:(i:Int)<(x.outs.length:Int):=by omega
   have qD:∀{y:aE} {w:D},bL 2 a6 (cellsOf a6 2 ((x.outs.take i).map (fU b))++(cellsOf fo 1 (found.map ab)++((az,y)::cL c8 c9 c_ cO cmd decl files w)))=some ((x.outs.take i).map (fU b)):=fun{y w}=>(b7 (y:=y) (w:=w)).bL;have hS:∀{y:aE} {w:D},h0 a6 (cellsOf a6 2 ((x.outs.take i).map (fU b))++(cellsOf fo 1 (found.map ab)++((az,y)::cL c8 c9 c_ cO cmd decl files w)))=cellsOf fo 1 (found.map ab)++((az,y)::cL c8 c9 c_ cO cmd decl files w):=fun{y w}=>(b7 (y:=y) (w:=w)).cB;have hk:((x.outs.take i).map (fU b)).length=i:=by simp;omega
   have cv:List.take i ((x.outs.take i).map (fU b))=(x.outs.take i).map (fU b):=List.take_of_length_le (by omega);refine j.aN (j.J (j.aG (j.J (j.rg [3,7,8,9,10,37,38,39] fun K I=> ?_))));simp only[go_sem,DY,aq,bf,bp];apply I;refine j.draw [3,7,8,9,10,12,37,38,39] [49] [cO] [9] [(0,true),(1,true),(2,true),(3,true),(4,false),(5,true),(6,true),(7,false),(8,true),(9,false)] (by kernel_rfl) (by decide) (by kernel_rfl) fun K I=> ?_;simp only[go_sem,xe];refine a1 Tryz.call67 (G' (b.map bD) _ (nG b) (by rw[List.length_map];omega)) ?_;simp only[go_sem,xe,qD,hS,cv];refine⟨⟨by decide,by decide⟩,⟨by omega,fun y aF=>by rw[aF];exact⟨rfl,rfl⟩,by rw[hk];omega,by rw[hk];omega⟩,fun ob aO ax=> ?_⟩;have g_:(x.outs.take i).map (fU b)++[D.agg [D.v (Value.string x.outs[i]),D.ai (b.map bD)]]=(x.outs.take (i+1)).map (fU b):=by rw[List.take_succ_eq_append_getElem aC,List.map_append];rfl
   simp only[g_]at aO⊢;have fC:∀{y:aE} {w:D},aV ob 2 ((x.outs.take (i+1)).map (fU b)) (cellsOf fo 1 (found.map ab)++((az,y)::cL c8 c9 c_ cO cmd decl files w)):=fun{y w}=>⟨fun c ag=>n0 (ax c ag) fun h=>(by
    rw[aW]at h⊢;split at h
    ·cases h
    rename_i e;rw[if_neg e];exact wR h),aO⟩
   have H8:∀{y:aE} {w:D},av cO (cellsOf ob 2 ((x.outs.take (i+1)).map (fU b))++(cellsOf fo 1 (found.map ab)++((az,y)::cL c8 c9 c_ cO cmd decl files w)))=some (.arr 4 [w]):=fun{y w}=>fC.keep xd;have WU:∀{y:aE} {w z:D},sset cO (.arr 4 [z]) (cellsOf ob 2 ((x.outs.take (i+1)).map (fU b))++(cellsOf fo 1 (found.map ab)++((az,y)::cL c8 c9 c_ cO cmd decl files w)))=cellsOf ob 2 ((x.outs.take (i+1)).map (fU b))++(cellsOf fo 1 (found.map ab)++((az,y)::cL c8 c9 c_ cO cmd decl files z)):=fun{y w z}=>by
    rw[fC.sset (by rw[xd];rfl),FJ]
   have RQ:((x.outs.take (i+1)).map (fU b)).length=i+1:=by simp;omega
   refine⟨?_, ?_⟩
   ·rintro bP rfl;rw[H8,xe]
   simp only[go_sem,H8,WU,RQ];apply I;refine j.ba (j.rg [3,7,8,9,10,37,38,39] fun K I=> ?_);simp only[go_sem];apply I;refine j.rebase [3,7,8,9,10,37,38,39] ?_;simp only[go_sem];rw[bH i (by omega)];exact aB (i+1) _ _ ⟨ob,⟨by omega,fC⟩,rfl,rfl⟩ (by omega)
  have cC:i=x.outs.length:=by simp at ta;omega
  subst cC;have hG:(x.outs.take x.outs.length).map (fU b)=(x.outs.map fun n=>(⟨n,b⟩:ay)).map ay.d:=by rw[List.take_length,List.map_map];rfl
  have iP:((x.outs.map fun n=>(⟨n,b⟩:ay)).map ay.d).length=x.outs.length:=by simp
  have vm:aV a6 2 ((x.outs.map fun n=>(⟨n,b⟩:ay)).map ay.d) (cL c8 c9 c_ cO cmd decl files fT):=by
   rw[←hG];exact k3 aT fun c ag=>by
    have aa:av c ((az,dU x.args decl files (.own fo 1 found.length) many)::cL c8 c9 c_ cO cmd decl files fT)=none:=by
     rw[kp]at ag;split at ag
     ·cases ag
     exact ag
    rw[aW]at aa;split at aa
    ·cases aa
    exact aa
  refine j.exit rfl (j.J (j.rg [3,7,8,9] fun K I=> ?_));simp only[go_sem];apply I;refine j.cond rfl (fun tb=> ?_) (fun tb=> ?_)
  ·have kF:(!(x.dep.toList==(⟨#[]⟩:ByteArray).toList))=true:=tb;have dg:dm cmd decl files=some ⟨x.outs.map fun n=>⟨n,b⟩,x.once,x.dep,aK (ha (x.outs.getD 0 ⟨#[]⟩) found++[10])⟩:=by rw[ie];unfold lC;rw[ao];simp only[if_pos hle,if_pos kF]
   rw[dg]at ar;have tv:=b6 ab x.outs 0 (by omega);have s6:x.outs[0]'(by omega)=x.outs.getD 0 ⟨#[]⟩:=by rw[List.getD_eq_getElem?_getD,List.getElem?_eq_getElem (by omega)];rfl
   rw[ab,s6]at tv;have RH:(0:Int)<(x.outs.length:Int):=by omega
   have vy:=D1 _ (List.getElem_mem (show 0<x.outs.length by omega));rw[s6]at vy;have lF:∀{y:aE} {w:D},av az (cellsOf a6 2 ((x.outs.take x.outs.length).map (fU b))++(cellsOf fo 1 (found.map ab)++((az,y)::cL c8 c9 c_ cO cmd decl files w)))=some y:=fun{y w}=>b7.keep (xI.keep (bE ..));obtain⟨bl,Dn⟩:=Mp ao;have nt:∀{y:aE} {w:D},bL 1 fo (cellsOf a6 2 ((x.outs.take x.outs.length).map (fU b))++(cellsOf fo 1 (found.map ab)++((az,y)::cL c8 c9 c_ cO cmd decl files w)))=some (found.map ab):=fun{y w}=>by
    rw[E5 (Oa (b7 (y:=y) (w:=w)))];exact xI.bL
   have xZ:=Vu (x.outs.getD 0 ⟨#[]⟩) found [] (by have:=yA vy;omega) (by omega) (fun d aw=>by have:=yA (bl d aw);omega) (fun d aw=>by
    rcases List.mem_cons.1 aw with rfl|aw
    ·exact vy
    exact bl d aw)
   have mF:List.take found.length (found.map ab)=found.map ab:=List.take_of_length_le (by simp);have qP:∀{y:aE} {w:D},hN (cellsOf a6 2 ((x.outs.take x.outs.length).map (fU b))++(cellsOf fo 1 (found.map ab)++((az,y)::cL c8 c9 c_ cO cmd decl files w))) [.v (.string (x.outs.getD 0 ⟨#[]⟩)), .own fo 1 found.length] [.v (.string (x.outs.getD 0 ⟨#[]⟩)), .ai (found.map ab)]:=fun{y w}=>by
    have:=hN.Vi (v:= .string (x.outs.getD 0 ⟨#[]⟩)) (nt (y:=y) (w:=w)) (n:=found.length) (by simp);rw[mF]at this;exact this
   refine j.J (j.rg [3,7,8,9] fun K I=> ?_);simp only[go_sem,xe,Mq];apply I;refine j.draw [3,7,9] [] [az] [] [(0,true),(1,true),(2,true),(3,true),(4,true),(5,true),(6,true),(7,false),(8,true),(9,true),(10,true),(11,true),(12,false)] (by kernel_rfl) (by decide) (by kernel_rfl) fun K I=> ?_;simp only[go_sem,DY,tv,RH,lF,dU];refine a1 Tryz.call82 (AC.ud qP rfl xZ) ?_;simp only[go_sem,xe,Mq];refine⟨fun bP mB=>(by subst mB;rw[lF,lF]), ?_⟩;apply I;refine j.le (cn.refl _) xD ?_;refine j.done ar Tryz.func78 (by simp[go_sem]) ?_;simp only[go_sem];exact⟨a6,vm,by rw[hG,iP]⟩
  have kF:(!(x.dep.toList==(⟨#[]⟩:ByteArray).toList))=false:=tb;have dg:dm cmd decl files=some ⟨x.outs.map fun n=>⟨n,b⟩,x.once,x.dep,⟨#[]⟩⟩:=by rw[ie];unfold lC;rw[ao];simp only[if_pos hle,kF];rfl
  rw[dg]at ar;have zX:x.dep=⟨#[]⟩:=by
   have aa:x.dep.toList=(⟨#[]⟩:ByteArray).toList:=by simpa using kF
   rw[cr,cr]at aa;have e:∀x y:ByteArray,x.data=y.data→x=y:=fun x y h=>by cases x;cases y;cases h;rfl
   exact e _ _ (Array.toList_inj.1 aa)
  refine j.le (cn.refl _) xD ?_;refine j.aN ?_;refine j.done ar Tryz.func78 (by simp[go_sem]) ?_;simp only[go_sem];exact⟨a6,vm,by rw[hG,iP,zX]⟩
 have iC:decide ((b.length:Int)≤65536)=false:=decide_eq_false (by omega);have tm:dm cmd decl files=none:=by rw[ie];unfold lC;rw[ao];exact if_neg hle
 rw[tm]at ar;refine j.rg [3,6,7,8,9,10] fun K I=> ?_;simp only[go_sem,←oJ];simp only[iC];refine⟨_,Tryz.call81,(eE false _).mono ?_⟩;rintro e σ1 ⟨rfl,rfl⟩;simp only[go_sem];exact cK.of ar Tryz.func78 rfl
def hO.none:hO:=⟨[],false,⟨#[]⟩,⟨#[]⟩⟩
def wX:Option hO→D
 |some x=> .bd [x.d,d_ 0]
 |none=> .bd [hO.none.d,d_ 13]
theorem OB (cmd:ByteArray) (decl:List ByteArray) (files:List ay) (nk:uI cmd) (dE:files.length<2^31) (gG:∀f∈files,f.b.length<2^20) (aw:decl.length<2^40):
  AC Tryz.prog 42 [.v (.string cmd), .ai (decl.map ab), .ai (files.map ay.d)] [] (fun e σ'=>match dm cmd decl files with
   |some x=>∃a6,aV a6 2 (x.outs.map ay.d) []∧e= .ret (.bd [.agg [.own a6 2 (x.outs.map ay.d).length, .v (.bool x.once), .v (.string x.dep), .v (.string x.mj)],d_ 0])∧σ'=cellsOf a6 2 (x.outs.map ay.d)
   |none=>e= .ret (.bd [.agg [.v (.slice none 0 0), .v (.bool false), .v (.string ⟨#[]⟩), .v (.string ⟨#[]⟩)],d_ 13])∧σ'=[]):=by
 refine AC.forget (R:=fun e σ'=>match dm cmd decl files with
   |some x=>∃a6,aV a6 2 (x.outs.map ay.d) []∧e= .ret (.bd [.agg [.own a6 2 (x.outs.map ay.d).length, .v (.bool x.once), .v (.string x.dep), .v (.string x.mj)],d_ 0])∧aQ (cellsOf a6 2 (x.outs.map ay.d)) σ'
   |none=>e= .ret (.bd [.agg [.v (.slice none 0 0), .v (.bool false), .v (.string ⟨#[]⟩), .v (.string ⟨#[]⟩)],d_ 13])) ?_ (fun e σ' h=> ?_)
 rotate_left
 ·cases ag:dm cmd decl files with
  |none=>rw[ag]at h;exact⟨[],aQ.nil _,h,rfl⟩
  |some x=>
   rw[ag]at h;obtain⟨a6,aa,ah,aJ⟩:=h;exact⟨_,aJ,a6,aa,ah,rfl⟩
 refine AC.bI Tryz.func42 Tryz.ntmps42 fun C ar=> ?_;refine j.J (j.rg [0,1,2] fun K I=> ?_);simp only[go_sem];intro c8 c9 fW c_ zC jw bR;apply I;refine j.J (j.rg [3,4,5,6] fun K I=> ?_);simp only[go_sem];intro cO zD;apply I;have aZ:∀{b c:Nat} {x:aE} {τ:al},av b ((c,x)::τ)=none→b≠c∧av b τ=none:=fun{b c x τ} h=>by
  rw[aW]at h;split at h
  ·cases h
  rename_i e;exact⟨e,h⟩
 have aX:wD c8 c9 c_ cO:=⟨Ne.symm (aZ fW).1,Ne.symm (aZ (aZ zC).2).1,Ne.symm (aZ (aZ (aZ (aZ zD).2).2).2).1,Ne.symm (aZ zC).1,Ne.symm (aZ (aZ (aZ zD).2).2).1,Ne.symm (aZ (aZ zD).2).1⟩;refine j.q9 (ys:=[fT]) (fun w S vs h=>by
  obtain⟨v0,vs,rfl,gH,h⟩:=bq.cons_inv (show bq w S (.v (.slice none 0 0)::[.v (.bool false), .v (.string ⟨#[]⟩), .v (.string ⟨#[]⟩)]) vs from h);exact .cons (ca.mU 2 w S v0 gH) h) (by simp[D.cells,fT]) ?_
 obtain⟨uH,Ew⟩:∃z:D,z= .agg [.v (.slice none 0 0), .v (.bool false), .v (.string ByteArray.empty), .v (.string ByteArray.empty)]:=⟨_,rfl⟩;have Iw:=(aZ (aZ (aZ bR).2).2).1;have Ix:=(aZ (aZ bR).2).1;have Iy:=(aZ bR).1;have Im:=(aZ zD).1;have hA:dN [(jw, .arr 4 [uH])] (cL c8 c9 c_ cO cmd decl files fT):= .cons (by
  unfold cL;rw[aW,if_neg (Ne.symm Im),aW,if_neg Iy,aW,if_neg Ix,aW,if_neg Iw];rfl) (dN.nil _)
 have hj:aQ (cL c8 c9 c_ cO cmd decl files fT) [(cO, .arr 4 [fT]),(jw, .arr 4 [uH]),(c_, .arr 1 [.ai (files.map ay.d)]),(c9, .arr 1 [.ai (decl.map ab)]),(c8, .arr 1 [.v (.string cmd)])]:=by
  unfold cL;exact wh (gP (aQ.refl _) (by rw[aW,if_neg Iy,aW,if_neg Ix,aW,if_neg Iw];rfl))
 have fZ:aQ [(jw, .arr 4 [uH])] [(cO, .arr 4 [fT]),(jw, .arr 4 [uH]),(c_, .arr 1 [.ai (files.map ay.d)]),(c9, .arr 1 [.ai (decl.map ab)]),(c8, .arr 1 [.v (.string cmd)])]:=aQ.cons (by rw[aW,if_neg (Ne.symm Im),bE]) (aQ.nil _);have bl:=(Ox c8 c9 c_ cO aX cmd decl files nk dE gG aw).frame hj fZ hA;have z_:=Qb 78 [.ptr c8 1 0 0, .ptr c9 1 0 0, .ptr c_ 1 0 0, .ptr cO 4 0 0] _ (R:=fun e σ'=>match dm cmd decl files with
   |some x=>e= .ret (.v (.int .i64 0))∧∃a6,aV a6 2 (x.outs.map ay.d) (cL c8 c9 c_ cO cmd decl files fT)∧(dN [(jw, .arr 4 [uH])] (cellsOf a6 2 (x.outs.map ay.d)++cL c8 c9 c_ cO cmd decl files (.agg [.own a6 2 (x.outs.map ay.d).length, .v (.bool x.once), .v (.string x.dep), .v (.string x.mj)])))∧σ'=(cellsOf a6 2 (x.outs.map ay.d)++cL c8 c9 c_ cO cmd decl files (.agg [.own a6 2 (x.outs.map ay.d).length, .v (.bool x.once), .v (.string x.dep), .v (.string x.mj)]))++[(jw, .arr 4 [uH])]
   |none=>e= .ret (.v (.int .i64 13))∧av jw σ'=some (.arr 4 [uH])) Tryz.call78 bl (fun e σ' h=>by
  obtain⟨σ1,aa,ah,rfl⟩:=h;cases ag:dm cmd decl files with
  |none=>
   rw[ag]at aa;refine .inr ⟨aa,rfl, ?_⟩;rw[p1 (ah jw (by rw[bE];simp)),bE]
  |some x=>
   rw[ag]at aa;obtain⟨rfl,a6,aq,rfl⟩:=aa;exact .inl ⟨rfl,rfl,a6,aq,ah,rfl⟩)
 rw[←Ew];refine j.J ?_;rcases ag:dm cmd decl files with _|x
 ·rw[ag]at z_ ar;refine j.rg [3,4,5,6,8] fun K I=> ?_;simp only[go_sem];refine⟨_,Tryz.call77,z_.mono ?_⟩;rintro e σ1 ⟨rfl,aO⟩;simp only[go_sem];apply I;refine j.J (j.J (j.rg [6,8,9] fun K I=> ?_));simp only[go_sem];apply I;refine j.bZ rfl (j.J (j.rg [6,9] fun K I=> ?_));simp only[go_sem,aO,Ew];apply I;have lX:∀r,av jw (sset jw (.arr 4 [r]) σ1)=some (.arr 4 [r]):=fun r=>by rw[jU,if_pos rfl,aO];rfl
  refine j.ret ar Tryz.func42 (by simp[go_sem,lX]) ?_;simp only[go_sem,lX];rfl
 rw[ag]at z_ ar;refine j.rg [3,4,5,6,8] fun K I=> ?_;simp only[go_sem];refine⟨_,Tryz.call77,z_.mono ?_⟩;rintro e σ1 ⟨rfl,a6,aq,IE,rfl⟩;simp only[go_sem];apply I;refine j.J (j.J (j.rg [6,8,9] fun K I=> ?_));simp only[go_sem];apply I;refine j.bJ rfl (j.aN (j.J ?_));obtain⟨W,ib⟩:∃W:D,W= .agg [.own a6 2 (x.outs.map ay.d).length, .v (.bool x.once), .v (.string x.dep), .v (.string x.mj)]:=⟨_,rfl⟩;rw[←ib]at IE⊢;have Rv:aV a6 2 (x.outs.map ay.d) (cL c8 c9 c_ cO cmd decl files W):=k3 aq fun b ae=>wR ae;have Jv:=IE jw (by rw[bE];simp);have PU:∀r,av cO (cellsOf a6 2 (x.outs.map ay.d)++cL c8 c9 c_ cO cmd decl files W++[(jw, .arr 4 [r])])=some (.arr 4 [.agg [.own a6 2 (x.outs.map ay.d).length, .v (.bool x.once), .v (.string x.dep), .v (.string x.mj)]]):=fun r=>by
  rw[←ib];exact yF (Rv.keep y1)
 have Cx:∀r,av jw (cellsOf a6 2 (x.outs.map ay.d)++cL c8 c9 c_ cO cmd decl files W++[(jw, .arr 4 [r])])=some (.arr 4 [r]):=fun r=>by
  rw[p1 Jv,bE]
 have WV:∀r jR,sset jw (.arr 4 [jR]) (cellsOf a6 2 (x.outs.map ay.d)++cL c8 c9 c_ cO cmd decl files W++[(jw, .arr 4 [r])])=cellsOf a6 2 (x.outs.map ay.d)++cL c8 c9 c_ cO cmd decl files W++[(jw, .arr 4 [jR])]:=fun r jR=>by
  rw[FX Jv,gz]
 have PW:∀r,av jw (cellsOf a6 2 (x.outs.map ay.d)++(cL c8 c9 c_ cO cmd decl files W++[(jw, .arr 4 [r])]))=some (.arr 4 [r]):=fun r=>by rw[←List.append_assoc];exact Cx r
 rw[Ew];refine j.rg [6,8] fun K I=> ?_;simp only[go_sem,PU,Cx,WV];apply I;refine j.ret ar Tryz.func42 (by simp[go_sem,PW]) ?_;simp only[go_sem,Cx];exact⟨a6,⟨fun c ag=>rfl,aq.zero⟩,rfl,(aQ.append_left _ _).trans (aQ.append_left _ _)⟩
theorem OA (cmd:ByteArray) (decl:List ByteArray) (files:List ay) (nk:uI cmd) (dE:files.length<2^31) (gG:∀f∈files,f.b.length<2^20) (aw:decl.length<2^40) (σ:al):
  AC Tryz.prog 42 [.v (.string cmd), .ai (decl.map ab), .ai (files.map ay.d)] σ (fun e σ'=>e= .ret (wX (dm cmd decl files))∧σ'=σ):=by
 have h:=OB cmd decl files nk dE gG aw;have ah:AC Tryz.prog 42 [.v (.string cmd), .ai (decl.map ab), .ai (files.map ay.d)] [] (fun e σ'=>(e= .ret (wX (dm cmd decl files))∧σ'=[])∨∃x b,dm cmd decl files=some x∧e= .ret (.bd [.agg [.own (some b) 2 (x.outs.map ay.d).length, .v (.bool x.once), .v (.string x.dep), .v (.string x.mj)],d_ 0])∧σ'=[(b, .arr 2 (x.outs.map ay.d))]):=by
  refine h.l7 fun e σ' bR=> ?_;cases ag:dm cmd decl files with
  |none=>
   rw[ag]at bR;obtain⟨rfl,rfl⟩:=bR;refine .inr ⟨_,_,rfl,fun w S v ak=> ?_, .inl ⟨rfl,rfl⟩⟩;cases ak with
   |bd ao=>
    obtain⟨v0,vs,rfl,gH,fJ⟩:=ao.cons_inv;cases gH with
    |agg gH=>
     obtain⟨v1,l',rfl,bu,jS⟩:=bq.cons_inv (show bq w S (.v (.slice none 0 0)::[.v (.bool false), .v (.string ⟨#[]⟩), .v (.string ⟨#[]⟩)]) _ from gH);exact .bd (.cons (.agg (.cons (ca.pU w S v1 bu) jS)) fJ)
  |some x=>
   rw[ag]at bR;obtain⟨a6,aq,rfl,rfl⟩:=bR;cases a6 with
   |some b=>exact .inl (.inr ⟨x,b,rfl,rfl,rfl⟩)
   |none=>
    have an:=aq.zero rfl;refine .inr ⟨_,_,rfl,fun w S v ak=> ?_, .inl ⟨rfl,rfl⟩⟩;cases ak with
    |bd ao=>
     obtain⟨v0,vs,rfl,gH,fJ⟩:=ao.cons_inv;cases gH with
     |agg gH=>
      obtain⟨v1,l',rfl,bu,jS⟩:=gH.cons_inv;refine .bd (.cons (.agg (.cons ?_ jS)) fJ);rw[an];exact ca.l5 _ _ w S v1 bu
 refine ah.AU (R':=fun e=>e= .ret (wX (dm cmd decl files))) (fun e σ' bR=> ?_) σ;rcases bR with aJ|⟨x,b,ag,rfl,rfl⟩
 ·exact .inl aJ
 refine .inr ⟨_,b,2,_,rfl,rfl, ?_⟩;rw[ag];unfold wX hO.d d_;simp only[D.b',hb,true_and];rw[if_pos (Nat.le_refl _),List.take_length]
end Go.Ab.S16
