/- A part of a proof about the given program: the abstract machine, what functions compute, laid in few texts. -/
import Derived.Test.YticjnnmnjfpopaaGreatDoorKEb
import Derived.Recover
import Derived.Deep.Slices
import Derived.Below
import Derived.ChangeSame
import Derived.Carry
import Derived.ProofKit
import Derived.Conc.LoneSelect
set_option linter.unusedSimpArgs false
set_option linter.unusedVariables false
set_option linter.constructorNameAsVariable false
namespace Go.Ab
open Go
theorem kp (b:Nat) (σ ρ:al):av b (σ++ρ)=match av b σ with|some o=>some o|none=>av b ρ:=by
 induction σ with
 |nil=>rfl
 |cons p r aB=>
  obtain⟨c,o⟩:=p;rw[List.cons_append,aW,aW];split
  ·rfl
  exact aB
theorem p1 {b:Nat} {σ ρ:al} (h:av b σ=none):av b (σ++ρ)=av b ρ:=by rw[kp,h]
theorem yF {b:Nat} {σ ρ:al} {o:aE} (h:av b σ=some o):av b (σ++ρ)=some o:=by rw[kp,h]
def dN (ρ σ:al):Prop:=∀b,av b ρ≠none→av b σ=none
theorem dN.nil (σ:al):dN [] σ:=fun b h=>absurd rfl h
theorem dN.US (ρ:al):dN ρ []:=fun _ _=>rfl
theorem dN.cons {ρ σ:al} {b:Nat} {o:aE} (h:av b σ=none) (k:dN ρ σ):dN ((b,o)::ρ) σ:=fun c ag=>by
 rw[aW]at ag;split at ag
 ·rename_i fk;rw[fk];exact h
 exact k c ag
theorem dN.append {ρ ρ' σ:al} (h:dN ρ σ) (k:dN ρ' σ):dN (ρ++ρ') σ:=fun c ag=>by
 rw[kp]at ag;split at ag
 ·rename_i o aH;exact h c (by rw[aH];simp)
 exact k c ag
theorem dN.symm {ρ σ:al} (h:dN ρ σ):dN σ ρ:=fun b ae=>by
 cases ao:av b ρ with
 |none=>rfl
 |some o=>exact absurd (h b (by rw[ao];simp)) ae
theorem aQ.nil (σ:al):aQ [] σ:=fun b o h=>by simp at h
theorem aQ.cons {σ σ':al} {b:Nat} {o:aE} (h:av b σ'=some o) (k:aQ σ σ'):aQ ((b,o)::σ) σ':=fun c x ag=>by
 rw[aW]at ag;split at ag
 ·rename_i fk;cases ag;rw[fk];exact h
 exact k c x ag
theorem aQ.append_left (σ ρ:al):aQ σ (σ++ρ):=fun b o h=>yF h
theorem aQ.append_right {σ ρ:al} (h:dN ρ σ):aQ ρ (σ++ρ):=fun b o ae=>by
 rw[p1 (h b (by rw[ae];simp))];exact ae
theorem aQ.append {σ ρ τ:al} (h:aQ σ τ) (k:aQ ρ τ):aQ (σ++ρ) τ:=fun b o ae=>by
 rw[kp]at ae;split at ae
 ·rename_i pV aH;cases ae;exact h b _ aH
 exact k b o ae
section
variable {P : Program} {N : cP} {C : Ctx P N} {f : FuncId} {args : List D} {σ σ1 ρ : al} {R R' : cf → al → Prop}
theorem AC.frame (h:AC P f args σ1 R) (aa:aQ σ1 σ) (ah:aQ ρ σ) (aJ:dN ρ σ1):
  AC P f args σ (fun e σ'=>∃gA,R e gA∧dN ρ gA∧σ'=gA++ρ):=by
 intro w S vs bh aL ak;refine(h w S vs bh (aL.le aa) ak).mono ?_;rintro e w' ⟨cX,gA,S',bR,c1,c6,bl⟩;have hA:dN ρ gA:=fun b ae=>by
  cases af:av b gA with
  |none=>rfl
  |some o=>
   obtain⟨x,an⟩:=Option.ne_none_iff_exists'.1 ae;rcases bl.fh b (by unfold cq;rw[af];simp)with aw|aw
   ·exact absurd (aJ b ae) aw
   have:=(aL b x (ah b x an)).2.lt;omega
 have bx:eI w S w' S':=bl.ev fun b ae=>⟨bh.lt b ae,fun aw=>by
  unfold cq at aw;cases af:av b σ1 with
  |none=>exact aw af
  |some o=>exact(aL b o (aa b o af)).1 ae⟩
 refine⟨cX,gA++ρ,S',⟨gA,bR,hA,rfl⟩,c1,fun b o ae=> ?_,{bl with block:=fun b ae aw=> ?_,new:=fun b ae=> ?_,fh:=fun b ae=> ?_}⟩
 ·rw[kp]at ae;split at ae
  ·rename_i x an;cases ae;exact c6 b _ an
  have ao:=aL b o (ah b o ae);have au:¬cq σ1 b:=fun aw=>aw (aJ b (by rw[ae];simp));have aC:=ao.2.lt;refine⟨fun af=> ?_,ao.2.ev bx (bl.block b aC au)⟩;rcases bl.new b af with bg|bg|bg
  ·exact ao.1 bg
  ·exact au bg
  omega
 ·exact bl.block b ae fun lM=>aw (by
   unfold cq at*;cases af:av b σ1 with
   |none=>exact absurd af lM
   |some o=>rw[aa b o af];simp)
 ·rcases bl.new b ae with bg|bg|bg
  ·exact .inl bg
  ·refine .inr (.inl ?_);unfold cq at*;cases af:av b σ1 with
   |none=>exact absurd af bg
   |some o=>rw[aa b o af];simp
  exact .inr (.inr bg)
 unfold cq at ae;rw[kp]at ae;split at ae
 ·rename_i x an
  rcases bl.fh b (by unfold cq;rw[an];simp)with bg|bg
  ·refine .inl ?_;unfold cq at*;cases af:av b σ1 with
   |none=>exact absurd af bg
   |some o=>rw[aa b o af];simp
  exact .inr bg
 refine .inl ?_;unfold cq;cases af:av b ρ with
 |none=>exact absurd af ae
 |some o=>rw[ah b o af];simp
theorem AC.quiet (h:AC P f args [] R):AC P f args σ (fun e σ'=>∃gA,R e gA∧dN σ gA∧σ'=gA++σ):=h.frame (aQ.nil _) (aQ.refl _) (dN.US _)
theorem AC.MU (h:AC P f args σ1 R) (aa:aQ σ1 σ):AC P f args σ R:=by
 intro w S vs bh aL ak;refine(h w S vs bh (aL.le aa) ak).mono ?_;rintro e w' ⟨cX,gA,S',bR,c1,c6,bl⟩;refine⟨cX,gA,S',bR,c1,c6,{bl with block:=fun b ae aw=>bl.block b ae fun lM=>aw ?_,new:=fun b ae=> ?_,fh:=fun b ae=> ?_}⟩
 ·unfold cq at*;cases af:av b σ1 with
  |none=>exact absurd af lM
  |some o=>rw[aa b o af];simp
 ·rcases bl.new b ae with bg|bg|bg
  ·exact .inl bg
  ·refine .inr (.inl ?_);unfold cq at*;cases af:av b σ1 with
   |none=>exact absurd af bg
   |some o=>rw[aa b o af];simp
  exact .inr (.inr bg)
 rcases bl.fh b ae with bg|bg
 ·refine .inl ?_;unfold cq at*;cases af:av b σ1 with
  |none=>exact absurd af bg
  |some o=>rw[aa b o af];simp
 exact .inr bg
end
end Go.Ab
namespace Go.Ab
open Go
attribute [go_sem] Nat.reduceEqDiff Nat.reduceBEq Int.reduceBEq Int.reduceBNe Nat.reduceLT Nat.reduceLeDiff Nat.reduceAdd Nat.reduceSub Nat.reduceMul Int.reduceToNat Int.reduceEq Int.reduceLT Int.reduceLE reduceCtorEq
attribute [go_sem ↓] reduceIte
attribute [go_sem] aopD aopL litB aBuild0 Fixed inB isNone Keep dsts gd gset dstB rebase eget eput eputo ev aop aPick aAlloc aBox aLoad aStore aNilCheck aEq aNil ifcNil isIfc noSl noPtr aIndexAddr aIndex aSlice aSliceArr aFieldAddr aField aBuild aFill aBuildSlice aFillSlice aMakeSlice aLookup aFound aMapUpdate aDelete aTA aClear aRange aNext aLen srcOf aAppend aBuiltin aExtract
 pv qh uq nB jy okV cx cJ rh dJ sk rv q8 wb nO byteOf isByte bD Value.oneCell'
attribute [go_sem] List.contains_cons List.contains_nil List.mem_cons List.not_mem_nil or_false false_or or_true true_or List.map_cons List.map_nil List.append_nil List.nil_append List.cons_append List.zipIdx_cons List.zipIdx_nil List.take_succ_cons List.take_zero List.take_nil List.drop_succ_cons List.drop_zero List.drop_nil List.length_cons List.length_nil List.headD_cons List.getD_cons_zero List.getD_cons_succ
 List.getElem?_cons_zero List.getElem?_cons_succ List.getElem?_nil List.getElem?_toArray List.replicate_zero List.replicate_succ List.set_cons_zero Option.isSome_some Option.isSome_none ne_eq List.set_cons_succ List.all_cons List.all_nil Option.map_some Option.map_none Option.bind_some Option.bind_none Option.getD_some Option.getD_none Option.some.injEq Option.isSome_some Option.isSome_none
 Array.toList_map List.all_eq_true true_and and_true and_self if_true if_false forall_const not_true_eq_false not_false_eq_true Bool.true_eq_false Bool.false_eq_true true_implies false_implies implies_true Bool.not_true Bool.not_false Bool.and_true Bool.true_and Bool.or_false Bool.false_or Bool.and_false Bool.false_and Bool.or_true Bool.true_or
 Int.toNat_natCast Int.toNat_zero Int.toNat_one
def s4 (d:D):Bool:=match d with| .bd []=>true|_=>false
def u0 (d:D):Bool:=match d with| .v (.bool _)=>true|_=>false
def zp (d:D):Bool:=match d with| .v (.bool t)=>t|_=>false
@[go_sem] theorem ab4:s4 (.bd [])=true:=rfl
@[go_sem] theorem PY (t:Bool):s4 (.v (.bool t))=false:=rfl
@[go_sem] theorem PT (t:Bool):u0 (.v (.bool t))=true:=rfl
@[go_sem] theorem PV (t:Bool):zp (.v (.bool t))=t:=rfl
theorem Ie (d:D) (w:Bool) (A B s:Prop):(match d with| .v (.bool t)=>(t=w→A)∧(t= !w→B)| .bd []=>s|_=>False)=(if s4 d=true then s else if u0 d=true then(if zp d=w then A else B)else False):=by
 split
 ·rename_i t
  simp only[PY,PT,PV,Bool.false_eq_true,if_false,if_true];cases t<;>cases w<;>simp
 ·rfl
 rename_i aa ah
 have bt:s4 d=false:=by
  unfold s4;split
  ·exact absurd rfl ah
  rfl
 have b_:u0 d=false:=by
  unfold u0;split
  ·rename_i t;exact absurd rfl (aa t)
  rfl
 rw[bt,b_];simp
def l2 (o:Option Oper) (f:Oper→Prop):Prop:=match o with|some o=>f o|none=>False
@[go_sem] theorem adp (o:Oper) (f:Oper→Prop):l2 (some o) f=f o:=rfl
@[go_sem] theorem ac9 (k:Nat):pQ [] k=True:=rfl
@[go_sem] theorem ac8 (p:Nat×Value) (r:List (Nat×Value)) (k:Nat):pQ (p::r) k=(p.1≠k∧pQ r k):=rfl
section
variable {P : Program} {N : cP} {ds : List (Option Nat)} {K next : Env → al → Prop} {Qp : D → al → Prop} {env : Env} {σ σ' : al} {dst : Option Nat} {op : Op} {ty : TypeId} {pos : String} {after : Array Edge} {rest : List Oper} {lit aY cD : List Nat} {ops : Array Oper} {pre : Prop} {d : D} {ob : aE} {b : Option Nat} {sz : Nat} {xs : List D} {f : FuncId} {GG : List D}
@[go_sem] theorem akj:cQ P Qp next dst env σ (.val pre d)=(pre∧next (eputo dst d env) σ):=rfl
@[go_sem] theorem akf (ok:Bool→Prop) (f:Bool→D):cQ P Qp next dst env σ (.eP ok f)=∀t,ok t→next (eputo dst (f t) env) σ:=rfl
@[go_sem] theorem aki:cQ P Qp next dst env σ (.upd pre d σ')=(pre∧next (eputo dst d env) σ'):=rfl
@[go_sem] theorem akg (mk:Nat→D):cQ P Qp next dst env σ (.new pre ob mk)=(pre∧∀b,av b σ=none→next (eputo dst (mk b) env) ((b,ob)::σ)):=rfl
@[go_sem] theorem akc:cQ P Qp next dst env σ (.app pre b sz xs)=(pre∧∀ob:Option Nat,(ob=none→xs=[])→nX ob (h0 b σ)→next (eputo dst (.own ob sz xs.length) env) (cellsOf ob sz xs++h0 b σ)):=rfl
@[go_sem] theorem ake:cQ P Qp next dst env σ (.enter f GG)=BO P Qp next dst env σ f GG:=rfl
@[go_sem] theorem akh:cQ P Qp next dst env σ (.panic d)=Qp d σ:=rfl
@[go_sem] theorem akd:cQ P Qp next dst env σ .bad=False:=rfl
@[go_sem] theorem aj7:lu P N ds K Qp [] env σ=K env σ:=rfl
@[go_sem] theorem aj8:lu P N ds K Qp ({dst:=dst,op:=op,type:=ty,pos:=pos,after:=after,guard:=none}::rest) env σ=(dstB N dst∧cQ P Qp (lu P N ds K Qp rest) dst env σ (aop P env σ op)):=rfl
@[go_sem] theorem aj9 (U:Nat) (w:Bool):lu P N ds K Qp ({dst:=dst,op:=op,type:=ty,pos:=pos,after:=after,guard:=some (U,w)}::rest) env σ=(dstB N dst∧if s4 (gd env ds U)=true then lu P N ds K Qp rest (eputo dst (.bd []) env) σ else if u0 (gd env ds U)=true then
  (if zp (gd env ds U)=w then cQ P Qp (lu P N ds K Qp rest) dst (gset env ds U w) σ (aop P (gset env ds U w) σ op)else lu P N ds K Qp rest (eputo dst (.bd []) (gset env ds U (!w))) σ)else False):=by
 rw[lu];exact congrArg _ (Ie (gd env ds U) w _ _ _)
@[go_sem] theorem akk:h3 P N lit ds Qp next {dst:=dst,op:=op,type:=ty,pos:=pos,after:=after,guard:=none} env σ=(dstB N dst∧cQ P Qp next dst env σ (aopD P lit env σ {dst:=dst,op:=op,type:=ty,pos:=pos,after:=after,guard:=none})):=rfl
@[go_sem] theorem akl (U:Nat) (w:Bool):h3 P N lit ds Qp next {dst:=dst,op:=op,type:=ty,pos:=pos,after:=after,guard:=some (U,w)} env σ=(dstB N dst∧if s4 (gd env ds U)=true then next (eputo dst (.bd []) env) σ else if u0 (gd env ds U)=true then
  (if zp (gd env ds U)=w then cQ P Qp next dst env σ (aopD P lit env σ {dst:=dst,op:=op,type:=ty,pos:=pos,after:=after,guard:=some (U,w)})else next (eputo dst (.bd []) env) σ)else False):=by
 rw[h3];exact congrArg _ (Ie (gd env ds U) w _ _ _)
@[go_sem] theorem akb:wu P N lit ds K Qp [] env σ=K env σ:=rfl
@[go_sem] theorem aka (o:Oper):wu P N lit ds K Qp (o::rest) env σ=h3 P N lit ds Qp (wu P N lit ds K Qp rest) o env σ:=rfl
@[go_sem] theorem aj5:mZ P N lit aY cD ops K Qp [] env σ=K env σ:=rfl
@[go_sem] theorem aj6 (i:Nat) (r:List (Nat×Bool)):mZ P N lit aY cD ops K Qp ((i,true)::r) env σ=l2 ops[i]? fun o=>Fixed lit aY env o∧h3 P N lit (dsts ops) Qp (mZ P N lit aY cD ops K Qp r) o env σ:=by
 simp only[mZ,l2,if_true];cases ops[i]?<;>rfl
@[go_sem] theorem aj4 (i:Nat) (r:List (Nat×Bool)):mZ P N lit aY cD ops K Qp ((i,false)::r) env σ=l2 ops[i]? fun o=>h3 P N lit (dsts ops) Qp (fun env' σ'=>Keep aY cD i σ σ'∧mZ P N lit aY cD ops K Qp r env' σ') o env σ:=by
 simp only[mZ,l2,Bool.false_eq_true,if_false];cases ops[i]?<;>rfl
@[go_sem] theorem ahx:o8 (.val pre d)= .val pre d:=rfl
@[go_sem] theorem ahw (mk:Nat→D):o8 (.new pre (.arr sz xs) mk)= .val (pre∧∀b,mk b= .own (some b) sz xs.length) (.ai xs):=rfl
@[go_sem] theorem ahv:o8 (.app pre none sz xs)= .val pre (.ai xs):=rfl
end
section
@[go_sem] theorem aab (x:Value):(D.v x).cells=[D.v x]:=rfl
@[go_sem] theorem Z1 (x:Value):(D.v x).cell=true:=rfl
@[go_sem] theorem ad7 (x:Value):(D.v x).plain=true:=rfl
@[go_sem] theorem Z' (b sz i o:Nat):(D.ptr b sz i o).cells=[D.ptr b sz i o]:=rfl
@[go_sem] theorem ZZ (b sz i o:Nat):(D.ptr b sz i o).cell=true:=rfl
@[go_sem] theorem ad5 (b sz i o:Nat):(D.ptr b sz i o).plain=true:=rfl
@[go_sem] theorem Z7 (cs:List D):(D.c0 cs).cells=[D.c0 cs]:=rfl
@[go_sem] theorem ZV (cs:List D):(D.c0 cs).cell=true:=rfl
@[go_sem] theorem ad1 (cs:List D):(D.c0 cs).plain=true:=rfl
@[go_sem] theorem aaa (xs:List D):(D.ai xs).cells=[D.ai xs]:=rfl
@[go_sem] theorem Z0 (xs:List D):(D.ai xs).cell=true:=rfl
@[go_sem] theorem ad6 (xs:List D):(D.ai xs).plain=true:=rfl
@[go_sem] theorem Z_ (b:Option Nat) (sz n:Nat):(D.own b sz n).cells=[D.own b sz n]:=rfl
@[go_sem] theorem ZY (b:Option Nat) (sz n:Nat):(D.own b sz n).cell=true:=rfl
@[go_sem] theorem ad4 (b:Option Nat) (sz n:Nat):(D.own b sz n).plain=true:=rfl
@[go_sem] theorem aac (b sz o n:Nat):(D.win b sz o n).cells=[D.win b sz o n]:=rfl
@[go_sem] theorem Z2 (b sz o n:Nat):(D.win b sz o n).cell=true:=rfl
@[go_sem] theorem ad8 (b sz o n:Nat):(D.win b sz o n).plain=true:=rfl
@[go_sem] theorem Z9 (b:Nat):(D.map b).cells=[D.map b]:=rfl
@[go_sem] theorem ZX (b:Nat):(D.map b).cell=true:=rfl
@[go_sem] theorem ad3 (b:Nat):(D.map b).plain=true:=rfl
@[go_sem] theorem Z6 (f:Fn) (a c:List D):(D.bX f a c).cells=[D.bX f a c]:=rfl
@[go_sem] theorem ZU (f:Fn) (a c:List D):(D.bX f a c).cell=true:=rfl
@[go_sem] theorem ad0 (f:Fn) (a c:List D):(D.bX f a c).plain=true:=rfl
@[go_sem] theorem Z8 (t:TypeId) (x:D):(D.dX t x).cells=[D.dX t x]:=rfl
@[go_sem] theorem ZW (t:TypeId) (x:D):(D.dX t x).cell=true:=rfl
@[go_sem] theorem ad2 (t:TypeId) (x:D):(D.dX t x).plain=true:=rfl
@[go_sem] theorem Z5 (cs:List D):(D.agg cs).cells=cs:=rfl
@[go_sem] theorem ZT (cs:List D):(D.agg cs).cell=false:=rfl
@[go_sem] theorem adz (cs:List D):(D.agg cs).plain=cs.all D.cell:=rfl
variable {σ : al} {b c sz : Nat} {o x : aE} {xs : List D} {ob : Option Nat}
@[go_sem] theorem Z4:cellsOf (some b) sz xs=[(b, .arr sz xs)]:=rfl
@[go_sem] theorem Z3:cellsOf none sz xs=[]:=rfl
@[go_sem] theorem ah2:h0 none σ=σ:=rfl
@[go_sem] theorem ah3:h0 (some b) σ=cB b σ:=rfl
@[go_sem] theorem ah6:av b []=none:=rfl
@[go_sem] theorem ah7:av b ((b,o)::σ)=some o:=bE ..
@[go_sem] theorem MB (h:b≠c):av b ((c,o)::σ)=av b σ:=by rw[aW,if_neg h]
theorem AI (ag:av c σ=none) (ae:(av b σ).isSome=true):b≠c:=fun e=>by subst e;rw[ag]at ae;cases ae
@[go_sem] theorem ah4 (ag:av c σ=none) (ae:(av b σ).isSome=true):av b ((c,o)::σ)=av b σ:=MB (AI ag ae)
@[go_sem] theorem gz:sset b x ((b,o)::σ)=(b,x)::σ:=by simp[sset]
@[go_sem] theorem aja:sset b x []=[]:=rfl
@[go_sem] theorem fx (h:b≠c):sset b x ((c,o)::σ)=(c,o)::sset b x σ:=by simp[sset,h]
@[go_sem] theorem ajb (h:av b σ=none):sset b x σ=σ:=by
 induction σ with
 |nil=>rfl
 |cons p r aB=>
  obtain⟨c,o⟩:=p;rw[aW]at h;split at h
  ·cases h
  rename_i fB;rw[fx fB,aB h]
@[go_sem] theorem ai9 (ag:av c σ=none) (ae:(av b σ).isSome=true):sset b x ((c,o)::σ)=(c,o)::sset b x σ:=fx (AI ag ae)
@[go_sem] theorem ah1:cB b ((b,o)::σ)=cB b σ:=Mw ..
@[go_sem] theorem ahz:cB b []=[]:=rfl
@[go_sem] theorem Mv (h:b≠c):cB b ((c,o)::σ)=(c,o)::cB b σ:=by rw[cB,if_neg h]
@[go_sem] theorem ah0 (h:av b σ=none):cB b σ=σ:=uz h
@[go_sem] theorem ahy (ag:av c σ=none) (ae:(av b σ).isSome=true):cB b ((c,o)::σ)=(c,o)::cB b σ:=Mv (AI ag ae)
@[go_sem] theorem adn:bL sz none σ=some []:=rfl
@[go_sem] theorem ado:bL sz (some b) ((b, .arr sz xs)::σ)=some xs:=by simp[bL]
@[go_sem] theorem adl:bL sz ob (cellsOf ob sz xs++σ)=some (if ob=none then []else xs):=by cases ob<;>simp[bL,cellsOf]
@[go_sem] theorem U2 (h:b≠c):bL sz (some b) ((c,o)::σ)=bL sz (some b) σ:=by simp only[bL];rw[MB h]
theorem U3 (h:(bL sz (some b) σ).isSome=true):(av b σ).isSome=true:=by
 unfold bL at h;cases af:av b σ with
 |none=>simp[af]at h
 |some o=>rfl
@[go_sem] theorem adm (ag:av c σ=none) (ae:(bL sz ob σ).isSome=true):bL sz ob ((c,o)::σ)=bL sz ob σ:=by
 cases ob with
 |none=>rfl
 |some b=>exact U2 (AI ag (U3 ae))
end
@[go_sem] theorem fN {α:Type} (P:Program) (a:α):gy P (pure a)=some a:=rfl
theorem Fl {α β:Type} (P:Program):∀(s:Sem α) (f:α→Sem β),gy P (s.bind f)=(gy P s).bind fun a=>gy P (f a)
 | .pure a,f=>rfl
 | .program k,f=>by simp only[Sem.bind,gy];exact Fl P (k P) f
 | .mark m k,f=>by simp only[Sem.bind,gy];exact Fl P k f
 | .load ..,f| .store ..,f| .new ..,f| .shape ..,f| .freeze ..,f| .frozen ..,f| .getObj ..,f| .setObj ..,f| .choose ..,f| .sys ..,f| .halt ..,f=>rfl
@[go_sem] theorem nI {α β:Type} (P:Program) (s:Sem α) (f:α→Sem β):gy P (s>>=f)=(gy P s).bind fun a=>gy P (f a):=Fl P s f
@[go_sem] theorem aaf (P:Program) (σ:al) (src dst:TypeId) (xs:List D):lA P σ src dst (.ai xs)= .val (ny P src=true∧isStr P dst=true∧xs.all isByte=true) (.v (.string (bytesOf xs))):=rfl
@[go_sem] theorem aae (P:Program) (σ:al) (src dst:TypeId) (ob:Option Nat) (sz n:Nat):lA P σ src dst (.own ob sz n)=match bL 1 ob σ with
  |some xs=> .val (ny P src=true∧isStr P dst=true∧xs.all isByte=true∧n≤xs.length) (.v (.string (bytesOf (xs.take n))))
  |none=> .bad:=rfl
@[go_sem] theorem aah (P:Program) (σ:al) (src dst:TypeId) (b sz off n:Nat):lA P σ src dst (.win b sz off n)=match bL 1 (some b) σ with
  |some xs=> .val (ny P src=true∧isStr P dst=true∧xs.all isByte=true∧off+n≤xs.length∧sz=1) (.v (.string (bytesOf ((xs.drop off).take n))))
  |none=> .bad:=rfl
section
variable (P : Program) (σ : al) (T : TypeId) (lo hi mx : Option D)
@[go_sem] theorem ai7 (x:Value):qd P σ T (.v x) lo hi mx=aSlice P T (.v x) lo hi mx:=rfl
@[go_sem] theorem ai6 (xs:List D):qd P σ T (.ai xs) lo hi mx=aSlice P T (.ai xs) lo hi mx:=rfl
@[go_sem] theorem ai4 (b:Option Nat) (sz n:Nat):qd P σ T (.own b sz n) lo hi mx=aSlice P T (.own b sz n) lo hi mx:=rfl
@[go_sem] theorem ai8 (b sz o n:Nat):qd P σ T (.win b sz o n) lo hi mx=aSlice P T (.win b sz o n) lo hi mx:=rfl
@[go_sem] theorem ai5 (b sz U o:Nat):qd P σ T (.ptr b sz U o) lo hi mx=aSliceArr P σ T b sz U o lo hi mx:=rfl
end
@[go_sem] theorem aag (P:Program) (σ:al) (src dst:TypeId) (s:ByteArray):lA P σ src dst (.v (.string s))=
  if ny P dst=true∧isStr P src=true then .new (s.size<2^46) (.arr 1 (s.data.toList.map bD)) (fun b=> .own (some b) 1 s.size)
  else dJ P (convert src dst (.string s)):=rfl
section
variable (P : Program) (T : TypeId) (x y : Operand)
@[go_sem] theorem Zl (k:IntKind) (a b:Int):cF P .add T x y (.v (.int k a)) (.v (.int k b))= .val True (.v (.int k (k.wrap (a+b)))):=by simp[cF,ifcNil,fQ,cJ,dJ,eqGuard,binOp,Op.intArith,okV,cx,fN]
@[go_sem] theorem ZI (k:IntKind) (a b:Int):cF P .sub T x y (.v (.int k a)) (.v (.int k b))= .val True (.v (.int k (k.wrap (a-b)))):=by simp[cF,ifcNil,fQ,cJ,dJ,eqGuard,binOp,Op.intArith,okV,cx,fN]
@[go_sem] theorem Zs (k:IntKind) (a b:Int):cF P .mul T x y (.v (.int k a)) (.v (.int k b))= .val True (.v (.int k (k.wrap (a*b)))):=by simp[cF,ifcNil,fQ,cJ,dJ,eqGuard,binOp,Op.intArith,okV,cx,fN]
@[go_sem] theorem Zr (k:IntKind) (a b:Int):cF P .lss T x y (.v (.int k a)) (.v (.int k b))= .val True (.v (.bool (decide (a<b)))):=by simp[cF,ifcNil,fQ,cJ,dJ,eqGuard,binOp,Op.intCmp,okV,cx,fN]
@[go_sem] theorem Zq (k:IntKind) (a b:Int):cF P .leq T x y (.v (.int k a)) (.v (.int k b))= .val True (.v (.bool (decide (a≤b)))):=by simp[cF,ifcNil,fQ,cJ,dJ,eqGuard,binOp,Op.intCmp,okV,cx,fN]
@[go_sem] theorem Zp (k:IntKind) (a b:Int):cF P .gtr T x y (.v (.int k a)) (.v (.int k b))= .val True (.v (.bool (decide (a>b)))):=by simp[cF,ifcNil,fQ,cJ,dJ,eqGuard,binOp,Op.intCmp,okV,cx,fN]
@[go_sem] theorem Zo (k:IntKind) (a b:Int):cF P .geq T x y (.v (.int k a)) (.v (.int k b))= .val True (.v (.bool (decide (a≥b)))):=by simp[cF,ifcNil,fQ,cJ,dJ,eqGuard,binOp,Op.intCmp,okV,cx,fN]
@[go_sem] theorem Zm (k:IntKind) (a b:Int):cF P .eql T x y (.v (.int k a)) (.v (.int k b))= .val True (.v (.bool (a==b))):=by simp[cF,ifcNil,fQ,cJ,dJ,eqGuard,binOp,Op.intCmp,okV,cx,fN]
@[go_sem] theorem Zt (k:IntKind) (a b:Int):cF P .neq T x y (.v (.int k a)) (.v (.int k b))= .val True (.v (.bool (a !=b))):=by simp[cF,ifcNil,fQ,cJ,dJ,eqGuard,binOp,Op.intCmp,okV,cx,fN]
@[go_sem] theorem ZE (a b:ByteArray):cF P .eql T x y (.v (.string a)) (.v (.string b))= .val True (.v (.bool (a.toList==b.toList))):=by simp[cF,ifcNil,fQ,cJ,dJ,eqGuard,binOp,Op.stringOp,okV,cx,fN]
@[go_sem] theorem ZH (a b:ByteArray):cF P .neq T x y (.v (.string a)) (.v (.string b))= .val True (.v (.bool !(a.toList==b.toList))):=by simp[cF,ifcNil,fQ,cJ,dJ,eqGuard,binOp,Op.stringOp,okV,cx,fN]
@[go_sem] theorem GO (a b:ByteArray) (h:a.size+b.size<4611686018427387904):cF P .add T x y (.v (.string a)) (.v (.string b))= .val True (.v (.string (a++b))):=by
 have ah:¬((a.size+b.size:Nat):Int)>IntKind.i64.max:=by simp[IntKind.max,IntKind.signed,IntKind.bits];omega
 simp only[cF,ifcNil,fQ,cJ,dJ,eqGuard,binOp,Op.stringOp];rw[if_neg ah];simp[okV,cx,fN]
@[go_sem] theorem ZG (a b:ByteArray):cF P .lss T x y (.v (.string a)) (.v (.string b))= .val True (.v (.bool (Op.bytesLess a.toList b.toList))):=by simp[cF,ifcNil,fQ,cJ,dJ,eqGuard,binOp,Op.stringOp,okV,cx,fN]
@[go_sem] theorem GP (k oS:IntKind) (a:Int) (b:Nat):cF P .shr T x y (.v (.int k a)) (.v (.int oS (b:Int)))= .val True (.v (.int k (a.fdiv (2^(min b k.bits))))):=by
 have h:¬((b:Int)<0):=by omega
 simp[cF,ifcNil,fQ,cJ,dJ,eqGuard,binOp,Op.shift,okV,cx,fN,h]
@[go_sem] theorem ZF (k oS:IntKind) (a:Int) (b:Nat):cF P .shl T x y (.v (.int k a)) (.v (.int oS (b:Int)))= .val True (.v (.int k (k.wrap (a*2^(min b k.bits))))):=by
 have h:¬((b:Int)<0):=by omega
 simp[cF,ifcNil,fQ,cJ,dJ,eqGuard,binOp,Op.shift,okV,cx,fN,h]
theorem yt:gy P (underlying T)=P.underlying T:=by
 unfold underlying;rw[nI];show(some P).bind _=_
 rw[Option.bind_some];cases h:P.underlying T<;>simp only[h]<;>rfl
@[go_sem] theorem aad (σ:al) (src dst:TypeId) (k:IntKind) (n:Int):lA P σ src dst (.v (.int k n))=match P.underlying src,P.underlying dst with
  |some _,some (.int k2)=> .val True (.v (.int k2 (k2.wrap n)))
  |_,_=>dJ P (convert src dst (.int k n)):=by
 show dJ P (convert src dst (.int k n))=_
 split
 ·rename_i af aw
  simp only[dJ,convert,nI,yt,af,aw,Option.bind_some,Conv.intToInt,fN,okV,cx,if_true]
 rfl
@[go_sem] theorem ajm (a:Bool):sP P .not (.v (.bool a))= .val True (.v (.bool !a)):=by simp[sP,cJ,dJ,Op.unary,fN,okV,cx]
end
section
variable (P : Program) (T : TypeId) (x : Operand) (c : Value)
theorem Pe {P:Program} {T:TypeId} (h:isIfc (P.underlying T)=true) (d:Nat):gy P (Op.equalIn (d+1) T .nilIface .nilIface)=some true:=by
 have:∃ms,P.underlying T=some (.interface ms):=by
  unfold isIfc at h;split at h
  ·exact⟨_,by assumption⟩
  cases h
 obtain⟨ms,hu⟩:=this;simp only[Op.equalIn,nI,yt,hu,Option.bind_some,fN]
theorem Hw {P:Program} {T:TypeId} (h:isIfc (P.underlying T)=true):gy P (Op.equal T .nilIface .nilIface)=some true:=Pe h 9999
theorem yr {α β:Type} (P:Program) (f:α→β) (s:Sem α):gy P (f<$>s)=(gy P s).map f:=by
 rw[map_eq_pure_bind,nI];cases gy P s<;>rfl
@[go_sem] theorem Zw (h:isIfc (P.underlying T)=true):cF P .neq T x (.const c) (.v .nilIface) (.v .nilIface)= .val True (.v (.bool false)):=by
 simp[cF,ifcNil,fQ,cJ,dJ,eqGuard,binOp,nI,yr,Hw h,okV,cx,fN]
@[go_sem] theorem Zv (h:isIfc (P.underlying T)=true):cF P .eql T x (.const c) (.v .nilIface) (.v .nilIface)= .val True (.v (.bool true)):=by
 simp[cF,ifcNil,fQ,cJ,dJ,eqGuard,binOp,nI,yr,Hw h,okV,cx,fN]
end
section
variable (P : Program) (op : BinOp) (T : TypeId) (bz bM : Operand) (y : D)
@[go_sem] theorem ZC (b sz i o:Nat):cF P op T bz bM (.ptr b sz i o) y=
 match cJ (.ptr b sz i o),cJ y with
 |some a,some b=>dJ P (do eqGuard op T bz bM a b;binOp op T a b)
 |_,_=>
  match op,aEq (P.underlying T) (.ptr b sz i o) y with
  | .eql,some t=> .val True (.v (.bool t))
  | .neq,some t=> .val True (.v (.bool !t))
  |_,_=>
   match op,aNil (P.underlying T) (.ptr b sz i o) y with
   | .eql,some ok=> .eP ok fun t=> .v (.bool t)
   | .neq,some ok=> .eP ok fun t=> .v (.bool !t)
   |_,_=> .bad:=rfl
@[go_sem] theorem Zy (cs:List D):cF P op T bz bM (.c0 cs) y=
 match cJ (.c0 cs),cJ y with
 |some a,some b=>dJ P (do eqGuard op T bz bM a b;binOp op T a b)
 |_,_=>
  match op,aEq (P.underlying T) (.c0 cs) y with
  | .eql,some t=> .val True (.v (.bool t))
  | .neq,some t=> .val True (.v (.bool !t))
  |_,_=>
   match op,aNil (P.underlying T) (.c0 cs) y with
   | .eql,some ok=> .eP ok fun t=> .v (.bool t)
   | .neq,some ok=> .eP ok fun t=> .v (.bool !t)
   |_,_=> .bad:=rfl
@[go_sem] theorem ZD (xs:List D):cF P op T bz bM (.ai xs) y=
 match cJ (.ai xs),cJ y with
 |some a,some b=>dJ P (do eqGuard op T bz bM a b;binOp op T a b)
 |_,_=>
  match op,aEq (P.underlying T) (.ai xs) y with
  | .eql,some t=> .val True (.v (.bool t))
  | .neq,some t=> .val True (.v (.bool !t))
  |_,_=>
   match op,aNil (P.underlying T) (.ai xs) y with
   | .eql,some ok=> .eP ok fun t=> .v (.bool t)
   | .neq,some ok=> .eP ok fun t=> .v (.bool !t)
   |_,_=> .bad:=rfl
@[go_sem] theorem ZB (b:Option Nat) (sz n:Nat):cF P op T bz bM (.own b sz n) y=
 match cJ (.own b sz n),cJ y with
 |some a,some b=>dJ P (do eqGuard op T bz bM a b;binOp op T a b)
 |_,_=>
  match op,aEq (P.underlying T) (.own b sz n) y with
  | .eql,some t=> .val True (.v (.bool t))
  | .neq,some t=> .val True (.v (.bool !t))
  |_,_=>
   match op,aNil (P.underlying T) (.own b sz n) y with
   | .eql,some ok=> .eP ok fun t=> .v (.bool t)
   | .neq,some ok=> .eP ok fun t=> .v (.bool !t)
   |_,_=> .bad:=rfl
@[go_sem] theorem ZA (b:Nat):cF P op T bz bM (.map b) y=
 match cJ (.map b),cJ y with
 |some a,some b=>dJ P (do eqGuard op T bz bM a b;binOp op T a b)
 |_,_=>
  match op,aEq (P.underlying T) (.map b) y with
  | .eql,some t=> .val True (.v (.bool t))
  | .neq,some t=> .val True (.v (.bool !t))
  |_,_=>
   match op,aNil (P.underlying T) (.map b) y with
   | .eql,some ok=> .eP ok fun t=> .v (.bool t)
   | .neq,some ok=> .eP ok fun t=> .v (.bool !t)
   |_,_=> .bad:=rfl
@[go_sem] theorem Zx (f:Fn) (a c:List D):cF P op T bz bM (.bX f a c) y=
 match cJ (.bX f a c),cJ y with
 |some a,some b=>dJ P (do eqGuard op T bz bM a b;binOp op T a b)
 |_,_=>
  match op,aEq (P.underlying T) (.bX f a c) y with
  | .eql,some t=> .val True (.v (.bool t))
  | .neq,some t=> .val True (.v (.bool !t))
  |_,_=>
   match op,aNil (P.underlying T) (.bX f a c) y with
   | .eql,some ok=> .eP ok fun t=> .v (.bool t)
   | .neq,some ok=> .eP ok fun t=> .v (.bool !t)
   |_,_=> .bad:=rfl
@[go_sem] theorem Zk (t:TypeId) (x:D):fQ P op T bz bM (.dX t x) y=
 match cJ (.dX t x),cJ y with
 |some a,some b=>dJ P (do eqGuard op T bz bM a b;binOp op T a b)
 |_,_=>
  match op,aEq (P.underlying T) (.dX t x) y with
  | .eql,some t=> .val True (.v (.bool t))
  | .neq,some t=> .val True (.v (.bool !t))
  |_,_=>
   match op,aNil (P.underlying T) (.dX t x) y with
   | .eql,some ok=> .eP ok fun t=> .v (.bool t)
   | .neq,some ok=> .eP ok fun t=> .v (.bool !t)
   |_,_=> .bad:=rfl
@[go_sem] theorem Zz (t:TypeId) (x:D):cF P op T bz bM (.dX t x) y=match ifcNil (P.underlying T) (.dX t x) y,op with
 |true, .eql=> .val True (.v (.bool false))
 |true, .neq=> .val True (.v (.bool true))
 |_,_=>fQ P op T bz bM (.dX t x) y:=rfl
end
theorem j.while {P:Program} {N:cP} {C:Ctx P N} {c:Code} {k:List Item} {env:Env} {σ:al} {α:Type} (kT:α→Env→al→Prop) (rm:α→Nat) (a0:α) (bj:kT a0 env σ)
  (round:∀a env σ,kT a env σ→(∀b env' σ',kT b env' σ'→rm b<rm a→j C (.inLoop c::k) env' σ')→j C (.code c:: .inLoop c::k) env σ):j C (.code (.loop c)::k) env σ:=by
 have key:∀n a env σ,rm a=n→kT a env σ→j C (.code c:: .inLoop c::k) env σ:=by
  intro n;induction n using Nat.strongRecOn with
  |_ n aB=>
   intro a env σ au CZ;exact round a env σ CZ fun b env' σ' C0 aC=>j.inLoop (aB (rm b) (by omega) b env' σ' rfl C0)
 exact j.loop (key _ a0 env σ rfl bj)
theorem kt (n:Int) (bj:-9223372036854775808≤n) (aa:n≤9223372036854775807):IntKind.i64.wrap n=n:=by rw[IntKind.wrap_i64];omega
theorem bH (n:Nat) (h:n<4611686018427387904):IntKind.i64.wrap ((n:Int)+1)=((n+1:Nat):Int):=by rw[IntKind.wrap_i64];omega
end Go.Ab
namespace Go.Ab
open Go
inductive kv where
 |ret
 |oZ (d:D) (rec:Bool)
def qb (w:World) (S:Nat→Prop):kv→FrameMode→Prop
 | .ret, .returning=>True
 | .oZ d r, .panicking chain=>∃v,chain=[{v,recovered:=r}]∧bw w S d v
 |_,_=>False
theorem qb.ev {w w':World} {S S':Nat→Prop} {u:kv} {m:FrameMode} (h:qb w S u m) (bx:eI w S w' S'):qb w' S' u m:=by
 cases u with
 |ret=>cases m<;>exact h
 |oZ d r=>
  cases m with
  |panicking chain=>obtain⟨v,aa,ah⟩:=h;exact⟨v,aa,ah.ev bx⟩
  |returning=>exact h
  |run=>exact h
def p8 (P:Program) (f:FuncId) (args:List D) (u:kv) (σ:al) (R:kv→al→Prop):Prop:=
 ∀(w:World) (S:Nat→Prop) (vs:List Value) (fu:FrameMode),lz w S→da w S σ→bq w S args vs→qb w S u fu→
  CallsD P f vs.toArray fu w fun e nW w'=>(∃v,e= .returned v)∧∃sR σ' S',R sR σ'∧qb w' S' sR nW∧da w' S' σ'∧Fr w S (cq σ) w' S' σ'
def Ns (P:Program) (f:FuncId) (bO:World) (bQ:Nat→Prop) (cj:al) (R:kv→al→Prop) (gb:Frame) (cs:List Frame) (m:Machine):Prop:=
 ∃e nW w' fr,((∃v,e= .returned v)∧∃sR σ' S',R sR σ'∧qb w' S' sR nW∧da w' S' σ'∧Fr bO bQ (cq cj) w' S' σ')∧Comes P m (lone fr ({gb with mode:=nW}::cs) w') e∧fr.kind= .deferred∧fr.going P w' e
def Ctx.ru (P:Program) (N:cP) (f:FuncId) (bO:World) (bQ:Nat→Prop) (cj:al) (bh:lz bO bQ) (aL:da bO bQ cj) (R:kv→al→Prop) (gb:Frame) (cs:List Frame) (fu:FrameMode):Ctx P N where
 b:={(default:Frame)with fn:=f,kind:= .deferred}
 cs:={gb with mode:=fu}::cs
 ds:=[]
 bO:=bO
 bQ:=bQ
 F:=cq cj
 Z:=Ns P f bO bQ cj R gb cs
 e5:=fun m ue af ⟨e,nW,w',fr,aa,ah,aJ⟩=>⟨e,nW,w',fr,aa,Comes.of_steps af ah,aJ⟩
 bh:=fun b ae=>⟨bh.lt b ae,fun aw=>by
  cases af:av b cj with
  |none=>exact aw af
  |some o=>exact(aL b o af).1 ae⟩
 lI:=bh.g
structure wH {P:Program} {N:cP} (C:Ctx P N) (f:FuncId) (R:kv→al→Prop) (u:kv):Prop where
 ex:∃bO bQ cj bh aL gb cs fu,qb bO bQ u fu∧C=Ctx.ru P N f bO bQ cj bh aL R gb cs fu
theorem p8.vQ {P:Program} {f:FuncId} {fn:Func} {c:Code} {N:Nat} {args:List D} {u:kv} {σ:al} {R:kv→al→Prop} (ax:P.funcs[f]?=some fn) (ae:fn.body=some c) (aX:fn.ntmps=N) (rM:args.length≤N)
  (h:∀C:Ctx P ⟨N,[]⟩,wH C f R u→j C [.code c] (sk args) σ):p8 P f args u σ R:=by
 intro w S vs fu bh aL ao hu gb cs hm;have ar:=h (Ctx.ru P ⟨N,[]⟩ f w S σ bh aL R gb cs fu) ⟨_,_,_,_,_,_,_,_,hu,rfl⟩;have hlen:=ao.length;have fp:ck (Ctx.ru P ⟨N,[]⟩ f w S σ bh aL R gb cs fu) (sk args) σ w S (vs.toArray++Array.replicate (fn.ntmps-vs.toArray.size) undef):=by
  refine⟨fun k=> ?_,aL,Fr.refl σ bh.lt,by simp;omega,fun p aP=>by simp at aP⟩;rw[Ht];by_cases aj:k<args.length
  ·rw[dC _ _ _ aj];obtain⟨v,ak,cl⟩:=ao.get k args[k] (by simp);have gL:k<vs.length:=by omega
   rw[Array.getD_eq_getD_getElem?,Array.getElem?_append_left (by simpa using gL)];simp only[List.getElem?_toArray,ak,Option.getD_some];exact cl
  rw[List.getD_eq_getElem?_getD,List.getElem?_eq_none (by omega)];exact .any
 have aO:=ar {tmps:=vs.toArray++Array.replicate (fn.ntmps-vs.toArray.size) undef,defers:=[]} w S rfl fp;have mE:Frame.enter P f vs.toArray .deferred=({(default:Frame)with fn:=f,kind:= .deferred}:Frame).atR {tmps:=vs.toArray++Array.replicate (fn.ntmps-vs.toArray.size) undef,defers:=[]} [.code c]:=by
  simp[Frame.enter,Frame.atR,ax,ae];rfl
 rw[mE];obtain⟨e,nW,w',fr,aa,rU,aj,aA⟩:=aO;have tm:({gb with mode:=fu}:Frame)=gb:=by subst hm;rfl
 have IX:Comes P (lone (({(default:Frame)with fn:=f,kind:= .deferred}:Frame).atR {tmps:=vs.toArray++Array.replicate (fn.ntmps-vs.toArray.size) undef,defers:=[]} [.code c]) (({gb with mode:=fu}:Frame)::cs) w) (lone fr ({gb with mode:=nW}::cs) w') e:=rU;rw[tm]at IX;exact⟨e,nW,w',fr,aa,IX,aj,aA⟩
section
variable {P : Program} {N : cP} {C : Ctx P N} {k : List Item} {env : Env} {σ : al} {f : FuncId} {fn : Func} {R : kv → al → Prop} {u : kv}
theorem j.Ho (ar:wH C f R u) (ax:P.funcs[f]?=some fn) (hT:fn.results.toList=[]) (bR:R u σ):j C [] env σ:=by
 obtain⟨bO,bQ,cj,bh,aL,gb,cs,fu,hu,rfl⟩:=ar.ex;intro a w S aw af;obtain⟨v,bS,cl⟩:=Bd (P:=P) (fn:=fn) af.env af.store (by rw[hT];simp);have bx:=af.fr.ev (Ctx.ru P N f bO bQ cj bh aL R gb cs fu).bh;exact⟨.returned v,fu,w,_,⟨⟨v,rfl⟩,u,σ,S,bR,hu.ev bx,af.store,af.fr⟩, .one (stepR_end rfl),rfl,rfl,aw,fn,ax,bS⟩
theorem L_ {b:Frame} {a:Act} {cs cs':List Frame} {w:World} {id:Nat} {eQ dH:Oper} {k1 k2:Nat} {v:Value} (aj:b.kind= .deferred) (ao:b.roundOf=none)
  (bj:eQ.op= .call {callee:= .builtin .recover,args:=#[],argTypes:=#[]}) (rF:eQ.dst=some k1) (s7:eQ.guard=none)
  (aa:dH.op= .assign (.tmp k1)) (rH:dH.dst=some k2) (s9:dH.guard=none) (jL:k1<a.tmps.size)
  (r':recoverD cs=some (v,cs')∨(recoverD cs=none∧v= .nilIface∧cs'=cs)):
  Steps P (lone (b.at a (.code (.region id #[eQ,dH] false)::k)) cs w) (lone (b.at ((a.put (some k1) v).put (some k2) v) k) cs' w):=by
 have tX:∀t,Region.wanted eQ (yielded #[eQ,dH] t)=true:=fun t=>by simp[Region.wanted,s7]
 have ki:∀t,Region.wanted dH (yielded #[eQ,dH] t)=true:=fun t=>by simp[Region.wanted,s9]
 have Eb:(execOp a.eval eQ).run P w= .ok .recover w:=by
  simp[execOp,bj,resolve,invoke,builtin]
 have mL:∀v,(a.put (some k1) v).eval (.tmp k1)=v:=fun v=>by
  show(a.tmps.setIfInBounds k1 v).getD k1 undef=v
  simp[Array.getD,jL]
 have qI:∀v,(execOp (a.put (some k1) v).eval dH).run P w= .ok (.value v) w:=fun v=>by
  simp only[execOp,aa,mL];rfl
 have key:∀cs',(recoverD cs=some (v,cs')∨(recoverD cs=none∧v= .nilIface∧cs'=cs))→wpOpsS P #[eQ,dH] (fun e na Hg fb=>e= .normal∧na=(a.put (some k1) v).put (some k2) v∧Hg=cs'∧fb=w) (List.range 2) a cs w:=by
  intro cs' r';rw[show List.range 2=[0,1]from rfl];simp only[wpOpsS,show(#[eQ,dH]:Array Oper)[0]?=some eQ from rfl,show(#[eQ,dH]:Array Oper)[1]?=some dH from rfl,tX,ki,if_true,Eb];rcases r' with D7|⟨D7,rfl,rfl⟩
  ·simp only[D7,rF,qI,Oper.upon_value,rH];exact⟨trivial,trivial,trivial,trivial⟩
  rw[D7];simp only[rF,qI,Oper.upon_value,rH];exact⟨trivial,trivial,trivial,trivial⟩
 obtain⟨e,na,Hg,fb,⟨rfl,rfl,rfl,rfl⟩,rN⟩:=wpS_region (id:=id) (key cs' r') b k aj ao;exact rN
theorem ck.LP {a:Act} {w:World} {S:Nat→Prop} {d:D} {v:Value} {k1 k2:Nat} (af:ck C env σ w S a.tmps) (aw:bw w S d v) (aa:dV N (some k1)) (ah:dV N (some k2)):
  ck C (eput k2 d (eput k1 d env)) σ w S ((a.put (some k1) v).put (some k2) v).tmps:=
 l_ (a:=a.put (some k1) v) (dst:=some k2) (l_ af (dst:=some k1) aa aw af.store (Fr.refl σ af.fr.lt)) ah aw af.store (Fr.refl σ af.fr.lt)
theorem j.V6 {d:D} {id:Nat} {eQ dH:Oper} {k1 k2:Nat} (ar:wH C f R (.oZ d false))
  (bj:eQ.op= .call {callee:= .builtin .recover,args:=#[],argTypes:=#[]}) (rF:eQ.dst=some k1) (s7:eQ.guard=none)
  (aa:dH.op= .assign (.tmp k1)) (rH:dH.dst=some k2) (s9:dH.guard=none) (cb:dstB N (some k1)) (gl:dstB N (some k2))
  (h:∀i':Ctx P N,wH i' f R (.oZ d true)→j i' k (eput k2 d (eput k1 d env)) σ):j C (.code (.region id #[eQ,dH] false)::k) env σ:=by
 obtain⟨bO,bQ,cj,bh,aL,gb,cs,fu,hu,rfl⟩:=ar.ex;intro a w S aw af;have bx:=af.fr.ev (Ctx.ru P N f bO bQ cj bh aL R gb cs fu).bh;cases fu with
 |run=>exact hu.elim
 |returning=>exact hu.elim
 |panicking chain=>
  obtain⟨v,rfl,ak⟩:=hu;have c6:=L_ (P:=P) (b:={(default:Frame)with fn:=f,kind:= .deferred}) (a:=a) (k:=k) (w:=w) (id:=id) (cs:=({gb with mode:= .panicking [{v,recovered:=false}]}:Frame)::cs) (cs':=({gb with mode:= .panicking [{v,recovered:=true}]}:Frame)::cs) (v:=v) rfl rfl bj rF s7 aa rH s9 (by rw[af.size.1];exact(kZ cb k1 rfl).1) (.inl rfl);have aq:=h (Ctx.ru P N f bO bQ cj bh aL R gb cs (.panicking [{v,recovered:=true}])) ⟨bO,bQ,cj,bh,aL,gb,cs, .panicking [{v,recovered:=true}],⟨v,rfl,ak⟩,rfl⟩;have ah:=ck.LP af (ak.ev bx) (kZ cb) (kZ gl);have aO:=aq ((a.put (some k1) v).put (some k2) v) w S (by rw[put_defers,put_defers];exact aw) ⟨ah.env,ah.store,ah.fr,ah.size⟩;exact(Ctx.ru P N f bO bQ cj bh aL R gb cs (.panicking [{v,recovered:=false}])).e5 _ _ c6 aO
theorem j.V7 {id:Nat} {eQ dH:Oper} {k1 k2:Nat} (ar:wH C f R .ret)
  (bj:eQ.op= .call {callee:= .builtin .recover,args:=#[],argTypes:=#[]}) (rF:eQ.dst=some k1) (s7:eQ.guard=none)
  (aa:dH.op= .assign (.tmp k1)) (rH:dH.dst=some k2) (s9:dH.guard=none) (cb:dstB N (some k1)) (gl:dstB N (some k2))
  (h:j C k (eput k2 (.v .nilIface) (eput k1 (.v .nilIface) env)) σ):j C (.code (.region id #[eQ,dH] false)::k) env σ:=by
 obtain⟨bO,bQ,cj,bh,aL,gb,cs,fu,hu,rfl⟩:=ar.ex;intro a w S aw af;cases fu with
 |run=>exact hu.elim
 |panicking chain=>exact hu.elim
 |returning=>
  have c6:=L_ (P:=P) (b:={(default:Frame)with fn:=f,kind:= .deferred}) (a:=a) (k:=k) (w:=w) (id:=id) (cs:=({gb with mode:= .returning}:Frame)::cs) (cs':=({gb with mode:= .returning}:Frame)::cs) (v:= .nilIface) rfl rfl bj rF s7 aa rH s9 (by rw[af.size.1];exact(kZ cb k1 rfl).1) (.inr ⟨rfl,rfl,rfl⟩);have ah:=ck.LP af (d:= .v .nilIface) (v:= .nilIface) (.v rfl) (kZ cb) (kZ gl);have aO:=h ((a.put (some k1) .nilIface).put (some k2) .nilIface) w S (by rw[put_defers,put_defers];exact aw) ah;exact(Ctx.ru P N f bO bQ cj bh aL R gb cs .returning).e5 _ _ c6 aO
end
def nH:D→Value
 | .ptr b sz i o=> .pointer (some ⟨b,i*sz+o,none⟩)
 |_=>undef
def nz:D→Bool
 | .ptr _ _ _ _=>true
 |_=>false
theorem LC {w:World} {S:Nat→Prop} {d:D} (h:nz d=true):bw w S d (nH d):=by
 cases d<;>simp[nz]at h
 exact .ptr
theorem LB {w:World} {S:Nat→Prop} {d:D} {v:Value} (h:nz d=true) (ao:bw w S d v):v=nH d:=by
 cases d<;>simp[nz]at h
 cases ao;rfl
theorem LD {w:World} {S:Nat→Prop}:∀{ds:List D},ds.all nz=true→bq w S ds (ds.map nH)
 |[],_=> .nil
 |d::ds,h=>by
  simp only[List.all_cons,Bool.and_eq_true]at h;exact .cons (LC h.1) (LD h.2)
def lkOf (L:Env):List (Nat×Value):=L.map fun p=>(p.1,nH p.2)
attribute [go_sem] lkOf D.agg.injEq exists_eq'
def lD (fd:FuncId) (cg:List D):Deferred:={target:= .fn (.func fd) (cg.map nH).toArray,args:=#[]}
def Ctx.y2 (P:Program) (N:cP) (f:FuncId) (bO:World) (bQ:Nat→Prop) (cj:al) (bh:lz bO bQ) (aL:da bO bQ cj) (R:cf→al→Prop) (cs:List Frame) (n2:Deferred):Ctx P N:=
 {b:={(default:Frame)with fn:=f,kind:= .normal}
  cs:=cs
  ds:=[n2]
  bO:=bO
  bQ:=bQ
  F:=cq cj
  Z:=wF P f bO bQ cj R cs
  e5:=fun m ue af ⟨e,w',fr,aa,ah,aJ⟩=>⟨e,w',fr,aa,Comes.of_steps af ah,aJ⟩
  bh:=fun b ae=>⟨bh.lt b ae,fun aw=>by
   cases af:av b cj with
   |none=>exact aw af
   |some o=>exact(aL b o af).1 ae⟩
  lI:=bh.g}
structure BL {P:Program} {n:Nat} {L:Env} (C:Ctx P ⟨n,lkOf L⟩) (f:FuncId) (R:cf→al→Prop) (fd:FuncId) (cg:List D):Prop where
 ex:∃bO bQ cj bh aL cs,C=Ctx.y2 P ⟨n,lkOf L⟩ f bO bQ cj bh aL R cs (lD fd cg)
 cg:cg.all nz=true
 locked:L.all (fun p=>nz p.2)=true
 entry:∀args w,(callFunc fd args).run P w= .ok (.enter fd args) w
section
variable {P : Program} {n : Nat} {L : Env} {k : List Item} {env : Env} {σ : al} {f fd : FuncId} {fn : Func} {R : cf → al → Prop} {cg : List D}
theorem j.defer {C:Ctx P ⟨n,[]⟩} (L:Env) {id:Nat} {eQ dH:Oper} {k1:Nat} {cs:Array Operand} {aD:Array TypeId} (ar:m' C f R) (he:∀args w,(callFunc fd args).run P w= .ok (.enter fd args) w)
  (bj:eQ.op= .makeFunc (.func fd) #[] cs) (rF:eQ.dst=some k1) (s7:eQ.guard=none)
  (aa:dH.op= .defer {callee:= .value (.tmp k1),args:=#[],argTypes:=aD}) (rH:dH.dst=none) (s9:dH.guard=none) (cb:k1<n)
  (rT:(cs.toList.map (ev env)).all nz=true) (px:L.all (fun p=>nz p.2)=true) (It:∀p∈L,eget p.1 env=p.2) (Qy:∀p∈L,p.1≠k1)
  (h:∀i':Ctx P ⟨n,lkOf L⟩,BL i' f R fd (cs.toList.map (ev env))→j i' k (eput k1 .any env) σ):j C (.code (.region id #[eQ,dH] false)::k) env σ:=by
 obtain⟨bO,bQ,cj,bh,aL,wY,rfl⟩:=ar.ex;intro a w S aw af;have lL:(cs.map a.eval).toList=(cs.toList.map (ev env)).map nH:=by
  have ao:=sX af cs.toList;have:∀{ds:List D} {vs:List Value},bq w S ds vs→ds.all nz=true→vs=ds.map nH:=by
   intro ds;induction ds with
   |nil=>intro vs h _;rw[h.gv];rfl
   |cons d ds aB=>
    intro vs h aP;simp only[List.all_cons,Bool.and_eq_true]at aP;obtain⟨x,xs,rfl,aa,ah⟩:=h.cons_inv;rw[LB aP.1 aa,aB ah aP.2];rfl
  rw[Array.toList_map];exact this ao rT
 have Eb:(execOp a.eval eQ).run P w= .ok (.value (.func (.func fd) #[] (cs.map a.eval))) w:=by
  simp[execOp,bj,Instr.makeFunc]
 let hP:=a.put (some k1) (.func (.func fd) #[] (cs.map a.eval))
 have Rh:hP.eval (.tmp k1)= .func (.func fd) #[] (cs.map a.eval):=by
  show(a.tmps.setIfInBounds k1 _).getD k1 undef=_
  simp[Array.getD,af.size.1,cb]
 have Ra:({target:= .fn (.func fd) (cs.map a.eval),args:=#[]}:Deferred)=lD fd (cs.toList.map (ev env)):=by
  unfold lD;congr 2
  rw[←lL]
 have qI:(execOp hP.eval dH).run P w= .ok (.defer (lD fd (cs.toList.map (ev env)))) w:=by
  rw[←Ra];simp only[execOp,aa,resolve,Rh,Deferred.ofValue];simp
 have tX:∀t,Region.wanted eQ (yielded #[eQ,dH] t)=true:=fun t=>by simp[Region.wanted,s7]
 have ki:∀t,Region.wanted dH (yielded #[eQ,dH] t)=true:=fun t=>by simp[Region.wanted,s9]
 have Te:wpOps P #[eQ,dH] (fun e na w'=>e= .normal∧na={hP with defers:=lD fd (cs.toList.map (ev env))::hP.defers}∧w'=w) (List.range (#[eQ,dH]:Array Oper).size) a w:=by
  rw[show List.range (#[eQ,dH]:Array Oper).size=[0,1]from rfl];simp only[wpOps,show(#[eQ,dH]:Array Oper)[0]?=some eQ from rfl,show(#[eQ,dH]:Array Oper)[1]?=some dH from rfl,tX,ki,if_true];refine .inl ?_;unfold Oper.wp;rw[Eb,Oper.upon_value,rF];refine .inl ?_;rw[qI,Oper.upon_defer,rH];exact⟨trivial,rfl,rfl⟩
 obtain⟨e,na,w',⟨rfl,rfl,rfl⟩,rN⟩:=wp_region (id:=id) Te {(default:Frame)with fn:=f,kind:= .normal} k wY;let i':Ctx P ⟨n,lkOf L⟩:=Ctx.y2 P ⟨n,lkOf L⟩ f bO bQ cj bh aL R wY (lD fd (cs.toList.map (ev env)))
 have aq:=h i' ⟨⟨_,_,_,bh,aL,_,rfl⟩,rT,px,he⟩;have r3:∀p∈lkOf L,hP.tmps.getD p.1 undef=p.2:=by
  intro p aP;obtain⟨q,bW,rfl⟩:=List.mem_map.1 aP;have ah:=af.env q.1;rw[It q bW]at ah;have aJ:=LB (by simpa using List.all_eq_true.1 px q bW) ah;show(a.tmps.setIfInBounds k1 _).getD q.1 undef=_
  simp only[Array.getD_eq_getD_getElem?,Array.getElem?_setIfInBounds];rw[if_neg (fun h=>Qy q bW h.symm),←Array.getD_eq_getD_getElem?,aJ]
 have aO:=aq {hP with defers:=lD fd (cs.toList.map (ev env))::hP.defers} w' S (by
   show lD _ _::(a.put (some k1) _).defers=[lD fd (cs.toList.map (ev env))]
   rw[put_defers,show a.defers=[]from aw]) ⟨fun U=> ?_,af.store,af.fr,by
   show(a.tmps.setIfInBounds k1 _).size=n
   simpa using af.size.1,r3⟩
 ·exact(Ctx.call P ⟨n,[]⟩ f bO bQ cj bh aL R wY).e5 _ _ rN aO
 rw[j6];split
 ·exact .any
 rename_i aR
 have ah:=af.env U;have aJ:hP.tmps.getD U undef=a.tmps.getD U undef:=by
  show(a.tmps.setIfInBounds k1 _).getD U undef=_
  simp only[Array.getD_eq_getD_getElem?,Array.getElem?_setIfInBounds];rw[if_neg (fun h=>aR h.symm)]
 show bw _ _ _ (hP.tmps.getD U undef)
 rw[aJ];exact ah
def BG (P:Program) (fn:Func) (L:Env) (R:cf→al→Prop) (u:kv) (σ:al):Prop:=
 match u with
 | .ret| .oZ _ true=>(∀r∈fn.results.toList,nO P L σ r)∧R (.ret (q8 P L σ fn.results.toList)) σ
 | .oZ d false=>R (.panic d) σ
theorem Hu {m:Machine} {bO:World} {bQ:Nat→Prop} {cj:al} {cs:List Frame} {a:Act} {todo:List Item} {w:World} {S:Nat→Prop} {u:kv} {fu:FrameMode} (ax:P.funcs[f]?=some fn) (aw:a.defers=[lD fd cg])
  (QC:∀b,bQ b→b<bO.heap.size∧¬cq cj b) (Qt:p_ bO bQ) (rT:cg.all nz=true) (r3:L.all (fun p=>nz p.2)=true) (he:∀args w,(callFunc fd args).run P w= .ok (.enter fd args) w)
  (bU:yS ⟨n,lkOf L⟩ a.tmps) (aL:da w S σ) (bl:Fr bO bQ (cq cj) w S σ) (hu:qb w S u fu) (bR:p8 P fd cg u σ (BG P fn L R))
  (af:Steps P m (lone {({(default:Frame)with fn:=f,kind:= .normal}:Frame).atR a todo with mode:=fu} cs w)):wF P f bO bQ cj R cs m:=by
 have nm:∀(w:World) (S:Nat→Prop),hM w S L a.tmps:=by
  intro w S k;by_cases aj:∃d,(k,d)∈L∧eget k L=d
  ·obtain⟨d,hm,aw⟩:=aj;have aa:=bU.2 (k,nH d) (List.mem_map.2 ⟨(k,d),hm,rfl⟩);rw[aw];show bw w S d (a.tmps.getD k undef)
   rw[show a.tmps.getD k undef=nH d from aa];exact LC (by simpa using List.all_eq_true.1 r3 (k,d) hm)
  have:eget k L= .any:=by
   clear bU r3 bR;induction L with
   |nil=>rfl
   |cons p r aB=>
    obtain⟨U,x⟩:=p;by_cases qC:k=U
    ·subst qC;exact absurd ⟨x,by simp,by simp[eget]⟩ aj
    rw[eget,if_neg qC];refine aB fun⟨d,aa,ah⟩=>aj ⟨d,by simp[aa],by rw[eget,if_neg qC];exact ah⟩
  rw[this];exact .any
 have aZ:fu≠ .run:=by cases u<;>cases fu<;>simp_all [qb]
 have gE:=bR w S (cg.map nH) fu ⟨bl.lt,Qt.ev (bl.ev QC)⟩ aL (LD rT) hu;have aA:Leaves P fn a.tmps (fun e w'=>∃cX σ' S',R cX σ'∧rp w' S' cX e∧da w' S' σ'∧Fr bO bQ (cq cj) w' S' σ') [lD fd cg] fu w:=by
  refine⟨aZ, .func fd,_,fd,(cg.map nH).toArray,rfl, ?_,gE.mono ?_⟩
  ·show(invoke (.fn (.func fd) (cg.map nH).toArray) #[]).run P w=_
   simp only[invoke,Array.empty_append];exact he _ _
  rintro e nW w' ⟨⟨v,rfl⟩,sR,σ',S',gj,hm,c6,Dp⟩;have oz:=bl.trans Dp;cases sR with
  |ret=>
   obtain⟨hT,tP⟩:=gj;cases nW with
   |run=>exact hm.elim
   |panicking c=>exact hm.elim
   |returning=>
    obtain⟨v2,bS,cl⟩:=Bd (fn:=fn) (nm w' S') c6 hT;exact⟨v2,bS,_,σ',S',tP,cl,c6,oz⟩
  |oZ d r=>
   cases nW with
   |run=>exact hm.elim
   |returning=>exact hm.elim
   |panicking c=>
    obtain⟨x,rfl,an⟩:=hm;cases r with
    |true=>
     obtain⟨hT,tP⟩:=gj;obtain⟨v2,bS,cl⟩:=Bd (fn:=fn) (nm w' S') c6 hT;exact⟨v2,bS,_,σ',S',tP,cl,c6,oz⟩
    |false=>exact⟨_,σ',S',gj,⟨x,rfl,an⟩,c6,oz⟩
 obtain⟨e,w',mq,k9,rU,jk,tG⟩:=leaves_steps (cs:=cs) [lD fd cg] fu w {({(default:Frame)with fn:=f,kind:= .normal}:Frame).atR a todo with mode:=fu} rfl aw rfl ax rfl aA;exact⟨e,w',mq,k9,Comes.of_steps af rU,jk,tG⟩
variable {C : Ctx P ⟨n, lkOf L⟩}
theorem j.Wr (ar:BL C f R fd cg) (ax:P.funcs[f]?=some fn) (bR:p8 P fd cg .ret σ (BG P fn L R)):j C (.code .ret::k) env σ:=by
 obtain⟨⟨bO,bQ,cj,bh,aL,cs,rfl⟩,rT,r3,he⟩:=ar;intro a w S aw af;exact Hu ax aw (Ctx.y2 P ⟨n,lkOf L⟩ f bO bQ cj bh aL R cs (lD fd cg)).bh bh.g rT r3 he af.size af.store af.fr (u:= .ret) (fu:= .returning) trivial bR (.one (stepR_ret rfl))
theorem cK.UZ (ar:BL C f R fd cg) (ax:P.funcs[f]?=some fn) {d:D} (bR:p8 P fd cg (.oZ d false) σ (BG P fn L R)):cK C d σ:=by
 obtain⟨⟨bO,bQ,cj,bh,aL,cs,rfl⟩,rT,r3,he⟩:=ar;intro a todo w S v aw ak c6 bl bU;exact Hu ax aw (Ctx.y2 P ⟨n,lkOf L⟩ f bO bQ cj bh aL R cs (lD fd cg)).bh bh.g rT r3 he bU c6 bl (u:= .oZ d false) (fu:= .panicking [{v,recovered:=false}]) ⟨v,rfl,ak⟩ bR (Steps.refl P _)
end
end Go.Ab
namespace Go.Ab
theorem cK.le {P:Program} {N:cP} {C:Ctx P N} {d:D} {σ σ':al} (h:cK C d σ') (af:aQ σ' σ):cK C d σ:=
 fun a todo w S v aw ak aL bl bU=>h a todo w S v aw ak (aL.le af) (bl.le af) bU
theorem j.join {P:Program} {N:cP} {C:Ctx P N} {x:Code} {k:List Item} {env:Env} {σ:al} (kT:Env→al→Prop) (aa:∀fL:List Item,(∀env σ,kT env σ→j C fL env σ)→j C (.code x::fL) env σ)
  (ah:∀env σ,kT env σ→j C k env σ):j C (.code x::k) env σ:=aa k ah
end Go.Ab
namespace Go.Ab
open Go
theorem GU (l:List UInt8):bytesOf (l.map bD)=⟨l.toArray⟩:=by
 unfold bytesOf;rw[List.map_map,show byteOf∘bD=id from funext N0,List.map_id]
theorem b6 {α:Type} (f:α→D) (l:List α) (i:Nat) (h:i<l.length):(l.map f).getD i .any=f l[i]:=by
 rw[List.getD_eq_getElem?_getD,List.getElem?_map,List.getElem?_eq_getElem h];rfl
theorem Cm {α β:Type} (f:α→List β) (n:Nat):∀(l:List α),(∀x∈l,(f x).length≤n)→(l.flatMap f).length≤l.length*n
 |[],_=>by simp
 |x::l,h=>by
  rw[List.flatMap_cons,List.length_append,List.length_cons,Nat.succ_mul];have aa:=h x (by simp);have ah:=Cm f n l fun y aF=>h y (by simp[aF]);omega
theorem nG (l:List UInt8):∀x∈l.map bD,x.cells.length=1∧x.plain=true:=fun x an=>by
 obtain⟨c,_,rfl⟩:=List.mem_map.1 an;exact⟨rfl,rfl⟩
end Go.Ab
namespace Go.Ab
theorem j.q9 {P:Program} {N:cP} {C:Ctx P N} {todo:List Item} {env:Env} {σ:al} {b sz:Nat} {xs ys:List D} (an:∀w S vs,bq w S (flat xs) vs→bq w S (flat ys) vs) (af:∀y∈ys,y.cells.length=sz)
  (h:j C todo env ((b, .arr sz ys)::σ)):j C todo env ((b, .arr sz xs)::σ):=by
 intro a w S aw fp;refine h a w S aw ⟨fp.env,fun c o ag=> ?_,{fp.fr with fh:=fun c ag=>fp.fr.fh c ?_},fp.size⟩
 ·rw[aW]at ag;by_cases fk:c=b
  ·rw[if_pos fk]at ag;cases ag
   obtain⟨aa,cI,e,lo,hi,vals,ah,aJ,bg,cu,de⟩:=fp.store c (.arr sz xs) (by rw[aW,if_pos fk]);exact⟨aa,cI,e,lo,hi,vals,ah,an _ _ _ aJ,bg,af,de⟩
  rw[if_neg fk]at ag;exact fp.store c o (by rw[aW,if_neg fk];exact ag)
 unfold cq at*;rw[aW]at ag⊢;split at ag<;>simp_all
theorem ca.ai {xs ys:List D} (h:∀w S vs,bq w S (flat xs) vs→bq w S (flat ys) vs) (aA:ys.map (·.cells.length)=xs.map (·.cells.length)):ca (.ai xs) (.ai ys):=by
 intro w S v ao;have hlen:ys.length=xs.length:=by simpa using congrArg List.length aA
 cases ao with
 |iX=>have:ys=[]:=List.eq_nil_of_length_eq_zero (by simpa using hlen);rw[this];exact .iX
 |ai ae ao ag af eJ=>
  rename_i b off cap sz vals
  have eo:∀y∈ys,y.cells.length=sz:=fun y aF=>by
   have:y.cells.length∈ys.map (·.cells.length):=List.mem_map_of_mem aF;rw[aA]at this;obtain⟨x,an,he⟩:=List.mem_map.1 this;rw[←he];exact af x an
  have:=bw.ai ae (h _ _ _ ao) ag eo (by rw[hlen];exact eJ);rw[hlen]at this;exact this
structure me (o:Option Nat) (aY:List UInt8) (ρ:al):Prop where
 fresh:nX o ρ
 zero:o=none→aY=[]
theorem me.bL {o:Option Nat} {aY:List UInt8} {ρ:al} (h:me o aY ρ):bL 1 o (cellsOf o 1 (aY.map bD)++ρ)=some (aY.map bD):=by
 cases o with
 |none=>simp[Ab.bL,h.zero rfl]
 |some b=>simp[cellsOf,Ab.bL]
theorem me.cB {o:Option Nat} {aY:List UInt8} {ρ:al} (h:me o aY ρ):h0 o (cellsOf o 1 (aY.map bD)++ρ)=ρ:=rb h.fresh
theorem me.keep {o:Option Nat} {aY:List UInt8} {ρ:al} (h:me o aY ρ) {b:Nat} {x:aE} (ae:av b ρ=some x):av b (cellsOf o 1 (aY.map bD)++ρ)=some x:=by
 cases o with
 |none=>exact ae
 |some c=>
  have:b≠c:=fun e=>by have:=h.fresh c rfl;rw[←e,ae]at this;cases this
  show av b ((c,_)::ρ)=_
  rw[aW,if_neg this,ae]
theorem me.app {o ob:Option Nat} {aY ys:List UInt8} {ρ:al} (h:me o aY ρ) (aO:ob=none→aY.map bD++ys.map bD=[]) (ax:nX ob ρ):me ob (aY++ys) ρ:=
 ⟨ax,fun e=>by have:=aO e;rw[←List.map_append]at this;simpa using this⟩
theorem me.nil (ρ:al):me none [] ρ:=⟨Cr,fun _=>rfl⟩
theorem me.sle {o:Option Nat} {aY:List UInt8} {ρ:al} (h:me o aY ρ):aQ ρ (cellsOf o 1 (aY.map bD)++ρ):=MG h.fresh
section
variable {P : Program} {f : FuncId} {args : List D}
theorem AC.still {r:cf} (h:AC P f args [] (fun e σ'=>e=r∧σ'=[])) (σ:al):AC P f args σ (fun e σ'=>e=r∧σ'=σ):=by
 refine(h.quiet (σ:=σ)).mono ?_;rintro e σ' ⟨σ1,⟨rfl,rfl⟩,_,rfl⟩;exact⟨rfl,rfl⟩
theorem AC.AU {R:cf→al→Prop} {R':cf→Prop} (h:AC P f args [] R) (ao:∀e σ',R e σ'→(R' e∧σ'=[])∨∃d b sz xs,e= .ret d∧σ'=[(b, .arr sz xs)]∧R' (.ret (d.b' b sz xs))) (σ:al):
  AC P f args σ (fun e σ'=>R' e∧σ'=σ):=by
 have ah:AC P f args [] (fun e σ'=>R' e∧σ'=[]):=by
  refine h.o1 fun e σ' bR=> ?_;rcases ao e σ' bR with aJ|⟨d,b,sz,xs,rfl,rfl,aJ⟩
  ·exact .inl aJ
  refine .inr ⟨d,b,sz,xs,rfl,bE ..,aJ, ?_⟩;simp[di]
 refine(ah.quiet (σ:=σ)).mono ?_;rintro e σ' ⟨σ1,⟨aJ,rfl⟩,_,rfl⟩;exact⟨aJ,rfl⟩
end
end Go.Ab
namespace Go.Ab
structure aV (o:Option Nat) (sz:Nat) (xs:List D) (ρ:al):Prop where
 fresh:nX o ρ
 zero:o=none→xs=[]
theorem aV.bL {o:Option Nat} {sz:Nat} {xs:List D} {ρ:al} (h:aV o sz xs ρ):bL sz o (cellsOf o sz xs++ρ)=some xs:=by
 cases o with
 |none=>simp[Ab.bL,h.zero rfl]
 |some b=>simp[cellsOf,Ab.bL]
theorem aV.cB {o:Option Nat} {sz:Nat} {xs:List D} {ρ:al} (h:aV o sz xs ρ):h0 o (cellsOf o sz xs++ρ)=ρ:=rb h.fresh
theorem aV.keep {o:Option Nat} {sz:Nat} {xs:List D} {ρ:al} (h:aV o sz xs ρ) {b:Nat} {x:aE} (ae:av b ρ=some x):av b (cellsOf o sz xs++ρ)=some x:=by
 cases o with
 |none=>exact ae
 |some c=>
  have:b≠c:=fun e=>by have:=h.fresh c rfl;rw[←e,ae]at this;cases this
  show av b ((c,_)::ρ)=_
  rw[aW,if_neg this,ae]
theorem aV.nil (sz:Nat) (ρ:al):aV none sz [] ρ:=⟨Cr,fun _=>rfl⟩
theorem aV.sle {o:Option Nat} {sz:Nat} {xs:List D} {ρ:al} (h:aV o sz xs ρ):aQ ρ (cellsOf o sz xs++ρ):=MG h.fresh
theorem aV.jP {o:Option Nat} {sz:Nat} {xs:List D} {ρ:al} (h:aV o sz xs ρ) {b:Nat} (ae:av b (cellsOf o sz xs++ρ)=none):av b ρ=none∧o≠some b:=by
 refine⟨yg h.sle ae,fun e=> ?_⟩;rw[e]at ae;simp[cellsOf,av]at ae
theorem aV.push {o:Option Nat} {sz:Nat} {xs:List D} {ρ:al} (h:aV o sz xs ρ) {b:Nat} {x:aE} (ae:av b (cellsOf o sz xs++ρ)=none):aV o sz xs ((b,x)::ρ)∧aQ (cellsOf o sz xs++(b,x)::ρ) ((b,x)::(cellsOf o sz xs++ρ)):=by
 obtain⟨aa,ah⟩:=h.jP ae;refine⟨⟨fun c ag=> ?_,h.zero⟩,aQ.append (fO (aQ.append_left _ _) ?_) ?_⟩
 ·rw[aW,if_neg (fun e=>ah (by rw[ag,e]))];exact h.fresh c ag
 ·cases o with
  |none=>rfl
  |some c=>simp[cellsOf,av];exact fun e=>ah (by rw[e])
 exact XF h.sle
theorem aV.drop {o:Option Nat} {sz:Nat} {xs:List D} {ρ:al} {b:Nat} {x:aE} (h:aV o sz xs ((b,x)::ρ)) (ae:av b ρ=none):aV o sz xs ρ∧aQ (cellsOf o sz xs++ρ) (cellsOf o sz xs++(b,x)::ρ):=by
 refine⟨⟨fun c ag=> ?_,h.zero⟩, ?_⟩
 ·have:=h.fresh c ag;rw[aW]at this;split at this
  ·cases this
  exact this
 refine aQ.append (aQ.append_left _ _) ((fO (aQ.refl _) ae).trans h.sle)
theorem aV.app {o ob:Option Nat} {sz:Nat} {xs ys:List D} {ρ:al} (_h:aV o sz xs ρ) (aO:ob=none→xs++ys=[]) (ax:nX ob ρ):aV ob sz (xs++ys) ρ:=⟨ax,aO⟩
theorem AS {α:Type} (f:α→D) (n:Nat) (ax:∀x,(f x).cells.length=n∧(f x).plain=true) (l:List α):∀y∈l.map f,y.cells.length=n∧y.plain=true:=fun y aF=>by
 obtain⟨c,_,rfl⟩:=List.mem_map.1 aF;exact ax c
end Go.Ab
namespace Go.Ab
open Go
inductive ea where
 |int (k:IntKind)
 |bool
 |str
 |slice (e:ea)
 |struct (a7:List ea)
def ea.one:ea→Bool
 | .struct _=>false
 |_=>true
mutual
def ea.n:ea→Nat
 | .struct a7=>ea.bT a7
 |_=>1
def ea.bT:List ea→Nat
 |[]=>0
 |f::a7=>f.n+ea.bT a7
end
mutual
/-- The cells of a value of such a type. -/
def ga:ea→List D→Prop
 | .int k,ds=>∃n:Int,ds=[.v (.int k n)]∧(Lit.int k n).wf=true
 | .bool,ds=>∃b:Bool,ds=[.v (.bool b)]
 | .str,ds=>∃s:ByteArray,ds=[.v (.string s)]∧s.size≤maxLen
 | .slice e,ds=>∃xs:List D,ds=[.ai xs]∧xs.length≤maxLen∧∀x∈xs,(e.one=true→x.cells=[x])∧(e.one=false→∃cs,x= .agg cs)∧ga e x.cells
 | .struct a7,ds=>uJ a7 ds
def uJ:List ea→List D→Prop
 |[],ds=>ds=[]
 |f::a7,ds=>∃a b,ds=a++b∧ga f a∧uJ a7 b
end
mutual
def hL (P:Program):ea→TypeId→Prop
 | .int k,t=>P.underlying t=some (.int k)
 | .bool,t=>P.underlying t=some .bool
 | .str,t=>P.underlying t=some .string
 | .slice e,t=>∃p3,P.underlying t=some (.slice p3)∧P.cellsOf p3=e.n∧0<e.n∧hL P e p3
 | .struct a7,t=>∃Fs:List Field,P.underlying t=some (.struct Fs.toArray)∧sK P 0 a7 Fs∧P.cellsOf t=ea.bT a7
def sK (P:Program):Nat→List ea→List Field→Prop
 |_,[],Fs=>Fs=[]
 |off,T::Ts,Fs=>∃F BK,Fs=F::BK∧F.offset=off∧P.cellsOf F.type=T.n∧hL P T F.type∧sK P (off+T.n) Ts BK
end
section
variable {H : Type} {enc : TypeId × Value → H} {P : Program} {w : World} {base : Nat} {spare : Nat → Bool} {held : Bool}
theorem N' {b off n:Nat} {vals:List Value} (h:∀i,i<n→w.cell? ⟨b,off+i,none⟩=vals[i]?) (aA:vals.length=n):p9 w b off vals:=fun k x aj=>by
 have aC:k<vals.length:=(List.getElem?_eq_some_iff.1 aj).1;rw[h k (by omega),aj]
theorem Mn {S:Nat→Prop} {a:Addr} {n:Nat} {Q:D→Prop}:∀(len:Nat),(∀i,i<len→∃cs' x,w.cells? base (a.add (i*n)) n=some cs'∧bq w S x.cells cs'∧x.cells.length=n∧Q x)→
  ∃xs vals,xs.length=len∧bq w S (flat xs) vals∧vals.length=len*n∧(∀x∈xs,x.cells.length=n∧Q x)∧∀k,k<len*n→w.cell? (a.add k)=vals[k]?
 |0,_=>⟨[],[],rfl, .nil,by simp,by simp,by simp⟩
 |len+1,h=>by
  obtain⟨xs,vals,aa,ah,aJ,bg,cu⟩:=Mn len fun i hi=>h i (by omega);obtain⟨cs',x,ag,ao,aA,bW⟩:=h len (by omega);obtain⟨_,dn,QS⟩:=World.cells?_some ag;refine⟨xs++[x],vals++cs',by simp[aa], ?_,by simp[aJ,dn,Nat.succ_mul], ?_,fun k aj=> ?_⟩
  ·simp only[uX,n_,PD,List.append_nil];exact ah.append ao
  ·intro y aF;rcases List.mem_append.1 aF with aF|aF
   ·exact bg y aF
   simp only[List.mem_singleton]at aF;subst aF;exact⟨aA,bW⟩
  by_cases aC:k<len*n
  ·rw[cu k aC,List.getElem?_append_left (by rw[aJ];exact aC)]
  have af:(len+1)*n=len*n+n:=Nat.succ_mul ..;rw[af]at aj;have:=QS (k-len*n) (by omega);rw[List.getElem?_append_right (by rw[aJ];omega),aJ,←this];have he:a.add k=(a.add (len*n)).add (k-len*n):=by
   rw[Go.Deep.add_add,Nat.add_sub_cancel' (by omega)]
  rw[he]
theorem U5:∀{e:ea} {d:D},e.one=true→ga e [d]→d.cells=[d]
 | .int k,d,_,h=>by unfold ga at h;obtain⟨n,h,_⟩:=h;cases h;rfl
 | .bool,d,_,h=>by unfold ga at h;obtain⟨n,h⟩:=h;cases h;rfl
 | .str,d,_,h=>by unfold ga at h;obtain⟨n,h,_⟩:=h;cases h;rfl
 | .slice e,d,_,h=>by unfold ga at h;obtain⟨n,h,_⟩:=h;cases h;rfl
 | .struct a7,d,h,_=>by cases h
theorem Lf:∀{e:ea},e.one=true→e.n=1
 | .int k,_=>by simp[ea.n]
 | .bool,_=>by simp[ea.n]
 | .str,_=>by simp[ea.n]
 | .slice e,_=>by simp[ea.n]
 | .struct a7,h=>by cases h
mutual
theorem F5:∀(T:ea) {t:TypeId} {fuel:Nat} {cs:List Value} {x:DataW H×List MemPlace},hL P T t→DataW.trod enc P w base spare held fuel t cs=some x→
  ∃ds,ga T ds∧ds.length=T.n∧bq w (fun b=>b<w.heap.size) ds cs
 | .int k,t,fuel,cs,x,bc,h=>by
  unfold hL at bc;obtain⟨n,rfl,_,Ep⟩:=DataW.trod_int bc h;exact⟨[.v (.int k n)],⟨n,rfl,Ep⟩,rfl, .one (.v rfl)⟩
 | .bool,t,fuel,cs,x,bc,h=>by
  unfold hL at bc;obtain⟨b,rfl,_⟩:=DataW.trod_bool bc h;exact⟨[.v (.bool b)],⟨b,rfl⟩,rfl, .one (.v rfl)⟩
 | .str,t,fuel,cs,x,bc,h=>by
  unfold hL at bc;obtain⟨s,rfl,_,af⟩:=DataW.trod_string bc h;exact⟨[.v (.string s)],⟨s,rfl,af⟩,rfl, .one (.v rfl)⟩
 | .slice e,t,fuel,cs,x,bc,h=>by
  unfold hL at bc;obtain⟨p3,hu,ag,DU,tS⟩:=bc;rcases Deep.open_slice hu h with⟨rfl,_⟩|⟨a,len,cap,m,n,YO,YP,rfl,ae,aA,hm,fY,_,hi⟩
  ·exact⟨[.ai []],⟨[],rfl,by simp,by simp⟩,rfl, .one .iX⟩
  have lR:len≤m:=by rw[fY];split<;>omega
  obtain⟨xs,vals,aa,ah,aJ,bg,cu⟩:=Mn (w:=w) (base:=base) (S:=fun b=>b<w.heap.size) (a:=a) (n:=e.n) (Q:=fun x=>(e.one=true→x.cells=[x])∧(e.one=false→∃cs,x= .agg cs)∧ga e x.cells) len fun i jm=>by
   obtain⟨cs',xw,Ej⟩:=hi i (by omega);rw[ag]at xw;obtain⟨ds,hw,hlen,ao⟩:=F5 e tS Ej;cases he:e.one with
   |false=>exact⟨cs', .agg ds,xw,ao,hlen,by simp,fun _=>⟨ds,rfl⟩,hw⟩
   |true=>
    have au:e.n=1:=Lf he;rw[au]at hlen;match ds,hlen with
    |[d],_=>
     have iC:d.cells=[d]:=U5 he hw;exact⟨cs',d,xw,by rw[iC];exact ao,by rw[iC,au];rfl,fun _=>iC,by simp,by rw[iC];exact hw⟩
  by_cases aO:len=0
  ·subst aO;exact⟨[.ai []],⟨[],rfl,by simp,by simp⟩,rfl, .one .iX⟩
  have qE:0<len*e.n:=Nat.mul_pos (by omega) DU;have bj:=cu 0 qE;have sf:0<vals.length:=by omega
  rw[List.getElem?_eq_getElem sf,show a.add 0=a from rfl]at bj;have lV:a.spot=none∧a.block<w.heap.size:=by
   unfold World.cell? at bj;split at bj
   ·rename_i k_
    split at bj
    ·cases bj
    rename_i af
    exact⟨by simpa using af,(Array.getElem?_eq_some_iff.1 k_).1⟩
   cases bj
  obtain⟨hs,Zf,Zi⟩:=a;obtain⟨hj,fZ⟩:=lV;simp only at hj fZ;subst hj;refine⟨[.ai xs],⟨xs,rfl,by rw[aa];omega,fun x an=>(bg x an).2⟩,rfl, .one ?_⟩;rw[←aa];refine bw.ai (sz:=e.n) fZ ah (N' (n:=len*e.n) (fun i hi=> ?_) aJ) (fun x an=>(bg x an).1) (by omega);have:=cu i hi;rw[←this];unfold Addr.add;split
  ·rename_i aO;rw[aO];rfl
  rfl
 | .struct a7,t,fuel,cs,x,bc,h=>by
  unfold hL at bc;obtain⟨Fs,hu,c7,ag⟩:=bc;obtain⟨xs,n,rfl,_,hlen,iP,ax⟩:=DataW.trod_struct hu h;obtain⟨ds,hw,aA,ao⟩:=M4 a7 (off:=0) (Fs:=Fs) (cs:=cs) (fuel:=n) c7 (by rw[hlen,ag];omega) fun F xl=>by
   obtain⟨i,hi,rfl⟩:=List.getElem_of_mem xl;have:=ax i Fs[i] (by simp);have an:i<xs.length:=by rw[iP];simpa using hi
   rw[List.getElem?_eq_getElem an]at this;exact⟨_,this⟩
  exact⟨ds,hw,by rw[aA];rfl,by simpa using ao⟩
theorem M4:∀(a7:List ea) {off:Nat} {Fs:List Field} {cs:List Value} {fuel:Nat},sK P off a7 Fs→cs.length=off+ea.bT a7→
  (∀F∈Fs,∃x,DataW.trod enc P w base spare held fuel F.type ((cs.drop F.offset).take (P.cellsOf F.type))=some x)→
  ∃ds,uJ a7 ds∧ds.length=ea.bT a7∧bq w (fun b=>b<w.heap.size) ds (cs.drop off)
 |[],off,Fs,cs,fuel,_,aA,_=>⟨[],rfl,rfl,by rw[List.drop_of_length_le (by simp[ea.bT]at aA;omega)];exact .nil⟩
 |T::Ts,off,Fs,cs,fuel,c7,aA,h=>by
  unfold sK at c7;obtain⟨F,BK,rfl,Sl,ag,bY,QH⟩:=c7;obtain⟨x,an⟩:=h F (by simp);obtain⟨ds,hw,ei,ao⟩:=F5 T bY an;simp only[ea.bT]at aA;obtain⟨es,iO,jH,fJ⟩:=M4 Ts QH (cs:=cs) (fuel:=fuel) (by omega) fun Nt xl=>h Nt (by simp[xl]);refine⟨ds++es,⟨ds,es,rfl,hw,iO⟩,by simp[ea.bT,ei,jH], ?_⟩;have:cs.drop off=(cs.drop off).take T.n++cs.drop (off+T.n):=by
   conv=>lhs;rw[←List.take_append_drop T.n (cs.drop off),List.drop_drop]
  rw[this];rw[Sl,ag]at ao;exact ao.append fJ
end
end
end Go.Ab
namespace Go.Ab
open Go Go.RowKit Go.WideShapes Go.ChangeShapes
def BP (T:ea) (d:D):Prop:=(T.one=true→ga T [d])∧(T.one=false→∃cs,d= .agg cs∧ga T cs)
def wM:List ea→List D→Prop
 |[],ds=>ds=[]
 |T::Ts,ds=>∃d Hr,ds=d::Hr∧BP T d∧wM Ts Hr
def sJ (P:Program):List ea→List TypeId→Prop
 |[],aD=>aD=[]
 |T::Ts,aD=>∃t F6,aD=t::F6∧hL P T t∧sJ P Ts F6
section
variable {H : Type} {enc : TypeId × Value → H} {P : Program} {W : World} {base : Nat} {spare : Nat → Bool} {held : Bool}
theorem U4 {T:ea} {t:TypeId} {v:Value} {r:Reach} (aH:T.one=true) (bc:hL P T t) (ak:Value.okWide P W r base t v):v.cells.toList=[v]:=by
 cases T with
 |int k=>unfold hL at bc;obtain⟨n,rfl⟩:=okWide_int bc ak;rfl
 |bool=>unfold hL at bc;obtain⟨n,rfl⟩:=okWide_bool bc ak;rfl
 |str=>unfold hL at bc;obtain⟨n,rfl⟩:=okWide_string bc ak;rfl
 |slice e=>unfold hL at bc;obtain⟨p3,hu,_⟩:=bc;obtain⟨a,l,c,rfl⟩:=okWide_slice hu ak;rfl
 |struct a7=>cases aH
theorem NM {T:ea} {t:TypeId} {v:Value} {d:DataW H} {ps:List MemPlace} {r:Reach} {je:Nat} (bc:hL P T t) (h:DataW.Trod enc P W base spare held t v d ps) (ak:Value.okWide P W r je t v):
  ∃x,BP T x∧bw W (fun b=>b<W.heap.size) x v:=by
 obtain⟨fuel,ax⟩:=h;obtain⟨ds,hw,aA,ao⟩:=F5 T bc ax;cases aH:T.one with
 |true=>
  rw[U4 aH bc ak]at ao;rw[Lf aH]at aA;match ds,aA with
  |[x],_=>
   obtain⟨y,ys,he,aa,ah⟩:=ao.cons_inv;simp only[List.cons.injEq]at he;obtain⟨rfl,_⟩:=he;exact⟨x,⟨fun _=>hw,fun h=>by rw[aH]at h;cases h⟩,aa⟩
 |false=>
  cases T with
  |struct a7=>
   unfold hL at bc;obtain⟨Fs,hu,_,_⟩:=bc;obtain⟨cs,rfl,bU⟩:=okWide_struct hu ak;exact⟨.agg ds,⟨(fun h=>by cases h),fun _=>⟨ds,rfl,hw⟩⟩, .agg ao⟩
  |_=>cases aH
theorem GF {r:Reach} {je:Nat}:∀(Ts:List ea) {aD:List TypeId} {vs:List Value} {ds:List (DataW H)} {ps:List MemPlace},sJ P Ts aD→DataW.TrodAll enc P W base spare held aD vs ds ps→
  (∀(U:Nat) t v,aD[U]?=some t→vs[U]?=some v→Value.okWide P W r je t v)→∃xs,wM Ts xs∧bq W (fun b=>b<W.heap.size) xs vs
 |[],aD,vs,ds,ps,bY,h,ak=>by
  unfold sJ at bY;subst bY;cases vs with
  |nil=>exact⟨[],rfl, .nil⟩
  |cons v vs=>cases ds<;>simp[DataW.TrodAll]at h
 |T::Ts,aD,vs,ds,ps,bY,h,ak=>by
  obtain⟨t,F6,rfl,aa,ah⟩:=bY;cases vs with
  |nil=>cases ds<;>simp[DataW.TrodAll]at h
  |cons v vs=>
   cases ds with
   |nil=>simp[DataW.TrodAll]at h
   |cons d ds=>
    obtain⟨p,q,aw,ao,rfl⟩:=h;obtain⟨x,an,x1⟩:=NM aa aw (ak 0 t v rfl rfl);obtain⟨xs,hG,nu⟩:=GF Ts ah ao fun U t v bc mO=>ak (U+1) t v (by simpa using bc) (by simpa using mO);exact⟨x::xs,⟨x,xs,rfl,an,hG⟩, .cons x1 nu⟩
theorem T0 {Ts:List ea} {aD:List TypeId} {args:Array Value} {ds:List (DataW H)} {ps:List MemPlace} {r:Reach} {je:Nat} {k:FuncId} (law:∀xs,wM Ts xs→AC P k xs [] (fun e _=>e= .ret (.v (.bool true))))
  (bY:sJ P Ts aD) (gj:DataW.TrodAll enc P W base spare held aD args.toList ds ps) (ak:∀(U:Nat) t v,aD[U]?=some t→args.toList[U]?=some v→Value.okWide P W r je t v) (aq:p_ W (fun b=>b<W.heap.size)):
  Calls P k args W fun e pe=>e= .returned (.bool true)∧Below W.heap.size W pe:=by
 obtain⟨xs,hw,ao⟩:=GF Ts bY gj ak;have:=law xs hw W _ args.toList ⟨fun _ h=>h,aq⟩ (fun b o h=>by simp at h) ao;rw[show args.toList.toArray=args by simp]at this;refine this.mono ?_;rintro e pe ⟨cX,σ',S',rfl,c1,_,bl⟩;cases e with
 |returned v=>
  have:v= .bool true:=bw.eh c1;subst this;exact⟨rfl,⟨bl.os,bl.tape,bl.output,bl.size,fun b ae=>bl.block b ae (fun h=>h rfl)⟩⟩
 |panicked c=>exact c1.elim
 |outgrown=>exact c1.elim
theorem M3 (aA:laidOutB P=true) {pe:World} {sp:Nat→Bool}:∀{aD:List TypeId} {vs:List Value} {ds:List (DataW H)} {ps:List MemPlace},(∀t∈aD,P.readableRec t=true∧t<P.types.size)→
  DataW.TrodAll enc P W 0 (fun _=>true) true aD vs ds ps→(∀x∈ps,x.block<W.heap.size)→Below W.heap.size W pe→(∀x∈ps,sp x.block=true)→DataW.TrodAll enc P pe 0 sp true aD vs ds ps
 |[],vs,ds,ps,_,h,_,_,_=>by cases vs<;>cases ds<;>simp_all [DataW.TrodAll]
 |t::aD,vs,ds,ps,ao,h,aC,ae,lV=>by
  cases vs with
  |nil=>cases ds<;>simp[DataW.TrodAll]at h
  |cons v vs=>
   cases ds with
   |nil=>simp[DataW.TrodAll]at h
   |cons d ds=>
    obtain⟨p,q,aw,pJ,rfl⟩:=h;refine⟨p,q, ?_,M3 aA (fun t bc=>ao t (by simp[bc])) pJ (fun x an=>aC x (by simp[an])) ae (fun x an=>lV x (by simp[an])),rfl⟩;exact WideElems.Trod_stays aA (ao t (by simp)).1 (ao t (by simp)).2 aw (fun x an=>ae.same (aC x (by simp[an]))) (fun x an=>lV x (by simp[an]))
theorem Vr {f:Func} {s:ChangeSpec} {pe:World} {args:Array Value} {ds gs:List (DataW H)} {before:List MemPlace} (ib:DataW.Whole enc P f.params.toList s.vars false W args.toList ds gs before)
  (aA:laidOutB P=true) (ao:∀t∈f.params.toList,P.readableRec t=true∧t<P.types.size) {MX:TypeId} (SU:P.underlying MX=some .bool) (hT:f.resultTypes=#[MX]) (J9:s.vars=[])
  (jk:s.fn H (ds++gs)={results:=[.lit (.bool true)],args:=ds}) (ae:Below W.heap.size W pe):s.post enc P f false true false false W args (.bool true) pe:=by
 obtain⟨p,q,gj,om,rfl,aO,au⟩:=ib;have ib:DataW.Whole enc P f.params.toList s.vars false W args.toList ds gs (p++q):=⟨p,q,gj,om,rfl,aO,au⟩;rw[J9]at om;obtain⟨rfl,rfl⟩:=trodVars_none om;have aC:∀x∈p++[],x.block<W.heap.size:=fun x an=>ib.lt x an;have JA:∀x∈p,x.block<W.heap.size:=fun x an=>aC x (by simpa using an);have rM:∀sp:Nat→Bool,(∀x∈p,sp x.block=true)→DataW.TrodAll enc P pe 0 sp true f.params.toList args.toList ds p:=fun sp lV=>M3 aA ao gj JA ae lV;refine⟨ds,[],p++[],[],p,[],ib, ?_, ?_, ?_, ?_,fun h=>by cases h⟩
 ·rw[hT,jk];exact trodAll_mk1 (shut_bool SU _)
 ·rw[jk];exact rM _ fun x an=>by simpa using JA x an
 ·rw[J9,jk];rfl
 exact World.keptBut_mono (fun x an=>⟨an,Or.inr (by simpa using an)⟩) (ae.frame (· ∈p++[]))
end
end Go.Ab
namespace Go.Ab
open Go
mutual
def qp (P:Program):ea→TypeId→Bool
 | .int k,t=>match P.underlying t with|some (.int fL)=>decide (fL=k)|_=>false
 | .bool,t=>match P.underlying t with|some .bool=>true|_=>false
 | .str,t=>match P.underlying t with|some .string=>true|_=>false
 | .slice e,t=>match P.underlying t with|some (.slice p3)=>decide (P.cellsOf p3=e.n)&&decide (0<e.n)&&qp P e p3|_=>false
 | .struct a7,t=>match P.underlying t with|some (.struct Fs)=>va P 0 a7 Fs.toList&&decide (P.cellsOf t=ea.bT a7)|_=>false
def va (P:Program):Nat→List ea→List Field→Bool
 |_,[],Fs=>Fs.isEmpty
 |off,T::Ts,F::Fs=>decide (F.offset=off)&&decide (P.cellsOf F.type=T.n)&&qp P T F.type&&va P (off+T.n) Ts Fs
 |_,_::_,[]=>false
end
mutual
theorem Da {P:Program}:∀(T:ea) {t:TypeId},qp P T t=true→hL P T t
 | .int k,t,h=>by
  unfold qp at h;unfold hL;split at h
  ·rename_i hu;rw[hu,of_decide_eq_true h]
  cases h
 | .bool,t,h=>by
  unfold qp at h;unfold hL;split at h
  ·assumption
  cases h
 | .str,t,h=>by
  unfold qp at h;unfold hL;split at h
  ·assumption
  cases h
 | .slice e,t,h=>by
  unfold qp at h;unfold hL;split at h
  ·rename_i p3 hu
   simp only[Bool.and_eq_true,decide_eq_true_eq]at h;exact⟨p3,hu,h.1.1,h.1.2,Da e h.2⟩
  cases h
 | .struct a7,t,h=>by
  unfold qp at h;unfold hL;split at h
  ·rename_i Fs hu
   simp only[Bool.and_eq_true,decide_eq_true_eq]at h;exact⟨Fs.toList,by rw[hu],IG a7 h.1,h.2⟩
  cases h
theorem IG {P:Program}:∀(a7:List ea) {off:Nat} {Fs:List Field},va P off a7 Fs=true→sK P off a7 Fs
 |[],off,Fs,h=>by
  unfold va at h;unfold sK;simpa using h
 |T::Ts,off,[],h=>by unfold va at h;cases h
 |T::Ts,off,F::Fs,h=>by
  unfold va at h;unfold sK;simp only[Bool.and_eq_true,decide_eq_true_eq]at h;exact⟨F,Fs,rfl,h.1.1.1,h.1.1.2,Da T h.1.2,IG Ts h.2⟩
end
def xt (P:Program):List ea→List TypeId→Bool
 |[],aD=>aD.isEmpty
 |T::Ts,t::aD=>qp P T t&&xt P Ts aD
 |_::_,[]=>false
theorem IF {P:Program}:∀(Ts:List ea) {aD:List TypeId},xt P Ts aD=true→sJ P Ts aD
 |[],aD,h=>by unfold xt at h;unfold sJ;simpa using h
 |T::Ts,[],h=>by unfold xt at h;cases h
 |T::Ts,t::aD,h=>by
  unfold xt at h;unfold sJ;simp only[Bool.and_eq_true]at h;exact⟨t,aD,rfl,Da T h.1,IF Ts h.2⟩
inductive kx where
 |nil
 |op (i:Nat) (early:Bool) (rest:kx)
 |alt (i U:Nat) (a b:kx)
def kx.len:kx→Nat
 | .nil=>0
 | .op _ _ r=>r.len+1
 | .alt _ _ a b=>max a.len b.len+1
section draw
variable {P : Program} {N : cP} {C : Ctx P N} {K : Env → al → Prop} {Qp : D → al → Prop}
def jV (P:Program) (N:cP) (lit aY cD:List Nat) (ops:Array Oper) (K:Env→al→Prop) (Qp:D→al→Prop):kx→Env→al→Prop
 | .nil,env,σ=>K env σ
 | .op i early rest,env,σ=>l2 ops[i]? fun o=>
   if early=true then Fixed lit aY env o∧h3 P N lit (dsts ops) Qp (jV P N lit aY cD ops K Qp rest) o env σ
   else h3 P N lit (dsts ops) Qp (fun env' σ'=>Keep aY cD i σ σ'∧jV P N lit aY cD ops K Qp rest env' σ') o env σ
 | .alt i U a b,env,σ=>(l2 ops[i]? fun o=>h3 P N lit (dsts ops) Qp (fun env' σ'=>Keep aY cD i σ σ'∧jV P N lit aY cD ops K Qp a env' σ') o env σ)∧
   l2 ops[U]? fun o=>h3 P N lit (dsts ops) Qp (fun env' σ'=>Keep aY cD U σ σ'∧jV P N lit aY cD ops K Qp b env' σ') o env σ
section
variable {lit aY cD : List Nat} {ops : Array Oper} {env : Env} {σ : al}
@[go_sem] theorem akn:jV P N lit aY cD ops K Qp .nil env σ=K env σ:=rfl
@[go_sem] theorem ako (i:Nat) (r:kx):jV P N lit aY cD ops K Qp (.op i true r) env σ=l2 ops[i]? fun o=>Fixed lit aY env o∧h3 P N lit (dsts ops) Qp (jV P N lit aY cD ops K Qp r) o env σ:=by
 simp only[jV,if_true]
@[go_sem] theorem akm (i:Nat) (r:kx):jV P N lit aY cD ops K Qp (.op i false r) env σ=l2 ops[i]? fun o=>h3 P N lit (dsts ops) Qp (fun env' σ'=>Keep aY cD i σ σ'∧jV P N lit aY cD ops K Qp r env' σ') o env σ:=by
 simp only[jV,Bool.false_eq_true,if_false]
@[go_sem] theorem Yo (i U:Nat) (a b:kx):jV P N lit aY cD ops K Qp (.alt i U a b) env σ=((l2 ops[i]? fun o=>h3 P N lit (dsts ops) Qp (fun env' σ'=>Keep aY cD i σ σ'∧jV P N lit aY cD ops K Qp a env' σ') o env σ)∧
   l2 ops[U]? fun o=>h3 P N lit (dsts ops) Qp (fun env' σ'=>Keep aY cD U σ σ'∧jV P N lit aY cD ops K Qp b env' σ') o env σ):=rfl
end
def su (cD:List Nat) (ops:Array Oper):kx→Array Bool→Bool
 | .nil,listed=>Region.ready .any ops listed==[]
 | .op i early rest,listed=>
  (if early=true then(Region.ready .any ops listed).contains i&&zj cD ops listed i else Region.ready .any ops listed==[i])&&su cD ops rest (listed.setIfInBounds i true)
 | .alt i U a b,listed=>Region.ready .any ops listed==[i,U]&&su cD ops a (listed.setIfInBounds i true)&&su cD ops b (listed.setIfInBounds U true)
theorem yI {lit aY cD:List Nat} {ops:Array Oper} (I:∀e cV σ,jZ e cV→K e σ→K cV σ):∀(ks:kx) (fuel:Nat) (listed:Array Bool) (env:Env) (σ:al),su cD ops ks listed=true→ks.len≤fuel→
  jV P N lit aY cD ops K Qp ks env σ→ri P N lit aY cD ops K Qp fuel listed env σ
 | .nil,fuel,listed,env,σ,cc,_,h=>by
  have ao:Region.ready .any ops listed=[]:=by simpa [su]using cc
  cases fuel with
  |zero=>exact⟨ao,h⟩
  |succ n=>exact⟨fun _=>h,by rw[ao];simp⟩
 | .op i early rest,0,listed,env,σ,_,aA,_=>by simp[kx.len]at aA
 | .alt i U a b,0,listed,env,σ,_,aA,_=>by simp[kx.len]at aA
 | .alt i U a b,fuel+1,listed,env,σ,cc,aA,h=>by
  simp only[su,Bool.and_eq_true,beq_iff_eq]at cc;obtain⟨⟨aa,ah⟩,aJ⟩:=cc;have Ae:a.len≤fuel:=by simp only[kx.len]at aA;omega
  have RR:b.len≤fuel:=by simp only[kx.len]at aA;omega
  rw[Yo]at h;refine⟨fun ao=>(by rw[aa]at ao;cases ao),fun k aj=> ?_⟩
  rw[aa]at aj;simp only[List.mem_cons,List.not_mem_nil,or_false]at aj;unfold l2 at h;unfold rj;rcases aj with rfl|rfl
  ·cases aH:ops[k]? with
   |none=>rw[aH]at h;exact h.1.elim
   |some o=>
    rw[aH]at h;exact wv h.1 rfl (fun _ _ _=>rfl) fun d s af=>⟨af.1,yI I a fuel _ _ _ ah Ae af.2⟩
  cases aH:ops[k]? with
  |none=>rw[aH]at h;exact h.2.elim
  |some o=>
   rw[aH]at h;exact wv h.2 rfl (fun _ _ _=>rfl) fun d s af=>⟨af.1,yI I b fuel _ _ _ aJ RR af.2⟩
 | .op i early rest,fuel+1,listed,env,σ,cc,aA,h=>by
  simp only[su,Bool.and_eq_true]at cc;obtain⟨aa,ah⟩:=cc;have oF:rest.len≤fuel:=by simp only[kx.len]at aA;omega
  simp only[jV,l2]at h;split at h
  ·cases early with
   |true=>
    rename_i o aH
    simp only[if_true,Bool.and_eq_true]at aa h;obtain⟨c7,aX,af⟩:=h;have lV:=Cl P lit aY env σ σ o c7 fun _ _=>rfl;have tW:∀{n:Env→al→Prop},cQ P Qp n o.dst env σ (aopD P lit env σ o)→∃p d,aopD P lit env σ o= .val p d∧p∧n (eputo o.dst d env) σ:=by
     intro n ak;have gm:=lV.1;cases ao:aopD P lit env σ o<;>rw[ao]at ak gm<;>try exact gm.elim
     ·exact⟨_,_,rfl,ak.1,ak.2⟩
     exact ak.elim
    have key:∃d,qa P lit (dsts ops) env σ o d∧jV P N lit aY cD ops K Qp rest (eputo o.dst d env) σ:=by
     unfold qa;cases aq:o.guard with
     |none=>
      rw[aq]at af;obtain⟨p,d,bt,b_,er⟩:=tW af;exact⟨d,⟨p,bt,b_⟩,er⟩
     |some q=>
      obtain⟨U,want⟩:=q;rw[aq]at af;dsimp only at af⊢;split at af
      ·rename_i t bc
       by_cases kJ:t=want
       ·obtain⟨p,d,bt,b_,er⟩:=tW (af.1 kJ);exact⟨d, .inl ⟨t,bc,fun _=>⟨p,bt,b_⟩,fun h=>by subst kJ;cases t<;>cases h⟩,er⟩
       have se:t= !want:=by cases t<;>cases want<;>simp_all
       exact⟨_, .inl ⟨t,bc,fun h=>absurd h kJ,fun _=>rfl⟩,af.2 se⟩
      ·rename_i bc;exact⟨_, .inr ⟨bc,rfl⟩,af⟩
      exact af.elim
    obtain⟨d,jG,au⟩:=key;exact M9 I aH aX fuel listed env σ (HX aH aa.2) (by simpa using aa.1) c7 jG (yI I rest fuel _ _ _ ah oF au)
   |false=>
    rename_i o aH
    simp only[Bool.false_eq_true,if_false,beq_iff_eq]at aa h;refine⟨fun ao=>(by rw[aa]at ao;cases ao),fun U aR=> ?_⟩
    rw[aa]at aR;simp only[List.mem_singleton]at aR;subst aR;unfold rj;rw[aH];exact wv h rfl (fun _ _ _=>rfl) fun d s af=>⟨af.1,yI I rest fuel _ _ _ ah oF af.2⟩
  exact h.elim
theorem j.Hq {id:Nat} {ops:Array Oper} {k:List Item} {env:Env} {σ:al} (keep lit aY cD:List Nat) (ks:kx) (hm:P.follows .mixedOrders=true) (aA:ks.len≤ops.size) (cc:su cD ops ks (Array.replicate ops.size false)=true)
  (h:∀K:Env→al→Prop,(∀env σ,j C k env σ→K env σ)→jV P N lit aY cD ops K (cK C) ks (Ab.rebase keep env) σ) (cM:vN ops=true:=by kernel_rfl):j C (.code (.region id ops true)::k) env σ:=by
 intro a w S aw af;have ak:=yI (Qp:=cK C) (K:=j C k) (fun e cV s he aq=>j.le (fun k=> .inr (he k)) (aQ.refl s) aq) ks ops.size (Array.replicate ops.size false) _ _ cc aA (h (j C k) (fun _ _ h=>h));have eo:ck C (Ab.rebase keep env) σ w S a.tmps:=⟨af.env.le (w3 keep env),af.store,af.fr,af.size⟩;have aA:=Bv ops.size _ _ σ a _ S ak aw (eo.draw (w.drawn+1));refine C.e5 _ _ (.one stepR_region_draw) (uk cM _ a _ ?_);simp only[Region.schedule,hm,Bool.true_or,if_true];exact wpAny_sound ops.size _ _ a _ aA
end draw
end Go.Ab
namespace Go.Ab.S16
open Go Go.Proofs
def ab (s:ByteArray):D:= .v (.string s)
def fE {α:Type} (p:α→Bool) (l:List α):Int:=match l.findIdx? p with
 |some i=>i
 |none=>-1
theorem sh {α:Type} {p:α→Bool} {l:List α} (h:∀x∈l,p x=false):fE p l=-1:=by
 unfold fE;rw[List.findIdx?_eq_none_iff.2 h]
theorem qT {α:Type} {p:α→Bool}:∀{l:List α} {i:Nat} (hi:i<l.length),(∀x∈l.take i,p x=false)→p l[i]=true→fE p l=i
 |x::l,0,hi,_,h=>by
  have h:p x=true:=h;simp[fE,List.findIdx?_cons,h]
 |x::l,i+1,hi,bj,h=>by
  have an:=bj x (by simp);have:=qT (p:=p) (l:=l) (i:=i) (by simpa using hi) (fun y aF=>bj y (by simp[aF])) (by simpa using h);unfold fE at this⊢;rw[List.findIdx?_cons,an];simp only[Bool.false_eq_true,if_false];cases ax:l.findIdx? p with
  |none=>rw[ax]at this;simp only[]at this;omega
  |some k=>rw[ax]at this;simp only[Option.map_some]at this⊢;omega
theorem Ey {α:Type} (p:α→Bool) (l:List α):decide (fE p l≥0)=l.any p:=by
 unfold fE;cases ax:l.findIdx? p with
 |none=>
  have:=List.findIdx?_eq_none_iff.1 ax;rw[List.any_eq_false.2 (fun x an=>by rw[this x an];simp)];rfl
 |some i=>
  obtain⟨aa,ah,_⟩:=List.findIdx?_eq_some_iff_getElem.1 ax;rw[List.any_eq_true.2 ⟨_,List.getElem_mem aa,ah⟩];simp
theorem ua (l:List ByteArray) (v:ByteArray) (σ:al) (aA:l.length<2^40):
  AC Tryz.prog 89 [.ai (l.map ab), .v (.string v)] σ (fun e σ'=>e= .ret (.v (.int .i64 (fE (fun s=>v.toList==s.toList) l)))∧σ'=σ):=by
 have bn:(l.map ab).length=l.length:=List.length_map ..;refine AC.bI Tryz.func89 Tryz.ntmps89 fun C ar=> ?_;repeat' (first|refine j.J ?_|refine j.aN ?_|refine j.ba ?_|refine j.aG ?_|refine j.exit rfl ?_|(refine j.rg [0,1] fun K I=> ?_;simp only[go_sem];apply I))
 refine j.rebase [0,1,6,7,8] ?_;simp only[go_sem];refine j.while (fun(i:Nat) env' σ'=>i≤l.length∧(∀s∈l.take i,(v.toList==s.toList)=false)∧env'=[(0, .ai (l.map ab)),(1, .v (.string v)),(6, .ai (l.map ab)),(7, .v (.int .i64 (l.length:Int))),(8, .v (.int .i64 (i:Int)))]∧σ'=σ) (fun i=>l.length-i) 0 ⟨by omega,by simp,by rw[bn];rfl,rfl⟩ ?_
 rintro i env' σ' ⟨hi,b0,rfl,rfl⟩ aB;repeat' (first|refine j.J ?_|refine j.aN ?_|refine j.ba ?_|refine j.aG ?_|refine j.exit rfl ?_|(refine j.rg [0,1,6,7,8] fun K I=> ?_;simp only[go_sem];apply I))
 refine j.cond rfl (fun h=> ?_) (fun h=> ?_)
 ·have aC:i<l.length:=by simpa using h
  have aq:=b6 ab l i aC;rw[ab]at aq;have bf:(0:Int)≤(i:Int):=by omega
  have bp:(i:Int)<((l.map ab).length:Int):=by omega
  repeat' (first|refine j.J ?_|refine j.aN ?_|refine j.ba ?_|refine j.aG ?_|refine j.exit rfl ?_|(refine j.rg [0,1,5,6,7,8] fun K I=> ?_;simp only[go_sem,aq,bf,bp];apply I))
  refine j.cond rfl (fun ag=> ?_) (fun ag=> ?_)
  ·repeat' (first|refine j.J ?_|refine j.aN ?_|refine j.ba ?_|refine j.aG ?_|refine j.exit rfl ?_|(refine j.rg [5] fun K I=> ?_;simp only[go_sem];apply I))
   refine j.ret ar Tryz.func89 (by simp[go_sem]) ?_;simp only[go_sem];rw[qT aC b0 ag]
  repeat' (first|refine j.J ?_|refine j.aN ?_|refine j.ba ?_|refine j.aG ?_|refine j.exit rfl ?_|(refine j.rg [0,1,6,7,8] fun K I=> ?_;simp only[go_sem];apply I))
  refine j.rebase [0,1,6,7,8] ?_;simp only[go_sem];rw[bH i (by omega)];refine aB (i+1) _ _ ⟨by omega,fun s af=> ?_,rfl,rfl⟩ (by omega);rw[List.take_succ_eq_append_getElem aC]at af;rcases List.mem_append.1 af with af|af
  ·exact b0 s af
  simp only[List.mem_singleton]at af;rw[af];exact ag
 have:i=l.length:=by simp at h;omega
 subst this;rw[List.take_length]at b0;repeat' (first|refine j.J ?_|refine j.aN ?_|refine j.ba ?_|refine j.aG ?_|refine j.exit rfl ?_|(refine j.rg [0] fun K I=> ?_;simp only[go_sem];apply I))
 refine j.ret ar Tryz.func89 (by simp[go_sem]) ?_;simp only[go_sem];rw[sh b0]
theorem rA (l:List ByteArray) (v:ByteArray) (σ:al) (aA:l.length<2^40):
  AC Tryz.prog 50 [.ai (l.map ab), .v (.string v)] σ (fun e σ'=>e= .ret (.v (.bool (l.any fun s=>v.toList==s.toList)))∧σ'=σ):=by
 refine AC.bI Tryz.func50 Tryz.ntmps50 fun C ar=> ?_;refine j.J (j.rg [0,1] fun K I=> ?_);simp only[go_sem];apply I;refine j.J (j.rg [0,1] fun K I=> ?_);simp only[go_sem];refine a1 Tryz.call89 (ua l v σ aA) ?_;simp only[go_sem];apply I;refine j.ret ar Tryz.func50 (by simp[go_sem]) ?_;simp only[go_sem];rw[Ey]
structure nY (cg:List D) (g:FuncId) (p:ByteArray→Bool) (l:List ByteArray) (σ:al):Prop where
 call:∀args w,(callFunc g args).run Tryz.prog w= .ok (.enter g args) w
 sQ:∀x∈l,AC Tryz.prog g (ab x::cg) σ (fun e σ'=>e= .ret (.v (.bool (p x)))∧σ'=σ)
theorem Kn (l:List ByteArray) (g:FuncId) (cg:List D) (p:ByteArray→Bool) (σ:al) (aA:l.length<2^40) (bc:nY cg g p l σ):
  AC Tryz.prog 74 [.ai (l.map ab), .bX (.func g) [] cg] σ (fun e σ'=>e= .ret (.v (.int .i64 (fE p l)))∧σ'=σ):=by
 have bn:(l.map ab).length=l.length:=List.length_map ..;refine AC.bI Tryz.func74 Tryz.ntmps74 fun C ar=> ?_;repeat' (first|refine j.J ?_|refine j.aN ?_|refine j.ba ?_|refine j.aG ?_|refine j.exit rfl ?_|(refine j.rg [0,1] fun K I=> ?_;simp only[go_sem];apply I))
 refine j.rebase [0,1,6,7,8] ?_;simp only[go_sem];refine j.while (fun(i:Nat) env' σ'=>i≤l.length∧(∀s∈l.take i,p s=false)∧env'=[(0, .ai (l.map ab)),(1, .bX (.func g) [] cg),(6, .ai (l.map ab)),(7, .v (.int .i64 (l.length:Int))),(8, .v (.int .i64 (i:Int)))]∧σ'=σ) (fun i=>l.length-i) 0 ⟨by omega,by simp,by rw[bn];rfl,rfl⟩ ?_
 rintro i env' σ' ⟨hi,b0,rfl,rfl⟩ aB;repeat' (first|refine j.J ?_|refine j.aN ?_|refine j.ba ?_|refine j.aG ?_|refine j.exit rfl ?_|(refine j.rg [0,1,6,7,8] fun K I=> ?_;simp only[go_sem];apply I))
 refine j.cond rfl (fun h=> ?_) (fun h=> ?_)
 ·have aC:i<l.length:=by simpa using h
  have aq:=b6 ab l i aC;rw[ab]at aq;have bf:(0:Int)≤(i:Int):=by omega
  have bp:(i:Int)<((l.map ab).length:Int):=by omega
  refine j.aN (j.J (j.aG (j.J (j.rg [0,1,6,7,8] fun K I=> ?_))));simp only[go_sem];apply I;refine j.J (j.rg [0,1,5,6,7,8] fun K I=> ?_);simp only[go_sem,aq,bf,bp];refine⟨g,bc.call, ?_⟩;refine(bc.sQ l[i] (List.getElem_mem aC)).mono ?_;rintro e σ1 ⟨rfl,rfl⟩;simp only[go_sem];refine I _ _ (j.cond rfl (fun ag=> ?_) (fun ag=> ?_));all_goals clear I K
  ·repeat' (first|refine j.J ?_|refine j.aN ?_|refine j.ba ?_|refine j.aG ?_|refine j.exit rfl ?_|(refine j.rg [5] fun K I=> ?_;simp only[go_sem];apply I))
   refine j.ret ar Tryz.func74 (by simp[go_sem]) ?_;simp only[go_sem];rw[qT aC b0 ag]
  repeat' (first|refine j.J ?_|refine j.aN ?_|refine j.ba ?_|refine j.aG ?_|refine j.exit rfl ?_|(refine j.rg [0,1,6,7,8] fun K I=> ?_;simp only[go_sem];apply I))
  refine j.rebase [0,1,6,7,8] ?_;simp only[go_sem];rw[bH i (by omega)];refine aB (i+1) _ _ ⟨by omega,fun s af=> ?_,rfl,rfl⟩ (by omega);rw[List.take_succ_eq_append_getElem aC]at af;rcases List.mem_append.1 af with af|af
  ·exact b0 s af
  simp only[List.mem_singleton]at af;rw[af];exact ag
 have:i=l.length:=by simp at h;omega
 subst this;rw[List.take_length]at b0;repeat' (first|refine j.J ?_|refine j.aN ?_|refine j.ba ?_|refine j.aG ?_|refine j.exit rfl ?_|(refine j.rg [0] fun K I=> ?_;simp only[go_sem];apply I))
 refine j.ret ar Tryz.func74 (by simp[go_sem]) ?_;simp only[go_sem];rw[sh b0]
theorem rz (l:List ByteArray) (g:FuncId) (cg:List D) (p:ByteArray→Bool) (σ:al) (aA:l.length<2^40) (bc:nY cg g p l σ):
  AC Tryz.prog 34 [.ai (l.map ab), .bX (.func g) [] cg] σ (fun e σ'=>e= .ret (.v (.bool (l.any p)))∧σ'=σ):=by
 refine AC.bI Tryz.func34 Tryz.ntmps34 fun C ar=> ?_;refine j.J (j.rg [0,1] fun K I=> ?_);simp only[go_sem];apply I;refine j.J (j.rg [0,1] fun K I=> ?_);simp only[go_sem];refine a1 Tryz.call74 (Kn l g cg p σ aA bc) ?_;simp only[go_sem];apply I;refine j.ret ar Tryz.func34 (by simp[go_sem]) ?_;simp only[go_sem];rw[Ey]
theorem uU (xs:List D) (σ:al) (aP:∀x∈xs,x.cells.length=1∧x.plain=true) (aA:xs.length<2^40):
  AC Tryz.prog 52 [.ai xs] σ (fun e σ'=>e= .ret (.ai xs)∧σ'=σ):=by
 refine AC.l7 (R:=fun e σ'=>(e= .ret (.ai xs)∧σ'=σ)∨(xs=[]∧e= .ret (.v (.slice none 0 0))∧σ'=σ)) ?_ fun e σ' h=> ?_;rotate_left
 ·rcases h with h|⟨rfl,rfl,rfl⟩
  ·exact .inl h
  exact .inr ⟨_,_,rfl,ca.pU,rfl,rfl⟩
 refine AC.bI Tryz.func52 Tryz.ntmps52 fun C ar=> ?_;repeat' (first|refine j.J ?_|refine j.aN ?_|refine j.ba ?_|refine j.aG ?_|refine j.exit rfl ?_|(refine j.rg [0,2] fun K I=> ?_;simp only[go_sem];apply I))
 refine j.rg [0,2] fun K I=> ?_;simp only[go_sem];intro t bc;apply I;refine j.cond rfl (fun h=> ?_) (fun h=> ?_)
 ·have an:xs=[]:=by
   cases xs with
   |nil=>rfl
   |cons a l=>have:=bc (by simp);rw[h]at this;cases this
  repeat' (first|refine j.J ?_|refine j.aN ?_|refine j.ba ?_|refine j.aG ?_|refine j.exit rfl ?_|(refine j.rg [2] fun K I=> ?_;simp only[go_sem];apply I))
  refine j.ret ar Tryz.func52 (by simp[go_sem]) ?_;simp only[go_sem];exact .inr an
 repeat' (first|refine j.J ?_|refine j.aN ?_|refine j.ba ?_|refine j.aG ?_|refine j.exit rfl ?_|(refine j.rg [0,2] fun K I=> ?_;simp only[go_sem];apply I))
 refine j.fw [0,2] [5,7] fun K I=> ?_;simp only[go_sem];refine⟨⟨aP,by omega,by omega⟩,I _ _ ?_⟩;refine j.ret ar Tryz.func52 (by simp[go_sem]) ?_;simp only[go_sem]
theorem G' (xs:List D) (σ:al) (aP:∀x∈xs,x.cells.length=1∧x.plain=true) (aA:xs.length<2^40):
  AC Tryz.prog 67 [.ai xs] σ (fun e σ'=>e= .ret (.ai xs)∧σ'=σ):=by
 refine AC.l7 (R:=fun e σ'=>(e= .ret (.ai xs)∧σ'=σ)∨(xs=[]∧e= .ret (.v (.slice none 0 0))∧σ'=σ)) ?_ fun e σ' h=> ?_;rotate_left
 ·rcases h with h|⟨rfl,rfl,rfl⟩
  ·exact .inl h
  exact .inr ⟨_,_,rfl,ca.pU,rfl,rfl⟩
 refine AC.bI Tryz.func67 Tryz.ntmps67 fun C ar=> ?_;repeat' (first|refine j.J ?_|refine j.aN ?_|refine j.ba ?_|refine j.aG ?_|refine j.exit rfl ?_|(refine j.rg [0,2] fun K I=> ?_;simp only[go_sem];apply I))
 refine j.rg [0,2] fun K I=> ?_;simp only[go_sem];intro t bc;apply I;refine j.cond rfl (fun h=> ?_) (fun h=> ?_)
 ·have an:xs=[]:=by
   cases xs with
   |nil=>rfl
   |cons a l=>have:=bc (by simp);rw[h]at this;cases this
  repeat' (first|refine j.J ?_|refine j.aN ?_|refine j.ba ?_|refine j.aG ?_|refine j.exit rfl ?_|(refine j.rg [2] fun K I=> ?_;simp only[go_sem];apply I))
  refine j.ret ar Tryz.func67 (by simp[go_sem]) ?_;simp only[go_sem];exact .inr an
 repeat' (first|refine j.J ?_|refine j.aN ?_|refine j.ba ?_|refine j.aG ?_|refine j.exit rfl ?_|(refine j.rg [0,2] fun K I=> ?_;simp only[go_sem];apply I))
 refine j.fw [0,2] [5,7] fun K I=> ?_;simp only[go_sem];refine⟨⟨aP,by omega,by omega⟩,I _ _ ?_⟩;refine j.ret ar Tryz.func67 (by simp[go_sem]) ?_;simp only[go_sem]
theorem pO (l:List ByteArray) (v:ByteArray) (σ:al) (aA:l.length<2^40):
  AC Tryz.prog 57 [.ai (l.map ab), .v (.string v)] σ (fun e σ'=>e= .ret (.v (.bool (l.any fun s=>s.toList==v.toList)))∧σ'=σ):=by
 have bn:(l.map ab).length=l.length:=List.length_map ..;refine AC.bI Tryz.func57 Tryz.ntmps57 fun C ar=> ?_;repeat' (first|refine j.J ?_|refine j.aN ?_|refine j.ba ?_|refine j.aG ?_|refine j.exit rfl ?_|(refine j.rg [0,1] fun K I=> ?_;simp only[go_sem];apply I))
 refine j.rebase [0,1,5] ?_;simp only[go_sem];refine j.while (fun(i:Nat) env' σ'=>i≤l.length∧(∀s∈l.take i,(s.toList==v.toList)=false)∧env'=[(0, .ai (l.map ab)),(1, .v (.string v)),(5, .v (.int .i64 (i:Int)))]∧σ'=σ) (fun i=>l.length-i) 0 ⟨by omega,by simp,rfl,rfl⟩ ?_;rintro i env' σ' ⟨hi,b0,rfl,rfl⟩ aB;repeat' (first|refine j.J ?_|refine j.aN ?_|refine j.ba ?_|refine j.aG ?_|refine j.exit rfl ?_|(refine j.rg [0,1,5] fun K I=> ?_;simp only[go_sem];apply I))
 refine j.cond rfl (fun h=> ?_) (fun h=> ?_)
 ·have aC:i<l.length:=by simpa [bn]using h
  have aq:=b6 ab l i aC;rw[ab]at aq;have bf:(0:Int)≤(i:Int):=by omega
  have bp:(i:Int)<((l.map ab).length:Int):=by omega
  repeat' (first|refine j.J ?_|refine j.aN ?_|refine j.ba ?_|refine j.aG ?_|refine j.exit rfl ?_|(refine j.rg [0,1,5] fun K I=> ?_;simp only[go_sem,aq,bf,bp];apply I))
  refine j.cond rfl (fun ag=> ?_) (fun ag=> ?_)
  ·repeat' (first|refine j.J ?_|refine j.aN ?_|refine j.ba ?_|refine j.aG ?_|refine j.exit rfl ?_|(refine j.rg [] fun K I=> ?_;simp only[go_sem];apply I))
   refine j.ret ar Tryz.func57 (by simp[go_sem]) ?_;simp only[go_sem];rw[List.any_eq_true.2 ⟨_,List.getElem_mem aC,ag⟩]
  repeat' (first|refine j.J ?_|refine j.aN ?_|refine j.ba ?_|refine j.aG ?_|refine j.exit rfl ?_|(refine j.rg [0,1,5] fun K I=> ?_;simp only[go_sem];apply I))
  refine j.rebase [0,1,5] ?_;simp only[go_sem];rw[bH i (by omega)];refine aB (i+1) _ _ ⟨by omega,fun s af=> ?_,rfl,rfl⟩ (by omega);rw[List.take_succ_eq_append_getElem aC]at af;rcases List.mem_append.1 af with af|af
  ·exact b0 s af
  simp only[List.mem_singleton]at af;rw[af];exact ag
 have:i=l.length:=by simp[bn]at h;omega
 subst this;rw[List.take_length]at b0;repeat' (first|refine j.J ?_|refine j.aN ?_|refine j.ba ?_|refine j.aG ?_|refine j.exit rfl ?_|(refine j.rg [] fun K I=> ?_;simp only[go_sem];apply I))
 refine j.ret ar Tryz.func57 (by simp[go_sem]) ?_;simp only[go_sem];rw[List.any_eq_false.2 fun s af=>by rw[b0 s af];simp]
def lr (s p:ByteArray):Bool:=decide (p.size≤s.size)&&((s.extract (s.size-p.size) s.size).toList==p.toList)
def i_ (s p:ByteArray):ByteArray:=if lr s p=true then s.extract 0 (s.size-p.size)else s
theorem QO (s p:ByteArray) (σ:al) (af:s.size<2^40) (aP:p.size<2^40):
  AC Tryz.prog 120 [.v (.string s), .v (.string p)] σ (fun e σ'=>e= .ret (.v (.bool (lr s p)))∧σ'=σ):=by
 refine AC.bI Tryz.func120 Tryz.ntmps120 fun C ar=> ?_;have hw:IntKind.i64.wrap ((s.size:Int)-(p.size:Int))=(s.size:Int)-(p.size:Int):=kt _ (by omega) (by omega);refine j.J (j.rg [0,1] fun K I=> ?_);simp only[go_sem];apply I;refine j.J (j.rg [0,1] fun K I=> ?_);simp only[go_sem,hw];by_cases ag:p.size≤s.size
 ·have aa:(0:Int)≤(s.size:Int)-(p.size:Int):=by omega
  have ah:(s.size:Int)-(p.size:Int)≤(s.size:Int):=by omega
  have aJ:(((s.size:Int)-(p.size:Int))).toNat=s.size-p.size:=by omega
  rw[if_pos (by simpa using ag),aJ];refine⟨⟨aa,ah,Int.le_refl _⟩,I _ _ ?_⟩;clear I K;refine j.ret ar Tryz.func120 (by simp[go_sem]) ?_;simp only[go_sem];unfold lr;rw[decide_eq_true ag,Bool.true_and]
 rw[if_neg (by simpa using ag)];apply I;refine j.ret ar Tryz.func120 (by simp[go_sem]) ?_;simp only[go_sem];unfold lr;rw[decide_eq_false ag,Bool.false_and]
theorem Yg (s p:ByteArray) (σ:al) (af:s.size<2^40) (aP:p.size<2^40):
  AC Tryz.prog 90 [.v (.string s), .v (.string p)] σ (fun e σ'=>e= .ret (.v (.string (i_ s p)))∧σ'=σ):=by
 refine AC.bI Tryz.func90 Tryz.ntmps90 fun C ar=> ?_;have hw:IntKind.i64.wrap ((s.size:Int)-(p.size:Int))=(s.size:Int)-(p.size:Int):=kt _ (by omega) (by omega);refine j.J (j.rg [0,1] fun K I=> ?_);simp only[go_sem];apply I;refine j.J (j.J (j.rg [0,1] fun K I=> ?_));simp only[go_sem];refine a1 Tryz.call120 (QO s p σ af aP) ?_;simp only[go_sem];refine I _ _ (j.cond rfl (fun ag=> ?_) (fun ag=> ?_));all_goals clear I K
 ·have hle:p.size≤s.size:=by
   have:lr s p=true:=ag;unfold lr at this;simp at this;exact this.1
  have aa:(0:Int)≤(s.size:Int)-(p.size:Int):=by omega
  have ah:(s.size:Int)-(p.size:Int)≤(s.size:Int):=by omega
  have aJ:(((s.size:Int)-(p.size:Int))).toNat=s.size-p.size:=by omega
  refine j.J (j.rg [0,1] fun K I=> ?_);simp only[go_sem,hw,aa,ah,aJ];apply I;refine j.ret ar Tryz.func90 (by simp[go_sem]) ?_;simp only[go_sem];unfold i_;rw[if_pos ag]
 refine j.aN (j.J (j.rg [0] fun K I=> ?_));simp only[go_sem];apply I;refine j.ret ar Tryz.func90 (by simp[go_sem]) ?_;simp only[go_sem];unfold i_;rw[if_neg (by rw[show lr s p=false from ag];simp)]
theorem F4 (s p:ByteArray) (σ:al) (af:s.size<2^40) (aP:p.size<2^40):
  AC Tryz.prog 51 [.v (.string s), .v (.string p)] σ (fun e σ'=>e= .ret (.v (.string (i_ s p)))∧σ'=σ):=by
 refine AC.bI Tryz.func51 Tryz.ntmps51 fun C ar=> ?_;refine j.J (j.rg [0,1] fun K I=> ?_);simp only[go_sem];apply I;refine j.J (j.rg [0,1] fun K I=> ?_);simp only[go_sem];refine a1 Tryz.call90 (Yg s p σ af aP) ?_;simp only[go_sem];apply I;refine j.ret ar Tryz.func51 (by simp[go_sem]) ?_;simp only[go_sem]
def ug:ByteArray:={data:=#[98,117,105,108,100,46,110,105,110,106,97]}
def q0:ByteArray:={data:=#[46,98,117,105,108,100,95,108,111,103]}
def qZ:ByteArray:={data:=#[46,100,101,112,115,95,108,111,103]}
def q1:ByteArray:={data:=#[46,110,101,119]}
def kn (s:ByteArray):Bool:=(s.toList==ug.toList)||[q0,qZ].any fun x=>(i_ s q1).toList==x.toList
theorem E9 (s:ByteArray) (σ:al) (af:s.size<2^40):
  AC Tryz.prog 18 [.v (.string s)] σ (fun e σ'=>e= .ret (.v (.bool (kn s)))∧σ'=σ):=by
 refine AC.bI Tryz.func18 Tryz.ntmps18 fun C ar=> ?_;refine j.J (j.rg [0] fun K I=> ?_);simp only[go_sem];apply I;refine j.J ?_;refine j.fw [0] [6] fun K I=> ?_;simp only[go_sem];cases ae:(s.toList==ByteArray.toList {data:=#[98,117,105,108,100,46,110,105,110,106,97]})with
 |true=>
  simp only[go_sem];apply I;refine j.ret ar Tryz.func18 (by simp[go_sem]) ?_;simp only[go_sem];unfold kn ug;rw[ae,Bool.true_or]
 |false=>
  simp only[go_sem];refine⟨by decide,_,Tryz.call51,(F4 s q1 σ af (by decide)).mono ?_⟩;rintro e σ1 ⟨rfl,rfl⟩;simp only[go_sem];refine⟨_,Tryz.call50,(rA [q0,qZ] (i_ s q1) σ1 (by decide)).mono ?_⟩;rintro e mc ⟨rfl,rfl⟩;simp only[go_sem];apply I;refine j.ret ar Tryz.func18 (by simp[go_sem]) ?_;simp only[go_sem];unfold kn;rw[show(s.toList==ug.toList)=false from ae,Bool.false_or]
def yf:ByteArray:={data:=#[46,98,117,105,108,100,95,108,111,103,46,110,101,119]}
def ye:ByteArray:={data:=#[46,100,101,112,115,95,108,111,103,46,110,101,119]}
def kQ (s:ByteArray):Bool:=(s.toList==ug.toList)||((s.toList==q0.toList)||((s.toList==qZ.toList)||((s.toList==yf.toList)||(s.toList==ye.toList))))
theorem FA (s:ByteArray) (σ:al):
  AC Tryz.prog 19 [.v (.string s)] σ (fun e σ'=>e= .ret (.v (.bool (kQ s)))∧σ'=σ):=by
 refine AC.bI Tryz.func19 Tryz.ntmps19 fun C ar=> ?_;unfold kQ at ar;have bj:(s.toList==ByteArray.toList {data:=#[98,117,105,108,100,46,110,105,110,106,97]})=(s.toList==ug.toList):=rfl;have aa:(s.toList==ByteArray.toList {data:=#[46,98,117,105,108,100,95,108,111,103]})=(s.toList==q0.toList):=rfl;have ah:(s.toList==ByteArray.toList {data:=#[46,100,101,112,115,95,108,111,103]})=(s.toList==qZ.toList):=rfl;have aJ:(s.toList==ByteArray.toList {data:=#[46,98,117,105,108,100,95,108,111,103,46,110,101,119]})=(s.toList==yf.toList):=rfl;have bg:(s.toList==ByteArray.toList {data:=#[46,100,101,112,115,95,108,111,103,46,110,101,119]})=(s.toList==ye.toList):=rfl;generalize(s.toList==ug.toList)=je at ar bj;generalize(s.toList==q0.toList)=bP at ar aa;generalize(s.toList==qZ.toList)=br at ar ah;generalize(s.toList==yf.toList)=b3 at ar aJ;generalize(s.toList==ye.toList)=b4 at ar bg;refine j.J (j.rg [0] fun K I=> ?_);simp only[go_sem];apply I;refine j.J ?_;cases je<;>cases bP<;>cases br<;>cases b3
 all_goals
  refine j.rg [0] fun K I=> ?_;simp only[go_sem,bj,aa,ah,aJ,bg];apply I;refine j.ret ar Tryz.func19 (by simp[go_sem]) ?_;simp only[go_sem]<;>first|trivial|simp
theorem Cg (s:ByteArray) (a b:Nat):(s.extract a b).data.toList=(s.data.toList.take b).drop a:=by
 rw[ByteArray.data_extract];simp[List.drop_take,List.extract_eq_take_drop]
theorem cr (s:ByteArray):s.toList=s.data.toList:=by
 have key:∀(n i:Nat) (r:List UInt8),s.size-i=n→ByteArray.toList.loop s i r=r.reverse++s.data.toList.drop i:=by
  intro n;induction n with
  |zero=>
   intro i r h;unfold ByteArray.toList.loop;rw[if_neg (by omega),List.drop_of_length_le (by simp;omega)];simp
  |succ n aB=>
   intro i r h;unfold ByteArray.toList.loop;have hi:i<s.size:=by omega
   rw[if_pos hi,aB (i+1) _ (by omega)];have aC:i<s.data.toList.length:=by simpa using hi
   rw[List.drop_eq_getElem_cons aC];simp[ByteArray.get!,Array.getElem!_eq_getD,Array.getD,hi]
 have:=key s.size 0 [] (by omega);simpa [ByteArray.toList]using this
theorem M1 (s p x:ByteArray) (an:∀pre,x.data.toList≠pre++p.data.toList):((i_ s p).toList==x.toList)=((s.toList==x.toList)||(s.toList==x.toList++p.toList)):=by
 rw[Bool.eq_iff_iff];simp only[cr,Bool.or_eq_true,beq_iff_eq];unfold i_;have aA:s.data.toList.length=s.size:=by simp
 have aP:p.data.toList.length=p.size:=by simp
 cases ae:lr s p with
 |true=>
  rw[if_pos rfl,Cg];unfold lr at ae;rw[Bool.and_eq_true,decide_eq_true_iff,beq_iff_eq,cr,cr,Cg]at ae;obtain⟨aa,ah⟩:=ae;rw[List.take_of_length_le (by omega)]at ah;have af:=List.take_append_drop (s.size-p.size) s.data.toList;rw[ah]at af;rw[List.drop_zero];constructor
  ·intro h;right;rw[←h,af]
  rintro(h|h)
  ·exact absurd (h.symm.trans af.symm) (an _)
  rw[h]at af⊢;exact List.append_cancel_right af
 |false=>
  rw[if_neg (by simp)];constructor
  ·exact .inl
  rintro(h|h)
  ·exact h
  exfalso
  have aa:p.size≤s.size:=by rw[←aA,←aP,h];simp
  have vC:s.size-p.size=x.data.toList.length:=by rw[←aA,←aP,h];simp
  unfold lr at ae;rw[decide_eq_true aa,Bool.true_and,cr,cr,Cg,List.take_of_length_le (by omega),vC,h,List.drop_left]at ae;simp at ae
theorem yp (s:ByteArray):kn s=kQ s:=by
 unfold kn kQ;have bt:=M1 s q1 q0 (fun pre h=>by
  have:=congrArg (fun l:List UInt8=>l.reverse.head?) h;simp[q0,q1]at this)
 have b_:=M1 s q1 qZ (fun pre h=>by
  have:=congrArg (fun l:List UInt8=>l.reverse.head?) h;simp[qZ,q1]at this)
 have mh:q0.toList++q1.toList=yf.toList:=by rw[cr,cr,cr];rfl
 have nb:qZ.toList++q1.toList=ye.toList:=by rw[cr,cr,cr];rfl
 rw[List.any_cons,List.any_cons,List.any_nil,bt,b_,mh,nb];cases s.toList==ug.toList<;>cases s.toList==q0.toList<;>cases s.toList==qZ.toList<;>cases s.toList==yf.toList<;>cases s.toList==ye.toList<;>rfl
def oV (a b:List ByteArray):Bool:=decide (a.length=b.length)&&(List.range a.length).all fun i=>(a.getD i ByteArray.empty).toList==(b.getD i ByteArray.empty).toList
structure ay where
 name:ByteArray
 b:List UInt8
def ay.d (f:ay):D:= .agg [.v (.string f.name), .ai (f.b.map bD)]
theorem PA (n m:ByteArray) (y:D) (σ:al) (aF:y.cells=[y]∧y.plain=true∧y.cell=true):
  AC Tryz.prog 69 [.v (.string n), .agg [.v (.string m),y]] σ (fun e σ'=>e= .ret (.v (.bool (m.toList==n.toList)))∧σ'=σ):=by
 refine AC.still ?_ σ;refine AC.forget (R:=fun e _=>e= .ret (.v (.bool (m.toList==n.toList)))) ?_ fun e σ' h=>⟨[],aQ.nil _,h,rfl⟩;obtain⟨aa,ah,aJ⟩:=aF;refine AC.bI Tryz.func69 Tryz.ntmps69 fun C ar=> ?_;refine j.J (j.rg [0,1] fun K I=> ?_);simp only[go_sem,aa,ah,aJ];intro b3;apply I;refine j.J (j.rg [0,3] fun K I=> ?_);simp only[go_sem,aa,ah,aJ];apply I;refine j.ret ar Tryz.func69 (by simp[go_sem]) ?_;simp only[go_sem]
def gU (outs:List ByteArray) (a7:List ay):Bool:=oV outs (a7.map ay.name)
theorem Pb (outs:List ByteArray) (a7:List ay) (σ:al) (bb:outs.length<2^31) (ae:a7.length<2^31):
  AC Tryz.prog 68 [.ai (outs.map ab), .ai (a7.map ay.d), .bX (.func 69) [] []] σ (fun e σ'=>e= .ret (.v (.bool (gU outs a7)))∧σ'=σ):=by
 refine AC.still ?_ σ;refine AC.forget (R:=fun e _=>e= .ret (.v (.bool (gU outs a7)))) ?_ fun e σ' h=>⟨[],aQ.nil _,h,rfl⟩;have e_:(outs.map ab).length=outs.length:=List.length_map ..;have dD:(a7.map ay.d).length=a7.length:=List.length_map ..;refine AC.bI Tryz.func68 Tryz.ntmps68 fun C ar=> ?_;repeat' (first|refine j.J ?_|refine j.aN ?_|refine j.ba ?_|refine j.aG ?_|refine j.exit rfl ?_|(refine j.rg [0,1,2] fun K I=> ?_;simp only[go_sem];apply I))
 refine j.cond rfl (fun h=> ?_) (fun h=> ?_)
 ·have aZ:¬outs.length=(a7.map ay.name).length:=fun e=>by rw[e_,dD,e,List.length_map]at h;simp at h
  repeat' (first|refine j.J ?_|refine j.aN ?_|refine j.ba ?_|refine j.aG ?_|refine j.exit rfl ?_|(refine j.rg [] fun K I=> ?_;simp only[go_sem];apply I))
  refine j.ret ar Tryz.func68 (by simp[go_sem]) ?_;simp only[go_sem];unfold gU oV;rw[decide_eq_false aZ,Bool.false_and]
 have aZ:outs.length=a7.length:=by rw[e_,dD]at h;simp at h;omega
 have Ai:outs.length=(a7.map ay.name).length:=by rw[List.length_map];exact aZ
 repeat' (first|refine j.J ?_|refine j.aN ?_|refine j.ba ?_|refine j.aG ?_|refine j.exit rfl ?_|(refine j.rg [0,1,2] fun K I=> ?_;simp only[go_sem];apply I))
 refine j.rebase [1,2,15,16,17] ?_;simp only[go_sem];refine j.while (fun(i:Nat) env' σ'=>i≤outs.length∧(∀k,k<i→((outs.getD k ByteArray.empty).toList==((a7.map ay.name).getD k ByteArray.empty).toList)=true)∧env'=[(1, .ai (a7.map ay.d)),(2, .bX (.func 69) [] []),(15, .ai (outs.map ab)),(16, .v (.int .i64 (outs.length:Int))),(17, .v (.int .i64 (i:Int)))]∧σ'=[]) (fun i=>outs.length-i) 0 ⟨by omega,by simp,by rw[e_];rfl,rfl⟩ ?_
 rintro i env' σ' ⟨hi,b0,rfl,rfl⟩ aB;repeat' (first|refine j.J ?_|refine j.aN ?_|refine j.ba ?_|refine j.aG ?_|refine j.exit rfl ?_|(refine j.rg [1,2,15,16,17] fun K I=> ?_;simp only[go_sem];apply I))
 refine j.cond rfl (fun h=> ?_) (fun h=> ?_);rotate_left
 ·have:i=outs.length:=by simp at h;omega
  subst this;repeat' (first|refine j.J ?_|refine j.aN ?_|refine j.ba ?_|refine j.aG ?_|refine j.exit rfl ?_|(refine j.rg [] fun K I=> ?_;simp only[go_sem];apply I))
  refine j.ret ar Tryz.func68 (by simp[go_sem]) ?_;simp only[go_sem];unfold gU oV;rw[decide_eq_true Ai,Bool.true_and,List.all_eq_true.2 fun k aj=>b0 k (by simpa using aj)]
 have aC:i<outs.length:=by simpa using h
 have tI:i<a7.length:=by omega
 have aq:=b6 ab outs i aC;have cW:=b6 ay.d a7 i tI;rw[ab]at aq;rw[ay.d]at cW;have bf:(0:Int)≤(i:Int):=by omega
 have bp:(i:Int)<((outs.map ab).length:Int):=by omega
 have kG:(i:Int)<((a7.map ay.d).length:Int):=by omega
 have w1:outs.getD i ByteArray.empty=outs[i]:=by simp[List.getD_eq_getElem?_getD,aC]
 have w2:(a7.map ay.name).getD i ByteArray.empty=a7[i].name:=by simp[List.getD_eq_getElem?_getD,tI]
 refine j.aN (j.J (j.aG (j.J (j.rg [1,2,15,16,17] fun K I=> ?_))));simp only[go_sem,aq,bf,bp];apply I;refine j.J (j.rg [1,2,7,8,15,16,17] fun K I=> ?_);simp only[go_sem,cW,bf,kG];intro mg;apply I;refine j.J (j.rg [1,2,8,9,15,16,17] fun K I=> ?_);simp only[go_sem];have hC:(a7[i].name.toList==outs[i].toList)=(outs[i].toList==a7[i].name.toList):=by
  rw[Bool.eq_iff_iff,beq_iff_eq,beq_iff_eq];exact eq_comm
 refine a1 Tryz.call69 (PA outs[i] a7[i].name (.ai (a7[i].b.map bD)) _ ⟨rfl,rfl,rfl⟩) ?_;rw[hC];simp only[go_sem];refine I _ _ (j.cond rfl (fun ag=> ?_) (fun ag=> ?_));all_goals clear I K
 ·repeat' (first|refine j.J ?_|refine j.aN ?_|refine j.ba ?_|refine j.aG ?_|refine j.exit rfl ?_|(refine j.rg [] fun K I=> ?_;simp only[go_sem];apply I))
  refine j.ret ar Tryz.func68 (by simp[go_sem]) ?_;simp only[go_sem];unfold gU oV;rw[List.all_eq_false.2 ⟨i,by simpa using aC,by rw[w1,w2];simpa using ag⟩,Bool.and_false]
 repeat' (first|refine j.J ?_|refine j.aN ?_|refine j.ba ?_|refine j.aG ?_|refine j.exit rfl ?_|(refine j.rg [1,2,15,16,17] fun K I=> ?_;simp only[go_sem];apply I))
 refine j.rebase [1,2,15,16,17] ?_;simp only[go_sem];rw[bH i (by omega)];refine j.le (cn.refl _) (aQ.nil _) (aB (i+1) _ [] ⟨by omega,fun k aj=> ?_,rfl,rfl⟩ (by omega));by_cases tF:k=i
 ·subst tF;rw[w1,w2];simpa using ag
 exact b0 k (by omega)
structure aM where
 outs:List ByteArray
 ins:List ByteArray
 impl:List ByteArray
 order:List ByteArray
 cmd:ByteArray
 dep:ByteArray
def aM.d (e:aM):D:= .agg [.ai (e.outs.map ab), .ai (e.ins.map ab), .ai (e.impl.map ab), .ai (e.order.map ab), .v (.string e.cmd), .v (.string e.dep)]
structure hO where
 outs:List ay
 once:Bool
 dep:ByteArray
 mj:ByteArray
def hO.d (x:hO):D:= .agg [.ai (x.outs.map ay.d), .v (.bool x.once), .v (.string x.dep), .v (.string x.mj)]
theorem HM (e:aM) (x:hO) (σ:al) (bb:e.outs.length<2^31) (ae:x.outs.length<2^31):
  AC Tryz.prog 28 [e.d,x.d] σ (fun r σ'=>r= .ret (.v (.bool ((x.dep.toList==e.dep.toList)&&gU e.outs x.outs)))∧σ'=σ):=by
 refine AC.still ?_ σ;refine AC.forget (R:=fun r _=>r= .ret (.v (.bool ((x.dep.toList==e.dep.toList)&&gU e.outs x.outs)))) ?_ fun r σ' h=>⟨[],aQ.nil _,h,rfl⟩;unfold aM.d hO.d;refine AC.bI Tryz.func28 Tryz.ntmps28 fun C ar=> ?_;refine j.J (j.rg [0,1] fun K I=> ?_);simp only[go_sem];intro br b3 dP;have aZ:br≠b3:=fun e=>by subst e;rw[bE]at dP;cases dP
 apply I;refine j.J (j.rg [2,3] fun K I=> ?_);simp only[go_sem,aZ,aZ.symm];cases aw:(x.dep.toList==e.dep.toList)with
 |false=>
  simp only[go_sem];apply I;refine j.ret ar Tryz.func28 (by simp[go_sem]) ?_;simp only[go_sem];rw[aw,Bool.false_and]
 |true=>
  simp only[go_sem];refine⟨_,Tryz.call68,(Pb e.outs x.outs _ bb ae).mono ?_⟩;rintro r σ1 ⟨rfl,rfl⟩;simp only[go_sem];apply I;refine j.ret ar Tryz.func28 (by simp[go_sem]) ?_;simp only[go_sem];rw[aw,Bool.true_and]
def findF (l:List ay) (n:ByteArray):Option (List UInt8):=(l.find? fun f=>f.name.toList==n.toList).map ay.b
def findD (o:Option (List UInt8)):D:=match o with
 |some b=> .bd [.ai (b.map bD), .v (.bool true)]
 |none=> .bd [.ai [], .v (.bool false)]
theorem HF {l:List ay} {n:ByteArray}:∀{i:Nat} (hi:i<l.length),(∀f∈l.take i,(f.name.toList==n.toList)=false)→(l[i].name.toList==n.toList)=true→findF l n=some l[i].b:=by
 induction l with
 |nil=>intro i hi;simp at hi
 |cons f l aB=>
  intro i hi bj h;cases i with
  |zero=>
   have h:(f.name.toList==n.toList)=true:=h;simp[findF,List.find?_cons,h]
  |succ i=>
   have ax:=bj f (by simp);have:=aB (i:=i) (by simpa using hi) (fun y aF=>bj y (by simp[aF])) (by simpa using h);unfold findF at this⊢;rw[List.find?_cons,ax];simpa using this
theorem HH {l:List ay} {n:ByteArray} (h:∀f∈l,(f.name.toList==n.toList)=false):findF l n=none:=by
 unfold findF;rw[List.find?_eq_none.2 fun f ax=>by rw[h f ax];simp];rfl
theorem yx (l:List ay) (n:ByteArray) (σ:al) (aA:l.length<2^40):
  AC Tryz.prog 84 [.ai (l.map ay.d), .v (.string n)] σ (fun e σ'=>e= .ret (findD (findF l n))∧σ'=σ):=by
 refine AC.l7 (R:=fun e σ'=>(e= .ret (findD (findF l n))∧σ'=σ)∨(findF l n=none∧e= .ret (.bd [.v (.slice none 0 0), .v (.bool false)])∧σ'=σ)) ?_ fun e σ' h=> ?_;rotate_left
 ·rcases h with h|⟨bj,rfl,rfl⟩
  ·exact .inl h
  refine .inr ⟨_,findD (findF l n),rfl,fun w S v h=> ?_,rfl,rfl⟩;rw[bj];cases h with
  |bd h=>
   obtain⟨a0,gH,rfl,hI,h⟩:=h.cons_inv;exact .bd (.cons (ca.pU _ _ _ hI) h)
 have bn:(l.map ay.d).length=l.length:=List.length_map ..;refine AC.bI Tryz.func84 Tryz.ntmps84 fun C ar=> ?_;repeat' (first|refine j.J ?_|refine j.aN ?_|refine j.ba ?_|refine j.aG ?_|refine j.exit rfl ?_|(refine j.rg [0,1] fun K I=> ?_;simp only[go_sem];apply I))
 refine j.rebase [0,1,6] ?_;simp only[go_sem];refine j.while (fun(i:Nat) env' σ'=>i≤l.length∧(∀f∈l.take i,(f.name.toList==n.toList)=false)∧env'=[(0, .ai (l.map ay.d)),(1, .v (.string n)),(6, .v (.int .i64 (i:Int)))]∧σ'=σ) (fun i=>l.length-i) 0 ⟨by omega,by simp,rfl,rfl⟩ ?_;rintro i env' σ' ⟨hi,b0,rfl,rfl⟩ aB;repeat' (first|refine j.J ?_|refine j.aN ?_|refine j.ba ?_|refine j.aG ?_|refine j.exit rfl ?_|(refine j.rg [0,1,6] fun K I=> ?_;simp only[go_sem];apply I))
 refine j.cond rfl (fun h=> ?_) (fun h=> ?_)
 ·have aC:i<l.length:=by simpa [bn]using h
  have aq:=b6 ay.d l i aC;rw[ay.d]at aq;have bf:(0:Int)≤(i:Int):=by omega
  have bp:(i:Int)<((l.map ay.d).length:Int):=by omega
  repeat' (first|refine j.J ?_|refine j.aN ?_|refine j.ba ?_|refine j.aG ?_|refine j.exit rfl ?_|(refine j.rg [0,1,6] fun K I=> ?_;simp only[go_sem,aq,bf,bp];apply I))
  refine j.cond rfl (fun ag=> ?_) (fun ag=> ?_)
  ·repeat' (first|refine j.J ?_|refine j.aN ?_|refine j.ba ?_|refine j.aG ?_|refine j.exit rfl ?_|(refine j.rg [0,6] fun K I=> ?_;simp only[go_sem,aq,bf,bp];apply I))
   refine j.ret ar Tryz.func84 (by simp[go_sem]) ?_;simp only[go_sem];rw[HF aC b0 ag];exact .inl rfl
  repeat' (first|refine j.J ?_|refine j.aN ?_|refine j.ba ?_|refine j.aG ?_|refine j.exit rfl ?_|(refine j.rg [0,1,6] fun K I=> ?_;simp only[go_sem];apply I))
  refine j.rebase [0,1,6] ?_;simp only[go_sem];rw[bH i (by omega)];refine aB (i+1) _ _ ⟨by omega,fun s af=> ?_,rfl,rfl⟩ (by omega);rw[List.take_succ_eq_append_getElem aC]at af;rcases List.mem_append.1 af with af|af
  ·exact b0 s af
  simp only[List.mem_singleton]at af;rw[af];exact ag
 have:i=l.length:=by simp[bn]at h;omega
 subst this;rw[List.take_length]at b0;repeat' (first|refine j.J ?_|refine j.aN ?_|refine j.ba ?_|refine j.aG ?_|refine j.exit rfl ?_|(refine j.rg [] fun K I=> ?_;simp only[go_sem];apply I))
 refine j.ret ar Tryz.func84 (by simp[go_sem]) ?_;simp only[go_sem];exact .inr (HH b0)
structure sO (cg:List D) (g:FuncId) (p:ay→Bool) (l:List ay) (σ:al):Prop where
 call:∀args w,(callFunc g args).run Tryz.prog w= .ok (.enter g args) w
 sQ:∀x∈l,AC Tryz.prog g (x.d::cg) σ (fun e σ'=>e= .ret (.v (.bool (p x)))∧σ'=σ)
theorem EA (l:List ay) (g:FuncId) (cg:List D) (p:ay→Bool) (σ:al) (aA:l.length<2^40) (bc:sO cg g p l σ):
  AC Tryz.prog 65 [.ai (l.map ay.d), .bX (.func g) [] cg] σ (fun e σ'=>e= .ret (.v (.int .i64 (fE p l)))∧σ'=σ):=by
 have bn:(l.map ay.d).length=l.length:=List.length_map ..;refine AC.bI Tryz.func65 Tryz.ntmps65 fun C ar=> ?_;repeat' (first|refine j.J ?_|refine j.aN ?_|refine j.ba ?_|refine j.aG ?_|refine j.exit rfl ?_|(refine j.rg [0,1] fun K I=> ?_;simp only[go_sem];apply I))
 refine j.rebase [0,1,6,7,8] ?_;simp only[go_sem];refine j.while (fun(i:Nat) env' σ'=>i≤l.length∧(∀s∈l.take i,p s=false)∧env'=[(0, .ai (l.map ay.d)),(1, .bX (.func g) [] cg),(6, .ai (l.map ay.d)),(7, .v (.int .i64 (l.length:Int))),(8, .v (.int .i64 (i:Int)))]∧σ'=σ) (fun i=>l.length-i) 0 ⟨by omega,by simp,by rw[bn];rfl,rfl⟩ ?_
 rintro i env' σ' ⟨hi,b0,rfl,rfl⟩ aB;repeat' (first|refine j.J ?_|refine j.aN ?_|refine j.ba ?_|refine j.aG ?_|refine j.exit rfl ?_|(refine j.rg [0,1,6,7,8] fun K I=> ?_;simp only[go_sem];apply I))
 refine j.cond rfl (fun h=> ?_) (fun h=> ?_)
 ·have aC:i<l.length:=by simpa using h
  have aq:=b6 ay.d l i aC;rw[ay.d]at aq;have bf:(0:Int)≤(i:Int):=by omega
  have bp:(i:Int)<((l.map ay.d).length:Int):=by omega
  refine j.aN (j.J (j.aG (j.J (j.rg [0,1,6,7,8] fun K I=> ?_))));simp only[go_sem];apply I;refine j.J (j.rg [0,1,5,6,7,8] fun K I=> ?_);simp only[go_sem,aq,bf,bp];refine⟨g,bc.call, ?_⟩;refine(bc.sQ l[i] (List.getElem_mem aC)).mono ?_;rintro e σ1 ⟨rfl,rfl⟩;simp only[go_sem];refine I _ _ (j.cond rfl (fun ag=> ?_) (fun ag=> ?_));all_goals clear I K
  ·repeat' (first|refine j.J ?_|refine j.aN ?_|refine j.ba ?_|refine j.aG ?_|refine j.exit rfl ?_|(refine j.rg [5] fun K I=> ?_;simp only[go_sem];apply I))
   refine j.ret ar Tryz.func65 (by simp[go_sem]) ?_;simp only[go_sem];rw[qT aC b0 ag]
  repeat' (first|refine j.J ?_|refine j.aN ?_|refine j.ba ?_|refine j.aG ?_|refine j.exit rfl ?_|(refine j.rg [0,1,6,7,8] fun K I=> ?_;simp only[go_sem];apply I))
  refine j.rebase [0,1,6,7,8] ?_;simp only[go_sem];rw[bH i (by omega)];refine aB (i+1) _ _ ⟨by omega,fun s af=> ?_,rfl,rfl⟩ (by omega);rw[List.take_succ_eq_append_getElem aC]at af;rcases List.mem_append.1 af with af|af
  ·exact b0 s af
  simp only[List.mem_singleton]at af;rw[af];exact ag
 have:i=l.length:=by simp at h;omega
 subst this;rw[List.take_length]at b0;repeat' (first|refine j.J ?_|refine j.aN ?_|refine j.ba ?_|refine j.aG ?_|refine j.exit rfl ?_|(refine j.rg [0] fun K I=> ?_;simp only[go_sem];apply I))
 refine j.ret ar Tryz.func65 (by simp[go_sem]) ?_;simp only[go_sem];rw[sh b0]
theorem HE (f:ay) (n:ByteArray) (b:Nat) (σ:al) (ae:av b σ=some (.arr 1 [.v (.string n)])):
  AC Tryz.prog 66 [f.d, .ptr b 1 0 0] σ (fun e σ'=>e= .ret (.v (.bool (f.name.toList==n.toList)))∧σ'=σ):=by
 refine AC.forget (R:=fun e σ'=>e= .ret (.v (.bool (f.name.toList==n.toList)))∧aQ σ σ') ?_ fun e σ' h=>⟨σ,h.2,h.1,rfl⟩;unfold ay.d;refine AC.bI Tryz.func66 Tryz.ntmps66 fun C ar=> ?_;refine j.J (j.rg [0,1] fun K I=> ?_);simp only[go_sem];intro br hR;have aZ:b≠br:=fun e=>by subst e;rw[hR]at ae;cases ae
 apply I;refine j.J (j.rg [1,2] fun K I=> ?_);simp only[go_sem,aZ,ae];apply I;refine j.ret ar Tryz.func66 (by simp[go_sem]) ?_;simp only[go_sem];exact fO (aQ.refl _) hR
theorem HG (l:List ay) (n:ByteArray):(fE (fun f:ay=>f.name.toList==n.toList) l=-1∧findF l n=none)∨∃(i:Nat) (hi:i<l.length),fE (fun f:ay=>f.name.toList==n.toList) l=i∧findF l n=some l[i].b:=by
 cases ax:l.findIdx? (fun f:ay=>f.name.toList==n.toList)with
 |none=>
  have h:=List.findIdx?_eq_none_iff.1 ax;exact .inl ⟨sh h,HH h⟩
 |some i=>
  obtain⟨aa,ah,aJ⟩:=List.findIdx?_eq_some_iff_getElem.1 ax;have bg:∀f∈l.take i,(f.name.toList==n.toList)=false:=fun f mF=>by
   obtain⟨U,aR,rfl⟩:=List.getElem_of_mem mF;have mJ:U<i:=by simp at aR;omega
   rw[List.getElem_take];have:=aJ U mJ;simpa using this
  exact .inr ⟨i,aa,qT aa bg ah,HF aa bg ah⟩
theorem Pv (l:List ay) (n:ByteArray) (σ:al) (aA:l.length<2^31) (ae:∀f∈l,f.b.length<2^40):
  AC Tryz.prog 27 [.ai (l.map ay.d), .v (.string n)] σ (fun e σ'=>e= .ret (findD (findF l n))∧σ'=σ):=by
 refine AC.still ?_ σ;refine AC.forget (R:=fun e _=>e= .ret (findD (findF l n))) ?_ fun e σ' h=>⟨[],aQ.nil _,h,rfl⟩;refine AC.l7 (R:=fun e _=>e= .ret (findD (findF l n))∨(findF l n=none∧e= .ret (.bd [.v (.slice none 0 0), .v (.bool false)]))) ?_ fun e σ' h=> ?_;rotate_left
 ·rcases h with h|⟨bj,rfl⟩
  ·exact .inl h
  refine .inr ⟨_,findD (findF l n),rfl,fun w S v h=> ?_,rfl⟩;rw[bj];cases h with
  |bd h=>
   obtain⟨a0,gH,rfl,hI,h⟩:=h.cons_inv;exact .bd (.cons (ca.pU _ _ _ hI) h)
 have bn:(l.map ay.d).length=l.length:=List.length_map ..;refine AC.bI Tryz.func27 Tryz.ntmps27 fun C ar=> ?_;refine j.J (j.rg [0,1] fun K I=> ?_);simp only[go_sem];intro b3;apply I;refine j.J (j.rg [0,3] fun K I=> ?_);simp only[go_sem];refine a1 Tryz.call65 (EA l 66 [.ptr b3 1 0 0] (fun f=>f.name.toList==n.toList) _ (by omega) ⟨Tryz.call66,fun x _=>HE x n b3 _ (bE ..)⟩) ?_;simp only[go_sem];apply I;rcases HG l n with⟨aa,ah⟩|⟨i,hi,aa,ah⟩
 ·rw[aa];repeat' (first|refine j.J ?_|refine j.aN ?_|refine j.ba ?_|refine j.aG ?_|refine j.exit rfl ?_|(refine j.rg [0,6] fun K I=> ?_;simp only[go_sem];apply I))
  refine j.bZ rfl (j.J (j.rg [] fun K I=> ?_));simp only[go_sem];apply I;refine j.ret ar Tryz.func27 (by simp[go_sem]) ?_;simp only[go_sem];exact .inr ah
 rw[aa];have js:decide ((i:Int)<0)=false:=by simp
 have aq:=b6 ay.d l i hi;rw[ay.d]at aq;have bf:(0:Int)≤(i:Int):=by omega
 have bp:(i:Int)<((l.map ay.d).length:Int):=by omega
 repeat' (first|refine j.J ?_|refine j.aN ?_|refine j.ba ?_|refine j.aG ?_|refine j.exit rfl ?_|(refine j.rg [0,6] fun K I=> ?_;simp only[go_sem,js];apply I))
 refine j.bJ rfl (j.aN (j.J (j.rg [0,6] fun K I=> ?_)));simp only[go_sem,aq,bf,bp];refine⟨_,Tryz.call67,(G' (l[i].b.map bD) _ (nG _) (by rw[List.length_map];exact ae _ (List.getElem_mem hi))).mono ?_⟩;rintro e mc ⟨rfl,rfl⟩;simp only[go_sem];apply I;refine j.ret ar Tryz.func27 (by simp[go_sem]) ?_;simp only[go_sem];rw[ah];exact .inl rfl
theorem Ma (e:aM) (x:hO) (σ:al) (bb:e.outs.length<2^31) (ae:x.outs.length<2^31):
  AC Tryz.prog 49 [e.d,x.d] σ (fun r σ'=>r= .ret (.v (.bool ((x.dep.toList==e.dep.toList)&&gU e.outs x.outs)))∧σ'=σ):=by
 refine AC.still ?_ σ;refine AC.forget (R:=fun r _=>r= .ret (.v (.bool ((x.dep.toList==e.dep.toList)&&gU e.outs x.outs)))) ?_ fun r σ' h=>⟨[],aQ.nil _,h,rfl⟩;unfold aM.d hO.d;have e_:(e.outs.map ab).length=e.outs.length:=List.length_map ..;have dD:(x.outs.map ay.d).length=x.outs.length:=List.length_map ..;refine AC.bI Tryz.func49 Tryz.ntmps49 fun C ar=> ?_;refine j.J (j.rg [0,1] fun K I=> ?_);simp only[go_sem];intro br b3 dP;have aZ:br≠b3:=fun e=>by subst e;rw[bE]at dP;cases dP
 apply I;generalize eL:[(b3,aE.arr 4 [D.agg [.ai (x.outs.map ay.d), .v (.bool x.once), .v (.string x.dep), .v (.string x.mj)]]),(br,aE.arr 6 [D.agg [.ai (e.outs.map ab), .ai (e.ins.map ab), .ai (e.impl.map ab), .ai (e.order.map ab), .v (.string e.cmd), .v (.string e.dep)]])]=τ;have g3:av b3 τ=some (.arr 4 [D.agg [.ai (x.outs.map ay.d), .v (.bool x.once), .v (.string x.dep), .v (.string x.mj)]]):=by rw[←eL,bE]
 have g2:av br τ=some (.arr 6 [D.agg [.ai (e.outs.map ab), .ai (e.ins.map ab), .ai (e.impl.map ab), .ai (e.order.map ab), .v (.string e.cmd), .v (.string e.dep)]]):=by rw[←eL,aW,if_neg aZ,bE]
 have no:((x.dep.toList==e.dep.toList)&&gU e.outs x.outs)=false→∀k env σ,eget 4 env= .v (.bool false)→j C (.code .ret::k) env σ:=fun h k env σ h_=>by
  refine j.ret ar Tryz.func49 (by simp[go_sem]) ?_;simp only[go_sem,h_];rw[h]
 refine j.J (j.join (fun env σ'=>eget 2 env= .ptr br 6 0 0∧eget 3 env= .ptr b3 4 0 0∧σ'=τ∧(x.dep.toList==e.dep.toList)=true∧x.outs.length=e.outs.length) ?_ ?_)
 ·intro fL kd;refine j.J (j.rg [2,3] fun K I=> ?_);simp only[go_sem,g2,g3];cases aw:(x.dep.toList==e.dep.toList)with
  |false=>
   simp only[go_sem,Bool.not_false];refine I _ _ (j.bZ rfl ?_);clear I K;repeat' (first|refine j.J ?_|refine j.aN ?_|refine j.ba ?_|refine j.aG ?_|refine j.exit rfl ?_|(refine j.rg [] fun K I=> ?_;simp only[go_sem];apply I))
   exact no (by rw[aw,Bool.false_and]) _ _ _ rfl
  |true=>
   simp only[go_sem,Bool.not_true];refine I _ _ (j.cond rfl (fun h=> ?_) (fun h=> ?_));all_goals clear I K
   ·have aA:¬e.outs.length=(x.outs.map ay.name).length:=fun ah=>by rw[List.length_map]at ah;rw[e_,dD,ah]at h;simp at h
    repeat' (first|refine j.J ?_|refine j.aN ?_|refine j.ba ?_|refine j.aG ?_|refine j.exit rfl ?_|(refine j.rg [] fun K I=> ?_;simp only[go_sem];apply I))
    exact no (by unfold gU oV;rw[decide_eq_false aA,Bool.false_and,Bool.and_false]) _ _ _ rfl
   exact j.aN (kd _ _ ⟨rfl,rfl,rfl,aw,by rw[e_,dD]at h;simp at h;omega⟩)
 rintro env σ' ⟨b_,er,rfl,aw,aA⟩;have ik:e.outs.length=(x.outs.map ay.name).length:=by rw[List.length_map];exact aA.symm
 refine j.J (j.J (j.rg [2,3] fun K I=> ?_));simp only[go_sem,b_,er];apply I;refine j.rebase [2,3,5] ?_;simp only[go_sem];refine j.aG ?_;refine j.while (fun(i:Nat) env' aS=>i≤e.outs.length∧(∀k,k<i→((e.outs.getD k ByteArray.empty).toList==((x.outs.map ay.name).getD k ByteArray.empty).toList)=true)∧env'=[(2, .ptr br 6 0 0),(3, .ptr b3 4 0 0),(5, .v (.int .i64 (i:Int)))]∧aS=σ') (fun i=>e.outs.length-i) 0 ⟨by omega,by simp,rfl,rfl⟩ ?_;rintro i env' aS ⟨hi,b0,rfl,rfl⟩ aB;refine j.J (j.J (j.rg [2,3,5] fun K I=> ?_));simp only[go_sem,g2];apply I;refine j.cond rfl (fun h=> ?_) (fun h=> ?_);rotate_left
 ·have:i=e.outs.length:=by simp[e_]at h;omega
  subst this;repeat' (first|refine j.J ?_|refine j.aN ?_|refine j.ba ?_|refine j.aG ?_|refine j.exit rfl ?_|(refine j.rg [] fun K I=> ?_;simp only[go_sem];apply I))
  refine j.ret ar Tryz.func49 (by simp[go_sem]) ?_;simp only[go_sem];unfold gU oV;rw[aw,decide_eq_true ik,Bool.true_and,Bool.true_and,List.all_eq_true.2 fun k aj=>b0 k (by simpa using aj)]
 have aC:i<e.outs.length:=by simpa [e_]using h
 have tI:i<x.outs.length:=by omega
 have aq:=b6 ab e.outs i aC;have cW:=b6 ay.d x.outs i tI;rw[ab]at aq;rw[ay.d]at cW;have bf:(0:Int)≤(i:Int):=by omega
 have bp:(i:Int)<((e.outs.map ab).length:Int):=by omega
 have kG:(i:Int)<((x.outs.map ay.d).length:Int):=by omega
 have w1:e.outs.getD i ByteArray.empty=e.outs[i]:=by simp[List.getD_eq_getElem?_getD,aC]
 have w2:(x.outs.map ay.name).getD i ByteArray.empty=x.outs[i].name:=by simp[List.getD_eq_getElem?_getD,tI]
 have hC:(x.outs[i].name.toList==e.outs[i].toList)=(e.outs[i].toList==x.outs[i].name.toList):=by
  rw[Bool.eq_iff_iff,beq_iff_eq,beq_iff_eq];exact eq_comm
 refine j.aN (j.J (j.aG (j.J ?_)));refine j.draw [2,3,5] [] [br,b3] [] [(0,true),(1,true),(2,true),(3,true),(4,true),(5,true),(6,true),(7,true),(8,true),(9,true),(10,true),(11,true)] (by kernel_rfl) (by decide) (by kernel_rfl) fun K I=> ?_;simp only[go_sem,g2,g3,aq,cW,bf,bp,kG,hC];refine I _ _ (j.cond rfl (fun ag=> ?_) (fun ag=> ?_));all_goals clear I K
 ·repeat' (first|refine j.J ?_|refine j.aN ?_|refine j.ba ?_|refine j.aG ?_|refine j.exit rfl ?_|(refine j.rg [] fun K I=> ?_;simp only[go_sem];apply I))
  refine no ?_ _ _ _ rfl;unfold gU oV;rw[List.all_eq_false.2 ⟨i,by simpa using aC,by rw[w1,w2];simpa using ag⟩,Bool.and_false,Bool.and_false]
 repeat' (first|refine j.J ?_|refine j.aN ?_|refine j.ba ?_|refine j.aG ?_|refine j.exit rfl ?_|(refine j.rg [2,3,5] fun K I=> ?_;simp only[go_sem];apply I))
 refine j.rebase [2,3,5] ?_;simp only[go_sem];rw[bH i (by omega)];refine aB (i+1) _ _ ⟨by omega,fun k aj=> ?_,rfl,rfl⟩ (by omega);by_cases tF:k=i
 ·subst tF;rw[w1,w2];simpa using ag
 exact b0 k (by omega)
structure bK where
 edges:List aM
 defs:List ByteArray
def bK.d (m:bK):D:= .agg [.ai (m.edges.map aM.d), .ai (m.defs.map ab)]
def inB (l:List ByteArray) (f:ByteArray):Bool:=l.any fun s=>s.toList==f.toList
def dd (m:bK) (f:ByteArray):Int:=fE (fun e:aM=>inB e.outs f) m.edges
theorem vI (m:bK) (f:ByteArray) (σ:al) (aA:m.edges.length<2^31) (aH:∀e∈m.edges,e.outs.length<2^40):
  AC Tryz.prog 47 [m.d, .v (.string f)] σ (fun e σ'=>e= .ret (.v (.int .i64 (dd m f)))∧σ'=σ):=by
 refine AC.still ?_ σ;refine AC.forget (R:=fun e _=>e= .ret (.v (.int .i64 (dd m f)))) ?_ fun e σ' h=>⟨[],aQ.nil _,h,rfl⟩;unfold bK.d;have bn:(m.edges.map aM.d).length=m.edges.length:=List.length_map ..;refine AC.bI Tryz.func47 Tryz.ntmps47 fun C ar=> ?_;refine j.J (j.rg [0,1] fun K I=> ?_);simp only[go_sem];intro br;apply I;generalize eL:[(br,aE.arr 2 [D.agg [.ai (m.edges.map aM.d), .ai (m.defs.map ab)]])]=τ;have g2:av br τ=some (.arr 2 [D.agg [.ai (m.edges.map aM.d), .ai (m.defs.map ab)]]):=by rw[←eL,bE]
 refine j.J (j.J (j.rg [1,2] fun K I=> ?_));simp only[go_sem];apply I;refine j.rebase [1,2,5] ?_;simp only[go_sem];refine j.aG ?_;refine j.while (fun(i:Nat) env' aS=>i≤m.edges.length∧(∀e∈m.edges.take i,inB e.outs f=false)∧env'=[(1, .v (.string f)),(2, .ptr br 2 0 0),(5, .v (.int .i64 (i:Int)))]∧aS=τ) (fun i=>m.edges.length-i) 0 ⟨by omega,by simp,rfl,rfl⟩ ?_;rintro i env' aS ⟨hi,b0,rfl,rfl⟩ aB;refine j.J (j.J (j.rg [1,2,5] fun K I=> ?_));simp only[go_sem,g2];apply I;refine j.cond rfl (fun h=> ?_) (fun h=> ?_)
 ·have aC:i<m.edges.length:=by simpa [bn]using h
  have aq:=b6 aM.d m.edges i aC;rw[aM.d]at aq;have bf:(0:Int)≤(i:Int):=by omega
  have bp:(i:Int)<((m.edges.map aM.d).length:Int):=by omega
  refine j.aN (j.J (j.aG (j.J (j.rg [1,2,5] fun K I=> ?_))));simp only[go_sem,g2,aq,bf,bp];refine a1 Tryz.call57 (pO m.edges[i].outs f _ (aH _ (List.getElem_mem aC))) ?_;simp only[go_sem];refine I _ _ (j.cond rfl (fun ag=> ?_) (fun ag=> ?_));all_goals clear I K
  ·repeat' (first|refine j.J ?_|refine j.aN ?_|refine j.ba ?_|refine j.aG ?_|refine j.exit rfl ?_|(refine j.rg [5] fun K I=> ?_;simp only[go_sem];apply I))
   refine j.ret ar Tryz.func47 (by simp[go_sem]) ?_;simp only[go_sem];unfold dd;rw[qT aC b0 ag]
  repeat' (first|refine j.J ?_|refine j.aN ?_|refine j.ba ?_|refine j.aG ?_|refine j.exit rfl ?_|(refine j.rg [1,2,5] fun K I=> ?_;simp only[go_sem];apply I))
  refine j.rebase [1,2,5] ?_;simp only[go_sem];rw[bH i (by omega)];refine aB (i+1) _ _ ⟨by omega,fun s af=> ?_,rfl,rfl⟩ (by omega);rw[List.take_succ_eq_append_getElem aC]at af;rcases List.mem_append.1 af with af|af
  ·exact b0 s af
  simp only[List.mem_singleton]at af;rw[af];exact ag
 have:i=m.edges.length:=by simp[bn]at h;omega
 subst this;rw[List.take_length]at b0;repeat' (first|refine j.J ?_|refine j.aN ?_|refine j.ba ?_|refine j.aG ?_|refine j.exit rfl ?_|(refine j.rg [] fun K I=> ?_;simp only[go_sem];apply I))
 refine j.ret ar Tryz.func47 (by simp[go_sem]) ?_;simp only[go_sem];unfold dd;rw[sh b0]
end Go.Ab.S16
namespace Go.Ab
open Go Go.RowKit
variable {P : Program} {f : FuncId} {args ky : List D} {σ : al}
def hN (σ:al) (args ky:List D):Prop:=∀(w:World) (S:Nat→Prop) (vs:List Value),lz w S→da w S σ→bq w S args vs→∃S',lz w S'∧bq w S' ky vs
theorem hN.refl (σ:al) (args:List D):hN σ args args:=fun _ S _ h _ ak=>⟨S,h,ak⟩
theorem hN.b' {b sz:Nat} {xs:List D} (ae:av b σ=some (.arr sz xs)) (h:hN (di b sz xs σ) (hb b sz xs args) ky):hN σ args ky:=by
 intro w S vs bh aL ak;obtain⟨bx,c6,bl⟩:=vY aL bh.lt ae;exact h w _ vs ⟨bl.lt,bh.g.ev bx⟩ c6 (q7 bx (.inr rfl) (aL b _ ae).2 ak)
theorem hN.le (aA:∀w S vs,bq w S args vs→bq w S ky vs):hN σ args ky:=fun w S vs bh _ ak=>⟨S,bh,aA w S vs ak⟩
theorem hN.yo {ob:Option Nat} {sz n:Nat} {xs rest:List D} (an:bL sz ob σ=some xs) (au:n≤xs.length) (ao:∀b s ys,hb b s ys rest=rest):hN σ (.own ob sz n::rest) (.ai (xs.take n)::rest):=by
 cases ob with
 |none=>
  simp only[bL,Option.some.injEq]at an;subst an;refine .le fun w S vs h=> ?_;obtain⟨v,l',rfl,oO,ak⟩:=h.cons_inv;cases oO with
  |hV=>simp only[List.take_nil];exact .cons .iX ak
 |some b=>
  simp only[bL]at an;split at an
  ·rename_i s ys aq
   split at an
   ·rename_i af
    cases an;subst af
    refine .b' aq ?_;have:hb b s xs (.own (some b) s n::rest)= .ai (xs.take n)::rest:=by
     simp only[hb,D.b',ao];rw[if_pos ⟨trivial,trivial,au⟩]
    rw[this];exact .refl _ _
   cases an
  cases an
mutual
theorem FZ:∀{d:D} {v:Value},cJ d=some v→∀{w w':World} {S S':Nat→Prop} {x:Value},bw w S d x→bw w' S' d x
 | .v y,v,h,w,w',S,S',x,ao=>by cases ao with|v aH=>exact .v aH
 | .agg cs,v,h,w,w',S,S',x,ao=>by
  cases ao with
  |agg ao=>
   simp only[cJ,Option.map_eq_some_iff]at h;obtain⟨l,aA,_⟩:=h;exact .agg (F0 aA ao)
 | .bd cs,v,h,w,w',S,S',x,ao=>by
  cases ao with
  |bd ao=>
   simp only[cJ,Option.map_eq_some_iff]at h;obtain⟨l,aA,_⟩:=h;exact .bd (F0 aA ao)
 | .dX t y,v,h,w,w',S,S',x,ao=>by
  cases ao with
  |dX ao=>
   simp only[cJ,Option.map_eq_some_iff]at h;obtain⟨l,aA,_⟩:=h;exact .dX (FZ aA ao)
 | .any,_,h,_,_,_,_,_,_| .ptr _ _ _ _,_,h,_,_,_,_,_,_| .c0 _,_,h,_,_,_,_,_,_| .ai _,_,h,_,_,_,_,_,_| .own _ _ _,_,h,_,_,_,_,_,_| .win _ _ _ _,_,h,_,_,_,_,_,_| .map _,_,h,_,_,_,_,_,_| .bX _ _ _,_,h,_,_,_,_,_,_=>by simp[cJ]at h
theorem F0:∀{ds:List D} {vs:List Value},rh ds=some vs→∀{w w':World} {S S':Nat→Prop} {xs:List Value},bq w S ds xs→bq w' S' ds xs
 |[],_,_,_,_,_,_,_,ao=>by rw[ao.gv];exact .nil
 |d::ds,vs,h,w,w',S,S',xs,ao=>by
  obtain⟨y,ys,rfl,aa,ah⟩:=ao.cons_inv;simp only[rh,Option.bind_eq_some_iff,Option.map_eq_some_iff]at h;obtain⟨a,bb,b,ae,_⟩:=h;exact .cons (FZ bb aa) (F0 ae ah)
end
theorem AC.Us {R0:cf→Prop} (ak:hN σ args ky) (aw:∀e,R0 e→∃d,e= .ret d∧(cJ d).isSome=true) (h:AC P f ky [] (fun e σ'=>R0 e∧σ'=[])):AC P f args σ (fun e σ'=>R0 e∧σ'=σ):=by
 intro w S vs bh aL ao;obtain⟨sN,QD,kh⟩:=ak w S vs bh aL ao;refine(h w sN vs QD (fun b o ae=>by simp at ae) kh).mono ?_;rintro e w' ⟨cX,σ',S',⟨bR,rfl⟩,c1,c6,bl⟩;obtain⟨d,rfl,aw⟩:=aw _ bR;obtain⟨v,ak⟩:=Option.isSome_iff_exists.1 aw;have bx:eI w S w' S:=⟨fun _ h=>h,fun b ae=>bl.block b (bh.lt b ae) (fun h=>h rfl),bl.shape⟩;refine⟨.ret d,σ,S,⟨bR,rfl⟩, ?_,fun b o ae=>⟨(aL b o ae).1,(aL b o ae).2.ev bx (bl.block b (aL b o ae).2.lt (fun h=>h rfl))⟩,⟨bl.os,bl.tape,bl.output,bl.size,bl.shape,fun b ae _=>bl.block b ae (fun h=>h rfl),fun _ h=>h,fun _ h=> .inl h,fun _ h=> .inl h,fun b ae=>Nat.lt_of_lt_of_le (bh.lt b ae) bl.size⟩⟩;cases e with
 |returned x=>exact FZ ak c1
 |panicked c=>exact c1.elim
 |outgrown=>exact c1.elim
theorem AC.ud {d:D} (ak:hN σ args ky) (aw:(cJ d).isSome=true) (h:AC P f ky [] (fun e σ'=>e= .ret d∧σ'=[])):AC P f args σ (fun e σ'=>e= .ret d∧σ'=σ):=
 AC.Us (R0:=fun e=>e= .ret d) ak (fun e he=>⟨d,he,aw⟩) h
theorem bq.eh {w:World} {S:Nat→Prop}:∀{xs ys:List Value},bq w S (xs.map D.v) ys→ys=xs
 |[],_,h=>h.gv
 |x::xs,_,h=>by
  obtain⟨y,ys,rfl,aa,ah⟩:=h.cons_inv;rw[aa.eh,bq.eh ah]
theorem w8 {w w':World} {S:Nat→Prop} {σ:al} (bh:∀b,S b→b<w.heap.size) (h:Below w.heap.size w w'):Fr w S (cq σ) w' S σ where
 os:=h.os
 tape:=h.tape
 output:=h.output
 size:=h.size
 shape:=fun b c e fr ae=>⟨c,fr,(h.block _ (Array.getElem?_eq_some_iff.1 ae).1).trans ae,rfl⟩
 block:=fun b ae _=>h.block b ae
 mono:=fun _ h=>h
 new:=fun _ h=> .inl h
 fh:=fun _ h=> .inl h
 lt:=fun b ae=>Nat.lt_of_lt_of_le (bh b ae) h.size
theorem Bp {w w':World} {S:Nat→Prop} {σ:al} (bh:∀b,S b→b<w.heap.size) (aL:da w S σ) (h:Below w.heap.size w w'):da w' S σ:=fun b o ae=>
 ⟨(aL b o ae).1,(aL b o ae).2.ev ⟨fun _ h=>h,fun k aj=>h.block k (bh k aj),(w8 (σ:=σ) bh h).shape⟩ (h.block b (aL b o ae).2.lt)⟩
theorem AC.AJ {vs:List Value} {R0:Value→Prop} (h:∀w:World,p_ w (fun b=>b<w.heap.size)→Calls P f vs.toArray w fun e w'=>(∃v,e= .returned v∧R0 v∧okV v=true)∧Below w.heap.size w w'):
  AC P f (vs.map .v) σ (fun e σ'=>(∃v,e= .ret (cx v)∧R0 v)∧σ'=σ):=by
 intro w S ys bh aL ao;rw[bq.eh ao];refine(h w fun g vs aq=>⟨bh.lt g (bh.g g vs aq).1,(bh.g g vs aq).2⟩).mono ?_;rintro e w' ⟨⟨v,rfl,bR,aH⟩,ae⟩;exact⟨.ret (cx v),σ,S,⟨⟨v,rfl,bR⟩,rfl⟩,nN aH,Bp bh.lt aL ae,w8 bh.lt ae⟩
theorem AC.vR {vs:List Value} {r:Value} (aH:okV r=true) (h:∀w:World,Calls P f vs.toArray w fun e w'=>e= .returned r∧w'=w):
  AC P f (vs.map .v) σ (fun e σ'=>e= .ret (cx r)∧σ'=σ):=by
 refine(AC.AJ (R0:=fun v=>v=r) fun w _=>(h w).mono ?_).mono ?_
 ·rintro e w' ⟨rfl,rfl⟩;exact⟨⟨r,rfl,rfl,aH⟩,Below.refl _ _⟩
 rintro e σ' ⟨⟨v,rfl,rfl⟩,rfl⟩;exact⟨rfl,rfl⟩
theorem AC.U0 {vs:List Value} {r:Value} (aH:okV r=true) (h:∀w:World,Calls P f vs.toArray w fun e w'=>e= .returned r∧Below w.heap.size w w'):
  AC P f (vs.map .v) σ (fun e σ'=>e= .ret (cx r)∧σ'=σ):=by
 refine(AC.AJ (R0:=fun v=>v=r) fun w _=>(h w).mono ?_).mono ?_
 ·rintro e w' ⟨rfl,ae⟩;exact⟨⟨r,rfl,rfl,aH⟩,ae⟩
 rintro e σ' ⟨⟨v,rfl,rfl⟩,rfl⟩;exact⟨rfl,rfl⟩
end Go.Ab
namespace Go.Ab
open Go
variable {P : Program} {f : FuncId} {args : List D}
theorem AC.q5 {sz:Nat} {xs:List D} (h:AC P f args [] (fun e σ'=>∃o,aV o sz xs []∧e= .ret (.own o sz xs.length)∧σ'=cellsOf o sz xs++[])) (σ:al):AC P f args σ (fun e σ'=>e= .ret (.ai xs)∧σ'=σ):=by
 have ah:AC P f args [] (fun e σ'=>(e= .ret (.ai xs)∧σ'=[])∨∃b,e= .ret (.own (some b) sz xs.length)∧σ'=[(b, .arr sz xs)]):=by
  refine h.l7 fun e σ' ⟨o,aq,he,af⟩=> ?_;cases o with
  |some b=>exact .inl (.inr ⟨b,he,af⟩)
  |none=>
   have:xs=[]:=aq.zero rfl;subst this;exact .inr ⟨_,_,he,ca.l5 _ _, .inl ⟨rfl,af⟩⟩
 refine ah.AU (R':=fun e=>e= .ret (.ai xs)) (fun e σ' bR=> ?_) σ;rcases bR with aJ|⟨b,rfl,rfl⟩
 ·exact .inl aJ
 refine .inr ⟨_,b,sz,_,rfl,rfl, ?_⟩;simp only[D.b',true_and];rw[if_pos (Nat.le_refl _),List.take_length]
end Go.Ab
namespace Go.Ab.S21
open Go
theorem HW {w:World} {S:Nat→Prop} {σ:al} (bh:∀b,S b→b<w.heap.size) (ob:Obj) (x:aE):Fr w S (cq σ) (w.drew.alloc ob) S ((w.heap.size,x)::σ) where
 os:=rfl
 tape:=rfl
 output:=rfl
 size:=by simp
 shape:=fun b c e fr h=>by
  obtain⟨cI,mq,jh,af⟩:=FR w.drew ob b c e fr h;exact⟨cI,mq,jh,af⟩
 block:=fun b ae _=>uY w.drew ob b (by show b≠w.heap.size;omega)
 mono:=fun _ h=>h
 new:=fun _ h=> .inl h
 fh:=fun b ae=>by
  unfold cq at*;rw[aW]at ae;by_cases kE:b=w.heap.size
  ·exact .inr (by omega)
  rw[if_neg kE]at ae;exact .inl ae
 lt:=fun b ae=>by have:=bh b ae;simp;omega
end Go.Ab.S21
namespace Go.Ab
open Go Go.Conc
theorem Cq {w:World} {S:Nat→Prop} {σ:al} {b:Nat} {x y:aE} {ob:Obj} (aA:∀b,S b→b<w.heap.size) (af:av b σ=some x) (au:∀c e fr,w.heap[b]?≠some (.cells c e fr)) (aC:b<w.heap.size):
  Fr w S (cq σ) {w with heap:=w.heap.setIfInBounds b ob} S (sset b y σ)∧(∀k,k≠b→({w with heap:=w.heap.setIfInBounds b ob}:World).heap[k]?=w.heap[k]?)∧({w with heap:=w.heap.setIfInBounds b ob}:World).heap[b]?=some ob:=by
 have aH:∀k,k≠b→({w with heap:=w.heap.setIfInBounds b ob}:World).heap[k]?=w.heap[k]?:=fun k aj=>by
  show(w.heap.setIfInBounds b ob)[k]?=_
  rw[Array.getElem?_setIfInBounds_ne (by omega)]
 refine⟨w9 (y:=y) aA af rfl rfl rfl (by simp) aH (fun k c e fr aj=> ?_),aH,by simp[aC]⟩;by_cases eU:k=b
 ·subst eU;exact absurd aj (au c e fr)
 exact⟨c,fr,(aH k eU).trans aj,rfl⟩
section
variable {P : Program} {N : cP} {C : Ctx P N} {k : List Item} {env : Env} {σ : al} {ops : Array Oper} {i : Nat} {rest : List Nat} {o : Oper}
theorem j.v' {id:Nat} (keep:List Nat) (h:j C (.inRegion ops (List.range ops.size)::k) (Ab.rebase keep env) σ):j C (.code (.region id ops false)::k) env σ:=
 .step (fun _ _=>stepR_region) (h.rebase keep)
theorem j.uv (h:j C k env σ):j C (.inRegion ops []::k) env σ:= .step (fun _ _=>stepR_region_end) h
theorem j.op (aH:ops[i]?=some o) (aq:o.guard=none) (cM:∀c,o.op≠ .defer c) (aX:dstB N o.dst) (h:cQ P (cK C) (fun env' σ'=>j C (.inRegion ops rest::k) env' σ') o.dst env σ (aop P env σ o.op)):
  j C (.inRegion ops (i::rest)::k) env σ:=by
 intro a w S aw af;refine AK aH (by simp[Region.wanted,aq]) cM ?_;exact km (K:=j C k) af aw (kZ aX) (fun na w' ⟨mD,env',σ',S',au,eo⟩=>au na w' S' mD eo) h
theorem m'.kind {f:FuncId} {R:cf→al→Prop} (ar:m' C f R):C.b.kind≠ .early:=by
 obtain⟨bO,bQ,cj,bh,aL,cs,rfl⟩:=ar.ex;intro h;cases h
theorem m'.round {f:FuncId} {R:cf→al→Prop} (ar:m' C f R):C.b.roundOf=none:=by
 obtain⟨bO,bQ,cj,bh,aL,cs,rfl⟩:=ar.ex;rfl
theorem y7 {w:World} {S:Nat→Prop} {a:Act} {x:Operand} {v:Value} (af:ck C env σ w S a.tmps) (h:ev env x= .v v):a.eval x=v:=by
 have:=df af x;rw[h]at this;exact this.eh
theorem B3 {w:World} {S:Nat→Prop} {c cap:Nat} {buf:List Value} (aL:da w S σ) (h:av c σ=some (.e7 cap buf)):¬S c∧c<w.heap.size∧∃s r,w.heap[c]?=some (.chan cap buf.toArray false s r false)∧∀x∈buf,x.oneCell'=true:=by
 obtain⟨aa,ah⟩:=aL c _ h;exact⟨aa,ah.lt,ah⟩
theorem j.U9 (aj:C.b.kind≠ .early) (ao:C.b.roundOf=none) (aH:ops[i]?=some o) (aq:o.guard=none) {e7 x:Operand} (cp:o.op= .send e7 x) (xE:o.dst=none) {c cap:Nat} {buf:List Value} {v:Value}
  (ag:ev env e7= .v (.chan (some c))) (an:ev env x= .v v) (eL:av c σ=some (.e7 cap buf)) (qH:buf.length<cap)
  (h:j C (.inRegion ops rest::k) env (sset c (.e7 cap (buf++[v])) σ)):j C (.inRegion ops (i::rest)::k) env σ:=by
 intro a w S aw af;rw[Frame.atR_of_none ao];have hw:Region.wanted o (yielded ops a.tmps)=true:=by simp[Region.wanted,aq]
 obtain⟨zM,aC,s,jR,a8,gm⟩:=B3 af.store eL;have oO:v.oneCell'=true:=by
  have:=df af x;rw[an]at this;cases this with|v h=>exact h
 have bS:(execOp a.eval o).run P w= .ok (.comm #[scase c v (.tuple #[])] true .send) w:=by
  simp only[execOp,cp,y7 af ag,y7 af an];rfl
 have aL:=step_lone_send_room (fr:=C.b.at a (.inRegion ops (i::rest)::k)) (cs:=C.cs) (stepG_comm aH hw aj bS) a8 (by simpa using qH);have cT:(C.b.at a (.inRegion ops (i::rest)::k)).finish undef=C.b.at a (.inRegion ops rest::k):=by
  rw[Frame.finish_at,aH];simp[xE,Act.put]
 rw[cT]at aL;refine C.e5 _ _ (.one aL) ?_;rw[←Frame.atR_of_none ao];obtain⟨bl,hF,oL⟩:=Cq (σ:=σ) (x:= .e7 cap buf) (y:= .e7 cap (buf++[v])) (ob:= .chan cap (buf.toArray.push v) false (s+1) jR false) af.fr.lt eL (fun cI cV mq au=>by rw[a8]at au;cases au) aC
 have bx:=nT af bl;refine h a _ S aw ⟨af.env.ev bx,rf af.store bx hF zM ⟨s+1,jR,oL.trans (by simp),fun y aF=> ?_⟩,af.fr.trans bl,af.size⟩;rcases List.mem_append.1 aF with aF|aF
 ·exact gm y aF
 simp only[List.mem_singleton]at aF;subst aF;exact oO
theorem j.U8 (aj:C.b.kind≠ .early) (ao:C.b.roundOf=none) (aH:ops[i]?=some o) (aq:o.guard=none) {e7:Operand} {T:TypeId} {z:Value} (aO:eB P T=some z) (cp:o.op= .select #[{chan:=e7,send:=none,elem:=T}] false) (aX:dstB N o.dst) {c cap:Nat} {buf:List Value} {v:Value}
  (ag:ev env e7= .v (.chan (some c))) (eL:av c σ=some (.e7 cap (v::buf)))
  (h:j C (.inRegion ops rest::k) (eputo o.dst (.bd [.v (.int .i64 0), .v (.bool true), .v v]) env) (sset c (.e7 cap buf) σ)):j C (.inRegion ops (i::rest)::k) env σ:=by
 intro a w S aw af;rw[Frame.atR_of_none ao];have hw:Region.wanted o (yielded ops a.tmps)=true:=by simp[Region.wanted,aq]
 obtain⟨zM,aC,s,jR,a8,gm⟩:=B3 af.store eL;have bS:(execOp a.eval o).run P w= .ok (.comm #[rcase c z] false .select) w:=by
  simp[execOp,cp,y7 af ag,p0 aO,rcase]
 have aL:=step_lone_select_recv_buf (fr:=C.b.at a (.inRegion ops (i::rest)::k)) (cs:=C.cs) (stepG_comm aH hw aj bS) a8 (by simp);have cT:∀v,(C.b.at a (.inRegion ops (i::rest)::k)).finish v=C.b.at (a.put o.dst v) (.inRegion ops rest::k):=by
  intro v;rw[Frame.finish_at,aH];rfl
 rw[cT]at aL;refine C.e5 _ _ (.one aL) ?_;rw[←Frame.atR_of_none ao];obtain⟨bl,hF,oL⟩:=Cq (σ:=σ) (x:= .e7 cap (v::buf)) (y:= .e7 cap buf) (ob:= .chan cap ((v::buf).toArray.extract 1 (v::buf).toArray.size) false s (jR+1) false) af.fr.lt eL (fun cI cV mq au=>by rw[a8]at au;cases au) aC
 have bx:=nT af bl;have qL:=rf af.store bx hF zM (y:= .e7 cap buf) ⟨s,jR+1,oL.trans (by simp),fun y aF=>gm y (by simp[aF])⟩;have fp:=l_ af (kZ aX) (d:= .bd [.v (.int .i64 0), .v (.bool true), .v v]) (v:= .tuple #[goInt 0, .bool true,v]) (.bd (.cons (.v rfl) (.cons (.v rfl) (.cons (.v (gm v (by simp))) .nil)))) qL bl;exact h (a.put o.dst (.tuple #[goInt 0, .bool true,v])) _ S (by rw[put_defers];exact aw) fp
theorem j.U7 (aj:C.b.kind≠ .early) (ao:C.b.roundOf=none) (aH:ops[i]?=some o) (aq:o.guard=none) {e7:Operand} {T:TypeId} {z:Value} (aO:eB P T=some z) (t_:z.oneCell'=true) (cp:o.op= .select #[{chan:=e7,send:=none,elem:=T}] false) (aX:dstB N o.dst) {c cap:Nat}
  (ag:ev env e7= .v (.chan (some c))) (eL:av c σ=some (.e7 cap []))
  (h:j C (.inRegion ops rest::k) (eputo o.dst (.bd [.v (.int .i64 (-1)), .v (.bool false), .v z]) env) σ):j C (.inRegion ops (i::rest)::k) env σ:=by
 intro a w S aw af;rw[Frame.atR_of_none ao];have hw:Region.wanted o (yielded ops a.tmps)=true:=by simp[Region.wanted,aq]
 obtain⟨zM,aC,s,jR,a8,gm⟩:=B3 af.store eL;have bS:(execOp a.eval o).run P w= .ok (.comm #[rcase c z] false .select) w:=by
  simp[execOp,cp,y7 af ag,p0 aO,rcase]
 have aL:=step_lone_select_default (fr:=C.b.at a (.inRegion ops (i::rest)::k)) (cs:=C.cs) (stepG_comm aH hw aj bS) a8;have cT:∀v,(C.b.at a (.inRegion ops (i::rest)::k)).finish v=C.b.at (a.put o.dst v) (.inRegion ops rest::k):=by
  intro v;rw[Frame.finish_at,aH];rfl
 rw[cT]at aL;refine C.e5 _ _ (.one aL) ?_;rw[←Frame.atR_of_none ao];have fp:=l_ af (kZ aX) (d:= .bd [.v (.int .i64 (-1)), .v (.bool false), .v z]) (v:= .tuple #[goInt (-1), .bool false,z]) (.bd (.cons (.v rfl) (.cons (.v rfl) (.cons (.v t_) .nil)))) af.store (Fr.refl σ af.fr.lt);exact h (a.put o.dst (.tuple #[goInt (-1), .bool false,z])) _ S (by rw[put_defers];exact aw) fp
end
end Go.Ab
