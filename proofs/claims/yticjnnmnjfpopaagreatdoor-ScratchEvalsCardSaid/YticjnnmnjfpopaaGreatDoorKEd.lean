/- A part of a proof about the given program: the abstract machine, what functions compute, laid in few texts. -/
import Derived.Test.YticjnnmnjfpopaaGreatDoorKEc
import Derived.RangeFuncLeaves
import Derived.WalkKit
import Derived.Shelf.Strings.Builder1
import Derived.Shelf.Strings.Builder2
import Derived.Shelf.Strings.OnBuilder
import Derived.Shelf.Small.Utf8
import Derived.Shelf.Small.Bits
import Derived.Shelf.Small.Strs
import Derived.Shelf.Small.Wraps
import Derived.Shelf.Strings.BuilderF
import Derived.Shelf.Strconv.Itoa0
import Derived.Shelf.Strings.Search1
import Derived.Shelf.Strings.Search2
import Derived.Shelf.Strings.Search3
import Derived.Shelf.LaysM
import Derived.Shelf.Strings.Shaped
import Derived.Shelf.Sort.Plain
import Derived.Shelf.GgClosure.StringsIndexFunc
import Derived.Ground.GgwProg
import Derived.Shelf.GgClosure.StringsIndexFuncTop
import Derived.Shelf.Strings.Prefix
import Derived.Shelf.Strings.Runes
import Derived.Shelf.Bits.Mul64
import Derived.Shelf.Strings.Repeat
import Derived.Shelf.Unicode.DecodeSlow
import Derived.Shelf.Strings.FieldsFuncAny
import Derived.Ground.SlgnProg
import Derived.Shelf.SlicesG.CompactS
import Derived.Ground.SlgmProg
import Derived.Shelf.SortM.SortNone
import Derived.Test.YticjnnmnjfpopaaGreatDoorProg
import Derived.Laws.AppendOwn
set_option linter.unusedSimpArgs false
set_option linter.unusedVariables false
set_option linter.constructorNameAsVariable false
namespace Go.Ab
open Go
variable {P : Program}
def q4:List Nat→List D→Env→Env
 |k::AE,d::ds,env=>q4 AE ds (eput k d env)
 |_,_,env=>env
theorem Lv {w:World} {S:Nat→Prop}:∀(ps:List Nat) (ds:List D) (vs:List Value) (env:Env) (tmps:Array Value),bq w S ds vs→hM w S env tmps→(∀p∈ps,p<tmps.size)→
  hM w S (q4 ps ds env) ((ps.zip vs).foldl (fun t (p:Nat×Value)=>t.setIfInBounds p.1 p.2) tmps)∧((ps.zip vs).foldl (fun t (p:Nat×Value)=>t.setIfInBounds p.1 p.2) tmps).size=tmps.size
 |[],ds,vs,env,tmps,_,h,_=>by simp[q4];exact h
 |p::ps,[],vs,env,tmps,ao,h,_=>by rw[ao.gv];simp[q4];exact h
 |p::ps,d::ds,vs,env,tmps,ao,h,aP=>by
  obtain⟨x,xs,rfl,aa,ah⟩:=ao.cons_inv;have:=Lv ps ds xs (eput p d env) (tmps.setIfInBounds p x) ah (h.put aa (aP p (by simp))) (fun q bW=>by simpa using aP q (by simp[bW]));simpa [q4]using this
def yR (P:Program) (l:Nat) (vs:List Value) (w:World) (R:Ending→World→Prop):Prop:=
 ∃cy:Loop,w.heap[l]?=some (.loop cy)∧vs.length=cy.params.size∧∀(c:Frame) (cs:List Frame),∃e w',R e w'∧
  match e with
  | .returned v=>Steps P (lone (Frame.round l cy.fn ((cy.params.zip vs.toArray).foldl (fun tmps (t,a)=>tmps.setIfInBounds t a) cy.tmps) cy.assign cy.body .normal) (c::cs) w) (lone (c.finish v) cs w')
  | .panicked chain=>Steps P (lone (Frame.round l cy.fn ((cy.params.zip vs.toArray).foldl (fun tmps (t,a)=>tmps.setIfInBounds t a) cy.tmps) cy.assign cy.body .normal) (c::cs) w) (lone (c.raise chain) cs w')
  | .outgrown=>False
def h4 (P:Program) (l:Nat) (args:List D) (σ:al) (R:cf→al→Prop):Prop:=
 ∀(w:World) (S:Nat→Prop) (vs:List Value),lz w S→da w S σ→bq w S args vs→
  yR P l vs w fun e w'=>∃cX σ' S',R cX σ'∧rp w' S' cX e∧da w' S' σ'∧Fr w S (cq σ) w' S' σ'
theorem h4.mono {l:Nat} {args:List D} {σ:al} {R R':cf→al→Prop} (h:h4 P l args σ R) (ao:∀e σ',R e σ'→R' e σ'):h4 P l args σ R':=fun w S vs aa ah aJ=>by
 obtain⟨cy,aA,au,ch⟩:=h w S vs aa ah aJ;refine⟨cy,aA,au,fun c cs=> ?_⟩;obtain⟨e,w',⟨cX,σ',S',bR,r⟩,af⟩:=ch c cs;exact⟨e,w',⟨cX,σ',S',ao _ _ bR,r⟩,af⟩
def Nu (P:Program) (l:Nat) (bO:World) (bQ:Nat→Prop) (cj:al) (R:cf→al→Prop) (c:Frame) (cs:List Frame) (m:Machine):Prop:=
 ∃e w',(∃cX σ' S',R cX σ'∧rp w' S' cX e∧da w' S' σ'∧Fr bO bQ (cq cj) w' S' σ')∧
  match e with
  | .returned v=>Steps P m (lone (c.finish v) cs w')
  | .panicked chain=>Steps P m (lone (c.raise chain) cs w')
  | .outgrown=>False
def Ctx.round (P:Program) (n:Nat) (f:FuncId) (l:Nat) (bO:World) (bQ:Nat→Prop) (cj:al) (bh:lz bO bQ) (aL:da bO bQ cj) (R:cf→al→Prop) (c:Frame) (cs:List Frame):Ctx P ⟨n,[]⟩ where
 b:={(default:Frame)with fn:=f,kind:= .normal,roundOf:=some l}
 cs:=c::cs
 ds:=[]
 bO:=bO
 bQ:=bQ
 F:=cq cj
 Z:=Nu P l bO bQ cj R c cs
 e5:=fun m ue af ⟨e,w',aa,ah⟩=>⟨e,w',aa,by
  cases e with
  |returned v=>exact af.trans ah
  |panicked chain=>exact af.trans ah
  |outgrown=>exact ah⟩
 bh:=fun b ae=>⟨bh.lt b ae,fun aw=>by
  cases af:av b cj with
  |none=>exact aw af
  |some o=>exact(aL b o af).1 ae⟩
 lI:=bh.g
structure pb {n:Nat} (C:Ctx P ⟨n,[]⟩) (l:Nat) (R:cf→al→Prop):Prop where
 ex:∃f bO bQ cj bh aL c cs,(∃fn,P.funcs[f]?=some fn)∧C=Ctx.round P n f l bO bQ cj bh aL R c cs
theorem Nq (ps:Array Nat) (vs:List Value) (tmps:Array Value):(ps.zip vs.toArray).foldl (fun tmps (t,a)=>tmps.setIfInBounds t a) tmps=(ps.toList.zip vs).foldl (fun t (p:Nat×Value)=>t.setIfInBounds p.1 p.2) tmps:=by
 rw[←Array.foldl_toList];simp
theorem h4.vQ {l:Nat} {args:List D} {σ:al} {R:cf→al→Prop} {st:LoopState} {eH:Option Code} {f:FuncId} {fn:Func} {n:Nat} {env:Env} {ps:Array Tmp} {ef ct:Code} {fS:Nat} (ax:P.funcs[f]?=some fn)
  (aA:av l σ=some (.cy st eH f n env ps ef ct fS)) (dv:∀p∈ps.toList,p<n) (au:args.length=ps.size)
  (h:∀C:Ctx P ⟨n,[]⟩,pb C l R→j C [.code ef, .beginRound, .code ct] (q4 ps.toList args env) σ):h4 P l args σ R:=by
 intro w S vs bh aL ao;obtain⟨tmps,a8,bU,tO⟩:=(aL l _ aA).2;refine⟨_,a8,by rw[ao.length,au],fun c cs=> ?_⟩;have aq:=h (Ctx.round P n f l w S σ bh aL R c cs) ⟨f,w,S,σ,bh,aL,c,cs,⟨fn,ax⟩,rfl⟩;obtain⟨xW,lT⟩:=Lv ps.toList args vs env tmps ao tO (fun p aP=>by rw[bU];exact dv p aP);have aO:=aq {tmps:=(ps.zip vs.toArray).foldl (fun tmps (t,a)=>tmps.setIfInBounds t a) tmps,defers:=[]} w S rfl ⟨by rw[Nq];exact xW,aL,Fr.refl σ bh.lt,by rw[Nq];exact⟨lT.trans bU,fun p aP=>by simp at aP⟩⟩;obtain⟨e,w',aa,ah⟩:=aO;exact⟨e,w',aa,ah⟩
section round
variable {n : Nat} {C : Ctx P ⟨n, []⟩} {k : List Item} {env : Env} {σ : al} {l : Nat} {R : cf → al → Prop} {st : LoopState} {eH : Option Code} {f : FuncId} {m : Nat} {iy : Env} {ps : Array Tmp} {ef ct : Code} {fS : Nat}
theorem ER {w:World} {S:Nat→Prop} (aL:da w S σ) (aC:∀b,S b→b<w.heap.size) (aA:av l σ=some (.cy st eH f m iy ps ef ct fS)) (fH:LoopState) (vW:Option Code):
  ∃cy ob,w.heap[l]?=some (.loop cy)∧cy.state=st∧cy.pending=eH∧ob=Obj.loop {cy with state:=fH,pending:=vW}∧da {w with heap:=w.heap.setIfInBounds l ob} S (sset l (.cy fH vW f m iy ps ef ct fS) σ)∧
   Fr w S (cq σ) {w with heap:=w.heap.setIfInBounds l ob} S (sset l (.cy fH vW f m iy ps ef ct fS) σ)∧eI w S {w with heap:=w.heap.setIfInBounds l ob} S:=by
 obtain⟨qm,tmps,a8,bU,tO⟩:=aL l _ aA;refine⟨_,_,a8,rfl,rfl,rfl, ?_⟩;obtain⟨bl,hF,oL⟩:=Cq (σ:=σ) (y:= .cy fH vW f m iy ps ef ct fS) (ob:= .loop {state:=fH,pending:=vW,fn:=f,tmps:=tmps,params:=ps,assign:=ef,body:=ct,defers:=fS}) aC aA (fun c e fr ag=>by rw[a8]at ag;cases ag) (aL l _ aA).2.lt
 have bx:eI w S {w with heap:=w.heap.setIfInBounds l (.loop {state:=fH,pending:=vW,fn:=f,tmps:=tmps,params:=ps,assign:=ef,body:=ct,defers:=fS})} S:=bl.ev fun b ae=>⟨aC b ae,fun aw=>by
  cases af:av b σ with
  |none=>exact aw af
  |some o=>exact(aL b o af).1 ae⟩
 exact⟨rf aL bx hF qm ⟨tmps,oL,bU,fun k=>(tO k).ev bx⟩,bl,bx⟩
theorem zu {w:World} {cy:Loop} (h:w.heap[l]?=some (.loop cy)):(Instr.getLoop l).run P w= .ok cy w:=by
 simp[Instr.getLoop,getObj,Sem.run,Sem.run_bind,h,Result.andThen]
theorem FN {w:World} {cy:Loop} {ob:Obj} (h:w.heap[l]?=some (.loop cy)):(setObj l ob).run P w= .ok () {w with heap:=w.heap.setIfInBounds l ob}:=by
 simp[setObj,Sem.run,h]
theorem j.beginRound (ar:pb C l R) (aA:av l σ=some (.cy .ready eH f m iy ps ef ct fS)) (h:j C k env (sset l (.cy .busy eH f m iy ps ef ct fS) σ)):j C (.beginRound::k) env σ:=by
 obtain⟨f0,bO,bQ,cj,bh,aL,c,cs,jk,rfl⟩:=ar.ex;intro a w S aw af;obtain⟨cy,ob,a8,aa,ah,lb,c6,bl,bx⟩:=ER af.store af.fr.lt aA .busy eH;have bS:(Instr.beginRound l).run P w= .ok () {w with heap:=w.heap.setIfInBounds l ob}:=by
  unfold Instr.beginRound;rw[Sem.run_bind,zu a8,Result.andThen_ok,Sem.run_bind,FN a8,Result.andThen_ok,aa,lb,←ah];rfl
 refine(Ctx.round P n f0 l bO bQ cj bh aL R c cs).e5 _ _ (.one (stepR_beginRound rfl bS)) ?_;exact h a _ S aw ⟨af.env.ev bx,c6,af.fr.trans bl,af.size⟩
theorem O9 {w:World} {cy:Loop} (h:w.heap[l]?=some (.loop cy)) (U:Option Code):(Instr.endRound l U).run P w= .ok (.bool U.isNone) {w with heap:=w.heap.setIfInBounds l (.loop {cy with state:=if U.isNone then .ready else .done,pending:=U})}:=by
 unfold Instr.endRound;rw[Sem.run_bind,zu h,Result.andThen_ok,Sem.run_bind,FN h,Result.andThen_ok];rfl
theorem Mk (ar:pb C l R) (aA:av l σ=some (.cy st eH f m iy ps ef ct fS)) (U:Option Code) {todo:List Item}
  (sb:∀a w v w' c cs,(Instr.endRound l U).run P w= .ok v w'→C.cs=c::cs→step P (lone (C.b.atR a todo) (c::cs) w)= .next (lone (c.finish v) cs w'))
  (bR:R (.ret (.v (.bool U.isNone))) (sset l (.cy (if U.isNone then .ready else .done) U f m iy ps ef ct fS) σ)):j C todo env σ:=by
 obtain⟨f0,bO,bQ,cj,bh,aL,c,cs,jk,rfl⟩:=ar.ex;intro a w S aw af;obtain⟨cy,ob,a8,aa,ah,lb,c6,bl,bx⟩:=ER af.store af.fr.lt aA (if U.isNone then .ready else .done) U;have bS:=O9 (P:=P) a8 U;rw[←lb]at bS;exact⟨.returned (.bool U.isNone),_,⟨_,_,S,bR, .v rfl,c6,af.fr.trans bl⟩, .one (sb a w _ _ c cs bS rfl)⟩
theorem j.WA (ar:pb C l R) (aA:av l σ=some (.cy st eH f m iy ps ef ct fS)) (bR:R (.ret (.v (.bool true))) (sset l (.cy .ready none f m iy ps ef ct fS) σ)):j C [] env σ:=
 Mk ar aA none (fun a w v w' c cs ao ag=>by obtain⟨f0,bO,bQ,cj,bh,aL,gb,wY,jk,rfl⟩:=ar.ex;exact stepR_round_end rfl rfl ao) bR
theorem j.WB (ar:pb C l R) (aA:av l σ=some (.cy st eH f m iy ps ef ct fS)) (bR:R (.ret (.v (.bool false))) (sset l (.cy .done (some .ret) f m iy ps ef ct fS) σ)):j C (.code .ret::k) env σ:=
 Mk ar aA (some .ret) (fun a w v w' c cs ao ag=>by obtain⟨f0,bO,bQ,cj,bh,aL,gb,wY,jk,rfl⟩:=ar.ex;exact stepR_round_ret rfl rfl ao) bR
theorem cK.vP (ar:pb C l R) {d:D} (bR:R (.panic d) σ):cK C d σ:=by
 obtain⟨f0,bO,bQ,cj,bh,aL,c,cs,⟨fn,jk⟩,rfl⟩:=ar.ex;intro a todo w S v aw ak c6 bl _;refine⟨.panicked [{v,recovered:=false}],w,⟨_,σ,S,bR,⟨v,rfl,ak⟩,c6,bl⟩, .one ?_⟩;exact step_leave_panicked ⟨rfl,aw,fn,jk⟩
end round
section yield
variable {N : cP} {C : Ctx P N} {k : List Item} {env : Env} {σ : al} {ops : Array Oper} {i : Nat} {rest : List Nat} {o : Oper} {l : Nat}
theorem j.Lh (aH:ops[i]?=some o) (aq:o.guard=none) {f:Operand} {args:Array Operand} {aD:Array TypeId} (cp:o.op= .call {callee:= .value f,args:=args,argTypes:=aD}) (aX:dstB N o.dst) (ax:ev env f= .bX (.yield l) [] [])
  (h:h4 P l (args.toList.map (ev env)) σ (fun e σ'=>match e with| .ret d=>j C (.inRegion ops rest::k) (eputo o.dst d env) σ'| .panic d=>cK C d σ')):j C (.inRegion ops (i::rest)::k) env σ:=by
 intro a w S aw af;have hw:Region.wanted o (yielded ops a.tmps)=true:=by simp[Region.wanted,aq]
 have Dr:=df af f;rw[ax]at Dr;have gW:a.eval f= .func (.yield l) #[] #[]:=by
  generalize a.eval f=x at Dr;cases Dr with|bX aa ah=>rw[aa.gv,ah.gv]
 obtain⟨cy,DK,hlen,ch⟩:=h w S _ af.Bl af.store (sX af args.toList);have aL:=stepGR_op (P:=P) (b:=C.b) (k:=k) (cs:=C.cs) (w:=w) (rest:=rest) aH hw;rw[Oper.semAt_eq _ _ _ (fun c ag=>by rw[cp]at ag;cases ag)]at aL
 have bS:(execOp a.eval o).run P w= .ok (.round l cy.fn ((cy.params.zip (args.toList.map a.eval).toArray).foldl (fun tmps (t,a)=>tmps.setIfInBounds t a) cy.tmps) cy.assign cy.body) w:=by
  have rM:args.map a.eval=(args.toList.map a.eval).toArray:=by rw[←Array.toList_map]
  have aF:(Instr.yield l (args.toList.map a.eval).toArray).run P w= .ok (.round l cy.fn ((cy.params.zip (args.toList.map a.eval).toArray).foldl (fun tmps (t,a)=>tmps.setIfInBounds t a) cy.tmps) cy.assign cy.body) w:=by
   unfold Instr.yield;have aZ:¬((args.toList.map a.eval).toArray.size≠cy.params.size):=by simpa using hlen
   rw[Sem.run_bind,zu DK,Result.andThen_ok];show Sem.run P (if _ then _ else _) w=_
   rw[if_neg aZ];rfl
  simp only[execOp,cp,resolve,gW,Deferred.ofValue,Sem.run_bind,Sem.run_pure,Result.andThen_ok];rw[rM];simpa [invoke,Sem.run_bind,Result.andThen_ok]using aF
 obtain⟨e,w',⟨cX,σ',S',bR,c1,c6,bl⟩,lW⟩:=ch (C.b.atR a (.inRegion ops (i::rest)::k)) C.cs;have mE:Go.step P (lone (C.b.atR a (.inRegion ops (i::rest)::k)) C.cs w)= .next (lone (Frame.round l cy.fn ((cy.params.zip (args.toList.map a.eval).toArray).foldl (fun tmps (t,a)=>tmps.setIfInBounds t a) cy.tmps) cy.assign cy.body .normal) (C.b.atR a (.inRegion ops (i::rest)::k)::C.cs) w):=
  step_lone_go (by rw[aL];simp[stepG.apply,bS,Frame.atR])
 have cT:∀v,(C.b.atR a (.inRegion ops (i::rest)::k)).finish v=C.b.atR (a.put o.dst v) (.inRegion ops rest::k):=by
  intro v;rw[Frame.finish_atR,aH];rfl
 cases e with
 |returned v=>
  cases cX with
  |ret d=>
   refine C.e5 _ _ (.head mE lW) ?_;rw[cT];exact bR (a.put o.dst v) w' S' (by rw[put_defers];exact aw) (l_ af (kZ aX) c1 c6 bl)
  |panic d=>exact c1.elim
 |panicked chain=>
  cases cX with
  |ret d=>exact c1.elim
  |panic d=>
   obtain⟨v,rfl,ak⟩:=c1;refine C.e5 _ _ (.head mE lW) ?_;exact bR a _ w' S' v aw ak c6 (af.fr.trans bl) af.size
 |outgrown=>exact lW.elim
end yield
end Go.Ab
namespace Go.Ab
open Go
variable {P : Program}
def mark (r:Nat):Deferred:={target:= .collected r,args:=#[]}
def Ctx.uS (P:Program) (N:cP) (f:FuncId) (bO:World) (bQ:Nat→Prop) (cj:al) (bh:lz bO bQ) (aL:da bO bQ cj) (R:cf→al→Prop) (cs:List Frame) (ms:List Nat):Ctx P N:=
 {Ctx.call P N f bO bQ cj bh aL R cs with ds:=ms.map mark}
structure sL {N:cP} (C:Ctx P N) (f:FuncId) (R:cf→al→Prop) (ms:List Nat):Prop where
 ex:∃bO bQ cj bh aL cs,C=Ctx.uS P N f bO bQ cj bh aL R cs ms
theorem m'.MY {N:cP} {C:Ctx P N} {f:FuncId} {R:cf→al→Prop} (h:m' C f R):sL C f R []:=by
 obtain⟨bO,bQ,cj,bh,aL,cs,rfl⟩:=h.ex;exact⟨bO,bQ,cj,bh,aL,cs,rfl⟩
section
variable {N : cP} {C : Ctx P N} {k : List Item} {env : Env} {σ : al} {f : FuncId} {fn : Func} {R : cf → al → Prop} {ms : List Nat}
theorem ck.alloc {a:Act} {w:World} {S:Nat→Prop} (h:ck C env σ w S a.tmps) (ob:Obj) (x:aE) (an:gR (w.alloc ob) S w.heap.size x):ck C env ((w.heap.size,x)::σ) (w.alloc ob) S a.tmps:=
 have bl:=w7 h ob x
 ⟨h.env.ev (nT h bl),wm h.store h.fr.lt ob x an,h.fr.trans bl,h.size⟩
theorem j.rangeFunc (ar:sL C f R ms) {g:Operand} {iA:FuncId} {cg:List D} {ps:Array Tmp} {ef ct:Code} (aq:ev env g= .bX (.func iA) [] cg) (he:∀args w,(callFunc iA args).run P w= .ok (.enter iA args) w)
  (h:∀(l r:Nat) (i':Ctx P N),av r σ=none→av l ((r, .ec)::σ)=none→sL i' f R (r::ms)→
   AC P iA (.bX (.yield l) [] []::cg) ((l, .cy .ready none f N.n env ps ef ct r)::(r, .ec)::σ) (fun e σ'=>match e with
    | .ret _=>∃st eH,av l σ'=some (.cy st eH f N.n env ps ef ct r)∧(st== .busy)=false∧j i' ((eH.map Item.code).toList++k) env (sset l (.cy .exhausted eH f N.n env ps ef ct r) σ')
    | .panic d=>cK i' d σ')):j C (.code (.rangeFunc g ps ef ct)::k) env σ:=by
 obtain⟨bO,bQ,cj,bh,aL,cs,rfl⟩:=ar.ex;intro a w S aw af;let dK:=w.alloc (.deferred (some []))
 let cy:Loop:={state:= .ready,pending:=none,fn:=f,tmps:=a.tmps,params:=ps,assign:=ef,body:=ct,defers:=w.heap.size}
 let fb:=dK.alloc (.loop cy)
 have hj:ck (Ctx.uS P N f bO bQ cj bh aL R cs ms) env ((w.heap.size, .ec)::σ) dK S a.tmps:=af.alloc _ .ec (heap_alloc w _);have I6:∀k,bw fb S (eget k env) (a.tmps.getD k undef):=fun k=>(hj.env k).ev (uW hj.fr.lt _);have fZ:ck (Ctx.uS P N f bO bQ cj bh aL R cs ms) env ((dK.heap.size, .cy .ready none f N.n env ps ef ct w.heap.size)::(w.heap.size, .ec)::σ) fb S a.tmps:=
  hj.alloc _ _ ⟨a.tmps,heap_alloc dK _,af.size.1,I6⟩
 have xH:av w.heap.size σ=none:=lh af.store;have Rp:av dK.heap.size ((w.heap.size, .ec)::σ)=none:=lh hj.store;have mE:(Instr.enterLoop f a.tmps ps ef ct none).run P w= .ok (dK.heap.size,[mark w.heap.size]) fb:=by
  simp[Instr.enterLoop,dK,fb,cy,mark]
 have vu:=df fZ g;rw[aq]at vu;obtain⟨n1,dQ,lL⟩:∃n1:List Value,a.eval g= .func (.func iA) #[] n1.toArray∧bq fb S cg n1:=by
  generalize a.eval g=x at vu;cases vu with|bX aa ah=>exact⟨_,by rw[aa.gv],ah⟩
 have hT:(resolve a.eval (rangeCall g dK.heap.size) 0).run P fb= .ok {target:= .fn (.func iA) n1.toArray,args:=#[.func (.yield dK.heap.size) #[] #[]]} fb:=by
  have aF:a.eval (.const (.func (.yield dK.heap.size) #[] #[]))= .func (.yield dK.heap.size) #[] #[]:=rfl;simp only[resolve,rangeCall,dQ,Deferred.ofValue,List.map_toArray,List.map_cons,List.map_nil,aF,Sem.run_pure];rfl
 have hinv:(invoke (.fn (.func iA) n1.toArray) #[.func (.yield dK.heap.size) #[] #[]]).run P fb= .ok (.enter iA (Value.func (.yield dK.heap.size) #[] #[]::n1).toArray) fb:=by
  simp only[invoke];rw[he];congr 2
  apply Array.ext';simp
 let i':Ctx P N:=Ctx.uS P N f bO bQ cj bh aL R cs (w.heap.size::ms)
 have gE:=h dK.heap.size w.heap.size i' xH Rp ⟨_,_,_,_,_,_,rfl⟩ fb S (Value.func (.yield dK.heap.size) #[] #[]::n1) fZ.Bl fZ.store (.cons (.bX (f:=[]) (c:=[]) .nil .nil) lL);let b:Frame:={(default:Frame)with fn:=f,kind:= .normal}
 have sb:=stepR_rangeFunc (P:=P) (b:=b) (a:=a) (k:=k) (cs:=cs) (w:=w) (g:=g) (ps:=ps) (assign:=ef) (body:=ct) mE hT hinv;obtain⟨e,iw,fr,⟨cX,σ',S',bR,c1,c6,bl⟩,rU,jk,tG⟩:=gE (b.atR {a with defers:=[mark w.heap.size]++a.defers} (.inRangeFunc dK.heap.size::k)::cs);have bx:eI fb S iw S':=nT fZ bl;have xB:([mark w.heap.size]++a.defers)=(w.heap.size::ms).map mark:=by rw[show a.defers=ms.map mark from aw];rfl
 cases e with
 |outgrown=>cases cX<;>exact c1.elim
 |returned v=>
  cases cX with
  |panic d=>exact c1.elim
  |ret d=>
   obtain⟨st,eH,aA,Q0,ch⟩:=bR;obtain⟨Uv,ob,a8,aa,ah,lb,qL,oz,Qm⟩:=ER c6 bl.lt aA .exhausted eH;have jH:(Instr.endLoop dK.heap.size).run P iw= .ok eH {iw with heap:=iw.heap.setIfInBounds dK.heap.size ob}:=by
    unfold Instr.endLoop;rw[Sem.run_bind,zu a8,Result.andThen_ok];have hR:(Uv.state== .busy)=false:=by rw[aa];exact Q0
    simp only[hR,Bool.false_eq_true,if_false];rw[Sem.run_bind,FN a8,Result.andThen_ok,lb,←ah];rfl
   have lW:Steps P (lone (b.atR a (.code (.rangeFunc g ps ef ct)::k)) cs w) (lone (b.atR {a with defers:=[mark w.heap.size]++a.defers} ((eH.map Item.code).toList++k)) cs {iw with heap:=iw.heap.setIfInBounds dK.heap.size ob}):=by
    refine .head sb (Steps.trans rU (.head ?_ (.one (stepR_endRangeFunc jH))));rw[←finish_atR_inRangeFunc dK.heap.size v];exact step_leave_returned tG
   refine(Ctx.uS P N f bO bQ cj bh aL R cs ms).e5 _ _ lW ?_;exact ch {a with defers:=[mark w.heap.size]++a.defers} _ S' xB ⟨fun U=>((I6 U).ev bx).ev Qm,qL,(fZ.fr.trans bl).trans oz,af.size⟩
 |panicked chain=>
  cases cX with
  |ret d=>exact c1.elim
  |panic d=>
   obtain⟨v,rfl,ak⟩:=c1;refine(Ctx.uS P N f bO bQ cj bh aL R cs ms).e5 _ _ (.head sb (Steps.trans rU (.one (step_leave_panicked tG)))) ?_;exact bR {a with defers:=[mark w.heap.size]++a.defers} (.inRangeFunc dK.heap.size::k) iw S' v xB ak c6 (fZ.fr.trans bl) af.size
theorem EV {bO:World} {bQ F S:Nat→Prop} {σ':al} {cs:List Frame}:∀(ms:List Nat) (w:World) (fr:Frame),fr.mode≠ .run→fr.defers=ms.map mark→ms.Nodup→
  (∀r∈ms,w.heap[r]?=some (.deferred (some []))∧¬S r∧(F r∨bO.heap.size≤r)∧av r σ'=none)→da w S σ'→Fr bO bQ F w S σ'→
  ∃w',Steps P (lone fr cs w) (lone {fr with defers:=[]} cs w')∧da w' S σ'∧Fr bO bQ F w' S σ'∧eI w S w' S
 |[],w,fr,_,aw,_,_,aL,bl=>⟨w,by
   have:fr={fr with defers:=[]}:=by rw[←show fr.defers=[]from aw]
   rw[←this];exact Steps.refl _ _,aL,bl,eI.refl w S⟩
 |r::ms,w,fr,hm,aw,cM,eu,aL,bl=>by
  obtain⟨a8,QG,Qr,SM⟩:=eu r (by simp);have aC:r<w.heap.size:=(Array.getElem?_eq_some_iff.1 a8).1;let dK:World:={w with heap:=w.heap.setIfInBounds r (.deferred none)}
  have SS:(Instr.takeDeferred r).run P w= .ok [] dK:=by
   simp[Instr.takeDeferred,getObj,setObj,Sem.run_bind,Sem.run,Result.andThen,a8,dK]
  have sb:=step_collected (P:=P) (cs:=cs) (fr:=fr) (ds:=ms.map mark) (d:=mark r) hm (by rw[aw];rfl) rfl SS
  have aH:∀k,k≠r→dK.heap[k]?=w.heap[k]?:=fun k aj=>by
   show(w.heap.setIfInBounds r _)[k]?=_
   rw[Array.getElem?_setIfInBounds_ne (by omega)]
  have fD:Shape w dK:=fun b c e mq ae=>by
   by_cases IT:b=r
   ·subst IT;rw[a8]at ae;cases ae
   exact⟨c,mq,(aH b IT).trans ae,rfl⟩
  have bx:eI w S dK S:=⟨fun _ h=>h,fun b ae=>aH b (fun h=>QG (h▸ae)),fD⟩;have SP:da dK S σ':=fun b o ae=>by
   obtain⟨aa,ah⟩:=aL b o ae;exact⟨aa,ah.ev bx (aH b (fun h=>by rw[h,SM]at ae;cases ae))⟩
  have Rn:Fr bO bQ F dK S σ':=⟨bl.os,bl.tape,bl.output,by simp[dK];exact bl.size,bl.shape.trans fD,fun b ae c7=>by
    rw[aH b (fun h=>by subst h;rcases Qr with aa|aa;exact c7 aa;omega)];exact bl.block b ae c7,bl.mono,bl.new,bl.fh,fun b ae=>by simp[dK];exact bl.lt b ae⟩
  obtain⟨w',af,aa,ah,aJ⟩:=EV ms dK {fr with defers:=[]++ms.map mark} hm rfl (List.nodup_cons.1 cM).2 (fun q bW=>by
   obtain⟨hY,fa,yv,LS⟩:=eu q (by simp[bW]);exact⟨(aH q (fun h=>(List.nodup_cons.1 cM).1 (h▸bW))).trans hY,fa,yv,LS⟩) SP Rn
  exact⟨w', .head sb af,aa,ah,bx.trans aJ⟩
theorem KR {bO:World} {bQ F:Nat→Prop} {w:World} {S:Nat→Prop} {σ':al} (eu:∀r∈ms,av r σ=some .ec) (dr:∀r∈ms,av r σ'=none) (aL:da w S σ) (bl:Fr bO bQ F w S σ):
  ∀r∈ms,w.heap[r]?=some (.deferred (some []))∧¬S r∧(F r∨bO.heap.size≤r)∧av r σ'=none:=fun r ao=>
 ⟨(aL r _ (eu r ao)).2,(aL r _ (eu r ao)).1,bl.fh r (by unfold cq;rw[eu r ao];simp),dr r ao⟩
theorem O_ {m:Machine} {bO:World} {bQ:Nat→Prop} {cj σ':al} {cs:List Frame} {a:Act} {todo:List Item} {w:World} {S:Nat→Prop} (ax:P.funcs[f]?=some fn) (aw:a.defers=ms.map mark) (cM:ms.Nodup)
  (eu:∀r∈ms,av r σ=some .ec) (hle:aQ σ' σ) (dr:∀r∈ms,av r σ'=none)
  (nm:hM w S env a.tmps) (aL:da w S σ) (bl:Fr bO bQ (cq cj) w S σ) (hT:∀r∈fn.results.toList,nO P env σ' r) (bR:R (.ret (q8 P env σ' fn.results.toList)) σ')
  (af:Steps P m (lone {({(default:Frame)with fn:=f,kind:= .normal}:Frame).atR a todo with mode:= .returning} cs w)):wF P f bO bQ cj R cs m:=by
 obtain⟨w',lW,c6,Dp,bx⟩:=EV (P:=P) (cs:=cs) ms w {({(default:Frame)with fn:=f,kind:= .normal}:Frame).atR a todo with mode:= .returning} (by intro h;cases h) aw cM (KR eu dr aL bl) (aL.le hle) (bl.le hle)
 exact Cd (P:=P) (a:={tmps:=a.tmps,defers:=[]}) ax rfl (nm.ev bx) c6 Dp hT bR (af.trans lW)
theorem j.Mh {σ':al} (ar:sL C f R ms) (ax:P.funcs[f]?=some fn) (cM:ms.Nodup) (eu:∀r∈ms,av r σ=some .ec) (hle:aQ σ' σ) (dr:∀r∈ms,av r σ'=none)
  (hT:∀r∈fn.results.toList,nO P env σ' r) (bR:R (.ret (q8 P env σ' fn.results.toList)) σ'):j C (.code .ret::k) env σ:=by
 obtain⟨bO,bQ,cj,bh,aL,cs,rfl⟩:=ar.ex;intro a w S aw af;exact O_ ax aw cM eu hle dr af.env af.store af.fr hT bR (.one (stepR_ret rfl))
theorem cK.ofM {d:D} {σ':al} (ar:sL C f R ms) (ax:P.funcs[f]?=some fn) (cM:ms.Nodup) (eu:∀r∈ms,av r σ=some .ec) (hle:aQ σ' σ) (dr:∀r∈ms,av r σ'=none) (bR:R (.panic d) σ'):cK C d σ:=by
 obtain⟨bO,bQ,cj,bh,aL,cs,rfl⟩:=ar.ex;intro a todo w S v aw ak c6 bl _;obtain⟨w',lW,qL,oz,bx⟩:=EV (P:=P) (cs:=cs) ms w {({(default:Frame)with fn:=f,kind:= .normal}:Frame).atR a todo with mode:= .panicking [{v,recovered:=false}]} (by intro h;cases h) aw cM (KR eu dr c6 bl) (c6.le hle) (bl.le hle)
 exact⟨.panicked [{v,recovered:=false}],w',_,⟨_,σ',S,bR,⟨v,rfl,ak.ev bx⟩,qL,oz⟩,lW,rfl,rfl,rfl,fn,ax⟩
end
end Go.Ab
namespace Go.Ab
open Go
theorem j.scope {P:Program} {N:cP} {C:Ctx P N} {k:List Item} {env:Env} {σ:al} {c:Code} (h:j C (.code c:: .inScope c::k) env σ):j C (.code (.scope c)::k) env σ:=
 .step (fun _ _=>step_lone_go (by simp[stepG,stepG.exec,Frame.atR])) h
theorem j.inScope {P:Program} {N:cP} {C:Ctx P N} {k:List Item} {env:Env} {σ:al} {c:Code} (h:j C k env σ):j C (.inScope c::k) env σ:=
 .step (fun _ _=>step_lone_go (by simp[stepG,stepG.exec,Frame.atR])) h
end Go.Ab
namespace Go.Ab.S16
open Go Go.Proofs
def oQ (n:Int):D:= .v (.int .i64 n)
theorem o_ {α:Type} {p:α→Bool} {l:List α} {i:Nat} (aC:i<l.length) (b0:∀s∈l.take i,p s=false) (h:p l[i]=false):∀s∈l.take (i+1),p s=false:=fun s af=>by
 rw[List.take_succ_eq_append_getElem aC]at af;rcases List.mem_append.1 af with af|af
 ·exact b0 s af
 simp only[List.mem_singleton]at af;rw[af];exact h
theorem TD (l:List Int) (v:Int) (σ:al) (aA:l.length<2^40):
  AC Tryz.prog 121 [.ai (l.map oQ), .v (.int .i64 v)] σ (fun e σ'=>e= .ret (.v (.int .i64 (fE (fun s=>v==s) l)))∧σ'=σ):=by
 have bn:(l.map oQ).length=l.length:=List.length_map ..;refine AC.bI Tryz.func121 Tryz.ntmps121 fun C ar=> ?_;refine j.J (j.rg [0,1] fun K I=> ?_);simp only[go_sem];apply I;refine j.J (j.J (j.rg [0,1] fun K I=> ?_));simp only[go_sem];apply I;refine j.aG ?_;refine j.rebase [0,1,7,8] ?_;simp only[go_sem];refine j.while (fun(i:Nat) env' aS=>(i≤l.length∧(∀s∈l.take i,(v==s)=false))∧env'=[(0, .ai (l.map oQ)),(1, .v (.int .i64 v)),(7, .v (.int .i64 (l.length:Int))),(8, .v (.int .i64 (i:Int)))]∧σ=aS) (fun(i:Nat)=>l.length-i) 0 ⟨⟨by omega,by simp⟩,by rw[bn];rfl,rfl⟩ ?_
 rintro i env' aS ⟨⟨hi,b0⟩,rfl,rfl⟩ aB;have cH:=aB;refine j.J (j.rg [0,1,7,8] fun K I=> ?_);simp only[go_sem];apply I;refine j.J ?_;refine j.cond rfl (fun eM=> ?_) (fun eM=> ?_)
 ·have aC:i<l.length:=by simpa using eM
  have aq:=b6 oQ l i aC;rw[oQ]at aq;have bf:(0:Int)≤(i:Int):=by omega
  have bp:(i:Int)<((l.map oQ).length:Int):=by omega
  refine j.aN (j.J (j.aG (j.J (j.rg [0,1,7,8] fun K I=> ?_))));simp only[go_sem];apply I;refine j.J (j.rg [0,1,5,7,8] fun K I=> ?_);simp only[go_sem,aq,bf,bp];apply I;refine j.cond rfl (fun oc=> ?_) (fun oc=> ?_)
  ·refine j.J (j.rg [5] fun K I=> ?_);simp only[go_sem];apply I;refine j.ret ar Tryz.func121 (by simp[go_sem]) ?_;simp only[go_sem];rw[qT aC b0 oc]
  refine j.aN (j.ba (j.rg [0,1,7,8] fun K I=> ?_));simp only[go_sem];apply I;refine j.rebase [0,1,7,8] ?_;simp only[go_sem];rw[bH i (by omega)];exact aB (i+1) _ _ ⟨⟨by omega,o_ aC b0 oc⟩,rfl,rfl⟩ (by omega)
 have:i=l.length:=by simp at eM;omega
 subst this;rw[List.take_length]at b0;refine j.exit rfl (j.J (j.rg [] fun K I=> ?_));simp only[go_sem];apply I;refine j.ret ar Tryz.func121 (by simp[go_sem]) ?_;simp only[go_sem];rw[sh b0]
theorem Ou (l:List Int) (v:Int) (σ:al) (aA:l.length<2^40):
  AC Tryz.prog 91 [.ai (l.map oQ), .v (.int .i64 v)] σ (fun e σ'=>e= .ret (.v (.bool (l.any fun s=>v==s)))∧σ'=σ):=by
 refine AC.bI Tryz.func91 Tryz.ntmps91 fun C ar=> ?_;refine j.J (j.rg [0,1] fun K I=> ?_);simp only[go_sem];apply I;refine j.J (j.rg [0,1] fun K I=> ?_);simp only[go_sem];refine a1 Tryz.call121 (TD l v σ aA) ?_;simp only[go_sem];apply I;refine j.ret ar Tryz.func91 (by simp[go_sem]) ?_;simp only[go_sem];rw[Ey]
theorem Hc {ob:Option Nat} {n:Nat} (l:List Int) (v:Int) (σ:al) (an:bL 1 ob σ=some (l.map oQ)) (au:n=l.length) (aA:l.length<2^40):
  AC Tryz.prog 91 [.own ob 1 n, .v (.int .i64 v)] σ (fun e σ'=>e= .ret (.v (.bool (l.any fun s=>v==s)))∧σ'=σ):=by
 subst au;have:=hN.yo (rest:=[.v (.int .i64 v)]) (n:=l.length) an (by simp) (fun _ _ _=>rfl);rw[List.take_of_length_le (by simp)]at this;exact AC.ud this rfl ((Ou l v [] aA).mono fun e σ' h=>h)
theorem Ov {ob:Option Nat} {n:Nat} (l:List ByteArray) (v:ByteArray) (σ:al) (an:bL 1 ob σ=some (l.map ab)) (au:n=l.length) (aA:l.length<2^40):
  AC Tryz.prog 50 [.own ob 1 n, .v (.string v)] σ (fun e σ'=>e= .ret (.v (.bool (l.any fun s=>v.toList==s.toList)))∧σ'=σ):=by
 subst au;have:=hN.yo (rest:=[.v (.string v)]) (n:=l.length) an (by simp) (fun _ _ _=>rfl);rw[List.take_of_length_le (by simp)]at this;exact AC.ud this rfl ((rA l v [] aA).mono fun e σ' h=>h)
theorem TB (b n:Nat) (l:List ByteArray) (g:FuncId) (cg:List D) (p:ByteArray→Bool) (σ:al) (ae:av b σ=some (.arr 1 (l.map ab))) (au:n=l.length) (aA:l.length<2^40) (bc:nY cg g p l σ):
  AC Tryz.prog 74 [.own (some b) 1 n, .bX (.func g) [] cg] σ (fun e σ'=>e= .ret (.v (.int .i64 (fE p l)))∧σ'=σ):=by
 subst au;have bn:(l.map ab).length=l.length:=List.length_map ..;refine AC.bI Tryz.func74 Tryz.ntmps74 fun C ar=> ?_;refine j.J (j.rg [0,1] fun K I=> ?_);simp only[go_sem];apply I;refine j.J (j.J (j.rg [0,1] fun K I=> ?_));simp only[go_sem];apply I;refine j.aG ?_;refine j.rebase [0,1,7,8] ?_;simp only[go_sem];refine j.while (fun(i:Nat) env' aS=>(i≤l.length∧(∀s∈l.take i,p s=false))∧env'=[(0, .own (some b) 1 l.length),(1, .bX (.func g) [] cg),(7, .v (.int .i64 (l.length:Int))),(8, .v (.int .i64 (i:Int)))]∧σ=aS) (fun(i:Nat)=>l.length-i) 0 ⟨⟨by omega,by simp⟩,rfl,rfl⟩ ?_;rintro i env' aS ⟨⟨hi,b0⟩,rfl,rfl⟩ aB;have cH:=aB;refine j.J (j.rg [0,1,7,8] fun K I=> ?_);simp only[go_sem];apply I;refine j.J ?_;refine j.cond rfl (fun eM=> ?_) (fun eM=> ?_)
 ·have aC:i<l.length:=by simpa using eM
  have aq:=b6 ab l i aC;rw[ab]at aq;have bf:(0:Int)≤(i:Int):=by omega
  have bp:(i:Int)<(l.length:Int):=by omega
  refine j.aN (j.J (j.aG (j.J (j.rg [0,1,7,8] fun K I=> ?_))));simp only[go_sem];apply I;refine j.J (j.rg [0,1,5,7,8] fun K I=> ?_);simp only[go_sem,aq,bf,bp,ae,bn,aC];refine⟨g,bc.call,(bc.sQ l[i] (List.getElem_mem aC)).mono ?_⟩;rintro e σ1 ⟨rfl,rfl⟩;simp only[go_sem];apply I;refine j.cond rfl (fun oc=> ?_) (fun oc=> ?_)
  ·refine j.J (j.rg [5] fun K I=> ?_);simp only[go_sem];apply I;refine j.ret ar Tryz.func74 (by simp[go_sem]) ?_;simp only[go_sem];rw[qT aC b0 oc]
  refine j.aN (j.ba (j.rg [0,1,7,8] fun K I=> ?_));simp only[go_sem];apply I;refine j.rebase [0,1,7,8] ?_;simp only[go_sem];rw[bH i (by omega)];exact aB (i+1) _ _ ⟨⟨by omega,o_ aC b0 oc⟩,rfl,rfl⟩ (by omega)
 have:i=l.length:=by simp at eM;omega
 subst this;rw[List.take_length]at b0;refine j.exit rfl (j.J (j.rg [] fun K I=> ?_));simp only[go_sem];apply I;refine j.ret ar Tryz.func74 (by simp[go_sem]) ?_;simp only[go_sem];rw[sh b0]
def kept {α:Type} (p:α→Bool) (l:List α):List α:=l.filter fun x=> !p x
theorem AB {α:Type} {p:α→Bool} {l:List α} (h:∀x∈l,p x=false):kept p l=l:=List.filter_eq_self.2 fun x an=>by rw[h x an];rfl
theorem sm {α:Type} {p:α→Bool} {l:List α} {U:Nat} (h:U<l.length):kept p (l.take (U+1))=kept p (l.take U)++if p l[U]then []else [l[U]]:=by
 unfold kept;rw[List.take_succ_eq_append_getElem h,List.filter_append];cases aP:p l[U]<;>simp[aP]
theorem uc {α:Type} (p:α→Bool) (l:List α):(kept p l).length≤l.length:=List.length_filter_le ..
theorem Ku {α:Type} (p:α→Bool) (l:List α) (U:Nat):(kept p (l.take U)).length≤U:=Nat.le_trans (uc ..) (by simp;omega)
def fM {α:Type} (p:α→Bool) (l:List α) (U:Nat) (zs:List α):List α:=kept p (l.take U)++zs++l.drop U
theorem KU {α:Type} {p:α→Bool} {l:List α} {U:Nat} {zs:List α} (aR:U≤l.length) (aO:zs.length=U-(kept p (l.take U)).length):(fM p l U zs).length=l.length:=by
 have:=Ku p l U;simp[fM,aO];omega
theorem KT {α:Type} {p:α→Bool} {l:List α} {U:Nat} {zs:List α} (aR:U<l.length) (aO:zs.length=U-(kept p (l.take U)).length) (h:U<(fM p l U zs).length):(fM p l U zs)[U]=l[U]:=by
 have:=Ku p l U;have ah:(fM p l U zs)[U]?=some l[U]:=by
  unfold fM;rw[List.getElem?_append_right (by simp[aO];omega)];simp only[List.length_append,aO];rw[show U-((kept p (l.take U)).length+(U-(kept p (l.take U)).length))=0 by omega];rw[List.drop_eq_getElem_cons aR];simp
 rw[List.getElem?_eq_getElem h]at ah;simpa using ah
theorem KW {α:Type} {p:α→Bool} {l:List α} {U:Nat} {zs:List α} (aR:U<l.length) (aP:p l[U]=true):fM p l U zs=fM p l (U+1) (zs++[l[U]]):=by
 unfold fM;rw[sm aR,if_pos aP,List.drop_eq_getElem_cons aR];simp
theorem KV {α:Type} {p:α→Bool} {l:List α} {U:Nat} {zs:List α} (aR:U<l.length) (aO:zs.length=U-(kept p (l.take U)).length) (bj:(kept p (l.take U)).length<U) (aP:p l[U]=false):
  (fM p l U zs).set (kept p (l.take U)).length l[U]=fM p l (U+1) (zs.drop 1++[l[U]]):=by
 unfold fM;rw[sm aR,if_neg (by rw[aP];simp),List.drop_eq_getElem_cons aR];cases zs with
 |nil=>simp at aO;omega
 |cons z zs=>
  rw[List.append_assoc,List.set_append_right _ _ (by simp)];simp
theorem Kt {α:Type} {p:α→Bool} {l:List α} {i:Nat} (hi:i<l.length) (qF:∀x∈l.take i,p x=false) (aP:p l[i]=true):(kept p (l.take (i+1))).length=i∧fM p l (i+1) [l[i]]=l:=by
 rw[sm hi,if_pos aP,List.append_nil,AB qF];refine⟨by simp;omega, ?_⟩;unfold fM;rw[sm hi,if_pos aP,List.append_nil,AB qF];rw[←List.take_succ_eq_append_getElem hi,List.take_append_drop]
theorem ya {α:Type} (p:α→Bool) (l:List α):(fE p l=-1∧∀x∈l,p x=false)∨∃(i:Nat) (hi:i<l.length),fE p l=i∧(∀x∈l.take i,p x=false)∧p l[i]=true:=by
 unfold fE;cases ax:l.findIdx? p with
 |none=>exact .inl ⟨rfl,fun x an=>by simpa using List.findIdx?_eq_none_iff.1 ax x an⟩
 |some i=>
  obtain⟨aa,ah,aJ⟩:=List.findIdx?_eq_some_iff_getElem.1 ax;refine .inr ⟨i,aa,rfl,fun x an=> ?_,ah⟩;obtain⟨U,aR,rfl⟩:=List.getElem_of_mem an;have mJ:U<i:=by simp at aR;omega
  rw[List.getElem_take];simpa using aJ U mJ
theorem G_ {α:Type} {F:α→D} {p:α→Bool} {l:List α} {zs:List α} {z:D} (aO:zs.length=l.length-(kept p l).length):
  List.take (kept p l).length (List.map F (fM p l l.length zs))++List.replicate (l.length-(kept p l).length) z++List.drop ((kept p l).length+(l.length-(kept p l).length)) (List.map F (fM p l l.length zs))=
   (kept p l).map F++List.replicate (l.length-(kept p l).length) z:=by
 have:=uc p l;unfold fM;rw[List.take_length,List.drop_length,List.append_nil,List.map_append,List.take_left' (by simp),List.drop_of_length_le (by simp[aO])];simp
theorem OM (b:Nat) (l:List ByteArray) (g:FuncId) (cg:List D) (p:ByteArray→Bool) (ρ:al) (aA:l.length<2^40) (fq:av b ρ=none) (bc:∀τ,aQ ρ τ→nY cg g p l τ):
  AC Tryz.prog 71 [.own (some b) 1 l.length, .bX (.func g) [] cg] ((b, .arr 1 (l.map ab))::ρ)
   (fun e σ'=>e= .ret (.own (some b) 1 (kept p l).length)∧∃k,σ'=(b, .arr 1 ((kept p l).map ab++List.replicate k (.v (.string ByteArray.empty))))::ρ):=by
 have bn:(l.map ab).length=l.length:=List.length_map ..;have ae:av b ((b,aE.arr 1 (l.map ab))::ρ)=some (.arr 1 (l.map ab)):=bE ..;refine AC.bI Tryz.func71 Tryz.ntmps71 fun C ar=> ?_;refine j.J (j.rg [0,1] fun K I=> ?_);simp only[go_sem];apply I;refine j.J (j.rg [0,1] fun K I=> ?_);simp only[go_sem];refine a1 Tryz.call74 (TB b l.length l g cg p _ ae rfl aA (bc _ (fO (aQ.refl ρ) fq))) ?_;simp only[go_sem];apply I;refine j.J (j.J ?_);rcases ya p l with⟨hm,dr⟩|⟨i0,bf,hm,qF,D5⟩
 ·rw[hm];refine j.rg [0,1,5] fun K I=> ?_;simp only[go_sem];apply I;refine j.bZ rfl (j.J (j.rg [0] fun K I=> ?_));simp only[go_sem];apply I;refine j.ret ar Tryz.func71 (by simp[go_sem]) ?_;simp only[go_sem];rw[AB dr];exact⟨rfl,0,by simp⟩
 rw[hm];have aZ:((i0:Int)==-1)=false:=by simp
 obtain⟨cb,gp⟩:=Kt bf qF D5;refine j.rg [0,1,5] fun K I=> ?_;simp only[go_sem,aZ];apply I;refine j.bJ rfl (j.aN (j.J (j.J (j.rg [0,1,5] fun K I=> ?_))));simp only[go_sem];apply I;refine j.aG ?_;refine j.rebase [0,1,5,6] ?_;simp only[go_sem];refine j.while (fun(U:Nat) env' aS=>(U≤l.length∧(kept p (l.take U)).length<U)∧env'=[(0, .own (some b) 1 l.length),(1, .bX (.func g) [] cg),(5, .v (.int .i64 ((kept p (l.take U)).length:Int))),(6, .v (.int .i64 (U:Int)))]∧∃zs:List ByteArray,zs.length=U-(kept p (l.take U)).length∧aS=(b, .arr 1 ((fM p l U zs).map ab))::ρ) (fun(U:Nat)=>l.length-U) (i0+1) ⟨⟨by omega,by omega⟩,by rw[cb,bH i0 (by omega)],[l[i0]],by rw[cb];simp,by rw[gp]⟩ ?_;rintro U env' aS ⟨⟨aR,qC⟩,rfl,zs,aO,rfl⟩ aB;have cH:=aB;have dW:=KU aR aO;have fY:((fM p l U zs).map ab).length=l.length:=by rw[List.length_map,dW]
 refine j.J (j.J (j.rg [0,1,5,6] fun K I=> ?_));simp only[go_sem];apply I;refine j.cond rfl (fun eW=> ?_) (fun eW=> ?_)
 ·have aC:U<l.length:=by simpa using eW
  have aq:=b6 ab (fM p l U zs) U (by omega);rw[KT aC aO,ab]at aq;have cW:=b6 ab (fM p l U zs) (kept p (l.take U)).length (by omega);rw[ab]at cW;have bf:(0:Int)≤(U:Int):=by omega
  have bp:(U:Int)<(l.length:Int):=by omega
  have kG:(0:Int)≤((kept p (l.take U)).length:Int):=by omega
  have qz:((kept p (l.take U)).length:Int)<(l.length:Int):=by omega
  have tE:(kept p (l.take U)).length<l.length:=by omega
  refine j.aN (j.J (j.aG (j.J (j.rg [0,1,5,6] fun K I=> ?_))));simp only[go_sem,aq,bf,bp,fY,aC];apply I;refine j.J (j.rg [0,1,5,6,7] fun K I=> ?_);simp only[go_sem];refine⟨g,(bc _ (aQ.refl ρ)).call,((bc _ (fO (aQ.refl ρ) fq)).sQ l[U] (List.getElem_mem aC)).mono ?_⟩;rintro e σ1 ⟨rfl,rfl⟩;simp only[go_sem];apply I;refine j.cond rfl (fun k5=> ?_) (fun k5=> ?_)
  ·refine j.J (j.rg [0,1,5,6,7] fun K I=> ?_);simp only[go_sem,cW,kG,qz,fY,tE];apply I;refine j.rg [0,1,5,6] fun K I=> ?_;simp only[go_sem];apply I;refine j.ba (j.rg [0,1,5,6] fun K I=> ?_);simp only[go_sem];apply I;refine j.rebase [0,1,5,6] ?_;simp only[go_sem];have oK:p l[U]=false:=by simpa using k5
   have bt:(List.map ab (fM p l U zs)).set (kept p (l.take U)).length (.v (.string l[U]))=(fM p l (U+1) (zs.drop 1++[l[U]])).map ab:=by
    rw[←KV aC aO qC oK,List.map_set];rfl
   have b_:=sm (p:=p) aC;rw[if_neg (by rw[oK];simp)]at b_;rw[bt,bH U (by omega),bH _ (by omega)];exact aB (U+1) _ _ ⟨⟨by omega,by rw[b_];simp;omega⟩,by rw[b_];simp,zs.drop 1++[l[U]],by rw[b_];simp[aO];omega,rfl⟩ (by omega)
  refine j.aN (j.ba (j.rg [0,1,5,6] fun K I=> ?_));simp only[go_sem];apply I;refine j.rebase [0,1,5,6] ?_;simp only[go_sem];have oK:p l[U]=true:=by simpa using k5
  have b_:=sm (p:=p) aC;rw[if_pos oK,List.append_nil]at b_;rw[bH U (by omega),KW aC oK];exact aB (U+1) _ _ ⟨⟨by omega,by rw[b_];omega⟩,by rw[b_],zs++[l[U]],by rw[b_];simp[aO];omega,rfl⟩ (by omega)
 have hE:U=l.length:=by simp at eW;omega
 subst hE;rw[List.take_length]at aO qC;simp only[List.take_length];have kG:(0:Int)≤((kept p l).length:Int):=by omega
 have qz:((kept p l).length:Int)≤(l.length:Int):=by omega
 have tE:((l.length:Int)-((kept p l).length:Int)).toNat=l.length-(kept p l).length:=by omega
 have Dz:(kept p l).length+(l.length-(kept p l).length)≤l.length:=by omega
 refine j.exit rfl (j.J (j.rg [0,5] fun K I=> ?_));simp only[go_sem,kG,qz,tE,fY,Dz,Int.le_refl];apply I;refine j.J (j.rg [0,5] fun K I=> ?_);simp only[go_sem,kG,qz];apply I;refine j.ret ar Tryz.func71 (by simp[go_sem]) ?_;simp only[go_sem];refine⟨l.length-(kept p l).length, ?_⟩;rw[G_ aO]
theorem TA (b n:Nat) (l:List ay) (g:FuncId) (cg:List D) (p:ay→Bool) (σ:al) (ae:av b σ=some (.arr 2 (l.map ay.d))) (au:n=l.length) (aA:l.length<2^40) (bc:sO cg g p l σ):
  AC Tryz.prog 65 [.own (some b) 2 n, .bX (.func g) [] cg] σ (fun e σ'=>e= .ret (.v (.int .i64 (fE p l)))∧σ'=σ):=by
 subst au;have bn:(l.map ay.d).length=l.length:=List.length_map ..;refine AC.bI Tryz.func65 Tryz.ntmps65 fun C ar=> ?_;refine j.J (j.rg [0,1] fun K I=> ?_);simp only[go_sem];apply I;refine j.J (j.J (j.rg [0,1] fun K I=> ?_));simp only[go_sem];apply I;refine j.aG ?_;refine j.rebase [0,1,7,8] ?_;simp only[go_sem];refine j.while (fun(i:Nat) env' aS=>(i≤l.length∧(∀s∈l.take i,p s=false))∧env'=[(0, .own (some b) 2 l.length),(1, .bX (.func g) [] cg),(7, .v (.int .i64 (l.length:Int))),(8, .v (.int .i64 (i:Int)))]∧σ=aS) (fun(i:Nat)=>l.length-i) 0 ⟨⟨by omega,by simp⟩,rfl,rfl⟩ ?_;rintro i env' aS ⟨⟨hi,b0⟩,rfl,rfl⟩ aB;have cH:=aB;refine j.J (j.rg [0,1,7,8] fun K I=> ?_);simp only[go_sem];apply I;refine j.J ?_;refine j.cond rfl (fun eM=> ?_) (fun eM=> ?_)
 ·have aC:i<l.length:=by simpa using eM
  have aq:=b6 ay.d l i aC;rw[ay.d]at aq;have bf:(0:Int)≤(i:Int):=by omega
  have bp:(i:Int)<(l.length:Int):=by omega
  refine j.aN (j.J (j.aG (j.J (j.rg [0,1,7,8] fun K I=> ?_))));simp only[go_sem];apply I;refine j.J (j.rg [0,1,5,7,8] fun K I=> ?_);simp only[go_sem,aq,bf,bp,ae,bn,aC];refine⟨g,bc.call,(bc.sQ l[i] (List.getElem_mem aC)).mono ?_⟩;rintro e σ1 ⟨rfl,rfl⟩;simp only[go_sem];apply I;refine j.cond rfl (fun oc=> ?_) (fun oc=> ?_)
  ·refine j.J (j.rg [5] fun K I=> ?_);simp only[go_sem];apply I;refine j.ret ar Tryz.func65 (by simp[go_sem]) ?_;simp only[go_sem];rw[qT aC b0 oc]
  refine j.aN (j.ba (j.rg [0,1,7,8] fun K I=> ?_));simp only[go_sem];apply I;refine j.rebase [0,1,7,8] ?_;simp only[go_sem];rw[bH i (by omega)];exact aB (i+1) _ _ ⟨⟨by omega,o_ aC b0 oc⟩,rfl,rfl⟩ (by omega)
 have:i=l.length:=by simp at eM;omega
 subst this;rw[List.take_length]at b0;refine j.exit rfl (j.J (j.rg [] fun K I=> ?_));simp only[go_sem];apply I;refine j.ret ar Tryz.func65 (by simp[go_sem]) ?_;simp only[go_sem];rw[sh b0]
theorem OK (b:Nat) (l:List ay) (g:FuncId) (cg:List D) (p:ay→Bool) (ρ:al) (aA:l.length<2^40) (fq:av b ρ=none) (bc:∀τ,aQ ρ τ→sO cg g p l τ):
  AC Tryz.prog 38 [.own (some b) 2 l.length, .bX (.func g) [] cg] ((b, .arr 2 (l.map ay.d))::ρ)
   (fun e σ'=>e= .ret (.own (some b) 2 (kept p l).length)∧∃k,σ'=(b, .arr 2 ((kept p l).map ay.d++List.replicate k (.agg [.v (.string ByteArray.empty), .v (.slice none 0 0)])))::ρ):=by
 have bn:(l.map ay.d).length=l.length:=List.length_map ..;have ae:av b ((b,aE.arr 2 (l.map ay.d))::ρ)=some (.arr 2 (l.map ay.d)):=bE ..;refine AC.bI Tryz.func38 Tryz.ntmps38 fun C ar=> ?_;refine j.J (j.rg [0,1] fun K I=> ?_);simp only[go_sem];apply I;refine j.J (j.rg [0,1] fun K I=> ?_);simp only[go_sem];refine a1 Tryz.call65 (TA b l.length l g cg p _ ae rfl aA (bc _ (fO (aQ.refl ρ) fq))) ?_;simp only[go_sem];apply I;refine j.J (j.J ?_);rcases ya p l with⟨hm,dr⟩|⟨i0,bf,hm,qF,D5⟩
 ·rw[hm];refine j.rg [0,1,5] fun K I=> ?_;simp only[go_sem];apply I;refine j.bZ rfl (j.J (j.rg [0] fun K I=> ?_));simp only[go_sem];apply I;refine j.ret ar Tryz.func38 (by simp[go_sem]) ?_;simp only[go_sem];rw[AB dr];exact⟨rfl,0,by simp⟩
 rw[hm];have aZ:((i0:Int)==-1)=false:=by simp
 obtain⟨cb,gp⟩:=Kt bf qF D5;refine j.rg [0,1,5] fun K I=> ?_;simp only[go_sem,aZ];apply I;refine j.bJ rfl (j.aN (j.J (j.J (j.rg [0,1,5] fun K I=> ?_))));simp only[go_sem];apply I;refine j.aG ?_;refine j.rebase [0,1,5,6] ?_;simp only[go_sem];refine j.while (fun(U:Nat) env' aS=>(U≤l.length∧(kept p (l.take U)).length<U)∧env'=[(0, .own (some b) 2 l.length),(1, .bX (.func g) [] cg),(5, .v (.int .i64 ((kept p (l.take U)).length:Int))),(6, .v (.int .i64 (U:Int)))]∧∃zs:List ay,zs.length=U-(kept p (l.take U)).length∧aS=(b, .arr 2 ((fM p l U zs).map ay.d))::ρ) (fun(U:Nat)=>l.length-U) (i0+1) ⟨⟨by omega,by omega⟩,by rw[cb,bH i0 (by omega)],[l[i0]],by rw[cb];simp,by rw[gp]⟩ ?_;rintro U env' aS ⟨⟨aR,qC⟩,rfl,zs,aO,rfl⟩ aB;have cH:=aB;have dW:=KU aR aO;have fY:((fM p l U zs).map ay.d).length=l.length:=by rw[List.length_map,dW]
 refine j.J (j.J (j.rg [0,1,5,6] fun K I=> ?_));simp only[go_sem];apply I;refine j.cond rfl (fun eW=> ?_) (fun eW=> ?_)
 ·have aC:U<l.length:=by simpa using eW
  have aq:=b6 ay.d (fM p l U zs) U (by omega);rw[KT aC aO,ay.d]at aq;have cW:=b6 ay.d (fM p l U zs) (kept p (l.take U)).length (by omega);rw[ay.d]at cW;have bf:(0:Int)≤(U:Int):=by omega
  have bp:(U:Int)<(l.length:Int):=by omega
  have kG:(0:Int)≤((kept p (l.take U)).length:Int):=by omega
  have qz:((kept p (l.take U)).length:Int)<(l.length:Int):=by omega
  have tE:(kept p (l.take U)).length<l.length:=by omega
  refine j.aN (j.J (j.aG (j.J (j.rg [0,1,5,6] fun K I=> ?_))));simp only[go_sem,aq,bf,bp,fY,aC];intro bF ng;have Db:av bF ρ=none:=yg (fO (aQ.refl ρ) fq) ng;have gq:∀o,aQ ρ ((bF,o)::(b,aE.arr 2 (List.map ay.d (fM p l U zs)))::ρ):=fun o=>fO (fO (aQ.refl ρ) fq) Db;have DR:b≠bF:=fun h=>by rw[←h,bE]at ng;cases ng
  apply I;refine j.J (j.rg [0,1,5,6,7] fun K I=> ?_);simp only[go_sem];refine⟨g,(bc _ (aQ.refl ρ)).call,((bc _ (gq _)).sQ l[U] (List.getElem_mem aC)).mono ?_⟩;rintro e σ1 ⟨rfl,rfl⟩;simp only[go_sem];apply I;refine j.cond rfl (fun k5=> ?_) (fun k5=> ?_)
  ·refine j.J (j.rg [0,1,5,6,7] fun K I=> ?_);simp only[go_sem,DR,cW,kG,qz,fY,tE];apply I;refine j.rg [0,1,5,6] fun K I=> ?_;simp only[go_sem];apply I;refine j.ba ?_;refine j.le (cn.refl _) (fO (aQ.refl _) (by rw[aW,if_neg DR.symm];exact Db)) ?_;refine j.rg [0,1,5,6] fun K I=> ?_;simp only[go_sem];apply I;refine j.rebase [0,1,5,6] ?_;simp only[go_sem];have oK:p l[U]=false:=by simpa using k5
   have bt:(List.map ay.d (fM p l U zs)).set (kept p (l.take U)).length (.agg [.v (.string l[U].name), .ai (l[U].b.map bD)])=(fM p l (U+1) (zs.drop 1++[l[U]])).map ay.d:=by
    rw[←KV aC aO qC oK,List.map_set];rfl
   have b_:=sm (p:=p) aC;rw[if_neg (by rw[oK];simp)]at b_;rw[bt,bH U (by omega),bH _ (by omega)];exact aB (U+1) _ _ ⟨⟨by omega,by rw[b_];simp;omega⟩,by rw[b_];simp,zs.drop 1++[l[U]],by rw[b_];simp[aO];omega,rfl⟩ (by omega)
  refine j.aN (j.ba ?_);refine j.le (cn.refl _) (fO (aQ.refl _) (by rw[aW,if_neg DR.symm];exact Db)) ?_;refine j.rg [0,1,5,6] fun K I=> ?_;simp only[go_sem];apply I;refine j.rebase [0,1,5,6] ?_;simp only[go_sem];have oK:p l[U]=true:=by simpa using k5
  have b_:=sm (p:=p) aC;rw[if_pos oK,List.append_nil]at b_;rw[bH U (by omega),KW aC oK];exact aB (U+1) _ _ ⟨⟨by omega,by rw[b_];omega⟩,by rw[b_],zs++[l[U]],by rw[b_];simp[aO];omega,rfl⟩ (by omega)
 have hE:U=l.length:=by simp at eW;omega
 subst hE;rw[List.take_length]at aO qC;simp only[List.take_length];have kG:(0:Int)≤((kept p l).length:Int):=by omega
 have qz:((kept p l).length:Int)≤(l.length:Int):=by omega
 have tE:((l.length:Int)-((kept p l).length:Int)).toNat=l.length-(kept p l).length:=by omega
 have Dz:(kept p l).length+(l.length-(kept p l).length)≤l.length:=by omega
 refine j.exit rfl (j.J (j.rg [0,5] fun K I=> ?_));simp only[go_sem,kG,qz,tE,fY,Dz,Int.le_refl];apply I;refine j.J (j.rg [0,5] fun K I=> ?_);simp only[go_sem,kG,qz];apply I;refine j.ret ar Tryz.func38 (by simp[go_sem]) ?_;simp only[go_sem];refine⟨l.length-(kept p l).length, ?_⟩;rw[G_ aO]
end Go.Ab.S16
namespace Go.Ab.S16
open Go Go.Proofs Go.Ab.S21
theorem P9 (k:Int) (w:World) (R:Ending→World→Prop) (dc:0≤k) (aj:k<1048576)
  (aa:R (.returned (.slice none 0 0)) w)
  (ah:∀(iR:Nat) (z:Array Value),iR≤9223372036854775807→z.size=iR*1→R (.returned (.slice (some ⟨w.heap.size,0,none⟩) 0 iR)) (w.drew.alloc (.cells z 9))):
  Calls Tryz.prog 75 #[.slice none 0 0, .int .i64 k] w R:=by
 have ae:Tryz.t9.bytes=16:=rfl;have af:Tryz.t9.size=1:=rfl;go_enter Tryz.func75,Tryz.ntmps75
 go_wp2
 ·rename_i h _ _ _
  have:=growslice_fits (need:=k.toNat) (old:=0) (bytes:=16) (by omega) (by omega);omega
 ·have g1:=grownCap_ge w k.toNat 0 9;have g2:=grownCap_le_maxLen w k.toNat 0 9 (by unfold maxLen;omega);unfold grownCap at g1 g2;unfold maxLen at g2;generalize(Question.appendCap k.toNat 0 9).cut (w.tape w.drawn (Question.appendCap k.toNat 0 9))=iR at*;refine ah iR _ g2 ?_;simp[Builtin.zeroCells];omega
 exact aa
theorem P_ (k:Int) (σ:al) (dc:0≤k) (aj:k<1048576):
  AC Tryz.prog 75 [.v (.slice none 0 0), .v (.int .i64 k)] σ (fun e σ'=>∃o,aV o 1 [] σ∧e= .ret (.own o 1 0)∧σ'=cellsOf o 1 []++σ):=by
 intro w S vs bh aL ak;obtain⟨v,l',rfl,oO,ak⟩:=ak.cons_inv;obtain⟨v2,uE,rfl,qN,ak⟩:=ak.cons_inv;have:=ak.gv;subst this;have:=qN.eh;subst this;have:=oO.eh;subst this;have fresh:av w.heap.size σ=none:=lh aL;refine P9 k w _ dc aj ?_ fun iR z ah aJ=> ?_
 ·exact⟨_,σ,S,⟨none,aV.nil 1 σ,rfl,rfl⟩, .hV,aL,Fr.refl σ bh.lt⟩
 refine⟨_,(w.heap.size, .arr 1 [])::σ,S,⟨some w.heap.size,⟨HY.2 fresh,fun h=>by cases h⟩,rfl,rfl⟩, ?_, ?_,HW bh.lt _ _⟩
 ·exact bw.own (heap_alloc w.drew _) (Nat.zero_le _) (by omega) ah
 exact wm (w:=w.drew) (Bq aL) bh.lt _ _ ⟨_,9,0,0,[],heap_alloc w.drew _, .nil,by simp,by simp, .inl (Nat.le_refl _)⟩
theorem On (ls:List (List ByteArray)) (σ:al) (aA:ls.length<1000) (af:∀l∈ls,l.length≤1000):
  AC Tryz.prog 36 [.ai (ls.map fun l=> .ai (l.map ab))] σ (fun e σ'=>∃o,aV o 1 (ls.flatten.map ab) σ∧e= .ret (.own o 1 (ls.flatten.map ab).length)∧σ'=cellsOf o 1 (ls.flatten.map ab)++σ):=by
 have bn:(ls.map fun l=>D.ai (l.map ab)).length=ls.length:=List.length_map ..;have qM:∀i,(ls.take i).flatten.length≤i*1000:=fun i=>by
  have:=Cm (fun l:List ByteArray=>l) 1000 (ls.take i) (fun l aA=>af l (List.mem_of_mem_take aA));rw[show(ls.take i).flatMap (fun l=>l)=(ls.take i).flatten by simp[List.flatMap_def]]at this;exact Nat.le_trans this (Nat.mul_le_mul_right _ (by simp;omega))
 have DS:∀i (h:i<ls.length),(ls.take (i+1)).flatten=(ls.take i).flatten++ls[i]:=fun i h=>by
  rw[List.take_succ_eq_append_getElem h,List.flatten_append,List.flatten_singleton]
 refine AC.bI Tryz.func36 Tryz.ntmps36 fun C ar=> ?_;refine j.J (j.rg [0] fun K I=> ?_);simp only[go_sem];apply I;refine j.J (j.rg [0] fun K I=> ?_);simp only[go_sem];apply I;refine j.J (j.J (j.rg [0,3] fun K I=> ?_));simp only[go_sem];apply I;refine j.aG ?_;refine j.rebase [0,3,9,10,11] ?_;simp only[go_sem];refine j.while (fun(i:Nat) env' aS=>(i≤ls.length)∧env'=[(0, .ai (ls.map fun l=> .ai (l.map ab))),(3, .v (.int .i64 ((ls.take i).flatten.length:Int))),(9, .ai (ls.map fun l=> .ai (l.map ab))),(10, .v (.int .i64 (ls.length:Int))),(11, .v (.int .i64 (i:Int)))]∧σ=aS) (fun(i:Nat)=>ls.length-i) 0 ⟨by omega,by rw[bn];rfl,rfl⟩ ?_
 rintro i env' aS ⟨hi,rfl,rfl⟩ aB;have cH:=aB;refine j.J (j.rg [0,3,9,10,11] fun K I=> ?_);simp only[go_sem];apply I;refine j.J ?_;refine j.cond rfl (fun e9=> ?_) (fun e9=> ?_)
 ·have aC:i<ls.length:=by simpa using e9
  have aq:=b6 (fun l:List ByteArray=>D.ai (l.map ab)) ls i aC;have bf:(0:Int)≤(i:Int):=by omega
  have bp:(i:Int)<((ls.map fun l=>D.ai (l.map ab)).length:Int):=by omega
  have bW:=qM i;have Ak:=af _ (List.getElem_mem aC);have hw:IntKind.i64.wrap (((ls.take i).flatten.length:Int)+(ls[i].length:Int))=((ls.take (i+1)).flatten.length:Int):=by
   rw[DS i aC,List.length_append,kt _ (by omega) (by omega)];omega
  have js:decide (((ls.take (i+1)).flatten.length:Int)<0)=false:=by simp
  refine j.aN (j.J (j.aG (j.J (j.rg [0,3,9,10,11] fun K I=> ?_))));simp only[go_sem,aq,bf,bp];apply I;refine j.J (j.rg [0,3,5,9,10,11] fun K I=> ?_);simp only[go_sem,List.length_map];rw[hw];apply I;refine j.J (j.rg [0,3,9,10,11] fun K I=> ?_);simp only[go_sem,js];apply I;refine j.bJ rfl (j.aN (j.ba (j.rg [0,3,9,10,11] fun K I=> ?_)));simp only[go_sem];apply I;refine j.rebase [0,3,9,10,11] ?_;simp only[go_sem];rw[bH i (by omega)];exact aB (i+1) _ _ ⟨by omega,rfl,rfl⟩ (by omega)
 have:i=ls.length:=by simp at e9;omega
 subst this;simp only[List.take_length];have bW:=qM ls.length;rw[List.take_length]at bW;refine j.exit rfl (j.J (j.rg [0,3] fun K I=> ?_));simp only[go_sem];refine⟨_,Tryz.call75,(P_ _ σ (by omega) (by omega)).mono ?_⟩;rintro e σ1 ⟨o,aT,rfl,rfl⟩;simp only[go_sem];apply I;refine j.J (j.J (j.rg [0,6] fun K I=> ?_));simp only[go_sem];apply I;refine j.aG ?_;refine j.rebase [6,25,26,27] ?_;simp only[go_sem];refine j.while (fun(i:Nat) env' aS=>∃o:Option Nat,(i≤ls.length∧aV o 1 ((ls.take i).flatten.map ab) σ)∧env'=[(6, .own o 1 ((ls.take i).flatten.map ab).length),(25, .ai (ls.map fun l=> .ai (l.map ab))),(26, .v (.int .i64 (ls.length:Int))),(27, .v (.int .i64 (i:Int)))]∧aS=cellsOf o 1 ((ls.take i).flatten.map ab)++σ) (fun(i:Nat)=>ls.length-i) 0 ⟨o,⟨by omega,aT⟩,by rw[bn];rfl,rfl⟩ ?_
 rintro i env' aS ⟨o,⟨hi,aT⟩,rfl,rfl⟩ aB;have eg:=aB;refine j.J (j.rg [6,25,26,27] fun K I=> ?_);simp only[go_sem];apply I;refine j.J ?_;refine j.cond rfl (fun k4=> ?_) (fun k4=> ?_)
 ·have aC:i<ls.length:=by simpa using k4
  have aq:=b6 (fun l:List ByteArray=>D.ai (l.map ab)) ls i aC;have bf:(0:Int)≤(i:Int):=by omega
  have bp:(i:Int)<((ls.map fun l=>D.ai (l.map ab)).length:Int):=by omega
  have bW:=qM i;have Ak:=af _ (List.getElem_mem aC);have aH:=aT.bL;have aw:=aT.cB;have cv:List.take ((ls.take i).flatten.map ab).length ((ls.take i).flatten.map ab)=(ls.take i).flatten.map ab:=List.take_of_length_le (Nat.le_refl _);refine j.aN (j.J (j.aG (j.J (j.rg [6,25,26,27] fun K I=> ?_))));simp only[go_sem,aq,bf,bp];apply I;refine j.rg [6,8,25,26,27] fun K I=> ?_;simp only[go_sem,aH,aw,cv];refine⟨⟨Nat.le_refl _,AS ab 1 (fun _=>⟨rfl,rfl⟩) _,by simp only[List.length_map];omega,by simp only[List.length_map];omega⟩,fun ob aO ax=> ?_⟩;apply I;refine j.ba (j.rg [6,25,26,27] fun K I=> ?_);simp only[go_sem];apply I;refine j.rebase [6,25,26,27] ?_;simp only[go_sem];rw[bH i (by omega),←List.map_append,←DS i aC];refine aB (i+1) _ _ ⟨ob,⟨by omega, ?_⟩,rfl,rfl⟩ (by omega);rw[DS i aC,List.map_append];exact aT.app aO ax
 have:i=ls.length:=by simp at k4;omega
 subst this;simp only[List.take_length]at*;refine j.exit rfl (j.J (j.rg [6] fun K I=> ?_));simp only[go_sem];apply I;refine j.ret ar Tryz.func36 (by simp[go_sem]) ?_;simp only[go_sem];exact⟨o,aT,rfl,rfl⟩
theorem B6 (ls:List (List ByteArray)) (σ:al) (aA:ls.length<1000) (af:∀l∈ls,l.length≤1000):
  AC Tryz.prog 36 [.ai (ls.map fun l=> .ai (l.map ab))] σ (fun e σ'=>e= .ret (.ai (ls.flatten.map ab))∧σ'=σ):=
 AC.q5 ((On ls [] aA af).mono fun e σ' h=>h) σ
theorem P8 (k:Int) (w:World) (R:Ending→World→Prop) (dc:0≤k) (aj:k<1048576)
  (aa:R (.returned (.slice none 0 0)) w)
  (ah:∀(iR:Nat) (z:Array Value),iR≤9223372036854775807→z.size=iR*2→R (.returned (.slice (some ⟨w.heap.size,0,none⟩) 0 iR)) (w.drew.alloc (.cells z 56))):
  Calls Tryz.prog 76 #[.slice none 0 0, .int .i64 k] w R:=by
 have ae:Tryz.t56.bytes=40:=rfl;have af:Tryz.t56.size=2:=rfl;go_enter Tryz.func76,Tryz.ntmps76
 go_wp2
 ·rename_i h _ _ _
  have:=growslice_fits (need:=k.toNat) (old:=0) (bytes:=40) (by omega) (by omega);omega
 ·have g1:=grownCap_ge w k.toNat 0 56;have g2:=grownCap_le_maxLen w k.toNat 0 56 (by unfold maxLen;omega);unfold grownCap at g1 g2;unfold maxLen at g2;generalize(Question.appendCap k.toNat 0 56).cut (w.tape w.drawn (Question.appendCap k.toNat 0 56))=iR at*;refine ah iR _ g2 ?_;simp[Builtin.zeroCells];omega
 exact aa
theorem P7 (k:Int) (σ:al) (dc:0≤k) (aj:k<1048576):
  AC Tryz.prog 76 [.v (.slice none 0 0), .v (.int .i64 k)] σ (fun e σ'=>∃o,aV o 2 [] σ∧e= .ret (.own o 2 0)∧σ'=cellsOf o 2 []++σ):=by
 intro w S vs bh aL ak;obtain⟨v,l',rfl,oO,ak⟩:=ak.cons_inv;obtain⟨v2,uE,rfl,qN,ak⟩:=ak.cons_inv;have:=ak.gv;subst this;have:=qN.eh;subst this;have:=oO.eh;subst this;have fresh:av w.heap.size σ=none:=lh aL;refine P8 k w _ dc aj ?_ fun iR z ah aJ=> ?_
 ·exact⟨_,σ,S,⟨none,aV.nil 2 σ,rfl,rfl⟩, .hV,aL,Fr.refl σ bh.lt⟩
 refine⟨_,(w.heap.size, .arr 2 [])::σ,S,⟨some w.heap.size,⟨HY.2 fresh,fun h=>by cases h⟩,rfl,rfl⟩, ?_, ?_,HW bh.lt _ _⟩
 ·exact bw.own (heap_alloc w.drew _) (Nat.zero_le _) (by omega) ah
 exact wm (w:=w.drew) (Bq aL) bh.lt _ _ ⟨_,56,0,0,[],heap_alloc w.drew _, .nil,by simp,by simp, .inl (Nat.le_refl _)⟩
end Go.Ab.S16
namespace Go.Proofs
open Go.Shelf
def Tryz.KD:Go.Shelf.Ren:=⟨fun|156=>114|165=>139|166=>140|169=>141|240=>169|241=>170|276=>197|277=>198|n=>n,fun|31=>23|9=>9|3=>3|4=>4|0=>0|20=>20|72=>189|76=>193|70=>187|37=>52|75=>192|127=>221|164=>246|5=>5|80=>195|n=>n,fun|n=>n⟩
theorem Tryz.KC:Go.Proofs.Lays.n156 Tryz.prog Tryz.KD:={
 mixed:=by kernel_rfl
 f156:=Tryz.func114.trans (congrArg some (by kernel_rfl))
 f165:=Tryz.func139.trans (congrArg some (by kernel_rfl))
 f166:=Tryz.func140.trans (congrArg some (by kernel_rfl))
 f169:=Tryz.func141.trans (congrArg some (by kernel_rfl))
 f240:=Tryz.func169.trans (congrArg some (by kernel_rfl))
 f241:=Tryz.func170.trans (congrArg some (by kernel_rfl))
 f276:=Tryz.func197.trans (congrArg some (by kernel_rfl))
 f277:=Tryz.func198.trans (congrArg some (by kernel_rfl))
 t0:=Tryz.underlying0
 a0:=Tryz.isAgg0
 z0:=Tryz.sizeOf0
 v0:=Tryz.zeroValue0
 t3:=Tryz.underlying3
 a3:=Tryz.isAgg3
 z3:=Tryz.sizeOf3
 v3:=Tryz.zeroValue3
 t4:=Tryz.underlying4
 a4:=Tryz.isAgg4
 z4:=Tryz.sizeOf4
 v4:=Tryz.zeroValue4
 t9:=Tryz.underlying9
 a9:=Tryz.isAgg9
 z9:=Tryz.sizeOf9
 v9:=Tryz.zeroValue9
 t20:=Tryz.underlying20
 a20:=Tryz.isAgg20
 z20:=Tryz.sizeOf20
 v20:=Tryz.zeroValue20
 t31:=Tryz.underlying23
 a31:=Tryz.isAgg23
 z31:=Tryz.sizeOf23
 v31:=Tryz.zeroValue23
 t37:=Tryz.underlying52
 a37:=Tryz.isAgg52
 z37:=Tryz.sizeOf52
 v37:=Tryz.zeroValue52
 t70:=Tryz.underlying187
 a70:=Tryz.isAgg187
 z70:=Tryz.sizeOf187
 v70:=Tryz.zeroValue187
 t72:=Tryz.underlying189
 a72:=Tryz.isAgg189
 z72:=Tryz.sizeOf189
 v72:=Tryz.zeroValue189
 t75:=Tryz.underlying192
 a75:=Tryz.isAgg192
 z75:=Tryz.sizeOf192
 v75:=Tryz.zeroValue192
 t76:=Tryz.underlying193
 a76:=Tryz.isAgg193
 z76:=Tryz.sizeOf193
 v76:=Tryz.zeroValue193
 t127:=Tryz.underlying221
 a127:=Tryz.isAgg221
 z127:=Tryz.sizeOf221
 v127:=Tryz.zeroValue221
 t164:=Tryz.underlying246
 a164:=Tryz.isAgg246
 z164:=Tryz.sizeOf246
 v164:=Tryz.zeroValue246}
theorem Tryz.Gi:Builder.Extra Tryz.prog Tryz.KD:={
 sizeBuilder:=by kernel_rfl
 liesBuilder:=by kernel_rfl
 t5:=Tryz.underlying5
 a5:=Tryz.isAgg5
 z5:=Tryz.sizeOf5
 v5:=Tryz.zeroValue5
 infoByte:=by kernel_rfl
 cellsByte:=by kernel_rfl
 sizeByte:=by kernel_rfl
 neB5:=by decide}
open Go.RowKit in
theorem Tryz.strings_Join_none (a:Option Addr) (c:Nat) (sep:ByteArray) (w:World):
  Calls Tryz.prog 114 #[.slice a 0 c, .string sep] w fun e w'=>e= .returned (.string ⟨#[]⟩)∧w'=w:=Any.strings_Join_none Tryz.KC Tryz.Gi a c sep w
open Go.RowKit in
theorem Tryz.strings_Join (aG o c:Nat) (xs:List ByteArray) (sep:ByteArray) (w:World) (Q4:∀(U:Nat) x,xs[U]?=some x→w.cell? ⟨aG,o+U,none⟩=some (.string x)) (hB:aG<w.heap.size) (aX:xs.length≤140737488355328) (eJ:xs.length≤c) (hlen:(Lib.join (xs.map (·.data.toList)) sep.data.toList).length≤140737488355328):
  Calls Tryz.prog 114 #[.slice (some ⟨aG,o,none⟩) xs.length c, .string sep] w fun e w'=>e= .returned (.string ⟨(Lib.join (xs.map (·.data.toList)) sep.data.toList).toArray⟩)∧Below w.heap.size w w':=Any.strings_Join Tryz.KC Tryz.Gi aG o c xs sep w Q4 hB aX eJ hlen
def Tryz.T6:Go.Shelf.Ren:=⟨fun|119=>218|n=>n,fun|21=>21|4=>4|n=>n,fun|n=>n⟩
theorem Tryz.T5:Go.Proofs.Lays.n119 Tryz.prog Tryz.T6:={
 mixed:=by kernel_rfl
 f119:=Tryz.func218.trans (congrArg some (by kernel_rfl))
 t4:=Tryz.underlying4
 a4:=Tryz.isAgg4
 z4:=Tryz.sizeOf4
 v4:=Tryz.zeroValue4
 t21:=Tryz.underlying21
 a21:=Tryz.isAgg21
 z21:=Tryz.sizeOf21
 v21:=Tryz.zeroValue21}
theorem Tryz.utf8_ValidRune (r:Int) (w:World):
  Calls Tryz.prog 218 #[.int .i32 r] w fun e w'=>e= .returned (.bool (Lib.validRune r))∧w'=w:=Any.utf8_ValidRune Tryz.T5 r w
def Tryz.T8:Go.Shelf.Ren:=⟨fun|137=>217|217=>221|266=>223|n=>n,fun|9=>9|5=>5|3=>3|n=>n,fun|n=>n⟩
theorem Tryz.T7:Go.Proofs.Lays.n137 Tryz.prog Tryz.T8:={
 mixed:=by kernel_rfl
 f137:=Tryz.func217.trans (congrArg some (by kernel_rfl))
 f217:=Tryz.func221.trans (congrArg some (by kernel_rfl))
 f266:=Tryz.func223.trans (congrArg some (by kernel_rfl))
 t3:=Tryz.underlying3
 a3:=Tryz.isAgg3
 z3:=Tryz.sizeOf3
 v3:=Tryz.zeroValue3
 t5:=Tryz.underlying5
 a5:=Tryz.isAgg5
 z5:=Tryz.sizeOf5
 v5:=Tryz.zeroValue5
 t9:=Tryz.underlying9
 a9:=Tryz.isAgg9
 z9:=Tryz.sizeOf9
 v9:=Tryz.zeroValue9}
open Go.RowKit in
theorem Tryz.strings_IndexByte (s:ByteArray) (c:Int) (w:World):
  Calls Tryz.prog 217 #[.string s, .int .u8 c] w fun e w'=>e= .returned (.int .i64 (Lib.indexByte s.data.toList c.toNat.toUInt8))∧w'=w:=Any.strings_IndexByte Tryz.T7 s c w
def Tryz.T3:Go.Shelf.Ren:=⟨fun|103=>164|210=>194|206=>192|n=>n,fun|9=>9|4=>4|24=>198|3=>3|n=>n,fun|n=>n⟩
theorem Tryz.T1:Go.Proofs.Lays.n103 Tryz.prog Tryz.T3:={
 mixed:=by kernel_rfl
 f103:=Tryz.func164.trans (congrArg some (by kernel_rfl))
 f206:=Tryz.func192.trans (congrArg some (by kernel_rfl))
 f210:=Tryz.func194.trans (congrArg some (by kernel_rfl))
 t3:=Tryz.underlying3
 a3:=Tryz.isAgg3
 z3:=Tryz.sizeOf3
 v3:=Tryz.zeroValue3
 t4:=Tryz.underlying4
 a4:=Tryz.isAgg4
 z4:=Tryz.sizeOf4
 v4:=Tryz.zeroValue4
 t9:=Tryz.underlying9
 a9:=Tryz.isAgg9
 z9:=Tryz.sizeOf9
 v9:=Tryz.zeroValue9
 t24:=Tryz.underlying198
 a24:=Tryz.isAgg198
 z24:=Tryz.sizeOf198
 v24:=Tryz.zeroValue198}
open Go.RowKit in
theorem Tryz.strings_CutPrefix (s p:ByteArray) (w:World):
  Calls Tryz.prog 164 #[.string s, .string p] w fun e w'=>e= .returned (.tuple #[.string ⟨(Lib.trimPrefix s.data.toList p.data.toList).toArray⟩, .bool (Lib.hasPrefix s.data.toList p.data.toList)])∧w'=w:=Any.strings_CutPrefix Tryz.T1 s p w
def Tryz.T_:Go.Shelf.Ren:=⟨fun|143=>210|219=>216|217=>221|225=>220|224=>219|267=>222|266=>223|314=>224|n=>n,fun|9=>9|3=>3|4=>4|5=>5|46=>146|146=>239|51=>208|n=>n,fun|1=>1|n=>n⟩
theorem Tryz.T9:Go.Proofs.Lays.n143 Tryz.prog Tryz.T_:={
 mixed:=by kernel_rfl
 f143:=Tryz.func210.trans (congrArg some (by kernel_rfl))
 f217:=Tryz.func221.trans (congrArg some (by kernel_rfl))
 f219:=Tryz.func216.trans (congrArg some (by kernel_rfl))
 f224:=Tryz.func219.trans (congrArg some (by kernel_rfl))
 f225:=Tryz.func220.trans (congrArg some (by kernel_rfl))
 f266:=Tryz.func223.trans (congrArg some (by kernel_rfl))
 f267:=Tryz.func222.trans (congrArg some (by kernel_rfl))
 f314:=Tryz.func224.trans (congrArg some (by kernel_rfl))
 t3:=Tryz.underlying3
 a3:=Tryz.isAgg3
 z3:=Tryz.sizeOf3
 v3:=Tryz.zeroValue3
 t4:=Tryz.underlying4
 a4:=Tryz.isAgg4
 z4:=Tryz.sizeOf4
 v4:=Tryz.zeroValue4
 t5:=Tryz.underlying5
 a5:=Tryz.isAgg5
 z5:=Tryz.sizeOf5
 v5:=Tryz.zeroValue5
 t9:=Tryz.underlying9
 a9:=Tryz.isAgg9
 z9:=Tryz.sizeOf9
 v9:=Tryz.zeroValue9
 t46:=Tryz.underlying146
 a46:=Tryz.isAgg146
 z46:=Tryz.sizeOf146
 v46:=Tryz.zeroValue146
 t51:=Tryz.underlying208
 a51:=Tryz.isAgg208
 z51:=Tryz.sizeOf208
 v51:=Tryz.zeroValue208
 t146:=Tryz.underlying239
 a146:=Tryz.isAgg239
 z146:=Tryz.sizeOf239
 v146:=Tryz.zeroValue239
 g1:=by kernel_rfl}
open Go.RowKit Go.Lib in
theorem Tryz.strings_Index_one (s:ByteArray) (c:UInt8) (w:World):
  Calls Tryz.prog 210 #[.string s, .string ⟨#[c]⟩] w fun e w'=>e= .returned (.int .i64 (Lib.indexByte s.data.toList c))∧w'=w:=Any.strings_Index_one Tryz.T9 s c w
def Tryz.Ud:Go.Shelf.Ren:=⟨fun|189=>128|125=>124|257=>156|128=>152|129=>153|294=>177|295=>178|296=>179|297=>180|298=>181|299=>182|216=>183|300=>184|301=>185|328=>200|329=>173|330=>174|331=>201|332=>202|215=>203|343=>212|n=>n,fun|28=>72|3=>3|46=>146|0=>0|51=>208|53=>170|4=>4|183=>202|182=>201|131=>75|5=>5|9=>9|218=>223|222=>173|228=>249|229=>250|n=>n,fun|n=>n⟩
theorem Tryz.Uc:Go.Proofs.Lays.n189 Tryz.prog Tryz.Ud:={
 mixed:=by kernel_rfl
 f125:=Tryz.func124.trans (congrArg some (by kernel_rfl))
 f128:=Tryz.func152.trans (congrArg some (by kernel_rfl))
 f129:=Tryz.func153.trans (congrArg some (by kernel_rfl))
 f189:=Tryz.func128.trans (congrArg some (by kernel_rfl))
 f215:=Tryz.func203.trans (congrArg some (by kernel_rfl))
 f216:=Tryz.func183.trans (congrArg some (by kernel_rfl))
 f257:=Tryz.func156.trans (congrArg some (by kernel_rfl))
 f294:=Tryz.func177.trans (congrArg some (by kernel_rfl))
 f295:=Tryz.func178.trans (congrArg some (by kernel_rfl))
 f296:=Tryz.func179.trans (congrArg some (by kernel_rfl))
 f297:=Tryz.func180.trans (congrArg some (by kernel_rfl))
 f298:=Tryz.func181.trans (congrArg some (by kernel_rfl))
 f299:=Tryz.func182.trans (congrArg some (by kernel_rfl))
 f300:=Tryz.func184.trans (congrArg some (by kernel_rfl))
 f301:=Tryz.func185.trans (congrArg some (by kernel_rfl))
 f328:=Tryz.func200.trans (congrArg some (by kernel_rfl))
 f329:=Tryz.func173.trans (congrArg some (by kernel_rfl))
 f330:=Tryz.func174.trans (congrArg some (by kernel_rfl))
 f331:=Tryz.func201.trans (congrArg some (by kernel_rfl))
 f332:=Tryz.func202.trans (congrArg some (by kernel_rfl))
 f343:=Tryz.func212.trans (congrArg some (by kernel_rfl))
 t0:=Tryz.underlying0
 a0:=Tryz.isAgg0
 z0:=Tryz.sizeOf0
 v0:=Tryz.zeroValue0
 t3:=Tryz.underlying3
 a3:=Tryz.isAgg3
 z3:=Tryz.sizeOf3
 v3:=Tryz.zeroValue3
 t4:=Tryz.underlying4
 a4:=Tryz.isAgg4
 z4:=Tryz.sizeOf4
 v4:=Tryz.zeroValue4
 t5:=Tryz.underlying5
 a5:=Tryz.isAgg5
 z5:=Tryz.sizeOf5
 v5:=Tryz.zeroValue5
 t9:=Tryz.underlying9
 a9:=Tryz.isAgg9
 z9:=Tryz.sizeOf9
 v9:=Tryz.zeroValue9
 t28:=Tryz.underlying72
 a28:=Tryz.isAgg72
 z28:=Tryz.sizeOf72
 v28:=Tryz.zeroValue72
 t46:=Tryz.underlying146
 a46:=Tryz.isAgg146
 z46:=Tryz.sizeOf146
 v46:=Tryz.zeroValue146
 t51:=Tryz.underlying208
 a51:=Tryz.isAgg208
 z51:=Tryz.sizeOf208
 v51:=Tryz.zeroValue208
 t53:=Tryz.underlying170
 a53:=Tryz.isAgg170
 z53:=Tryz.sizeOf170
 v53:=Tryz.zeroValue170
 t131:=Tryz.underlying75
 a131:=Tryz.isAgg75
 z131:=Tryz.sizeOf75
 v131:=Tryz.zeroValue75
 t182:=Tryz.underlying201
 a182:=Tryz.isAgg201
 z182:=Tryz.sizeOf201
 v182:=Tryz.zeroValue201
 t183:=Tryz.underlying202
 a183:=Tryz.isAgg202
 z183:=Tryz.sizeOf202
 v183:=Tryz.zeroValue202
 t218:=Tryz.underlying223
 a218:=Tryz.isAgg223
 z218:=Tryz.sizeOf223
 v218:=Tryz.zeroValue223
 t222:=Tryz.underlying173
 a222:=Tryz.isAgg173
 z222:=Tryz.sizeOf173
 v222:=Tryz.zeroValue173
 t228:=Tryz.underlying249
 a228:=Tryz.isAgg249
 z228:=Tryz.sizeOf249
 v228:=Tryz.zeroValue249
 t229:=Tryz.underlying250
 a229:=Tryz.isAgg250
 z229:=Tryz.sizeOf250
 v229:=Tryz.zeroValue250}
open Go.Sort Go.RowKit in
theorem Tryz.slices_Sort_int (h8 off cap:Nat) (zs:List Int) (w:World) (k8:Holds (Value.int .i64) w h8 off zs.toArray) (ni:h8<w.heap.size) (bU:zs.length<4611686018427387904):
  Calls Tryz.prog 128 #[.slice (some ⟨h8,off,none⟩) zs.length cap] w fun e w'=>
   e= .returned (.tuple #[])∧∃n os,w'=grow (putRow (Value.int .i64) (Sort.ahead w n) h8 off (zs.mergeSort fun x y=>decide (x≤y)).toArray) os:=Any.slices_Sort_int Tryz.Uc h8 off cap zs w k8 ni bU
def Tryz.Uf:Go.Shelf.Ren:=⟨fun|190=>94|125=>124|258=>123|128=>152|129=>153|302=>144|303=>145|304=>146|305=>147|306=>148|307=>149|308=>92|309=>150|310=>151|333=>172|329=>173|330=>174|334=>175|335=>176|336=>122|344=>199|n=>n,fun|31=>23|9=>9|3=>3|46=>146|0=>0|51=>208|53=>170|4=>4|183=>202|182=>201|131=>75|5=>5|218=>223|222=>173|228=>249|229=>250|n=>n,fun|n=>n⟩
theorem Tryz.Ue:Go.Proofs.Lays.n190 Tryz.prog Tryz.Uf:={
 mixed:=by kernel_rfl
 f125:=Tryz.func124.trans (congrArg some (by kernel_rfl))
 f128:=Tryz.func152.trans (congrArg some (by kernel_rfl))
 f129:=Tryz.func153.trans (congrArg some (by kernel_rfl))
 f190:=Tryz.func94.trans (congrArg some (by kernel_rfl))
 f258:=Tryz.func123.trans (congrArg some (by kernel_rfl))
 f302:=Tryz.func144.trans (congrArg some (by kernel_rfl))
 f303:=Tryz.func145.trans (congrArg some (by kernel_rfl))
 f304:=Tryz.func146.trans (congrArg some (by kernel_rfl))
 f305:=Tryz.func147.trans (congrArg some (by kernel_rfl))
 f306:=Tryz.func148.trans (congrArg some (by kernel_rfl))
 f307:=Tryz.func149.trans (congrArg some (by kernel_rfl))
 f308:=Tryz.func92.trans (congrArg some (by kernel_rfl))
 f309:=Tryz.func150.trans (congrArg some (by kernel_rfl))
 f310:=Tryz.func151.trans (congrArg some (by kernel_rfl))
 f329:=Tryz.func173.trans (congrArg some (by kernel_rfl))
 f330:=Tryz.func174.trans (congrArg some (by kernel_rfl))
 f333:=Tryz.func172.trans (congrArg some (by kernel_rfl))
 f334:=Tryz.func175.trans (congrArg some (by kernel_rfl))
 f335:=Tryz.func176.trans (congrArg some (by kernel_rfl))
 f336:=Tryz.func122.trans (congrArg some (by kernel_rfl))
 f344:=Tryz.func199.trans (congrArg some (by kernel_rfl))
 t0:=Tryz.underlying0
 a0:=Tryz.isAgg0
 z0:=Tryz.sizeOf0
 v0:=Tryz.zeroValue0
 t3:=Tryz.underlying3
 a3:=Tryz.isAgg3
 z3:=Tryz.sizeOf3
 v3:=Tryz.zeroValue3
 t4:=Tryz.underlying4
 a4:=Tryz.isAgg4
 z4:=Tryz.sizeOf4
 v4:=Tryz.zeroValue4
 t5:=Tryz.underlying5
 a5:=Tryz.isAgg5
 z5:=Tryz.sizeOf5
 v5:=Tryz.zeroValue5
 t9:=Tryz.underlying9
 a9:=Tryz.isAgg9
 z9:=Tryz.sizeOf9
 v9:=Tryz.zeroValue9
 t31:=Tryz.underlying23
 a31:=Tryz.isAgg23
 z31:=Tryz.sizeOf23
 v31:=Tryz.zeroValue23
 t46:=Tryz.underlying146
 a46:=Tryz.isAgg146
 z46:=Tryz.sizeOf146
 v46:=Tryz.zeroValue146
 t51:=Tryz.underlying208
 a51:=Tryz.isAgg208
 z51:=Tryz.sizeOf208
 v51:=Tryz.zeroValue208
 t53:=Tryz.underlying170
 a53:=Tryz.isAgg170
 z53:=Tryz.sizeOf170
 v53:=Tryz.zeroValue170
 t131:=Tryz.underlying75
 a131:=Tryz.isAgg75
 z131:=Tryz.sizeOf75
 v131:=Tryz.zeroValue75
 t182:=Tryz.underlying201
 a182:=Tryz.isAgg201
 z182:=Tryz.sizeOf201
 v182:=Tryz.zeroValue201
 t183:=Tryz.underlying202
 a183:=Tryz.isAgg202
 z183:=Tryz.sizeOf202
 v183:=Tryz.zeroValue202
 t218:=Tryz.underlying223
 a218:=Tryz.isAgg223
 z218:=Tryz.sizeOf223
 v218:=Tryz.zeroValue223
 t222:=Tryz.underlying173
 a222:=Tryz.isAgg173
 z222:=Tryz.sizeOf173
 v222:=Tryz.zeroValue173
 t228:=Tryz.underlying249
 a228:=Tryz.isAgg249
 z228:=Tryz.sizeOf249
 v228:=Tryz.zeroValue249
 t229:=Tryz.underlying250
 a229:=Tryz.isAgg250
 z229:=Tryz.sizeOf250
 v229:=Tryz.zeroValue250}
open Go.Sort Go.RowKit in
theorem Tryz.slices_Sort_string (h8 off cap:Nat) (iu:List (List UInt8)) (w:World) (k8:Holds encStr w h8 off iu.toArray) (ni:h8<w.heap.size) (bU:iu.length<4611686018427387904):
  Calls Tryz.prog 94 #[.slice (some ⟨h8,off,none⟩) iu.length cap] w fun e w'=>
   e= .returned (.tuple #[])∧∃n os,w'=grow (putRow encStr (Sort.ahead w n) h8 off (iu.mergeSort fun x y=>decide (x≤y)).toArray) os:=Any.slices_Sort_string Tryz.Ue h8 off cap iu w k8 ni bU
def Tryz.Uj:Go.Shelf.Ren:=⟨fun|99=>161|206=>192|n=>n,fun|9=>9|4=>4|3=>3|n=>n,fun|n=>n⟩
theorem Tryz.Ui:Go.Proofs.Lays.n99 Tryz.prog Tryz.Uj:={
 mixed:=by kernel_rfl
 f99:=Tryz.func161.trans (congrArg some (by kernel_rfl))
 f206:=Tryz.func192.trans (congrArg some (by kernel_rfl))
 t3:=Tryz.underlying3
 a3:=Tryz.isAgg3
 z3:=Tryz.sizeOf3
 v3:=Tryz.zeroValue3
 t4:=Tryz.underlying4
 a4:=Tryz.isAgg4
 z4:=Tryz.sizeOf4
 v4:=Tryz.zeroValue4
 t9:=Tryz.underlying9
 a9:=Tryz.isAgg9
 z9:=Tryz.sizeOf9
 v9:=Tryz.zeroValue9}
open Go.RowKit Go.Lib in
theorem Tryz.strings_HasPrefix (s p:ByteArray) (w:World):
  Calls Tryz.prog 161 #[.string s, .string p] w fun e w'=>e= .returned (.bool (Lib.hasPrefix s.data.toList p.data.toList))∧w'=w:=Any.strings_HasPrefix Tryz.Ui s p w
def Tryz.Ub:Go.Shelf.Ren:=⟨fun|151=>196|152=>211|137=>217|119=>218|224=>219|225=>220|217=>221|266=>223|n=>n,fun|9=>9|21=>21|4=>4|3=>3|5=>5|0=>0|46=>146|n=>n,fun|n=>n⟩
theorem Tryz.Ua:Go.Proofs.Lays.n151 Tryz.prog Tryz.Ub:={
 mixed:=by kernel_rfl
 f119:=Tryz.func218.trans (congrArg some (by kernel_rfl))
 f137:=Tryz.func217.trans (congrArg some (by kernel_rfl))
 f151:=Tryz.func196.trans (congrArg some (by kernel_rfl))
 f152:=Tryz.func211.trans (congrArg some (by kernel_rfl))
 f217:=Tryz.func221.trans (congrArg some (by kernel_rfl))
 f224:=Tryz.func219.trans (congrArg some (by kernel_rfl))
 f225:=Tryz.func220.trans (congrArg some (by kernel_rfl))
 f266:=Tryz.func223.trans (congrArg some (by kernel_rfl))
 t0:=Tryz.underlying0
 a0:=Tryz.isAgg0
 z0:=Tryz.sizeOf0
 v0:=Tryz.zeroValue0
 t3:=Tryz.underlying3
 a3:=Tryz.isAgg3
 z3:=Tryz.sizeOf3
 v3:=Tryz.zeroValue3
 t4:=Tryz.underlying4
 a4:=Tryz.isAgg4
 z4:=Tryz.sizeOf4
 v4:=Tryz.zeroValue4
 t5:=Tryz.underlying5
 a5:=Tryz.isAgg5
 z5:=Tryz.sizeOf5
 v5:=Tryz.zeroValue5
 t9:=Tryz.underlying9
 a9:=Tryz.isAgg9
 z9:=Tryz.sizeOf9
 v9:=Tryz.zeroValue9
 t21:=Tryz.underlying21
 a21:=Tryz.isAgg21
 z21:=Tryz.sizeOf21
 v21:=Tryz.zeroValue21
 t46:=Tryz.underlying146
 a46:=Tryz.isAgg146
 z46:=Tryz.sizeOf146
 v46:=Tryz.zeroValue146}
open Go.RowKit Go.Lib in
theorem Tryz.strings_ContainsRune_ascii (s:ByteArray) (r:Int) (w:World) (bj:0≤r) (aa:r<128):
  Calls Tryz.prog 196 #[.string s, .int .i32 r] w fun e w'=>e= .returned (.bool (decide (0≤Lib.indexByte s.data.toList r.toNat.toUInt8)))∧w'=w:=Any.strings_ContainsRune_ascii Tryz.Ua s r w bj aa
def Tryz.KB:Go.Shelf.Ren:=⟨fun|105=>136|212=>160|99=>161|165=>139|166=>140|170=>162|169=>141|263=>190|264=>191|206=>192|240=>169|241=>170|276=>197|277=>198|n=>n,fun|9=>9|3=>3|4=>4|20=>20|0=>0|46=>146|109=>215|5=>5|72=>189|76=>193|51=>208|146=>239|53=>170|148=>241|70=>187|37=>52|75=>192|127=>221|164=>246|80=>195|n=>n,fun|n=>n⟩
theorem Tryz.T4:Go.Proofs.Lays.n105 Tryz.prog Tryz.KB:={
 mixed:=by kernel_rfl
 f99:=Tryz.func161.trans (congrArg some (by kernel_rfl))
 f105:=Tryz.func136.trans (congrArg some (by kernel_rfl))
 f165:=Tryz.func139.trans (congrArg some (by kernel_rfl))
 f166:=Tryz.func140.trans (congrArg some (by kernel_rfl))
 f169:=Tryz.func141.trans (congrArg some (by kernel_rfl))
 f170:=Tryz.func162.trans (congrArg some (by kernel_rfl))
 f206:=Tryz.func192.trans (congrArg some (by kernel_rfl))
 f212:=Tryz.func160.trans (congrArg some (by kernel_rfl))
 f240:=Tryz.func169.trans (congrArg some (by kernel_rfl))
 f241:=Tryz.func170.trans (congrArg some (by kernel_rfl))
 f263:=Tryz.func190.trans (congrArg some (by kernel_rfl))
 f264:=Tryz.func191.trans (congrArg some (by kernel_rfl))
 f276:=Tryz.func197.trans (congrArg some (by kernel_rfl))
 f277:=Tryz.func198.trans (congrArg some (by kernel_rfl))
 t0:=Tryz.underlying0
 a0:=Tryz.isAgg0
 z0:=Tryz.sizeOf0
 v0:=Tryz.zeroValue0
 t3:=Tryz.underlying3
 a3:=Tryz.isAgg3
 z3:=Tryz.sizeOf3
 v3:=Tryz.zeroValue3
 t4:=Tryz.underlying4
 a4:=Tryz.isAgg4
 z4:=Tryz.sizeOf4
 v4:=Tryz.zeroValue4
 t5:=Tryz.underlying5
 a5:=Tryz.isAgg5
 z5:=Tryz.sizeOf5
 v5:=Tryz.zeroValue5
 t9:=Tryz.underlying9
 a9:=Tryz.isAgg9
 z9:=Tryz.sizeOf9
 v9:=Tryz.zeroValue9
 t20:=Tryz.underlying20
 a20:=Tryz.isAgg20
 z20:=Tryz.sizeOf20
 v20:=Tryz.zeroValue20
 t37:=Tryz.underlying52
 a37:=Tryz.isAgg52
 z37:=Tryz.sizeOf52
 v37:=Tryz.zeroValue52
 t46:=Tryz.underlying146
 a46:=Tryz.isAgg146
 z46:=Tryz.sizeOf146
 v46:=Tryz.zeroValue146
 t51:=Tryz.underlying208
 a51:=Tryz.isAgg208
 z51:=Tryz.sizeOf208
 v51:=Tryz.zeroValue208
 t53:=Tryz.underlying170
 a53:=Tryz.isAgg170
 z53:=Tryz.sizeOf170
 v53:=Tryz.zeroValue170
 t70:=Tryz.underlying187
 a70:=Tryz.isAgg187
 z70:=Tryz.sizeOf187
 v70:=Tryz.zeroValue187
 t72:=Tryz.underlying189
 a72:=Tryz.isAgg189
 z72:=Tryz.sizeOf189
 v72:=Tryz.zeroValue189
 t75:=Tryz.underlying192
 a75:=Tryz.isAgg192
 z75:=Tryz.sizeOf192
 v75:=Tryz.zeroValue192
 t76:=Tryz.underlying193
 a76:=Tryz.isAgg193
 z76:=Tryz.sizeOf193
 v76:=Tryz.zeroValue193
 t109:=Tryz.underlying215
 a109:=Tryz.isAgg215
 z109:=Tryz.sizeOf215
 v109:=Tryz.zeroValue215
 t127:=Tryz.underlying221
 a127:=Tryz.isAgg221
 z127:=Tryz.sizeOf221
 v127:=Tryz.zeroValue221
 t146:=Tryz.underlying239
 a146:=Tryz.isAgg239
 z146:=Tryz.sizeOf239
 v146:=Tryz.zeroValue239
 t148:=Tryz.underlying241
 a148:=Tryz.isAgg241
 z148:=Tryz.sizeOf241
 v148:=Tryz.zeroValue241
 t164:=Tryz.underlying246
 a164:=Tryz.isAgg246
 z164:=Tryz.sizeOf246
 v164:=Tryz.zeroValue246}
theorem Tryz.Nr:Builder.Extra Tryz.prog Tryz.KB:={
 sizeBuilder:=by kernel_rfl
 liesBuilder:=by kernel_rfl
 t5:=Tryz.underlying5
 a5:=Tryz.isAgg5
 z5:=Tryz.sizeOf5
 v5:=Tryz.zeroValue5
 infoByte:=by kernel_rfl
 cellsByte:=by kernel_rfl
 sizeByte:=by kernel_rfl
 neB5:=by decide}
open Go.RowKit Go.Lib in
theorem Tryz.strings_Repeat (s:ByteArray) (c:Nat) (w:World) (ag:c≤9223372036854775807) (hlen:s.size*c≤140737488355328):
  Calls Tryz.prog 136 #[.string s, .int .i64 c] w fun e w'=>e= .returned (.string ⟨(Lib.repeatL s.data.toList c).toArray⟩)∧Below w.heap.size w w':=Any.strings_Repeat Tryz.T4 Tryz.Nr s c w ag hlen
def Tryz.Uh:Go.Shelf.Ren:=⟨fun|229=>103|n=>n,fun|9=>9|40=>163|31=>23|152=>178|3=>3|0=>0|4=>4|21=>21|154=>180|n=>n,fun|n=>n⟩
theorem Tryz.Ug:Go.Proofs.Lays.n229 Tryz.prog Tryz.Uh:={
 mixed:=by kernel_rfl
 f229:=Tryz.func103.trans (congrArg some (by kernel_rfl))
 t0:=Tryz.underlying0
 a0:=Tryz.isAgg0
 z0:=Tryz.sizeOf0
 v0:=Tryz.zeroValue0
 t3:=Tryz.underlying3
 a3:=Tryz.isAgg3
 z3:=Tryz.sizeOf3
 v3:=Tryz.zeroValue3
 t4:=Tryz.underlying4
 a4:=Tryz.isAgg4
 z4:=Tryz.sizeOf4
 v4:=Tryz.zeroValue4
 t9:=Tryz.underlying9
 a9:=Tryz.isAgg9
 z9:=Tryz.sizeOf9
 v9:=Tryz.zeroValue9
 t21:=Tryz.underlying21
 a21:=Tryz.isAgg21
 z21:=Tryz.sizeOf21
 v21:=Tryz.zeroValue21
 t31:=Tryz.underlying23
 a31:=Tryz.isAgg23
 z31:=Tryz.sizeOf23
 v31:=Tryz.zeroValue23
 t40:=Tryz.underlying163
 a40:=Tryz.isAgg163
 z40:=Tryz.sizeOf163
 v40:=Tryz.zeroValue163
 t152:=Tryz.underlying178
 a152:=Tryz.isAgg178
 z152:=Tryz.sizeOf178
 v152:=Tryz.zeroValue178
 t154:=Tryz.underlying180
 a154:=Tryz.isAgg180
 z154:=Tryz.sizeOf180
 v154:=Tryz.zeroValue180}
open Go.RowKit Go.Lib in
theorem Tryz.strings_FieldsFunc_runes (g:Nat) (EJ:Array Value) (O5:∀args w,(callFunc g args).run Tryz.prog w= .ok (.enter g args) w) (p:Nat→Bool) (s:ByteArray) (w:World) (af:s.size≤4294967296) (aP:PredAtRunes Tryz.prog g EJ p w):
  Calls Tryz.prog 103 #[.string s, .func (.func g) #[] EJ] w fun e w'=>∃A,e= .returned (.slice (some ⟨A,0,none⟩) (Lib.goFieldsP p s).length (Lib.goFieldsP p s).length)∧w.heap.size≤A∧
   w'.ownsRow w.heap.size 9 1 (.slice (some ⟨A,0,none⟩) (Lib.goFieldsP p s).length (Lib.goFieldsP p s).length) (Lib.goFieldsP p s).length ((Lib.goFieldsP p s).map Value.string)∧Below w.heap.size w w':=Any.strings_FieldsFunc_runes Tryz.Ug g EJ O5 p s w af aP (by kernel_rfl) (by kernel_rfl)
def Tryz.Uo:Go.Shelf.Ren:=⟨fun|44=>98|n=>n,fun|25=>23|26=>9|3=>3|4=>4|0=>0|n=>n,fun|n=>n⟩
theorem Tryz.KE:Go.Proofs.SlLaysN.n44 Tryz.prog Tryz.Uo:={
 mixed:=by kernel_rfl
 f44:=⟨Tryz.f98.name,by decide,Tryz.func98.trans (congrArg some (by kernel_rfl))⟩
 t0:=Tryz.underlying0
 a0:=Tryz.isAgg0
 z0:=Tryz.sizeOf0
 v0:=Tryz.zeroValue0
 t3:=Tryz.underlying3
 a3:=Tryz.isAgg3
 z3:=Tryz.sizeOf3
 v3:=Tryz.zeroValue3
 t4:=Tryz.underlying4
 a4:=Tryz.isAgg4
 z4:=Tryz.sizeOf4
 v4:=Tryz.zeroValue4
 t25:=Tryz.underlying23
 a25:=Tryz.isAgg23
 z25:=Tryz.sizeOf23
 v25:=Tryz.zeroValue23
 t26:=Tryz.underlying9
 a26:=Tryz.isAgg9
 z26:=Tryz.sizeOf9
 v26:=Tryz.zeroValue9
 i26:=by kernel_rfl}
open Go.RowKit Go.Lib Go.Sort in
theorem Tryz.slices_Compact_string (h8 off cap:Nat) (zs:List (List UInt8)) (w:World) (k8:Holds encStr w h8 off zs.toArray) (bU:zs.length≤9223372036854775807) (eJ:zs.length≤cap):
  Calls Tryz.prog 98 #[.slice (some ⟨h8,off,none⟩) zs.length cap] w fun e w'=>e= .returned (.slice (some ⟨h8,off,none⟩) (Lib.compact zs).length cap)∧∃q,w'=putRow encStr (Sort.ahead w q) h8 off (Lib.compact zs++List.replicate (zs.length-(Lib.compact zs).length) []).toArray:=AnyG.slices_Compact_string Tryz.KE h8 off cap zs w k8 bU eJ
open Go.RowKit Go.Lib Go.Sort in
theorem Tryz.slices_Compact_string_empty (a:Option Addr) (cap:Nat) (w:World):
  Calls Tryz.prog 98 #[.slice a 0 cap] w fun e w'=>e= .returned (.slice a 0 cap)∧w'=w:=AnyG.slices_Compact_string_empty Tryz.KE a cap w
def Tryz.Un:Go.Shelf.Ren:=⟨fun|6=>94|8=>124|9=>123|19=>152|20=>153|21=>144|22=>145|23=>146|24=>147|25=>148|26=>149|27=>92|28=>150|29=>151|36=>172|31=>173|32=>174|37=>175|38=>176|39=>122|41=>199|n=>n,fun|27=>23|29=>9|3=>3|32=>146|26=>23|0=>0|44=>208|46=>170|4=>4|36=>202|35=>201|41=>75|5=>5|9=>9|53=>223|57=>173|63=>249|64=>250|n=>n,fun|n=>n⟩
theorem Tryz.Um:Go.Proofs.SlLaysM.n6 Tryz.prog Tryz.Un:={
 mixed:=by kernel_rfl
 f6:=⟨Tryz.f94.name,by decide,Tryz.func94.trans (congrArg some (by kernel_rfl))⟩
 f8:=Tryz.func124.trans (congrArg some (by kernel_rfl))
 f9:=⟨Tryz.f123.name,by decide,Tryz.func123.trans (congrArg some (by kernel_rfl))⟩
 f19:=Tryz.func152.trans (congrArg some (by kernel_rfl))
 f20:=Tryz.func153.trans (congrArg some (by kernel_rfl))
 f21:=⟨Tryz.f144.name,by decide,Tryz.func144.trans (congrArg some (by kernel_rfl))⟩
 f22:=⟨Tryz.f145.name,by decide,Tryz.func145.trans (congrArg some (by kernel_rfl))⟩
 f23:=⟨Tryz.f146.name,by decide,Tryz.func146.trans (congrArg some (by kernel_rfl))⟩
 f24:=⟨Tryz.f147.name,by decide,Tryz.func147.trans (congrArg some (by kernel_rfl))⟩
 f25:=⟨Tryz.f148.name,by decide,Tryz.func148.trans (congrArg some (by kernel_rfl))⟩
 f26:=⟨Tryz.f149.name,by decide,Tryz.func149.trans (congrArg some (by kernel_rfl))⟩
 f27:=⟨Tryz.f92.name,by decide,Tryz.func92.trans (congrArg some (by kernel_rfl))⟩
 f28:=⟨Tryz.f150.name,by decide,Tryz.func150.trans (congrArg some (by kernel_rfl))⟩
 f29:=⟨Tryz.f151.name,by decide,Tryz.func151.trans (congrArg some (by kernel_rfl))⟩
 f31:=Tryz.func173.trans (congrArg some (by kernel_rfl))
 f32:=Tryz.func174.trans (congrArg some (by kernel_rfl))
 f36:=⟨Tryz.f172.name,by decide,Tryz.func172.trans (congrArg some (by kernel_rfl))⟩
 f37:=⟨Tryz.f175.name,by decide,Tryz.func175.trans (congrArg some (by kernel_rfl))⟩
 f38:=⟨Tryz.f176.name,by decide,Tryz.func176.trans (congrArg some (by kernel_rfl))⟩
 f39:=⟨Tryz.f122.name,by decide,Tryz.func122.trans (congrArg some (by kernel_rfl))⟩
 f41:=⟨Tryz.f199.name,by decide,Tryz.func199.trans (congrArg some (by kernel_rfl))⟩
 t0:=Tryz.underlying0
 a0:=Tryz.isAgg0
 z0:=Tryz.sizeOf0
 v0:=Tryz.zeroValue0
 t3:=Tryz.underlying3
 a3:=Tryz.isAgg3
 z3:=Tryz.sizeOf3
 v3:=Tryz.zeroValue3
 t4:=Tryz.underlying4
 a4:=Tryz.isAgg4
 z4:=Tryz.sizeOf4
 v4:=Tryz.zeroValue4
 t5:=Tryz.underlying5
 a5:=Tryz.isAgg5
 z5:=Tryz.sizeOf5
 v5:=Tryz.zeroValue5
 t9:=Tryz.underlying9
 a9:=Tryz.isAgg9
 z9:=Tryz.sizeOf9
 v9:=Tryz.zeroValue9
 t26:=Tryz.underlying23
 a26:=Tryz.isAgg23
 z26:=Tryz.sizeOf23
 v26:=Tryz.zeroValue23
 t27:=Tryz.underlying23
 a27:=Tryz.isAgg23
 z27:=Tryz.sizeOf23
 v27:=Tryz.zeroValue23
 t29:=Tryz.underlying9
 a29:=Tryz.isAgg9
 z29:=Tryz.sizeOf9
 v29:=Tryz.zeroValue9
 t32:=Tryz.underlying146
 a32:=Tryz.isAgg146
 z32:=Tryz.sizeOf146
 v32:=Tryz.zeroValue146
 t35:=Tryz.underlying201
 a35:=Tryz.isAgg201
 z35:=Tryz.sizeOf201
 v35:=Tryz.zeroValue201
 t36:=Tryz.underlying202
 a36:=Tryz.isAgg202
 z36:=Tryz.sizeOf202
 v36:=Tryz.zeroValue202
 t41:=Tryz.underlying75
 a41:=Tryz.isAgg75
 z41:=Tryz.sizeOf75
 v41:=Tryz.zeroValue75
 t44:=Tryz.underlying208
 a44:=Tryz.isAgg208
 z44:=Tryz.sizeOf208
 v44:=Tryz.zeroValue208
 t46:=Tryz.underlying170
 a46:=Tryz.isAgg170
 z46:=Tryz.sizeOf170
 v46:=Tryz.zeroValue170
 t53:=Tryz.underlying223
 a53:=Tryz.isAgg223
 z53:=Tryz.sizeOf223
 v53:=Tryz.zeroValue223
 t57:=Tryz.underlying173
 a57:=Tryz.isAgg173
 z57:=Tryz.sizeOf173
 v57:=Tryz.zeroValue173
 t63:=Tryz.underlying249
 a63:=Tryz.isAgg249
 z63:=Tryz.sizeOf249
 v63:=Tryz.zeroValue249
 t64:=Tryz.underlying250
 a64:=Tryz.isAgg250
 z64:=Tryz.sizeOf250
 v64:=Tryz.zeroValue250}
open Go.RowKit Go.Sort in
theorem Tryz.slices_Sort_string_none (p:Option Addr) (cap:Nat) (w:World):
  Calls Tryz.prog 94 #[.slice p 0 cap] w fun e w'=>e= .returned (.tuple #[])∧w'=w:=AnyM.slices_Sort_string_none Tryz.Um p cap w
def Tryz.Ul:Go.Shelf.Ren:=⟨fun|5=>128|8=>124|7=>156|19=>152|20=>153|10=>177|11=>178|12=>179|13=>180|14=>181|15=>182|16=>183|17=>184|18=>185|30=>200|31=>173|32=>174|33=>201|34=>202|35=>203|40=>212|n=>n,fun|23=>72|25=>3|3=>3|32=>146|22=>72|0=>0|44=>208|46=>170|4=>4|36=>202|35=>201|41=>75|5=>5|9=>9|53=>223|57=>173|63=>249|64=>250|n=>n,fun|n=>n⟩
theorem Tryz.Uk:Go.Proofs.SlLaysM.n5 Tryz.prog Tryz.Ul:={
 mixed:=by kernel_rfl
 f5:=⟨Tryz.f128.name,by decide,Tryz.func128.trans (congrArg some (by kernel_rfl))⟩
 f7:=⟨Tryz.f156.name,by decide,Tryz.func156.trans (congrArg some (by kernel_rfl))⟩
 f8:=Tryz.func124.trans (congrArg some (by kernel_rfl))
 f10:=⟨Tryz.f177.name,by decide,Tryz.func177.trans (congrArg some (by kernel_rfl))⟩
 f11:=⟨Tryz.f178.name,by decide,Tryz.func178.trans (congrArg some (by kernel_rfl))⟩
 f12:=⟨Tryz.f179.name,by decide,Tryz.func179.trans (congrArg some (by kernel_rfl))⟩
 f13:=⟨Tryz.f180.name,by decide,Tryz.func180.trans (congrArg some (by kernel_rfl))⟩
 f14:=⟨Tryz.f181.name,by decide,Tryz.func181.trans (congrArg some (by kernel_rfl))⟩
 f15:=⟨Tryz.f182.name,by decide,Tryz.func182.trans (congrArg some (by kernel_rfl))⟩
 f16:=⟨Tryz.f183.name,by decide,Tryz.func183.trans (congrArg some (by kernel_rfl))⟩
 f17:=⟨Tryz.f184.name,by decide,Tryz.func184.trans (congrArg some (by kernel_rfl))⟩
 f18:=⟨Tryz.f185.name,by decide,Tryz.func185.trans (congrArg some (by kernel_rfl))⟩
 f19:=Tryz.func152.trans (congrArg some (by kernel_rfl))
 f20:=Tryz.func153.trans (congrArg some (by kernel_rfl))
 f30:=⟨Tryz.f200.name,by decide,Tryz.func200.trans (congrArg some (by kernel_rfl))⟩
 f31:=Tryz.func173.trans (congrArg some (by kernel_rfl))
 f32:=Tryz.func174.trans (congrArg some (by kernel_rfl))
 f33:=⟨Tryz.f201.name,by decide,Tryz.func201.trans (congrArg some (by kernel_rfl))⟩
 f34:=⟨Tryz.f202.name,by decide,Tryz.func202.trans (congrArg some (by kernel_rfl))⟩
 f35:=⟨Tryz.f203.name,by decide,Tryz.func203.trans (congrArg some (by kernel_rfl))⟩
 f40:=⟨Tryz.f212.name,by decide,Tryz.func212.trans (congrArg some (by kernel_rfl))⟩
 t0:=Tryz.underlying0
 a0:=Tryz.isAgg0
 z0:=Tryz.sizeOf0
 v0:=Tryz.zeroValue0
 t3:=Tryz.underlying3
 a3:=Tryz.isAgg3
 z3:=Tryz.sizeOf3
 v3:=Tryz.zeroValue3
 t4:=Tryz.underlying4
 a4:=Tryz.isAgg4
 z4:=Tryz.sizeOf4
 v4:=Tryz.zeroValue4
 t5:=Tryz.underlying5
 a5:=Tryz.isAgg5
 z5:=Tryz.sizeOf5
 v5:=Tryz.zeroValue5
 t9:=Tryz.underlying9
 a9:=Tryz.isAgg9
 z9:=Tryz.sizeOf9
 v9:=Tryz.zeroValue9
 t22:=Tryz.underlying72
 a22:=Tryz.isAgg72
 z22:=Tryz.sizeOf72
 v22:=Tryz.zeroValue72
 t23:=Tryz.underlying72
 a23:=Tryz.isAgg72
 z23:=Tryz.sizeOf72
 v23:=Tryz.zeroValue72
 t25:=Tryz.underlying3
 a25:=Tryz.isAgg3
 z25:=Tryz.sizeOf3
 v25:=Tryz.zeroValue3
 t32:=Tryz.underlying146
 a32:=Tryz.isAgg146
 z32:=Tryz.sizeOf146
 v32:=Tryz.zeroValue146
 t35:=Tryz.underlying201
 a35:=Tryz.isAgg201
 z35:=Tryz.sizeOf201
 v35:=Tryz.zeroValue201
 t36:=Tryz.underlying202
 a36:=Tryz.isAgg202
 z36:=Tryz.sizeOf202
 v36:=Tryz.zeroValue202
 t41:=Tryz.underlying75
 a41:=Tryz.isAgg75
 z41:=Tryz.sizeOf75
 v41:=Tryz.zeroValue75
 t44:=Tryz.underlying208
 a44:=Tryz.isAgg208
 z44:=Tryz.sizeOf208
 v44:=Tryz.zeroValue208
 t46:=Tryz.underlying170
 a46:=Tryz.isAgg170
 z46:=Tryz.sizeOf170
 v46:=Tryz.zeroValue170
 t53:=Tryz.underlying223
 a53:=Tryz.isAgg223
 z53:=Tryz.sizeOf223
 v53:=Tryz.zeroValue223
 t57:=Tryz.underlying173
 a57:=Tryz.isAgg173
 z57:=Tryz.sizeOf173
 v57:=Tryz.zeroValue173
 t63:=Tryz.underlying249
 a63:=Tryz.isAgg249
 z63:=Tryz.sizeOf249
 v63:=Tryz.zeroValue249
 t64:=Tryz.underlying250
 a64:=Tryz.isAgg250
 z64:=Tryz.sizeOf250
 v64:=Tryz.zeroValue250}
open Go.RowKit Go.Sort in
theorem Tryz.slices_Sort_int_none (p:Option Addr) (cap:Nat) (w:World):
  Calls Tryz.prog 128 #[.slice p 0 cap] w fun e w'=>e= .returned (.tuple #[])∧w'=w:=AnyM.slices_Sort_int_none Tryz.Uk p cap w
end Go.Proofs
namespace Go.Ab.S16
open Go Go.Proofs Go.RowKit
theorem Kl (s:ByteArray) (c:UInt8) (σ:al):AC Tryz.prog 210 [.v (.string s), .v (.string ⟨#[c]⟩)] σ (fun e σ'=>e= .ret (.v (.int .i64 (Lib.indexByte s.data.toList c)))∧σ'=σ):=
 AC.vR (vs:=[.string s, .string ⟨#[c]⟩]) (r:= .int .i64 (Lib.indexByte s.data.toList c)) rfl fun w=>Tryz.strings_Index_one s c w
theorem QN (s p:ByteArray) (σ:al):AC Tryz.prog 161 [.v (.string s), .v (.string p)] σ (fun e σ'=>e= .ret (.v (.bool (Lib.hasPrefix s.data.toList p.data.toList)))∧σ'=σ):=
 AC.vR (vs:=[.string s, .string p]) (r:= .bool (Lib.hasPrefix s.data.toList p.data.toList)) rfl fun w=>Tryz.strings_HasPrefix s p w
theorem Hh (s p:ByteArray) (σ:al):AC Tryz.prog 164 [.v (.string s), .v (.string p)] σ
  (fun e σ'=>e= .ret (.bd [.v (.string ⟨(Lib.trimPrefix s.data.toList p.data.toList).toArray⟩), .v (.bool (Lib.hasPrefix s.data.toList p.data.toList))])∧σ'=σ):=
 AC.vR (vs:=[.string s, .string p]) (r:= .tuple #[.string ⟨(Lib.trimPrefix s.data.toList p.data.toList).toArray⟩, .bool (Lib.hasPrefix s.data.toList p.data.toList)]) rfl fun w=>Tryz.strings_CutPrefix s p w
theorem Oq (s:ByteArray) (r:Int) (σ:al) (bj:0≤r) (aa:r<128):AC Tryz.prog 196 [.v (.string s), .v (.int .i32 r)] σ (fun e σ'=>e= .ret (.v (.bool (decide (0≤Lib.indexByte s.data.toList r.toNat.toUInt8))))∧σ'=σ):=
 AC.vR (vs:=[.string s, .int .i32 r]) (r:= .bool (decide (0≤Lib.indexByte s.data.toList r.toNat.toUInt8))) rfl fun w=>Tryz.strings_ContainsRune_ascii s r w bj aa
theorem Wq (s:ByteArray) (c:Nat) (σ:al) (ag:c≤9223372036854775807) (hlen:s.size*c≤140737488355328):AC Tryz.prog 136 [.v (.string s), .v (.int .i64 (c:Int))] σ (fun e σ'=>e= .ret (.v (.string ⟨(Lib.repeatL s.data.toList c).toArray⟩))∧σ'=σ):=
 AC.U0 (vs:=[.string s, .int .i64 (c:Int)]) (r:= .string ⟨(Lib.repeatL s.data.toList c).toArray⟩) rfl fun w=>Tryz.strings_Repeat s c w ag hlen
theorem HQ:∀xs:List ByteArray,flat (xs.map ab)=xs.map ab
 |[]=>rfl
 |y::ys=>by simp only[List.map_cons,n_];rw[HQ ys];rfl
theorem EF (xs:List ByteArray) (sep:ByteArray) (σ:al) (aA:xs.length≤2^40) (hlen:(Lib.join (xs.map (·.data.toList)) sep.data.toList).length≤140737488355328):
  AC Tryz.prog 114 [.ai (xs.map ab), .v (.string sep)] σ (fun e σ'=>e= .ret (.v (.string ⟨(Lib.join (xs.map (·.data.toList)) sep.data.toList).toArray⟩))∧σ'=σ):=by
 intro w S vs bh aL ao;obtain⟨v,l',rfl,oO,ao⟩:=ao.cons_inv;obtain⟨v2,uE,rfl,qN,ao⟩:=ao.cons_inv;have:=ao.gv;subst this;have:=qN.eh;subst this;have fin:∀e w',(e=Ending.returned (.string ⟨(Lib.join (xs.map (·.data.toList)) sep.data.toList).toArray⟩)∧Below w.heap.size w w')→∃cX σ' S',(cX=cf.ret (.v (.string ⟨(Lib.join (xs.map (·.data.toList)) sep.data.toList).toArray⟩))∧σ'=σ)∧rp w' S' cX e∧da w' S' σ'∧Fr w S (cq σ) w' S' σ':=by
  rintro e w' ⟨rfl,ae⟩;exact⟨_,σ,S,⟨rfl,rfl⟩, .v rfl,Bp bh.lt aL ae,w8 bh.lt ae⟩
 obtain⟨ad,cap,rfl,eJ,ow⟩:=sB oO;rw[List.length_map]at eJ⊢;rcases ow with xT|⟨b,off,sz,vals,rfl,ae,J0,ag,af⟩
 ·have:xs=[]:=by simpa using xT
  subst this;refine(Tryz.strings_Join_none ad cap sep w).mono fun e w' h=>fin e w' ?_;obtain⟨rfl,rfl⟩:=h;exact⟨rfl,Below.refl _ _⟩
 refine(Tryz.strings_Join b off cap xs sep w (fun U x aR=> ?_) (bh.lt b ae) (by omega) eJ hlen).mono fin;have dE:=HQ xs;rw[dE]at J0;obtain⟨y,aF,cl⟩:=J0.get U (ab x) (by rw[List.getElem?_map,aR];rfl)
 rw[ag U y aF,cl.eh]
end Go.Ab.S16
namespace Go.Ab.S16
open Go Go.Proofs
def aM.bG (e:aM):List ByteArray:=e.ins++e.impl++e.order
structure aM.small (e:aM):Prop where
 outs:e.outs.length≤10
 ins:e.ins.length≤10
 impl:e.impl.length≤10
 order:e.order.length≤10
theorem c' (l:List ByteArray):∀y∈l.map ab,y.cells.length=1∧y.plain=true:=AS ab 1 (fun _=>⟨rfl,rfl⟩) l
theorem Hf (e:aM) (σ:al) (h:e.small):
  AC Tryz.prog 53 [e.d] σ (fun r σ'=>r= .ret e.d∧σ'=σ):=by
 refine AC.still ?_ σ;refine AC.forget (R:=fun r _=>r= .ret e.d) ?_ fun r σ' h=>⟨[],aQ.nil _,h,rfl⟩;unfold aM.d;have mh:=fun σ=>uU (e.outs.map ab) σ (c' _) (by simp;have:=h.outs;omega);have nb:=fun σ=>uU (e.ins.map ab) σ (c' _) (by simp;have:=h.ins;omega);have c3:=fun σ=>uU (e.impl.map ab) σ (c' _) (by simp;have:=h.impl;omega);have BZ:=fun σ=>uU (e.order.map ab) σ (c' _) (by simp;have:=h.order;omega);refine AC.bI Tryz.func53 Tryz.ntmps53 fun C ar=> ?_;refine j.J (j.rg [0] fun K I=> ?_);simp only[go_sem];intro bP br hR;have aZ:bP≠br:=fun h=>by rw[h,bE]at hR;cases hR
 apply I;refine j.J ?_;refine j.draw [1,2] [] [bP] [13,15,17,19] [(0,true),(1,true),(3,true),(4,true),(6,true),(7,true),(9,true),(10,true),(2,false),(12,true),(5,false),(8,false),(11,false),(13,false),(14,true),(15,false),(16,true),(17,false),(18,true),(19,false)] (by kernel_rfl) (by decide) (by kernel_rfl) fun K I=> ?_;simp only[go_sem,aZ];refine a1 Tryz.call52 (mh _) ?_;simp only[go_sem,aZ];first|refine⟨fun _ _=>rfl, ?_⟩|skip
 refine a1 Tryz.call52 (nb _) ?_;simp only[go_sem,aZ];first|refine⟨fun _ _=>rfl, ?_⟩|skip
 refine a1 Tryz.call52 (c3 _) ?_;simp only[go_sem,aZ];first|refine⟨fun _ _=>rfl, ?_⟩|skip
 refine a1 Tryz.call52 (BZ _) ?_;simp only[go_sem,aZ];apply I;refine j.J (j.rg [1,2] fun K I=> ?_);simp only[go_sem,aZ];apply I;refine j.ret ar Tryz.func53 (by simp[go_sem]) ?_;simp only[go_sem]
theorem K3 (e:aM) (σ:al) (h:e.small):
  AC Tryz.prog 55 [e.d] σ (fun r σ'=>r= .ret (.ai (e.bG.map ab))∧σ'=σ):=by
 refine AC.still ?_ σ;refine AC.forget (R:=fun r _=>r= .ret (.ai (e.bG.map ab))) ?_ fun r σ' h=>⟨[],aQ.nil _,h,rfl⟩;unfold aM.d;have tn:=fun σ=>B6 [e.ins,e.impl,e.order] σ (by simp) (fun l aA=>by
  simp only[List.mem_cons,List.not_mem_nil,or_false]at aA;rcases aA with rfl|rfl|rfl
  ·have:=h.ins;omega
  ·have:=h.impl;omega
  have:=h.order;omega)
 refine AC.bI Tryz.func55 Tryz.ntmps55 fun C ar=> ?_;refine j.J (j.rg [0] fun K I=> ?_);simp only[go_sem];intro bP;apply I;refine j.J ?_;refine j.fw [1] [9] fun K I=> ?_;simp only[go_sem];refine⟨by decide, ?_⟩;refine a1 Tryz.call36 (tn _) ?_;simp only[go_sem];apply I;refine j.ret ar Tryz.func55 (by simp[go_sem]) ?_;simp only[go_sem];unfold aM.bG;simp
end Go.Ab.S16
namespace Go.Ab
open Go
variable {P : Program} {f : FuncId} {args : List D} {σ σ1 : al}
theorem AC.X0 {R0:cf→Prop} (h:AC P f args σ1 (fun e σ'=>R0 e∧σ'=σ1)) (hle:aQ σ1 σ):AC P f args σ (fun e σ'=>R0 e∧σ'=σ):=by
 intro w S vs bh aL ao;refine(h w S vs bh (aL.le hle) ao).mono ?_;rintro e w' ⟨cX,σ',S',⟨bR,rfl⟩,c1,c6,bl⟩;have DT:∀b,S b→¬cq σ' b:=fun b ae aw=>by
  unfold cq at aw;cases af:av b σ' with
  |none=>exact aw af
  |some o=>exact(aL b o (hle b o af)).1 ae
 have bx:eI w S w' S':=bl.ev fun b ae=>⟨bh.lt b ae,DT b ae⟩;have zY:∀b,cq σ' b→cq σ b:=fun b ae=>by
  unfold cq at*;cases af:av b σ' with
  |none=>exact absurd af ae
  |some o=>rw[hle b o af];simp
 refine⟨cX,σ,S',⟨bR,rfl⟩,c1,fun b o ae=> ?_,{bl with block:=fun b ae au=>bl.block b ae fun aw=>au (zY b aw),new:=fun b ae=> ?_,fh:=fun b ae=> .inl ae}⟩
 ·cases af:av b σ' with
  |some pV=>
   have:=hle b pV af;rw[ae]at this;cases this
   exact c6 b o af
  |none=>
   obtain⟨aa,ah⟩:=aL b o ae;have au:¬cq σ' b:=fun aw=>aw af;refine⟨fun eo=> ?_,ah.ev bx (bl.block b ah.lt au)⟩;rcases bl.new b eo with aJ|aJ|aJ
   ·exact aa aJ
   ·exact au aJ
   have:=ah.lt;omega
 rcases bl.new b ae with aJ|aJ|aJ
 ·exact .inl aJ
 ·exact .inr (.inl (zY b aJ))
 exact .inr (.inr aJ)
theorem AC.FY {r:cf} (h:AC P f args σ1 (fun e σ'=>e=r∧σ'=σ1)) (hle:aQ σ1 σ):AC P f args σ (fun e σ'=>e=r∧σ'=σ):=
 AC.X0 (R0:=fun e=>e=r) h hle
theorem AC.AW {sz:Nat} {xs:List D} (aP:∀b,av b σ1=none→di b sz xs σ1=σ1) (h:AC P f args σ1 (fun e σ'=>∃o,aV o sz xs σ1∧e= .ret (.own o sz xs.length)∧σ'=cellsOf o sz xs++σ1)):
  AC P f args σ1 (fun e σ'=>e= .ret (.ai xs)∧σ'=σ1):=by
 have ah:AC P f args σ1 (fun e σ'=>(e= .ret (.ai xs)∧σ'=σ1)∨∃b,av b σ1=none∧e= .ret (.own (some b) sz xs.length)∧σ'=(b, .arr sz xs)::σ1):=by
  refine h.l7 fun e σ' ⟨o,aq,he,af⟩=> ?_;cases o with
  |some b=>exact .inl (.inr ⟨b,aq.fresh b rfl,he,af⟩)
  |none=>
   have:xs=[]:=aq.zero rfl;subst this;exact .inr ⟨_,_,he,ca.l5 _ _, .inl ⟨rfl,af⟩⟩
 refine ah.o1 fun e σ' bR=> ?_;rcases bR with aJ|⟨b,ae,rfl,rfl⟩
 ·exact .inl aJ
 refine .inr ⟨_,b,sz,xs,rfl,bE .., ?_, ?_⟩
 ·simp only[D.b',true_and];rw[if_pos (Nat.le_refl _),List.take_length]
 simp only[di,if_true];exact aP b ae
end Go.Ab
namespace Go.Ab
open Go
theorem j.im {P:Program} {N:cP} {C:Ctx P N} {todo:List Item} {env:Env} {σ:al} (k sz:Nat) (bj:eget k env= .v (.slice none 0 0)) (h:j C todo (eput k (.own none sz 0) env) σ):j C todo env σ:=
 h.pk fun U=>by
  rw[j6];split
  ·rename_i aR;rw[aR,bj];exact ca.mU sz
  exact ca.refl _
theorem aV.sset {o:Option Nat} {sz:Nat} {xs:List D} {ρ:al} (h:aV o sz xs ρ) {b:Nat} {x:aE} (ae:(av b ρ).isSome=true):Ab.sset b x (cellsOf o sz xs++ρ)=cellsOf o sz xs++Ab.sset b x ρ:=by
 cases o with
 |none=>rfl
 |some c=>
  have aZ:b≠c:=fun e=>by rw[e,h.fresh c rfl]at ae;cases ae
  simp[cellsOf,Ab.sset,aZ]
theorem aV.FW {o:Option Nat} {sz:Nat} {xs:List D} {ρ:al} (h:aV o sz xs ρ) (b:Nat) (x:aE):aV o sz xs (Ab.sset b x ρ):=
 ⟨fun c ag=>by
  rw[jU];split
  ·rename_i he;rw[←he,h.fresh c ag];rfl
  exact h.fresh c ag,h.zero⟩
end Go.Ab
namespace Go.Ab.S16
open Go Go.Proofs
def a_ (n:Nat):D:= .v (.int .i64 (n:Int))
@[go_sem] theorem adi (n:Nat):(a_ n).cells=[a_ n]:=rfl
@[go_sem] theorem adj (n:Nat):(a_ n).plain=true:=rfl
@[go_sem] theorem adh (n:Nat):(a_ n).cell=true:=rfl
structure b9 where
 aU:bK
 mks:List (ByteArray×Nat)
 aI:List (List Nat)
def dG (l:List (ByteArray×Nat)):List (Value×D):=l.map fun p=>(.string p.1,a_ p.2)
def cE (l:List (ByteArray×Nat)) (f:ByteArray):Option Nat:=(l.find? fun p=>f==p.1).map (·.2)
def b9.cells (g:b9) (mb:Nat):List D:=[.ai (g.aU.edges.map aM.d), .ai (g.aU.defs.map ab), .map mb, .ai (g.aI.map fun l=> .ai (l.map a_))]
def b9.d (g:b9) (mb:Nat):D:= .c0 (g.cells mb)
theorem vL (l:List (ByteArray×Nat)) (f:ByteArray):e' (.string f) (dG l)=(cE l f).map a_:=by
 induction l with
 |nil=>rfl
 |cons p r aB=>
  obtain⟨k,n⟩:=p;show(if kj (.string f) (.string k)=true then some (a_ n)else e' (.string f) (dG r))=_
  rw[aB];unfold cE;rw[List.find?_cons];show(if(f==k)=true then _ else _)=_
  cases h:(f==k)<;>simp
theorem vM (l:List (ByteArray×Nat)) (f:ByteArray):∀e∈dG l,kK .string (.string f) e.1=true:=fun e he=>by
 obtain⟨p,_,rfl⟩:=List.mem_map.1 he;rfl
theorem FV (b sz mb:Nat) (xs:List D) (l:List (ByteArray×Nat)) (h:av b [(mb,aE.mp (dG l))]=none):di b sz xs [(mb, .mp (dG l))]=[(mb, .mp (dG l))]:=by
 have aZ:b≠mb:=fun e=>by rw[e,bE]at h;cases h
 simp only[di,if_neg aZ,aE.b'];congr 3
 unfold dG;rw[List.map_map];rfl
def cw (mk:List (ByteArray×Nat)) (a7:List ByteArray):List Nat:=a7.foldl (fun out f=>match cE mk f with|some n=>if out.contains n then out else out++[n]|none=>out) []
theorem yd (mk:List (ByteArray×Nat)) (a7:List ByteArray) (i:Nat) (h:i<a7.length):cw mk (a7.take (i+1))=match cE mk a7[i]with|some n=>if(cw mk (a7.take i)).contains n then cw mk (a7.take i)else cw mk (a7.take i)++[n]|none=>cw mk (a7.take i):=by
 unfold cw;rw[List.take_succ_eq_append_getElem h,List.foldl_append];rfl
theorem vH (mk:List (ByteArray×Nat)) (a7:List ByteArray):∀i,i≤a7.length→(cw mk (a7.take i)).length≤i
 |0,_=>by simp[cw]
 |i+1,h=>by
  have:=vH mk a7 i (by omega);rw[yd mk a7 i (by omega)];split
  ·split
   ·omega
   simp;omega
  omega
theorem GA (l:List Nat) (n:Nat):((l.map fun k:Nat=>(k:Int)).any fun s=>(n:Int)==s)=l.contains n:=by
 induction l with
 |nil=>rfl
 |cons x l aB=>
  rw[List.map_cons,List.any_cons,aB,List.contains_cons];congr 1
  rw[Bool.eq_iff_iff];simp only[beq_iff_eq];omega
theorem K1 (l:List Nat):l.map a_=(l.map fun k:Nat=>(k:Int)).map oQ:=by rw[List.map_map];rfl
theorem zt (o:Option Nat):(o.map a_).getD (.v (.int .i64 0))=a_ (o.getD 0):=by cases o<;>rfl
theorem Bm (o:Option Nat):(o.map a_).isSome=o.isSome:=by cases o<;>rfl
theorem Cz (g:b9) (mb:Nat) (f:ByteArray) (σ:al) (hm:av mb σ=some (.mp (dG g.mks))):
  AC Tryz.prog 33 [g.d mb, .v (.string f)] σ (fun e σ'=>e= .ret (.bd [a_ ((cE g.mks f).getD 0), .v (.bool (cE g.mks f).isSome)])∧σ'=σ):=by
 unfold b9.d b9.cells;have hD:=vL g.mks f;have iJ:=vM g.mks f;have gk:=zt (cE g.mks f);have cW:=Bm (cE g.mks f);refine AC.bI Tryz.func33 Tryz.ntmps33 fun C ar=> ?_;refine j.J (j.rg [0,1] fun K I=> ?_);simp only[go_sem];apply I;refine j.J (j.J (j.rg [0,1] fun K I=> ?_));simp only[go_sem];apply I;refine j.bJ rfl (j.aN (j.J (j.rg [0,1] fun K I=> ?_)));simp only[go_sem,hm,hD,gk,cW];refine⟨⟨rfl,iJ⟩, ?_⟩;apply I;refine j.J (j.rg [6,7] fun K I=> ?_);simp only[go_sem];apply I;refine j.ret ar Tryz.func33 (by simp[go_sem]) ?_;simp only[go_sem]
theorem Uy (g:b9) (mb:Nat) (a7:List ByteArray) (σ:al) (hm:av mb σ=some (.mp (dG g.mks))) (aA:a7.length<2^30):
  AC Tryz.prog 54 [g.d mb, .ai (a7.map ab)] σ (fun e σ'=>∃o,aV o 1 ((cw g.mks a7).map a_) σ∧e= .ret (.own o 1 ((cw g.mks a7).map a_).length)∧σ'=cellsOf o 1 ((cw g.mks a7).map a_)++σ):=by
 unfold b9.d b9.cells;have bn:(a7.map ab).length=a7.length:=List.length_map ..;refine AC.bI Tryz.func54 Tryz.ntmps54 fun C ar=> ?_;refine j.J (j.rg [0,1] fun K I=> ?_);simp only[go_sem];apply I;refine j.J (j.rg [0,1] fun K I=> ?_);simp only[go_sem];apply I;refine j.J (j.J (j.rg [0,1,5] fun K I=> ?_));simp only[go_sem];apply I;refine j.aG (j.im 5 1 rfl ?_);refine j.rebase [0,5,10,11,12] ?_;simp only[go_sem];refine j.while (fun(i:Nat) env' aS=>∃o:Option Nat,(i≤a7.length∧aV o 1 ((cw g.mks (a7.take i)).map a_) σ)∧env'=[(0, .c0 [.ai (g.aU.edges.map aM.d), .ai (g.aU.defs.map ab), .map mb, .ai (g.aI.map fun l=> .ai (l.map a_))]),(5, .own o 1 ((cw g.mks (a7.take i)).map a_).length),(10, .ai (a7.map ab)),(11, .v (.int .i64 (a7.length:Int))),(12, .v (.int .i64 (i:Int)))]∧aS=cellsOf o 1 ((cw g.mks (a7.take i)).map a_)++σ) (fun(i:Nat)=>a7.length-i) 0 ⟨none,⟨by omega,aV.nil _ _⟩,by rw[bn];rfl,rfl⟩ ?_
 rintro i env' aS ⟨o,⟨hi,aT⟩,rfl,rfl⟩ aB;have cH:=aB;refine j.J (j.rg [0,5,10,11,12] fun K I=> ?_);simp only[go_sem];apply I;refine j.J ?_;refine j.cond rfl (fun h'=> ?_) (fun h'=> ?_)
 ·have aC:i<a7.length:=by simpa using h'
  have aq:=b6 ab a7 i aC;rw[ab]at aq;have bf:(0:Int)≤(i:Int):=by omega
  have bp:(i:Int)<((a7.map ab).length:Int):=by omega
  have kH:=aT.keep hm;have hD:=vL g.mks a7[i];have iJ:=vM g.mks a7[i];have eu:=yd g.mks a7 i aC;have hlen:=vH g.mks a7 i hi;have aH:=aT.bL;have aw:=aT.cB;have cv:List.take ((cw g.mks (a7.take i)).map a_).length ((cw g.mks (a7.take i)).map a_)=(cw g.mks (a7.take i)).map a_:=List.take_of_length_le (Nat.le_refl _);refine j.aN (j.J (j.aG (j.J (j.rg [0,5,10,11,12] fun K I=> ?_))));simp only[go_sem,aq,bf,bp];apply I;refine j.J ?_;rcases kf:cE g.mks a7[i]with _|n;all_goals simp only[kf,Option.map_none,Option.map_some]at hD eu
  ·refine j.rg [0,5,7,10,11,12] fun K I=> ?_;simp only[go_sem,kH,hD];refine⟨⟨rfl,iJ⟩, ?_⟩;apply I;refine j.J (j.rg [0,5,8,9,10,11,12] fun K I=> ?_);simp only[go_sem];apply I;refine j.bJ rfl (j.aN (j.ba (j.rg [0,5,10,11,12] fun K I=> ?_)));simp only[go_sem];apply I;refine j.rebase [0,5,10,11,12] ?_;simp only[go_sem];rw[bH i (by omega)];exact aB (i+1) _ _ ⟨o,⟨by omega,by rw[eu];exact aT⟩,by rw[eu],by rw[eu]⟩ (by omega)
  refine j.rg [0,5,7,10,11,12] fun K I=> ?_;simp only[go_sem,kH,hD];refine⟨⟨rfl,iJ⟩, ?_⟩;apply I;refine j.J (j.rg [0,5,8,9,10,11,12] fun K I=> ?_);simp only[go_sem];refine a1 Tryz.call91 (Hc ((cw g.mks (a7.take i)).map fun k:Nat=>(k:Int)) (n:Int) _ (by rw[←K1];exact aH) (by simp) (by simp;omega)) ?_;simp only[go_sem,GA];apply I;refine j.cond rfl (fun k6=> ?_) (fun k6=> ?_)
  ·refine j.fw [0,5,8,10,11,12] [34] fun K I=> ?_;simp only[go_sem,aH,aw,cv];refine⟨by decide,⟨Nat.le_refl _,fun y aF=>by rw[aF];exact⟨rfl,rfl⟩,by simp only[List.length_map];omega,by simp only[List.length_map];omega⟩,fun ob aO ax=> ?_⟩;apply I;refine j.ba (j.rg [0,5,10,11,12] fun K I=> ?_);simp only[go_sem];apply I;refine j.rebase [0,5,10,11,12] ?_;simp only[go_sem];have ag:(cw g.mks (a7.take i)).contains n=false:=by simpa using k6
   rw[ag]at eu;have bt:(cw g.mks (a7.take i)).map a_++[a_ n]=(cw g.mks (a7.take (i+1))).map a_:=by rw[eu];simp
   rw[bH i (by omega),bt];exact aB (i+1) _ _ ⟨ob,⟨by omega,by rw[←bt];exact aT.app aO ax⟩,rfl,rfl⟩ (by omega)
  refine j.aN (j.ba (j.rg [0,5,10,11,12] fun K I=> ?_));simp only[go_sem];apply I;refine j.rebase [0,5,10,11,12] ?_;simp only[go_sem];have ag:(cw g.mks (a7.take i)).contains n=true:=by simpa using k6
  rw[ag]at eu;rw[bH i (by omega)];exact aB (i+1) _ _ ⟨o,⟨by omega,by rw[eu];exact aT⟩,by rw[eu];rfl,by rw[eu];rfl⟩ (by omega)
 have:i=a7.length:=by simp at h';omega
 subst this;simp only[List.take_length]at*;refine j.exit rfl (j.J (j.rg [5] fun K I=> ?_));simp only[go_sem];apply I;refine j.ret ar Tryz.func54 (by simp[go_sem]) ?_;simp only[go_sem];exact⟨o,aT,rfl,rfl⟩
theorem Uz (mks:List (ByteArray×Nat)) (b mb:Nat) (dL cA dA:D) (a7:List ByteArray) (σ:al) (hm:av mb σ=some (.mp (dG mks))) (ae:av b σ=some (.arr 4 [.agg [dL,cA, .map mb,dA]])) (aA:a7.length<2^30):
  AC Tryz.prog 54 [.ptr b 4 0 0, .ai (a7.map ab)] σ (fun e σ'=>∃o,aV o 1 ((cw mks a7).map a_) σ∧e= .ret (.own o 1 ((cw mks a7).map a_).length)∧σ'=cellsOf o 1 ((cw mks a7).map a_)++σ):=by
 have bn:(a7.map ab).length=a7.length:=List.length_map ..;refine AC.bI Tryz.func54 Tryz.ntmps54 fun C ar=> ?_;refine j.J (j.rg [0,1] fun K I=> ?_);simp only[go_sem];apply I;refine j.J (j.rg [0,1] fun K I=> ?_);simp only[go_sem];apply I;refine j.J (j.J (j.rg [0,1,5] fun K I=> ?_));simp only[go_sem];apply I;refine j.aG (j.im 5 1 rfl ?_);refine j.rebase [0,5,10,11,12] ?_;simp only[go_sem];refine j.while (fun(i:Nat) env' aS=>∃o:Option Nat,(i≤a7.length∧aV o 1 ((cw mks (a7.take i)).map a_) σ)∧env'=[(0, .ptr b 4 0 0),(5, .own o 1 ((cw mks (a7.take i)).map a_).length),(10, .ai (a7.map ab)),(11, .v (.int .i64 (a7.length:Int))),(12, .v (.int .i64 (i:Int)))]∧aS=cellsOf o 1 ((cw mks (a7.take i)).map a_)++σ) (fun(i:Nat)=>a7.length-i) 0 ⟨none,⟨by omega,aV.nil _ _⟩,by rw[bn];rfl,rfl⟩ ?_
 rintro i env' aS ⟨o,⟨hi,aT⟩,rfl,rfl⟩ aB;have cH:=aB;refine j.J (j.rg [0,5,10,11,12] fun K I=> ?_);simp only[go_sem];apply I;refine j.J ?_;refine j.cond rfl (fun h'=> ?_) (fun h'=> ?_)
 ·have aC:i<a7.length:=by simpa using h'
  have aq:=b6 ab a7 i aC;rw[ab]at aq;have bf:(0:Int)≤(i:Int):=by omega
  have bp:(i:Int)<((a7.map ab).length:Int):=by omega
  have kH:=aT.keep hm;have hR:=aT.keep ae;have hD:=vL mks a7[i];have iJ:=vM mks a7[i];have eu:=yd mks a7 i aC;have hlen:=vH mks a7 i hi;have aH:=aT.bL;have aw:=aT.cB;have cv:List.take ((cw mks (a7.take i)).map a_).length ((cw mks (a7.take i)).map a_)=(cw mks (a7.take i)).map a_:=List.take_of_length_le (Nat.le_refl _);refine j.aN (j.J (j.aG (j.J (j.rg [0,5,10,11,12] fun K I=> ?_))));simp only[go_sem,aq,bf,bp];apply I;refine j.J ?_;rcases kf:cE mks a7[i]with _|n;all_goals simp only[kf,Option.map_none,Option.map_some]at hD eu
  ·refine j.rg [0,5,7,10,11,12] fun K I=> ?_;simp only[go_sem,kH,hD,hR];refine⟨⟨rfl,iJ⟩, ?_⟩;apply I;refine j.J (j.rg [0,5,8,9,10,11,12] fun K I=> ?_);simp only[go_sem];apply I;refine j.bJ rfl (j.aN (j.ba (j.rg [0,5,10,11,12] fun K I=> ?_)));simp only[go_sem];apply I;refine j.rebase [0,5,10,11,12] ?_;simp only[go_sem];rw[bH i (by omega)];exact aB (i+1) _ _ ⟨o,⟨by omega,by rw[eu];exact aT⟩,by rw[eu],by rw[eu]⟩ (by omega)
  refine j.rg [0,5,7,10,11,12] fun K I=> ?_;simp only[go_sem,kH,hD,hR];refine⟨⟨rfl,iJ⟩, ?_⟩;apply I;refine j.J (j.rg [0,5,8,9,10,11,12] fun K I=> ?_);simp only[go_sem];refine a1 Tryz.call91 (Hc ((cw mks (a7.take i)).map fun k:Nat=>(k:Int)) (n:Int) _ (by rw[←K1];exact aH) (by simp) (by simp;omega)) ?_;simp only[go_sem,GA];apply I;refine j.cond rfl (fun k6=> ?_) (fun k6=> ?_)
  ·refine j.fw [0,5,8,10,11,12] [34] fun K I=> ?_;simp only[go_sem,aH,aw,cv];refine⟨by decide,⟨Nat.le_refl _,fun y aF=>by rw[aF];exact⟨rfl,rfl⟩,by simp only[List.length_map];omega,by simp only[List.length_map];omega⟩,fun ob aO ax=> ?_⟩;apply I;refine j.ba (j.rg [0,5,10,11,12] fun K I=> ?_);simp only[go_sem];apply I;refine j.rebase [0,5,10,11,12] ?_;simp only[go_sem];have ag:(cw mks (a7.take i)).contains n=false:=by simpa using k6
   rw[ag]at eu;have bt:(cw mks (a7.take i)).map a_++[a_ n]=(cw mks (a7.take (i+1))).map a_:=by rw[eu];simp
   rw[bH i (by omega),bt];exact aB (i+1) _ _ ⟨ob,⟨by omega,by rw[←bt];exact aT.app aO ax⟩,rfl,rfl⟩ (by omega)
  refine j.aN (j.ba (j.rg [0,5,10,11,12] fun K I=> ?_));simp only[go_sem];apply I;refine j.rebase [0,5,10,11,12] ?_;simp only[go_sem];have ag:(cw mks (a7.take i)).contains n=true:=by simpa using k6
  rw[ag]at eu;rw[bH i (by omega)];exact aB (i+1) _ _ ⟨o,⟨by omega,by rw[eu];exact aT⟩,by rw[eu];rfl,by rw[eu];rfl⟩ (by omega)
 have:i=a7.length:=by simp at h';omega
 subst this;simp only[List.take_length]at*;refine j.exit rfl (j.J (j.rg [5] fun K I=> ?_));simp only[go_sem];apply I;refine j.ret ar Tryz.func54 (by simp[go_sem]) ?_;simp only[go_sem];exact⟨o,aT,rfl,rfl⟩
theorem Ux (g:b9) (mb:Nat) (a7:List ByteArray) (σ:al) (hm:av mb σ=some (.mp (dG g.mks))) (aA:a7.length<2^30):
  AC Tryz.prog 54 [g.d mb, .ai (a7.map ab)] σ (fun e σ'=>e= .ret (.ai ((cw g.mks a7).map a_))∧σ'=σ):=
 AC.FY (AC.AW (fun b ae=>FV b 1 mb _ g.mks ae) (Uy g mb a7 [(mb, .mp (dG g.mks))] (bE ..) aA)) (aQ.cons hm (aQ.nil _))
def ready (aI:List (List Nat)) (out:List Nat) (n:Nat):Bool:= !out.contains n&&(aI.getD n []).all out.contains
def jz (aI:List (List Nat)) (some_:List Nat):Nat→List Nat→List Nat
 |0,out=>out
 |k+1,out=>match some_.find? (ready aI out)with
  |some n=>jz aI some_ k (out++[n])
  |none=>out
def iV (aI:List (List Nat)) (some_:List Nat):List Nat:=jz aI some_ some_.length []
theorem nD:∀{l m:List Nat},l.Nodup→(∀x∈l,x∈m)→l.length≤m.length
 |[],_,_,_=>by simp
 |x::l,m,au,af=>by
  have an:x∈m:=af x (by simp);have aa:=List.nodup_cons.1 au;have:=nD (l:=l) (m:=m.erase x) aa.2 (fun y aF=>by
   refine(List.mem_erase_of_ne ?_).2 (af y (by simp[aF]));intro he;subst he;exact aa.1 aF)
  rw[List.length_erase_of_mem an]at this;have:0<m.length:=List.length_pos_of_mem an;simp;omega
def hH (out:List Nat):List (Value×D):=out.map fun n:Nat=>(.int .i64 (n:Int), .v (.bool true))
theorem EW (out:List Nat) (n:Nat):(e' (.int .i64 (n:Int)) (hH out)).getD (.v (.bool false))= .v (.bool (out.contains n)):=by
 induction out with
 |nil=>rfl
 |cons k r aB=>
  show(if kj (.int .i64 (n:Int)) (.int .i64 (k:Int))=true then some (D.v (.bool true))else e' (.int .i64 (n:Int)) (hH r)).getD _=_
  rw[List.contains_cons];show(if(IntKind.i64==IntKind.i64&&(n:Int)==(k:Int))=true then some (D.v (.bool true))else e' (.int .i64 (n:Int)) (hH r)).getD _=_
  by_cases h:n=k
  ·subst h;simp
  have aa:((n:Int)==(k:Int))=false:=by simp;omega
  have ah:(n==k)=false:=by simp[h]
  rw[aa,ah];simpa using aB
theorem K0 (out:List Nat) (n:Nat) (h:out.contains n=false):il (.int .i64 (n:Int)) (.v (.bool true)) (hH out)=hH (out++[n]):=by
 induction out with
 |nil=>rfl
 |cons k r aB=>
  rw[List.contains_cons,Bool.or_eq_false_iff]at h;have aj:n≠k:=by simpa using h.1
  show(if kj (.int .i64 (n:Int)) (.int .i64 (k:Int))=true then _ else _)=_
  have aa:kj (.int .i64 (n:Int)) (.int .i64 (k:Int))=false:=by
   show(IntKind.i64==IntKind.i64&&(n:Int)==(k:Int))=false
   simp;omega
  rw[aa];simp only[Bool.false_eq_true,if_false];rw[show il (.int .i64 (n:Int)) (.v (.bool true)) (List.map (fun n:Nat=>(Value.int .i64 (n:Int),D.v (.bool true))) r)=hH (r++[n])from aB h.2];rfl
theorem B9 (out:List Nat) (n:Nat):∀e∈hH out,kK (.int .i64) (.int .i64 (n:Int)) e.1=true:=fun e he=>by
 obtain⟨p,_,rfl⟩:=List.mem_map.1 he;rfl
theorem Px {α:Type} {p:α→Bool} {l:List α} {i:Nat} (hi:i<l.length) (bj:∀x∈l.take i,p x=false) (h:p l[i]=true):l.find? p=some l[i]:=by
 rw[List.find?_eq_some_iff_getElem];exact⟨h,i,hi,rfl,fun U aR=>by
  have:=bj (l[U]'(by omega)) (by rw[List.mem_take_iff_getElem];exact⟨U,by omega,rfl⟩);simpa using this⟩
theorem U' (dL cA fc:D) (aI:List (List Nat)) (b5:List Nat) (σ:al) (aA:b5.length<2^30) (af:∀n∈b5,n<aI.length) (fj:∀l∈aI,l.length<2^30):
  AC Tryz.prog 56 [.c0 [dL,cA,fc, .ai (aI.map fun l=> .ai (l.map a_))], .ai (b5.map a_)] σ
   (fun e σ'=>∃o,aV o 1 ((iV aI b5).map a_) σ∧e= .ret (.own o 1 ((iV aI b5).map a_).length)∧σ'=cellsOf o 1 ((iV aI b5).map a_)++σ):=by
 have bn:(b5.map a_).length=b5.length:=List.length_map ..;have e_:(aI.map fun l=>D.ai (l.map a_)).length=aI.length:=List.length_map ..;refine AC.bI Tryz.func56 Tryz.ntmps56 fun C ar=> ?_;refine j.J (j.rg [0,1] fun K I=> ?_);simp only[go_sem];apply I;refine j.scope ?_;refine j.J (j.rg [0,1] fun K I=> ?_);simp only[go_sem];intro b1 hg;apply I;refine j.J (j.rg [0,1,5] fun K I=> ?_);simp only[go_sem];apply I;refine j.J ?_;refine j.label ?_;refine j.aG (j.im 6 1 rfl ?_);refine j.rebase [0,1,5,6] ?_;simp only[go_sem];refine j.while (fun(out:List Nat) env' aS=>∃o:Option Nat,(out.Nodup∧(∀n∈out,n∈b5)∧jz aI b5 (b5.length-out.length) out=iV aI b5∧aV o 1 (out.map a_) ((b1, .mp (hH out))::σ))∧env'=[(0, .c0 [dL,cA,fc, .ai (aI.map fun l=> .ai (l.map a_))]),(1, .ai (b5.map a_)),(5, .map b1),(6, .own o 1 (out.map a_).length)]∧aS=cellsOf o 1 (out.map a_)++(b1, .mp (hH out))::σ) (fun(out:List Nat)=>b5.length+1-out.length) [] ⟨none,⟨List.nodup_nil,by simp,rfl,aV.nil _ _⟩,rfl,rfl⟩ ?_;rintro out env' aS ⟨o,⟨cM,iN,cT,aT⟩,rfl,rfl⟩ aB;have cH:=aB;have ew:=nD cM iN;have kH:=aT.keep (bE b1 (.mp (hH out)) σ);have aH:=aT.bL;have aw:=aT.cB;have cv:List.take (out.map a_).length (out.map a_)=out.map a_:=List.take_of_length_le (Nat.le_refl _);generalize x':cellsOf o 1 (out.map a_)++(b1,aE.mp (hH out))::σ=τ at kH aH aw⊢;refine j.aG ?_;refine j.scope ?_;refine j.J ?_;refine j.label ?_;refine j.J (j.J (j.rg [0,1,5,6] fun K I=> ?_));simp only[go_sem]
 apply I;refine j.aG ?_;refine j.rebase [0,1,5,6,12,13,14] ?_;simp only[go_sem];refine j.while (fun(i:Nat) env' aS=>(i≤b5.length∧(∀n∈b5.take i,ready aI out n=false))∧env'=[(0, .c0 [dL,cA,fc, .ai (aI.map fun l=> .ai (l.map a_))]),(1, .ai (b5.map a_)),(5, .map b1),(6, .own o 1 (out.map a_).length),(12, .ai (b5.map a_)),(13, .v (.int .i64 (b5.length:Int))),(14, .v (.int .i64 (i:Int)))]∧τ=aS) (fun(i:Nat)=>b5.length-i) 0 ⟨⟨by omega,by simp⟩,by rw[bn];rfl,rfl⟩ ?_
 rintro i env' aS ⟨⟨hi,dr⟩,rfl,rfl⟩ aB;have eg:=aB;refine j.J (j.rg [0,1,5,6,12,13,14] fun K I=> ?_);simp only[go_sem];apply I;refine j.J ?_;refine j.cond rfl (fun fV=> ?_) (fun fV=> ?_)
 ·have aC:i<b5.length:=by simpa using fV
  have aq:=b6 a_ b5 i aC;rw[a_]at aq;have bf:(0:Int)≤(i:Int):=by omega
  have bp:(i:Int)<((b5.map a_).length:Int):=by omega
  have au:=af b5[i] (List.getElem_mem aC);have cW:=b6 (fun l=>D.ai (l.map a_)) aI b5[i] au;have jq:(0:Int)≤(b5[i]:Int):=by omega
  have jr:(b5[i]:Int)<((aI.map fun l=>D.ai (l.map a_)).length:Int):=by omega
  have hD:=EW out b5[i];have iJ:=B9 out b5[i];refine j.aN (j.J (j.aG (j.J (j.rg [0,1,5,6,12,13,14] fun K I=> ?_))));simp only[go_sem,aq,bf,bp];apply I;refine j.J (j.J (j.rg [0,1,5,6,8,12,13,14] fun K I=> ?_));simp only[go_sem,kH,hD];refine⟨⟨rfl,iJ⟩, ?_⟩;apply I;refine j.cond rfl (fun oe=> ?_) (fun oe=> ?_)
  ·have kI:ready aI out b5[i]=false:=by unfold ready;rw[oe];rfl
   refine j.exit rfl (j.rg [0,1,5,6,12,13,14] fun K I=> ?_);simp only[go_sem];apply I;refine j.rebase [0,1,5,6,12,13,14] ?_;simp only[go_sem];rw[bH i (by omega)];exact eg (i+1) _ _ ⟨⟨by omega,o_ aC dr kI⟩,rfl,rfl⟩ (by omega)
  have lS:out.contains b5[i]=false:=oe;have Ae:(aI[b5[i]].map a_).length=aI[b5[i]].length:=List.length_map ..;have acf:=fj _ (List.getElem_mem au);have eK:aI.getD b5[i] []=aI[b5[i]]:=dC aI b5[i] [] au;refine j.aN (j.J (j.J (j.rg [0,1,5,6,8,12,13,14] fun K I=> ?_)));simp only[go_sem,cW,jq,jr];apply I;refine j.aG ?_;refine j.rebase [0,1,5,6,8,12,13,14,27,28,29] ?_;simp only[go_sem];refine j.while (fun(U:Nat) env' aS=>(U≤aI[b5[i]].length∧∀y∈aI[b5[i]].take U,out.contains y=true)∧env'=[(0, .c0 [dL,cA,fc, .ai (aI.map fun l=> .ai (l.map a_))]),(1, .ai (b5.map a_)),(5, .map b1),(6, .own o 1 (out.map a_).length),(8, .v (.int .i64 (b5[i]:Int))),(12, .ai (b5.map a_)),(13, .v (.int .i64 (b5.length:Int))),(14, .v (.int .i64 (i:Int))),(27, .ai (aI[b5[i]].map a_)),(28, .v (.int .i64 (aI[b5[i]].length:Int))),(29, .v (.int .i64 (U:Int)))]∧τ=aS) (fun(U:Nat)=>aI[b5[i]].length-U) 0 ⟨⟨by omega,by simp⟩,by rw[Ae];rfl,rfl⟩ ?_
  rintro U env' aS ⟨⟨aR,b0⟩,rfl,rfl⟩ aB;have hl:=aB;refine j.J (j.rg [0,1,5,6,8,12,13,14,27,28,29] fun K I=> ?_);simp only[go_sem];apply I;refine j.J ?_;refine j.cond rfl (fun og=> ?_) (fun og=> ?_)
  ·have en:U<aI[b5[i]].length:=by simpa using og
   have fI:=b6 a_ aI[b5[i]] U en;rw[a_]at fI;have dp:(0:Int)≤(U:Int):=by omega
   have dq:(U:Int)<((aI[b5[i]].map a_).length:Int):=by omega
   have Rk:=EW out aI[b5[i]][U];have RV:=B9 out aI[b5[i]][U];refine j.aN (j.J (j.aG (j.J (j.rg [0,1,5,6,8,12,13,14,27,28,29] fun K I=> ?_))));simp only[go_sem,fI,dp,dq];apply I;refine j.J (j.rg [0,1,5,6,8,10,12,13,14,27,28,29] fun K I=> ?_);simp only[go_sem,kH,Rk];refine⟨⟨rfl,RV⟩, ?_⟩;apply I;refine j.cond rfl (fun dx=> ?_) (fun dx=> ?_)
   ·have kI:ready aI out b5[i]=false:=by
     unfold ready;rw[eK];have ax:aI[b5[i]].all out.contains=false:=List.all_eq_false.2 ⟨aI[b5[i]][U],List.getElem_mem en,by simpa using dx⟩;rw[ax,Bool.and_false]
    refine j.exit rfl (j.rg [0,1,5,6,12,13,14] fun K I=> ?_);simp only[go_sem];apply I;refine j.rebase [0,1,5,6,12,13,14] ?_;simp only[go_sem];rw[bH i (by omega)];exact eg (i+1) _ _ ⟨⟨by omega,o_ aC dr kI⟩,rfl,rfl⟩ (by omega)
   refine j.aN (j.ba (j.rg [0,1,5,6,8,12,13,14,27,28,29] fun K I=> ?_));simp only[go_sem];apply I;refine j.rebase [0,1,5,6,8,12,13,14,27,28,29] ?_;simp only[go_sem];rw[bH U (by omega)];refine aB (U+1) _ _ ⟨⟨by omega,fun y aF=> ?_⟩,rfl,rfl⟩ (by omega);rw[List.take_succ_eq_append_getElem en]at aF;rcases List.mem_append.1 aF with aF|aF
   ·exact b0 y aF
   simp only[List.mem_singleton]at aF;rw[aF];simpa using dx
  have hE:U=aI[b5[i]].length:=by simp at og;omega
  subst hE;rw[List.take_length]at b0;have kI:ready aI out b5[i]=true:=by
   unfold ready;rw[eK,lS,List.all_eq_true.2 b0];rfl
  have gX:=Px aC dr kI;have eu:=K0 out b5[i] lS;have fK:sset b1 (.mp (hH (out++[b5[i]]))) τ=cellsOf o 1 (out.map a_)++(b1, .mp (hH (out++[b5[i]])))::σ:=by
   rw[←x',aT.sset (by simp),gz]
  have b7:=aT.FW b1 (.mp (hH (out++[b5[i]])));rw[gz]at b7;have qD:=b7.bL;have hS:=b7.cB;refine j.exit rfl (j.J (j.rg [0,1,5,6,8] fun K I=> ?_));simp only[go_sem,kH,eu,fK];refine⟨⟨rfl,iJ⟩, ?_⟩;apply I;refine j.J ?_;refine j.fw [0,1,5,6,8] [42] fun K I=> ?_;simp only[go_sem,qD,hS,cv];refine⟨by decide,⟨Nat.le_refl _,fun y aF=>by rw[aF];exact⟨rfl,rfl⟩,by simp only[List.length_map];omega,by simp only[List.length_map];omega⟩,fun ob aO ax=> ?_⟩;apply I;refine j.exit rfl ?_;refine j.rebase [0,1,5,6] ?_;simp only[go_sem];have Sd:b5[i]∉out:=fun h=>by rw[List.contains_iff_mem.2 h]at lS;cases lS
  have JF:(out++[b5[i]]).Nodup:=by
   rw[List.nodup_append];exact⟨cM,by simp,fun a bb b ae=>by simp only[List.mem_singleton]at ae;rw[ae];exact fun h=>Sd (h▸bb)⟩
  have J6:∀n∈out++[b5[i]],n∈b5:=fun n au=>by
   rcases List.mem_append.1 au with au|au
   ·exact iN n au
   simp only[List.mem_singleton]at au;rw[au];exact List.getElem_mem aC
  have ik:=nD JF J6;simp only[List.length_append,List.length_singleton]at ik;have bt:out.map a_++[D.v (.int .i64 (b5[i]:Int))]=(out++[b5[i]]).map a_:=by simp[a_]
  rw[bt];refine cH (out++[b5[i]]) _ _ ⟨ob,⟨JF,J6, ?_, ?_⟩,rfl,rfl⟩ (by simp;omega)
  ·rw[←cT,show b5.length-out.length=(b5.length-(out++[b5[i]]).length)+1 by simp;omega];rw[jz,gX]
  rw[←bt];exact b7.app aO ax
 have cC:i=b5.length:=by simp at fV;omega
 subst cC;rw[List.take_length]at dr;have ns:b5.find? (ready aI out)=none:=List.find?_eq_none.2 fun x an=>by rw[dr x an];simp
 have c1:iV aI b5=out:=by
  rw[←cT];cases b5.length-out.length with
  |zero=>rfl
  |succ k=>rw[jz,ns]
 refine j.exit rfl (j.J ?_);rw[←x'];refine j.le (cn.refl _) (aT.drop hg).2 ?_;refine j.rg [6] fun K I=> ?_;simp only[go_sem];apply I;refine j.ret ar Tryz.func56 (by simp[go_sem]) ?_;simp only[go_sem];rw[c1];exact⟨o,(aT.drop hg).1,rfl,rfl⟩
theorem Lm (dL cA fc:D) (aI:List (List Nat)) (b5:List Nat) (σ:al) (aA:b5.length<2^30) (af:∀n∈b5,n<aI.length) (fj:∀l∈aI,l.length<2^30):
  AC Tryz.prog 56 [.c0 [dL,cA,fc, .ai (aI.map fun l=> .ai (l.map a_))], .ai (b5.map a_)] σ (fun e σ'=>e= .ret (.ai ((iV aI b5).map a_))∧σ'=σ):=
 AC.q5 (U' dL cA fc aI b5 [] aA af fj) σ
def sF (n:Nat):Value:= .int .i64 (n:Int)
@[go_sem] theorem ajl (n:Nat):cJ (a_ n)=some (sF n):=rfl
def dY (met bT:List Nat):List Nat:=bT.foldl (fun m n=>if m.contains n then m else m++[n]) met
theorem Yv (met bT:List Nat) (i:Nat) (h:i<bT.length):dY met (bT.take (i+1))=if(dY met (bT.take i)).contains bT[i]then dY met (bT.take i)else dY met (bT.take i)++[bT[i]]:=by
 unfold dY;rw[List.take_succ_eq_append_getElem h,List.foldl_append];rfl
theorem Bz (met bT:List Nat) (n:Nat):dY met (n::bT)=dY (if met.contains n then met else met++[n]) bT:=rfl
theorem yJ:∀(bT met:List Nat),met.length≤(dY met bT).length
 |[],met=>Nat.le_refl _
 |n::bT,met=>by
  rw[Bz];split
  ·exact yJ bT met
  exact Nat.le_trans (by simp) (yJ bT _)
theorem rk:∀(bT met:List Nat),met.Nodup→(dY met bT).Nodup
 |[],met,h=>h
 |n::bT,met,h=>by
  rw[Bz];split
  ·exact rk bT met h
  rename_i au
  refine rk bT _ ?_;rw[List.nodup_append];exact⟨h,by simp,fun a bb b ae=>by simp only[List.mem_singleton]at ae;rw[ae];exact fun e=>au (by rw[List.contains_iff_mem];exact e▸bb)⟩
theorem m_:∀(bT met:List Nat) (x:Nat),x∈dY met bT↔x∈met∨x∈bT
 |[],met,x=>by simp[dY]
 |n::bT,met,x=>by
  rw[Bz,m_ bT];split
  ·rename_i au
   rw[List.contains_iff_mem]at au;constructor
   ·rintro(h|h)
    ·exact .inl h
    exact .inr (.tail _ h)
   rintro(h|h)
   ·exact .inl h
   rcases List.mem_cons.1 h with rfl|h
   ·exact .inl au
   exact .inr h
  rw[List.mem_append,List.mem_singleton,List.mem_cons];constructor
  ·rintro((h|h)|h)
   ·exact .inl h
   ·exact .inr (.inl h)
   exact .inr (.inr h)
  rintro(h|h|h)
  ·exact .inl (.inl h)
  ·exact .inl (.inr h)
  exact .inr h
theorem F_:∀(bT met:List Nat),∃r,dY met bT=met++r
 |[],met=>⟨[],by simp[dY]⟩
 |n::bT,met=>by
  rw[Bz];split
  ·exact F_ bT met
  obtain⟨r,ao⟩:=F_ bT (met++[n]);exact⟨n::r,by rw[ao];simp⟩
def hJ (dS dT b2 b1 cap:Nat) (met q:List Nat) (σ:al):al:=(dS, .arr 1 [.v (.chan (some dT))])::(dT, .e7 cap (q.map sF))::(b2, .arr 1 [.map b1])::(b1, .mp (hH met))::σ
structure sM (dS dT b2 b1:Nat):Prop where
 A7:dS≠dT
 Fu:dS≠b2
 A8:dS≠b1
 B4:dT≠b2
 uT:dT≠b1
 md:b2≠b1
variable {dS dT b2 b1 cap : Nat} {met q : List Nat} {σ : al}
theorem Fy:av dS (hJ dS dT b2 b1 cap met q σ)=some (.arr 1 [.v (.chan (some dT))]):=by simp[hJ,av]
theorem rd_c (h:sM dS dT b2 b1):av dT (hJ dS dT b2 b1 cap met q σ)=some (.e7 cap (q.map sF)):=by simp[hJ,av,h.A7.symm]
theorem L4 (h:sM dS dT b2 b1):av b2 (hJ dS dT b2 b1 cap met q σ)=some (.arr 1 [.map b1]):=by simp[hJ,av,h.Fu.symm,h.B4.symm]
theorem Fx (h:sM dS dT b2 b1):av b1 (hJ dS dT b2 b1 cap met q σ)=some (.mp (hH met)):=by simp[hJ,av,h.A8.symm,h.uT.symm,h.md.symm]
theorem L5 (h:sM dS dT b2 b1) (LR:List Nat):sset dT (.e7 cap (LR.map sF)) (hJ dS dT b2 b1 cap met q σ)=hJ dS dT b2 b1 cap met LR σ:=by simp[hJ,sset,h.A7.symm]
theorem V1 (h:sM dS dT b2 b1) (KS:List Nat):sset b1 (.mp (hH KS)) (hJ dS dT b2 b1 cap met q σ)=hJ dS dT b2 b1 cap KS q σ:=by simp[hJ,sset,h.A8.symm,h.uT.symm,h.md.symm]
theorem uM {α:Type} (a:α) (l:List α):(a::l).toArray[0]?=some a:=rfl
theorem uN {α:Type} (a b:α) (l:List α):(a::b::l).toArray[1]?=some b:=rfl
theorem uO {α:Type} (a b c:α) (l:List α):(a::b::c::l).toArray[2]?=some c:=rfl
theorem gC {n U:Nat} (h:U<n:=by decide):dstB ⟨n,[]⟩ (some U):=⟨h,trivial⟩
theorem L6 (h:sM dS dT b2 b1) (bT met:List Nat) (k B:Nat) (aA:bT.length<2^30) (eJ:B<cap) (Sf:∀n∈bT,n<B) (R3:∀n∈met,n<B) (cM:met.Nodup) (aj:k≤met.length):
  AC Tryz.prog 99 [.ai (bT.map a_), .ptr b2 1 0 0, .ptr dS 1 0 0] (hJ dS dT b2 b1 cap met (met.drop k) σ)
   (fun e σ'=>e= .ret (.bd [])∧σ'=hJ dS dT b2 b1 cap (dY met bT) ((dY met bT).drop k) σ):=by
 have bn:(bT.map a_).length=bT.length:=List.length_map ..;refine AC.bI Tryz.func99 Tryz.ntmps99 fun C ar=> ?_;refine j.J (j.rg [0,1,2] fun K I=> ?_);simp only[go_sem];apply I;refine j.aG ?_;refine j.rebase [1,2,6,7,8] ?_;simp only[go_sem];refine j.while (fun(i:Nat) env' aS=>(i≤bT.length)∧env'=[(1, .ptr b2 1 0 0),(2, .ptr dS 1 0 0),(6, .ai (bT.map a_)),(7, .v (.int .i64 (bT.length:Int))),(8, .v (.int .i64 (i:Int)))]∧aS=hJ dS dT b2 b1 cap (dY met (bT.take i)) ((dY met (bT.take i)).drop k) σ) (fun(i:Nat)=>bT.length-i) 0 ⟨by omega,by rw[bn];rfl,rfl⟩ ?_
 rintro i env' aS ⟨hi,rfl,rfl⟩ aB;have cH:=aB;refine j.J (j.rg [1,2,6,7,8] fun K I=> ?_);simp only[go_sem];apply I;refine j.J ?_;refine j.cond rfl (fun eM=> ?_) (fun eM=> ?_)
 ·have aC:i<bT.length:=by simpa using eM
  have aq:=b6 a_ bT i aC;rw[a_]at aq;have bf:(0:Int)≤(i:Int):=by omega
  have bp:(i:Int)<((bT.map a_).length:Int):=by omega
  have eD:=Yv met bT i aC;have bW:=@Fy dS dT b2 b1 cap (dY met (bT.take i)) ((dY met (bT.take i)).drop k) σ;have hm:=@L4 dS dT b2 b1 cap (dY met (bT.take i)) ((dY met (bT.take i)).drop k) σ h;have aw:=@Fx dS dT b2 b1 cap (dY met (bT.take i)) ((dY met (bT.take i)).drop k) σ h;have hD:=EW (dY met (bT.take i)) bT[i];have iJ:=B9 (dY met (bT.take i)) bT[i];have Tb:=rk (bT.take i) met cM;have S7:∀x∈dY met (bT.take i),x<B:=fun x an=>by
   rcases(m_ (bT.take i) met x).1 an with an|an
   ·exact R3 x an
   exact Sf x (List.mem_of_mem_take an)
  have jN:=nD Tb (m:=List.range B) (fun x an=>List.mem_range.2 (S7 x an));rw[List.length_range]at jN;have Au:k≤(dY met (bT.take i)).length:=Nat.le_trans aj (yJ (bT.take i) met);refine j.aN (j.J (j.aG (j.J (j.rg [1,2,6,7,8] fun K I=> ?_))));simp only[go_sem,aq,bf,bp];apply I;refine j.J (j.rg [1,2,5,6,7,8] fun K I=> ?_);simp only[go_sem,hm,aw,hD];refine⟨⟨rfl,iJ⟩, ?_⟩;apply I;refine j.cond rfl (fun fV=> ?_) (fun fV=> ?_)
  ·have lS:(dY met (bT.take i)).contains bT[i]=false:=by simpa using fV
   rw[lS]at eD;have eu:=K0 (dY met (bT.take i)) bT[i] lS;have x3:=@V1 dS dT b2 b1 cap (dY met (bT.take i)) ((dY met (bT.take i)).drop k) σ h (dY met (bT.take i)++[bT[i]]);refine j.J (j.rg [1,2,5,6,7,8] fun K I=> ?_);simp only[go_sem,hm,aw,eu,x3];refine⟨⟨rfl,iJ⟩, ?_⟩;apply I;refine j.v' [1,2,5,6,7,8] ?_;refine j.op (uM _ _) rfl nofun gC ?_;simp only[go_sem,Fy];refine j.op (uN _ _ _) rfl nofun gC ?_;simp only[go_sem];refine j.U9 ar.kind ar.round (uO _ _ _ _) rfl rfl rfl rfl rfl (rd_c h) ?_ ?_
   ·simp only[List.length_map,List.length_drop];omega
   have J2:=@L5 dS dT b2 b1 cap (dY met (bT.take i)++[bT[i]]) ((dY met (bT.take i)).drop k) σ h ((dY met (bT.take i)).drop k++[bT[i]]);rw[List.map_append]at J2;have SI:=J2.trans (show _=hJ dS dT b2 b1 cap (dY met (bT.take i)++[bT[i]]) ((dY met (bT.take i)++[bT[i]]).drop k) σ by rw[List.drop_append_of_le_length Au]);refine j.uv ?_;refine(congrArg (j C _ _) SI).mpr ?_;refine j.ba (j.rg [1,2,6,7,8] fun K I=> ?_);simp only[go_sem];apply I;refine j.rebase [1,2,6,7,8] ?_;simp only[go_sem];rw[bH i (by omega)];exact aB (i+1) _ _ ⟨by omega,rfl,by rw[eD];rfl⟩ (by omega)
  refine j.aN (j.ba (j.rg [1,2,6,7,8] fun K I=> ?_));simp only[go_sem];apply I;refine j.rebase [1,2,6,7,8] ?_;simp only[go_sem];have ag:(dY met (bT.take i)).contains bT[i]=true:=by simpa using fV
  rw[ag]at eD;rw[bH i (by omega)];exact aB (i+1) _ _ ⟨by omega,rfl,by rw[eD];rfl⟩ (by omega)
 have:i=bT.length:=by simp at eM;omega
 subst this;refine j.exit rfl ?_;refine j.done ar Tryz.func99 (by simp[go_sem]) ?_;simp only[go_sem];rw[List.take_length]
end Go.Ab.S16
namespace Go.Ab
open Go Go.RowKit
variable {P : Program} {f : FuncId} {args : List D} {σ : al}
theorem zi (xs:List Value):flat (xs.map D.v)=xs.map D.v:=by
 induction xs with
 |nil=>rfl
 |cons x xs aB=>show(D.v x).cells++flat (xs.map D.v)=_;rw[aB];rfl
theorem AC.E4 {e0:TypeId} {R:List Value→Prop} (h:∀(w:World) (S:Nat→Prop) (vs:List Value),lz w S→da w S σ→bq w S args vs→Calls P f vs.toArray w fun e w'=>∃(v:Value) (xs:List Value),e= .returned v∧w'.ownsRow w.heap.size e0 1 v xs.length xs∧xs.all Value.oneCell'=true∧R xs∧Below w.heap.size w w'):
  AC P f args σ (fun e σ'=>∃o xs,R xs∧aV o 1 (xs.map .v) σ∧e= .ret (.own o 1 (xs.map D.v).length)∧σ'=cellsOf o 1 (xs.map .v)++σ):=by
 intro w S vs bh aL ao;refine(h w S vs bh aL ao).mono ?_;rintro e w' ⟨v,xs,rfl,⟨aA,gp⟩,cc,bR,ae⟩;rcases gp with⟨rfl,au⟩|⟨g,cap,cur,rfl,acg,aq,eJ,R2,bU,cv⟩
 ·obtain rfl:xs=[]:=List.length_eq_zero_iff.1 au;exact⟨.ret (.own none 1 0),σ,S,⟨none,[],bR,aV.nil _ _,rfl,rfl⟩, .hV,Bp bh.lt aL ae,w8 bh.lt ae⟩
 have bl:av g σ=none:=by
  cases af:av g σ with
  |none=>rfl
  |some o=>have:=(aL g o af).2.lt;omega
 have Ah:¬S g:=fun af=>by have:=bh.lt g af;omega
 have c7:=w8 (σ:=σ) bh.lt ae;refine⟨.ret (.own (some g) 1 xs.length),(g, .arr 1 (xs.map .v))::σ,S,⟨some g,xs,bR,⟨fun b he=>by cases he;exact bl,nofun⟩,by rw[List.length_map],rfl⟩, ?_, ?_, ?_⟩
 ·exact .own aq eJ (by omega) R2
 ·intro b o tl;rw[aW]at tl;split at tl
  ·cases tl
   rename_i De
   subst De;refine⟨Ah,cur,e0,0,0,xs,aq, ?_, ?_, ?_, .inl (Nat.le_refl _)⟩
   ·rw[zi];exact wa _ cc
   ·intro k x aj;rw[←cv,Nat.mul_one,List.getElem?_take]at aj;split at aj
    ·simpa using aj
    cases aj
   intro x an;obtain⟨y,_,rfl⟩:=List.mem_map.1 an;rfl
  exact Bp bh.lt aL ae b o tl
 refine{c7 with fh:=fun b aw=> ?_};unfold cq at*;rw[aW]at aw;by_cases De:b=g
 ·exact .inr (by omega)
 rw[if_neg De]at aw;exact .inl aw
end Go.Ab
