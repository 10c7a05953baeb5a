/- A part of a proof about the given program: the abstract machine, what functions compute, laid in few texts. -/
import Derived.Test.YticjnnmnjfpopaaGreatDoorKEf
set_option linter.unusedSimpArgs false
set_option linter.unusedVariables false
set_option linter.constructorNameAsVariable false
namespace Go.Ab.S16
open Go Go.Proofs Go.RowKit
theorem Pc {P:Program} {T:TypeId} (h:P.underlying T=some .bool) (a b:Bool) (d:Nat):gy P (Op.equalIn (d+1) T (.bool a) (.bool b))=some (a==b):=by
 simp only[Op.equalIn,nI,yt,h,Option.bind_some,fN]
theorem Hv {P:Program} {T:TypeId} (h:P.underlying T=some .bool) (a b:Bool):gy P (Op.equal T (.bool a) (.bool b))=some (a==b):=Pc h a b 9999
section
variable (P : Program) (T : TypeId) (x y : Operand)
@[go_sem] theorem Zn (a b:Bool) (h:P.underlying T=some .bool):cF P .eql T x y (.v (.bool a)) (.v (.bool b))= .val True (.v (.bool (a==b))):=by simp[cF,ifcNil,fQ,cJ,dJ,eqGuard,binOp,okV,cx,fN,nI,yr,Hv h]
@[go_sem] theorem Zu (a b:Bool) (h:P.underlying T=some .bool):cF P .neq T x y (.v (.bool a)) (.v (.bool b))= .val True (.v (.bool (a !=b))):=by simp[cF,ifcNil,fQ,cJ,dJ,eqGuard,binOp,okV,cx,fN,nI,yr,Hv h,bne]
end
theorem Tz (s:ByteArray) (g:FuncId) (p:Nat→Bool) (σ:al) (gE:∀args w,(callFunc g args).run Tryz.prog w= .ok (.enter g args) w)
  (aP:∀(r:Nat) (σ:al),AC Tryz.prog g [.v (.int .i32 (r:Int))] σ (fun e σ'=>e= .ret (.v (.bool (p r)))∧σ'=σ)):
  AC Tryz.prog 195 [.v (.string s), .bX (.func g) [] [], .v (.bool true)] σ (fun e σ'=>e= .ret (.v (.int .i64 (Lib.idxFunc p true s)))∧σ'=σ):=by
 refine AC.still ?_ σ;refine AC.forget (R:=fun e _=>e= .ret (.v (.int .i64 (Lib.idxFunc p true s)))) ?_ fun e σ' h=>⟨[],aQ.nil _,h,rfl⟩;refine AC.bI Tryz.func195 Tryz.ntmps195 fun C ar=> ?_;refine j.J (j.rg [0,1,2] fun K I=> ?_);simp only[go_sem];apply I;refine j.J (j.J (j.rg [0,1,2] fun K I=> ?_));simp only[go_sem];intro bi;apply I;refine j.aG ?_;refine j.rebase [1,2,10] ?_;simp only[go_sem];refine j.while (fun(pos:Nat) env' aS=>∃iA:Nat,(Lib.idxFuncFrom p true s iA pos=Lib.idxFunc p true s∧s.size≤pos+iA)∧env'=[(1, .bX (.func g) [] []),(2, .v (.bool true)),(10, .ptr bi 0 0 0)]∧aS=[(bi, .lq s pos)]) (fun(pos:Nat)=>s.size-pos) 0 ⟨s.size,⟨rfl,by omega⟩,rfl,rfl⟩ ?_;rintro pos env' aS ⟨iA,⟨pE,ack⟩,rfl,rfl⟩ aB;have cH:=aB;refine j.J ?_;rcases Nat.lt_or_ge pos s.size with dv|dv
 ·refine j.rg [1,2,10] fun K I=> ?_;simp only[go_sem,dv];apply I;refine j.J (j.bZ rfl (j.aN (j.aG (j.J (j.rg [1,2,10,11] fun K I=> ?_)))));simp only[go_sem];obtain⟨w_,rfl⟩:∃w_,iA=w_+1:=⟨iA-1,by omega⟩;have Av:=Lib.width_pos s pos;simp only[Lib.idxFuncFrom,if_pos dv]at pE;apply I;refine j.J (j.rg [1,2,7,8,10] fun K I=> ?_);simp only[go_sem];refine⟨g,gE,(aP _ _).mono ?_⟩;rintro e σ1 ⟨rfl,rfl⟩;simp only[go_sem];apply I;refine j.cond rfl (fun eW=> ?_) (fun eW=> ?_)
  ·have vx:p (Utf8.decode s pos).1=true:=by simpa using eW
   refine j.J (j.rg [7] fun K I=> ?_);simp only[go_sem];apply I;refine j.ret ar Tryz.func195 (by simp[go_sem]) ?_;simp only[go_sem];rw[if_pos vx]at pE;rw[pE]
  have vx:¬p (Utf8.decode s pos).1=true:=by simpa using eW
  refine j.aN (j.ba ?_);refine j.rebase [1,2,10] ?_;simp only[go_sem];rw[if_neg vx]at pE;exact aB (pos+(Utf8.decode s pos).2) _ _ ⟨w_,⟨pE,by omega⟩,rfl,rfl⟩ (by omega)
 have JV:¬pos<s.size:=by omega
 refine j.rg [1,2,10] fun K I=> ?_;simp only[go_sem,JV];apply I;refine j.J (j.bJ rfl (j.exit rfl (j.J (j.rg [] fun K I=> ?_))));simp only[go_sem];apply I;refine j.ret ar Tryz.func195 (by simp[go_sem]) ?_;simp only[go_sem];rw[←pE,Lib.idxFuncFrom_end p true s iA pos JV]
theorem X2 (s:ByteArray) (g:FuncId) (p:Nat→Bool) (σ:al) (gE:∀args w,(callFunc g args).run Tryz.prog w= .ok (.enter g args) w)
  (aP:∀(r:Nat) (σ:al),AC Tryz.prog g [.v (.int .i32 (r:Int))] σ (fun e σ'=>e= .ret (.v (.bool (p r)))∧σ'=σ)):
  AC Tryz.prog 165 [.v (.string s), .bX (.func g) [] []] σ (fun e σ'=>e= .ret (.v (.int .i64 (Lib.idxFunc p true s)))∧σ'=σ):=by
 refine AC.bI Tryz.func165 Tryz.ntmps165 fun C ar=> ?_;refine j.J (j.rg [0,1] fun K I=> ?_);simp only[go_sem];apply I;refine j.J (j.rg [0,1] fun K I=> ?_);simp only[go_sem];refine a1 Tryz.call195 (Tz s g p _ gE aP) ?_;simp only[go_sem];apply I;refine j.ret ar Tryz.func165 (by simp[go_sem]) ?_;simp only[go_sem]
theorem Of (r:Nat) (σ:al):AC Tryz.prog 166 [.v (.int .i32 (r:Int))] σ (fun e σ'=>e= .ret (.v (.bool (!jQ r)))∧σ'=σ):=by
 refine AC.bI Tryz.func166 Tryz.ntmps166 fun C ar=> ?_;refine j.J (j.rg [0] fun K I=> ?_);simp only[go_sem];apply I;refine j.J (j.rg [0] fun K I=> ?_);simp only[go_sem];refine a1 Tryz.call167 (Vn r _) ?_;simp only[go_sem];apply I;refine j.ret ar Tryz.func166 (by simp[go_sem]) ?_;simp only[go_sem]
def gM (c:UInt8):Bool:=decide (97≤c.toNat∧c.toNat≤122)||decide (65≤c.toNat∧c.toNat≤90)||decide (48≤c.toNat∧c.toNat≤57)||hx.data.toList.contains c
theorem Vm (c:UInt8) (h:c.toNat<128):jQ c.toNat=gM c:=by
 unfold jQ gM;rw[decide_eq_true h,show UInt8.ofNat c.toNat=c by simp];rfl
theorem Vl (n:Nat) (h:128≤n):jQ n=false:=by
 unfold jQ;rw[decide_eq_false (by omega:¬(97≤n∧n≤122)),decide_eq_false (by omega:¬(65≤n∧n≤90)),decide_eq_false (by omega:¬(48≤n∧n≤57)),decide_eq_false (by omega:¬n<128)];rfl
theorem Vk (c:UInt8) (h:gM c=true):c.toNat<128:=by
 unfold gM at h;simp only[Bool.or_eq_true,decide_eq_true_eq]at h;rcases h with((h|h)|h)|h
 ·omega
 ·omega
 ·omega
 have b0:∀x∈hx.data.toList,x.toNat<128:=by decide
 exact b0 c (by simpa using h)
theorem u4 (s:ByteArray) (i:Nat):s.get! i=s.data.toList.getD i 0:=by
 show s.data.get!Internal i=_
 simp[Array.get!Internal_eq_getElem!,List.getD_eq_getElem?_getD,getElem!_def];cases s.data[i]?<;>rfl
theorem OH (n je bP br b3:Nat) (h:je<128):Lib.decodeN n je bP br b3=(je,1):=by unfold Lib.decodeN;rw[if_pos h]
theorem OG (n je bP br b3:Nat) (h:128≤je):128≤(Lib.decodeN n je bP br b3).1:=by
 unfold Lib.decodeN;rw[if_neg (by omega)];repeat' split
 all_goals(simp only;omega)
theorem Hj (s:ByteArray) (i:Nat) (h:(s.data.toList.getD i 0).toNat<128):Utf8.decode s i=((s.data.toList.getD i 0).toNat,1):=by
 have aA:=OH (s.size-i) (s.get! i).toNat (s.get! (i+1)).toNat (s.get! (i+2)).toNat (s.get! (i+3)).toNat (by rw[u4];exact h);rw[←u4];exact(Lib.decode_at s i).trans aA
theorem Hi (s:ByteArray) (i:Nat) (h:128≤(s.data.toList.getD i 0).toNat):128≤(Utf8.decode s i).1:=by
 have aA:=OG (s.size-i) (s.get! i).toNat (s.get! (i+1)).toNat (s.get! (i+2)).toNat (s.get! (i+3)).toNat (by rw[u4];exact h);rw[Lib.decode_at s i];exact aA
theorem Kf (s:ByteArray):∀(f pos:Nat),s.size≤pos+f→(0≤Lib.idxFuncFrom (fun r=> !jQ r) true s f pos↔∃c∈(a' s).drop pos,gM c=false)
 |0,pos,h=>by
  have:(a' s).drop pos=[]:=List.drop_eq_nil_of_le (by show s.data.toList.length≤pos;simpa using h)
  rw[this];simp[Lib.idxFuncFrom]
 |f+1,pos,h=>by
  by_cases aP:pos<s.size
  ·have aC:pos<(a' s).length:=by show pos<s.data.toList.length;simpa using aP
   have eK:s.data.toList.getD pos 0=(a' s)[pos]:=by
    rw[List.getD_eq_getElem?_getD,List.getElem?_eq_getElem (show pos<s.data.toList.length from aC)];rfl
   simp only[Lib.idxFuncFrom,if_pos aP];rw[List.drop_eq_getElem_cons aC];rcases Nat.lt_or_ge ((a' s)[pos]).toNat 128 with aa|aa
   ·rw[Hj s pos (by rw[eK];exact aa),eK];simp only;rw[Vm _ aa];cases ag:gM (a' s)[pos]
    ·simp only[Bool.not_false,if_true];exact⟨fun _=>⟨_,List.mem_cons_self ..,ag⟩,fun _=>by omega⟩
    simp only[Bool.not_true,Bool.false_eq_true,if_false];rw[Kf s f (pos+1) (by omega)];constructor
    ·rintro⟨c,hm,au⟩;exact⟨c, .tail _ hm,au⟩
    rintro⟨c,hm,au⟩;rcases List.mem_cons.1 hm with rfl|hm
    ·rw[ag]at au;cases au
    exact⟨c,hm,au⟩
   have xY:=Vl _ (Hi s pos (by rw[eK];exact aa));simp only[xY,Bool.not_false,if_true];refine⟨fun _=>⟨_,List.mem_cons_self .., ?_⟩,fun _=>by omega⟩;cases ag:gM (a' s)[pos]with
   |false=>rfl
   |true=>have:=Vk _ ag;omega
  have:(a' s).drop pos=[]:=List.drop_eq_nil_of_le (by show s.data.toList.length≤pos;simp;omega);rw[this,Lib.idxFuncFrom_end _ _ _ _ _ aP];simp
theorem Tt (s:ByteArray):decide (Lib.idxFunc (fun r=> !jQ r) true s≥0)= !(a' s).all gM:=by
 have h:=Kf s s.size 0 (by omega);rw[List.drop_zero]at h;cases bb:(a' s).all gM
 ·refine decide_eq_true (h.2 ?_);rw[List.all_eq_false]at bb;obtain⟨c,ag,au⟩:=bb;exact⟨c,ag,by simpa using au⟩
 refine decide_eq_false fun a8=> ?_;obtain⟨c,ag,au⟩:=h.1 a8;rw[List.all_eq_true]at bb;rw[bb c ag]at au;cases au
end Go.Ab.S16
namespace Go.Ab
open Go
variable {P : Program} {l : Nat} {args : List D} {σ σ1 ρ : al} {R : cf → al → Prop}
theorem yR.mono {vs:List Value} {w:World} {R R':Ending→World→Prop} (h:yR P l vs w R) (ao:∀e w',R e w'→R' e w'):yR P l vs w R':=by
 obtain⟨cy,aA,au,ch⟩:=h;exact⟨cy,aA,au,fun c cs=>by
  obtain⟨e,w',aa,ah⟩:=ch c cs;exact⟨e,w',ao _ _ aa,ah⟩⟩
theorem PJ {w w':World} {S:Nat→Prop} (bh:lz w S) (aL:da w S σ) (aa:aQ σ1 σ) (ah:aQ ρ σ) (aJ:dN ρ σ1) {e:Ending} (bR:∃cX σ' S',R cX σ'∧rp w' S' cX e∧da w' S' σ'∧Fr w S (cq σ1) w' S' σ'):
  ∃cX σ' S',(∃gA,R cX gA∧dN ρ gA∧σ'=gA++ρ)∧rp w' S' cX e∧da w' S' σ'∧Fr w S (cq σ) w' S' σ':=by
 obtain⟨cX,gA,S',bR,c1,c6,bl⟩:=bR;have hA:dN ρ gA:=fun b ae=>by
  cases af:av b gA with
  |none=>rfl
  |some o=>
   obtain⟨x,an⟩:=Option.ne_none_iff_exists'.1 ae;rcases bl.fh b (by unfold cq;rw[af];simp)with aw|aw
   ·exact absurd (aJ b ae) aw
   have:=(aL b x (ah b x an)).2.lt;omega
 have bx:eI w S w' S':=bl.ev fun b ae=>⟨bh.lt b ae,fun aw=>by
  unfold cq at aw;cases af:av b σ1 with
  |none=>exact aw af
  |some o=>exact(aL b o (aa b o af)).1 ae⟩
 refine⟨cX,gA++ρ,S',⟨gA,bR,hA,rfl⟩,c1,fun b o ae=> ?_,{bl with block:=fun b ae aw=> ?_,new:=fun b ae=> ?_,fh:=fun b ae=> ?_}⟩
 ·rw[kp]at ae;split at ae
  ·rename_i x an;cases ae;exact c6 b _ an
  have ao:=aL b o (ah b o ae);have au:¬cq σ1 b:=fun aw=>aw (aJ b (by rw[ae];simp));have aC:=ao.2.lt;refine⟨fun af=> ?_,ao.2.ev bx (bl.block b aC au)⟩;rcases bl.new b af with bg|bg|bg
  ·exact ao.1 bg
  ·exact au bg
  omega
 ·exact bl.block b ae fun lM=>aw (by
   unfold cq at*;cases af:av b σ1 with
   |none=>exact absurd af lM
   |some o=>rw[aa b o af];simp)
 ·rcases bl.new b ae with bg|bg|bg
  ·exact .inl bg
  ·refine .inr (.inl ?_);unfold cq at*;cases af:av b σ1 with
   |none=>exact absurd af bg
   |some o=>rw[aa b o af];simp
  exact .inr (.inr bg)
 unfold cq at ae;rw[kp]at ae;split at ae
 ·rename_i x an
  rcases bl.fh b (by unfold cq;rw[an];simp)with bg|bg
  ·refine .inl ?_;unfold cq at*;cases af:av b σ1 with
   |none=>exact absurd af bg
   |some o=>rw[aa b o af];simp
  exact .inr bg
 refine .inl ?_;unfold cq;cases af:av b ρ with
 |none=>exact absurd af ae
 |some o=>rw[ah b o af];simp
theorem h4.frame (h:h4 P l args σ1 R) (aa:aQ σ1 σ) (ah:aQ ρ σ) (aJ:dN ρ σ1):
  h4 P l args σ (fun e σ'=>∃gA,R e gA∧dN ρ gA∧σ'=gA++ρ):=fun w S vs bh aL ak=>
 (h w S vs bh (aL.le aa) ak).mono fun _ _ a8=>PJ bh aL aa ah aJ a8
theorem h4.MU (h:h4 P l args σ1 R) (aa:aQ σ1 σ):h4 P l args σ R:=by
 have:=h.frame (ρ:=[]) aa (aQ.nil _) (dN.nil _);refine this.mono ?_;rintro e σ' ⟨gA,bR,_,rfl⟩;rw[List.append_nil];exact bR
end Go.Ab
namespace Go.Ab
open Go
section
variable {P : Program} {n : Nat} {C : Ctx P ⟨n, []⟩} {k : List Item} {env : Env} {σ τ : al} {l : Nat} {R : cf → al → Prop} {st : LoopState} {eH : Option Code} {f : FuncId} {m : Nat} {iy : Env} {ps : Array Tmp} {ef ct : Code} {fS : Nat}
def wI (jB:LoopState→Option Code→aE) (f:FuncId) (m:Nat) (iy:Env) (ps:Array Tmp) (ef ct:Code) (fS:Nat):Prop:=∀st eH,jB st eH= .cy st eH f m iy ps ef ct fS
variable {jB : LoopState → Option Code → aE}
theorem h4.La {args:List D} {fn:Func} (tg:wI jB f n iy ps ef ct fS) (ax:P.funcs[f]?=some fn) (aA:av l σ=some (jB st eH)) (dv:∀p∈ps.toList,p<n) (au:args.length=ps.size)
  (h:∀C:Ctx P ⟨n,[]⟩,pb C l R→j C [.code ef, .beginRound, .code ct] (q4 ps.toList args iy) σ):h4 P l args σ R:=by
 rw[tg]at aA;exact h4.vQ ax aA dv au h
theorem j.GJ (ar:pb C l R) (tg:wI jB f m iy ps ef ct fS) (aA:av l σ=some (jB .ready eH)) (h:j C k env (sset l (jB .busy eH) σ)):j C (.beginRound::k) env σ:=by
 rw[tg]at aA h;exact j.beginRound ar aA h
theorem j.uy (ar:pb C l R) (tg:wI jB f m iy ps ef ct fS) (aA:av l σ=some (jB st eH)) (bR:R (.ret (.v (.bool true))) (sset l (jB .ready none) σ)):j C [] env σ:=by
 rw[tg]at aA bR;exact j.WA ar aA bR
theorem j.WC (ar:pb C l R) (tg:wI jB f m iy ps ef ct fS) (aA:av l σ=some (jB st eH)) (bR:R (.ret (.v (.bool false))) (sset l (jB .done (some .ret)) σ)):j C (.code .ret::k) env σ:=by
 rw[tg]at aA bR;exact j.WB ar aA bR
theorem j.L0 {N:cP} {C:Ctx P N} {ms:List Nat} (ar:sL C f R ms) {g:Operand} {iA:FuncId} {cg:List D} (aq:ev env g= .bX (.func iA) [] cg) (he:∀args w,(callFunc iA args).run P w= .ok (.enter iA args) w)
  (h:∀(l r:Nat) (i':Ctx P N) (jB:LoopState→Option Code→aE),wI jB f N.n env ps ef ct r→av r σ=none→av l ((r, .ec)::σ)=none→sL i' f R (r::ms)→
   AC P iA (.bX (.yield l) [] []::cg) ((l,jB .ready none)::(r, .ec)::σ) (fun e σ'=>match e with
    | .ret _=>∃st eH,av l σ'=some (jB st eH)∧(st== .busy)=false∧j i' ((eH.map Item.code).toList++k) env (sset l (jB .exhausted eH) σ')
    | .panic d=>cK i' d σ')):j C (.code (.rangeFunc g ps ef ct)::k) env σ:=by
 refine j.rangeFunc ar aq he fun l r i' ao aA zC=> ?_;have:=h l r i' (fun st eH=> .cy st eH f N.n env ps ef ct r) (fun _ _=>rfl) ao aA zC;exact this
theorem aQ.sset {b:Nat} {x:aE} (h:aQ τ σ) (ae:(av b τ).isSome=true):aQ (Ab.sset b x τ) (Ab.sset b x σ):=fun c o ag=>by
 rw[jU]at ag⊢;split at ag
 ·rename_i e
  rw[if_pos e];obtain⟨y,aF⟩:=Option.isSome_iff_exists.1 ae;rw[h b y aF];rw[aF]at ag;exact ag
 rename_i e
 rw[if_neg e];exact h c o ag
end
end Go.Ab
namespace Go.Ab.S16
open Go Go.Proofs Go.RowKit
theorem FX {b:Nat} {x:aE}:∀{τ ρ:al},av b τ=none→sset b x (τ++ρ)=τ++sset b x ρ
 |[],_,_=>rfl
 |(c,o)::τ,ρ,h=>by
  rw[aW]at h;split at h
  ·cases h
  rename_i au
  rw[List.cons_append,fx au,FX h];rfl
def ej (aY az aG:Nat) (s:List UInt8) (c:UInt8) (save:Nat):al:=[(aG, .arr 1 [.v (.int .i64 (save:Int))]),(az, .arr 1 [.v (.string ⟨#[c]⟩)]),(aY, .arr 1 [.v (.string (aK s))])]
structure rq (aY az aG:Nat):Prop where
 FL:aY≠az
 aN:aY≠aG
 GZ:az≠aG
section
variable {aY az aG : Nat} {s : List UInt8} {c : UInt8} {save : Nat} {τ : al}
theorem MA (h:rq aY az aG):av aY (ej aY az aG s c save)=some (.arr 1 [.v (.string (aK s))]):=by
 unfold ej;rw[aW,if_neg h.aN,aW,if_neg h.FL,bE]
theorem My (h:rq aY az aG):av az (ej aY az aG s c save)=some (.arr 1 [.v (.string ⟨#[c]⟩)]):=by
 unfold ej;rw[aW,if_neg h.GZ,bE]
theorem Mz:av aG (ej aY az aG s c save)=some (.arr 1 [.v (.int .i64 (save:Int))]):=by
 unfold ej;rw[bE]
theorem Xu (h:rq aY az aG) (r:List UInt8):sset aY (.arr 1 [.v (.string (aK r))]) (ej aY az aG s c save)=ej aY az aG r c save:=by
 unfold ej;rw[fx h.aN,fx h.FL,gz]
theorem Xt (h:dN (ej aY az aG s c save) τ) (r:List UInt8):dN (ej aY az aG r c save) τ:=fun b ae=>by
 by_cases aa:b=aG
 ·exact h b (by rw[aa];unfold ej;simp)
 by_cases ah:b=az
 ·exact h b (by rw[ah];unfold ej;rw[aW];split<;>simp)
 by_cases aJ:b=aY
 ·exact h b (by rw[aJ];unfold ej;rw[aW];split;(· simp);rw[aW];split<;>simp)
 refine absurd ?_ ae;unfold ej;rw[aW,if_neg aa,aW,if_neg ah,aW,if_neg aJ];rfl
end
theorem BV {α:Type} (a b c d:α) (l:List α):(a::b::c::d::l).toArray[3]?=some d:=rfl
theorem Km:∀(l:List UInt8) (c:UInt8),Lib.indexByte l c=-1∨∃k:Nat,k<l.length∧Lib.indexByte l c=(k:Int)
 |[],_=> .inl rfl
 |b::l,c=>by
  rw[Lib.indexByte];split
  ·exact .inr ⟨0,by simp,rfl⟩
  rcases Km l c with h|⟨k,aa,ah⟩
  ·rw[h];exact .inl rfl
  rw[ah];refine .inr ⟨k+1,by simp;omega, ?_⟩;have aZ:((k:Int)==-1)=false:=by rw[beq_eq_false_iff_ne];omega
  rw[aZ];rfl
theorem oT (l:List UInt8) (a b:Nat):(aK l).extract a b=aK ((l.take b).drop a):=by
 have e:∀x y:ByteArray,x.data=y.data→x=y:=fun x y h=>by cases x;cases y;cases h;rfl
 apply e;rw[ByteArray.data_extract];show l.toArray.extract a b=((l.take b).drop a).toArray
 simp[List.extract_toArray,List.extract_eq_take_drop,List.drop_take]
theorem gu (l:List UInt8):(aK l).size=l.length:=by show l.toArray.size=l.length;simp
structure BN (l:Nat) (c:UInt8) (save:Nat) (kT:List UInt8→al→Prop) (Q:cf→al→Prop):Prop where
 mid:∀r k τ,kT r τ→Lib.indexByte r c=((k:Nat):Int)→k<r.length→h4 Tryz.prog l [.v (.string (aK (r.take (k+save))))] τ (fun e fP=>(e= .ret (.v (.bool true))∧kT (r.drop (k+1)) fP)∨(e= .ret (.v (.bool false))∧Q (.ret (.bd [])) fP)∨∃d,e= .panic d∧Q (.panic d) fP)
 last:∀r τ,kT r τ→Lib.indexByte r c=-1→h4 Tryz.prog l [.v (.string (aK r))] τ (fun e fP=>(∃b,e= .ret (.v (.bool b))∧Q (.ret (.bd [])) fP)∨∃d,e= .panic d∧Q (.panic d) fP)
theorem MP {l:Nat} {c:UInt8} {save:Nat} (ac4:save≤1) {kT:List UInt8→al→Prop} {Q:cf→al→Prop} (ae:BN l c save kT Q) {aY az aG:Nat} (aX:rq aY az aG) (s:List UInt8) (hlen:s.length<2^40)
  (τ σ:al) (CZ:kT s τ) (hA:dN (ej aY az aG s c save) τ) (aa:aQ τ σ) (ah:aQ (ej aY az aG s c save) σ):
  AC Tryz.prog 208 [.bX (.yield l) [] [], .ptr az 1 0 0, .ptr aY 1 0 0, .ptr aG 1 0 0] σ (fun e σ'=>∃fP,aQ fP σ'∧Q e fP):=by
 refine AC.MU (σ1:=τ++ej aY az aG s c save) ?_ (aa.append ah);refine AC.bI Tryz.func208 Tryz.ntmps208 fun C ar=> ?_;have oH:∀{r τ},dN (ej aY az aG r c save) τ→av aY τ=none∧av az τ=none∧av aG τ=none:=fun{r τ} h=>⟨h aY (by rw[MA aX];simp),h az (by rw[My aX];simp),h aG (by rw[Mz];simp)⟩;have gs:∀{r τ},dN (ej aY az aG r c save) τ→av aY (τ++ej aY az aG r c save)=some (.arr 1 [.v (.string (aK r))]):=fun{r τ} h=>by rw[p1 (oH h).1,MA aX]
 have gc:∀{r τ},dN (ej aY az aG r c save) τ→av az (τ++ej aY az aG r c save)=some (.arr 1 [.v (.string ⟨#[c]⟩)]):=fun{r τ} h=>by rw[p1 (oH h).2.1,My aX]
 have P4:∀{r τ},dN (ej aY az aG r c save) τ→av aG (τ++ej aY az aG r c save)=some (.arr 1 [.v (.int .i64 (save:Int))]):=fun{r τ} h=>by rw[p1 (oH h).2.2,Mz]
 have iu:∀{r τ} (jR:List UInt8),dN (ej aY az aG r c save) τ→sset aY (.arr 1 [.v (.string (aK jR))]) (τ++ej aY az aG r c save)=τ++ej aY az aG jR c save:=fun{r τ} jR h=>by rw[FX (oH h).1,Xu aX]
 have pB:(⟨#[c]⟩:ByteArray).size=1:=rfl;refine j.J (j.J ?_);have g1:=gc hA;refine j.rg [0,1,2,3] fun K I=> ?_;simp only[go_sem,g1,pB];apply I;refine j.bJ rfl (j.aN (j.J (j.aG ?_)));refine j.rebase [0,1,2,3] ?_;simp only[go_sem];refine j.while (fun(r:List UInt8) env' aS=>∃wB:al,(kT r wB∧dN (ej aY az aG r c save) wB∧r.length≤s.length)∧env'=[(0, .bX (.yield l) [] []),(1, .ptr az 1 0 0),(2, .ptr aY 1 0 0),(3, .ptr aG 1 0 0)]∧aS=wB++ej aY az aG r c save) (fun(r:List UInt8)=>r.length) s ⟨τ,⟨CZ,hA,Nat.le_refl _⟩,rfl,rfl⟩ ?_;rintro r env' aS ⟨wB,⟨Is,tj,iI⟩,rfl,rfl⟩ aB;have cH:=aB;have g2:=gs tj;have g3:=gc tj;have g4:=P4 tj;have bU:=gu r;refine j.aG (j.J ?_);rcases Km r c with aj|⟨k,eO,aj⟩
 ·refine j.rg [0,1,2,3] fun K I=> ?_;simp only[go_sem,g2,g3];refine a1 Tryz.call210 (Kl (aK r) c _) ?_;simp only[go_sem];have cb:Lib.indexByte (aK r).data.toList c=-1:=aj;simp only[cb]at I⊢;apply I;refine j.J (j.J (j.rg [0,1,2,3,7] fun K I=> ?_));simp only[go_sem];apply I;refine j.bZ rfl (j.exit rfl ?_);refine j.v' [0,2] ?_;refine j.op (uM _ _) rfl nofun gC ?_;simp only[go_sem];refine j.op (uN _ _ _) rfl nofun gC ?_;simp only[go_sem,g2];refine j.Lh (uO _ _ _ _) rfl rfl gC rfl ?_;simp only[go_sem];refine((ae.last r wB Is aj).frame (aQ.append_left _ _) (aQ.append_right tj) tj).mono ?_;rintro e σ' ⟨fP,ow,xr,rfl⟩;rcases ow with⟨Zj,rfl,mA⟩|⟨d,rfl,mA⟩;rotate_left
  ·exact cK.of ar Tryz.func208 ⟨fP,aQ.append_left _ _,mA⟩
  refine j.uv ?_;refine j.done ar Tryz.func208 (by simp[go_sem]) ?_;simp only[go_sem];exact⟨fP,aQ.append_left _ _,mA⟩
 refine j.rg [0,1,2,3] fun K I=> ?_;simp only[go_sem,g2,g3];refine a1 Tryz.call210 (Kl (aK r) c _) ?_;simp only[go_sem];have cb:Lib.indexByte (aK r).data.toList c=(k:Int):=aj;simp only[cb]at I⊢;apply I;refine j.J (j.J (j.rg [0,1,2,3,7] fun K I=> ?_));simp only[go_sem];apply I;refine j.bJ rfl (j.aN (j.J ?_));have hw:IntKind.i64.wrap ((k:Int)+(save:Int))=((k+save:Nat):Int):=by rw[kt _ (by omega) (by omega)];omega
 have an:(aK r).extract 0 (k+save)=aK (r.take (k+save)):=by rw[oT];rfl
 refine j.rg [0,1,2,3,7] fun K I=> ?_;simp only[go_sem,g2,g4,hw,an];refine⟨⟨by omega,by rw[bU];omega⟩, ?_⟩;apply I;refine j.J (j.J ?_);refine j.v' [0,1,2,3,7,8] ?_;refine j.op (uM _ _) rfl nofun gC ?_;simp only[go_sem];refine j.op (uN _ _ _) rfl nofun gC ?_;simp only[go_sem];refine j.Lh (uO _ _ _ _) rfl rfl gC rfl ?_;simp only[go_sem];refine((ae.mid r k wB Is aj eO).frame (aQ.append_left _ _) (aQ.append_right tj) tj).mono ?_;rintro e σ' ⟨fP,ow,xr,rfl⟩;rcases ow with⟨rfl,C0⟩|⟨rfl,mA⟩|⟨d,rfl,mA⟩;rotate_left
 ·refine j.op (BV _ _ _ _ _) rfl nofun gC ?_;simp only[go_sem];refine j.uv ?_;refine j.bZ rfl ?_;refine j.ret ar Tryz.func208 (by simp[go_sem]) ?_;simp only[go_sem];exact⟨fP,aQ.append_left _ _,mA⟩
 ·exact cK.of ar Tryz.func208 ⟨fP,aQ.append_left _ _,mA⟩
 refine j.op (BV _ _ _ _ _) rfl nofun gC ?_;simp only[go_sem];refine j.uv ?_;refine j.bJ rfl (j.aN ?_);have g5:=gs xr;have g6:=gc xr;have ki:IntKind.i64.wrap ((k:Int)+((1:Nat):Int))=((k+1:Nat):Int):=bH k (by omega);have tZ:(aK r).extract (k+1) (aK r).size=aK (r.drop (k+1)):=by rw[oT,gu,List.take_of_length_le (Nat.le_refl _)]
 have g7:=iu (r.drop (k+1)) xr;refine j.rg [0,1,2,3,7] fun K I=> ?_;simp only[go_sem,g5,g6,pB,ki,tZ,g7];refine⟨⟨by omega,by rw[bU];omega,Int.le_refl _⟩, ?_⟩;apply I;refine j.ba ?_;refine j.rebase [0,1,2,3] ?_;simp only[go_sem];refine aB (r.drop (k+1)) _ _ ⟨fP,⟨C0,Xt xr _, ?_⟩,rfl,rfl⟩ ?_
 ·rw[List.length_drop];omega
 rw[List.length_drop];omega
theorem MQ (s:List UInt8) (c:UInt8) (save:Nat) (σ:al):
  AC Tryz.prog 193 [.v (.string (aK s)), .v (.string ⟨#[c]⟩), .v (.int .i64 (save:Int))] σ (fun e σ'=>∃aY az aG,rq aY az aG∧dN (ej aY az aG s c save) σ∧e= .ret (.bX (.func 208) [] [.ptr az 1 0 0, .ptr aY 1 0 0, .ptr aG 1 0 0])∧σ'=ej aY az aG s c save++σ):=by
 refine AC.bI Tryz.func193 Tryz.ntmps193 fun C ar=> ?_;refine j.J (j.rg [0,1,2] fun K I=> ?_);simp only[go_sem];intro aY kE az fB aG hB;apply I;refine j.J (j.rg [3,4,5] fun K I=> ?_);simp only[go_sem];apply I;refine j.ret ar Tryz.func193 (by simp[go_sem]) ?_;simp only[go_sem];have aX:rq aY az aG:=by
  refine⟨fun h=> ?_,fun h=> ?_,fun h=> ?_⟩
  ·subst h;simp at fB
  ·subst h;rw[aW]at hB;split at hB<;>simp at hB
  subst h;simp at hB
 refine⟨aY,az,aG,aX, ?_,rfl,rfl⟩;rw[aW,if_neg (Ne.symm aX.FL)]at fB;rw[aW,if_neg (Ne.symm aX.GZ),aW,if_neg (Ne.symm aX.aN)]at hB;exact .cons hB (.cons fB (.cons kE (dN.nil _)))
theorem XV (s:List UInt8) (c:UInt8) (σ:al):
  AC Tryz.prog 168 [.v (.string (aK s)), .v (.string ⟨#[c]⟩)] σ (fun e σ'=>∃aY az aG,rq aY az aG∧dN (ej aY az aG s c 0) σ∧e= .ret (.bX (.func 208) [] [.ptr az 1 0 0, .ptr aY 1 0 0, .ptr aG 1 0 0])∧σ'=ej aY az aG s c 0++σ):=by
 refine AC.bI Tryz.func168 Tryz.ntmps168 fun C ar=> ?_;refine j.J (j.rg [0,1] fun K I=> ?_);simp only[go_sem];apply I;refine j.J (j.rg [0,1] fun K I=> ?_);simp only[go_sem];refine⟨_,Tryz.call193,(MQ s c 0 _).mono ?_⟩;rintro e σ1 ⟨aY,az,aG,aX,hA,rfl,rfl⟩;simp only[go_sem];apply I;refine j.ret ar Tryz.func168 (by simp[go_sem]) ?_;simp only[go_sem];exact⟨aY,az,aG,aX,hA,rfl,rfl⟩
theorem XU (s:List UInt8) (c:UInt8) (σ:al):
  AC Tryz.prog 163 [.v (.string (aK s)), .v (.string ⟨#[c]⟩)] σ (fun e σ'=>∃aY az aG,rq aY az aG∧dN (ej aY az aG s c 1) σ∧e= .ret (.bX (.func 208) [] [.ptr az 1 0 0, .ptr aY 1 0 0, .ptr aG 1 0 0])∧σ'=ej aY az aG s c 1++σ):=by
 refine AC.bI Tryz.func163 Tryz.ntmps163 fun C ar=> ?_;have pB:(⟨#[c]⟩:ByteArray).size=1:=rfl;refine j.J (j.rg [0,1] fun K I=> ?_);simp only[go_sem];apply I;refine j.J (j.rg [0,1] fun K I=> ?_);simp only[go_sem,pB];refine⟨_,Tryz.call193,(MQ s c 1 _).mono ?_⟩;rintro e σ1 ⟨aY,az,aG,aX,hA,rfl,rfl⟩;simp only[go_sem];apply I;refine j.ret ar Tryz.func163 (by simp[go_sem]) ?_;simp only[go_sem];exact⟨aY,az,aG,aX,hA,rfl,rfl⟩
end Go.Ab.S16
namespace Go.Ab.S16
open Go Go.Proofs Go.RowKit
def eV (parts:List (List UInt8)) (cur:List UInt8):Option (List (List UInt8)):=
 if cur=[]∨cur=[46]then some parts else if cur=[46,46]then(if parts=[]then none else some parts.dropLast)else some (parts++[cur])
def fg:List UInt8→List UInt8→List (List UInt8)→Option (List (List UInt8))
 |[],cur,parts=>eV parts cur
 |c::r,cur,parts=>if c=47 then(eV parts cur).bind (fg r [])else fg r (cur++[c]) parts
theorem G2:∀(r cur:List UInt8) (parts:List (List UInt8)) (k:Nat),Lib.indexByte r 47=(k:Int)→fg r cur parts=(eV parts (cur++r.take k)).bind (fg (r.drop (k+1)) [])
 |[],_,_,k,h=>by simp[Lib.indexByte]at h
 |c::r,cur,parts,k,h=>by
  rw[Lib.indexByte]at h;rw[fg];split at h
  ·rename_i ag
   have aj:k=0:=by omega
   subst aj;rw[if_pos (by simpa using ag)];simp
  rename_i ag
  rw[if_neg (by simpa using ag)];split at h
  ·omega
  obtain⟨U,rfl⟩:∃U,k=U+1:=⟨k-1,by have:=Lib.indexByte_ge r 47;rename_i ah;rw[beq_iff_eq]at ah;omega⟩
  rw[G2 r (cur++[c]) parts U (by omega)];simp
theorem G1:∀(r cur:List UInt8) (parts:List (List UInt8)),Lib.indexByte r 47=-1→fg r cur parts=eV parts (cur++r)
 |[],cur,parts,_=>by simp[fg]
 |c::r,cur,parts,h=>by
  rw[Lib.indexByte]at h;rw[fg];split at h
  ·omega
  rename_i ag
  rw[if_neg (by simpa using ag)];split at h
  ·rename_i ah
   rw[G1 r (cur++[c]) parts (by simpa using ah)];simp
  have:=Lib.indexByte_ge r 47;omega
def dZ (s:List UInt8):List UInt8×Int:=
 if s.length>1000 then([],3)
 else if s.head?=some 47∨s.all gM=false then([],5)
 else match fg s [] []with
  |none=>([],5)
  |some parts=>if Lib.join parts [47]=[]then([],5)else if(Lib.join parts [47]).length>100 then([],3)else(Lib.join parts [47],0)
def ez (p:List UInt8):D:= .v (.string (aK p))
def hU (parts:List (List UInt8)):Nat:=(parts.map fun p=>p.length+1).sum
theorem vG {parts ps:List (List UInt8)} {cur:List UInt8} (h:eV parts cur=some ps):hU ps≤hU parts+cur.length+1:=by
 unfold eV at h;split at h
 ·cases h;omega
 split at h
 ·split at h
  ·cases h
  cases h
  have:∀l:List (List UInt8),hU l.dropLast≤hU l:=fun l=>by
   unfold hU;rw[List.map_dropLast];generalize l.map (fun p=>p.length+1)=m;induction m with
   |nil=>exact Nat.le_refl _
   |cons x m aB=>
    cases m with
    |nil=>simp
    |cons y m=>rw[List.dropLast_cons_cons,List.sum_cons,List.sum_cons];omega
  have:=this parts;omega
 cases h
 unfold hU;rw[List.map_append,List.sum_append];simp;omega
theorem pP (parts:List (List UInt8)):parts.length≤hU parts:=by
 unfold hU;induction parts with
 |nil=>exact Nat.le_refl _
 |cons p r aB=>rw[List.map_cons,List.sum_cons,List.length_cons];omega
theorem EK (parts:List (List UInt8)) (c:UInt8):(Lib.join parts [c]).length≤hU parts:=by
 cases parts with
 |nil=>simp[Lib.join_nil]
 |cons x r=>
  rw[Lib.join_cons];unfold hU Lib.joinTail;rw[List.length_append,List.length_flatten,List.map_cons,List.sum_cons,List.map_map];have:(r.map (List.length∘fun x=>[c]++x)).sum=(r.map fun p=>p.length+1).sum:=by
   congr 1
  omega
def db (l r br b3 b4:Nat) (x:aE) (v2 v3 v4:D):al:=[(l,x),(r, .ec),(b4, .arr 1 [v4]),(b3, .arr 1 [v3]),(br, .arr 1 [v2])]
structure sI (l r br b3 b4:Nat):Prop where
 ES:l≠r
 kk:l≠br
 kM:l≠b3
 kN:l≠b4
 jS:r≠br
 nK:r≠b3
 yw:r≠b4
 jF:br≠b3
 u6:br≠b4
 Ii:b3≠b4
section
variable {l r br b3 b4 : Nat} {x y : aE} {v2 v3 v4 fb iw wy : D}
theorem kz:av l (db l r br b3 b4 x v2 v3 v4)=some x:=bE ..
theorem wV (h:sI l r br b3 b4):av b4 (db l r br b3 b4 x v2 v3 v4)=some (.arr 1 [v4]):=by
 unfold db;rw[aW,if_neg (Ne.symm h.kN),aW,if_neg (Ne.symm h.yw),bE]
theorem wU (h:sI l r br b3 b4):av b3 (db l r br b3 b4 x v2 v3 v4)=some (.arr 1 [v3]):=by
 unfold db;rw[aW,if_neg (Ne.symm h.kM),aW,if_neg (Ne.symm h.nK),aW,if_neg h.Ii,bE]
theorem wT (h:sI l r br b3 b4):av br (db l r br b3 b4 x v2 v3 v4)=some (.arr 1 [v2]):=by
 unfold db;rw[aW,if_neg (Ne.symm h.kk),aW,if_neg (Ne.symm h.jS),aW,if_neg h.u6,aW,if_neg h.jF,bE]
theorem wW:sset l y (db l r br b3 b4 x v2 v3 v4)=db l r br b3 b4 y v2 v3 v4:=by
 unfold db;rw[gz]
theorem G5 (h:sI l r br b3 b4):sset b4 (.arr 1 [wy]) (db l r br b3 b4 x v2 v3 v4)=db l r br b3 b4 x v2 v3 wy:=by
 unfold db;rw[fx (Ne.symm h.kN),fx (Ne.symm h.yw),gz]
theorem G4 (h:sI l r br b3 b4):sset b3 (.arr 1 [iw]) (db l r br b3 b4 x v2 v3 v4)=db l r br b3 b4 x v2 iw v4:=by
 unfold db;rw[fx (Ne.symm h.kM),fx (Ne.symm h.nK),fx h.Ii,gz]
theorem G3 (h:sI l r br b3 b4):sset br (.arr 1 [fb]) (db l r br b3 b4 x v2 v3 v4)=db l r br b3 b4 x fb v3 v4:=by
 unfold db;rw[fx (Ne.symm h.kk),fx (Ne.symm h.jS),fx h.u6,fx h.jF,gz]
theorem Oe {b:Nat} (h:av b (db l r br b3 b4 x v2 v3 v4)=none):av b (db l r br b3 b4 y fb iw wy)=none:=by
 unfold db at*;simp only[aW]at*;repeat' split at h
 all_goals first|cases h|skip
 simp_all
theorem gI {o:Option Nat} {sz:Nat} {xs:List D} (h:aV o sz xs (db l r br b3 b4 x v2 v3 v4)):aV o sz xs (db l r br b3 b4 y fb iw wy):=by
 refine⟨?_,h.2⟩;cases o with
 |none=>exact Cr
 |some b=>exact fun c ag=>Oe (h.1 c ag)
end
end Go.Ab.S16
namespace Go.Ab.S16
open Go Go.Proofs Go.RowKit
def d_ (n:Int):D:= .v (.int .i64 n)
def l1:D:= .v (.string ⟨#[]⟩)
theorem mT (p q:List UInt8):((aK p).toList==(⟨q.toArray⟩:ByteArray).toList)=decide (p=q):=by
 rw[cr,cr];show(p==q)=decide (p=q)
 rw[Bool.eq_iff_iff];simp
def yO (l r br b3 b4:Nat) (x:aE) (parts:List (List UInt8)) (τ:al):Prop:=
 ∃o xs,aV o 1 xs (db l r br b3 b4 x l1 (d_ 0) (.own o 1 parts.length))∧xs.take parts.length=parts.map ez∧parts.length≤xs.length∧τ=cellsOf o 1 xs++db l r br b3 b4 x l1 (d_ 0) (.own o 1 parts.length)
def Gk (l r br b3 b4:Nat) (x:aE) (τ:al):Prop:=
 ∃o xs v4,aV o 1 xs (db l r br b3 b4 x l1 (d_ 5) v4)∧τ=cellsOf o 1 xs++db l r br b3 b4 x l1 (d_ 5) v4
theorem wh {b:Nat} {o:aE} {τ σ:al} (h:aQ τ σ):aQ ((b,o)::τ) ((b,o)::σ):=fun c x ag=>by
 rw[aW]at ag⊢;split at ag
 ·rename_i e;rw[if_pos e];exact ag
 rename_i e;rw[if_neg e];exact h c x ag
theorem GC {b:Nat} {o:aE} {ρ τ:al} (ae:av b ρ=none) (h:dN ρ τ):dN ρ ((b,o)::τ):=fun c ag=>by
 have aZ:c≠b:=fun e=>ag (by rw[e];exact ae);rw[aW,if_neg aZ];exact h c ag
theorem G8 (s:List UInt8) (af:s.length<2^40) (σ:al):
  AC Tryz.prog 138 [.v (.string (aK s))] σ (fun e σ'=>e= .ret (.bd [.v (.string (aK (dZ s).1)),d_ (dZ s).2])∧σ'=σ):=by
 refine AC.still ?_ σ;refine AC.forget (R:=fun e _=>e= .ret (.bd [.v (.string (aK (dZ s).1)),d_ (dZ s).2])) ?_ fun e σ' h=>⟨[],aQ.nil _,h,rfl⟩;refine AC.bI Tryz.func138 Tryz.ntmps138 fun C ar=> ?_;have RG:Lib.hasPrefix (aK s).data.toList (⟨#[47]⟩:ByteArray).data.toList=decide (s.head?=some 47):=by
  show List.isPrefixOf [47] s=_
  cases s with
  |nil=>rfl
  |cons c r=>
   show(47==c&&true)=decide (some c=some 47)
   rw[Bool.and_true];by_cases h:c=47
   ·subst h;rfl
   rw[decide_eq_false (by simpa using h),beq_eq_false_iff_ne];exact fun e=>h e.symm
 have bU:=gu s;have Js:=Tt (aK s);have dD:a' (aK s)=s:=rfl;rw[dD]at Js;refine j.J (j.rg [0] fun K I=> ?_);simp only[go_sem];intro br b3 dP;have iB:b3≠br:=by
  intro e;rw[e]at dP;simp at dP
 have g2:∀v2 v3,av br [(b3, .arr 1 [v3]),(br, .arr 1 [v2])]=some (.arr 1 [v2]):=fun v2 v3=>by rw[aW,if_neg (Ne.symm iB),bE]
 have g3:∀v2 v3,av b3 [(b3, .arr 1 [v3]),(br, .arr 1 [v2])]=some (.arr 1 [v3]):=fun v2 v3=>bE ..;have s2:∀v2 v3 w,sset br (.arr 1 [w]) [(b3, .arr 1 [v3]),(br, .arr 1 [v2])]=[(b3, .arr 1 [v3]),(br, .arr 1 [w])]:=fun v2 v3 w=>by rw[fx (Ne.symm iB),gz]
 have FH:∀v2 v3 w,sset b3 (.arr 1 [w]) [(b3, .arr 1 [v3]),(br, .arr 1 [v2])]=[(b3, .arr 1 [w]),(br, .arr 1 [v2])]:=fun v2 v3 w=>gz;apply I;refine j.scope ?_;refine j.J (j.aG (j.J (j.rg [0,2,3] fun K I=> ?_)));simp only[go_sem,bU];apply I;refine j.cond rfl (fun lH=> ?_) (fun lH=> ?_)
 ·have r4:s.length>1000:=by
   have:=lH;simp at this;omega
  refine j.J (j.rg [2,3] fun K I=> ?_);simp only[go_sem,g2,g3,s2,FH];apply I;have dn:dZ s=([],3):=by unfold dZ;rw[if_pos r4]
  refine j.ret ar Tryz.func138 (by simp[go_sem,g2,g3]) ?_;simp only[go_sem,g2,g3];rw[dn];rfl
 have r4:¬s.length>1000:=by
  have:=lH;simp at this;omega
 refine j.J (j.J (j.rg [0,2,3] fun K I=> ?_));simp only[go_sem];refine a1 Tryz.call161 (QN (aK s) ⟨#[47]⟩ _) ?_;simp only[go_sem,RG];apply I;refine j.cond rfl (fun j7=> ?_) (fun j7=> ?_)
 ·have a8:s.head?=some 47:=by simpa using j7
  refine j.aN (j.bZ (congrArg (fun b=>D.v (Value.bool b)) j7) ?_);refine j.J (j.rg [2,3] fun K I=> ?_);simp only[go_sem,g2,g3,s2,FH];apply I;have dn:dZ s=([],5):=by unfold dZ;rw[if_neg r4,if_pos (.inl a8)]
  refine j.ret ar Tryz.func138 (by simp[go_sem,g2,g3]) ?_;simp only[go_sem,g2,g3];rw[dn];rfl
 have a8:¬s.head?=some 47:=by simpa using j7
 refine j.rg [0,2,3] fun K I=> ?_;simp only[go_sem];refine a1 Tryz.call165 (X2 (aK s) 166 (fun r=> !jQ r) _ Tryz.call166 (fun r σ=>Of r σ)) ?_;simp only[go_sem,Js];apply I;refine j.cond rfl (fun j7=> ?_) (fun j7=> ?_)
 ·have gn:s.all gM=false:=by simpa using j7
  refine j.J (j.rg [2,3] fun K I=> ?_);simp only[go_sem,g2,g3,s2,FH];apply I;have dn:dZ s=([],5):=by unfold dZ;rw[if_neg r4,if_pos (.inr gn)]
  refine j.ret ar Tryz.func138 (by simp[go_sem,g2,g3]) ?_;simp only[go_sem,g2,g3];rw[dn];rfl
 have b0:¬s.all gM=false:=by simpa using j7
 refine j.aN (j.ba (j.J (j.rg [0,2,3] fun K I=> ?_)));simp only[go_sem];intro b4 lJ;apply I;refine j.q9 (ys:=[.own none 1 0]) (fun w S vs h=>by
  obtain⟨v,vs,rfl,aa,ah⟩:=bq.cons_inv (show bq w S [.v (.slice none 0 0)] vs from h);exact .cons (ca.mU 1 w S v aa) ah) (by simp[D.cells]) ?_
 refine j.J ?_;refine j.label ?_;refine j.J (j.J (j.rg [0,2,3,4] fun K I=> ?_));simp only[go_sem];refine⟨_,Tryz.call168,(XV s 47 _).mono ?_⟩;rintro e σ1 ⟨aY,az,aG,aX,hA,rfl,rfl⟩;simp only[go_sem];apply I;refine j.aG ?_;refine j.rebase [2,3,4,18] ?_;simp only[go_sem];refine j.L0 ar.MY rfl Tryz.call208 fun bs bu Gj ep mz kh iI tf=> ?_;rw[kp]at kh;have fJ:av bu (ej aY az aG s 47 0)=none∧av bu [(b4, .arr 1 [.own none 1 0]),(b3, .arr 1 [.v (.int .i64 0)]),(br, .arr 1 [.v (.string ⟨#[]⟩)])]=none:=by
  split at kh
  ·cases kh
  exact⟨by assumption,kh⟩
 have r5:bs≠bu:=by
  intro e;rw[e,bE]at iI;cases iI
 rw[aW,if_neg r5,kp]at iI;have ik:av bs (ej aY az aG s 47 0)=none∧av bs [(b4, .arr 1 [.own none 1 0]),(b3, .arr 1 [.v (.int .i64 0)]),(br, .arr 1 [.v (.string ⟨#[]⟩)])]=none:=by
  split at iI
  ·cases iI
  exact⟨by assumption,iI⟩
 have aZ:∀{b c:Nat} {x:aE} {τ:al},av b ((c,x)::τ)=none→b≠c∧av b τ=none:=fun{b c x τ} h=>by
  rw[aW]at h;split at h
  ·cases h
  rename_i e;exact⟨e,h⟩
 have hf:sI bs bu br b3 b4:=⟨r5,(aZ (aZ (aZ ik.2).2).2).1,(aZ (aZ ik.2).2).1,(aZ ik.2).1,(aZ (aZ (aZ fJ.2).2).2).1,(aZ (aZ fJ.2).2).1,(aZ fJ.2).1,Ne.symm iB,Ne.symm (aZ (aZ lJ).2).1,Ne.symm (aZ lJ).1⟩;have vA:∀(part:List UInt8) (parts:List (List UInt8)) (τ:al),yO bs bu br b3 b4 (ep .ready none) parts τ→parts.length<2^40→h4 Tryz.prog bs [.v (.string (aK part))] τ (fun e fP=>match eV parts part with
   |some ps=>e= .ret (.v (.bool true))∧yO bs bu br b3 b4 (ep .ready none) ps fP
   |none=>e= .ret (.v (.bool false))∧Gk bs bu br b3 b4 (ep .done (some .ret)) fP):=by
  rintro part parts τ ⟨o,xs,aT,cv,hle,rfl⟩ Sv;refine h4.La mz Tryz.func138 (aT.keep kz) (by decide) rfl fun BH j9=> ?_;simp only[go_sem,q4];have x2:sset bs (ep .busy none) (cellsOf o 1 xs++db bs bu br b3 b4 (ep .ready none) l1 (d_ 0) (.own o 1 parts.length))=cellsOf o 1 xs++db bs bu br b3 b4 (ep .busy none) l1 (d_ 0) (.own o 1 parts.length):=by
   rw[aT.sset (by rw[kz];rfl),wW]
  have b7:aV o 1 xs (db bs bu br b3 b4 (ep .busy none) l1 (d_ 0) (.own o 1 parts.length)):=gI aT;have g4:=b7.keep (wV hf);have hI:=mT part [];have hY:=mT part [46];have fa:=mT part [46,46];have xo:∀x v2 v3 v4 w,sset br (.arr 1 [w]) (cellsOf o 1 xs++db bs bu br b3 b4 x v2 v3 v4)=cellsOf o 1 xs++db bs bu br b3 b4 x w v3 v4:=fun x v2 v3 v4 w=>by rw[(gI aT).sset (by rw[wT hf];rfl),G3 hf]
  have xp:∀x v2 v3 v4 w,sset b3 (.arr 1 [w]) (cellsOf o 1 xs++db bs bu br b3 b4 x v2 v3 v4)=cellsOf o 1 xs++db bs bu br b3 b4 x v2 w v4:=fun x v2 v3 v4 w=>by rw[(gI aT).sset (by rw[wU hf];rfl),G4 hf]
  have xm:∀x v2 v3 v4,av br (cellsOf o 1 xs++db bs bu br b3 b4 x v2 v3 v4)=some (.arr 1 [v2]):=fun x v2 v3 v4=>(gI aT).keep (wT hf);have xn:∀x v2 v3 v4,av b3 (cellsOf o 1 xs++db bs bu br b3 b4 x v2 v3 v4)=some (.arr 1 [v3]):=fun x v2 v3 v4=>(gI aT).keep (wU hf);have Iz:∀x v2 v3 v4 w,sset b4 (.arr 1 [w]) (cellsOf o 1 xs++db bs bu br b3 b4 x v2 v3 v4)=cellsOf o 1 xs++db bs bu br b3 b4 x v2 v3 w:=fun x v2 v3 v4 w=>by rw[(gI aT).sset (by rw[wV hf];rfl),G5 hf]
  have qm:∀x y v2 v3 v4,sset bs y (cellsOf o 1 xs++db bs bu br b3 b4 x v2 v3 v4)=cellsOf o 1 xs++db bs bu br b3 b4 y v2 v3 v4:=fun x y v2 v3 v4=>by rw[(gI aT).sset (by rw[kz];rfl),wW]
  have aH:=b7.bL;have aw:=b7.cB;refine j.rg [2,3,4,19] fun K I=> ?_;simp only[go_sem];apply I;refine j.GJ j9 mz (aT.keep kz) ?_;simp only[go_sem,x2];refine j.aG (j.J (j.J (j.rg [2,3,4,5] fun K I=> ?_)));simp only[go_sem];apply I;refine j.aG (j.J (j.J (j.rg [2,3,4,5,20] fun K I=> ?_)));simp only[go_sem,hI];apply I;refine j.cond rfl (fun rI=> ?_) (fun rI=> ?_)
  ·have bj:part=[]:=by simpa using rI
   refine j.aN (j.bZ (congrArg (fun b=>D.v (Value.bool b)) rI) ?_);refine j.exit rfl ?_;refine j.uy j9 mz ((gI aT).keep kz) ?_;have qw:eV parts part=some parts:=by unfold eV;rw[if_pos (.inl bj)]
   rw[qw];exact⟨rfl,o,xs,aT,cv,hle,qm ..⟩
  have bj:¬part=[]:=by simpa using rI
  refine j.rg [2,3,4,5,20] fun K I=> ?_;simp only[go_sem,hY];apply I;refine j.cond rfl (fun rI=> ?_) (fun rI=> ?_)
  ·have aa:part=[46]:=by simpa using rI
   refine j.exit rfl ?_;refine j.uy j9 mz ((gI aT).keep kz) ?_;have qw:eV parts part=some parts:=by unfold eV;rw[if_pos (.inr aa)]
   rw[qw];exact⟨rfl,o,xs,aT,cv,hle,qm ..⟩
  have aa:¬part=[46]:=by simpa using rI
  refine j.J (j.rg [2,3,4,5,20] fun K I=> ?_);simp only[go_sem,fa];apply I;refine j.cond rfl (fun u6=> ?_) (fun u6=> ?_)
  ·have ah:part=[46,46]:=by simpa using u6
   refine j.J (j.J (j.rg [2,3,4] fun K I=> ?_));simp only[go_sem,g4];apply I;refine j.cond rfl (fun k4=> ?_) (fun k4=> ?_)
   ·have aJ:parts=[]:=by simpa using k4
    refine j.J (j.rg [2,3] fun K I=> ?_);simp only[go_sem,xm,xn,xo,xp];apply I;refine j.WC j9 mz ((gI aT).keep kz) ?_;have qw:eV parts part=none:=by unfold eV;rw[if_neg (by rintro(h|h);exact bj h;exact aa h),if_pos ah,if_pos aJ]
    rw[qw];exact⟨rfl,o,xs,_,gI aT,qm ..⟩
   have aJ:¬parts=[]:=by simpa using k4
   have ab5:1≤parts.length:=by
    cases parts with
    |nil=>exact absurd rfl aJ
    |cons x r=>simp
   have hw:IntKind.i64.wrap ((parts.length:Int)-1)=((parts.length-1:Nat):Int):=by rw[kt _ (by omega) (by omega)];omega
   refine j.aN (j.J (j.rg [2,3,4] fun K I=> ?_));simp only[go_sem,g4,hw,Iz];refine⟨⟨by omega,by omega⟩, ?_⟩;apply I;refine j.exit rfl ?_;refine j.uy j9 mz ((gI aT).keep kz) ?_;have qw:eV parts part=some parts.dropLast:=by unfold eV;rw[if_neg (by rintro(h|h);exact bj h;exact aa h),if_pos ah,if_neg aJ]
   rw[qw];have ei:parts.dropLast.length=parts.length-1:=List.length_dropLast ..;refine⟨rfl,o,xs,gI aT, ?_,by omega, ?_⟩
   ·rw[ei,List.dropLast_eq_take,List.map_take,←cv,List.take_take];congr 1;omega
   rw[ei];exact qm ..
  have ah:¬part=[46,46]:=by simpa using u6
  refine j.aN (j.ba ?_);refine j.fw [2,3,4,5] [36] fun K I=> ?_;simp only[go_sem,g4,aH,aw,cv,Iz];refine⟨by decide,⟨hle,fun y aF=>by rw[aF];exact⟨rfl,rfl⟩,by rw[List.length_map];omega,by rw[List.length_map];omega⟩,fun ob aO ax=> ?_⟩;have tA:aV ob 1 (parts.map ez++[D.v (.string (aK part))]) (db bs bu br b3 b4 (ep .busy none) l1 (d_ 0) (.own o 1 parts.length)):=⟨ax,aO⟩;have g6:=tA.keep (wV hf);have QE:∀w,sset b4 (.arr 1 [w]) (cellsOf ob 1 (parts.map ez++[D.v (.string (aK part))])++db bs bu br b3 b4 (ep .busy none) l1 (d_ 0) (.own o 1 parts.length))=cellsOf ob 1 (parts.map ez++[D.v (.string (aK part))])++db bs bu br b3 b4 (ep .busy none) l1 (d_ 0) w:=fun w=>by rw[tA.sset (by rw[wV hf];rfl),G5 hf]
  simp only[go_sem,g6,QE];apply I;refine j.ba ?_;refine j.uy j9 mz ((gI tA).keep kz) ?_;have qw:eV parts part=some (parts++[part]):=by unfold eV;rw[if_neg (by rintro(h|h);exact bj h;exact aa h),if_neg ah]
  rw[qw];have jn:(parts++[part]).length=(parts.map ez++[D.v (.string (aK part))]).length:=by simp
  refine⟨rfl,ob,parts.map ez++[.v (.string (aK part))],gI tA, ?_,by omega, ?_⟩
  ·rw[jn,List.take_length,List.map_append];rfl
  rw[jn,(gI tA).sset (by rw[kz];rfl),wW]
 have fW:BN bs 47 0 (fun r τ=>∃parts,yO bs bu br b3 b4 (ep .ready none) parts τ∧fg r [] parts=fg s [] []∧hU parts+r.length≤s.length) (fun e τ=>match e with
   | .ret _=>(∃parts,fg s [] []=some parts∧hU parts≤s.length+1∧yO bs bu br b3 b4 (ep .ready none) parts τ)∨(fg s [] []=none∧Gk bs bu br b3 b4 (ep .done (some .ret)) τ)
   | .panic _=>False):=by
  refine⟨?_, ?_⟩
  ·rintro r k τ ⟨parts,fD,ch,jn⟩ aj eO;have gn:=pP parts;rw[G2 r [] parts k aj,List.nil_append]at ch;rw[Nat.add_zero];refine(vA (r.take k) parts τ fD (by omega)).mono ?_;intro e fP h;cases ag:eV parts (r.take k)with
   |none=>
    rw[ag]at h ch;obtain⟨rfl,ax⟩:=h;exact .inr (.inl ⟨rfl, .inr ⟨ch.symm,ax⟩⟩)
   |some ps=>
    rw[ag]at h ch;obtain⟨rfl,Eg⟩:=h;have:=vG ag;refine .inl ⟨rfl,ps,Eg,ch, ?_⟩;rw[List.length_take]at this;rw[List.length_drop];omega
  rintro r τ ⟨parts,fD,ch,jn⟩ aj;have gn:=pP parts;rw[G1 r [] parts aj,List.nil_append]at ch;refine(vA r parts τ fD (by omega)).mono ?_;intro e fP h;cases ag:eV parts r with
  |none=>
   rw[ag]at h ch;obtain⟨rfl,ax⟩:=h;exact .inl ⟨_,rfl, .inr ⟨ch.symm,ax⟩⟩
  |some ps=>
   rw[ag]at h ch;obtain⟨rfl,Eg⟩:=h;have:=vG ag;exact .inl ⟨_,rfl, .inl ⟨ps,ch.symm,by omega,Eg⟩⟩
 have cT:∀(o:Option Nat) (xs:List D) (x:aE) (fb iw:Value) (v4:D) (Kx:List Item) (env:Env),aV o 1 xs (db bs bu br b3 b4 x (.v fb) (.v iw) v4)→eget 2 env= .ptr br 1 0 0→eget 3 env= .ptr b3 1 0 0→D.bd [.v fb, .v iw]= .bd [.v (.string (aK (dZ s).1)),d_ (dZ s).2]→j Gj (.code .ret::Kx) env (cellsOf o 1 xs++db bs bu br b3 b4 x (.v fb) (.v iw) v4):=by
  intro o xs x fb iw v4 Kx env aT rV I4 ak;refine j.Mh (σ':=[(b3, .arr 1 [.v iw]),(br, .arr 1 [.v fb])]) tf Tryz.func138 (by simp) (fun r ao=> ?_) ?_ (fun r ao=> ?_) ?_ ?_
  ·rw[List.mem_singleton.1 ao];exact aT.keep (by unfold db;rw[aW,if_neg (Ne.symm hf.ES),bE])
  ·exact .cons (aT.keep (wU hf)) (.cons (aT.keep (wT hf)) (aQ.nil _))
  ·rw[List.mem_singleton.1 ao,aW,if_neg hf.nK,aW,if_neg hf.jS];rfl
  ·simp[go_sem,rV,I4,g2,g3]
  simp only[go_sem,rV,I4,g2,g3];exact congrArg cf.ret ak
 have C':dN (ej aY az aG s 47 0) (db bs bu br b3 b4 (ep .ready none) l1 (d_ 0) (.own none 1 0)):=GC ik.1 (GC fJ.1 hA);refine(MP (by omega) fW aX s af (db bs bu br b3 b4 (ep .ready none) l1 (d_ 0) (.own none 1 0)) _ ⟨[],⟨none,[],aV.nil _ _,rfl,Nat.zero_le _,rfl⟩,rfl,by simp[hU]⟩ C' (wh (wh (aQ.append_right hA.symm))) (fun b ob ae=> ?_)).mono ?_
 ·rw[aW,if_neg (fun e=>by rw[e,ik.1]at ae;cases ae),aW,if_neg (fun e=>by rw[e,fJ.1]at ae;cases ae)]
  exact yF ae
 rintro e σ' ⟨fP,hle,mA⟩;rcases e with d|d;rotate_left
 ·exact mA.elim
 rcases mA with⟨parts,ch,jn,o,xs,aT,cv,gn,rfl⟩|⟨ch,o,xs,v4,aT,rfl⟩;rotate_left
 ·refine⟨.done,some .ret,hle _ _ (aT.keep kz),rfl, ?_⟩;refine j.le (cn.refl _) (hle.sset (by rw[aT.keep kz];rfl)) ?_
  rw[aT.sset (by rw[kz];rfl),wW]
  have dn:dZ s=([],5):=by unfold dZ;rw[if_neg r4,if_neg (by rintro(h|h);exact a8 h;exact b0 h),ch]
  exact cT o xs _ _ _ _ _ _ (gI aT) rfl rfl (by rw[dn];rfl)
 refine⟨.ready,none,hle _ _ (aT.keep kz),rfl, ?_⟩;refine j.le (cn.refl _) (hle.sset (by rw[aT.keep kz];rfl)) ?_
 rw[aT.sset (by rw[kz];rfl),wW]
 simp only[Option.map_none,Option.toList_none,List.nil_append];have tB:∀x v2 v3 v4,aV o 1 xs (db bs bu br b3 b4 x v2 v3 v4):=fun x v2 v3 v4=>gI aT;have xo:∀x v2 v3 v4 w,sset br (.arr 1 [w]) (cellsOf o 1 xs++db bs bu br b3 b4 x v2 v3 v4)=cellsOf o 1 xs++db bs bu br b3 b4 x w v3 v4:=fun x v2 v3 v4 w=>by rw[(gI aT).sset (by rw[wT hf];rfl),G3 hf]
 have xp:∀x v2 v3 v4 w,sset b3 (.arr 1 [w]) (cellsOf o 1 xs++db bs bu br b3 b4 x v2 v3 v4)=cellsOf o 1 xs++db bs bu br b3 b4 x v2 w v4:=fun x v2 v3 v4 w=>by rw[(gI aT).sset (by rw[wU hf];rfl),G4 hf]
 have xm:∀x v2 v3 v4,av br (cellsOf o 1 xs++db bs bu br b3 b4 x v2 v3 v4)=some (.arr 1 [v2]):=fun x v2 v3 v4=>(gI aT).keep (wT hf);have xn:∀x v2 v3 v4,av b3 (cellsOf o 1 xs++db bs bu br b3 b4 x v2 v3 v4)=some (.arr 1 [v3]):=fun x v2 v3 v4=>(gI aT).keep (wU hf);have Qu:∀x v2 v3 v4,av b4 (cellsOf o 1 xs++db bs bu br b3 b4 x v2 v3 v4)=some (.arr 1 [v4]):=fun x v2 v3 v4=>(gI aT).keep (wV hf);have oD:(parts.map aK).map (fun x:ByteArray=>x.data.toList)=parts:=by
  rw[List.map_map];exact List.map_id' parts
 have fY:parts.map ez=(parts.map aK).map ab:=by rw[List.map_map];rfl
 have ak:∀sep:D,(∀b s ys,hb b s ys [sep]=[sep])→hN (cellsOf o 1 xs++db bs bu br b3 b4 (ep .exhausted none) l1 (d_ 0) (.own o 1 parts.length)) [.own o 1 parts.length,sep] [.ai ((parts.map aK).map ab),sep]:=fun sep SJ=>by
  have:=hN.yo (rest:=[sep]) (tB (ep .exhausted none) l1 (d_ 0) (.own o 1 parts.length)).bL gn SJ;rw[cv,fY]at this;exact this
 have kc:=EK parts 47;have Sv:=pP parts;refine j.ba (j.J (j.rg [2,3,4] fun K I=> ?_));simp only[go_sem,Qu];refine a1 Tryz.call114 (AC.ud (ak _ (fun _ _ _=>rfl)) rfl (EF (parts.map aK) _ [] (by rw[List.length_map];omega) (by rw[oD];exact Nat.le_trans kc (by omega)))) ?_;simp only[go_sem,oD];apply I;refine j.J (j.aG (j.J ?_));have AZ:=mT (Lib.join parts [47]) [];have A0:=gu (Lib.join parts [47]);unfold aK at AZ A0;refine j.rg [2,3,6] fun K I=> ?_;simp only[go_sem,AZ];apply I;refine j.cond rfl (fun ta=> ?_) (fun ta=> ?_)
 ·have dp:Lib.join parts [47]=[]:=by simpa using ta
  refine j.J (j.rg [2,3] fun K I=> ?_);simp only[go_sem,xm,xn,xo,xp];apply I;have dn:dZ s=([],5):=by unfold dZ;rw[if_neg r4,if_neg (by rintro(h|h);exact a8 h;exact b0 h),ch];exact if_pos dp
  exact cT o xs _ _ _ _ _ _ (gI aT) rfl rfl (by rw[dn];rfl)
 have dp:¬Lib.join parts [47]=[]:=by simpa using ta
 refine j.J (j.rg [2,3,6] fun K I=> ?_);simp only[go_sem,A0];apply I;refine j.cond rfl (fun oh=> ?_) (fun oh=> ?_)
 ·have dq:(Lib.join parts [47]).length>100:=by
   have:=oh;simp at this;omega
  refine j.J (j.rg [2,3] fun K I=> ?_);simp only[go_sem,xm,xn,xo,xp];apply I;have dn:dZ s=([],3):=by unfold dZ;rw[if_neg r4,if_neg (by rintro(h|h);exact a8 h;exact b0 h),ch];exact(if_neg dp).trans (if_pos dq)
  exact cT o xs _ _ _ _ _ _ (gI aT) rfl rfl (by rw[dn];rfl)
 have dq:¬(Lib.join parts [47]).length>100:=by
  have:=oh;simp at this;omega
 refine j.aN (j.ba (j.J (j.rg [2,3,6] fun K I=> ?_)));simp only[go_sem,xm,xn,xo,xp];apply I;have dn:dZ s=(Lib.join parts [47],0):=by unfold dZ;rw[if_neg r4,if_neg (by rintro(h|h);exact a8 h;exact b0 h),ch];exact(if_neg dp).trans (if_neg dq)
 exact cT o xs _ _ _ _ _ _ (gI aT) rfl rfl (by rw[dn];rfl)
def dt (s:List UInt8):Bool:=decide ((dZ s).2=0)&&decide ((dZ s).1=s)
theorem nP (n:ByteArray) (af:n.size<2^40) (σ:al):AC Tryz.prog 113 [.v (.string n)] σ (fun e σ'=>e= .ret (.v (.bool (dt (a' n))))∧σ'=σ):=by
 obtain⟨s,rfl⟩:∃s,n=aK s:=⟨a' n,(gr n).symm⟩;rw[ht];rw[gu]at af;refine AC.bI Tryz.func113 Tryz.ntmps113 fun C ar=> ?_;have bW:((aK (dZ s).1).toList==(aK s).toList)=decide ((dZ s).1=s):=mT _ s;by_cases bj:(dZ s).2=0
 ·have ao:dt s=decide ((dZ s).1=s):=by unfold dt;rw[decide_eq_true bj,Bool.true_and]
  have ae:((dZ s).2==0)=true:=by rw[bj];rfl
  refine j.J (j.rg [0] fun K I=> ?_);simp only[go_sem];apply I;refine j.J (j.rg [0] fun K I=> ?_);simp only[go_sem];refine a1 Tryz.call138 (G8 s af _) ?_;simp only[go_sem,d_];apply I;refine j.J (j.rg [0,3,4] fun K I=> ?_);simp only[go_sem,bW,ae];apply I;refine j.ret ar Tryz.func113 (by simp[go_sem]) ?_;simp only[go_sem];rw[ao]
 have ao:dt s=false:=by unfold dt;rw[decide_eq_false bj,Bool.false_and]
 have ae:((dZ s).2==0)=false:=by simpa using bj
 refine j.J (j.rg [0] fun K I=> ?_);simp only[go_sem];apply I;refine j.J (j.rg [0] fun K I=> ?_);simp only[go_sem];refine a1 Tryz.call138 (G8 s af _) ?_;simp only[go_sem,d_];apply I;refine j.J (j.rg [0,3,4] fun K I=> ?_);simp only[go_sem,ae];apply I;refine j.ret ar Tryz.func113 (by simp[go_sem]) ?_;simp only[go_sem];rw[ao]
theorem Vt (n:ByteArray) (af:n.size<2^40) (σ:al):AC Tryz.prog 112 [.v (.string n)] σ (fun e σ'=>e= .ret (.v (.bool (!dt (a' n))))∧σ'=σ):=by
 refine AC.bI Tryz.func112 Tryz.ntmps112 fun C ar=> ?_;refine j.J (j.rg [0] fun K I=> ?_);simp only[go_sem];apply I;refine j.J (j.rg [0] fun K I=> ?_);simp only[go_sem];refine a1 Tryz.call113 (nP n af _) ?_;simp only[go_sem];apply I;refine j.ret ar Tryz.func112 (by simp[go_sem]) ?_;simp only[go_sem]
theorem UT (l:List ByteArray) (h:∀f∈l,f.size<2^40) (σ:al):nY [] 112 (fun f=> !dt (a' f)) l σ:=⟨Tryz.call112,fun f ax=>Vt f (h f ax) σ⟩
theorem TK (out:ByteArray) (ds:List ByteArray):Lib.join ((a' out++[58])::ds.map a') [32]=ha out ds:=by
 rw[Lib.join_cons];unfold ha Lib.joinTail;rw[List.map_map,List.flatMap];rfl
theorem Vu (out:ByteArray) (ds:List ByteArray) (σ:al) (aH:(a' out).length<2^20) (aw:ds.length<2^20) (fW:∀d∈ds,(a' d).length≤2^20) (bR:∀d∈out::ds,dt (a' d)=true):
  AC Tryz.prog 82 [.v (.string out), .ai (ds.map ab)] σ (fun e σ'=>e= .ret (.bd [.v (.string (aK (ha out ds++[10]))),d_ 0])∧σ'=σ):=by
 refine AC.still ?_ σ;refine AC.forget (R:=fun e _=>e= .ret (.bd [.v (.string (aK (ha out ds++[10]))),d_ 0])) ?_ fun e σ' h=>⟨[],aQ.nil _,h,rfl⟩;have bU:∀d∈out::ds,d.size<2^40:=fun d hm=>by
  have:(a' d).length=d.size:=by show d.data.toList.length=_;simp
  rcases List.mem_cons.1 hm with rfl|hm
  ·omega
  have:=fW d hm;omega
 have j':((out::ds).any fun f=> !dt (a' f))=false:=by
  rw[List.any_eq_false];intro d hm;rw[bR d hm];decide
 refine AC.bI Tryz.func82 Tryz.ntmps82 fun C ar=> ?_;refine j.J (j.rg [0,1] fun K I=> ?_);simp only[go_sem];apply I;refine j.J (j.rg [0,1] fun K I=> ?_);simp only[go_sem];refine⟨by decide,fun b8=>⟨⟨fun y aF=>c' ds y aF,by rw[List.length_map];omega,by rw[List.length_map];omega⟩,fun ob aO ax=> ?_⟩⟩;obtain⟨b,rfl⟩:∃b,ob=some b:=by
  cases ob with
  |none=>exact(aO rfl).elim
  |some b=>exact⟨b,rfl⟩
 apply I;have jn:(ds.map ab).length+1=((out::ds).map ab).length:=by simp
 rw[jn];change j C _ _ [(b, .arr 1 ((out::ds).map ab))];have bn:((out::ds).map ab).length=ds.length+1:=by simp
 have ak:∀(l:List ByteArray) (rest:List D),(∀b s ys,hb b s ys rest=rest)→l.length=ds.length+1→hN [(b, .arr 1 (l.map ab))] (.own (some b) 1 ((out::ds).map ab).length::rest) (.ai (l.map ab)::rest):=fun l rest ao aA=>by
  have:=hN.yo (σ:=[(b, .arr 1 (l.map ab))]) (ob:=some b) (sz:=1) (n:=((out::ds).map ab).length) (xs:=l.map ab) (rest:=rest) (by simp[bL]) (by simp;omega) ao;rw[List.take_of_length_le (by simp;omega)]at this;exact this
 refine j.J (j.J (j.rg [6] fun K I=> ?_));simp only[go_sem];refine a1 Tryz.call34 (AC.ud (ak (out::ds) _ (fun _ _ _=>rfl) rfl) rfl (rz (out::ds) _ [] _ [] (by simp;omega) (UT (out::ds) bU []))) ?_;simp only[go_sem,j'];apply I;refine j.bJ rfl (j.aN (j.J ?_));have kD:=fun bz bM=>ra bz bM out ⟨#[58]⟩ (by show(a' out).length+1<_;omega);have x3:(ab out).cells=[.v (.string out)]:=rfl;refine j.rg [6] fun K I=> ?_;simp only[go_sem,x3,kD];refine⟨by omega,by omega,by omega,by omega, ?_⟩;apply I;change j C _ _ [(b, .arr 1 ((aK (a' out++[58])::ds).map ab))];have oD:Lib.join ((aK (a' out++[58])::ds).map fun x=>x.data.toList) (⟨#[32]⟩:ByteArray).data.toList=ha out ds:=TK out ds;have gn:=Fh out ds (2^20) fW ds.length (Nat.le_refl _);rw[List.take_length]at gn;have JU:ds.length*(2^20+1)≤2^20*(2^20+1):=Nat.mul_le_mul_right _ (by omega);have C8:=fun bz bM=>ra bz bM (aK (ha out ds)) ⟨#[10]⟩ (by show(ha out ds).length+1<_;omega);have DH:=EF (aK (a' out++[58])::ds) ⟨#[32]⟩ [] (by simp;omega) (by rw[oD];omega);rw[oD]at DH;change AC _ _ _ _ (fun e σ'=>e= .ret (.v (.string (aK (ha out ds))))∧σ'=[])at DH;refine j.J (j.rg [6] fun K I=> ?_);simp only[go_sem];refine a1 Tryz.call114 (AC.ud (ak (aK (a' out++[58])::ds) _ (fun _ _ _=>rfl) rfl) rfl DH) ?_;simp only[go_sem,C8];apply I;refine j.ret ar Tryz.func82 (by simp[go_sem]) ?_;simp only[go_sem];rfl
theorem Lw (n:Nat) (au:n<256):gM (UInt8.ofNat n)=decide ((97≤n∧n≤122)∨(65≤n∧n≤90)∨(48≤n∧n≤57)∨n=46∨n=95∨n=45∨n=43∨n=47):=by
 have h:∀n:Fin 256,gM (UInt8.ofNat n.val)=decide ((97≤n.val∧n.val≤122)∨(65≤n.val∧n.val≤90)∨(48≤n.val∧n.val≤57)∨n.val=46∨n.val=95∨n.val=45∨n.val=43∨n.val=47):=by decide+kernel
 exact h ⟨n,au⟩
theorem sw (n:Nat) (au:n<256) (h:(97≤n∧n≤122)∨(65≤n∧n≤90)∨(48≤n∧n≤57)∨n=46∨n=95∨n=45∨n=43∨n=47):gM (UInt8.ofNat n)=true:=by rw[Lw n au,decide_eq_true h]
theorem AQ (n:Nat) (au:n<256) (h:¬((97≤n∧n≤122)∨(65≤n∧n≤90)∨(48≤n∧n≤57)∨n=46∨n=95∨n=45∨n=43∨n=47)):gM (UInt8.ofNat n)=false:=by rw[Lw n au,decide_eq_false h]
set_option maxHeartbeats 1600000 in
theorem Ba (n:Nat) (au:n<256) (σ:al):AC Tryz.prog 171 [.v (.int .u8 (n:Int))] σ (fun e σ'=>e= .ret (.v (.bool (gM (UInt8.ofNat n))))∧σ'=σ):=by
 refine AC.bI Tryz.func171 Tryz.ntmps171 fun C ar=> ?_;refine j.J (j.rg [0] fun K I=> ?_);simp only[go_sem];apply I;refine j.J ?_;rcases(show(97≤n∧n≤122)∨(65≤n∧n≤90)∨(48≤n∧n≤57)∨(n=46)∨(n=95)∨(n=45)∨(n=43)∨(n=47)∨(122<n)∨(90<n∧n<97∧n≠95)∨(57<n∧n<65)∨(n<48∧n≠43∧n≠45∧n≠46∧n≠47)from by omega)with ag|ag|ag|ag|ag|ag|ag|ag|ag|ag|ag|ag
 ·have d97:decide ((n:Int)≥97)=true:=decide_eq_true (by omega);have d122:decide ((n:Int)≤122)=true:=decide_eq_true (by omega);refine j.rg [0] fun K I=> ?_;simp only[go_sem,d97,d122];apply I;refine j.ret ar Tryz.func171 (by simp[go_sem]) ?_;simp only[go_sem];rw[sw n au (by omega)]
 ·have d97:decide ((n:Int)≥97)=false:=decide_eq_false (by omega);have d65:decide ((n:Int)≥65)=true:=decide_eq_true (by omega);have d90:decide ((n:Int)≤90)=true:=decide_eq_true (by omega);refine j.rg [0] fun K I=> ?_;simp only[go_sem,d97,d65,d90];apply I;refine j.ret ar Tryz.func171 (by simp[go_sem]) ?_;simp only[go_sem];rw[sw n au (by omega)]
 ·have d97:decide ((n:Int)≥97)=false:=decide_eq_false (by omega);have d65:decide ((n:Int)≥65)=false:=decide_eq_false (by omega);have d48:decide ((n:Int)≥48)=true:=decide_eq_true (by omega);have d57:decide ((n:Int)≤57)=true:=decide_eq_true (by omega);refine j.rg [0] fun K I=> ?_;simp only[go_sem,d97,d65,d48,d57];apply I;refine j.ret ar Tryz.func171 (by simp[go_sem]) ?_;simp only[go_sem];rw[sw n au (by omega)]
 ·have d97:decide ((n:Int)≥97)=false:=decide_eq_false (by omega);have d122:decide ((n:Int)≤122)=true:=decide_eq_true (by omega);have d65:decide ((n:Int)≥65)=false:=decide_eq_false (by omega);have d90:decide ((n:Int)≤90)=true:=decide_eq_true (by omega);have d48:decide ((n:Int)≥48)=false:=decide_eq_false (by omega);have d57:decide ((n:Int)≤57)=true:=decide_eq_true (by omega);have j3:((n:Int)==46)=true:=by rw[ag];rfl
  have j5:((n:Int)==95)=false:=by rw[beq_eq_false_iff_ne];omega
  have j2:((n:Int)==45)=false:=by rw[beq_eq_false_iff_ne];omega
  have j1:((n:Int)==43)=false:=by rw[beq_eq_false_iff_ne];omega
  have j4:((n:Int)==47)=false:=by rw[beq_eq_false_iff_ne];omega
  refine j.rg [0] fun K I=> ?_;simp only[go_sem,d97,d122,d65,d90,d48,d57,j3,j5,j2,j1,j4];apply I;refine j.ret ar Tryz.func171 (by simp[go_sem]) ?_;simp only[go_sem];rw[sw n au (by omega)]
 ·have d97:decide ((n:Int)≥97)=false:=decide_eq_false (by omega);have d122:decide ((n:Int)≤122)=true:=decide_eq_true (by omega);have d65:decide ((n:Int)≥65)=true:=decide_eq_true (by omega);have d90:decide ((n:Int)≤90)=false:=decide_eq_false (by omega);have d48:decide ((n:Int)≥48)=true:=decide_eq_true (by omega);have d57:decide ((n:Int)≤57)=false:=decide_eq_false (by omega);have j3:((n:Int)==46)=false:=by rw[beq_eq_false_iff_ne];omega
  have j5:((n:Int)==95)=true:=by rw[ag];rfl
  have j2:((n:Int)==45)=false:=by rw[beq_eq_false_iff_ne];omega
  have j1:((n:Int)==43)=false:=by rw[beq_eq_false_iff_ne];omega
  have j4:((n:Int)==47)=false:=by rw[beq_eq_false_iff_ne];omega
  refine j.rg [0] fun K I=> ?_;simp only[go_sem,d97,d122,d65,d90,d48,d57,j3,j5,j2,j1,j4];apply I;refine j.ret ar Tryz.func171 (by simp[go_sem]) ?_;simp only[go_sem];rw[sw n au (by omega)]
 ·have d97:decide ((n:Int)≥97)=false:=decide_eq_false (by omega);have d122:decide ((n:Int)≤122)=true:=decide_eq_true (by omega);have d65:decide ((n:Int)≥65)=false:=decide_eq_false (by omega);have d90:decide ((n:Int)≤90)=true:=decide_eq_true (by omega);have d48:decide ((n:Int)≥48)=false:=decide_eq_false (by omega);have d57:decide ((n:Int)≤57)=true:=decide_eq_true (by omega);have j3:((n:Int)==46)=false:=by rw[beq_eq_false_iff_ne];omega
  have j5:((n:Int)==95)=false:=by rw[beq_eq_false_iff_ne];omega
  have j2:((n:Int)==45)=true:=by rw[ag];rfl
  have j1:((n:Int)==43)=false:=by rw[beq_eq_false_iff_ne];omega
  have j4:((n:Int)==47)=false:=by rw[beq_eq_false_iff_ne];omega
  refine j.rg [0] fun K I=> ?_;simp only[go_sem,d97,d122,d65,d90,d48,d57,j3,j5,j2,j1,j4];apply I;refine j.ret ar Tryz.func171 (by simp[go_sem]) ?_;simp only[go_sem];rw[sw n au (by omega)]
 ·have d97:decide ((n:Int)≥97)=false:=decide_eq_false (by omega);have d122:decide ((n:Int)≤122)=true:=decide_eq_true (by omega);have d65:decide ((n:Int)≥65)=false:=decide_eq_false (by omega);have d90:decide ((n:Int)≤90)=true:=decide_eq_true (by omega);have d48:decide ((n:Int)≥48)=false:=decide_eq_false (by omega);have d57:decide ((n:Int)≤57)=true:=decide_eq_true (by omega);have j3:((n:Int)==46)=false:=by rw[beq_eq_false_iff_ne];omega
  have j5:((n:Int)==95)=false:=by rw[beq_eq_false_iff_ne];omega
  have j2:((n:Int)==45)=false:=by rw[beq_eq_false_iff_ne];omega
  have j1:((n:Int)==43)=true:=by rw[ag];rfl
  have j4:((n:Int)==47)=false:=by rw[beq_eq_false_iff_ne];omega
  refine j.rg [0] fun K I=> ?_;simp only[go_sem,d97,d122,d65,d90,d48,d57,j3,j5,j2,j1,j4];apply I;refine j.ret ar Tryz.func171 (by simp[go_sem]) ?_;simp only[go_sem];rw[sw n au (by omega)]
 ·have d97:decide ((n:Int)≥97)=false:=decide_eq_false (by omega);have d122:decide ((n:Int)≤122)=true:=decide_eq_true (by omega);have d65:decide ((n:Int)≥65)=false:=decide_eq_false (by omega);have d90:decide ((n:Int)≤90)=true:=decide_eq_true (by omega);have d48:decide ((n:Int)≥48)=false:=decide_eq_false (by omega);have d57:decide ((n:Int)≤57)=true:=decide_eq_true (by omega);have j3:((n:Int)==46)=false:=by rw[beq_eq_false_iff_ne];omega
  have j5:((n:Int)==95)=false:=by rw[beq_eq_false_iff_ne];omega
  have j2:((n:Int)==45)=false:=by rw[beq_eq_false_iff_ne];omega
  have j1:((n:Int)==43)=false:=by rw[beq_eq_false_iff_ne];omega
  have j4:((n:Int)==47)=true:=by rw[ag];rfl
  refine j.rg [0] fun K I=> ?_;simp only[go_sem,d97,d122,d65,d90,d48,d57,j3,j5,j2,j1,j4];apply I;refine j.ret ar Tryz.func171 (by simp[go_sem]) ?_;simp only[go_sem];rw[sw n au (by omega)]
 ·have d97:decide ((n:Int)≥97)=true:=decide_eq_true (by omega);have d122:decide ((n:Int)≤122)=false:=decide_eq_false (by omega);have d65:decide ((n:Int)≥65)=true:=decide_eq_true (by omega);have d90:decide ((n:Int)≤90)=false:=decide_eq_false (by omega);have d48:decide ((n:Int)≥48)=true:=decide_eq_true (by omega);have d57:decide ((n:Int)≤57)=false:=decide_eq_false (by omega);have j3:((n:Int)==46)=false:=by rw[beq_eq_false_iff_ne];omega
  have j5:((n:Int)==95)=false:=by rw[beq_eq_false_iff_ne];omega
  have j2:((n:Int)==45)=false:=by rw[beq_eq_false_iff_ne];omega
  have j1:((n:Int)==43)=false:=by rw[beq_eq_false_iff_ne];omega
  have j4:((n:Int)==47)=false:=by rw[beq_eq_false_iff_ne];omega
  refine j.rg [0] fun K I=> ?_;simp only[go_sem,d97,d122,d65,d90,d48,d57,j3,j5,j2,j1,j4];apply I;refine j.ret ar Tryz.func171 (by simp[go_sem]) ?_;simp only[go_sem];rw[AQ n au (by omega)]
 ·have d97:decide ((n:Int)≥97)=false:=decide_eq_false (by omega);have d65:decide ((n:Int)≥65)=true:=decide_eq_true (by omega);have d90:decide ((n:Int)≤90)=false:=decide_eq_false (by omega);have d48:decide ((n:Int)≥48)=true:=decide_eq_true (by omega);have d57:decide ((n:Int)≤57)=false:=decide_eq_false (by omega);have j3:((n:Int)==46)=false:=by rw[beq_eq_false_iff_ne];omega
  have j5:((n:Int)==95)=false:=by rw[beq_eq_false_iff_ne];omega
  have j2:((n:Int)==45)=false:=by rw[beq_eq_false_iff_ne];omega
  have j1:((n:Int)==43)=false:=by rw[beq_eq_false_iff_ne];omega
  have j4:((n:Int)==47)=false:=by rw[beq_eq_false_iff_ne];omega
  refine j.rg [0] fun K I=> ?_;simp only[go_sem,d97,d65,d90,d48,d57,j3,j5,j2,j1,j4];apply I;refine j.ret ar Tryz.func171 (by simp[go_sem]) ?_;simp only[go_sem];rw[AQ n au (by omega)]
 ·have d97:decide ((n:Int)≥97)=false:=decide_eq_false (by omega);have d65:decide ((n:Int)≥65)=false:=decide_eq_false (by omega);have d48:decide ((n:Int)≥48)=true:=decide_eq_true (by omega);have d57:decide ((n:Int)≤57)=false:=decide_eq_false (by omega);have j3:((n:Int)==46)=false:=by rw[beq_eq_false_iff_ne];omega
  have j5:((n:Int)==95)=false:=by rw[beq_eq_false_iff_ne];omega
  have j2:((n:Int)==45)=false:=by rw[beq_eq_false_iff_ne];omega
  have j1:((n:Int)==43)=false:=by rw[beq_eq_false_iff_ne];omega
  have j4:((n:Int)==47)=false:=by rw[beq_eq_false_iff_ne];omega
  refine j.rg [0] fun K I=> ?_;simp only[go_sem,d97,d65,d48,d57,j3,j5,j2,j1,j4];apply I;refine j.ret ar Tryz.func171 (by simp[go_sem]) ?_;simp only[go_sem];rw[AQ n au (by omega)]
 have d97:decide ((n:Int)≥97)=false:=decide_eq_false (by omega);have d65:decide ((n:Int)≥65)=false:=decide_eq_false (by omega);have d48:decide ((n:Int)≥48)=false:=decide_eq_false (by omega);have j3:((n:Int)==46)=false:=by rw[beq_eq_false_iff_ne];omega
 have j5:((n:Int)==95)=false:=by rw[beq_eq_false_iff_ne];omega
 have j2:((n:Int)==45)=false:=by rw[beq_eq_false_iff_ne];omega
 have j1:((n:Int)==43)=false:=by rw[beq_eq_false_iff_ne];omega
 have j4:((n:Int)==47)=false:=by rw[beq_eq_false_iff_ne];omega
 refine j.rg [0] fun K I=> ?_;simp only[go_sem,d97,d65,d48,j3,j5,j2,j1,j4];apply I;refine j.ret ar Tryz.func171 (by simp[go_sem]) ?_;simp only[go_sem];rw[AQ n au (by omega)]
theorem j.Vy {P:Program} {N:cP} {C:Ctx P N} {todo:List Item} {k sz n:Nat} {o:Option Nat} {xs:List D} {ρ:al} (aT:aV o sz xs ρ) (au:n≤xs.length) (h:j C todo [(k, .ai (xs.take n))] []):j C todo [(k, .own o sz n)] (cellsOf o sz xs++ρ):=by
 cases o with
 |none=>
  have an:=aT.zero rfl;subst an;refine j.le (cn.refl _) (aQ.nil _) ?_;refine j.pk h fun U=> ?_;simp only[eget];split
  ·rw[List.take_nil];exact ca.l5 _ _
  exact ca.refl _
 |some c=>
  refine j.o1 c (bE c _ _) ?_;have bt:kB c sz xs [(k, .own (some c) sz n)]=[(k, .ai (xs.take n))]:=by
   show [(k,D.b' c sz xs (.own (some c) sz n))]=_
   simp only[D.b'];rw[if_pos ⟨trivial,trivial,au⟩]
  rw[bt];exact j.le (cn.refl _) (aQ.nil _) h
theorem TL (xs:List (List UInt8)) (x:List UInt8):Lib.join (xs++[x]) [47]=if xs=[]then x else Lib.join xs [47]++[47]++x:=by
 cases xs with
 |nil=>exact Lib.join_one x [47]
 |cons y r=>
  rw[if_neg (by simp),List.cons_append,Lib.join_cons,Lib.join_cons];unfold Lib.joinTail;rw[List.map_append,List.flatten_append];simp
theorem Ur (parts:List (List UInt8)) (k:Nat):hU (parts.take k)≤hU parts:=by
 have:=congrArg hU (List.take_append_drop k parts);unfold hU at this⊢;rw[List.map_append,List.sum_append]at this;omega
theorem ry {l:List UInt8} {i a:Nat} {parts ps:List (List UInt8)} (hi:i≤l.length) (hQ:∀h:i<l.length,l[i]=47) (hinv:fg l [] []=fg (l.drop i) ((l.take i).drop a) parts) (ag:eV parts ((l.take i).drop a)=some ps):
  (i+1≤l.length→fg l [] []=fg (l.drop (i+1)) ((l.take (i+1)).drop (i+1)) ps)∧(i+1=l.length+1→fg l [] []=some ps):=by
 constructor
 ·intro h;have aC:i<l.length:=h;rw[hinv,List.drop_eq_getElem_cons aC,fg,if_pos (hQ aC),ag,Option.bind_some];congr 1
  exact(List.drop_of_length_le (by rw[List.length_take];omega)).symm
 intro h;rw[hinv,List.drop_of_length_le (by omega),fg,ag]
theorem G0 {l:List UInt8} {i a:Nat} {parts:List (List UInt8)} (hi:i≤l.length) (hQ:∀h:i<l.length,l[i]=47) (hinv:fg l [] []=fg (l.drop i) ((l.take i).drop a) parts) (ag:eV parts ((l.take i).drop a)=none):fg l [] []=none:=by
 rcases Nat.lt_or_ge i l.length with aC|dQ
 ·rw[hinv,List.drop_eq_getElem_cons aC,fg,if_pos (hQ aC),ag,Option.bind_none]
 rw[hinv,List.drop_of_length_le dQ,fg,ag]
theorem Od {l:List UInt8} {i a:Nat} {parts:List (List UInt8)} (aC:i<l.length) (bb:a≤i) (aZ:l[i]≠47):fg (l.drop i) ((l.take i).drop a) parts=fg (l.drop (i+1)) ((l.take (i+1)).drop a) parts:=by
 rw[List.drop_eq_getElem_cons aC,fg,if_neg aZ,List.take_succ_eq_append_getElem aC,List.drop_append_of_le_length (by rw[List.length_take];omega)]
theorem G6 {l:List UInt8} (aa:¬l.length>1000) (ah:l.head?=some 47∨l.all gM=false):dZ l=([],5):=by
 unfold dZ;rw[if_neg aa,if_pos ah]
theorem G7 {l:List UInt8} (aa:¬l.length>1000) (ah:fg l [] []=none):dZ l=([],5):=by
 unfold dZ;rw[if_neg aa];split
 ·rfl
 rw[ah]
set_option maxHeartbeats 1600000 in
theorem L' (l:List UInt8) (af:l.length<2^40) (σ:al):
  AC Tryz.prog 142 [.v (.string (aK l))] σ (fun e σ'=>e= .ret (.bd [.v (.string (aK (dZ l).1)), .v (.int .i64 (dZ l).2)])∧σ'=σ):=by
 refine AC.still ?_ σ;refine AC.forget (R:=fun e _=>e= .ret (.bd [.v (.string (aK (dZ l).1)), .v (.int .i64 (dZ l).2)])) ?_ fun e σ' h=>⟨[],aQ.nil _,h,rfl⟩;have bU:=gu l;have kF:(aK l).data.toList=l:=rfl;refine AC.bI Tryz.func142 Tryz.ntmps142 fun C ar=> ?_;refine j.J (j.rg [0] fun K I=> ?_);simp only[go_sem];apply I;refine j.J (j.J (j.rg [0] fun K I=> ?_));simp only[go_sem,bU];apply I;refine j.cond rfl (fun h'=> ?_) (fun h'=> ?_)
 ·have aa:l.length>1000:=Int.ofNat_lt.1 (by simpa using h');refine j.J (j.rg [] fun K I=> ?_);simp only[go_sem];apply I;refine j.ret ar Tryz.func142 (by simp[go_sem]) ?_;simp only[go_sem];rw[show dZ l=([],3)from if_pos aa];rfl
 have aa:¬l.length>1000:=fun h=>by
  have ah:¬((1000:Nat):Int)<(l.length:Int):=by simpa using h'
  omega
 refine j.aN (j.J (j.J (j.rg [0] fun K I=> ?_)));simp only[go_sem];apply I;refine j.aG ?_;refine j.rebase [0,4] ?_;simp only[go_sem];refine j.while (fun(i:Nat) env' aS=>(i≤l.length∧(l.take i).all gM=true∧(0<i→l.head?≠some 47))∧env'=[(0, .v (.string (aK l))),(4, .v (.int .i64 (i:Int)))]∧aS=[]) (fun(i:Nat)=>l.length-i) 0 ⟨⟨Nat.zero_le _,by simp,fun h=>by omega⟩,rfl,rfl⟩ ?_;rintro i env' aS ⟨⟨hi,b0,Jp⟩,rfl,rfl⟩ aB;have cH:=aB;refine j.J (j.J (j.rg [0,4] fun K I=> ?_));simp only[go_sem,bU];apply I;refine j.cond rfl (fun mw=> ?_) (fun mw=> ?_)
 ·have aC:i<l.length:=Int.ofNat_lt.1 (by simpa using mw);have bf:(0:Int)≤(i:Int):=by omega
  have bp:(i:Int)<(l.length:Int):=by omega
  have aq:l.getD i 0=l[i]:=dC l i 0 aC;have nt:UInt8.ofNat l[i].toNat=l[i]:=by simp
  have zO:=l[i].toNat_lt;refine j.aN (j.J (j.aG (j.J ?_)));rcases(show gM l[i]=false∨(gM l[i]=true∧i≠0)∨(gM l[i]=true∧i=0∧l[i]=47)∨(gM l[i]=true∧i=0∧l[i]≠47)from by
   cases gM l[i]
   ·exact .inl rfl
   by_cases bj:i=0
   ·by_cases bg:l[i]=47
    ·exact .inr (.inr (.inl ⟨rfl,bj,bg⟩))
    exact .inr (.inr (.inr ⟨rfl,bj,bg⟩))
   exact .inr (.inl ⟨rfl,bj⟩))with dj|⟨dj,fe⟩|⟨dj,fe,y3⟩|⟨dj,fe,y3⟩
  ·refine j.rg [0,4] fun K I=> ?_;simp only[go_sem,bU,kF,aq,bf,bp,bD];refine a1 Tryz.call171 (Ba l[i].toNat zO _) ?_;simp only[go_sem,nt,dj,Bool.not_false];apply I;refine j.bZ rfl (j.J (j.rg [] fun K I=> ?_));simp only[go_sem];apply I;refine j.ret ar Tryz.func142 (by simp[go_sem]) ?_;simp only[go_sem];rw[G6 aa (.inr ?_)];rfl
   cases bb:l.all gM with
   |false=>rfl
   |true=>rw[List.all_eq_true.1 bb _ (List.getElem_mem aC)]at dj;cases dj
  ·have e0:((i:Int)==0)=false:=by rw[beq_eq_false_iff_ne];omega
   refine j.rg [0,4] fun K I=> ?_;simp only[go_sem,bU,kF,aq,bf,bp,bD];refine a1 Tryz.call171 (Ba l[i].toNat zO _) ?_;simp only[go_sem,nt,dj,Bool.not_true,e0];apply I;refine j.bJ rfl (j.aN (j.ba (j.rg [0,4] fun K I=> ?_)));simp only[go_sem];apply I;refine j.rebase [0,4] ?_;simp only[go_sem];rw[bH i (by omega)];refine cH (i+1) _ _ ⟨⟨by omega, ?_,fun _=> ?_⟩,rfl,rfl⟩ (by omega)
   ·rw[List.take_succ_eq_append_getElem aC,List.all_append,b0];simp[dj]
   exact Jp (by omega)
  ·have e0:((i:Int)==0)=true:=by rw[fe];rfl
   have k0:((l[i].toNat:Int)==47)=true:=by rw[y3];rfl
   refine j.rg [0,4] fun K I=> ?_;simp only[go_sem,bU,kF,aq,bf,bp,bD];refine a1 Tryz.call171 (Ba l[i].toNat zO _) ?_;simp only[go_sem,nt,dj,Bool.not_true,e0,k0,bU,kF,aq,bf,bp,bD];apply I;refine j.bZ rfl (j.J (j.rg [] fun K I=> ?_));simp only[go_sem];apply I;refine j.ret ar Tryz.func142 (by simp[go_sem]) ?_;simp only[go_sem];rw[G6 aa (.inl ?_)];rfl
   subst fe;rw[List.head?_eq_getElem?,List.getElem?_eq_getElem aC,y3]
  have e0:((i:Int)==0)=true:=by rw[fe];rfl
  have k0:((l[i].toNat:Int)==47)=false:=by
   rw[beq_eq_false_iff_ne];intro h;exact y3 (UInt8.toNat_inj.1 (by show l[i].toNat=47;omega))
  refine j.rg [0,4] fun K I=> ?_;simp only[go_sem,bU,kF,aq,bf,bp,bD];refine a1 Tryz.call171 (Ba l[i].toNat zO _) ?_;simp only[go_sem,nt,dj,Bool.not_true,e0,k0,bU,kF,aq,bf,bp,bD];apply I;refine j.bJ rfl (j.aN (j.ba (j.rg [0,4] fun K I=> ?_)));simp only[go_sem];apply I;refine j.rebase [0,4] ?_;simp only[go_sem];rw[bH i (by omega)];refine cH (i+1) _ _ ⟨⟨by omega, ?_,fun _=> ?_⟩,rfl,rfl⟩ (by omega)
  ·rw[List.take_succ_eq_append_getElem aC,List.all_append,b0];simp[dj]
  subst fe;rw[List.head?_eq_getElem?,List.getElem?_eq_getElem aC];exact fun h=>y3 (Option.some.inj h)
 have cC:i=l.length:=by
  have h:¬i<l.length:=fun h=>by
   have ah:¬(i:Int)<(l.length:Int):=by simpa using mw
   omega
  omega
 subst cC;rw[List.take_length]at b0;have Dv:¬(l.head?=some 47∨l.all gM=false):=by
  rintro(h|h)
  ·cases l with
   |nil=>cases h
   |cons c r=>exact Jp (by simp) h
  rw[b0]at h;cases h
 refine j.exit rfl (j.J (j.rg [0] fun K I=> ?_));simp only[go_sem];apply I;refine j.J (j.rg [0,5] fun K I=> ?_);simp only[go_sem];apply I;refine j.J (j.J (j.rg [0,5,6] fun K I=> ?_));simp only[go_sem];apply I;refine j.aG (j.im 5 1 rfl ?_);refine j.rebase [0,5,6,7] ?_;simp only[go_sem];refine j.while (fun(i:Nat) env' aS=>∃(o:Option Nat) (parts:List (List UInt8)) (iQ:List (List UInt8)) (a:Nat),(i≤l.length+1∧a≤i∧aV o 1 ((parts++iQ).map ez) []∧hU parts≤a∧(i≤l.length→fg l [] []=fg (l.drop i) ((l.take i).drop a) parts)∧(i=l.length+1→fg l [] []=some parts))∧env'=[(0, .v (.string (aK l))),(5, .own o 1 parts.length),(6, .v (.int .i64 (a:Int))),(7, .v (.int .i64 (i:Int)))]∧aS=cellsOf o 1 ((parts++iQ).map ez)) (fun(i:Nat)=>l.length+1-i) 0 ⟨none,[],[],0,⟨by omega,by omega,aV.nil _ _,by decide,fun _=>by simp,fun h=>by omega⟩,rfl,rfl⟩ ?_;rintro i env' aS ⟨o,parts,iQ,a,⟨lQ,bb,aT,DK,DF,cT⟩,rfl,rfl⟩ aB;have eg:=aB;refine j.J (j.J (j.rg [0,5,6,7] fun K I=> ?_));simp only[go_sem,bU];apply I;refine j.cond rfl (fun CG=> ?_) (fun CG=> ?_)
 ·have hi:i≤l.length:=by
   have h:(i:Int)≤(l.length:Int):=by simpa using CG
   omega
  have hinv:=DF hi;refine j.aN (j.J (j.aG (j.J (j.J ?_))));rcases(show(∃h:i<l.length,l[i]≠47)∨(∃h:i<l.length,l[i]=47)∨i=l.length from by
   rcases Nat.lt_or_ge i l.length with h|h
   ·by_cases bg:l[i]=47
    ·exact .inr (.inl ⟨h,bg⟩)
    exact .inl ⟨h,bg⟩
   exact .inr (.inr (by omega)))with⟨aC,aZ⟩|⟨aC,he⟩|he
  ·have d1:decide ((i:Int)<(l.length:Int))=true:=decide_eq_true (by omega);have bf:(0:Int)≤(i:Int):=by omega
   have bp:(i:Int)<(l.length:Int):=by omega
   have aq:l.getD i 0=l[i]:=dC l i 0 aC;have k0:((l[i].toNat:Int) !=47)=true:=by
    rw[bne_iff_ne];intro h;exact aZ (UInt8.toNat_inj.1 (by show l[i].toNat=47;omega))
   refine j.rg [0,5,6,7] fun K I=> ?_;simp only[go_sem,bU,kF,aq,bf,bp,bD,d1,k0];apply I;refine j.bZ rfl (j.exit rfl (j.rg [0,5,6,7] fun K I=> ?_));simp only[go_sem];apply I;refine j.rebase [0,5,6,7] ?_;simp only[go_sem];rw[bH i (by omega)];exact eg (i+1) _ _ ⟨o,parts,iQ,a,⟨by omega,by omega,aT,DK,fun _=>by rw[hinv];exact Od aC bb aZ,fun h=>by omega⟩,rfl,rfl⟩ (by omega)
  ·have d1:decide ((i:Int)<(l.length:Int))=true:=decide_eq_true (by omega);have bf:(0:Int)≤(i:Int):=by omega
   have bp:(i:Int)<(l.length:Int):=by omega
   have aq:l.getD i 0=l[i]:=dC l i 0 aC;have k0:((l[i].toNat:Int) !=47)=false:=by rw[he];rfl
   have hQ:∀h:i<l.length,l[i]=47:=fun _=>he;refine j.rg [0,5,6,7] fun K I=> ?_;simp only[go_sem,bU,kF,aq,bf,bp,bD,d1,k0];apply I;refine j.bJ rfl (j.aN (j.J ?_));have hex:(aK l).extract a i=aK ((l.take i).drop a):=oT l a i;have kD:(0:Int)≤(a:Int):=by omega
   have py:(a:Int)≤(i:Int):=by omega
   have jm:(i:Int)≤(l.length:Int):=by omega
   refine j.rg [0,5,6,7] fun K I=> ?_;simp only[go_sem,bU,hex,kD,py,jm];apply I;obtain⟨p,aP⟩:∃p,p=(l.take i).drop a:=⟨_,rfl⟩;rw[←aP]at hinv⊢;have gn:p.length=i-a:=by rw[aP,List.length_drop,List.length_take];omega
   have hI:=mT p [];have hY:=mT p [46];have fa:=mT p [46,46];refine j.J (j.rg [0,5,7,8] fun K I=> ?_);simp only[go_sem];apply I;refine j.J (j.J ?_);rcases(show p=[]∨(p≠[]∧p=[46])∨(p≠[]∧p≠[46]∧p=[46,46]∧parts=[])∨(p≠[]∧p≠[46]∧p=[46,46]∧parts≠[])∨(p≠[]∧p≠[46]∧p≠[46,46])from by
    by_cases z0:p=[]
    ·exact .inl z0
    by_cases dw:p=[46]
    ·exact .inr (.inl ⟨z0,dw⟩)
    by_cases z2:p=[46,46]
    ·by_cases z3:parts=[]
     ·exact .inr (.inr (.inl ⟨z0,dw,z2,z3⟩))
     exact .inr (.inr (.inr (.inl ⟨z0,dw,z2,z3⟩)))
    exact .inr (.inr (.inr (.inr ⟨z0,dw,z2⟩))))with z0|⟨z0,dw⟩|⟨z0,dw,z2,z3⟩|⟨z0,dw,z2,z3⟩|⟨z0,dw,z2⟩
   ·have e0:decide (p=[])=true:=decide_eq_true z0;refine j.rg [0,5,6,7,8] fun K I=> ?_;simp only[go_sem,hI,e0];apply I;refine j.bZ rfl (j.exit rfl (j.rg [0,5,6,7] fun K I=> ?_));simp only[go_sem];apply I;refine j.rebase [0,5,6,7] ?_;simp only[go_sem];rw[bH i (by omega)];have dn:eV parts p=some parts:=if_pos (.inl z0);have aL:=ry hi hQ (by rw[←aP];exact hinv) (by rw[←aP];exact dn);exact eg (i+1) _ _ ⟨o,parts,iQ,i+1,⟨by omega,by omega,aT,by omega,aL.1,aL.2⟩,rfl,rfl⟩ (by omega)
   ·have e0:decide (p=[])=false:=decide_eq_false z0;have bt:decide (p=[46])=true:=decide_eq_true dw;refine j.rg [0,5,6,7,8] fun K I=> ?_;simp only[go_sem,hI,hY,e0,bt];apply I;refine j.bZ rfl (j.exit rfl (j.rg [0,5,6,7] fun K I=> ?_));simp only[go_sem];apply I;refine j.rebase [0,5,6,7] ?_;simp only[go_sem];rw[bH i (by omega)];have dn:eV parts p=some parts:=if_pos (.inr dw);have aL:=ry hi hQ (by rw[←aP];exact hinv) (by rw[←aP];exact dn);exact eg (i+1) _ _ ⟨o,parts,iQ,i+1,⟨by omega,by omega,aT,by omega,aL.1,aL.2⟩,rfl,rfl⟩ (by omega)
   ·have e0:decide (p=[])=false:=decide_eq_false z0;have bt:decide (p=[46])=false:=decide_eq_false dw;refine j.rg [0,5,6,7,8] fun K I=> ?_;simp only[go_sem,hI,hY,e0,bt];apply I;refine j.bJ rfl (j.aN (j.J (j.J ?_)));have b_:decide (p=[46,46])=true:=decide_eq_true z2;have er:((parts.length:Int)==0)=true:=by rw[z3];rfl
    refine j.rg [0,5,6,7,8] fun K I=> ?_;simp only[go_sem,fa,b_,er];apply I;refine j.bZ rfl (j.J (j.rg [] fun K I=> ?_));simp only[go_sem];apply I;refine j.ret ar Tryz.func142 (by simp[go_sem]) ?_;simp only[go_sem];rw[G7 aa (G0 hi hQ (by rw[←aP];exact hinv) (by rw[←aP];unfold eV;rw[if_neg (by rintro(h|h);exact z0 h;exact dw h),if_pos z2,if_pos z3]))];rfl
   ·have e0:decide (p=[])=false:=decide_eq_false z0;have bt:decide (p=[46])=false:=decide_eq_false dw;refine j.rg [0,5,6,7,8] fun K I=> ?_;simp only[go_sem,hI,hY,e0,bt];apply I;refine j.bJ rfl (j.aN (j.J (j.J ?_)));have b_:decide (p=[46,46])=true:=decide_eq_true z2;have qE:0<parts.length:=List.length_pos_iff.2 z3;have er:((parts.length:Int)==0)=false:=by rw[beq_eq_false_iff_ne];omega
    refine j.rg [0,5,6,7,8] fun K I=> ?_;simp only[go_sem,fa,b_,er];apply I;refine j.bJ rfl (j.aN (j.J (j.rg [0,5,6,7,8] fun K I=> ?_)));simp only[go_sem,fa,b_];apply I;refine j.bZ rfl ?_;have iN:IntKind.i64.wrap ((parts.length:Int)-1)=((parts.length-1:Nat):Int):=by
     rw[show(parts.length:Int)-1=((parts.length-1:Nat):Int) by omega];have:=pP parts;exact kt _ (by omega) (by omega)
    refine j.rg [0,5,6,7] fun K I=> ?_;simp only[go_sem,iN];refine⟨⟨by omega,by omega⟩, ?_⟩;apply I;refine j.ba (j.rg [0,5,6,7] fun K I=> ?_);simp only[go_sem];apply I;refine j.rebase [0,5,6,7] ?_;simp only[go_sem];rw[bH i (by omega)];have dn:eV parts p=some parts.dropLast:=by unfold eV;rw[if_neg (by rintro(h|h);exact z0 h;exact dw h),if_pos z2,if_neg z3]
    have aL:=ry hi hQ (by rw[←aP];exact hinv) (by rw[←aP];exact dn);have iH:parts++iQ=parts.dropLast++([parts.getLast z3]++iQ):=by rw[←List.append_assoc,List.dropLast_concat_getLast]
    refine eg (i+1) _ _ ⟨o,parts.dropLast,[parts.getLast z3]++iQ,i+1,⟨by omega,by omega,by rw[←iH];exact aT, ?_,aL.1,aL.2⟩,by rw[List.length_dropLast],by rw[←iH]⟩ (by omega);have:=vG dn;omega
   have e0:decide (p=[])=false:=decide_eq_false z0;have bt:decide (p=[46])=false:=decide_eq_false dw;refine j.rg [0,5,6,7,8] fun K I=> ?_;simp only[go_sem,hI,hY,e0,bt];apply I;refine j.bJ rfl (j.aN (j.J (j.J ?_)));have b_:decide (p=[46,46])=false:=decide_eq_false z2;refine j.rg [0,5,6,7,8] fun K I=> ?_;simp only[go_sem,fa,b_];apply I;refine j.bJ rfl (j.aN (j.J (j.rg [0,5,6,7,8] fun K I=> ?_)));simp only[go_sem,fa,b_];apply I;refine j.bJ rfl ?_;have mK:=aT.bL;have kg:=aT.cB;rw[List.append_nil]at mK kg;have cv:List.take parts.length ((parts++iQ).map ez)=parts.map ez:=by rw[List.map_append,List.take_append_of_le_length (by simp),List.take_of_length_le (by simp)]
   have dW:parts.length≤((parts++iQ).map ez).length:=by simp
   refine j.fw [0,5,6,7,8] [79] fun K I=> ?_;simp only[go_sem,mK,kg,cv];refine⟨by decide,⟨dW,fun y aF=>by rw[aF];exact⟨rfl,rfl⟩,by rw[List.length_map];have:=pP parts;omega,by rw[List.length_map];have:=pP parts;omega⟩,fun ob aO ax=> ?_⟩;have sV:parts.map ez++[D.v (.string (aK p))]=((parts++[p])++[]).map ez:=by rw[List.append_nil,List.map_append];rfl
   rw[sV]at aO⊢;apply I;refine j.ba (j.rg [0,5,6,7] fun K I=> ?_);simp only[go_sem];apply I;refine j.rebase [0,5,6,7] ?_;simp only[go_sem];rw[bH i (by omega)];have dn:eV parts p=some (parts++[p]):=by unfold eV;rw[if_neg (by rintro(h|h);exact z0 h;exact dw h),if_neg z2]
   have aL:=ry hi hQ (by rw[←aP];exact hinv) (by rw[←aP];exact dn);refine eg (i+1) _ _ ⟨ob,parts++[p],[],i+1,⟨by omega,by omega,⟨ax,aO⟩, ?_,aL.1,aL.2⟩,by simp,by rw[List.append_nil]⟩ (by omega);have:=vG dn;omega
  have d1:decide ((i:Int)<(l.length:Int))=false:=decide_eq_false (by omega);have hQ:∀h:i<l.length,l[i]=47:=fun h=>by omega
  refine j.rg [0,5,6,7] fun K I=> ?_;simp only[go_sem,bU,d1];apply I;refine j.bJ rfl (j.aN (j.J ?_));have hex:(aK l).extract a i=aK ((l.take i).drop a):=oT l a i;have kD:(0:Int)≤(a:Int):=by omega
  have py:(a:Int)≤(i:Int):=by omega
  have jm:(i:Int)≤(l.length:Int):=by omega
  refine j.rg [0,5,6,7] fun K I=> ?_;simp only[go_sem,bU,hex,kD,py,jm];apply I;obtain⟨p,aP⟩:∃p,p=(l.take i).drop a:=⟨_,rfl⟩;rw[←aP]at hinv⊢;have gn:p.length=i-a:=by rw[aP,List.length_drop,List.length_take];omega
  have hI:=mT p [];have hY:=mT p [46];have fa:=mT p [46,46];refine j.J (j.rg [0,5,7,8] fun K I=> ?_);simp only[go_sem];apply I;refine j.J (j.J ?_);rcases(show p=[]∨(p≠[]∧p=[46])∨(p≠[]∧p≠[46]∧p=[46,46]∧parts=[])∨(p≠[]∧p≠[46]∧p=[46,46]∧parts≠[])∨(p≠[]∧p≠[46]∧p≠[46,46])from by
   by_cases z0:p=[]
   ·exact .inl z0
   by_cases dw:p=[46]
   ·exact .inr (.inl ⟨z0,dw⟩)
   by_cases z2:p=[46,46]
   ·by_cases z3:parts=[]
    ·exact .inr (.inr (.inl ⟨z0,dw,z2,z3⟩))
    exact .inr (.inr (.inr (.inl ⟨z0,dw,z2,z3⟩)))
   exact .inr (.inr (.inr (.inr ⟨z0,dw,z2⟩))))with z0|⟨z0,dw⟩|⟨z0,dw,z2,z3⟩|⟨z0,dw,z2,z3⟩|⟨z0,dw,z2⟩
  ·have e0:decide (p=[])=true:=decide_eq_true z0;refine j.rg [0,5,6,7,8] fun K I=> ?_;simp only[go_sem,hI,e0];apply I;refine j.bZ rfl (j.exit rfl (j.rg [0,5,6,7] fun K I=> ?_));simp only[go_sem];apply I;refine j.rebase [0,5,6,7] ?_;simp only[go_sem];rw[bH i (by omega)];have dn:eV parts p=some parts:=if_pos (.inl z0);have aL:=ry hi hQ (by rw[←aP];exact hinv) (by rw[←aP];exact dn);exact eg (i+1) _ _ ⟨o,parts,iQ,i+1,⟨by omega,by omega,aT,by omega,aL.1,aL.2⟩,rfl,rfl⟩ (by omega)
  ·have e0:decide (p=[])=false:=decide_eq_false z0;have bt:decide (p=[46])=true:=decide_eq_true dw;refine j.rg [0,5,6,7,8] fun K I=> ?_;simp only[go_sem,hI,hY,e0,bt];apply I;refine j.bZ rfl (j.exit rfl (j.rg [0,5,6,7] fun K I=> ?_));simp only[go_sem];apply I;refine j.rebase [0,5,6,7] ?_;simp only[go_sem];rw[bH i (by omega)];have dn:eV parts p=some parts:=if_pos (.inr dw);have aL:=ry hi hQ (by rw[←aP];exact hinv) (by rw[←aP];exact dn);exact eg (i+1) _ _ ⟨o,parts,iQ,i+1,⟨by omega,by omega,aT,by omega,aL.1,aL.2⟩,rfl,rfl⟩ (by omega)
  ·have e0:decide (p=[])=false:=decide_eq_false z0;have bt:decide (p=[46])=false:=decide_eq_false dw;refine j.rg [0,5,6,7,8] fun K I=> ?_;simp only[go_sem,hI,hY,e0,bt];apply I;refine j.bJ rfl (j.aN (j.J (j.J ?_)));have b_:decide (p=[46,46])=true:=decide_eq_true z2;have er:((parts.length:Int)==0)=true:=by rw[z3];rfl
   refine j.rg [0,5,6,7,8] fun K I=> ?_;simp only[go_sem,fa,b_,er];apply I;refine j.bZ rfl (j.J (j.rg [] fun K I=> ?_));simp only[go_sem];apply I;refine j.ret ar Tryz.func142 (by simp[go_sem]) ?_;simp only[go_sem];rw[G7 aa (G0 hi hQ (by rw[←aP];exact hinv) (by rw[←aP];unfold eV;rw[if_neg (by rintro(h|h);exact z0 h;exact dw h),if_pos z2,if_pos z3]))];rfl
  ·have e0:decide (p=[])=false:=decide_eq_false z0;have bt:decide (p=[46])=false:=decide_eq_false dw;refine j.rg [0,5,6,7,8] fun K I=> ?_;simp only[go_sem,hI,hY,e0,bt];apply I;refine j.bJ rfl (j.aN (j.J (j.J ?_)));have b_:decide (p=[46,46])=true:=decide_eq_true z2;have qE:0<parts.length:=List.length_pos_iff.2 z3;have er:((parts.length:Int)==0)=false:=by rw[beq_eq_false_iff_ne];omega
   refine j.rg [0,5,6,7,8] fun K I=> ?_;simp only[go_sem,fa,b_,er];apply I;refine j.bJ rfl (j.aN (j.J (j.rg [0,5,6,7,8] fun K I=> ?_)));simp only[go_sem,fa,b_];apply I;refine j.bZ rfl ?_;have iN:IntKind.i64.wrap ((parts.length:Int)-1)=((parts.length-1:Nat):Int):=by
    rw[show(parts.length:Int)-1=((parts.length-1:Nat):Int) by omega];have:=pP parts;exact kt _ (by omega) (by omega)
   refine j.rg [0,5,6,7] fun K I=> ?_;simp only[go_sem,iN];refine⟨⟨by omega,by omega⟩, ?_⟩;apply I;refine j.ba (j.rg [0,5,6,7] fun K I=> ?_);simp only[go_sem];apply I;refine j.rebase [0,5,6,7] ?_;simp only[go_sem];rw[bH i (by omega)];have dn:eV parts p=some parts.dropLast:=by unfold eV;rw[if_neg (by rintro(h|h);exact z0 h;exact dw h),if_pos z2,if_neg z3]
   have aL:=ry hi hQ (by rw[←aP];exact hinv) (by rw[←aP];exact dn);have iH:parts++iQ=parts.dropLast++([parts.getLast z3]++iQ):=by rw[←List.append_assoc,List.dropLast_concat_getLast]
   refine eg (i+1) _ _ ⟨o,parts.dropLast,[parts.getLast z3]++iQ,i+1,⟨by omega,by omega,by rw[←iH];exact aT, ?_,aL.1,aL.2⟩,by rw[List.length_dropLast],by rw[←iH]⟩ (by omega);have:=vG dn;omega
  have e0:decide (p=[])=false:=decide_eq_false z0;have bt:decide (p=[46])=false:=decide_eq_false dw;refine j.rg [0,5,6,7,8] fun K I=> ?_;simp only[go_sem,hI,hY,e0,bt];apply I;refine j.bJ rfl (j.aN (j.J (j.J ?_)));have b_:decide (p=[46,46])=false:=decide_eq_false z2;refine j.rg [0,5,6,7,8] fun K I=> ?_;simp only[go_sem,fa,b_];apply I;refine j.bJ rfl (j.aN (j.J (j.rg [0,5,6,7,8] fun K I=> ?_)));simp only[go_sem,fa,b_];apply I;refine j.bJ rfl ?_;have mK:=aT.bL;have kg:=aT.cB;rw[List.append_nil]at mK kg;have cv:List.take parts.length ((parts++iQ).map ez)=parts.map ez:=by rw[List.map_append,List.take_append_of_le_length (by simp),List.take_of_length_le (by simp)]
  have dW:parts.length≤((parts++iQ).map ez).length:=by simp
  refine j.fw [0,5,6,7,8] [79] fun K I=> ?_;simp only[go_sem,mK,kg,cv];refine⟨by decide,⟨dW,fun y aF=>by rw[aF];exact⟨rfl,rfl⟩,by rw[List.length_map];have:=pP parts;omega,by rw[List.length_map];have:=pP parts;omega⟩,fun ob aO ax=> ?_⟩;have sV:parts.map ez++[D.v (.string (aK p))]=((parts++[p])++[]).map ez:=by rw[List.append_nil,List.map_append];rfl
  rw[sV]at aO⊢;apply I;refine j.ba (j.rg [0,5,6,7] fun K I=> ?_);simp only[go_sem];apply I;refine j.rebase [0,5,6,7] ?_;simp only[go_sem];rw[bH i (by omega)];have dn:eV parts p=some (parts++[p]):=by unfold eV;rw[if_neg (by rintro(h|h);exact z0 h;exact dw h),if_neg z2]
  have aL:=ry hi hQ (by rw[←aP];exact hinv) (by rw[←aP];exact dn);refine eg (i+1) _ _ ⟨ob,parts++[p],[],i+1,⟨by omega,by omega,⟨ax,aO⟩, ?_,aL.1,aL.2⟩,by simp,by rw[List.append_nil]⟩ (by omega);have:=vG dn;omega
 have cC:i=l.length+1:=by
  have h:¬(i:Int)≤(l.length:Int):=by simpa using CG
  omega
 have ch:=cT cC;have St:List.take parts.length ((parts++iQ).map ez)=parts.map ez:=by rw[List.map_append,List.take_append_of_le_length (by simp),List.take_of_length_le (by simp)]
 refine j.rebase [5] ?_;simp only[go_sem];rw[←List.append_nil (cellsOf o 1 ((parts++iQ).map ez))];refine j.Vy aT (by simp) ?_;rw[St];have gn:(parts.map ez).length=parts.length:=List.length_map ..;have ac1:=pP parts;have x6:∀k,(Lib.join (parts.take k) [47]).length≤1002:=fun k=>by
  have hY:=EK (parts.take k) 47;have fa:=Ur parts k;omega
 refine j.exit rfl (j.J (j.rg [5] fun K I=> ?_));simp only[go_sem];apply I;refine j.J (j.J (j.rg [5,9] fun K I=> ?_));simp only[go_sem];apply I;refine j.aG ?_;refine j.rebase [5,9,10] ?_;simp only[go_sem];refine j.while (fun(k:Nat) env' aS=>(k≤parts.length)∧env'=[(5, .ai (parts.map ez)),(9, .v (.string (aK (Lib.join (parts.take k) [47])))),(10, .v (.int .i64 (k:Int)))]∧aS=[]) (fun(k:Nat)=>parts.length-k) 0 ⟨Nat.zero_le _,rfl,rfl⟩ ?_;rintro k env' aS ⟨aj,rfl,rfl⟩ aB;have hl:=aB;refine j.J (j.J (j.rg [5,9,10] fun K I=> ?_));simp only[go_sem,gn];apply I;refine j.cond rfl (fun xj=> ?_) (fun xj=> ?_)
 ·have eO:k<parts.length:=Int.ofNat_lt.1 (by simpa using xj);have dc:(0:Int)≤(k:Int):=by omega
  have cb:(k:Int)<(parts.length:Int):=by omega
  have nq:=b6 ez parts k eO;rw[ez]at nq;have Eh:=x6 k;have ac5:=x6 (k+1);have ih:=TL (parts.take k) parts[k];rw[←List.take_succ_eq_append_getElem eO]at ih;refine j.aN (j.J (j.aG (j.J (j.J ?_))));rcases Nat.eq_zero_or_pos k with ke|ke
  ·have d8:decide ((k:Int)>0)=false:=decide_eq_false (by omega);refine j.rg [5,9,10] fun K I=> ?_;simp only[go_sem,d8];apply I;refine j.bJ rfl (j.aN ?_);have I5:parts.take k=[]:=by rw[ke];rfl
   rw[if_pos I5]at ih;rw[I5,Lib.join_nil];have eN:∀bz bM,cF Tryz.prog .add 9 bz bM (.v (.string (aK []))) (.v (.string (aK parts[k])))= .val True (.v (.string (aK (Lib.join (parts.take (k+1)) [47])))):=fun bz bM=>by
    have:=ra bz bM (aK []) (aK parts[k]) (by rw[ht,ht,←ih];show 0+_<_;omega)
    rw[ht,ht,List.nil_append]at this;rw[ih];exact this
   refine j.rg [5,9,10] fun K I=> ?_;simp only[go_sem,gn,dc,cb,nq,eN];apply I;refine j.ba (j.rg [5,9,10] fun K I=> ?_);simp only[go_sem];apply I;refine j.rebase [5,9,10] ?_;simp only[go_sem];rw[bH k (by omega)];exact hl (k+1) _ _ ⟨by omega,rfl,rfl⟩ (by omega)
  have d8:decide ((k:Int)>0)=true:=decide_eq_true (by omega);refine j.rg [5,9,10] fun K I=> ?_;simp only[go_sem,d8];apply I;refine j.bZ rfl ?_;have R9:parts.take k≠[]:=fun h=>by
   have:=congrArg List.length h;rw[List.length_take,List.length_nil]at this;omega
  rw[if_neg R9]at ih;have C9:∀bz bM,cF Tryz.prog .add 9 bz bM (.v (.string (aK (Lib.join (parts.take k) [47])))) (.v (.string ⟨#[47]⟩))= .val True (.v (.string (aK (Lib.join (parts.take k) [47]++[47])))):=fun bz bM=>by
   have:=ra bz bM (aK (Lib.join (parts.take k) [47])) ⟨#[47]⟩ (by rw[ht];show _+1<_;omega)
   rw[ht]at this;exact this
  have u':∀bz bM,cF Tryz.prog .add 9 bz bM (.v (.string (aK (Lib.join (parts.take k) [47]++[47])))) (.v (.string (aK parts[k])))= .val True (.v (.string (aK (Lib.join (parts.take (k+1)) [47])))):=fun bz bM=>by
   have:=ra bz bM (aK (Lib.join (parts.take k) [47]++[47])) (aK parts[k]) (by rw[ht,ht,←List.length_append,←ih];omega);rw[ht,ht,←ih]at this;exact this
  refine j.rg [5,9,10] fun K I=> ?_;simp only[go_sem,C9];apply I;refine j.rg [5,9,10] fun K I=> ?_;simp only[go_sem,gn,dc,cb,nq,u'];apply I;refine j.ba (j.rg [5,9,10] fun K I=> ?_);simp only[go_sem];apply I;refine j.rebase [5,9,10] ?_;simp only[go_sem];rw[bH k (by omega)];exact hl (k+1) _ _ ⟨by omega,rfl,rfl⟩ (by omega)
 have gZ:k=parts.length:=by
  have h:¬k<parts.length:=fun h=>by
   have ah:¬(k:Int)<(parts.length:Int):=by simpa using xj
   omega
  omega
 subst gZ;rw[List.take_length];have AZ:=mT (Lib.join parts [47]) [];have A0:=gu (Lib.join parts [47]);have dn:dZ l=if Lib.join parts [47]=[]then([],5)else if(Lib.join parts [47]).length>100 then([],3)else(Lib.join parts [47],0):=by unfold dZ;rw[if_neg aa,if_neg Dv,ch]
 refine j.exit rfl (j.J (j.J (j.rg [9] fun K I=> ?_)));simp only[go_sem,AZ];apply I;refine j.cond rfl (fun CV=> ?_) (fun CV=> ?_)
 ·have dp:Lib.join parts [47]=[]:=by simpa using CV
  refine j.J (j.rg [] fun K I=> ?_);simp only[go_sem];apply I;refine j.ret ar Tryz.func142 (by simp[go_sem]) ?_;simp only[go_sem];rw[dn,if_pos dp];rfl
 have dp:¬Lib.join parts [47]=[]:=by simpa using CV
 refine j.aN (j.J (j.J (j.rg [9] fun K I=> ?_)));simp only[go_sem,A0];apply I;refine j.cond rfl (fun CB=> ?_) (fun CB=> ?_)
 ·have dq:(Lib.join parts [47]).length>100:=Int.ofNat_lt.1 (by simpa using CB);refine j.J (j.rg [] fun K I=> ?_);simp only[go_sem];apply I;refine j.ret ar Tryz.func142 (by simp[go_sem]) ?_;simp only[go_sem];rw[dn,if_neg dp,if_pos dq];rfl
 have dq:¬(Lib.join parts [47]).length>100:=fun h=>by
  have ah:¬((100:Nat):Int)<((Lib.join parts [47]).length:Int):=by simpa using CB
  omega
 refine j.aN (j.J (j.rg [9] fun K I=> ?_));simp only[go_sem];apply I;refine j.ret ar Tryz.func142 (by simp[go_sem]) ?_;simp only[go_sem];rw[dn,if_neg dp,if_neg dq]
theorem v_ (n:ByteArray) (af:n.size<2^40) (σ:al):AC Tryz.prog 116 [.v (.string n)] σ (fun e σ'=>e= .ret (.v (.bool (dt (a' n))))∧σ'=σ):=by
 obtain⟨s,rfl⟩:∃s,n=aK s:=⟨a' n,(gr n).symm⟩;rw[ht];rw[gu]at af;refine AC.bI Tryz.func116 Tryz.ntmps116 fun C ar=> ?_;have bW:((aK (dZ s).1).toList==(aK s).toList)=decide ((dZ s).1=s):=mT _ s;by_cases bj:(dZ s).2=0
 ·have ao:dt s=decide ((dZ s).1=s):=by unfold dt;rw[decide_eq_true bj,Bool.true_and]
  have ae:((dZ s).2==0)=true:=by rw[bj];rfl
  refine j.J (j.rg [0] fun K I=> ?_);simp only[go_sem];apply I;refine j.J (j.rg [0] fun K I=> ?_);simp only[go_sem];refine a1 Tryz.call142 (L' s af _) ?_;simp only[go_sem];apply I;refine j.J (j.rg [0,3,4] fun K I=> ?_);simp only[go_sem,bW,ae];apply I;refine j.ret ar Tryz.func116 (by simp[go_sem]) ?_;simp only[go_sem];rw[ao]
 have ao:dt s=false:=by unfold dt;rw[decide_eq_false bj,Bool.false_and]
 have ae:((dZ s).2==0)=false:=by rw[beq_eq_false_iff_ne];exact bj
 refine j.J (j.rg [0] fun K I=> ?_);simp only[go_sem];apply I;refine j.J (j.rg [0] fun K I=> ?_);simp only[go_sem];refine a1 Tryz.call142 (L' s af _) ?_;simp only[go_sem];apply I;refine j.J (j.rg [0,3,4] fun K I=> ?_);simp only[go_sem,ae];apply I;refine j.ret ar Tryz.func116 (by simp[go_sem]) ?_;simp only[go_sem];rw[ao]
structure cZ where
 out:List UInt8
 found:List ByteArray
 many:Nat
def mR (line:List UInt8):List UInt8:=a' (i_ (aK line) ⟨#[10]⟩)
def oR (line:List UInt8):Option (List UInt8):=if Lib.hasPrefix (mR line) ld then some ((mR line).drop 9)else none
def gS (found:List ByteArray) (n:ByteArray):List ByteArray:=if(found.any fun s=>n.toList==s.toList)then found else found++[n]
def fv (files:List ay) (rec:List UInt8→cZ→Option cZ) (line:List UInt8) (st:cZ):Option cZ:=
 match oR line with
 |none=>if(st.out++line).length≤65536 then some ⟨st.out++line,st.found,st.many⟩else none
 |some n=>match findF files (aK n)with
  |none=>none
  |some own=>if dt n=true∧st.many+1≤1000 then rec own ⟨st.out,gS st.found (aK n),st.many+1⟩else none
def fF (f:List UInt8→cZ→Option cZ):List UInt8→List UInt8→cZ→Option cZ
 |[],cur,st=>f cur st
 |c::r,cur,st=>if c=10 then(f (cur++[c]) st).bind (fF f r [])else fF f r (cur++[c]) st
def f' (files:List ay):Nat→List UInt8→cZ→Option cZ
 |0,_,_=>none
 |d+1,b,st=>fF (fv files (f' files d)) b [] st
theorem KK {f:List UInt8→cZ→Option cZ}:∀(r cur:List UInt8) (st:cZ) (k:Nat),Lib.indexByte r 10=(k:Int)→fF f r cur st=(f (cur++r.take (k+1)) st).bind (fF f (r.drop (k+1)) [])
 |[],_,_,k,h=>by simp[Lib.indexByte]at h
 |c::r,cur,st,k,h=>by
  rw[Lib.indexByte]at h;rw[fF];split at h
  ·rename_i ag
   have aj:k=0:=by omega
   subst aj;rw[if_pos (by simpa using ag)];simp
  rename_i ag
  rw[if_neg (by simpa using ag)];split at h
  ·omega
  obtain⟨U,rfl⟩:∃U,k=U+1:=⟨k-1,by have:=Lib.indexByte_ge r 10;rename_i ah;rw[beq_iff_eq]at ah;omega⟩
  rw[KK r (cur++[c]) st U (by omega)];simp
theorem KJ {f:List UInt8→cZ→Option cZ}:∀(r cur:List UInt8) (st:cZ),Lib.indexByte r 10=-1→fF f r cur st=f (cur++r) st
 |[],cur,st,_=>by simp[fF]
 |c::r,cur,st,h=>by
  rw[Lib.indexByte]at h;rw[fF];split at h
  ·omega
  rename_i ag
  rw[if_neg (by simpa using ag)];split at h
  ·rename_i ah
   rw[KJ r (cur++[c]) st (by simpa using ah)];simp
  have:=Lib.indexByte_ge r 10;omega
structure cZ.Ok (st:cZ):Prop where
 out:st.out.length≤65536
 found:st.found.length≤st.many
 many:st.many≤1000
 right:∀n∈st.found,dt (a' n)=true
theorem EN {f:List UInt8→cZ→Option cZ} (ax:∀l st fH,st.Ok→f l st=some fH→fH.Ok):∀(r cur:List UInt8) (st fH:cZ),st.Ok→fF f r cur st=some fH→fH.Ok
 |[],cur,st,fH,h,e=>ax cur st fH h e
 |c::r,cur,st,fH,h,e=>by
  rw[fF]at e;split at e
  ·obtain⟨s1,aa,ah⟩:=Option.bind_eq_some_iff.1 e;exact EN ax r [] s1 fH (ax _ _ _ h aa) ah
  exact EN ax r _ st fH h e
theorem AY {files:List ay} {rec:List UInt8→cZ→Option cZ} (ao:∀b st fH,st.Ok→rec b st=some fH→fH.Ok) (l:List UInt8) (st fH:cZ) (h:st.Ok) (e:fv files rec l st=some fH):fH.Ok:=by
 unfold fv at e;split at e
 ·split at e
  ·cases e
   exact⟨by assumption,h.found,h.many,h.right⟩
  cases e
 split at e
 ·cases e
 split at e
 ·rename_i ag
  refine ao _ ⟨st.out,gS st.found (aK _),st.many+1⟩ _ ⟨h.out, ?_,ag.2, ?_⟩ e
  ·have:=h.found;show(gS st.found (aK _)).length≤st.many+1
   unfold gS;split
   ·omega
   simp;omega
  intro n au;change n∈gS st.found (aK _)at au;unfold gS at au;split at au
  ·exact h.right n au
  rcases List.mem_append.1 au with au|au
  ·exact h.right n au
  rw[List.mem_singleton.1 au,ht];exact ag.1
 cases e
theorem yu (files:List ay):∀(d:Nat) (b:List UInt8) (st fH:cZ),st.Ok→f' files d b st=some fH→fH.Ok
 |0,_,_,_,_,e=>by cases e
 |d+1,b,st,fH,h,e=>EN (fun l s cS af he=>AY (yu files d) l s cS af he) b [] st fH h e
def cd (a6 fo:Option Nat) (st:cZ) (R:al):al:=cellsOf a6 1 (st.out.map bD)++(cellsOf fo 1 (st.found.map ab)++R)
structure ek (a6 fo:Option Nat) (st:cZ) (R:al):Prop where
 o:aV a6 1 (st.out.map bD) (cellsOf fo 1 (st.found.map ab)++R)
 f:aV fo 1 (st.found.map ab) R
theorem k3 {o:Option Nat} {sz:Nat} {xs:List D} {ρ ρ':al} (h:aV o sz xs ρ) (aw:∀b,av b ρ=none→av b ρ'=none):aV o sz xs ρ':=⟨fun c ag=>aw c (h.fresh c ag),h.zero⟩
theorem ek.base {a6 fo:Option Nat} {st:cZ} {ρ ρ':al} (h:ek a6 fo st ρ) (aw:∀b,av b ρ=none→av b ρ'=none):ek a6 fo st ρ':=⟨k3 h.o fun b ae=>by
  rw[kp]at ae⊢;split at ae
  ·cases ae
  exact aw b ae,k3 h.f aw⟩
theorem ek.keep {a6 fo:Option Nat} {st:cZ} {R:al} (h:ek a6 fo st R) {b:Nat} {x:aE} (ae:av b R=some x):av b (cd a6 fo st R)=some x:=h.o.keep (h.f.keep ae)
theorem ek.sset {a6 fo:Option Nat} {st:cZ} {R:al} (h:ek a6 fo st R) {b:Nat} (x:aE) (ae:(av b R).isSome=true):Ab.sset b x (cd a6 fo st R)=cd a6 fo st (Ab.sset b x R):=by
 unfold cd;have aa:(av b (cellsOf fo 1 (st.found.map ab)++R)).isSome=true:=by
  obtain⟨y,aF⟩:=Option.isSome_iff_exists.1 ae;rw[h.f.keep aF];rfl
 rw[h.o.sset aa,h.f.sset ae]
theorem hp {b c:Nat} {x:aE} {ρ:al} (h:av b ρ=none):av b (Ab.sset c x ρ)=none:=by
 rw[jU];split
 ·rename_i e;rw[←e,h];rfl
 exact h
theorem re {b c:Nat} {x:aE} {ρ:al} (h:av b (Ab.sset c x ρ)=none):av b ρ=none:=by
 rw[jU]at h;split at h
 ·rename_i e
  rw[e];cases af:av c ρ with
  |none=>rfl
  |some y=>rw[af]at h;cases h
 exact h
def bV (az l r b4 bo bF:Nat) (x:aE) (v5 v7:D) (R:al):al:=(l,x)::(r, .ec)::(bF, .arr 1 [v7])::(bo, .arr 1 [v5])::(b4, .arr 1 [.ptr az 5 0 0])::R
structure ly (l r b4 bo bF:Nat) (R:al):Prop where
 ES:l≠r
 kN:l≠b4
 Ky:l≠bo
 TV:l≠bF
 yw:r≠b4
 Fv:r≠bo
 V0:r≠bF
 Ik:b4≠bo
 hQ:b4≠bF
 CL:bo≠bF
 nl:av l R=none
 uh:av r R=none
 n4:av b4 R=none
 n5:av bo R=none
 n7:av bF R=none
section
variable {az l r b4 bo bF : Nat} {x y : aE} {v5 v7 Ga Yx : D} {R R' : al}
theorem ly.base (h:ly l r b4 bo bF R) (aw:∀b,av b R=none→av b R'=none):ly l r b4 bo bF R':={h with nl:=aw _ h.nl,uh:=aw _ h.uh,n4:=aw _ h.n4,n5:=aw _ h.n5,n7:=aw _ h.n7}
theorem nF:av l (bV az l r b4 bo bF x v5 v7 R)=some x:=bE ..
theorem vV (h:ly l r b4 bo bF R):av r (bV az l r b4 bo bF x v5 v7 R)=some .ec:=by
 unfold bV;rw[aW,if_neg (Ne.symm h.ES),bE]
theorem Fb (h:ly l r b4 bo bF R):av bF (bV az l r b4 bo bF x v5 v7 R)=some (.arr 1 [v7]):=by
 unfold bV;rw[aW,if_neg (Ne.symm h.TV),aW,if_neg (Ne.symm h.V0),bE]
theorem oY (h:ly l r b4 bo bF R):av bo (bV az l r b4 bo bF x v5 v7 R)=some (.arr 1 [v5]):=by
 unfold bV;rw[aW,if_neg (Ne.symm h.Ky),aW,if_neg (Ne.symm h.Fv),aW,if_neg h.CL,bE]
theorem AN (h:ly l r b4 bo bF R):av b4 (bV az l r b4 bo bF x v5 v7 R)=some (.arr 1 [.ptr az 5 0 0]):=by
 unfold bV;rw[aW,if_neg (Ne.symm h.kN),aW,if_neg (Ne.symm h.yw),aW,if_neg h.hQ,aW,if_neg h.Ik,bE]
theorem yq:sset l y (bV az l r b4 bo bF x v5 v7 R)=bV az l r b4 bo bF y v5 v7 R:=by
 unfold bV;rw[gz]
theorem Fc (h:ly l r b4 bo bF R):sset bo (.arr 1 [Ga]) (bV az l r b4 bo bF x v5 v7 R)=bV az l r b4 bo bF x Ga v7 R:=by
 unfold bV;rw[fx (Ne.symm h.Ky),fx (Ne.symm h.Fv),fx h.CL,gz]
theorem mV (h:ly l r b4 bo bF R) {b:Nat} {o:aE} (ae:av b R=some o):av b (bV az l r b4 bo bF x v5 v7 R)=some o:=by
 have au:∀{c:Nat},av c R=none→b≠c:=fun{c} ag e=>by rw[e,ag]at ae;cases ae
 unfold bV;rw[aW,if_neg (au h.nl),aW,if_neg (au h.uh),aW,if_neg (au h.n7),aW,if_neg (au h.n5),aW,if_neg (au h.n4),ae]
theorem AO (h:ly l r b4 bo bF R) {b:Nat} {o:aE} (ae:(av b R).isSome=true):sset b o (bV az l r b4 bo bF x v5 v7 R)=bV az l r b4 bo bF x v5 v7 (sset b o R):=by
 have au:∀{c:Nat},av c R=none→b≠c:=fun{c} ag e=>by rw[e,ag]at ae;cases ae
 unfold bV;rw[fx (au h.nl),fx (au h.uh),fx (au h.n7),fx (au h.n5),fx (au h.n4)]
theorem hW {b:Nat} (aw:av b R=none→av b R'=none) (h:av b (bV az l r b4 bo bF x v5 v7 R)=none):av b (bV az l r b4 bo bF y Ga Yx R')=none:=by
 unfold bV at*;simp only[aW]at*;repeat' split at h
 all_goals first|cases h|skip
 simp_all
end
def mf (az:Nat) (R τ:al):Prop:=∀b o,b≠az→av b R=some o→av b τ=some o
theorem mf.F3 {az:Nat} {R τ σ:al} (h:mf az R τ) (af:aQ τ σ):mf az R σ:=fun b o ae ao=>af b o (h b o ae ao)
theorem mf.bV {az l r b4 bo bF:Nat} {x:aE} {v5 v7:D} {R τ:al} (aX:ly l r b4 bo bF R) (h:mf az (bV az l r b4 bo bF x v5 v7 R) τ):mf az R τ:=fun b o ae ao=>h b o ae (mV aX ao)
end Go.Ab.S16
