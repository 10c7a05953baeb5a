/- A part of a proof about the given program: the abstract machine, what functions compute, laid in few texts. -/
import Derived.Test.YticjnnmnjfpopaaGreatDoorKEa
import Derived.KernelRfl
import Derived.Orders
import Derived.Test.YticjnnmnjfpopaaGreatDoorProg
set_option linter.unusedSimpArgs false
set_option linter.unusedVariables false
set_option linter.constructorNameAsVariable false
namespace Go.Ab
open Go
theorem bytes_beq (a b:ByteArray):(a==b)=true↔a=b:=by
 show ByteArray.beq a b=true↔_
 cases a;cases b
 simp[ByteArray.beq]
section
variable {P : Program} {w : World} {S : Nat → Prop}
theorem Xr {d:TypeDesc} {k U:Value} (h:kK d k U=true):Instr.sameNow d k U=some (kj k U):=by
 unfold kK at h;split at h
 ·split at h
  ·simp at h;subst h;simp[Instr.sameNow,kj]
  simp at h
 ·split at h
  ·rfl
  cases h
 ·split at h
  ·rfl
  cases h
 cases h
theorem zf {d:TypeDesc} {k:Value}:∀(entries:List MapEntry) (es:List (Value×D)) (i:Nat),es.map (·.1)=entries.map (·.key)→bq w S (es.map (·.2)) (entries.map (·.val))→(∀e∈es,kK d k e.1=true)→
  (Instr.findNow d k entries i=some none∧e' k es=none∧(∀x,il k x es=es++[(k,x)])∧qY k es=es)∨
  (∃m e p,Instr.findNow d k entries i=some (some (i+m,e.val))∧entries[m]?=some e∧es[m]?=some p∧p.1=e.key∧bw w S p.2 e.val∧kj k e.key=true∧e' k es=some p.2∧(∀x,il k x es=es.set m (k,x))∧qY k es=es.eraseIdx m)
 |[],es,i,aj,ao,aA=>by
  have:es=[]:=by cases es with|nil=>rfl|cons e es=>simp at aj
  subst this;exact .inl ⟨rfl,rfl,fun _=>rfl,rfl⟩
 |e::entries,[],i,aj,ao,aA=>by simp at aj
 |e::entries,p::es,i,aj,ao,aA=>by
  obtain⟨U,x⟩:=p;simp only[List.map_cons,List.cons.injEq]at aj;obtain⟨rfl,aj⟩:=aj;simp only[List.map_cons]at ao;obtain⟨v,vs,he,an,nu⟩:=ao.cons_inv;cases he
  have af:=Xr (aA _ (List.mem_cons_self ..));cases bW:kj k e.key with
  |true=>
   refine .inr ⟨0,e,(e.key,x), ?_,rfl,rfl,rfl,an,bW, ?_, ?_, ?_⟩
   ·simp only at af;simp[Instr.findNow,af,bW]
   ·simp[e',bW]
   ·intro y;simp[il,bW]
   simp[qY,bW]
  |false=>
   rcases zf entries es (i+1) aj nu (fun e he=>aA e (by simp[he]))with⟨aa,ah,aJ,bg⟩|⟨m,f,p,aa,ah,aJ,bg,cu,de,lH,qi,eM⟩
   ·refine .inl ⟨?_, ?_, ?_, ?_⟩
    ·simp only at af;simp[Instr.findNow,af,bW,aa]
    ·simp[e',bW,ah]
    ·intro y;simp[il,bW,aJ]
    simp[qY,bW,bg]
   refine .inr ⟨m+1,f,p, ?_,by simpa using ah,by simpa using aJ,bg,cu,de, ?_, ?_, ?_⟩
   ·simp only at af;simp[Instr.findNow,af,bW,aa];omega
   ·simp[e',bW,lH]
   ·intro y;simp[il,bW,qi]
   simp[qY,bW,eM]
theorem FE {T e:TypeId} {d:TypeDesc} (h:l8 P T=some (d,e)):∃nC,P.underlying T=some (.map nC e)∧P.underlying nC=some d:=by
 unfold l8 at h;split at h
 ·rename_i k cV bY
  split at h
  ·rename_i qf aw;cases h;exact⟨k,bY,aw⟩
  cases h
 cases h
theorem sT {d:TypeDesc} {nC:TypeId} {k:Value} (b:Bool) (aw:P.underlying nC=some d) (aj:kK d k k=true):(Instr.checkKey b 10000 nC k).run P w= .ok () w:=by
 show(Instr.checkKey b (9999+1) nC k).run P w=_
 unfold kK at aj;rw[Instr.checkKey];split at aj
 ·split at aj
  ·simp[run_underlying aw]
  simp at aj
 ·split at aj
  ·simp[run_underlying aw]
  cases aj
 ·split at aj
  ·simp[run_underlying aw]
  cases aj
 cases aj
theorem s0 {d:TypeDesc} {nC:TypeId} {k:Value} {es:List MapEntry} {r:Option (Nat×Value)} (aw:P.underlying nC=some d) (h:Instr.findNow d k es 0=some r):(Instr.findKey nC k es).run P w= .ok r w:=by
 simp[Instr.findKey,run_underlying aw,h]
theorem XY {U k:Value} (h:kj k U=true):(Instr.keyThatStays U k).run P w= .ok k w:=by
 have:Instr.sameBits 10000 U k=true:=by
  unfold kj at h;split at h
  ·simp only[Bool.and_eq_true,beq_iff_eq]at h;obtain⟨rfl,rfl⟩:=h;simp[Instr.sameBits]
  ·rw[bytes_beq]at h;subst h;simp only[Instr.sameBits];exact(bytes_beq _ _).2 rfl
  ·simp only[beq_iff_eq]at h;subst h;simp[Instr.sameBits]
  cases h
 simp[Instr.keyThatStays,this]
theorem Cp {w':World} {σ:al} {b:Nat} {x y:aE} {ob:Obj} (aA:∀b,S b→b<w.heap.size) (af:av b σ=some x) (lb:∃es c,w.heap[b]?=some (.map es c)∨∃s p,w.heap[b]?=some (.stringIter s p)) (hw:w'={w with heap:=w.heap.setIfInBounds b ob}):
  Fr w S (cq σ) w' S (sset b y σ)∧(∀k,k≠b→w'.heap[k]?=w.heap[k]?)∧(b<w.heap.size→w'.heap[b]?=some ob):=by
 subst hw;have aH:∀k,k≠b→(w.heap.setIfInBounds b ob)[k]?=w.heap[k]?:=fun k aj=>by rw[Array.getElem?_setIfInBounds,if_neg (fun h=>aj h.symm)]
 refine⟨w9 aA af rfl rfl rfl (by simp) aH ?_,aH,fun ae=>by simp[ae]⟩;intro k c e fr aj;by_cases eU:k=b
 ·subst eU;obtain⟨es,cI,h|⟨s,p,h⟩⟩:=lb<;>rw[h]at aj<;>cases aj
 exact⟨c,fr,(aH k eU).trans aj,rfl⟩
end
section steps
variable {P : Program} {N : cP} {C : Ctx P N} {env : Env} {σ : al} {a : Act} {w : World} {S : Nat → Prop} {o : Oper}
variable {Qp : D → al → Prop} {next : Env → al → Prop} {bN : Act → World → Prop} {Q : Exit → Act → World → Prop}
theorem EU {b:Nat} {v:Value} (h:bw w S (.map b) v):v= .map (some b):=by cases h;rfl
theorem Xc (h:ck C env σ w S a.tmps) (bm:a.defers=C.ds) (aX:dV N o.dst) (bk:∀a w,dR C next a w→bN a w) {T:TypeId} {x y:Operand} {ok:Bool} (aH:o.op= .lookup T x y ok)
  (ak:cQ P Qp next o.dst env σ (aLookup P σ T (ev env x) (ev env y) ok)):o.wp P a w bN Q:=by
 unfold aLookup at ak;split at ak
 ·rename_i d e k bY aj
  obtain⟨nC,kC,gD⟩:=FE bY;have aF:=nV aj (df h y);have key:∀{z:Value} {es:List (Value×D)} {entries:Array MapEntry},eB P e=some z→es.map (·.1)=entries.toList.map (·.key)→bq w S (es.map (·.2)) (entries.toList.map (·.val))→
    ((a.eval x= .map none∧entries=#[])∨∃b clock,a.eval x= .map (some b)∧(getObj b).run P w= .ok (.map entries clock) w)→cQ P Qp next o.dst env σ (aFound d z ok k es)→o.wp P a w bN Q:=by
   intro z es entries aO gZ tO qI ak;obtain⟨⟨aa,ah,aJ⟩,kd⟩:=ak;have lX:bw w S (cx z) z:=nN aa;have main:∃v b,(Instr.lookup T (a.eval x) (a.eval y) ok).run P w= .ok (if ok then .tuple #[v, .bool b]else v) w∧bw w S ((e' k es).getD (cx z)) v∧b=(e' k es).isSome:=by
    rcases zf entries.toList es 0 gZ tO aJ with⟨f1,f2,_,_⟩|⟨m,f,p,f1,f2,f3,f4,f5,f6,f7,f8,f9⟩
    ·refine⟨z,false, ?_,by rw[f2];exact lX,by rw[f2];rfl⟩
     unfold Instr.lookup;rcases qI with⟨an,rfl⟩|⟨b,clock,an,jJ⟩
     ·simp only[Sem.run_bind,run_underlying kC,Result.andThen_ok,an,sT _ gD ah,aF,s0 gD f1,p0 aO,Sem.run_pure]
     simp only[Sem.run_bind,run_underlying kC,Result.andThen_ok,an,jJ,sT _ gD ah,aF,s0 gD f1,p0 aO,Sem.run_pure]
    refine⟨f.val,true, ?_,by rw[f7];exact f5,by rw[f7];rfl⟩
    unfold Instr.lookup;rcases qI with⟨an,rfl⟩|⟨b,clock,an,jJ⟩
    ·simp at f2
    simp only[Sem.run_bind,run_underlying kC,Result.andThen_ok,an,jJ,sT _ gD ah,aF,s0 gD f1,Sem.run_pure]
   obtain⟨v,b,bS,cl,rfl⟩:=main;cases ok with
   |true=>exact eC h bm aX bk (v:= .tuple #[v, .bool (e' k es).isSome]) (by simp only[execOp,aH];rw[Sem.run_bind,bS];rfl) (.bd (.cons cl (.cons (.v rfl) .nil))) kd
   |false=>exact eC h bm aX bk (v:=v) (by simp only[execOp,aH];rw[Sem.run_bind,bS];rfl) cl kd
  split at ak
  ·rename_i z b aO hm
   have an:=df h x;rw[hm]at an;split at ak
   ·rename_i es af
    obtain⟨entries,clock,a8,ao,gZ,_⟩:=(h.store b _ af).2;refine key aO gZ ao ?_ ak;have jJ:(getObj b).run P w= .ok (.map entries clock) w:=by simp[getObj,Sem.run,a8]
    exact .inr ⟨b,clock,EU an,jJ⟩
   exact ak.elim
  ·rename_i z aO hm
   have an:=df h x;rw[hm]at an;exact key (entries:=#[]) aO rfl .nil (.inl ⟨an.eh,rfl⟩) ak
  exact ak.elim
 exact ak.elim
theorem Xv {es:List (Value×D)} {entries:Array MapEntry} {m:Nat} {k:Value} {x:D} {dM:Value} (aj:es.map (·.1)=entries.toList.map (·.key)) (ao:bq w S (es.map (·.2)) (entries.toList.map (·.val))) (an:bw w S x dM):
  (es.set m (k,x)).map (·.1)=(entries.modify m fun e=>{e with key:=k,val:=dM}).toList.map (·.key)∧bq w S ((es.set m (k,x)).map (·.2)) ((entries.modify m fun e=>{e with key:=k,val:=dM}).toList.map (·.val))∧
  (entries.modify m fun e=>{e with key:=k,val:=dM}).toList.map (·.born)=entries.toList.map (·.born):=by
 have bt:(entries.modify m fun e=>{e with key:=k,val:=dM}).toList.map (·.key)=(entries.toList.map (·.key)).set m k:=by
  apply List.ext_getElem?;intro i;simp only[List.getElem?_map,Array.getElem?_toList,Array.getElem?_modify,List.getElem?_set,List.length_map,Array.length_toList];by_cases h:m=i
  ·subst h;by_cases aA:m<entries.size<;>simp[aA]
  simp[h]
 have b_:(entries.modify m fun e=>{e with key:=k,val:=dM}).toList.map (·.val)=(entries.toList.map (·.val)).set m dM:=by
  apply List.ext_getElem?;intro i;simp only[List.getElem?_map,Array.getElem?_toList,Array.getElem?_modify,List.getElem?_set,List.length_map,Array.length_toList];by_cases h:m=i
  ·subst h;by_cases aA:m<entries.size<;>simp[aA]
  simp[h]
 have er:(entries.modify m fun e=>{e with key:=k,val:=dM}).toList.map (·.born)=entries.toList.map (·.born):=by
  apply List.ext_getElem?;intro i;simp only[List.getElem?_map,Array.getElem?_toList,Array.getElem?_modify];by_cases h:m=i
  ·subst h;by_cases aA:m<entries.size<;>simp[aA]
  simp[h]
 refine⟨?_, ?_,er⟩
 ·rw[bt,←aj];simp[List.map_set]
 rw[b_];have:(es.set m (k,x)).map (·.2)=(es.map (·.2)).set m x:=by simp[List.map_set]
 rw[this];exact ao.set m an
theorem Mr (h:ck C env σ w S a.tmps) (bm:a.defers=C.ds) (aX:dV N o.dst) (bk:∀a w,dR C next a w→bN a w) {T:TypeId} {m k x:Operand} (aH:o.op= .mapUpdate T m k x∨o.op= .insert T m k x)
  (ak:cQ P Qp next o.dst env σ (aMapUpdate P σ T (ev env m) (ev env k) (ev env x))):o.wp P a w bN Q:=by
 unfold aMapUpdate at ak;split at ak
 ·rename_i d e kL b bY gL hm
  obtain⟨nC,kC,gD⟩:=FE bY;have aj:=nV gL (df h k);have JC:=df h m;rw[hm]at JC;have xS:=EU JC;have an:=df h x;split at ak
  ·rename_i es af
   obtain⟨⟨aa,ah⟩,kd⟩:=ak;obtain⟨oi,iL⟩:=h.store b _ af;obtain⟨entries,clock,a8,ao,gZ,rQ,cM⟩:=iL;have aC:=(Array.getElem?_eq_some_iff.1 a8).1;have jJ:(getObj b).run P w= .ok (.map entries clock) w:=by simp[getObj,Sem.run,a8]
   have main:∃ob,(Instr.mapUpdate T (a.eval m) (a.eval k) (a.eval x)).run P w= .ok () {w with heap:=w.heap.setIfInBounds b ob}∧
     (∀w' S',eI w S w' S'→w'.heap[b]?=some ob→gR w' S' b (.mp (il kL (ev env x) es))):=by
    rcases zf entries.toList es 0 gZ ao ah with⟨f1,f2,f3,_⟩|⟨U,f,p,f1,f2,f3,f4,f5,f6,f7,f8,f9⟩
    ·refine⟨.map (entries.push {key:=kL,val:=a.eval x,born:=clock}) (clock+1), ?_, ?_⟩
     ·have sa:(setObj b (.map (entries.push {key:=kL,val:=a.eval x,born:=clock}) (clock+1))).run P w= .ok () {w with heap:=w.heap.setIfInBounds b (.map (entries.push {key:=kL,val:=a.eval x,born:=clock}) (clock+1))}:=by
       simp[setObj,Sem.run,a8]
      unfold Instr.mapUpdate;simp only[Sem.run_bind,run_underlying kC,Result.andThen_ok,xS,jJ,sT _ gD aa,aj,s0 gD f1];exact sa
     intro w' S' bx k_;refine⟨_,_,k_, ?_, ?_, ?_, ?_⟩
     ·rw[f3];simpa using(ao.ev bx).append (.one (an.ev bx))
     ·rw[f3];simp[gZ]
     ·intro e he;simp only[Array.toList_push,List.mem_append,List.mem_singleton]at he;rcases he with he|rfl
      ·have:=rQ e he;omega
      exact Nat.lt_succ_self _
     simp only[Array.toList_push,List.map_append,List.map_cons,List.map_nil];rw[List.nodup_append];refine⟨cM,by simp, ?_⟩;intro x an y aF;obtain⟨e,he,rfl⟩:=List.mem_map.1 an;have:=rQ e he;simp at aF;omega
    refine⟨.map (entries.modify (0+U) fun e=>{e with key:=kL,val:=a.eval x}) clock, ?_, ?_⟩
    ·have sa:(setObj b (.map (entries.modify (0+U) fun e=>{e with key:=kL,val:=a.eval x}) clock)).run P w= .ok () {w with heap:=w.heap.setIfInBounds b (.map (entries.modify (0+U) fun e=>{e with key:=kL,val:=a.eval x}) clock)}:=by
      simp[setObj,Sem.run,a8]
     have aL:(Instr.keyThatStays (((entries[0+U]?).map (·.key)).getD kL) kL).run P w= .ok kL w:=by
      have:entries[0+U]?=some f:=by simpa using f2
      rw[this];exact XY f6
     unfold Instr.mapUpdate;simp only[Sem.run_bind,run_underlying kC,Result.andThen_ok,xS,jJ,sT _ gD aa,aj,s0 gD f1,aL];exact sa
    intro w' S' bx k_;obtain⟨g1,g2,g3⟩:=Xv (m:=0+U) (k:=kL) gZ (ao.ev bx) (an.ev bx);refine⟨_,_,k_, ?_, ?_, ?_, ?_⟩
    ·rw[f8];simpa using g2
    ·rw[f8];simpa using g1
    ·intro e he;have:e.born∈(entries.modify (0+U) fun e=>{e with key:=kL,val:=a.eval x}).toList.map (·.born):=List.mem_map.2 ⟨e,he,rfl⟩;rw[g3]at this;obtain⟨cV,tr,ae⟩:=List.mem_map.1 this;rw[←ae];exact rQ cV tr
    rw[g3];exact cM
   obtain⟨ob,bS,cl⟩:=main;obtain⟨bl,hF,oL⟩:=Cp (σ:=σ) (y:= .mp (il kL (ev env x) es)) (ob:=ob) h.fr.lt af ⟨entries,clock, .inl a8⟩ rfl;have bx:=nT h bl;exact MT h bm aX bk (by rcases aH with aH|aH<;>(simp only[execOp,aH];rw[Sem.run_bind,bS];rfl)) (rf h.store bx hF oi (cl _ _ bx (oL aC))) bl kd
  exact ak.elim
 exact ak.elim
theorem Vv {b:Nat} {v:Value} (h:bw w S (.ptr b 0 0 0) v):v= .pointer (some ⟨b,0,none⟩):=by cases h;rfl
theorem Xl (h:ck C env σ w S a.tmps) (bm:a.defers=C.ds) (aX:dV N o.dst) (bk:∀a w,dR C next a w→bN a w) {T:TypeId} {x:Operand} (aH:o.op= .range T x)
  (ak:cQ P Qp next o.dst env σ (aRange P T (ev env x))):o.wp P a w bN Q:=by
 unfold aRange at ak;split at ak
 ·rename_i s bY aw
  have an:=df h x;rw[aw]at an;refine uA h bm aX bk (ob:= .stringIter s 0) (x:= .lq s 0) (d:= .ptr w.heap.size 0 0 0) (v:= .pointer (some ⟨w.heap.size,0,none⟩)) ?_ (heap_alloc w _) (by simpa using(bw.ptr (sz:=0) (i:=0) (o:=0):bw (w.alloc (.stringIter s 0)) S (.ptr w.heap.size 0 0 0) _)) (ak.2 _ (lh h.store));simp[execOp,aH,an.eh,Instr.range,run_underlying bY]
 exact ak.elim
theorem Yn {c:Prop} [Decidable c] {dst:Option Nat} {x y:ee} (ak:cQ P Qp next dst env σ (if c then x else y)):(c∧cQ P Qp next dst env σ x)∨(¬c∧cQ P Qp next dst env σ y):=by
 by_cases ag:c
 ·rw[if_pos ag]at ak;exact .inl ⟨ag,ak⟩
 rw[if_neg ag]at ak;exact .inr ⟨ag,ak⟩
theorem Xi (h:ck C env σ w S a.tmps) (bm:a.defers=C.ds) (aX:dV N o.dst) (bk:∀a w,dR C next a w→bN a w) {x:Operand} {b:Bool} (aH:o.op= .next x b)
  (ak:cQ P Qp next o.dst env σ (aNext σ (ev env x) b)):o.wp P a w bN Q:=by
 unfold aNext at ak;split at ak
 ·rename_i sS aw
  have an:=df h x;rw[aw]at an;have eG:=Vv an;split at ak
  ·rename_i s p af
   obtain⟨oi,iL⟩:=h.store sS _ af;have a8:w.heap[sS]?=some (.stringIter s p):=iL;have aC:=(Array.getElem?_eq_some_iff.1 a8).1;have jJ:(getObj sS).run P w= .ok (.stringIter s p) w:=by simp[getObj,Sem.run,a8]
   rcases Yn ak with⟨aP,ak⟩|⟨aP,ak⟩
   ·have sa:(setObj sS (.stringIter s (p+(Utf8.decode s p).2))).run P w= .ok () {w with heap:=w.heap.setIfInBounds sS (.stringIter s (p+(Utf8.decode s p).2))}:=by
     simp[setObj,Sem.run,a8]
    obtain⟨bl,hF,oL⟩:=Cp (σ:=σ) (y:= .lq s (p+(Utf8.decode s p).2)) (ob:= .stringIter s (p+(Utf8.decode s p).2)) h.fr.lt af ⟨#[],0, .inr ⟨s,p,a8⟩⟩ rfl;have bx:=nT h bl;refine step_ok h bm aX bk (v:= .tuple #[.bool true,goInt p, .int .i32 (Utf8.decode s p).1]) ?_ (.bd (.cons (.v rfl) (.cons (.v rfl) (.cons (.v rfl) .nil)))) (rf (y:= .lq s (p+(Utf8.decode s p).2)) h.store bx hF oi (oL aC)) bl ak.2;simp only[execOp,aH,eG];unfold Instr.next;simp only[Sem.run_bind,jJ,Result.andThen_ok,if_pos aP,sa,Sem.run_pure]
   refine eC h bm aX bk (v:= .tuple #[.bool false]) ?_ (.bd (.cons (.v rfl) .nil)) ak.2;simp only[execOp,aH,eG];unfold Instr.next;simp only[Sem.run_bind,jJ,Result.andThen_ok,if_neg aP,Sem.run_pure]
  exact ak.elim
 exact ak.elim
end steps
end Go.Ab
namespace Go.Ab
open Go
section
variable {P : Program} {w : World} {S : Nat → Prop}
structure Src (P:Program) (w:World) (n:Nat) (x:Value) (news:List Value) (m:Nat):Prop where
 len:∀w',(Builtin.lenOf x).run P w'= .ok m w'
 cells:∀w',w'.heap=w.heap→(Builtin.firstCells n m x).run P w'= .ok news.toArray w'
 size:news.length=m*n
theorem GW {w w':World} (h:w'.heap=w.heap) (a:Addr):w'.cell? a=w.cell? a:=by simp[World.cell?,h]
theorem src_ok {σ:al} {x:D} {dM:Value} {ys:List D} {n:Nat} (aL:da w S σ) (an:bw w S x dM) (h:srcOf σ x=some ys) (au:∀y∈ys,y.cells.length=n∧y.plain=true):
  ∃news,Src P w n dM news ys.length∧bq w S (flat ys) news:=by
 have Cs:∀{b off len cap:Nat} {vals:List Value},dM= .slice (some ⟨b,off,none⟩) len cap→len=ys.length→bq w S (flat ys) vals→(∀k v,vals[k]?=some v→w.cell? ⟨b,off+k,none⟩=some v)→
   ∃news,Src P w n dM news ys.length∧bq w S (flat ys) news:=by
  intro b off len cap vals he aA ao ag;subst he;subst aA;have jN:vals.length=ys.length*n:=by rw[ao.length,n' ys n (fun y aF=>(au y aF).1)]
  refine⟨vals,⟨fun w'=>rfl,fun w' hw=> ?_,jN⟩,ao⟩;exact run_firstCells_some (P:=P) w' n ys.length ⟨b,off,none⟩ ys.length cap vals jN (fun U v aR=>by rw[pf,GW hw];exact ag U v aR)
 have nothing:∀{ad:Option Addr} {cap:Nat},dM= .slice ad 0 cap→ys=[]→∃news,Src P w n dM news ys.length∧bq w S (flat ys) news:=by
  intro ad cap he aF;subst he;subst aF;refine⟨[],⟨fun w'=>rfl,fun w' _=> ?_,by simp⟩, .nil⟩;cases ad with
  |none=>exact run_firstCells_none w' n 0 0 cap
  |some a=>exact run_firstCells_some (P:=P) w' n 0 a 0 cap [] (by simp) (fun U v aR=>by simp at aR)
 unfold srcOf at h;split at h
 ·cases h
  obtain⟨ad,cap,he,eJ,rfl|⟨b,off,sz,vals,rfl,ae,ao,ag,af⟩⟩:=sB an
  ·exact nothing he rfl
  exact Cs he rfl ao ag
 ·rename_i ob sz k
  split at h
  ·rename_i xs af
   split at h
   ·rename_i aj
    cases h
    cases ob with
    |none=>
     obtain⟨ad,he,rfl⟩:=q2 an;exact nothing he rfl
    |some b=>
     simp only[bL]at af;split at af
     ·rename_i s zs aq
      split at af
      ·rename_i hj
       cases af;subst hj
       obtain⟨cap,c,e,fr,he,eJ,a8,dg⟩:=vU an;obtain⟨cI,cV,lo,hi,vals,iF,ao,ag,eo,iD⟩:=(aL b _ aq).2;rw[a8]at iF;cases iF
       refine Cs (vals:=vals.take (k*s)) he (by simp;omega) ?_ ?_
       ·rw[rE xs k eo];exact ao.take _
       intro U v aR;rw[List.getElem?_take]at aR;split at aR
       ·rw[Nat.zero_add,ph a8];exact ag U v aR
       cases aR
      cases af
     cases af
   cases h
  cases h
 ·rename_i b sz off k
  split at h
  ·rename_i xs af
   split at h
   ·rename_i aj
    cases h
    rcases BD an with⟨ad,cap,he,rfl⟩|⟨cap,c,e,fr,he,eJ,a8,dg,hC⟩
    ·exact nothing he (by simp)
    simp only[bL]at af;split at af
    ·rename_i s zs aq
     split at af
     ·rename_i hj
      cases af;subst hj
      obtain⟨cI,cV,lo,hi,vals,iF,ao,ag,eo,iD⟩:=(aL b _ aq).2;rw[a8]at iF;cases iF
      refine Cs (vals:=(vals.drop (off*s)).take (k*s)) he (by simp;omega) ?_ ?_
      ·rw[rE _ k (fun y aF=>eo y (List.mem_of_mem_drop aF)),zg xs off eo];exact(ao.drop _).take _
      intro U v aR;rw[List.getElem?_take]at aR;split at aR
      ·rw[List.getElem?_drop]at aR;rw[ph a8];exact ag _ v aR
      cases aR
     cases af
    cases af
   cases h
  cases h
 ·cases h
  exact nothing an.eh rfl
 ·cases h
  rename_i s
  have he:=an.eh;subst he;have aA:(s.data.toList.map bD).length=s.size:=by simp
  rw[aA];refine⟨s.data.toList.map fun c=> .int .u8 (c.toNat:Int),⟨fun w'=>rfl,fun w' _=> ?_, ?_⟩,by rw[HN];exact FC _⟩
  ·have:(s.extract 0 s.size)=s:=by simp
   simp only[Builtin.firstCells,Sem.run_pure,this];congr 1
   apply Array.ext';simp
  simp only[List.length_map,Array.length_toList];cases gq:s.data.toList with
  |nil=>
   have:s.size=0:=by show s.data.size=0;rw[←Array.length_toList,gq];rfl
   have bj:s.data.size=0:=this;rw[this,bj,Nat.zero_mul]
  |cons c r=>
   have:=(au (bD c) (by rw[gq];simp)).1;have jr:n=1:=this.symm;subst jr;show s.data.size=s.size*1
   rw[Nat.mul_one];rfl
 cases h
theorem NL {aD:Array TypeId} {T T2 ty e b_:TypeId} {i:TypeInfo} {g hK mW m:Nat} {dM:Value} {news:List Value} {c:Array Value} {fr:Nat×Nat} (bj:aD[0]?=some T) (aa:aD[1]?=some T2) (bY:P.underlying T=some (.slice e)) (gD:P.underlying T2=P.underlying T∨isStr P T2=true)
  (hi:P.info? e=some i) (jM:Src P w i.size dM news m) (a8:w.heap[g]?=some (.cells c b_ fr)) (dg:mW*i.size≤c.size) (iD:fr.2≤fr.1∨c.size≤fr.1) (aH:∀v∈news,v.oneCell'=true) (qH:hK+m≤mW):
  (Builtin.append_ aD ty #[.slice (some ⟨g,0,none⟩) hK mW,dM]).run P w= .ok (.slice (some ⟨g,0,none⟩) (hK+m) mW) (w.setCells g (hK*i.size) news):=by
 have aO:∃d,P.underlying T2=some d∧∀k,d≠ .int k:=by
  rcases gD with h|h
  ·exact⟨_,h.trans bY,fun k aj=>nomatch aj⟩
  exact⟨_,qU h,fun k aj=>nomatch aj⟩
 obtain⟨d,aw,pC⟩:=aO;have Jb:hK*i.size+news.length≤c.size:=by rw[jM.size,←Nat.add_mul];exact Nat.le_trans (Nat.mul_le_mul_right _ qH) dg
 have aL:=run_storeCells_cells (P:=P) g (hK*i.size) news 0 w
  (fun U aR=>by rw[ph a8,Array.getElem?_eq_getElem (by omega)];rfl)
  (fun U aR=>by
   unfold World.frozen?;simp only[a8];obtain⟨lo,lQ⟩:=fr;simp at iD⊢;omega) aH
 simp only[Nat.add_zero]at aL;have eN:(⟨g,0,none⟩:Addr).add (hK*i.size)=⟨g,hK*i.size,none⟩:=by rw[pf,Nat.zero_add]
 have ag:=jM.cells w rfl;unfold Builtin.append_;simp[bj,aa,run_underlying bY,run_underlying aw,sizeOf,typeInfo,hi,jM.len,qH,ag,eN,aL]
theorem NK {aD:Array TypeId} {T T2 ty e:TypeId} {i:TypeInfo} {z:Value} {ad:Option Addr} {hK mW m:Nat} {dM:Value} {news olds:List Value} (bj:aD[0]?=some T) (aa:aD[1]?=some T2) (bY:P.underlying T=some (.slice e)) (gD:P.underlying T2=P.underlying T∨isStr P T2=true)
  (hi:P.info? e=some i) (aO:i.zero=some z) (jM:Src P w i.size dM news m) (hold:∀w',w'.heap=w.heap→(Builtin.firstCells i.size hK (.slice ad hK mW)).run P w'= .ok olds.toArray w')
  (qH:mW<hK+m) (ae:(hK+m)*i.bytes≤2^46) (aC:hK+m<2^46):
  (Builtin.append_ aD ty #[.slice ad hK mW,dM]).run P w= .ok (.slice (some ⟨w.heap.size,0,none⟩) (hK+m) (grownCap w (hK+m) mW e))
   (w.drew.alloc (.cells (olds.toArray++news.toArray++Builtin.zeroCells z.cells (grownCap w (hK+m) mW e-(hK+m))) e)):=by
 have aO:∃d,P.underlying T2=some d∧∀k,d≠ .int k:=by
  rcases gD with h|h
  ·exact⟨_,h.trans bY,fun k aj=>nomatch aj⟩
  exact⟨_,qU h,fun k aj=>nomatch aj⟩
 obtain⟨d,aw,pC⟩:=aO;have au:¬(hK+m≤mW):=by omega
 have xi:¬(9223372036854775807<((hK:Int)+(m:Int))):=by omega
 have Qi:¬(281474976710656<Builtin.nextslicecap (hK+m) mW*i.bytes):=by
  have:=growslice_fits (need:=hK+m) (old:=mW) (bytes:=i.bytes) (by omega) (by omega);omega
 have ag:=jM.cells w.drew rfl;have aH:=hold w.drew rfl;unfold Builtin.append_;simp[bj,aa,run_underlying bY,run_underlying aw,sizeOf,typeInfo,zeroValue,hi,aO,jM.len,au,xi,Qi,Question.forced,ag,aH,newRow,grownCap];congr 2
 apply Array.ext';simp[List.append_assoc]
end
end Go.Ab
namespace Go.Ab
open Go
section steps
variable {P : Program} {N : cP} {C : Ctx P N} {env : Env} {σ : al} {a : Act} {w : World} {S : Nat → Prop} {o : Oper}
variable {Qp : D → al → Prop} {next : Env → al → Prop} {bN : Act → World → Prop} {Q : Exit → Act → World → Prop}
theorem PE {ys:List D} {vals:List Value} (ao:bq w S (flat ys) vals) (au:∀y∈ys,y.plain=true):∀v∈vals,v.oneCell'=true:=by
 refine ao.one_cell fun d aw=> ?_;obtain⟨y,aF,zZ⟩:=List.mem_flatMap.1 aw;have:=au y aF;unfold D.plain at this;simp only[Bool.and_eq_true,List.all_eq_true]at this;exact this.2 d zZ
theorem K' (z:Value):(cx z).cells.length=z.cells.size:=by cases z<;>simp[cx,D.cells,Value.cells]
theorem Ph (w:World) (S:Nat→Prop):eI w S w.drew S:=⟨fun _ h=>h,fun _ _=>rfl,Shape.refl w⟩
theorem XG (b:Option Nat) (σ:al):aQ (h0 b σ) σ:=by
 intro k o aj;cases b with
 |none=>exact aj
 |some b=>
  simp only[h0]at aj;rw[wg]at aj;split at aj
  ·cases aj
  exact aj
theorem WX (h:ck C env σ w S a.tmps) (bm:a.defers=C.ds) (aX:dV N o.dst) (bk:∀a w,dR C next a w→bN a w) {T T2 ty:TypeId} {aD:Array TypeId} {s x:D} {Br dM:Value} (af:bw w S s Br) (an:bw w S x dM)
  (aH:(execOp a.eval o).run P w=((Builtin.append_ aD ty #[Br,dM]).run P w).andThen fun v w=> .ok (.value v) w) (nv:aD[0]?=some T) (Ek:aD[1]?=some T2)
  (ak:cQ P Qp next o.dst env σ (aAppend P σ T T2 s x)):o.wp P a w bN Q:=by
 unfold aAppend at ak;split at ak
 ·rename_i e ys he oP
  have bY:=l6 he;split at ak
  ·rename_i n uR z au ae aO
   have xL:∃i,P.info? e=some i∧i.size=n∧i.bytes=uR∧i.zero=some z:=by
    unfold cY at au;unfold eB at aO;unfold kR at ae;cases hi:P.info? e with
    |none=>rw[hi]at au;simp at au
    |some i=>rw[hi]at au aO ae;simp at au aO ae;exact⟨i,rfl,au,ae,aO⟩
   obtain⟨i,hi,rfl,rfl,DG⟩:=xL
   --growing:from olds,the elements so far
   have grow:∀{b:Option Nat} {old:List D} {olds:List Value} {ad:Option Addr} {cap:Nat},Br= .slice ad old.length cap→bq w S (flat old) olds→(∀y∈old,y.cells.length=i.size)→
     (∀w',w'.heap=w.heap→(Builtin.firstCells i.size old.length (.slice ad old.length cap)).run P w'= .ok olds.toArray w')→cap<old.length+ys.length→
     cQ P Qp next o.dst env σ (.app ((P.underlying T2=P.underlying T∨isStr P T2=true)∧okV z=true∧(cx z).cells.length=i.size∧(∀y∈ys,y.cells.length=i.size∧y.plain=true)∧(old.length+ys.length)*i.bytes≤2^46∧old.length+ys.length<2^46) b i.size (old++ys))→o.wp P a w bN Q:=by
    intro b old olds ad cap mM qG tQ lO eJ ak;obtain⟨⟨aa,ah,aJ,bg,cu,de⟩,aj⟩:=ak;obtain⟨news,jM,x0⟩:=src_ok h.store an oP bg;have bS:=NK (ty:=ty) nv Ek bY aa hi DG jM lO eJ cu de;generalize aq:grownCap w (old.length+ys.length) cap e=iR at bS;have dQ:old.length+ys.length≤iR:=by rw[←aq];exact grownCap_ge w _ cap e
    have jl:iR≤9223372036854775807:=by rw[←aq];exact grownCap_le_maxLen w _ cap e (by unfold maxLen;omega)
    have Sn:olds.length=old.length*i.size:=by rw[qG.length,n' old i.size tQ]
    have pL:=XG b σ;have J3:ck C env (h0 b σ) w S a.tmps:=⟨h.env,h.store.le pL,h.fr.le pL,h.size⟩;have xH:=lh J3.store;have tK:=aj (some w.heap.size) (fun a8=>nomatch a8) (fun c ag=>by cases ag;exact xH);simp only[cellsOf,List.cons_append,List.nil_append]at tK;have x_:z.cells.size=i.size:=by rw[←K'];exact aJ
    refine MS J3 bm aX bk (v:= .slice (some ⟨w.heap.size,0,none⟩) (old.length+ys.length) iR) (by rw[aH,mM,bS];rfl) (x:= .arr i.size (old++ys)) ?_ ?_ tK
    ·refine⟨_,e,0,0,olds++news,heap_alloc w.drew _, ?_, ?_, ?_, .inl (Nat.le_refl _)⟩
     ·rw[uX];have bx:eI w S (w.drew.alloc (.cells (olds.toArray++news.toArray++Builtin.zeroCells z.cells (iR-(old.length+ys.length))) e)) S:=(Ph w S).trans (uW (w:=w.drew) h.fr.lt _);exact(qG.append x0).ev bx
     ·intro k v gL;rw[Array.getElem?_append_left (by
       have:=(List.getElem?_eq_some_iff.1 gL).1;simpa using this)]
      simpa using gL
     intro y aF;rcases List.mem_append.1 aF with aF|aF
     ·exact tQ y aF
     exact(bg y aF).1
    have:(old++ys).length=old.length+ys.length:=by simp
    rw[this];refine bw.own (heap_alloc w.drew _) dQ ?_ jl;simp only[Array.size_append,List.size_toArray,size_zeroCells,x_,Sn,jM.size];obtain⟨d,rfl⟩:∃d,iR=old.length+ys.length+d:=⟨iR-(old.length+ys.length),by omega⟩;rw[Nat.add_sub_cancel_left,Nat.add_mul,Nat.add_mul];exact Nat.le_refl _
   --from a slice without room
   have HZ:∀{ad:Option Addr},Br= .slice ad 0 0→cQ P Qp next o.dst env σ (.app ((P.underlying T2=P.underlying T∨isStr P T2=true)∧okV z=true∧(cx z).cells.length=i.size∧(∀y∈ys,y.cells.length=i.size∧y.plain=true)∧(([]:List D).length+ys.length)*i.bytes≤2^46∧([]:List D).length+ys.length<2^46) none i.size ys)→o.wp P a w bN Q:=by
    intro ad mM ak;by_cases aF:ys=[]
    ·subst aF;obtain⟨⟨aa,ah,aJ,bg,cu,de⟩,aj⟩:=ak;obtain⟨news,jM,x0⟩:=src_ok h.store an oP bg;have tK:=aj none (fun _=>rfl) (fun c ag=>nomatch ag);refine eC h bm aX bk (v:= .slice ad 0 0) ?_ .hV tK;have Ex:∃d,P.underlying T2=some d∧∀k,d≠ .int k:=by
      rcases aa with h|h
      ·exact⟨_,h.trans bY,fun k aj=>nomatch aj⟩
      exact⟨_,qU h,fun k aj=>nomatch aj⟩
     obtain⟨d,aw,pC⟩:=Ex;have Sa:news=[]:=List.eq_nil_of_length_eq_zero (by rw[jM.size];simp);subst Sa;have ag:=jM.cells w rfl;have aA:(Builtin.lenOf dM).run P w= .ok 0 w:=jM.len w;have xw:(Builtin.firstCells i.size 0 dM).run P w= .ok #[] w:=ag;rw[aH,mM];have:(Builtin.append_ aD ty #[.slice ad 0 0,dM]).run P w= .ok (.slice ad 0 0) w:=by
      unfold Builtin.append_;cases ad<;>simp[nv,Ek,run_underlying bY,run_underlying aw,sizeOf,typeInfo,hi,aA,xw,storeCells]
     rw[this];rfl
    have aP:0<ys.length:=List.length_pos_iff.2 aF;refine grow (b:=none) (old:=[]) (olds:=[]) (ad:=ad) (cap:=0) mM .nil (by simp) (fun w' _=> ?_) (by simpa using aP) ak;cases ad with
    |none=>exact run_firstCells_none w' _ 0 0 0
    |some ad=>exact run_firstCells_some (P:=P) w' _ 0 ad 0 0 [] (by simp) (fun U v aR=>by simp at aR)
   dsimp only at ak;split at ak
   ·exact HZ af.eh ak
   ·rename_i ob sz k
    split at ak
    ·rename_i xs ch
     cases ob with
     |none=>
      simp only[bL,Option.some.injEq]at ch;subst ch;obtain⟨ad,mM,rfl⟩:=q2 af;exact HZ mM ⟨ak.1.2.2,ak.2⟩
     |some b=>
     simp only[bL]at ch;split at ch
     case h_2=>cases ch
     rename_i cm zs oA
     split at ch
     case isFalse=>cases ch
     rename_i hj
     cases ch
     subst hj;have mO:=ak;obtain⟨⟨rfl,aj,qF⟩,Ad⟩:=ak;obtain⟨cap,c,cV,fr,mM,eJ,a8,dg,hC⟩:=E_ af;obtain⟨oi,iL⟩:=h.store b _ oA;obtain⟨cI,aal,lo,lQ,vals,iF,ao,ag,eo,iD⟩:=iL;rw[a8]at iF;cases iF
     have hlen:(xs.take k).length=k:=by simp;omega
     have jN:vals.length=xs.length*i.size:=by rw[ao.length,n' xs _ eo]
     have qG:bq w S (flat (xs.take k)) (vals.take (k*i.size)):=by rw[rE xs k eo];exact ao.take _
     have tQ:∀y∈xs.take k,y.cells.length=i.size:=fun y aF=>eo y (List.mem_of_mem_take aF);by_cases qH:k+ys.length≤cap
     ·obtain⟨aa,ah,aJ,bg,cu,de⟩:=qF;obtain⟨news,jM,x0⟩:=src_ok h.store an oP bg;have gm:=PE x0 (fun y aF=>(bg y aF).2);have bS:=NL (ty:=ty) (fr:=(lo,lQ)) nv Ek bY aa hi jM a8 dg iD gm qH;have Jb:k*i.size+news.length≤c.size:=by rw[jM.size,←Nat.add_mul];exact Nat.le_trans (Nat.mul_le_mul_right _ qH) dg
      obtain⟨cI,qt,qu,xx⟩:=Bj b cV (lo,lQ) news (k*i.size) w c a8 Jb;have hF:=fun U aR=>Bk b news (k*i.size) w U aR;obtain⟨f1,f2,f3,f4⟩:=Bi b news (k*i.size) w;have fD:=FT hF a8 qt qu;have Jd:=w9 (y:= .arr i.size (xs.take k++ys)) h.fr.lt oA f1 f2 f3 f4 hF fD;have bx:=nT h Jd;have jt:gR (w.setCells b (k*i.size) news) S b (.arr i.size (xs.take k++ys)):=by
       refine⟨cI,cV,lo,lQ,vals.take (k*i.size)++news,qt, ?_, ?_, ?_,by rw[qu];exact iD⟩
       ·rw[uX];exact(qG.append x0).ev bx
       ·intro U v aR;have Au:(vals.take (k*i.size)).length=k*i.size:=by
         rw[List.length_take,jN,Nat.min_eq_left (Nat.mul_le_mul_right _ aj)]
        rw[xx];by_cases d':k*i.size≤U∧U<k*i.size+news.length
        ·rw[if_pos d'];rw[List.getElem?_append_right (by omega),Au]at aR;exact aR
        rw[if_neg d'];have kc:=(List.getElem?_eq_some_iff.1 aR).1;rw[List.length_append,Au]at kc;rw[List.getElem?_append_left (by omega),List.getElem?_take]at aR;split at aR
        ·exact ag U v aR
        cases aR
       intro y aF;rcases List.mem_append.1 aF with aF|aF
       ·exact tQ y aF
       exact(bg y aF).1
      have aL:=rf h.store bx hF oi jt;have xH:av b (cB b σ)=none:=by rw[wg,if_pos rfl]
      have tK:=Ad (some b) (fun a8=>nomatch a8) (fun c ag=>by cases ag;exact xH);simp only[cellsOf,List.cons_append,List.nil_append,h0]at tK;have gq:∀U pV,av U ((b,aE.arr i.size (xs.take k++ys))::cB b σ)=some pV→av U (sset b (.arr i.size (xs.take k++ys)) σ)=some pV:=by
       intro U pV aR;rw[aW]at aR;rw[jU];by_cases z':U=b
       ·subst z';rw[if_pos rfl]at aR⊢;rw[oA];exact aR
       rw[if_neg z']at aR⊢;rw[wg,if_neg z']at aR;exact aR
      refine step_ok h bm aX bk (v:= .slice (some ⟨b,0,none⟩) (k+ys.length) cap) (w':=w.setCells b (k*i.size) news) (by rw[aH,mM,bS];rfl) ?_ (aL.le gq) (Jd.le gq) tK
      have:(xs.take k++ys).length=k+ys.length:=by simp;omega
      rw[this];exact bw.own qt qH (by rw[qu];exact dg) hC
     refine grow (b:=some b) (old:=xs.take k) (olds:=vals.take (k*i.size)) (ad:=some ⟨b,0,none⟩) (cap:=cap) (by rw[hlen];exact mM) qG tQ (fun w' hw=> ?_) (by rw[hlen];omega) ⟨qF,Ad⟩;rw[hlen];refine run_firstCells_some (P:=P) w' i.size k ⟨b,0,none⟩ k cap _ (by rw[List.length_take,jN,Nat.min_eq_left (Nat.mul_le_mul_right _ aj)]) (fun U v aR=> ?_);rw[pf,Nat.zero_add,GW hw,ph a8];rw[List.getElem?_take]at aR;split at aR
     ·exact ag U v aR
     cases aR
    exact ak.elim
   exact ak.elim
  exact ak.elim
 exact ak.elim
end steps
end Go.Ab
namespace Go.Ab
open Go
theorem Bn {b:Nat} {o:aE} {σ:al} (h:av b σ=some o):sset b o σ=σ:=by
 induction σ with
 |nil=>rfl
 |cons p r aB=>
  obtain⟨c,pV⟩:=p;rw[aW]at h;split at h
  ·rename_i fB;subst fB;cases h;simp[sset]
  rename_i fB;simp[sset,fB,aB h]
section steps
variable {P : Program} {N : cP} {C : Ctx P N} {env : Env} {σ : al} {a : Act} {w : World} {S : Nat → Prop} {o : Oper}
variable {Qp : D → al → Prop} {next K : Env → al → Prop} {bN : Act → World → Prop}
theorem W5 (h:ck C env σ w S a.tmps) (bm:a.defers=C.ds) (aX:dV N o.dst) (bk:∀a w,dR C next a w→bN a w) {Q:Exit→Act→World→Prop} {T ty:TypeId} {aD:Array TypeId} {m k:D} {E0 EH:Value} (hm:bw w S m E0) (dc:bw w S k EH)
  (aH:(execOp a.eval o).run P w=((Builtin.delete_ aD ty #[E0,EH]).run P w).andThen fun v w=> .ok (.value v) w) (nv:aD[0]?=some T)
  (ak:cQ P Qp next o.dst env σ (aDelete P σ T m k)):o.wp P a w bN Q:=by
 unfold aDelete at ak;split at ak
 ·rename_i d e kL b bY gL
  obtain⟨nC,kC,gD⟩:=FE bY;have aj:=nV gL dc;have xS:=EU hm;split at ak
  ·rename_i es af
   obtain⟨⟨aa,ah⟩,kd⟩:=ak;obtain⟨oi,iL⟩:=h.store b _ af;obtain⟨entries,clock,a8,ao,gZ,rQ,cM⟩:=iL;have aC:=(Array.getElem?_eq_some_iff.1 a8).1;have jJ:(getObj b).run P w= .ok (.map entries clock) w:=by simp[getObj,Sem.run,a8]
   have main:∃ob,(Builtin.delete_ aD ty #[E0,EH]).run P w= .ok (.tuple #[]) {w with heap:=w.heap.setIfInBounds b ob}∧
     (∀w' S',eI w S w' S'→w'.heap[b]?=some ob→gR w' S' b (.mp (qY kL es))):=by
    have sa:∀ob,(setObj b ob).run P w= .ok () {w with heap:=w.heap.setIfInBounds b ob}:=fun ob=>by simp[setObj,Sem.run,a8]
    rcases zf entries.toList es 0 gZ ao ah with⟨f1,f2,f3,f4⟩|⟨U,f,p,f1,f2,f3,aa1,f5,f6,f7,f8,f9⟩
    ·refine⟨.map entries clock, ?_, ?_⟩
     ·unfold Builtin.delete_;simp only[nv,xS,aj,List.getElem?_toArray,List.getElem?_cons_zero,List.getElem?_cons_succ];simp[run_underlying kC,jJ,sT _ gD aa,s0 gD f1,sa]
     intro w' S' bx k_;exact⟨_,_,k_,by rw[f4];exact ao.ev bx,by rw[f4];exact gZ,rQ,cM⟩
    refine⟨.map (entries.eraseIdxIfInBounds (0+U)) clock, ?_, ?_⟩
    ·unfold Builtin.delete_;simp only[nv,xS,aj,List.getElem?_toArray,List.getElem?_cons_zero,List.getElem?_cons_succ];simp[run_underlying kC,jJ,sT _ gD aa,s0 gD f1,sa]
    intro w' S' bx k_;have aA:(entries.eraseIdxIfInBounds (0+U)).toList=entries.toList.eraseIdx U:=by
     rw[Nat.zero_add];unfold Array.eraseIdxIfInBounds;split
     ·simp
     rename_i dQ
     rw[List.eraseIdx_of_length_le (by simpa using dQ)]
    have iN:(entries.toList.eraseIdx U).Sublist entries.toList:=List.eraseIdx_sublist ..;have iM:=ao.ev bx;refine⟨_,_,k_, ?_, ?_, ?_, ?_⟩
    ·rw[f9,aA,List.eraseIdx_eq_take_drop_succ,List.eraseIdx_eq_take_drop_succ];simp only[List.map_append,List.map_take,List.map_drop];exact(iM.take _).append (iM.drop _)
    ·rw[f9,aA,List.eraseIdx_eq_take_drop_succ,List.eraseIdx_eq_take_drop_succ];simp only[List.map_append,List.map_take,List.map_drop,gZ]
    ·intro x an;rw[aA]at an;exact rQ x (iN.subset an)
    rw[aA];exact(iN.map _).nodup cM
   obtain⟨ob,bS,cl⟩:=main;obtain⟨bl,hF,oL⟩:=Cp (σ:=σ) (y:= .mp (qY kL es)) (ob:=ob) h.fr.lt af ⟨entries,clock, .inl a8⟩ rfl;have bx:=nT h bl;exact step_ok h bm aX bk (v:= .tuple #[]) (by rw[aH,bS];rfl) (.bd .nil) (rf h.store bx hF oi (cl _ _ bx (oL aC))) bl kd
  exact ak.elim
 exact ak.elim
theorem G9 (h:ck C env σ w S a.tmps) (bm:a.defers=C.ds) (aX:dV N o.dst) (bk:∀a w,dR C next a w→bN a w) {Q:Exit→Act→World→Prop} {T e ty:TypeId} {aD:Array TypeId} {n b off k cap:Nat} {z dM:Value} {xs:List D}
  (bY:P.underlying T=some (.slice e)) (aO:eB P e=some z) (nv:aD[0]?=some T) (Et:dM= .slice (some ⟨b,off*n,none⟩) k cap) (dc:0<k)
  (aH:(execOp a.eval o).run P w=((Builtin.clear_ aD ty #[dM]).run P w).andThen fun v w=> .ok (.value v) w) (af:av b σ=some (.arr n xs)) (hle:off+k≤xs.length) (aa:okV z=true) (ah:(cx z).cells.length=n) (aJ:(cx z).plain=true)
  (aj:next (eputo o.dst (.bd []) env) (sset b (.arr n (xs.take off++List.replicate k (cx z)++xs.drop (off+k))) σ)):o.wp P a w bN Q:=by
 subst Et;obtain⟨oi,iL⟩:=h.store b _ af;obtain⟨c,cV,lo,lQ,vals,a8,ao,ag,bU,iD⟩:=iL;have lX:bw w S (cx z) z:=nN aa;have qR:=pY lX aJ;have Tr:z.cells.size=n:=by rw[←K' z];exact ah
 let zs:List Value:=((Array.range (k*n)).map (z.cells[· %z.cells.size]!)).toList
 have Kd:zs.length=k*n:=by simp[zs]
 have Ke:bq w S (flat (List.replicate k (cx z))) zs:=AG qR ah;have En:vals.length=xs.length*n:=by rw[ao.length,n' xs n bU]
 have tp:∀k,k<vals.length→k<c.size:=fun k aj=>by
  obtain⟨v,ak⟩:∃v,vals[k]?=some v:=⟨vals[k],by simp[aj]⟩;exact(Array.getElem?_eq_some_iff.1 (ag k v ak)).1
 have c1:off*n+k*n≤vals.length:=by rw[En,←Nat.add_mul];exact Nat.mul_le_mul_right _ hle
 have Dg:off*n+zs.length≤c.size:=by
  rw[Kd];rcases Nat.eq_zero_or_pos (off*n+k*n)with aO|aO
  ·omega
  have:=tp (off*n+k*n-1) (by omega);omega
 have gm:∀x∈zs,x.oneCell'=true:=by
  refine Ke.one_cell fun d aw=> ?_;have aP:=aJ;unfold D.plain at aP;simp only[Bool.and_eq_true,List.all_eq_true]at aP;obtain⟨y,aF,zZ⟩:=List.mem_flatMap.1 aw;rw[(List.mem_replicate.1 aF).2]at zZ;exact aP.2 d zZ
 obtain⟨cI,qt,qu,xx⟩:=Bj b cV (lo,lQ) zs (off*n) w c a8 Dg;have aL:=run_storeCells_cells (P:=P) b (off*n) zs 0 w
  (fun U aR=>by
   rw[ph a8];rw[Array.getElem?_eq_getElem (by omega)];rfl)
  (fun U aR=>by
   have:off*n+0+U<c.size:=by omega
   unfold World.frozen?;simp only[a8];simp;omega)
  gm
 simp only[Nat.add_zero]at aL;have hF:=fun k aj=>Bk b zs (off*n) w k aj;obtain⟨f1,f2,f3,f4⟩:=Bi b zs (off*n) w;have fD:=FT hF a8 qt qu;have bl:=w9 (y:= .arr n (xs.take off++List.replicate k (cx z)++xs.drop (off+k))) h.fr.lt af f1 f2 f3 f4 hF fD;have bx:=nT h bl;have nu:∀x∈List.replicate k (cx z),x.cells.length=n:=fun x an=>by rw[(List.mem_replicate.1 an).2];exact ah
 have jt:gR (w.setCells b (off*n) zs) S b (.arr n (xs.take off++List.replicate k (cx z)++xs.drop (off+k))):=by
  refine⟨cI,cV,lo,lQ,vals.take (off*n)++zs++vals.drop (off*n+k*n),qt, ?_, ?_, ?_,by rw[qu];exact iD⟩
  ·rw[uX,uX,rE xs off bU,zg xs _ bU,Nat.add_mul];have iM:=ao.ev bx;exact((iM.take _).append (Ke.ev bx)).append (iM.drop _)
  ·intro U x aR;rw[xx];have J_:(vals.take (off*n)).length=off*n:=by simp;omega
   by_cases dq:U<off*n
   ·rw[List.append_assoc,List.getElem?_append_left (by omega),List.getElem?_take,if_pos dq]at aR;rw[if_neg (by omega)];exact ag U x aR
   by_cases mJ:U<off*n+k*n
   ·rw[List.append_assoc,List.getElem?_append_right (by omega),J_,List.getElem?_append_left (by omega)]at aR;rw[if_pos (by omega)];exact aR
   rw[List.getElem?_append_right (by simp;omega),List.getElem?_drop]at aR;simp only[List.length_append,J_,Kd]at aR;rw[if_neg (by omega)];rw[show off*n+k*n+(U-(off*n+k*n))=U by omega]at aR;exact ag U x aR
  intro x an;rcases List.mem_append.1 an with an|an
  ·rcases List.mem_append.1 an with an|an
   ·exact bU x (List.mem_of_mem_take an)
   exact nu x an
  exact bU x (List.mem_of_mem_drop an)
 refine step_ok h bm aX bk (v:= .tuple #[]) ?_ (.bd .nil) (rf h.store bx hF oi jt) bl aj;rw[aH];unfold Builtin.clear_;have cb:∃m,k=m+1:=⟨k-1,by omega⟩;obtain⟨m,rfl⟩:=cb;have Ex:(Builtin.zeroCells z.cells (m+1)).toList=zs:=by simp only[Builtin.zeroCells,zs,Tr]
 simp only[nv,List.getElem?_toArray,List.getElem?_cons_zero,Sem.run_bind,run_underlying bY,Result.andThen_ok,p0 aO,Ex,aL,Sem.run_pure]
theorem W3 (h:ck C env σ w S a.tmps) (bm:a.defers=C.ds) (aX:dV N o.dst) (bk:∀a w,dR C next a w→bN a w) {Q:Exit→Act→World→Prop} {T ty:TypeId} {aD:Array TypeId} {x:D} {dM:Value} (an:bw w S x dM)
  (aH:(execOp a.eval o).run P w=((Builtin.clear_ aD ty #[dM]).run P w).andThen fun v w=> .ok (.value v) w) (nv:aD[0]?=some T)
  (ak:cQ P Qp next o.dst env σ (aClear P σ T x)):o.wp P a w bN Q:=by
 unfold aClear at ak;have nothing:∀{e:TypeId} {ad:Option Addr} {cap:Nat} {σ':al},P.underlying T=some (.slice e)→dM= .slice ad 0 cap→σ'=σ→next (eputo o.dst (.bd []) env) σ'→o.wp P a w bN Q:=by
  intro e ad cap σ' bY eG eL aj;subst eG eL;refine step_ok h bm aX bk (v:= .tuple #[]) ?_ (.bd .nil) h.store (Fr.refl _ h.fr.lt) aj;rw[aH];unfold Builtin.clear_;cases ad<;>simp[nv,run_underlying bY]
 split at ak
 ·rename_i e he
  have bY:=l6 he;split at ak
  ·rename_i n z sz k au aO
   obtain⟨ad,eG,rfl⟩:=q2 an;exact nothing bY eG rfl ak.2
  ·rename_i n z b sz k au aO
   split at ak
   ·rename_i cm xs af
    obtain⟨⟨rfl,rfl,hle,aa,ah,aJ⟩,aj⟩:=ak;obtain⟨cap,c,cV,fr,eG,eJ,a8,dg⟩:=vU an;rcases Nat.eq_zero_or_pos k with rfl|dc
    ·refine nothing bY eG ?_ aj;simp only[List.replicate_zero,List.nil_append,List.drop_zero];exact Bn af
    exact G9 h bm aX bk (off:=0) bY aO nv (by rw[eG,Nat.zero_mul]) dc aH af (by omega) aa ah aJ (by simpa using aj)
   exact ak.elim
  ·rename_i n z b sz off k au aO
   split at ak
   ·rename_i cm xs af
    obtain⟨⟨rfl,rfl,hle,aa,ah,aJ⟩,aj⟩:=ak;rcases Nat.eq_zero_or_pos k with rfl|dc
    ·have eG:∃ad cap,dM= .slice ad 0 cap:=by
      cases an with
      |lv=>exact⟨_,_,rfl⟩
      |win=>exact⟨_,_,rfl⟩
     obtain⟨ad,cap,eG⟩:=eG;refine nothing bY eG ?_ aj;rw[List.replicate_zero,List.append_nil,Nat.add_zero,List.take_append_drop];exact Bn af
    obtain⟨cap,eG⟩:=Ng an dc;exact G9 h bm aX bk bY aO nv eG dc aH af hle aa ah aJ aj
   exact ak.elim
  exact ak.elim
 exact ak.elim
theorem Mt (h:ck C env σ w S a.tmps) (bm:a.defers=C.ds) {d:D} {v:Value} (ak:bw w S d v) (bS:(execOp a.eval o).run P w= .halt (.panic v) w) (bW:Qp d σ):o.wp P a w bN (jb C K Qp):=by
 unfold Oper.wp;rw[bS,Oper.upon_panic];exact⟨bm,h.size,d,σ,S,v,rfl,bW,ak,h.store,h.fr⟩
theorem W6 (h:ck C env σ w S a.tmps) (bm:a.defers=C.ds) (aX:dV N o.dst) (bk:∀a w,dR C next a w→bN a w) {g:FuncId} {args:List D} {vs:List Value} (ao:bq w S args vs)
  (bS:(execOp a.eval o).run P w= .ok (.enter g vs.toArray) w) (ag:AC P g args σ fun e σ'=>match e with| .ret d=>next (eputo o.dst d env) σ'| .panic d=>Qp d σ'):o.wp P a w bN (jb C K Qp):=by
 unfold Oper.wp;rw[bS,Oper.upon_enter];refine(ag w S vs h.Bl h.store ao).mono ?_;rintro e w' ⟨cX,σ',S',bW,c1,aL,bl⟩;cases cX with
 |ret d=>
  cases e with
  |returned v=>exact bk _ _ ⟨by rw[put_defers];exact bm,_,_,_,bW,l_ h aX c1 aL bl⟩
  |panicked chain=>exact c1.elim
  |outgrown=>exact c1.elim
 |panic d=>
  cases e with
  |returned v=>exact c1.elim
  |panicked chain=>
   obtain⟨v,rfl,cl⟩:=c1;exact⟨bm,h.size,d,σ',S',v,rfl,bW,cl,aL,h.fr.trans bl⟩
  |outgrown=>exact c1.elim
theorem Bt {xs:Array Operand} {w0 Hs:D} (h:xs.toList.map (ev env)=[w0,Hs]):∃x y,xs=#[x,y]∧ev env x=w0∧ev env y=Hs:=by
 obtain⟨l⟩:=xs;simp only[]at h;match l,h with
 |[x,y],h=>simp at h;exact⟨x,y,rfl,h.1,h.2⟩
theorem E7 {xs:Array Operand} {w0:D} (h:xs.toList.map (ev env)=[w0]):∃x,xs=#[x]∧ev env x=w0:=by
 obtain⟨l⟩:=xs;simp only[]at h;match l,h with
 |[x],h=>simp at h;exact⟨x,rfl,h⟩
theorem km (h:ck C env σ w S a.tmps) (bm:a.defers=C.ds) (aX:dV N o.dst) (bk:∀a w,dR C next a w→bN a w) (ak:cQ P Qp next o.dst env σ (aop P env σ o.op)):o.wp P a w bN (jb C K Qp):=by
 cases cp:o.op<;>rw[cp]at ak
 case move x=>exact Ms h bm aX bk (.inl cp) ak
 case assign x=>exact Ms h bm aX bk (.inr cp) ak
 case pick c x y=>exact Xk h bm aX bk cp ak
 case alloc T=>exact WW h bm aX bk cp ak
 case box T x=>exact WZ h bm aX bk cp ak
 case build T ps=>exact W0 h bm aX bk cp ak
 case buildSlice T len ps=>exact W2 h bm aX bk cp ak
 case load T x=>exact Xb h bm aX bk cp ak
 case store T x y=>exact Xo h bm aX bk cp ak
 case nilCheck x=>exact Xj h bm aX bk cp ak
 case binOp op T x y T2=>exact WY h bm aX bk cp ak
 case unOp op T x=>exact Xq h bm aX bk cp ak
 case convert src dst x=>exact W4 h bm aX bk cp ak
 case makeInterface T x=>exact Xf h bm aX bk cp ak
 case makeFunc fn f c=>exact Xe h bm aX bk cp ak
 case makeMap T r=>
  cases r with
  |none=>exact Xg h bm aX bk cp ak
  |some r=>exact ak.elim
 case makeSlice T x y=>exact Xh h bm aX bk cp ak
 case makeChan T x=>exact Xd h bm aX bk cp ak
 case slice T x lo hi mx=>
  have mO:cQ P Qp next o.dst env σ (qd P σ T (ev env x) (lo.map (ev env)) (hi.map (ev env)) (mx.map (ev env))):=ak;unfold qd at mO;split at mO
  ·rename_i b sz U i aw
   exact Xn h bm aX bk cp aw mO
  exact Xm h bm aX bk cp mO
 case fieldAddr T x f=>exact W9 h bm aX bk cp ak
 case field T x f=>exact W8 h bm aX bk cp ak
 case indexAddr T x y=>exact W' h bm aX bk cp ak
 case index T x y=>exact W_ h bm aX bk cp ak
 case lookup T x y ok=>exact Xc h bm aX bk cp ak
 case mapUpdate T m k x=>exact Mr h bm aX bk (.inl cp) ak
 case insert T m k x=>exact Mr h bm aX bk (.inr cp) ak
 case range T x=>exact Xl h bm aX bk cp ak
 case next x b=>exact Xi h bm aX bk cp ak
 case typeAssert x T' T ok=>exact Xp h bm aX bk cp ak
 case extract x i=>exact W7 h bm aX bk cp ak
 case panic x=>
  simp only[aop]at ak;split at ak
  ·rename_i t d aw
   have an:=df h x;rw[aw]at an;refine Mt (K:=K) h bm an ?_ ak;generalize eG:a.eval x=dM at an;cases an with
   |dX an=>simp[execOp,cp,eG,Instr.panic]
  exact ak.elim
 case call c=>
  simp only[aop]at ak;split at ak
  ·rename_i b ae
   have rM:=sX h c.args.toList;have bS:∀{s:Sem Value} {vs:Array Value},c.args.map a.eval=vs→(∀cs,builtin b c.argTypes o.type cs vs=(do pure (.value (←s))))→(execOp a.eval o).run P w=(s.run P w).andThen fun v w=> .ok (.value v) w:=by
    intro s vs qO kE;simp only[execOp,cp,resolve,ae,qO,Sem.run_bind,Sem.run_pure,Result.andThen_ok,invoke,kE]
   unfold aBuiltin at ak;split at ak
   ·rename_i x hG
    obtain⟨bz,mP,eG⟩:=E7 hG;split at ak
    ·rename_i T bY
     refine Xa (Qp:=Qp) h bm aX bk (df h bz) (bS (by rw[mP];simp) (fun _=>rfl)) bY ?_;rw[eG];exact ak
    exact ak.elim
   ·rename_i s x hG
    obtain⟨kS,bz,mP,qJ,eG⟩:=Bt hG;split at ak
    ·rename_i T T2 bY gD
     refine WX (Qp:=Qp) h bm aX bk (df h kS) (df h bz) (bS (by rw[mP];simp) (fun _=>rfl)) bY gD ?_;rw[eG,qJ];exact ak
    exact ak.elim
   ·rename_i m k hG
    obtain⟨kS,bz,mP,qJ,eG⟩:=Bt hG;split at ak
    ·rename_i T bY
     refine W5 (Qp:=Qp) h bm aX bk (df h kS) (df h bz) (bS (by rw[mP];simp) (fun _=>rfl)) bY ?_;rw[eG,qJ];exact ak
    exact ak.elim
   ·rename_i x y hG
    obtain⟨kS,bz,mP,qJ,eG⟩:=Bt hG;split at ak
    ·rename_i u v hu mO
     obtain⟨d,z,ao,cl,aj⟩:=we ak w S;refine eC h bm aX bk (v:=z) ?_ cl aj;rw[bS (s:=Builtin.max_ #[] 0 #[u,v]) (vs:=#[u,v]) (by rw[mP];simp[nV hu (qJ▸df h kS),nV mO (eG▸df h bz)]) (fun _=>rfl),ao];rfl
    exact ak.elim
   ·rename_i x y hG
    obtain⟨kS,bz,mP,qJ,eG⟩:=Bt hG;split at ak
    ·rename_i u v hu mO
     obtain⟨d,z,ao,cl,aj⟩:=we ak w S;refine eC h bm aX bk (v:=z) ?_ cl aj;rw[bS (s:=Builtin.min_ #[] 0 #[u,v]) (vs:=#[u,v]) (by rw[mP];simp[nV hu (qJ▸df h kS),nV mO (eG▸df h bz)]) (fun _=>rfl),ao];rfl
    exact ak.elim
   ·rename_i t x hG
    obtain⟨bz,mP,eG⟩:=E7 hG;have an:=df h bz;rw[eG]at an;refine Mt (K:=K) h bm an ?_ ak;generalize Et:a.eval bz=dM at an;cases an with
    |dX an=>
     rename_i Nn
     rw[bS (s:=Instr.panic (.iface t Nn)) (vs:=#[.iface t Nn]) (by rw[mP];simp[Et]) (fun _=>rfl)];simp[Instr.panic]
   ·rename_i x hG
    obtain⟨bz,mP,eG⟩:=E7 hG;split at ak
    ·rename_i T bY
     refine W3 (Qp:=Qp) h bm aX bk (df h bz) (bS (by rw[mP];simp) (fun _=>rfl)) bY ?_;rw[eG];exact ak
    exact ak.elim
   exact ak.elim
  ·rename_i f ax
   split at ak
   ·rename_i g first cg aw
    obtain⟨w_,tu,ag⟩:=ak;have bl:=df h f;rw[aw]at bl;generalize gW:a.eval f=zl at bl;cases bl with
    |bX nn pB=>
     rename_i zl n1
     refine W6 (K:=K) h bm aX bk ((nn.append (sX h c.args.toList)).append pB) ?_ ag;simp only[execOp,cp,resolve,ax,gW,Deferred.ofValue,Sem.run_bind,Sem.run_pure,Result.andThen_ok,invoke];rw[tu];congr 2
     apply Array.ext';simp
   exact ak.elim
  exact ak.elim
 all_goals exact ak.elim
end steps
def dsts (ops:Array Oper):List (Option Nat):=ops.toList.map (·.dst)
def gd (env:Env) (ds:List (Option Nat)) (U:Nat):D:=
 match ds[U]? with
 |some (some d)=>eget d env
 |_=> .any
def gset (env:Env) (ds:List (Option Nat)) (U:Nat) (b:Bool):Env:=
 match ds[U]? with
 |some (some d)=>eput d (.v (.bool b)) env
 |_=>env
def pQ:List (Nat×Value)→Nat→Prop
 |[],_=>True
 |p::r,k=>p.1≠k∧pQ r k
theorem KI:∀{l:List (Nat×Value)} {k:Nat},pQ l k→∀p∈l,p.1≠k
 |[],_,_,p,aP=>by simp at aP
 |q::r,k,h,p,aP=>by
  rcases List.mem_cons.1 aP with rfl|aP
  ·exact h.1
  exact KI h.2 p aP
def dstB (N:cP) (dst:Option Nat):Prop:=match dst with|some k=>k<N.n∧pQ N.EM k|none=>True
def lu (P:Program) (N:cP) (ds:List (Option Nat)) (K:Env→al→Prop) (Qp:D→al→Prop):List Oper→Env→al→Prop
 |[],env,σ=>K env σ
 |o::rest,env,σ=>
  dstB N o.dst∧
  match o.guard with
  |none=>cQ P Qp (lu P N ds K Qp rest) o.dst env σ (aop P env σ o.op)
  |some (U,want)=>
   match gd env ds U with
   | .v (.bool t)=>
    (t=want→cQ P Qp (lu P N ds K Qp rest) o.dst (gset env ds U want) σ (aop P (gset env ds U want) σ o.op))∧
    (t= !want→lu P N ds K Qp rest (eputo o.dst (.bd []) (gset env ds U (!want))) σ)
   | .bd []=>lu P N ds K Qp rest (eputo o.dst (.bd []) env) σ
   |_=>False
section region
variable {P : Program} {N : cP} {C : Ctx P N} {K : Env → al → Prop} {Qp : D → al → Prop}
theorem kZ {N:cP} {dst:Option Nat} (h:dstB N dst):dV N dst:=fun k aj=>by subst aj;exact⟨h.1,KI h.2⟩
theorem hM.gset {w:World} {S:Nat→Prop} {env:Env} {tmps:Array Value} {ds:List (Option Nat)} {U:Nat} {t:Bool} (h:hM w S env tmps) (aq:gd env ds U= .v (.bool t)):hM w S (gset env ds U t) tmps:=by
 unfold gd at aq;unfold Ab.gset;split at aq
 ·rename_i d aw
  intro k;show bw w S (eget k (eput d (.v (.bool t)) env)) _
  rw[j6];by_cases aj:k=d
  ·subst aj;rw[if_pos rfl,←aq];exact h k
  rw[if_neg aj];exact h k
 cases aq
theorem No {w:World} {S:Nat→Prop} {env:Env} {ops:Array Oper} {U:Nat} {t:Bool} {tmps:Array Value} (h:hM w S env tmps) (aq:gd env (dsts ops) U= .v (.bool t)):yielded ops tmps U=some t:=by
 unfold gd at aq;split at aq
 ·rename_i d aw
  have mD:(ops[U]?).bind (·.dst)=some d:=by
   unfold dsts at aw;simp only[List.getElem?_map,Array.getElem?_toList,Option.map_eq_some_iff]at aw;obtain⟨o,aH,kg⟩:=aw;rw[aH];exact kg
  have ao:=h d;rw[aq]at ao;have aC:d<tmps.size:=by
   rcases Nat.lt_or_ge d tmps.size with aa|aa
   ·exact aa
   have:=ao.eh;rw[Array.getD_eq_getD_getElem?,Array.getElem?_eq_none aa]at this;exact absurd this (by simp[undef])
  unfold yielded;rw[mD];have he:tmps[d]?=some (.bool t):=by
   have:=ao.eh;rw[Array.getD_eq_getD_getElem?]at this;rw[Array.getElem?_eq_getElem aC]at this⊢;simpa using this
  simp[he]
 cases aq
theorem Np {w:World} {S:Nat→Prop} {env:Env} {ops:Array Oper} {U:Nat} {tmps:Array Value} (h:hM w S env tmps) (aq:gd env (dsts ops) U= .bd []):yielded ops tmps U=none:=by
 unfold gd at aq;split at aq
 ·rename_i d aw
  have mD:(ops[U]?).bind (·.dst)=some d:=by
   unfold dsts at aw;simp only[List.getElem?_map,Array.getElem?_toList,Option.map_eq_some_iff]at aw;obtain⟨o,aH,kg⟩:=aw;rw[aH];exact kg
  have ao:=h d;rw[aq]at ao;unfold yielded;rw[mD];have ak:tmps.getD d undef= .tuple #[]:=by
   generalize tmps.getD d undef=v at ao;cases ao with
   |bd ao=>rw[ao.gv]
  rw[Array.getD_eq_getD_getElem?]at ak;show(match tmps[d]? with|some (.bool b)=>some b|_=>none)=none
  cases bc:tmps[d]? with
  |none=>rfl
  |some x=>rw[bc]at ak;simp at ak;subst ak;rfl
 cases aq
theorem Bw {ops:Array Oper}:∀(l:List Oper) (env:Env) (σ:al) (a:Act) (w:World) (S:Nat→Prop),lu P N (dsts ops) K Qp l env σ→a.defers=C.ds→ck C env σ w S a.tmps→wpList P ops (jb C K Qp) l a w
 |[],env,σ,a,w,S,h,aw,af=>⟨aw,env,σ,S,h,af⟩
 |o::rest,env,σ,a,w,S,h,aw,af=>by
  obtain⟨aX,h⟩:=h;have qk:=kZ aX;simp only[wpList];have bk:∀a w,dR C (lu P N (dsts ops) K Qp rest) a w→wpList P ops (jb C K Qp) rest a w:=fun a w ⟨aw,env',σ',S',au,eo⟩=>Bw rest env' σ' a w S' au aw eo;cases aq:o.guard with
  |none=>
   rw[aq]at h;have hw:Region.wanted o (yielded ops a.tmps)=true:=by simp[Region.wanted,aq]
   rw[if_pos hw];exact .inl (km af aw qk bk h)
  |some p=>
   obtain⟨U,want⟩:=p;rw[aq]at h;dsimp only at h;split at h
   ·rename_i t bc
    obtain⟨aa,ah⟩:=h;have aF:=No af.env bc;have hw:Region.wanted o (yielded ops a.tmps)=(t==want):=by simp[Region.wanted,aq,aF]
    have eo:∀b,t=b→ck C (gset env (dsts ops) U b) σ w S a.tmps:=fun b ae=>by subst ae;exact⟨af.env.gset bc,af.store,af.fr,af.size⟩
    by_cases kJ:t=want
    ·rw[if_pos (by rw[hw,kJ];simp)];exact .inl (km (eo _ kJ) aw qk bk (aa kJ))
    have se:t= !want:=by cases t<;>cases want<;>simp_all
    rw[if_neg (by rw[hw];simpa using kJ)]
    refine Bw rest _ σ _ w S (ah se) (by rw[put_defers];exact aw) (l_ (eo _ se) qk (.bd .nil) af.store (Fr.refl σ af.fr.lt))
   ·rename_i bc
    have aF:=Np af.env bc;have hw:Region.wanted o (yielded ops a.tmps)=false:=by simp[Region.wanted,aq,aF]
    rw[if_neg (by rw[hw];simp)];exact Bw rest _ σ _ w S h (by rw[put_defers];exact aw) (l_ af qk (.bd .nil) af.store (Fr.refl σ af.fr.lt))
   exact h.elim
def rebase (keep:List Nat) (env:Env):Env:=keep.map fun k=>(k,eget k env)
theorem O6 (keep:List Nat) (env:Env) (k:Nat):eget k (rebase keep env)=if k∈keep then eget k env else .any:=by
 induction keep with
 |nil=>rfl
 |cons U r aB=>
  show(if k=U then eget U env else eget k (rebase r env))=_
  by_cases aj:k=U
  ·subst aj;simp
  rw[if_neg aj,aB];simp[aj]
theorem w3 (keep:List Nat) (env:Env):cn (rebase keep env) env:=fun k=>by
 rw[O6];by_cases aj:k∈keep
 ·rw[if_pos aj];exact .inr rfl
 rw[if_neg aj];exact .inl rfl
theorem j.rebase {todo:List Item} {env:Env} {σ:al} (keep:List Nat) (h:j C todo (rebase keep env) σ):j C todo env σ:=h.le (w3 keep env) (aQ.refl σ)
def vN (ops:Array Oper):Bool:=ops.toList.all fun o=>match o.op with| .defer _=>false|_=>true
theorem UM {ops:Array Oper} (h:vN ops=true) {i:Nat} {o:Oper} (aH:ops[i]?=some o):∀c,o.op≠ .defer c:=by
 intro c ag;have:=List.all_eq_true.1 h o (by
  obtain⟨hi,rfl⟩:=Array.getElem?_eq_some_iff.1 aH;exact Array.getElem_mem_toList hi)
 rw[ag]at this;cases this
theorem AK {k:List Item} {ops:Array Oper} {o:Oper} {i:Nat} {rest:List Nat} {a:Act} {w:World} (aH:ops[i]?=some o) (hw:Region.wanted o (yielded ops a.tmps)=true) (cM:∀c,o.op≠ .defer c)
  (h:o.wp P a w (fun na w'=>C.Z (lone (C.b.atR na (.inRegion ops rest::k)) C.cs w')) (jb C (j C k) (cK C))):
  C.Z (lone (C.b.atR a (.inRegion ops (i::rest)::k)) C.cs w):=by
 have aL:=stepGR_op (P:=P) (b:=C.b) (k:=k) (cs:=C.cs) (w:=w) (rest:=rest) aH hw;rw[Oper.semAt_eq _ _ _ cM]at aL;have cT:∀v,(C.b.atR a (.inRegion ops (i::rest)::k)).finish v=C.b.atR (a.put o.dst v) (.inRegion ops rest::k):=by
  intro v;rw[Frame.finish_atR,aH];rfl
 have JO:∀{chain:List PanicEntry} {w':World},jb C (j C k) (cK C) (.panic chain) a w'→C.Z (lone {C.b.atR a (.inRegion ops (i::rest)::k)with mode:= .panicking chain} C.cs w'):=by
  rintro chain w' ⟨aw,bU,d,σ',S',v,rfl,aP,cl,c6,bl⟩;exact aP a _ w' S' v aw cl c6 bl bU
 simp only[Oper.wp,Oper.upon]at h;split at h
 ·rename_i v w' ao
  refine C.e5 _ _ (.one (step_lone_go ?_)) h;rw[aL,←cT];simp[stepG.apply,ao]
 ·rename_i w' ao
  refine C.e5 _ _ (.one (step_lone_go ?_)) h;rw[aL,←cT];simp[stepG.apply,ao]
 ·rename_i d w' ao
  refine C.e5 _ _ (.one (step_lone_go ?_)) h;have:({C.b.atR a (.inRegion ops (i::rest)::k)with defers:=d::a.defers}:Frame).finish undef=C.b.atR ({a with defers:=d::a.defers}.put o.dst undef) (.inRegion ops rest::k):=by
   have:=Frame.finish_atR C.b {a with defers:=d::a.defers} ops i rest k undef;rw[aH]at this;exact this
  rw[aL];simp only[stepG.apply,Sem.runT_eq,ao,GStep.bare_after];exact congrArg (fun fr=>GStep.go {frame:=fr,callers:=C.cs,status:= .running,dying:=none} w') this
 ·rename_i f args w' ao
  obtain⟨e,Yw,fr,bR,lW,_,tG⟩:=h (C.b.atR a (.inRegion ops (i::rest)::k)::C.cs);have mE:step P (lone (C.b.atR a (.inRegion ops (i::rest)::k)) C.cs w)= .next (lone (Frame.enter P f args .normal) (C.b.atR a (.inRegion ops (i::rest)::k)::C.cs) w'):=
   step_lone_go (by rw[aL];simp[stepG.apply,ao,Frame.atR])
  cases e with
  |returned v=>
   refine C.e5 _ _ (.head mE (lW.trans (.one ?_))) bR;rw[←cT];exact step_leave_returned tG
  |panicked chain=>
   refine C.e5 _ _ (.head mE (lW.trans (.one ?_))) (JO bR);rw[←Frame.raise_atR];exact step_leave_panicked tG
  |outgrown=>
   obtain⟨NV,YL,bW⟩:=bR;exact bW.elim
 ·rename_i row args w' ao
  obtain⟨v,Yw,bR,lW⟩:=h (C.b.atR a (.inRegion ops (i::rest)::k)) C.cs;have mE:step P (lone (C.b.atR a (.inRegion ops (i::rest)::k)) C.cs w)= .next (lone (Frame.ofRow P row args .normal) (C.b.atR a (.inRegion ops (i::rest)::k)::C.cs) w'):=
   step_lone_go (by rw[aL];simp[stepG.apply,ao,Frame.atR])
  refine C.e5 _ _ (.head mE ?_) bR;rw[←cT];exact lW
 ·rename_i v w' ao
  refine C.e5 _ _ (.one (step_lone_go ?_)) (JO h);rw[aL,←Frame.raise_atR];simp[stepG.apply,ao]
 exact h.elim
theorem uk {k:List Item} {ops:Array Oper} (cM:vN ops=true):∀(l:List Nat) (a:Act) (w:World),wpOps P ops (jb C (j C k) (cK C)) l a w→C.Z (lone (C.b.atR a (.inRegion ops l::k)) C.cs w)
 |[],a,w,h=>by
  obtain⟨aw,env',σ',S',aj,af⟩:=h;exact C.e5 _ _ (.one stepR_region_end) (aj a w S' aw af)
 |i::rest,a,w,h=>by
  simp only[wpOps]at h;cases aH:ops[i]? with
  |none=>
   simp only[aH]at h;have af:=stepR_op_skip (P:=P) (b:=C.b) (a:=a) (k:=k) (cs:=C.cs) (w:=w) (ops:=ops) (i:=i) (rest:=rest) (by simp[aH]);simp only[aH,Option.bind_none,Act.put]at af;exact C.e5 _ _ (.one af) (uk cM rest a w h)
  |some o=>
   simp only[aH]at h;by_cases hw:Region.wanted o (yielded ops a.tmps)=true
   ·simp only[hw,if_true]at h;rcases h with h|⟨_,NV,YL,bW⟩
    ·exact AK aH hw (UM cM aH) (Oper.wp_mono (fun na w' jh=>uk cM rest na w' jh) h)
    exact bW.elim
   simp only[hw,if_false,Bool.false_eq_true]at h;have af:=stepR_op_skip (P:=P) (b:=C.b) (a:=a) (k:=k) (cs:=C.cs) (w:=w) (ops:=ops) (i:=i) (rest:=rest) (by simp[aH];simpa using hw)
   simp only[aH,Option.bind_some]at af;exact C.e5 _ _ (.one af) (uk cM rest _ w h)
theorem j.rg {id:Nat} {ops:Array Oper} {k:List Item} {env:Env} {σ:al} (keep:List Nat)
  (h:∀K:Env→al→Prop,(∀env σ,j C k env σ→K env σ)→lu P N (dsts ops) K (cK C) ops.toList (Ab.rebase keep env) σ) (cM:vN ops=true:=by kernel_rfl):j C (.code (.region id ops false)::k) env σ:=by
 intro a w S aw af;have ak:=h (j C k) (fun _ _ h=>h);have eo:ck C (Ab.rebase keep env) σ w S a.tmps:=⟨af.env.le (w3 keep env),af.store,af.fr,af.size⟩;have aA:=Bw ops.toList _ σ a w S ak aw eo;have heq:=wpOps_eq_wpList (P:=P) (ops:=ops) (Q:=jb C (j C k) (cK C)) ops.toList 0 (fun U=>by simp);have:wpOps P ops (jb C (j C k) (cK C)) (List.range ops.size) a w:=by
  rw[List.range_eq_range',show ops.size=ops.toList.length by simp,heq];exact aA
 exact C.e5 _ _ (.one stepR_region) (uk cM _ a w this)
end region
def wF (P:Program) (f:FuncId) (bO:World) (bQ:Nat→Prop) (cj:al) (R:cf→al→Prop) (cs:List Frame) (m:Machine):Prop:=
 ∃e w' fr,(∃cX σ' S',R cX σ'∧rp w' S' cX e∧da w' S' σ'∧Fr bO bQ (cq cj) w' S' σ')∧Comes P m (lone fr cs w') e∧fr.fn=f∧fr.leaving P w' e
def Ctx.call (P:Program) (N:cP) (f:FuncId) (bO:World) (bQ:Nat→Prop) (cj:al) (bh:lz bO bQ) (aL:da bO bQ cj) (R:cf→al→Prop) (cs:List Frame):Ctx P N where
 b:={(default:Frame)with fn:=f,kind:= .normal}
 cs:=cs
 ds:=[]
 bO:=bO
 bQ:=bQ
 F:=cq cj
 Z:=wF P f bO bQ cj R cs
 e5:=fun m ue af ⟨e,w',fr,aa,ah,aJ⟩=>⟨e,w',fr,aa,Comes.of_steps af ah,aJ⟩
 bh:=fun b ae=>⟨bh.lt b ae,fun aw=>by
  cases af:av b cj with
  |none=>exact aw af
  |some o=>exact(aL b o af).1 ae⟩
 lI:=bh.g
structure m' {P:Program} {N:cP} (C:Ctx P N) (f:FuncId) (R:cf→al→Prop):Prop where
 ex:∃bO bQ cj bh aL cs,C=Ctx.call P N f bO bQ cj bh aL R cs
def sk (args:List D):Env:=args.zipIdx.map fun p=>(p.2,p.1)
theorem Ht (args:List D) (k:Nat):eget k (sk args)=args.getD k .any:=by
 have:∀(l:List D) (U k:Nat),eget k ((l.zipIdx U).map fun p=>(p.2,p.1))=if U≤k then l.getD (k-U) .any else .any:=by
  intro l;induction l with
  |nil=>intro U k;simp[eget]
  |cons x l aB=>
   intro U k;simp only[List.zipIdx_cons,List.map_cons,eget];by_cases aj:k=U
   ·subst aj;simp
   rw[if_neg aj,aB];by_cases iH:U≤k
   ·rw[if_pos (by omega),if_pos iH,show k-U=(k-(U+1))+1 by omega,List.getD_cons_succ]
   rw[if_neg (by omega),if_neg iH]
 have h:=this args 0 k;simpa [sk]using h
theorem a1 {P:Program} {Qp:D→al→Prop} {next:Env→al→Prop} {dst:Option Nat} {env:Env} {σ τ:al} {f g:FuncId} {args:List D} {d:D} (ag:∀args w,(callFunc f args).run P w= .ok (.enter g args) w) (h:AC P g args σ fun e σ'=>e= .ret d∧σ'=τ) (aj:next (eputo dst d env) τ):BO P Qp next dst env σ f args:=⟨g,ag,h.mono fun e σ' ⟨aa,ah⟩=>by subst aa ah;exact aj⟩
theorem AC.vQ {P:Program} {f:FuncId} {fn:Func} {c:Code} {N:Nat} {args:List D} {σ:al} {R:cf→al→Prop} (ax:P.funcs[f]?=some fn) (ae:fn.body=some c) (aX:fn.ntmps=N) (rM:args.length≤N)
  (h:∀C:Ctx P ⟨N,[]⟩,m' C f R→j C [.code c] (sk args) σ):AC P f args σ R:=by
 intro w S vs bh aL ao cs;have ar:=h (Ctx.call P ⟨N,[]⟩ f w S σ bh aL R cs) ⟨_,_,_,_,_,_,rfl⟩;have hlen:=ao.length;have fp:ck (Ctx.call P ⟨N,[]⟩ f w S σ bh aL R cs) (sk args) σ w S (vs.toArray++Array.replicate (fn.ntmps-vs.toArray.size) undef):=by
  refine⟨fun k=> ?_,aL,Fr.refl σ bh.lt,by simp;omega,fun p aP=>by simp at aP⟩;rw[Ht];by_cases aj:k<args.length
  ·rw[dC _ _ _ aj];obtain⟨v,ak,cl⟩:=ao.get k args[k] (by simp);have gL:k<vs.length:=by omega
   rw[Array.getD_eq_getD_getElem?,Array.getElem?_append_left (by simpa using gL)];simp only[List.getElem?_toArray,ak,Option.getD_some];exact cl
  rw[List.getD_eq_getElem?_getD,List.getElem?_eq_none (by omega)];exact .any
 have aO:=ar {tmps:=vs.toArray++Array.replicate (fn.ntmps-vs.toArray.size) undef,defers:=[]} w S rfl fp;have mE:Frame.enter P f vs.toArray .normal=({(default:Frame)with fn:=f,kind:= .normal}:Frame).atR {tmps:=vs.toArray++Array.replicate (fn.ntmps-vs.toArray.size) undef,defers:=[]} [.code c]:=by
  simp[Frame.enter,Frame.atR,ax,ae];rfl
 rw[mE];obtain⟨e,w',fr,⟨cX,σ',S',aa,ah,aJ,bg⟩,rU,jk,aA⟩:=aO;exact⟨e,w',fr,⟨cX,σ',S',aa,ah,aJ,bg⟩,rU,jk,aA⟩
def wb (P:Program) (env:Env) (σ:al):ResultVar→Option D
 | .tmp t=>some (eget t env)
 | .cell t T=>match aLoad P σ T (eget t env)with| .val _ d=>some d|_=>none
def nO (P:Program) (env:Env) (σ:al):ResultVar→Prop
 | .tmp _=>True
 | .cell t T=>match aLoad P σ T (eget t env)with| .val pre _=>pre|_=>False
def q8 (P:Program) (env:Env) (σ:al) (rs:List ResultVar):D:=
 match rs with
 |[r]=>(wb P env σ r).getD .any
 |rs=> .bd (rs.map fun r=>(wb P env σ r).getD .any)
theorem AC.bI {P:Program} {f:FuncId} {fn:Func} {c:Code} {N:Nat} {args:List D} {σ:al} {R:cf→al→Prop} (ax:P.funcs[f]?=some fn) (aX:fn.ntmps=N) (h:∀C:Ctx P ⟨N,[]⟩,m' C f R→j C [.code c] (sk args) σ) (ae:fn.body=some c:=by rfl) (rM:args.length≤N:=by simp):AC P f args σ R:=AC.vQ ax ae aX rM h
end Go.Ab
namespace Go.Ab
open Go
section
variable {P : Program} {w : World} {S : Nat → Prop} {σ : al}
theorem Nw {T:TypeId} {x d:D} {dM:Value} {pre:Prop} (aL:da w S σ) (an:bw w S x dM) (h:aLoad P σ T x= .val pre d) (aP:pre):
  ∃ad v,dM= .pointer (some ad)∧(loadVar T ad).run P w= .ok v w∧bw w S d v:=by
 unfold aLoad at h;split at h
 ·rename_i n g cs au aq
  cases h
  obtain⟨b,off,vals,he,ae,ao,ag⟩:=za an;obtain⟨v,bS,cl⟩:=Bc (P:=P) (w:=w) (S:=S) (b:=b) (off:=off) au aq aP (fun U d aR=>by
   obtain⟨v,ak,cl⟩:=ao.get U d aR;exact⟨v,ag U v ak,cl⟩)
  exact⟨_,v,he,bS,cl⟩
 ·rename_i n g b sz i off au aq
  split at h
  ·rename_i cm xs af
   cases h
   obtain⟨rfl,hi,cc⟩:=aP;have iL:=(aL b _ af).2;obtain⟨v,bS,cl⟩:=Bc (P:=P) (w:=w) (S:=S) (b:=b) (off:=i*cm+off) au aq cc (fun U d aR=>yZ iL hi off U d aR);exact⟨_,v,vX an,bS,cl⟩
  cases h
 cases h
theorem Mg {env:Env} {tmps:Array Value} (nm:hM w S env tmps) (aL:da w S σ):∀(rs:List ResultVar),(∀r∈rs,nO P env σ r)→
  ∃vs,(rs.mapM (fun r=>match r with| .tmp t=>pure (tmps.getD t undef)| .cell a t=>do loadVar t (←asAddr (tmps.getD a undef)):ResultVar→Sem Value)).run P w= .ok vs w∧bq w S (rs.map fun r=>(wb P env σ r).getD .any) vs
 |[],_=>⟨[],rfl, .nil⟩
 |r::rs,h=>by
  obtain⟨vs,bS,cl⟩:=Mg nm aL rs (fun r ao=>h r (by simp[ao]));have aa:∃v,(match r with| .tmp t=>pure (tmps.getD t undef)| .cell a t=>do loadVar t (←asAddr (tmps.getD a undef)):Sem Value).run P w= .ok v w∧bw w S ((wb P env σ r).getD .any) v:=by
   have aP:=h r (by simp);cases r with
   |tmp t=>exact⟨_,rfl,nm t⟩
   |cell t T=>
    simp only[nO]at aP;simp only[wb];split at aP
    ·rename_i pre d aA
     obtain⟨ad,v,he,bS,cl⟩:=Nw aL (nm t) aA aP;refine⟨v, ?_,cl⟩;simp only[he,asAddr,Sem.run_bind,Sem.run_pure,Result.andThen_ok,bS]
    exact aP.elim
  obtain⟨v,ak,Eo⟩:=aa;refine⟨v::vs, ?_, .cons Eo cl⟩;simp only[List.mapM_cons,Sem.run_bind,ak,Result.andThen_ok,bS,Sem.run_pure]
theorem Bd {fn:Func} {env:Env} {tmps:Array Value} (nm:hM w S env tmps) (aL:da w S σ) (h:∀r∈fn.results.toList,nO P env σ r):
  ∃v,(results fn tmps).run P w= .ok v w∧bw w S (q8 P env σ fn.results.toList) v:=by
 obtain⟨vs,bS,cl⟩:=Mg nm aL fn.results.toList h;unfold results;rw[Sem.run_bind,Array.mapM_eq_mapM_toList,Sem.run_map];erw [bS]
 unfold q8;have hlen:=cl.length;match nu:fn.results.toList,vs,cl,hlen with
 |[],vs,cl,hlen=>
  have:vs=[]:=cl.gv;subst this;exact⟨.tuple #[],rfl, .bd .nil⟩
 |[r],vs,cl,hlen=>
  obtain⟨v,F',rfl,aa,ah⟩:=cl.cons_inv;have:F'=[]:=ah.gv;subst this;exact⟨v,rfl,aa⟩
 |r::jR::rs,vs,cl,hlen=>
  refine⟨.tuple vs.toArray, ?_, .bd cl⟩;have aZ:¬vs.toArray.size=1:=by simp at hlen⊢;omega
  simp only[Result.andThen_ok,dif_neg aZ,Sem.run_pure]
end
section
variable {P : Program} {N : cP} {C : Ctx P N} {k : List Item} {env : Env} {σ : al} {f : FuncId} {fn : Func} {R : cf → al → Prop}
theorem Cd {m:Machine} {bO:World} {bQ:Nat→Prop} {cj:al} {cs:List Frame} {a:Act} {todo:List Item} {w:World} {S:Nat→Prop} (ax:P.funcs[f]?=some fn) (aw:a.defers=[])
  (nm:hM w S env a.tmps) (aL:da w S σ) (bl:Fr bO bQ (cq cj) w S σ) (hT:∀r∈fn.results.toList,nO P env σ r) (bR:R (.ret (q8 P env σ fn.results.toList)) σ)
  (af:Steps P m (lone {({(default:Frame)with fn:=f,kind:= .normal}:Frame).atR a todo with mode:= .returning} cs w)):wF P f bO bQ cj R cs m:=by
 obtain⟨v,bS,cl⟩:=Bd (fn:=fn) nm aL hT;exact⟨.returned v,w,_,⟨_,σ,S,bR,cl,aL,bl⟩,af,rfl,rfl,aw,rfl,fn,ax,bS⟩
theorem j.ret (ar:m' C f R) (ax:P.funcs[f]?=some fn) (hT:∀r∈fn.results.toList,nO P env σ r) (bR:R (.ret (q8 P env σ fn.results.toList)) σ):j C (.code .ret::k) env σ:=by
 obtain⟨bO,bQ,cj,bh,aL,cs,rfl⟩:=ar.ex;intro a w S aw af;exact Cd ax aw af.env af.store af.fr hT bR (.one (stepR_ret rfl))
theorem j.done (ar:m' C f R) (ax:P.funcs[f]?=some fn) (hT:∀r∈fn.results.toList,nO P env σ r) (bR:R (.ret (q8 P env σ fn.results.toList)) σ):j C [] env σ:=by
 obtain⟨bO,bQ,cj,bh,aL,cs,rfl⟩:=ar.ex;intro a w S aw af;exact Cd ax aw af.env af.store af.fr hT bR (.one (stepR_end rfl))
theorem cK.of (ar:m' C f R) (ax:P.funcs[f]?=some fn) {d:D} (bR:R (.panic d) σ):cK C d σ:=by
 obtain⟨bO,bQ,cj,bh,aL,cs,rfl⟩:=ar.ex;intro a todo w S v aw ak c6 bl _;exact⟨.panicked [{v,recovered:=false}],w,_,⟨_,σ,S,bR,⟨v,rfl,ak⟩,c6,bl⟩,Steps.refl P _,rfl,rfl,aw,fn,ax⟩
end
mutual
def D.b' (b:Nat) (sz:Nat) (xs:List D):D→D
 | .own (some c) s n=>if c=b∧s=sz∧n≤xs.length then .ai (xs.take n)else .own (some c) s n
 | .agg cs=> .agg (hb b sz xs cs)
 | .bd cs=> .bd (hb b sz xs cs)
 | .bX fn f c=> .bX fn (hb b sz xs f) (hb b sz xs c)
 | .dX t x=> .dX t (D.b' b sz xs x)
 |d=>d
def hb (b:Nat) (sz:Nat) (xs:List D):List D→List D
 |[]=>[]
 |d::r=>D.b' b sz xs d::hb b sz xs r
end
theorem AX (b sz:Nat) (xs:List D):∀ds,hb b sz xs ds=ds.map (D.b' b sz xs)
 |[]=>rfl
 |d::ds=>by rw[hb,AX b sz xs ds];rfl
theorem LI (b sz:Nat) (xs:List D) (d:D):(d.b' b sz xs).cells=d.cells.map (D.b' b sz xs):=by
 cases d with
 |agg cs=>simp[D.b',D.cells,AX]
 |own c s n=>
  cases c with
  |none=>simp[D.b',D.cells]
  |some c=>
   show(if c=b∧s=sz∧n≤xs.length then D.ai (xs.take n)else D.own (some c) s n).cells=[D.b' b sz xs (.own (some c) s n)]
   simp only[D.b'];by_cases ag:c=b∧s=sz∧n≤xs.length
   ·rw[if_pos ag];rfl
   rw[if_neg ag];rfl
 |_=>simp[D.b',D.cells]
theorem HP (b sz:Nat) (xs:List D):∀ds:List D,flat (ds.map (D.b' b sz xs))=(flat ds).map (D.b' b sz xs)
 |[]=>rfl
 |d::ds=>by simp[LI,HP b sz xs ds]
section
variable {w : World} {S S' : Nat → Prop} {b sz : Nat} {xs : List D}
mutual
theorem uw (bx:eI w S w S') (ae:S' b) (aH:gR w S b (.arr sz xs)):∀{d:D} {v:Value},bw w S d v→bw w S' (d.b' b sz xs) v
  |_,_, .any=> .any
  |_,_, .v h=> .v h
  |_,_, .ptr=> .ptr
  |_,_, .c0 aa ah aJ=>(bw.c0 aa ah aJ).ev bx
  |_,_, .iX=> .iX
  |_,_, .ai aa ah aJ bg cu=>(bw.ai aa ah aJ bg cu).ev bx
  |_,_, .hV=> .hV
  | .own (some c) s n,_, .own (cap:=cap) a8 au ag hm=>by
    simp only[D.b'];split
    · rename_i xz
      obtain⟨rfl,rfl,hle⟩:=xz;obtain⟨cI,cV,lo,hi,vals,iF,ao,lL,af,iD⟩:=aH;have hlen:(xs.take n).length=n:=by simp;omega
      have key:bw w S' (.ai (xs.take n)) (.slice (some ⟨c,0,none⟩) (xs.take n).length cap):=by
       refine bw.ai (sz:=s) ae (vals:=vals.take (n*s)) (by rw[rE xs n af];exact(ao.take _).ev bx) (fun k x aj=> ?_) (fun y aF=>af y (List.mem_of_mem_take aF)) (by rw[hlen];exact au);rw[List.getElem?_take]at aj;split at aj
       · rw[Nat.zero_add,ph iF];exact lL k x aj
       · cases aj
      rw[hlen]at key;exact key
    · exact .own a8 au ag hm
  |_,_, .lv=> .lv
  |_,_, .win a8 au ag hm=> .win a8 au ag hm
  |_,_, .agg ao=> .agg (q7 bx ae aH ao)
  |_,_, .bd ao=> .bd (q7 bx ae aH ao)
  |_,_, .map=> .map
  |_,_, .bX ax ag=> .bX (q7 bx ae aH ax) (q7 bx ae aH ag)
  |_,_, .dX h=> .dX (uw bx ae aH h)
theorem q7 (bx:eI w S w S') (ae:S' b) (aH:gR w S b (.arr sz xs)):∀{ds:List D} {vs:List Value},bq w S ds vs→bq w S' (hb b sz xs ds) vs
 |_,_, .nil=> .nil
 |_,_, .cons h t=> .cons (uw bx ae aH h) (q7 bx ae aH t)
end
def kB (b sz:Nat) (xs:List D) (env:Env):Env:=env.map fun p=>(p.1,p.2.b' b sz xs)
theorem uV (b sz:Nat) (xs:List D) (k:Nat):∀env:Env,eget k (kB b sz xs env)=(eget k env).b' b sz xs
 |[]=>by simp[kB,eget,D.b']
 |(U,d)::env=>by
  show(if k=U then d.b' b sz xs else eget k (kB b sz xs env))=_
  by_cases aj:k=U
  ·simp[eget,aj]
  rw[if_neg aj,uV b sz xs k env];simp[eget,aj]
def aE.b' (b sz:Nat) (xs:List D):aE→aE
 | .arr s ys=> .arr s (ys.map (D.b' b sz xs))
 | .mp es=> .mp (es.map fun e=>(e.1,e.2.b' b sz xs))
 | .lq s p=> .lq s p
 | .e7 cap buf=> .e7 cap buf
 | .cy st eH fn n env ps ef ct fS=> .cy st eH fn n (kB b sz xs env) ps ef ct fS
 | .ec=> .ec
def di (b sz:Nat) (xs:List D):al→al
 |[]=>[]
 |(c,o)::r=>if b=c then di b sz xs r else(c,o.b' b sz xs)::di b sz xs r
theorem MC (b sz:Nat) (xs:List D) (k:Nat) (σ:al):av k (di b sz xs σ)=if k=b then none else(av k σ).map (aE.b' b sz xs):=by
 induction σ with
 |nil=>simp[di]
 |cons p r aB=>
  obtain⟨c,o⟩:=p;by_cases fB:b=c
  ·subst fB;by_cases aj:k=b
   ·subst aj;simp[di,aB]
   simp[di,av,aj,aB]
  by_cases Jw:k=c
  ·subst Jw;have:¬k=b:=fun h=>fB h.symm;simp[di,av,fB,this]
  simp only[di,fB,if_false,av,Jw,aB]
theorem UY (bx:eI w S w S') (ae:S' b) (aH:gR w S b (.arr sz xs)) {k:Nat} {o:aE} (h:gR w S k o):gR w S' k (o.b' b sz xs):=by
 cases o with
 |arr s ys=>
  obtain⟨c,e,lo,hi,vals,a8,ao,ag,af,iD⟩:=h;refine⟨c,e,lo,hi,vals,a8, ?_,ag, ?_,iD⟩
  ·rw[HP,←AX];exact q7 bx ae aH ao
  intro y aF;obtain⟨z,aO,rfl⟩:=List.mem_map.1 aF;rw[LI];simpa using af z aO
 |mp es=>
  obtain⟨entries,clock,a8,ao,aj,aa,ah⟩:=h;refine⟨entries,clock,a8, ?_,by rw[←aj];simp,aa,ah⟩;have:=q7 bx ae aH ao;rw[AX]at this;simpa [aE.b',Function.comp_def]using this
 |lq s p=>exact h
 |e7 cap buf=>exact h
 |cy st eH fn n env ps ef ct fS=>
  obtain⟨tmps,a8,au,ao⟩:=h;exact⟨tmps,a8,au,fun k=>by rw[uV];exact uw bx ae aH (ao k)⟩
 |ec=>exact h
end
section
variable {P : Program} {N : cP} {C : Ctx P N} {todo : List Item} {env : Env} {σ : al}
theorem vY {w:World} {S:Nat→Prop} {b sz:Nat} {xs:List D} (aL:da w S σ) (aA:∀b,S b→b<w.heap.size) (ae:av b σ=some (.arr sz xs)):
  eI w S w (fun k=>S k∨k=b)∧da w (fun k=>S k∨k=b) (di b sz xs σ)∧Fr w S (cq σ) w (fun k=>S k∨k=b) (di b sz xs σ):=by
 have aH:=(aL b _ ae).2;have bx:eI w S w (fun k=>S k∨k=b):=⟨fun _ h=> .inl h,fun _ _=>rfl,Shape.refl w⟩;have zY:∀k,cq (di b sz xs σ) k→cq σ k:=by
  intro k aj;unfold cq at*;rw[MC]at aj;split at aj
  ·exact absurd rfl aj
  intro au;rw[au]at aj;exact aj rfl
 refine⟨bx, ?_,⟨rfl,rfl,rfl,Nat.le_refl _,Shape.refl w,fun _ _ _=>rfl,fun _ h=> .inl h, ?_,fun k aj=> .inl (zY k aj), ?_⟩⟩
 ·intro k o aj;rw[MC]at aj;split at aj
  ·cases aj
  rename_i eU
  obtain⟨pV,DV,rfl⟩:=Option.map_eq_some_iff.1 aj;obtain⟨aa,ah⟩:=aL k pV DV;exact⟨fun h=>h.elim aa eU,UY bx (.inr rfl) aH ah⟩
 ·intro k aj;rcases aj with aj|rfl
  ·exact .inl aj
  exact .inr (.inl (by unfold cq;rw[ae];simp))
 intro k aj;rcases aj with aj|rfl
 ·exact aA k aj
 exact aH.lt
theorem j.o1 (b:Nat) {sz:Nat} {xs:List D} (ae:av b σ=some (.arr sz xs)) (h:j C todo (kB b sz xs env) (di b sz xs σ)):j C todo env σ:=by
 intro a w S aw af;obtain⟨bx,aL,bl⟩:=vY af.store af.fr.lt ae;exact h a w _ aw ⟨fun k=>by rw[uV];exact uw bx (.inr rfl) (af.store b _ ae).2 (af.env k),aL,af.fr.trans bl,af.size⟩
theorem AC.o1 {f:FuncId} {args:List D} {R:cf→al→Prop} (h:AC P f args σ R) {R':cf→al→Prop}
  (ao:∀e σ',R e σ'→R' e σ'∨∃d b sz xs,e= .ret d∧av b σ'=some (.arr sz xs)∧R' (.ret (d.b' b sz xs)) (di b sz xs σ')):AC P f args σ R':=by
 intro w S vs bh aL ak;refine(h w S vs bh aL ak).mono ?_;rintro e w' ⟨cX,σ',S',bR,c1,c6,bl⟩;rcases ao cX σ' bR with k9|⟨d,b,sz,xs,rfl,ae,k9⟩
 ·exact⟨cX,σ',S',k9,c1,c6,bl⟩
 obtain⟨bx,qL,oz⟩:=vY c6 bl.lt ae;refine⟨_,_,_,k9, ?_,qL,bl.trans oz⟩;cases e with
 |returned v=>exact uw bx (.inr rfl) (c6 b _ ae).2 c1
 |panicked chain=>exact c1.elim
 |outgrown=>exact c1.elim
theorem AC.forget {f:FuncId} {args:List D} {R R':cf→al→Prop} (h:AC P f args σ R) (ao:∀e σ',R e σ'→∃aS,aQ aS σ'∧R' e aS):AC P f args σ R':=by
 intro w S vs bh aL ak;refine(h w S vs bh aL ak).mono ?_;rintro e w' ⟨cX,σ',S',bR,c1,c6,bl⟩;obtain⟨aS,aA,k9⟩:=ao cX σ' bR;exact⟨cX,aS,S',k9,c1,c6.le aA,bl.le aA⟩
end
end Go.Ab
namespace Go.Ab.Tryz
open Go
@[go_sem] theorem af0:Go.Proofs.Tryz.f3.results.toList=[Go.ResultVar.tmp 6]∧Go.Proofs.Tryz.f10.results.toList=[Go.ResultVar.tmp 2]∧Go.Proofs.Tryz.f11.results.toList=[Go.ResultVar.tmp 2]∧Go.Proofs.Tryz.f12.results.toList=[Go.ResultVar.tmp 6,Go.ResultVar.tmp 7]∧Go.Proofs.Tryz.f13.results.toList=[Go.ResultVar.cell 2 35]∧Go.Proofs.Tryz.f14.results.toList=[Go.ResultVar.tmp 2]∧Go.Proofs.Tryz.f15.results.toList=[Go.ResultVar.tmp 6,Go.ResultVar.tmp 7]∧Go.Proofs.Tryz.f16.results.toList=[Go.ResultVar.tmp 4]∧Go.Proofs.Tryz.f17.results.toList=[Go.ResultVar.tmp 0]∧Go.Proofs.Tryz.f18.results.toList=[Go.ResultVar.tmp 2]∧Go.Proofs.Tryz.f19.results.toList=[Go.ResultVar.tmp 2]∧Go.Proofs.Tryz.f20.results.toList=[Go.ResultVar.tmp 2,Go.ResultVar.tmp 3]∧Go.Proofs.Tryz.f21.results.toList=[Go.ResultVar.tmp 2]∧Go.Proofs.Tryz.f23.results.toList=[Go.ResultVar.tmp 6]∧Go.Proofs.Tryz.f24.results.toList=[Go.ResultVar.tmp 6]∧Go.Proofs.Tryz.f25.results.toList=[Go.ResultVar.tmp 2]∧Go.Proofs.Tryz.f26.results.toList=[Go.ResultVar.tmp 2]∧Go.Proofs.Tryz.f27.results.toList=[Go.ResultVar.tmp 4,Go.ResultVar.tmp 5]∧Go.Proofs.Tryz.f28.results.toList=[Go.ResultVar.tmp 4]∧Go.Proofs.Tryz.f30.results.toList=[Go.ResultVar.tmp 2]∧Go.Proofs.Tryz.f31.results.toList=[Go.ResultVar.tmp 4,Go.ResultVar.tmp 5]∧Go.Proofs.Tryz.f32.results.toList=[Go.ResultVar.tmp 4]∧Go.Proofs.Tryz.f33.results.toList=[Go.ResultVar.tmp 4,Go.ResultVar.tmp 5]∧Go.Proofs.Tryz.f34.results.toList=[Go.ResultVar.tmp 4]∧Go.Proofs.Tryz.f35.results.toList=[Go.ResultVar.cell 4 58]∧Go.Proofs.Tryz.f36.results.toList=[Go.ResultVar.tmp 2]∧Go.Proofs.Tryz.f37.results.toList=[Go.ResultVar.tmp 4]∧Go.Proofs.Tryz.f38.results.toList=[Go.ResultVar.tmp 4]∧Go.Proofs.Tryz.f39.results.toList=[Go.ResultVar.tmp 2]∧Go.Proofs.Tryz.f40.results.toList=[Go.ResultVar.tmp 3]:=by refine⟨?_, ?_, ?_, ?_, ?_, ?_, ?_, ?_, ?_, ?_, ?_, ?_, ?_, ?_, ?_, ?_, ?_, ?_, ?_, ?_, ?_, ?_, ?_, ?_, ?_, ?_, ?_, ?_, ?_, ?_⟩<;>kernel_rfl
@[go_sem] theorem agc:Go.Proofs.Tryz.f41.results.toList=[Go.ResultVar.tmp 2]∧Go.Proofs.Tryz.f42.results.toList=[Go.ResultVar.cell 6 63,Go.ResultVar.tmp 7]∧Go.Proofs.Tryz.f43.results.toList=[Go.ResultVar.tmp 4,Go.ResultVar.tmp 5]∧Go.Proofs.Tryz.f44.results.toList=[Go.ResultVar.tmp 6]∧Go.Proofs.Tryz.f45.results.toList=[Go.ResultVar.tmp 4,Go.ResultVar.tmp 5]∧Go.Proofs.Tryz.f46.results.toList=[Go.ResultVar.tmp 2]∧Go.Proofs.Tryz.f47.results.toList=[Go.ResultVar.tmp 4]∧Go.Proofs.Tryz.f48.results.toList=[Go.ResultVar.cell 6 93,Go.ResultVar.tmp 7]∧Go.Proofs.Tryz.f49.results.toList=[Go.ResultVar.tmp 4]∧Go.Proofs.Tryz.f50.results.toList=[Go.ResultVar.tmp 4]∧Go.Proofs.Tryz.f51.results.toList=[Go.ResultVar.tmp 4]∧Go.Proofs.Tryz.f52.results.toList=[Go.ResultVar.tmp 2]∧Go.Proofs.Tryz.f53.results.toList=[Go.ResultVar.cell 2 58]∧Go.Proofs.Tryz.f54.results.toList=[Go.ResultVar.tmp 4]∧Go.Proofs.Tryz.f55.results.toList=[Go.ResultVar.tmp 2]∧Go.Proofs.Tryz.f56.results.toList=[Go.ResultVar.tmp 4]∧Go.Proofs.Tryz.f57.results.toList=[Go.ResultVar.tmp 4]∧Go.Proofs.Tryz.f58.results.toList=[Go.ResultVar.tmp 2]∧Go.Proofs.Tryz.f59.results.toList=[Go.ResultVar.tmp 4]∧Go.Proofs.Tryz.f60.results.toList=[Go.ResultVar.tmp 4,Go.ResultVar.tmp 5]∧Go.Proofs.Tryz.f61.results.toList=[Go.ResultVar.tmp 4]∧Go.Proofs.Tryz.f62.results.toList=[Go.ResultVar.tmp 4]∧Go.Proofs.Tryz.f63.results.toList=[Go.ResultVar.tmp 2]∧Go.Proofs.Tryz.f64.results.toList=[Go.ResultVar.tmp 2]∧Go.Proofs.Tryz.f65.results.toList=[Go.ResultVar.tmp 4]∧Go.Proofs.Tryz.f66.results.toList=[Go.ResultVar.tmp 3]∧Go.Proofs.Tryz.f67.results.toList=[Go.ResultVar.tmp 2]∧Go.Proofs.Tryz.f68.results.toList=[Go.ResultVar.tmp 6]∧Go.Proofs.Tryz.f69.results.toList=[Go.ResultVar.tmp 4]∧Go.Proofs.Tryz.f70.results.toList=[Go.ResultVar.tmp 2]:=by refine⟨?_, ?_, ?_, ?_, ?_, ?_, ?_, ?_, ?_, ?_, ?_, ?_, ?_, ?_, ?_, ?_, ?_, ?_, ?_, ?_, ?_, ?_, ?_, ?_, ?_, ?_, ?_, ?_, ?_, ?_⟩<;>kernel_rfl
@[go_sem] theorem ag7:Go.Proofs.Tryz.f71.results.toList=[Go.ResultVar.tmp 4]∧Go.Proofs.Tryz.f72.results.toList=[Go.ResultVar.tmp 3]∧Go.Proofs.Tryz.f73.results.toList=[Go.ResultVar.tmp 4]∧Go.Proofs.Tryz.f74.results.toList=[Go.ResultVar.tmp 4]∧Go.Proofs.Tryz.f77.results.toList=[Go.ResultVar.cell 2 30]∧Go.Proofs.Tryz.f78.results.toList=[]∧Go.Proofs.Tryz.f79.results.toList=[Go.ResultVar.tmp 2,Go.ResultVar.tmp 3,Go.ResultVar.tmp 4,Go.ResultVar.tmp 5,Go.ResultVar.tmp 6]∧Go.Proofs.Tryz.f80.results.toList=[Go.ResultVar.tmp 0]∧Go.Proofs.Tryz.f81.results.toList=[]∧Go.Proofs.Tryz.f82.results.toList=[Go.ResultVar.tmp 4,Go.ResultVar.tmp 5]∧Go.Proofs.Tryz.f83.results.toList=[Go.ResultVar.tmp 2]∧Go.Proofs.Tryz.f84.results.toList=[Go.ResultVar.tmp 4,Go.ResultVar.tmp 5]∧Go.Proofs.Tryz.f85.results.toList=[Go.ResultVar.tmp 2]∧Go.Proofs.Tryz.f86.results.toList=[Go.ResultVar.tmp 2,Go.ResultVar.cell 3 93,Go.ResultVar.tmp 4]∧Go.Proofs.Tryz.f87.results.toList=[Go.ResultVar.tmp 8,Go.ResultVar.tmp 9,Go.ResultVar.tmp 10]∧Go.Proofs.Tryz.f88.results.toList=[Go.ResultVar.tmp 4]∧Go.Proofs.Tryz.f89.results.toList=[Go.ResultVar.tmp 4]∧Go.Proofs.Tryz.f90.results.toList=[Go.ResultVar.tmp 4]∧Go.Proofs.Tryz.f91.results.toList=[Go.ResultVar.tmp 4]∧Go.Proofs.Tryz.f92.results.toList=[Go.ResultVar.tmp 4]∧Go.Proofs.Tryz.f93.results.toList=[Go.ResultVar.tmp 2]∧Go.Proofs.Tryz.f96.results.toList=[Go.ResultVar.tmp 2]∧Go.Proofs.Tryz.f97.results.toList=[Go.ResultVar.tmp 3]∧Go.Proofs.Tryz.f99.results.toList=[]∧Go.Proofs.Tryz.f101.results.toList=[Go.ResultVar.tmp 2]∧Go.Proofs.Tryz.f105.results.toList=[Go.ResultVar.tmp 2,Go.ResultVar.tmp 3]∧Go.Proofs.Tryz.f106.results.toList=[Go.ResultVar.tmp 2]∧Go.Proofs.Tryz.f107.results.toList=[Go.ResultVar.tmp 2]∧Go.Proofs.Tryz.f108.results.toList=[Go.ResultVar.tmp 2]∧Go.Proofs.Tryz.f109.results.toList=[Go.ResultVar.tmp 2]:=by refine⟨?_, ?_, ?_, ?_, ?_, ?_, ?_, ?_, ?_, ?_, ?_, ?_, ?_, ?_, ?_, ?_, ?_, ?_, ?_, ?_, ?_, ?_, ?_, ?_, ?_, ?_, ?_, ?_, ?_, ?_⟩<;>kernel_rfl
@[go_sem] theorem aeh:Go.Proofs.Tryz.f110.results.toList=[Go.ResultVar.tmp 2]∧Go.Proofs.Tryz.f112.results.toList=[Go.ResultVar.tmp 2]∧Go.Proofs.Tryz.f113.results.toList=[Go.ResultVar.tmp 2]∧Go.Proofs.Tryz.f115.results.toList=[Go.ResultVar.tmp 2]∧Go.Proofs.Tryz.f116.results.toList=[Go.ResultVar.tmp 2]∧Go.Proofs.Tryz.f117.results.toList=[Go.ResultVar.tmp 2]∧Go.Proofs.Tryz.f118.results.toList=[Go.ResultVar.tmp 2]∧Go.Proofs.Tryz.f119.results.toList=[Go.ResultVar.tmp 12,Go.ResultVar.tmp 13,Go.ResultVar.tmp 14]∧Go.Proofs.Tryz.f120.results.toList=[Go.ResultVar.tmp 4]∧Go.Proofs.Tryz.f121.results.toList=[Go.ResultVar.tmp 4]∧Go.Proofs.Tryz.f122.results.toList=[Go.ResultVar.tmp 2]∧Go.Proofs.Tryz.f130.results.toList=[Go.ResultVar.tmp 2]∧Go.Proofs.Tryz.f131.results.toList=[Go.ResultVar.tmp 2]∧Go.Proofs.Tryz.f132.results.toList=[]∧Go.Proofs.Tryz.f133.results.toList=[Go.ResultVar.tmp 4]∧Go.Proofs.Tryz.f134.results.toList=[Go.ResultVar.tmp 4]∧Go.Proofs.Tryz.f135.results.toList=[Go.ResultVar.tmp 2]∧Go.Proofs.Tryz.f137.results.toList=[Go.ResultVar.tmp 8]∧Go.Proofs.Tryz.f138.results.toList=[Go.ResultVar.cell 2 9,Go.ResultVar.cell 3 30]∧Go.Proofs.Tryz.f142.results.toList=[Go.ResultVar.tmp 2,Go.ResultVar.tmp 3]∧Go.Proofs.Tryz.f143.results.toList=[Go.ResultVar.tmp 2,Go.ResultVar.tmp 3]∧Go.Proofs.Tryz.f157.results.toList=[Go.ResultVar.tmp 4]∧Go.Proofs.Tryz.f158.results.toList=[Go.ResultVar.tmp 4]∧Go.Proofs.Tryz.f159.results.toList=[Go.ResultVar.tmp 6]∧Go.Proofs.Tryz.f163.results.toList=[Go.ResultVar.tmp 4]∧Go.Proofs.Tryz.f165.results.toList=[Go.ResultVar.tmp 4]∧Go.Proofs.Tryz.f166.results.toList=[Go.ResultVar.tmp 2]∧Go.Proofs.Tryz.f167.results.toList=[Go.ResultVar.tmp 2]∧Go.Proofs.Tryz.f168.results.toList=[Go.ResultVar.tmp 4]∧Go.Proofs.Tryz.f171.results.toList=[Go.ResultVar.tmp 2]:=by refine⟨?_, ?_, ?_, ?_, ?_, ?_, ?_, ?_, ?_, ?_, ?_, ?_, ?_, ?_, ?_, ?_, ?_, ?_, ?_, ?_, ?_, ?_, ?_, ?_, ?_, ?_, ?_, ?_, ?_, ?_⟩<;>kernel_rfl
@[go_sem] theorem afi:Go.Proofs.Tryz.f189.results.toList=[Go.ResultVar.tmp 10,Go.ResultVar.tmp 11]∧Go.Proofs.Tryz.f193.results.toList=[Go.ResultVar.tmp 6]∧Go.Proofs.Tryz.f195.results.toList=[Go.ResultVar.tmp 6]∧Go.Proofs.Tryz.f196.results.toList=[Go.ResultVar.tmp 4]∧Go.Proofs.Tryz.f206.results.toList=[Go.ResultVar.tmp 2]∧Go.Proofs.Tryz.f207.results.toList=[Go.ResultVar.tmp 2]∧Go.Proofs.Tryz.f208.results.toList=[]∧Go.Proofs.Tryz.f211.results.toList=[Go.ResultVar.tmp 4]∧Go.Proofs.Tryz.f214.results.toList=[Go.ResultVar.tmp 2]∧cY Go.Proofs.Tryz.prog 3=some 1∧kR Go.Proofs.Tryz.prog 3=some 8∧eB Go.Proofs.Tryz.prog 3=some (Go.Value.int Go.IntKind.i64 0)∧e6 Go.Proofs.Tryz.prog 3=some false∧Program.underlying Go.Proofs.Tryz.prog 3=some (Go.TypeDesc.int Go.IntKind.i64)∧cY Go.Proofs.Tryz.prog 4=some 1∧kR Go.Proofs.Tryz.prog 4=some 1∧eB Go.Proofs.Tryz.prog 4=some (Go.Value.bool false)∧e6 Go.Proofs.Tryz.prog 4=some false∧Program.underlying Go.Proofs.Tryz.prog 4=some (Go.TypeDesc.bool)∧cY Go.Proofs.Tryz.prog 5=some 1∧kR Go.Proofs.Tryz.prog 5=some 1∧eB Go.Proofs.Tryz.prog 5=some (Go.Value.int Go.IntKind.u8 0)∧e6 Go.Proofs.Tryz.prog 5=some false∧Program.underlying Go.Proofs.Tryz.prog 5=some (Go.TypeDesc.int Go.IntKind.u8)∧cY Go.Proofs.Tryz.prog 9=some 1∧kR Go.Proofs.Tryz.prog 9=some 16∧eB Go.Proofs.Tryz.prog 9=some (Go.Value.string ByteArray.empty)∧e6 Go.Proofs.Tryz.prog 9=some false∧isStr Go.Proofs.Tryz.prog 9=true∧Program.underlying Go.Proofs.Tryz.prog 9=some (Go.TypeDesc.string):=by refine⟨?_, ?_, ?_, ?_, ?_, ?_, ?_, ?_, ?_, ?_, ?_, ?_, ?_, ?_, ?_, ?_, ?_, ?_, ?_, ?_, ?_, ?_, ?_, ?_, ?_, ?_, ?_, ?_, ?_, ?_⟩<;>kernel_rfl
@[go_sem] theorem ajs:Program.underlying Go.Proofs.Tryz.prog 20=some (Go.TypeDesc.interface #[])∧cY Go.Proofs.Tryz.prog 22=some 1∧e6 Go.Proofs.Tryz.prog 22=some false∧eZ Go.Proofs.Tryz.prog 22=some 69∧cY Go.Proofs.Tryz.prog 23=some 1∧eB Go.Proofs.Tryz.prog 23=some (Go.Value.slice none 0 0)∧e6 Go.Proofs.Tryz.prog 23=some false∧eZ Go.Proofs.Tryz.prog 23=some 9∧isStr Go.Proofs.Tryz.prog 23=false∧Program.underlying Go.Proofs.Tryz.prog 23=some (Go.TypeDesc.slice 9)∧cY Go.Proofs.Tryz.prog 25=some 2∧e6 Go.Proofs.Tryz.prog 25=some true∧eA Go.Proofs.Tryz.prog 25 0=some {name:= "Edges",type:=22,offset:=0,embedded:=false,tag:= "",pkgPath:= "",byteOffset:=0}∧eA Go.Proofs.Tryz.prog 25 1=some {name:= "Defaults",type:=23,offset:=1,embedded:=false,tag:= "",pkgPath:= "",byteOffset:=24}∧cY Go.Proofs.Tryz.prog 26=some 1∧e6 Go.Proofs.Tryz.prog 26=some false∧eZ Go.Proofs.Tryz.prog 26=some 70∧isStr Go.Proofs.Tryz.prog 26=false∧Program.underlying Go.Proofs.Tryz.prog 26=some (Go.TypeDesc.slice 70)∧cY Go.Proofs.Tryz.prog 29=some 1∧eB Go.Proofs.Tryz.prog 29=some (Go.Value.slice none 0 0)∧e6 Go.Proofs.Tryz.prog 29=some false∧eZ Go.Proofs.Tryz.prog 29=some 56∧isStr Go.Proofs.Tryz.prog 29=false∧Program.underlying Go.Proofs.Tryz.prog 29=some (Go.TypeDesc.slice 56)∧cY Go.Proofs.Tryz.prog 30=some 1∧eB Go.Proofs.Tryz.prog 30=some (Go.Value.int Go.IntKind.i64 0)∧e6 Go.Proofs.Tryz.prog 30=some false∧cY Go.Proofs.Tryz.prog 33=some 1∧e6 Go.Proofs.Tryz.prog 33=some false:=by refine⟨?_, ?_, ?_, ?_, ?_, ?_, ?_, ?_, ?_, ?_, ?_, ?_, ?_, ?_, ?_, ?_, ?_, ?_, ?_, ?_, ?_, ?_, ?_, ?_, ?_, ?_, ?_, ?_, ?_, ?_⟩<;>kernel_rfl
@[go_sem] theorem aay:eZ Go.Proofs.Tryz.prog 33=some 58∧isStr Go.Proofs.Tryz.prog 33=false∧Program.underlying Go.Proofs.Tryz.prog 33=some (Go.TypeDesc.slice 58)∧cY Go.Proofs.Tryz.prog 35=some 2∧eB Go.Proofs.Tryz.prog 35=some (Go.Value.agg #[Go.Value.slice none 0 0,Go.Value.slice none 0 0])∧e6 Go.Proofs.Tryz.prog 35=some true∧o0 Go.Proofs.Tryz.prog 35=true∧eA Go.Proofs.Tryz.prog 35 0=some {name:= "Edges",type:=33,offset:=0,embedded:=false,tag:= "",pkgPath:= "",byteOffset:=0}∧eA Go.Proofs.Tryz.prog 35 1=some {name:= "Defaults",type:=23,offset:=1,embedded:=false,tag:= "",pkgPath:= "",byteOffset:=24}∧cY Go.Proofs.Tryz.prog 44=some 1∧eB Go.Proofs.Tryz.prog 44=some (Go.Value.pointer none)∧e6 Go.Proofs.Tryz.prog 44=some false∧Program.underlying Go.Proofs.Tryz.prog 44=some (Go.TypeDesc.pointer 102)∧cY Go.Proofs.Tryz.prog 52=some 1∧e6 Go.Proofs.Tryz.prog 52=some false∧eZ Go.Proofs.Tryz.prog 52=some 5∧ny Go.Proofs.Tryz.prog 52=true∧isStr Go.Proofs.Tryz.prog 52=false∧Program.underlying Go.Proofs.Tryz.prog 52=some (Go.TypeDesc.slice 5)∧cY Go.Proofs.Tryz.prog 56=some 2∧kR Go.Proofs.Tryz.prog 56=some 40∧eB Go.Proofs.Tryz.prog 56=some (Go.Value.agg #[Go.Value.string ByteArray.empty,Go.Value.slice none 0 0])∧e6 Go.Proofs.Tryz.prog 56=some true∧o0 Go.Proofs.Tryz.prog 56=true∧eA Go.Proofs.Tryz.prog 56 0=some {name:= "Name",type:=9,offset:=0,embedded:=false,tag:= "",pkgPath:= "",byteOffset:=0}∧eA Go.Proofs.Tryz.prog 56 1=some {name:= "B",type:=52,offset:=1,embedded:=false,tag:= "",pkgPath:= "",byteOffset:=16}∧cY Go.Proofs.Tryz.prog 58=some 6∧kR Go.Proofs.Tryz.prog 58=some 128∧eB Go.Proofs.Tryz.prog 58=some (Go.Value.agg #[Go.Value.slice none 0 0,Go.Value.slice none 0 0,Go.Value.slice none 0 0,Go.Value.slice none 0 0,Go.Value.string ByteArray.empty,Go.Value.string ByteArray.empty])∧e6 Go.Proofs.Tryz.prog 58=some true:=by refine⟨?_, ?_, ?_, ?_, ?_, ?_, ?_, ?_, ?_, ?_, ?_, ?_, ?_, ?_, ?_, ?_, ?_, ?_, ?_, ?_, ?_, ?_, ?_, ?_, ?_, ?_, ?_, ?_, ?_, ?_⟩<;>kernel_rfl
@[go_sem] theorem adv:o0 Go.Proofs.Tryz.prog 58=true∧eA Go.Proofs.Tryz.prog 58 0=some {name:= "Outs",type:=23,offset:=0,embedded:=false,tag:= "",pkgPath:= "",byteOffset:=0}∧eA Go.Proofs.Tryz.prog 58 1=some {name:= "Ins",type:=23,offset:=1,embedded:=false,tag:= "",pkgPath:= "",byteOffset:=24}∧eA Go.Proofs.Tryz.prog 58 2=some {name:= "Implicit",type:=23,offset:=2,embedded:=false,tag:= "",pkgPath:= "",byteOffset:=48}∧eA Go.Proofs.Tryz.prog 58 3=some {name:= "Order",type:=23,offset:=3,embedded:=false,tag:= "",pkgPath:= "",byteOffset:=72}∧eA Go.Proofs.Tryz.prog 58 4=some {name:= "Command",type:=9,offset:=4,embedded:=false,tag:= "",pkgPath:= "",byteOffset:=96}∧eA Go.Proofs.Tryz.prog 58 5=some {name:= "Depfile",type:=9,offset:=5,embedded:=false,tag:= "",pkgPath:= "",byteOffset:=112}∧cY Go.Proofs.Tryz.prog 63=some 4∧eB Go.Proofs.Tryz.prog 63=some (Go.Value.agg #[Go.Value.slice none 0 0,Go.Value.bool false,Go.Value.string ByteArray.empty,Go.Value.string ByteArray.empty])∧e6 Go.Proofs.Tryz.prog 63=some true∧o0 Go.Proofs.Tryz.prog 63=true∧eA Go.Proofs.Tryz.prog 63 0=some {name:= "Outs",type:=29,offset:=0,embedded:=false,tag:= "",pkgPath:= "",byteOffset:=0}∧eA Go.Proofs.Tryz.prog 63 1=some {name:= "Once",type:=4,offset:=1,embedded:=false,tag:= "",pkgPath:= "",byteOffset:=24}∧eA Go.Proofs.Tryz.prog 63 2=some {name:= "Depfile",type:=9,offset:=2,embedded:=false,tag:= "",pkgPath:= "",byteOffset:=32}∧eA Go.Proofs.Tryz.prog 63 3=some {name:= "Deps",type:=9,offset:=3,embedded:=false,tag:= "",pkgPath:= "",byteOffset:=48}∧cY Go.Proofs.Tryz.prog 69=some 6∧eB Go.Proofs.Tryz.prog 69=some (Go.Value.agg #[Go.Value.slice none 0 0,Go.Value.slice none 0 0,Go.Value.slice none 0 0,Go.Value.slice none 0 0,Go.Value.string ByteArray.empty,Go.Value.string ByteArray.empty])∧e6 Go.Proofs.Tryz.prog 69=some true∧eA Go.Proofs.Tryz.prog 69 0=some {name:= "Outs",type:=23,offset:=0,embedded:=false,tag:= "",pkgPath:= "",byteOffset:=0}∧eA Go.Proofs.Tryz.prog 69 1=some {name:= "Ins",type:=23,offset:=1,embedded:=false,tag:= "",pkgPath:= "",byteOffset:=24}∧eA Go.Proofs.Tryz.prog 69 2=some {name:= "Implicit",type:=23,offset:=2,embedded:=false,tag:= "",pkgPath:= "",byteOffset:=48}∧eA Go.Proofs.Tryz.prog 69 3=some {name:= "Order",type:=23,offset:=3,embedded:=false,tag:= "",pkgPath:= "",byteOffset:=72}∧eA Go.Proofs.Tryz.prog 69 4=some {name:= "Command",type:=9,offset:=4,embedded:=false,tag:= "",pkgPath:= "",byteOffset:=96}∧eA Go.Proofs.Tryz.prog 69 5=some {name:= "Depfile",type:=9,offset:=5,embedded:=false,tag:= "",pkgPath:= "",byteOffset:=112}∧cY Go.Proofs.Tryz.prog 70=some 2∧kR Go.Proofs.Tryz.prog 70=some 40∧eB Go.Proofs.Tryz.prog 70=some (Go.Value.agg #[Go.Value.string ByteArray.empty,Go.Value.slice none 0 0])∧e6 Go.Proofs.Tryz.prog 70=some true∧o0 Go.Proofs.Tryz.prog 70=true∧eA Go.Proofs.Tryz.prog 70 0=some {name:= "Name",type:=9,offset:=0,embedded:=false,tag:= "",pkgPath:= "",byteOffset:=0}:=by refine⟨?_, ?_, ?_, ?_, ?_, ?_, ?_, ?_, ?_, ?_, ?_, ?_, ?_, ?_, ?_, ?_, ?_, ?_, ?_, ?_, ?_, ?_, ?_, ?_, ?_, ?_, ?_, ?_, ?_, ?_⟩<;>kernel_rfl
@[go_sem] theorem aby:eA Go.Proofs.Tryz.prog 70 1=some {name:= "B",type:=52,offset:=1,embedded:=false,tag:= "",pkgPath:= "",byteOffset:=16}∧cY Go.Proofs.Tryz.prog 72=some 1∧kR Go.Proofs.Tryz.prog 72=some 24∧eB Go.Proofs.Tryz.prog 72=some (Go.Value.slice none 0 0)∧e6 Go.Proofs.Tryz.prog 72=some false∧eZ Go.Proofs.Tryz.prog 72=some 3∧isStr Go.Proofs.Tryz.prog 72=false∧Program.underlying Go.Proofs.Tryz.prog 72=some (Go.TypeDesc.slice 3)∧cY Go.Proofs.Tryz.prog 93=some 4∧eB Go.Proofs.Tryz.prog 93=some (Go.Value.agg #[Go.Value.slice none 0 0,Go.Value.bool false,Go.Value.string ByteArray.empty,Go.Value.string ByteArray.empty])∧e6 Go.Proofs.Tryz.prog 93=some true∧o0 Go.Proofs.Tryz.prog 93=true∧eA Go.Proofs.Tryz.prog 93 0=some {name:= "Outs",type:=26,offset:=0,embedded:=false,tag:= "",pkgPath:= "",byteOffset:=0}∧eA Go.Proofs.Tryz.prog 93 1=some {name:= "Once",type:=4,offset:=1,embedded:=false,tag:= "",pkgPath:= "",byteOffset:=24}∧eA Go.Proofs.Tryz.prog 93 2=some {name:= "Depfile",type:=9,offset:=2,embedded:=false,tag:= "",pkgPath:= "",byteOffset:=32}∧eA Go.Proofs.Tryz.prog 93 3=some {name:= "Deps",type:=9,offset:=3,embedded:=false,tag:= "",pkgPath:= "",byteOffset:=48}∧cY Go.Proofs.Tryz.prog 99=some 1∧e6 Go.Proofs.Tryz.prog 99=some false∧l8 Go.Proofs.Tryz.prog 99=some (Go.TypeDesc.string,3)∧cY Go.Proofs.Tryz.prog 100=some 1∧e6 Go.Proofs.Tryz.prog 100=some false∧eZ Go.Proofs.Tryz.prog 100=some 72∧isStr Go.Proofs.Tryz.prog 100=false∧Program.underlying Go.Proofs.Tryz.prog 100=some (Go.TypeDesc.slice 72)∧cY Go.Proofs.Tryz.prog 102=some 4∧eB Go.Proofs.Tryz.prog 102=some (Go.Value.agg #[Go.Value.slice none 0 0,Go.Value.slice none 0 0,Go.Value.map none,Go.Value.slice none 0 0])∧o0 Go.Proofs.Tryz.prog 102=true∧eA Go.Proofs.Tryz.prog 102 0=some {name:= "m",type:=35,offset:=0,embedded:=false,tag:= "",pkgPath:= "bellows/graph",byteOffset:=0}∧eA Go.Proofs.Tryz.prog 102 1=some {name:= "makers",type:=99,offset:=2,embedded:=false,tag:= "",pkgPath:= "bellows/graph",byteOffset:=48}∧eA Go.Proofs.Tryz.prog 102 2=some {name:= "ahead",type:=100,offset:=3,embedded:=false,tag:= "",pkgPath:= "bellows/graph",byteOffset:=56}:=by refine⟨?_, ?_, ?_, ?_, ?_, ?_, ?_, ?_, ?_, ?_, ?_, ?_, ?_, ?_, ?_, ?_, ?_, ?_, ?_, ?_, ?_, ?_, ?_, ?_, ?_, ?_, ?_, ?_, ?_, ?_⟩<;>kernel_rfl
@[go_sem] theorem aao:eZ Go.Proofs.Tryz.prog 108=some 110∧cY Go.Proofs.Tryz.prog 110=some 1∧kR Go.Proofs.Tryz.prog 110=some 24∧eB Go.Proofs.Tryz.prog 110=some (Go.Value.slice none 0 0)∧e6 Go.Proofs.Tryz.prog 110=some false∧eZ Go.Proofs.Tryz.prog 110=some 4∧eZ Go.Proofs.Tryz.prog 121=some 23∧eZ Go.Proofs.Tryz.prog 123=some 29∧cY Go.Proofs.Tryz.prog 128=some 1∧e6 Go.Proofs.Tryz.prog 128=some false∧cY Go.Proofs.Tryz.prog 130=some 5∧eB Go.Proofs.Tryz.prog 130=some (Go.Value.agg #[Go.Value.slice none 0 0,Go.Value.slice none 0 0,Go.Value.slice none 0 0,Go.Value.slice none 0 0,Go.Value.int Go.IntKind.i64 0])∧o0 Go.Proofs.Tryz.prog 130=true∧eA Go.Proofs.Tryz.prog 130 0=some {name:= "args",type:=23,offset:=0,embedded:=false,tag:= "",pkgPath:= "bellows/cook",byteOffset:=0}∧eA Go.Proofs.Tryz.prog 130 1=some {name:= "declared",type:=23,offset:=1,embedded:=false,tag:= "",pkgPath:= "bellows/cook",byteOffset:=24}∧eA Go.Proofs.Tryz.prog 130 2=some {name:= "files",type:=29,offset:=2,embedded:=false,tag:= "",pkgPath:= "bellows/cook",byteOffset:=48}∧eA Go.Proofs.Tryz.prog 130 3=some {name:= "found",type:=23,offset:=3,embedded:=false,tag:= "",pkgPath:= "bellows/cook",byteOffset:=72}∧eA Go.Proofs.Tryz.prog 130 4=some {name:= "many",type:=3,offset:=4,embedded:=false,tag:= "",pkgPath:= "bellows/cook",byteOffset:=96}∧eB Go.Proofs.Tryz.prog 131=some Go.Value.nilFunc∧Program.underlying Go.Proofs.Tryz.prog 131=some (Go.TypeDesc.func #[128] #[52] false)∧l8 Go.Proofs.Tryz.prog 132=some (Go.TypeDesc.string,131)∧cY Go.Proofs.Tryz.prog 145=some 1∧eB Go.Proofs.Tryz.prog 145=some (Go.Value.map none)∧e6 Go.Proofs.Tryz.prog 145=some false∧l8 Go.Proofs.Tryz.prog 145=some (Go.TypeDesc.int Go.IntKind.i64,4)∧Program.underlying Go.Proofs.Tryz.prog 146=some (Go.TypeDesc.int Go.IntKind.u64)∧cY Go.Proofs.Tryz.prog 153=some 1∧eB Go.Proofs.Tryz.prog 153=some (Go.Value.chan none)∧e6 Go.Proofs.Tryz.prog 153=some false∧cY Go.Proofs.Tryz.prog 160=some 0:=by refine⟨?_, ?_, ?_, ?_, ?_, ?_, ?_, ?_, ?_, ?_, ?_, ?_, ?_, ?_, ?_, ?_, ?_, ?_, ?_, ?_, ?_, ?_, ?_, ?_, ?_, ?_, ?_, ?_, ?_, ?_⟩<;>kernel_rfl
@[go_sem] theorem akz:eB Go.Proofs.Tryz.prog 160=some (Go.Value.agg #[])∧o0 Go.Proofs.Tryz.prog 160=true∧Program.underlying Go.Proofs.Tryz.prog 160=some (Go.TypeDesc.struct #[])∧Program.underlying Go.Proofs.Tryz.prog 170=some (Go.TypeDesc.int Go.IntKind.u64)∧cY Go.Proofs.Tryz.prog 257=some 65∧eB Go.Proofs.Tryz.prog 257=some (Go.Value.agg ([Go.Value.int Go.IntKind.u8 0,Go.Value.int Go.IntKind.u8 0,Go.Value.int Go.IntKind.u8 0,Go.Value.int Go.IntKind.u8 0,Go.Value.int Go.IntKind.u8 0,Go.Value.int Go.IntKind.u8 0,Go.Value.int Go.IntKind.u8 0,Go.Value.int Go.IntKind.u8 0,Go.Value.int Go.IntKind.u8 0,Go.Value.int Go.IntKind.u8 0,Go.Value.int Go.IntKind.u8 0,Go.Value.int Go.IntKind.u8 0,Go.Value.int Go.IntKind.u8 0,Go.Value.int Go.IntKind.u8 0,Go.Value.int Go.IntKind.u8 0,Go.Value.int Go.IntKind.u8 0,Go.Value.int Go.IntKind.u8 0,Go.Value.int Go.IntKind.u8 0,Go.Value.int Go.IntKind.u8 0,Go.Value.int Go.IntKind.u8 0,Go.Value.int Go.IntKind.u8 0,Go.Value.int Go.IntKind.u8 0,Go.Value.int Go.IntKind.u8 0,Go.Value.int Go.IntKind.u8 0,Go.Value.int Go.IntKind.u8 0,Go.Value.int Go.IntKind.u8 0,Go.Value.int Go.IntKind.u8 0,Go.Value.int Go.IntKind.u8 0,Go.Value.int Go.IntKind.u8 0,Go.Value.int Go.IntKind.u8 0,Go.Value.int Go.IntKind.u8 0,Go.Value.int Go.IntKind.u8 0].append [Go.Value.int Go.IntKind.u8 0,Go.Value.int Go.IntKind.u8 0,Go.Value.int Go.IntKind.u8 0,Go.Value.int Go.IntKind.u8 0,Go.Value.int Go.IntKind.u8 0,Go.Value.int Go.IntKind.u8 0,Go.Value.int Go.IntKind.u8 0,Go.Value.int Go.IntKind.u8 0,Go.Value.int Go.IntKind.u8 0,Go.Value.int Go.IntKind.u8 0,Go.Value.int Go.IntKind.u8 0,Go.Value.int Go.IntKind.u8 0,Go.Value.int Go.IntKind.u8 0,Go.Value.int Go.IntKind.u8 0,Go.Value.int Go.IntKind.u8 0,Go.Value.int Go.IntKind.u8 0,Go.Value.int Go.IntKind.u8 0,Go.Value.int Go.IntKind.u8 0,Go.Value.int Go.IntKind.u8 0,Go.Value.int Go.IntKind.u8 0,Go.Value.int Go.IntKind.u8 0,Go.Value.int Go.IntKind.u8 0,Go.Value.int Go.IntKind.u8 0,Go.Value.int Go.IntKind.u8 0,Go.Value.int Go.IntKind.u8 0,Go.Value.int Go.IntKind.u8 0,Go.Value.int Go.IntKind.u8 0,Go.Value.int Go.IntKind.u8 0,Go.Value.int Go.IntKind.u8 0,Go.Value.int Go.IntKind.u8 0,Go.Value.int Go.IntKind.u8 0,Go.Value.int Go.IntKind.u8 0,Go.Value.int Go.IntKind.u8 0]).toArray)∧eZ Go.Proofs.Tryz.prog 257=none∧uu Go.Proofs.Tryz.prog 257=some (65,1)∧eZ Go.Proofs.Tryz.prog 265=none∧uu Go.Proofs.Tryz.prog 265=some (64,1):=by refine⟨?_, ?_, ?_, ?_, ?_, ?_, ?_, ?_, ?_, ?_⟩<;>kernel_rfl
end Go.Ab.Tryz
namespace Go.Ab
open Go
def litB (lit:List Nat) (o:Oper):Bool:=match o.dst with|some k=>lit.contains k|none=>false
def o8:ee→ee
 | .new pre (.arr n xs) mk=> .val (pre∧∀b,mk b= .own (some b) n xs.length) (.ai xs)
 | .app pre none _ xs=> .val pre (.ai xs)
 | .app pre (some b) sz xs=> .app pre (some b) sz xs
 | .new pre o mk=> .new pre o mk
 | .val p d=> .val p d
 | .eP ok f=> .eP ok f
 | .upd p d s=> .upd p d s
 | .enter f a=> .enter f a
 | .panic d=> .panic d
 | .bad=> .bad
def aBuild0 (P:Program) (T:TypeId):ee:=
 match (eZ P T).bind (cY P)with
 |some n=> .val True (.own none n 0)
 |none=> .bad
def aopL (P:Program) (ro:Bool) (env:Env) (σ:al) (op:Op):ee:=
 if ro=true then
  match op with
  | .buildSlice T 0 ps=>if ps.toList=[]then aBuild0 P T else .bad
  |op=>o8 (aop P env σ op)
 else aop P env σ op
def aopD (P:Program) (lit:List Nat) (env:Env) (σ:al) (o:Oper):ee:=aopL P (litB lit o) env σ o.op
section steps
variable {P : Program} {N : cP} {C : Ctx P N} {env : Env} {σ : al} {a : Act} {w : World} {S : Nat → Prop} {o : Oper}
variable {Qp : D → al → Prop} {next K : Env → al → Prop} {bN : Act → World → Prop}
theorem MF {k b n:Nat} {xs:List D} {tmps:Array Value} (h:ck C (eput k (.own (some b) n xs.length) env) ((b, .arr n xs)::σ) w S tmps) (au:av b σ=none):ck C (eput k (.ai xs) env) σ w (fun c=>S c∨c=b) tmps:=by
 have ae:av b ((b, .arr n xs)::σ)=some (.arr n xs):=bE ..;obtain⟨bx,aL,bl⟩:=vY h.store h.fr.lt ae;refine⟨fun U=> ?_,fun c o ag=> ?_,{(h.fr.trans bl)with fh:=fun c ag=>h.fr.fh c ?_},h.size⟩
 ·have aR:=h.env U;rw[j6]at aR⊢;by_cases iH:U=k
  ·rw[if_pos iH]at aR⊢;have:=uw bx (.inr rfl) (h.store b _ ae).2 aR;simpa [D.b']using this
  rw[if_neg iH]at aR⊢;exact aR.ev bx
 ·have fk:c≠b:=fun e=>by subst e;rw[au]at ag;cases ag
  obtain⟨aa,ah⟩:=h.store c o (by rw[aW,if_neg fk];exact ag);exact⟨fun h=>h.elim aa fk,ah.ev bx rfl⟩
 unfold cq at*;rw[aW];split
 ·simp
 exact ag
theorem W1 (h:ck C env σ w S a.tmps) (bm:a.defers=C.ds) (aX:dV N o.dst) (bk:∀a w,dR C next a w→bN a w) {T:TypeId} {ps:Array (Nat×Operand)} (aH:o.op= .buildSlice T 0 ps) (dv:ps.toList=[]) {Q:Exit→Act→World→Prop}
  (ak:cQ P Qp next o.dst env σ (aBuild0 P T)):o.wp P a w bN Q:=by
 unfold aBuild0 at ak;split at ak
 ·rename_i n au
  obtain⟨e,he,af⟩:=Option.bind_eq_some_iff.1 au;have Sy:ps=#[]:=by cases ps;simpa using dv
  subst Sy;have bS:(execOp a.eval o).run P w= .ok (.value (.slice (some ⟨w.heap.size,0,none⟩) 0 0)) (w.alloc (.cells #[] e)):=by
   simp[execOp,aH,Instr.buildSlice,run_underlying (l6 he),run_sizeOf af,Instr.fill,newRow,Array.range_zero']
  refine step_ok h bm aX bk bS .hV (S':=S) (fun c o ag=> ?_) ?_ ak.2
  ·obtain⟨aa,ah⟩:=h.store c o ag;exact⟨aa,ah.ev (uW h.fr.lt _) (uY w _ c (by have:=ah.lt;omega))⟩
  refine(w7 h (.cells #[] e) (.arr 0 [])).le fun c o ag=> ?_;rw[aW,if_neg]
  ·exact ag
  intro e;subst e;rw[lh h.store]at ag;cases ag
 exact ak.elim
theorem Li {lit:List Nat} (h:ck C env σ w S a.tmps) (bm:a.defers=C.ds) (aX:dV N o.dst) (bk:∀a w,dR C next a w→bN a w) (ak:cQ P Qp next o.dst env σ (aopD P lit env σ o)):o.wp P a w bN (jb C K Qp):=by
 have main:(∃k,o.dst=some k)→cQ P Qp next o.dst env σ (o8 (aop P env σ o.op))→o.wp P a w bN (jb C K Qp):=by
  rintro⟨k,aj⟩ ak;cases ao:aop P env σ o.op with
  |new pre ob mk=>
   rw[ao]at ak;cases ob with
   |arr n xs=>
    obtain⟨⟨aP,fm⟩,au⟩:=ak;refine km (next:=fun Ce σ1=>∃b,av b σ=none∧Ce=eputo o.dst (.own (some b) n xs.length) env∧σ1=(b, .arr n xs)::σ) h bm aX ?_ (by rw[ao];exact⟨aP,fun b ae=>⟨b,ae,by rw[fm],rfl⟩⟩);rintro a w ⟨aw,env',σ',S',⟨b,ae,rfl,rfl⟩,af⟩;rw[aj]at af au;exact bk _ _ ⟨aw,_,_,_,au,MF af ae⟩
   |mp es=>exact km h bm aX bk (by rw[ao];exact ak)
   |lq s p=>exact km h bm aX bk (by rw[ao];exact ak)
   |e7 cap buf=>exact km h bm aX bk (by rw[ao];exact ak)
   |cy=>exact km h bm aX bk (by rw[ao];exact ak)
   |ec=>exact km h bm aX bk (by rw[ao];exact ak)
  |app pre b sz xs=>
   rw[ao]at ak;cases b with
   |some b=>exact km h bm aX bk (by rw[ao];exact ak)
   |none=>
    obtain⟨aP,au⟩:=ak;refine km (next:=fun Ce σ1=>∃ob:Option Nat,(ob=none→xs=[])∧nX ob σ∧Ce=eputo o.dst (.own ob sz xs.length) env∧σ1=cellsOf ob sz xs++σ) h bm aX ?_ (by rw[ao];exact⟨aP,fun ob aa ah=>⟨ob,aa,ah,rfl,rfl⟩⟩);rintro a w ⟨aw,env',σ',S',⟨ob,aa,ah,rfl,rfl⟩,af⟩;rw[aj]at af au;cases ob with
    |some b=>
     exact bk _ _ ⟨aw,_,_,_,au,MF af (ah b rfl)⟩
    |none=>
     have:=aa rfl;subst this;refine bk _ _ ⟨aw,_,_,S',au,⟨fun U=> ?_,af.store,af.fr,af.size⟩⟩;have aR:=af.env U;simp only[eputo]at aR⊢;rw[j6]at aR⊢;split
     ·rename_i iH
      rw[if_pos iH]at aR;generalize a.tmps.getD U undef=v at aR;cases aR
      exact .iX
     rename_i iH;rw[if_neg iH]at aR;exact aR
  |val p d=>exact km h bm aX bk (by rw[ao]at ak⊢;exact ak)
  |eP ok f=>exact km h bm aX bk (by rw[ao]at ak⊢;exact ak)
  |upd p d s=>exact km h bm aX bk (by rw[ao]at ak⊢;exact ak)
  |enter f jd=>exact km h bm aX bk (by rw[ao]at ak⊢;exact ak)
  |panic d=>exact km h bm aX bk (by rw[ao]at ak⊢;exact ak)
  |bad=>rw[ao]at ak;exact ak.elim
 unfold aopD aopL at ak;split at ak
 ·rename_i aA
  have aj:∃k,o.dst=some k:=by
   unfold litB at aA;split at aA
   ·exact⟨_,by assumption⟩
   cases aA
  split at ak
  ·rename_i T ps aH
   split at ak
   ·rename_i dv
    exact W1 h bm aX bk aH dv ak
   exact ak.elim
  exact main aj ak
 exact km h bm aX bk ak
end steps
end Go.Ab
namespace Go.Ab
open Go
def inB (aY:List Nat):D→Prop
 | .ptr b _ _ _=>b∈aY
 | .own (some b) _ _=>b∈aY
 | .win b _ _ _=>b∈aY
 | .map b=>b∈aY
 |_=>True
def isNone:D→Prop
 | .own none _ _=>True
 | .v (.slice none 0 0)=>True
 |_=>False
def noSl:D→Prop
 | .ai _| .own _ _ _| .win _ _ _ _=>False
 |_=>True
def noPtr:D→Prop
 | .ptr _ _ _ _=>False
 |_=>True
def Fixed (lit aY:List Nat) (env:Env) (o:Oper):Prop:=
 match o.op with
 | .move _| .assign _| .pick _ _ _| .build _ _| .nilCheck _| .unOp _ _ _| .makeFunc _ _ _| .makeInterface _ _| .fieldAddr _ _ _| .field _ _ _| .indexAddr _ _ _| .index _ _ _| .typeAssert _ _ _ _| .extract _ _=>True
 | .binOp _ _ x y _=>noSl (ev env x)∧noSl (ev env y)
 | .slice _ x _ _ _=>noPtr (ev env x)
 | .buildSlice _ _ _=>litB lit o=true
 | .load _ x=>inB aY (ev env x)
 | .lookup _ m _ _=>inB aY (ev env m)
 | .convert _ _ x=>inB aY (ev env x)∧match ev env x with| .v (.string _)=>litB lit o=true|_=>True
 | .call c=>
  match c.callee with
  | .builtin .len=>match c.args.toList.map (ev env)with|[x]=>inB aY x|_=>False
  | .builtin .append=>litB lit o=true∧match c.args.toList.map (ev env)with|[s,x]=>isNone s∧inB aY x|_=>False
  |_=>False
 |_=>False
theorem M8 {α:Type} {f g:α→Operand} {env env':Env} (l:List (Nat×Operand)) (h:∀x∈l.map (·.2),ev env x=ev env' x):(l.map fun p=>(p.1,ev env p.2))=l.map fun p=>(p.1,ev env' p.2):=
 List.map_congr_left fun p aP=>by rw[h p.2 (List.mem_map_of_mem aP)]
theorem w4 {env env':Env} (l:List Operand) (h:∀x∈l,ev env x=ev env' x):l.map (ev env)=l.map (ev env'):=List.map_congr_left h
theorem GB (P:Program) {env env':Env} (σ:al) (op:Op) (h:∀x∈op.operands,ev env x=ev env' x):aop P env σ op=aop P env' σ op:=by
 cases op<;>simp only[Op.operands]at h<;>simp only[aop]
 case build T ps=>rw[M8 (f:=id) (g:=id) ps.toList (fun x an=>h x (by simpa using an))]
 case buildSlice T n ps=>rw[M8 (f:=id) (g:=id) ps.toList (fun x an=>h x (by simpa using an))]
 case makeFunc fn first captured=>
  rw[w4 first.toList fun x an=>h x (by simp at an⊢;exact .inl an),w4 captured.toList fun x an=>h x (by simp at an⊢;exact .inr an)]
 case call c=>
  cases ag:c.callee with
  |builtin b=>simp only[];rw[w4 c.args.toList fun x an=>h x (by simp[Call.operands]at an⊢;exact .inr an)]
  |value f=>
   simp only[];rw[w4 c.args.toList fun x an=>h x (by simp[Call.operands]at an⊢;exact .inr an),h f (by simp[Call.operands,ag])]
  |invoke r m=>rfl
 case makeMap T r=>cases r<;>rfl
 case slice T x lo hi mx=>cases lo<;>cases hi<;>cases mx<;>simp_all
 all_goals(first|rfl|(simp_all;done))
theorem BS (P:Program) (lit:List Nat) {env env':Env} (σ:al) (o:Oper) (h:∀x∈o.op.operands,ev env x=ev env' x):aopD P lit env σ o=aopD P lit env' σ o:=by
 unfold aopD aopL;rw[GB P σ o.op h];split
 ·split
  ·rfl
  rename_i cp;rw[GB P σ o.op h]
 rfl
theorem PB (lit aY:List Nat) {env env':Env} (o:Oper) (h:∀x∈o.op.operands,ev env x=ev env' x) (ax:Fixed lit aY env o):Fixed lit aY env' o:=by
 have bb:∀c:Call,o.op= .call c→c.args.toList.map (ev env)=c.args.toList.map (ev env'):=fun c ag=>w4 c.args.toList fun x an=>h x (by
  rw[ag];simp[Op.operands,Call.operands]at an⊢;exact .inr an)
 unfold Fixed at*;cases cp:o.op<;>rw[cp]at ax h<;>dsimp only at ax⊢<;>try trivial
 case load T x=>rw[←h x (by simp[Op.operands])];exact ax
 case slice T x lo hi mx=>rw[←h x (by simp[Op.operands])];exact ax
 case lookup T x y ok=>rw[←h x (by simp[Op.operands])];exact ax
 case binOp op T x y T2=>rw[←h x (by simp[Op.operands]),←h y (by simp[Op.operands])];exact ax
 case convert s d x=>rw[←h x (by simp[Op.operands])];exact ax
 case call c=>rw[←bb c cp];exact ax
def kP:ee→Prop
 | .val _ _| .bad=>True
 |_=>False
theorem yE (P:Program) (s:Sem Value):kP (dJ P s):=by
 unfold dJ;split<;>(try split)<;>trivial
theorem Cl (P:Program) (lit aY:List Nat) (env:Env) (σ σ':al) (o:Oper) (ax:Fixed lit aY env o) (eL:∀b∈aY,av b σ'=av b σ):kP (aopD P lit env σ o)∧aopD P lit env σ' o=aopD P lit env σ o:=by
 have qG:∀r,kP r→kP (o8 r):=fun r h=>by cases r<;>first|trivial|exact h.elim
 have JI:∀sz ob n,inB aY (.own ob sz n)→bL sz ob σ'=bL sz ob σ:=by
  intro sz ob n h;cases ob with
  |none=>rfl
  |some b=>simp only[bL];rw[eL b h]
 have Af:∀T x,inB aY x→kP (aLoad P σ T x)∧aLoad P σ' T x=aLoad P σ T x:=by
  intro T x an;unfold aLoad;cases ao:cY P T with
  |none=>exact⟨trivial,rfl⟩
  |some n=>
   cases aq:e6 P T with
   |none=>exact⟨trivial,rfl⟩
   |some g=>
    cases x with
    |ptr b sz i off=>
     simp only[];rw[eL b an];refine⟨?_,rfl⟩;split<;>trivial
    |c0 cs=>exact⟨trivial,rfl⟩
    |_=>exact⟨trivial,rfl⟩
 have acj:∀d z ok k es,kP (aFound d z ok k es):=fun _ _ _ _ _=>trivial;have RW:∀T m k ok,inB aY m→kP (aLookup P σ T m k ok)∧aLookup P σ' T m k ok=aLookup P σ T m k ok:=by
  intro T m k ok hm;unfold aLookup;split
  ·split
   ·rename_i b _
    rw[eL b hm];refine⟨?_,rfl⟩;split<;>trivial
   ·exact⟨trivial,rfl⟩
   exact⟨trivial,rfl⟩
  exact⟨trivial,rfl⟩
 have hlen:∀T x,inB aY x→kP (aLen P σ T x)∧aLen P σ' T x=aLen P σ T x:=by
  intro T x an;unfold aLen;split<;>try exact⟨trivial,rfl⟩
  rename_i b
  rw[eL b an];refine⟨?_,rfl⟩;split<;>trivial
 have jM:∀x,inB aY x→srcOf σ' x=srcOf σ x:=by
  intro x an;unfold srcOf;split<;>try rfl
  ·rename_i ob sz n
   rw[JI sz ob n an]
  rename_i b sz off n
  rw[JI sz (some b) n an]
 have oq:∀T T2 s x,isNone s→inB aY x→kP (o8 (aAppend P σ T T2 s x))∧aAppend P σ' T T2 s x=aAppend P σ T T2 s x:=by
  intro T T2 s x af an;have ah:(∃sz k,s= .own none sz k)∨s= .v (.slice none 0 0):=by
   unfold isNone at af;split at af
   ·exact .inl ⟨_,_,rfl⟩
   ·exact .inr rfl
   exact af.elim
  unfold aAppend;rw[jM x an];rcases ah with⟨sz,k,rfl⟩|rfl
  ·refine⟨?_,rfl⟩;split
   ·split<;>trivial
   trivial
  refine⟨?_,rfl⟩;split
  ·split<;>trivial
  trivial
 have Q5:∀s d x,inB aY x→((∀t,x≠ .v (.string t))→kP (lA P σ s d x))∧kP (o8 (lA P σ s d x))∧lA P σ' s d x=lA P σ s d x:=by
  intro s d x an;unfold lA;split
  ·exact⟨fun _=>trivial,trivial,rfl⟩
  ·rename_i ob sz n
   have aa:bL 1 ob σ'=bL 1 ob σ:=by
    cases ob with
    |none=>rfl
    |some b=>simp only[bL];rw[eL b an]
   rw[aa];refine⟨fun _=> ?_, ?_,rfl⟩
   ·split<;>trivial
   split<;>trivial
  ·rename_i b sz off n
   have aa:bL 1 (some b) σ'=bL 1 (some b) σ:=by simp only[bL];rw[eL b an]
   rw[aa];refine⟨fun _=> ?_, ?_,rfl⟩
   ·split<;>trivial
   split<;>trivial
  ·rename_i t
   refine⟨fun h=>absurd rfl (h t), ?_,rfl⟩;split
   ·trivial
   exact qG _ (yE ..)
  ·exact⟨fun _=>yE ..,qG _ (yE ..),rfl⟩
  exact⟨fun _=>trivial,trivial,rfl⟩
 have DN:∀op,o.op=op→(∀T n ps,op≠ .buildSlice T n ps)→(litB lit o=true→kP (o8 (aop P env σ op)))→(litB lit o=false→kP (aop P env σ op))→aop P env σ' op=aop P env σ op→kP (aopD P lit env σ o)∧aopD P lit env σ' o=aopD P lit env σ o:=by
  intro op cp aZ aa ah aJ;have e:∀s,aopD P lit env s o=if litB lit o=true then o8 (aop P env s op)else aop P env s op:=by
   intro s;unfold aopD aopL;rw[cp];split
   ·split
    ·exact absurd rfl (aZ _ _ _)
    rfl
   rfl
  rw[e,e,aJ];refine⟨?_,rfl⟩;split
  ·rename_i h;exact aa h
  rename_i h;exact ah (by simpa using h)
 have jv:∀op,o.op=op→(∀T n ps,op≠ .buildSlice T n ps)→kP (aop P env σ op)→aop P env σ' op=aop P env σ op→kP (aopD P lit env σ o)∧aopD P lit env σ' o=aopD P lit env σ o:=
  fun op cp aZ aa ah=>DN op cp aZ (fun _=>qG _ aa) (fun _=>aa) ah
 unfold Fixed at ax;cases cp:o.op<;>rw[cp]at ax<;>dsimp only at ax<;>try exact ax.elim
 case move x=>exact jv _ cp (by simp) trivial rfl
 case assign x=>exact jv _ cp (by simp) trivial rfl
 case pick c x y=>exact jv _ cp (by simp) (by simp only[aop,aPick];split<;>trivial) rfl
 case build T ps=>exact jv _ cp (by simp) (by simp only[aop,aBuild];repeat (first|trivial|split)) rfl
 case buildSlice T n ps=>
  have e:∀s,aopD P lit env s o=aopL P true env s o.op:=fun s=>by unfold aopD;rw[ax]
  rw[e,e,cp];have b_:∀s,aopL P true env s (.buildSlice T n ps)=if n=0 then(if ps.toList=[]then aBuild0 P T else .bad)else o8 (aop P env σ (.buildSlice T n ps)):=by
   intro s;unfold aopL;cases n with
   |zero=>rfl
   |succ n=>rfl
  rw[b_,b_];refine⟨?_,rfl⟩;split
  ·split
   ·unfold aBuild0;split<;>trivial
   trivial
  simp only[aop,aBuildSlice];repeat (first|trivial|split)
 case nilCheck x=>exact jv _ cp (by simp) (by simp only[aop,aNilCheck];split<;>trivial) rfl
 case binOp op T x y T2=>exact jv _ cp (by simp) (by
   simp only[aop,cF];split
   ·trivial
   ·trivial
   unfold fQ;split
   ·exact yE ..
   split
   ·trivial
   ·trivial
   have:aNil (P.underlying T) (ev env x) (ev env y)=none:=by
    unfold aNil;split
    ·rename_i an _;rw[an]at ax;exact ax.1.elim
    ·rename_i an _;rw[an]at ax;exact ax.1.elim
    rfl
   rw[this];split<;>first|trivial|(rename_i h;cases h)) rfl
 case unOp op T x=>exact jv _ cp (by simp) (by simp only[aop,sP];split;exact yE ..;trivial) rfl
 case makeInterface T x=>exact jv _ cp (by simp) trivial rfl
 case makeFunc fn f c=>exact jv _ cp (by simp) trivial rfl
 case slice T x lo hi mx=>
  have e:∀s,aop P env s (.slice T x lo hi mx)=aSlice P T (ev env x) (lo.map (ev env)) (hi.map (ev env)) (mx.map (ev env)):=by
   intro s;simp only[aop,qd];split
   ·rename_i an;rw[an]at ax;exact ax.elim
   rfl
  exact jv _ cp (by simp) (by rw[e];simp only[aSlice];repeat (first|trivial|split)) (by rw[e,e])
 case fieldAddr T x f=>exact jv _ cp (by simp) (by simp only[aop,aFieldAddr];repeat (first|trivial|split)) rfl
 case field T x f=>exact jv _ cp (by simp) (by simp only[aop,aField];repeat (first|trivial|split)) rfl
 case indexAddr T x y=>exact jv _ cp (by simp) (by simp only[aop,aIndexAddr];repeat (first|trivial|split)) rfl
 case index T x y=>exact jv _ cp (by simp) (by simp only[aop,aIndex];repeat (first|trivial|split)) rfl
 case typeAssert x T' T ok=>exact jv _ cp (by simp) (by simp only[aop,aTA];repeat (first|trivial|split)) rfl
 case extract x i=>exact jv _ cp (by simp) (by simp only[aop,aExtract];repeat (first|trivial|split)) rfl
 case load T x=>
  obtain⟨aa,ah⟩:=Af T _ ax;exact jv _ cp (by simp) aa ah
 case lookup T x y ok=>
  obtain⟨aa,ah⟩:=RW T _ (ev env y) ok ax;exact jv _ cp (by simp) aa ah
 case convert s d x=>
  obtain⟨aa,ah,aJ⟩:=Q5 s d _ ax.1;refine DN _ cp (by simp) (fun _=>ah) (fun aA=>aa fun t bc=> ?_) aJ;have:=ax.2;rw[bc]at this;simp only[]at this;rw[aA]at this;cases this
 case call c=>
  split at ax
  ·rename_i ag
   have e:∀s,aop P env s (.call c)=aBuiltin P s .len c.argTypes (c.args.toList.map (ev env)):=fun s=>by simp only[aop,ag]
   split at ax
   ·rename_i x an
    rw[an]at e;refine jv _ cp (by simp) ?_ ?_
    ·rw[e];simp only[aBuiltin];split
     ·exact(hlen _ x ax).1
     trivial
    rw[e,e];simp only[aBuiltin];split
    ·exact(hlen _ x ax).2
    rfl
   exact ax.elim
  ·rename_i ag
   have e:∀s,aop P env s (.call c)=aBuiltin P s .append c.argTypes (c.args.toList.map (ev env)):=fun s=>by simp only[aop,ag]
   obtain⟨aA,ax⟩:=ax;split at ax
   ·rename_i x y an
    rw[an]at e;refine DN _ cp (by simp) (fun _=> ?_) (fun h=>by rw[aA]at h;cases h) ?_
    ·rw[e];simp only[aBuiltin];split
     ·exact(oq _ _ x y ax.1 ax.2).1
     trivial
    rw[e,e];simp only[aBuiltin];split
    ·exact(oq _ _ x y ax.1 ax.2).2
    rfl
   exact ax.elim
  exact ax.elim
section draw
variable {P : Program} {N : cP} {C : Ctx P N} {K : Env → al → Prop} {Qp : D → al → Prop}
def jZ (e cV:Env):Prop:=∀k,eget k e=eget k cV
theorem jZ.refl (e:Env):jZ e e:=fun _=>rfl
theorem jZ.put {e cV:Env} (h:jZ e cV) (dst:Option Nat) (d:D):jZ (eputo dst d e) (eputo dst d cV):=by
 cases dst with
 |none=>exact h
 |some k=>intro U;simp only[eputo,j6,h U]
theorem jZ.ev {e cV:Env} (h:jZ e cV) (x:Operand):ev e x=ev cV x:=by cases x<;>first|rfl|exact h _
theorem jZ.comm {x y:Option Nat} (e:Env) (d qf:D) (h:∀k,x=some k→y≠some k):jZ (eputo x d (eputo y qf e)) (eputo y qf (eputo x d e)):=by
 cases x with
 |none=>exact .refl _
 |some k=>
  cases y with
  |none=>exact .refl _
  |some l=>
   have eO:l≠k:=fun he=>h k rfl (by rw[he]);intro U;simp only[eputo,j6];by_cases aa:U=k
   ·subst aa;simp[Ne.symm eO]
   simp[aa]
theorem jZ.gd {e cV:Env} (h:jZ e cV) (ds:List (Option Nat)) (U:Nat):gd e ds U=gd cV ds U:=by
 unfold Ab.gd;split
 ·exact h _
 rfl
theorem M' {kO ey:Env→al→Prop} {dst:Option Nat} {e cV:Env} {σ:al} {r:ee} (h:cQ P Qp kO dst e σ r) (au:∀d s,kO (eputo dst d e) s→ey (eputo dst d cV) s):cQ P Qp ey dst cV σ r:=by
 cases r with
 |val p d=>exact⟨h.1,au _ _ h.2⟩
 |eP ok f=>exact fun t bc=>au _ _ (h t bc)
 |upd p d s=>exact⟨h.1,au _ _ h.2⟩
 |new p o mk=>exact⟨h.1,fun b ae=>au _ _ (h.2 b ae)⟩
 |app p b sz xs=>exact⟨h.1,fun ob aa ah=>au _ _ (h.2 ob aa ah)⟩
 |enter f jd=>
  obtain⟨g,aq,ag⟩:=h;refine⟨g,aq,ag.mono fun cX s af=> ?_⟩;cases cX with
  |ret d=>exact au _ _ af
  |panic d=>exact af
 |panic d=>exact h
 |bad=>exact h
def h3 (P:Program) (N:cP) (lit:List Nat) (ds:List (Option Nat)) (Qp:D→al→Prop) (next:Env→al→Prop) (o:Oper) (env:Env) (σ:al):Prop:=
 dstB N o.dst∧
 match o.guard with
 |none=>cQ P Qp next o.dst env σ (aopD P lit env σ o)
 |some (U,want)=>
  match gd env ds U with
  | .v (.bool t)=>(t=want→cQ P Qp next o.dst env σ (aopD P lit env σ o))∧(t= !want→next (eputo o.dst (.bd []) env) σ)
  | .bd []=>next (eputo o.dst (.bd []) env) σ
  |_=>False
theorem wv {lit:List Nat} {ds:List (Option Nat)} {kO ey:Env→al→Prop} {o:Oper} {e cV:Env} {σ:al} (h:h3 P N lit ds Qp kO o e σ) (bb:aopD P lit cV σ o=aopD P lit e σ o) (aq:∀U w,o.guard=some (U,w)→gd cV ds U=gd e ds U)
  (au:∀d s,kO (eputo o.dst d e) s→ey (eputo o.dst d cV) s):h3 P N lit ds Qp ey o cV σ:=by
 obtain⟨bj,h⟩:=h;refine⟨bj, ?_⟩;cases eK:o.guard with
 |none=>rw[eK]at h;dsimp only at h⊢;rw[bb];exact M' h au
 |some p=>
  obtain⟨U,want⟩:=p;rw[eK]at h;dsimp only at h⊢;rw[aq U want eK,bb];split at h
  ·exact⟨fun bc=>M' (h.1 bc) au,fun bc=>au _ _ (h.2 bc)⟩
  ·exact au _ _ h
  exact h
def rj (P:Program) (N:cP) (lit:List Nat) (ops:Array Oper) (Qp:D→al→Prop) (i:Nat) (next:Env→al→Prop) (env:Env) (σ:al):Prop:=
 match ops[i]? with
 |none=>next env σ
 |some o=>h3 P N lit (dsts ops) Qp next o env σ
def Keep (aY cD:List Nat) (i:Nat) (σ σ':al):Prop:=cD.contains i=true∨∀b∈aY,av b σ'=av b σ
def ri (P:Program) (N:cP) (lit aY cD:List Nat) (ops:Array Oper) (K:Env→al→Prop) (Qp:D→al→Prop):Nat→Array Bool→Env→al→Prop
 |0,listed,env,σ=>Region.ready .any ops listed=[]∧K env σ
 |fuel+1,listed,env,σ=>(Region.ready .any ops listed=[]→K env σ)∧
  ∀i∈Region.ready .any ops listed,rj P N lit ops Qp i (fun env' σ'=>Keep aY cD i σ σ'∧ri P N lit aY cD ops K Qp fuel (listed.setIfInBounds i true) env' σ') env σ
theorem Na {lit:List Nat} {ops:Array Oper} {o:Oper} {next:Env→al→Prop} {env:Env} {σ:al} {a:Act} {w:World} {S:Nat→Prop} {bN:Act→World→Prop} (h:h3 P N lit (dsts ops) Qp next o env σ) (aw:a.defers=C.ds) (af:ck C env σ w S a.tmps)
  (bk:∀a w,dR C next a w→bN a w):if Region.wanted o (yielded ops a.tmps)then o.wp P a w bN (jb C K Qp)∨(o.asks P a w∧LetsOut (jb C K Qp))else bN (a.put o.dst undef) w:=by
 obtain⟨aX,h⟩:=h;have qk:=kZ aX;cases aq:o.guard with
 |none=>
  rw[aq]at h;have hw:Region.wanted o (yielded ops a.tmps)=true:=by simp[Region.wanted,aq]
  rw[if_pos hw];exact .inl (Li af aw qk bk h)
 |some p=>
  obtain⟨U,want⟩:=p;rw[aq]at h;dsimp only at h;split at h
  ·rename_i t bc
   obtain⟨aa,ah⟩:=h;have aF:=No af.env bc;have hw:Region.wanted o (yielded ops a.tmps)=(t==want):=by simp[Region.wanted,aq,aF]
   by_cases kJ:t=want
   ·rw[if_pos (by rw[hw,kJ];simp)];exact .inl (Li af aw qk bk (aa kJ))
   have se:t= !want:=by cases t<;>cases want<;>simp_all
   rw[if_neg (by rw[hw];simpa using kJ)]
   exact bk _ _ ⟨by rw[put_defers];exact aw,_,_,_,ah se,l_ af qk (.bd .nil) af.store (Fr.refl σ af.fr.lt)⟩
  ·rename_i bc
   have aF:=Np af.env bc;have hw:Region.wanted o (yielded ops a.tmps)=false:=by simp[Region.wanted,aq,aF]
   rw[if_neg (by rw[hw];simp)];exact bk _ _ ⟨by rw[put_defers];exact aw,_,_,_,h,l_ af qk (.bd .nil) af.store (Fr.refl σ af.fr.lt)⟩
  exact h.elim
theorem Bv {lit aY cD:List Nat} {ops:Array Oper}:∀(fuel:Nat) (listed:Array Bool) (env:Env) (σ:al) (a:Act) (w:World) (S:Nat→Prop),ri P N lit aY cD ops K Qp fuel listed env σ→a.defers=C.ds→ck C env σ w S a.tmps→
  wpAny P .any ops (jb C K Qp) fuel listed a w
 |0,listed,env,σ,a,w,S,h,aw,af=>⟨h.1,aw,env,σ,S,h.2,af⟩
 |fuel+1,listed,env,σ,a,w,S,h,aw,af=>by
  refine⟨fun ao=>⟨aw,env,σ,S,h.1 ao,af⟩,fun i hi=> ?_⟩;have aa:=h.2 i hi;unfold rj at aa;unfold wpOp;have bk:∀a w,dR C (fun env' σ'=>Keep aY cD i σ σ'∧ri P N lit aY cD ops K Qp fuel (listed.setIfInBounds i true) env' σ') a w→wpAny P .any ops (jb C K Qp) fuel (listed.setIfInBounds i true) a w:=
   fun a w ⟨aw,env',σ',S',au,eo⟩=>Bv fuel _ env' σ' a w S' au.2 aw eo
  cases aH:ops[i]? with
  |none=>rw[aH]at aa;exact Bv fuel _ env σ a w S aa.2 aw af
  |some o=>rw[aH]at aa;exact Na aa aw af bk
theorem F8 {lit aY cD:List Nat} {ops:Array Oper} (I:∀e cV σ,jZ e cV→K e σ→K cV σ):∀(fuel:Nat) (listed:Array Bool) (e cV:Env) (σ:al),jZ e cV→ri P N lit aY cD ops K Qp fuel listed e σ→ri P N lit aY cD ops K Qp fuel listed cV σ
 |0,listed,e,cV,σ,he,h=>⟨h.1,I _ _ _ he h.2⟩
 |fuel+1,listed,e,cV,σ,he,h=>by
  refine⟨fun ao=>I _ _ _ he (h.1 ao),fun i hi=> ?_⟩;have aa:=h.2 i hi;unfold rj at aa⊢;split at aa
  ·exact⟨aa.1,F8 I fuel _ _ _ _ he aa.2⟩
  exact wv aa (BS P lit σ _ fun x _=>(he.ev x).symm) (fun U w _=>(he.gd _ U).symm) fun d s af=>⟨af.1,F8 I fuel _ _ _ _ (he.put _ d) af.2⟩
def qa (P:Program) (lit:List Nat) (ds:List (Option Nat)) (env:Env) (σ:al) (o:Oper) (d:D):Prop:=
 match o.guard with
 |none=>∃p,aopD P lit env σ o= .val p d∧p
 |some (U,want)=>(∃t,gd env ds U= .v (.bool t)∧(t=want→∃p,aopD P lit env σ o= .val p d∧p)∧(t= !want→d= .bd []))∨(gd env ds U= .bd []∧d= .bd [])
theorem qa.step {lit:List Nat} {ds:List (Option Nat)} {env:Env} {σ:al} {o:Oper} {d:D} {next:Env→al→Prop} (h:qa P lit ds env σ o d) (aX:dstB N o.dst) (au:next (eputo o.dst d env) σ):h3 P N lit ds Qp next o env σ:=by
 refine⟨aX, ?_⟩;unfold qa at h;cases aq:o.guard with
 |none=>rw[aq]at h;obtain⟨p,aa,ah⟩:=h;dsimp only;rw[aa];exact⟨ah,au⟩
 |some q=>
  obtain⟨U,want⟩:=q;rw[aq]at h;dsimp only;rcases h with⟨t,aa,ah,aJ⟩|⟨aa,rfl⟩
  ·rw[aa];exact⟨fun bc=>by obtain⟨p,bg,cu⟩:=ah bc;rw[bg];exact⟨cu,au⟩,fun bc=>by rw[←aJ bc];exact au⟩
  rw[aa];exact au
theorem Hx {dst:Option Nat} {d:D} {env:Env} {x:Operand} (h:∀k,dst=some k→x≠ .tmp k):ev (eputo dst d env) x=ev env x:=by
 cases dst with
 |none=>rfl
 |some k=>
  cases x with
  |tmp t=>
   have:t≠k:=fun e=>h k rfl (by rw[e]);simp only[ev,eputo,j6,if_neg this]
  |_=>rfl
theorem EP {ops:Array Oper} {o:Oper} {dst:Option Nat} {d:D} {env:Env} (h:∀k,dst=some k→k∉o.looksAt ops):∀x∈o.op.operands,ev (eputo dst d env) x=ev env x:=fun x an=>Hx fun k aj Th=>h k aj (by
 subst Th;exact List.mem_append_left _ (List.mem_filterMap.2 ⟨.tmp k,by simpa using an,rfl⟩))
theorem KN {ops:Array Oper} {o:Oper} {dst:Option Nat} {d:D} {env:Env} (h:∀k,dst=some k→k∉o.looksAt ops) (U:Nat) (w:Bool) (aq:o.guard=some (U,w)):gd (eputo dst d env) (dsts ops) U=gd env (dsts ops) U:=by
 unfold gd;split
 ·rename_i t bc
  refine Hx (x:= .tmp t) fun k aj he=>h k aj ?_;cases he
  refine List.mem_append_right _ ?_;unfold dsts at bc;simp only[List.getElem?_map,Array.getElem?_toList,Option.map_eq_some_iff]at bc;obtain⟨pV,DV,mD⟩:=bc;simp[aq,DV,mD]
 rfl
def wo (o:Oper):Bool:=match o.op with
 | .move _| .assign _| .nilCheck _| .fieldAddr _ _ _| .indexAddr _ _ _| .extract _ _=>true
 |_=>false
theorem X1 {lit:List Nat} {env:Env} {o:Oper} (h:wo o=true) (σ σ':al):aopD P lit env σ o=aopD P lit env σ' o:=by
 unfold wo at h;split at h
 all_goals first
  |(rename_i aH;unfold aopD;rw[aH];rfl)
  |(rename_i aH;simp only[aopD,aH,aop];done)
  |exact absurd h (by simp)
theorem M9 {lit aY cD:List Nat} {ops:Array Oper} (I:∀e cV σ,jZ e cV→K e σ→K cV σ) {i:Nat} {iq:Oper} {d:D} (hi:ops[i]?=some iq) (aX:dstB N iq.dst):∀(fuel:Nat) (listed:Array Bool) (env:Env) (σ:al),
  (∀U lj,ops[U]?=some lj→U≠i→listed.getD U true=false→(∀e∈lj.after,Region.binds .any e=true→e.on≠i)→iq.apart ops lj=true∧(wo iq=true∨cD.contains U=false))→
  i∈Region.ready .any ops listed→Fixed lit aY env iq→qa P lit (dsts ops) env σ iq d→
  ri P N lit aY cD ops K Qp fuel (listed.setIfInBounds i true) (eputo iq.dst d env) σ→ri P N lit aY cD ops K Qp (fuel+1) listed env σ:=by
 intro fuel;induction fuel with
 |zero=>
  intro listed env σ _ ao c7 jG H;refine⟨fun h=>(by rw[h]at ao;cases ao),fun U aR=> ?_⟩
  by_cases iG:U=i
  ·subst iG;unfold rj;rw[hi];exact jG.step aX ⟨.inr fun _ _=>rfl,H⟩
  have:=ready_mono aR iG;rw[H.1]at this;cases this
 |succ fuel aB=>
  intro listed env σ Je ao c7 jG H;refine⟨fun h=>(by rw[h]at ao;cases ao),fun U aR=> ?_⟩
  by_cases iG:U=i
  ·subst iG;unfold rj;rw[hi];exact jG.step aX ⟨.inr fun _ _=>rfl,H⟩
  have aa:=H.2 U (ready_mono aR iG);obtain⟨Ju,lj,JJ,b0⟩:=mem_ready.1 aR;have DT:∀e∈lj.after,Region.binds .any e=true→e.on≠i:=fun e he ae heq=>by
   have aa:=b0 e he ae;have bj:=(mem_ready.1 ao).1;rw[heq]at aa;rcases Nat.lt_or_ge i listed.size with jh|jh
   ·simp[jh]at bj aa;rw[bj]at aa;cases aa
   simp[Array.getElem?_eq_none jh]at aa
  obtain⟨hA,r1⟩:=Je U lj JJ iG Ju DT;obtain⟨hP,a2,a3⟩:=Oper.apart_spec hA;have Ro:∀k ok,ops[k]?=some ok→k≠i→(listed.setIfInBounds U true).getD k true=false→(∀e∈ok.after,Region.binds .any e=true→e.on≠i)→iq.apart ops ok=true∧(wo iq=true∨cD.contains k=false):=fun k ok aj tF As dr=>by
   refine Je k ok aj tF ?_ dr;by_cases iH:U=k
   ·subst iH;exact Ju
   rw[getD_set_ne true iH]at As;exact As
  unfold rj at aa⊢;rw[JJ]at aa⊢;dsimp only at aa⊢;refine wv aa ((BS P lit σ lj (EP hP)).symm) (fun k w aq=>(KN hP k w aq).symm) fun x s af=> ?_;obtain⟨Jx,af⟩:=af;refine⟨Jx,aB _ _ _ Ro (ready_mono ao (Ne.symm iG)) (PB lit aY iq (fun y aF=>(EP a3 y aF).symm) c7) ?_ ?_⟩
  ·have bt:aopD P lit (eputo lj.dst x env) s iq=aopD P lit env σ iq:=by
    rw[BS P lit s iq (EP a3)];rcases r1 with r1|r1
    ·exact X1 r1 s σ
    have aj:∀b∈aY,av b s=av b σ:=Jx.resolve_left (by rw[r1];simp);exact(Cl P lit aY env σ s iq c7 aj).2
   unfold qa at jG⊢;split
   ·rename_i aq;rw[aq]at jG;rw[bt];exact jG
   rename_i k w aq;rw[aq]at jG;rw[bt,KN a3 k w aq];exact jG
  rw[Array.setIfInBounds_comm _ _ iG];exact F8 I fuel _ _ _ _ (jZ.comm env x d fun k aj he=>a2 k he aj) af
def mZ (P:Program) (N:cP) (lit aY cD:List Nat) (ops:Array Oper) (K:Env→al→Prop) (Qp:D→al→Prop):List (Nat×Bool)→Env→al→Prop
 |[],env,σ=>K env σ
 |(i,early)::rest,env,σ=>
  match ops[i]? with
  |none=>False
  |some o=>
   if early=true then Fixed lit aY env o∧h3 P N lit (dsts ops) Qp (mZ P N lit aY cD ops K Qp rest) o env σ
   else h3 P N lit (dsts ops) Qp (fun env' σ'=>Keep aY cD i σ σ'∧mZ P N lit aY cD ops K Qp rest env' σ') o env σ
def zj (cD:List Nat) (ops:Array Oper) (listed:Array Bool) (i:Nat):Bool:=
 match ops[i]? with
 |none=>false
 |some iq=>(List.range ops.size).all fun U=>U==i||listed.getD U true||match ops[U]? with
   |some lj=>lj.after.any (fun e=>Region.binds .any e&&e.on==i)||(iq.apart ops lj&&(wo iq|| !cD.contains U))
   |none=>true
theorem HX {cD:List Nat} {ops:Array Oper} {i:Nat} {iq:Oper} {listed:Array Bool} (hi:ops[i]?=some iq) (h:zj cD ops listed i=true) (U:Nat) (lj:Oper)
  (aR:ops[U]?=some lj) (aZ:U≠i) (As:listed.getD U true=false) (dr:∀e∈lj.after,Region.binds .any e=true→e.on≠i):iq.apart ops lj=true∧(wo iq=true∨cD.contains U=false):=by
 simp only[zj,hi,List.all_eq_true,List.mem_range]at h;have aa:=h U (Array.getElem?_eq_some_iff.1 aR).1;simp only[aR,Bool.or_eq_true,beq_iff_eq,aZ,false_or,As,Bool.false_eq_true]at aa;rcases aa with aa|aa
 ·obtain⟨e,he,ae⟩:=Array.any_eq_true'.1 aa;simp only[Bool.and_eq_true,beq_iff_eq]at ae;exact absurd ae.2 (dr e he ae.1)
 simpa using aa
def yk (cD:List Nat) (ops:Array Oper):List (Nat×Bool)→Array Bool→Bool
 |[],listed=>Region.ready .any ops listed==[]
 |(i,early)::rest,listed=>
  (if early=true then(Region.ready .any ops listed).contains i&&zj cD ops listed i else Region.ready .any ops listed==[i])&&yk cD ops rest (listed.setIfInBounds i true)
theorem F9 {lit aY cD:List Nat} {ops:Array Oper} (I:∀e cV σ,jZ e cV→K e σ→K cV σ):∀(sched:List (Nat×Bool)) (fuel:Nat) (listed:Array Bool) (env:Env) (σ:al),yk cD ops sched listed=true→sched.length≤fuel→
  mZ P N lit aY cD ops K Qp sched env σ→ri P N lit aY cD ops K Qp fuel listed env σ
 |[],fuel,listed,env,σ,cc,_,h=>by
  have ao:Region.ready .any ops listed=[]:=by simpa [yk]using cc
  cases fuel with
  |zero=>exact⟨ao,h⟩
  |succ n=>exact⟨fun _=>h,by rw[ao];simp⟩
 |(i,early)::rest,0,listed,env,σ,_,aA,_=>by simp at aA
 |(i,early)::rest,fuel+1,listed,env,σ,cc,aA,h=>by
  simp only[yk,Bool.and_eq_true]at cc;obtain⟨aa,ah⟩:=cc;have oF:rest.length≤fuel:=by simp at aA;omega
  simp only[mZ]at h;split at h
  ·exact h.elim
  rename_i o aH
  cases early with
  |true=>
   simp only[if_true,Bool.and_eq_true]at aa h;obtain⟨c7,aX,af⟩:=h;have lV:=Cl P lit aY env σ σ o c7 fun _ _=>rfl;have tW:∀{n:Env→al→Prop},cQ P Qp n o.dst env σ (aopD P lit env σ o)→∃p d,aopD P lit env σ o= .val p d∧p∧n (eputo o.dst d env) σ:=by
    intro n ak;have gm:=lV.1;cases ao:aopD P lit env σ o<;>rw[ao]at ak gm<;>try exact gm.elim
    ·exact⟨_,_,rfl,ak.1,ak.2⟩
    exact ak.elim
   have key:∃d,qa P lit (dsts ops) env σ o d∧mZ P N lit aY cD ops K Qp rest (eputo o.dst d env) σ:=by
    unfold qa;cases aq:o.guard with
    |none=>
     rw[aq]at af;obtain⟨p,d,bt,b_,er⟩:=tW af;exact⟨d,⟨p,bt,b_⟩,er⟩
    |some q=>
     obtain⟨U,want⟩:=q;rw[aq]at af;dsimp only at af⊢;split at af
     ·rename_i t bc
      by_cases kJ:t=want
      ·obtain⟨p,d,bt,b_,er⟩:=tW (af.1 kJ);exact⟨d, .inl ⟨t,bc,fun _=>⟨p,bt,b_⟩,fun h=>by subst kJ;cases t<;>cases h⟩,er⟩
      have se:t= !want:=by cases t<;>cases want<;>simp_all
      exact⟨_, .inl ⟨t,bc,fun h=>absurd h kJ,fun _=>rfl⟩,af.2 se⟩
     ·rename_i bc;exact⟨_, .inr ⟨bc,rfl⟩,af⟩
     exact af.elim
   obtain⟨d,jG,au⟩:=key;exact M9 I aH aX fuel listed env σ (HX aH aa.2) (by simpa using aa.1) c7 jG (F9 I rest fuel _ _ _ ah oF au)
  |false=>
   simp only[Bool.false_eq_true,if_false,beq_iff_eq]at aa h;refine⟨fun ao=>(by rw[aa]at ao;cases ao),fun U aR=> ?_⟩
   rw[aa]at aR;simp only[List.mem_singleton]at aR;subst aR;unfold rj;rw[aH];exact wv h rfl (fun _ _ _=>rfl) fun d s af=>⟨af.1,F9 I rest fuel _ _ _ ah oF af.2⟩
theorem Wp {w w':World} {S:Nat→Prop} (a8:w'.heap=w.heap):eI w S w' S:=⟨fun _ h=>h,fun _ _=>by rw[a8],by unfold Shape;intro b c e fr h;exact⟨c,fr,by rw[a8];exact h,rfl⟩⟩
theorem ck.draw {env:Env} {σ:al} {w:World} {S:Nat→Prop} {tmps:Array Value} (h:ck C env σ w S tmps) (n:Nat):ck C env σ {w with drawn:=n} S tmps:=by
 have bx:eI w S {w with drawn:=n} S:=Wp rfl;refine⟨fun k=>(h.env k).ev bx,fun b o ae=> ?_,⟨h.fr.os,h.fr.tape,h.fr.output,h.fr.size,h.fr.shape,h.fr.block,h.fr.mono,h.fr.new,h.fr.fh,h.fr.lt⟩,h.size⟩;obtain⟨aa,ah⟩:=h.store b o ae;exact⟨aa,ah.ev bx rfl⟩
theorem j.draw {id:Nat} {ops:Array Oper} {k:List Item} {env:Env} {σ:al} (keep lit aY cD:List Nat) (sched:List (Nat×Bool)) (hm:P.follows .mixedOrders=true) (aA:sched.length≤ops.size) (cc:yk cD ops sched (Array.replicate ops.size false)=true)
  (h:∀K:Env→al→Prop,(∀env σ,j C k env σ→K env σ)→mZ P N lit aY cD ops K (cK C) sched (Ab.rebase keep env) σ) (cM:vN ops=true:=by kernel_rfl):j C (.code (.region id ops true)::k) env σ:=by
 intro a w S aw af;have ak:=F9 (Qp:=cK C) (K:=j C k) (fun e cV s he aq=>j.le (fun k=> .inr (he k)) (aQ.refl s) aq) sched ops.size (Array.replicate ops.size false) _ _ cc aA (h (j C k) (fun _ _ h=>h));have eo:ck C (Ab.rebase keep env) σ w S a.tmps:=⟨af.env.le (w3 keep env),af.store,af.fr,af.size⟩;have aA:=Bv ops.size _ _ σ a _ S ak aw (eo.draw (w.drawn+1));refine C.e5 _ _ (.one stepR_region_draw) (uk cM _ a _ ?_);simp only[Region.schedule,hm,Bool.true_or,if_true];exact wpAny_sound ops.size _ _ a _ aA
end draw
end Go.Ab
namespace Go.Ab
open Go
def ca (d qf:D):Prop:=∀(w:World) (S:Nat→Prop) (v:Value),bw w S d v→bw w S qf v
theorem ca.refl (d:D):ca d d:=fun _ _ _ h=>h
theorem ca.any (d:D):ca d .any:=fun _ _ _ _=> .any
theorem ca.mU (sz:Nat):ca (.v (.slice none 0 0)) (.own none sz 0):=fun _ _ v h=>by rw[h.eh];exact .hV
theorem ca.pU:ca (.v (.slice none 0 0)) (.ai []):=fun _ _ v h=>by rw[h.eh];exact .iX
theorem ca.l5 (sz n:Nat):ca (.own none sz n) (.ai []):=fun _ _ v h=>by
 obtain⟨ad,rfl,_⟩:=q2 h;exact .iX
section
variable {P : Program} {N : cP} {C : Ctx P N} {todo : List Item} {env env' : Env} {σ σ' : al}
theorem j.pk (h:j C todo env' σ) (he:∀k,ca (eget k env) (eget k env')):j C todo env σ:=
 fun a w S aw af=>h a w S aw ⟨fun k=>he k _ _ _ (af.env k),af.store,af.fr,af.size⟩
theorem j.bZ {k:List Item} {c:Operand} {x y:Code} (ag:rv env c= .v (.bool true)) (h:j C (.code x::k) env σ):j C (.code (.cond c x y)::k) env σ:=j.cond ag (fun _=>h) (fun h=>nomatch h)
theorem j.bJ {k:List Item} {c:Operand} {x y:Code} (ag:rv env c= .v (.bool false)) (h:j C (.code y::k) env σ):j C (.code (.cond c x y)::k) env σ:=j.cond ag (fun h=>nomatch h) (fun _=>h)
theorem AC.l7 {f:FuncId} {args:List D} {R R':cf→al→Prop} (h:AC P f args σ R) (ao:∀e σ',R e σ'→R' e σ'∨∃d qf,e= .ret d∧ca d qf∧R' (.ret qf) σ'):AC P f args σ R':=by
 intro w S vs bh aL ak;refine(h w S vs bh aL ak).mono ?_;rintro e w' ⟨cX,σ',S',bR,c1,c6,bl⟩;rcases ao cX σ' bR with k9|⟨d,qf,rfl,aw,k9⟩
 ·exact⟨cX,σ',S',k9,c1,c6,bl⟩
 refine⟨_,σ',S',k9, ?_,c6,bl⟩;cases e with
 |returned v=>exact aw _ _ _ c1
 |panicked chain=>exact c1.elim
 |outgrown=>exact c1.elim
theorem AC.uL {f:FuncId} {args ky:List D} {R:cf→al→Prop} (h:AC P f ky σ R) (bb:∀w S vs,bq w S args vs→bq w S ky vs):AC P f args σ R:=
 fun w S vs bh aL ak=>h w S vs bh aL (bb _ _ _ ak)
theorem uz {b:Nat} (h:av b σ=none):cB b σ=σ:=by
 induction σ with
 |nil=>rfl
 |cons p r aB=>
  obtain⟨c,o⟩:=p;rw[aW]at h;split at h
  ·cases h
  rename_i fB
  rw[cB,if_neg fB,aB h]
@[simp] theorem Mw (b:Nat) (o:aE):cB b ((b,o)::σ)=cB b σ:=by rw[cB,if_pos rfl]
theorem HY {b:Nat}:nX (some b) σ↔av b σ=none:=⟨fun h=>h b rfl,fun h c ag=>by cases ag;exact h⟩
theorem Cr:nX none σ:=fun c ag=>by cases ag
theorem fO {b:Nat} {o:aE} (h:aQ σ σ') (au:av b σ=none):aQ σ ((b,o)::σ'):=fun c x ag=>by
 rw[aW];split
 ·rename_i fk;subst fk;rw[au]at ag;cases ag
 exact h c x ag
theorem XF {b:Nat} {o:aE} (h:aQ σ σ'):aQ ((b,o)::σ) ((b,o)::σ'):=fun c x ag=>by
 rw[aW]at ag⊢;split at ag
 ·rename_i fk;rw[if_pos fk];exact ag
 rename_i fk;rw[if_neg fk];exact h c x ag
theorem aQ.trans {aS:al} (h:aQ σ σ') (jh:aQ σ' aS):aQ σ aS:=fun b o ae=>jh b o (h b o ae)
theorem MG {ob:Option Nat} {sz:Nat} {xs:List D} (h:nX ob σ):aQ σ (cellsOf ob sz xs++σ):=by
 cases ob with
 |none=>exact aQ.refl σ
 |some b=>exact fO (aQ.refl σ) (h b rfl)
theorem yg {b:Nat} (h:aQ σ σ') (ae:av b σ'=none):av b σ=none:=by
 cases af:av b σ with
 |none=>rfl
 |some o=>rw[h b o af]at ae;cases ae
theorem rb {ob:Option Nat} {sz:Nat} {xs:List D} (h:nX ob σ):h0 ob (cellsOf ob sz xs++σ)=σ:=by
 cases ob with
 |none=>rfl
 |some b=>show cB b ((b,_)::σ)=σ;rw[Mw,uz (h b rfl)]
end
section region
variable {P : Program} {N : cP} {C : Ctx P N} {K : Env → al → Prop} {Qp : D → al → Prop}
def wu (P:Program) (N:cP) (lit:List Nat) (ds:List (Option Nat)) (K:Env→al→Prop) (Qp:D→al→Prop):List Oper→Env→al→Prop
 |[],env,σ=>K env σ
 |o::rest,env,σ=>h3 P N lit ds Qp (wu P N lit ds K Qp rest) o env σ
theorem M_ {lit:List Nat} {ops:Array Oper}:∀(l:List Oper) (env:Env) (σ:al) (a:Act) (w:World) (S:Nat→Prop),wu P N lit (dsts ops) K Qp l env σ→a.defers=C.ds→ck C env σ w S a.tmps→wpList P ops (jb C K Qp) l a w
 |[],env,σ,a,w,S,h,aw,af=>⟨aw,env,σ,S,h,af⟩
 |o::rest,env,σ,a,w,S,h,aw,af=>by
  simp only[wpList];exact Na h aw af fun a w ⟨aw,env',σ',S',au,eo⟩=>M_ rest env' σ' a w S' au aw eo
theorem j.fw {id:Nat} {ops:Array Oper} {k:List Item} {env:Env} {σ:al} (keep lit:List Nat)
  (h:∀K:Env→al→Prop,(∀env σ,j C k env σ→K env σ)→wu P N lit (dsts ops) K (cK C) ops.toList (Ab.rebase keep env) σ) (cM:vN ops=true:=by kernel_rfl):j C (.code (.region id ops false)::k) env σ:=by
 intro a w S aw af;have ak:=h (j C k) (fun _ _ h=>h);have eo:ck C (Ab.rebase keep env) σ w S a.tmps:=⟨af.env.le (w3 keep env),af.store,af.fr,af.size⟩;have aA:=M_ ops.toList _ σ a w S ak aw eo;have heq:=wpOps_eq_wpList (P:=P) (ops:=ops) (Q:=jb C (j C k) (cK C)) ops.toList 0 (fun U=>by simp);have:wpOps P ops (jb C (j C k) (cK C)) (List.range ops.size) a w:=by
  rw[List.range_eq_range',show ops.size=ops.toList.length by simp,heq];exact aA
 exact C.e5 _ _ (.one stepR_region) (uk cM _ a w this)
end region
end Go.Ab
