/- A part of a proof about the given program: the abstract machine, what functions compute, laid in few texts. -/
import Derived.WalkKit
import Derived.Calls
import Derived.Tactics
import Derived.AtR
import Derived.Laws.IdiomCopy
import Derived.Laws.IdiomStrings
import Derived.Laws.MakeOwn
import Derived.Laws.RangeAny
set_option linter.unusedSimpArgs false
set_option linter.unusedVariables false
set_option linter.constructorNameAsVariable false
namespace Go.Ab
open Go
inductive D:Type where
 |any
 |v (x:Value)
 |ptr (b sz i o:Nat)
 |c0 (cs:List D)
 |ai (xs:List D)
 |own (b:Option Nat) (sz n:Nat)
 |win (b sz off n:Nat)
 |agg (cs:List D)
 |bd (xs:List D)
 |map (b:Nat)
 |bX (fn:Fn) (first cg:List D)
 |dX (t:TypeId) (x:D)
 deriving Inhabited
def D.cells:D→List D
 | .agg cs=>cs
 |x=>[x]
def flat (xs:List D):List D:=xs.flatMap D.cells
@[simp] theorem PD:flat []=[]:=rfl
@[simp] theorem n_ (x:D) (xs:List D):flat (x::xs)=x.cells++flat xs:=rfl
@[simp] theorem uX (xs ys:List D):flat (xs++ys)=flat xs++flat ys:=by simp[flat]
def p9 (w:World) (b off:Nat) (vals:List Value):Prop:=∀k x,vals[k]?=some x→w.cell? ⟨b,off+k,none⟩=some x
mutual
inductive bw (w:World) (S:Nat→Prop):D→Value→Prop
 |any {x:Value}:bw w S .any x
 |v {x:Value} (h:x.oneCell'=true):bw w S (.v x) x
 |ptr {b sz i o:Nat}:bw w S (.ptr b sz i o) (.pointer (some ⟨b,i*sz+o,none⟩))
 |c0 {cs:List D} {b off:Nat} {vals:List Value} (ae:S b) (ao:bq w S cs vals) (ag:p9 w b off vals):bw w S (.c0 cs) (.pointer (some ⟨b,off,none⟩))
 |iX {a:Option Addr} {cap:Nat}:bw w S (.ai []) (.slice a 0 cap)
 |ai {xs:List D} {b off cap sz:Nat} {vals:List Value} (ae:S b) (ao:bq w S (flat xs) vals) (ag:p9 w b off vals) (af:∀x∈xs,x.cells.length=sz) (eJ:xs.length≤cap):
   bw w S (.ai xs) (.slice (some ⟨b,off,none⟩) xs.length cap)
 |hV {a:Option Addr} {sz:Nat}:bw w S (.own none sz 0) (.slice a 0 0)
 |own {b sz n cap:Nat} {c:Array Value} {e:TypeId} {fr:Nat×Nat} (a8:w.heap[b]?=some (.cells c e fr)) (au:n≤cap) (ag:cap*sz≤c.size) (hm:cap≤9223372036854775807):
   bw w S (.own (some b) sz n) (.slice (some ⟨b,0,none⟩) n cap)
 |lv {b sz off:Nat} {a:Option Addr} {cap:Nat}:bw w S (.win b sz off 0) (.slice a 0 cap)
 |win {b sz off n cap:Nat} {c:Array Value} {e:TypeId} {fr:Nat×Nat} (a8:w.heap[b]?=some (.cells c e fr)) (au:n≤cap) (ag:(off+cap)*sz≤c.size) (hm:cap≤9223372036854775807):
   bw w S (.win b sz off n) (.slice (some ⟨b,off*sz,none⟩) n cap)
 |agg {cs:List D} {vals:List Value} (ao:bq w S cs vals):bw w S (.agg cs) (.agg vals.toArray)
 |bd {xs:List D} {vals:List Value} (ao:bq w S xs vals):bw w S (.bd xs) (.tuple vals.toArray)
 |map {b:Nat}:bw w S (.map b) (.map (some b))
 |bX {fn:Fn} {f c:List D} {zl n1:List Value} (ax:bq w S f zl) (ag:bq w S c n1):bw w S (.bX fn f c) (.func fn zl.toArray n1.toArray)
 |dX {t:TypeId} {x:D} {dM:Value} (h:bw w S x dM):bw w S (.dX t x) (.iface t dM)
inductive bq (w:World) (S:Nat→Prop):List D→List Value→Prop
 |nil:bq w S [] []
 |cons {d:D} {x:Value} {ds:List D} {xs:List Value} (h:bw w S d x) (t:bq w S ds xs):bq w S (d::ds) (x::xs)
end
def Shape (w w':World):Prop:=∀(b:Nat) (c:Array Value) (e:TypeId) (fr:Nat×Nat),w.heap[b]?=some (.cells c e fr)→∃(cI:Array Value) (mq:Nat×Nat),w'.heap[b]?=some (.cells cI e mq)∧cI.size=c.size
structure eI (w:World) (S:Nat→Prop) (w':World) (S':Nat→Prop):Prop where
 mono:∀b,S b→S' b
 same:∀b,S b→w'.heap[b]?=w.heap[b]?
 shape:Shape w w'
theorem Shape.refl (w:World):Shape w w:=fun _ c _ fr h=>⟨c,fr,h,rfl⟩
theorem Shape.trans {a b c:World} (h:Shape a b) (k:Shape b c):Shape a c:=by
 intro i x e fr an;obtain⟨mh,PH,aa,s1⟩:=h i x e fr an;obtain⟨nb,PI,ah,s2⟩:=k i mh e PH aa;exact⟨nb,PI,ah,s2.trans s1⟩
theorem eI.refl (w:World) (S:Nat→Prop):eI w S w S:=⟨fun _ h=>h,fun _ _=>rfl,Shape.refl w⟩
theorem eI.trans {dK fb iw:World} {sN wL Gm:Nat→Prop} (h:eI dK sN fb wL) (k:eI fb wL iw Gm):eI dK sN iw Gm:=
 ⟨fun b ae=>k.mono b (h.mono b ae),fun b ae=>(k.same b (h.mono b ae)).trans (h.same b ae),h.shape.trans k.shape⟩
theorem N_ {w w':World} {a:Addr} (h:w'.heap[a.block]?=w.heap[a.block]?):w'.cell? a=w.cell? a:=by simp[World.cell?,h]
theorem p9.of_same {w w':World} {b off:Nat} {vals:List Value} (h:p9 w b off vals) (af:w'.heap[b]?=w.heap[b]?):p9 w' b off vals:=
 fun k x aj=>(N_ (a:=⟨b,off+k,none⟩) af).trans (h k x aj)
mutual
theorem bw.ev {w w':World} {S S':Nat→Prop} (bx:eI w S w' S') {d:D} {x:Value}:bw w S d x→bw w' S' d x
 | .any=> .any
 | .v h=> .v h
 | .ptr=> .ptr
 | .c0 ae ao ag=> .c0 (bx.mono _ ae) (bq.ev bx ao) (ag.of_same (bx.same _ ae))
 | .iX=> .iX
 | .ai ae ao ag af eJ=> .ai (bx.mono _ ae) (bq.ev bx ao) (ag.of_same (bx.same _ ae)) af eJ
 | .hV=> .hV
 | .own a8 au ag hm=>by
  obtain⟨cI,mq,jh,bU⟩:=bx.shape _ _ _ _ a8;exact .own jh au (by rw[bU];exact ag) hm
 | .lv=> .lv
 | .win a8 au ag hm=>by
  obtain⟨cI,mq,jh,bU⟩:=bx.shape _ _ _ _ a8;exact .win jh au (by rw[bU];exact ag) hm
 | .agg ao=> .agg (bq.ev bx ao)
 | .bd ao=> .bd (bq.ev bx ao)
 | .map=> .map
 | .bX ax ag=> .bX (bq.ev bx ax) (bq.ev bx ag)
 | .dX h=> .dX (bw.ev bx h)
theorem bq.ev {w w':World} {S S':Nat→Prop} (bx:eI w S w' S') {ds:List D} {xs:List Value}:bq w S ds xs→bq w' S' ds xs
 | .nil=> .nil
 | .cons h t=> .cons (bw.ev bx h) (bq.ev bx t)
end
theorem bq.length {w:World} {S:Nat→Prop}:∀{ds:List D} {xs:List Value},bq w S ds xs→xs.length=ds.length
 |_,_, .nil=>rfl
 |_,_, .cons _ t=>by simp[t.length]
theorem bq.get {w:World} {S:Nat→Prop}:∀{ds:List D} {xs:List Value},bq w S ds xs→∀(i:Nat) (d:D),ds[i]?=some d→∃x,xs[i]?=some x∧bw w S d x
 |_,_, .nil,i,d,h=>by simp at h
 |_,_, .cons (x:=x) h t,0,d,aw=>by simp at aw;subst aw;exact⟨x,by simp,h⟩
 |_,_, .cons h t,i+1,d,aw=>by
  obtain⟨y,aF,ao⟩:=t.get i d (by simpa using aw);exact⟨y,by simpa using aF,ao⟩
theorem bq.append {w:World} {S:Nat→Prop}:∀{ds es:List D} {xs ys:List Value},bq w S ds xs→bq w S es ys→bq w S (ds++es) (xs++ys)
 |_,_,_,_, .nil,k=>k
 |_,_,_,_, .cons h t,k=> .cons h (t.append k)
theorem bq.split {w:World} {S:Nat→Prop}:∀{ds es:List D} {zs:List Value},bq w S (ds++es) zs→∃xs ys,zs=xs++ys∧bq w S ds xs∧bq w S es ys
 |[],_,zs,h=>⟨[],zs,rfl, .nil,h⟩
 |d::ds,es,zs,h=>by
  cases h with
  |cons h t=>
   obtain⟨xs,ys,rfl,aa,ah⟩:=t.split;exact⟨_::xs,ys,rfl, .cons h aa,ah⟩
theorem bq.take {w:World} {S:Nat→Prop} {ds:List D} {xs:List Value} (h:bq w S ds xs) (n:Nat):bq w S (ds.take n) (xs.take n):=by
 induction n generalizing ds xs with
 |zero=>simp;exact .nil
 |succ n aB=>cases h with
  |nil=>simp;exact .nil
  |cons h t=>exact .cons h (aB t)
theorem bq.drop {w:World} {S:Nat→Prop} {ds:List D} {xs:List Value} (h:bq w S ds xs) (n:Nat):bq w S (ds.drop n) (xs.drop n):=by
 induction n generalizing ds xs with
 |zero=>simpa using h
 |succ n aB=>cases h with
  |nil=>simp;exact .nil
  |cons h t=>exact aB t
theorem bq.set {w:World} {S:Nat→Prop} {ds:List D} {xs:List Value} (h:bq w S ds xs) (i:Nat) {d:D} {x:Value} (aw:bw w S d x):bq w S (ds.set i d) (xs.set i x):=by
 induction i generalizing ds xs with
 |zero=>cases h with
  |nil=>exact .nil
  |cons h t=>exact .cons aw t
 |succ n aB=>cases h with
  |nil=>exact .nil
  |cons h t=>exact .cons h (aB t)
theorem bq.one {w:World} {S:Nat→Prop} {d:D} {x:Value} (h:bw w S d x):bq w S [d] [x]:= .cons h .nil
theorem bq.cons_inv {w:World} {S:Nat→Prop} {d:D} {ds:List D} {vs:List Value} (h:bq w S (d::ds) vs):∃x xs,vs=x::xs∧bw w S d x∧bq w S ds xs:=by
 cases h with
 |cons h t=>exact⟨_,_,rfl,h,t⟩
theorem bq.gv {w:World} {S:Nat→Prop} {vs:List Value} (h:bq w S [] vs):vs=[]:=by cases h;rfl
def D.known:D→Bool
 | .any| .bd _=>false
 |_=>true
theorem bw.cells {w:World} {S:Nat→Prop} {d:D} {x:Value} (h:bw w S d x) (aj:d.known=true):bq w S d.cells x.cells.toList:=by
 cases h with
 |any=>simp[D.known]at aj
 |bd=>simp[D.known]at aj
 |v h=>cases x<;>simp_all [Value.cells,D.cells,Value.oneCell']<;>exact .one (.v rfl)
 |agg ao=>simpa [Value.cells,D.cells]using ao
 |ptr=>exact .one .ptr
 |c0 ae ao ag=>exact .one (.c0 ae ao ag)
 |iX=>exact .one .iX
 |ai ae ao ag af eJ=>exact .one (.ai ae ao ag af eJ)
 |hV=>exact .one .hV
 |own a8 au ag hm=>exact .one (.own a8 au ag hm)
 |lv=>exact .one .lv
 |win a8 au ag hm=>exact .one (.win a8 au ag hm)
 |map=>exact .one .map
 |bX ax ag=>exact .one (.bX ax ag)
 |dX h=>exact .one (.dX h)
def D.cell:D→Bool
 | .any| .bd _| .agg _=>false
 |_=>true
theorem bw.one_cell {w:World} {S:Nat→Prop} {d:D} {x:Value} (h:bw w S d x) (aj:d.cell=true):x.oneCell'=true:=by
 cases h<;>simp_all [D.cell,Value.oneCell']
theorem bq.one_cell {w:World} {S:Nat→Prop}:∀{ds:List D} {xs:List Value},bq w S ds xs→(∀d∈ds,d.cell=true)→∀x∈xs,x.oneCell'=true
 |_,_, .nil,_,x,an=>by simp at an
 |_,_, .cons h t,ag,x,an=>by
  rcases List.mem_cons.1 an with rfl|an
  ·exact h.one_cell (ag _ (by simp))
  exact t.one_cell (fun d aw=>ag d (by simp[aw])) x an
def D.plain (d:D):Bool:=d.known&&d.cells.all D.cell
abbrev Env:=List (Nat×D)
def eget (k:Nat):Env→D
 |[]=> .any
 |(U,d)::r=>if k=U then d else eget k r
inductive aE where
 |arr (sz:Nat) (xs:List D)
 |mp (es:List (Value×D))
 |lq (s:ByteArray) (pos:Nat)
 |e7 (cap:Nat) (buf:List Value)
 |cy (st:LoopState) (eH:Option Code) (fn:FuncId) (n:Nat) (env:Env) (ps:Array Tmp) (ef ct:Code) (fS:Nat)
 |ec
 deriving Inhabited
abbrev al:=List (Nat×aE)
def av (b:Nat):al→Option aE
 |[]=>none
 |(c,o)::r=>if b=c then some o else av b r
def sset (b:Nat) (x:aE):al→al
 |[]=>[]
 |(c,o)::r=>if b=c then(c,x)::r else(c,o)::sset b x r
def cB (b:Nat):al→al
 |[]=>[]
 |(c,o)::r=>if b=c then cB b r else(c,o)::cB b r
def h0 (b:Option Nat) (σ:al):al:=match b with|some b=>cB b σ|none=>σ
@[simp] theorem ah5 (b:Nat):av b []=none:=rfl
theorem aW (b c:Nat) (o:aE) (r:al):av b ((c,o)::r)=if b=c then some o else av b r:=rfl
@[simp] theorem bE (b:Nat) (o:aE) (r:al):av b ((b,o)::r)=some o:=by simp[av]
theorem jU (b c:Nat) (x:aE) (σ:al):av b (sset c x σ)=if b=c then(av c σ).map fun _=>x else av b σ:=by
 induction σ with
 |nil=>simp[sset,av]
 |cons p r aB=>
  obtain⟨d,o⟩:=p;by_cases ox:c=d
  ·subst ox;by_cases ae:b=c
   ·subst ae;simp[sset,av]
   simp[sset,av,ae]
  by_cases rP:b=d
  ·subst rP;have:¬b=c:=fun h=>ox h.symm;simp[sset,av,ox,this]
  simp[sset,av,ox,rP,aB]
theorem wg (b c:Nat) (σ:al):av b (cB c σ)=if b=c then none else av b σ:=by
 induction σ with
 |nil=>simp[cB,av]
 |cons p r aB=>
  obtain⟨d,o⟩:=p;by_cases ox:c=d
  ·subst ox;by_cases ae:b=c
   ·subst ae;simp[cB,aB]
   simp[cB,av,ae,aB]
  by_cases rP:b=d
  ·subst rP;have:¬b=c:=fun h=>ox h.symm;simp[cB,av,ox,this]
  simp[cB,av,ox,rP,aB]
def cq (σ:al) (b:Nat):Prop:=av b σ≠none
def gR (w:World) (S:Nat→Prop) (b:Nat):aE→Prop
 | .arr sz xs=>∃(c:Array Value) (e:TypeId) (lo hi:Nat) (vals:List Value),w.heap[b]?=some (.cells c e (lo,hi))∧bq w S (flat xs) vals∧
   (∀(k:Nat) (x:Value),vals[k]?=some x→c[k]?=some x)∧(∀x∈xs,x.cells.length=sz)∧(hi≤lo∨c.size≤lo)
 | .mp es=>∃(entries:Array MapEntry) (clock:Nat),w.heap[b]?=some (.map entries clock)∧bq w S (es.map (·.2)) (entries.toList.map (·.val))∧
   es.map (·.1)=entries.toList.map (·.key)∧(∀e∈entries.toList,e.born<clock)∧(entries.toList.map (·.born)).Nodup
 | .lq s p=>w.heap[b]?=some (.stringIter s p)
 | .e7 cap buf=>∃s r:Nat,w.heap[b]?=some (.chan cap buf.toArray false s r false)∧∀x∈buf,x.oneCell'=true
 | .cy st eH fn n env ps ef ct fS=>∃tmps:Array Value,w.heap[b]?=some (.loop {state:=st,pending:=eH,fn:=fn,tmps:=tmps,params:=ps,assign:=ef,body:=ct,defers:=fS})∧tmps.size=n∧∀k,bw w S (eget k env) (tmps.getD k undef)
 | .ec=>w.heap[b]?=some (.deferred (some []))
theorem gR.lt {w:World} {S:Nat→Prop} {b:Nat} {o:aE} (h:gR w S b o):b<w.heap.size:=by
 have:∃x,w.heap[b]?=some x:=by
  cases o with
  |arr sz xs=>obtain⟨c,e,lo,hi,vals,h,_⟩:=h;exact⟨_,h⟩
  |mp es=>obtain⟨c,k,h,_⟩:=h;exact⟨_,h⟩
  |lq s p=>exact⟨Obj.stringIter s p,h⟩
  |e7 cap buf=>obtain⟨s,r,h,_⟩:=h;exact⟨_,h⟩
  |cy=>obtain⟨tmps,h,_⟩:=h;exact⟨_,h⟩
  |ec=>exact⟨Obj.deferred (some []),h⟩
 obtain⟨x,an⟩:=this;exact(Array.getElem?_eq_some_iff.1 an).1
theorem gR.ev {w w':World} {S S':Nat→Prop} {b:Nat} {o:aE} (h:gR w S b o) (bx:eI w S w' S') (af:w'.heap[b]?=w.heap[b]?):gR w' S' b o:=by
 cases o with
 |arr sz xs=>obtain⟨c,e,lo,hi,vals,h,aa,ah⟩:=h;exact⟨c,e,lo,hi,vals,af.trans h,aa.ev bx,ah⟩
 |mp es=>obtain⟨c,k,h,aa,ah⟩:=h;exact⟨c,k,af.trans h,aa.ev bx,ah⟩
 |lq s p=>exact(show w'.heap[b]?=some (.stringIter s p)from af.trans (show w.heap[b]?=some (.stringIter s p)from h))
 |e7 cap buf=>obtain⟨s,r,h,aa⟩:=h;exact⟨s,r,af.trans h,aa⟩
 |cy=>obtain⟨tmps,h,aa,ah⟩:=h;exact⟨tmps,af.trans h,aa,fun k=>(ah k).ev bx⟩
 |ec=>exact(show w'.heap[b]?=some (.deferred (some []))from af.trans (show w.heap[b]?=some (.deferred (some []))from h))
def Cy:List (Nat×List Value):=[(3,[.int .u8 0, .int .u8 1, .int .u8 56, .int .u8 2, .int .u8 57, .int .u8 49, .int .u8 28, .int .u8 3, .int .u8 61, .int .u8 58, .int .u8 42, .int .u8 50, .int .u8 38, .int .u8 29, .int .u8 17, .int .u8 4, .int .u8 62, .int .u8 47, .int .u8 59, .int .u8 36, .int .u8 45, .int .u8 43, .int .u8 51, .int .u8 22, .int .u8 53, .int .u8 39, .int .u8 33, .int .u8 30, .int .u8 24, .int .u8 18, .int .u8 12, .int .u8 5, .int .u8 63, .int .u8 55, .int .u8 48, .int .u8 27, .int .u8 60, .int .u8 41, .int .u8 37, .int .u8 16, .int .u8 46, .int .u8 35, .int .u8 44, .int .u8 21, .int .u8 52, .int .u8 32, .int .u8 23, .int .u8 11, .int .u8 54, .int .u8 26, .int .u8 40, .int .u8 15, .int .u8 34, .int .u8 20, .int .u8 31, .int .u8 10, .int .u8 25, .int .u8 14, .int .u8 19, .int .u8 9, .int .u8 13, .int .u8 8, .int .u8 7, .int .u8 6])]
def zw (g:Nat):List (Nat×List Value)→Option (List Value)
 |[]=>none
 |(k,vs)::r=>if g=k then some vs else zw g r
def p_ (w:World) (S:Nat→Prop):Prop:=∀g vs,zw g Cy=some vs→S g∧p9 w g 0 vs
theorem p_.ev {w w':World} {S S':Nat→Prop} (h:p_ w S) (bx:eI w S w' S'):p_ w' S':=fun g vs aq=>⟨bx.mono g (h g vs aq).1,(h g vs aq).2.of_same (bx.same g (h g vs aq).1)⟩
structure lz (w:World) (S:Nat→Prop):Prop where
 lt:∀b,S b→b<w.heap.size
 g:p_ w S
def da (w:World) (S:Nat→Prop) (σ:al):Prop:=∀b o,av b σ=some o→¬S b∧gR w S b o
def aQ (σ σ':al):Prop:=∀b o,av b σ=some o→av b σ'=some o
theorem aQ.refl (σ:al):aQ σ σ:=fun _ _ h=>h
theorem da.le {w:World} {S:Nat→Prop} {σ σ':al} (h:da w S σ') (aA:aQ σ σ'):da w S σ:=fun b o ae=>h b o (aA b o ae)
structure Fr (bO:World) (bQ F:Nat→Prop) (w:World) (S:Nat→Prop) (σ:al):Prop where
 os:w.os=bO.os
 tape:w.tape=bO.tape
 output:w.output=bO.output
 size:bO.heap.size≤w.heap.size
 shape:Shape bO w
 block:∀b,b<bO.heap.size→¬F b→w.heap[b]?=bO.heap[b]?
 mono:∀b,bQ b→S b
 new:∀b,S b→bQ b∨F b∨bO.heap.size≤b
 fh:∀b,cq σ b→F b∨bO.heap.size≤b
 lt:∀b,S b→b<w.heap.size
theorem Fr.refl {w:World} {S:Nat→Prop} (σ:al) (h:∀b,S b→b<w.heap.size):Fr w S (cq σ) w S σ:=
 ⟨rfl,rfl,rfl,Nat.le_refl _,Shape.refl w,fun _ _ _=>rfl,fun _ h=>h,fun _ h=> .inl h,fun _ h=> .inl h,h⟩
theorem Fr.ev {bO w:World} {bQ F S:Nat→Prop} {σ:al} (h:Fr bO bQ F w S σ) (bh:∀b,bQ b→b<bO.heap.size∧¬F b):eI bO bQ w S:=
 ⟨h.mono,fun b ae=>h.block b (bh b ae).1 (bh b ae).2,h.shape⟩
theorem Fr.trans {bO dK fb:World} {bQ F sN wL:Nat→Prop} {σ1 mc:al} (h:Fr bO bQ F dK sN σ1) (k:Fr dK sN (cq σ1) fb wL mc):Fr bO bQ F fb wL mc where
 os:=k.os.trans h.os
 tape:=k.tape.trans h.tape
 output:=k.output.trans h.output
 size:=Nat.le_trans h.size k.size
 shape:=h.shape.trans k.shape
 block:=fun b ae c7=>by
  have aw:¬cq σ1 b:=fun aw=>by rcases h.fh b aw with aa|aa;exact c7 aa;omega
  rw[k.block b (Nat.lt_of_lt_of_le ae h.size) aw,h.block b ae c7]
 mono:=fun b ae=>k.mono b (h.mono b ae)
 new:=fun b ae=>by
  rcases k.new b ae with aa|aa|aa
  ·exact h.new b aa
  ·exact .inr (h.fh b aa)
  exact .inr (.inr (Nat.le_trans h.size aa))
 fh:=fun b ae=>by
  rcases k.fh b ae with aa|aa
  ·exact h.fh b aa
  exact .inr (Nat.le_trans h.size aa)
 lt:=k.lt
theorem Fr.le {bO w:World} {bQ F S:Nat→Prop} {σ σ':al} (h:Fr bO bQ F w S σ') (aA:aQ σ σ'):Fr bO bQ F w S σ:=
 {h with fh:=fun b ae=>h.fh b (by
   unfold cq at*;cases af:av b σ with
   |none=>exact absurd af ae
   |some o=>rw[aA b o af];simp)}
inductive cf where
 |ret (d:D)
 |panic (d:D)
def rp (w:World) (S:Nat→Prop):cf→Ending→Prop
 | .ret d, .returned v=>bw w S d v
 | .panic d, .panicked chain=>∃v,chain=[{v,recovered:=false}]∧bw w S d v
 |_,_=>False
def AC (P:Program) (f:FuncId) (args:List D) (σ:al) (R:cf→al→Prop):Prop:=
 ∀(w:World) (S:Nat→Prop) (vs:List Value),lz w S→da w S σ→bq w S args vs→
  Calls P f vs.toArray w fun e w'=>∃cX σ' S',R cX σ'∧rp w' S' cX e∧da w' S' σ'∧Fr w S (cq σ) w' S' σ'
theorem AC.mono {P:Program} {f:FuncId} {args:List D} {σ:al} {R R':cf→al→Prop} (h:AC P f args σ R) (ao:∀e σ',R e σ'→R' e σ'):AC P f args σ R':=
 fun w S vs aa ah aJ=>(h w S vs aa ah aJ).mono fun _ _ ⟨cX,σ',S',q,r⟩=>⟨cX,σ',S',ao _ _ q,r⟩
def eput (k:Nat) (d:D) (env:Env):Env:=(k,d)::env
def eputo (k:Option Nat) (d:D) (env:Env):Env:=match k with|some k=>eput k d env|none=>env
theorem j6 (U k:Nat) (d:D) (env:Env):eget U (eput k d env)=if U=k then d else eget U env:=rfl
def hM (w:World) (S:Nat→Prop) (env:Env) (tmps:Array Value):Prop:=∀k,bw w S (eget k env) (tmps.getD k undef)
theorem bw.eh {w:World} {S:Nat→Prop} {x y:Value} (h:bw w S (.v x) y):y=x:=by cases h;rfl
theorem hM.ev {w w':World} {S S':Nat→Prop} {env:Env} {tmps:Array Value} (h:hM w S env tmps) (bx:eI w S w' S'):hM w' S' env tmps:=fun k=>(h k).ev bx
theorem hM.put {w:World} {S:Nat→Prop} {env:Env} {tmps:Array Value} (h:hM w S env tmps) {k:Nat} {d:D} {x:Value} (aw:bw w S d x) (aj:k<tmps.size):
  hM w S (eput k d env) (tmps.setIfInBounds k x):=by
 intro U;rw[j6];by_cases aR:U=k
 ·subst aR;simp[Array.getD,aj,aw]
 have:=h U;simp only[aR,if_false];have e:(tmps.setIfInBounds k x).getD U undef=tmps.getD U undef:=by
  simp only[Array.getD_eq_getD_getElem?,Array.getElem?_setIfInBounds];rw[if_neg (fun h=>aR h.symm)]
 rw[e];exact this
def cn (env env':Env):Prop:=∀k,eget k env= .any∨eget k env=eget k env'
theorem cn.refl (env:Env):cn env env:=fun _=> .inr rfl
theorem hM.le {w:World} {S:Nat→Prop} {env env':Env} {tmps:Array Value} (h:hM w S env' tmps) (aA:cn env env'):hM w S env tmps:=fun k=>by
 rcases aA k with aa|aa
 ·rw[aa];exact .any
 rw[aa];exact h k
structure cP where
 n:Nat
 EM:List (Nat×Value)
def yS (N:cP) (tmps:Array Value):Prop:=tmps.size=N.n∧∀p∈N.EM,tmps.getD p.1 undef=p.2
structure Ctx (P:Program) (N:cP) where
 b:Frame
 cs:List Frame
 ds:List Deferred
 bO:World
 bQ:Nat→Prop
 F:Nat→Prop
 Z:Machine→Prop
 e5:∀m ue,Steps P m ue→Z ue→Z m
 bh:∀b,bQ b→b<bO.heap.size∧¬F b
 lI:p_ bO bQ
structure ck {P:Program} {N:cP} (C:Ctx P N) (env:Env) (σ:al) (w:World) (S:Nat→Prop) (tmps:Array Value):Prop where
 env:hM w S env tmps
 store:da w S σ
 fr:Fr C.bO C.bQ C.F w S σ
 size:yS N tmps
theorem ck.Bl {P:Program} {N:cP} {C:Ctx P N} {env:Env} {σ:al} {w:World} {S:Nat→Prop} {tmps:Array Value} (h:ck C env σ w S tmps):lz w S:=⟨h.fr.lt,C.lI.ev (h.fr.ev C.bh)⟩
def j {P:Program} {N:cP} (C:Ctx P N) (todo:List Item) (env:Env) (σ:al):Prop:=
 ∀(a:Act) (w:World) (S:Nat→Prop),a.defers=C.ds→ck C env σ w S a.tmps→C.Z (lone (C.b.atR a todo) C.cs w)
def cK {P:Program} {N:cP} (C:Ctx P N) (d:D) (σ:al):Prop:=
 ∀(a:Act) (todo:List Item) (w:World) (S:Nat→Prop) (v:Value),a.defers=C.ds→bw w S d v→da w S σ→Fr C.bO C.bQ C.F w S σ→yS N a.tmps→
  C.Z (lone {C.b.atR a todo with mode:= .panicking [{v,recovered:=false}]} C.cs w)
def rv (env:Env):Operand→D
 | .tmp t=>eget t env
 | .const (.bool b)=> .v (.bool b)
 |_=> .any
section rules
variable {P : Program} {N : cP} {C : Ctx P N} {k : List Item} {env : Env} {σ : al}
theorem j.step {todo MZ:List Item} (af:∀a w,step P (lone (C.b.atR a todo) C.cs w)= .next (lone (C.b.atR a MZ) C.cs w)) (h:j C MZ env σ):j C todo env σ:=
 fun a w S aw fp=>C.e5 _ _ (.one (af a w)) (h a w S aw fp)
theorem j.J {x y:Code} (h:j C (.code x:: .code y::k) env σ):j C (.code (.seq x y)::k) env σ:= .step (fun _ _=>stepR_seq) h
theorem j.aN (h:j C k env σ):j C (.code .skip::k) env σ:= .step (fun _ _=>stepR_skip) h
theorem j.label {l:Nat} (h:j C k env σ):j C (.code (.label l)::k) env σ:= .step (fun _ _=>stepR_label) h
theorem j.ba {id:Nat} (h:j C k env σ):j C (.inBlock id::k) env σ:= .step (fun _ _=>stepR_inBlock) h
theorem j.aG {id:Nat} {c:Code} (h:j C (.code c:: .inBlock id::k) env σ):j C (.code (.block id c)::k) env σ:= .step (fun _ _=>stepR_block) h
theorem j.loop {c:Code} (h:j C (.code c:: .inLoop c::k) env σ):j C (.code (.loop c)::k) env σ:= .step (fun _ _=>stepR_loop) h
theorem j.inLoop {c:Code} (h:j C (.code c:: .inLoop c::k) env σ):j C (.inLoop c::k) env σ:= .step (fun _ _=>stepR_inLoop) h
theorem j.exit {id:Nat} {fL:List Item} (he:exitTo id k=some fL) (h:j C fL env σ):j C (.code (.exit id)::k) env σ:= .step (fun _ _=>stepR_exit he) h
theorem j.le {todo:List Item} {env':Env} {σ':al} (he:cn env' env) (af:aQ σ' σ) (h:j C todo env' σ'):j C todo env σ:=
 fun a w S aw fp=>h a w S aw ⟨fp.env.le he,fp.store.le af,fp.fr.le af,fp.size⟩
theorem j.cond {c:Operand} {x y:Code} {t:Bool} (ag:rv env c= .v (.bool t)) (aa:t=true→j C (.code x::k) env σ) (ah:t=false→j C (.code y::k) env σ):
  j C (.code (.cond c x y)::k) env σ:=by
 intro a w S aw fp;have cG:a.eval c= .bool t:=by
  cases c with
  |tmp i=>
   have h:=fp.env i;simp only[rv]at ag;rw[ag]at h;exact h.eh
  |const x=>cases x<;>simp_all [rv,Act.eval]
  |global g=>simp[rv]at ag
  |func f=>simp[rv]at ag
 refine C.e5 _ _ (.one (stepR_cond cG)) ?_;cases t with
 |true=>exact aa rfl a w S aw fp
 |false=>exact ah rfl a w S aw fp
end rules
end Go.Ab
namespace Go.Ab
open Go
inductive ee where
 |val (pre:Prop) (d:D)
 |eP (ok:Bool→Prop) (f:Bool→D)
 |upd (pre:Prop) (d:D) (σ:al)
 |new (pre:Prop) (o:aE) (mk:Nat→D)
 |app (pre:Prop) (b:Option Nat) (sz:Nat) (xs:List D)
 |enter (f:FuncId) (args:List D)
 |panic (d:D)
 |bad
def okV:Value→Bool
 | .agg cs=>cs.toList.all Value.oneCell'
 | .tuple xs=>xs.toList.all Value.oneCell'
 |_=>true
def cx:Value→D
 | .agg cs=> .agg (cs.toList.map .v)
 | .tuple xs=> .bd (xs.toList.map .v)
 |x=> .v x
def zc (g:Nat):D:=match zw g Cy with
 |some vs=>if vs.all Value.oneCell'=true then .c0 (vs.map .v)else .any
 |none=> .v (.pointer (some ⟨g,0,none⟩))
def ev (env:Env):Operand→D
 | .tmp t=>eget t env
 | .const x=>if okV x=true then cx x else .any
 | .global g=>zc g
 | .func f=> .bX (.func f) [] []
def gy {α:Type} (P:Program):Sem α→Option α
 | .pure a=>some a
 | .program k=>gy P (k P)
 | .mark _ k=>gy P k
 |_=>none
mutual
def cJ:D→Option Value
 | .v x=>some x
 | .agg cs=>(rh cs).map fun l=> .agg l.toArray
 | .bd xs=>(rh xs).map fun l=> .tuple l.toArray
 | .dX t x=>(cJ x).map (.iface t)
 |_=>none
def rh:List D→Option (List Value)
 |[]=>some []
 |d::r=>(cJ d).bind fun x=>(rh r).map (x::·)
end
def cY (P:Program) (T:TypeId):Option Nat:=(P.info? T).map (·.size)
def kR (P:Program) (T:TypeId):Option Nat:=(P.info? T).map (·.bytes)
def eB (P:Program) (T:TypeId):Option Value:=(P.info? T).bind (·.zero)
def e6 (P:Program) (T:TypeId):Option Bool:=(P.underlying T).map fun| .struct _| .array _ _=>true|_=>false
def eZ (P:Program) (T:TypeId):Option TypeId:=match P.underlying T with|some (.slice e)=>some e|_=>none
def uu (P:Program) (T:TypeId):Option (Nat×Nat):=match P.underlying T with|some (.array n e)=>(cY P e).map fun k=>(n,k)|_=>none
def eA (P:Program) (T:TypeId) (f:Nat):Option Field:=match P.underlying T with|some (.struct a7)=>a7[f]?|_=>none
def dJ (P:Program) (s:Sem Value):ee:=
 match gy P s with
 |some r=>if okV r=true then .val True (cx r)else .bad
 |none=> .bad
def pv (g:Bool) (n:Nat) (cs:List D):D:=if g=true then .agg (cs.take n)else cs.headD .any
def qh (g:Bool) (n:Nat) (cs:List D):Prop:=if g=true then n≤cs.length else 0<cs.length
def uq (old:D) (o:Nat) (x:D):D:=
 match old with
 | .agg cs=> .agg (cs.take o++x.cells++cs.drop (o+x.cells.length))
 |_=>x
def aPick (c a b:D):ee:=
 match c with
 | .v (.bool t)=> .val True (if t=true then a else b)
 |_=> .bad
def aAlloc (P:Program) (T:TypeId):ee:=
 match cY P T,eB P T with
 |some n,some z=> .new (okV z=true∧(cx z).cells.length=n∧(cx z).plain=true) (.arr n [cx z]) (fun b=> .ptr b n 0 0)
 |_,_=> .bad
def aBox (P:Program) (T:TypeId) (d:D):ee:=
 match cY P T with
 |some n=> .new (d.cells.length=n∧d.plain=true) (.arr n [d]) (fun b=> .ptr b n 0 0)
 |none=> .bad
def aLoad (P:Program) (σ:al) (T:TypeId) (d:D):ee:=
 match cY P T,e6 P T,d with
 |some n,some g, .c0 cs=> .val (qh g n cs) (pv g n cs)
 |some n,some g, .ptr b sz i o=>
  match av b σ with
  |some (.arr cm xs)=> .val (cm=sz∧i<xs.length∧qh g n ((xs.getD i .any).cells.drop o)) (pv g n ((xs.getD i .any).cells.drop o))
  |_=> .bad
 |_,_,_=> .bad
def aStore (P:Program) (σ:al) (T:TypeId) (d x:D):ee:=
 match cY P T,d with
 |some n, .ptr b sz i o=>
  match av b σ with
  |some (.arr cm xs)=>
   .upd (cm=sz∧i<xs.length∧x.cells.length=n∧x.plain=true∧o+n≤sz∧((∃cs,xs.getD i .any= .agg cs)∨(n=sz∧o=0))) (.bd [])
    (sset b (.arr sz (xs.set i (uq (xs.getD i .any) o x))) σ)
  |_=> .bad
 |_,_=> .bad
def aNilCheck:D→ee
 | .ptr b sz i o=> .val True (.ptr b sz i o)
 | .c0 cs=> .val True (.c0 cs)
 | .bX (.func f) a c=> .val True (.bX (.func f) a c)
 | .bX (.yield l) a c=> .val True (.bX (.yield l) a c)
 | .dX t x=> .val True (.dX t x)
 | .v (.pointer (some a))=> .val True (.v (.pointer (some a)))
 |_=> .bad
def aEq (d:Option TypeDesc) (x y:D):Option Bool:=
 match d,x,y with
 |some (.pointer _), .ptr _ _ _ _, .v (.pointer none)|some (.pointer _), .v (.pointer none), .ptr _ _ _ _=>some false
 |some (.pointer _), .c0 _, .v (.pointer none)|some (.pointer _), .v (.pointer none), .c0 _=>some false
 |some (.slice _), .own (some _) _ _, .v (.slice none 0 0)=>some false
 |some (.map _ _), .map _, .v (.map none)=>some false
 |some (.func _ _ _), .bX _ _ _, .v .nilFunc=>some false
 |some (.interface _), .dX _ _, .v .nilIface=>some false
 |_,_,_=>none
def aNil (d:Option TypeDesc) (x y:D):Option (Bool→Prop):=
 match d,x,y with
 |some (.slice _), .ai xs, .v (.slice none 0 0)=>some fun t=>xs≠[]→t=false
 |some (.slice _), .own none _ _, .v (.slice none 0 0)=>some fun _=>True
 |_,_,_=>none
def isIfc:Option TypeDesc→Bool
 |some (.interface _)=>true
 |_=>false
def ifcNil (d:Option TypeDesc) (x y:D):Bool:=
 match x,y with
 | .dX _ _, .v .nilIface=>isIfc d
 |_,_=>false
def fQ (P:Program) (op:BinOp) (T:TypeId) (bz bM:Operand) (x y:D):ee:=
 match cJ x,cJ y with
 |some a,some b=>dJ P (do eqGuard op T bz bM a b;binOp op T a b)
 |_,_=>
  match op,aEq (P.underlying T) x y with
  | .eql,some t=> .val True (.v (.bool t))
  | .neq,some t=> .val True (.v (.bool !t))
  |_,_=>
   match op,aNil (P.underlying T) x y with
   | .eql,some ok=> .eP ok fun t=> .v (.bool t)
   | .neq,some ok=> .eP ok fun t=> .v (.bool !t)
   |_,_=> .bad
def cF (P:Program) (op:BinOp) (T:TypeId) (bz bM:Operand) (x y:D):ee:=
 match ifcNil (P.underlying T) x y,op with
 |true, .eql=> .val True (.v (.bool false))
 |true, .neq=> .val True (.v (.bool true))
 |_,_=>fQ P op T bz bM x y
def sP (P:Program) (op:UnOp) (x:D):ee:=
 match cJ x with
 |some a=>dJ P (Op.unary op a)
 |none=> .bad
def byteOf:D→UInt8
 | .v (.int .u8 n)=>UInt8.ofNat n.toNat
 |_=>0
def isByte:D→Bool
 | .v (.int .u8 n)=>decide (0≤n∧n<256)
 |_=>false
def bD (c:UInt8):D:= .v (.int .u8 (c.toNat:Int))
def bytesOf (xs:List D):ByteArray:=⟨(xs.map byteOf).toArray⟩
def ny (P:Program) (T:TypeId):Bool:=
 match eZ P T with
 |some e=>match P.underlying e with|some (.int .u8)=>true|_=>false
 |none=>false
def isStr (P:Program) (T:TypeId):Bool:=match P.underlying T with|some .string=>true|_=>false
def bL (sz:Nat) (ob:Option Nat) (σ:al):Option (List D):=
 match ob with
 |none=>some []
 |some b=>match av b σ with|some (.arr s xs)=>if s=sz then some xs else none|_=>none
def lA (P:Program) (σ:al) (src dst:TypeId) (x:D):ee:=
 match x with
 | .ai xs=> .val (ny P src=true∧isStr P dst=true∧xs.all isByte=true) (.v (.string (bytesOf xs)))
 | .own ob _ n=>
  match bL 1 ob σ with
  |some xs=> .val (ny P src=true∧isStr P dst=true∧xs.all isByte=true∧n≤xs.length) (.v (.string (bytesOf (xs.take n))))
  |none=> .bad
 | .win b sz off n=>
  match bL 1 (some b) σ with
  |some xs=> .val (ny P src=true∧isStr P dst=true∧xs.all isByte=true∧off+n≤xs.length∧sz=1) (.v (.string (bytesOf ((xs.drop off).take n))))
  |none=> .bad
 | .v (.string s)=>
  if ny P dst=true∧isStr P src=true then .new (s.size<2^46) (.arr 1 (s.data.toList.map bD)) (fun b=> .own (some b) 1 s.size)
  else dJ P (convert src dst (.string s))
 | .v y=>dJ P (convert src dst y)
 |_=> .bad
def nB:D→Option Int
 | .v (.int _ n)=>some n
 |_=>none
def aIndexAddr (P:Program) (T:TypeId) (x nA:D):ee:=
 match eZ P T,nB nA with
 |some e,some i=>
  match cY P e,x with
  |some n, .ai xs=> .val (0≤i∧i<xs.length∧(xs.getD i.toNat .any).cells.length=n) (.c0 (xs.getD i.toNat .any).cells)
  |some n, .own (some b) sz len=> .val (0≤i∧i<len∧sz=n) (.ptr b sz i.toNat 0)
  |some n, .win b sz off len=> .val (0≤i∧i<len∧sz=n) (.ptr b sz (off+i.toNat) 0)
  |_,_=> .bad
 |none,some i=>
  match uu P T,x with
  |some (len,n), .ptr b sz U 0=> .val (0≤i∧i<len∧sz=n) (.ptr b sz (U+i.toNat) 0)
  |some (len,n), .c0 cs=> .val (0≤i∧i<len∧len*n≤cs.length) (.c0 (cs.drop (i.toNat*n)))
  |_,_=> .bad
 |_,_=> .bad
def aIndex (P:Program) (T:TypeId) (x nA:D):ee:=
 match x,nB nA with
 | .v (.string s),some i=> .val (isStr P T=true∧0≤i∧i<s.size) (bD (s.data.toList.getD i.toNat 0))
 |_,_=> .bad
def jy (d:Option D) (z:Int):Option Int:=match d with|some d=>nB d|none=>some z
def aSlice (P:Program) (T:TypeId) (x:D) (lo hi mx:Option D):ee:=
 match x,mx with
 | .v (.string s),none=>
  match jy lo 0,jy hi s.size with
  |some l,some h=> .val (isStr P T=true∧0≤l∧l≤h∧h≤s.size) (.v (.string (s.extract l.toNat h.toNat)))
  |_,_=> .bad
 | .ai xs,none=>
  match jy lo 0,jy hi xs.length,(eZ P T).bind (cY P)with
  |some l,some h,some n=> .val (0≤l∧l≤h∧h≤xs.length∧(∀x∈xs,x.cells.length=n)) (.ai ((xs.take h.toNat).drop l.toNat))
  |_,_,_=> .bad
 | .own b sz n,none=>
  match jy lo 0,jy hi n,(eZ P T).bind (cY P)with
  |some l,some h,some k=>
   match lo,b with
   |some _,some b=> .val (0≤l∧l≤h∧h≤n∧k=sz) (.win b sz l.toNat (h-l).toNat)
   |_,_=> .val (l=0∧0≤h∧h≤n) (.own b sz h.toNat)
  |_,_,_=> .bad
 | .win b sz off n,none=>
  match jy lo 0,jy hi n,(eZ P T).bind (cY P)with
  |some l,some h,some k=> .val (0≤l∧l≤h∧h≤n∧k=sz) (.win b sz (off+l.toNat) (h-l).toNat)
  |_,_,_=> .bad
 | .v (.slice none 0 0),none=>
  match jy lo 0,jy hi 0,(eZ P T).bind (cY P)with
  |some l,some h,some _=> .val (l=0∧h=0) (.v (.slice none 0 0))
  |_,_,_=> .bad
 | .ai _,some m| .own _ _ _,some m| .v (.slice none 0 0),some m=>
  match jy lo 0,jy hi 1,nB m,(eZ P T).bind (cY P)with
  |some l,some h,some m,some n=> .val (l=0∧h=0∧m=0) (.own none n 0)
  |_,_,_,_=> .bad
 |_,_=> .bad
def aSliceArr (P:Program) (σ:al) (T:TypeId) (b sz U o:Nat) (lo hi mx:Option D):ee:=
 match o,mx,uu P T with
 |0,none,some (len,n)=>
  match jy lo 0,jy hi len,av b σ with
  |some l,some h,some (.arr cm xs)=> .val (0≤l∧l≤h∧h≤len∧sz=n∧cm=n∧U+len≤xs.length∧len<2^62) (.win b sz (U+l.toNat) (h-l).toNat)
  |_,_,_=> .bad
 |_,_,_=> .bad
def qd (P:Program) (σ:al) (T:TypeId) (x:D) (lo hi mx:Option D):ee:=
 match x with
 | .ptr b sz U o=>aSliceArr P σ T b sz U o lo hi mx
 |x=>aSlice P T x lo hi mx
def aFieldAddr (P:Program) (T:TypeId) (x:D) (f:Nat):ee:=
 match eA P T f with
 |some F=>
  match cY P F.type,x with
  |some n, .ptr b sz i o=> .val (0<n) (.ptr b sz i (o+F.offset))
  |some n, .c0 cs=> .val (0<n∧F.offset≤cs.length) (.c0 (cs.drop F.offset))
  |_,_=> .bad
 |none=> .bad
def aField (P:Program) (T:TypeId) (x:D) (f:Nat):ee:=
 match eA P T f with
 |some F=>
  match cY P F.type,e6 P F.type,x with
  |some n,some g, .agg cs=> .val (qh g n (cs.drop F.offset)) (pv g n (cs.drop F.offset))
  |_,_,_=> .bad
 |none=> .bad
def aFill (P:Program) (T:TypeId):List (Nat×D)→List D→Option (List D)
 |[],cs=>some cs
 |(f,x)::r,cs=>
  match eA P T f with
  |some F=>if cY P F.type=some x.cells.length∧F.offset+x.cells.length≤cs.length∧x.plain=true then aFill P T r (cs.take F.offset++x.cells++cs.drop (F.offset+x.cells.length))else none
  |none=>none
def o0 (P:Program) (T:TypeId):Bool:=
 match P.underlying T with
 |some (.struct a7)=>(a7.toList.mapM (fun f=>(P.info? f.type).map fun i=>(f.offset,i.size))).isSome
 |_=>false
def aBuild (P:Program) (T:TypeId) (parts:List (Nat×D)):ee:=
 match eB P T with
 |some z=>
  if o0 P T=true∧okV z=true then
   match cx z with
   | .agg cs=>match aFill P T parts cs with|some cs=> .val True (.agg cs)|none=> .bad
   |_=> .bad
  else .bad
 |none=> .bad
def aFillSlice (n:Nat):List (Nat×D)→List D→Option (List D)
 |[],xs=>some xs
 |(i,x)::r,xs=>if x.cells.length=n∧x.plain=true∧i<xs.length then aFillSlice n r (xs.set i x)else none
def aBuildSlice (P:Program) (T:TypeId) (len:Nat) (parts:List (Nat×D)):ee:=
 match eZ P T with
 |some e=>
  match cY P e,eB P e with
  |some n,some z=>
   match aFillSlice n parts (List.replicate len (cx z))with
   |some xs=> .new (okV z=true∧(cx z).cells.length=n∧(cx z).plain=true∧len*n≤2^24∧len≤2^24) (.arr n xs) (fun b=> .own (some b) n len)
   |none=> .bad
  |_,_=> .bad
 |none=> .bad
def aMakeSlice (P:Program) (T:TypeId) (l c:D):ee:=
 match eZ P T,nB l,nB c with
 |some e,some l,some c=>
  match cY P e,eB P e,kR P e with
  |some n,some z,some BY=> .new (okV z=true∧(cx z).cells.length=n∧(cx z).plain=true∧0≤l∧l≤c∧c<2^40∧BY*c≤2^48) (.arr n (List.replicate l.toNat (cx z))) (fun b=> .own (some b) n l.toNat)
  |_,_,_=> .bad
 |_,_,_=> .bad
def kj:Value→Value→Bool
 | .int k a, .int fL b=>k==fL&&a==b
 | .string a, .string b=>a==b
 | .bool a, .bool b=>a==b
 |_,_=>false
def kK (d:TypeDesc):Value→Value→Bool
 | .int k _, .int fL _=>(match d with| .int _=>true|_=>false)&&k==fL
 | .string _, .string _=>(match d with| .string=>true|_=>false)
 | .bool _, .bool _=>(match d with| .bool=>true|_=>false)
 |_,_=>false
def e' (k:Value):List (Value×D)→Option D
 |[]=>none
 |(U,d)::r=>if kj k U=true then some d else e' k r
def il (k:Value) (x:D):List (Value×D)→List (Value×D)
 |[]=>[(k,x)]
 |(U,d)::r=>if kj k U=true then(k,x)::r else(U,d)::il k x r
def qY (k:Value):List (Value×D)→List (Value×D)
 |[]=>[]
 |(U,d)::r=>if kj k U=true then r else(U,d)::qY k r
def l8 (P:Program) (T:TypeId):Option (TypeDesc×TypeId):=
 match P.underlying T with
 |some (.map k e)=>match P.underlying k with|some d=>some (d,e)|none=>none
 |_=>none
def aFound (d:TypeDesc) (z:Value) (ok:Bool) (k:Value) (es:List (Value×D)):ee:=
 .val (okV z=true∧kK d k k=true∧∀e∈es,kK d k e.1=true)
  (if ok=true then .bd [(e' k es).getD (cx z), .v (.bool (e' k es).isSome)]else(e' k es).getD (cx z))
def aLookup (P:Program) (σ:al) (T:TypeId) (m k:D) (ok:Bool):ee:=
 match l8 P T,cJ k with
 |some (d,e),some k=>
  match eB P e,m with
  |some z, .map b=>match av b σ with|some (.mp es)=>aFound d z ok k es|_=> .bad
  |some z, .v (.map none)=>aFound d z ok k []
  |_,_=> .bad
 |_,_=> .bad
def aMapUpdate (P:Program) (σ:al) (T:TypeId) (m k x:D):ee:=
 match l8 P T,cJ k,m with
 |some (d,_),some k, .map b=>
  match av b σ with
  |some (.mp es)=> .upd (kK d k k=true∧∀e∈es,kK d k e.1=true) (.bd []) (sset b (.mp (il k x es)) σ)
  |_=> .bad
 |_,_,_=> .bad
def aDelete (P:Program) (σ:al) (T:TypeId) (m k:D):ee:=
 match l8 P T,cJ k,m with
 |some (d,_),some k, .map b=>
  match av b σ with
  |some (.mp es)=> .upd (kK d k k=true∧∀e∈es,kK d k e.1=true) (.bd []) (sset b (.mp (qY k es)) σ)
  |_=> .bad
 |_,_,_=> .bad
def aTA (P:Program) (x:D) (asserted:TypeId) (ok:Bool):ee:=
 match P.underlying asserted with
 |some (.interface _)=> .bad
 |some _=>
  match x,eB P asserted,ok with
  | .dX t y,some z,true=>if t=asserted then .val True (.bd [y, .v (.bool true)])else .val (okV z=true) (.bd [cx z, .v (.bool false)])
  | .v .nilIface,some z,true=> .val (okV z=true) (.bd [cx z, .v (.bool false)])
  | .dX t y,_,false=>if t=asserted then .val True y else .bad
  |_,_,_=> .bad
 |none=> .bad
def aRange (P:Program) (T:TypeId) (x:D):ee:=
 match P.underlying T,x with
 |some .string, .v (.string s)=> .new True (.lq s 0) (fun b=> .ptr b 0 0 0)
 |_,_=> .bad
def aNext (σ:al) (it:D) (isString:Bool):ee:=
 match it,isString with
 | .ptr b 0 0 0,true=>
  match av b σ with
  |some (.lq s p)=>
   if p<s.size then .upd True (.bd [.v (.bool true), .v (.int .i64 p), .v (.int .i32 (Utf8.decode s p).1)]) (sset b (.lq s (p+(Utf8.decode s p).2)) σ)
   else .val True (.bd [.v (.bool false)])
  |_=> .bad
 |_,_=> .bad
def aLen (P:Program) (σ:al) (T:TypeId) (x:D):ee:=
 match x with
 | .ai xs=> .val ((eZ P T).isSome=true) (.v (.int .i64 xs.length))
 | .own _ _ n=> .val ((eZ P T).isSome=true) (.v (.int .i64 n))
 | .win _ _ _ n=> .val ((eZ P T).isSome=true) (.v (.int .i64 n))
 | .v (.string s)=> .val (isStr P T=true) (.v (.int .i64 s.size))
 | .v (.slice none 0 0)=> .val ((eZ P T).isSome=true) (.v (.int .i64 0))
 | .map b=>match av b σ with|some (.mp es)=> .val ((l8 P T).isSome=true) (.v (.int .i64 es.length))|_=> .bad
 | .v (.map none)=> .val ((l8 P T).isSome=true) (.v (.int .i64 0))
 |_=> .bad
def srcOf (σ:al):D→Option (List D)
 | .ai xs=>some xs
 | .own ob sz n=>match bL sz ob σ with|some xs=>if n≤xs.length then some (xs.take n)else none|none=>none
 | .win b sz off n=>match bL sz (some b) σ with|some xs=>if off+n≤xs.length then some ((xs.drop off).take n)else none|none=>none
 | .v (.slice none 0 0)=>some []
 | .v (.string s)=>some (s.data.toList.map bD)
 |_=>none
def cellsOf (b:Option Nat) (sz:Nat) (xs:List D):al:=match b with|some b=>[(b, .arr sz xs)]|none=>[]
def aAppend (P:Program) (σ:al) (T T2:TypeId) (s x:D):ee:=
 match eZ P T,srcOf σ x with
 |some e,some ys=>
  match cY P e,kR P e,eB P e with
  |some n,some BY,some z=>
   let pre (old:List D):Prop:=(P.underlying T2=P.underlying T∨isStr P T2=true)∧okV z=true∧(cx z).cells.length=n∧(∀y∈ys,y.cells.length=n∧y.plain=true)∧(old.length+ys.length)*BY≤2^46∧old.length+ys.length<2^46
   match s with
   | .v (.slice none 0 0)=> .app (pre []) none n ys
   | .own ob sz k=>
    match bL sz ob σ with
    |some xs=> .app (sz=n∧k≤xs.length∧pre (xs.take k)) ob n (xs.take k++ys)
    |none=> .bad
   |_=> .bad
  |_,_,_=> .bad
 |_,_=> .bad
def aClear (P:Program) (σ:al) (T:TypeId) (x:D):ee:=
 match eZ P T with
 |some e=>
  match cY P e,eB P e,x with
  |some n,some z, .own none _ _=> .upd True (.bd []) σ
  |some n,some z, .own (some b) sz k=>
   match av b σ with
   |some (.arr cm xs)=> .upd (cm=n∧sz=n∧k≤xs.length∧okV z=true∧(cx z).cells.length=n∧(cx z).plain=true) (.bd []) (sset b (.arr n (List.replicate k (cx z)++xs.drop k)) σ)
   |_=> .bad
  |some n,some z, .win b sz off k=>
   match av b σ with
   |some (.arr cm xs)=> .upd (cm=n∧sz=n∧off+k≤xs.length∧okV z=true∧(cx z).cells.length=n∧(cx z).plain=true) (.bd []) (sset b (.arr n (xs.take off++List.replicate k (cx z)++xs.drop (off+k))) σ)
   |_=> .bad
  |_,_,_=> .bad
 |none=> .bad
def aBuiltin (P:Program) (σ:al) (b:Builtin) (aD:Array TypeId) (args:List D):ee:=
 match b,args with
 | .len,[x]=>match aD[0]? with|some T=>aLen P σ T x|none=> .bad
 | .append,[s,x]=>match aD[0]?,aD[1]? with|some T,some T2=>aAppend P σ T T2 s x|_,_=> .bad
 | .delete,[m,k]=>match aD[0]? with|some T=>aDelete P σ T m k|none=> .bad
 | .max,[x,y]=>match cJ x,cJ y with|some a,some b=>dJ P (Builtin.max_ #[] 0 #[a,b])|_,_=> .bad
 | .min,[x,y]=>match cJ x,cJ y with|some a,some b=>dJ P (Builtin.min_ #[] 0 #[a,b])|_,_=> .bad
 | .panic,[.dX t x]=> .panic (.dX t x)
 | .clear,[x]=>match aD[0]? with|some T=>aClear P σ T x|none=> .bad
 |_,_=> .bad
def aExtract (x:D) (i:Nat):ee:=
 match x with
 | .bd xs=>match xs[i]? with|some d=> .val True d|none=> .bad
 |_=> .bad
def wN (P:Program) (T:TypeId) (x:D):ee:=
 match P.underlying T,x with
 |some (.chan _ e), .v (.int .i64 n)=>
  match kR P e with
  |some uR=> .new (0≤n∧n<2^40∧(uR:Int)*n≤2^46) (.e7 n.toNat []) (fun b=> .v (.chan (some b)))
  |none=> .bad
 |_,_=> .bad
def aop (P:Program) (env:Env) (σ:al):Op→ee
 | .move x| .assign x=> .val True (ev env x)
 | .pick c a b=>aPick (ev env c) (ev env a) (ev env b)
 | .alloc T=>aAlloc P T
 | .box T x=>aBox P T (ev env x)
 | .build T parts=>aBuild P T (parts.toList.map fun p=>(p.1,ev env p.2))
 | .buildSlice T len parts=>aBuildSlice P T len (parts.toList.map fun p=>(p.1,ev env p.2))
 | .load T a=>aLoad P σ T (ev env a)
 | .store T a x=>aStore P σ T (ev env a) (ev env x)
 | .nilCheck x=>aNilCheck (ev env x)
 | .binOp op T x y _=>cF P op T x y (ev env x) (ev env y)
 | .unOp op _ x=>sP P op (ev env x)
 | .convert src dst x=>lA P σ src dst (ev env x)
 | .makeInterface T x=> .val (match P.underlying T with|some (.interface _)=>False|some _=>True|none=>False) (.dX T (ev env x))
 | .makeFunc fn first captured=> .val True (.bX fn (first.toList.map (ev env)) (captured.toList.map (ev env)))
 | .makeMap T none=> .new ((l8 P T).isSome=true) (.mp []) (fun b=> .map b)
 | .makeChan T x=>wN P T (ev env x)
 | .makeSlice T l c=>aMakeSlice P T (ev env l) (ev env c)
 | .slice T x lo hi mx=>qd P σ T (ev env x) (lo.map (ev env)) (hi.map (ev env)) (mx.map (ev env))
 | .fieldAddr T x f=>aFieldAddr P T (ev env x) f
 | .field T x f=>aField P T (ev env x) f
 | .indexAddr T x nA=>aIndexAddr P T (ev env x) (ev env nA)
 | .index T x nA=>aIndex P T (ev env x) (ev env nA)
 | .lookup T x nA ok=>aLookup P σ T (ev env x) (ev env nA) ok
 | .mapUpdate T m k x| .insert T m k x=>aMapUpdate P σ T (ev env m) (ev env k) (ev env x)
 | .range T x=>aRange P T (ev env x)
 | .next it isString=>aNext σ (ev env it) isString
 | .typeAssert x _ T ok=>aTA P (ev env x) T ok
 | .extract t i=>aExtract (ev env t) i
 | .panic x=>match ev env x with| .dX t d=> .panic (.dX t d)|_=> .bad
 | .call c=>
  match c.callee with
  | .builtin b=>aBuiltin P σ b c.argTypes (c.args.toList.map (ev env))
  | .value f=>
   match ev env f with
   | .bX (.func g) first cg=> .enter g (first++c.args.toList.map (ev env)++cg)
   |_=> .bad
  | .invoke _ _=> .bad
 |_=> .bad
def BO (P:Program) (Qp:D→al→Prop) (next:Env→al→Prop) (dst:Option Nat) (env:Env) (σ:al) (f:FuncId) (args:List D):Prop:=
 ∃g,(∀args w,(callFunc f args).run P w= .ok (.enter g args) w)∧AC P g args σ fun e σ'=>match e with| .ret d=>next (eputo dst d env) σ'| .panic d=>Qp d σ'
def nX (ob:Option Nat) (σ:al):Prop:=∀c,ob=some c→av c σ=none
def cQ (P:Program) (Qp:D→al→Prop) (next:Env→al→Prop) (dst:Option Nat) (env:Env) (σ:al):ee→Prop
 | .val pre d=>pre∧next (eputo dst d env) σ
 | .eP ok f=>∀t,ok t→next (eputo dst (f t) env) σ
 | .upd pre d σ'=>pre∧next (eputo dst d env) σ'
 | .new pre o mk=>pre∧∀b,av b σ=none→next (eputo dst (mk b) env) ((b,o)::σ)
 | .app pre b sz xs=>pre∧∀ob:Option Nat,(ob=none→xs=[])→nX ob (h0 b σ)→next (eputo dst (.own ob sz xs.length) env) (cellsOf ob sz xs++h0 b σ)
 | .enter f args=>BO P Qp next dst env σ f args
 | .panic d=>Qp d σ
 | .bad=>False
section base
variable {w : World} {S : Nat → Prop}
theorem Fm {α:Type} {P:Program}:∀(s:Sem α) {r:α},gy P s=some r→∀w,s.run P w= .ok r w
 | .pure a,r,h,w=>by simp only[gy,Option.some.injEq]at h;subst h;rfl
 | .program k,r,h,w=>by simp only[gy]at h;simp only[Sem.run];exact Fm (k P) h w
 | .mark m k,r,h,w=>by simp only[gy]at h;simp only[Sem.run];exact Fm k h w
 | .load ..,r,h,w| .store ..,r,h,w| .new ..,r,h,w| .shape ..,r,h,w| .freeze ..,r,h,w| .frozen ..,r,h,w| .getObj ..,r,h,w| .setObj ..,r,h,w
 | .choose ..,r,h,w| .sys ..,r,h,w| .halt ..,r,h,w=>by simp[gy]at h
theorem wa:∀(xs:List Value),xs.all Value.oneCell'=true→bq w S (xs.map .v) xs
 |[],_=> .nil
 |x::xs,h=>by
  simp only[List.all_cons,Bool.and_eq_true]at h;exact .cons (.v h.1) (wa xs h.2)
theorem nN {x:Value} (h:okV x=true):bw w S (cx x) x:=by
 cases x with
 |agg cs=>exact .agg (vals:=cs.toList) (wa _ h)
 |tuple xs=>exact .bd (vals:=xs.toList) (wa _ h)
 |_=>exact .v rfl
mutual
theorem nV:∀{d:D} {x y:Value},cJ d=some x→bw w S d y→y=x
 | .v z,x,y,h,ao=>by simp only[cJ,Option.some.injEq]at h;subst h;exact ao.eh
 | .agg cs,x,y,h,ao=>by
  cases ao with
  |agg ao=>
   simp only[cJ,Option.map_eq_some_iff]at h;obtain⟨l,aA,rfl⟩:=h;rw[F1 aA ao]
 | .bd xs,x,y,h,ao=>by
  cases ao with
  |bd ao=>
   simp only[cJ,Option.map_eq_some_iff]at h;obtain⟨l,aA,rfl⟩:=h;rw[F1 aA ao]
 | .dX t z,x,y,h,ao=>by
  cases ao with
  |dX ao=>
   simp only[cJ,Option.map_eq_some_iff]at h;obtain⟨l,aA,rfl⟩:=h;rw[nV aA ao]
 | .any,x,y,h,ao=>by simp[cJ]at h
 | .ptr ..,x,y,h,ao=>by simp[cJ]at h
 | .c0 ..,x,y,h,ao=>by simp[cJ]at h
 | .ai ..,x,y,h,ao=>by simp[cJ]at h
 | .own ..,x,y,h,ao=>by simp[cJ]at h
 | .map ..,x,y,h,ao=>by simp[cJ]at h
 | .bX ..,x,y,h,ao=>by simp[cJ]at h
theorem F1:∀{ds:List D} {xs ys:List Value},rh ds=some xs→bq w S ds ys→ys=xs
 |[],xs,ys,h,ao=>by simp only[rh,Option.some.injEq]at h;subst h;exact ao.gv
 |d::ds,xs,ys,h,ao=>by
  cases ao with
  |cons aw bc=>
   simp only[rh,Option.bind_eq_some_iff,Option.map_eq_some_iff]at h;obtain⟨x,an,l,aA,rfl⟩:=h;rw[nV an aw,F1 aA bc]
end
end base
section steps
variable {P : Program} {N : cP} {C : Ctx P N} {env : Env} {σ : al} {a : Act} {w : World} {S : Nat → Prop} {o : Oper}
variable {Qp : D → al → Prop} {next : Env → al → Prop}
theorem df (h:ck C env σ w S a.tmps) (x:Operand):bw w S (ev env x) (a.eval x):=by
 cases x with
 |tmp t=>exact h.env t
 |const v=>
  simp only[ev,Act.eval];split
  ·rename_i ak;exact nN ak
  exact .any
 |global g=>
  simp only[ev,zc,Act.eval];split
  ·rename_i vs aq
   split
   ·rename_i aH
    obtain⟨aa,ah⟩:=h.Bl.g g vs aq;exact .c0 aa (wa vs aH) ah
   exact .any
  exact .v rfl
 |func f=>exact .bX .nil .nil
theorem sX (h:ck C env σ w S a.tmps):∀(xs:List Operand),bq w S (xs.map (ev env)) (xs.map a.eval)
 |[]=> .nil
 |x::xs=> .cons (df h x) (sX h xs)
theorem nT (h:ck C env σ w S a.tmps) {w':World} {S':Nat→Prop} {σ':al} (ax:Fr w S (cq σ) w' S' σ'):eI w S w' S':=
 ax.ev fun b ae=>⟨h.fr.lt b ae,fun aw=>by
  cases af:av b σ with
  |none=>exact aw af
  |some o=>exact(h.store b o af).1 ae⟩
def dR (C:Ctx P N) (next:Env→al→Prop) (a:Act) (w:World):Prop:=
 a.defers=C.ds∧∃env σ S,next env σ∧ck C env σ w S a.tmps
def jb (C:Ctx P N) (K:Env→al→Prop) (Qp:D→al→Prop):Exit→Act→World→Prop
 | .normal,a,w=>dR C K a w
 | .panic chain,a,w=>a.defers=C.ds∧yS N a.tmps∧∃d σ S v,chain=[{v,recovered:=false}]∧Qp d σ∧bw w S d v∧da w S σ∧Fr C.bO C.bQ C.F w S σ
 |_,_,_=>False
def dV (N:cP) (dst:Option Nat):Prop:=∀k,dst=some k→k<N.n∧∀p∈N.EM,p.1≠k
theorem l_ (h:ck C env σ w S a.tmps) {dst:Option Nat} (aX:dV N dst) {w':World} {S':Nat→Prop} {σ':al} {d:D} {v:Value} (aw:bw w' S' d v) (aL:da w' S' σ')
  (ax:Fr w S (cq σ) w' S' σ'):ck C (eputo dst d env) σ' w' S' (a.put dst v).tmps:=by
 have bx:=nT h ax;refine⟨?_,aL,h.fr.trans ax, ?_⟩
 ·cases dst with
  |none=>exact h.env.ev bx
  |some k=>exact(h.env.ev bx).put aw (by rw[h.size.1];exact(aX k rfl).1)
 cases dst with
 |none=>exact h.size
 |some k=>
  refine⟨by simpa [Act.put]using h.size.1,fun p aP=> ?_⟩;have aj:=(aX k rfl).2 p aP;rw[←h.size.2 p aP];show(a.tmps.setIfInBounds k v).getD p.1 undef=_
  simp only[Array.getD_eq_getD_getElem?,Array.getElem?_setIfInBounds];rw[if_neg (fun h=>aj h.symm)]
theorem put_defers (a:Act) (dst:Option Nat) (v:Value):(a.put dst v).defers=a.defers:=by cases dst<;>rfl
theorem step_ok (h:ck C env σ w S a.tmps) (bm:a.defers=C.ds) (aX:dV N o.dst) {w':World} {S':Nat→Prop} {σ':al} {d:D} {v:Value} {bN:Act→World→Prop} {Q:Exit→Act→World→Prop}
  (bk:∀a w,dR C next a w→bN a w) (bS:(execOp a.eval o).run P w= .ok (.value v) w') (aw:bw w' S' d v) (aL:da w' S' σ') (ax:Fr w S (cq σ) w' S' σ')
  (au:next (eputo o.dst d env) σ'):o.wp P a w bN Q:=by
 unfold Oper.wp;rw[bS,Oper.upon_value];exact bk _ _ ⟨by rw[put_defers];exact bm,_,_,_,au,l_ h aX aw aL ax⟩
theorem MT (h:ck C env σ w S a.tmps) (bm:a.defers=C.ds) (aX:dV N o.dst) {w':World} {S':Nat→Prop} {σ':al} {bN:Act→World→Prop} {Q:Exit→Act→World→Prop}
  (bk:∀a w,dR C next a w→bN a w) (bS:(execOp a.eval o).run P w= .ok .skip w') (aL:da w' S' σ') (ax:Fr w S (cq σ) w' S' σ')
  (au:next (eputo o.dst (.bd []) env) σ'):o.wp P a w bN Q:=by
 unfold Oper.wp;rw[bS,Oper.upon_skip];exact bk _ _ ⟨by rw[put_defers];exact bm,_,_,_,au,l_ h aX (.bd .nil) aL ax⟩
theorem eC (h:ck C env σ w S a.tmps) (bm:a.defers=C.ds) (aX:dV N o.dst) {d:D} {v:Value} {bN:Act→World→Prop} {Q:Exit→Act→World→Prop}
  (bk:∀a w,dR C next a w→bN a w) (bS:(execOp a.eval o).run P w= .ok (.value v) w) (aw:bw w S d v) (au:next (eputo o.dst d env) σ):o.wp P a w bN Q:=
 step_ok h bm aX bk bS aw h.store (Fr.refl σ h.fr.lt) au
theorem uY (w:World) (o:Obj) (b:Nat) (ae:b≠w.heap.size):(w.alloc o).heap[b]?=w.heap[b]?:=by
 show(w.heap.push o)[b]?=_
 rw[Array.getElem?_push,if_neg ae]
theorem FR (w:World) (o:Obj):Shape w (w.alloc o):=by
 intro b c e fr h;refine⟨c,fr, ?_,rfl⟩;rw[uY]
 ·exact h
 intro ae;have:=(Array.getElem?_eq_some_iff.1 h).1;omega
theorem heap_alloc (w:World) (o:Obj):(w.alloc o).heap[w.heap.size]?=some o:=by
 show(w.heap.push o)[w.heap.size]?=_
 simp
theorem w7 (h:ck C env σ w S a.tmps) (ob:Obj) (x:aE):Fr w S (cq σ) (w.alloc ob) S ((w.heap.size,x)::σ) where
 os:=rfl
 tape:=rfl
 output:=rfl
 size:=by simp
 shape:=FR w ob
 block:=fun b ae _=>uY w ob b (by omega)
 mono:=fun _ h=>h
 new:=fun _ h=> .inl h
 fh:=fun b ae=>by
  unfold cq at*;rw[aW]at ae;by_cases kE:b=w.heap.size
  ·exact .inr (by omega)
  rw[if_neg kE]at ae;exact .inl ae
 lt:=fun b ae=>by have:=h.fr.lt b ae;simp;omega
theorem lh (h:da w S σ):av w.heap.size σ=none:=by
 cases af:av w.heap.size σ with
 |none=>rfl
 |some o=>have:=(h _ o af).2.lt;omega
theorem uW (h:∀b,S b→b<w.heap.size) (ob:Obj):eI w S (w.alloc ob) S:=
 ⟨fun _ h=>h,fun b ae=>uY w ob b (by have:=h b ae;omega),FR w ob⟩
theorem wm (h:da w S σ) (aA:∀b,S b→b<w.heap.size) (ob:Obj) (x:aE) (an:gR (w.alloc ob) S w.heap.size x):da (w.alloc ob) S ((w.heap.size,x)::σ):=by
 intro b o ae;rw[aW]at ae;by_cases kE:b=w.heap.size
 ·subst kE;rw[if_pos rfl]at ae;cases ae
  exact⟨fun bh=>by have:=aA _ bh;omega,an⟩
 rw[if_neg kE]at ae;obtain⟨aa,ah⟩:=h b o ae;exact⟨aa,ah.ev (uW aA ob) (uY w ob b kE)⟩
theorem uA (h:ck C env σ w S a.tmps) (bm:a.defers=C.ds) (aX:dV N o.dst) {ob:Obj} {x:aE} {d:D} {v:Value} {bN:Act→World→Prop} {Q:Exit→Act→World→Prop}
  (bk:∀a w,dR C next a w→bN a w) (bS:(execOp a.eval o).run P w= .ok (.value v) (w.alloc ob)) (an:gR (w.alloc ob) S w.heap.size x) (aw:bw (w.alloc ob) S d v)
  (au:next (eputo o.dst d env) ((w.heap.size,x)::σ)):o.wp P a w bN Q:=
 step_ok h bm aX bk bS aw (wm h.store h.fr.lt ob x an) (w7 h ob x) au
theorem Bb {n:Nat} {xs:List D} {vals:List Value} {e:TypeId} {c:Array Value} (aA:∀b,S b→b<w.heap.size) (ao:bq w S (flat xs) vals) (ag:∀(k:Nat) (x:Value),vals[k]?=some x→c[k]?=some x) (af:∀x∈xs,x.cells.length=n):
  gR (w.alloc (.cells c e)) S w.heap.size (.arr n xs):=
 ⟨c,e,0,0,vals,heap_alloc w _,ao.ev (uW aA _),ag,af, .inl (Nat.le_refl _)⟩
end steps
end Go.Ab
namespace Go.Ab
open Go
section
variable {P : Program}
theorem run_sizeOf {T:TypeId} {n:Nat} (h:cY P T=some n) (w:World):(sizeOf T).run P w= .ok n w:=by
 unfold cY at h;cases hi:P.info? T with
 |none=>simp[hi]at h
 |some i=>simp[hi]at h;simp[sizeOf,typeInfo,hi,h]
theorem p0 {T:TypeId} {z:Value} (h:eB P T=some z) (w:World):(zeroValue T).run P w= .ok z w:=by
 unfold eB at h;cases hi:P.info? T with
 |none=>simp[hi]at h
 |some i=>simp[hi]at h;simp[zeroValue,typeInfo,hi,h]
theorem Bf {T:TypeId} {g:Bool} (h:e6 P T=some g) (w:World):(isAgg T).run P w= .ok g w:=by
 unfold e6 at h;cases hi:P.underlying T with
 |none=>simp[hi]at h
 |some d=>rw[hi]at h;simp only[Option.map_some,Option.some.injEq]at h;subst h;cases d<;>simp[isAgg,run_underlying hi]
theorem l6 {T e:TypeId} (h:eZ P T=some e):P.underlying T=some (.slice e):=by
 unfold eZ at h;split at h
 ·rename_i cV he;cases h;exact he
 cases h
theorem FD {T:TypeId} {f:Nat} {F:Field} (h:eA P T f=some F):∃a7,P.underlying T=some (.struct a7)∧a7[f]?=some F:=by
 unfold eA at h;split at h
 ·rename_i a7 gY;exact⟨a7,gY,h⟩
 cases h
theorem we {s:Sem Value} {Qp:D→al→Prop} {next:Env→al→Prop} {dst:Option Nat} {env:Env} {σ:al} (h:cQ P Qp next dst env σ (dJ P s)) (w:World) (S:Nat→Prop):
  ∃d v,s.run P w= .ok v w∧bw w S d v∧next (eputo dst d env) σ:=by
 unfold dJ at h;split at h
 ·rename_i r ao
  split at h
  ·rename_i cc
   exact⟨_,r,Fm s ao w,nN cc,h.2⟩
  exact h.elim
 exact h.elim
end
section steps
variable {P : Program} {N : cP} {C : Ctx P N} {env : Env} {σ : al} {a : Act} {w : World} {S : Nat → Prop} {o : Oper}
variable {Qp : D → al → Prop} {next : Env → al → Prop} {bN : Act → World → Prop} {Q : Exit → Act → World → Prop}
theorem Ms (h:ck C env σ w S a.tmps) (bm:a.defers=C.ds) (aX:dV N o.dst) (bk:∀a w,dR C next a w→bN a w) {x:Operand} (aH:o.op= .move x∨o.op= .assign x)
  (ak:cQ P Qp next o.dst env σ (.val True (ev env x))):o.wp P a w bN Q:=
 eC h bm aX bk (v:=a.eval x) (by rcases aH with aH|aH<;>simp[execOp,aH]) (df h x) ak.2
theorem Xk (h:ck C env σ w S a.tmps) (bm:a.defers=C.ds) (aX:dV N o.dst) (bk:∀a w,dR C next a w→bN a w) {c x y:Operand} (aH:o.op= .pick c x y)
  (ak:cQ P Qp next o.dst env σ (aPick (ev env c) (ev env x) (ev env y))):o.wp P a w bN Q:=by
 unfold aPick at ak;split at ak
 ·rename_i t bc
  have ag:=df h c;rw[bc]at ag;refine eC h bm aX bk (v:=if t then a.eval x else a.eval y) (by simp[execOp,aH,ag.eh,asBool]) ?_ ak.2;cases t
  ·exact df h y
  exact df h x
 exact ak.elim
theorem pY {d:D} {x:Value} (h:bw w S d x) (aP:d.plain=true):bq w S d.cells x.cells.toList:=h.cells (by unfold D.plain at aP;simp only[Bool.and_eq_true]at aP;exact aP.1)
theorem WW (h:ck C env σ w S a.tmps) (bm:a.defers=C.ds) (aX:dV N o.dst) (bk:∀a w,dR C next a w→bN a w) {T:TypeId} (aH:o.op= .alloc T)
  (ak:cQ P Qp next o.dst env σ (aAlloc P T)):o.wp P a w bN Q:=by
 unfold aAlloc at ak;split at ak
 ·rename_i n z au aO
  obtain⟨⟨aa,ah,aJ⟩,aj⟩:=ak;have ao:bw w S (cx z) z:=nN aa;refine uA h bm aX bk (ob:= .cells z.cells T) (x:= .arr n [cx z]) (d:= .ptr w.heap.size n 0 0) (v:= .pointer (some ⟨w.heap.size,0,none⟩)) ?_ ?_ ?_ (aj _ (lh h.store))
  ·simp[execOp,aH,Instr.alloc,p0 aO,newVar,newRow]
  ·refine Bb h.fr.lt (vals:=z.cells.toList) (by simpa using pY ao aJ) (fun k x an=>by simpa using an) (by simpa using ah)
  simpa using(bw.ptr (b:=w.heap.size) (sz:=n) (i:=0) (o:=0):bw (w.alloc (.cells z.cells T)) S _ _)
 exact ak.elim
theorem WZ (h:ck C env σ w S a.tmps) (bm:a.defers=C.ds) (aX:dV N o.dst) (bk:∀a w,dR C next a w→bN a w) {T:TypeId} {x:Operand} (aH:o.op= .box T x)
  (ak:cQ P Qp next o.dst env σ (aBox P T (ev env x))):o.wp P a w bN Q:=by
 unfold aBox at ak;split at ak
 ·rename_i n au
  obtain⟨⟨ah,aJ⟩,aj⟩:=ak;have ao:=df h x;refine uA h bm aX bk (ob:= .cells (a.eval x).cells T) (x:= .arr n [ev env x]) (d:= .ptr w.heap.size n 0 0) (v:= .pointer (some ⟨w.heap.size,0,none⟩)) ?_ ?_ ?_ (aj _ (lh h.store))
  ·simp[execOp,aH,Instr.box,newVar,newRow]
  ·refine Bb h.fr.lt (vals:=(a.eval x).cells.toList) (by simpa using pY ao aJ) (fun k x an=>by simpa using an) (by simpa using ah)
  simpa using(bw.ptr (b:=w.heap.size) (sz:=n) (i:=0) (o:=0):bw (w.alloc (.cells (a.eval x).cells T)) S _ _)
 exact ak.elim
theorem Xe (h:ck C env σ w S a.tmps) (bm:a.defers=C.ds) (aX:dV N o.dst) (bk:∀a w,dR C next a w→bN a w) {fn:Fn} {f c:Array Operand} (aH:o.op= .makeFunc fn f c)
  (ak:cQ P Qp next o.dst env σ (.val True (.bX fn (f.toList.map (ev env)) (c.toList.map (ev env))))):o.wp P a w bN Q:=by
 refine eC h bm aX bk (v:= .func fn (f.map a.eval) (c.map a.eval)) (by simp[execOp,aH,Instr.makeFunc]) ?_ ak.2;have:=bw.bX (fn:=fn) (sX h f.toList) (sX h c.toList);have bt:∀(l:Array Operand),(l.toList.map a.eval).toArray=l.map a.eval:=fun l=>by apply Array.ext';simp
 rw[bt,bt]at this;exact this
theorem Xf (h:ck C env σ w S a.tmps) (bm:a.defers=C.ds) (aX:dV N o.dst) (bk:∀a w,dR C next a w→bN a w) {T:TypeId} {x:Operand} (aH:o.op= .makeInterface T x)
  (ak:cQ P Qp next o.dst env σ (.val (match P.underlying T with|some (.interface _)=>False|some _=>True|none=>False) (.dX T (ev env x)))):o.wp P a w bN Q:=by
 obtain⟨aP,aj⟩:=ak;refine eC h bm aX bk (v:= .iface T (a.eval x)) ?_ (.dX (df h x)) aj;cases aw:P.underlying T with
 |none=>rw[aw]at aP;exact aP.elim
 |some d=>
  rw[aw]at aP;have:(Instr.makeInterface T (a.eval x)).run P w= .ok (.iface T (a.eval x)) w:=by
   cases d<;>first|exact aP.elim|simp[Instr.makeInterface,run_underlying aw]
  simp[execOp,aH,this]
theorem W7 (h:ck C env σ w S a.tmps) (bm:a.defers=C.ds) (aX:dV N o.dst) (bk:∀a w,dR C next a w→bN a w) {x:Operand} {i:Nat} (aH:o.op= .extract x i)
  (ak:cQ P Qp next o.dst env σ (aExtract (ev env x) i)):o.wp P a w bN Q:=by
 unfold aExtract at ak;split at ak
 ·rename_i xs an
  split at ak
  ·rename_i d aw
   have ao:=df h x;rw[an]at ao;generalize a.eval x=y at ao;have:∃vals,a.eval x= .tuple vals∧∃v,vals[i]?=some v∧bw w S d v:=by
    have ao:=df h x;rw[an]at ao;generalize a.eval x=y at ao;cases ao with
    |bd ao=>
     obtain⟨v,ak,cl⟩:=ao.get i d aw;exact⟨_,rfl,v,by simpa using ak,cl⟩
   obtain⟨vals,aF,v,S_,cl⟩:=this;exact eC h bm aX bk (v:=v) (by simp[execOp,aH,aF,Instr.extract,S_]) cl ak.2
  exact ak.elim
 exact ak.elim
theorem Xq (h:ck C env σ w S a.tmps) (bm:a.defers=C.ds) (aX:dV N o.dst) (bk:∀a w,dR C next a w→bN a w) {op:UnOp} {T:TypeId} {x:Operand} (aH:o.op= .unOp op T x)
  (ak:cQ P Qp next o.dst env σ (sP P op (ev env x))):o.wp P a w bN Q:=by
 unfold sP at ak;split at ak
 ·rename_i y aF
  obtain⟨d,v,bS,cl,aj⟩:=we ak w S;have he:=nV aF (df h x);exact eC h bm aX bk (v:=v) (by simp[execOp,aH,he,bS]) cl aj
 exact ak.elim
end steps
end Go.Ab
namespace Go.Ab
open Go
theorem dC {α:Type} (xs:List α) (i:Nat) (z:α) (h:i<xs.length):xs.getD i z=xs[i]:=by simp[h]
theorem zh (xs:List D) (sz:Nat) (af:∀x∈xs,x.cells.length=sz):∀(i:Nat),i<xs.length→∀U,U<sz→(flat xs)[i*sz+U]?=(xs.getD i .any).cells[U]?:=by
 induction xs with
 |nil=>intro i hi;simp at hi
 |cons x xs aB=>
  intro i hi U aR;have an:x.cells.length=sz:=af x (by simp);cases i with
  |zero=>simp only[n_,Nat.zero_mul,Nat.zero_add,List.getD_cons_zero];rw[List.getElem?_append_left (by omega)]
  |succ i=>
   simp only[n_,List.getD_cons_succ];rw[List.getElem?_append_right (by rw[an,Nat.succ_mul];omega)];rw[show(i+1)*sz+U-x.cells.length=i*sz+U by rw[an,Nat.succ_mul];omega];exact aB (fun y aF=>af y (by simp[aF])) i (by simpa using hi) U aR
theorem n' (xs:List D) (sz:Nat) (af:∀x∈xs,x.cells.length=sz):(flat xs).length=xs.length*sz:=by
 induction xs with
 |nil=>simp
 |cons x xs aB=>
  simp only[n_,List.length_append,List.length_cons,Nat.succ_mul];rw[aB (fun y aF=>af y (by simp[aF])),af x (by simp)];omega
theorem HR (xs:List D) (sz:Nat) (af:∀x∈xs,x.cells.length=sz):∀(i:Nat) (y:D),i<xs.length→y.cells.length=sz→flat (xs.set i y)=(flat xs).take (i*sz)++y.cells++(flat xs).drop (i*sz+sz):=by
 induction xs with
 |nil=>intro i y hi;simp at hi
 |cons x xs aB=>
  intro i y hi aF;have an:x.cells.length=sz:=af x (by simp);cases i with
  |zero=>simp[an]
  |succ i=>
   simp only[List.set_cons_succ,n_];rw[aB (fun y aF=>af y (by simp[aF])) i y (by simpa using hi) aF];rw[List.take_append,List.drop_append,an];have bt:(i+1)*sz-sz=i*sz:=by rw[Nat.succ_mul];omega
   have b_:(i+1)*sz+sz-sz=i*sz+sz:=by rw[Nat.succ_mul];omega
   have er:x.cells.take ((i+1)*sz)=x.cells:=List.take_of_length_le (by rw[an,Nat.succ_mul];omega);have h_:x.cells.drop ((i+1)*sz+sz)=[]:=List.drop_of_length_le (by rw[an,Nat.succ_mul];omega);rw[bt,b_,er,h_];simp
theorem P2 {xs:List D} {sz i:Nat} (af:∀x∈xs,x.cells.length=sz) (hi:i<xs.length) (U:Nat) (d:D) (h:(xs.getD i .any).cells[U]?=some d):(flat xs)[i*sz+U]?=some d:=by
 have an:(xs.getD i .any).cells.length=sz:=by
  rw[dC _ _ _ hi];exact af _ (List.getElem_mem hi)
 have aR:U<sz:=by
  have:=(List.getElem?_eq_some_iff.1 h).1;omega
 rw[zh xs sz af i hi U aR];exact h
section
variable {P : Program} {w : World} {S : Nat → Prop}
theorem Bc {cs:List D} {b off n:Nat} {T:TypeId} {g:Bool} (au:cY P T=some n) (aq:e6 P T=some g) (cc:qh g n cs)
  (ag:∀(U:Nat) (d:D),cs[U]?=some d→∃v,w.cell? ⟨b,off+U,none⟩=some v∧bw w S d v):∃v,(loadVar T ⟨b,off,none⟩).run P w= .ok v w∧bw w S (pv g n cs) v:=by
 cases g with
 |false=>
  cases cs with
  |nil=>simp[qh]at cc
  |cons d cs=>
   obtain⟨v,ak,ao⟩:=ag 0 d (by simp);refine⟨v, ?_,by simpa [pv]using ao⟩;simp only[Nat.add_zero]at ak;simp[loadVar,Bf aq,ak]
 |true=>
  simp only[qh,if_true]at cc;have:∀m,m≤n→∃vals:List Value,vals.length=m∧bq w S (cs.take m) vals∧∀U v,vals[U]?=some v→w.cell? ⟨b,off+U,none⟩=some v:=by
   intro m;induction m with
   |zero=>intro _;exact⟨[],rfl,by simpa using bq.nil,fun U v ak=>by simp at ak⟩
   |succ m aB=>
    intro hm;obtain⟨vals,aA,ao,ak⟩:=aB (by omega);obtain⟨d,aw⟩:∃d,cs[m]?=some d:=⟨cs[m]'(by omega),by simp⟩;obtain⟨v,S9,Eo⟩:=ag m d aw;refine⟨vals++[v],by simp[aA], ?_, ?_⟩
    ·rw[List.take_add_one,aw];exact ao.append (.one Eo)
    intro U u hu;by_cases aR:U<m
    ·rw[List.getElem?_append_left (by omega)]at hu;exact ak U u hu
    have oD:U=m:=by
     have:=(List.getElem?_eq_some_iff.1 hu).1;simp at this;omega
    subst oD;rw[List.getElem?_append_right (by omega)]at hu;simp[aA]at hu;subst hu;exact S9
  obtain⟨vals,aA,ao,ak⟩:=this n (Nat.le_refl _);refine⟨.agg vals.toArray, ?_,by simpa [pv]using bw.agg ao⟩;have Af:=run_loadCells_list (P:=P) w ⟨b,off,none⟩ vals (fun U v aR=>by
   have:=ak U v aR;unfold Addr.add;split
   ·rename_i bj;subst bj;simpa using this
   simpa using this)
  rw[aA]at Af;simp[loadVar,Bf aq,run_sizeOf au,Af]
theorem ph {b:Nat} {c:Array Value} {e:TypeId} {fr:Nat×Nat} (h:w.heap[b]?=some (.cells c e fr)) (k:Nat):w.cell? ⟨b,k,none⟩=c[k]?:=by
 simp[World.cell?,h]
theorem yZ {b sz i:Nat} {xs:List D} (h:gR w S b (.arr sz xs)) (hi:i<xs.length) (o U:Nat) (d:D) (aw:((xs.getD i .any).cells.drop o)[U]?=some d):
  ∃v,w.cell? ⟨b,i*sz+o+U,none⟩=some v∧bw w S d v:=by
 obtain⟨c,e,lo,lQ,vals,a8,ao,ag,af,iD⟩:=h;rw[List.getElem?_drop]at aw;obtain⟨v,ak,cl⟩:=ao.get _ d (P2 af hi (o+U) d aw);refine⟨v, ?_,cl⟩;rw[ph a8];have:=ag _ v ak;rw[show i*sz+o+U=i*sz+(o+U) by omega];exact this
end
section steps
variable {P : Program} {N : cP} {C : Ctx P N} {env : Env} {σ : al} {a : Act} {w : World} {S : Nat → Prop} {o : Oper}
variable {Qp : D → al → Prop} {next : Env → al → Prop} {bN : Act → World → Prop} {Q : Exit → Act → World → Prop}
theorem za {cs:List D} {v:Value} (h:bw w S (.c0 cs) v):∃b off vals,v= .pointer (some ⟨b,off,none⟩)∧S b∧bq w S cs vals∧p9 w b off vals:=by
 cases h with
 |c0 ae ao ag=>exact⟨_,_,_,rfl,ae,ao,ag⟩
theorem vX {b sz i o:Nat} {v:Value} (h:bw w S (.ptr b sz i o) v):v= .pointer (some ⟨b,i*sz+o,none⟩):=by cases h;rfl
theorem Xb (h:ck C env σ w S a.tmps) (bm:a.defers=C.ds) (aX:dV N o.dst) (bk:∀a w,dR C next a w→bN a w) {T:TypeId} {x:Operand} (aH:o.op= .load T x)
  (ak:cQ P Qp next o.dst env σ (aLoad P σ T (ev env x))):o.wp P a w bN Q:=by
 unfold aLoad at ak;have an:=df h x;split at ak
 ·rename_i n g cs au aq aw
  rw[aw]at an;obtain⟨b,off,vals,he,ae,ao,ag⟩:=za an;obtain⟨cc,aj⟩:=ak;obtain⟨v,bS,cl⟩:=Bc (P:=P) (w:=w) (S:=S) (b:=b) (off:=off) au aq cc (fun U d aR=>by
   obtain⟨v,ak,cl⟩:=ao.get U d aR;exact⟨v,ag U v ak,cl⟩)
  exact eC h bm aX bk (v:=v) (by simp[execOp,aH,Instr.loadAt,Instr.sureAddr,he,bS]) cl aj
 ·rename_i n g b sz i off au aq aw
  rw[aw]at an;have he:=vX an;split at ak
  ·rename_i cm xs af
   obtain⟨⟨rfl,hi,cc⟩,aj⟩:=ak;have iL:=(h.store b _ af).2;obtain⟨v,bS,cl⟩:=Bc (P:=P) (w:=w) (S:=S) (b:=b) (off:=i*cm+off) au aq cc (fun U d aR=>yZ iL hi off U d aR);exact eC h bm aX bk (v:=v) (by simp[execOp,aH,Instr.loadAt,Instr.sureAddr,he,bS]) cl aj
  exact ak.elim
 exact ak.elim
theorem Xj (h:ck C env σ w S a.tmps) (bm:a.defers=C.ds) (aX:dV N o.dst) (bk:∀a w,dR C next a w→bN a w) {x:Operand} (aH:o.op= .nilCheck x)
  (ak:cQ P Qp next o.dst env σ (aNilCheck (ev env x))):o.wp P a w bN Q:=by
 have an:=df h x;have key:∀d,ev env x=d→cQ P Qp next o.dst env σ (.val True d)→(∀v,bw w S d v→(match v with
   | .pointer none| .nilIface| .nilFunc=>False
   | .func (.method _) _ _=>False
   |_=>True))→o.wp P a w bN Q:=by
  intro d aw ak ao;rw[aw]at an;have ag:=ao _ an;refine eC h bm aX bk (v:=a.eval x) ?_ an ak.2;simp only[execOp,aH];generalize a.eval x=y at ag an;split<;>first|exact ag.elim|rfl
 unfold aNilCheck at ak;split at ak
 ·rename_i aw;exact key _ aw ak (fun v ao=>by cases ao;trivial)
 ·rename_i aw;exact key _ aw ak (fun v ao=>by cases ao;trivial)
 ·rename_i aw;exact key _ aw ak (fun v ao=>by cases ao;trivial)
 ·rename_i aw;exact key _ aw ak (fun v ao=>by cases ao;trivial)
 ·rename_i aw;exact key _ aw ak (fun v ao=>by cases ao;trivial)
 ·rename_i aw;exact key _ aw ak (fun v ao=>by cases ao;trivial)
 exact ak.elim
theorem W9 (h:ck C env σ w S a.tmps) (bm:a.defers=C.ds) (aX:dV N o.dst) (bk:∀a w,dR C next a w→bN a w) {T:TypeId} {x:Operand} {f:Nat} (aH:o.op= .fieldAddr T x f)
  (ak:cQ P Qp next o.dst env σ (aFieldAddr P T (ev env x) f)):o.wp P a w bN Q:=by
 unfold aFieldAddr at ak;have an:=df h x;split at ak
 ·rename_i F c7
  obtain⟨a7,gY,ax⟩:=FD c7;split at ak
  ·rename_i n b sz i off au aw
   rw[aw]at an;have he:=vX an;obtain⟨qE,aj⟩:=ak;refine eC h bm aX bk (v:= .pointer (some ⟨b,i*sz+(off+F.offset),none⟩)) ?_ .ptr aj;have eN:(⟨b,i*sz+off,none⟩:Addr).add F.offset=⟨b,i*sz+(off+F.offset),none⟩:=by
    unfold Addr.add;split<;>simp_all [Nat.add_assoc]
   have aZ:¬n=0:=by omega
   simp[execOp,aH,he,Instr.fieldAt,Instr.sureAddr,run_underlying gY,ax,fieldPlace,run_sizeOf au,aZ,eN]
  ·rename_i n cs au aw
   rw[aw]at an;obtain⟨b,off,vals,he,ae,ao,ag⟩:=za an;obtain⟨⟨qE,hle⟩,aj⟩:=ak;refine eC h bm aX bk (v:= .pointer (some ⟨b,off+F.offset,none⟩)) ?_ (.c0 ae (ao.drop F.offset) ?_) aj
   ·have eN:(⟨b,off,none⟩:Addr).add F.offset=⟨b,off+F.offset,none⟩:=by
     unfold Addr.add;split<;>simp_all
    have aZ:¬n=0:=by omega
    simp[execOp,aH,he,Instr.fieldAt,Instr.sureAddr,run_underlying gY,ax,fieldPlace,run_sizeOf au,aZ,eN]
   intro k v aj;rw[List.getElem?_drop]at aj;rw[show off+F.offset+k=off+(F.offset+k) by omega];exact ag _ v aj
  exact ak.elim
 exact ak.elim
theorem Gr {cs:List D} {v:Value} (h:bw w S (.agg cs) v):∃vals:List Value,v= .agg vals.toArray∧bq w S cs vals:=by
 cases h with
 |agg ao=>exact⟨_,rfl,ao⟩
theorem Wo {cs:List D} {vals:List Value} {off n:Nat} {T:TypeId} {g:Bool} (au:cY P T=some n) (aq:e6 P T=some g) (cc:qh g n (cs.drop off)) (ao:bq w S cs vals):
  ∃v,(part T vals.toArray off).run P w= .ok v w∧bw w S (pv g n (cs.drop off)) v:=by
 cases g with
 |false=>
  simp only[qh,Bool.false_eq_true,if_false]at cc;obtain⟨d,aw⟩:∃d,(cs.drop off)[0]?=some d:=⟨(cs.drop off)[0]'cc,by simp⟩;have mD:=aw;rw[List.getElem?_drop]at aw;obtain⟨v,ak,cl⟩:=ao.get _ d aw;simp only[Nat.add_zero]at ak;refine⟨v,by simp[part,Bf aq,ak], ?_⟩;simp only[pv,Bool.false_eq_true,if_false];cases dg:cs.drop off with
  |nil=>rw[dg]at mD;simp at mD
  |cons y ys=>rw[dg]at mD;simp at mD;subst mD;exact cl
 |true=>
  refine⟨.agg ((vals.drop off).take n).toArray, ?_,by simpa [pv]using bw.agg ((ao.drop off).take n)⟩;simp[part,Bf aq,run_sizeOf au]
theorem W8 (h:ck C env σ w S a.tmps) (bm:a.defers=C.ds) (aX:dV N o.dst) (bk:∀a w,dR C next a w→bN a w) {T:TypeId} {x:Operand} {f:Nat} (aH:o.op= .field T x f)
  (ak:cQ P Qp next o.dst env σ (aField P T (ev env x) f)):o.wp P a w bN Q:=by
 unfold aField at ak;have an:=df h x;split at ak
 ·rename_i F c7
  obtain⟨a7,gY,ax⟩:=FD c7;split at ak
  ·rename_i n g cs au aq aw
   rw[aw]at an;obtain⟨vals,he,ao⟩:=Gr an;obtain⟨v,bS,cl⟩:=Wo (P:=P) au aq ak.1 ao;exact eC h bm aX bk (v:=v) (by simp[execOp,aH,he,Instr.field,run_underlying gY,ax,asAgg,bS]) cl ak.2
  exact ak.elim
 exact ak.elim
end steps
end Go.Ab
namespace Go.Ab
open Go
theorem Bj (b:Nat) (e:TypeId) (fr:Nat×Nat):∀(vs:List Value) (o:Nat) (w:World) (c:Array Value),w.heap[b]?=some (.cells c e fr)→o+vs.length≤c.size→
  ∃cI,(w.setCells b o vs).heap[b]?=some (.cells cI e fr)∧cI.size=c.size∧∀k,cI[k]?=if o≤k∧k<o+vs.length then vs[k-o]? else c[k]?
 |[],o,w,c,h,_=>⟨c,h,rfl,fun k=>by
   rw[if_neg];simp only[List.length_nil];omega⟩
 |v::vs,o,w,c,h,aA=>by
  have aC:=(Array.getElem?_eq_some_iff.1 h).1;have aa:(w.setCell ⟨b,o,none⟩ v).heap[b]?=some (.cells (c.setIfInBounds o v) e fr):=by
   show(w.heap.modify b _)[b]?=_
   rw[Array.getElem?_modify,if_pos rfl,h];simp
  obtain⟨cI,ah,aJ,bg⟩:=Bj b e fr vs (o+1) (w.setCell ⟨b,o,none⟩ v) (c.setIfInBounds o v) aa (by simp at aA⊢;omega);refine⟨cI,ah,by simpa using aJ,fun k=> ?_⟩;rw[bg];simp only[List.length_cons]at aA⊢;by_cases aj:o+1≤k∧k<o+1+vs.length
  ·rw[if_pos aj,if_pos (by omega)];rw[show k-o=(k-(o+1))+1 by omega];simp
  rw[if_neg aj];by_cases Jy:k=o
  ·subst Jy;rw[if_pos (by omega)];simp only[Nat.sub_self,List.getElem?_cons_zero,Array.getElem?_setIfInBounds,if_pos];rw[if_pos (by omega)]
  rw[if_neg (by omega)];rw[Array.getElem?_setIfInBounds,if_neg (fun h=>Jy h.symm)]
theorem Bk (b:Nat):∀(vs:List Value) (o:Nat) (w:World) (k:Nat),k≠b→(w.setCells b o vs).heap[k]?=w.heap[k]?
 |[],_,_,_,_=>rfl
 |v::vs,o,w,k,h=>by
  show((w.setCell ⟨b,o,none⟩ v).setCells b (o+1) vs).heap[k]?=_
  rw[Bk b vs (o+1) _ k h];simp only[World.setCell,Array.getElem?_modify];rw[if_neg (fun a8=>h a8.symm)]
theorem Bi (b:Nat):∀(vs:List Value) (o:Nat) (w:World),(w.setCells b o vs).os=w.os∧(w.setCells b o vs).tape=w.tape∧(w.setCells b o vs).output=w.output∧(w.setCells b o vs).heap.size=w.heap.size
 |[],_,_=>⟨rfl,rfl,rfl,rfl⟩
 |v::vs,o,w=>by
  obtain⟨aa,ah,aJ,bg⟩:=Bi b vs (o+1) (w.setCell ⟨b,o,none⟩ v);exact⟨aa,ah,aJ,by rw[show(w.setCells b o (v::vs))=((w.setCell ⟨b,o,none⟩ v).setCells b (o+1) vs)from rfl,bg];simp⟩
theorem w9 {w w':World} {S:Nat→Prop} {σ:al} {b:Nat} {x y:aE} (aA:∀b,S b→b<w.heap.size) (af:av b σ=some x) (aa:w'.os=w.os) (ah:w'.tape=w.tape) (aJ:w'.output=w.output) (bg:w'.heap.size=w.heap.size)
  (aH:∀k,k≠b→w'.heap[k]?=w.heap[k]?) (fD:Shape w w'):Fr w S (cq σ) w' S (sset b y σ) where
 os:=aa
 tape:=ah
 output:=aJ
 size:=by omega
 shape:=fD
 block:=fun k _ aj=>aH k (fun e=>by subst e;exact aj (by unfold cq;rw[af];simp))
 mono:=fun _ h=>h
 new:=fun _ h=> .inl h
 fh:=fun k aj=>by
  unfold cq at*;rw[jU]at aj;by_cases eU:k=b
  ·subst eU;left;rw[af];simp
  rw[if_neg eU]at aj;exact .inl aj
 lt:=fun k aj=>by have:=aA k aj;omega
theorem FT {w w':World} {b:Nat} (aH:∀k,k≠b→w'.heap[k]?=w.heap[k]?) {c cI:Array Value} {e:TypeId} {fr:Nat×Nat} (h:w.heap[b]?=some (.cells c e fr)) (jh:w'.heap[b]?=some (.cells cI e fr)) (bU:cI.size=c.size):Shape w w':=by
 intro k x cV mq aj;by_cases eU:k=b
 ·subst eU;rw[h]at aj;cases aj
  exact⟨cI,_,jh,bU⟩
 exact⟨x,mq,(aH k eU).trans aj,rfl⟩
theorem rf {w w':World} {S:Nat→Prop} {σ:al} {b:Nat} {y:aE} (h:da w S σ) (bx:eI w S w' S) (aH:∀k,k≠b→w'.heap[k]?=w.heap[k]?) (bh:¬S b) (aF:gR w' S b y):da w' S (sset b y σ):=by
 intro k o aj;rw[jU]at aj;by_cases eU:k=b
 ·subst eU;rw[if_pos rfl]at aj;cases af:av k σ with
  |none=>rw[af]at aj;cases aj
  |some x=>rw[af]at aj;cases aj;exact⟨bh,aF⟩
 rw[if_neg eU]at aj;obtain⟨aa,ah⟩:=h k o aj;exact⟨aa,ah.ev bx (aH k eU)⟩
theorem bq.Lb {w:World} {S:Nat→Prop}:∀{ds:List D} {xs:List Value},xs.length=ds.length→(∀(i:Nat) (d:D),ds[i]?=some d→∃x,xs[i]?=some x∧bw w S d x)→bq w S ds xs
 |[],[],_,_=> .nil
 |[],x::xs,h,_=>by simp at h
 |d::ds,[],h,_=>by simp at h
 |d::ds,x::xs,h,aq=>by
  obtain⟨y,aF,ao⟩:=aq 0 d (by simp);simp at aF;subst aF;exact .cons ao (bq.Lb (by simpa using h) fun i d aw=>by
   obtain⟨y,aF,ao⟩:=aq (i+1) d (by simpa using aw);exact⟨y,by simpa using aF,ao⟩)
theorem VI {old x:D} {o n sz:Nat} (hold:old.cells.length=sz) (an:x.cells.length=n) (aH:o+n≤sz) (ag:(∃cs,old= .agg cs)∨(n=sz∧o=0)):
  (uq old o x).cells=old.cells.take o++x.cells++old.cells.drop (o+n):=by
 rcases ag with⟨cs,rfl⟩|⟨rfl,rfl⟩
 ·show cs.take o++x.cells++cs.drop (o+x.cells.length)=_
  rw[an];rfl
 unfold uq;split
 ·rename_i cs
  have dg:cs.length=n:=hold;show cs.take 0++x.cells++cs.drop (0+x.cells.length)=_
  rw[an];rfl
 have:old.cells.drop (0+n)=[]:=List.drop_of_length_le (by omega);rw[this];simp
section steps
variable {P : Program} {N : cP} {C : Ctx P N} {env : Env} {σ : al} {a : Act} {w : World} {S : Nat → Prop} {o : Oper}
variable {Qp : D → al → Prop} {next : Env → al → Prop} {bN : Act → World → Prop} {Q : Exit → Act → World → Prop}
theorem Vo {d:D} {v:Value} (h:bw w S d v) (aP:d.plain=true):∀x∈v.cells.toList,x.oneCell'=true:=by
 have ao:=pY h aP;unfold D.plain at aP;simp only[Bool.and_eq_true,List.all_eq_true]at aP;exact ao.one_cell aP.2
theorem Xo (h:ck C env σ w S a.tmps) (bm:a.defers=C.ds) (aX:dV N o.dst) (bk:∀a w,dR C next a w→bN a w) {T:TypeId} {x y:Operand} (aH:o.op= .store T x y)
  (ak:cQ P Qp next o.dst env σ (aStore P σ T (ev env x) (ev env y))):o.wp P a w bN Q:=by
 unfold aStore at ak;have an:=df h x;have aF:=df h y;split at ak
 ·rename_i n b sz i off au aw
  rw[aw]at an;have he:=vX an;split at ak
  ·rename_i cm xs af
   obtain⟨⟨rfl,hi,hlen,gn,hle,ow⟩,aj⟩:=ak;obtain⟨oi,iL⟩:=h.store b _ af;have acz:=iL;obtain⟨c,e,lo,lQ,vals,a8,ao,ag,bU,iD⟩:=iL;have dn:=pY aF gn;have jN:(a.eval y).cells.toList.length=n:=by rw[dn.length,hlen]
   have dg:(a.eval y).cells.size=n:=by simpa using jN
   have En:vals.length=xs.length*cm:=by rw[ao.length,n' xs cm bU]
   have c1:i*cm+cm≤vals.length:=by
    rw[En,←Nat.succ_mul];exact Nat.mul_le_mul_right _ hi
   have tp:∀k,k<vals.length→k<c.size:=fun k aj=>by
    obtain⟨v,ak⟩:∃v,vals[k]?=some v:=⟨vals[k],by simp[aj]⟩;exact(Array.getElem?_eq_some_iff.1 (ag k v ak)).1
   have Dg:i*cm+off+(a.eval y).cells.toList.length≤c.size:=by
    rw[jN];rcases Nat.eq_zero_or_pos (i*cm+off+n)with aO|aO
    ·omega
    have:=tp (i*cm+off+n-1) (by omega);omega
   obtain⟨cI,qt,qu,xx⟩:=Bj b e (lo,lQ) (a.eval y).cells.toList (i*cm+off) w c a8 Dg;have aL:=run_storeCells_cells (P:=P) b (i*cm+off) (a.eval y).cells.toList 0 w
    (fun U aR=>by
     rw[ph a8];rw[Array.getElem?_eq_getElem (by omega)];rfl)
    (fun U aR=>by
     have:i*cm+off+0+U<c.size:=by omega
     unfold World.frozen?;simp only[a8];simp;omega)
    (Vo aF gn)
   simp only[Nat.add_zero]at aL;have hF:=fun k aj=>Bk b (a.eval y).cells.toList (i*cm+off) w k aj;obtain⟨f1,f2,f3,f4⟩:=Bi b (a.eval y).cells.toList (i*cm+off) w;have fD:=FT hF a8 qt qu;have bl:=w9 (y:= .arr cm (xs.set i (uq (xs.getD i .any) off (ev env y)))) h.fr.lt af f1 f2 f3 f4 hF fD;have bx:=nT h bl;have hold:(xs.getD i .any).cells.length=cm:=by rw[dC _ _ _ hi];exact bU _ (List.getElem_mem hi)
   have JQ:=VI (x:=ev env y) hold hlen hle ow;have JR:(uq (xs.getD i .any) off (ev env y)).cells.length=cm:=by
    rw[JQ,List.length_append,List.length_append,List.length_take,List.length_drop,hold,hlen];omega
   have jt:gR (w.setCells b (i*cm+off) (a.eval y).cells.toList) S b (.arr cm (xs.set i (uq (xs.getD i .any) off (ev env y)))):=by
    refine⟨cI,e,lo,lQ,vals.take (i*cm+off)++(a.eval y).cells.toList++vals.drop (i*cm+off+n),qt, ?_, ?_, ?_,by rw[qu];exact iD⟩
    ·rw[HR xs cm bU i _ hi JR,JQ];have iM:=ao.ev bx;have bt:(flat xs).take (i*cm)++((xs.getD i .any).cells.take off++(ev env y).cells++(xs.getD i .any).cells.drop (off+n))++(flat xs).drop (i*cm+cm)=
       (flat xs).take (i*cm+off)++(ev env y).cells++(flat xs).drop (i*cm+off+n):=by
      have dE:(flat xs).length=xs.length*cm:=n' xs cm bU;have Ed:((flat xs).drop (i*cm)).take cm=(xs.getD i .any).cells:=by
       apply List.ext_getElem?;intro U;rw[List.getElem?_take];by_cases aR:U<cm
       ·rw[if_pos aR,List.getElem?_drop,zh xs cm bU i hi U aR]
       rw[if_neg aR,List.getElem?_eq_none (by omega)]
      rw[←Ed];have t1:(flat xs).take (i*cm+off)=(flat xs).take (i*cm)++(((flat xs).drop (i*cm)).take cm).take off:=by
       rw[List.take_take,Nat.min_eq_left (by omega),←List.take_add]
      have t2:(flat xs).drop (i*cm+off+n)=(((flat xs).drop (i*cm)).take cm).drop (off+n)++(flat xs).drop (i*cm+cm):=by
       rw[List.drop_take,←List.drop_drop];have:=List.take_append_drop (cm-(off+n)) (((flat xs).drop (i*cm)).drop (off+n));rw[List.drop_drop,List.drop_drop]at this;rw[show i*cm+(off+n)+(cm-(off+n))=i*cm+cm by omega]at this;rw[List.drop_drop,List.drop_drop,show i*cm+(off+n)=i*cm+off+n by omega]at*;exact this.symm
      rw[t1,t2];simp[List.append_assoc]
     rw[bt];exact((iM.take _).append (dn.ev bx)).append (iM.drop _)
    ·intro k v gL;rw[xx];by_cases d':i*cm+off≤k∧k<i*cm+off+(a.eval y).cells.toList.length
     ·rw[if_pos d'];rw[List.append_assoc,List.getElem?_append_right (by simp;omega),List.getElem?_append_left (by simp at*;omega)]at gL;simp only[List.length_take]at gL;rw[show k-min (i*cm+off) vals.length=k-(i*cm+off) by omega]at gL;exact gL
     rw[if_neg d'];apply ag;by_cases aC:k<i*cm+off
     ·rw[List.append_assoc,List.getElem?_append_left (by simp;omega),List.getElem?_take,if_pos aC]at gL;exact gL
     rw[List.getElem?_append_right (by simp at*;omega),List.getElem?_drop]at gL;simp only[List.length_append,List.length_take]at gL;rw[show i*cm+off+n+(k-(min (i*cm+off) vals.length+(a.eval y).cells.toList.length))=k by omega]at gL;exact gL
    intro z aO;rcases List.mem_or_eq_of_mem_set aO with aO|aO
    ·exact bU z aO
    rw[aO];exact JR
   refine MT h bm aX bk (w':=w.setCells b (i*cm+off) (a.eval y).cells.toList) ?_ (rf h.store bx hF oi jt) bl aj;simp[execOp,aH,he,Instr.storeAt,Instr.sureAddr,storeVar,run_sizeOf au,dg,aL]
  exact ak.elim
 exact ak.elim
end steps
end Go.Ab
namespace Go.Ab
open Go
section
variable {P : Program} {w : World} {S : Nat → Prop}
theorem E_ {b sz n:Nat} {v:Value} (h:bw w S (.own (some b) sz n) v):∃cap c e fr,v= .slice (some ⟨b,0,none⟩) n cap∧n≤cap∧w.heap[b]?=some (.cells c e fr)∧cap*sz≤c.size∧cap≤9223372036854775807:=by
 cases h with
 |own a8 au ag hm=>exact⟨_,_,_,_,rfl,au,a8,ag,hm⟩
theorem vU {b sz n:Nat} {v:Value} (h:bw w S (.own (some b) sz n) v):∃cap c e fr,v= .slice (some ⟨b,0,none⟩) n cap∧n≤cap∧w.heap[b]?=some (.cells c e fr)∧cap*sz≤c.size:=by
 cases h with
 |own a8 au ag hm=>exact⟨_,_,_,_,rfl,au,a8,ag⟩
theorem Ng {b sz off n:Nat} {v:Value} (h:bw w S (.win b sz off n) v) (au:0<n):∃cap,v= .slice (some ⟨b,off*sz,none⟩) n cap:=by
 cases h with
 |lv=>omega
 |win a8 au ag hm=>exact⟨_,rfl⟩
theorem BD {b sz off n:Nat} {v:Value} (h:bw w S (.win b sz off n) v):(∃ad cap,v= .slice ad 0 cap∧n=0)∨∃cap c e fr,v= .slice (some ⟨b,off*sz,none⟩) n cap∧n≤cap∧w.heap[b]?=some (.cells c e fr)∧(off+cap)*sz≤c.size∧cap≤9223372036854775807:=by
 cases h with
 |lv=>exact .inl ⟨_,_,rfl,rfl⟩
 |win a8 au ag hm=>exact .inr ⟨_,_,_,_,rfl,au,a8,ag,hm⟩
theorem q2 {sz n:Nat} {v:Value} (h:bw w S (.own none sz n) v):∃ad,v= .slice ad 0 0∧n=0:=by
 cases h with
 |hV=>exact⟨_,rfl,rfl⟩
theorem sB {xs:List D} {v:Value} (h:bw w S (.ai xs) v):∃ad cap,v= .slice ad xs.length cap∧xs.length≤cap∧(xs=[]∨∃b off sz vals,ad=some ⟨b,off,none⟩∧S b∧bq w S (flat xs) vals∧p9 w b off vals∧∀x∈xs,x.cells.length=sz):=by
 cases h with
 |iX=>exact⟨_,_,rfl,by simp, .inl rfl⟩
 |ai ae ao ag af eJ=>exact⟨_,_,rfl,eJ, .inr ⟨_,_,_,_,rfl,ae,ao,ag,af⟩⟩
theorem qU {T:TypeId} (h:isStr P T=true):P.underlying T=some .string:=by
 unfold isStr at h;split at h
 ·assumption
 cases h
theorem Kp {T:TypeId} (h:ny P T=true):∃e,P.underlying T=some (.slice e)∧P.underlying e=some (.int .u8):=by
 unfold ny at h;split at h
 ·rename_i e he
  split at h
  ·rename_i ae;exact⟨e,l6 he,ae⟩
  cases h
 cases h
end
section steps
variable {P : Program} {N : cP} {C : Ctx P N} {env : Env} {σ : al} {a : Act} {w : World} {S : Nat → Prop} {o : Oper}
variable {Qp : D → al → Prop} {next : Env → al → Prop} {bN : Act → World → Prop} {Q : Exit → Act → World → Prop}
theorem sE {T:TypeId} {x y:Value} (bW:(Op.equal T x y).run P w= .ok false w) (aq:∀op bz bM,(eqGuard op T bz bM x y).run P w= .ok () w)
  (aa:binOp .eql T x y=(do pure (.bool (←Op.equal T x y)))) (ah:binOp .neq T x y=(do pure (.bool (!(←Op.equal T x y))))):
  ∀op,(op= .eql∨op= .neq)→∀bz bM,(do eqGuard op T bz bM x y;binOp op T x y:Sem Value).run P w= .ok (.bool (match op with| .neq=>true|_=>false)) w:=by
 intro op cp bz bM;rw[Sem.run_bind,aq];rcases cp with rfl|rfl
 ·show(binOp .eql T x y).run P w=_
  rw[aa,Sem.run_bind,bW];rfl
 show(binOp .neq T x y).run P w=_
 rw[ah,Sem.run_bind,bW];rfl
theorem yU {T:TypeId} {d e:D} {t:Bool} {x y:Value} (h:aEq (P.underlying T) d e=some t) (an:bw w S d x) (aF:bw w S e y):
  t=false∧∀op,(op= .eql∨op= .neq)→∀bz bM,(do eqGuard op T bz bM x y;binOp op T x y:Sem Value).run P w= .ok (.bool (match op with| .neq=>true|_=>false)) w:=by
 unfold aEq at h;split at h
 ·rename_i bY
  cases h;cases an;cases aF
  refine⟨rfl,sE ?_ (fun op bz bM=>by unfold eqGuard;cases op<;>rfl) rfl rfl⟩
  show(Op.equalIn (9999+1) _ _ _).run P w=_
  rw[Op.equalIn];simp[run_underlying bY]
 ·rename_i bY
  cases h;cases an;cases aF
  refine⟨rfl,sE ?_ (fun op bz bM=>by unfold eqGuard;cases op<;>rfl) rfl rfl⟩
  show(Op.equalIn (9999+1) _ _ _).run P w=_
  rw[Op.equalIn];simp[run_underlying bY]
 ·rename_i bY
  cases h;cases an;cases aF
  refine⟨rfl,sE ?_ (fun op bz bM=>by unfold eqGuard;cases op<;>rfl) rfl rfl⟩
  show(Op.equalIn (9999+1) _ _ _).run P w=_
  rw[Op.equalIn];simp[run_underlying bY]
 ·rename_i bY
  cases h;cases an;cases aF
  refine⟨rfl,sE ?_ (fun op bz bM=>by unfold eqGuard;cases op<;>rfl) rfl rfl⟩
  show(Op.equalIn (9999+1) _ _ _).run P w=_
  rw[Op.equalIn];simp[run_underlying bY]
 ·rename_i bY
  cases h;cases an;cases aF
  refine⟨rfl,sE ?_ (fun op bz bM=>by unfold eqGuard;cases op<;>rfl) rfl rfl⟩
  show(Op.equalIn (9999+1) _ _ _).run P w=_
  rw[Op.equalIn];simp[run_underlying bY]
 ·rename_i bY
  cases h;cases an;cases aF
  refine⟨rfl,sE ?_ (fun op bz bM=>by unfold eqGuard;cases op<;>rfl) rfl rfl⟩
  show(Op.equalIn (9999+1) _ _ _).run P w=_
  rw[Op.equalIn];simp[run_underlying bY]
 ·rename_i bY
  cases h;cases an;cases aF
  refine⟨rfl,sE ?_ (fun op bz bM=>by unfold eqGuard;cases op<;>rfl) rfl rfl⟩
  show(Op.equalIn (9999+1) _ _ _).run P w=_
  rw[Op.equalIn];simp[run_underlying bY]
 ·rename_i bY
  cases h;cases an;cases aF
  refine⟨rfl,sE ?_ (fun op bz bM=>by unfold eqGuard;cases op<;>rfl) rfl rfl⟩
  show(Op.equalIn (9999+1) _ _ _).run P w=_
  rw[Op.equalIn];simp[run_underlying bY]
 cases h
theorem Gn {T:TypeId} {d e:D} {ok:Bool→Prop} {x y:Value} (h:aNil (P.underlying T) d e=some ok) (an:bw w S d x) (aF:bw w S e y):
  ∃t,ok t∧∀op,(op= .eql∨op= .neq)→∀bz bM,(do eqGuard op T bz bM x y;binOp op T x y:Sem Value).run P w= .ok (.bool (match op with| .neq=> !t|_=>t)) w:=by
 have main:∀{t:Bool},(Op.equal T x y).run P w= .ok t w→(∀op bz bM,(eqGuard op T bz bM x y).run P w= .ok () w)→
  binOp .eql T x y=(do pure (.bool (←Op.equal T x y)))→binOp .neq T x y=(do pure (.bool (!(←Op.equal T x y))))→
  ∀op,(op= .eql∨op= .neq)→∀bz bM,(do eqGuard op T bz bM x y;binOp op T x y:Sem Value).run P w= .ok (.bool (match op with| .neq=> !t|_=>t)) w:=by
  intro t bW aq aa ah op cp bz bM;rw[Sem.run_bind,aq];rcases cp with rfl|rfl
  ·show(binOp .eql T x y).run P w=_
   rw[aa,Sem.run_bind,bW];rfl
  show(binOp .neq T x y).run P w=_
  rw[ah,Sem.run_bind,bW];rfl
 have key:∀(elem:TypeId) (ad:Option Addr) (n cap:Nat),P.underlying T=some (.slice elem)→x= .slice ad n cap→y= .slice none 0 0→∀ok:Bool→Prop,ok ad.isNone→
  ∃t,ok t∧∀op,(op= .eql∨op= .neq)→∀bz bM,(do eqGuard op T bz bM x y;binOp op T x y:Sem Value).run P w= .ok (.bool (match op with| .neq=> !t|_=>t)) w:=by
  intro elem ad n cap bY an aF ok cc;subst an;subst aF;refine⟨ad.isNone,cc,main ?_ (fun op bz bM=>by unfold eqGuard;cases op<;>rfl) rfl rfl⟩
  show(Op.equalIn (9999+1) _ _ _).run P w=_
  rw[Op.equalIn];cases ad<;>simp[run_underlying bY]
 unfold aNil at h;split at h
 ·rename_i bY
  cases h
  obtain⟨ad,cap,eG,_,au⟩:=sB an;refine key _ ad _ cap bY eG aF.eh _ fun aZ=> ?_;rcases au with au|⟨b,off,sz,vals,rfl,_⟩
  ·exact absurd au aZ
  rfl
 ·rename_i bY
  cases h
  obtain⟨ad,eG,_⟩:=q2 an;exact key _ ad _ _ bY eG aF.eh _ trivial
 cases h
theorem Kg {d:Option TypeDesc} {x y:D} (h:ifcNil d x y=true):aEq d x y=some false:=by
 unfold ifcNil at h;split at h
 ·unfold isIfc at h;split at h
  ·rfl
  cases h
 cases h
theorem WY (h:ck C env σ w S a.tmps) (bm:a.defers=C.ds) (aX:dV N o.dst) (bk:∀a w,dR C next a w→bN a w) {op:BinOp} {T T2:TypeId} {x y:Operand} (aH:o.op= .binOp op T x y T2)
  (ak:cQ P Qp next o.dst env σ (cF P op T x y (ev env x) (ev env y))):o.wp P a w bN Q:=by
 have an:=df h x;have aF:=df h y;unfold cF at ak;split at ak
 ·rename_i au
  have bc:=Kg au;obtain⟨_,bS⟩:=yU bc an aF;refine eC h bm aX bk (v:= .bool false) ?_ (.v rfl) ak.2;have:=bS .eql (.inl rfl) x y;simp only[execOp,aH];rw[Sem.run_bind,this];rfl
 ·rename_i au
  have bc:=Kg au;obtain⟨_,bS⟩:=yU bc an aF;refine eC h bm aX bk (v:= .bool true) ?_ (.v rfl) ak.2;have:=bS .neq (.inr rfl) x y;simp only[execOp,aH];rw[Sem.run_bind,this];rfl
 rename_i kO ey
 clear kO ey;unfold fQ at ak;split at ak
 ·rename_i u v hu mO
  obtain⟨d,z,bS,cl,aj⟩:=we ak w S;have bt:=nV hu an;have b_:=nV mO aF;exact eC h bm aX bk (v:=z) (by simp only[execOp,aH,bt,b_];rw[Sem.run_bind,bS];rfl) cl aj
 split at ak
 ·rename_i t bc
  obtain⟨rfl,bS⟩:=yU bc an aF;refine eC h bm aX bk (v:= .bool false) ?_ (.v rfl) ak.2;have:=bS .eql (.inl rfl) x y;simp only[execOp,aH];rw[Sem.run_bind,this];rfl
 ·rename_i t bc
  obtain⟨rfl,bS⟩:=yU bc an aF;refine eC h bm aX bk (v:= .bool true) ?_ (.v rfl) ak.2;have:=bS .neq (.inr rfl) x y;simp only[execOp,aH];rw[Sem.run_bind,this];rfl
 split at ak
 ·obtain⟨t,bc,bS⟩:=Gn (by assumption) an aF;refine eC h bm aX bk (v:= .bool t) ?_ (.v rfl) (ak t bc);have:=bS .eql (.inl rfl) x y;simp only[execOp,aH];rw[Sem.run_bind,this];rfl
 ·obtain⟨t,bc,bS⟩:=Gn (by assumption) an aF;refine eC h bm aX bk (v:= .bool (!t)) ?_ (.v rfl) (ak t bc);have:=bS .neq (.inr rfl) x y;simp only[execOp,aH];rw[Sem.run_bind,this];rfl
 exact ak.elim
theorem W' (h:ck C env σ w S a.tmps) (bm:a.defers=C.ds) (aX:dV N o.dst) (bk:∀a w,dR C next a w→bN a w) {T:TypeId} {x y:Operand} (aH:o.op= .indexAddr T x y)
  (ak:cQ P Qp next o.dst env σ (aIndexAddr P T (ev env x) (ev env y))):o.wp P a w bN Q:=by
 have an:=df h x;have aF:=df h y;unfold aIndexAddr at ak;split at ak
 ·rename_i e i he hi
  have bY:=l6 he;have nx:∃k,a.eval y= .int k i:=by
   unfold nB at hi;split at hi
   ·rename_i k n Eu;cases hi;rw[Eu]at aF;exact⟨k,aF.eh⟩
   cases hi
  obtain⟨k,nx⟩:=nx;split at ak
  ·rename_i n xs au aw
   rw[aw]at an;obtain⟨⟨bj,aa,ah⟩,aj⟩:=ak;obtain⟨ad,cap,cG,eJ,xT|⟨b,off,sz,vals,rfl,ae,ao,ag,af⟩⟩:=sB an
   ·subst xT;simp at aa;omega
   have jm:i.toNat<xs.length:=by omega
   have bU:n=sz:=by rw[←ah,dC _ _ _ jm];exact af _ (List.getElem_mem jm)
   subst bU;refine eC h bm aX bk (v:= .pointer (some ⟨b,off+i.toNat*n,none⟩)) ?_ (.c0 ae (vals:=(vals.drop (i.toNat*n)).take n) ?_ ?_) aj
   ·have eN:(⟨b,off,none⟩:Addr).add (i.toNat*n)=⟨b,off+i.toNat*n,none⟩:=by
     unfold Addr.add;split<;>simp_all
    simp only[execOp,aH,cG,nx];simp[Instr.indexAt,asIntOf,run_underlying bY,run_sizeOf au,bj,aa,eN]
   ·have Ed:((flat xs).drop (i.toNat*n)).take n=(xs.getD i.toNat .any).cells:=by
     apply List.ext_getElem?;intro U;rw[List.getElem?_take];by_cases aR:U<n
     ·rw[if_pos aR,List.getElem?_drop,zh xs n af i.toNat jm U aR]
     rw[if_neg aR,List.getElem?_eq_none (by omega)]
    rw[←Ed];exact(ao.drop _).take _
   intro U v aR;rw[List.getElem?_take]at aR;split at aR
   ·rw[List.getElem?_drop]at aR;rw[show off+i.toNat*n+U=off+(i.toNat*n+U) by omega];exact ag _ v aR
   cases aR
  ·rename_i n b sz len au aw
   rw[aw]at an;obtain⟨⟨bj,aa,ah⟩,aj⟩:=ak;subst ah;obtain⟨cap,c,cV,fr,cG,eJ,a8,dg⟩:=vU an;refine eC h bm aX bk (v:= .pointer (some ⟨b,i.toNat*sz+0,none⟩)) ?_ .ptr aj;have eN:(⟨b,0,none⟩:Addr).add (i.toNat*sz)=⟨b,i.toNat*sz,none⟩:=by
    unfold Addr.add;split<;>simp_all
   simp only[execOp,aH,cG,nx];simp[Instr.indexAt,asIntOf,run_underlying bY,run_sizeOf au,bj,aa,eN]
  ·rename_i n b sz off len au aw
   rw[aw]at an;obtain⟨⟨bj,aa,ah⟩,aj⟩:=ak;subst ah;obtain⟨cap,cG⟩:=Ng an (by omega);refine eC h bm aX bk (v:= .pointer (some ⟨b,(off+i.toNat)*sz+0,none⟩)) ?_ .ptr aj;have eN:(⟨b,off*sz,none⟩:Addr).add (i.toNat*sz)=⟨b,(off+i.toNat)*sz,none⟩:=by
    rw[Nat.add_mul];unfold Addr.add;split<;>simp_all
   simp only[execOp,aH,cG,nx];simp[Instr.indexAt,asIntOf,run_underlying bY,run_sizeOf au,bj,aa,eN]
  exact ak.elim
 ·rename_i i he hi
  have nx:∃k,a.eval y= .int k i:=by
   unfold nB at hi;split at hi
   ·rename_i k n Eu;cases hi;rw[Eu]at aF;exact⟨k,aF.eh⟩
   cases hi
  obtain⟨k,nx⟩:=nx;have rN:∀{len n:Nat},uu P T=some (len,n)→∃e,P.underlying T=some (.array len e)∧cY P e=some n:=by
   intro len n h;unfold uu at h;split at h
   ·rename_i m e tr
    obtain⟨fL,kd,gl⟩:=Option.map_eq_some_iff.1 h;cases gl
    exact⟨e,tr,kd⟩
   cases h
  split at ak
  ·rename_i len n b sz U ao aw
   rw[aw]at an;obtain⟨⟨bj,aa,ah⟩,aj⟩:=ak;subst ah;obtain⟨e,bY,au⟩:=rN ao;have cG:=vX an;refine eC h bm aX bk (v:= .pointer (some ⟨b,(U+i.toNat)*sz+0,none⟩)) ?_ .ptr aj;have eN:(⟨b,U*sz+0,none⟩:Addr).add (i.toNat*sz)=⟨b,(U+i.toNat)*sz,none⟩:=by
    rw[Nat.add_mul];unfold Addr.add;split<;>simp_all
   simp only[execOp,aH,cG,nx];simp only[Nat.add_zero]at eN⊢;simp[Instr.indexAt,Instr.sureAddr,asIntOf,run_underlying bY,run_sizeOf au,bj,aa,eN]
  ·rename_i len n cs ao aw
   rw[aw]at an;obtain⟨⟨bj,aa,ah⟩,aj⟩:=ak;obtain⟨e,bY,au⟩:=rN ao;obtain⟨b,off,vals,cG,ae,ju,ag⟩:=za an;refine eC h bm aX bk (v:= .pointer (some ⟨b,off+i.toNat*n,none⟩)) ?_ (.c0 ae (ju.drop (i.toNat*n)) fun U v aR=> ?_) aj
   ·have eN:(⟨b,off,none⟩:Addr).add (i.toNat*n)=⟨b,off+i.toNat*n,none⟩:=by
     unfold Addr.add;split<;>simp_all
    simp only[execOp,aH,cG,nx];simp[Instr.indexAt,Instr.sureAddr,asIntOf,run_underlying bY,run_sizeOf au,bj,aa,eN]
   rw[List.getElem?_drop]at aR;rw[Nat.add_assoc];exact ag _ v aR
  exact ak.elim
 exact ak.elim
theorem yb {d:D} {i:Int} {v:Value} (hi:nB d=some i) (ao:bw w S d v):∃k,v= .int k i:=by
 unfold nB at hi;split at hi
 ·rename_i k n;cases hi;exact⟨k,ao.eh⟩
 cases hi
theorem W_ (h:ck C env σ w S a.tmps) (bm:a.defers=C.ds) (aX:dV N o.dst) (bk:∀a w,dR C next a w→bN a w) {T:TypeId} {x y:Operand} (aH:o.op= .index T x y)
  (ak:cQ P Qp next o.dst env σ (aIndex P T (ev env x) (ev env y))):o.wp P a w bN Q:=by
 have an:=df h x;have aF:=df h y;unfold aIndex at ak;split at ak
 ·rename_i s i aw hi
  rw[aw]at an;obtain⟨k,nx⟩:=yb hi aF;obtain⟨⟨bc,bj,aa⟩,aj⟩:=ak;have aC:i.toNat<s.size:=by omega
  refine eC h bm aX bk (v:= .int .u8 ((s.data.toList.getD i.toNat 0).toNat:Int)) ?_ (.v rfl) aj;have Ef:s[i.toNat]?=some (s.data.toList.getD i.toNat 0):=by
   have ah:i.toNat<s.data.size:=aC;rw[dC _ _ _ (by simpa using ah)];simp[getElem?_pos,aC];rfl
  simp only[execOp,aH,an.eh,nx];simp[Instr.index,asIntOf,run_underlying (qU bc),bj,Ef]
 exact ak.elim
end steps
end Go.Ab
namespace Go.Ab
open Go
section
variable {P : Program} {w : World} {S : Nat → Prop}
theorem ED {d:D} {v:Value} (h:isByte d=true) (ao:bw w S d v):v= .int .u8 ((byteOf d).toNat:Int):=by
 unfold isByte at h;split at h
 ·rename_i n
  rw[ao.eh];simp only[decide_eq_true_eq]at h;simp only[byteOf];congr 1
  have:n.toNat<256:=by omega
  rw[UInt8.toNat_ofNat_of_lt' (by simpa using this)];omega
 cases h
theorem EC {d:D} (h:isByte d=true):d.cells=[d]:=by
 unfold isByte at h;split at h
 ·rfl
 cases h
theorem Cn:∀(xs:List D),xs.all isByte=true→flat xs=xs
 |[],_=>rfl
 |x::xs,h=>by
  simp only[List.all_cons,Bool.and_eq_true]at h;rw[n_,EC h.1,Cn xs h.2];rfl
theorem N1 {xs:List D} {vals:List Value} (h:xs.all isByte=true) (ao:bq w S xs vals) (U:Nat) (aR:U<(xs.map byteOf).length):vals[U]?=some (.int .u8 (((xs.map byteOf)[U]).toNat:Int)):=by
 have oC:U<xs.length:=by simpa using aR
 obtain⟨v,ak,cl⟩:=ao.get U xs[U] (by simp);rw[ak];have ae:isByte xs[U]=true:=(List.all_eq_true.1 h) _ (List.getElem_mem oC);rw[ED ae cl];simp
theorem yC {src dst:TypeId} {ad:Option Addr} {xs:List D} {cap:Nat} (af:ny P src=true) (aw:isStr P dst=true)
  (ag:∀(U:Nat) (aR:U<(xs.map byteOf).length),∃a,ad=some a∧w.cell? (a.add U)=some (.int .u8 (((xs.map byteOf)[U]).toNat:Int))):
  (convert src dst (.slice ad xs.length cap)).run P w= .ok (.string (bytesOf xs)) w:=by
 obtain⟨e,xF,rV⟩:=Kp af;have xE:=qU aw;cases xs with
 |nil=>
  cases ad with
  |none=>simp[convert,run_underlying xF,run_underlying xE,run_underlying rV,Conv.bytesToString,bytesOf];rfl
  |some a=>
   have:=run_convert_bytes_back (P:=P) w src dst e a cap [] xF rV xE (fun U aR=>by simp at aR);simpa [bytesOf]using this
 |cons x xs=>
  obtain⟨a,rfl,_⟩:=ag 0 (by simp);have:=run_convert_bytes_back (P:=P) w src dst e a cap ((x::xs).map byteOf) xF rV xE (fun U aR=>by
   obtain⟨na,bb,h⟩:=ag U aR;cases bb
   exact h)
  simpa [bytesOf]using this
theorem pf (b off U:Nat):(⟨b,off,none⟩:Addr).add U=⟨b,off+U,none⟩:=by unfold Addr.add;split<;>simp_all
theorem TE (c:UInt8):isByte (bD c)=true:=by
 have:c.toNat<256:=c.toNat_lt;simp[isByte,bD];omega
theorem N0 (c:UInt8):byteOf (bD c)=c:=by
 simp[byteOf,bD]
theorem FC:∀(l:List UInt8),bq w S (l.map bD) (l.map fun c=> .int .u8 (c.toNat:Int))
 |[]=> .nil
 |_::l=> .cons (.v rfl) (FC l)
theorem HN (l:List UInt8):flat (l.map bD)=l.map bD:=Cn _ (by simp[TE])
end
section steps
variable {P : Program} {N : cP} {C : Ctx P N} {env : Env} {σ : al} {a : Act} {w : World} {S : Nat → Prop} {o : Oper}
variable {Qp : D → al → Prop} {next : Env → al → Prop} {bN : Act → World → Prop} {Q : Exit → Act → World → Prop}
theorem Co (aA:∀b,S b→b<w.heap.size) (σ:al):Fr w S (cq σ) w.drew S σ:=
 ⟨rfl,rfl,rfl,Nat.le_refl _,Shape.refl w,fun _ _ _=>rfl,fun _ h=>h,fun _ h=> .inl h,fun _ h=> .inl h,aA⟩
theorem Bq (h:da w S σ):da w.drew S σ:=fun b o ae=>by
 obtain⟨aa,ah⟩:=h b o ae;exact⟨aa,ah.ev ⟨fun _ h=>h,fun _ _=>rfl,Shape.refl w⟩ rfl⟩
theorem MS (h:ck C env σ w S a.tmps) (bm:a.defers=C.ds) (aX:dV N o.dst) {ob:Obj} {x:aE} {d:D} {v:Value}
  (bk:∀a w,dR C next a w→bN a w) (bS:(execOp a.eval o).run P w= .ok (.value v) (w.drew.alloc ob)) (an:gR (w.drew.alloc ob) S w.heap.size x) (aw:bw (w.drew.alloc ob) S d v)
  (au:next (eputo o.dst d env) ((w.heap.size,x)::σ)):o.wp P a w bN Q:=by
 have jh:ck C env σ w.drew S a.tmps:=⟨h.env.ev (nT h (Co h.fr.lt σ)),Bq h.store,h.fr.trans (Co h.fr.lt σ),h.size⟩;refine step_ok h bm aX bk bS aw (wm (Bq h.store) h.fr.lt ob x an) ?_ au;exact(Co h.fr.lt σ).trans (w7 jh ob x)
theorem W4 (h:ck C env σ w S a.tmps) (bm:a.defers=C.ds) (aX:dV N o.dst) (bk:∀a w,dR C next a w→bN a w) {src dst:TypeId} {x:Operand} (aH:o.op= .convert src dst x)
  (ak:cQ P Qp next o.dst env σ (lA P σ src dst (ev env x))):o.wp P a w bN Q:=by
 have an:=df h x;unfold lA at ak;split at ak
 ·rename_i xs aw
  rw[aw]at an;obtain⟨⟨aa,ah,aJ⟩,aj⟩:=ak;obtain⟨ad,cap,cG,eJ,ow⟩:=sB an;refine eC h bm aX bk (v:= .string (bytesOf xs)) ?_ (.v rfl) aj;have bS:(convert src dst (.slice ad xs.length cap)).run P w= .ok (.string (bytesOf xs)) w:=yC aa ah (fun U aR=>by
   rcases ow with rfl|⟨b,off,sz,vals,rfl,ae,ao,ag,af⟩
   ·simp at aR
   refine⟨_,rfl, ?_⟩;rw[pf];rw[Cn xs aJ]at ao;exact ag U _ (N1 aJ ao U aR))
  simp[execOp,aH,cG,bS]
 ·rename_i ob sz n aw
  rw[aw]at an;split at ak
  ·rename_i xs af
   obtain⟨⟨aa,ah,aJ,bg⟩,aj⟩:=ak;refine eC h bm aX bk (v:= .string (bytesOf (xs.take n))) ?_ (.v rfl) aj;cases ob with
   |none=>
    obtain⟨ad,cG,rfl⟩:=q2 an;have bS:(convert src dst (.slice ad 0 0)).run P w= .ok (.string (bytesOf [])) w:=yC (xs:=[]) aa ah (fun U aR=>by simp at aR);simp only[execOp,aH,cG];rw[Sem.run_bind,bS];rfl
   |some b=>
    obtain⟨cap,c,e,fr,cG,eJ,a8,dg⟩:=vU an;simp only[bL]at af;split at af
    ·rename_i s ys aq
     split at af
     ·rename_i hj
      cases af;subst hj
      have iL:=(h.store b _ aq).2;have Qh:(xs.take n).all isByte=true:=by
       rw[List.all_eq_true]at aJ⊢;exact fun y aF=>aJ y (List.mem_of_mem_take aF)
      have bS:(convert src dst (.slice (some ⟨b,0,none⟩) (xs.take n).length cap)).run P w= .ok (.string (bytesOf (xs.take n))) w:=yC aa ah (fun U aR=>by
       refine⟨_,rfl, ?_⟩;rw[pf,Nat.zero_add];have oC:U<xs.length:=by simp at aR;omega
       have gK:U<n:=by simp at aR;omega
       obtain⟨v,ak,cl⟩:=yZ iL oC 0 0 xs[U] (by
        have ae:=(List.all_eq_true.1 aJ) _ (List.getElem_mem oC);rw[dC _ _ _ oC,EC ae];simp)
       simp only[Nat.mul_one,Nat.add_zero]at ak;rw[ak,ED ((List.all_eq_true.1 aJ) _ (List.getElem_mem oC)) cl];simp)
      rw[List.length_take,Nat.min_eq_left bg]at bS;simp[execOp,aH,cG,bS]
     cases af
    cases af
  exact ak.elim
 ·rename_i b sz off n aw
  rw[aw]at an;split at ak
  ·rename_i xs af
   obtain⟨⟨aa,ah,aJ,bg,bU⟩,aj⟩:=ak;refine eC h bm aX bk (v:= .string (bytesOf ((xs.drop off).take n))) ?_ (.v rfl) aj;rcases BD an with⟨ad,cap,cG,rfl⟩|⟨cap,c,e,fr,cG,eJ,a8,dg,hC⟩
   ·have bS:(convert src dst (.slice ad 0 cap)).run P w= .ok (.string (bytesOf [])) w:=yC (xs:=[]) aa ah (fun U aR=>by simp at aR);simp only[execOp,aH,cG];rw[Sem.run_bind,bS];rfl
   simp only[bL]at af;split at af
   ·rename_i s ys aq
    split at af
    ·rename_i hj
     cases af;subst hj
     have iL:=(h.store b _ aq).2;have Qh:((xs.drop off).take n).all isByte=true:=by
      rw[List.all_eq_true]at aJ⊢;exact fun y aF=>aJ y (List.mem_of_mem_drop (List.mem_of_mem_take aF))
     have hlen:((xs.drop off).take n).length=n:=by simp;omega
     subst bU;have bS:(convert src dst (.slice (some ⟨b,off,none⟩) ((xs.drop off).take n).length cap)).run P w= .ok (.string (bytesOf ((xs.drop off).take n))) w:=yC aa ah (fun U aR=>by
      refine⟨_,rfl, ?_⟩;rw[pf];have gK:U<n:=by simp at aR;omega
      have oC:off+U<xs.length:=by omega
      obtain⟨v,ak,cl⟩:=yZ iL oC 0 0 xs[off+U] (by
       have ae:=(List.all_eq_true.1 aJ) _ (List.getElem_mem oC);rw[dC _ _ _ oC,EC ae];simp)
      simp only[Nat.mul_one,Nat.add_zero]at ak;rw[ak,ED ((List.all_eq_true.1 aJ) _ (List.getElem_mem oC)) cl];simp)
     rw[hlen]at bS;simp[execOp,aH,cG,bS]
    cases af
   cases af
  exact ak.elim
 ·rename_i s aw
  rw[aw]at an;split at ak
  ·rename_i ag
   obtain⟨e,xF,rV⟩:=Kp ag.1;have bS:=run_bytes_of_string (P:=P) w src dst e s (qU ag.2) xF rV;generalize aq:grownCap w s.size 0 e=cap at bS;have eJ:s.size≤cap:=by have:=grownCap_ge w s.size 0 e;omega
   have kE:(bytesRow s cap).size=cap:=by simp[bytesRow];have:s.data.size=s.size:=rfl;omega
   refine MS h bm aX bk (v:= .slice (some ⟨w.heap.size,0,none⟩) s.size cap) ?_ ?_ ?_ (ak.2 _ (lh h.store)) (ob:= .cells (bytesRow s cap) e ((bytesRow s cap).size,(bytesRow s cap).size+1))
   ·simp only[execOp,aH,an.eh];rw[Sem.run_bind,bS];rfl
   ·refine⟨_,_,_,_,s.data.toList.map fun c=> .int .u8 (c.toNat:Int),heap_alloc w.drew _, ?_, ?_, ?_, .inr (Nat.le_refl _)⟩
    ·rw[HN];exact FC _
    ·intro k v aj;have kd:=(List.getElem?_eq_some_iff.1 aj).1;simp only[List.length_map,Array.length_toList]at kd;rw[bytesRow,Array.getElem?_append_left (by simpa using kd)];simpa using aj
    intro y aF;obtain⟨c,_,rfl⟩:=List.mem_map.1 aF;rfl
   exact bw.own (heap_alloc w.drew _) eJ (by rw[kE];omega) (by have rK:=ak.1;have:=grownCap_le_maxLen w s.size 0 e (by unfold maxLen;omega);rw[aq]at this;exact this)
  obtain⟨d,v,bS,cl,aj⟩:=we ak w S;exact eC h bm aX bk (v:=v) (by simp only[execOp,aH,an.eh];rw[Sem.run_bind,bS];rfl) cl aj
 ·rename_i y _ aw
  rw[aw]at an;obtain⟨d,v,bS,cl,aj⟩:=we ak w S;exact eC h bm aX bk (v:=v) (by simp only[execOp,aH,an.eh];rw[Sem.run_bind,bS];rfl) cl aj
 exact ak.elim
end steps
end Go.Ab
namespace Go.Ab
open Go
section
variable {P : Program} {w : World} {S : Nat → Prop}
theorem iU {lo:Option D} {BA:Option Value} {z l:Int} (h:jy lo z=some l) (ao:∀d,lo=some d→∃v,BA=some v∧bw w S d v) (au:lo=none→BA=none):
  (BA=none∧l=z)∨∃k,BA=some (.int k l):=by
 cases lo with
 |none=>simp[jy]at h;exact .inl ⟨au rfl,h.symm⟩
 |some d=>
  obtain⟨v,rfl,ak⟩:=ao d rfl;obtain⟨k,rfl⟩:=yb h ak;exact .inr ⟨k,rfl⟩
theorem q' {isSlice:Bool} {len cap:Nat} {lo hi:Option Value} {l h:Int} (kf:(lo=none∧l=0)∨∃k,lo=some (.int k l)) (tD:(hi=none∧h=len)∨∃k,hi=some (.int k h))
  (bj:0≤l) (aa:l≤h) (ah:h≤cap):(Instr.sliceBounds isSlice len cap lo hi none).run P w= .ok (l.toNat,h.toNat,cap) w:=by
 have aam:(h.toNat:Int)=h:=Int.toNat_of_nonneg (by omega);have aJ:0≤h:=by omega
 have bg:l≤(h.toNat:Int):=by omega
 rcases kf with⟨rfl,rfl⟩|⟨sn,rfl⟩<;>rcases tD with⟨rfl,rfl⟩|⟨AD,rfl⟩
 ·simp[Instr.sliceBounds]
 ·cases isSlice<;>simp[Instr.sliceBounds,run_sliceBound w AD h cap _ aJ ah]
 ·simp[Instr.sliceBounds,run_sliceBound w sn l len _ bj aa]
 cases isSlice<;>simp[Instr.sliceBounds,run_sliceBound w AD h cap _ aJ ah,run_sliceBound w sn l h.toNat _ bj bg]
theorem zg {sz:Nat}:∀(ys:List D) (k:Nat),(∀y∈ys,y.cells.length=sz)→flat (ys.drop k)=(flat ys).drop (k*sz)
 |[],k,_=>by simp
 |y::ys,0,_=>by simp
 |y::ys,k+1,aF=>by
  have aa:y.cells.length=sz:=aF y (by simp);have ah:y.cells.drop ((k+1)*sz)=[]:=List.drop_of_length_le (by rw[aa,Nat.succ_mul];omega);rw[List.drop_succ_cons,zg ys k (fun z aO=>aF z (by simp[aO])),n_,List.drop_append,ah,aa,show(k+1)*sz-sz=k*sz by rw[Nat.succ_mul];omega];simp
theorem rE {sz:Nat}:∀(ys:List D) (k:Nat),(∀y∈ys,y.cells.length=sz)→flat (ys.take k)=(flat ys).take (k*sz)
 |[],k,_=>by simp
 |y::ys,0,_=>by simp
 |y::ys,k+1,aF=>by
  have aa:y.cells.length=sz:=aF y (by simp);have ah:y.cells.take ((k+1)*sz)=y.cells:=List.take_of_length_le (by rw[aa,Nat.succ_mul];omega);rw[List.take_succ_cons,n_,rE ys k (fun z aO=>aF z (by simp[aO])),n_,List.take_append,ah,aa,show(k+1)*sz-sz=k*sz by rw[Nat.succ_mul];omega]
end
section steps
variable {P : Program} {N : cP} {C : Ctx P N} {env : Env} {σ : al} {a : Act} {w : World} {S : Nat → Prop} {o : Oper}
variable {Qp : D → al → Prop} {next : Env → al → Prop} {bN : Act → World → Prop} {Q : Exit → Act → World → Prop}
theorem vS (h:ck C env σ w S a.tmps) (lo:Option Operand):(∀d,lo.map (ev env)=some d→∃v,lo.map a.eval=some v∧bw w S d v)∧(lo.map (ev env)=none→lo.map a.eval=none):=by
 cases lo with
 |none=>exact⟨fun d aw=>(nomatch aw),fun _=>rfl⟩
 |some x=>exact⟨fun d aw=>by cases aw;exact⟨_,rfl,df h x⟩,fun aw=>(nomatch aw)⟩
theorem sA {T e:TypeId} {n:Nat} {ad:Option Addr} {len cap:Nat} {lo hi mx:Option Value} {l h m:Nat} (he:eZ P T=some e) (au:cY P e=some n)
  (ae:(Instr.sliceBounds true len cap lo hi mx).run P w= .ok (l,h,m) w):
  (Instr.sliceAt T (.slice ad len cap) lo hi mx).run P w= .ok (.slice (if m=l then ad else ad.map (·.add (l*n))) (h-l) (m-l)) w:=by
 simp only[Instr.sliceAt,Sem.run_bind,run_underlying (l6 he),Result.andThen];simp only[Instr.slice,Sem.run_bind,run_underlying (l6 he),Result.andThen];simp[ae,run_sizeOf au]
theorem Xn (h:ck C env σ w S a.tmps) (bm:a.defers=C.ds) (aX:dV N o.dst) (bk:∀a w,dR C next a w→bN a w) {T:TypeId} {x:Operand} {lo hi mx:Option Operand} (aH:o.op= .slice T x lo hi mx) {b sz U i:Nat} (aw:ev env x= .ptr b sz U i)
  (ak:cQ P Qp next o.dst env σ (aSliceArr P σ T b sz U i (lo.map (ev env)) (hi.map (ev env)) (mx.map (ev env)))):o.wp P a w bN Q:=by
 have an:=df h x;rw[aw]at an;obtain⟨o6,o7⟩:=vS h lo;obtain⟨o4,o5⟩:=vS h hi;obtain⟨Mj,pZ⟩:=vS h mx;unfold aSliceArr at ak;split at ak
 ·rename_i len n hm ao
  split at ak
  ·rename_i l a8 cm xs ij jK af
   obtain⟨⟨bj,aa,ah,rfl,rfl,cu,de⟩,aj⟩:=ak;have rN:∃e,P.underlying T=some (.array len e)∧cY P e=some cm:=by
    unfold uu at ao;split at ao
    ·rename_i m e tr
     obtain⟨fL,kd,gl⟩:=Option.map_eq_some_iff.1 ao;cases gl
     exact⟨e,tr,kd⟩
    cases ao
   obtain⟨e,bY,au⟩:=rN;have cG:=vX an;have ae:=q' (P:=P) (w:=w) (isSlice:=false) (len:=len) (cap:=len) (iU ij o6 o7) (iU jK o4 o5) bj aa ah;obtain⟨c,cV,ada,lQ,vals,iF,ju,ag,bU,iD⟩:=(h.store b _ af).2;have gp:(U+len)*cm≤c.size:=by
    have jN:vals.length=xs.length*cm:=by rw[ju.length,n' xs cm bU]
    have hle:(U+len)*cm≤vals.length:=by rw[jN];exact Nat.mul_le_mul_right _ cu
    rcases Nat.eq_zero_or_pos ((U+len)*cm)with aO|aO
    ·omega
    obtain⟨v,ak⟩:∃v,vals[(U+len)*cm-1]?=some v:=⟨vals[(U+len)*cm-1]'(by omega),List.getElem?_eq_getElem _⟩;have:=(Array.getElem?_eq_some_iff.1 (ag _ v ak)).1;omega
   refine eC h bm aX bk (v:= .slice (some (if len=l.toNat then(⟨b,U*cm+0,none⟩:Addr)else(⟨b,U*cm+0,none⟩:Addr).add (l.toNat*cm))) (a8.toNat-l.toNat) (len-l.toNat)) ?_ ?_ aj
   ·simp only[execOp,aH,cG];rw[pZ hm];simp only[Instr.sliceAt,Sem.run_bind,run_underlying bY,Result.andThen,Instr.sureAddr];simp[ae,run_sizeOf au]
   have r2:(a8-l).toNat=a8.toNat-l.toNat:=by omega
   rw[r2];by_cases aO:a8.toNat-l.toNat=0
   ·rw[aO];exact .lv
   rw[if_neg (by omega),pf,Nat.add_zero,←Nat.add_mul];exact bw.win iF (by omega) (Nat.le_trans (Nat.mul_le_mul_right _ (by omega)) gp) (by omega)
  exact ak.elim
 exact ak.elim
theorem Xm (h:ck C env σ w S a.tmps) (bm:a.defers=C.ds) (aX:dV N o.dst) (bk:∀a w,dR C next a w→bN a w) {T:TypeId} {x:Operand} {lo hi mx:Option Operand} (aH:o.op= .slice T x lo hi mx)
  (ak:cQ P Qp next o.dst env σ (aSlice P T (ev env x) (lo.map (ev env)) (hi.map (ev env)) (mx.map (ev env)))):o.wp P a w bN Q:=by
 have an:=df h x;obtain⟨o6,o7⟩:=vS h lo;obtain⟨o4,o5⟩:=vS h hi;obtain⟨Mj,pZ⟩:=vS h mx;have fin:∀{d v},(Instr.sliceAt T (a.eval x) (lo.map a.eval) (hi.map a.eval) (mx.map a.eval)).run P w= .ok v w→bw w S d v→next (eputo o.dst d env) σ→o.wp P a w bN Q:=
  fun bS cl aj=>eC h bm aX bk (v:=_) (by simp only[execOp,aH];rw[Sem.run_bind,bS];rfl) cl aj
 have y9:∀{ad:Option Addr} {len cap:Nat} {m:D},a.eval x= .slice ad len cap→mx.map (ev env)=some m→cQ P Qp next o.dst env σ (match jy (lo.map (ev env)) 0,jy (hi.map (ev env)) 1,nB m,(eZ P T).bind (cY P)with
   |some l,some h,some m,some n=> .val (l=0∧h=0∧m=0) (.own none n 0)
   |_,_,_,_=> .bad)→o.wp P a w bN Q:=by
  intro ad len cap m cG hm ak;split at ak
  ·rename_i l a8 ue n ij jK RZ au
   obtain⟨⟨rfl,rfl,rfl⟩,aj⟩:=ak;obtain⟨e,he,aZ⟩:=Option.bind_eq_some_iff.1 au;obtain⟨akp,Ta,Ea⟩:=Mj m hm;obtain⟨TT,rfl⟩:=yb RZ Ea;have kf:=iU ij o6 o7;have tD:=iU jK o4 o5;have ae:(Instr.sliceBounds true len cap (lo.map a.eval) (hi.map a.eval) (mx.map a.eval)).run P w= .ok (0,0,0) w:=by
    rcases tD with⟨_,aa⟩|⟨AD,a8⟩
    ·cases aa
    rw[a8,Ta];have bt:=run_sliceBound (P:=P) w TT 0 cap .slice3Acap (Int.le_refl _) (by omega);have b_:=run_sliceBound (P:=P) w AD 0 0 .slice3B (Int.le_refl _) (Int.le_refl _);rcases kf with⟨ah,_⟩|⟨sn,ah⟩
    ·rw[ah];simp[Instr.sliceBounds,bt,b_]
    have er:=run_sliceBound (P:=P) w sn 0 0 .slice3C (Int.le_refl _) (Int.le_refl _);rw[ah];simp[Instr.sliceBounds,bt,b_,er]
   exact fin (by rw[cG];exact sA he aZ ae) (by simpa using bw.hV) aj
  exact ak.elim
 unfold aSlice at ak;split at ak
 ·rename_i s aw hm
  rw[aw]at an;split at ak
  ·rename_i l a8 ij jK
   obtain⟨⟨bc,bj,aa,ah⟩,aj⟩:=ak;have ae:=q' (P:=P) (w:=w) (isSlice:=false) (len:=s.size) (cap:=s.size) (iU ij o6 o7) (iU jK o4 o5) bj aa ah;refine fin (v:= .string (s.extract l.toNat a8.toNat)) ?_ (.v rfl) aj;rw[an.eh,pZ hm];simp only[Instr.sliceAt,Sem.run_bind,run_underlying (qU bc),Result.andThen];simp only[Instr.slice,Sem.run_bind,run_underlying (qU bc),Result.andThen];simp[ae]
  exact ak.elim
 ·rename_i xs aw hm
  rw[aw]at an;split at ak
  ·rename_i l a8 n ij jK au
   obtain⟨⟨bj,aa,ah,aJ⟩,aj⟩:=ak;obtain⟨e,he,aZ⟩:=Option.bind_eq_some_iff.1 au;obtain⟨ad,cap,cG,eJ,ow⟩:=sB an;have ae:=q' (P:=P) (w:=w) (isSlice:=true) (len:=xs.length) (cap:=cap) (iU ij o6 o7) (iU jK o4 o5) bj aa (by omega);refine fin (v:= .slice (if cap=l.toNat then ad else ad.map (·.add (l.toNat*n))) (a8.toNat-l.toNat) (cap-l.toNat)) ?_ ?_ aj
   ·rw[cG,pZ hm];exact sA he aZ ae
   have hlen:((xs.take a8.toNat).drop l.toNat).length=a8.toNat-l.toNat:=by simp;omega
   by_cases aO:a8.toNat-l.toNat=0
   ·have:(xs.take a8.toNat).drop l.toNat=[]:=List.length_eq_zero_iff.1 (by omega);rw[this,aO];exact .iX
   rcases ow with rfl|⟨b,off,sz,vals,rfl,k_,ao,ag,af⟩
   ·simp at ah;omega
   have bU:sz=n:=by
    cases xs with
    |nil=>simp at ah;omega
    |cons y ys=>rw[←af y (by simp),←aJ y (by simp)]
   subst bU;rw[if_neg (by omega),←hlen];simp only[Option.map_some,pf];refine bw.ai k_ (vals:=(vals.take (a8.toNat*sz)).drop (l.toNat*sz)) ?_ ?_ (sz:=sz) ?_ (by rw[hlen];omega)
   ·rw[zg _ _ (fun y aF=>af y (List.mem_of_mem_take aF)),rE _ _ af];exact(ao.take _).drop _
   ·intro k v gL;rw[List.getElem?_drop,List.getElem?_take]at gL;split at gL
    ·rw[show off+l.toNat*sz+k=off+(l.toNat*sz+k) by omega];exact ag _ v gL
    cases gL
   intro y aF;exact af y (List.mem_of_mem_take (List.mem_of_mem_drop aF))
  exact ak.elim
 ·rename_i b sz n aw hm
  rw[aw]at an;split at ak
  ·rename_i l a8 k ij jK au
   obtain⟨e,he,aZ⟩:=Option.bind_eq_some_iff.1 au;split at ak
   ·rename_i b aai sS acr
    obtain⟨⟨bj,aa,ah,rfl⟩,aj⟩:=ak;obtain⟨cap,c,cV,fr,cG,eJ,iF,dg,hC⟩:=E_ an;have ae:=q' (P:=P) (w:=w) (isSlice:=true) (len:=n) (cap:=cap) (iU ij o6 o7) (iU jK o4 o5) bj aa (by omega);refine fin (by rw[cG,pZ hm];exact sA he aZ ae) ?_ aj;have r2:(a8-l).toNat=a8.toNat-l.toNat:=by omega
    rw[r2];by_cases aO:a8.toNat-l.toNat=0
    ·rw[aO];exact .lv
    rw[if_neg (by omega)];simp only[Option.map_some,pf,Nat.zero_add];exact bw.win iF (by omega) (Nat.le_trans (Nat.mul_le_mul_right _ (by omega)) dg) (by omega)
   obtain⟨⟨bj,aa,ah⟩,aj⟩:=ak;subst bj;rename_i b adb bP acv
   cases b with
   |none=>
    obtain⟨ad,cG,rfl⟩:=q2 an;have ae:=q' (P:=P) (w:=w) (isSlice:=true) (len:=0) (cap:=0) (iU ij o6 o7) (iU jK o4 o5) (Int.le_refl _) aa ah;have jK:a8=0:=by simp at ah;omega
    subst jK;exact fin (by rw[cG,pZ hm];exact sA he aZ ae) (by simpa using bw.hV) aj
   |some b=>
    obtain⟨cap,c,cV,fr,cG,eJ,iF,dg,hC⟩:=E_ an;have ae:=q' (P:=P) (w:=w) (isSlice:=true) (len:=n) (cap:=cap) (iU ij o6 o7) (iU jK o4 o5) (Int.le_refl _) aa (by omega);refine fin (by rw[cG,pZ hm];exact sA he aZ ae) ?_ aj;have:(if cap=(0:Int).toNat then some (⟨b,0,none⟩:Addr)else(some (⟨b,0,none⟩:Addr)).map (·.add ((0:Int).toNat*k)))=some ⟨b,0,none⟩:=by
     simp[Addr.add]
    rw[this];simpa using bw.own iF (n:=a8.toNat) (cap:=cap) (by omega) dg hC
  exact ak.elim
 ·rename_i b sz off n aw hm
  rw[aw]at an;split at ak
  ·rename_i l a8 k ij jK au
   obtain⟨⟨bj,aa,ah,rfl⟩,aj⟩:=ak;obtain⟨e,he,aZ⟩:=Option.bind_eq_some_iff.1 au;have r2:(a8-l).toNat=a8.toNat-l.toNat:=by omega
   rcases BD an with⟨ad,cap,cG,rfl⟩|⟨cap,c,cV,fr,cG,eJ,iF,dg,hC⟩
   ·have ae:=q' (P:=P) (w:=w) (isSlice:=true) (len:=0) (cap:=cap) (iU ij o6 o7) (iU jK o4 o5) bj aa (by omega);refine fin (by rw[cG,pZ hm];exact sA he aZ ae) ?_ aj;rw[r2,show a8.toNat-l.toNat=0 by omega];exact .lv
   have ae:=q' (P:=P) (w:=w) (isSlice:=true) (len:=n) (cap:=cap) (iU ij o6 o7) (iU jK o4 o5) bj aa (by omega);refine fin (by rw[cG,pZ hm];exact sA he aZ ae) ?_ aj;rw[r2];by_cases aO:a8.toNat-l.toNat=0
   ·rw[aO];exact .lv
   rw[if_neg (by omega)];simp only[Option.map_some,pf];rw[←Nat.add_mul];exact bw.win iF (by omega) (Nat.le_trans (Nat.mul_le_mul_right _ (by omega)) dg) (by omega)
  exact ak.elim
 ·rename_i aw hm
  rw[aw]at an;split at ak
  ·rename_i l a8 k ij jK au
   obtain⟨⟨rfl,rfl⟩,aj⟩:=ak;obtain⟨e,he,aZ⟩:=Option.bind_eq_some_iff.1 au;have ae:=q' (P:=P) (w:=w) (isSlice:=true) (len:=0) (cap:=0) (iU ij o6 o7) (iU jK o4 o5) (Int.le_refl _) (Int.le_refl _) (Int.le_refl _);exact fin (by rw[an.eh,pZ hm];exact sA he aZ ae) (by simpa using(bw.v rfl:bw w S (.v (.slice none 0 0)) _)) aj
  exact ak.elim
 ·rename_i xs m aw hm
  rw[aw]at an;obtain⟨ad,cap,cG,_⟩:=sB an;exact y9 cG hm ak
 ·rename_i b sz n m aw hm
  rw[aw]at an;cases b with
  |none=>obtain⟨ad,cG,_⟩:=q2 an;exact y9 cG hm ak
  |some b=>obtain⟨cap,c,cV,fr,cG,_⟩:=vU an;exact y9 cG hm ak
 ·rename_i m aw hm
  rw[aw]at an;exact y9 an.eh hm ak
 exact ak.elim
end steps
end Go.Ab
namespace Go.Ab
open Go
section
variable {P : Program} {w : World} {S : Nat → Prop}
theorem HT (c:Array Value) (off:Nat):∀(xs:List Value) (U:Nat),off+U+xs.length≤c.size→
  ((xs.zipIdx U).foldl (fun cs (p:Value×Nat)=>cs.setIfInBounds (off+p.2) p.1) c).toList=c.toList.take (off+U)++xs++c.toList.drop (off+U+xs.length)
 |[],U,h=>by simp
 |x::xs,U,h=>by
  simp only[List.zipIdx_cons,List.foldl_cons];rw[HT (c.setIfInBounds (off+U) x) off xs (U+1) (by simp at h⊢;omega)];have aC:off+U<c.size:=by simp at h;omega
  simp only[Array.toList_setIfInBounds,List.length_cons];rw[show off+(U+1)=off+U+1 by omega,List.take_add_one,List.take_set_of_le (by omega),List.drop_set_of_lt (by omega)];rw[List.getElem?_set_self (by simpa using aC)];rw[show off+U+1+xs.length=off+U+(xs.length+1) by omega];simp
theorem KA (c:Array Value) (off:Nat) (v:Value) (h:off+v.cells.size≤c.size):
  (v.cells.zipIdx.foldl (fun cs (p:Value×Nat)=>cs.setIfInBounds (off+p.2) p.1) c).toList=c.toList.take off++v.cells.toList++c.toList.drop (off+v.cells.size):=by
 rw[←Array.foldl_toList,Array.toList_zipIdx];have:=HT c off v.cells.toList 0 (by simpa using h);simpa using this
theorem bq.lay {cs xs:List D} {vals vs:List Value} (h:bq w S cs vals) (an:bq w S xs vs) (o n:Nat):bq w S (cs.take o++xs++cs.drop n) (vals.take o++vs++vals.drop n):=
 ((h.take o).append an).append (h.drop n)
theorem KQ {α β:Type} {f:α→Option β}:∀{xs:List α} {ys:List β},xs.mapM f=some ys→∀(i:Nat) (x:α),xs[i]?=some x→∃y,f x=some y∧ys[i]?=some y
 |[],ys,h,i,x,an=>by simp at an
 |z::xs,ys,h,i,x,an=>by
  simp only[List.mapM_cons,Option.bind_eq_bind,Option.pure_def,Option.bind_eq_some_iff]at h;obtain⟨y,aF,zs,x_,h⟩:=h;cases h
  cases i with
  |zero=>simp at an;subst an;exact⟨y,aF,rfl⟩
  |succ i=>simpa using KQ x_ i x (by simpa using an)
end
section steps
variable {P : Program} {N : cP} {C : Ctx P N} {env : Env} {σ : al} {a : Act} {w : World} {S : Nat → Prop} {o : Oper}
variable {Qp : D → al → Prop} {next : Env → al → Prop} {bN : Act → World → Prop} {Q : Exit → Act → World → Prop}
theorem AP (h:ck C env σ w S a.tmps):∀(ps:List (Nat×Operand)),bq w S ((ps.map fun p=>(p.1,ev env p.2)).map (·.2)) ((ps.map fun p=>(p.1,a.eval p.2)).map (·.2))
 |[]=> .nil
 |p::ps=> .cons (df h p.2) (AP h ps)
theorem HC {T:TypeId} {a7:Array Field} {place:Nat→Option (Nat×Nat)} (bY:P.underlying T=some (.struct a7)) (gn:∀(i:Nat) (F:Field),a7[i]?=some F→∃n,cY P F.type=some n∧place i=some (F.offset,n)):
  ∀(ps:List (Nat×D)) (vs:List (Nat×Value)) (cs out:List D) (c:Array Value),aFill P T ps cs=some out→ps.map (·.1)=vs.map (·.1)→bq w S (ps.map (·.2)) (vs.map (·.2))→bq w S cs c.toList→
   ∃cI,Instr.fill place c vs=some cI∧bq w S out cI.toList
 |[],vs,cs,out,c,h,aj,ao,ag=>by
  have:vs=[]:=by cases vs with|nil=>rfl|cons v vs=>simp at aj
  subst this;simp only[aFill,Option.some.injEq]at h;subst h;exact⟨c,rfl,ag⟩
 |(i,x)::ps,vs,cs,out,c,h,aj,ao,ag=>by
  cases vs with
  |nil=>simp at aj
  |cons v vs=>
   obtain⟨U,v⟩:=v;simp only[List.map_cons,List.cons.injEq]at aj;obtain⟨rfl,aj⟩:=aj;simp only[List.map_cons]at ao;obtain⟨Yk,F',e,x1,nu⟩:=ao.cons_inv;cases e
   simp only[aFill]at h;split at h
   ·rename_i F c7
    obtain⟨ab3,Jf,xl⟩:=FD c7;rw[bY]at Jf;cases Jf
    split at h
    ·rename_i xz
     obtain⟨aa,ah,aJ⟩:=xz;obtain⟨n,au,aP⟩:=gn _ F xl;rw[aa]at au;cases au
     have dn:=pY x1 aJ;have bU:v.cells.size=x.cells.length:=by have:=dn.length;simpa using this
     have tp:c.size=cs.length:=by have:=ag.length;simpa using this
     obtain⟨cI,ax,iM⟩:=HC bY gn ps vs _ out (v.cells.zipIdx.foldl (fun cs (p:Value×Nat)=>cs.setIfInBounds (F.offset+p.2) p.1) c) h aj nu (by
      rw[KA c F.offset v (by omega),bU];exact ag.lay dn F.offset (F.offset+x.cells.length))
     refine⟨cI, ?_,iM⟩;simp only[Instr.fill,aP];rw[if_neg (by simp;omega)];exact ax
    cases h
   cases h
theorem W0 (h:ck C env σ w S a.tmps) (bm:a.defers=C.ds) (aX:dV N o.dst) (bk:∀a w,dR C next a w→bN a w) {T:TypeId} {ps:Array (Nat×Operand)} (aH:o.op= .build T ps)
  (ak:cQ P Qp next o.dst env σ (aBuild P T (ps.toList.map fun p=>(p.1,ev env p.2)))):o.wp P a w bN Q:=by
 unfold aBuild at ak;split at ak
 ·rename_i z aO
  split at ak
  ·rename_i ag
   obtain⟨aL,cc⟩:=ag;split at ak
   ·rename_i cs dg
    split at ak
    ·rename_i out tN
     have lX:bw w S (.agg cs) z:=by rw[←dg];exact nN cc
     obtain⟨vals,rfl,ao⟩:=Gr lX;unfold o0 at aL;split at aL
     ·rename_i a7 bY
      obtain⟨pl,gn⟩:=Option.isSome_iff_exists.1 aL;have jJ:∀(i:Nat) (F:Field),a7[i]?=some F→∃n,cY P F.type=some n∧pl.toArray[i]?=some (F.offset,n):=by
       intro i F c7;obtain⟨y,aF,oP⟩:=KQ gn i F (by simpa using c7);simp only[Option.map_eq_some_iff]at aF;obtain⟨inf,xL,rfl⟩:=aF;exact⟨inf.size,by simp[cY,xL],by simpa using oP⟩
      obtain⟨cI,ax,iM⟩:=HC (place:=fun i=>pl.toArray[i]?) bY jJ _ ((ps.toList.map fun p=>(p.1,a.eval p.2))) cs out vals.toArray tN (by simp) (AP h ps.toList) (by simpa using ao);have ae:P.built T (ps.map fun p=>(p.1,a.eval p.2)).toList=some cI:=by
       unfold eB at aO;unfold Program.built;cases hit:P.info? T with
       |none=>rw[hit]at aO;simp at aO
       |some it=>
        rw[hit]at aO;simp only[Option.bind_some]at aO;simp only[bY,aO,gn];simpa [Value.cells]using ax
      refine eC h bm aX bk (v:= .agg cI) ?_ (by simpa using bw.agg iM) ak.2;have:=run_build w T _ cI ae;simp only[execOp,aH];rw[Sem.run_bind,this];rfl
     cases aL
    exact ak.elim
   exact ak.elim
  exact ak.elim
 exact ak.elim
end steps
end Go.Ab
namespace Go.Ab
open Go
section
variable {P : Program} {w : World} {S : Nat → Prop}
theorem AG {d:D} {sG:Array Value} {n len:Nat} (ao:bq w S d.cells sG.toList) (au:d.cells.length=n):bq w S (flat (List.replicate len d)) ((Array.range (len*n)).map (sG[· %sG.size]!)).toList:=by
 have af:∀x∈List.replicate len d,x.cells.length=n:=fun x an=>by rw[(List.mem_replicate.1 an).2];exact au
 have dE:(flat (List.replicate len d)).length=len*n:=by rw[n' _ n af];simp
 have qO:sG.size=n:=by have:=ao.length;simp[au]at this;exact this
 refine bq.Lb (by simp[dE]) fun k x an=> ?_;have aj:k<len*n:=by have:=(List.getElem?_eq_some_iff.1 an).1;omega
 have JG:0<n:=by
  rcases Nat.eq_zero_or_pos n with h|h
  ·subst h;simp at aj
  exact h
 have hi:k/n<len:=(Nat.div_lt_iff_lt_mul JG).2 aj;have aR:k%n<n:=Nat.mod_lt _ JG;have kd:k=k/n*n+k%n:=by rw[Nat.mul_comm];exact(Nat.div_add_mod k n).symm
 rw[kd,zh _ n af (k/n) (by simpa using hi) (k%n) aR]at an;have:(List.replicate len d).getD (k/n) .any=d:=by rw[dC _ _ _ (by simpa using hi)];simp
 rw[this]at an;obtain⟨v,ak,cl⟩:=ao.get _ x an;refine⟨v, ?_,cl⟩;have aC:k%n<sG.size:=by omega
 simp only[Array.toList_map,List.getElem?_map,Array.toList_range,qO];rw[List.getElem?_range aj];simp only[Option.map_some,Option.some.injEq];rw[getElem!_pos sG (k%n) aC];have:sG.toList[k%n]?=some sG[k%n]:=by simp[aC]
 rw[this]at ak;exact Option.some.inj ak
theorem Cj {n len:Nat}:∀(ps:List (Nat×D)) (vs:List (Nat×Value)) (xs out:List D) (c:Array Value),aFillSlice n ps xs=some out→ps.map (·.1)=vs.map (·.1)→bq w S (ps.map (·.2)) (vs.map (·.2))→
  (∀x∈xs,x.cells.length=n)→xs.length=len→bq w S (flat xs) c.toList→
   ∃cI,Instr.fill (fun i=>some (i*n,n)) c vs=some cI∧bq w S (flat out) cI.toList∧(∀x∈out,x.cells.length=n)∧out.length=len
 |[],vs,xs,out,c,h,aj,ao,af,aA,ag=>by
  have:vs=[]:=by cases vs with|nil=>rfl|cons v vs=>simp at aj
  subst this;simp only[aFillSlice,Option.some.injEq]at h;subst h;exact⟨c,rfl,ag,af,aA⟩
 |(i,x)::ps,vs,xs,out,c,h,aj,ao,af,aA,ag=>by
  cases vs with
  |nil=>simp at aj
  |cons v vs=>
   obtain⟨U,v⟩:=v;simp only[List.map_cons,List.cons.injEq]at aj;obtain⟨rfl,aj⟩:=aj;simp only[List.map_cons]at ao;obtain⟨Yk,F',e,x1,nu⟩:=ao.cons_inv;cases e
   simp only[aFillSlice]at h;split at h
   ·rename_i xz
    obtain⟨aa,ah,aJ⟩:=xz;have dn:=pY x1 ah;have bU:v.cells.size=n:=by have:=dn.length;simpa [aa]using this
    have dE:=n' xs n af;have tp:c.size=xs.length*n:=by have:=ag.length;rw[dE]at this;simpa using this
    have d':i*n+n≤xs.length*n:=by rw[←Nat.succ_mul];exact Nat.mul_le_mul_right _ aJ
    obtain⟨cI,ax,iM,eo,oF⟩:=Cj (n:=n) (len:=len) ps vs _ out (v.cells.zipIdx.foldl (fun cs (p:Value×Nat)=>cs.setIfInBounds (i*n+p.2) p.1) c) h aj nu
     (fun y aF=>by rcases List.mem_or_eq_of_mem_set aF with aF|aF;exact af y aF;rw[aF];exact aa) (by simpa using aA) (by
      rw[KA c (i*n) v (by omega),bU,HR xs n af i x aJ aa];exact ag.lay dn _ _)
    refine⟨cI, ?_,iM,eo,oF⟩;simp only[Instr.fill];rw[if_neg (by simp;omega)];exact ax
   cases h
end
section steps
variable {P : Program} {N : cP} {C : Ctx P N} {env : Env} {σ : al} {a : Act} {w : World} {S : Nat → Prop} {o : Oper}
variable {Qp : D → al → Prop} {next : Env → al → Prop} {bN : Act → World → Prop} {Q : Exit → Act → World → Prop}
theorem W2 (h:ck C env σ w S a.tmps) (bm:a.defers=C.ds) (aX:dV N o.dst) (bk:∀a w,dR C next a w→bN a w) {T:TypeId} {len:Nat} {ps:Array (Nat×Operand)} (aH:o.op= .buildSlice T len ps)
  (ak:cQ P Qp next o.dst env σ (aBuildSlice P T len (ps.toList.map fun p=>(p.1,ev env p.2)))):o.wp P a w bN Q:=by
 unfold aBuildSlice at ak;split at ak
 ·rename_i e he
  split at ak
  ·rename_i n z au aO
   split at ak
   ·rename_i xs hG
    obtain⟨⟨aa,ah,aJ,bg,cu⟩,aj⟩:=ak;have lX:bw w S (cx z) z:=nN aa;have qR:=pY lX aJ;have x_:z.cells.size=n:=by have:=qR.length;simpa [ah]using this
    obtain⟨cI,ax,iM,eo,oF⟩:=Cj (n:=n) (len:=len) _ (ps.toList.map fun p=>(p.1,a.eval p.2)) _ xs ((Array.range (len*n)).map (z.cells[· %z.cells.size]!)) hG (by simp) (AP h ps.toList)
     (fun x an=>by rw[(List.mem_replicate.1 an).2];exact ah) (by simp) (AG qR ah)
    have dE:=n' xs n eo;have tp:cI.size=len*n:=by have:=iM.length;rw[dE,oF]at this;simpa using this
    refine uA h bm aX bk (ob:= .cells cI e) (x:= .arr n xs) (d:= .own (some w.heap.size) n len) (v:= .slice (some ⟨w.heap.size,0,none⟩) len len) ?_ (Bb h.fr.lt iM (fun k x an=>by simpa using an) eo) (bw.own (heap_alloc w _) (Nat.le_refl _) (by omega) (by omega)) (aj _ (lh h.store));have oH:¬(16777216<len*n):=by omega
    have qx:Instr.fill (fun i=>some (i*n,n)) (Array.map (fun x=>z.cells[x%z.cells.size]!) (Array.range (len*n))) (List.map (fun p=>(p.1,a.eval p.2)) ps.toList)=some cI:=ax;by_cases bj:len*n=0
    ·have Ev:Array.map (fun x=>z.cells[x%z.cells.size]!) (Array.range 0)=(#[]:Array Value):=by simp
     rw[bj,Ev]at qx;simp[execOp,aH,Instr.buildSlice,run_underlying (l6 he),run_sizeOf au,bj,qx,newRow,Array.range_zero']
    simp[execOp,aH,Instr.buildSlice,run_underlying (l6 he),run_sizeOf au,p0 aO,bj,oH,qx,newRow]
   exact ak.elim
  exact ak.elim
 exact ak.elim
theorem Xh (h:ck C env σ w S a.tmps) (bm:a.defers=C.ds) (aX:dV N o.dst) (bk:∀a w,dR C next a w→bN a w) {T:TypeId} {x y:Operand} (aH:o.op= .makeSlice T x y)
  (ak:cQ P Qp next o.dst env σ (aMakeSlice P T (ev env x) (ev env y))):o.wp P a w bN Q:=by
 unfold aMakeSlice at ak;split at ak
 ·rename_i e l c he aA ag
  split at ak
  ·rename_i n z uR au aO ae
   obtain⟨⟨aa,ah,aJ,bg,cu,de,lH⟩,aj⟩:=ak;obtain⟨sn,iP⟩:=yb aA (df h x);obtain⟨TN,Tk⟩:=yb ag (df h y);have lX:bw w S (cx z) z:=nN aa;have qR:=pY lX aJ;have xL:∃i,P.info? e=some i∧i.size=n∧i.bytes=uR∧i.zero=some z:=by
    unfold cY at au;unfold eB at aO;unfold kR at ae;cases hi:P.info? e with
    |none=>rw[hi]at au;simp at au
    |some i=>rw[hi]at au aO ae;simp at au aO ae;exact⟨i,rfl,au,ae,aO⟩
   obtain⟨i,hi,rfl,rfl,DG⟩:=xL;have bS:=run_make (P:=P) w T e i z (l6 he) hi DG sn TN l c bg cu (by omega) (by omega);have R6:bq w S (flat (List.replicate c.toNat (cx z))) (madeCells z.cells (c.toNat*i.size)).toList:=AG qR ah;have eo:∀(k:Nat),∀x∈List.replicate k (cx z),x.cells.length=i.size:=fun k x an=>by rw[(List.mem_replicate.1 an).2];exact ah
   refine uA h bm aX bk (ob:= .cells (madeCells z.cells (c.toNat*i.size)) e) (v:= .slice (some ⟨w.heap.size,0,none⟩) l.toNat c.toNat) ?_
    (Bb h.fr.lt (vals:=(madeCells z.cells (c.toNat*i.size)).toList.take (l.toNat*i.size)) ?_ (fun k x an=> ?_) (eo l.toNat)) (bw.own (heap_alloc w _) (by omega) ?_ (by omega)) (aj _ (lh h.store))
   ·simp only[execOp,aH,iP,Tk];rw[Sem.run_bind,bS];rfl
   ·have bt:List.replicate l.toNat (cx z)=(List.replicate c.toNat (cx z)).take l.toNat:=by rw[List.take_replicate,Nat.min_eq_left (by omega)]
    rw[bt,rE _ _ (eo c.toNat)];exact R6.take _
   ·rw[List.getElem?_take]at an;split at an
    ·simpa using an
    cases an
   rw[size_madeCells];exact Nat.le_refl _
  exact ak.elim
 exact ak.elim
theorem Xg (h:ck C env σ w S a.tmps) (bm:a.defers=C.ds) (aX:dV N o.dst) (bk:∀a w,dR C next a w→bN a w) {T:TypeId} (aH:o.op= .makeMap T none)
  (ak:cQ P Qp next o.dst env σ (.new ((l8 P T).isSome=true) (.mp []) (fun b=> .map b))):o.wp P a w bN Q:=by
 refine uA h bm aX bk (ob:= .map #[] 0) (x:= .mp []) (v:= .map (some w.heap.size)) ?_ ⟨#[],0,heap_alloc w _, .nil,rfl,by simp,by simp⟩ .map (ak.2 _ (lh h.store));simp[execOp,aH,Instr.makeMap]
theorem Xd (h:ck C env σ w S a.tmps) (bm:a.defers=C.ds) (aX:dV N o.dst) (bk:∀a w,dR C next a w→bN a w) {T:TypeId} {x:Operand} (aH:o.op= .makeChan T x)
  (ak:cQ P Qp next o.dst env σ (wN P T (ev env x))):o.wp P a w bN Q:=by
 unfold wN at ak;split at ak
 ·rename_i dir e n bc an
  split at ak
  ·rename_i uR ae
   obtain⟨⟨bj,aa,ah⟩,aj⟩:=ak;have ao:=df h x;rw[an]at ao;have eG:a.eval x= .int .i64 n:=by
    generalize a.eval x=y at ao;cases ao;rfl
   unfold kR at ae;cases hi:P.info? e with
   |none=>rw[hi]at ae;simp at ae
   |some i=>
    rw[hi]at ae;simp at ae;refine uA h bm aX bk (ob:= .chan n.toNat #[] false 0 0 false) (x:= .e7 n.toNat []) (v:= .chan (some w.heap.size)) ?_ ⟨0,0,heap_alloc w _,by simp⟩ (.v rfl) (aj _ (lh h.store));have jr:¬(n<0∨9223372036854775807<n∨281474976710544<(i.bytes:Int)*n):=by rw[ae];omega
    simp[execOp,aH,eG,Instr.makeChan,asInt,asIntOf,run_underlying bc,typeInfo,hi,jr]
  exact ak.elim
 exact ak.elim
theorem Xa (h:ck C env σ w S a.tmps) (bm:a.defers=C.ds) (aX:dV N o.dst) (bk:∀a w,dR C next a w→bN a w) {T:TypeId} {aD:Array TypeId} {ty:TypeId} {x:D} {dM:Value} (an:bw w S x dM)
  (aH:(execOp a.eval o).run P w=((Builtin.len_ aD ty #[dM]).run P w).andThen fun v w=> .ok (.value v) w) (bc:aD[0]?=some T)
  (ak:cQ P Qp next o.dst env σ (aLen P σ T x)):o.wp P a w bN Q:=by
 have fin:∀{n:Nat},(Builtin.len_ aD ty #[dM]).run P w= .ok (goInt n) w→next (eputo o.dst (.v (.int .i64 n)) env) σ→o.wp P a w bN Q:=
  fun{n} bS aj=>eC h bm aX bk (v:=goInt n) (by rw[aH,bS];rfl) (.v rfl) aj
 have z1:∀{T},(eZ P T).isSome=true→∃e,P.underlying T=some (.slice e):=fun{T} a8=>by
  obtain⟨e,he⟩:=Option.isSome_iff_exists.1 a8;exact⟨e,l6 he⟩
 have xP:∀{T},(l8 P T).isSome=true→∃k e,P.underlying T=some (.map k e):=fun{T} a8=>by
  unfold l8 at a8;split at a8
  ·exact⟨_,_,by assumption⟩
  cases a8
 unfold aLen at ak;split at ak
 ·obtain⟨e,he⟩:=z1 ak.1;obtain⟨ad,cap,rfl,_⟩:=sB an;exact fin (by simp[Builtin.len_,bc,run_underlying he]) ak.2
 ·rename_i b sz n
  obtain⟨e,he⟩:=z1 ak.1;cases b with
  |none=>obtain⟨ad,rfl,rfl⟩:=q2 an;exact fin (by simp[Builtin.len_,bc,run_underlying he]) ak.2
  |some b=>obtain⟨cap,c,cV,fr,rfl,_⟩:=vU an;exact fin (by simp[Builtin.len_,bc,run_underlying he]) ak.2
 ·rename_i b sz off n
  obtain⟨e,he⟩:=z1 ak.1;rcases BD an with⟨ad,cap,rfl,rfl⟩|⟨cap,c,cV,fr,rfl,_⟩
  ·exact fin (by simp[Builtin.len_,bc,run_underlying he]) ak.2
  exact fin (by simp[Builtin.len_,bc,run_underlying he]) ak.2
 ·rw[an.eh]at fin;exact fin (by simp[Builtin.len_,bc,run_underlying (qU ak.1)]) ak.2
 ·obtain⟨e,he⟩:=z1 ak.1;rw[an.eh]at fin;exact fin (n:=0) (by simp[Builtin.len_,bc,run_underlying he]) ak.2
 ·rename_i b
  split at ak
  ·rename_i es af
   obtain⟨k,e,he⟩:=xP ak.1;obtain⟨entries,clock,a8,ao,aj,_⟩:=(h.store b _ af).2;have hlen:entries.size=es.length:=by have:=ao.length;simpa using this
   have jJ:(getObj b).run P w= .ok (.map entries clock) w:=by simp[getObj,Sem.run,a8]
   cases an
   exact fin (n:=es.length) (by simp[Builtin.len_,bc,run_underlying he,jJ,hlen]) ak.2
  exact ak.elim
 ·obtain⟨k,e,he⟩:=xP ak.1;rw[an.eh]at fin;exact fin (n:=0) (by simp[Builtin.len_,bc,run_underlying he]) ak.2
 exact ak.elim
theorem Xp (h:ck C env σ w S a.tmps) (bm:a.defers=C.ds) (aX:dV N o.dst) (bk:∀a w,dR C next a w→bN a w) {T T':TypeId} {x:Operand} {ok:Bool} (aH:o.op= .typeAssert x T' T ok)
  (ak:cQ P Qp next o.dst env σ (aTA P (ev env x) T ok)):o.wp P a w bN Q:=by
 have an:=df h x;have fin:∀{d v},(Instr.typeAssert (a.eval x) T' T ok).run P w= .ok v w→bw w S d v→next (eputo o.dst d env) σ→o.wp P a w bN Q:=
  fun bS cl aj=>eC h bm aX bk (v:=_) (by simp only[execOp,aH];rw[Sem.run_bind,bS];rfl) cl aj
 unfold aTA at ak;split at ak
 ·exact ak.elim
 ·rename_i d aZ bY
  split at ak
  ·rename_i t y z aw aO
   rw[aw]at an;generalize eG:a.eval x=dM at an fin;cases an with
   |dX aF=>
    split at ak
    ·rename_i tS
     subst tS;refine fin (v:= .tuple #[_, .bool true]) ?_ (.bd (.cons aF (.cons (.v rfl) .nil))) ak.2;cases d<;>first|(simp[Instr.typeAssert,run_underlying bY];done)|exact(aZ _ rfl).elim
    rename_i tS
    refine fin (v:= .tuple #[z, .bool false]) ?_ (.bd (.cons (nN ak.1) (.cons (.v rfl) .nil))) ak.2;cases d<;>first|(simp[Instr.typeAssert,run_underlying bY,tS,p0 aO];done)|exact(aZ _ rfl).elim
  ·rename_i z aw aO
   rw[aw]at an;rw[an.eh]at fin;refine fin (v:= .tuple #[z, .bool false]) ?_ (.bd (.cons (nN ak.1) (.cons (.v rfl) .nil))) ak.2;cases d<;>first|(simp[Instr.typeAssert,run_underlying bY,p0 aO];done)|exact(aZ _ rfl).elim
  ·rename_i t y aw
   rw[aw]at an;generalize eG:a.eval x=dM at an fin;cases an with
   |dX aF=>
    split at ak
    ·rename_i tS
     subst tS;refine fin (v:=_) ?_ aF ak.2;cases d<;>first|(simp[Instr.typeAssert,run_underlying bY];done)|exact(aZ _ rfl).elim
    exact ak.elim
  exact ak.elim
 exact ak.elim
end steps
end Go.Ab
