/- A part of a proof about the given program: the abstract machine, what functions compute, laid in few texts. -/
import Derived.Test.YticjnnmnjfpopaaGreatDoorKEd
import Derived.Shelf.SlGeneric
import Derived.Shelf.SlIter.Nil
import Derived.Shelf.SlIterI.Nil
import Derived.Shelf.SortM.Plain
import Derived.Shelf.SortM.SortNone
import Derived.Ground.GgzProg
import Derived.Ground.SlgmProg
import Derived.Test.YticjnnmnjfpopaaGreatDoorProg
import Derived.Lib.SlKeysI
import Derived.Sort.KeysCollected
import Derived.Sort.Row
import Derived.Sort.Grow
namespace Go.Proofs
open Go.Shelf
def Tryz.Kw:Go.Shelf.Ren:=⟨fun|7=>96|10=>126|n=>n,fun|23=>99|26=>9|3=>3|28=>151|0=>0|27=>150|33=>43|4=>4|n=>n,fun|n=>n⟩
theorem Tryz.TR:Go.Proofs.SlLaysZ.n7 Tryz.prog Tryz.Kw:={
 mixed:=by kernel_rfl
 f7:=⟨Tryz.f96.name,by decide,Tryz.func96.trans (congrArg some (by kernel_rfl))⟩
 f10:=⟨Tryz.f126.name,by decide,Tryz.func126.trans (congrArg some (by kernel_rfl))⟩
 t0:=Tryz.underlying0
 a0:=Tryz.isAgg0
 z0:=Tryz.sizeOf0
 v0:=Tryz.zeroValue0
 t4:=Tryz.underlying4
 a4:=Tryz.isAgg4
 z4:=Tryz.sizeOf4
 v4:=Tryz.zeroValue4
 t23:=Tryz.underlying99
 a23:=Tryz.isAgg99
 z23:=Tryz.sizeOf99
 v23:=Tryz.zeroValue99
 t26:=Tryz.underlying9
 a26:=Tryz.isAgg9
 z26:=Tryz.sizeOf9
 v26:=Tryz.zeroValue9
 t27:=Tryz.underlying150
 a27:=Tryz.isAgg150
 z27:=Tryz.sizeOf150
 v27:=Tryz.zeroValue150
 t28:=Tryz.underlying151
 a28:=Tryz.isAgg151
 z28:=Tryz.sizeOf151
 v28:=Tryz.zeroValue151
 t33:=Tryz.underlying43
 a33:=Tryz.isAgg43
 z33:=Tryz.sizeOf43
 v33:=Tryz.zeroValue43}
def Tryz.MM:Go.Shelf.Ren:=⟨fun|6=>95|8=>125|9=>94|11=>154|13=>124|12=>123|23=>152|24=>153|14=>144|15=>145|16=>146|17=>147|18=>148|19=>149|20=>92|21=>150|22=>151|25=>172|26=>173|27=>174|28=>175|29=>176|30=>122|31=>199|n=>n,fun|26=>9|28=>151|24=>23|0=>0|3=>3|37=>146|48=>208|50=>170|4=>4|40=>202|39=>201|45=>75|5=>5|9=>9|51=>223|55=>173|57=>249|58=>250|33=>43|n=>n,fun|n=>n⟩
theorem Tryz.XM:Go.Proofs.SlLaysZ.n6 Tryz.prog Tryz.MM:={
 mixed:=by kernel_rfl
 f6:=⟨Tryz.f95.name,by decide,Tryz.func95.trans (congrArg some (by kernel_rfl))⟩
 f8:=⟨Tryz.f125.name,by decide,Tryz.func125.trans (congrArg some (by kernel_rfl))⟩
 f11:=⟨Tryz.f154.name,by decide,Tryz.func154.trans (congrArg some (by kernel_rfl))⟩
 t0:=Tryz.underlying0
 a0:=Tryz.isAgg0
 z0:=Tryz.sizeOf0
 v0:=Tryz.zeroValue0
 t24:=Tryz.underlying23
 a24:=Tryz.isAgg23
 z24:=Tryz.sizeOf23
 v24:=Tryz.zeroValue23
 t26:=Tryz.underlying9
 a26:=Tryz.isAgg9
 z26:=Tryz.sizeOf9
 v26:=Tryz.zeroValue9
 t28:=Tryz.underlying151
 a28:=Tryz.isAgg151
 z28:=Tryz.sizeOf151
 v28:=Tryz.zeroValue151
 i26:=by kernel_rfl}
def Tryz.XJ:Go.Shelf.Ren:=⟨fun|6=>94|8=>124|9=>123|19=>152|20=>153|21=>144|22=>145|23=>146|24=>147|25=>148|26=>149|27=>92|28=>150|29=>151|36=>172|31=>173|32=>174|37=>175|38=>176|39=>122|41=>199|n=>n,fun|27=>23|29=>9|3=>3|32=>146|26=>23|0=>0|44=>208|46=>170|4=>4|36=>202|35=>201|41=>75|5=>5|9=>9|53=>223|57=>173|63=>249|64=>250|n=>n,fun|n=>n⟩
theorem Tryz.MJ:Go.Proofs.SlLaysM.n6 Tryz.prog Tryz.XJ:={
 mixed:=by kernel_rfl
 f6:=⟨Tryz.f94.name,by decide,Tryz.func94.trans (congrArg some (by kernel_rfl))⟩
 f8:=Tryz.func124.trans (congrArg some (by kernel_rfl))
 f9:=⟨Tryz.f123.name,by decide,Tryz.func123.trans (congrArg some (by kernel_rfl))⟩
 f19:=Tryz.func152.trans (congrArg some (by kernel_rfl))
 f20:=Tryz.func153.trans (congrArg some (by kernel_rfl))
 f21:=⟨Tryz.f144.name,by decide,Tryz.func144.trans (congrArg some (by kernel_rfl))⟩
 f22:=⟨Tryz.f145.name,by decide,Tryz.func145.trans (congrArg some (by kernel_rfl))⟩
 f23:=⟨Tryz.f146.name,by decide,Tryz.func146.trans (congrArg some (by kernel_rfl))⟩
 f24:=⟨Tryz.f147.name,by decide,Tryz.func147.trans (congrArg some (by kernel_rfl))⟩
 f25:=⟨Tryz.f148.name,by decide,Tryz.func148.trans (congrArg some (by kernel_rfl))⟩
 f26:=⟨Tryz.f149.name,by decide,Tryz.func149.trans (congrArg some (by kernel_rfl))⟩
 f27:=⟨Tryz.f92.name,by decide,Tryz.func92.trans (congrArg some (by kernel_rfl))⟩
 f28:=⟨Tryz.f150.name,by decide,Tryz.func150.trans (congrArg some (by kernel_rfl))⟩
 f29:=⟨Tryz.f151.name,by decide,Tryz.func151.trans (congrArg some (by kernel_rfl))⟩
 f31:=Tryz.func173.trans (congrArg some (by kernel_rfl))
 f32:=Tryz.func174.trans (congrArg some (by kernel_rfl))
 f36:=⟨Tryz.f172.name,by decide,Tryz.func172.trans (congrArg some (by kernel_rfl))⟩
 f37:=⟨Tryz.f175.name,by decide,Tryz.func175.trans (congrArg some (by kernel_rfl))⟩
 f38:=⟨Tryz.f176.name,by decide,Tryz.func176.trans (congrArg some (by kernel_rfl))⟩
 f39:=⟨Tryz.f122.name,by decide,Tryz.func122.trans (congrArg some (by kernel_rfl))⟩
 f41:=⟨Tryz.f199.name,by decide,Tryz.func199.trans (congrArg some (by kernel_rfl))⟩
 t0:=Tryz.underlying0
 a0:=Tryz.isAgg0
 z0:=Tryz.sizeOf0
 v0:=Tryz.zeroValue0
 t3:=Tryz.underlying3
 a3:=Tryz.isAgg3
 z3:=Tryz.sizeOf3
 v3:=Tryz.zeroValue3
 t4:=Tryz.underlying4
 a4:=Tryz.isAgg4
 z4:=Tryz.sizeOf4
 v4:=Tryz.zeroValue4
 t5:=Tryz.underlying5
 a5:=Tryz.isAgg5
 z5:=Tryz.sizeOf5
 v5:=Tryz.zeroValue5
 t9:=Tryz.underlying9
 a9:=Tryz.isAgg9
 z9:=Tryz.sizeOf9
 v9:=Tryz.zeroValue9
 t26:=Tryz.underlying23
 a26:=Tryz.isAgg23
 z26:=Tryz.sizeOf23
 v26:=Tryz.zeroValue23
 t27:=Tryz.underlying23
 a27:=Tryz.isAgg23
 z27:=Tryz.sizeOf23
 v27:=Tryz.zeroValue23
 t29:=Tryz.underlying9
 a29:=Tryz.isAgg9
 z29:=Tryz.sizeOf9
 v29:=Tryz.zeroValue9
 t32:=Tryz.underlying146
 a32:=Tryz.isAgg146
 z32:=Tryz.sizeOf146
 v32:=Tryz.zeroValue146
 t35:=Tryz.underlying201
 a35:=Tryz.isAgg201
 z35:=Tryz.sizeOf201
 v35:=Tryz.zeroValue201
 t36:=Tryz.underlying202
 a36:=Tryz.isAgg202
 z36:=Tryz.sizeOf202
 v36:=Tryz.zeroValue202
 t41:=Tryz.underlying75
 a41:=Tryz.isAgg75
 z41:=Tryz.sizeOf75
 v41:=Tryz.zeroValue75
 t44:=Tryz.underlying208
 a44:=Tryz.isAgg208
 z44:=Tryz.sizeOf208
 v44:=Tryz.zeroValue208
 t46:=Tryz.underlying170
 a46:=Tryz.isAgg170
 z46:=Tryz.sizeOf170
 v46:=Tryz.zeroValue170
 t53:=Tryz.underlying223
 a53:=Tryz.isAgg223
 z53:=Tryz.sizeOf223
 v53:=Tryz.zeroValue223
 t57:=Tryz.underlying173
 a57:=Tryz.isAgg173
 z57:=Tryz.sizeOf173
 v57:=Tryz.zeroValue173
 t63:=Tryz.underlying249
 a63:=Tryz.isAgg249
 z63:=Tryz.sizeOf249
 v63:=Tryz.zeroValue249
 t64:=Tryz.underlying250
 a64:=Tryz.isAgg250
 z64:=Tryz.sizeOf250
 v64:=Tryz.zeroValue250}
def Tryz.Kv:Go.Shelf.Ren:=⟨fun|7=>101|10=>129|n=>n,fun|23=>145|26=>3|3=>4|28=>157|0=>0|27=>156|33=>177|4=>4|n=>n,fun|n=>n⟩
theorem Tryz.TP:Go.Proofs.SlLaysZI.n7 Tryz.prog Tryz.Kv:={
 mixed:=by kernel_rfl
 f7:=⟨Tryz.f101.name,by decide,Tryz.func101.trans (congrArg some (by kernel_rfl))⟩
 f10:=⟨Tryz.f129.name,by decide,Tryz.func129.trans (congrArg some (by kernel_rfl))⟩
 t0:=Tryz.underlying0
 a0:=Tryz.isAgg0
 z0:=Tryz.sizeOf0
 v0:=Tryz.zeroValue0
 t4:=Tryz.underlying4
 a4:=Tryz.isAgg4
 z4:=Tryz.sizeOf4
 v4:=Tryz.zeroValue4
 t23:=Tryz.underlying145
 a23:=Tryz.isAgg145
 z23:=Tryz.sizeOf145
 v23:=Tryz.zeroValue145
 t26:=Tryz.underlying3
 a26:=Tryz.isAgg3
 z26:=Tryz.sizeOf3
 v26:=Tryz.zeroValue3
 t27:=Tryz.underlying156
 a27:=Tryz.isAgg156
 z27:=Tryz.sizeOf156
 v27:=Tryz.zeroValue156
 t28:=Tryz.underlying157
 a28:=Tryz.isAgg157
 z28:=Tryz.sizeOf157
 v28:=Tryz.zeroValue157
 t33:=Tryz.underlying177
 a33:=Tryz.isAgg177
 z33:=Tryz.sizeOf177
 v33:=Tryz.zeroValue177}
def Tryz.ML:Go.Shelf.Ren:=⟨fun|6=>100|8=>127|9=>128|11=>155|13=>124|12=>156|23=>152|24=>153|14=>177|15=>178|16=>179|17=>180|18=>181|19=>182|20=>183|21=>184|22=>185|25=>200|26=>173|27=>174|28=>201|29=>202|30=>203|31=>212|n=>n,fun|26=>3|28=>157|24=>72|0=>0|3=>3|37=>146|48=>208|50=>170|4=>4|40=>202|39=>201|45=>75|5=>5|9=>9|51=>223|55=>173|57=>249|58=>250|33=>177|n=>n,fun|n=>n⟩
theorem Tryz.XK:Go.Proofs.SlLaysZI.n6 Tryz.prog Tryz.ML:={
 mixed:=by kernel_rfl
 f6:=⟨Tryz.f100.name,by decide,Tryz.func100.trans (congrArg some (by kernel_rfl))⟩
 f8:=⟨Tryz.f127.name,by decide,Tryz.func127.trans (congrArg some (by kernel_rfl))⟩
 f11:=⟨Tryz.f155.name,by decide,Tryz.func155.trans (congrArg some (by kernel_rfl))⟩
 t0:=Tryz.underlying0
 a0:=Tryz.isAgg0
 z0:=Tryz.sizeOf0
 v0:=Tryz.zeroValue0
 t24:=Tryz.underlying72
 a24:=Tryz.isAgg72
 z24:=Tryz.sizeOf72
 v24:=Tryz.zeroValue72
 t26:=Tryz.underlying3
 a26:=Tryz.isAgg3
 z26:=Tryz.sizeOf3
 v26:=Tryz.zeroValue3
 t28:=Tryz.underlying157
 a28:=Tryz.isAgg157
 z28:=Tryz.sizeOf157
 v28:=Tryz.zeroValue157
 i26:=by kernel_rfl}
def Tryz.XH:Go.Shelf.Ren:=⟨fun|5=>128|8=>124|7=>156|19=>152|20=>153|10=>177|11=>178|12=>179|13=>180|14=>181|15=>182|16=>183|17=>184|18=>185|30=>200|31=>173|32=>174|33=>201|34=>202|35=>203|40=>212|n=>n,fun|23=>72|25=>3|3=>3|32=>146|22=>72|0=>0|44=>208|46=>170|4=>4|36=>202|35=>201|41=>75|5=>5|9=>9|53=>223|57=>173|63=>249|64=>250|n=>n,fun|n=>n⟩
theorem Tryz.MI:Go.Proofs.SlLaysM.n5 Tryz.prog Tryz.XH:={
 mixed:=by kernel_rfl
 f5:=⟨Tryz.f128.name,by decide,Tryz.func128.trans (congrArg some (by kernel_rfl))⟩
 f7:=⟨Tryz.f156.name,by decide,Tryz.func156.trans (congrArg some (by kernel_rfl))⟩
 f8:=Tryz.func124.trans (congrArg some (by kernel_rfl))
 f10:=⟨Tryz.f177.name,by decide,Tryz.func177.trans (congrArg some (by kernel_rfl))⟩
 f11:=⟨Tryz.f178.name,by decide,Tryz.func178.trans (congrArg some (by kernel_rfl))⟩
 f12:=⟨Tryz.f179.name,by decide,Tryz.func179.trans (congrArg some (by kernel_rfl))⟩
 f13:=⟨Tryz.f180.name,by decide,Tryz.func180.trans (congrArg some (by kernel_rfl))⟩
 f14:=⟨Tryz.f181.name,by decide,Tryz.func181.trans (congrArg some (by kernel_rfl))⟩
 f15:=⟨Tryz.f182.name,by decide,Tryz.func182.trans (congrArg some (by kernel_rfl))⟩
 f16:=⟨Tryz.f183.name,by decide,Tryz.func183.trans (congrArg some (by kernel_rfl))⟩
 f17:=⟨Tryz.f184.name,by decide,Tryz.func184.trans (congrArg some (by kernel_rfl))⟩
 f18:=⟨Tryz.f185.name,by decide,Tryz.func185.trans (congrArg some (by kernel_rfl))⟩
 f19:=Tryz.func152.trans (congrArg some (by kernel_rfl))
 f20:=Tryz.func153.trans (congrArg some (by kernel_rfl))
 f30:=⟨Tryz.f200.name,by decide,Tryz.func200.trans (congrArg some (by kernel_rfl))⟩
 f31:=Tryz.func173.trans (congrArg some (by kernel_rfl))
 f32:=Tryz.func174.trans (congrArg some (by kernel_rfl))
 f33:=⟨Tryz.f201.name,by decide,Tryz.func201.trans (congrArg some (by kernel_rfl))⟩
 f34:=⟨Tryz.f202.name,by decide,Tryz.func202.trans (congrArg some (by kernel_rfl))⟩
 f35:=⟨Tryz.f203.name,by decide,Tryz.func203.trans (congrArg some (by kernel_rfl))⟩
 f40:=⟨Tryz.f212.name,by decide,Tryz.func212.trans (congrArg some (by kernel_rfl))⟩
 t0:=Tryz.underlying0
 a0:=Tryz.isAgg0
 z0:=Tryz.sizeOf0
 v0:=Tryz.zeroValue0
 t3:=Tryz.underlying3
 a3:=Tryz.isAgg3
 z3:=Tryz.sizeOf3
 v3:=Tryz.zeroValue3
 t4:=Tryz.underlying4
 a4:=Tryz.isAgg4
 z4:=Tryz.sizeOf4
 v4:=Tryz.zeroValue4
 t5:=Tryz.underlying5
 a5:=Tryz.isAgg5
 z5:=Tryz.sizeOf5
 v5:=Tryz.zeroValue5
 t9:=Tryz.underlying9
 a9:=Tryz.isAgg9
 z9:=Tryz.sizeOf9
 v9:=Tryz.zeroValue9
 t22:=Tryz.underlying72
 a22:=Tryz.isAgg72
 z22:=Tryz.sizeOf72
 v22:=Tryz.zeroValue72
 t23:=Tryz.underlying72
 a23:=Tryz.isAgg72
 z23:=Tryz.sizeOf72
 v23:=Tryz.zeroValue72
 t25:=Tryz.underlying3
 a25:=Tryz.isAgg3
 z25:=Tryz.sizeOf3
 v25:=Tryz.zeroValue3
 t32:=Tryz.underlying146
 a32:=Tryz.isAgg146
 z32:=Tryz.sizeOf146
 v32:=Tryz.zeroValue146
 t35:=Tryz.underlying201
 a35:=Tryz.isAgg201
 z35:=Tryz.sizeOf201
 v35:=Tryz.zeroValue201
 t36:=Tryz.underlying202
 a36:=Tryz.isAgg202
 z36:=Tryz.sizeOf202
 v36:=Tryz.zeroValue202
 t41:=Tryz.underlying75
 a41:=Tryz.isAgg75
 z41:=Tryz.sizeOf75
 v41:=Tryz.zeroValue75
 t44:=Tryz.underlying208
 a44:=Tryz.isAgg208
 z44:=Tryz.sizeOf208
 v44:=Tryz.zeroValue208
 t46:=Tryz.underlying170
 a46:=Tryz.isAgg170
 z46:=Tryz.sizeOf170
 v46:=Tryz.zeroValue170
 t53:=Tryz.underlying223
 a53:=Tryz.isAgg223
 z53:=Tryz.sizeOf223
 v53:=Tryz.zeroValue223
 t57:=Tryz.underlying173
 a57:=Tryz.isAgg173
 z57:=Tryz.sizeOf173
 v57:=Tryz.zeroValue173
 t63:=Tryz.underlying249
 a63:=Tryz.isAgg249
 z63:=Tryz.sizeOf249
 v63:=Tryz.zeroValue249
 t64:=Tryz.underlying250
 a64:=Tryz.isAgg250
 z64:=Tryz.sizeOf250
 v64:=Tryz.zeroValue250}
end Go.Proofs
set_option linter.unusedSimpArgs false
set_option linter.unusedVariables false
set_option linter.constructorNameAsVariable false
namespace Go.Ab.S16
open Go Go.Proofs Go.RowKit Go.Maps Go.Sort Go.Shelf Go.MapKept
open Go.WideElems (Fit rd rg rd_mk rg_of)
def wJ:Value→Option (DataW Unit×List MemPlace):=fun _=>some (.lit (.bool true),[])
theorem Lt {P:Program} {k:TypeId} {w:World} {S:Nat→Prop} {b1:Nat} {es:List (Value×D)} (g:Value→Lit) (aj:∀e∈es,keyOf P k e.1=some (g e.1)) (cM:(es.map (·.1)).Nodup) (aA:es.length≤maxLen) (h:gR w S b1 (.mp es)):
  ∃L:List (Lit×DataW Unit),w.ownsMap P k wJ b1 es.length (.map L)∧(L.map (·.1)).Perm (es.map fun e=>g e.1):=by
 obtain⟨entries,clock,a8,ao,Ac,rQ,zT⟩:=h;have hlen:entries.size=es.length:=by
  have:=congrArg List.length Ac;simpa using this.symm
 have Ad:∀x∈entries.toList,keyOf P k x.key=some (g x.key):=fun x an=>by
  have:x.key∈es.map (·.1):=by rw[Ac];exact List.mem_map_of_mem an
  obtain⟨e,he,aa⟩:=List.mem_map.1 this;rw[←aa];exact aj e he
 have kI:∀x∈entries.toList,WideElems.rd P k wJ x=some (g x.key, .lit (.bool true)):=fun x an=>by
  unfold WideElems.rd;rw[Ad x an];rfl
 refine⟨(entries.toList.map (rg P k wJ)).foldr DataW.insert [],⟨entries,clock,a8,⟨by omega,⟨rQ,zT,by rw[←Ac];exact cM⟩,fun x an=>⟨_,kI x an⟩⟩,by omega,rfl⟩, ?_⟩;refine((WideShapes.sorted_perm _).map _).trans ?_;have bt:(entries.toList.map (rg P k wJ)).map (·.1)=es.map fun e=>g e.1:=by
  have b_:(entries.toList.map (·.key)).map g=(es.map (·.1)).map g:=by rw[Ac]
  rw[List.map_map]at b_⊢;rw[List.map_map]at b_;rw[show(es.map fun e=>g e.1)=es.map (g∘fun e=>e.1)from rfl,←b_];refine List.map_congr_left fun x an=> ?_;show(rg P k wJ x).1=g x.key
  rw[rg_of (kI x an)]
 rw[bt]
def KH:Value→Lit
 | .int _ a=> .int .i64 a
 | .string s=> .string s.data.toList
 |_=> .bool false
theorem XO (m:Nat):AnyZI.SortsIn Tryz.prog Tryz.ML Fence.wide m:=
  ⟨fun h8 off cap iu W k8 ni bU=>callsIn_wide.2 (AnyM.slices_Sort_int Tryz.MI h8 off cap iu W k8 ni bU),
   fun p cap W=>callsIn_wide.2 (AnyM.slices_Sort_int_none Tryz.MI p cap W)⟩
theorem OP (met:List Nat):(hH met).map (·.1)=met.map sF:=by unfold hH;rw[List.map_map];rfl
theorem Yl {met:List Nat} (h:met.Nodup):(met.map sF).Nodup:=by
 refine List.pairwise_map.2 (h.imp fun{a b} gV e=>gV ?_);simp only[sF,Value.int.injEq,true_and]at e;omega
def wj (met:List Nat):List Int:=(met.map fun n:Nat=>(n:Int)).mergeSort leI
theorem XL (aG b1:Nat) (met:List Nat) (σ:al) (aj:av aG σ=some (.arr 1 [.map b1])) (aw:av b1 σ=some (.mp (hH met))) (cM:met.Nodup) (aA:met.length<2^30) (fW:∀n∈met,n<2^30):
  AC Tryz.prog 100 [.bX (.func 129) [] [.ptr aG 1 0 0]] σ
   (fun e σ'=>∃o xs,(xs=(wj met).map encZ)∧aV o 1 (xs.map .v) σ∧e= .ret (.own o 1 (xs.map D.v).length)∧σ'=cellsOf o 1 (xs.map .v)++σ):=by
 refine AC.E4 (e0:=3) fun w S vs bh aL ao=> ?_;obtain⟨v1,l',rfl,aa,ah⟩:=ao.cons_inv;obtain rfl:=ah.gv;cases aa with
 |bX ax ag=>
 obtain rfl:=ax.gv;obtain⟨v1,l',rfl,aa,ah⟩:=ag.cons_inv;obtain rfl:=ah.gv;cases aa with
 |ptr=>
 obtain⟨RN,gl⟩:=aL aG _ aj;obtain⟨N3,O0,lo,hi,vals,xK,vz,ie,_,_⟩:=gl;obtain⟨y,ys,rfl,aF,oP⟩:=bq.cons_inv (d:= .map b1) (ds:=[]) vz;cases aF with
 |map=>
 obtain rfl:=oP.gv;have hB:aG<w.heap.size:=(Array.getElem?_eq_some_iff.1 xK).1;have ve:w.cell? ⟨aG,0,none⟩=some (.map (some b1)):=by
  have:=ie 0 _ rfl;simp[World.cell?,xK,this]
 obtain⟨Q_,hS⟩:=aL b1 _ aw;obtain⟨L,D3,xX⟩:=Lt (P:=Tryz.prog) (k:=3) (w:=w) KH (fun e he=>by
  obtain⟨n,au,rfl⟩:=List.mem_map.1 he;have:=fW n au;exact keyOf_int_mk (q:= .i64) Tryz.underlying3 (by simp only[Lit.wf,Bool.and_eq_true,decide_eq_true_eq];exact⟨Int.le_trans (show IntKind.min .i64≤0 by decide) (by omega),Int.le_trans (b:=2^30) (by omega) (by decide)⟩)) (by rw[OP];exact Yl cM) (by simp[hH,maxLen];omega) hS
 have bU:Maps.size (DataW.map L)=met.length:=by
  have:=xX.length_eq;rw[List.length_map,List.length_map]at this;show L.length=_
  rw[this];simp[hH]
 have DD:(intKeys (DataW.map L)).Perm (met.map fun n:Nat=>(n:Int)):=by
  have aa:=xX.map intOf;rw[List.map_map]at aa;refine aa.trans ?_;unfold hH;rw[List.map_map,List.map_map];exact List.Perm.refl _
 have Ee:SeqGives Fence.wide 2 Tryz.prog 129 #[.pointer (some ⟨aG,0,none⟩)] encZ (fun iu=>iu.Perm (intKeys (DataW.map L))) (Maps.size (DataW.map L)) w:=
  AnyZI.keys_gives (ρ:=Tryz.Kv) {Tryz.TP with} Fence.wide _ trivial rfl (by omega) aG b1 _ (DataW.map L) w hB ve D3
 have cL:=AnyZI.sorted_in Tryz.XK Fence.wide 5 trivial trivial trivial trivial rfl (by omega) (XO _) (enters_of Tryz.func128 (by kernel_rfl) rfl) 129 #[.pointer (some ⟨aG,0,none⟩)] trivial (enters_of Tryz.func129 (by kernel_rfl) rfl) _ _ (by rw[bU];unfold maxLen;omega) (by rw[bU];omega) _ Ee;change CallsIn _ _ Tryz.prog 100 _ _ _ at cL;rw[show(0:Nat)*1+0=0 from rfl];refine(callsIn_wide.1 cL).mono ?_;rintro e w' ⟨v,iu,rfl,C4,gp,xT,ae⟩;have fK:iu.mergeSort leI=wj met:=mergeSort_of_perm_i (C4.trans DD);refine⟨v,_,rfl, ?_, ?_,rfl,ae⟩
 ·have bt:((wj met).map encZ).length=iu.length:=by rw[←fK];simp
  rw[bt,←fK];exact gp
 simp[List.all_map];intro x _;rfl
end Go.Ab.S16
namespace Go.Ab.S16
def ub {α:Type} (le:α→α→Bool) (x:α):List α→List α
 |[]=>[x]
 |y::ys=>if le x y=true then x::y::ys else y::ub le x ys
def mS {α:Type} (le:α→α→Bool):List α→List α
 |[]=>[]
 |x::xs=>ub le x (mS le xs)
section
variable {α : Type} {le : α → α → Bool}
theorem EB (x:α):∀l:List α,(ub le x l).Perm (x::l)
 |[]=> .refl _
 |y::ys=>by
  unfold ub;split
  ·exact .refl _
  exact((EB x ys).cons y).trans (.swap x y ys)
theorem sl:∀l:List α,(mS le l).Perm l
 |[]=> .refl _
 |x::xs=>(EB x _).trans ((sl xs).cons x)
theorem Ko (ks:∀a b c,le a b=true→le b c=true→le a c=true) (sD:∀a b,(le a b||le b a)=true) (x:α):∀l:List α,l.Pairwise (fun a b=>le a b=true)→(ub le x l).Pairwise (fun a b=>le a b=true)
 |[],_=>by simp[ub]
 |y::ys,h=>by
  obtain⟨aa,ah⟩:=List.pairwise_cons.1 h;unfold ub;split
  ·rename_i vD
   refine List.pairwise_cons.2 ⟨fun z aO=> ?_,h⟩;rcases List.mem_cons.1 aO with rfl|aO
   ·exact vD
   exact ks x y z vD (aa z aO)
  rename_i vD
  refine List.pairwise_cons.2 ⟨fun z aO=> ?_,Ko ks sD x ys ah⟩;rcases List.mem_cons.1 ((EB x ys).mem_iff.1 aO)with rfl|aO
  ·have:=sD z y;rw[Bool.or_eq_true]at this;rcases this with h|h
   ·exact absurd h vD
   exact h
  exact aa z aO
theorem AA (ks:∀a b c,le a b=true→le b c=true→le a c=true) (sD:∀a b,(le a b||le b a)=true):∀l:List α,(mS le l).Pairwise (fun a b=>le a b=true)
 |[]=> .nil
 |x::xs=>Ko ks sD x _ (AA ks sD xs)
theorem Kr (ks:∀a b c,le a b=true→le b c=true→le a c=true) (sD:∀a b,(le a b||le b a)=true) (NJ:∀a b,le a b=true→le b a=true→a=b) (l:List α):l.mergeSort le=mS le l:=
 List.Perm.eq_of_pairwise (le:=fun a b=>le a b=true) (fun a b _ _ aa ah=>NJ a b aa ah) (List.pairwise_mergeSort ks sD l) (AA ks sD l) ((List.mergeSort_perm l le).trans (sl l).symm)
end
theorem TH (l:List Nat):(l.mergeSort fun x y=>decide (x≤y))=mS (fun x y=>decide (x≤y)) l:=
 Kr (fun a b c aa ah=>by simp at*;omega) (fun a b=>by simp;omega) (fun a b aa ah=>by simp at*;omega) l
end Go.Ab.S16
namespace Go.Ab.S16
open Go Go.Proofs
theorem TQ (b1:Nat) (σ:al):
  AC Tryz.prog 101 [.map b1] σ (fun e σ'=>∃aG,av aG σ=none∧e= .ret (.bX (.func 129) [] [.ptr aG 1 0 0])∧σ'=(aG, .arr 1 [.map b1])::σ):=by
 refine AC.bI Tryz.func101 Tryz.ntmps101 fun C ar=> ?_;refine j.J (j.rg [0] fun K I=> ?_);simp only[go_sem];intro aG hB;apply I;refine j.J (j.rg [1] fun K I=> ?_);simp only[go_sem];apply I;refine j.ret ar Tryz.func101 (by simp[go_sem]) ?_;simp only[go_sem];exact⟨aG,hB,rfl,rfl⟩
def kY (aI:List (List Nat)):Nat→Nat→List Nat→List Nat
 |0,_,met=>met
 |fuel+1,k,met=>if h:k<met.length then kY aI fuel (k+1) (dY met (aI.getD met[k] []))else met
def o2 (aI:List (List Nat)) (c2:List Nat):List Nat:=kY aI (aI.length+1) 0 (dY [] c2)
theorem UC (n:Int):wN Tryz.prog 153 (.v (.int .i64 n))= .new (0≤n∧n<2^40∧((8:Nat):Int)*n≤2^46) (.e7 n.toNat []) (fun b=> .v (.chan (some b))):=by
 have h:kR Tryz.prog 3=some 8:=by kernel_rfl
 have hu:Tryz.prog.underlying 153=some (.chan .both 3):=Tryz.underlying153;simp only[wN,hu,h]
theorem eF {b c:Nat} {o:aE} {r:al} (h:av b ((c,o)::r)=none):b≠c∧av b r=none:=by
 rw[aW]at h;split at h
 ·cases h
 rename_i au;exact⟨au,h⟩
structure wK (dS dT b2 b1:Nat) (σ:al):Prop extends sM dS dT b2 b1 where
 HV:av dS σ=none
 HA:av dT σ=none
 HS:av b2 σ=none
 fd:av b1 σ=none
theorem wK.of {dS dT b2 b1:Nat} {σ:al} {dH dI ed UU UW UX:aE} (aa:av b1 σ=none) (ah:av b2 ((b1,dH)::σ)=none) (aJ:av dT ((b2,dI)::(b1,ed)::σ)=none) (bg:av dS ((dT,UU)::(b2,UW)::(b1,UX)::σ)=none):wK dS dT b2 b1 σ:=by
 obtain⟨hP,a2⟩:=eF ah;obtain⟨bP,br⟩:=eF aJ;obtain⟨b3,b4⟩:=eF br;obtain⟨mh,nb⟩:=eF bg;obtain⟨c3,BZ⟩:=eF nb;obtain⟨c5,N2⟩:=eF BZ;exact{A7:=mh,Fu:=c3,A8:=c5,B4:=bP,uT:=b3,md:=hP,HV:=N2,HA:=b4,HS:=a2,fd:=aa}
theorem wK.drop {dS dT b2 b1 cap:Nat} {met q:List Nat} {σ:al} (h:wK dS dT b2 b1 σ) {o:Option Nat} {xs:List D} (aq:aV o 1 xs (hJ dS dT b2 b1 cap met q σ)):
  aV o 1 xs σ∧aQ (cellsOf o 1 xs++σ) (cellsOf o 1 xs++hJ dS dT b2 b1 cap met q σ):=by
 unfold hJ at*;obtain⟨g1,bs⟩:=aq.drop (by simp[av,h.A7,h.Fu,h.A8,h.HV]);obtain⟨g2,kk⟩:=g1.drop (by simp[av,h.B4,h.uT,h.HA]);obtain⟨g3,kM⟩:=g2.drop (by simp[av,h.md,h.HS]);obtain⟨g4,kN⟩:=g3.drop h.fd;exact⟨g4,fun b o ae=>bs b o (kk b o (kM b o (kN b o ae)))⟩
theorem V5 (cA fc:D) (pj:List D) (aI:List (List Nat)) (c2:List Nat) (σ:al) (jH:pj.length=aI.length) (aA:aI.length<2^30) (ax:∀n∈c2,n<aI.length) (dE:c2.length<2^30) (fj:∀l∈aI,l.length<2^30∧∀n∈l,n<aI.length):
  AC Tryz.prog 73 [.c0 [.ai pj,cA,fc, .ai (aI.map fun l=> .ai (l.map a_))], .ai (c2.map a_)] σ
   (fun e σ'=>∃o xs,xs=(wj (o2 aI c2)).map oQ∧aV o 1 xs σ∧e= .ret (.own o 1 xs.length)∧σ'=cellsOf o 1 xs++σ):=by
 have e_:(aI.map fun l=>D.ai (l.map a_)).length=aI.length:=List.length_map ..;have Tf:=bH pj.length (by omega);refine AC.bI Tryz.func73 Tryz.ntmps73 fun C ar=> ?_;refine j.J (j.rg [0,1] fun K I=> ?_);simp only[go_sem];apply I;refine j.J (j.rg [0,1] fun K I=> ?_);simp only[go_sem];intro b1 hg b2 lK;apply I;refine j.J (j.rg [0,1,5] fun K I=> ?_);simp only[go_sem,Tf,UC];refine⟨by omega,fun dT fk dS qs=> ?_⟩;have aX:=wK.of hg lK fk qs;apply I;change j C _ _ (hJ dS dT b2 b1 (pj.length+1) [] (([]:List Nat).drop 0) σ);refine j.J (j.rg [0,1,5,6] fun K I=> ?_);simp only[go_sem];apply I;refine j.J (j.rg [0,1,5,6,7] fun K I=> ?_);simp only[go_sem];refine a1 Tryz.call99 (L6 aX.tosM c2 [] 0 aI.length dE (by omega) ax (by simp) List.nodup_nil (Nat.zero_le _)) ?_;simp only[go_sem];apply I;refine j.aG ?_;refine j.rebase [0,5,6,7] ?_;simp only[go_sem];refine j.while (fun(k:Nat) env' aS=>∃met:List Nat,(k≤met.length∧met.Nodup∧(∀n∈met,n<aI.length)∧kY aI (aI.length+1-k) k met=o2 aI c2)∧env'=[(0, .c0 [.ai pj,cA,fc, .ai (aI.map fun l=> .ai (l.map a_))]),(5, .ptr b2 1 0 0),(6, .ptr dS 1 0 0),(7, .bX (.func 99) [] [.ptr b2 1 0 0, .ptr dS 1 0 0])]∧aS=hJ dS dT b2 b1 (pj.length+1) met (met.drop k) σ) (fun(k:Nat)=>aI.length+1-k) 0 ⟨dY [] c2,⟨Nat.zero_le _,rk _ _ List.nodup_nil,fun n au=>(by rcases(m_ c2 [] n).1 au with h|h;(· cases h);exact ax n h),rfl⟩,rfl,rfl⟩ ?_
 rintro k env' aS ⟨met,⟨aj,cM,hm,cT⟩,rfl,rfl⟩ aB;have cH:=aB;have dW:=nD cM (m:=List.range aI.length) (fun x an=>List.mem_range.2 (hm x an));rw[List.length_range]at dW;refine j.aG (j.J (j.rg [0,5,6,7] fun K I=> ?_));simp only[go_sem,Fy];apply I;refine j.J ?_;rcases bW:met.drop k with _|⟨x,q⟩
 ·refine j.v' [0,5,6,7,22] ?_;refine j.U7 ar.kind ar.round (uM _ _) rfl (z:= .int .i64 0) (by kernel_rfl) rfl rfl gC rfl (rd_c aX.tosM) ?_;simp only[go_sem];refine j.op (uN _ _ _) rfl nofun gC ?_;simp only[go_sem];refine j.op (uO _ _ _ _) rfl nofun gC ?_;simp only[go_sem];refine j.uv ?_;have eO:k=met.length:=by
   have:=congrArg List.length bW;simp at this;omega
  have c1:o2 aI c2=met:=by
   rw[←cT,show aI.length+1-k=(aI.length-k)+1 by omega,kY,dif_neg (by omega)]
  refine j.aG (j.bJ rfl (j.J (j.rg [5] fun K I=> ?_)));simp only[go_sem,L4 aX.tosM];refine⟨_,Tryz.call101,(TQ b1 _).mono ?_⟩;rintro e σ1 ⟨aG,hB,rfl,rfl⟩;simp only[go_sem];refine⟨_,Tryz.call100,(XL aG b1 met _ (bE ..) (by rw[aW,if_neg (fun e=>by rw[←e,Fx aX.tosM]at hB;cases hB)];exact Fx aX.tosM) cM (by omega) (fun n au=>by have:=hm n au;omega)).mono ?_⟩
  rintro e σ1 ⟨o,xs,rfl,aT,rfl,rfl⟩;simp only[go_sem];apply I;have tz:=aT.drop hB;have b7:=aX.drop tz.1;refine j.le (cn.refl _) (fun b o ae=>tz.2 b o (b7.2 b o ae)) ?_;refine j.ret ar Tryz.func73 (by simp[go_sem]) ?_;simp only[go_sem];rw[c1];refine⟨o,_, ?_,b7.1,rfl,rfl⟩;rw[List.map_map];rfl
 have eO:k<met.length:=by
  have:=congrArg List.length bW;simp at this;omega
 have lU:=List.drop_eq_getElem_cons eO;rw[bW,List.cons.injEq]at lU;obtain⟨rfl,rfl⟩:=lU;refine j.v' [0,5,6,7,22] ?_;refine j.U8 ar.kind ar.round (uM _ _) rfl (z:= .int .i64 0) (by kernel_rfl) rfl gC rfl (rd_c aX.tosM) ?_;rw[L5 aX.tosM];simp only[go_sem];refine j.op (uN _ _ _) rfl nofun gC ?_;simp only[go_sem];refine j.op (uO _ _ _ _) rfl nofun gC ?_;simp only[go_sem];refine j.uv ?_;have au:=hm met[k] (List.getElem_mem eO);have cW:=b6 (fun l=>D.ai (l.map a_)) aI met[k] au;have jq:(0:Int)≤(met[k]:Int):=by omega
 have jr:(met[k]:Int)<((aI.map fun l=>D.ai (l.map a_)).length:Int):=by omega
 have Rl:kY aI (aI.length+1-(k+1)) (k+1) (dY met aI[met[k]])=o2 aI c2:=by
  rw[←cT,show aI.length+1-k=(aI.length+1-(k+1))+1 by omega,kY,dif_pos eO,dC aI met[k] [] au]
 have bb:=fj _ (List.getElem_mem au);refine j.aG (j.bZ rfl (j.J (j.rg [0,5,6,7,23] fun K I=> ?_)));simp only[go_sem];apply I;refine j.rg [0,5,6,7,8] fun K I=> ?_;simp only[go_sem,cW,jq,jr,sF];refine a1 Tryz.call99 (L6 aX.tosM aI[met[k]] met (k+1) aI.length bb.1 (by omega) bb.2 hm cM (by omega)) ?_;simp only[go_sem];apply I;refine j.ba (j.ba ?_);refine j.rebase [0,5,6,7] ?_;simp only[go_sem];refine aB (k+1) _ _ ⟨dY met aI[met[k]],⟨Nat.le_trans (by omega) (yJ _ _),rk _ _ cM,fun n au=> ?_,Rl⟩,rfl,rfl⟩ (by omega);rcases(m_ _ _ n).1 au with h|h
 ·exact hm n h
 exact bb.2 n h
def hc (aI:List (List Nat)) (c2:List Nat):List Nat:=mS (fun x y=>decide (x≤y)) (o2 aI c2)
theorem XI (l:List Nat):(wj l).map oQ=(mS (fun x y=>decide (x≤y)) l).map a_:=by
 rw[←TH];unfold wj;rw[←List.map_mergeSort (r:=fun x y:Nat=>decide (x≤y)) (fun a _ b _=>by simp[leI]),List.map_map];rfl
theorem L9 (cA fc:D) (pj:List D) (aI:List (List Nat)) (c2:List Nat) (σ:al) (jH:pj.length=aI.length) (aA:aI.length<2^30) (ax:∀n∈c2,n<aI.length) (dE:c2.length<2^30) (fj:∀l∈aI,l.length<2^30∧∀n∈l,n<aI.length):
  AC Tryz.prog 73 [.c0 [.ai pj,cA,fc, .ai (aI.map fun l=> .ai (l.map a_))], .ai (c2.map a_)] σ (fun e σ'=>e= .ret (.ai ((hc aI c2).map a_))∧σ'=σ):=by
 refine AC.q5 (sz:=1) ((V5 cA fc pj aI c2 [] jH aA ax dE fj).mono ?_) σ;rintro e σ' ⟨o,xs,rfl,aT,rfl,rfl⟩;rw[XI]at*;exact⟨o,aT,rfl,rfl⟩
end Go.Ab.S16
namespace Go.Ab
open Go
variable {P : Program} {N : cP} {C : Ctx P N} {todo : List Item} {env : Env} {σ : al}
theorem j.VB (k b:Nat) {n:Nat} {cs:List D} (aj:eget k env= .ptr b n 0 0) (ae:av b σ=some (.arr n [.agg cs]))
  (h:j C todo (eput k (.c0 cs) (kB b n [.agg cs] env)) (di b n [.agg cs] σ)):j C todo env σ:=by
 intro a w S aw af;obtain⟨bx,aL,bl⟩:=vY af.store af.fr.lt ae;have lb:=(af.store b _ ae).2;refine h a w _ aw ⟨fun U=> ?_,aL,af.fr.trans bl,af.size⟩;rw[j6];split
 ·rename_i aR
  subst aR;have ao:=af.env U;rw[aj]at ao;obtain⟨cI,cV,lo,hi,vals,iF,ju,lL,bU,iD⟩:=lb;have D':bq w S cs vals:=by
   have:flat [D.agg cs]=cs:=by simp[flat,D.cells]
   rw[this]at ju;exact ju
  generalize a.tmps.getD U undef=v at ao;cases ao with
  |ptr=>
   rw[Nat.zero_mul];refine .c0 (.inr rfl) (D'.ev bx) fun i x an=> ?_;rw[Nat.zero_add,ph iF];exact lL i x an
 rw[uV];exact uw bx (.inr rfl) lb (af.env U)
theorem aV.swap {fG os:Option Nat} {mX kS:Nat} {sH bz:List D} {ρ:al} (bb:aV fG mX sH (cellsOf os kS bz++ρ)) (af:aV os kS bz ρ):
  aV os kS bz (cellsOf fG mX sH++ρ)∧aV fG mX sH ρ∧aQ (cellsOf os kS bz++(cellsOf fG mX sH++ρ)) (cellsOf fG mX sH++(cellsOf os kS bz++ρ)):=by
 cases fG with
 |none=>exact⟨af,⟨nofun,bb.zero⟩,aQ.refl _⟩
 |some a=>
  cases os with
  |none=>exact⟨⟨nofun,af.zero⟩,bb,aQ.refl _⟩
  |some c=>
   have aa:=bb.fresh a rfl;change av a ((c,aE.arr kS bz)::ρ)=none at aa;rw[aW]at aa;have nf:a≠c:=fun e=>by rw[if_pos e]at aa;cases aa
   rw[if_neg nf]at aa;refine⟨⟨fun b ae=> ?_,nofun⟩,⟨fun b ae=>by cases ae;exact aa,nofun⟩,fun b o ae=> ?_⟩
   ·cases ae
    show av c ((a,aE.arr mX sH)::ρ)=none
    rw[aW,if_neg nf.symm];exact af.fresh c rfl
   change av b ((c,aE.arr kS bz)::(a,aE.arr mX sH)::ρ)=some o at ae;show av b ((a,aE.arr mX sH)::(c,aE.arr kS bz)::ρ)=some o
   rw[aW,aW]at ae⊢;by_cases ah:b=a
   ·have aJ:b≠c:=fun e=>nf (ah.symm.trans e);rw[if_neg aJ,if_pos ah]at ae;rw[if_pos ah];exact ae
   rw[if_neg ah]at ae⊢;exact ae
def dO (c:Nat) (σ:al):Prop:=∀sz xs,di c sz xs σ=σ
theorem dO.nil (c:Nat):dO c []:=fun _ _=>rfl
theorem dO.cons {c k:Nat} {o:aE} {σ:al} (aj:c≠k) (aH:∀sz xs,o.b' c sz xs=o) (h:dO c σ):dO c ((k,o)::σ):=fun sz xs=>by
 simp only[di,if_neg aj,aH,h sz xs]
theorem dO.cells {c sz:Nat} {o:Option Nat} {ys:List D} {σ:al} (aj:o≠some c) (aH:∀y∈ys,∀sz xs,D.b' c sz xs y=y) (h:dO c σ):dO c (cellsOf o sz ys++σ):=by
 cases o with
 |none=>exact h
 |some k=>exact .cons (fun e=>aj (by rw[e])) (fun s xs=>by simp only[aE.b',aE.arr.injEq,true_and];exact(List.map_congr_left (g:=id) fun y aF=>aH y aF s xs).trans (List.map_id ys)) h
theorem j.Fj (k:Nat) {o:Option Nat} {sz:Nat} {xs:List D} {ρ:al} (aj:eget k env= .own o sz xs.length) (aq:aV o sz xs ρ) (fq:∀c,av c ρ=none→dO c ρ) (he:∀c,∀p∈env,p.1≠k→D.b' c sz xs p.2=p.2)
  (h:j C todo (eput k (.ai xs) env) ρ):j C todo env (cellsOf o sz xs++ρ):=by
 cases o with
 |none=>
  have an:=aq.zero rfl;subst an;refine j.pk h fun U=> ?_;rw[j6];split
  ·rename_i aR;rw[aR,aj];exact ca.l5 _ _
  exact ca.refl _
 |some c=>
  refine j.o1 c (bE c _ _) ?_;have bt:di c sz xs ((c,aE.arr sz xs)::ρ)=ρ:=by
   simp only[di,if_true];exact fq c (aq.fresh c rfl) sz xs
  change j C todo (kB c sz xs env) (di c sz xs ((c,aE.arr sz xs)::ρ));rw[bt];refine j.pk h fun U=> ?_;rw[uV,j6];split
  ·rename_i aR
   rw[aR,aj];show ca (if c=c∧sz=sz∧xs.length≤xs.length then D.ai (xs.take xs.length)else _) _
   rw[if_pos ⟨rfl,rfl,Nat.le_refl _⟩,List.take_length];exact ca.refl _
  rename_i aR
  have:∀env:Env,(∀p∈env,p.1≠k→D.b' c sz xs p.2=p.2)→D.b' c sz xs (eget U env)=eget U env:=by
   intro env;induction env with
   |nil=>intro _;rfl
   |cons p r aB=>
    obtain⟨i,d⟩:=p;intro aP;show D.b' c sz xs (if U=i then d else eget U r)=if U=i then d else eget U r
    by_cases iG:U=i
    ·rw[if_pos iG];exact aP (i,d) (by simp) (fun e=>aR (iG.trans e))
    rw[if_neg iG];exact aB fun p D4=>aP p (by simp[D4])
  rw[this env (he c)];exact ca.refl _
end Go.Ab
namespace Go.Ab.S16
open Go Go.Proofs
def jA (mks:List (ByteArray×Nat)) (i:Nat) (outs:List ByteArray):Option (List (ByteArray×Nat)):=
 outs.foldl (fun o f=>o.bind fun m=>if(cE m f).isSome then none else some (m++[(f,i)])) (some mks)
theorem Lq (mks:List (ByteArray×Nat)) (i:Nat) (outs:List ByteArray) (U:Nat) (h:U<outs.length):jA mks i (outs.take (U+1))=(jA mks i (outs.take U)).bind fun m=>if(cE m outs[U]).isSome then none else some (m++[(outs[U],i)]):=by
 unfold jA;rw[List.take_succ_eq_append_getElem h,List.foldl_append];rfl
theorem HU {α β:Type} (f:β→α→Option β) (l:List α):l.foldl (fun o x=>o.bind fun m=>f m x) none=none:=by
 induction l with
 |nil=>rfl
 |cons x l aB=>exact aB
theorem Vc {mks:List (ByteArray×Nat)} {i:Nat} {outs:List ByteArray} {U:Nat} (h:jA mks i (outs.take U)=none):jA mks i outs=none:=by
 conv=>lhs;rw[←List.take_append_drop U outs]
 unfold jA at*;rw[List.foldl_append,h];exact HU (fun m f=>if(cE m f).isSome then none else some (m++[(f,i)])) _
def jC (edges:List aM) (n:Nat):Option (List (ByteArray×Nat)):=
 (List.range n).foldl (fun o i=>o.bind fun m=>jA m i (edges.getD i ⟨[],[],[],[],⟨#[]⟩,⟨#[]⟩⟩).outs) (some [])
theorem wP (edges:List aM) (n:Nat) (h:n<edges.length):jC edges (n+1)=(jC edges n).bind fun m=>jA m n edges[n].outs:=by
 unfold jC;rw[List.range_succ,List.foldl_append];simp only[List.foldl_cons,List.foldl_nil];rw[dC edges n _ h]
theorem Gw {edges:List aM} {n:Nat} (h:jC edges n=none):∀k,n≤k→jC edges k=none
 |0,aj=>by
  obtain rfl:n=0:=by omega
  exact h
 |k+1,aj=>by
  by_cases he:n=k+1
  ·rw[←he];exact h
  have:=Gw h k (by omega);unfold jC at*;rw[List.range_succ,List.foldl_append,this];rfl
def iS (m:bK):Nat⊕b9:=
 match jC m.edges m.edges.length with
 |none=> .inl 11
 |some mks=>
  let aI:=m.edges.map fun e=>cw mks e.bG
  if(iV aI (List.range m.edges.length)).length<m.edges.length then .inl 12 else .inr ⟨m,mks,aI⟩
def c4 (b mb:Nat) (dL cA dA:D) (mks:List (ByteArray×Nat)) (ρ:al):al:=(b, .arr 4 [.agg [dL,cA, .map mb,dA]])::(mb, .mp (dG mks))::ρ
section
variable {b mb : Nat} {dL cA dA : D} {mks : List (ByteArray × Nat)} {ρ : al}
theorem lG:av b (c4 b mb dL cA dA mks ρ)=some (.arr 4 [.agg [dL,cA, .map mb,dA]]):=by simp[c4,av]
theorem zq (h:mb≠b):av mb (c4 b mb dL cA dA mks ρ)=some (.mp (dG mks)):=by simp[c4,av,h]
theorem u2 (lx dj y3:D):sset b (.arr 4 [.agg [lx,dj, .map mb,y3]]) (c4 b mb dL cA dA mks ρ)=c4 b mb lx dj y3 mks ρ:=by simp[c4,sset]
theorem PX (h:mb≠b) (mks':List (ByteArray×Nat)):sset mb (.mp (dG mks')) (c4 b mb dL cA dA mks ρ)=c4 b mb dL cA dA mks' ρ:=by simp[c4,sset,h]
end
theorem zr {b mb c:Nat} {dL cA dA lx dj y3:D} {mks mks':List (ByteArray×Nat)} {ρ:al} (h:av c (c4 b mb dL cA dA mks ρ)=none):av c (c4 b mb lx dj y3 mks' ρ)=none:=by
 unfold c4 at*;obtain⟨aa,ah⟩:=eF h;obtain⟨aJ,bg⟩:=eF ah;rw[aW,if_neg aa,aW,if_neg aJ,bg]
theorem H9 {b mb:Nat} {dL cA dA:D} (lx dj y3:D) {mks:List (ByteArray×Nat)} (mks':List (ByteArray×Nat)) {ρ:al} {o:Option Nat} {sz:Nat} {xs:List D} (h:aV o sz xs (c4 b mb dL cA dA mks ρ)):aV o sz xs (c4 b mb lx dj y3 mks' ρ):=
 ⟨fun c ag=>zr (h.fresh c ag),h.zero⟩
theorem UF (l:List (ByteArray×Nat)) (f:ByteArray) (n:Nat) (h:cE l f=none):il (.string f) (a_ n) (dG l)=dG (l++[(f,n)]):=by
 induction l with
 |nil=>rfl
 |cons p r aB=>
  obtain⟨k,m⟩:=p;unfold cE at h aB;rw[List.find?_cons]at h;cases aj:(f==k)with
  |true=>simp[aj]at h
  |false=>
   simp only[aj]at h;show(if kj (.string f) (.string k)=true then _ else(Value.string k,a_ m)::il (.string f) (a_ n) (dG r))=_
   rw[show kj (.string f) (.string k)=(f==k)from rfl,aj,if_neg (by simp),aB h];rfl
theorem EX (c sz:Nat) (xs:List D) (l:List (ByteArray×Nat)):(aE.mp (dG l)).b' c sz xs= .mp (dG l):=by
 simp only[aE.b',dG,List.map_map];rfl
theorem H' {b mb c sz:Nat} {xs:List D} {dL cA dA lx dj y3:D} {mks:List (ByteArray×Nat)} {ρ:al} (ag:av c (c4 b mb dL cA dA mks ρ)=none) (bj:D.b' c sz xs dL=lx) (aa:D.b' c sz xs cA=dj) (aJ:D.b' c sz xs dA=y3) (fq:dO c ρ):
  di c sz xs (c4 b mb dL cA dA mks ρ)=c4 b mb lx dj y3 mks ρ:=by
 unfold c4 at*;obtain⟨kO,ag⟩:=eF ag;obtain⟨ey,ag⟩:=eF ag;simp only[di,if_neg kO,if_neg ey,EX,fq sz xs];simp only[aE.b',List.map_cons,List.map_nil,D.b',hb,bj,aa,aJ]
theorem j.LG {P:Program} {N:cP} {C:Ctx P N} {todo:List Item} {env:Env} {b mb sz:Nat} {o:Option Nat} {es:List D} {dL cA dA:D} (lx dj y3:D) {mks:List (ByteArray×Nat)} {ρ:al} (aq:aV o sz es (c4 b mb dL cA dA mks ρ)) (ns:o=none→ca dL lx∧ca cA dj∧ca dA y3)
  (Ei:∀c,o=some c→av c (c4 b mb dL cA dA mks ρ)=none→D.b' c sz es dL=lx∧D.b' c sz es cA=dj∧D.b' c sz es dA=y3) (fq:∀c,av c ρ=none→dO c ρ) (he:∀c,kB c sz es env=env)
  (h:j C todo env (c4 b mb lx dj y3 mks ρ)):j C todo env (cellsOf o sz es++c4 b mb dL cA dA mks ρ):=by
 cases o with
 |none=>
  obtain⟨bj,aa,aJ⟩:=ns rfl;show j C todo env (c4 b mb dL cA dA mks ρ)
  unfold c4 at*;refine j.q9 (ys:=[.agg [lx,dj, .map mb,y3]]) (fun w S vs ao=> ?_) (by intro y aF;simp only[List.mem_singleton]at aF;subst aF;rfl) h
  obtain⟨v0,vs,rfl,gH,ao⟩:=bq.cons_inv (show bq w S (dL::[cA, .map mb,dA]) vs from ao);obtain⟨v1,vs,rfl,bu,ao⟩:=ao.cons_inv;obtain⟨v2,vs,rfl,jS,ao⟩:=ao.cons_inv;obtain⟨v3,vs,rfl,nK,ao⟩:=ao.cons_inv;exact .cons (bj _ _ _ gH) (.cons (aa _ _ _ bu) (.cons jS (.cons (aJ _ _ _ nK) ao)))
 |some c=>
  have ag:=aq.fresh c rfl;obtain⟨bj,aa,aJ⟩:=Ei c rfl ag;have Q7:av c ρ=none:=by
   unfold c4 at ag;exact(eF (eF ag).2).2
  refine j.o1 c (bE c _ _) ?_;change j C todo (kB c sz es env) (di c sz es ((c,aE.arr sz es)::c4 b mb dL cA dA mks ρ));rw[he c];have bt:di c sz es ((c,aE.arr sz es)::c4 b mb dL cA dA mks ρ)=c4 b mb lx dj y3 mks ρ:=by
   rw[←H' ag bj aa aJ (fq c Q7)];simp only[di,if_true]
  rw[bt];exact h
theorem Fk (c sz:Nat) (xs:List D):D.b' c sz xs (.own (some c) sz xs.length)= .ai xs:=by
 show(if c=c∧sz=sz∧xs.length≤xs.length then D.ai (xs.take xs.length)else _)=_
 rw[if_pos ⟨rfl,rfl,Nat.le_refl _⟩,List.take_length]
theorem LJ {c sz n:Nat} {xs:List D} {o:Option Nat} {s:Nat} (h:o≠some c):D.b' c sz xs (.own o s n)= .own o s n:=by
 cases o with
 |none=>rfl
 |some k=>
  show(if k=c∧s=sz∧n≤xs.length then _ else D.own (some k) s n)=_
  rw[if_neg fun e=>h (by rw[e.1])]
theorem UA (mks:List (ByteArray×Nat)) (b mb:Nat) (dL cA dA:D) (a7:List ByteArray) (σ:al) (hm:av mb σ=some (.mp (dG mks))) (ae:av b σ=some (.arr 4 [.agg [dL,cA, .map mb,dA]])) (aA:a7.length<2^30) (aP:∀c,av c σ=none→dO c σ):
  AC Tryz.prog 54 [.ptr b 4 0 0, .ai (a7.map ab)] σ (fun e σ'=>e= .ret (.ai ((cw mks a7).map a_))∧σ'=σ):=
 AC.AW (fun c ag=>aP c ag _ _) (Uz mks b mb dL cA dA a7 σ hm ae aA)
theorem aM.rB (e:aM):e.d= .agg [.ai (e.outs.map ab), .ai (e.ins.map ab), .ai (e.impl.map ab), .ai (e.order.map ab), .v (.string e.cmd), .v (.string e.dep)]:=rfl
def XE (l:List Nat):D:= .ai (l.map a_)
def hZ (m:bK) (mks:List (ByteArray×Nat)) (k:Nat):List D:=(m.edges.take k).map fun e=>XE (cw mks e.bG)
theorem aQ.Oo {A B:al} (k:Nat) (o:aE) (h:aQ A B):aQ ((k,o)::A) ((k,o)::B):=fun b x ae=>by
 rw[aW]at ae⊢;split at ae
 ·rename_i aj;rw[if_pos aj];exact ae
 rename_i aj;rw[if_neg aj];exact h b x ae
theorem aQ.none {A B:al} (h:aQ A B) {b:Nat} (ae:av b B=none):av b A=none:=by
 cases bb:av b A with
 |none=>rfl
 |some o=>rw[h b o bb]at ae;cases ae
theorem H_ {b mb c:Nat} {dL cA dA:D} {mks:List (ByteArray×Nat)} {ρ:al} (ag:av c (c4 b mb dL cA dA mks ρ)=none) (bj:∀sz xs,D.b' c sz xs dL=dL) (aa:∀sz xs,D.b' c sz xs cA=cA) (aJ:∀sz xs,D.b' c sz xs dA=dA) (fq:dO c ρ):dO c (c4 b mb dL cA dA mks ρ):=
 fun sz xs=>H' ag (bj sz xs) (aa sz xs) (aJ sz xs) fq
theorem Mm (m:bK) (mks:List (ByteArray×Nat)) (k:Nat) (c:Nat):∀y∈hZ m mks k,∀sz xs,D.b' c sz xs y=y:=fun y aF sz xs=>by
 obtain⟨e,_,rfl⟩:=List.mem_map.1 aF;rfl
theorem WJ (m:bK) (mks:List (ByteArray×Nat)) (k:Nat) (h:k<m.edges.length):hZ m mks (k+1)=hZ m mks k++[.ai ((cw mks m.edges[k].bG).map a_)]:=by
 unfold hZ;rw[List.take_succ_eq_append_getElem h,List.map_append];rfl
theorem FG (m:bK) (mks:List (ByteArray×Nat)) (k:Nat) (h:k≤m.edges.length):(hZ m mks k).length=k:=by
 unfold hZ;simp;omega
theorem UL (l:List Nat) (c:Nat):∀y∈l.map a_,∀sz xs,D.b' c sz xs y=y:=fun y aF sz xs=>by
 obtain⟨e,_,rfl⟩:=List.mem_map.1 aF;rfl
theorem UR (m:bK) (aA:m.edges.length<2^20) (af:∀e∈m.edges,e.small) (aw:m.defs.length<2^20):
  AC Tryz.prog 20 [m.d] [] (fun e σ'=>match iS m with
   | .inl c=>e= .ret (.bd [.v (.pointer none), .v (.int .i64 (c:Int))])
   | .inr g=>∃mb,e= .ret (.bd [g.d mb, .v (.int .i64 0)])∧av mb σ'=some (.mp (dG g.mks))):=by
 have bn:(m.edges.map aM.d).length=m.edges.length:=List.length_map ..;unfold bK.d;refine AC.bI Tryz.func20 Tryz.ntmps20 fun C ar=> ?_;refine j.J (j.rg [0] fun K I=> ?_);simp only[go_sem];intro GR;apply I;refine j.J (j.rg [1] fun K I=> ?_);simp only[go_sem];intro mb r7 b ae;apply I;obtain⟨lK,hR⟩:=eF ae;obtain⟨Q1,-⟩:=eF hR;obtain⟨DP,-⟩:=eF r7;generalize fq:[(GR,aE.arr 2 [D.agg [.ai (m.edges.map aM.d), .ai (m.defs.map ab)]])]=ρ at r7 hR⊢;change j C _ _ (c4 b mb (.v (.slice none 0 0)) (.v (.slice none 0 0)) (.v (.slice none 0 0)) [] ρ);have lP:∀dL cA dA mks,av GR (c4 b mb dL cA dA mks ρ)=some (.arr 2 [D.agg [.ai (m.edges.map aM.d), .ai (m.defs.map ab)]]):=fun dL cA dA mks=>by
  unfold c4;rw[aW,if_neg (Ne.symm Q1),aW,if_neg (Ne.symm DP),←fq,bE]
 refine j.J (j.rg [1,4] fun K I=> ?_);simp only[go_sem,lP,lG,u2];refine a1 Tryz.call52 (uU (m.defs.map ab) _ (fun x an=>c' m.defs x an) (by rw[List.length_map];omega)) ?_;simp only[go_sem,lP,lG,u2];apply I;refine j.J (j.J (j.rg [1,4] fun K I=> ?_));simp only[go_sem,lP,bn];apply I;refine j.aG ?_;unfold c4;refine j.q9 (ys:=[.agg [.own none 6 0, .ai (m.defs.map ab), .map mb, .v (.slice none 0 0)]]) (fun w S vs h=>by
  obtain⟨v,vs,rfl,aa,ah⟩:=bq.cons_inv (show bq w S (.v (.slice none 0 0)::[.ai (m.defs.map ab), .map mb, .v (.slice none 0 0)]) vs from h);exact .cons (ca.mU 6 w S v aa) ah) (by simp[D.cells]) ?_
 change j C _ _ (c4 b mb (.own none 6 0) (.ai (m.defs.map ab)) (.v (.slice none 0 0)) [] ρ);refine j.rebase [4,25,26,27] ?_;simp only[go_sem];refine j.while (fun(i:Nat) env' aS=>∃ui:Option Nat,∃mks:List (ByteArray×Nat),(i≤m.edges.length∧jC m.edges i=some mks∧aV ui 6 ((m.edges.take i).map aM.d) (c4 b mb (.own ui 6 i) (.ai (m.defs.map ab)) (.v (.slice none 0 0)) mks ρ))∧env'=[(4, .ptr b 4 0 0),(25, .ai (m.edges.map aM.d)),(26, .v (.int .i64 (m.edges.length:Int))),(27, .v (.int .i64 (i:Int)))]∧aS=cellsOf ui 6 ((m.edges.take i).map aM.d)++c4 b mb (.own ui 6 i) (.ai (m.defs.map ab)) (.v (.slice none 0 0)) mks ρ) (fun(i:Nat)=>m.edges.length-i) 0 ⟨none,[],⟨Nat.zero_le _,rfl,aV.nil _ _⟩,rfl,rfl⟩ ?_;rintro i env' aS ⟨ui,mks,⟨hi,Ar,aT⟩,rfl,rfl⟩ aB;have cH:=aB;refine j.J (j.rg [4,25,26,27] fun K I=> ?_);simp only[go_sem];apply I;refine j.J ?_;refine j.cond rfl (fun k4=> ?_) (fun k4=> ?_)
 ·have aC:i<m.edges.length:=by simpa using k4
  have aq:=b6 aM.d m.edges i aC;have bf:(0:Int)≤(i:Int):=by omega
  have bp:(i:Int)<((m.edges.map aM.d).length:Int):=by omega
  rw[aM.d]at aq;have dh:=af _ (List.getElem_mem aC);refine j.aN (j.J (j.aG (j.J (j.rg [4,25,26,27] fun K I=> ?_))));simp only[go_sem,aq,bf,bp];intro be mC;apply I;obtain⟨gJ,hle⟩:=aT.push (x:= .arr 6 [aM.d m.edges[i]]) mC;refine j.le (cn.refl _) hle ?_;have nh:=(aT.jP mC).1;have ov:b≠be:=fun e=>by rw[←e,lG]at nh;cases nh
  have eS:=gJ.keep (b:=b) (by rw[aW,if_neg ov];exact lG);have dQ:=(gJ.keep (bE be (.arr 6 [aM.d m.edges[i]]) _)).trans (congrArg (fun x=>some (aE.arr 6 [x])) (aM.rB m.edges[i]));have aH:=gJ.bL;have aw:=gJ.cB;have hk:((m.edges.take i).map aM.d).length=i:=by simp;omega
  have cv:List.take i ((m.edges.take i).map aM.d)=(m.edges.take i).map aM.d:=List.take_of_length_le (by omega);have Re:(aM.d m.edges[i]).cells.length=6:=rfl;have ts:(aM.d m.edges[i]).plain=true:=rfl;refine j.J ?_;refine j.draw [4,5,6,25,26,27] [40] [b,be] [13] [(0,true),(1,true),(2,true),(3,true),(4,true),(5,true),(6,true),(7,false),(8,true),(9,false),(10,true),(11,true),(12,true),(13,false)] (by kernel_rfl) (by decide) (by kernel_rfl) fun K I=> ?_;simp only[go_sem,eS,dQ];refine a1 Tryz.call53 (Hf m.edges[i] _ dh) ?_;simp only[go_sem,eS,dQ,Re,ts,aH,aw,cv];refine⟨by decide,⟨by omega,fun y aF=>by subst aF;exact⟨rfl,rfl⟩,by omega,by omega⟩,fun ob aO ax=> ?_⟩;have b7:=gJ.app aO ax;have mI:=b7.keep (b:=b) (by rw[aW,if_neg ov];exact lG);have Du:=b7.keep (bE be (.arr 6 [aM.d m.edges[i]]) _);refine⟨?_, ?_⟩
  ·rintro bP (rfl|rfl)
   ·rw[mI,eS]
   rw[Du,dQ];rfl
  have fK:sset b (.arr 4 [.agg [.own ob 6 ((m.edges.take i).map aM.d++[m.edges[i].d]).length, .ai (m.defs.map ab), .map mb, .v (.slice none 0 0)]]) (cellsOf ob 6 ((m.edges.take i).map aM.d++[m.edges[i].d])++(be,aE.arr 6 [m.edges[i].d])::c4 b mb (.own ui 6 i) (.ai (m.defs.map ab)) (.v (.slice none 0 0)) mks ρ)
    =cellsOf ob 6 ((m.edges.take i).map aM.d++[m.edges[i].d])++(be,aE.arr 6 [m.edges[i].d])::c4 b mb (.own ob 6 (i+1)) (.ai (m.defs.map ab)) (.v (.slice none 0 0)) mks ρ:=by
   have kE:(av b ((be,aE.arr 6 [m.edges[i].d])::c4 b mb (.own ui 6 i) (.ai (m.defs.map ab)) (.v (.slice none 0 0)) mks ρ)).isSome=true:=by rw[aW,if_neg ov,lG];rfl
   rw[b7.sset kE,fx ov,u2,List.length_append,hk];rfl
  simp only[go_sem,mI,fK];apply I;have bt:(m.edges.take i).map aM.d++[m.edges[i].d]=(m.edges.take (i+1)).map aM.d:=by rw[List.take_succ_eq_append_getElem aC,List.map_append];rfl
  have fC:=b7.FW b (.arr 4 [.agg [.own ob 6 (i+1), .ai (m.defs.map ab), .map mb, .v (.slice none 0 0)]]);rw[fx ov,u2,bt]at fC;rw[bt];have Rx:=(fC.keep (bE be (.arr 6 [aM.d m.edges[i]]) _)).trans (congrArg (fun x=>some (aE.arr 6 [x])) (aM.rB m.edges[i]));have dz:=fC.drop (zr nh);have xV:=dh.outs;have ew:(m.edges[i].outs.map ab).length=m.edges[i].outs.length:=List.length_map ..;refine j.J (j.rg [4,5,6,25,26,27] fun K I=> ?_);simp only[go_sem,Rx,ew];apply I;refine j.aG (j.le (cn.refl _) dz.2 ?_);refine j.rebase [4,5,25,26,27,46,47,48] ?_;simp only[go_sem];refine j.while (fun(U:Nat) env' aS=>∃l0:List (ByteArray×Nat),(U≤m.edges[i].outs.length∧jA mks i (m.edges[i].outs.take U)=some l0)∧env'=[(4, .ptr b 4 0 0),(5, .v (.int .i64 (i:Int))),(25, .ai (m.edges.map aM.d)),(26, .v (.int .i64 (m.edges.length:Int))),(27, .v (.int .i64 (i:Int))),(46, .ai (m.edges[i].outs.map ab)),(47, .v (.int .i64 (m.edges[i].outs.length:Int))),(48, .v (.int .i64 (U:Int)))]∧aS=cellsOf ob 6 ((m.edges.take (i+1)).map aM.d)++c4 b mb (.own ob 6 (i+1)) (.ai (m.defs.map ab)) (.v (.slice none 0 0)) l0 ρ) (fun(U:Nat)=>m.edges[i].outs.length-U) 0 ⟨mks,⟨Nat.zero_le _,rfl⟩,rfl,rfl⟩ ?_;rintro U env' aS ⟨l0,⟨aR,tN⟩,rfl,rfl⟩ aB;have eg:=aB;have eX:=H9 (.own ob 6 (i+1)) (.ai (m.defs.map ab)) (.v (.slice none 0 0)) l0 dz.1;have Ji:=eX.keep (b:=b) lG;have Jk:=eX.keep (zq lK.symm);refine j.J (j.rg [4,5,25,26,27,46,47,48] fun K I=> ?_);simp only[go_sem]
  apply I;refine j.J ?_;refine j.cond rfl (fun CI=> ?_) (fun CI=> ?_)
  ·have en:U<m.edges[i].outs.length:=by simpa using CI
   have eT:=b6 ab m.edges[i].outs U en;rw[ab]at eT;have dp:(0:Int)≤(U:Int):=by omega
   have dq:(U:Int)<((m.edges[i].outs.map ab).length:Int):=by omega
   have eD:=Lq mks i m.edges[i].outs U en;rw[tN,Option.bind_some]at eD;have hD:=vL l0 m.edges[i].outs[U];have iJ:=vM l0 m.edges[i].outs[U];have nn:=zt (cE l0 m.edges[i].outs[U]);have gF:=Bm (cE l0 m.edges[i].outs[U]);refine j.aN (j.J (j.aG (j.J (j.rg [4,5,25,26,27,46,47,48] fun K I=> ?_))));simp only[go_sem,eT,dp,dq];apply I;refine j.J (j.J (j.rg [4,5,8,25,26,27,46,47,48] fun K I=> ?_));simp only[go_sem,Ji,Jk,hD,nn,gF];refine⟨⟨rfl,iJ⟩, ?_⟩;apply I;refine j.J (j.rg [4,5,8,10,25,26,27,46,47,48] fun K I=> ?_);simp only[go_sem];apply I;refine j.cond rfl (fun te=> ?_) (fun te=> ?_)
   ·have ns:jA mks i (m.edges[i].outs.take (U+1))=none:=by rw[eD,if_pos te]
    have iK:=Vc ns;have r9:jC m.edges (i+1)=none:=by rw[wP m.edges i aC,Ar,Option.bind_some,iK]
    have R8:=Gw r9 m.edges.length (by omega);have Sb:iS m= .inl 11:=by unfold iS;rw[R8]
    refine j.J (j.rg [] fun K I=> ?_);simp only[go_sem];apply I;refine j.ret ar Tryz.func20 (by simp[go_sem]) ?_;simp only[go_sem];rw[Sb];rfl
   have hh:(cE l0 m.edges[i].outs[U]).isSome=false:=by simpa using te
   rw[hh,if_neg (by simp)]at eD;have eu:=UF l0 m.edges[i].outs[U] i (by simpa using hh);have SN:sset mb (.mp (dG (l0++[(m.edges[i].outs[U],i)]))) (cellsOf ob 6 ((m.edges.take (i+1)).map aM.d)++c4 b mb (.own ob 6 (i+1)) (.ai (m.defs.map ab)) (.v (.slice none 0 0)) l0 ρ)
     =cellsOf ob 6 ((m.edges.take (i+1)).map aM.d)++c4 b mb (.own ob 6 (i+1)) (.ai (m.defs.map ab)) (.v (.slice none 0 0)) (l0++[(m.edges[i].outs[U],i)]) ρ:=by
    rw[eX.sset (by rw[zq lK.symm];rfl),PX lK.symm]
   rw[a_]at eu;refine j.aN (j.rg [4,5,8,25,26,27,46,47,48] fun K I=> ?_);simp only[go_sem,Ji,Jk,eu,SN];refine⟨⟨rfl,iJ⟩, ?_⟩;apply I;refine j.ba (j.rg [4,5,25,26,27,46,47,48] fun K I=> ?_);simp only[go_sem];apply I;refine j.rebase [4,5,25,26,27,46,47,48] ?_;simp only[go_sem];rw[bH U (by omega)];exact eg (U+1) _ _ ⟨_,⟨by omega,eD⟩,rfl,rfl⟩ (by omega)
  have hE:U=m.edges[i].outs.length:=by simp at CI;omega
  subst hE;rw[List.take_length]at tN;refine j.exit rfl (j.ba (j.rg [4,25,26,27] fun K I=> ?_));simp only[go_sem];apply I;refine j.rebase [4,25,26,27] ?_;simp only[go_sem];rw[bH i (by omega)];exact cH (i+1) _ _ ⟨ob,l0,⟨by omega,by rw[wP m.edges i aC,Ar,Option.bind_some,tN],eX⟩,rfl,rfl⟩ (by omega)
 have cC:i=m.edges.length:=by simp at k4;omega
 subst cC;rw[List.take_length]at aT⊢;have qS:∀c,av c ρ=none→dO c ρ:=fun c ag=>by
  rw[←fq]at ag⊢;exact .cons (eF ag).1 (fun _ _=>rfl) (.nil c)
 have dW:(m.edges.map aM.d).length=m.edges.length:=List.length_map ..;refine j.LG (.ai (m.edges.map aM.d)) (.ai (m.defs.map ab)) (.v (.slice none 0 0)) (aT) (fun h=>⟨?_,ca.refl _,ca.refl _⟩) (fun c h _=>⟨?_,rfl,rfl⟩) qS (fun c=>rfl) ?_
 ·rw[aT.zero h,h];exact ca.l5 _ _
 ·subst h;have:=Fk c 6 (m.edges.map aM.d);rw[dW]at this;exact this
 unfold c4;refine j.q9 (ys:=[.agg [.ai (m.edges.map aM.d), .ai (m.defs.map ab), .map mb, .own none 1 0]]) (fun w S vs h=>by
  obtain⟨v0,vs,rfl,gH,h⟩:=bq.cons_inv (show bq w S (.ai (m.edges.map aM.d)::[.ai (m.defs.map ab), .map mb, .v (.slice none 0 0)]) vs from h);obtain⟨v1,vs,rfl,bu,h⟩:=h.cons_inv;obtain⟨v2,vs,rfl,jS,h⟩:=h.cons_inv;obtain⟨v3,vs,rfl,nK,h⟩:=h.cons_inv;exact .cons gH (.cons bu (.cons jS (.cons (ca.mU 1 w S v3 nK) h)))) (by simp[D.cells]) ?_
 change j C _ _ (c4 b mb (.ai (m.edges.map aM.d)) (.ai (m.defs.map ab)) (.own none 1 0) mks ρ);refine j.exit rfl (j.J (j.rg [4] fun K I=> ?_));simp only[go_sem];apply I;refine j.J (j.J (j.rg [4,11] fun K I=> ?_));simp only[go_sem,lG];apply I;refine j.aG (j.im 11 1 rfl ?_);refine j.rebase [4,11,74,75,76] ?_;simp only[go_sem];refine j.while (fun(k:Nat) env' aS=>∃fG:Option Nat,∃os:Option Nat,(k≤m.edges.length∧aV fG 1 (hZ m mks k) (c4 b mb (.ai (m.edges.map aM.d)) (.ai (m.defs.map ab)) (.own fG 1 k) mks ρ)∧aV os 1 ((List.range k).map a_) (cellsOf fG 1 (hZ m mks k)++c4 b mb (.ai (m.edges.map aM.d)) (.ai (m.defs.map ab)) (.own fG 1 k) mks ρ))∧env'=[(4, .ptr b 4 0 0),(11, .own os 1 k),(74, .ai (m.edges.map aM.d)),(75, .v (.int .i64 (m.edges.length:Int))),(76, .v (.int .i64 (k:Int)))]∧aS=cellsOf os 1 ((List.range k).map a_)++(cellsOf fG 1 (hZ m mks k)++c4 b mb (.ai (m.edges.map aM.d)) (.ai (m.defs.map ab)) (.own fG 1 k) mks ρ)) (fun(k:Nat)=>m.edges.length-k) 0 ⟨none,none,⟨Nat.zero_le _,aV.nil _ _,aV.nil _ _⟩,by rw[dW];rfl,rfl⟩ ?_
 rintro k env' aS ⟨fG,os,⟨aj,z8,oA⟩,rfl,rfl⟩ aB;have hl:=aB;refine j.J (j.rg [4,11,74,75,76] fun K I=> ?_);simp only[go_sem];apply I;refine j.J ?_;refine j.cond rfl (fun CS=> ?_) (fun CS=> ?_)
 ·have tJ:k<m.edges.length:=by simpa using CS
  have aq:=b6 aM.d m.edges k tJ;have bf:(0:Int)≤(k:Int):=by omega
  have bp:(k:Int)<((m.edges.map aM.d).length:Int):=by omega
  rw[aM.d]at aq;have dh:=af _ (List.getElem_mem tJ);refine j.aN (j.J (j.aG (j.J (j.rg [4,11,74,75,76] fun K I=> ?_))));simp only[go_sem,aq,bf,bp];intro be mC;apply I;obtain⟨Jh,pH,sc⟩:=aV.swap oA z8;refine j.le (cn.refl _) (aQ.Oo be _ sc) ?_;have IQ:=aQ.none sc mC;obtain⟨vo,hle⟩:=Jh.push (x:= .arr 6 [aM.d m.edges[k]]) IQ;refine j.le (cn.refl _) hle ?_;have nh:=(Jh.jP IQ).1;have vd:=(pH.jP nh).1;have ov:b≠be:=fun e=>by rw[←e,lG]at vd;cases vd
  have R5:mb≠be:=fun e=>by rw[←e,zq lK.symm]at vd;cases vd
  have eS:=vo.keep (b:=b) (by rw[aW,if_neg ov];exact pH.keep lG);have jl:=vo.keep (b:=mb) (by rw[aW,if_neg R5];exact pH.keep (zq lK.symm));have dQ:=(vo.keep (bE be (.arr 6 [aM.d m.edges[k]]) _)).trans (congrArg (fun x=>some (aE.arr 6 [x])) (aM.rB m.edges[k]));have aH:=vo.bL;have aw:=vo.cB;have ju:=FG m mks k aj;have cv:List.take k (hZ m mks k)=hZ m mks k:=List.take_of_length_le (by omega);have hh:m.edges[k].bG.length<2^30:=by
   have aa:=dh.ins;have ah:=dh.impl;have aJ:=dh.order;unfold aM.bG;simp only[List.length_append];omega
  have Sz:∀c,av c (cellsOf fG 1 (hZ m mks k)++(be,aE.arr 6 [aM.d m.edges[k]])::(cellsOf os 1 ((List.range k).map a_)++c4 b mb (.ai (m.edges.map aM.d)) (.ai (m.defs.map ab)) (.own fG 1 k) mks ρ))=none→dO c (cellsOf fG 1 (hZ m mks k)++(be,aE.arr 6 [aM.d m.edges[k]])::(cellsOf os 1 ((List.range k).map a_)++c4 b mb (.ai (m.edges.map aM.d)) (.ai (m.defs.map ab)) (.own fG 1 k) mks ρ)):=fun c ag=>by
   obtain⟨aa,ah⟩:=vo.jP ag;obtain⟨aJ,bg⟩:=eF aa;obtain⟨cu,de⟩:=pH.jP bg;have lH:av c ρ=none:=by unfold c4 at cu;exact(eF (eF cu).2).2
   exact .cells ah (Mm m mks k c) (.cons aJ (fun _ _=>rfl) (.cells de (UL _ c) (H_ cu (fun _ _=>rfl) (fun _ _=>rfl) (fun _ _=>LJ ah) (qS c lH))))
  refine j.J ?_;refine j.draw [4,11,12,13,74,75,76] [90] [b,be] [13] [(0,true),(1,true),(2,true),(3,true),(4,true),(5,true),(6,true),(7,false),(8,false),(9,true),(10,false),(11,true),(12,true),(13,false)] (by kernel_rfl) (by decide) (by kernel_rfl) fun K I=> ?_;simp only[go_sem,eS,dQ];refine a1 Tryz.call55 (K3 m.edges[k] _ dh) ?_;simp only[go_sem,eS,dQ];refine a1 Tryz.call54 (UA mks b mb _ _ _ m.edges[k].bG _ jl eS hh Sz) ?_;simp only[go_sem,eS,dQ,aH,aw,cv];refine⟨by decide,⟨by omega,fun y aF=>by subst aF;exact⟨rfl,rfl⟩,by omega,by omega⟩,fun ob aO ax=> ?_⟩;rw[←WJ m mks k tJ]at aO⊢;have b7:aV ob 1 (hZ m mks (k+1)) _:=⟨ax,aO⟩;have D':=FG m mks (k+1) (by omega);have mI:=b7.keep (b:=b) (by rw[aW,if_neg ov];exact pH.keep lG);have Du:=b7.keep (bE be (.arr 6 [aM.d m.edges[k]]) _);refine⟨?_, ?_⟩
  ·rintro bP (rfl|rfl)
   ·rw[mI,eS]
   rw[Du,dQ];rfl
  have IU:(av b (c4 b mb (.ai (m.edges.map aM.d)) (.ai (m.defs.map ab)) (.own fG 1 k) mks ρ)).isSome=true:=by rw[lG];rfl
  have QY:(av b (cellsOf os 1 ((List.range k).map a_)++c4 b mb (.ai (m.edges.map aM.d)) (.ai (m.defs.map ab)) (.own fG 1 k) mks ρ)).isSome=true:=by rw[pH.keep lG];rfl
  have QZ:(av b ((be,aE.arr 6 [m.edges[k].d])::(cellsOf os 1 ((List.range k).map a_)++c4 b mb (.ai (m.edges.map aM.d)) (.ai (m.defs.map ab)) (.own fG 1 k) mks ρ))).isSome=true:=by rw[aW,if_neg ov];exact QY
  have fK:sset b (.arr 4 [.agg [.ai (m.edges.map aM.d), .ai (m.defs.map ab), .map mb, .own ob 1 (hZ m mks (k+1)).length]]) (cellsOf ob 1 (hZ m mks (k+1))++(be,aE.arr 6 [m.edges[k].d])::(cellsOf os 1 ((List.range k).map a_)++c4 b mb (.ai (m.edges.map aM.d)) (.ai (m.defs.map ab)) (.own fG 1 k) mks ρ))
    =cellsOf ob 1 (hZ m mks (k+1))++(be,aE.arr 6 [m.edges[k].d])::(cellsOf os 1 ((List.range k).map a_)++c4 b mb (.ai (m.edges.map aM.d)) (.ai (m.defs.map ab)) (.own ob 1 (k+1)) mks ρ):=by
   rw[b7.sset QZ,fx ov,pH.sset IU,u2,D']
  have fC:=b7.FW b (.arr 4 [.agg [.ai (m.edges.map aM.d), .ai (m.defs.map ab), .map mb, .own ob 1 (k+1)]]);rw[fx ov,pH.sset IU,u2]at fC;have RE:=H9 (.ai (m.edges.map aM.d)) (.ai (m.defs.map ab)) (.own ob 1 (k+1)) mks pH;simp only[go_sem,mI,fK];apply I;have dz:=fC.drop (b:=be) (by
   have de:=(pH.jP nh).2;cases os with
   |none=>exact zr vd
   |some c=>
    show av be ((c,_)::_)=none
    rw[aW,if_neg (fun e=>de (by rw[e]))];exact zr vd)
  refine j.le (cn.refl _) dz.2 ?_;obtain⟨Dy,Rw,SQ⟩:=aV.swap dz.1 RE;refine j.le (cn.refl _) SQ ?_;have Sg:=Dy.bL;have Q8:=Dy.cB;have vz:((List.range k).map a_).length=k:=by simp
  have SX:List.take k ((List.range k).map a_)=(List.range k).map a_:=List.take_of_length_le (by omega);refine j.fw [4,11,12,74,75,76] [96] fun K I=> ?_;simp only[go_sem,Sg,Q8,SX];refine⟨by decide,⟨by omega,fun y aF=>by subst aF;exact⟨rfl,rfl⟩,by omega,by omega⟩,fun gw aO ax=> ?_⟩;have Jm:=Dy.app aO ax;have b_:(List.range k).map a_++[D.v (.int .i64 (k:Int))]=(List.range (k+1)).map a_:=by rw[List.range_succ,List.map_append];rfl
  rw[b_]at Jm⊢;apply I;refine j.ba (j.rg [4,11,74,75,76] fun K I=> ?_);simp only[go_sem];apply I;refine j.rebase [4,11,74,75,76] ?_;simp only[go_sem];rw[bH k (by omega)];refine hl (k+1) _ _ ⟨ob,gw,⟨by omega,Rw,Jm⟩, ?_, ?_⟩ (by omega)
  ·simp
  rw[List.range_succ]
 have gZ:k=m.edges.length:=by simp at CS;omega
 subst gZ;refine j.Fj 11 (o:=os) (sz:=1) (xs:=(List.range m.edges.length).map a_) (by simp[eget]) oA (fun c ag=> ?_) (by simp[D.b']) ?_
 ·obtain⟨cu,de⟩:=z8.jP ag;have lH:av c ρ=none:=by unfold c4 at cu;exact(eF (eF cu).2).2
  exact .cells de (Mm m mks _ c) (H_ cu (fun _ _=>rfl) (fun _ _=>rfl) (fun _ _=>LJ de) (qS c lH))
 refine j.rebase [4,11] ?_;simp only[go_sem];have ju:=FG m mks m.edges.length (Nat.le_refl _);refine j.LG (.ai (m.edges.map aM.d)) (.ai (m.defs.map ab)) (.ai (hZ m mks m.edges.length)) z8 (fun h=>⟨ca.refl _,ca.refl _, ?_⟩) (fun c h _=>⟨rfl,rfl, ?_⟩) qS (fun c=>rfl) ?_
 ·rw[z8.zero h,h];exact ca.l5 _ _
 ·subst h;have:=Fk c 1 (hZ m mks m.edges.length);rw[ju]at this;exact this
 have SC:hZ m mks m.edges.length=(m.edges.map fun e=>cw mks e.bG).map fun l=> .ai (l.map a_):=by
  unfold hZ;rw[List.take_length,List.map_map];rfl
 refine j.VB 4 b rfl lG ?_;have lV:∀xs,di b 4 xs (c4 b mb (.ai (m.edges.map aM.d)) (.ai (m.defs.map ab)) (.ai (hZ m mks m.edges.length)) mks ρ)=(mb,aE.mp (dG mks))::ρ:=fun xs=>by
  simp only[c4,di,if_true,if_neg lK,EX,qS b hR 4 xs]
 have ts:∀xs,kB b 4 xs [(4,D.ptr b 4 0 0),(11,D.ai ((List.range m.edges.length).map a_))]=[(4,D.ptr b 4 0 0),(11,D.ai ((List.range m.edges.length).map a_))]:=fun _=>rfl;rw[lV,ts,SC];have ac6:=Ar;have vz:((List.range m.edges.length).map a_).length=m.edges.length:=by simp
 have ew:((iV (m.edges.map fun e=>cw mks e.bG) (List.range m.edges.length)).map a_).length=(iV (m.edges.map fun e=>cw mks e.bG) (List.range m.edges.length)).length:=List.length_map ..;have jt:iS m=if(iV (m.edges.map fun e=>cw mks e.bG) (List.range m.edges.length)).length<m.edges.length then .inl 12 else .inr ⟨m,mks,m.edges.map fun e=>cw mks e.bG⟩:=by
  unfold iS;rw[Ar]
 refine j.exit rfl (j.J (j.J (j.rg [4,11] fun K I=> ?_)));simp only[go_sem];refine⟨_,Tryz.call56,(Lm (.ai (m.edges.map aM.d)) (.ai (m.defs.map ab)) (.map mb) (m.edges.map fun e=>cw mks e.bG) (List.range m.edges.length) _ (by simp;omega) (fun n au=>by simpa using au) (fun l ik=>by
  obtain⟨e,he,rfl⟩:=List.mem_map.1 ik;have bj:=vH mks e.bG e.bG.length (Nat.le_refl _);rw[List.take_length]at bj;have aa:=(af e he).ins;have ah:=(af e he).impl;have aJ:=(af e he).order;unfold aM.bG at*;simp only[List.length_append]at bj;omega)).mono ?_⟩
 rintro e σ1 ⟨rfl,rfl⟩;simp only[go_sem,vz,ew];apply I;refine j.cond rfl (fun s8=> ?_) (fun s8=> ?_)
 ·have DL:(iV (m.edges.map fun e=>cw mks e.bG) (List.range m.edges.length)).length<m.edges.length:=by simpa using s8
  refine j.J (j.rg [] fun K I=> ?_);simp only[go_sem];apply I;refine j.ret ar Tryz.func20 (by simp[go_sem]) ?_;simp only[go_sem];rw[jt,if_pos DL];rfl
 have DL:¬(iV (m.edges.map fun e=>cw mks e.bG) (List.range m.edges.length)).length<m.edges.length:=by simpa using s8
 refine j.aN (j.J (j.rg [4] fun K I=> ?_));simp only[go_sem];apply I;refine j.ret ar Tryz.func20 (by simp[go_sem]) ?_;simp only[go_sem];rw[jt,if_neg DL];exact⟨mb,rfl,bE ..⟩
end Go.Ab.S16
namespace Go.Ab
open Go Go.RowKit Go.Sort
variable {P : Program} {f : FuncId} {args : List D} {σ : al} {α : Type} [Inhabited α]
theorem Ft (enc:α→Value) (w:World) (b n:Nat) (d:Array α) (os:Array Obj) (k:Nat) (aj:k<w.heap.size):
  (grow (putRow enc (Sort.ahead w n) b 0 d) os).heap[k]?=if b=k then(w.heap[k]?).map (onCells (putCells enc 0 d))else w.heap[k]?:=by
 unfold grow putRow mapBlock;show(w.heap.modify b (onCells (putCells enc 0 d))++os)[k]?=_
 rw[Array.getElem?_append_left (by simpa using aj),Array.getElem?_modify]
theorem VH {w:World} {S:Nat→Prop} {b:Nat} {xs:List Value} (enc:α→Value) (bh:lz w S) (aL:da w S σ) (ae:av b σ=some (.arr 1 (xs.map D.v))) (d:Array α) (aw:d.size=xs.length) (aa:∀x:α,(enc x).oneCell'=true) (n:Nat) (os:Array Obj):
  da (grow (putRow enc (Sort.ahead w n) b 0 d) os) S (sset b (.arr 1 ((d.toList.map enc).map D.v)) σ)∧Fr w S (cq σ) (grow (putRow enc (Sort.ahead w n) b 0 d) os) S (sset b (.arr 1 ((d.toList.map enc).map D.v)) σ):=by
 obtain⟨Dc,c,e,lo,hi,vals,a8,ao,lL,bU,iD⟩:=aL b _ ae;have dD:b<w.heap.size:=(Array.getElem?_eq_some_iff.1 a8).1;have jN:vals=xs:=by rw[zi]at ao;exact ao.eh
 subst jN;have x6:w.heap.size≤(grow (putRow enc (Sort.ahead w n) b 0 d) os).heap.size:=by
  unfold grow putRow mapBlock;show w.heap.size≤(w.heap.modify b _++os).size
  simp
 have ni:∀k,k<w.heap.size→k≠b→(grow (putRow enc (Sort.ahead w n) b 0 d) os).heap[k]?=w.heap[k]?:=fun k aj eU=>by
  rw[Ft enc w b n d os k aj,if_neg (Ne.symm eU)]
 have jt:(grow (putRow enc (Sort.ahead w n) b 0 d) os).heap[b]?=some (.cells (putCells enc 0 d c) e (lo,hi)):=by
  rw[Ft enc w b n d os b dD,if_pos rfl,a8];rfl
 have dg:(putCells enc 0 d c).size=c.size:=by simp[putCells]
 have fD:Shape w (grow (putRow enc (Sort.ahead w n) b 0 d) os):=fun k cI cV fr h=>by
  by_cases eU:k=b
  ·subst eU;rw[a8]at h;cases h
   exact⟨_,_,jt,dg⟩
  exact⟨cI,fr,(ni k (Array.getElem?_eq_some_iff.1 h).1 eU).trans h,rfl⟩
 have bx:eI w S (grow (putRow enc (Sort.ahead w n) b 0 d) os) S:=⟨fun _ h=>h,fun k aj=>ni k (bh.lt k aj) (fun e=>Dc (e▸aj)),fD⟩;refine⟨fun k o aj=> ?_,⟨rfl,rfl,rfl,x6,fD,fun k aj aw=>ni k aj (fun e=>aw (by rw[e];unfold cq;rw[ae];simp)),fun _ h=>h,fun _ h=> .inl h,fun k aj=> ?_,fun k aj=>Nat.lt_of_lt_of_le (bh.lt k aj) x6⟩⟩
 ·rw[jU]at aj;split at aj
  ·rename_i eU
   subst eU;rw[ae]at aj;cases aj
   refine⟨Dc,putCells enc 0 d c,e,lo,hi,d.toList.map enc,jt, ?_, ?_, ?_,by rw[dg];exact iD⟩
   ·rw[zi];exact wa _ (by simp[List.all_map,aa])
   ·intro U x aR;rw[List.getElem?_map]at aR;obtain⟨y,aF,rfl⟩:=Option.map_eq_some_iff.1 aR;have kc:U<d.size:=by
     have:=(List.getElem?_eq_some_iff.1 aF).1;simpa using this
    have Aa:U<c.size:=by
     have aJ:=lL U (vals[U]'(by omega)) (List.getElem?_eq_getElem (by omega));exact(Array.getElem?_eq_some_iff.1 aJ).1
    simp only[putCells,Array.getElem?_mapIdx];rw[Array.getElem?_eq_getElem Aa];simp only[Option.map_some,Option.some.injEq];rw[if_pos ⟨Nat.zero_le _,by omega⟩,Nat.sub_zero,getElem!_pos d U kc];have:d[U]=y:=by
     have:=List.getElem?_eq_some_iff.1 aF;obtain⟨cu,de⟩:=this;simpa using de
    rw[this]
   intro x an;obtain⟨y,_,rfl⟩:=List.mem_map.1 an;rfl
  rename_i eU
  have ah:=aL k o aj;exact⟨ah.1,ah.2.ev bx (ni k ah.2.lt eU)⟩
 unfold cq at*;rw[jU]at aj;split at aj
 ·rename_i eU
  subst eU;rw[ae];exact .inl (by simp)
 exact .inl aj
theorem VF {w:World} {S:Nat→Prop} {b:Nat} {xs:List α} (enc:α→Value) (aL:da w S σ) (ae:av b σ=some (.arr 1 ((xs.map enc).map D.v))):Holds enc w b 0 xs.toArray∧b<w.heap.size:=by
 obtain⟨Dc,c,e,lo,hi,vals,a8,ao,lL,bU,iD⟩:=aL b _ ae;have dD:b<w.heap.size:=(Array.getElem?_eq_some_iff.1 a8).1;have jN:vals=xs.map enc:=by rw[zi]at ao;exact ao.eh
 subst jN;refine⟨fun U aR=> ?_,dD⟩;have mJ:U<xs.length:=by simpa using aR
 have ag:=lL U (enc xs[U]) (by rw[List.getElem?_map,List.getElem?_eq_getElem mJ];rfl)
 refine⟨?_, ?_⟩
 ·rw[ph a8,Nat.zero_add,ag,getElem!_pos xs.toArray U aR];simp
 have Aa:U<c.size:=(Array.getElem?_eq_some_iff.1 ag).1;simp only[World.frozen?,a8,Nat.zero_add];rcases iD with h|h
 ·simp;omega
 simp;omega
def Fq (b:Nat):Option Nat→D
 |some k=> .own (some b) 1 k
 |none=> .bd []
def VD (b cap:Nat):Option Nat→Value
 |some k=> .slice (some ⟨b,0,none⟩) k cap
 |none=> .tuple #[]
theorem AC.Lc {b:Nat} {xs:List α} (enc:α→Value) (aa:∀x:α,(enc x).oneCell'=true) (ae:av b σ=some (.arr 1 ((xs.map enc).map D.v))) (ys:List α) (aF:ys.length=xs.length) (m:Option Nat) (hm:∀k,m=some k→k≤xs.length)
  (h:∀(w:World) (cap:Nat),Holds enc w b 0 xs.toArray→b<w.heap.size→xs.length≤cap→Calls P f #[.slice (some ⟨b,0,none⟩) xs.length cap] w fun e w'=>e= .returned (VD b cap m)∧∃n os,w'=grow (putRow enc (Sort.ahead w n) b 0 ys.toArray) os):
  AC P f [.own (some b) 1 xs.length] σ (fun e σ'=>e= .ret (Fq b m)∧σ'=sset b (.arr 1 ((ys.map enc).map D.v)) σ):=by
 intro w S vs bh aL ao;obtain⟨v,vs,rfl,ah,aJ⟩:=ao.cons_inv;obtain rfl:=aJ.gv;obtain⟨k8,dD⟩:=VF enc aL ae;cases ah with
 |own a8 au ag DP=>
  rename_i cap c e fr
  refine(h w cap k8 dD au).mono ?_;rintro e w' ⟨rfl,n,os,rfl⟩;obtain⟨c6,bl⟩:=VH enc bh aL ae ys.toArray (by simpa using aF) aa n os;refine⟨.ret (Fq b m),_,S,⟨rfl,rfl⟩, ?_,c6,bl⟩;cases m with
  |none=>exact .bd .nil
  |some k=>
   have jt:(grow (putRow enc (Sort.ahead w n) b 0 ys.toArray) os).heap[b]?=some (.cells (putCells enc 0 ys.toArray c) e fr):=by
    rw[Ft enc w b n ys.toArray os b dD,if_pos rfl,a8];rfl
   have aj:=hm k rfl;exact .own jt (by omega) (by simp only[putCells,Array.size_mapIdx];omega) DP
theorem bq.GD {w:World} {S:Nat→Prop}:∀{ds es:List D} {vs:List Value},bq w S (ds++es) vs→∃xs ys,vs=xs++ys∧bq w S ds xs∧bq w S es ys
 |[],_,vs,h=>⟨[],vs,rfl, .nil,h⟩
 |d::ds,es,vs,h=>by
  obtain⟨x,xs,rfl,aa,ah⟩:=bq.cons_inv (ds:=ds++es) h;obtain⟨ys,zs,rfl,aJ,bg⟩:=bq.GD ah;exact⟨x::ys,zs,rfl, .cons aa aJ,bg⟩
theorem AC.cut {R R':cf→al→Prop} (h:AC P f args σ R) (ao:∀e σ',R e σ'→R' e σ'∨∃b sz xs zs ρ,σ'=(b, .arr sz (xs++zs))::ρ∧R' e ((b, .arr sz xs)::ρ)):AC P f args σ R':=by
 intro w S vs bh aL ak;refine(h w S vs bh aL ak).mono ?_;rintro e w' ⟨cX,σ',S',bR,c1,c6,bl⟩;rcases ao cX σ' bR with k9|⟨b,sz,xs,zs,ρ,rfl,k9⟩
 ·exact⟨cX,σ',S',k9,c1,c6,bl⟩
 refine⟨cX,_,S',k9,c1,fun k o aj=> ?_,{bl with fh:=fun k aj=>bl.fh k ?_}⟩
 ·rw[aW]at aj;split at aj
  ·rename_i eU
   cases aj
   obtain⟨aa,c,cV,lo,hi,vals,ah,aJ,bg,cu,de⟩:=c6 k (.arr sz (xs++zs)) (by rw[aW,if_pos eU]);rw[uX]at aJ;obtain⟨v1,v2,rfl,bu,jS⟩:=aJ.GD;refine⟨aa,c,cV,lo,hi,v1,ah,bu,fun U x aR=>bg U x ?_,fun x an=>cu x (List.mem_append_left _ an),de⟩;rw[List.getElem?_append_left (List.getElem?_eq_some_iff.1 aR).1];exact aR
  rename_i eU
  exact c6 k o (by rw[aW,if_neg eU];exact aj)
 unfold cq at*;rw[aW]at aj⊢;split at aj<;>simp_all
end Go.Ab
namespace Go.Ab.S16
open Go Go.Proofs Go.RowKit Go.Maps Go.Sort Go.Shelf
def a' (s:ByteArray):List UInt8:=s.data.toList
def aK (l:List UInt8):ByteArray:=⟨l.toArray⟩
theorem gr (s:ByteArray):aK (a' s)=s:=by cases s;rfl
theorem ht (l:List UInt8):a' (aK l)=l:=rfl
def kq (l:List ByteArray):List ByteArray:=(mS leB (l.map a')).map aK
theorem Uq (a b:List UInt8):leB a b=true↔a≤b:=by simp[leB]
theorem KG (a b c:List UInt8) (aa:leB a b=true) (ah:leB b c=true):leB a c=true:=by simp only[leB,decide_eq_true_eq]at*;exact List.le_trans aa ah
theorem KF (a b:List UInt8):(leB a b||leB b a)=true:=by simp only[leB,Bool.or_eq_true,decide_eq_true_eq];exact List.le_total a b
theorem Up (a b:List UInt8) (aa:leB a b=true) (ah:leB b a=true):a=b:=by simp only[leB,decide_eq_true_eq]at*;exact List.le_antisymm aa ah
theorem Kq (l:List (List UInt8)):l.mergeSort leB=mS leB l:=Kr KG KF Up l
def mi (l:List ByteArray):List ByteArray:=(Lib.compact (l.map a')).map aK
theorem encS (l:List ByteArray):((l.map a').map encStr).map D.v=l.map ab:=by
 rw[List.map_map,List.map_map];refine List.map_congr_left fun s _=> ?_;show D.v (.string (aK (a' s)))=_
 rw[gr];rfl
theorem Cc (l:List (List UInt8)):(l.map encStr).map D.v=(l.map aK).map ab:=by
 rw[List.map_map,List.map_map];rfl
theorem yG (l:List ByteArray):(kq l).length=l.length:=by unfold kq;rw[List.length_map,(sl _).length_eq,List.length_map]
theorem MK (o:Option Nat) (l:List ByteArray) (ρ:al) (aq:aV o 1 (l.map ab) ρ) (aA:l.length<2^40):
  AC Tryz.prog 94 [.own o 1 l.length] (cellsOf o 1 (l.map ab)++ρ) (fun e σ'=>e= .ret (.bd [])∧σ'=cellsOf o 1 ((kq l).map ab)++ρ):=by
 cases o with
 |none=>
  have:l=[]:=by have:=aq.zero rfl;simpa using this
  subst this;intro w S vs bh aL ao;obtain⟨v,vs,rfl,ah,aJ⟩:=ao.cons_inv;obtain rfl:=aJ.gv;cases ah with
  |hV=>
  refine(Tryz.slices_Sort_string_none _ _ w).mono ?_;rintro e w' ⟨rfl,rfl⟩;exact⟨.ret (.bd []),_,S,⟨rfl,rfl⟩, .bd .nil,aL,Fr.refl _ bh.lt⟩
 |some b=>
  have h:=AC.Lc (P:=Tryz.prog) (f:=94) (b:=b) (xs:=l.map a') (σ:=(b, .arr 1 (l.map ab))::ρ) encStr (fun _=>rfl) (by rw[encS,bE]) ((l.map a').mergeSort leB) (by simp) none (fun _ h=>by cases h) (fun w cap k8 ae _=>Tryz.slices_Sort_string b 0 cap _ w k8 ae (by simp;omega));rw[List.length_map]at h;refine h.mono ?_;rintro e σ' ⟨rfl,rfl⟩;refine⟨rfl, ?_⟩;rw[Kq,Cc,gz];rfl
theorem Ol (o:Option Nat) (l:List ByteArray) (ρ:al) (aq:aV o 1 (l.map ab) ρ) (aA:l.length<2^40):
  AC Tryz.prog 98 [.own o 1 l.length] (cellsOf o 1 (l.map ab)++ρ) (fun e σ'=>∃zs:List ByteArray,e= .ret (.own o 1 (mi l).length)∧σ'=cellsOf o 1 ((mi l++zs).map ab)++ρ∧aV o 1 ((mi l++zs).map ab) ρ):=by
 cases o with
 |none=>
  have:l=[]:=by have:=aq.zero rfl;simpa using this
  subst this;intro w S vs bh aL ao;obtain⟨v,vs,rfl,ah,aJ⟩:=ao.cons_inv;obtain rfl:=aJ.gv;cases ah with
  |hV=>
  refine(Tryz.slices_Compact_string_empty _ _ w).mono ?_;rintro e w' ⟨rfl,rfl⟩;exact⟨.ret (.own none 1 0),_,S,⟨[],rfl,rfl,aq⟩, .hV,aL,Fr.refl _ bh.lt⟩
 |some b=>
  have hle:(Lib.compact (l.map a')).length≤l.length:=by
   unfold Lib.compact Lib.compactUpTo;rw[List.length_map];exact Nat.le_trans (List.length_filter_le ..) (by simp)
  have h:=AC.Lc (P:=Tryz.prog) (f:=98) (b:=b) (xs:=l.map a') (σ:=(b, .arr 1 (l.map ab))::ρ) encStr (fun _=>rfl) (by rw[encS,bE]) (Lib.compact (l.map a')++List.replicate ((l.map a').length-(Lib.compact (l.map a')).length) []) (by simp;omega) (some (Lib.compact (l.map a')).length) (fun k h=>by cases h;rw[List.length_map];exact hle) (fun w cap k8 ae eJ=>(Tryz.slices_Compact_string b 0 cap _ w k8 (by simp;omega) eJ).mono fun e w' ⟨aa,q,ah⟩=>⟨aa,q,#[],by rw[ah,grow_empty]⟩);rw[List.length_map]at h;refine h.mono ?_;rintro e σ' ⟨rfl,rfl⟩;refine⟨(List.replicate (l.length-(Lib.compact (l.map a')).length) []).map aK, ?_, ?_,⟨aq.fresh,nofun⟩⟩
  ·simp[Fq,mi]
  rw[Cc,gz,List.map_append];rfl
theorem XP (m:Nat):AnyZ.SortsIn Tryz.prog Tryz.MM Fence.wide m:=
  ⟨fun h8 off cap iu W k8 ni bU=>callsIn_wide.2 (AnyM.slices_Sort_string Tryz.MJ h8 off cap iu W k8 ni bU),
   fun p cap W=>callsIn_wide.2 (AnyM.slices_Sort_string_none Tryz.MJ p cap W)⟩
theorem TS (b1:Nat) (σ:al):
  AC Tryz.prog 96 [.map b1] σ (fun e σ'=>∃aG,av aG σ=none∧e= .ret (.bX (.func 126) [] [.ptr aG 1 0 0])∧σ'=(aG, .arr 1 [.map b1])::σ):=by
 refine AC.bI Tryz.func96 Tryz.ntmps96 fun C ar=> ?_;refine j.J (j.rg [0] fun K I=> ?_);simp only[go_sem];intro aG hB;apply I;refine j.J (j.rg [1] fun K I=> ?_);simp only[go_sem];apply I;refine j.ret ar Tryz.func96 (by simp[go_sem]) ?_;simp only[go_sem];exact⟨aG,hB,rfl,rfl⟩
theorem UB (mks:List (ByteArray×Nat)):(dG mks).map (·.1)=mks.map fun p=>Value.string p.1:=by unfold dG;rw[List.map_map];rfl
theorem XN (aG b1:Nat) (mks:List (ByteArray×Nat)) (σ:al) (aj:av aG σ=some (.arr 1 [.map b1])) (aw:av b1 σ=some (.mp (dG mks))) (cM:(mks.map (·.1)).Nodup) (aA:mks.length<2^30) (fW:∀p∈mks,p.1.size≤maxLen):
  AC Tryz.prog 95 [.bX (.func 126) [] [.ptr aG 1 0 0]] σ
   (fun e σ'=>∃o xs,(xs=(mS leB ((mks.map (·.1)).map a')).map encStr)∧aV o 1 (xs.map .v) σ∧e= .ret (.own o 1 (xs.map D.v).length)∧σ'=cellsOf o 1 (xs.map .v)++σ):=by
 refine AC.E4 (e0:=9) fun w S vs bh aL ao=> ?_;obtain⟨v1,l',rfl,aa,ah⟩:=ao.cons_inv;obtain rfl:=ah.gv;cases aa with
 |bX ax ag=>
 obtain rfl:=ax.gv;obtain⟨v1,l',rfl,aa,ah⟩:=ag.cons_inv;obtain rfl:=ah.gv;cases aa with
 |ptr=>
 obtain⟨RN,gl⟩:=aL aG _ aj;obtain⟨N3,O0,lo,hi,vals,xK,vz,ie,_,_⟩:=gl;obtain⟨y,ys,rfl,aF,oP⟩:=bq.cons_inv (d:= .map b1) (ds:=[]) vz;cases aF with
 |map=>
 obtain rfl:=oP.gv;have hB:aG<w.heap.size:=(Array.getElem?_eq_some_iff.1 xK).1;have ve:w.cell? ⟨aG,0,none⟩=some (.map (some b1)):=by
  have:=ie 0 _ rfl;simp[World.cell?,xK,this]
 obtain⟨Q_,hS⟩:=aL b1 _ aw;obtain⟨L,D3,xX⟩:=Lt (P:=Tryz.prog) (k:=9) (w:=w) KH (fun e he=>by
  obtain⟨p,aP,rfl⟩:=List.mem_map.1 he;exact WideMaps.keyOf_string_mk Tryz.underlying9 (fW p aP)) (by
   rw[UB];have aJ:mks.map (fun p=>Value.string p.1)=(mks.map (·.1)).map Value.string:=by rw[List.map_map];rfl
   rw[aJ];exact List.pairwise_map.2 (cM.imp fun{a b} gV e=>gV (by simpa using e))) (by simp[dG,maxLen];omega) hS
 have bU:Maps.size (DataW.map L)=mks.length:=by
  have:=xX.length_eq;rw[List.length_map,List.length_map]at this;show L.length=_
  rw[this];simp[dG]
 have DD:(strKeys (DataW.map L)).Perm ((mks.map (·.1)).map a'):=by
  have aa:=xX.map strOf;rw[List.map_map]at aa;refine aa.trans ?_;unfold dG;rw[List.map_map,List.map_map,List.map_map];exact List.Perm.refl _
 have Ee:SeqGives Fence.wide 2 Tryz.prog 126 #[.pointer (some ⟨aG,0,none⟩)] encStr (fun iu=>iu.Perm (strKeys (DataW.map L))) (Maps.size (DataW.map L)) w:=
  AnyZ.keys_gives (ρ:=Tryz.Kw) {Tryz.TR with} Fence.wide _ trivial rfl (by omega) aG b1 _ (DataW.map L) w hB ve D3
 have cL:=AnyZ.sorted_in Tryz.XM Fence.wide 5 trivial trivial trivial trivial rfl (by omega) (XP _) (enters_of Tryz.func94 (by kernel_rfl) rfl) 126 #[.pointer (some ⟨aG,0,none⟩)] trivial (enters_of Tryz.func126 (by kernel_rfl) rfl) _ _ (by rw[bU];unfold maxLen;omega) (by rw[bU];omega) _ Ee;change CallsIn _ _ Tryz.prog 95 _ _ _ at cL;rw[show(0:Nat)*1+0=0 from rfl];refine(callsIn_wide.1 cL).mono ?_;rintro e w' ⟨v,iu,rfl,C4,gp,xT,ae⟩;have fK:iu.mergeSort leB=mS leB ((mks.map (·.1)).map a'):=(mergeSort_of_perm (C4.trans DD)).trans (Kq _);refine⟨v,_,rfl, ?_, ?_,rfl,ae⟩
 ·have bt:((mS leB ((mks.map (·.1)).map a')).map encStr).length=iu.length:=by rw[←fK];simp
  rw[bt,←fK];exact gp
 rw[List.all_eq_true];intro x an;obtain⟨y,_,rfl⟩:=List.mem_map.1 an;rfl
theorem aV.Fz {o:Option Nat} {sz:Nat} {xs ys:List D} {ρ:al} (h:aV o sz xs ρ) (vD:xs=[]→ys=[]):aV o sz ys ρ:=⟨h.fresh,fun e=>vD (h.zero e)⟩
theorem Oi (o:Option Nat) (l:List ByteArray) (ρ:al) (aq:aV o 1 (l.map ab) ρ) (aA:l.length<2^40):
  AC Tryz.prog 98 [.own o 1 l.length] (cellsOf o 1 (l.map ab)++ρ) (fun e σ'=>e= .ret (.own o 1 (mi l).length)∧σ'=cellsOf o 1 ((mi l).map ab)++ρ∧aV o 1 ((mi l).map ab) ρ):=by
 refine(Ol o l ρ aq aA).cut ?_;rintro e σ' ⟨zs,rfl,rfl,aT⟩;cases o with
 |none=>
  have aO:=aT.zero rfl;rw[List.map_append,List.append_eq_nil_iff]at aO;exact .inl ⟨rfl,rfl,⟨nofun,fun _=>aO.1⟩⟩
 |some b=>exact .inr ⟨b,1,(mi l).map ab,zs.map ab,ρ,by rw[←List.map_append];rfl,rfl,rfl,⟨aT.fresh,nofun⟩⟩
theorem ON (g:FuncId) (cg:List D) (p:ByteArray→Bool) (ρ:al) (bc:nY cg g p [] ρ):
  AC Tryz.prog 71 [.own none 1 0, .bX (.func g) [] cg] ρ (fun e σ'=>e= .ret (.own none 1 0)∧σ'=ρ):=by
 have oB:=(Kn [] g cg p ρ (by simp) bc).uL (args:=[.own none 1 0, .bX (.func g) [] cg]) (fun w S vs h=>by
  obtain⟨v,vs,rfl,aa,ah⟩:=h.cons_inv;exact .cons (ca.l5 _ _ _ _ _ aa) ah)
 refine AC.bI Tryz.func71 Tryz.ntmps71 fun C ar=> ?_;refine j.J (j.rg [0,1] fun K I=> ?_);simp only[go_sem];apply I;refine j.J (j.rg [0,1] fun K I=> ?_);simp only[go_sem];refine a1 Tryz.call74 oB ?_;simp only[go_sem];apply I;refine j.J (j.J (j.rg [0,1,5] fun K I=> ?_));simp only[go_sem];apply I;refine j.bZ rfl (j.J (j.rg [0] fun K I=> ?_));simp only[go_sem];apply I;refine j.ret ar Tryz.func71 (by simp[go_sem]) ?_;simp only[go_sem]
theorem Hl (o:Option Nat) (l:List ByteArray) (g:FuncId) (cg:List D) (p:ByteArray→Bool) (ρ:al) (aA:l.length<2^40) (aq:aV o 1 (l.map ab) ρ) (bc:∀τ,aQ ρ τ→nY cg g p l τ):
  AC Tryz.prog 71 [.own o 1 l.length, .bX (.func g) [] cg] (cellsOf o 1 (l.map ab)++ρ)
   (fun e σ'=>e= .ret (.own o 1 (kept p l).length)∧σ'=cellsOf o 1 ((kept p l).map ab)++ρ∧aV o 1 ((kept p l).map ab) ρ):=by
 cases o with
 |none=>
  have:l=[]:=by have:=aq.zero rfl;simpa using this
  subst this;refine(ON g cg p ρ (bc ρ (aQ.refl ρ))).mono ?_;rintro e σ' ⟨rfl,rfl⟩;exact⟨rfl,rfl,aV.nil _ _⟩
 |some b=>
  refine(OM b l g cg p ρ aA (aq.fresh b rfl) bc).cut ?_;rintro e σ' ⟨rfl,k,rfl⟩;exact .inr ⟨b,1,_,_,ρ,rfl,rfl,rfl,⟨aq.fresh,nofun⟩⟩
theorem O4 (g:b9) (mb n:Nat) (σ:al) (au:n<g.aU.edges.length) (aA:g.aU.edges.length<2^30) (af:∀e∈g.aU.edges,e.small):
  AC Tryz.prog 35 [g.d mb,a_ n] σ (fun e σ'=>e= .ret (g.aU.edges[n].d)∧σ'=σ):=by
 refine AC.still ?_ σ;refine AC.forget (R:=fun e _=>e= .ret (g.aU.edges[n].d)) ?_ fun e σ' h=>⟨[],aQ.nil _,h,rfl⟩;unfold b9.d b9.cells;have bn:(g.aU.edges.map aM.d).length=g.aU.edges.length:=List.length_map ..;have aq:=b6 aM.d g.aU.edges n au;rw[aM.d]at aq;have bf:(0:Int)≤(n:Int):=by omega
 have bp:(n:Int)<((g.aU.edges.map aM.d).length:Int):=by omega
 have aO:decide ((n:Int)<0)=false:=by simp
 have jO:decide ((n:Int)≥(g.aU.edges.length:Int))=false:=by simp;omega
 refine AC.bI Tryz.func35 Tryz.ntmps35 fun C ar=> ?_;refine j.J (j.rg [0,1] fun K I=> ?_);simp only[go_sem];intro b4;apply I;refine j.J (j.J (j.rg [0,1,4] fun K I=> ?_));simp only[go_sem,a_,bn,aO,jO];apply I;refine j.bJ rfl (j.aN (j.J (j.rg [0,1,4] fun K I=> ?_)));simp only[go_sem,a_,aq,bf,bp];refine a1 Tryz.call53 (Hf g.aU.edges[n] _ (af _ (List.getElem_mem au))) ?_;simp only[go_sem,aM.rB g.aU.edges[n]];apply I;refine j.ret ar Tryz.func35 (by simp[go_sem]) ?_;simp only[go_sem];rfl
def e1 (m:bK) (i:Nat):List ByteArray:=(m.edges.take i).flatMap aM.bG
def hd (m:bK):List ByteArray:=mi (kq (m.edges.flatMap aM.bG))
theorem F7 (m:bK) (i:Nat) (h:i<m.edges.length):e1 m (i+1)=e1 m i++m.edges[i].bG:=by
 unfold e1;rw[List.take_succ_eq_append_getElem h,List.flatMap_append];simp
theorem ss (e:aM) (h:e.small):e.bG.length≤30:=by
 have aa:=h.ins;have ah:=h.impl;have aJ:=h.order;unfold aM.bG;simp only[List.length_append];omega
theorem wq (m:bK) (af:∀e∈m.edges,e.small):∀i,i≤m.edges.length→(e1 m i).length≤30*i
 |0,_=>by simp[e1]
 |i+1,h=>by
  have aa:=wq m af i (by omega);have ah:=ss m.edges[i] (af _ (List.getElem_mem (by omega)));rw[F7 m i (by omega),List.length_append];omega
theorem M7 (g:b9) (mb:Nat) (σ:al) (aA:g.aU.edges.length<2^20) (af:∀e∈g.aU.edges,e.small):
  AC Tryz.prog 70 [g.d mb] σ (fun e σ'=>∃o,aV o 1 ((hd g.aU).map ab) σ∧e= .ret (.own o 1 (hd g.aU).length)∧σ'=cellsOf o 1 ((hd g.aU).map ab)++σ):=by
 unfold b9.d b9.cells;have bn:(g.aU.edges.map aM.d).length=g.aU.edges.length:=List.length_map ..;refine AC.bI Tryz.func70 Tryz.ntmps70 fun C ar=> ?_;refine j.J (j.rg [0] fun K I=> ?_);simp only[go_sem];apply I;refine j.J (j.rg [0] fun K I=> ?_);simp only[go_sem];apply I;refine j.J (j.J (j.rg [0,3] fun K I=> ?_));simp only[go_sem,bn];apply I;refine j.aG (j.im 3 1 rfl ?_);refine j.rebase [3,10,11,12] ?_;simp only[go_sem];refine j.while (fun(i:Nat) env' aS=>∃o:Option Nat,(i≤g.aU.edges.length∧aV o 1 ((e1 g.aU i).map ab) σ)∧env'=[(3, .own o 1 (e1 g.aU i).length),(10, .ai (g.aU.edges.map aM.d)),(11, .v (.int .i64 (g.aU.edges.length:Int))),(12, .v (.int .i64 (i:Int)))]∧aS=cellsOf o 1 ((e1 g.aU i).map ab)++σ) (fun(i:Nat)=>g.aU.edges.length-i) 0 ⟨none,⟨by omega,aV.nil _ _⟩,rfl,rfl⟩ ?_;rintro i env' aS ⟨o,⟨hi,aT⟩,rfl,rfl⟩ aB;have cH:=aB;refine j.J (j.rg [3,10,11,12] fun K I=> ?_);simp only[go_sem];apply I;refine j.J ?_;refine j.cond rfl (fun h'=> ?_) (fun h'=> ?_)
 ·have aC:i<g.aU.edges.length:=by simpa using h'
  have aq:=b6 aM.d g.aU.edges i aC;have bf:(0:Int)≤(i:Int):=by omega
  have bp:(i:Int)<((g.aU.edges.map aM.d).length:Int):=by omega
  rw[aM.d]at aq;have dh:=af _ (List.getElem_mem aC);have hh:=ss _ dh;have mN:=wq g.aU af i hi;have eD:=F7 g.aU i aC;refine j.aN (j.J (j.aG (j.J (j.rg [3,10,11,12] fun K I=> ?_))));simp only[go_sem,aq,bf,bp];intro be mC;apply I;obtain⟨gJ,hle⟩:=aT.push (x:= .arr 6 [aM.d g.aU.edges[i]]) mC;refine j.le (cn.refl _) hle ?_;have nh:=(aT.jP mC).1;have dQ:=(gJ.keep (bE be (.arr 6 [aM.d g.aU.edges[i]]) _)).trans (congrArg (fun x=>some (aE.arr 6 [x])) (aM.rB g.aU.edges[i]));have aH:=gJ.bL;have aw:=gJ.cB;have dW:((e1 g.aU i).map ab).length=(e1 g.aU i).length:=List.length_map ..;have oG:(g.aU.edges[i].bG.map ab).length=g.aU.edges[i].bG.length:=List.length_map ..;have cv:List.take (e1 g.aU i).length ((e1 g.aU i).map ab)=(e1 g.aU i).map ab:=List.take_of_length_le (by omega);refine j.rg [3,5,10,11,12] fun K I=> ?_;simp only[go_sem,dQ];refine a1 Tryz.call55 (K3 g.aU.edges[i] _ dh) ?_;simp only[go_sem,aH,aw,cv];refine⟨⟨by omega,c' _,by omega,by omega⟩,fun ob aO ax=> ?_⟩;have b7:=gJ.app aO ax;have bt:(e1 g.aU i).map ab++g.aU.edges[i].bG.map ab=(e1 g.aU (i+1)).map ab:=by rw[eD,List.map_append]
  rw[bt]at b7⊢;have dz:=b7.drop nh;apply I;refine j.le (cn.refl _) dz.2 ?_;refine j.ba (j.rg [3,10,11,12] fun K I=> ?_);simp only[go_sem];apply I;refine j.rebase [3,10,11,12] ?_;simp only[go_sem];rw[bH i (by omega)];exact aB (i+1) _ _ ⟨ob,⟨by omega,dz.1⟩,by rw[List.length_map],rfl⟩ (by omega)
 have cC:i=g.aU.edges.length:=by simp at h';omega
 subst cC;have mN:=wq g.aU af g.aU.edges.length (Nat.le_refl _);have qJ:=yG (e1 g.aU g.aU.edges.length);have oA:aV o 1 ((kq (e1 g.aU g.aU.edges.length)).map ab) σ:=aV.Fz aT fun h=>by
  have:e1 g.aU g.aU.edges.length=[]:=by simpa using h
  rw[this];rfl
 refine j.exit rfl (j.J (j.rg [3] fun K I=> ?_));simp only[go_sem];refine a1 Tryz.call94 (MK o (e1 g.aU g.aU.edges.length) σ aT (by omega)) ?_;simp only[go_sem];apply I;refine j.J ?_;rw[←qJ];refine j.rg [3] fun K I=> ?_;simp only[go_sem];refine⟨_,Tryz.call98,(Oi o (kq (e1 g.aU g.aU.edges.length)) σ oA (by omega)).mono ?_⟩;rintro e σ1 ⟨rfl,rfl,jI⟩;simp only[go_sem];apply I;refine j.ret ar Tryz.func70 (by simp[go_sem]) ?_;simp only[go_sem];have hu:e1 g.aU g.aU.edges.length=g.aU.edges.flatMap aM.bG:=by unfold e1;rw[List.take_length]
 rw[hu]at jI⊢;exact⟨o,jI,rfl,rfl⟩
def h2 (g:b9):List ByteArray:=kept (fun f=>(cE g.mks f).isSome) (hd g.aU)
theorem XQ (g:b9) (mb bP:Nat) (σ:al) (l:List ByteArray) (hm:av mb σ=some (.mp (dG g.mks))) (aa:av bP σ=some (.arr 1 [g.d mb])):
  nY [.ptr bP 1 0 0] 97 (fun f=>(cE g.mks f).isSome) l σ:=by
 refine⟨Tryz.call97,fun f _=> ?_⟩;unfold b9.d b9.cells at aa;have hD:=vL g.mks f;have iJ:=vM g.mks f;have gk:=zt (cE g.mks f);have cW:=Bm (cE g.mks f);refine AC.bI Tryz.func97 Tryz.ntmps97 fun C ar=> ?_;refine j.J (j.rg [0,1] fun K I=> ?_);simp only[go_sem];apply I;refine j.J (j.rg [0,1] fun K I=> ?_);simp only[go_sem,ab,aa,hm,hD,gk,cW];refine⟨⟨rfl,iJ⟩, ?_⟩;apply I;refine j.J (j.rg [5] fun K I=> ?_);simp only[go_sem];apply I;refine j.ret ar Tryz.func97 (by simp[go_sem]) ?_;simp only[go_sem]
theorem Bu (m:bK) (af:∀e∈m.edges,e.small):(hd m).length≤30*m.edges.length:=by
 have h:=wq m af m.edges.length (Nat.le_refl _);unfold e1 at h;rw[List.take_length]at h;have ah:=yG (m.edges.flatMap aM.bG);unfold hd mi;rw[List.length_map];have:(Lib.compact ((kq (m.edges.flatMap aM.bG)).map a')).length≤(kq (m.edges.flatMap aM.bG)).length:=by
  unfold Lib.compact Lib.compactUpTo;rw[List.length_map];exact Nat.le_trans (List.length_filter_le ..) (by simp)
 omega
theorem XR (g:b9) (mb:Nat) (σ:al) (hm:av mb σ=some (.mp (dG g.mks))) (aA:g.aU.edges.length<2^20) (af:∀e∈g.aU.edges,e.small):
  AC Tryz.prog 64 [g.d mb] σ (fun e σ'=>∃o,aV o 1 ((h2 g).map ab) σ∧e= .ret (.own o 1 (h2 g).length)∧σ'=cellsOf o 1 ((h2 g).map ab)++σ):=by
 have mN:=Bu g.aU af;have eK:g.d mb= .c0 (g.cells mb):=rfl;rw[eK];refine AC.bI Tryz.func64 Tryz.ntmps64 fun C ar=> ?_;refine j.J (j.rg [0] fun K I=> ?_);simp only[go_sem];intro bP mB;apply I;refine j.J (j.J (j.rg [1] fun K I=> ?_));simp only[go_sem];apply I;refine j.bJ rfl (j.aN (j.J (j.rg [1] fun K I=> ?_)));simp only[go_sem];refine⟨_,Tryz.call70,(M7 g mb _ aA af).mono ?_⟩;rintro e σ1 ⟨o,aT,rfl,rfl⟩;simp only[go_sem];refine⟨_,Tryz.call71,(Hl o (hd g.aU) _ [.ptr bP 1 0 0] (fun f=>(cE g.mks f).isSome) _ (by omega) aT (fun τ hle=>XQ g mb bP τ _ (hle mb _ (by rw[aW,if_neg (fun e=>by rw[e,mB]at hm;cases hm)];exact hm)) (hle bP _ (bE ..)))).mono ?_⟩
 rintro e σ1 ⟨rfl,rfl,b7⟩;simp only[go_sem];apply I;have dz:=b7.drop mB;refine j.le (cn.refl _) dz.2 ?_;refine j.ret ar Tryz.func64 (by simp[go_sem]) ?_;simp only[go_sem];exact⟨o,dz.1,rfl,rfl⟩
theorem MN (g:b9) (mb:Nat) (σ:al) (hm:av mb σ=some (.mp (dG g.mks))) (aA:g.aU.edges.length<2^20) (af:∀e∈g.aU.edges,e.small):
  AC Tryz.prog 64 [g.d mb] σ (fun e σ'=>e= .ret (.ai ((h2 g).map ab))∧σ'=σ):=by
 refine AC.FY (AC.AW (sz:=1) (fun b ae=>FV b 1 mb _ g.mks ae) ?_) (aQ.cons hm (aQ.nil _));refine(XR g mb [(mb, .mp (dG g.mks))] (bE ..) aA af).mono ?_;rintro e σ' ⟨o,aT,rfl,rfl⟩;exact⟨o,aT,by rw[List.length_map],rfl⟩
def l3 (g:b9):List ByteArray:=kq (g.mks.map (·.1))
theorem Vh (g:b9) (mb:Nat) (σ:al) (hm:av mb σ=some (.mp (dG g.mks))) (cM:(g.mks.map (·.1)).Nodup) (aA:g.mks.length<2^30) (fW:∀p∈g.mks,p.1.size≤maxLen):
  AC Tryz.prog 63 [g.d mb] σ (fun e σ'=>∃o,aV o 1 ((l3 g).map ab) σ∧e= .ret (.own o 1 ((l3 g).map ab).length)∧σ'=cellsOf o 1 ((l3 g).map ab)++σ):=by
 unfold b9.d b9.cells;refine AC.bI Tryz.func63 Tryz.ntmps63 fun C ar=> ?_;refine j.J (j.rg [0] fun K I=> ?_);simp only[go_sem];apply I;refine j.J (j.J (j.rg [0] fun K I=> ?_));simp only[go_sem];apply I;refine j.bJ rfl (j.aN (j.J (j.rg [0] fun K I=> ?_)));simp only[go_sem];refine⟨_,Tryz.call96,(TS mb _).mono ?_⟩;rintro e σ1 ⟨aG,hB,rfl,rfl⟩;simp only[go_sem];refine⟨_,Tryz.call95,(XN aG mb g.mks _ (bE ..) (by rw[aW,if_neg (fun e=>by rw[e,hB]at hm;cases hm)];exact hm) cM aA fW).mono ?_⟩
 rintro e σ1 ⟨o,xs,rfl,aT,rfl,rfl⟩;simp only[go_sem];apply I;rw[Cc]at aT⊢;have dz:=aT.drop hB;refine j.le (cn.refl _) dz.2 ?_;refine j.ret ar Tryz.func63 (by simp[go_sem]) ?_;simp only[go_sem];exact⟨o,dz.1,rfl,rfl⟩
theorem Vg (g:b9) (mb:Nat) (σ:al) (hm:av mb σ=some (.mp (dG g.mks))) (cM:(g.mks.map (·.1)).Nodup) (aA:g.mks.length<2^30) (fW:∀p∈g.mks,p.1.size≤maxLen):
  AC Tryz.prog 63 [g.d mb] σ (fun e σ'=>e= .ret (.ai ((l3 g).map ab))∧σ'=σ):=
 AC.FY (AC.AW (fun b ae=>FV b 1 mb _ g.mks ae) (Vh g mb [(mb, .mp (dG g.mks))] (bE ..) cM aA fW)) (aQ.cons hm (aQ.nil _))
instance:LawfulBEq ByteArray where
 eq_of_beq:=fun{a b} h=>by
  cases a with|mk a=>cases b with|mk b=>
  have ah:(a==b)=true:=h;rw[eq_of_beq ah]
 rfl:=fun{a}=>by
  cases a with|mk a=>
  show(a==a)=true
  exact beq_self_eq_true a
theorem TF (s:ByteArray) (σ:al):AC Tryz.prog 122 [.v (.string s)] σ (fun e σ'=>e= .ret (.v (.bool false))∧σ'=σ):=by
 refine AC.bI Tryz.func122 Tryz.ntmps122 fun C ar=> ?_;refine j.J (j.rg [0] fun K I=> ?_);simp only[go_sem];apply I;refine j.J (j.rg [0] fun K I=> ?_);simp only[go_sem];apply I;refine j.ret ar Tryz.func122 (by simp[go_sem]) ?_;simp only[go_sem];simp
theorem TG (s:ByteArray) (σ:al):AC Tryz.prog 93 [.v (.string s)] σ (fun e σ'=>e= .ret (.v (.bool false))∧σ'=σ):=by
 refine AC.bI Tryz.func93 Tryz.ntmps93 fun C ar=> ?_;refine j.J (j.rg [0] fun K I=> ?_);simp only[go_sem];apply I;refine j.J (j.rg [0] fun K I=> ?_);simp only[go_sem];apply I;refine j.ret ar Tryz.func93 (by simp[go_sem]) ?_;simp only[go_sem];simp
theorem Ut (a b:ByteArray) (σ:al):AC Tryz.prog 92 [.v (.string a), .v (.string b)] σ (fun e σ'=>e= .ret (.v (.bool (decide (a' a<a' b))))∧σ'=σ):=by
 refine AC.bI Tryz.func92 Tryz.ntmps92 fun C ar=> ?_;refine j.J (j.rg [0,1] fun K I=> ?_);simp only[go_sem];apply I;refine j.J (j.rg [0,1] fun K I=> ?_);simp only[go_sem];refine a1 Tryz.call122 (TF a _) ?_;simp only[go_sem];apply I;refine j.ret ar Tryz.func92 (by simp[go_sem]) ?_;simp only[go_sem];rw[Go.Proofs.bytesLess_eq,cr,cr];rfl
theorem QM (n:Nat) (h:n<2^50):IntKind.i64.wrap ((IntKind.u64.wrap (IntKind.i64.wrap (n:Int))).fdiv 2)=((n/2:Nat):Int):=by
 have aa:IntKind.i64.wrap (n:Int)=(n:Int):=by rw[IntKind.wrap_i64];omega
 have ah:IntKind.u64.wrap (n:Int)=(n:Int):=by rw[IntKind.wrap_u64];omega
 rw[aa,ah,Int.fdiv_eq_ediv_of_nonneg _ (by omega),IntKind.wrap_i64];omega
theorem XB (bz bM:Operand) (a:Int):cF Tryz.prog .shr 146 bz bM (.v (.int .u64 a)) (.v (.int .u64 1))= .val True (.v (.int .u64 (a.fdiv 2))):=by
 have:=GP (P:=Tryz.prog) (T:=146) (x:=bz) (y:=bM) .u64 .u64 a 1;exact this
theorem FM (l:List ByteArray) (x:ByteArray) (σ:al) (aA:l.length<2^40) (af:(l.map a').Pairwise (· ≤·)):
  AC Tryz.prog 60 [.ai (l.map ab), .v (.string x)] σ (fun e σ'=>(∃i:Nat,e= .ret (.bd [.v (.int .i64 (i:Int)), .v (.bool (l.contains x))]))∧σ'=σ):=by
 have bn:(l.map ab).length=l.length:=List.length_map ..;refine AC.bI Tryz.func60 Tryz.ntmps60 fun C ar=> ?_;refine j.J (j.rg [0,1] fun K I=> ?_);simp only[go_sem];apply I;refine j.J (j.rg [0,1] fun K I=> ?_);simp only[go_sem,bn];apply I;refine j.J (j.rg [0,1,6] fun K I=> ?_);simp only[go_sem];apply I;refine j.J (j.aG ?_);refine j.rebase [0,1,6,7,8] ?_;simp only[go_sem];refine j.while (fun(q:Nat×Nat) env' aS=>(q.1≤q.2∧q.2≤l.length∧(∀U (h:U<l.length),U<q.1→a' l[U]<a' x)∧(∀U (h:U<l.length),q.2≤U→¬a' l[U]<a' x))∧env'=[(0, .ai (l.map ab)),(1, .v (.string x)),(6, .v (.int .i64 (l.length:Int))),(7, .v (.int .i64 (q.1:Int))),(8, .v (.int .i64 (q.2:Int)))]∧σ=aS) (fun(q:Nat×Nat)=>q.2-q.1) (0,l.length) ⟨⟨by omega,by omega,by omega,by omega⟩,rfl,rfl⟩ ?_;rintro⟨lo,hi⟩ env' aS ⟨⟨r2,Jr,kf,tD⟩,rfl,rfl⟩ aB;have cH:=aB;dsimp only at r2 Jr kf tD⊢;have qM:(lo:Int)+(hi:Int)=((lo+hi:Nat):Int):=by omega
 have RF:=QM (lo+hi) (by omega);refine j.J (j.J (j.rg [0,1,6,7,8] fun K I=> ?_));simp only[go_sem];apply I;refine j.cond rfl (fun fV=> ?_) (fun fV=> ?_)
 ·have aC:lo<hi:=by simpa using fV
  have jo:(lo+hi)/2<l.length:=by omega
  have aq:=b6 ab l ((lo+hi)/2) jo;rw[ab]at aq;have bf:(0:Int)≤(((lo+hi)/2:Nat):Int):=by omega
  have bp:(((lo+hi)/2:Nat):Int)<((l.map ab).length:Int):=by omega
  refine j.aN (j.aG (j.J (j.rg [0,1,6,7,8] fun K I=> ?_)));simp only[go_sem,XB,qM,RF];apply I;refine j.J (j.rg [0,1,6,7,8,9] fun K I=> ?_);simp only[go_sem,aq,bf,bp];refine a1 Tryz.call92 (Ut l[(lo+hi)/2] x _) ?_;simp only[go_sem];apply I;refine j.cond rfl (fun rJ=> ?_) (fun rJ=> ?_)
  ·refine j.rg [0,1,6,8,9] fun K I=> ?_;simp only[go_sem];apply I;refine j.ba ?_;refine j.rebase [0,1,6,7,8] ?_;simp only[go_sem];rw[bH _ (by omega)];refine aB ((lo+hi)/2+1,hi) _ _ ⟨⟨by dsimp only;omega,Jr,fun U aR mJ=> ?_,tD⟩,rfl,rfl⟩ (by dsimp only;omega);by_cases oD:U=(lo+hi)/2
   ·subst oD;simpa using rJ
   have aa:=List.pairwise_iff_getElem.1 af U ((lo+hi)/2) (by simpa using aR) (by simpa using jo) (by dsimp only at mJ;omega);simp only[List.getElem_map]at aa;exact List.lt_of_le_of_lt aa (by simpa using rJ)
  refine j.rg [0,1,6,7,9] fun K I=> ?_;simp only[go_sem];apply I;refine j.ba ?_;refine j.rebase [0,1,6,7,8] ?_;simp only[go_sem];refine aB (lo,(lo+hi)/2) _ _ ⟨⟨by dsimp only;omega,by dsimp only;omega,kf,fun U aR mJ=> ?_⟩,rfl,rfl⟩ (by dsimp only;omega);have Ih:¬a' l[(lo+hi)/2]<a' x:=by simpa using rJ
  by_cases oD:U=(lo+hi)/2
  ·subst oD;exact Ih
  have aa:=List.pairwise_iff_getElem.1 af ((lo+hi)/2) U (by simpa using jo) (by simpa using aR) (by dsimp only at mJ;omega);simp only[List.getElem_map]at aa;exact fun h=>Ih (List.lt_of_le_of_lt aa h)
 have hle:hi=lo:=by simp at fV;omega
 subst hle;refine j.exit rfl (j.J ?_);by_cases a8:hi<l.length
 by_cases bW:l[hi]=x
 ·have aw:decide ((hi:Int)<(l.length:Int))=true:=by simp;omega
  have aq:=b6 ab l hi a8;rw[ab]at aq;have bf:(0:Int)≤(hi:Int):=by omega
  have bp:(hi:Int)<(l.length:Int):=by omega
  have qs:(l[hi].toList==x.toList)=true:=by rw[bW];simp
  refine j.rg [0,1,6,7] fun K I=> ?_;simp only[go_sem,bn,aw,aq,bf,bp,qs];apply I;refine j.ret ar Tryz.func60 (by simp[go_sem]) ?_;simp only[go_sem];first|refine⟨⟨hi, ?_⟩,rfl⟩|refine⟨hi, ?_⟩
  rw[show l.contains x=true from List.contains_iff_mem.2 (bW▸List.getElem_mem a8)]
 ·have aw:decide ((hi:Int)<(l.length:Int))=true:=by simp;omega
  have aq:=b6 ab l hi a8;rw[ab]at aq;have bf:(0:Int)≤(hi:Int):=by omega
  have bp:(hi:Int)<(l.length:Int):=by omega
  have qs:(l[hi].toList==x.toList)=false:=by
   rw[cr,cr];exact beq_false_of_ne fun e=>bW (by rw[←gr l[hi],←gr x];exact congrArg aK e)
  refine j.rg [0,1,6,7] fun K I=> ?_;simp only[go_sem,bn,aw,aq,bf,bp,qs];refine a1 Tryz.call93 (TG l[hi] _) ?_;simp only[go_sem];apply I;refine j.ret ar Tryz.func60 (by simp[go_sem]) ?_;simp only[go_sem];first|refine⟨⟨hi, ?_⟩,rfl⟩|refine⟨hi, ?_⟩
  have lS:l.contains x=false:=by
   rw[Bool.eq_false_iff];intro ag;obtain⟨U,aR,rfl⟩:=List.getElem_of_mem (List.contains_iff_mem.1 ag);rcases Nat.lt_or_ge U hi with h|h
   ·exact List.lt_irrefl _ (kf U aR h)
   have aZ:U≠hi:=fun e=>bW (by subst e;rfl)
   have aa:=List.pairwise_iff_getElem.1 af hi U (by simpa using a8) (by simpa using aR) (by omega);simp only[List.getElem_map]at aa;have ah:=tD hi a8 (Nat.le_refl _);have aJ:a' l[U]≤a' l[hi]:=List.not_lt.1 ah;have bg:=List.le_antisymm aa aJ;exact bW (by rw[←gr l[hi],←gr l[U],bg])
  rw[lS]
 have aw:decide ((hi:Int)<(l.length:Int))=false:=by simp;omega
 refine j.rg [0,1,6,7] fun K I=> ?_;simp only[go_sem,bn,aw];apply I;refine j.ret ar Tryz.func60 (by simp[go_sem]) ?_;simp only[go_sem];first|refine⟨⟨hi, ?_⟩,rfl⟩|refine⟨hi, ?_⟩
 have lS:l.contains x=false:=by
  rw[Bool.eq_false_iff];intro ag;obtain⟨U,aR,rfl⟩:=List.getElem_of_mem (List.contains_iff_mem.1 ag);exact List.lt_irrefl _ (kf U aR (by omega))
 rw[lS]
theorem Yj (g:b9) (mb:Nat) (σ:al) (aA:g.aU.edges.length<2^20) (af:∀e∈g.aU.edges,e.small):
  AC Tryz.prog 70 [g.d mb] σ (fun e σ'=>e= .ret (.ai ((hd g.aU).map ab))∧σ'=σ):=by
 refine AC.q5 (sz:=1) ((M7 g mb [] aA af).mono ?_) σ;rintro e σ' ⟨o,aT,rfl,rfl⟩;exact⟨o,aT,by rw[List.length_map],rfl⟩
theorem MH (l:List ByteArray):((kq l).map a').Pairwise (· ≤·):=by
 have h:=AA KG KF (l.map a');have bt:(kq l).map a'=mS leB (l.map a'):=by
  unfold kq;rw[List.map_map];exact(List.map_congr_left fun x _=>ht x).trans (List.map_id _)
 rw[bt];exact h.imp fun{a b} gV=>(Uq a b).1 gV
theorem wi (l:List ByteArray) (x:ByteArray):x∈kq l↔x∈l:=by
 unfold kq;rw[List.mem_map];constructor
 ·rintro⟨y,aF,rfl⟩;have:=(sl (le:=leB) (l.map a')).mem_iff.1 aF;obtain⟨z,aO,rfl⟩:=List.mem_map.1 this;rw[gr];exact aO
 intro h;exact⟨a' x,(sl (le:=leB) (l.map a')).mem_iff.2 (List.mem_map_of_mem h),gr x⟩
theorem B5 {α:Type} [DecidableEq α] [Inhabited α] (zs:List α):(Lib.compact zs).Sublist zs:=by
 unfold Lib.compact Lib.compactUpTo;have aa:((List.range zs.length).filter (Lib.keeps zs.toArray)).Sublist (List.range zs.length):=List.filter_sublist;have ah:=aa.map (fun U=>zs.toArray[U]!);have aJ:(List.range zs.length).map (fun U=>zs.toArray[U]!)=zs:=by
  apply List.ext_getElem
  ·simp
  intro i bg cu;simp at bg;simp[bg]
 rw[aJ]at ah;exact ah
theorem Hb (l:List ByteArray):(mi l).map a'=Lib.compact (l.map a'):=by
 unfold mi;rw[List.map_map];exact(List.map_congr_left fun x _=>ht x).trans (List.map_id _)
theorem M6 (m:bK):((hd m).map a').Pairwise (· ≤·):=by
 unfold hd;rw[Hb];exact(MH _).sublist (B5 _)
theorem TO (p:ByteArray→Bool) (l:List ByteArray) (h:(l.map a').Pairwise (· ≤·)):((kept p l).map a').Pairwise (· ≤·):=by
 unfold kept;exact h.sublist (List.filter_sublist.map a')
def cR (m:bK) (i:Nat):List ByteArray:=(m.edges.take i).flatMap aM.outs
def nU (g:b9):List ByteArray:=if g.aU.defs.length>0 then g.aU.defs else kept (fun f=>(hd g.aU).contains f) (g.aU.edges.flatMap aM.outs)
theorem AM (m:bK) (i:Nat) (h:i<m.edges.length):cR m (i+1)=cR m i++m.edges[i].outs:=by
 unfold cR;rw[List.take_succ_eq_append_getElem h,List.flatMap_append];simp
theorem vT (m:bK) (af:∀e∈m.edges,e.small):∀i,i≤m.edges.length→(cR m i).length≤10*i
 |0,_=>by simp[cR]
 |i+1,h=>by
  have aa:=vT m af i (by omega);have ah:=(af m.edges[i] (List.getElem_mem (by omega))).outs;rw[AM m i (by omega),List.length_append];omega
theorem X7 (u:List ByteArray) (bP:Nat) (σ:al) (l:List ByteArray) (aa:av bP σ=some (.arr 1 [.ai (u.map ab)])) (aA:u.length<2^40) (hu:(u.map a').Pairwise (· ≤·)):
  nY [.ptr bP 1 0 0] 72 (fun f=>u.contains f) l σ:=by
 refine⟨Tryz.call72,fun f _=> ?_⟩;refine AC.bI Tryz.func72 Tryz.ntmps72 fun C ar=> ?_;refine j.J (j.rg [0,1] fun K I=> ?_);simp only[go_sem];apply I;refine j.J (j.rg [0,1] fun K I=> ?_);simp only[go_sem,ab,aa];refine⟨_,Tryz.call60,(FM u f σ aA hu).mono ?_⟩;rintro e σ1 ⟨⟨nA,rfl⟩,rfl⟩;simp only[go_sem];apply I;refine j.J (j.rg [5] fun K I=> ?_);simp only[go_sem];apply I;refine j.ret ar Tryz.func72 (by simp[go_sem]) ?_;simp only[go_sem]
theorem X9 (g:b9) (mb:Nat) (σ:al) (aA:g.aU.edges.length<2^20) (af:∀e∈g.aU.edges,e.small) (aw:g.aU.defs.length<2^20):
  AC Tryz.prog 30 [g.d mb] σ (fun e σ'=>(e= .ret (.ai ((nU g).map ab))∧σ'=σ)∨∃o,aV o 1 ((nU g).map ab) σ∧e= .ret (.own o 1 (nU g).length)∧σ'=cellsOf o 1 ((nU g).map ab)++σ):=by
 have mN:=Bu g.aU af;unfold b9.d b9.cells;have bn:(g.aU.edges.map aM.d).length=g.aU.edges.length:=List.length_map ..;have ei:(g.aU.defs.map ab).length=g.aU.defs.length:=List.length_map ..;refine AC.bI Tryz.func30 Tryz.ntmps30 fun C ar=> ?_;refine j.J (j.rg [0] fun K I=> ?_);simp only[go_sem];apply I;refine j.J (j.J (j.rg [0] fun K I=> ?_));simp only[go_sem];apply I;refine j.bJ rfl (j.aN (j.J (j.J (j.rg [0] fun K I=> ?_))));simp only[go_sem,ei];apply I;refine j.cond rfl (fun fV=> ?_) (fun fV=> ?_)
 ·have oy:g.aU.defs.length>0:=by simpa using fV
  refine j.J (j.rg [0] fun K I=> ?_);simp only[go_sem];refine a1 Tryz.call52 (uU (g.aU.defs.map ab) _ (c' _) (by rw[List.length_map];omega)) ?_;simp only[go_sem];apply I;refine j.ret ar Tryz.func30 (by simp[go_sem]) ?_;simp only[go_sem];exact .inl (by unfold nU;rw[if_pos oy])
 have oy:¬g.aU.defs.length>0:=by simpa using fV
 refine j.aN (j.J (j.rg [0] fun K I=> ?_));simp only[go_sem];refine⟨_,Tryz.call70,(Yj g mb _ aA af).mono ?_⟩;rintro e σ1 ⟨rfl,rfl⟩;simp only[go_sem];intro b3 dP;apply I;refine j.J (j.rg [0,3] fun K I=> ?_);simp only[go_sem];apply I;refine j.J (j.J (j.rg [0,3,4] fun K I=> ?_));simp only[go_sem,bn];apply I;refine j.aG (j.im 4 1 rfl ?_);refine j.rebase [3,4,28,29,30] ?_;simp only[go_sem];refine j.while (fun(i:Nat) env' aS=>∃o:Option Nat,(i≤g.aU.edges.length∧aV o 1 ((cR g.aU i).map ab) ((b3, .arr 1 [.ai ((hd g.aU).map ab)])::σ1))∧env'=[(3, .ptr b3 1 0 0),(4, .own o 1 (cR g.aU i).length),(28, .ai (g.aU.edges.map aM.d)),(29, .v (.int .i64 (g.aU.edges.length:Int))),(30, .v (.int .i64 (i:Int)))]∧aS=cellsOf o 1 ((cR g.aU i).map ab)++(b3, .arr 1 [.ai ((hd g.aU).map ab)])::σ1) (fun(i:Nat)=>g.aU.edges.length-i) 0 ⟨none,⟨by omega,aV.nil _ _⟩,rfl,rfl⟩ ?_;rintro i env' aS ⟨o,⟨hi,aT⟩,rfl,rfl⟩ aB;have cH:=aB;refine j.J (j.rg [3,4,28,29,30] fun K I=> ?_);simp only[go_sem];apply I;refine j.J ?_;refine j.cond rfl (fun k6=> ?_) (fun k6=> ?_)
 ·have aC:i<g.aU.edges.length:=by simpa using k6
  have aq:=b6 aM.d g.aU.edges i aC;have bf:(0:Int)≤(i:Int):=by omega
  have bp:(i:Int)<((g.aU.edges.map aM.d).length:Int):=by omega
  rw[aM.d]at aq;have dh:=af _ (List.getElem_mem aC);have hh:=dh.outs;have mN:=vT g.aU af i hi;have eD:=AM g.aU i aC;refine j.aN (j.J (j.aG (j.J (j.rg [3,4,28,29,30] fun K I=> ?_))));simp only[go_sem,aq,bf,bp];intro be mC;apply I;obtain⟨gJ,hle⟩:=aT.push (x:= .arr 6 [aM.d g.aU.edges[i]]) mC;refine j.le (cn.refl _) hle ?_;have nh:=(aT.jP mC).1;have dQ:=(gJ.keep (bE be (.arr 6 [aM.d g.aU.edges[i]]) _)).trans (congrArg (fun x=>some (aE.arr 6 [x])) (aM.rB g.aU.edges[i]));have aH:=gJ.bL;have aw:=gJ.cB;have dW:((cR g.aU i).map ab).length=(cR g.aU i).length:=List.length_map ..;have oG:(g.aU.edges[i].outs.map ab).length=g.aU.edges[i].outs.length:=List.length_map ..;have cv:List.take (cR g.aU i).length ((cR g.aU i).map ab)=(cR g.aU i).map ab:=List.take_of_length_le (by omega);refine j.rg [3,4,6,28,29,30] fun K I=> ?_;simp only[go_sem,dQ,aH,aw,cv];refine⟨⟨by omega,c' _,by omega,by omega⟩,fun ob aO ax=> ?_⟩;have b7:=gJ.app aO ax;have bt:(cR g.aU i).map ab++g.aU.edges[i].outs.map ab=(cR g.aU (i+1)).map ab:=by rw[eD,List.map_append]
  rw[bt]at b7⊢;have dz:=b7.drop nh;apply I;refine j.le (cn.refl _) dz.2 ?_;refine j.ba (j.rg [3,4,28,29,30] fun K I=> ?_);simp only[go_sem];apply I;refine j.rebase [3,4,28,29,30] ?_;simp only[go_sem];rw[bH i (by omega)];exact aB (i+1) _ _ ⟨ob,⟨by omega,dz.1⟩,by rw[List.length_map],rfl⟩ (by omega)
 have cC:i=g.aU.edges.length:=by simp at k6;omega
 subst cC;have ew:=vT g.aU af g.aU.edges.length (Nat.le_refl _);refine j.exit rfl (j.J (j.rg [3,4] fun K I=> ?_));simp only[go_sem];refine⟨_,Tryz.call71,(Hl o (cR g.aU g.aU.edges.length) _ [.ptr b3 1 0 0] (fun f=>(hd g.aU).contains f) _ (by omega) aT (fun τ hle=>X7 (hd g.aU) b3 τ _ (hle b3 _ (bE ..)) (by omega) (M6 g.aU))).mono ?_⟩;rintro e σ1 ⟨rfl,rfl,b7⟩;simp only[go_sem];apply I;have dz:=b7.drop dP;refine j.le (cn.refl _) dz.2 ?_;refine j.ret ar Tryz.func30 (by simp[go_sem]) ?_;simp only[go_sem];have hu:cR g.aU g.aU.edges.length=g.aU.edges.flatMap aM.outs:=by unfold cR;rw[List.take_length]
 have bc:nU g=kept (fun f=>(hd g.aU).contains f) (cR g.aU g.aU.edges.length):=by unfold nU;rw[if_neg oy,hu]
 rw[bc];exact .inr ⟨o,dz.1,rfl,rfl⟩
theorem AC.Fi {f:FuncId} {args:List D} {sz:Nat} {xs:List D} (h:AC Tryz.prog f args [] (fun e σ'=>(e= .ret (.ai xs)∧σ'=[])∨∃o,aV o sz xs []∧e= .ret (.own o sz xs.length)∧σ'=cellsOf o sz xs++[])) (σ:al):AC Tryz.prog f args σ (fun e σ'=>e= .ret (.ai xs)∧σ'=σ):=by
 have ah:AC Tryz.prog f args [] (fun e σ'=>(e= .ret (.ai xs)∧σ'=[])∨∃b,e= .ret (.own (some b) sz xs.length)∧σ'=[(b, .arr sz xs)]):=by
  refine h.l7 fun e σ' a8=> ?_;rcases a8 with a8|⟨o,aq,he,af⟩
  ·exact .inl (.inl a8)
  cases o with
  |some b=>exact .inl (.inr ⟨b,he,af⟩)
  |none=>
   have:xs=[]:=aq.zero rfl;subst this;exact .inr ⟨_,_,he,ca.l5 _ _, .inl ⟨rfl,af⟩⟩
 refine AC.AU (R':=fun e=>e= .ret (.ai xs)) ah (fun e σ' a8=> ?_) σ;rcases a8 with a8|⟨b,rfl,rfl⟩
 ·exact .inl a8
 exact .inr ⟨_,b,sz,xs,rfl,rfl,by rw[Fk]⟩
theorem X8 (g:b9) (mb:Nat) (σ:al) (aA:g.aU.edges.length<2^20) (af:∀e∈g.aU.edges,e.small) (aw:g.aU.defs.length<2^20):
  AC Tryz.prog 30 [g.d mb] σ (fun e σ'=>e= .ret (.ai ((nU g).map ab))∧σ'=σ):=by
 refine AC.Fi (sz:=1) ((X9 g mb [] aA af aw).mono ?_) σ;rintro e σ' (h|⟨o,aT,rfl,rfl⟩)
 ·exact .inl h
 exact .inr ⟨o,aT,by rw[List.length_map],rfl⟩
structure b9.Ok (g:b9):Prop where
 el:g.aU.edges.length<2^20
 b5:∀e∈g.aU.edges,e.small
 dl:g.aU.defs.length<2^20
 jd:g.aI.length=g.aU.edges.length
 hs:∀l∈g.aI,l.length<2^30∧∀n∈l,n<g.aI.length
 TU:(g.mks.map (·.1)).Nodup
 sn:g.mks.length<2^30
 oS:∀p∈g.mks,p.2<g.aU.edges.length
 AE:∀p∈g.mks,p.1.size<2^40
def ln (g:b9) (aD:List ByteArray):Nat⊕List Nat:=
 if aD.any (fun f=> !(h2 g).contains f&& !(cE g.mks f).isSome)then .inl 6 else .inr (iV g.aI (hc g.aI (cw g.mks aD)))
def Fe:Nat⊕List Nat→D
 | .inl c=> .bd [.v (.slice none 0 0), .v (.int .i64 (c:Int))]
 | .inr l=> .bd [.ai (l.map a_), .v (.int .i64 0)]
theorem EO {mks:List (ByteArray×Nat)} {f:ByteArray} {n:Nat} (h:cE mks f=some n):∃p∈mks,p.2=n∧p.1=f:=by
 unfold cE at h;obtain⟨p,aP,rfl⟩:=Option.map_eq_some_iff.1 h;exact⟨p,List.mem_of_find?_eq_some aP,rfl,by have:=List.find?_some aP;exact(eq_of_beq this).symm⟩
theorem sq {mks:List (ByteArray×Nat)} {B:Nat} (h:∀p∈mks,p.2<B) (a7:List ByteArray):∀n∈cw mks a7,n<B:=by
 have key:∀i,i≤a7.length→∀n∈cw mks (a7.take i),n<B:=by
  intro i;induction i with
  |zero=>intro _ n au;simp[cw]at au
  |succ i aB=>
   intro hi n au;rw[yd mks a7 i (by omega)]at au;split at au
   ·rename_i m hm
    obtain⟨p,aP,JU,_⟩:=EO hm;split at au
    ·exact aB (by omega) n au
    rcases List.mem_append.1 au with au|au
    ·exact aB (by omega) n au
    simp only[List.mem_singleton]at au;rw[au,←JU];exact h p aP
   exact aB (by omega) n au
 have:=key a7.length (Nat.le_refl _);rwa [List.take_length]at this
theorem GL (aI:List (List Nat)) (fj:∀l∈aI,∀n∈l,n<aI.length):∀(f k:Nat) (met:List Nat),met.Nodup→(∀n∈met,n<aI.length)→(kY aI f k met).Nodup∧∀n∈kY aI f k met,n<aI.length
 |0,k,met,aa,ah=>⟨aa,ah⟩
 |f+1,k,met,aa,ah=>by
  unfold kY;split
  ·rename_i aj
   refine GL aI fj f (k+1) _ (rk _ _ aa) fun n au=> ?_;rcases(m_ _ _ n).1 au with h|h
   ·exact ah n h
   have hm:=ah met[k] (List.getElem_mem aj);rw[dC aI met[k] [] hm]at h;exact fj _ (List.getElem_mem hm) n h
  exact⟨aa,ah⟩
theorem L7 (aI:List (List Nat)) (fj:∀l∈aI,∀n∈l,n<aI.length) (c2:List Nat) (ax:∀n∈c2,n<aI.length):(o2 aI c2).Nodup∧∀n∈o2 aI c2,n<aI.length:=
 GL aI fj _ _ _ (rk _ _ List.nodup_nil) fun n au=>by
  rcases(m_ c2 [] n).1 au with h|h
  ·cases h
  exact ax n h
theorem A9 (aI:List (List Nat)) (fj:∀l∈aI,∀n∈l,n<aI.length) (c2:List Nat) (ax:∀n∈c2,n<aI.length):(hc aI c2).length≤aI.length∧∀n∈hc aI c2,n<aI.length:=by
 obtain⟨aa,ah⟩:=L7 aI fj c2 ax;have aP:(hc aI c2).Perm (o2 aI c2):=sl _;refine⟨?_,fun n au=>ah n (aP.mem_iff.1 au)⟩;rw[aP.length_eq];have:=nD aa (m:=List.range aI.length) (fun x an=>List.mem_range.2 (ah x an));rwa [List.length_range]at this
theorem Lz (g:b9) (aq:g.Ok) (mb:Nat) (aD:List ByteArray) (σ:al) (hm:av mb σ=some (.mp (dG g.mks))) (bc:aD.length<2^30):
  AC Tryz.prog 31 [g.d mb, .ai (aD.map ab)] σ (fun e σ'=>e= .ret (Fe (ln g aD))∧σ'=σ):=by
 have mN:=Bu g.aU aq.b5;have jH:=aq.el;have gq:(h2 g).length≤(hd g.aU).length:=uc ..;have hk:(aD.map ab).length=aD.length:=List.length_map ..;have fK:=TO (fun f=>(cE g.mks f).isSome) _ (M6 g.aU);have eK:g.d mb= .c0 [.ai (g.aU.edges.map aM.d), .ai (g.aU.defs.map ab), .map mb, .ai (g.aI.map fun l=> .ai (l.map a_))]:=rfl;have JB:=sq aq.oS aD;have R4:=vH g.mks aD aD.length (Nat.le_refl _);rw[List.take_length]at R4;have Am:=L9 (.ai (g.aU.defs.map ab)) (.map mb) (g.aU.edges.map aM.d) g.aI (cw g.mks aD) σ (by rw[List.length_map];exact aq.jd.symm) (by rw[aq.jd];omega) (fun n au=>by rw[aq.jd];exact JB n au) (by omega) aq.hs;obtain⟨ju,Al⟩:=A9 g.aI (fun l aA=>(aq.hs l aA).2) (cw g.mks aD) (fun n au=>by rw[aq.jd];exact JB n au);have Sq:=Lm (.ai (g.aU.edges.map aM.d)) (.ai (g.aU.defs.map ab)) (.map mb) g.aI (hc g.aI (cw g.mks aD)) σ (by rw[aq.jd]at ju;omega) Al (fun l aA=>(aq.hs l aA).1);refine AC.bI Tryz.func31 Tryz.ntmps31 fun C ar=> ?_;rw[eK];refine j.J (j.rg [0,1] fun K I=> ?_);simp only[go_sem];apply I;refine j.J (j.J (j.rg [0,1] fun K I=> ?_));simp only[go_sem];apply I;refine j.bJ rfl (j.aN (j.J (j.rg [0,1] fun K I=> ?_)));simp only[go_sem];refine⟨_,Tryz.call64,(MN g mb σ hm jH aq.b5).mono ?_⟩;rintro e σ1 ⟨rfl,rfl⟩;simp only[go_sem];apply I;refine j.J (j.J (j.rg [0,1,6] fun K I=> ?_));simp only[go_sem,hk];apply I;refine j.aG ?_;refine j.rebase [0,1,6,17,18,19] ?_;simp only[go_sem];refine j.while (fun(i:Nat) env' aS=>(i≤aD.length∧∀f∈aD.take i,(!(h2 g).contains f&& !(cE g.mks f).isSome)=false)∧env'=[(0, .c0 [.ai (g.aU.edges.map aM.d), .ai (g.aU.defs.map ab), .map mb, .ai (g.aI.map fun l=> .ai (l.map a_))]),(1, .ai (aD.map ab)),(6, .ai ((h2 g).map ab)),(17, .ai (aD.map ab)),(18, .v (.int .i64 (aD.length:Int))),(19, .v (.int .i64 (i:Int)))]∧σ1=aS) (fun(i:Nat)=>aD.length-i) 0 ⟨⟨by omega,by simp⟩,rfl,rfl⟩ ?_
 rintro i env' aS ⟨⟨hi,b0⟩,rfl,rfl⟩ aB;have cH:=aB;refine j.J (j.rg [0,1,6,17,18,19] fun K I=> ?_);simp only[go_sem];apply I;refine j.J ?_;refine j.cond rfl (fun oe=> ?_) (fun oe=> ?_)
 ·have aC:i<aD.length:=by simpa using oe
  have lP:=b6 ab aD i aC;rw[ab]at lP;have bf:(0:Int)≤(i:Int):=by omega
  have bp:(i:Int)<((aD.map ab).length:Int):=by omega
  have hD:=vL g.mks aD[i];have iJ:=vM g.mks aD[i];have nn:=zt (cE g.mks aD[i]);have gF:=Bm (cE g.mks aD[i]);refine j.aN (j.J (j.aG (j.J (j.rg [0,1,6,17,18,19] fun K I=> ?_))));simp only[go_sem,lP,bf,bp];apply I;refine j.J (j.rg [0,1,6,8,17,18,19] fun K I=> ?_);simp only[go_sem,hm,hD,nn,gF];refine⟨⟨rfl,iJ⟩, ?_⟩;apply I;refine j.J (j.rg [0,1,6,8,10,17,18,19] fun K I=> ?_);simp only[go_sem];refine⟨_,Tryz.call60,(FM (h2 g) aD[i] _ (by omega) fK).mono ?_⟩;rintro e mc ⟨⟨nA,rfl⟩,rfl⟩;simp only[go_sem];apply I;refine j.J ?_;rcases Bool.eq_false_or_eq_true ((h2 g).contains aD[i])with vh|vh
  ·refine j.rg [0,1,6,10,12,17,18,19] fun K I=> ?_;simp only[go_sem,vh];apply I;refine j.bJ rfl (j.aN (j.ba (j.rg [0,1,6,17,18,19] fun K I=> ?_)));simp only[go_sem];apply I;refine j.rebase [0,1,6,17,18,19] ?_;simp only[go_sem];rw[bH i (by omega)];exact aB (i+1) _ _ ⟨⟨by omega,o_ aC b0 (by rw[vh];rfl)⟩,rfl,rfl⟩ (by omega)
  refine j.rg [0,1,6,10,12,17,18,19] fun K I=> ?_;simp only[go_sem,vh];apply I;refine j.cond rfl (fun oh=> ?_) (fun oh=> ?_)
  ·have fm:(cE g.mks aD[i]).isSome=false:=by simpa using oh
   refine j.J (j.rg [] fun K I=> ?_);simp only[go_sem];apply I;refine j.ret ar Tryz.func31 (by simp[go_sem]) ?_;simp only[go_sem];have j':aD.any (fun f=> !(h2 g).contains f&& !(cE g.mks f).isSome)=true:=List.any_eq_true.2 ⟨aD[i],List.getElem_mem aC,by rw[vh,fm];rfl⟩
   have:ln g aD= .inl 6:=by unfold ln;rw[if_pos j']
   rw[this];rfl
  have fm:(cE g.mks aD[i]).isSome=true:=by simpa using oh
  refine j.aN (j.ba (j.rg [0,1,6,17,18,19] fun K I=> ?_));simp only[go_sem];apply I;refine j.rebase [0,1,6,17,18,19] ?_;simp only[go_sem];rw[bH i (by omega)];exact aB (i+1) _ _ ⟨⟨by omega,o_ aC b0 (by rw[vh,fm];rfl)⟩,rfl,rfl⟩ (by omega)
 have cC:i=aD.length:=by simp at oe;omega
 subst cC;rw[List.take_length]at b0;have j':aD.any (fun f=> !(h2 g).contains f&& !(cE g.mks f).isSome)=false:=by
  rw[Bool.eq_false_iff];intro ag;obtain⟨f,ax,h⟩:=List.any_eq_true.1 ag;rw[b0 f ax]at h;cases h
 have gn:ln g aD= .inr (iV g.aI (hc g.aI (cw g.mks aD))):=by unfold ln;rw[if_neg (by rw[j'];simp)]
 refine j.exit rfl (j.J (j.rg [0,1] fun K I=> ?_));simp only[go_sem];refine a1 Tryz.call54 (Ux g mb aD _ hm bc) ?_;simp only[go_sem];refine a1 Tryz.call73 Am ?_;simp only[go_sem];refine a1 Tryz.call56 Sq ?_;simp only[go_sem];apply I;refine j.ret ar Tryz.func31 (by simp[go_sem]) ?_;simp only[go_sem];rw[gn];rfl
def g' (m:bK) (k:Nat):List ByteArray:=(m.edges[k]?.map aM.outs).getD []
def eR (g:b9) (n:Nat):List Nat:=hc g.aI (g.aI.getD n [])
def kV (g:b9) (n:Nat):List ByteArray:=kq ((eR g n).flatMap (g' g.aU))
def h6 (g:b9) (n i:Nat):List ByteArray:=((eR g n).take i).flatMap (g' g.aU)
theorem Gq (g:b9) (n i:Nat) (h:i<(eR g n).length):h6 g n (i+1)=h6 g n i++g' g.aU (eR g n)[i]:=by
 unfold h6;rw[List.take_succ_eq_append_getElem h,List.flatMap_append];simp
theorem E8 (m:bK) (af:∀e∈m.edges,e.small) (k:Nat):(g' m k).length≤10:=by
 unfold g';cases h:m.edges[k]? with
 |none=>simp
 |some e=>exact(af e (List.mem_of_getElem? h)).outs
theorem yV (g:b9) (n:Nat) (af:∀e∈g.aU.edges,e.small):∀i,i≤(eR g n).length→(h6 g n i).length≤10*i
 |0,_=>by simp[h6]
 |i+1,h=>by
  have aa:=yV g n af i (by omega);have ah:=E8 g.aU af (eR g n)[i];rw[Gq g n i (by omega),List.length_append];omega
theorem NB (g:b9) (aq:g.Ok) (mb n:Nat) (au:n<g.aU.edges.length) (σ:al):
  AC Tryz.prog 61 [g.d mb,a_ n] σ (fun e σ'=>∃o,aV o 1 ((kV g n).map ab) σ∧e= .ret (.own o 1 ((kV g n).map ab).length)∧σ'=cellsOf o 1 ((kV g n).map ab)++σ):=by
 have jH:=aq.el;have bn:(g.aU.edges.map aM.d).length=g.aU.edges.length:=List.length_map ..;have e_:=aq.jd;have eK:g.d mb= .c0 [.ai (g.aU.edges.map aM.d), .ai (g.aU.defs.map ab), .map mb, .ai (g.aI.map fun l=> .ai (l.map a_))]:=rfl;have iK:n<g.aI.length:=by omega
 have fj:=b6 (fun l=>D.ai (l.map a_)) g.aI n iK;have jq:(0:Int)≤(n:Int):=by omega
 have jr:(n:Int)<((g.aI.map fun l=>D.ai (l.map a_)).length:Int):=by rw[List.length_map];omega
 have aO:decide ((n:Int)<0)=false:=by simp
 have jO:decide ((n:Int)≥(g.aU.edges.length:Int))=false:=by simp;omega
 have gV:=aq.hs _ (List.getElem_mem iK);have Am:=L9 (.ai (g.aU.defs.map ab)) (.map mb) (g.aU.edges.map aM.d) g.aI g.aI[n] σ (by rw[List.length_map];exact aq.jd.symm) (by omega) gV.2 gV.1 aq.hs;obtain⟨ju,Al⟩:=A9 g.aI (fun l aA=>(aq.hs l aA).2) g.aI[n] gV.2;have QL:eR g n=hc g.aI g.aI[n]:=by unfold eR;rw[dC g.aI n [] iK]
 rw[←QL]at Am ju Al;have Ea:((eR g n).map a_).length=(eR g n).length:=List.length_map ..;rw[eK];refine AC.bI Tryz.func61 Tryz.ntmps61 fun C ar=> ?_;refine j.J (j.rg [0,1] fun K I=> ?_);simp only[go_sem];apply I;refine j.J (j.J (j.rg [0,1] fun K I=> ?_));simp only[go_sem,a_,bn,aO,jO];apply I;refine j.bJ rfl (j.aN (j.J (j.rg [0,1] fun K I=> ?_)));simp only[go_sem];apply I;refine j.J (j.J (j.rg [0,1,5] fun K I=> ?_));simp only[go_sem,a_,fj,jq,jr];refine⟨_,Tryz.call73,Am.mono ?_⟩;rintro e σ1 ⟨rfl,rfl⟩;simp only[go_sem,Ea];apply I;refine j.aG (j.im 5 1 rfl ?_);refine j.rebase [0,5,32,33,34] ?_;simp only[go_sem];refine j.while (fun(i:Nat) env' aS=>∃o:Option Nat,(i≤(eR g n).length∧aV o 1 ((h6 g n i).map ab) σ1)∧env'=[(0, .c0 [.ai (g.aU.edges.map aM.d), .ai (g.aU.defs.map ab), .map mb, .ai (g.aI.map fun l=> .ai (l.map a_))]),(5, .own o 1 (h6 g n i).length),(32, .ai ((eR g n).map a_)),(33, .v (.int .i64 ((eR g n).length:Int))),(34, .v (.int .i64 (i:Int)))]∧aS=cellsOf o 1 ((h6 g n i).map ab)++σ1) (fun(i:Nat)=>(eR g n).length-i) 0 ⟨none,⟨by omega,aV.nil _ _⟩,rfl,rfl⟩ ?_;rintro i env' aS ⟨o,⟨hi,aT⟩,rfl,rfl⟩ aB;have cH:=aB;refine j.J (j.rg [0,5,32,33,34] fun K I=> ?_);simp only[go_sem];apply I;refine j.J ?_;refine j.cond rfl (fun s'=> ?_) (fun s'=> ?_)
 ·have aC:i<(eR g n).length:=by simpa using s'
  have lP:=b6 a_ (eR g n) i aC;rw[a_]at lP;have bf:(0:Int)≤(i:Int):=by omega
  have bp:(i:Int)<(((eR g n).map a_).length:Int):=by omega
  have eU:=Al _ (List.getElem_mem aC);have DI:(eR g n)[i]<g.aU.edges.length:=by omega
  have dQ:=b6 aM.d g.aU.edges (eR g n)[i] DI;rw[aM.d]at dQ;have dp:(0:Int)≤((eR g n)[i]:Int):=by omega
  have dq:((eR g n)[i]:Int)<((g.aU.edges.map aM.d).length:Int):=by omega
  have dh:=aq.b5 _ (List.getElem_mem DI);have hh:=dh.outs;have mN:=yV g n aq.b5 i hi;have eD:=Gq g n i aC;have Sp:g' g.aU (eR g n)[i]=g.aU.edges[(eR g n)[i]].outs:=by unfold g';rw[List.getElem?_eq_getElem DI];rfl
  rw[Sp]at eD;have aH:=aT.bL;have aw:=aT.cB;have dW:((h6 g n i).map ab).length=(h6 g n i).length:=List.length_map ..;have oG:(g.aU.edges[(eR g n)[i]].outs.map ab).length=g.aU.edges[(eR g n)[i]].outs.length:=List.length_map ..;have cv:List.take (h6 g n i).length ((h6 g n i).map ab)=(h6 g n i).map ab:=List.take_of_length_le (by omega);refine j.aN (j.J (j.aG (j.J (j.rg [0,5,32,33,34] fun K I=> ?_))));simp only[go_sem,lP,bf,bp];apply I;refine j.rg [0,5,7,32,33,34] fun K I=> ?_;simp only[go_sem,dQ,dp,dq,aH,aw,cv];refine⟨⟨by omega,c' _,by omega,by omega⟩,fun ob aO ax=> ?_⟩;have b7:=aT.app aO ax;have bt:(h6 g n i).map ab++g.aU.edges[(eR g n)[i]].outs.map ab=(h6 g n (i+1)).map ab:=by rw[eD,List.map_append]
  rw[bt]at b7⊢;apply I;refine j.ba (j.rg [0,5,32,33,34] fun K I=> ?_);simp only[go_sem];apply I;refine j.rebase [0,5,32,33,34] ?_;simp only[go_sem];rw[bH i (by omega)];exact aB (i+1) _ _ ⟨ob,⟨by omega,b7⟩,by rw[List.length_map],rfl⟩ (by omega)
 have cC:i=(eR g n).length:=by simp at s';omega
 subst cC;have mN:=yV g n aq.b5 _ hi;refine j.exit rfl (j.J (j.rg [5] fun K I=> ?_));simp only[go_sem];refine a1 Tryz.call94 (MK o (h6 g n (eR g n).length) σ1 aT (by omega)) ?_;simp only[go_sem];apply I;refine j.J (j.rg [5] fun K I=> ?_);simp only[go_sem];apply I;refine j.ret ar Tryz.func61 (by simp[go_sem]) ?_;simp only[go_sem];have hu:h6 g n (eR g n).length=(eR g n).flatMap (g' g.aU):=by unfold h6;rw[List.take_length]
 have QK:kV g n=kq (h6 g n (eR g n).length):=by unfold kV;rw[hu]
 rw[QK];refine⟨o,aV.Fz aT fun h=> ?_, ?_,rfl⟩
 ·have:h6 g n (eR g n).length=[]:=by simpa using h
  rw[this];rfl
 rw[List.length_map,yG]
theorem Nz (g:b9) (aq:g.Ok) (mb n:Nat) (au:n<g.aU.edges.length) (σ:al):
  AC Tryz.prog 61 [g.d mb,a_ n] σ (fun e σ'=>e= .ret (.ai ((kV g n).map ab))∧σ'=σ):=
 AC.q5 (NB g aq mb n au []) σ
theorem X' (g:b9) (aq:g.Ok) (mb n:Nat) (au:n<g.aU.edges.length) (f:ByteArray) (ax:f.size<2^40) (σ:al) (hm:av mb σ=some (.mp (dG g.mks))):
  AC Tryz.prog 23 [g.d mb,a_ n,ab f] σ (fun e σ'=>e= .ret (.v (.bool (if(cE g.mks f).isSome then(kV g n).contains f else !kn f)))∧σ'=σ):=by
 have e_:(kV g n).length<2^40:=by
  have aa:=yV g n aq.b5 (eR g n).length (Nat.le_refl _);have ah:(eR g n).length≤g.aI.length:=by
   have iK:n<g.aI.length:=by rw[aq.jd];exact au
   have gV:=aq.hs _ (List.getElem_mem iK);have:=(A9 g.aI (fun l aA=>(aq.hs l aA).2) g.aI[n] gV.2).1;unfold eR;rw[dC g.aI n [] iK];exact this
  have aJ:=aq.jd;have bg:=aq.el;unfold h6 at aa;rw[List.take_length]at aa;unfold kV;rw[yG];omega
 have fm:=Cz g mb f σ hm;have eK:g.d mb= .c0 (g.cells mb):=rfl;rw[eK]at fm⊢;refine AC.bI Tryz.func23 Tryz.ntmps23 fun C ar=> ?_;refine j.J (j.rg [0,1,2] fun K I=> ?_);simp only[go_sem];apply I;refine j.J (j.J (j.rg [0,1,2] fun K I=> ?_));simp only[go_sem,ab];refine a1 Tryz.call33 fm ?_;simp only[go_sem,ab];apply I;refine j.J (j.rg [0,1,2,8] fun K I=> ?_);simp only[go_sem];apply I;refine j.cond rfl (fun od=> ?_) (fun od=> ?_)
 ·have af:(cE g.mks f).isSome=false:=by simpa using od
  refine j.J (j.rg [2] fun K I=> ?_);simp only[go_sem];refine a1 Tryz.call18 (E9 f _ ax) ?_;simp only[go_sem];apply I;refine j.ret ar Tryz.func23 (by simp[go_sem]) ?_;simp only[go_sem];rw[af];rfl
 have af:(cE g.mks f).isSome=true:=by simpa using od
 refine j.aN (j.J (j.rg [0,1,2] fun K I=> ?_));simp only[go_sem];refine a1 Tryz.call61 (Nz g aq mb n au _) ?_;simp only[go_sem];refine⟨_,Tryz.call60,(FM (kV g n) f _ e_ (MH _)).mono ?_⟩;rintro e mc ⟨⟨nA,rfl⟩,rfl⟩;simp only[go_sem];apply I;refine j.J (j.rg [10] fun K I=> ?_);simp only[go_sem];apply I;refine j.ret ar Tryz.func23 (by simp[go_sem]) ?_;simp only[go_sem];rw[af];rfl
def uF (g:b9):Bool:=(l3 g).any kn||(h2 g).any kn
theorem Vd (g:b9):(l3 g).length=g.mks.length:=by unfold l3;rw[yG,List.length_map]
theorem E' (l:List ByteArray) (h:∀f∈l,f.size<2^40) (σ:al):nY [] 18 kn l σ:=⟨Tryz.call18,fun f ax=>E9 f σ (h f ax)⟩
theorem Nj (g:b9) (aq:g.Ok) (mb:Nat) (σ:al) (hm:av mb σ=some (.mp (dG g.mks))) (bU:∀f∈h2 g,f.size<2^40):
  AC Tryz.prog 25 [g.d mb] σ (fun e σ'=>e= .ret (.v (.bool (uF g)))∧σ'=σ):=by
 have eO:=aq.sn;have ew:=Vd g;have JM:∀f∈l3 g,f.size<2^40:=fun f ax=>by
  unfold l3 at ax;rw[wi]at ax;obtain⟨p,aP,rfl⟩:=List.mem_map.1 ax;exact aq.AE p aP
 have gq:(h2 g).length≤(hd g.aU).length:=uc ..;have mN:=Bu g.aU aq.b5;have jH:=aq.el;have mh:=Vg g mb σ hm aq.TU (by omega) (fun p aP=>by have:=aq.AE p aP;unfold maxLen;omega);have nb:=MN g mb σ hm aq.el aq.b5;have eK:g.d mb= .c0 (g.cells mb):=rfl;rw[eK]at mh nb⊢;refine AC.bI Tryz.func25 Tryz.ntmps25 fun C ar=> ?_;refine j.J (j.rg [0] fun K I=> ?_);simp only[go_sem];apply I;refine j.J ?_;rcases Bool.eq_false_or_eq_true ((l3 g).any kn)with hw|hw
 ·refine j.rg [0] fun K I=> ?_;simp only[go_sem];refine a1 Tryz.call63 mh ?_;simp only[go_sem];refine a1 Tryz.call34 (rz (l3 g) _ [] kn _ (by omega) (E' _ JM _)) ?_;simp only[go_sem,hw];apply I;refine j.ret ar Tryz.func25 (by simp[go_sem]) ?_;simp only[go_sem];unfold uF;rw[hw];simp
 refine j.rg [0] fun K I=> ?_;simp only[go_sem];refine a1 Tryz.call63 mh ?_;simp only[go_sem];refine a1 Tryz.call34 (rz (l3 g) _ [] kn _ (by omega) (E' _ JM _)) ?_;simp only[go_sem,hw];refine a1 Tryz.call64 nb ?_;simp only[go_sem];refine a1 Tryz.call34 (rz (h2 g) _ [] kn _ (by omega) (E' _ bU _)) ?_;simp only[go_sem];apply I;refine j.ret ar Tryz.func25 (by simp[go_sem]) ?_;simp only[go_sem];unfold uF;rw[hw];simp
end Go.Ab.S16
namespace Go.Ab.S16
open Go Go.Proofs
theorem Uu {mks:List (ByteArray×Nat)} {f:ByteArray} (h:(cE mks f).isSome=false):f∉mks.map (·.1):=fun ax=>by
 obtain⟨p,aP,rfl⟩:=List.mem_map.1 ax;unfold cE at h;rw[Option.isSome_map,Option.isSome_eq_false_iff,Option.isNone_iff_eq_none,List.find?_eq_none]at h;exact h p aP (beq_self_eq_true p.1)
structure BM (edges:List aM) (n:Nat) (mks:List (ByteArray×Nat)):Prop where
 eP:(mks.map (·.1)).Nodup
 lt:∀p∈mks,p.2<n
 at':∀p∈mks,∃e∈edges,p.1∈e.outs
theorem Lo {edges:List aM} {i:Nat} {e:aM} (he:e∈edges) {mks:List (ByteArray×Nat)} (bj:BM edges (i+1) mks):∀U,U≤e.outs.length→∀mks',jA mks i (e.outs.take U)=some mks'→BM edges (i+1) mks'∧mks'.length=mks.length+U
 |0,_,mks',h=>by
  have:mks=mks':=by simpa [jA]using h
  subst this;exact⟨bj,rfl⟩
 |U+1,aR,mks',h=>by
  rw[Lq mks i e.outs U (by omega)]at h;cases hm:jA mks i (e.outs.take U)with
  |none=>rw[hm]at h;cases h
  |some m2=>
   rw[hm,Option.bind_some]at h;obtain⟨aa,ah⟩:=Lo he bj U (by omega) m2 hm;split at h
   ·cases h
   rename_i au
   cases h
   have iK:=Uu (by simpa using au);refine⟨⟨?_,fun p aP=> ?_,fun p aP=> ?_⟩,by simp;omega⟩
   ·rw[List.map_append,List.nodup_append];exact⟨aa.eP,by simp,fun a bb b ae=>by simp at ae;rw[ae];exact fun e=>iK (e▸bb)⟩
   ·rcases List.mem_append.1 aP with aP|aP
    ·exact aa.lt p aP
    simp only[List.mem_singleton]at aP;rw[aP];exact Nat.lt_succ_self i
   rcases List.mem_append.1 aP with aP|aP
   ·exact aa.at' p aP
   simp only[List.mem_singleton]at aP;rw[aP];exact⟨e,he,List.getElem_mem _⟩
theorem yY {edges:List aM} (af:∀e∈edges,e.small):∀n,n≤edges.length→∀mks,jC edges n=some mks→BM edges n mks∧mks.length≤10*n
 |0,_,mks,h=>by
  have:mks=[]:=by simpa [jC]using h.symm
  subst this;exact⟨⟨by simp,by simp,by simp⟩,by simp⟩
 |n+1,au,mks,h=>by
  rw[wP edges n (by omega)]at h;cases hm:jC edges n with
  |none=>rw[hm]at h;cases h
  |some m2=>
   rw[hm,Option.bind_some]at h;obtain⟨aa,ah⟩:=yY af n (by omega) m2 hm;have r8:edges[n]∈edges:=List.getElem_mem (by omega);have:=Lo r8 (mks:=m2) ⟨aa.eP,fun p aP=>Nat.lt_succ_of_lt (aa.lt p aP),aa.at'⟩ edges[n].outs.length (Nat.le_refl _) mks (by rw[List.take_length];exact h);have aH:=(af _ r8).outs;exact⟨this.1,by omega⟩
theorem K4 {m:bK} (aA:m.edges.length<2^20) (af:∀e∈m.edges,e.small) (aw:m.defs.length<2^20) (au:∀e∈m.edges,∀f∈e.outs,f.size<2^40) {g:b9} (h:iS m= .inr g):g.Ok∧g.aU=m:=by
 unfold iS at h;split at h
 ·cases h
 rename_i mks hm
 dsimp only at h;split at h
 ·cases h
 cases h
 obtain⟨aa,ah⟩:=yY af m.edges.length (Nat.le_refl _) mks hm;refine⟨⟨aA,af,aw,by simp,fun l ik=> ?_,aa.eP,by dsimp only;omega,aa.lt,fun p aP=> ?_⟩,rfl⟩
 ·obtain⟨e,he,rfl⟩:=List.mem_map.1 ik;have aJ:=vH mks e.bG e.bG.length (Nat.le_refl _);rw[List.take_length]at aJ;have bg:=ss e (af e he);exact⟨by omega,fun n iK=>by simpa using sq aa.lt e.bG n iK⟩
 obtain⟨e,he,lT⟩:=aa.at' p aP;exact au e he p.1 lT
theorem UQ (m:bK) (aA:m.edges.length<2^20) (af:∀e∈m.edges,e.small) (aw:m.defs.length<2^20) (σ:al):
  AC Tryz.prog 20 [m.d] σ (fun e σ'=>match iS m with
   | .inl c=>e= .ret (.bd [.v (.pointer none), .v (.int .i64 (c:Int))])∧σ'=σ
   | .inr g=>∃mb,av mb σ=none∧e= .ret (.bd [g.d mb, .v (.int .i64 0)])∧σ'=(mb, .mp (dG g.mks))::σ):=by
 have bj:=UR m aA af aw;cases au:iS m with
 |inl c=>
  rw[au]at bj;have aa:AC Tryz.prog 20 [m.d] [] (fun e σ'=>e= .ret (.bd [.v (.pointer none), .v (.int .i64 (c:Int))])∧σ'=[]):=bj.forget fun e σ' h=>⟨[],aQ.nil _,h,rfl⟩;exact aa.still σ
 |inr g=>
  rw[au]at bj;have aa:AC Tryz.prog 20 [m.d] [] (fun e σ'=>∃mb,e= .ret (.bd [g.d mb, .v (.int .i64 0)])∧σ'=[(mb, .mp (dG g.mks))]):=bj.forget fun e σ' ⟨mb,ah,aJ⟩=>⟨_,aQ.cons aJ (aQ.nil _),mb,ah,rfl⟩;refine(aa.quiet (σ:=σ)).mono ?_;rintro e σ' ⟨σ1,⟨mb,rfl,rfl⟩,bW,rfl⟩;refine⟨mb, ?_,rfl,rfl⟩;cases fZ:av mb σ with
  |none=>rfl
  |some o=>exact absurd (bE mb (.mp (dG g.mks)) []) (by have:=bW mb;simp[fZ]at this)
def mn:D:= .dX 160 (.agg [])
theorem eE (t:Bool) (σ:al):AC Tryz.prog 81 [.v (.bool t)] σ (fun e σ'=>e=(if t=true then .ret (.bd [])else .panic mn)∧σ'=σ):=by
 refine AC.bI Tryz.func81 Tryz.ntmps81 fun C ar=> ?_;refine j.J (j.rg [0] fun K I=> ?_);simp only[go_sem];apply I;refine j.cond rfl (fun aJ=> ?_) (fun aJ=> ?_)
 ·have bc:t=false:=by simpa using aJ
  subst bc;refine j.rg [] fun K I=> ?_;simp only[go_sem];exact cK.of ar Tryz.func81 ⟨rfl,rfl⟩
 have bc:t=true:=by simpa using aJ
 refine j.aN ?_;refine j.done ar Tryz.func81 (by simp[go_sem]) ?_;simp only[go_sem];rw[bc];rfl
theorem Og (xs:List D) (σ:al) (aP:∀x∈xs,x.cells.length=1∧x.plain=true) (aA:xs.length<2^40):
  AC Tryz.prog 67 [.ai xs] σ (fun e σ'=>∃o,aV o 1 xs σ∧e= .ret (.own o 1 xs.length)∧σ'=cellsOf o 1 xs++σ):=by
 refine AC.l7 (R:=fun e σ'=>(∃o,aV o 1 xs σ∧e= .ret (.own o 1 xs.length)∧σ'=cellsOf o 1 xs++σ)∨(xs=[]∧e= .ret (.v (.slice none 0 0))∧σ'=σ)) ?_ fun e σ' h=> ?_;rotate_left
 ·rcases h with h|⟨rfl,rfl,rfl⟩
  ·exact .inl h
  exact .inr ⟨_,_,rfl,ca.mU 1,none,aV.nil _ _,rfl,rfl⟩
 refine AC.bI Tryz.func67 Tryz.ntmps67 fun C ar=> ?_;refine j.J (j.rg [0] fun K I=> ?_);simp only[go_sem];apply I;refine j.J (j.J (j.rg [0] fun K I=> ?_));simp only[go_sem];intro t bc;apply I;refine j.cond rfl (fun bg=> ?_) (fun bg=> ?_)
 ·have an:xs=[]:=by
   cases xs with
   |nil=>rfl
   |cons a l=>have:=bc (by simp);rw[bg]at this;cases this
  refine j.J (j.rg [] fun K I=> ?_);simp only[go_sem];apply I;refine j.ret ar Tryz.func67 (by simp[go_sem]) ?_;simp only[go_sem];exact .inr an
 refine j.aN (j.J (j.rg [0] fun K I=> ?_));simp only[go_sem];refine⟨by decide,fun b ae=>⟨⟨aP,by omega,by omega⟩,fun ob aO ax=> ?_⟩⟩;rw[uz ae]at ax⊢;apply I;refine j.ret ar Tryz.func67 (by simp[go_sem]) ?_;simp only[go_sem];exact .inl ⟨ob,⟨ax,aO⟩,rfl,rfl⟩
def pa {α:Type} (spec:Option α) (P6:α→cf→al→Prop) (σ:al):cf→al→Prop:=fun e σ'=>match spec with
 |some x=>P6 x e σ'
 |none=>e= .panic mn∧aQ σ σ'
theorem nG (l:List UInt8):∀y∈l.map bD,y.cells.length=1∧y.plain=true:=AS bD 1 (fun _=>⟨rfl,rfl⟩) l
theorem HI (l:List ay) (n:ByteArray) (σ:al) (aA:l.length<2^31) (ae:∀f∈l,f.b.length<2^40):
  AC Tryz.prog 27 [.ai (l.map ay.d), .v (.string n)] σ (fun e σ'=>match findF l n with
   |some b=>∃o,aV o 1 (b.map bD) σ∧e= .ret (.bd [.own o 1 (b.map bD).length, .v (.bool true)])∧σ'=cellsOf o 1 (b.map bD)++σ
   |none=>e= .ret (.bd [.v (.slice none 0 0), .v (.bool false)])∧σ'=σ):=by
 have bn:(l.map ay.d).length=l.length:=List.length_map ..;refine AC.forget (R:=fun e σ'=>∃b3,av b3 σ=none∧match findF l n with
   |some b=>∃o,aV o 1 (b.map bD) ((b3, .arr 1 [.v (.string n)])::σ)∧e= .ret (.bd [.own o 1 (b.map bD).length, .v (.bool true)])∧σ'=cellsOf o 1 (b.map bD)++(b3, .arr 1 [.v (.string n)])::σ
   |none=>e= .ret (.bd [.v (.slice none 0 0), .v (.bool false)])∧σ'=(b3, .arr 1 [.v (.string n)])::σ) ?_ fun e σ' h=> ?_
 rotate_left
 ·obtain⟨b3,aJ,h⟩:=h;split at h
  ·obtain⟨o,aq,rfl,rfl⟩:=h;have dz:=aq.drop aJ;exact⟨_,dz.2,o,dz.1,rfl,rfl⟩
  obtain⟨rfl,rfl⟩:=h;exact⟨σ,fO (aQ.refl _) aJ,rfl,rfl⟩
 refine AC.bI Tryz.func27 Tryz.ntmps27 fun C ar=> ?_;refine j.J (j.rg [0,1] fun K I=> ?_);simp only[go_sem];intro b3 dP;apply I;refine j.J (j.rg [0,3] fun K I=> ?_);simp only[go_sem];refine a1 Tryz.call65 (EA l 66 [.ptr b3 1 0 0] (fun f=>f.name.toList==n.toList) _ (by omega) ⟨Tryz.call66,fun x _=>HE x n b3 _ (bE ..)⟩) ?_;simp only[go_sem];apply I;refine j.J (j.J ?_);rcases HG l n with⟨aa,ah⟩|⟨i,hi,aa,ah⟩;all_goals rw[aa]
 ·refine j.rg [0,6] fun K I=> ?_;simp only[go_sem];apply I;refine j.bZ rfl (j.J (j.rg [] fun K I=> ?_));simp only[go_sem];apply I;refine j.ret ar Tryz.func27 (by simp[go_sem]) ?_;simp only[go_sem];refine⟨b3,dP, ?_⟩;rw[ah]
 have js:decide ((i:Int)<0)=false:=by simp
 have aq:=b6 ay.d l i hi;rw[ay.d]at aq;have bf:(0:Int)≤(i:Int):=by omega
 have bp:(i:Int)<((l.map ay.d).length:Int):=by omega
 refine j.rg [0,6] fun K I=> ?_;simp only[go_sem,js];apply I;refine j.bJ rfl (j.aN (j.J (j.rg [0,6] fun K I=> ?_)));simp only[go_sem,aq,bf,bp];refine⟨_,Tryz.call67,(Og (l[i].b.map bD) _ (nG _) (by rw[List.length_map];exact ae _ (List.getElem_mem hi))).mono ?_⟩;rintro e σ1 ⟨o,aT,rfl,rfl⟩;simp only[go_sem];apply I;refine j.ret ar Tryz.func27 (by simp[go_sem]) ?_;simp only[go_sem];refine⟨b3,dP, ?_⟩;rw[ah];exact⟨o,aT,rfl,rfl⟩
def dU (args decl:List ByteArray) (files:List ay) (found:D) (many:Int):aE:= .arr 5 [.agg [.ai (args.map ab), .ai (decl.map ab), .ai (files.map ay.d),found, .v (.int .i64 many)]]
def h7 (decl:List ByteArray) (files:List ay) (n:ByteArray):Option (List UInt8):=(findF files n).bind fun b=>if(decl.any fun s=>n.toList==s.toList)then some b else none
def q3 (σ:al) (b:List UInt8) (e:cf) (σ':al):Prop:=∃o,aV o 1 (b.map bD) σ∧e= .ret (.own o 1 (b.map bD).length)∧σ'=cellsOf o 1 (b.map bD)++σ
theorem BU (args decl:List ByteArray) (files:List ay) (found:D) (many:Int) (az:Nat) (n:ByteArray) (σ:al) (ag:av az σ=some (dU args decl files found many)) (aA:files.length<2^31) (ae:∀f∈files,f.b.length<2^40) (aw:decl.length<2^40):
  AC Tryz.prog 133 [.ptr az 5 0 0, .v (.string n)] σ (pa (h7 decl files n) (q3 σ) σ):=by
 unfold dU at ag;have gX:=HI files n σ aA ae;refine AC.bI Tryz.func133 Tryz.ntmps133 fun C ar=> ?_;cases ax:findF files n with
 |none=>
  have bb:h7 decl files n=none:=by unfold h7;rw[ax];rfl
  rw[ax]at gX;rw[bb]at ar;refine j.J (j.rg [0,1] fun K I=> ?_);simp only[go_sem];apply I;refine j.J (j.rg [0,1] fun K I=> ?_);simp only[go_sem,ag];refine a1 Tryz.call27 gX ?_;simp only[go_sem];apply I;refine j.J (j.rg [0,1,5,6] fun K I=> ?_);simp only[go_sem];refine⟨_,Tryz.call81,(eE false _).mono ?_⟩;rintro e σ1 ⟨rfl,rfl⟩;simp only[go_sem];exact cK.of ar Tryz.func133 ⟨rfl,aQ.refl _⟩
 |some b=>
  rw[ax]at gX;cases d':(decl.any fun s=>n.toList==s.toList)with
  |false=>
   have bb:h7 decl files n=none:=by unfold h7;rw[ax,Option.bind_some,d'];rfl
   rw[bb]at ar;refine j.J (j.rg [0,1] fun K I=> ?_);simp only[go_sem];apply I;refine j.J (j.rg [0,1] fun K I=> ?_);simp only[go_sem,ag];refine⟨_,Tryz.call27,gX.mono ?_⟩;rintro e σ1 ⟨o,aT,rfl,rfl⟩;simp only[go_sem];apply I;refine j.J ?_;have rS:=aT.keep ag;refine j.rg [0,1,5,6] fun K I=> ?_;simp only[go_sem,rS];refine a1 Tryz.call50 (rA decl n _ aw) ?_;simp only[go_sem,d'];refine⟨_,Tryz.call81,(eE false _).mono ?_⟩;rintro e σ1 ⟨rfl,rfl⟩;simp only[go_sem];exact cK.of ar Tryz.func133 ⟨rfl,aT.sle⟩
  |true=>
   have bb:h7 decl files n=some b:=by unfold h7;rw[ax,Option.bind_some,d'];rfl
   rw[bb]at ar;refine j.J (j.rg [0,1] fun K I=> ?_);simp only[go_sem];apply I;refine j.J (j.rg [0,1] fun K I=> ?_);simp only[go_sem,ag];refine⟨_,Tryz.call27,gX.mono ?_⟩;rintro e σ1 ⟨o,aT,rfl,rfl⟩;simp only[go_sem];apply I;refine j.J ?_;have rS:=aT.keep ag;refine j.rg [0,1,5,6] fun K I=> ?_;simp only[go_sem,rS];refine a1 Tryz.call50 (rA decl n _ aw) ?_;simp only[go_sem,d'];refine⟨_,Tryz.call81,(eE true _).mono ?_⟩;rintro e σ1 ⟨rfl,rfl⟩;simp only[go_sem];apply I;refine j.J (j.rg [5] fun K I=> ?_);simp only[go_sem];apply I;refine j.ret ar Tryz.func133 (by simp[go_sem]) ?_;simp only[go_sem];exact⟨o,aT,rfl,rfl⟩
end Go.Ab.S16
