/- A part of a proof about the given program: the abstract machine, what functions compute, laid in few texts. -/
import Derived.Test.YticjnnmnjfpopaaGreatDoorKTd
import Derived.Shelf.SlGeneric
import Derived.Shelf.SlIter.Nil
import Derived.Shelf.SlIterI.Nil
import Derived.Shelf.SortM.Plain
import Derived.Shelf.SortM.SortNone
import Derived.Ground.GgzProg
import Derived.Ground.SlgmProg
import Derived.Test.YticjnnmnjfpopaaGreatDoorProg
import Derived.Lib.SlKeysI
import Derived.Sort.KeysCollected
import Derived.Sort.Row
import Derived.Sort.Grow
namespace Go.Proofs
open Go.Shelf
def Tryz.keysS_ren : Go.Shelf.Ren := ⟨fun | 7 => 96 | 10 => 126 | n => n, fun | 23 => 99 | 26 => 9 | 3 => 3 | 28 => 151 | 0 => 0 | 27 => 150 | 33 => 43 | 4 => 4 | n => n, fun | n => n⟩
theorem Tryz.keysS : Go.Proofs.SlLaysZ.n7 Tryz.prog Tryz.keysS_ren := {
  mixed := by kernel_rfl
  f7 := ⟨Tryz.f96.name, by decide, Tryz.func96.trans (congrArg some (by kernel_rfl))⟩
  f10 := ⟨Tryz.f126.name, by decide, Tryz.func126.trans (congrArg some (by kernel_rfl))⟩
  t0 := Tryz.underlying0
  a0 := Tryz.isAgg0
  z0 := Tryz.sizeOf0
  v0 := Tryz.zeroValue0
  t4 := Tryz.underlying4
  a4 := Tryz.isAgg4
  z4 := Tryz.sizeOf4
  v4 := Tryz.zeroValue4
  t23 := Tryz.underlying99
  a23 := Tryz.isAgg99
  z23 := Tryz.sizeOf99
  v23 := Tryz.zeroValue99
  t26 := Tryz.underlying9
  a26 := Tryz.isAgg9
  z26 := Tryz.sizeOf9
  v26 := Tryz.zeroValue9
  t27 := Tryz.underlying150
  a27 := Tryz.isAgg150
  z27 := Tryz.sizeOf150
  v27 := Tryz.zeroValue150
  t28 := Tryz.underlying151
  a28 := Tryz.isAgg151
  z28 := Tryz.sizeOf151
  v28 := Tryz.zeroValue151
  t33 := Tryz.underlying43
  a33 := Tryz.isAgg43
  z33 := Tryz.sizeOf43
  v33 := Tryz.zeroValue43 }
def Tryz.sortedS_ren : Go.Shelf.Ren := ⟨fun | 6 => 95 | 8 => 125 | 9 => 94 | 11 => 154 | 13 => 124 | 12 => 123 | 23 => 152 | 24 => 153 | 14 => 144 | 15 => 145 | 16 => 146 | 17 => 147 | 18 => 148 | 19 => 149 | 20 => 92 | 21 => 150 | 22 => 151 | 25 => 172 | 26 => 173 | 27 => 174 | 28 => 175 | 29 => 176 | 30 => 122 | 31 => 199 | n => n, fun | 26 => 9 | 28 => 151 | 24 => 23 | 0 => 0 | 3 => 3 | 37 => 146 | 48 => 208 | 50 => 170 | 4 => 4 | 40 => 202 | 39 => 201 | 45 => 75 | 5 => 5 | 9 => 9 | 51 => 223 | 55 => 173 | 57 => 249 | 58 => 250 | 33 => 43 | n => n, fun | n => n⟩
theorem Tryz.sortedS : Go.Proofs.SlLaysZ.n6 Tryz.prog Tryz.sortedS_ren := {
  mixed := by kernel_rfl
  f6 := ⟨Tryz.f95.name, by decide, Tryz.func95.trans (congrArg some (by kernel_rfl))⟩
  f8 := ⟨Tryz.f125.name, by decide, Tryz.func125.trans (congrArg some (by kernel_rfl))⟩
  f11 := ⟨Tryz.f154.name, by decide, Tryz.func154.trans (congrArg some (by kernel_rfl))⟩
  t0 := Tryz.underlying0
  a0 := Tryz.isAgg0
  z0 := Tryz.sizeOf0
  v0 := Tryz.zeroValue0
  t24 := Tryz.underlying23
  a24 := Tryz.isAgg23
  z24 := Tryz.sizeOf23
  v24 := Tryz.zeroValue23
  t26 := Tryz.underlying9
  a26 := Tryz.isAgg9
  z26 := Tryz.sizeOf9
  v26 := Tryz.zeroValue9
  t28 := Tryz.underlying151
  a28 := Tryz.isAgg151
  z28 := Tryz.sizeOf151
  v28 := Tryz.zeroValue151
  i26 := by kernel_rfl }
def Tryz.sortS_ren : Go.Shelf.Ren := ⟨fun | 6 => 94 | 8 => 124 | 9 => 123 | 19 => 152 | 20 => 153 | 21 => 144 | 22 => 145 | 23 => 146 | 24 => 147 | 25 => 148 | 26 => 149 | 27 => 92 | 28 => 150 | 29 => 151 | 36 => 172 | 31 => 173 | 32 => 174 | 37 => 175 | 38 => 176 | 39 => 122 | 41 => 199 | n => n, fun | 27 => 23 | 29 => 9 | 3 => 3 | 32 => 146 | 26 => 23 | 0 => 0 | 44 => 208 | 46 => 170 | 4 => 4 | 36 => 202 | 35 => 201 | 41 => 75 | 5 => 5 | 9 => 9 | 53 => 223 | 57 => 173 | 63 => 249 | 64 => 250 | n => n, fun | n => n⟩
theorem Tryz.sortS : Go.Proofs.SlLaysM.n6 Tryz.prog Tryz.sortS_ren := {
  mixed := by kernel_rfl
  f6 := ⟨Tryz.f94.name, by decide, Tryz.func94.trans (congrArg some (by kernel_rfl))⟩
  f8 := Tryz.func124.trans (congrArg some (by kernel_rfl))
  f9 := ⟨Tryz.f123.name, by decide, Tryz.func123.trans (congrArg some (by kernel_rfl))⟩
  f19 := Tryz.func152.trans (congrArg some (by kernel_rfl))
  f20 := Tryz.func153.trans (congrArg some (by kernel_rfl))
  f21 := ⟨Tryz.f144.name, by decide, Tryz.func144.trans (congrArg some (by kernel_rfl))⟩
  f22 := ⟨Tryz.f145.name, by decide, Tryz.func145.trans (congrArg some (by kernel_rfl))⟩
  f23 := ⟨Tryz.f146.name, by decide, Tryz.func146.trans (congrArg some (by kernel_rfl))⟩
  f24 := ⟨Tryz.f147.name, by decide, Tryz.func147.trans (congrArg some (by kernel_rfl))⟩
  f25 := ⟨Tryz.f148.name, by decide, Tryz.func148.trans (congrArg some (by kernel_rfl))⟩
  f26 := ⟨Tryz.f149.name, by decide, Tryz.func149.trans (congrArg some (by kernel_rfl))⟩
  f27 := ⟨Tryz.f92.name, by decide, Tryz.func92.trans (congrArg some (by kernel_rfl))⟩
  f28 := ⟨Tryz.f150.name, by decide, Tryz.func150.trans (congrArg some (by kernel_rfl))⟩
  f29 := ⟨Tryz.f151.name, by decide, Tryz.func151.trans (congrArg some (by kernel_rfl))⟩
  f31 := Tryz.func173.trans (congrArg some (by kernel_rfl))
  f32 := Tryz.func174.trans (congrArg some (by kernel_rfl))
  f36 := ⟨Tryz.f172.name, by decide, Tryz.func172.trans (congrArg some (by kernel_rfl))⟩
  f37 := ⟨Tryz.f175.name, by decide, Tryz.func175.trans (congrArg some (by kernel_rfl))⟩
  f38 := ⟨Tryz.f176.name, by decide, Tryz.func176.trans (congrArg some (by kernel_rfl))⟩
  f39 := ⟨Tryz.f122.name, by decide, Tryz.func122.trans (congrArg some (by kernel_rfl))⟩
  f41 := ⟨Tryz.f199.name, by decide, Tryz.func199.trans (congrArg some (by kernel_rfl))⟩
  t0 := Tryz.underlying0
  a0 := Tryz.isAgg0
  z0 := Tryz.sizeOf0
  v0 := Tryz.zeroValue0
  t3 := Tryz.underlying3
  a3 := Tryz.isAgg3
  z3 := Tryz.sizeOf3
  v3 := Tryz.zeroValue3
  t4 := Tryz.underlying4
  a4 := Tryz.isAgg4
  z4 := Tryz.sizeOf4
  v4 := Tryz.zeroValue4
  t5 := Tryz.underlying5
  a5 := Tryz.isAgg5
  z5 := Tryz.sizeOf5
  v5 := Tryz.zeroValue5
  t9 := Tryz.underlying9
  a9 := Tryz.isAgg9
  z9 := Tryz.sizeOf9
  v9 := Tryz.zeroValue9
  t26 := Tryz.underlying23
  a26 := Tryz.isAgg23
  z26 := Tryz.sizeOf23
  v26 := Tryz.zeroValue23
  t27 := Tryz.underlying23
  a27 := Tryz.isAgg23
  z27 := Tryz.sizeOf23
  v27 := Tryz.zeroValue23
  t29 := Tryz.underlying9
  a29 := Tryz.isAgg9
  z29 := Tryz.sizeOf9
  v29 := Tryz.zeroValue9
  t32 := Tryz.underlying146
  a32 := Tryz.isAgg146
  z32 := Tryz.sizeOf146
  v32 := Tryz.zeroValue146
  t35 := Tryz.underlying201
  a35 := Tryz.isAgg201
  z35 := Tryz.sizeOf201
  v35 := Tryz.zeroValue201
  t36 := Tryz.underlying202
  a36 := Tryz.isAgg202
  z36 := Tryz.sizeOf202
  v36 := Tryz.zeroValue202
  t41 := Tryz.underlying75
  a41 := Tryz.isAgg75
  z41 := Tryz.sizeOf75
  v41 := Tryz.zeroValue75
  t44 := Tryz.underlying208
  a44 := Tryz.isAgg208
  z44 := Tryz.sizeOf208
  v44 := Tryz.zeroValue208
  t46 := Tryz.underlying170
  a46 := Tryz.isAgg170
  z46 := Tryz.sizeOf170
  v46 := Tryz.zeroValue170
  t53 := Tryz.underlying223
  a53 := Tryz.isAgg223
  z53 := Tryz.sizeOf223
  v53 := Tryz.zeroValue223
  t57 := Tryz.underlying173
  a57 := Tryz.isAgg173
  z57 := Tryz.sizeOf173
  v57 := Tryz.zeroValue173
  t63 := Tryz.underlying249
  a63 := Tryz.isAgg249
  z63 := Tryz.sizeOf249
  v63 := Tryz.zeroValue249
  t64 := Tryz.underlying250
  a64 := Tryz.isAgg250
  z64 := Tryz.sizeOf250
  v64 := Tryz.zeroValue250 }
def Tryz.keysI_ren : Go.Shelf.Ren := ⟨fun | 7 => 101 | 10 => 129 | n => n, fun | 23 => 145 | 26 => 3 | 3 => 4 | 28 => 157 | 0 => 0 | 27 => 156 | 33 => 177 | 4 => 4 | n => n, fun | n => n⟩
theorem Tryz.keysI : Go.Proofs.SlLaysZI.n7 Tryz.prog Tryz.keysI_ren := {
  mixed := by kernel_rfl
  f7 := ⟨Tryz.f101.name, by decide, Tryz.func101.trans (congrArg some (by kernel_rfl))⟩
  f10 := ⟨Tryz.f129.name, by decide, Tryz.func129.trans (congrArg some (by kernel_rfl))⟩
  t0 := Tryz.underlying0
  a0 := Tryz.isAgg0
  z0 := Tryz.sizeOf0
  v0 := Tryz.zeroValue0
  t4 := Tryz.underlying4
  a4 := Tryz.isAgg4
  z4 := Tryz.sizeOf4
  v4 := Tryz.zeroValue4
  t23 := Tryz.underlying145
  a23 := Tryz.isAgg145
  z23 := Tryz.sizeOf145
  v23 := Tryz.zeroValue145
  t26 := Tryz.underlying3
  a26 := Tryz.isAgg3
  z26 := Tryz.sizeOf3
  v26 := Tryz.zeroValue3
  t27 := Tryz.underlying156
  a27 := Tryz.isAgg156
  z27 := Tryz.sizeOf156
  v27 := Tryz.zeroValue156
  t28 := Tryz.underlying157
  a28 := Tryz.isAgg157
  z28 := Tryz.sizeOf157
  v28 := Tryz.zeroValue157
  t33 := Tryz.underlying177
  a33 := Tryz.isAgg177
  z33 := Tryz.sizeOf177
  v33 := Tryz.zeroValue177 }
def Tryz.sortedI_ren : Go.Shelf.Ren := ⟨fun | 6 => 100 | 8 => 127 | 9 => 128 | 11 => 155 | 13 => 124 | 12 => 156 | 23 => 152 | 24 => 153 | 14 => 177 | 15 => 178 | 16 => 179 | 17 => 180 | 18 => 181 | 19 => 182 | 20 => 183 | 21 => 184 | 22 => 185 | 25 => 200 | 26 => 173 | 27 => 174 | 28 => 201 | 29 => 202 | 30 => 203 | 31 => 212 | n => n, fun | 26 => 3 | 28 => 157 | 24 => 72 | 0 => 0 | 3 => 3 | 37 => 146 | 48 => 208 | 50 => 170 | 4 => 4 | 40 => 202 | 39 => 201 | 45 => 75 | 5 => 5 | 9 => 9 | 51 => 223 | 55 => 173 | 57 => 249 | 58 => 250 | 33 => 177 | n => n, fun | n => n⟩
theorem Tryz.sortedI : Go.Proofs.SlLaysZI.n6 Tryz.prog Tryz.sortedI_ren := {
  mixed := by kernel_rfl
  f6 := ⟨Tryz.f100.name, by decide, Tryz.func100.trans (congrArg some (by kernel_rfl))⟩
  f8 := ⟨Tryz.f127.name, by decide, Tryz.func127.trans (congrArg some (by kernel_rfl))⟩
  f11 := ⟨Tryz.f155.name, by decide, Tryz.func155.trans (congrArg some (by kernel_rfl))⟩
  t0 := Tryz.underlying0
  a0 := Tryz.isAgg0
  z0 := Tryz.sizeOf0
  v0 := Tryz.zeroValue0
  t24 := Tryz.underlying72
  a24 := Tryz.isAgg72
  z24 := Tryz.sizeOf72
  v24 := Tryz.zeroValue72
  t26 := Tryz.underlying3
  a26 := Tryz.isAgg3
  z26 := Tryz.sizeOf3
  v26 := Tryz.zeroValue3
  t28 := Tryz.underlying157
  a28 := Tryz.isAgg157
  z28 := Tryz.sizeOf157
  v28 := Tryz.zeroValue157
  i26 := by kernel_rfl }
def Tryz.sortI_ren : Go.Shelf.Ren := ⟨fun | 5 => 128 | 8 => 124 | 7 => 156 | 19 => 152 | 20 => 153 | 10 => 177 | 11 => 178 | 12 => 179 | 13 => 180 | 14 => 181 | 15 => 182 | 16 => 183 | 17 => 184 | 18 => 185 | 30 => 200 | 31 => 173 | 32 => 174 | 33 => 201 | 34 => 202 | 35 => 203 | 40 => 212 | n => n, fun | 23 => 72 | 25 => 3 | 3 => 3 | 32 => 146 | 22 => 72 | 0 => 0 | 44 => 208 | 46 => 170 | 4 => 4 | 36 => 202 | 35 => 201 | 41 => 75 | 5 => 5 | 9 => 9 | 53 => 223 | 57 => 173 | 63 => 249 | 64 => 250 | n => n, fun | n => n⟩
theorem Tryz.sortI : Go.Proofs.SlLaysM.n5 Tryz.prog Tryz.sortI_ren := {
  mixed := by kernel_rfl
  f5 := ⟨Tryz.f128.name, by decide, Tryz.func128.trans (congrArg some (by kernel_rfl))⟩
  f7 := ⟨Tryz.f156.name, by decide, Tryz.func156.trans (congrArg some (by kernel_rfl))⟩
  f8 := Tryz.func124.trans (congrArg some (by kernel_rfl))
  f10 := ⟨Tryz.f177.name, by decide, Tryz.func177.trans (congrArg some (by kernel_rfl))⟩
  f11 := ⟨Tryz.f178.name, by decide, Tryz.func178.trans (congrArg some (by kernel_rfl))⟩
  f12 := ⟨Tryz.f179.name, by decide, Tryz.func179.trans (congrArg some (by kernel_rfl))⟩
  f13 := ⟨Tryz.f180.name, by decide, Tryz.func180.trans (congrArg some (by kernel_rfl))⟩
  f14 := ⟨Tryz.f181.name, by decide, Tryz.func181.trans (congrArg some (by kernel_rfl))⟩
  f15 := ⟨Tryz.f182.name, by decide, Tryz.func182.trans (congrArg some (by kernel_rfl))⟩
  f16 := ⟨Tryz.f183.name, by decide, Tryz.func183.trans (congrArg some (by kernel_rfl))⟩
  f17 := ⟨Tryz.f184.name, by decide, Tryz.func184.trans (congrArg some (by kernel_rfl))⟩
  f18 := ⟨Tryz.f185.name, by decide, Tryz.func185.trans (congrArg some (by kernel_rfl))⟩
  f19 := Tryz.func152.trans (congrArg some (by kernel_rfl))
  f20 := Tryz.func153.trans (congrArg some (by kernel_rfl))
  f30 := ⟨Tryz.f200.name, by decide, Tryz.func200.trans (congrArg some (by kernel_rfl))⟩
  f31 := Tryz.func173.trans (congrArg some (by kernel_rfl))
  f32 := Tryz.func174.trans (congrArg some (by kernel_rfl))
  f33 := ⟨Tryz.f201.name, by decide, Tryz.func201.trans (congrArg some (by kernel_rfl))⟩
  f34 := ⟨Tryz.f202.name, by decide, Tryz.func202.trans (congrArg some (by kernel_rfl))⟩
  f35 := ⟨Tryz.f203.name, by decide, Tryz.func203.trans (congrArg some (by kernel_rfl))⟩
  f40 := ⟨Tryz.f212.name, by decide, Tryz.func212.trans (congrArg some (by kernel_rfl))⟩
  t0 := Tryz.underlying0
  a0 := Tryz.isAgg0
  z0 := Tryz.sizeOf0
  v0 := Tryz.zeroValue0
  t3 := Tryz.underlying3
  a3 := Tryz.isAgg3
  z3 := Tryz.sizeOf3
  v3 := Tryz.zeroValue3
  t4 := Tryz.underlying4
  a4 := Tryz.isAgg4
  z4 := Tryz.sizeOf4
  v4 := Tryz.zeroValue4
  t5 := Tryz.underlying5
  a5 := Tryz.isAgg5
  z5 := Tryz.sizeOf5
  v5 := Tryz.zeroValue5
  t9 := Tryz.underlying9
  a9 := Tryz.isAgg9
  z9 := Tryz.sizeOf9
  v9 := Tryz.zeroValue9
  t22 := Tryz.underlying72
  a22 := Tryz.isAgg72
  z22 := Tryz.sizeOf72
  v22 := Tryz.zeroValue72
  t23 := Tryz.underlying72
  a23 := Tryz.isAgg72
  z23 := Tryz.sizeOf72
  v23 := Tryz.zeroValue72
  t25 := Tryz.underlying3
  a25 := Tryz.isAgg3
  z25 := Tryz.sizeOf3
  v25 := Tryz.zeroValue3
  t32 := Tryz.underlying146
  a32 := Tryz.isAgg146
  z32 := Tryz.sizeOf146
  v32 := Tryz.zeroValue146
  t35 := Tryz.underlying201
  a35 := Tryz.isAgg201
  z35 := Tryz.sizeOf201
  v35 := Tryz.zeroValue201
  t36 := Tryz.underlying202
  a36 := Tryz.isAgg202
  z36 := Tryz.sizeOf202
  v36 := Tryz.zeroValue202
  t41 := Tryz.underlying75
  a41 := Tryz.isAgg75
  z41 := Tryz.sizeOf75
  v41 := Tryz.zeroValue75
  t44 := Tryz.underlying208
  a44 := Tryz.isAgg208
  z44 := Tryz.sizeOf208
  v44 := Tryz.zeroValue208
  t46 := Tryz.underlying170
  a46 := Tryz.isAgg170
  z46 := Tryz.sizeOf170
  v46 := Tryz.zeroValue170
  t53 := Tryz.underlying223
  a53 := Tryz.isAgg223
  z53 := Tryz.sizeOf223
  v53 := Tryz.zeroValue223
  t57 := Tryz.underlying173
  a57 := Tryz.isAgg173
  z57 := Tryz.sizeOf173
  v57 := Tryz.zeroValue173
  t63 := Tryz.underlying249
  a63 := Tryz.isAgg249
  z63 := Tryz.sizeOf249
  v63 := Tryz.zeroValue249
  t64 := Tryz.underlying250
  a64 := Tryz.isAgg250
  z64 := Tryz.sizeOf250
  v64 := Tryz.zeroValue250 }
end Go.Proofs
set_option linter.unusedSimpArgs false
set_option linter.unusedVariables false
set_option linter.constructorNameAsVariable false
namespace Go.Ab.S16
open Go Go.Proofs Go.RowKit Go.Maps Go.Sort Go.Shelf Go.MapKept
open Go.WideElems (Fit rd rg rd_mk rg_of)
def RT : Value → Option (DataW Unit × List MemPlace) := fun _ => some (.lit (.bool true), [])
theorem ownsSet {P : Program} {k : TypeId} {w : World} {S : Nat → Prop} {db : Nat} {es : List (Value × D)} (g : Value → Lit) (hk : ∀ e ∈ es, keyOf P k e.1 = some (g e.1)) (hnd : (es.map (·.1)).Nodup) (hl : es.length ≤ maxLen) (h : RepObj w S db (.mp es)) :
    ∃ L : List (Lit × DataW Unit), w.ownsMap P k RT db es.length (.map L) ∧ (L.map (·.1)).Perm (es.map fun e => g e.1) := by
  obtain ⟨entries, clock, hh, hr, hkeys, hborn, hbnd⟩ := h
  have hlen : entries.size = es.length := by
    have := congrArg List.length hkeys
    simpa using this.symm
  have hkk : ∀ x ∈ entries.toList, keyOf P k x.key = some (g x.key) := fun x hx => by
    have : x.key ∈ es.map (·.1) := by rw [hkeys]; exact List.mem_map_of_mem hx
    obtain ⟨e, he, h1⟩ := List.mem_map.1 this
    rw [← h1]; exact hk e he
  have hrd : ∀ x ∈ entries.toList , WideElems.rd P k RT x = some (g x.key, .lit (.bool true)) := fun x hx => by
    unfold WideElems.rd
    rw [hkk x hx]
    rfl
  refine ⟨(entries.toList.map (rg P k RT)).foldr DataW.insert [], ⟨entries, clock, hh, ⟨by omega, ⟨hborn, hbnd, by rw [← hkeys]; exact hnd⟩, fun x hx => ⟨_, hrd x hx⟩⟩, by omega, rfl⟩, ?_⟩
  refine ((WideShapes.sorted_perm _).map _).trans ?_
  have e1 : (entries.toList.map (rg P k RT)).map (·.1) = es.map fun e => g e.1 := by
    have e2 : (entries.toList.map (·.key)).map g = (es.map (·.1)).map g := by rw [hkeys]
    rw [List.map_map] at e2 ⊢
    rw [List.map_map] at e2
    rw [show (es.map fun e => g e.1) = es.map (g ∘ fun e => e.1) from rfl, ← e2]
    refine List.map_congr_left fun x hx => ?_
    show (rg P k RT x).1 = g x.key
    rw [rg_of (hrd x hx)]
  rw [e1]
def litOf : Value → Lit
  | .int _ a => .int .i64 a
  | .string s => .string s.data.toList
  | _ => .bool false
theorem sortsI (m : Nat) : AnyZI.SortsIn Tryz.prog Tryz.sortedI_ren Fence.wide m :=
  ⟨fun blk off cap ss W hH hblk hsz => callsIn_wide.2 (AnyM.slices_Sort_int Tryz.sortI blk off cap ss W hH hblk hsz),
   fun p cap W => callsIn_wide.2 (AnyM.slices_Sort_int_none Tryz.sortI p cap W)⟩
theorem done_keys (met : List Nat) : (mkDone met).map (·.1) = met.map vI := by unfold mkDone; rw [List.map_map]; rfl
theorem vI_nodup {met : List Nat} (h : met.Nodup) : (met.map vI).Nodup := by
  refine List.pairwise_map.2 (h.imp fun {a b} hab e => hab ?_)
  simp only [vI, Value.int.injEq, true_and] at e
  omega
def sortN (met : List Nat) : List Int := (met.map fun n : Nat => (n : Int)).mergeSort leI
theorem sortedI_own (bk db : Nat) (met : List Nat) (σ : Store) (hk : sget bk σ = some (.arr 1 [.map db])) (hd : sget db σ = some (.mp (mkDone met))) (hnd : met.Nodup) (hl : met.length < 2 ^ 30) (hB : ∀ n ∈ met, n < 2 ^ 30) :
    AC Tryz.prog 100 [.clo (.func 129) [] [.ptr bk 1 0 0]] σ
      (fun e σ' => ∃ o xs, (xs = (sortN met).map encZ) ∧ GrD o 1 (xs.map .v) σ ∧ e = .ret (.own o 1 (xs.map D.v).length) ∧ σ' = cellsOf o 1 (xs.map .v) ++ σ) := by
  refine AC.of_row (e0 := 3) fun w S vs hS hst hr => ?_
  obtain ⟨v1, vs1, rfl, h1, h2⟩ := hr.cons_inv
  obtain rfl := h2.nil_inv
  cases h1 with
  | clo hf hc =>
  obtain rfl := hf.nil_inv
  obtain ⟨v1, vs1, rfl, h1, h2⟩ := hc.cons_inv
  obtain rfl := h2.nil_inv
  cases h1 with
  | ptr =>
  obtain ⟨hkS, hk2⟩ := hst bk _ hk
  obtain ⟨cK, eK, lo, hi, vals, hhk, hrk, hck, _, _⟩ := hk2
  obtain ⟨y, ys, rfl, hy, hys⟩ := RepL.cons_inv (d := .map db) (ds := []) hrk
  cases hy with
  | map =>
  obtain rfl := hys.nil_inv
  have hbk : bk < w.heap.size := (Array.getElem?_eq_some_iff.1 hhk).1
  have hcell : w.cell? ⟨bk, 0, none⟩ = some (.map (some db)) := by
    have := hck 0 _ rfl
    simp [World.cell?, hhk, this]
  obtain ⟨hdS, hd2⟩ := hst db _ hd
  obtain ⟨L, hown, hperm⟩ := ownsSet (P := Tryz.prog) (k := 3) (w := w) litOf (fun e he => by
    obtain ⟨n, hn, rfl⟩ := List.mem_map.1 he
    have := hB n hn
    exact keyOf_int_mk (q := .i64) Tryz.underlying3 (by simp only [Lit.wf, Bool.and_eq_true, decide_eq_true_eq]; exact ⟨Int.le_trans (show IntKind.min .i64 ≤ 0 by decide) (by omega), Int.le_trans (b := 2 ^ 30) (by omega) (by decide)⟩)) (by rw [done_keys]; exact vI_nodup hnd) (by simp [mkDone, maxLen]; omega) hd2
  have hsz : Maps.size (DataW.map L) = met.length := by
    have := hperm.length_eq
    rw [List.length_map, List.length_map] at this
    show L.length = _
    rw [this]; simp [mkDone]
  have hik : (intKeys (DataW.map L)).Perm (met.map fun n : Nat => (n : Int)) := by
    have h1 := hperm.map intOf
    rw [List.map_map] at h1
    refine h1.trans ?_
    unfold mkDone
    rw [List.map_map, List.map_map]
    exact List.Perm.refl _
  have hseq : SeqGives Fence.wide 2 Tryz.prog 129 #[.pointer (some ⟨bk, 0, none⟩)] encZ (fun ss => ss.Perm (intKeys (DataW.map L))) (Maps.size (DataW.map L)) w :=
    AnyZI.keys_gives (ρ := Tryz.keysI_ren) { Tryz.keysI with } Fence.wide _ trivial rfl (by omega) bk db _ (DataW.map L) w hbk hcell hown
  have cS := AnyZI.sorted_in Tryz.sortedI Fence.wide 5 trivial trivial trivial trivial rfl (by omega) (sortsI _) (enters_of Tryz.func128 (by kernel_rfl) rfl) 129 #[.pointer (some ⟨bk, 0, none⟩)] trivial (enters_of Tryz.func129 (by kernel_rfl) rfl) _ _ (by rw [hsz]; unfold maxLen; omega) (by rw [hsz]; omega) _ hseq
  change CallsIn _ _ Tryz.prog 100 _ _ _ at cS
  rw [show (0 : Nat) * 1 + 0 = 0 from rfl]
  refine (callsIn_wide.1 cS).mono ?_
  rintro e w' ⟨v, ss, rfl, hS', hrow, hnil, hb⟩
  have hss : ss.mergeSort leI = sortN met := mergeSort_of_perm_i (hS'.trans hik)
  refine ⟨v, _, rfl, ?_, ?_, rfl, hb⟩
  · have e1 : ((sortN met).map encZ).length = ss.length := by rw [← hss]; simp
    rw [e1, ← hss]
    exact hrow
  · simp [List.all_map]
    intro x _; rfl
end Go.Ab.S16
namespace Go.Ab.S16
def insL {α : Type} (le : α → α → Bool) (x : α) : List α → List α
  | [] => [x]
  | y :: ys => if le x y = true then x :: y :: ys else y :: insL le x ys
def isort {α : Type} (le : α → α → Bool) : List α → List α
  | [] => []
  | x :: xs => insL le x (isort le xs)
section
variable {α : Type} {le : α → α → Bool}
theorem insL_perm (x : α) : ∀ l : List α, (insL le x l).Perm (x :: l)
  | [] => .refl _
  | y :: ys => by
    unfold insL
    split
    · exact .refl _
    · exact ((insL_perm x ys).cons y).trans (.swap x y ys)
theorem isort_perm : ∀ l : List α, (isort le l).Perm l
  | [] => .refl _
  | x :: xs => (insL_perm x _).trans ((isort_perm xs).cons x)
theorem insL_sorted (tr : ∀ a b c, le a b = true → le b c = true → le a c = true) (tot : ∀ a b, (le a b || le b a) = true) (x : α) : ∀ l : List α, l.Pairwise (fun a b => le a b = true) → (insL le x l).Pairwise (fun a b => le a b = true)
  | [], _ => by simp [insL]
  | y :: ys, h => by
    obtain ⟨h1, h2⟩ := List.pairwise_cons.1 h
    unfold insL
    split
    · rename_i hxy
      refine List.pairwise_cons.2 ⟨fun z hz => ?_, h⟩
      rcases List.mem_cons.1 hz with rfl | hz
      · exact hxy
      · exact tr x y z hxy (h1 z hz)
    · rename_i hxy
      refine List.pairwise_cons.2 ⟨fun z hz => ?_, insL_sorted tr tot x ys h2⟩
      rcases List.mem_cons.1 ((insL_perm x ys).mem_iff.1 hz) with rfl | hz
      · have := tot z y
        rw [Bool.or_eq_true] at this
        rcases this with h | h
        · exact absurd h hxy
        · exact h
      · exact h1 z hz
theorem isort_sorted (tr : ∀ a b c, le a b = true → le b c = true → le a c = true) (tot : ∀ a b, (le a b || le b a) = true) : ∀ l : List α, (isort le l).Pairwise (fun a b => le a b = true)
  | [] => .nil
  | x :: xs => insL_sorted tr tot x _ (isort_sorted tr tot xs)
theorem isort_eq (tr : ∀ a b c, le a b = true → le b c = true → le a c = true) (tot : ∀ a b, (le a b || le b a) = true) (anti : ∀ a b, le a b = true → le b a = true → a = b) (l : List α) : l.mergeSort le = isort le l :=
  List.Perm.eq_of_pairwise (le := fun a b => le a b = true) (fun a b _ _ h1 h2 => anti a b h1 h2) (List.pairwise_mergeSort tr tot l) (isort_sorted tr tot l) ((List.mergeSort_perm l le).trans (isort_perm l).symm)
end
theorem isortN_eq (l : List Nat) : (l.mergeSort fun x y => decide (x ≤ y)) = isort (fun x y => decide (x ≤ y)) l :=
  isort_eq (fun a b c h1 h2 => by simp at *; omega) (fun a b => by simp; omega) (fun a b h1 h2 => by simp at *; omega) l
end Go.Ab.S16
namespace Go.Ab.S16
open Go Go.Proofs
theorem keysI_calls (db : Nat) (σ : Store) :
    AC Tryz.prog 101 [.map db] σ (fun e σ' => ∃ bk, sget bk σ = none ∧ e = .ret (.clo (.func 129) [] [.ptr bk 1 0 0]) ∧ σ' = (bk, .arr 1 [.map db]) :: σ) := by
  refine AC.of_body Tryz.func101 rfl Tryz.ntmps101 (by simp) fun C hC => ?_
  refine Gs.sq (Gs.rg [0] fun K hK => ?_); simp (maxSteps:=9^7) only [go_sem]
  intro bk hbk
  refine hK _ _ ?_; clear hK K
  refine Gs.sq (Gs.rg [1] fun K hK => ?_); simp (maxSteps:=9^7) only [go_sem]
  refine hK _ _ ?_; clear hK K
  refine Gs.ret hC Tryz.func101 (by simp [go_sem]) ?_
  simp only [go_sem]
  exact ⟨bk, hbk, rfl, rfl⟩
def bfsF (ah : List (List Nat)) : Nat → Nat → List Nat → List Nat
  | 0, _, met => met
  | fuel + 1, k, met => if h : k < met.length then bfsF ah fuel (k + 1) (visitL met (ah.getD met[k] [])) else met
def reachedL (ah : List (List Nat)) (frm : List Nat) : List Nat := bfsF ah (ah.length + 1) 0 (visitL [] frm)
theorem mkchan (n : Int) : aMakeChan Tryz.prog 153 (.v (.int .i64 n)) = .new (0 ≤ n ∧ n < 2 ^ 40 ∧ ((8 : Nat) : Int) * n ≤ 2 ^ 46) (.ch n.toNat []) (fun b => .v (.chan (some b))) := by
  have h : rbytes Tryz.prog 3 = some 8 := by kernel_rfl
  have hu : Tryz.prog.underlying 153 = some (.chan .both 3) := Tryz.underlying153
  simp only [aMakeChan, hu, h]
theorem sget_none {b c : Nat} {o : AObj} {r : Store} (h : sget b ((c, o) :: r) = none) : b ≠ c ∧ sget b r = none := by
  rw [sget_cons] at h
  split at h
  · cases h
  · rename_i hn; exact ⟨hn, h⟩
structure RdF (bq cb bm db : Nat) (σ : Store) : Prop extends RdN bq cb bm db where
  fq : sget bq σ = none
  fc : sget cb σ = none
  fm : sget bm σ = none
  fd : sget db σ = none
theorem RdF.of {bq cb bm db : Nat} {σ : Store} {o1 o2 o3 o4 o5 o6 : AObj} (h1 : sget db σ = none) (h2 : sget bm ((db, o1) :: σ) = none) (h3 : sget cb ((bm, o2) :: (db, o3) :: σ) = none) (h4 : sget bq ((cb, o4) :: (bm, o5) :: (db, o6) :: σ) = none) : RdF bq cb bm db σ := by
  obtain ⟨a1, a2⟩ := sget_none h2
  obtain ⟨b1, b2⟩ := sget_none h3
  obtain ⟨b3, b4⟩ := sget_none b2
  obtain ⟨c1, c2⟩ := sget_none h4
  obtain ⟨c3, c4⟩ := sget_none c2
  obtain ⟨c5, c6⟩ := sget_none c4
  exact { qc := c1, qm := c3, qd := c5, cm := b1, cd := b3, md := a1, fq := c6, fc := b4, fm := a2, fd := h1 }
theorem RdF.drop {bq cb bm db cap : Nat} {met q : List Nat} {σ : Store} (h : RdF bq cb bm db σ) {o : Option Nat} {xs : List D} (hg : GrD o 1 xs (rdS bq cb bm db cap met q σ)) :
    GrD o 1 xs σ ∧ SLe (cellsOf o 1 xs ++ σ) (cellsOf o 1 xs ++ rdS bq cb bm db cap met q σ) := by
  unfold rdS at *
  obtain ⟨g1, l1⟩ := hg.drop (by simp [sget, h.qc, h.qm, h.qd, h.fq])
  obtain ⟨g2, l2⟩ := g1.drop (by simp [sget, h.cm, h.cd, h.fc])
  obtain ⟨g3, l3⟩ := g2.drop (by simp [sget, h.md, h.fm])
  obtain ⟨g4, l4⟩ := g3.drop h.fd
  exact ⟨g4, fun b o hb => l1 b o (l2 b o (l3 b o (l4 b o hb)))⟩
theorem reached_own (x1 x2 : D) (eds : List D) (ah : List (List Nat)) (frm : List Nat) (σ : Store) (hel : eds.length = ah.length) (hl : ah.length < 2 ^ 30) (hf : ∀ n ∈ frm, n < ah.length) (hfl : frm.length < 2 ^ 30) (hah : ∀ l ∈ ah, l.length < 2 ^ 30 ∧ ∀ n ∈ l, n < ah.length) :
    AC Tryz.prog 73 [.elt [.slc eds, x1, x2, .slc (ah.map fun l => .slc (l.map nD))], .slc (frm.map nD)] σ
      (fun e σ' => ∃ o xs, xs = (sortN (reachedL ah frm)).map iD ∧ GrD o 1 xs σ ∧ e = .ret (.own o 1 xs.length) ∧ σ' = cellsOf o 1 xs ++ σ) := by
  have hal : (ah.map fun l => D.slc (l.map nD)).length = ah.length := List.length_map ..
  have hwr := wrap_succ eds.length (by omega)
  refine AC.of_body Tryz.func73 rfl Tryz.ntmps73 (by simp) fun C hC => ?_
  refine Gs.sq (Gs.rg [0, 1] fun K hK => ?_); simp (maxSteps:=9^7) only [go_sem]
  refine hK _ _ ?_; clear hK K
  refine Gs.sq (Gs.rg [0, 1] fun K hK => ?_); simp (maxSteps:=9^7) only [go_sem]
  intro db hdb bm hbm
  refine hK _ _ ?_; clear hK K
  refine Gs.sq (Gs.rg [0, 1, 5] fun K hK => ?_); simp (maxSteps:=9^7) only [go_sem, hwr, mkchan]
  refine ⟨by omega, fun cb hcb bq hbq => ?_⟩
  have hN := RdF.of hdb hbm hcb hbq
  refine hK _ _ ?_; clear hK K
  change Gs C _ _ (rdS bq cb bm db (eds.length + 1) [] (([] : List Nat).drop 0) σ)
  refine Gs.sq (Gs.rg [0, 1, 5, 6] fun K hK => ?_); simp (maxSteps:=9^7) only [go_sem]
  refine hK _ _ ?_; clear hK K
  refine Gs.sq (Gs.rg [0, 1, 5, 6, 7] fun K hK => ?_); simp (maxSteps:=9^7) only [go_sem]
  refine ⟨_, Tryz.call99, (reached1_calls hN.toRdN frm [] 0 ah.length hfl (by omega) hf (by simp) List.nodup_nil (Nat.zero_le _)).mono ?_⟩
  rintro e σ1 ⟨rfl, rfl⟩
  simp only [go_sem]
  refine hK _ _ ?_; clear hK K
  refine Gs.bk ?_
  refine Gs.rebase [0, 5, 6, 7] ?_
  simp only [go_sem]
  refine Gs.while (fun (k : Nat) env' σ'' => ∃ met : List Nat, (k ≤ met.length ∧ met.Nodup ∧ (∀ n ∈ met, n < ah.length) ∧ bfsF ah (ah.length + 1 - k) k met = reachedL ah frm) ∧ env' = [(0, .elt [.slc eds, x1, x2, .slc (ah.map fun l => .slc (l.map nD))]), (5, .ptr bm 1 0 0), (6, .ptr bq 1 0 0), (7, .clo (.func 99) [] [.ptr bm 1 0 0, .ptr bq 1 0 0])] ∧ σ'' = rdS bq cb bm db (eds.length + 1) met (met.drop k) σ) (fun (k : Nat) => ah.length + 1 - k) 0 ⟨visitL [] frm, ⟨Nat.zero_le _, visitL_nodup _ _ List.nodup_nil, fun n hn => (by rcases (visitL_mem frm [] n).1 hn with h | h; (· cases h); exact hf n h), rfl⟩, rfl, rfl⟩ ?_
  rintro k env' σ'' ⟨met, ⟨hk, hnd, hm, hfin⟩, rfl, rfl⟩ ih
  have ih1 := ih
  have hml := nodup_sub_len hnd (m := List.range ah.length) (fun x hx => List.mem_range.2 (hm x hx))
  rw [List.length_range] at hml
  refine Gs.bk ?_
  refine Gs.sq (Gs.rg [0, 5, 6, 7] fun K hK => ?_); simp (maxSteps:=9^7) only [go_sem, rd_q]
  refine hK _ _ ?_; clear hK K
  refine Gs.sq ?_
  rcases hq : met.drop k with _ | ⟨x, q⟩
  · refine Gs.regionOpen [0, 5, 6, 7, 22] ?_
    refine Gs.opSelectNone hC.kind hC.round (at0 _ _) rfl (z := .int .i64 0) (by kernel_rfl) rfl rfl dstB_lit rfl (rd_c hN.toRdN) ?_
    simp only [go_sem]
    refine Gs.op (at1 _ _ _) rfl nofun dstB_lit ?_
    simp only [go_sem]
    refine Gs.op (at2 _ _ _ _) rfl nofun dstB_lit ?_
    simp only [go_sem]
    refine Gs.regionEnd ?_
    have hkl : k = met.length := by
      have := congrArg List.length hq
      simp at this; omega
    have hend : reachedL ah frm = met := by
      rw [← hfin, show ah.length + 1 - k = (ah.length - k) + 1 by omega, bfsF, dif_neg (by omega)]
    refine Gs.bk ?_
    refine Gs.condF rfl ?_
    refine Gs.sq (Gs.rg [5] fun K hK => ?_); simp (maxSteps:=9^7) only [go_sem, rd_m hN.toRdN]
    refine ⟨_, Tryz.call101, (keysI_calls db _).mono ?_⟩
    rintro e σ1 ⟨bk, hbk, rfl, rfl⟩
    simp only [go_sem]
    refine ⟨_, Tryz.call100, (sortedI_own bk db met _ (sget_self ..) (by rw [sget_cons, if_neg (fun e => by rw [← e, rd_d hN.toRdN] at hbk; cases hbk)]; exact rd_d hN.toRdN) hnd (by omega) (fun n hn => by have := hm n hn; omega)).mono ?_⟩
    rintro e σ1 ⟨o, xs, rfl, hgr, rfl, rfl⟩
    simp only [go_sem]
    refine hK _ _ ?_; clear hK K
    have hgr1 := hgr.drop hbk
    have hgr2 := hN.drop hgr1.1
    refine Gs.le (ELe.refl _) (fun b o hb => hgr1.2 b o (hgr2.2 b o hb)) ?_
    refine Gs.ret hC Tryz.func73 (by simp [go_sem]) ?_
    simp only [go_sem]
    rw [hend]
    refine ⟨o, _, ?_, hgr2.1, rfl, rfl⟩
    rw [List.map_map]
    rfl
  · have hkl : k < met.length := by
      have := congrArg List.length hq
      simp at this; omega
    have hq2 := List.drop_eq_getElem_cons hkl
    rw [hq, List.cons.injEq] at hq2
    obtain ⟨rfl, rfl⟩ := hq2
    refine Gs.regionOpen [0, 5, 6, 7, 22] ?_
    refine Gs.opSelectRecv hC.kind hC.round (at0 _ _) rfl (z := .int .i64 0) (by kernel_rfl) rfl dstB_lit rfl (rd_c hN.toRdN) ?_
    rw [rd_sc hN.toRdN]
    simp only [go_sem]
    refine Gs.op (at1 _ _ _) rfl nofun dstB_lit ?_
    simp only [go_sem]
    refine Gs.op (at2 _ _ _ _) rfl nofun dstB_lit ?_
    simp only [go_sem]
    refine Gs.regionEnd ?_
    have hn := hm met[k] (List.getElem_mem hkl)
    have hg2 := getD_map_lt (fun l => D.slc (l.map nD)) ah met[k] hn
    have hn0 : (0 : Int) ≤ (met[k] : Int) := by omega
    have hn1 : (met[k] : Int) < ((ah.map fun l => D.slc (l.map nD)).length : Int) := by omega
    have hfin2 : bfsF ah (ah.length + 1 - (k + 1)) (k + 1) (visitL met ah[met[k]]) = reachedL ah frm := by
      rw [← hfin, show ah.length + 1 - k = (ah.length + 1 - (k + 1)) + 1 by omega, bfsF, dif_pos hkl, getD_lt ah met[k] [] hn]
    have ha := hah _ (List.getElem_mem hn)
    refine Gs.bk ?_
    refine Gs.condT rfl ?_
    refine Gs.sq (Gs.rg [0, 5, 6, 7, 23] fun K hK => ?_); simp (maxSteps:=9^7) only [go_sem]
    refine hK _ _ ?_; clear hK K
    refine Gs.rg [0, 5, 6, 7, 8] fun K hK => ?_; simp (maxSteps:=9^7) only [go_sem, hg2, hn0, hn1, vI]
    refine ⟨_, Tryz.call99, (reached1_calls hN.toRdN ah[met[k]] met (k + 1) ah.length ha.1 (by omega) ha.2 hm hnd (by omega)).mono ?_⟩
    rintro e σ1 ⟨rfl, rfl⟩
    simp only [go_sem]
    refine hK _ _ ?_; clear hK K
    refine Gs.ib ?_
    refine Gs.ib ?_
    refine Gs.rebase [0, 5, 6, 7] ?_
    simp only [go_sem]
    refine ih (k + 1) _ _ ⟨visitL met ah[met[k]], ⟨Nat.le_trans (by omega) (visitL_le _ _), visitL_nodup _ _ hnd, fun n hn => ?_, hfin2⟩, rfl, rfl⟩ (by omega)
    rcases (visitL_mem _ _ n).1 hn with h | h
    · exact hm n h
    · exact ha.2 n h
def reachedS (ah : List (List Nat)) (frm : List Nat) : List Nat := isort (fun x y => decide (x ≤ y)) (reachedL ah frm)
theorem sortN_eq (l : List Nat) : (sortN l).map iD = (isort (fun x y => decide (x ≤ y)) l).map nD := by
  rw [← isortN_eq]
  unfold sortN
  rw [← List.map_mergeSort (r := fun x y : Nat => decide (x ≤ y)) (fun a _ b _ => by simp [leI]), List.map_map]
  rfl
theorem reached_calls (x1 x2 : D) (eds : List D) (ah : List (List Nat)) (frm : List Nat) (σ : Store) (hel : eds.length = ah.length) (hl : ah.length < 2 ^ 30) (hf : ∀ n ∈ frm, n < ah.length) (hfl : frm.length < 2 ^ 30) (hah : ∀ l ∈ ah, l.length < 2 ^ 30 ∧ ∀ n ∈ l, n < ah.length) :
    AC Tryz.prog 73 [.elt [.slc eds, x1, x2, .slc (ah.map fun l => .slc (l.map nD))], .slc (frm.map nD)] σ (fun e σ' => e = .ret (.slc ((reachedS ah frm).map nD)) ∧ σ' = σ) := by
  refine AC.pubOwn (sz := 1) ((reached_own x1 x2 eds ah frm [] hel hl hf hfl hah).mono ?_) σ
  rintro e σ' ⟨o, xs, rfl, hgr, rfl, rfl⟩
  rw [sortN_eq] at *
  exact ⟨o, hgr, rfl, rfl⟩
end Go.Ab.S16
namespace Go.Ab
open Go
variable {P : Program} {N : Slots} {C : Ctx P N} {todo : List Item} {env : Env} {σ : Store}
theorem Gs.publishElt (k b : Nat) {n : Nat} {cs : List D} (hk : eget k env = .ptr b n 0 0) (hb : sget b σ = some (.arr n [.agg cs]))
    (h : Gs C todo (eput k (.elt cs) (epub b n [.agg cs] env)) (spub b n [.agg cs] σ)) : Gs C todo env σ := by
  intro a w S hd hs
  obtain ⟨hE, hst, hfr⟩ := pub_world hs.store hs.fr.lt hb
  have hob := (hs.store b _ hb).2
  refine h a w _ hd ⟨fun j => ?_, hst, hs.fr.trans hfr, hs.size⟩
  rw [eget_eput]
  split
  · rename_i hj
    subst hj
    have hr := hs.env j
    rw [hk] at hr
    obtain ⟨c', e', lo, hi, vals, hh', hrl, hcv, hsz, hfz⟩ := hob
    have hrl2 : RepL w S cs vals := by
      have : flat [D.agg cs] = cs := by simp [flat, D.cells]
      rw [this] at hrl; exact hrl
    generalize a.tmps.getD j undef = v at hr
    cases hr with
    | ptr =>
      rw [Nat.zero_mul]
      refine .elt (.inr rfl) (hrl2.ev hE) fun i x hx => ?_
      rw [Nat.zero_add, cells_of_row hh']
      exact hcv i x hx
  · rw [eget_epub]; exact rep_pub hE (.inr rfl) hob (hs.env j)
theorem GrD.swap {oa os : Option Nat} {sa so : Nat} {xa xo : List D} {ρ : Store} (ha : GrD oa sa xa (cellsOf os so xo ++ ρ)) (hs : GrD os so xo ρ) :
    GrD os so xo (cellsOf oa sa xa ++ ρ) ∧ GrD oa sa xa ρ ∧ SLe (cellsOf os so xo ++ (cellsOf oa sa xa ++ ρ)) (cellsOf oa sa xa ++ (cellsOf os so xo ++ ρ)) := by
  cases oa with
  | none => exact ⟨hs, ⟨nofun, ha.zero⟩, SLe.refl _⟩
  | some a =>
    cases os with
    | none => exact ⟨⟨nofun, hs.zero⟩, ha, SLe.refl _⟩
    | some c =>
      have h1 := ha.fresh a rfl
      change sget a ((c, AObj.arr so xo) :: ρ) = none at h1
      rw [sget_cons] at h1
      have hac : a ≠ c := fun e => by rw [if_pos e] at h1; cases h1
      rw [if_neg hac] at h1
      refine ⟨⟨fun b hb => ?_, nofun⟩, ⟨fun b hb => by cases hb; exact h1, nofun⟩, fun b o hb => ?_⟩
      · cases hb
        show sget c ((a, AObj.arr sa xa) :: ρ) = none
        rw [sget_cons, if_neg hac.symm]; exact hs.fresh c rfl
      · change sget b ((c, AObj.arr so xo) :: (a, AObj.arr sa xa) :: ρ) = some o at hb
        show sget b ((a, AObj.arr sa xa) :: (c, AObj.arr so xo) :: ρ) = some o
        rw [sget_cons, sget_cons] at hb ⊢
        by_cases h2 : b = a
        · have h3 : b ≠ c := fun e => hac (h2.symm.trans e)
          rw [if_neg h3, if_pos h2] at hb
          rw [if_pos h2]; exact hb
        · rw [if_neg h2] at hb ⊢
          exact hb
def PubOK (c : Nat) (σ : Store) : Prop := ∀ sz xs, spub c sz xs σ = σ
theorem PubOK.nil (c : Nat) : PubOK c [] := fun _ _ => rfl
theorem PubOK.cons {c k : Nat} {o : AObj} {σ : Store} (hk : c ≠ k) (ho : ∀ sz xs, o.pub c sz xs = o) (h : PubOK c σ) : PubOK c ((k, o) :: σ) := fun sz xs => by
  simp only [spub, if_neg hk, ho, h sz xs]
theorem PubOK.cells {c sz : Nat} {o : Option Nat} {ys : List D} {σ : Store} (hk : o ≠ some c) (ho : ∀ y ∈ ys, ∀ sz xs, D.pub c sz xs y = y) (h : PubOK c σ) : PubOK c (cellsOf o sz ys ++ σ) := by
  cases o with
  | none => exact h
  | some k => exact .cons (fun e => hk (by rw [e])) (fun s xs => by simp only [AObj.pub, AObj.arr.injEq, true_and]; exact (List.map_congr_left (g := id) fun y hy => ho y hy s xs).trans (List.map_id ys)) h
theorem Gs.pubSlot (k : Nat) {o : Option Nat} {sz : Nat} {xs : List D} {ρ : Store} (hk : eget k env = .own o sz xs.length) (hg : GrD o sz xs ρ) (hρ : ∀ c, sget c ρ = none → PubOK c ρ) (he : ∀ c, ∀ p ∈ env, p.1 ≠ k → D.pub c sz xs p.2 = p.2)
    (h : Gs C todo (eput k (.slc xs) env) ρ) : Gs C todo env (cellsOf o sz xs ++ ρ) := by
  cases o with
  | none =>
    have hx := hg.zero rfl
    subst hx
    refine Gs.env_le h fun j => ?_
    rw [eget_eput]
    split
    · rename_i hj; rw [hj, hk]; exact DLe.own_slc _ _
    · exact DLe.refl _
  | some c =>
    refine Gs.publish c (sget_self c _ _) ?_
    have e1 : spub c sz xs ((c, AObj.arr sz xs) :: ρ) = ρ := by
      simp only [spub, if_true]; exact hρ c (hg.fresh c rfl) sz xs
    change Gs C todo (epub c sz xs env) (spub c sz xs ((c, AObj.arr sz xs) :: ρ))
    rw [e1]
    refine Gs.env_le h fun j => ?_
    rw [eget_epub, eget_eput]
    split
    · rename_i hj
      rw [hj, hk]
      show DLe (if c = c ∧ sz = sz ∧ xs.length ≤ xs.length then D.slc (xs.take xs.length) else _) _
      rw [if_pos ⟨rfl, rfl, Nat.le_refl _⟩, List.take_length]
      exact DLe.refl _
    · rename_i hj
      have : ∀ env : Env, (∀ p ∈ env, p.1 ≠ k → D.pub c sz xs p.2 = p.2) → D.pub c sz xs (eget j env) = eget j env := by
        intro env
        induction env with
        | nil => intro _; rfl
        | cons p r ih =>
          obtain ⟨i, d⟩ := p
          intro hp
          show D.pub c sz xs (if j = i then d else eget j r) = if j = i then d else eget j r
          by_cases hji : j = i
          · rw [if_pos hji]; exact hp (i, d) (by simp) (fun e => hj (hji.trans e))
          · rw [if_neg hji]; exact ih fun p hp' => hp p (by simp [hp'])
      rw [this env (he c)]
      exact DLe.refl _
end Go.Ab
namespace Go.Ab.S16
open Go Go.Proofs
def outsGo (mks : List (ByteArray × Nat)) (i : Nat) (outs : List ByteArray) : Option (List (ByteArray × Nat)) :=
  outs.foldl (fun o f => o.bind fun m => if (lookL m f).isSome then none else some (m ++ [(f, i)])) (some mks)
theorem outsGo_succ (mks : List (ByteArray × Nat)) (i : Nat) (outs : List ByteArray) (j : Nat) (h : j < outs.length) : outsGo mks i (outs.take (j + 1)) = (outsGo mks i (outs.take j)).bind fun m => if (lookL m outs[j]).isSome then none else some (m ++ [(outs[j], i)]) := by
  unfold outsGo
  rw [List.take_succ_eq_append_getElem h, List.foldl_append]
  rfl
theorem foldl_none {α β : Type} (f : β → α → Option β) (l : List α) : l.foldl (fun o x => o.bind fun m => f m x) none = none := by
  induction l with
  | nil => rfl
  | cons x l ih => exact ih
theorem outsGo_none {mks : List (ByteArray × Nat)} {i : Nat} {outs : List ByteArray} {j : Nat} (h : outsGo mks i (outs.take j) = none) : outsGo mks i outs = none := by
  conv => lhs; rw [← List.take_append_drop j outs]
  unfold outsGo at *
  rw [List.foldl_append, h]
  exact foldl_none (fun m f => if (lookL m f).isSome then none else some (m ++ [(f, i)])) _
def allTo (edges : List XEdge) (n : Nat) : Option (List (ByteArray × Nat)) :=
  (List.range n).foldl (fun o i => o.bind fun m => outsGo m i (edges.getD i ⟨[], [], [], [], ⟨#[]⟩, ⟨#[]⟩⟩).outs) (some [])
theorem allTo_succ (edges : List XEdge) (n : Nat) (h : n < edges.length) : allTo edges (n + 1) = (allTo edges n).bind fun m => outsGo m n edges[n].outs := by
  unfold allTo
  rw [List.range_succ, List.foldl_append]
  simp only [List.foldl_cons, List.foldl_nil]
  rw [getD_lt edges n _ h]
theorem allTo_none {edges : List XEdge} {n : Nat} (h : allTo edges n = none) : ∀ k, n ≤ k → allTo edges k = none
  | 0, hk => by obtain rfl : n = 0 := by omega
                exact h
  | k + 1, hk => by
    by_cases he : n = k + 1
    · rw [← he]; exact h
    · have := allTo_none h k (by omega)
      unfold allTo at *
      rw [List.range_succ, List.foldl_append, this]
      rfl
def newG (m : XMan) : Nat ⊕ XGr :=
  match allTo m.edges m.edges.length with
  | none => .inl 11
  | some mks =>
    let ah := m.edges.map fun e => madeL mks e.needs
    if (orderL ah (List.range m.edges.length)).length < m.edges.length then .inl 12 else .inr ⟨m, mks, ah⟩
def gS (b mb : Nat) (x0 x1 x3 : D) (mks : List (ByteArray × Nat)) (ρ : Store) : Store := (b, .arr 4 [.agg [x0, x1, .map mb, x3]]) :: (mb, .mp (mkE mks)) :: ρ
section
variable {b mb : Nat} {x0 x1 x3 : D} {mks : List (ByteArray × Nat)} {ρ : Store}
theorem gS_b : sget b (gS b mb x0 x1 x3 mks ρ) = some (.arr 4 [.agg [x0, x1, .map mb, x3]]) := by simp [gS, sget]
theorem gS_m (h : mb ≠ b) : sget mb (gS b mb x0 x1 x3 mks ρ) = some (.mp (mkE mks)) := by simp [gS, sget, h]
theorem gS_sb (y0 y1 y3 : D) : sset b (.arr 4 [.agg [y0, y1, .map mb, y3]]) (gS b mb x0 x1 x3 mks ρ) = gS b mb y0 y1 y3 mks ρ := by simp [gS, sset]
theorem gS_sm (h : mb ≠ b) (mks' : List (ByteArray × Nat)) : sset mb (.mp (mkE mks')) (gS b mb x0 x1 x3 mks ρ) = gS b mb x0 x1 x3 mks' ρ := by simp [gS, sset, h]
end
theorem gS_none {b mb c : Nat} {x0 x1 x3 y0 y1 y3 : D} {mks mks' : List (ByteArray × Nat)} {ρ : Store} (h : sget c (gS b mb x0 x1 x3 mks ρ) = none) : sget c (gS b mb y0 y1 y3 mks' ρ) = none := by
  unfold gS at *
  obtain ⟨h1, h2⟩ := sget_none h
  obtain ⟨h3, h4⟩ := sget_none h2
  rw [sget_cons, if_neg h1, sget_cons, if_neg h3, h4]
theorem gS_grd {b mb : Nat} {x0 x1 x3 : D} (y0 y1 y3 : D) {mks : List (ByteArray × Nat)} (mks' : List (ByteArray × Nat)) {ρ : Store} {o : Option Nat} {sz : Nat} {xs : List D} (h : GrD o sz xs (gS b mb x0 x1 x3 mks ρ)) : GrD o sz xs (gS b mb y0 y1 y3 mks' ρ) :=
  ⟨fun c hc => gS_none (h.fresh c hc), h.zero⟩
theorem mset_mkE (l : List (ByteArray × Nat)) (f : ByteArray) (n : Nat) (h : lookL l f = none) : mset (.string f) (nD n) (mkE l) = mkE (l ++ [(f, n)]) := by
  induction l with
  | nil => rfl
  | cons p r ih =>
    obtain ⟨k, m⟩ := p
    unfold lookL at h ih
    rw [List.find?_cons] at h
    cases hk : (f == k) with
    | true => simp [hk] at h
    | false =>
      simp only [hk] at h
      show (if keyEq (.string f) (.string k) = true then _ else (Value.string k, nD m) :: mset (.string f) (nD n) (mkE r)) = _
      rw [show keyEq (.string f) (.string k) = (f == k) from rfl, hk, if_neg (by simp), ih h]
      rfl
theorem mkE_pub (c sz : Nat) (xs : List D) (l : List (ByteArray × Nat)) : (AObj.mp (mkE l)).pub c sz xs = .mp (mkE l) := by
  simp only [AObj.pub, mkE, List.map_map]
  rfl
theorem gS_spub {b mb c sz : Nat} {xs : List D} {x0 x1 x3 y0 y1 y3 : D} {mks : List (ByteArray × Nat)} {ρ : Store} (hc : sget c (gS b mb x0 x1 x3 mks ρ) = none) (h0 : D.pub c sz xs x0 = y0) (h1 : D.pub c sz xs x1 = y1) (h3 : D.pub c sz xs x3 = y3) (hρ : PubOK c ρ) :
    spub c sz xs (gS b mb x0 x1 x3 mks ρ) = gS b mb y0 y1 y3 mks ρ := by
  unfold gS at *
  obtain ⟨n1, hc⟩ := sget_none hc
  obtain ⟨n2, hc⟩ := sget_none hc
  simp only [spub, if_neg n1, if_neg n2, mkE_pub, hρ sz xs]
  simp only [AObj.pub, List.map_cons, List.map_nil, D.pub, pubs, h0, h1, h3]
theorem Gs.pubRow {P : Program} {N : Slots} {C : Ctx P N} {todo : List Item} {env : Env} {b mb sz : Nat} {o : Option Nat} {es : List D} {x0 x1 x3 : D} (y0 y1 y3 : D) {mks : List (ByteArray × Nat)} {ρ : Store} (hg : GrD o sz es (gS b mb x0 x1 x3 mks ρ)) (hnone : o = none → DLe x0 y0 ∧ DLe x1 y1 ∧ DLe x3 y3)
    (hsome : ∀ c, o = some c → sget c (gS b mb x0 x1 x3 mks ρ) = none → D.pub c sz es x0 = y0 ∧ D.pub c sz es x1 = y1 ∧ D.pub c sz es x3 = y3) (hρ : ∀ c, sget c ρ = none → PubOK c ρ) (he : ∀ c, epub c sz es env = env)
    (h : Gs C todo env (gS b mb y0 y1 y3 mks ρ)) : Gs C todo env (cellsOf o sz es ++ gS b mb x0 x1 x3 mks ρ) := by
  cases o with
  | none =>
    obtain ⟨h0, h1, h3⟩ := hnone rfl
    show Gs C todo env (gS b mb x0 x1 x3 mks ρ)
    unfold gS at *
    refine Gs.row_le (ys := [.agg [y0, y1, .map mb, y3]]) (fun w S vs hr => ?_) (by intro y hy; simp only [List.mem_singleton] at hy; subst hy; rfl) h
    obtain ⟨v0, vs, rfl, r0, hr⟩ := RepL.cons_inv (show RepL w S (x0 :: [x1, .map mb, x3]) vs from hr)
    obtain ⟨v1, vs, rfl, r1, hr⟩ := hr.cons_inv
    obtain ⟨v2, vs, rfl, r2, hr⟩ := hr.cons_inv
    obtain ⟨v3, vs, rfl, r3, hr⟩ := hr.cons_inv
    exact .cons (h0 _ _ _ r0) (.cons (h1 _ _ _ r1) (.cons r2 (.cons (h3 _ _ _ r3) hr)))
  | some c =>
    have hc := hg.fresh c rfl
    obtain ⟨h0, h1, h3⟩ := hsome c rfl hc
    have hcρ : sget c ρ = none := by
      unfold gS at hc
      exact (sget_none (sget_none hc).2).2
    refine Gs.publish c (sget_self c _ _) ?_
    change Gs C todo (epub c sz es env) (spub c sz es ((c, AObj.arr sz es) :: gS b mb x0 x1 x3 mks ρ))
    rw [he c]
    have e1 : spub c sz es ((c, AObj.arr sz es) :: gS b mb x0 x1 x3 mks ρ) = gS b mb y0 y1 y3 mks ρ := by
      rw [← gS_spub hc h0 h1 h3 (hρ c hcρ)]
      simp only [spub, if_true]
    rw [e1]; exact h
theorem pub_own (c sz : Nat) (xs : List D) : D.pub c sz xs (.own (some c) sz xs.length) = .slc xs := by
  show (if c = c ∧ sz = sz ∧ xs.length ≤ xs.length then D.slc (xs.take xs.length) else _) = _
  rw [if_pos ⟨rfl, rfl, Nat.le_refl _⟩, List.take_length]
theorem pub_other {c sz n : Nat} {xs : List D} {o : Option Nat} {s : Nat} (h : o ≠ some c) : D.pub c sz xs (.own o s n) = .own o s n := by
  cases o with
  | none => rfl
  | some k =>
    show (if k = c ∧ s = sz ∧ n ≤ xs.length then _ else D.own (some k) s n) = _
    rw [if_neg fun e => h (by rw [e.1])]
theorem made_ptr_calls (mks : List (ByteArray × Nat)) (b mb : Nat) (x0 x1 x3 : D) (fs : List ByteArray) (σ : Store) (hm : sget mb σ = some (.mp (mkE mks))) (hb : sget b σ = some (.arr 4 [.agg [x0, x1, .map mb, x3]])) (hl : fs.length < 2 ^ 30) (hp : ∀ c, sget c σ = none → PubOK c σ) :
    AC Tryz.prog 54 [.ptr b 4 0 0, .slc (fs.map sD)] σ (fun e σ' => e = .ret (.slc ((madeL mks fs).map nD)) ∧ σ' = σ) :=
  AC.pubOwnIn (fun c hc => hp c hc _ _) (made_ptr mks b mb x0 x1 x3 fs σ hm hb hl)
theorem XEdge.d_eq (e : XEdge) : e.d = .agg [.slc (e.outs.map sD), .slc (e.ins.map sD), .slc (e.impl.map sD), .slc (e.order.map sD), .v (.string e.cmd), .v (.string e.dep)] := rfl
def slcN (l : List Nat) : D := .slc (l.map nD)
def rowsL (m : XMan) (mks : List (ByteArray × Nat)) (k : Nat) : List D := (m.edges.take k).map fun e => slcN (madeL mks e.needs)
theorem SLe.cons2 {A B : Store} (k : Nat) (o : AObj) (h : SLe A B) : SLe ((k, o) :: A) ((k, o) :: B) := fun b x hb => by
  rw [sget_cons] at hb ⊢
  split at hb
  · rename_i hk; rw [if_pos hk]; exact hb
  · rename_i hk; rw [if_neg hk]; exact h b x hb
theorem SLe.none {A B : Store} (h : SLe A B) {b : Nat} (hb : sget b B = none) : sget b A = none := by
  cases ha : sget b A with
  | none => rfl
  | some o => rw [h b o ha] at hb; cases hb
theorem gS_pubOK {b mb c : Nat} {x0 x1 x3 : D} {mks : List (ByteArray × Nat)} {ρ : Store} (hc : sget c (gS b mb x0 x1 x3 mks ρ) = none) (h0 : ∀ sz xs, D.pub c sz xs x0 = x0) (h1 : ∀ sz xs, D.pub c sz xs x1 = x1) (h3 : ∀ sz xs, D.pub c sz xs x3 = x3) (hρ : PubOK c ρ) : PubOK c (gS b mb x0 x1 x3 mks ρ) :=
  fun sz xs => gS_spub hc (h0 sz xs) (h1 sz xs) (h3 sz xs) hρ
theorem rowsL_pub (m : XMan) (mks : List (ByteArray × Nat)) (k : Nat) (c : Nat) : ∀ y ∈ rowsL m mks k, ∀ sz xs, D.pub c sz xs y = y := fun y hy sz xs => by
  obtain ⟨e, _, rfl⟩ := List.mem_map.1 hy
  rfl
theorem rowsL_succ (m : XMan) (mks : List (ByteArray × Nat)) (k : Nat) (h : k < m.edges.length) : rowsL m mks (k + 1) = rowsL m mks k ++ [.slc ((madeL mks m.edges[k].needs).map nD)] := by
  unfold rowsL
  rw [List.take_succ_eq_append_getElem h, List.map_append]
  rfl
theorem rowsL_len (m : XMan) (mks : List (ByteArray × Nat)) (k : Nat) (h : k ≤ m.edges.length) : (rowsL m mks k).length = k := by
  unfold rowsL; simp; omega
theorem nD_pub (l : List Nat) (c : Nat) : ∀ y ∈ l.map nD, ∀ sz xs, D.pub c sz xs y = y := fun y hy sz xs => by
  obtain ⟨e, _, rfl⟩ := List.mem_map.1 hy
  rfl
theorem new_own (m : XMan) (hl : m.edges.length < 2 ^ 20) (hs : ∀ e ∈ m.edges, e.small) (hd : m.defs.length < 2 ^ 20) :
    AC Tryz.prog 20 [m.d] [] (fun e σ' => match newG m with
      | .inl c => e = .ret (.tup [.v (.pointer none), .v (.int .i64 (c : Int))])
      | .inr g => ∃ mb, e = .ret (.tup [g.d mb, .v (.int .i64 0)]) ∧ sget mb σ' = some (.mp (mkE g.mks))) := by
  have hll : (m.edges.map XEdge.d).length = m.edges.length := List.length_map ..
  unfold XMan.d
  refine AC.of_body Tryz.func20 rfl Tryz.ntmps20 (by simp) fun C hC => ?_
  refine Gs.sq (Gs.rg [0] fun K hK => ?_); simp (maxSteps:=9^7) only [go_sem]
  intro bx
  refine hK _ _ ?_; clear hK K
  refine Gs.sq (Gs.rg [1] fun K hK => ?_); simp (maxSteps:=9^7) only [go_sem]
  intro mb hmb b hb
  refine hK _ _ ?_; clear hK K
  obtain ⟨hbm, hb2⟩ := sget_none hb
  obtain ⟨hbx, -⟩ := sget_none hb2
  obtain ⟨hmx, -⟩ := sget_none hmb
  generalize hρ : [(bx, AObj.arr 2 [D.agg [.slc (m.edges.map XEdge.d), .slc (m.defs.map sD)]])] = ρ at hmb hb2 ⊢
  change Gs C _ _ (gS b mb (.v (.slice none 0 0)) (.v (.slice none 0 0)) (.v (.slice none 0 0)) [] ρ)
  have hgx : ∀ x0 x1 x3 mks, sget bx (gS b mb x0 x1 x3 mks ρ) = some (.arr 2 [D.agg [.slc (m.edges.map XEdge.d), .slc (m.defs.map sD)]]) := fun x0 x1 x3 mks => by
    unfold gS
    rw [sget_cons, if_neg (Ne.symm hbx), sget_cons, if_neg (Ne.symm hmx), ← hρ, sget_self]
  refine Gs.sq (Gs.rg [1, 4] fun K hK => ?_); simp (maxSteps:=9^7) only [go_sem, hgx, gS_b, gS_sb]
  refine ⟨_, Tryz.call52, (clone_str (m.defs.map sD) _ (fun x hx => plain_sD m.defs x hx) (by rw [List.length_map]; omega)).mono ?_⟩
  rintro e σ1 ⟨rfl, rfl⟩
  simp only [go_sem, hgx, gS_b, gS_sb]
  refine hK _ _ ?_; clear hK K
  refine Gs.sq (Gs.sq ?_)
  refine Gs.rg [1, 4] fun K hK => ?_; simp (maxSteps:=9^7) only [go_sem, hgx, hll]
  refine hK _ _ ?_; clear hK K
  refine Gs.bk ?_
  unfold gS
  refine Gs.row_le (ys := [.agg [.own none 6 0, .slc (m.defs.map sD), .map mb, .v (.slice none 0 0)]]) (fun w S vs h => by
    obtain ⟨v, vs, rfl, h1, h2⟩ := RepL.cons_inv (show RepL w S (.v (.slice none 0 0) :: [.slc (m.defs.map sD), .map mb, .v (.slice none 0 0)]) vs from h)
    exact .cons (DLe.nil_own 6 w S v h1) h2) (by simp [D.cells]) ?_
  change Gs C _ _ (gS b mb (.own none 6 0) (.slc (m.defs.map sD)) (.v (.slice none 0 0)) [] ρ)
  refine Gs.rebase [4, 25, 26, 27] ?_
  simp only [go_sem]
  refine Gs.while (fun (i : Nat) env' σ'' => ∃ oe : Option Nat, ∃ mks : List (ByteArray × Nat), (i ≤ m.edges.length ∧ allTo m.edges i = some mks ∧ GrD oe 6 ((m.edges.take i).map XEdge.d) (gS b mb (.own oe 6 i) (.slc (m.defs.map sD)) (.v (.slice none 0 0)) mks ρ)) ∧ env' = [(4, .ptr b 4 0 0), (25, .slc (m.edges.map XEdge.d)), (26, .v (.int .i64 (m.edges.length : Int))), (27, .v (.int .i64 (i : Int)))] ∧ σ'' = cellsOf oe 6 ((m.edges.take i).map XEdge.d) ++ gS b mb (.own oe 6 i) (.slc (m.defs.map sD)) (.v (.slice none 0 0)) mks ρ) (fun (i : Nat) => m.edges.length - i) 0 ⟨none, [], ⟨Nat.zero_le _, rfl, GrD.nil _ _⟩, rfl, rfl⟩ ?_
  rintro i env' σ'' ⟨oe, mks, ⟨hi, hto, hgr⟩, rfl, rfl⟩ ih
  have ih1 := ih
  refine Gs.sq (Gs.rg [4, 25, 26, 27] fun K hK => ?_); simp (maxSteps:=9^7) only [go_sem]
  refine hK _ _ ?_; clear hK K
  refine Gs.sq ?_
  refine Gs.cond rfl (fun h28 => ?_) (fun h28 => ?_)
  · have hlt : i < m.edges.length := by simpa using h28
    have hg := getD_map_lt XEdge.d m.edges i hlt
    have hi0 : (0 : Int) ≤ (i : Int) := by omega
    have hi1 : (i : Int) < ((m.edges.map XEdge.d).length : Int) := by omega
    rw [XEdge.d] at hg
    have hsm := hs _ (List.getElem_mem hlt)
    refine Gs.sk ?_
    refine Gs.sq ?_
    refine Gs.bk ?_
    refine Gs.sq (Gs.rg [4, 25, 26, 27] fun K hK => ?_); simp (maxSteps:=9^7) only [go_sem, hg, hi0, hi1]
    intro be hbe
    refine hK _ _ ?_; clear hK K
    obtain ⟨hgrp, hle⟩ := hgr.push (x := .arr 6 [XEdge.d m.edges[i]]) hbe
    refine Gs.le (ELe.refl _) hle ?_
    have hbe2 := (hgr.none_of hbe).1
    have hbne : b ≠ be := fun e => by rw [← e, gS_b] at hbe2; cases hbe2
    have hgb := hgrp.keep (b := b) (by rw [sget_cons, if_neg hbne]; exact gS_b)
    have hge := (hgrp.keep (sget_self be (.arr 6 [XEdge.d m.edges[i]]) _)).trans (congrArg (fun x => some (AObj.arr 6 [x])) (XEdge.d_eq m.edges[i]))
    have ho := hgrp.oget
    have hd := hgrp.sdel
    have htl : ((m.edges.take i).map XEdge.d).length = i := by simp; omega
    have htk : List.take i ((m.edges.take i).map XEdge.d) = (m.edges.take i).map XEdge.d := List.take_of_length_le (by omega)
    have hec : (XEdge.d m.edges[i]).cells.length = 6 := rfl
    have hep : (XEdge.d m.edges[i]).plain = true := rfl
    refine Gs.sq ?_
    refine Gs.draw [4, 5, 6, 25, 26, 27] [40] [b, be] [13] [(0, true), (1, true), (2, true), (3, true), (4, true), (5, true), (6, true), (7, false), (8, true), (9, false), (10, true), (11, true), (12, true), (13, false)] (by kernel_rfl) (by decide) (by kernel_rfl) fun K hK => ?_; simp (maxSteps:=9^7) only [go_sem, hgb, hge]
    refine ⟨_, Tryz.call53, (copied_calls m.edges[i] _ hsm).mono ?_⟩
    rintro e σ1 ⟨rfl, rfl⟩
    simp only [go_sem, hgb, hge, hec, hep, ho, hd, htk]
    refine ⟨by decide, ⟨by omega, fun y hy => by subst hy; exact ⟨rfl, rfl⟩, by omega, by omega⟩, fun ob hz hf => ?_⟩
    have hgr2 := hgrp.app hz hf
    have hgb2 := hgr2.keep (b := b) (by rw [sget_cons, if_neg hbne]; exact gS_b)
    have hge2 := hgr2.keep (sget_self be (.arr 6 [XEdge.d m.edges[i]]) _)
    refine ⟨?_, ?_⟩
    · rintro b1 (rfl | rfl)
      · rw [hgb2, hgb]
      · rw [hge2, hge]; rfl
    have hss : sset b (.arr 4 [.agg [.own ob 6 ((m.edges.take i).map XEdge.d ++ [m.edges[i].d]).length, .slc (m.defs.map sD), .map mb, .v (.slice none 0 0)]]) (cellsOf ob 6 ((m.edges.take i).map XEdge.d ++ [m.edges[i].d]) ++ (be, AObj.arr 6 [m.edges[i].d]) :: gS b mb (.own oe 6 i) (.slc (m.defs.map sD)) (.v (.slice none 0 0)) mks ρ)
        = cellsOf ob 6 ((m.edges.take i).map XEdge.d ++ [m.edges[i].d]) ++ (be, AObj.arr 6 [m.edges[i].d]) :: gS b mb (.own ob 6 (i + 1)) (.slc (m.defs.map sD)) (.v (.slice none 0 0)) mks ρ := by
      have hbs : (sget b ((be, AObj.arr 6 [m.edges[i].d]) :: gS b mb (.own oe 6 i) (.slc (m.defs.map sD)) (.v (.slice none 0 0)) mks ρ)).isSome = true := by rw [sget_cons, if_neg hbne, gS_b]; rfl
      rw [hgr2.sset hbs, sset_ne hbne, gS_sb, List.length_append, htl]
      rfl
    simp only [go_sem, hgb2, hss]
    refine hK _ _ ?_; clear hK K
    have e1 : (m.edges.take i).map XEdge.d ++ [m.edges[i].d] = (m.edges.take (i + 1)).map XEdge.d := by rw [List.take_succ_eq_append_getElem hlt, List.map_append]; rfl
    have hgr3 := hgr2.ssetR b (.arr 4 [.agg [.own ob 6 (i + 1), .slc (m.defs.map sD), .map mb, .v (.slice none 0 0)]])
    rw [sset_ne hbne, gS_sb, e1] at hgr3
    rw [e1]
    have hge3 := (hgr3.keep (sget_self be (.arr 6 [XEdge.d m.edges[i]]) _)).trans (congrArg (fun x => some (AObj.arr 6 [x])) (XEdge.d_eq m.edges[i]))
    have hdr := hgr3.drop (gS_none hbe2)
    have hou := hsm.outs
    have hol : (m.edges[i].outs.map sD).length = m.edges[i].outs.length := List.length_map ..
    refine Gs.sq (Gs.rg [4, 5, 6, 25, 26, 27] fun K hK => ?_); simp (maxSteps:=9^7) only [go_sem, hge3, hol]
    refine hK _ _ ?_; clear hK K
    refine Gs.bk ?_
    refine Gs.le (ELe.refl _) hdr.2 ?_
    refine Gs.rebase [4, 5, 25, 26, 27, 46, 47, 48] ?_
    simp only [go_sem]
    refine Gs.while (fun (j : Nat) env' σ'' => ∃ mks2 : List (ByteArray × Nat), (j ≤ m.edges[i].outs.length ∧ outsGo mks i (m.edges[i].outs.take j) = some mks2) ∧ env' = [(4, .ptr b 4 0 0), (5, .v (.int .i64 (i : Int))), (25, .slc (m.edges.map XEdge.d)), (26, .v (.int .i64 (m.edges.length : Int))), (27, .v (.int .i64 (i : Int))), (46, .slc (m.edges[i].outs.map sD)), (47, .v (.int .i64 (m.edges[i].outs.length : Int))), (48, .v (.int .i64 (j : Int)))] ∧ σ'' = cellsOf ob 6 ((m.edges.take (i + 1)).map XEdge.d) ++ gS b mb (.own ob 6 (i + 1)) (.slc (m.defs.map sD)) (.v (.slice none 0 0)) mks2 ρ) (fun (j : Nat) => m.edges[i].outs.length - j) 0 ⟨mks, ⟨Nat.zero_le _, rfl⟩, rfl, rfl⟩ ?_
    rintro j env' σ'' ⟨mks2, ⟨hj, hout⟩, rfl, rfl⟩ ih
    have ih2 := ih
    have hg4 := gS_grd (.own ob 6 (i + 1)) (.slc (m.defs.map sD)) (.v (.slice none 0 0)) mks2 hdr.1
    have hgb4 := hg4.keep (b := b) gS_b
    have hgm4 := hg4.keep (gS_m hbm.symm)
    refine Gs.sq (Gs.rg [4, 5, 25, 26, 27, 46, 47, 48] fun K hK => ?_); simp (maxSteps:=9^7) only [go_sem]
    refine hK _ _ ?_; clear hK K
    refine Gs.sq ?_
    refine Gs.cond rfl (fun h49 => ?_) (fun h49 => ?_)
    · have hltj : j < m.edges[i].outs.length := by simpa using h49
      have hgj := getD_map_lt sD m.edges[i].outs j hltj
      rw [sD] at hgj
      have hj0 : (0 : Int) ≤ (j : Int) := by omega
      have hj1 : (j : Int) < ((m.edges[i].outs.map sD).length : Int) := by omega
      have hsu := outsGo_succ mks i m.edges[i].outs j hltj
      rw [hout, Option.bind_some] at hsu
      have hfd := mfind_mkE mks2 m.edges[i].outs[j]
      have hlk := mkE_like mks2 m.edges[i].outs[j]
      have hf1 := getD_nD (lookL mks2 m.edges[i].outs[j])
      have hf2 := some_nD (lookL mks2 m.edges[i].outs[j])
      refine Gs.sk ?_
      refine Gs.sq ?_
      refine Gs.bk ?_
      refine Gs.sq (Gs.rg [4, 5, 25, 26, 27, 46, 47, 48] fun K hK => ?_); simp (maxSteps:=9^7) only [go_sem, hgj, hj0, hj1]
      refine hK _ _ ?_; clear hK K
      refine Gs.sq (Gs.sq ?_)
      refine Gs.rg [4, 5, 8, 25, 26, 27, 46, 47, 48] fun K hK => ?_; simp (maxSteps:=9^7) only [go_sem, hgb4, hgm4, hfd, hf1, hf2]
      refine ⟨⟨rfl, hlk⟩, ?_⟩
      refine hK _ _ ?_; clear hK K
      refine Gs.sq (Gs.rg [4, 5, 8, 10, 25, 26, 27, 46, 47, 48] fun K hK => ?_); simp (maxSteps:=9^7) only [go_sem]
      refine hK _ _ ?_; clear hK K
      refine Gs.cond rfl (fun h61 => ?_) (fun h61 => ?_)
      · have hnone : outsGo mks i (m.edges[i].outs.take (j + 1)) = none := by rw [hsu, if_pos h61]
        have hn2 := outsGo_none hnone
        have hn3 : allTo m.edges (i + 1) = none := by rw [allTo_succ m.edges i hlt, hto, Option.bind_some, hn2]
        have hn4 := allTo_none hn3 m.edges.length (by omega)
        have hng : newG m = .inl 11 := by unfold newG; rw [hn4]
        refine Gs.sq (Gs.rg [] fun K hK => ?_); simp (maxSteps:=9^7) only [go_sem]
        refine hK _ _ ?_; clear hK K
        refine Gs.ret hC Tryz.func20 (by simp [go_sem]) ?_
        simp only [go_sem]
        rw [hng]
        rfl
      · have hnl : (lookL mks2 m.edges[i].outs[j]).isSome = false := by simpa using h61
        rw [hnl, if_neg (by simp)] at hsu
        have hms := mset_mkE mks2 m.edges[i].outs[j] i (by simpa using hnl)
        have hss4 : sset mb (.mp (mkE (mks2 ++ [(m.edges[i].outs[j], i)]))) (cellsOf ob 6 ((m.edges.take (i + 1)).map XEdge.d) ++ gS b mb (.own ob 6 (i + 1)) (.slc (m.defs.map sD)) (.v (.slice none 0 0)) mks2 ρ)
            = cellsOf ob 6 ((m.edges.take (i + 1)).map XEdge.d) ++ gS b mb (.own ob 6 (i + 1)) (.slc (m.defs.map sD)) (.v (.slice none 0 0)) (mks2 ++ [(m.edges[i].outs[j], i)]) ρ := by
          rw [hg4.sset (by rw [gS_m hbm.symm]; rfl), gS_sm hbm.symm]
        rw [nD] at hms
        refine Gs.sk ?_
        refine Gs.rg [4, 5, 8, 25, 26, 27, 46, 47, 48] fun K hK => ?_; simp (maxSteps:=9^7) only [go_sem, hgb4, hgm4, hms, hss4]
        refine ⟨⟨rfl, hlk⟩, ?_⟩
        refine hK _ _ ?_; clear hK K
        refine Gs.ib ?_
        refine Gs.rg [4, 5, 25, 26, 27, 46, 47, 48] fun K hK => ?_; simp (maxSteps:=9^7) only [go_sem]
        refine hK _ _ ?_; clear hK K
        refine Gs.rebase [4, 5, 25, 26, 27, 46, 47, 48] ?_
        simp only [go_sem]
        rw [wrap_succ j (by omega)]
        exact ih2 (j + 1) _ _ ⟨_, ⟨by omega, hsu⟩, rfl, rfl⟩ (by omega)
    · have hje : j = m.edges[i].outs.length := by simp at h49; omega
      subst hje
      rw [List.take_length] at hout
      refine Gs.exit rfl ?_
      refine Gs.ib ?_
      refine Gs.rg [4, 25, 26, 27] fun K hK => ?_; simp (maxSteps:=9^7) only [go_sem]
      refine hK _ _ ?_; clear hK K
      refine Gs.rebase [4, 25, 26, 27] ?_
      simp only [go_sem]
      rw [wrap_succ i (by omega)]
      exact ih1 (i + 1) _ _ ⟨ob, mks2, ⟨by omega, by rw [allTo_succ m.edges i hlt, hto, Option.bind_some, hout], hg4⟩, rfl, rfl⟩ (by omega)
  · have hie : i = m.edges.length := by simp at h28; omega
    subst hie
    rw [List.take_length] at hgr ⊢
    have hρ2 : ∀ c, sget c ρ = none → PubOK c ρ := fun c hc => by
      rw [← hρ] at hc ⊢
      exact .cons (sget_none hc).1 (fun _ _ => rfl) (.nil c)
    have hml : (m.edges.map XEdge.d).length = m.edges.length := List.length_map ..
    refine Gs.pubRow (.slc (m.edges.map XEdge.d)) (.slc (m.defs.map sD)) (.v (.slice none 0 0)) (hgr) (fun h => ⟨?_, DLe.refl _, DLe.refl _⟩) (fun c h _ => ⟨?_, rfl, rfl⟩) hρ2 (fun c => rfl) ?_
    · rw [hgr.zero h, h]; exact DLe.own_slc _ _
    · subst h
      have := pub_own c 6 (m.edges.map XEdge.d)
      rw [hml] at this; exact this
    unfold gS
    refine Gs.row_le (ys := [.agg [.slc (m.edges.map XEdge.d), .slc (m.defs.map sD), .map mb, .own none 1 0]]) (fun w S vs h => by
      obtain ⟨v0, vs, rfl, r0, h⟩ := RepL.cons_inv (show RepL w S (.slc (m.edges.map XEdge.d) :: [.slc (m.defs.map sD), .map mb, .v (.slice none 0 0)]) vs from h)
      obtain ⟨v1, vs, rfl, r1, h⟩ := h.cons_inv
      obtain ⟨v2, vs, rfl, r2, h⟩ := h.cons_inv
      obtain ⟨v3, vs, rfl, r3, h⟩ := h.cons_inv
      exact .cons r0 (.cons r1 (.cons r2 (.cons (DLe.nil_own 1 w S v3 r3) h)))) (by simp [D.cells]) ?_
    change Gs C _ _ (gS b mb (.slc (m.edges.map XEdge.d)) (.slc (m.defs.map sD)) (.own none 1 0) mks ρ)
    refine Gs.exit rfl ?_
    refine Gs.sq (Gs.rg [4] fun K hK => ?_); simp (maxSteps:=9^7) only [go_sem]
    refine hK _ _ ?_; clear hK K
    refine Gs.sq (Gs.sq ?_)
    refine Gs.rg [4, 11] fun K hK => ?_; simp (maxSteps:=9^7) only [go_sem, gS_b]
    refine hK _ _ ?_; clear hK K
    refine Gs.bk ?_
    refine Gs.nilOwn 11 1 rfl ?_
    refine Gs.rebase [4, 11, 74, 75, 76] ?_
    simp only [go_sem]
    refine Gs.while (fun (k : Nat) env' σ'' => ∃ oa : Option Nat, ∃ os : Option Nat, (k ≤ m.edges.length ∧ GrD oa 1 (rowsL m mks k) (gS b mb (.slc (m.edges.map XEdge.d)) (.slc (m.defs.map sD)) (.own oa 1 k) mks ρ) ∧ GrD os 1 ((List.range k).map nD) (cellsOf oa 1 (rowsL m mks k) ++ gS b mb (.slc (m.edges.map XEdge.d)) (.slc (m.defs.map sD)) (.own oa 1 k) mks ρ)) ∧ env' = [(4, .ptr b 4 0 0), (11, .own os 1 k), (74, .slc (m.edges.map XEdge.d)), (75, .v (.int .i64 (m.edges.length : Int))), (76, .v (.int .i64 (k : Int)))] ∧ σ'' = cellsOf os 1 ((List.range k).map nD) ++ (cellsOf oa 1 (rowsL m mks k) ++ gS b mb (.slc (m.edges.map XEdge.d)) (.slc (m.defs.map sD)) (.own oa 1 k) mks ρ)) (fun (k : Nat) => m.edges.length - k) 0 ⟨none, none, ⟨Nat.zero_le _, GrD.nil _ _, GrD.nil _ _⟩, by rw [hml]; rfl, rfl⟩ ?_
    rintro k env' σ'' ⟨oa, os, ⟨hk, hga, hgs⟩, rfl, rfl⟩ ih
    have ih3 := ih
    refine Gs.sq (Gs.rg [4, 11, 74, 75, 76] fun K hK => ?_); simp (maxSteps:=9^7) only [go_sem]
    refine hK _ _ ?_; clear hK K
    refine Gs.sq ?_
    refine Gs.cond rfl (fun h77 => ?_) (fun h77 => ?_)
    · have hltk : k < m.edges.length := by simpa using h77
      have hg := getD_map_lt XEdge.d m.edges k hltk
      have hi0 : (0 : Int) ≤ (k : Int) := by omega
      have hi1 : (k : Int) < ((m.edges.map XEdge.d).length : Int) := by omega
      rw [XEdge.d] at hg
      have hsm := hs _ (List.getElem_mem hltk)
      refine Gs.sk ?_
      refine Gs.sq ?_
      refine Gs.bk ?_
      refine Gs.sq (Gs.rg [4, 11, 74, 75, 76] fun K hK => ?_); simp (maxSteps:=9^7) only [go_sem, hg, hi0, hi1]
      intro be hbe
      refine hK _ _ ?_; clear hK K
      obtain ⟨hga2, hgs2, hsw⟩ := GrD.swap hgs hga
      refine Gs.le (ELe.refl _) (SLe.cons2 be _ hsw) ?_
      have hbe1 := SLe.none hsw hbe
      obtain ⟨hgap, hle⟩ := hga2.push (x := .arr 6 [XEdge.d m.edges[k]]) hbe1
      refine Gs.le (ELe.refl _) hle ?_
      have hbe2 := (hga2.none_of hbe1).1
      have hbe3 := (hgs2.none_of hbe2).1
      have hbne : b ≠ be := fun e => by rw [← e, gS_b] at hbe3; cases hbe3
      have hmne : mb ≠ be := fun e => by rw [← e, gS_m hbm.symm] at hbe3; cases hbe3
      have hgb := hgap.keep (b := b) (by rw [sget_cons, if_neg hbne]; exact hgs2.keep gS_b)
      have hgm := hgap.keep (b := mb) (by rw [sget_cons, if_neg hmne]; exact hgs2.keep (gS_m hbm.symm))
      have hge := (hgap.keep (sget_self be (.arr 6 [XEdge.d m.edges[k]]) _)).trans (congrArg (fun x => some (AObj.arr 6 [x])) (XEdge.d_eq m.edges[k]))
      have ho := hgap.oget
      have hd := hgap.sdel
      have hrl := rowsL_len m mks k hk
      have htk : List.take k (rowsL m mks k) = rowsL m mks k := List.take_of_length_le (by omega)
      have hnl : m.edges[k].needs.length < 2 ^ 30 := by
        have h1 := hsm.ins
        have h2 := hsm.impl
        have h3 := hsm.order
        unfold XEdge.needs; simp only [List.length_append]; omega
      have hpub : ∀ c, sget c (cellsOf oa 1 (rowsL m mks k) ++ (be, AObj.arr 6 [XEdge.d m.edges[k]]) :: (cellsOf os 1 ((List.range k).map nD) ++ gS b mb (.slc (m.edges.map XEdge.d)) (.slc (m.defs.map sD)) (.own oa 1 k) mks ρ)) = none → PubOK c (cellsOf oa 1 (rowsL m mks k) ++ (be, AObj.arr 6 [XEdge.d m.edges[k]]) :: (cellsOf os 1 ((List.range k).map nD) ++ gS b mb (.slc (m.edges.map XEdge.d)) (.slc (m.defs.map sD)) (.own oa 1 k) mks ρ)) := fun c hc => by
        obtain ⟨h1, h2⟩ := hgap.none_of hc
        obtain ⟨h3, h4⟩ := sget_none h1
        obtain ⟨h5, h6⟩ := hgs2.none_of h4
        have h7 : sget c ρ = none := by unfold gS at h5; exact (sget_none (sget_none h5).2).2
        exact .cells h2 (rowsL_pub m mks k c) (.cons h3 (fun _ _ => rfl) (.cells h6 (nD_pub _ c) (gS_pubOK h5 (fun _ _ => rfl) (fun _ _ => rfl) (fun _ _ => pub_other h2) (hρ2 c h7))))
      refine Gs.sq ?_
      refine Gs.draw [4, 11, 12, 13, 74, 75, 76] [90] [b, be] [13] [(0, true), (1, true), (2, true), (3, true), (4, true), (5, true), (6, true), (7, false), (8, false), (9, true), (10, false), (11, true), (12, true), (13, false)] (by kernel_rfl) (by decide) (by kernel_rfl) fun K hK => ?_; simp (maxSteps:=9^7) only [go_sem, hgb, hge]
      refine ⟨_, Tryz.call55, (needs_prog m.edges[k] _ hsm).mono ?_⟩
      rintro e σ1 ⟨rfl, rfl⟩
      simp only [go_sem, hgb, hge]
      refine ⟨_, Tryz.call54, (made_ptr_calls mks b mb _ _ _ m.edges[k].needs _ hgm hgb hnl hpub).mono ?_⟩
      rintro e σ1 ⟨rfl, rfl⟩
      simp only [go_sem, hgb, hge, ho, hd, htk]
      refine ⟨by decide, ⟨by omega, fun y hy => by subst hy; exact ⟨rfl, rfl⟩, by omega, by omega⟩, fun ob hz hf => ?_⟩
      rw [← rowsL_succ m mks k hltk] at hz ⊢
      have hgr2 : GrD ob 1 (rowsL m mks (k + 1)) _ := ⟨hf, hz⟩
      have hrl2 := rowsL_len m mks (k + 1) (by omega)
      have hgb2 := hgr2.keep (b := b) (by rw [sget_cons, if_neg hbne]; exact hgs2.keep gS_b)
      have hge2 := hgr2.keep (sget_self be (.arr 6 [XEdge.d m.edges[k]]) _)
      refine ⟨?_, ?_⟩
      · rintro b1 (rfl | rfl)
        · rw [hgb2, hgb]
        · rw [hge2, hge]; rfl
      have hbs0 : (sget b (gS b mb (.slc (m.edges.map XEdge.d)) (.slc (m.defs.map sD)) (.own oa 1 k) mks ρ)).isSome = true := by rw [gS_b]; rfl
      have hbs1 : (sget b (cellsOf os 1 ((List.range k).map nD) ++ gS b mb (.slc (m.edges.map XEdge.d)) (.slc (m.defs.map sD)) (.own oa 1 k) mks ρ)).isSome = true := by rw [hgs2.keep gS_b]; rfl
      have hbs2 : (sget b ((be, AObj.arr 6 [m.edges[k].d]) :: (cellsOf os 1 ((List.range k).map nD) ++ gS b mb (.slc (m.edges.map XEdge.d)) (.slc (m.defs.map sD)) (.own oa 1 k) mks ρ))).isSome = true := by rw [sget_cons, if_neg hbne]; exact hbs1
      have hss : sset b (.arr 4 [.agg [.slc (m.edges.map XEdge.d), .slc (m.defs.map sD), .map mb, .own ob 1 (rowsL m mks (k + 1)).length]]) (cellsOf ob 1 (rowsL m mks (k + 1)) ++ (be, AObj.arr 6 [m.edges[k].d]) :: (cellsOf os 1 ((List.range k).map nD) ++ gS b mb (.slc (m.edges.map XEdge.d)) (.slc (m.defs.map sD)) (.own oa 1 k) mks ρ))
          = cellsOf ob 1 (rowsL m mks (k + 1)) ++ (be, AObj.arr 6 [m.edges[k].d]) :: (cellsOf os 1 ((List.range k).map nD) ++ gS b mb (.slc (m.edges.map XEdge.d)) (.slc (m.defs.map sD)) (.own ob 1 (k + 1)) mks ρ) := by
        rw [hgr2.sset hbs2, sset_ne hbne, hgs2.sset hbs0, gS_sb, hrl2]
      have hgr3 := hgr2.ssetR b (.arr 4 [.agg [.slc (m.edges.map XEdge.d), .slc (m.defs.map sD), .map mb, .own ob 1 (k + 1)]])
      rw [sset_ne hbne, hgs2.sset hbs0, gS_sb] at hgr3
      have hgs3 := gS_grd (.slc (m.edges.map XEdge.d)) (.slc (m.defs.map sD)) (.own ob 1 (k + 1)) mks hgs2
      simp only [go_sem, hgb2, hss]
      refine hK _ _ ?_; clear hK K
      have hdr := hgr3.drop (b := be) (by
        have h6 := (hgs2.none_of hbe2).2
        cases os with
        | none => exact gS_none hbe3
        | some c =>
          show sget be ((c, _) :: _) = none
          rw [sget_cons, if_neg (fun e => h6 (by rw [e]))]
          exact gS_none hbe3)
      refine Gs.le (ELe.refl _) hdr.2 ?_
      obtain ⟨hgs4, hga4, hsw4⟩ := GrD.swap hdr.1 hgs3
      refine Gs.le (ELe.refl _) hsw4 ?_
      have ho4 := hgs4.oget
      have hd4 := hgs4.sdel
      have hrk : ((List.range k).map nD).length = k := by simp
      have htk4 : List.take k ((List.range k).map nD) = (List.range k).map nD := List.take_of_length_le (by omega)
      refine Gs.regionM [4, 11, 12, 74, 75, 76] [96] fun K hK => ?_; simp (maxSteps:=9^7) only [go_sem, ho4, hd4, htk4]
      refine ⟨by decide, ⟨by omega, fun y hy => by subst hy; exact ⟨rfl, rfl⟩, by omega, by omega⟩, fun ob2 hz hf => ?_⟩
      have hgs5 := hgs4.app hz hf
      have e2 : (List.range k).map nD ++ [D.v (.int .i64 (k : Int))] = (List.range (k + 1)).map nD := by rw [List.range_succ, List.map_append]; rfl
      rw [e2] at hgs5 ⊢
      refine hK _ _ ?_; clear hK K
      refine Gs.ib ?_
      refine Gs.rg [4, 11, 74, 75, 76] fun K hK => ?_; simp (maxSteps:=9^7) only [go_sem]
      refine hK _ _ ?_; clear hK K
      refine Gs.rebase [4, 11, 74, 75, 76] ?_
      simp only [go_sem]
      rw [wrap_succ k (by omega)]
      refine ih3 (k + 1) _ _ ⟨ob, ob2, ⟨by omega, hga4, hgs5⟩, ?_, ?_⟩ (by omega)
      · simp
      · rw [List.range_succ]
    · have hke : k = m.edges.length := by simp at h77; omega
      subst hke
      refine Gs.pubSlot 11 (o := os) (sz := 1) (xs := (List.range m.edges.length).map nD) (by simp [eget]) hgs (fun c hc => ?_) (by simp [D.pub]) ?_
      · obtain ⟨h5, h6⟩ := hga.none_of hc
        have h7 : sget c ρ = none := by unfold gS at h5; exact (sget_none (sget_none h5).2).2
        exact .cells h6 (rowsL_pub m mks _ c) (gS_pubOK h5 (fun _ _ => rfl) (fun _ _ => rfl) (fun _ _ => pub_other h6) (hρ2 c h7))
      refine Gs.rebase [4, 11] ?_
      simp only [go_sem]
      have hrl := rowsL_len m mks m.edges.length (Nat.le_refl _)
      refine Gs.pubRow (.slc (m.edges.map XEdge.d)) (.slc (m.defs.map sD)) (.slc (rowsL m mks m.edges.length)) hga (fun h => ⟨DLe.refl _, DLe.refl _, ?_⟩) (fun c h _ => ⟨rfl, rfl, ?_⟩) hρ2 (fun c => rfl) ?_
      · rw [hga.zero h, h]; exact DLe.own_slc _ _
      · subst h
        have := pub_own c 1 (rowsL m mks m.edges.length)
        rw [hrl] at this; exact this
      have hrows : rowsL m mks m.edges.length = (m.edges.map fun e => madeL mks e.needs).map fun l => .slc (l.map nD) := by
        unfold rowsL; rw [List.take_length, List.map_map]; rfl
      refine Gs.publishElt 4 b rfl gS_b ?_
      have hsp : ∀ xs, spub b 4 xs (gS b mb (.slc (m.edges.map XEdge.d)) (.slc (m.defs.map sD)) (.slc (rowsL m mks m.edges.length)) mks ρ) = (mb, AObj.mp (mkE mks)) :: ρ := fun xs => by
        simp only [gS, spub, if_true, if_neg hbm, mkE_pub, hρ2 b hb2 4 xs]
      have hep : ∀ xs, epub b 4 xs [(4, D.ptr b 4 0 0), (11, D.slc ((List.range m.edges.length).map nD))] = [(4, D.ptr b 4 0 0), (11, D.slc ((List.range m.edges.length).map nD))] := fun _ => rfl
      rw [hsp, hep, hrows]
      have hto2 := hto
      have hrk : ((List.range m.edges.length).map nD).length = m.edges.length := by simp
      have hol : ((orderL (m.edges.map fun e => madeL mks e.needs) (List.range m.edges.length)).map nD).length = (orderL (m.edges.map fun e => madeL mks e.needs) (List.range m.edges.length)).length := List.length_map ..
      have hnew : newG m = if (orderL (m.edges.map fun e => madeL mks e.needs) (List.range m.edges.length)).length < m.edges.length then .inl 12 else .inr ⟨m, mks, m.edges.map fun e => madeL mks e.needs⟩ := by
        unfold newG; rw [hto]
      refine Gs.exit rfl ?_
      refine Gs.sq (Gs.sq ?_)
      refine Gs.rg [4, 11] fun K hK => ?_; simp (maxSteps:=9^7) only [go_sem]
      refine ⟨_, Tryz.call56, (order_calls (.slc (m.edges.map XEdge.d)) (.slc (m.defs.map sD)) (.map mb) (m.edges.map fun e => madeL mks e.needs) (List.range m.edges.length) _ (by simp; omega) (fun n hn => by simpa using hn) (fun l hl2 => by
        obtain ⟨e, he, rfl⟩ := List.mem_map.1 hl2
        have h0 := madeL_len mks e.needs e.needs.length (Nat.le_refl _)
        rw [List.take_length] at h0
        have h1 := (hs e he).ins
        have h2 := (hs e he).impl
        have h3 := (hs e he).order
        unfold XEdge.needs at *; simp only [List.length_append] at h0; omega)).mono ?_⟩
      rintro e σ1 ⟨rfl, rfl⟩
      simp only [go_sem, hrk, hol]
      refine hK _ _ ?_; clear hK K
      refine Gs.cond rfl (fun h105 => ?_) (fun h105 => ?_)
      · have hlt12 : (orderL (m.edges.map fun e => madeL mks e.needs) (List.range m.edges.length)).length < m.edges.length := by simpa using h105
        refine Gs.sq (Gs.rg [] fun K hK => ?_); simp (maxSteps:=9^7) only [go_sem]
        refine hK _ _ ?_; clear hK K
        refine Gs.ret hC Tryz.func20 (by simp [go_sem]) ?_
        simp only [go_sem]
        rw [hnew, if_pos hlt12]
        rfl
      · have hlt12 : ¬ (orderL (m.edges.map fun e => madeL mks e.needs) (List.range m.edges.length)).length < m.edges.length := by simpa using h105
        refine Gs.sk ?_
        refine Gs.sq (Gs.rg [4] fun K hK => ?_); simp (maxSteps:=9^7) only [go_sem]
        refine hK _ _ ?_; clear hK K
        refine Gs.ret hC Tryz.func20 (by simp [go_sem]) ?_
        simp only [go_sem]
        rw [hnew, if_neg hlt12]
        exact ⟨mb, rfl, sget_self ..⟩
end Go.Ab.S16
namespace Go.Ab
open Go Go.RowKit Go.Sort
variable {P : Program} {f : FuncId} {args : List D} {σ : Store} {α : Type} [Inhabited α]
theorem put_heap (enc : α → Value) (w : World) (b n : Nat) (d : Array α) (os : Array Obj) (k : Nat) (hk : k < w.heap.size) :
    (grow (putRow enc (Sort.ahead w n) b 0 d) os).heap[k]? = if b = k then (w.heap[k]?).map (onCells (putCells enc 0 d)) else w.heap[k]? := by
  unfold grow putRow mapBlock
  show (w.heap.modify b (onCells (putCells enc 0 d)) ++ os)[k]? = _
  rw [Array.getElem?_append_left (by simpa using hk), Array.getElem?_modify]
theorem put_sim {w : World} {S : Nat → Prop} {b : Nat} {xs : List Value} (enc : α → Value) (hS : SOk w S) (hst : RepStore w S σ) (hb : sget b σ = some (.arr 1 (xs.map D.v))) (d : Array α) (hd : d.size = xs.length) (h1 : ∀ x : α, (enc x).oneCell' = true) (n : Nat) (os : Array Obj) :
    RepStore (grow (putRow enc (Sort.ahead w n) b 0 d) os) S (sset b (.arr 1 ((d.toList.map enc).map D.v)) σ) ∧ Fr w S (sdom σ) (grow (putRow enc (Sort.ahead w n) b 0 d) os) S (sset b (.arr 1 ((d.toList.map enc).map D.v)) σ) := by
  obtain ⟨hbS, c, e, lo, hi, vals, hh, hr, hcv, hsz, hfz⟩ := hst b _ hb
  have hbl : b < w.heap.size := (Array.getElem?_eq_some_iff.1 hh).1
  have hvl : vals = xs := by rw [flat_v] at hr; exact hr.v_inv
  subst hvl
  have hsz2 : w.heap.size ≤ (grow (putRow enc (Sort.ahead w n) b 0 d) os).heap.size := by
    unfold grow putRow mapBlock
    show w.heap.size ≤ (w.heap.modify b _ ++ os).size
    simp
  have hblk : ∀ k, k < w.heap.size → k ≠ b → (grow (putRow enc (Sort.ahead w n) b 0 d) os).heap[k]? = w.heap[k]? := fun k hk hkb => by
    rw [put_heap enc w b n d os k hk, if_neg (Ne.symm hkb)]
  have hnew : (grow (putRow enc (Sort.ahead w n) b 0 d) os).heap[b]? = some (.cells (putCells enc 0 d c) e (lo, hi)) := by
    rw [put_heap enc w b n d os b hbl, if_pos rfl, hh]; rfl
  have hcs : (putCells enc 0 d c).size = c.size := by simp [putCells]
  have hsh : Shape w (grow (putRow enc (Sort.ahead w n) b 0 d) os) := fun k c' e' fr h => by
    by_cases hkb : k = b
    · subst hkb
      rw [hh] at h
      cases h
      exact ⟨_, _, hnew, hcs⟩
    · exact ⟨c', fr, (hblk k (Array.getElem?_eq_some_iff.1 h).1 hkb).trans h, rfl⟩
  have hE : Ev w S (grow (putRow enc (Sort.ahead w n) b 0 d) os) S := ⟨fun _ h => h, fun k hk => hblk k (hS.lt k hk) (fun e => hbS (e ▸ hk)), hsh⟩
  refine ⟨fun k o hk => ?_, ⟨rfl, rfl, rfl, hsz2, hsh, fun k hk hd => hblk k hk (fun e => hd (by rw [e]; unfold sdom; rw [hb]; simp)), fun _ h => h, fun _ h => .inl h, fun k hk => ?_, fun k hk => Nat.lt_of_lt_of_le (hS.lt k hk) hsz2⟩⟩
  · rw [sget_sset] at hk
    split at hk
    · rename_i hkb
      subst hkb
      rw [hb] at hk
      cases hk
      refine ⟨hbS, putCells enc 0 d c, e, lo, hi, d.toList.map enc, hnew, ?_, ?_, ?_, by rw [hcs]; exact hfz⟩
      · rw [flat_v]
        exact repL_v _ (by simp [List.all_map, h1])
      · intro j x hj
        rw [List.getElem?_map] at hj
        obtain ⟨y, hy, rfl⟩ := Option.map_eq_some_iff.1 hj
        have hjl : j < d.size := by
          have := (List.getElem?_eq_some_iff.1 hy).1
          simpa using this
        have hjc : j < c.size := by
          have h3 := hcv j (vals[j]'(by omega)) (List.getElem?_eq_getElem (by omega))
          exact (Array.getElem?_eq_some_iff.1 h3).1
        simp only [putCells, Array.getElem?_mapIdx]
        rw [Array.getElem?_eq_getElem hjc]
        simp only [Option.map_some, Option.some.injEq]
        rw [if_pos ⟨Nat.zero_le _, by omega⟩, Nat.sub_zero, getElem!_pos d j hjl]
        have : d[j] = y := by
          have := List.getElem?_eq_some_iff.1 hy
          obtain ⟨h5, h6⟩ := this
          simpa using h6
        rw [this]
      · intro x hx
        obtain ⟨y, _, rfl⟩ := List.mem_map.1 hx
        rfl
    · rename_i hkb
      have h2 := hst k o hk
      exact ⟨h2.1, h2.2.ev hE (hblk k h2.2.lt hkb)⟩
  · unfold sdom at *
    rw [sget_sset] at hk
    split at hk
    · rename_i hkb
      subst hkb
      rw [hb]; exact .inl (by simp)
    · exact .inl hk
theorem put_holds {w : World} {S : Nat → Prop} {b : Nat} {xs : List α} (enc : α → Value) (hst : RepStore w S σ) (hb : sget b σ = some (.arr 1 ((xs.map enc).map D.v))) : Holds enc w b 0 xs.toArray ∧ b < w.heap.size := by
  obtain ⟨hbS, c, e, lo, hi, vals, hh, hr, hcv, hsz, hfz⟩ := hst b _ hb
  have hbl : b < w.heap.size := (Array.getElem?_eq_some_iff.1 hh).1
  have hvl : vals = xs.map enc := by rw [flat_v] at hr; exact hr.v_inv
  subst hvl
  refine ⟨fun j hj => ?_, hbl⟩
  have hj2 : j < xs.length := by simpa using hj
  have hc := hcv j (enc xs[j]) (by rw [List.getElem?_map, List.getElem?_eq_getElem hj2]; rfl)
  refine ⟨?_, ?_⟩
  · rw [cells_of_row hh, Nat.zero_add, hc, getElem!_pos xs.toArray j hj]
    simp
  · have hjc : j < c.size := (Array.getElem?_eq_some_iff.1 hc).1
    simp only [World.frozen?, hh, Nat.zero_add]
    rcases hfz with h | h
    · simp; omega
    · simp; omega
def putRet (b : Nat) : Option Nat → D
  | some k => .own (some b) 1 k
  | none => .tup []
def putVal (b cap : Nat) : Option Nat → Value
  | some k => .slice (some ⟨b, 0, none⟩) k cap
  | none => .tuple #[]
theorem AC.of_put {b : Nat} {xs : List α} (enc : α → Value) (h1 : ∀ x : α, (enc x).oneCell' = true) (hb : sget b σ = some (.arr 1 ((xs.map enc).map D.v))) (ys : List α) (hy : ys.length = xs.length) (m : Option Nat) (hm : ∀ k, m = some k → k ≤ xs.length)
    (h : ∀ (w : World) (cap : Nat), Holds enc w b 0 xs.toArray → b < w.heap.size → xs.length ≤ cap → Calls P f #[.slice (some ⟨b, 0, none⟩) xs.length cap] w fun e w' => e = .returned (putVal b cap m) ∧ ∃ n os, w' = grow (putRow enc (Sort.ahead w n) b 0 ys.toArray) os) :
    AC P f [.own (some b) 1 xs.length] σ (fun e σ' => e = .ret (putRet b m) ∧ σ' = sset b (.arr 1 ((ys.map enc).map D.v)) σ) := by
  intro w S vs hS hst hr
  obtain ⟨v, vs, rfl, h2, h3⟩ := hr.cons_inv
  obtain rfl := h3.nil_inv
  obtain ⟨hH, hbl⟩ := put_holds enc hst hb
  cases h2 with
  | own hh hn hc hmx =>
    rename_i cap c e fr
    refine (h w cap hH hbl hn).mono ?_
    rintro e w' ⟨rfl, n, os, rfl⟩
    obtain ⟨hst', hfr⟩ := put_sim enc hS hst hb ys.toArray (by simpa using hy) h1 n os
    refine ⟨.ret (putRet b m), _, S, ⟨rfl, rfl⟩, ?_, hst', hfr⟩
    cases m with
    | none => exact .tup .nil
    | some k =>
      have hnew : (grow (putRow enc (Sort.ahead w n) b 0 ys.toArray) os).heap[b]? = some (.cells (putCells enc 0 ys.toArray c) e fr) := by
        rw [put_heap enc w b n ys.toArray os b hbl, if_pos rfl, hh]; rfl
      have hk := hm k rfl
      exact .own hnew (by omega) (by simp only [putCells, Array.size_mapIdx]; omega) hmx
theorem RepL.append_inv {w : World} {S : Nat → Prop} : ∀ {ds es : List D} {vs : List Value}, RepL w S (ds ++ es) vs → ∃ xs ys, vs = xs ++ ys ∧ RepL w S ds xs ∧ RepL w S es ys
  | [], _, vs, h => ⟨[], vs, rfl, .nil, h⟩
  | d :: ds, es, vs, h => by
    obtain ⟨x, xs, rfl, h1, h2⟩ := RepL.cons_inv (ds := ds ++ es) h
    obtain ⟨ys, zs, rfl, h3, h4⟩ := RepL.append_inv h2
    exact ⟨x :: ys, zs, rfl, .cons h1 h3, h4⟩
theorem AC.cut {R R' : AEnd → Store → Prop} (h : AC P f args σ R) (hr : ∀ e σ', R e σ' → R' e σ' ∨ ∃ b sz xs zs ρ, σ' = (b, .arr sz (xs ++ zs)) :: ρ ∧ R' e ((b, .arr sz xs) :: ρ)) : AC P f args σ R' := by
  intro w S vs hS hst hv
  refine (h w S vs hS hst hv).mono ?_
  rintro e w' ⟨ae, σ', S', hR, hend, hst', hfr⟩
  rcases hr ae σ' hR with hR' | ⟨b, sz, xs, zs, ρ, rfl, hR'⟩
  · exact ⟨ae, σ', S', hR', hend, hst', hfr⟩
  · refine ⟨ae, _, S', hR', hend, fun k o hk => ?_, { hfr with dom := fun k hk => hfr.dom k ?_ }⟩
    · rw [sget_cons] at hk
      split at hk
      · rename_i hkb
        cases hk
        obtain ⟨h1, c, e', lo, hi, vals, h2, h3, h4, h5, h6⟩ := hst' k (.arr sz (xs ++ zs)) (by rw [sget_cons, if_pos hkb])
        rw [flat_append] at h3
        obtain ⟨v1, v2, rfl, r1, r2⟩ := h3.append_inv
        refine ⟨h1, c, e', lo, hi, v1, h2, r1, fun j x hj => h4 j x ?_, fun x hx => h5 x (List.mem_append_left _ hx), h6⟩
        rw [List.getElem?_append_left (List.getElem?_eq_some_iff.1 hj).1]; exact hj
      · rename_i hkb
        exact hst' k o (by rw [sget_cons, if_neg hkb]; exact hk)
    · unfold sdom at *
      rw [sget_cons] at hk ⊢
      split at hk <;> simp_all
end Go.Ab
namespace Go.Ab.S16
open Go Go.Proofs Go.RowKit Go.Maps Go.Sort Go.Shelf
def bL (s : ByteArray) : List UInt8 := s.data.toList
def lB (l : List UInt8) : ByteArray := ⟨l.toArray⟩
theorem lB_bL (s : ByteArray) : lB (bL s) = s := by cases s; rfl
theorem bL_lB (l : List UInt8) : bL (lB l) = l := rfl
def sortB (l : List ByteArray) : List ByteArray := (isort leB (l.map bL)).map lB
theorem leB_iff (a b : List UInt8) : leB a b = true ↔ a ≤ b := by simp [leB]
theorem leB_tr (a b c : List UInt8) (h1 : leB a b = true) (h2 : leB b c = true) : leB a c = true := by simp only [leB, decide_eq_true_eq] at *; exact List.le_trans h1 h2
theorem leB_tot (a b : List UInt8) : (leB a b || leB b a) = true := by simp only [leB, Bool.or_eq_true, decide_eq_true_eq]; exact List.le_total a b
theorem leB_anti (a b : List UInt8) (h1 : leB a b = true) (h2 : leB b a = true) : a = b := by simp only [leB, decide_eq_true_eq] at *; exact List.le_antisymm h1 h2
theorem isortB_eq (l : List (List UInt8)) : l.mergeSort leB = isort leB l := isort_eq leB_tr leB_tot leB_anti l
def compactB (l : List ByteArray) : List ByteArray := (Lib.compact (l.map bL)).map lB
theorem encS (l : List ByteArray) : ((l.map bL).map encStr).map D.v = l.map sD := by
  rw [List.map_map, List.map_map]
  refine List.map_congr_left fun s _ => ?_
  show D.v (.string (lB (bL s))) = _
  rw [lB_bL]; rfl
theorem encS2 (l : List (List UInt8)) : (l.map encStr).map D.v = (l.map lB).map sD := by
  rw [List.map_map, List.map_map]
  rfl
theorem sortB_len (l : List ByteArray) : (sortB l).length = l.length := by unfold sortB; rw [List.length_map, (isort_perm _).length_eq, List.length_map]
theorem sort_own (o : Option Nat) (l : List ByteArray) (ρ : Store) (hg : GrD o 1 (l.map sD) ρ) (hl : l.length < 2 ^ 40) :
    AC Tryz.prog 94 [.own o 1 l.length] (cellsOf o 1 (l.map sD) ++ ρ) (fun e σ' => e = .ret (.tup []) ∧ σ' = cellsOf o 1 ((sortB l).map sD) ++ ρ) := by
  cases o with
  | none =>
    have : l = [] := by have := hg.zero rfl; simpa using this
    subst this
    intro w S vs hS hst hr
    obtain ⟨v, vs, rfl, h2, h3⟩ := hr.cons_inv
    obtain rfl := h3.nil_inv
    cases h2 with
    | own0 =>
    refine (Tryz.slices_Sort_string_none _ _ w).mono ?_
    rintro e w' ⟨rfl, rfl⟩
    exact ⟨.ret (.tup []), _, S, ⟨rfl, rfl⟩, .tup .nil, hst, Fr.refl _ hS.lt⟩
  | some b =>
    have h := AC.of_put (P := Tryz.prog) (f := 94) (b := b) (xs := l.map bL) (σ := (b, .arr 1 (l.map sD)) :: ρ) encStr (fun _ => rfl) (by rw [encS, sget_self]) ((l.map bL).mergeSort leB) (by simp) none (fun _ h => by cases h) (fun w cap hH hb _ => Tryz.slices_Sort_string b 0 cap _ w hH hb (by simp; omega))
    rw [List.length_map] at h
    refine h.mono ?_
    rintro e σ' ⟨rfl, rfl⟩
    refine ⟨rfl, ?_⟩
    rw [isortB_eq, encS2, sset_self]
    rfl
theorem compact_own (o : Option Nat) (l : List ByteArray) (ρ : Store) (hg : GrD o 1 (l.map sD) ρ) (hl : l.length < 2 ^ 40) :
    AC Tryz.prog 98 [.own o 1 l.length] (cellsOf o 1 (l.map sD) ++ ρ) (fun e σ' => ∃ zs : List ByteArray, e = .ret (.own o 1 (compactB l).length) ∧ σ' = cellsOf o 1 ((compactB l ++ zs).map sD) ++ ρ ∧ GrD o 1 ((compactB l ++ zs).map sD) ρ) := by
  cases o with
  | none =>
    have : l = [] := by have := hg.zero rfl; simpa using this
    subst this
    intro w S vs hS hst hr
    obtain ⟨v, vs, rfl, h2, h3⟩ := hr.cons_inv
    obtain rfl := h3.nil_inv
    cases h2 with
    | own0 =>
    refine (Tryz.slices_Compact_string_empty _ _ w).mono ?_
    rintro e w' ⟨rfl, rfl⟩
    exact ⟨.ret (.own none 1 0), _, S, ⟨[], rfl, rfl, hg⟩, .own0, hst, Fr.refl _ hS.lt⟩
  | some b =>
    have hle : (Lib.compact (l.map bL)).length ≤ l.length := by
      unfold Lib.compact Lib.compactUpTo
      rw [List.length_map]
      exact Nat.le_trans (List.length_filter_le ..) (by simp)
    have h := AC.of_put (P := Tryz.prog) (f := 98) (b := b) (xs := l.map bL) (σ := (b, .arr 1 (l.map sD)) :: ρ) encStr (fun _ => rfl) (by rw [encS, sget_self]) (Lib.compact (l.map bL) ++ List.replicate ((l.map bL).length - (Lib.compact (l.map bL)).length) []) (by simp; omega) (some (Lib.compact (l.map bL)).length) (fun k h => by cases h; rw [List.length_map]; exact hle) (fun w cap hH hb hcap => (Tryz.slices_Compact_string b 0 cap _ w hH (by simp; omega) hcap).mono fun e w' ⟨h1, q, h2⟩ => ⟨h1, q, #[], by rw [h2, grow_empty]⟩)
    rw [List.length_map] at h
    refine h.mono ?_
    rintro e σ' ⟨rfl, rfl⟩
    refine ⟨(List.replicate (l.length - (Lib.compact (l.map bL)).length) []).map lB, ?_, ?_, ⟨hg.fresh, nofun⟩⟩
    · simp [putRet, compactB]
    · rw [encS2, sset_self, List.map_append]
      rfl
theorem sortsS (m : Nat) : AnyZ.SortsIn Tryz.prog Tryz.sortedS_ren Fence.wide m :=
  ⟨fun blk off cap ss W hH hblk hsz => callsIn_wide.2 (AnyM.slices_Sort_string Tryz.sortS blk off cap ss W hH hblk hsz),
   fun p cap W => callsIn_wide.2 (AnyM.slices_Sort_string_none Tryz.sortS p cap W)⟩
theorem keysS_calls (db : Nat) (σ : Store) :
    AC Tryz.prog 96 [.map db] σ (fun e σ' => ∃ bk, sget bk σ = none ∧ e = .ret (.clo (.func 126) [] [.ptr bk 1 0 0]) ∧ σ' = (bk, .arr 1 [.map db]) :: σ) := by
  refine AC.of_body Tryz.func96 rfl Tryz.ntmps96 (by simp) fun C hC => ?_
  refine Gs.sq (Gs.rg [0] fun K hK => ?_); simp (maxSteps:=9^7) only [go_sem]
  intro bk hbk
  refine hK _ _ ?_; clear hK K
  refine Gs.sq (Gs.rg [1] fun K hK => ?_); simp (maxSteps:=9^7) only [go_sem]
  refine hK _ _ ?_; clear hK K
  refine Gs.ret hC Tryz.func96 (by simp [go_sem]) ?_
  simp only [go_sem]
  exact ⟨bk, hbk, rfl, rfl⟩
theorem mkE_keys (mks : List (ByteArray × Nat)) : (mkE mks).map (·.1) = mks.map fun p => Value.string p.1 := by unfold mkE; rw [List.map_map]; rfl
theorem sortedS_own (bk db : Nat) (mks : List (ByteArray × Nat)) (σ : Store) (hk : sget bk σ = some (.arr 1 [.map db])) (hd : sget db σ = some (.mp (mkE mks))) (hnd : (mks.map (·.1)).Nodup) (hl : mks.length < 2 ^ 30) (hB : ∀ p ∈ mks, p.1.size ≤ maxLen) :
    AC Tryz.prog 95 [.clo (.func 126) [] [.ptr bk 1 0 0]] σ
      (fun e σ' => ∃ o xs, (xs = (isort leB ((mks.map (·.1)).map bL)).map encStr) ∧ GrD o 1 (xs.map .v) σ ∧ e = .ret (.own o 1 (xs.map D.v).length) ∧ σ' = cellsOf o 1 (xs.map .v) ++ σ) := by
  refine AC.of_row (e0 := 9) fun w S vs hS hst hr => ?_
  obtain ⟨v1, vs1, rfl, h1, h2⟩ := hr.cons_inv
  obtain rfl := h2.nil_inv
  cases h1 with
  | clo hf hc =>
  obtain rfl := hf.nil_inv
  obtain ⟨v1, vs1, rfl, h1, h2⟩ := hc.cons_inv
  obtain rfl := h2.nil_inv
  cases h1 with
  | ptr =>
  obtain ⟨hkS, hk2⟩ := hst bk _ hk
  obtain ⟨cK, eK, lo, hi, vals, hhk, hrk, hck, _, _⟩ := hk2
  obtain ⟨y, ys, rfl, hy, hys⟩ := RepL.cons_inv (d := .map db) (ds := []) hrk
  cases hy with
  | map =>
  obtain rfl := hys.nil_inv
  have hbk : bk < w.heap.size := (Array.getElem?_eq_some_iff.1 hhk).1
  have hcell : w.cell? ⟨bk, 0, none⟩ = some (.map (some db)) := by
    have := hck 0 _ rfl
    simp [World.cell?, hhk, this]
  obtain ⟨hdS, hd2⟩ := hst db _ hd
  obtain ⟨L, hown, hperm⟩ := ownsSet (P := Tryz.prog) (k := 9) (w := w) litOf (fun e he => by
    obtain ⟨p, hp, rfl⟩ := List.mem_map.1 he
    exact WideMaps.keyOf_string_mk Tryz.underlying9 (hB p hp)) (by
      rw [mkE_keys]
      have h3 : mks.map (fun p => Value.string p.1) = (mks.map (·.1)).map Value.string := by rw [List.map_map]; rfl
      rw [h3]
      exact List.pairwise_map.2 (hnd.imp fun {a b} hab e => hab (by simpa using e))) (by simp [mkE, maxLen]; omega) hd2
  have hsz : Maps.size (DataW.map L) = mks.length := by
    have := hperm.length_eq
    rw [List.length_map, List.length_map] at this
    show L.length = _
    rw [this]; simp [mkE]
  have hik : (strKeys (DataW.map L)).Perm ((mks.map (·.1)).map bL) := by
    have h1 := hperm.map strOf
    rw [List.map_map] at h1
    refine h1.trans ?_
    unfold mkE
    rw [List.map_map, List.map_map, List.map_map]
    exact List.Perm.refl _
  have hseq : SeqGives Fence.wide 2 Tryz.prog 126 #[.pointer (some ⟨bk, 0, none⟩)] encStr (fun ss => ss.Perm (strKeys (DataW.map L))) (Maps.size (DataW.map L)) w :=
    AnyZ.keys_gives (ρ := Tryz.keysS_ren) { Tryz.keysS with } Fence.wide _ trivial rfl (by omega) bk db _ (DataW.map L) w hbk hcell hown
  have cS := AnyZ.sorted_in Tryz.sortedS Fence.wide 5 trivial trivial trivial trivial rfl (by omega) (sortsS _) (enters_of Tryz.func94 (by kernel_rfl) rfl) 126 #[.pointer (some ⟨bk, 0, none⟩)] trivial (enters_of Tryz.func126 (by kernel_rfl) rfl) _ _ (by rw [hsz]; unfold maxLen; omega) (by rw [hsz]; omega) _ hseq
  change CallsIn _ _ Tryz.prog 95 _ _ _ at cS
  rw [show (0 : Nat) * 1 + 0 = 0 from rfl]
  refine (callsIn_wide.1 cS).mono ?_
  rintro e w' ⟨v, ss, rfl, hS', hrow, hnil, hb⟩
  have hss : ss.mergeSort leB = isort leB ((mks.map (·.1)).map bL) := (mergeSort_of_perm (hS'.trans hik)).trans (isortB_eq _)
  refine ⟨v, _, rfl, ?_, ?_, rfl, hb⟩
  · have e1 : ((isort leB ((mks.map (·.1)).map bL)).map encStr).length = ss.length := by rw [← hss]; simp
    rw [e1, ← hss]
    exact hrow
  · rw [List.all_eq_true]
    intro x hx
    obtain ⟨y, _, rfl⟩ := List.mem_map.1 hx
    rfl
theorem GrD.re {o : Option Nat} {sz : Nat} {xs ys : List D} {ρ : Store} (h : GrD o sz xs ρ) (hxy : xs = [] → ys = []) : GrD o sz ys ρ := ⟨h.fresh, fun e => hxy (h.zero e)⟩
theorem compact_cut (o : Option Nat) (l : List ByteArray) (ρ : Store) (hg : GrD o 1 (l.map sD) ρ) (hl : l.length < 2 ^ 40) :
    AC Tryz.prog 98 [.own o 1 l.length] (cellsOf o 1 (l.map sD) ++ ρ) (fun e σ' => e = .ret (.own o 1 (compactB l).length) ∧ σ' = cellsOf o 1 ((compactB l).map sD) ++ ρ ∧ GrD o 1 ((compactB l).map sD) ρ) := by
  refine (compact_own o l ρ hg hl).cut ?_
  rintro e σ' ⟨zs, rfl, rfl, hgr⟩
  cases o with
  | none =>
    have hz := hgr.zero rfl
    rw [List.map_append, List.append_eq_nil_iff] at hz
    exact .inl ⟨rfl, rfl, ⟨nofun, fun _ => hz.1⟩⟩
  | some b => exact .inr ⟨b, 1, (compactB l).map sD, zs.map sD, ρ, by rw [← List.map_append]; rfl, rfl, rfl, ⟨hgr.fresh, nofun⟩⟩
theorem deleteFunc_str0 (g : FuncId) (caps : List D) (p : ByteArray → Bool) (ρ : Store) (ht : Tests caps g p [] ρ) :
    AC Tryz.prog 71 [.own none 1 0, .clo (.func g) [] caps] ρ (fun e σ' => e = .ret (.own none 1 0) ∧ σ' = ρ) := by
  have hix := (indexFunc_str [] g caps p ρ (by simp) ht).args_le (args := [.own none 1 0, .clo (.func g) [] caps]) (fun w S vs h => by
    obtain ⟨v, vs, rfl, h1, h2⟩ := h.cons_inv
    exact .cons (DLe.own_slc _ _ _ _ _ h1) h2)
  refine AC.of_body Tryz.func71 rfl Tryz.ntmps71 (by simp) fun C hC => ?_
  refine Gs.sq (Gs.rg [0, 1] fun K hK => ?_); simp (maxSteps:=9^7) only [go_sem]
  refine hK _ _ ?_; clear hK K
  refine Gs.sq (Gs.rg [0, 1] fun K hK => ?_); simp (maxSteps:=9^7) only [go_sem]
  refine ⟨_, Tryz.call74, hix.mono ?_⟩
  rintro e σ1 ⟨rfl, rfl⟩
  simp only [go_sem]
  refine hK _ _ ?_; clear hK K
  refine Gs.sq (Gs.sq ?_)
  refine Gs.rg [0, 1, 5] fun K hK => ?_; simp (maxSteps:=9^7) only [go_sem]
  refine hK _ _ ?_; clear hK K
  refine Gs.condT rfl ?_
  refine Gs.sq (Gs.rg [0] fun K hK => ?_); simp (maxSteps:=9^7) only [go_sem]
  refine hK _ _ ?_; clear hK K
  refine Gs.ret hC Tryz.func71 (by simp [go_sem]) ?_
  simp only [go_sem]
theorem deleteFunc_strG (o : Option Nat) (l : List ByteArray) (g : FuncId) (caps : List D) (p : ByteArray → Bool) (ρ : Store) (hl : l.length < 2 ^ 40) (hg : GrD o 1 (l.map sD) ρ) (ht : ∀ τ, SLe ρ τ → Tests caps g p l τ) :
    AC Tryz.prog 71 [.own o 1 l.length, .clo (.func g) [] caps] (cellsOf o 1 (l.map sD) ++ ρ)
      (fun e σ' => e = .ret (.own o 1 (kept p l).length) ∧ σ' = cellsOf o 1 ((kept p l).map sD) ++ ρ ∧ GrD o 1 ((kept p l).map sD) ρ) := by
  cases o with
  | none =>
    have : l = [] := by have := hg.zero rfl; simpa using this
    subst this
    refine (deleteFunc_str0 g caps p ρ (ht ρ (SLe.refl ρ))).mono ?_
    rintro e σ' ⟨rfl, rfl⟩
    exact ⟨rfl, rfl, GrD.nil _ _⟩
  | some b =>
    refine (deleteFunc_str b l g caps p ρ hl (hg.fresh b rfl) ht).cut ?_
    rintro e σ' ⟨rfl, k, rfl⟩
    exact .inr ⟨b, 1, _, _, ρ, rfl, rfl, rfl, ⟨hg.fresh, nofun⟩⟩
theorem edge_calls (g : XGr) (mb n : Nat) (σ : Store) (hn : n < g.man.edges.length) (hl : g.man.edges.length < 2 ^ 30) (hs : ∀ e ∈ g.man.edges, e.small) :
    AC Tryz.prog 35 [g.d mb, nD n] σ (fun e σ' => e = .ret (g.man.edges[n].d) ∧ σ' = σ) := by
  refine AC.still ?_ σ
  refine AC.forget (R := fun e _ => e = .ret (g.man.edges[n].d)) ?_ fun e σ' h => ⟨[], SLe.nil _, h, rfl⟩
  unfold XGr.d XGr.cells
  have hll : (g.man.edges.map XEdge.d).length = g.man.edges.length := List.length_map ..
  have hg := getD_map_lt XEdge.d g.man.edges n hn
  rw [XEdge.d] at hg
  have hi0 : (0 : Int) ≤ (n : Int) := by omega
  have hi1 : (n : Int) < ((g.man.edges.map XEdge.d).length : Int) := by omega
  have hz : decide ((n : Int) < 0) = false := by simp
  have hz2 : decide ((n : Int) ≥ (g.man.edges.length : Int)) = false := by simp; omega
  refine AC.of_body Tryz.func35 rfl Tryz.ntmps35 (by simp) fun C hC => ?_
  refine Gs.sq (Gs.rg [0, 1] fun K hK => ?_); simp (maxSteps:=9^7) only [go_sem]
  intro b4
  refine hK _ _ ?_; clear hK K
  refine Gs.sq (Gs.sq ?_)
  refine Gs.rg [0, 1, 4] fun K hK => ?_; simp (maxSteps:=9^7) only [go_sem, nD, hll, hz, hz2]
  refine hK _ _ ?_; clear hK K
  refine Gs.condF rfl ?_
  refine Gs.sk ?_
  refine Gs.sq (Gs.rg [0, 1, 4] fun K hK => ?_); simp (maxSteps:=9^7) only [go_sem, nD, hg, hi0, hi1]
  refine ⟨_, Tryz.call53, (copied_calls g.man.edges[n] _ (hs _ (List.getElem_mem hn))).mono ?_⟩
  rintro e σ1 ⟨rfl, rfl⟩
  simp only [go_sem, XEdge.d_eq g.man.edges[n]]
  refine hK _ _ ?_; clear hK K
  refine Gs.ret hC Tryz.func35 (by simp [go_sem]) ?_
  simp only [go_sem]
  rfl
def usedTo (m : XMan) (i : Nat) : List ByteArray := (m.edges.take i).flatMap XEdge.needs
def usedL (m : XMan) : List ByteArray := compactB (sortB (m.edges.flatMap XEdge.needs))
theorem usedTo_succ (m : XMan) (i : Nat) (h : i < m.edges.length) : usedTo m (i + 1) = usedTo m i ++ m.edges[i].needs := by
  unfold usedTo
  rw [List.take_succ_eq_append_getElem h, List.flatMap_append]
  simp
theorem needs_len (e : XEdge) (h : e.small) : e.needs.length ≤ 30 := by
  have h1 := h.ins
  have h2 := h.impl
  have h3 := h.order
  unfold XEdge.needs; simp only [List.length_append]; omega
theorem usedTo_len (m : XMan) (hs : ∀ e ∈ m.edges, e.small) : ∀ i, i ≤ m.edges.length → (usedTo m i).length ≤ 30 * i
  | 0, _ => by simp [usedTo]
  | i + 1, h => by
    have h1 := usedTo_len m hs i (by omega)
    have h2 := needs_len m.edges[i] (hs _ (List.getElem_mem (by omega)))
    rw [usedTo_succ m i (by omega), List.length_append]; omega
theorem used_own (g : XGr) (mb : Nat) (σ : Store) (hl : g.man.edges.length < 2 ^ 20) (hs : ∀ e ∈ g.man.edges, e.small) :
    AC Tryz.prog 70 [g.d mb] σ (fun e σ' => ∃ o, GrD o 1 ((usedL g.man).map sD) σ ∧ e = .ret (.own o 1 (usedL g.man).length) ∧ σ' = cellsOf o 1 ((usedL g.man).map sD) ++ σ) := by
  unfold XGr.d XGr.cells
  have hll : (g.man.edges.map XEdge.d).length = g.man.edges.length := List.length_map ..
  refine AC.of_body Tryz.func70 rfl Tryz.ntmps70 (by simp) fun C hC => ?_
  refine Gs.sq (Gs.rg [0] fun K hK => ?_); simp (maxSteps:=9^7) only [go_sem]
  refine hK _ _ ?_; clear hK K
  refine Gs.sq (Gs.rg [0] fun K hK => ?_); simp (maxSteps:=9^7) only [go_sem]
  refine hK _ _ ?_; clear hK K
  refine Gs.sq (Gs.sq ?_)
  refine Gs.rg [0, 3] fun K hK => ?_; simp (maxSteps:=9^7) only [go_sem, hll]
  refine hK _ _ ?_; clear hK K
  refine Gs.bk ?_
  refine Gs.nilOwn 3 1 rfl ?_
  refine Gs.rebase [3, 10, 11, 12] ?_
  simp only [go_sem]
  refine Gs.while (fun (i : Nat) env' σ'' => ∃ o : Option Nat, (i ≤ g.man.edges.length ∧ GrD o 1 ((usedTo g.man i).map sD) σ) ∧ env' = [(3, .own o 1 (usedTo g.man i).length), (10, .slc (g.man.edges.map XEdge.d)), (11, .v (.int .i64 (g.man.edges.length : Int))), (12, .v (.int .i64 (i : Int)))] ∧ σ'' = cellsOf o 1 ((usedTo g.man i).map sD) ++ σ) (fun (i : Nat) => g.man.edges.length - i) 0 ⟨none, ⟨by omega, GrD.nil _ _⟩, rfl, rfl⟩ ?_
  rintro i env' σ'' ⟨o, ⟨hi, hgr⟩, rfl, rfl⟩ ih
  have ih1 := ih
  refine Gs.sq (Gs.rg [3, 10, 11, 12] fun K hK => ?_); simp (maxSteps:=9^7) only [go_sem]
  refine hK _ _ ?_; clear hK K
  refine Gs.sq ?_
  refine Gs.cond rfl (fun h13 => ?_) (fun h13 => ?_)
  · have hlt : i < g.man.edges.length := by simpa using h13
    have hg := getD_map_lt XEdge.d g.man.edges i hlt
    have hi0 : (0 : Int) ≤ (i : Int) := by omega
    have hi1 : (i : Int) < ((g.man.edges.map XEdge.d).length : Int) := by omega
    rw [XEdge.d] at hg
    have hsm := hs _ (List.getElem_mem hlt)
    have hnl := needs_len _ hsm
    have hul := usedTo_len g.man hs i hi
    have hsu := usedTo_succ g.man i hlt
    refine Gs.sk ?_
    refine Gs.sq ?_
    refine Gs.bk ?_
    refine Gs.sq (Gs.rg [3, 10, 11, 12] fun K hK => ?_); simp (maxSteps:=9^7) only [go_sem, hg, hi0, hi1]
    intro be hbe
    refine hK _ _ ?_; clear hK K
    obtain ⟨hgrp, hle⟩ := hgr.push (x := .arr 6 [XEdge.d g.man.edges[i]]) hbe
    refine Gs.le (ELe.refl _) hle ?_
    have hbe2 := (hgr.none_of hbe).1
    have hge := (hgrp.keep (sget_self be (.arr 6 [XEdge.d g.man.edges[i]]) _)).trans (congrArg (fun x => some (AObj.arr 6 [x])) (XEdge.d_eq g.man.edges[i]))
    have ho := hgrp.oget
    have hd := hgrp.sdel
    have hml : ((usedTo g.man i).map sD).length = (usedTo g.man i).length := List.length_map ..
    have hml2 : (g.man.edges[i].needs.map sD).length = g.man.edges[i].needs.length := List.length_map ..
    have htk : List.take (usedTo g.man i).length ((usedTo g.man i).map sD) = (usedTo g.man i).map sD := List.take_of_length_le (by omega)
    refine Gs.rg [3, 5, 10, 11, 12] fun K hK => ?_; simp (maxSteps:=9^7) only [go_sem, hge]
    refine ⟨_, Tryz.call55, (needs_prog g.man.edges[i] _ hsm).mono ?_⟩
    rintro e σ1 ⟨rfl, rfl⟩
    simp only [go_sem, ho, hd, htk]
    refine ⟨⟨by omega, plain_sD _, by omega, by omega⟩, fun ob hz hf => ?_⟩
    have hgr2 := hgrp.app hz hf
    have e1 : (usedTo g.man i).map sD ++ g.man.edges[i].needs.map sD = (usedTo g.man (i + 1)).map sD := by rw [hsu, List.map_append]
    rw [e1] at hgr2 ⊢
    have hdr := hgr2.drop hbe2
    refine hK _ _ ?_; clear hK K
    refine Gs.le (ELe.refl _) hdr.2 ?_
    refine Gs.ib ?_
    refine Gs.rg [3, 10, 11, 12] fun K hK => ?_; simp (maxSteps:=9^7) only [go_sem]
    refine hK _ _ ?_; clear hK K
    refine Gs.rebase [3, 10, 11, 12] ?_
    simp only [go_sem]
    rw [wrap_succ i (by omega)]
    exact ih (i + 1) _ _ ⟨ob, ⟨by omega, hdr.1⟩, by rw [List.length_map], rfl⟩ (by omega)
  · have hie : i = g.man.edges.length := by simp at h13; omega
    subst hie
    have hul := usedTo_len g.man hs g.man.edges.length (Nat.le_refl _)
    have hse := sortB_len (usedTo g.man g.man.edges.length)
    have hgs : GrD o 1 ((sortB (usedTo g.man g.man.edges.length)).map sD) σ := GrD.re hgr fun h => by
      have : usedTo g.man g.man.edges.length = [] := by simpa using h
      rw [this]; rfl
    refine Gs.exit rfl ?_
    refine Gs.sq (Gs.rg [3] fun K hK => ?_); simp (maxSteps:=9^7) only [go_sem]
    refine ⟨_, Tryz.call94, (sort_own o (usedTo g.man g.man.edges.length) σ hgr (by omega)).mono ?_⟩
    rintro e σ1 ⟨rfl, rfl⟩
    simp only [go_sem]
    refine hK _ _ ?_; clear hK K
    refine Gs.sq ?_
    rw [← hse]
    refine Gs.rg [3] fun K hK => ?_; simp (maxSteps:=9^7) only [go_sem]
    refine ⟨_, Tryz.call98, (compact_cut o (sortB (usedTo g.man g.man.edges.length)) σ hgs (by omega)).mono ?_⟩
    rintro e σ1 ⟨rfl, rfl, hgc⟩
    simp only [go_sem]
    refine hK _ _ ?_; clear hK K
    refine Gs.ret hC Tryz.func70 (by simp [go_sem]) ?_
    simp only [go_sem]
    have hu : usedTo g.man g.man.edges.length = g.man.edges.flatMap XEdge.needs := by unfold usedTo; rw [List.take_length]
    rw [hu] at hgc ⊢
    exact ⟨o, hgc, rfl, rfl⟩
def sourcesL (g : XGr) : List ByteArray := kept (fun f => (lookL g.mks f).isSome) (usedL g.man)
theorem sources1_tests (g : XGr) (mb b1 : Nat) (σ : Store) (l : List ByteArray) (hm : sget mb σ = some (.mp (mkE g.mks))) (h1 : sget b1 σ = some (.arr 1 [g.d mb])) :
    Tests [.ptr b1 1 0 0] 97 (fun f => (lookL g.mks f).isSome) l σ := by
  refine ⟨Tryz.call97, fun f _ => ?_⟩
  unfold XGr.d XGr.cells at h1
  have hfd := mfind_mkE g.mks f
  have hlk := mkE_like g.mks f
  have hg1 := getD_nD (lookL g.mks f)
  have hg2 := some_nD (lookL g.mks f)
  refine AC.of_body Tryz.func97 rfl Tryz.ntmps97 (by simp) fun C hC => ?_
  refine Gs.sq (Gs.rg [0, 1] fun K hK => ?_); simp (maxSteps:=9^7) only [go_sem]
  refine hK _ _ ?_; clear hK K
  refine Gs.sq (Gs.rg [0, 1] fun K hK => ?_); simp (maxSteps:=9^7) only [go_sem, sD, h1, hm, hfd, hg1, hg2]
  refine ⟨⟨rfl, hlk⟩, ?_⟩
  refine hK _ _ ?_; clear hK K
  refine Gs.sq (Gs.rg [5] fun K hK => ?_); simp (maxSteps:=9^7) only [go_sem]
  refine hK _ _ ?_; clear hK K
  refine Gs.ret hC Tryz.func97 (by simp [go_sem]) ?_
  simp only [go_sem]
theorem usedL_len (m : XMan) (hs : ∀ e ∈ m.edges, e.small) : (usedL m).length ≤ 30 * m.edges.length := by
  have h := usedTo_len m hs m.edges.length (Nat.le_refl _)
  unfold usedTo at h
  rw [List.take_length] at h
  have h2 := sortB_len (m.edges.flatMap XEdge.needs)
  unfold usedL compactB
  rw [List.length_map]
  have : (Lib.compact ((sortB (m.edges.flatMap XEdge.needs)).map bL)).length ≤ (sortB (m.edges.flatMap XEdge.needs)).length := by
    unfold Lib.compact Lib.compactUpTo
    rw [List.length_map]
    exact Nat.le_trans (List.length_filter_le ..) (by simp)
  omega
theorem sources_own (g : XGr) (mb : Nat) (σ : Store) (hm : sget mb σ = some (.mp (mkE g.mks))) (hl : g.man.edges.length < 2 ^ 20) (hs : ∀ e ∈ g.man.edges, e.small) :
    AC Tryz.prog 64 [g.d mb] σ (fun e σ' => ∃ o, GrD o 1 ((sourcesL g).map sD) σ ∧ e = .ret (.own o 1 (sourcesL g).length) ∧ σ' = cellsOf o 1 ((sourcesL g).map sD) ++ σ) := by
  have hul := usedL_len g.man hs
  have hgd : g.d mb = .elt (g.cells mb) := rfl
  rw [hgd]
  refine AC.of_body Tryz.func64 rfl Tryz.ntmps64 (by simp) fun C hC => ?_
  refine Gs.sq (Gs.rg [0] fun K hK => ?_); simp (maxSteps:=9^7) only [go_sem]
  intro b1 hb1
  refine hK _ _ ?_; clear hK K
  refine Gs.sq (Gs.sq ?_)
  refine Gs.rg [1] fun K hK => ?_; simp (maxSteps:=9^7) only [go_sem]
  refine hK _ _ ?_; clear hK K
  refine Gs.condF rfl ?_
  refine Gs.sk ?_
  refine Gs.sq (Gs.rg [1] fun K hK => ?_); simp (maxSteps:=9^7) only [go_sem]
  refine ⟨_, Tryz.call70, (used_own g mb _ hl hs).mono ?_⟩
  rintro e σ1 ⟨o, hgr, rfl, rfl⟩
  simp only [go_sem]
  refine ⟨_, Tryz.call71, (deleteFunc_strG o (usedL g.man) _ [.ptr b1 1 0 0] (fun f => (lookL g.mks f).isSome) _ (by omega) hgr (fun τ hle => sources1_tests g mb b1 τ _ (hle mb _ (by rw [sget_cons, if_neg (fun e => by rw [e, hb1] at hm; cases hm)]; exact hm)) (hle b1 _ (sget_self ..)))).mono ?_⟩
  rintro e σ1 ⟨rfl, rfl, hgr2⟩
  simp only [go_sem]
  refine hK _ _ ?_; clear hK K
  have hdr := hgr2.drop hb1
  refine Gs.le (ELe.refl _) hdr.2 ?_
  refine Gs.ret hC Tryz.func64 (by simp [go_sem]) ?_
  simp only [go_sem]
  exact ⟨o, hdr.1, rfl, rfl⟩
theorem sources_calls (g : XGr) (mb : Nat) (σ : Store) (hm : sget mb σ = some (.mp (mkE g.mks))) (hl : g.man.edges.length < 2 ^ 20) (hs : ∀ e ∈ g.man.edges, e.small) :
    AC Tryz.prog 64 [g.d mb] σ (fun e σ' => e = .ret (.slc ((sourcesL g).map sD)) ∧ σ' = σ) := by
  refine AC.stillIn (AC.pubOwnIn (sz := 1) (fun b hb => spub_mk b 1 mb _ g.mks hb) ?_) (SLe.cons hm (SLe.nil _))
  refine (sources_own g mb [(mb, .mp (mkE g.mks))] (sget_self ..) hl hs).mono ?_
  rintro e σ' ⟨o, hgr, rfl, rfl⟩
  exact ⟨o, hgr, by rw [List.length_map], rfl⟩
def outsL (g : XGr) : List ByteArray := sortB (g.mks.map (·.1))
theorem outs_own (g : XGr) (mb : Nat) (σ : Store) (hm : sget mb σ = some (.mp (mkE g.mks))) (hnd : (g.mks.map (·.1)).Nodup) (hl : g.mks.length < 2 ^ 30) (hB : ∀ p ∈ g.mks, p.1.size ≤ maxLen) :
    AC Tryz.prog 63 [g.d mb] σ (fun e σ' => ∃ o, GrD o 1 ((outsL g).map sD) σ ∧ e = .ret (.own o 1 ((outsL g).map sD).length) ∧ σ' = cellsOf o 1 ((outsL g).map sD) ++ σ) := by
  unfold XGr.d XGr.cells
  refine AC.of_body Tryz.func63 rfl Tryz.ntmps63 (by simp) fun C hC => ?_
  refine Gs.sq (Gs.rg [0] fun K hK => ?_); simp (maxSteps:=9^7) only [go_sem]
  refine hK _ _ ?_; clear hK K
  refine Gs.sq (Gs.sq ?_)
  refine Gs.rg [0] fun K hK => ?_; simp (maxSteps:=9^7) only [go_sem]
  refine hK _ _ ?_; clear hK K
  refine Gs.condF rfl ?_
  refine Gs.sk ?_
  refine Gs.sq (Gs.rg [0] fun K hK => ?_); simp (maxSteps:=9^7) only [go_sem]
  refine ⟨_, Tryz.call96, (keysS_calls mb _).mono ?_⟩
  rintro e σ1 ⟨bk, hbk, rfl, rfl⟩
  simp only [go_sem]
  refine ⟨_, Tryz.call95, (sortedS_own bk mb g.mks _ (sget_self ..) (by rw [sget_cons, if_neg (fun e => by rw [e, hbk] at hm; cases hm)]; exact hm) hnd hl hB).mono ?_⟩
  rintro e σ1 ⟨o, xs, rfl, hgr, rfl, rfl⟩
  simp only [go_sem]
  refine hK _ _ ?_; clear hK K
  rw [encS2] at hgr ⊢
  have hdr := hgr.drop hbk
  refine Gs.le (ELe.refl _) hdr.2 ?_
  refine Gs.ret hC Tryz.func63 (by simp [go_sem]) ?_
  simp only [go_sem]
  exact ⟨o, hdr.1, rfl, rfl⟩
theorem outs_calls (g : XGr) (mb : Nat) (σ : Store) (hm : sget mb σ = some (.mp (mkE g.mks))) (hnd : (g.mks.map (·.1)).Nodup) (hl : g.mks.length < 2 ^ 30) (hB : ∀ p ∈ g.mks, p.1.size ≤ maxLen) :
    AC Tryz.prog 63 [g.d mb] σ (fun e σ' => e = .ret (.slc ((outsL g).map sD)) ∧ σ' = σ) :=
  AC.stillIn (AC.pubOwnIn (fun b hb => spub_mk b 1 mb _ g.mks hb) (outs_own g mb [(mb, .mp (mkE g.mks))] (sget_self ..) hnd hl hB)) (SLe.cons hm (SLe.nil _))
instance : LawfulBEq ByteArray where
  eq_of_beq := fun {a b} h => by
    cases a with | mk a => cases b with | mk b =>
    have h2 : (a == b) = true := h
    rw [eq_of_beq h2]
  rfl := fun {a} => by
    cases a with | mk a =>
    show (a == a) = true
    exact beq_self_eq_true a
theorem isNaN1_calls (s : ByteArray) (σ : Store) : AC Tryz.prog 122 [.v (.string s)] σ (fun e σ' => e = .ret (.v (.bool false)) ∧ σ' = σ) := by
  refine AC.of_body Tryz.func122 rfl Tryz.ntmps122 (by simp) fun C hC => ?_
  refine Gs.sq (Gs.rg [0] fun K hK => ?_); simp (maxSteps:=9^7) only [go_sem]
  refine hK _ _ ?_; clear hK K
  refine Gs.sq (Gs.rg [0] fun K hK => ?_); simp (maxSteps:=9^7) only [go_sem]
  refine hK _ _ ?_; clear hK K
  refine Gs.ret hC Tryz.func122 (by simp [go_sem]) ?_
  simp only [go_sem]
  simp
theorem isNaN2_calls (s : ByteArray) (σ : Store) : AC Tryz.prog 93 [.v (.string s)] σ (fun e σ' => e = .ret (.v (.bool false)) ∧ σ' = σ) := by
  refine AC.of_body Tryz.func93 rfl Tryz.ntmps93 (by simp) fun C hC => ?_
  refine Gs.sq (Gs.rg [0] fun K hK => ?_); simp (maxSteps:=9^7) only [go_sem]
  refine hK _ _ ?_; clear hK K
  refine Gs.sq (Gs.rg [0] fun K hK => ?_); simp (maxSteps:=9^7) only [go_sem]
  refine hK _ _ ?_; clear hK K
  refine Gs.ret hC Tryz.func93 (by simp [go_sem]) ?_
  simp only [go_sem]
  simp
theorem less_calls (a b : ByteArray) (σ : Store) : AC Tryz.prog 92 [.v (.string a), .v (.string b)] σ (fun e σ' => e = .ret (.v (.bool (decide (bL a < bL b)))) ∧ σ' = σ) := by
  refine AC.of_body Tryz.func92 rfl Tryz.ntmps92 (by simp) fun C hC => ?_
  refine Gs.sq (Gs.rg [0, 1] fun K hK => ?_); simp (maxSteps:=9^7) only [go_sem]
  refine hK _ _ ?_; clear hK K
  refine Gs.sq (Gs.rg [0, 1] fun K hK => ?_); simp (maxSteps:=9^7) only [go_sem]
  refine ⟨_, Tryz.call122, (isNaN1_calls a _).mono ?_⟩
  rintro e σ1 ⟨rfl, rfl⟩
  simp only [go_sem]
  refine hK _ _ ?_; clear hK K
  refine Gs.ret hC Tryz.func92 (by simp [go_sem]) ?_
  simp only [go_sem]
  rw [Go.Proofs.bytesLess_eq, tl_data, tl_data]
  rfl
theorem half_eq (n : Nat) (h : n < 2 ^ 50) : IntKind.i64.wrap ((IntKind.u64.wrap (IntKind.i64.wrap (n : Int))).fdiv 2) = ((n / 2 : Nat) : Int) := by
  have h1 : IntKind.i64.wrap (n : Int) = (n : Int) := by rw [IntKind.wrap_i64]; omega
  have h2 : IntKind.u64.wrap (n : Int) = (n : Int) := by rw [IntKind.wrap_u64]; omega
  rw [h1, h2, Int.fdiv_eq_ediv_of_nonneg _ (by omega), IntKind.wrap_i64]
  omega
theorem shr1 (xo yo : Operand) (a : Int) : aBin Tryz.prog .shr 146 xo yo (.v (.int .u64 a)) (.v (.int .u64 1)) = .val True (.v (.int .u64 (a.fdiv 2))) := by
  have := bin_shr (P := Tryz.prog) (T := 146) (x := xo) (y := yo) .u64 .u64 a 1
  exact this
theorem search_calls (l : List ByteArray) (x : ByteArray) (σ : Store) (hl : l.length < 2 ^ 40) (hs : (l.map bL).Pairwise (· ≤ ·)) :
    AC Tryz.prog 60 [.slc (l.map sD), .v (.string x)] σ (fun e σ' => (∃ i : Nat, e = .ret (.tup [.v (.int .i64 (i : Int)), .v (.bool (l.contains x))])) ∧ σ' = σ) := by
  have hll : (l.map sD).length = l.length := List.length_map ..
  refine AC.of_body Tryz.func60 rfl Tryz.ntmps60 (by simp) fun C hC => ?_
  refine Gs.sq (Gs.rg [0, 1] fun K hK => ?_); simp (maxSteps:=9^7) only [go_sem]
  refine hK _ _ ?_; clear hK K
  refine Gs.sq (Gs.rg [0, 1] fun K hK => ?_); simp (maxSteps:=9^7) only [go_sem, hll]
  refine hK _ _ ?_; clear hK K
  refine Gs.sq (Gs.rg [0, 1, 6] fun K hK => ?_); simp (maxSteps:=9^7) only [go_sem]
  refine hK _ _ ?_; clear hK K
  refine Gs.sq ?_
  refine Gs.bk ?_
  refine Gs.rebase [0, 1, 6, 7, 8] ?_
  simp only [go_sem]
  refine Gs.while (fun (q : Nat × Nat) env' σ'' => (q.1 ≤ q.2 ∧ q.2 ≤ l.length ∧ (∀ j (h : j < l.length), j < q.1 → bL l[j] < bL x) ∧ (∀ j (h : j < l.length), q.2 ≤ j → ¬ bL l[j] < bL x)) ∧ env' = [(0, .slc (l.map sD)), (1, .v (.string x)), (6, .v (.int .i64 (l.length : Int))), (7, .v (.int .i64 (q.1 : Int))), (8, .v (.int .i64 (q.2 : Int)))] ∧ σ = σ'') (fun (q : Nat × Nat) => q.2 - q.1) (0, l.length) ⟨⟨by omega, by omega, by omega, by omega⟩, rfl, rfl⟩ ?_
  rintro ⟨lo, hi⟩ env' σ'' ⟨⟨hlh, hhn, hlo, hhi⟩, rfl, rfl⟩ ih
  have ih1 := ih
  dsimp only at hlh hhn hlo hhi ⊢
  have hsum : (lo : Int) + (hi : Int) = ((lo + hi : Nat) : Int) := by omega
  have hhalf := half_eq (lo + hi) (by omega)
  refine Gs.sq (Gs.sq ?_)
  refine Gs.rg [0, 1, 6, 7, 8] fun K hK => ?_; simp (maxSteps:=9^7) only [go_sem]
  refine hK _ _ ?_; clear hK K
  refine Gs.cond rfl (fun h15 => ?_) (fun h15 => ?_)
  · have hlt : lo < hi := by simpa using h15
    have hmn : (lo + hi) / 2 < l.length := by omega
    have hg := getD_map_lt sD l ((lo + hi) / 2) hmn
    rw [sD] at hg
    have hi0 : (0 : Int) ≤ (((lo + hi) / 2 : Nat) : Int) := by omega
    have hi1 : (((lo + hi) / 2 : Nat) : Int) < ((l.map sD).length : Int) := by omega
    refine Gs.sk ?_
    refine Gs.bk ?_
    refine Gs.sq (Gs.rg [0, 1, 6, 7, 8] fun K hK => ?_); simp (maxSteps:=9^7) only [go_sem, shr1, hsum, hhalf]
    refine hK _ _ ?_; clear hK K
    refine Gs.sq (Gs.rg [0, 1, 6, 7, 8, 9] fun K hK => ?_); simp (maxSteps:=9^7) only [go_sem, hg, hi0, hi1]
    refine ⟨_, Tryz.call92, (less_calls l[(lo + hi) / 2] x _).mono ?_⟩
    rintro e σ1 ⟨rfl, rfl⟩
    simp only [go_sem]
    refine hK _ _ ?_; clear hK K
    refine Gs.cond rfl (fun h27 => ?_) (fun h27 => ?_)
    · refine Gs.rg [0, 1, 6, 8, 9] fun K hK => ?_; simp (maxSteps:=9^7) only [go_sem]
      refine hK _ _ ?_; clear hK K
      refine Gs.ib ?_
      refine Gs.rebase [0, 1, 6, 7, 8] ?_
      simp only [go_sem]
      rw [wrap_succ _ (by omega)]
      refine ih ((lo + hi) / 2 + 1, hi) _ _ ⟨⟨by dsimp only; omega, hhn, fun j hj hj2 => ?_, hhi⟩, rfl, rfl⟩ (by dsimp only; omega)
      by_cases hjm : j = (lo + hi) / 2
      · subst hjm; simpa using h27
      · have h1 := List.pairwise_iff_getElem.1 hs j ((lo + hi) / 2) (by simpa using hj) (by simpa using hmn) (by dsimp only at hj2; omega)
        simp only [List.getElem_map] at h1
        exact List.lt_of_le_of_lt h1 (by simpa using h27)
    · refine Gs.rg [0, 1, 6, 7, 9] fun K hK => ?_; simp (maxSteps:=9^7) only [go_sem]
      refine hK _ _ ?_; clear hK K
      refine Gs.ib ?_
      refine Gs.rebase [0, 1, 6, 7, 8] ?_
      simp only [go_sem]
      refine ih (lo, (lo + hi) / 2) _ _ ⟨⟨by dsimp only; omega, by dsimp only; omega, hlo, fun j hj hj2 => ?_⟩, rfl, rfl⟩ (by dsimp only; omega)
      have h27' : ¬ bL l[(lo + hi) / 2] < bL x := by simpa using h27
      by_cases hjm : j = (lo + hi) / 2
      · subst hjm; exact h27'
      · have h1 := List.pairwise_iff_getElem.1 hs ((lo + hi) / 2) j (by simpa using hmn) (by simpa using hj) (by dsimp only at hj2; omega)
        simp only [List.getElem_map] at h1
        exact fun h => h27' (List.lt_of_le_of_lt h1 h)
  · have hle : hi = lo := by simp at h15; omega
    subst hle
    refine Gs.exit rfl ?_
    refine Gs.sq ?_
    by_cases hh : hi < l.length
    by_cases hq : l[hi] = x
    · have hd : decide ((hi : Int) < (l.length : Int)) = true := by simp; omega
      have hg := getD_map_lt sD l hi hh
      rw [sD] at hg
      have hi0 : (0 : Int) ≤ (hi : Int) := by omega
      have hi1 : (hi : Int) < (l.length : Int) := by omega
      have hbq : (l[hi].toList == x.toList) = true := by rw [hq]; simp
      refine Gs.rg [0, 1, 6, 7] fun K hK => ?_; simp (maxSteps:=9^7) only [go_sem, hll, hd, hg, hi0, hi1, hbq]
      refine hK _ _ ?_; clear hK K
      refine Gs.ret hC Tryz.func60 (by simp [go_sem]) ?_
      simp only [go_sem]
      first | refine ⟨⟨hi, ?_⟩, rfl⟩ | refine ⟨hi, ?_⟩
      rw [show l.contains x = true from List.contains_iff_mem.2 (hq ▸ List.getElem_mem hh)]
    · have hd : decide ((hi : Int) < (l.length : Int)) = true := by simp; omega
      have hg := getD_map_lt sD l hi hh
      rw [sD] at hg
      have hi0 : (0 : Int) ≤ (hi : Int) := by omega
      have hi1 : (hi : Int) < (l.length : Int) := by omega
      have hbq : (l[hi].toList == x.toList) = false := by
        rw [tl_data, tl_data]
        exact beq_false_of_ne fun e => hq (by rw [← lB_bL l[hi], ← lB_bL x]; exact congrArg lB e)
      refine Gs.rg [0, 1, 6, 7] fun K hK => ?_; simp (maxSteps:=9^7) only [go_sem, hll, hd, hg, hi0, hi1, hbq]
      refine ⟨_, Tryz.call93, (isNaN2_calls l[hi] _).mono ?_⟩
      rintro e σ1 ⟨rfl, rfl⟩
      simp only [go_sem]
      refine hK _ _ ?_; clear hK K
      refine Gs.ret hC Tryz.func60 (by simp [go_sem]) ?_
      simp only [go_sem]
      first | refine ⟨⟨hi, ?_⟩, rfl⟩ | refine ⟨hi, ?_⟩
      have hnc : l.contains x = false := by
        rw [Bool.eq_false_iff]
        intro hc
        obtain ⟨j, hj, rfl⟩ := List.getElem_of_mem (List.contains_iff_mem.1 hc)
        rcases Nat.lt_or_ge j hi with h | h
        · exact List.lt_irrefl _ (hlo j hj h)
        · have hne : j ≠ hi := fun e => hq (by subst e; rfl)
          have h1 := List.pairwise_iff_getElem.1 hs hi j (by simpa using hh) (by simpa using hj) (by omega)
          simp only [List.getElem_map] at h1
          have h2 := hhi hi hh (Nat.le_refl _)
          have h3 : bL l[j] ≤ bL l[hi] := List.not_lt.1 h2
          have h4 := List.le_antisymm h1 h3
          exact hq (by rw [← lB_bL l[hi], ← lB_bL l[j], h4])
      rw [hnc]
    · have hd : decide ((hi : Int) < (l.length : Int)) = false := by simp; omega
      refine Gs.rg [0, 1, 6, 7] fun K hK => ?_; simp (maxSteps:=9^7) only [go_sem, hll, hd]
      refine hK _ _ ?_; clear hK K
      refine Gs.ret hC Tryz.func60 (by simp [go_sem]) ?_
      simp only [go_sem]
      first | refine ⟨⟨hi, ?_⟩, rfl⟩ | refine ⟨hi, ?_⟩
      have hnc : l.contains x = false := by
        rw [Bool.eq_false_iff]
        intro hc
        obtain ⟨j, hj, rfl⟩ := List.getElem_of_mem (List.contains_iff_mem.1 hc)
        exact List.lt_irrefl _ (hlo j hj (by omega))
      rw [hnc]
theorem used_calls (g : XGr) (mb : Nat) (σ : Store) (hl : g.man.edges.length < 2 ^ 20) (hs : ∀ e ∈ g.man.edges, e.small) :
    AC Tryz.prog 70 [g.d mb] σ (fun e σ' => e = .ret (.slc ((usedL g.man).map sD)) ∧ σ' = σ) := by
  refine AC.pubOwn (sz := 1) ((used_own g mb [] hl hs).mono ?_) σ
  rintro e σ' ⟨o, hgr, rfl, rfl⟩
  exact ⟨o, hgr, by rw [List.length_map], rfl⟩
theorem sortB_pairwise (l : List ByteArray) : ((sortB l).map bL).Pairwise (· ≤ ·) := by
  have h := isort_sorted leB_tr leB_tot (l.map bL)
  have e1 : (sortB l).map bL = isort leB (l.map bL) := by
    unfold sortB
    rw [List.map_map]
    exact (List.map_congr_left fun x _ => bL_lB x).trans (List.map_id _)
  rw [e1]
  exact h.imp fun {a b} hab => (leB_iff a b).1 hab
theorem sortB_mem (l : List ByteArray) (x : ByteArray) : x ∈ sortB l ↔ x ∈ l := by
  unfold sortB
  rw [List.mem_map]
  constructor
  · rintro ⟨y, hy, rfl⟩
    have := (isort_perm (le := leB) (l.map bL)).mem_iff.1 hy
    obtain ⟨z, hz, rfl⟩ := List.mem_map.1 this
    rw [lB_bL]; exact hz
  · intro h
    exact ⟨bL x, (isort_perm (le := leB) (l.map bL)).mem_iff.2 (List.mem_map_of_mem h), lB_bL x⟩
theorem compact_sub {α : Type} [DecidableEq α] [Inhabited α] (zs : List α) : (Lib.compact zs).Sublist zs := by
  unfold Lib.compact Lib.compactUpTo
  have h1 : ((List.range zs.length).filter (Lib.keeps zs.toArray)).Sublist (List.range zs.length) := List.filter_sublist
  have h2 := h1.map (fun j => zs.toArray[j]!)
  have h3 : (List.range zs.length).map (fun j => zs.toArray[j]!) = zs := by
    apply List.ext_getElem
    · simp
    · intro i h4 h5
      simp at h4
      simp [h4]
  rw [h3] at h2
  exact h2
theorem compactB_map (l : List ByteArray) : (compactB l).map bL = Lib.compact (l.map bL) := by
  unfold compactB
  rw [List.map_map]
  exact (List.map_congr_left fun x _ => bL_lB x).trans (List.map_id _)
theorem usedL_sorted (m : XMan) : ((usedL m).map bL).Pairwise (· ≤ ·) := by
  unfold usedL
  rw [compactB_map]
  exact (sortB_pairwise _).sublist (compact_sub _)
theorem kept_sorted (p : ByteArray → Bool) (l : List ByteArray) (h : (l.map bL).Pairwise (· ≤ ·)) : ((kept p l).map bL).Pairwise (· ≤ ·) := by
  unfold kept
  exact h.sublist (List.filter_sublist.map bL)
def outsTo (m : XMan) (i : Nat) : List ByteArray := (m.edges.take i).flatMap XEdge.outs
def targetsL (g : XGr) : List ByteArray := if g.man.defs.length > 0 then g.man.defs else kept (fun f => (usedL g.man).contains f) (g.man.edges.flatMap XEdge.outs)
theorem outsTo_succ (m : XMan) (i : Nat) (h : i < m.edges.length) : outsTo m (i + 1) = outsTo m i ++ m.edges[i].outs := by
  unfold outsTo
  rw [List.take_succ_eq_append_getElem h, List.flatMap_append]
  simp
theorem outsTo_len (m : XMan) (hs : ∀ e ∈ m.edges, e.small) : ∀ i, i ≤ m.edges.length → (outsTo m i).length ≤ 10 * i
  | 0, _ => by simp [outsTo]
  | i + 1, h => by
    have h1 := outsTo_len m hs i (by omega)
    have h2 := (hs m.edges[i] (List.getElem_mem (by omega))).outs
    rw [outsTo_succ m i (by omega), List.length_append]; omega
theorem targets1_tests (u : List ByteArray) (b1 : Nat) (σ : Store) (l : List ByteArray) (h1 : sget b1 σ = some (.arr 1 [.slc (u.map sD)])) (hl : u.length < 2 ^ 40) (hu : (u.map bL).Pairwise (· ≤ ·)) :
    Tests [.ptr b1 1 0 0] 72 (fun f => u.contains f) l σ := by
  refine ⟨Tryz.call72, fun f _ => ?_⟩
  refine AC.of_body Tryz.func72 rfl Tryz.ntmps72 (by simp) fun C hC => ?_
  refine Gs.sq (Gs.rg [0, 1] fun K hK => ?_); simp (maxSteps:=9^7) only [go_sem]
  refine hK _ _ ?_; clear hK K
  refine Gs.sq (Gs.rg [0, 1] fun K hK => ?_); simp (maxSteps:=9^7) only [go_sem, sD, h1]
  refine ⟨_, Tryz.call60, (search_calls u f σ hl hu).mono ?_⟩
  rintro e σ1 ⟨⟨ix, rfl⟩, rfl⟩
  simp only [go_sem]
  refine hK _ _ ?_; clear hK K
  refine Gs.sq (Gs.rg [5] fun K hK => ?_); simp (maxSteps:=9^7) only [go_sem]
  refine hK _ _ ?_; clear hK K
  refine Gs.ret hC Tryz.func72 (by simp [go_sem]) ?_
  simp only [go_sem]
theorem targets_own (g : XGr) (mb : Nat) (σ : Store) (hl : g.man.edges.length < 2 ^ 20) (hs : ∀ e ∈ g.man.edges, e.small) (hd : g.man.defs.length < 2 ^ 20) :
    AC Tryz.prog 30 [g.d mb] σ (fun e σ' => (e = .ret (.slc ((targetsL g).map sD)) ∧ σ' = σ) ∨ ∃ o, GrD o 1 ((targetsL g).map sD) σ ∧ e = .ret (.own o 1 (targetsL g).length) ∧ σ' = cellsOf o 1 ((targetsL g).map sD) ++ σ) := by
  have hul := usedL_len g.man hs
  unfold XGr.d XGr.cells
  have hll : (g.man.edges.map XEdge.d).length = g.man.edges.length := List.length_map ..
  have hdl : (g.man.defs.map sD).length = g.man.defs.length := List.length_map ..
  refine AC.of_body Tryz.func30 rfl Tryz.ntmps30 (by simp) fun C hC => ?_
  refine Gs.sq (Gs.rg [0] fun K hK => ?_); simp (maxSteps:=9^7) only [go_sem]
  refine hK _ _ ?_; clear hK K
  refine Gs.sq (Gs.sq ?_)
  refine Gs.rg [0] fun K hK => ?_; simp (maxSteps:=9^7) only [go_sem]
  refine hK _ _ ?_; clear hK K
  refine Gs.condF rfl ?_
  refine Gs.sk ?_
  refine Gs.sq (Gs.sq ?_)
  refine Gs.rg [0] fun K hK => ?_; simp (maxSteps:=9^7) only [go_sem, hdl]
  refine hK _ _ ?_; clear hK K
  refine Gs.cond rfl (fun h15 => ?_) (fun h15 => ?_)
  · have hdp : g.man.defs.length > 0 := by simpa using h15
    refine Gs.sq (Gs.rg [0] fun K hK => ?_); simp (maxSteps:=9^7) only [go_sem]
    refine ⟨_, Tryz.call52, (clone_str (g.man.defs.map sD) _ (plain_sD _) (by rw [List.length_map]; omega)).mono ?_⟩
    rintro e σ1 ⟨rfl, rfl⟩
    simp only [go_sem]
    refine hK _ _ ?_; clear hK K
    refine Gs.ret hC Tryz.func30 (by simp [go_sem]) ?_
    simp only [go_sem]
    exact .inl (by unfold targetsL; rw [if_pos hdp])
  · have hdp : ¬ g.man.defs.length > 0 := by simpa using h15
    refine Gs.sk ?_
    refine Gs.sq (Gs.rg [0] fun K hK => ?_); simp (maxSteps:=9^7) only [go_sem]
    refine ⟨_, Tryz.call70, (used_calls g mb _ hl hs).mono ?_⟩
    rintro e σ1 ⟨rfl, rfl⟩
    simp only [go_sem]
    intro b3 hb3
    refine hK _ _ ?_; clear hK K
    refine Gs.sq (Gs.rg [0, 3] fun K hK => ?_); simp (maxSteps:=9^7) only [go_sem]
    refine hK _ _ ?_; clear hK K
    refine Gs.sq (Gs.sq ?_)
    refine Gs.rg [0, 3, 4] fun K hK => ?_; simp (maxSteps:=9^7) only [go_sem, hll]
    refine hK _ _ ?_; clear hK K
    refine Gs.bk ?_
    refine Gs.nilOwn 4 1 rfl ?_
    refine Gs.rebase [3, 4, 28, 29, 30] ?_
    simp only [go_sem]
    refine Gs.while (fun (i : Nat) env' σ'' => ∃ o : Option Nat, (i ≤ g.man.edges.length ∧ GrD o 1 ((outsTo g.man i).map sD) ((b3, .arr 1 [.slc ((usedL g.man).map sD)]) :: σ1)) ∧ env' = [(3, .ptr b3 1 0 0), (4, .own o 1 (outsTo g.man i).length), (28, .slc (g.man.edges.map XEdge.d)), (29, .v (.int .i64 (g.man.edges.length : Int))), (30, .v (.int .i64 (i : Int)))] ∧ σ'' = cellsOf o 1 ((outsTo g.man i).map sD) ++ (b3, .arr 1 [.slc ((usedL g.man).map sD)]) :: σ1) (fun (i : Nat) => g.man.edges.length - i) 0 ⟨none, ⟨by omega, GrD.nil _ _⟩, rfl, rfl⟩ ?_
    rintro i env' σ'' ⟨o, ⟨hi, hgr⟩, rfl, rfl⟩ ih
    have ih1 := ih
    refine Gs.sq (Gs.rg [3, 4, 28, 29, 30] fun K hK => ?_); simp (maxSteps:=9^7) only [go_sem]
    refine hK _ _ ?_; clear hK K
    refine Gs.sq ?_
    refine Gs.cond rfl (fun h31 => ?_) (fun h31 => ?_)
    · have hlt : i < g.man.edges.length := by simpa using h31
      have hg := getD_map_lt XEdge.d g.man.edges i hlt
      have hi0 : (0 : Int) ≤ (i : Int) := by omega
      have hi1 : (i : Int) < ((g.man.edges.map XEdge.d).length : Int) := by omega
      rw [XEdge.d] at hg
      have hsm := hs _ (List.getElem_mem hlt)
      have hnl := hsm.outs
      have hul := outsTo_len g.man hs i hi
      have hsu := outsTo_succ g.man i hlt
      refine Gs.sk ?_
      refine Gs.sq ?_
      refine Gs.bk ?_
      refine Gs.sq (Gs.rg [3, 4, 28, 29, 30] fun K hK => ?_); simp (maxSteps:=9^7) only [go_sem, hg, hi0, hi1]
      intro be hbe
      refine hK _ _ ?_; clear hK K
      obtain ⟨hgrp, hle⟩ := hgr.push (x := .arr 6 [XEdge.d g.man.edges[i]]) hbe
      refine Gs.le (ELe.refl _) hle ?_
      have hbe2 := (hgr.none_of hbe).1
      have hge := (hgrp.keep (sget_self be (.arr 6 [XEdge.d g.man.edges[i]]) _)).trans (congrArg (fun x => some (AObj.arr 6 [x])) (XEdge.d_eq g.man.edges[i]))
      have ho := hgrp.oget
      have hd := hgrp.sdel
      have hml : ((outsTo g.man i).map sD).length = (outsTo g.man i).length := List.length_map ..
      have hml2 : (g.man.edges[i].outs.map sD).length = g.man.edges[i].outs.length := List.length_map ..
      have htk : List.take (outsTo g.man i).length ((outsTo g.man i).map sD) = (outsTo g.man i).map sD := List.take_of_length_le (by omega)
      refine Gs.rg [3, 4, 6, 28, 29, 30] fun K hK => ?_; simp (maxSteps:=9^7) only [go_sem, hge, ho, hd, htk]
      refine ⟨⟨by omega, plain_sD _, by omega, by omega⟩, fun ob hz hf => ?_⟩
      have hgr2 := hgrp.app hz hf
      have e1 : (outsTo g.man i).map sD ++ g.man.edges[i].outs.map sD = (outsTo g.man (i + 1)).map sD := by rw [hsu, List.map_append]
      rw [e1] at hgr2 ⊢
      have hdr := hgr2.drop hbe2
      refine hK _ _ ?_; clear hK K
      refine Gs.le (ELe.refl _) hdr.2 ?_
      refine Gs.ib ?_
      refine Gs.rg [3, 4, 28, 29, 30] fun K hK => ?_; simp (maxSteps:=9^7) only [go_sem]
      refine hK _ _ ?_; clear hK K
      refine Gs.rebase [3, 4, 28, 29, 30] ?_
      simp only [go_sem]
      rw [wrap_succ i (by omega)]
      exact ih (i + 1) _ _ ⟨ob, ⟨by omega, hdr.1⟩, by rw [List.length_map], rfl⟩ (by omega)
    · have hie : i = g.man.edges.length := by simp at h31; omega
      subst hie
      have hol := outsTo_len g.man hs g.man.edges.length (Nat.le_refl _)
      refine Gs.exit rfl ?_
      refine Gs.sq (Gs.rg [3, 4] fun K hK => ?_); simp (maxSteps:=9^7) only [go_sem]
      refine ⟨_, Tryz.call71, (deleteFunc_strG o (outsTo g.man g.man.edges.length) _ [.ptr b3 1 0 0] (fun f => (usedL g.man).contains f) _ (by omega) hgr (fun τ hle => targets1_tests (usedL g.man) b3 τ _ (hle b3 _ (sget_self ..)) (by omega) (usedL_sorted g.man))).mono ?_⟩
      rintro e σ1 ⟨rfl, rfl, hgr2⟩
      simp only [go_sem]
      refine hK _ _ ?_; clear hK K
      have hdr := hgr2.drop hb3
      refine Gs.le (ELe.refl _) hdr.2 ?_
      refine Gs.ret hC Tryz.func30 (by simp [go_sem]) ?_
      simp only [go_sem]
      have hu : outsTo g.man g.man.edges.length = g.man.edges.flatMap XEdge.outs := by unfold outsTo; rw [List.take_length]
      have ht : targetsL g = kept (fun f => (usedL g.man).contains f) (outsTo g.man g.man.edges.length) := by unfold targetsL; rw [if_neg hdp, hu]
      rw [ht]
      exact .inr ⟨o, hdr.1, rfl, rfl⟩
theorem AC.pubOwnD {f : FuncId} {args : List D} {sz : Nat} {xs : List D} (h : AC Tryz.prog f args [] (fun e σ' => (e = .ret (.slc xs) ∧ σ' = []) ∨ ∃ o, GrD o sz xs [] ∧ e = .ret (.own o sz xs.length) ∧ σ' = cellsOf o sz xs ++ [])) (σ : Store) : AC Tryz.prog f args σ (fun e σ' => e = .ret (.slc xs) ∧ σ' = σ) := by
  have h2 : AC Tryz.prog f args [] (fun e σ' => (e = .ret (.slc xs) ∧ σ' = []) ∨ ∃ b, e = .ret (.own (some b) sz xs.length) ∧ σ' = [(b, .arr sz xs)]) := by
    refine h.ret_le fun e σ' hh => ?_
    rcases hh with hh | ⟨o, hg, he, hs⟩
    · exact .inl (.inl hh)
    · cases o with
      | some b => exact .inl (.inr ⟨b, he, hs⟩)
      | none =>
        have : xs = [] := hg.zero rfl
        subst this
        exact .inr ⟨_, _, he, DLe.own_slc _ _, .inl ⟨rfl, hs⟩⟩
  refine AC.pub1 (R' := fun e => e = .ret (.slc xs)) h2 (fun e σ' hh => ?_) σ
  rcases hh with hh | ⟨b, rfl, rfl⟩
  · exact .inl hh
  · exact .inr ⟨_, b, sz, xs, rfl, rfl, by rw [pub_own]⟩
theorem targets_calls (g : XGr) (mb : Nat) (σ : Store) (hl : g.man.edges.length < 2 ^ 20) (hs : ∀ e ∈ g.man.edges, e.small) (hd : g.man.defs.length < 2 ^ 20) :
    AC Tryz.prog 30 [g.d mb] σ (fun e σ' => e = .ret (.slc ((targetsL g).map sD)) ∧ σ' = σ) := by
  refine AC.pubOwnD (sz := 1) ((targets_own g mb [] hl hs hd).mono ?_) σ
  rintro e σ' (h | ⟨o, hgr, rfl, rfl⟩)
  · exact .inl h
  · exact .inr ⟨o, hgr, by rw [List.length_map], rfl⟩
structure XGr.Ok (g : XGr) : Prop where
  el : g.man.edges.length < 2 ^ 20
  sm : ∀ e ∈ g.man.edges, e.small
  dl : g.man.defs.length < 2 ^ 20
  al : g.ah.length = g.man.edges.length
  ab : ∀ l ∈ g.ah, l.length < 2 ^ 30 ∧ ∀ n ∈ l, n < g.ah.length
  kn : (g.mks.map (·.1)).Nodup
  kl : g.mks.length < 2 ^ 30
  kb : ∀ p ∈ g.mks, p.2 < g.man.edges.length
  ks : ∀ p ∈ g.mks, p.1.size < 2 ^ 40
def planL (g : XGr) (ts : List ByteArray) : Nat ⊕ List Nat :=
  if ts.any (fun f => !(sourcesL g).contains f && !(lookL g.mks f).isSome) then .inl 6 else .inr (orderL g.ah (reachedS g.ah (madeL g.mks ts)))
def planD : Nat ⊕ List Nat → D
  | .inl c => .tup [.v (.slice none 0 0), .v (.int .i64 (c : Int))]
  | .inr l => .tup [.slc (l.map nD), .v (.int .i64 0)]
theorem lookL_mem {mks : List (ByteArray × Nat)} {f : ByteArray} {n : Nat} (h : lookL mks f = some n) : ∃ p ∈ mks, p.2 = n ∧ p.1 = f := by
  unfold lookL at h
  obtain ⟨p, hp, rfl⟩ := Option.map_eq_some_iff.1 h
  exact ⟨p, List.mem_of_find?_eq_some hp, rfl, by have := List.find?_some hp; exact (eq_of_beq this).symm⟩
theorem madeL_lt {mks : List (ByteArray × Nat)} {B : Nat} (h : ∀ p ∈ mks, p.2 < B) (fs : List ByteArray) : ∀ n ∈ madeL mks fs, n < B := by
  have key : ∀ i, i ≤ fs.length → ∀ n ∈ madeL mks (fs.take i), n < B := by
    intro i
    induction i with
    | zero => intro _ n hn; simp [madeL] at hn
    | succ i ih =>
      intro hi n hn
      rw [madeL_succ mks fs i (by omega)] at hn
      split at hn
      · rename_i m hm
        obtain ⟨p, hp, hpm, _⟩ := lookL_mem hm
        split at hn
        · exact ih (by omega) n hn
        · rcases List.mem_append.1 hn with hn | hn
          · exact ih (by omega) n hn
          · simp only [List.mem_singleton] at hn; rw [hn, ← hpm]; exact h p hp
      · exact ih (by omega) n hn
  have := key fs.length (Nat.le_refl _)
  rwa [List.take_length] at this
theorem bfs_ok (ah : List (List Nat)) (hah : ∀ l ∈ ah, ∀ n ∈ l, n < ah.length) : ∀ (f k : Nat) (met : List Nat), met.Nodup → (∀ n ∈ met, n < ah.length) → (bfsF ah f k met).Nodup ∧ ∀ n ∈ bfsF ah f k met, n < ah.length
  | 0, k, met, h1, h2 => ⟨h1, h2⟩
  | f + 1, k, met, h1, h2 => by
    unfold bfsF
    split
    · rename_i hk
      refine bfs_ok ah hah f (k + 1) _ (visitL_nodup _ _ h1) fun n hn => ?_
      rcases (visitL_mem _ _ n).1 hn with h | h
      · exact h2 n h
      · have hm := h2 met[k] (List.getElem_mem hk)
        rw [getD_lt ah met[k] [] hm] at h
        exact hah _ (List.getElem_mem hm) n h
    · exact ⟨h1, h2⟩
theorem reachedL_ok (ah : List (List Nat)) (hah : ∀ l ∈ ah, ∀ n ∈ l, n < ah.length) (frm : List Nat) (hf : ∀ n ∈ frm, n < ah.length) : (reachedL ah frm).Nodup ∧ ∀ n ∈ reachedL ah frm, n < ah.length :=
  bfs_ok ah hah _ _ _ (visitL_nodup _ _ List.nodup_nil) fun n hn => by
    rcases (visitL_mem frm [] n).1 hn with h | h
    · cases h
    · exact hf n h
theorem reachedS_ok (ah : List (List Nat)) (hah : ∀ l ∈ ah, ∀ n ∈ l, n < ah.length) (frm : List Nat) (hf : ∀ n ∈ frm, n < ah.length) : (reachedS ah frm).length ≤ ah.length ∧ ∀ n ∈ reachedS ah frm, n < ah.length := by
  obtain ⟨h1, h2⟩ := reachedL_ok ah hah frm hf
  have hp : (reachedS ah frm).Perm (reachedL ah frm) := isort_perm _
  refine ⟨?_, fun n hn => h2 n (hp.mem_iff.1 hn)⟩
  rw [hp.length_eq]
  have := nodup_sub_len h1 (m := List.range ah.length) (fun x hx => List.mem_range.2 (h2 x hx))
  rwa [List.length_range] at this
theorem plan_calls (g : XGr) (hg : g.Ok) (mb : Nat) (ts : List ByteArray) (σ : Store) (hm : sget mb σ = some (.mp (mkE g.mks))) (ht : ts.length < 2 ^ 30) :
    AC Tryz.prog 31 [g.d mb, .slc (ts.map sD)] σ (fun e σ' => e = .ret (planD (planL g ts)) ∧ σ' = σ) := by
  have hul := usedL_len g.man hg.sm
  have hel := hg.el
  have hsl : (sourcesL g).length ≤ (usedL g.man).length := kept_len ..
  have htl : (ts.map sD).length = ts.length := List.length_map ..
  have hss := kept_sorted (fun f => (lookL g.mks f).isSome) _ (usedL_sorted g.man)
  have hgd : g.d mb = .elt [.slc (g.man.edges.map XEdge.d), .slc (g.man.defs.map sD), .map mb, .slc (g.ah.map fun l => .slc (l.map nD))] := rfl
  have hmlt := madeL_lt hg.kb ts
  have hmlen := madeL_len g.mks ts ts.length (Nat.le_refl _)
  rw [List.take_length] at hmlen
  have hreach := reached_calls (.slc (g.man.defs.map sD)) (.map mb) (g.man.edges.map XEdge.d) g.ah (madeL g.mks ts) σ (by rw [List.length_map]; exact hg.al.symm) (by rw [hg.al]; omega) (fun n hn => by rw [hg.al]; exact hmlt n hn) (by omega) hg.ab
  obtain ⟨hrl, hrb⟩ := reachedS_ok g.ah (fun l hl => (hg.ab l hl).2) (madeL g.mks ts) (fun n hn => by rw [hg.al]; exact hmlt n hn)
  have horder := order_calls (.slc (g.man.edges.map XEdge.d)) (.slc (g.man.defs.map sD)) (.map mb) g.ah (reachedS g.ah (madeL g.mks ts)) σ (by rw [hg.al] at hrl; omega) hrb (fun l hl => (hg.ab l hl).1)
  refine AC.of_body Tryz.func31 rfl Tryz.ntmps31 (by simp) fun C hC => ?_
  rw [hgd]
  refine Gs.sq (Gs.rg [0, 1] fun K hK => ?_); simp (maxSteps:=9^7) only [go_sem]
  refine hK _ _ ?_; clear hK K
  refine Gs.sq (Gs.sq ?_)
  refine Gs.rg [0, 1] fun K hK => ?_; simp (maxSteps:=9^7) only [go_sem]
  refine hK _ _ ?_; clear hK K
  refine Gs.condF rfl ?_
  refine Gs.sk ?_
  refine Gs.sq (Gs.rg [0, 1] fun K hK => ?_); simp (maxSteps:=9^7) only [go_sem]
  refine ⟨_, Tryz.call64, (sources_calls g mb σ hm hel hg.sm).mono ?_⟩
  rintro e σ1 ⟨rfl, rfl⟩
  simp only [go_sem]
  refine hK _ _ ?_; clear hK K
  refine Gs.sq (Gs.sq ?_)
  refine Gs.rg [0, 1, 6] fun K hK => ?_; simp (maxSteps:=9^7) only [go_sem, htl]
  refine hK _ _ ?_; clear hK K
  refine Gs.bk ?_
  refine Gs.rebase [0, 1, 6, 17, 18, 19] ?_
  simp only [go_sem]
  refine Gs.while (fun (i : Nat) env' σ'' => (i ≤ ts.length ∧ ∀ f ∈ ts.take i, (!(sourcesL g).contains f && !(lookL g.mks f).isSome) = false) ∧ env' = [(0, .elt [.slc (g.man.edges.map XEdge.d), .slc (g.man.defs.map sD), .map mb, .slc (g.ah.map fun l => .slc (l.map nD))]), (1, .slc (ts.map sD)), (6, .slc ((sourcesL g).map sD)), (17, .slc (ts.map sD)), (18, .v (.int .i64 (ts.length : Int))), (19, .v (.int .i64 (i : Int)))] ∧ σ1 = σ'') (fun (i : Nat) => ts.length - i) 0 ⟨⟨by omega, by simp⟩, rfl, rfl⟩ ?_
  rintro i env' σ'' ⟨⟨hi, hall⟩, rfl, rfl⟩ ih
  have ih1 := ih
  refine Gs.sq (Gs.rg [0, 1, 6, 17, 18, 19] fun K hK => ?_); simp (maxSteps:=9^7) only [go_sem]
  refine hK _ _ ?_; clear hK K
  refine Gs.sq ?_
  refine Gs.cond rfl (fun h20 => ?_) (fun h20 => ?_)
  · have hlt : i < ts.length := by simpa using h20
    have hgx := getD_map_lt sD ts i hlt
    rw [sD] at hgx
    have hi0 : (0 : Int) ≤ (i : Int) := by omega
    have hi1 : (i : Int) < ((ts.map sD).length : Int) := by omega
    have hfd := mfind_mkE g.mks ts[i]
    have hlk := mkE_like g.mks ts[i]
    have hf1 := getD_nD (lookL g.mks ts[i])
    have hf2 := some_nD (lookL g.mks ts[i])
    refine Gs.sk ?_
    refine Gs.sq ?_
    refine Gs.bk ?_
    refine Gs.sq (Gs.rg [0, 1, 6, 17, 18, 19] fun K hK => ?_); simp (maxSteps:=9^7) only [go_sem, hgx, hi0, hi1]
    refine hK _ _ ?_; clear hK K
    refine Gs.sq (Gs.rg [0, 1, 6, 8, 17, 18, 19] fun K hK => ?_); simp (maxSteps:=9^7) only [go_sem, hm, hfd, hf1, hf2]
    refine ⟨⟨rfl, hlk⟩, ?_⟩
    refine hK _ _ ?_; clear hK K
    refine Gs.sq (Gs.rg [0, 1, 6, 8, 10, 17, 18, 19] fun K hK => ?_); simp (maxSteps:=9^7) only [go_sem]
    refine ⟨_, Tryz.call60, (search_calls (sourcesL g) ts[i] _ (by omega) hss).mono ?_⟩
    rintro e σ2 ⟨⟨ix, rfl⟩, rfl⟩
    simp only [go_sem]
    refine hK _ _ ?_; clear hK K
    refine Gs.sq ?_
    rcases Bool.eq_false_or_eq_true ((sourcesL g).contains ts[i]) with hct | hct
    · refine Gs.rg [0, 1, 6, 10, 12, 17, 18, 19] fun K hK => ?_; simp (maxSteps:=9^7) only [go_sem, hct]
      refine hK _ _ ?_; clear hK K
      refine Gs.condF rfl ?_
      refine Gs.sk ?_
      refine Gs.ib ?_
      refine Gs.rg [0, 1, 6, 17, 18, 19] fun K hK => ?_; simp (maxSteps:=9^7) only [go_sem]
      refine hK _ _ ?_; clear hK K
      refine Gs.rebase [0, 1, 6, 17, 18, 19] ?_
      simp only [go_sem]
      rw [wrap_succ i (by omega)]
      exact ih (i + 1) _ _ ⟨⟨by omega, take_succ_none hlt hall (by rw [hct]; rfl)⟩, rfl, rfl⟩ (by omega)
    · refine Gs.rg [0, 1, 6, 10, 12, 17, 18, 19] fun K hK => ?_; simp (maxSteps:=9^7) only [go_sem, hct]
      refine hK _ _ ?_; clear hK K
      refine Gs.cond rfl (fun h43 => ?_) (fun h43 => ?_)
      · have hmk : (lookL g.mks ts[i]).isSome = false := by simpa using h43
        refine Gs.sq (Gs.rg [] fun K hK => ?_); simp (maxSteps:=9^7) only [go_sem]
        refine hK _ _ ?_; clear hK K
        refine Gs.ret hC Tryz.func31 (by simp [go_sem]) ?_
        simp only [go_sem]
        have hany : ts.any (fun f => !(sourcesL g).contains f && !(lookL g.mks f).isSome) = true := List.any_eq_true.2 ⟨ts[i], List.getElem_mem hlt, by rw [hct, hmk]; rfl⟩
        have : planL g ts = .inl 6 := by unfold planL; rw [if_pos hany]
        rw [this]
        rfl
      · have hmk : (lookL g.mks ts[i]).isSome = true := by simpa using h43
        refine Gs.sk ?_
        refine Gs.ib ?_
        refine Gs.rg [0, 1, 6, 17, 18, 19] fun K hK => ?_; simp (maxSteps:=9^7) only [go_sem]
        refine hK _ _ ?_; clear hK K
        refine Gs.rebase [0, 1, 6, 17, 18, 19] ?_
        simp only [go_sem]
        rw [wrap_succ i (by omega)]
        exact ih (i + 1) _ _ ⟨⟨by omega, take_succ_none hlt hall (by rw [hct, hmk]; rfl)⟩, rfl, rfl⟩ (by omega)
  · have hie : i = ts.length := by simp at h20; omega
    subst hie
    rw [List.take_length] at hall
    have hany : ts.any (fun f => !(sourcesL g).contains f && !(lookL g.mks f).isSome) = false := by
      rw [Bool.eq_false_iff]
      intro hc
      obtain ⟨f, hf, h⟩ := List.any_eq_true.1 hc
      rw [hall f hf] at h; cases h
    have hpl : planL g ts = .inr (orderL g.ah (reachedS g.ah (madeL g.mks ts))) := by unfold planL; rw [if_neg (by rw [hany]; simp)]
    refine Gs.exit rfl ?_
    refine Gs.sq (Gs.rg [0, 1] fun K hK => ?_); simp (maxSteps:=9^7) only [go_sem]
    refine ⟨_, Tryz.call54, (made_calls g mb ts _ hm ht).mono ?_⟩
    rintro e σ1 ⟨rfl, rfl⟩
    simp only [go_sem]
    refine ⟨_, Tryz.call73, hreach.mono ?_⟩
    rintro e σ1 ⟨rfl, rfl⟩
    simp only [go_sem]
    refine ⟨_, Tryz.call56, horder.mono ?_⟩
    rintro e σ1 ⟨rfl, rfl⟩
    simp only [go_sem]
    refine hK _ _ ?_; clear hK K
    refine Gs.ret hC Tryz.func31 (by simp [go_sem]) ?_
    simp only [go_sem]
    rw [hpl]
    rfl
def outsOf (m : XMan) (k : Nat) : List ByteArray := (m.edges[k]?.map XEdge.outs).getD []
def aheadL (g : XGr) (n : Nat) : List Nat := reachedS g.ah (g.ah.getD n [])
def aboveL (g : XGr) (n : Nat) : List ByteArray := sortB ((aheadL g n).flatMap (outsOf g.man))
def aboveTo (g : XGr) (n i : Nat) : List ByteArray := ((aheadL g n).take i).flatMap (outsOf g.man)
theorem aboveTo_succ (g : XGr) (n i : Nat) (h : i < (aheadL g n).length) : aboveTo g n (i + 1) = aboveTo g n i ++ outsOf g.man (aheadL g n)[i] := by
  unfold aboveTo
  rw [List.take_succ_eq_append_getElem h, List.flatMap_append]
  simp
theorem outsOf_len (m : XMan) (hs : ∀ e ∈ m.edges, e.small) (k : Nat) : (outsOf m k).length ≤ 10 := by
  unfold outsOf
  cases h : m.edges[k]? with
  | none => simp
  | some e => exact (hs e (List.mem_of_getElem? h)).outs
theorem aboveTo_len (g : XGr) (n : Nat) (hs : ∀ e ∈ g.man.edges, e.small) : ∀ i, i ≤ (aheadL g n).length → (aboveTo g n i).length ≤ 10 * i
  | 0, _ => by simp [aboveTo]
  | i + 1, h => by
    have h1 := aboveTo_len g n hs i (by omega)
    have h2 := outsOf_len g.man hs (aheadL g n)[i]
    rw [aboveTo_succ g n i (by omega), List.length_append]; omega
theorem above_own (g : XGr) (hg : g.Ok) (mb n : Nat) (hn : n < g.man.edges.length) (σ : Store) :
    AC Tryz.prog 61 [g.d mb, nD n] σ (fun e σ' => ∃ o, GrD o 1 ((aboveL g n).map sD) σ ∧ e = .ret (.own o 1 ((aboveL g n).map sD).length) ∧ σ' = cellsOf o 1 ((aboveL g n).map sD) ++ σ) := by
  have hel := hg.el
  have hll : (g.man.edges.map XEdge.d).length = g.man.edges.length := List.length_map ..
  have hal := hg.al
  have hgd : g.d mb = .elt [.slc (g.man.edges.map XEdge.d), .slc (g.man.defs.map sD), .map mb, .slc (g.ah.map fun l => .slc (l.map nD))] := rfl
  have hn2 : n < g.ah.length := by omega
  have hah := getD_map_lt (fun l => D.slc (l.map nD)) g.ah n hn2
  have hn0 : (0 : Int) ≤ (n : Int) := by omega
  have hn1 : (n : Int) < ((g.ah.map fun l => D.slc (l.map nD)).length : Int) := by rw [List.length_map]; omega
  have hz : decide ((n : Int) < 0) = false := by simp
  have hz2 : decide ((n : Int) ≥ (g.man.edges.length : Int)) = false := by simp; omega
  have hab := hg.ab _ (List.getElem_mem hn2)
  have hreach := reached_calls (.slc (g.man.defs.map sD)) (.map mb) (g.man.edges.map XEdge.d) g.ah g.ah[n] σ (by rw [List.length_map]; exact hg.al.symm) (by omega) hab.2 hab.1 hg.ab
  obtain ⟨hrl, hrb⟩ := reachedS_ok g.ah (fun l hl => (hg.ab l hl).2) g.ah[n] hab.2
  have hahd : aheadL g n = reachedS g.ah g.ah[n] := by unfold aheadL; rw [getD_lt g.ah n [] hn2]
  rw [← hahd] at hreach hrl hrb
  have hrm : ((aheadL g n).map nD).length = (aheadL g n).length := List.length_map ..
  rw [hgd]
  refine AC.of_body Tryz.func61 rfl Tryz.ntmps61 (by simp) fun C hC => ?_
  refine Gs.sq (Gs.rg [0, 1] fun K hK => ?_); simp (maxSteps:=9^7) only [go_sem]
  refine hK _ _ ?_; clear hK K
  refine Gs.sq (Gs.sq ?_)
  refine Gs.rg [0, 1] fun K hK => ?_; simp (maxSteps:=9^7) only [go_sem, nD, hll, hz, hz2]
  refine hK _ _ ?_; clear hK K
  refine Gs.condF rfl ?_
  refine Gs.sk ?_
  refine Gs.sq (Gs.rg [0, 1] fun K hK => ?_); simp (maxSteps:=9^7) only [go_sem]
  refine hK _ _ ?_; clear hK K
  refine Gs.sq (Gs.sq ?_)
  refine Gs.rg [0, 1, 5] fun K hK => ?_; simp (maxSteps:=9^7) only [go_sem, nD, hah, hn0, hn1]
  refine ⟨_, Tryz.call73, hreach.mono ?_⟩
  rintro e σ1 ⟨rfl, rfl⟩
  simp only [go_sem, hrm]
  refine hK _ _ ?_; clear hK K
  refine Gs.bk ?_
  refine Gs.nilOwn 5 1 rfl ?_
  refine Gs.rebase [0, 5, 32, 33, 34] ?_
  simp only [go_sem]
  refine Gs.while (fun (i : Nat) env' σ'' => ∃ o : Option Nat, (i ≤ (aheadL g n).length ∧ GrD o 1 ((aboveTo g n i).map sD) σ1) ∧ env' = [(0, .elt [.slc (g.man.edges.map XEdge.d), .slc (g.man.defs.map sD), .map mb, .slc (g.ah.map fun l => .slc (l.map nD))]), (5, .own o 1 (aboveTo g n i).length), (32, .slc ((aheadL g n).map nD)), (33, .v (.int .i64 ((aheadL g n).length : Int))), (34, .v (.int .i64 (i : Int)))] ∧ σ'' = cellsOf o 1 ((aboveTo g n i).map sD) ++ σ1) (fun (i : Nat) => (aheadL g n).length - i) 0 ⟨none, ⟨by omega, GrD.nil _ _⟩, rfl, rfl⟩ ?_
  rintro i env' σ'' ⟨o, ⟨hi, hgr⟩, rfl, rfl⟩ ih
  have ih1 := ih
  refine Gs.sq (Gs.rg [0, 5, 32, 33, 34] fun K hK => ?_); simp (maxSteps:=9^7) only [go_sem]
  refine hK _ _ ?_; clear hK K
  refine Gs.sq ?_
  refine Gs.cond rfl (fun h35 => ?_) (fun h35 => ?_)
  · have hlt : i < (aheadL g n).length := by simpa using h35
    have hgx := getD_map_lt nD (aheadL g n) i hlt
    rw [nD] at hgx
    have hi0 : (0 : Int) ≤ (i : Int) := by omega
    have hi1 : (i : Int) < (((aheadL g n).map nD).length : Int) := by omega
    have hkb := hrb _ (List.getElem_mem hlt)
    have hkb2 : (aheadL g n)[i] < g.man.edges.length := by omega
    have hge := getD_map_lt XEdge.d g.man.edges (aheadL g n)[i] hkb2
    rw [XEdge.d] at hge
    have hj0 : (0 : Int) ≤ ((aheadL g n)[i] : Int) := by omega
    have hj1 : ((aheadL g n)[i] : Int) < ((g.man.edges.map XEdge.d).length : Int) := by omega
    have hsm := hg.sm _ (List.getElem_mem hkb2)
    have hnl := hsm.outs
    have hul := aboveTo_len g n hg.sm i hi
    have hsu := aboveTo_succ g n i hlt
    have hoo : outsOf g.man (aheadL g n)[i] = g.man.edges[(aheadL g n)[i]].outs := by unfold outsOf; rw [List.getElem?_eq_getElem hkb2]; rfl
    rw [hoo] at hsu
    have ho := hgr.oget
    have hd := hgr.sdel
    have hml : ((aboveTo g n i).map sD).length = (aboveTo g n i).length := List.length_map ..
    have hml2 : (g.man.edges[(aheadL g n)[i]].outs.map sD).length = g.man.edges[(aheadL g n)[i]].outs.length := List.length_map ..
    have htk : List.take (aboveTo g n i).length ((aboveTo g n i).map sD) = (aboveTo g n i).map sD := List.take_of_length_le (by omega)
    refine Gs.sk ?_
    refine Gs.sq ?_
    refine Gs.bk ?_
    refine Gs.sq (Gs.rg [0, 5, 32, 33, 34] fun K hK => ?_); simp (maxSteps:=9^7) only [go_sem, hgx, hi0, hi1]
    refine hK _ _ ?_; clear hK K
    refine Gs.rg [0, 5, 7, 32, 33, 34] fun K hK => ?_; simp (maxSteps:=9^7) only [go_sem, hge, hj0, hj1, ho, hd, htk]
    refine ⟨⟨by omega, plain_sD _, by omega, by omega⟩, fun ob hz hf => ?_⟩
    have hgr2 := hgr.app hz hf
    have e1 : (aboveTo g n i).map sD ++ g.man.edges[(aheadL g n)[i]].outs.map sD = (aboveTo g n (i + 1)).map sD := by rw [hsu, List.map_append]
    rw [e1] at hgr2 ⊢
    refine hK _ _ ?_; clear hK K
    refine Gs.ib ?_
    refine Gs.rg [0, 5, 32, 33, 34] fun K hK => ?_; simp (maxSteps:=9^7) only [go_sem]
    refine hK _ _ ?_; clear hK K
    refine Gs.rebase [0, 5, 32, 33, 34] ?_
    simp only [go_sem]
    rw [wrap_succ i (by omega)]
    exact ih (i + 1) _ _ ⟨ob, ⟨by omega, hgr2⟩, by rw [List.length_map], rfl⟩ (by omega)
  · have hie : i = (aheadL g n).length := by simp at h35; omega
    subst hie
    have hul := aboveTo_len g n hg.sm _ hi
    refine Gs.exit rfl ?_
    refine Gs.sq (Gs.rg [5] fun K hK => ?_); simp (maxSteps:=9^7) only [go_sem]
    refine ⟨_, Tryz.call94, (sort_own o (aboveTo g n (aheadL g n).length) σ1 hgr (by omega)).mono ?_⟩
    rintro e σ1 ⟨rfl, rfl⟩
    simp only [go_sem]
    refine hK _ _ ?_; clear hK K
    refine Gs.sq (Gs.rg [5] fun K hK => ?_); simp (maxSteps:=9^7) only [go_sem]
    refine hK _ _ ?_; clear hK K
    refine Gs.ret hC Tryz.func61 (by simp [go_sem]) ?_
    simp only [go_sem]
    have hu : aboveTo g n (aheadL g n).length = (aheadL g n).flatMap (outsOf g.man) := by unfold aboveTo; rw [List.take_length]
    have hab2 : aboveL g n = sortB (aboveTo g n (aheadL g n).length) := by unfold aboveL; rw [hu]
    rw [hab2]
    refine ⟨o, GrD.re hgr fun h => ?_, ?_, rfl⟩
    · have : aboveTo g n (aheadL g n).length = [] := by simpa using h
      rw [this]; rfl
    · rw [List.length_map, sortB_len]
theorem above_calls (g : XGr) (hg : g.Ok) (mb n : Nat) (hn : n < g.man.edges.length) (σ : Store) :
    AC Tryz.prog 61 [g.d mb, nD n] σ (fun e σ' => e = .ret (.slc ((aboveL g n).map sD)) ∧ σ' = σ) :=
  AC.pubOwn (above_own g hg mb n hn []) σ
theorem there_calls (g : XGr) (hg : g.Ok) (mb n : Nat) (hn : n < g.man.edges.length) (f : ByteArray) (hf : f.size < 2 ^ 40) (σ : Store) (hm : sget mb σ = some (.mp (mkE g.mks))) :
    AC Tryz.prog 23 [g.d mb, nD n, sD f] σ (fun e σ' => e = .ret (.v (.bool (if (lookL g.mks f).isSome then (aboveL g n).contains f else !ownB f))) ∧ σ' = σ) := by
  have hal : (aboveL g n).length < 2 ^ 40 := by
    have h1 := aboveTo_len g n hg.sm (aheadL g n).length (Nat.le_refl _)
    have h2 : (aheadL g n).length ≤ g.ah.length := by
      have hn2 : n < g.ah.length := by rw [hg.al]; exact hn
      have hab := hg.ab _ (List.getElem_mem hn2)
      have := (reachedS_ok g.ah (fun l hl => (hg.ab l hl).2) g.ah[n] hab.2).1
      unfold aheadL; rw [getD_lt g.ah n [] hn2]; exact this
    have h3 := hg.al
    have h4 := hg.el
    unfold aboveTo at h1
    rw [List.take_length] at h1
    unfold aboveL
    rw [sortB_len]
    omega
  have hmk := graphMaker_calls g mb f σ hm
  have hgd : g.d mb = .elt (g.cells mb) := rfl
  rw [hgd] at hmk ⊢
  refine AC.of_body Tryz.func23 rfl Tryz.ntmps23 (by simp) fun C hC => ?_
  refine Gs.sq (Gs.rg [0, 1, 2] fun K hK => ?_); simp (maxSteps:=9^7) only [go_sem]
  refine hK _ _ ?_; clear hK K
  refine Gs.sq (Gs.sq ?_)
  refine Gs.rg [0, 1, 2] fun K hK => ?_; simp (maxSteps:=9^7) only [go_sem, sD]
  refine ⟨_, Tryz.call33, hmk.mono ?_⟩
  rintro e σ1 ⟨rfl, rfl⟩
  simp only [go_sem, sD]
  refine hK _ _ ?_; clear hK K
  refine Gs.sq (Gs.rg [0, 1, 2, 8] fun K hK => ?_); simp (maxSteps:=9^7) only [go_sem]
  refine hK _ _ ?_; clear hK K
  refine Gs.cond rfl (fun h18 => ?_) (fun h18 => ?_)
  · have hs : (lookL g.mks f).isSome = false := by simpa using h18
    refine Gs.sq (Gs.rg [2] fun K hK => ?_); simp (maxSteps:=9^7) only [go_sem]
    refine ⟨_, Tryz.call18, (own_calls f _ hf).mono ?_⟩
    rintro e σ1 ⟨rfl, rfl⟩
    simp only [go_sem]
    refine hK _ _ ?_; clear hK K
    refine Gs.ret hC Tryz.func23 (by simp [go_sem]) ?_
    simp only [go_sem]
    rw [hs]; rfl
  · have hs : (lookL g.mks f).isSome = true := by simpa using h18
    refine Gs.sk ?_
    refine Gs.sq (Gs.rg [0, 1, 2] fun K hK => ?_); simp (maxSteps:=9^7) only [go_sem]
    refine ⟨_, Tryz.call61, (above_calls g hg mb n hn _).mono ?_⟩
    rintro e σ1 ⟨rfl, rfl⟩
    simp only [go_sem]
    refine ⟨_, Tryz.call60, (search_calls (aboveL g n) f _ hal (sortB_pairwise _)).mono ?_⟩
    rintro e σ2 ⟨⟨ix, rfl⟩, rfl⟩
    simp only [go_sem]
    refine hK _ _ ?_; clear hK K
    refine Gs.sq (Gs.rg [10] fun K hK => ?_); simp (maxSteps:=9^7) only [go_sem]
    refine hK _ _ ?_; clear hK K
    refine Gs.ret hC Tryz.func23 (by simp [go_sem]) ?_
    simp only [go_sem]
    rw [hs]; rfl
def wrongB (g : XGr) : Bool := (outsL g).any ownB || (sourcesL g).any ownB
theorem outsL_len (g : XGr) : (outsL g).length = g.mks.length := by unfold outsL; rw [sortB_len, List.length_map]
theorem own_tests (l : List ByteArray) (h : ∀ f ∈ l, f.size < 2 ^ 40) (σ : Store) : Tests [] 18 ownB l σ := ⟨Tryz.call18, fun f hf => own_calls f σ (h f hf)⟩
theorem wrong_calls (g : XGr) (hg : g.Ok) (mb : Nat) (σ : Store) (hm : sget mb σ = some (.mp (mkE g.mks))) (hsz : ∀ f ∈ sourcesL g, f.size < 2 ^ 40) :
    AC Tryz.prog 25 [g.d mb] σ (fun e σ' => e = .ret (.v (.bool (wrongB g))) ∧ σ' = σ) := by
  have hkl := hg.kl
  have hol := outsL_len g
  have hosz : ∀ f ∈ outsL g, f.size < 2 ^ 40 := fun f hf => by
    unfold outsL at hf
    rw [sortB_mem] at hf
    obtain ⟨p, hp, rfl⟩ := List.mem_map.1 hf
    exact hg.ks p hp
  have hsl : (sourcesL g).length ≤ (usedL g.man).length := kept_len ..
  have hul := usedL_len g.man hg.sm
  have hel := hg.el
  have c1 := outs_calls g mb σ hm hg.kn (by omega) (fun p hp => by have := hg.ks p hp; unfold maxLen; omega)
  have c2 := sources_calls g mb σ hm hg.el hg.sm
  have hgd : g.d mb = .elt (g.cells mb) := rfl
  rw [hgd] at c1 c2 ⊢
  refine AC.of_body Tryz.func25 rfl Tryz.ntmps25 (by simp) fun C hC => ?_
  refine Gs.sq (Gs.rg [0] fun K hK => ?_); simp (maxSteps:=9^7) only [go_sem]
  refine hK _ _ ?_; clear hK K
  refine Gs.sq ?_
  rcases Bool.eq_false_or_eq_true ((outsL g).any ownB) with hw | hw
  · refine Gs.rg [0] fun K hK => ?_; simp (maxSteps:=9^7) only [go_sem]
    refine ⟨_, Tryz.call63, c1.mono ?_⟩
    rintro e σ1 ⟨rfl, rfl⟩
    simp only [go_sem]
    refine ⟨_, Tryz.call34, (containsFunc_str (outsL g) _ [] ownB _ (by omega) (own_tests _ hosz _)).mono ?_⟩
    rintro e σ1 ⟨rfl, rfl⟩
    simp only [go_sem, hw]
    refine hK _ _ ?_; clear hK K
    refine Gs.ret hC Tryz.func25 (by simp [go_sem]) ?_
    simp only [go_sem]
    unfold wrongB; rw [hw]; simp
  · refine Gs.rg [0] fun K hK => ?_; simp (maxSteps:=9^7) only [go_sem]
    refine ⟨_, Tryz.call63, c1.mono ?_⟩
    rintro e σ1 ⟨rfl, rfl⟩
    simp only [go_sem]
    refine ⟨_, Tryz.call34, (containsFunc_str (outsL g) _ [] ownB _ (by omega) (own_tests _ hosz _)).mono ?_⟩
    rintro e σ1 ⟨rfl, rfl⟩
    simp only [go_sem, hw]
    refine ⟨_, Tryz.call64, c2.mono ?_⟩
    rintro e σ1 ⟨rfl, rfl⟩
    simp only [go_sem]
    refine ⟨_, Tryz.call34, (containsFunc_str (sourcesL g) _ [] ownB _ (by omega) (own_tests _ hsz _)).mono ?_⟩
    rintro e σ1 ⟨rfl, rfl⟩
    simp only [go_sem]
    refine hK _ _ ?_; clear hK K
    refine Gs.ret hC Tryz.func25 (by simp [go_sem]) ?_
    simp only [go_sem]
    unfold wrongB; rw [hw]; simp
end Go.Ab.S16
namespace Go.Ab.S16
open Go Go.Proofs
theorem lookL_none {mks : List (ByteArray × Nat)} {f : ByteArray} (h : (lookL mks f).isSome = false) : f ∉ mks.map (·.1) := fun hf => by
  obtain ⟨p, hp, rfl⟩ := List.mem_map.1 hf
  unfold lookL at h
  rw [Option.isSome_map, Option.isSome_eq_false_iff, Option.isNone_iff_eq_none, List.find?_eq_none] at h
  exact h p hp (beq_self_eq_true p.1)
structure MkOk (edges : List XEdge) (n : Nat) (mks : List (ByteArray × Nat)) : Prop where
  nd : (mks.map (·.1)).Nodup
  lt : ∀ p ∈ mks, p.2 < n
  at' : ∀ p ∈ mks, ∃ e ∈ edges, p.1 ∈ e.outs
theorem outsGo_ok {edges : List XEdge} {i : Nat} {e : XEdge} (he : e ∈ edges) {mks : List (ByteArray × Nat)} (h0 : MkOk edges (i + 1) mks) : ∀ j, j ≤ e.outs.length → ∀ mks', outsGo mks i (e.outs.take j) = some mks' → MkOk edges (i + 1) mks' ∧ mks'.length = mks.length + j
  | 0, _, mks', h => by
    have : mks = mks' := by simpa [outsGo] using h
    subst this; exact ⟨h0, rfl⟩
  | j + 1, hj, mks', h => by
    rw [outsGo_succ mks i e.outs j (by omega)] at h
    cases hm : outsGo mks i (e.outs.take j) with
    | none => rw [hm] at h; cases h
    | some m2 =>
      rw [hm, Option.bind_some] at h
      obtain ⟨h1, h2⟩ := outsGo_ok he h0 j (by omega) m2 hm
      split at h
      · cases h
      · rename_i hn
        cases h
        have hn2 := lookL_none (by simpa using hn)
        refine ⟨⟨?_, fun p hp => ?_, fun p hp => ?_⟩, by simp; omega⟩
        · rw [List.map_append, List.nodup_append]
          exact ⟨h1.nd, by simp, fun a ha b hb => by simp at hb; rw [hb]; exact fun e => hn2 (e ▸ ha)⟩
        · rcases List.mem_append.1 hp with hp | hp
          · exact h1.lt p hp
          · simp only [List.mem_singleton] at hp; rw [hp]; exact Nat.lt_succ_self i
        · rcases List.mem_append.1 hp with hp | hp
          · exact h1.at' p hp
          · simp only [List.mem_singleton] at hp; rw [hp]; exact ⟨e, he, List.getElem_mem _⟩
theorem allTo_ok {edges : List XEdge} (hs : ∀ e ∈ edges, e.small) : ∀ n, n ≤ edges.length → ∀ mks, allTo edges n = some mks → MkOk edges n mks ∧ mks.length ≤ 10 * n
  | 0, _, mks, h => by
    have : mks = [] := by simpa [allTo] using h.symm
    subst this
    exact ⟨⟨by simp, by simp, by simp⟩, by simp⟩
  | n + 1, hn, mks, h => by
    rw [allTo_succ edges n (by omega)] at h
    cases hm : allTo edges n with
    | none => rw [hm] at h; cases h
    | some m2 =>
      rw [hm, Option.bind_some] at h
      obtain ⟨h1, h2⟩ := allTo_ok hs n (by omega) m2 hm
      have hmem : edges[n] ∈ edges := List.getElem_mem (by omega)
      have := outsGo_ok hmem (mks := m2) ⟨h1.nd, fun p hp => Nat.lt_succ_of_lt (h1.lt p hp), h1.at'⟩ edges[n].outs.length (Nat.le_refl _) mks (by rw [List.take_length]; exact h)
      have ho := (hs _ hmem).outs
      exact ⟨this.1, by omega⟩
theorem newG_ok {m : XMan} (hl : m.edges.length < 2 ^ 20) (hs : ∀ e ∈ m.edges, e.small) (hd : m.defs.length < 2 ^ 20) (hn : ∀ e ∈ m.edges, ∀ f ∈ e.outs, f.size < 2 ^ 40) {g : XGr} (h : newG m = .inr g) : g.Ok ∧ g.man = m := by
  unfold newG at h
  split at h
  · cases h
  · rename_i mks hm
    dsimp only at h
    split at h
    · cases h
    · cases h
      obtain ⟨h1, h2⟩ := allTo_ok hs m.edges.length (Nat.le_refl _) mks hm
      refine ⟨⟨hl, hs, hd, by simp, fun l hl2 => ?_, h1.nd, by dsimp only; omega, h1.lt, fun p hp => ?_⟩, rfl⟩
      · obtain ⟨e, he, rfl⟩ := List.mem_map.1 hl2
        have h3 := madeL_len mks e.needs e.needs.length (Nat.le_refl _)
        rw [List.take_length] at h3
        have h4 := needs_len e (hs e he)
        exact ⟨by omega, fun n hn2 => by simpa using madeL_lt h1.lt e.needs n hn2⟩
      · obtain ⟨e, he, hp2⟩ := h1.at' p hp
        exact hn e he p.1 hp2
theorem new_calls (m : XMan) (hl : m.edges.length < 2 ^ 20) (hs : ∀ e ∈ m.edges, e.small) (hd : m.defs.length < 2 ^ 20) (σ : Store) :
    AC Tryz.prog 20 [m.d] σ (fun e σ' => match newG m with
      | .inl c => e = .ret (.tup [.v (.pointer none), .v (.int .i64 (c : Int))]) ∧ σ' = σ
      | .inr g => ∃ mb, sget mb σ = none ∧ e = .ret (.tup [g.d mb, .v (.int .i64 0)]) ∧ σ' = (mb, .mp (mkE g.mks)) :: σ) := by
  have h0 := new_own m hl hs hd
  cases hn : newG m with
  | inl c =>
    rw [hn] at h0
    have h1 : AC Tryz.prog 20 [m.d] [] (fun e σ' => e = .ret (.tup [.v (.pointer none), .v (.int .i64 (c : Int))]) ∧ σ' = []) := h0.forget fun e σ' h => ⟨[], SLe.nil _, h, rfl⟩
    exact h1.still σ
  | inr g =>
    rw [hn] at h0
    have h1 : AC Tryz.prog 20 [m.d] [] (fun e σ' => ∃ mb, e = .ret (.tup [g.d mb, .v (.int .i64 0)]) ∧ σ' = [(mb, .mp (mkE g.mks))]) := h0.forget fun e σ' ⟨mb, h2, h3⟩ => ⟨_, SLe.cons h3 (SLe.nil _), mb, h2, rfl⟩
    refine (h1.quiet (σ := σ)).mono ?_
    rintro e σ' ⟨σ1, ⟨mb, rfl, rfl⟩, hq, rfl⟩
    refine ⟨mb, ?_, rfl, rfl⟩
    cases hs2 : sget mb σ with
    | none => rfl
    | some o => exact absurd (sget_self mb (.mp (mkE g.mks)) []) (by have := hq mb; simp [hs2] at this)
def failD : D := .ifc 160 (.agg [])
theorem need_calls (t : Bool) (σ : Store) : AC Tryz.prog 81 [.v (.bool t)] σ (fun e σ' => e = (if t = true then .ret (.tup []) else .panic failD) ∧ σ' = σ) := by
  refine AC.of_body Tryz.func81 rfl Tryz.ntmps81 (by simp) fun C hC => ?_
  refine Gs.sq (Gs.rg [0] fun K hK => ?_); simp (maxSteps:=9^7) only [go_sem]
  refine hK _ _ ?_; clear hK K
  refine Gs.cond rfl (fun h3 => ?_) (fun h3 => ?_)
  · have ht : t = false := by simpa using h3
    subst ht
    refine Gs.rg [] fun K hK => ?_; simp (maxSteps:=9^7) only [go_sem]
    exact Pan.of hC Tryz.func81 ⟨rfl, rfl⟩
  · have ht : t = true := by simpa using h3
    refine Gs.sk ?_
    refine Gs.done hC Tryz.func81 (by simp [go_sem]) ?_
    simp only [go_sem]
    rw [ht]; rfl
theorem clone_byteO (xs : List D) (σ : Store) (hp : ∀ x ∈ xs, x.cells.length = 1 ∧ x.plain = true) (hl : xs.length < 2 ^ 40) :
    AC Tryz.prog 67 [.slc xs] σ (fun e σ' => ∃ o, GrD o 1 xs σ ∧ e = .ret (.own o 1 xs.length) ∧ σ' = cellsOf o 1 xs ++ σ) := by
  refine AC.ret_le (R := fun e σ' => (∃ o, GrD o 1 xs σ ∧ e = .ret (.own o 1 xs.length) ∧ σ' = cellsOf o 1 xs ++ σ) ∨ (xs = [] ∧ e = .ret (.v (.slice none 0 0)) ∧ σ' = σ)) ?_ fun e σ' h => ?_
  rotate_left
  · rcases h with h | ⟨rfl, rfl, rfl⟩
    · exact .inl h
    · exact .inr ⟨_, _, rfl, DLe.nil_own 1, none, GrD.nil _ _, rfl, rfl⟩
  refine AC.of_body Tryz.func67 rfl Tryz.ntmps67 (by simp) fun C hC => ?_
  refine Gs.sq (Gs.rg [0] fun K hK => ?_); simp (maxSteps:=9^7) only [go_sem]
  refine hK _ _ ?_; clear hK K
  refine Gs.sq (Gs.sq ?_)
  refine Gs.rg [0] fun K hK => ?_; simp (maxSteps:=9^7) only [go_sem]
  intro t ht
  refine hK _ _ ?_; clear hK K
  refine Gs.cond rfl (fun h4 => ?_) (fun h4 => ?_)
  · have hx : xs = [] := by
      cases xs with
      | nil => rfl
      | cons a l => have := ht (by simp); rw [h4] at this; cases this
    refine Gs.sq (Gs.rg [] fun K hK => ?_); simp (maxSteps:=9^7) only [go_sem]
    refine hK _ _ ?_; clear hK K
    refine Gs.ret hC Tryz.func67 (by simp [go_sem]) ?_
    simp only [go_sem]
    exact .inr hx
  · refine Gs.sk ?_
    refine Gs.sq (Gs.rg [0] fun K hK => ?_); simp (maxSteps:=9^7) only [go_sem]
    refine ⟨by decide, fun b hb => ⟨⟨hp, by omega, by omega⟩, fun ob hz hf => ?_⟩⟩
    rw [sdel_fresh hb] at hf ⊢
    refine hK _ _ ?_; clear hK K
    refine Gs.ret hC Tryz.func67 (by simp [go_sem]) ?_
    simp only [go_sem]
    exact .inl ⟨ob, ⟨hf, hz⟩, rfl, rfl⟩
def AR {α : Type} (spec : Option α) (good : α → AEnd → Store → Prop) (σ : Store) : AEnd → Store → Prop := fun e σ' => match spec with
  | some x => good x e σ'
  | none => e = .panic failD ∧ SLe σ σ'
theorem plain_bD (l : List UInt8) : ∀ y ∈ l.map bD, y.cells.length = 1 ∧ y.plain = true := plain_mapF bD 1 (fun _ => ⟨rfl, rfl⟩) l
theorem findO_calls (l : List XFile) (n : ByteArray) (σ : Store) (hl : l.length < 2 ^ 31) (hb : ∀ f ∈ l, f.b.length < 2 ^ 40) :
    AC Tryz.prog 27 [.slc (l.map XFile.d), .v (.string n)] σ (fun e σ' => match findF l n with
      | some b => ∃ o, GrD o 1 (b.map bD) σ ∧ e = .ret (.tup [.own o 1 (b.map bD).length, .v (.bool true)]) ∧ σ' = cellsOf o 1 (b.map bD) ++ σ
      | none => e = .ret (.tup [.v (.slice none 0 0), .v (.bool false)]) ∧ σ' = σ) := by
  have hll : (l.map XFile.d).length = l.length := List.length_map ..
  refine AC.forget (R := fun e σ' => ∃ b3, sget b3 σ = none ∧ match findF l n with
      | some b => ∃ o, GrD o 1 (b.map bD) ((b3, .arr 1 [.v (.string n)]) :: σ) ∧ e = .ret (.tup [.own o 1 (b.map bD).length, .v (.bool true)]) ∧ σ' = cellsOf o 1 (b.map bD) ++ (b3, .arr 1 [.v (.string n)]) :: σ
      | none => e = .ret (.tup [.v (.slice none 0 0), .v (.bool false)]) ∧ σ' = (b3, .arr 1 [.v (.string n)]) :: σ) ?_ fun e σ' h => ?_
  rotate_left
  · obtain ⟨b3, h3, h⟩ := h
    split at h
    · obtain ⟨o, hg, rfl, rfl⟩ := h
      have hdr := hg.drop h3
      exact ⟨_, hdr.2, o, hdr.1, rfl, rfl⟩
    · obtain ⟨rfl, rfl⟩ := h
      exact ⟨σ, sle_cons (SLe.refl _) h3, rfl, rfl⟩
  refine AC.of_body Tryz.func27 rfl Tryz.ntmps27 (by simp) fun C hC => ?_
  refine Gs.sq (Gs.rg [0, 1] fun K hK => ?_); simp (maxSteps:=9^7) only [go_sem]
  intro b3 hb3
  refine hK _ _ ?_; clear hK K
  refine Gs.sq (Gs.rg [0, 3] fun K hK => ?_); simp (maxSteps:=9^7) only [go_sem]
  refine ⟨_, Tryz.call65, (indexFunc_file l 66 [.ptr b3 1 0 0] (fun f => f.name.toList == n.toList) _ (by omega) ⟨Tryz.call66, fun x _ => find1_calls x n b3 _ (sget_self ..)⟩).mono ?_⟩
  rintro e σ1 ⟨rfl, rfl⟩
  simp only [go_sem]
  refine hK _ _ ?_; clear hK K
  refine Gs.sq (Gs.sq ?_)
  rcases findF_idx l n with ⟨h1, h2⟩ | ⟨i, hi, h1, h2⟩
  all_goals rw [h1]
  · refine Gs.rg [0, 6] fun K hK => ?_; simp (maxSteps:=9^7) only [go_sem]
    refine hK _ _ ?_; clear hK K
    refine Gs.condT rfl ?_
    refine Gs.sq (Gs.rg [] fun K hK => ?_); simp (maxSteps:=9^7) only [go_sem]
    refine hK _ _ ?_; clear hK K
    refine Gs.ret hC Tryz.func27 (by simp [go_sem]) ?_
    simp only [go_sem]
    refine ⟨b3, hb3, ?_⟩
    rw [h2]
  · have hneg : decide ((i : Int) < 0) = false := by simp
    have hg := getD_map_lt XFile.d l i hi
    rw [XFile.d] at hg
    have hi0 : (0 : Int) ≤ (i : Int) := by omega
    have hi1 : (i : Int) < ((l.map XFile.d).length : Int) := by omega
    refine Gs.rg [0, 6] fun K hK => ?_; simp (maxSteps:=9^7) only [go_sem, hneg]
    refine hK _ _ ?_; clear hK K
    refine Gs.condF rfl ?_
    refine Gs.sk ?_
    refine Gs.sq (Gs.rg [0, 6] fun K hK => ?_); simp (maxSteps:=9^7) only [go_sem, hg, hi0, hi1]
    refine ⟨_, Tryz.call67, (clone_byteO (l[i].b.map bD) _ (plain_bD _) (by rw [List.length_map]; exact hb _ (List.getElem_mem hi))).mono ?_⟩
    rintro e σ1 ⟨o, hgr, rfl, rfl⟩
    simp only [go_sem]
    refine hK _ _ ?_; clear hK K
    refine Gs.ret hC Tryz.func27 (by simp [go_sem]) ?_
    simp only [go_sem]
    refine ⟨b3, hb3, ?_⟩
    rw [h2]
    exact ⟨o, hgr, rfl, rfl⟩
def ckR (args decl : List ByteArray) (files : List XFile) (found : D) (many : Int) : AObj := .arr 5 [.agg [.slc (args.map sD), .slc (decl.map sD), .slc (files.map XFile.d), found, .v (.int .i64 many)]]
def argF (decl : List ByteArray) (files : List XFile) (n : ByteArray) : Option (List UInt8) := (findF files n).bind fun b => if (decl.any fun s => n.toList == s.toList) then some b else none
def ownRet (σ : Store) (b : List UInt8) (e : AEnd) (σ' : Store) : Prop := ∃ o, GrD o 1 (b.map bD) σ ∧ e = .ret (.own o 1 (b.map bD).length) ∧ σ' = cellsOf o 1 (b.map bD) ++ σ
theorem argument_calls (args decl : List ByteArray) (files : List XFile) (found : D) (many : Int) (bc : Nat) (n : ByteArray) (σ : Store) (hc : sget bc σ = some (ckR args decl files found many)) (hl : files.length < 2 ^ 31) (hb : ∀ f ∈ files, f.b.length < 2 ^ 40) (hd : decl.length < 2 ^ 40) :
    AC Tryz.prog 133 [.ptr bc 5 0 0, .v (.string n)] σ (AR (argF decl files n) (ownRet σ) σ) := by
  unfold ckR at hc
  have hfind := findO_calls files n σ hl hb
  refine AC.of_body Tryz.func133 rfl Tryz.ntmps133 (by simp) fun C hC => ?_
  cases hf : findF files n with
  | none =>
    have ha : argF decl files n = none := by unfold argF; rw [hf]; rfl
    rw [hf] at hfind
    rw [ha] at hC
    refine Gs.sq (Gs.rg [0, 1] fun K hK => ?_); simp (maxSteps:=9^7) only [go_sem]
    refine hK _ _ ?_; clear hK K
    refine Gs.sq (Gs.rg [0, 1] fun K hK => ?_); simp (maxSteps:=9^7) only [go_sem, hc]
    refine ⟨_, Tryz.call27, hfind.mono ?_⟩
    rintro e σ1 ⟨rfl, rfl⟩
    simp only [go_sem]
    refine hK _ _ ?_; clear hK K
    refine Gs.sq (Gs.rg [0, 1, 5, 6] fun K hK => ?_); simp (maxSteps:=9^7) only [go_sem]
    refine ⟨_, Tryz.call81, (need_calls false _).mono ?_⟩
    rintro e σ1 ⟨rfl, rfl⟩
    simp only [go_sem]
    exact Pan.of hC Tryz.func133 ⟨rfl, SLe.refl _⟩
  | some b =>
    rw [hf] at hfind
    cases hin : (decl.any fun s => n.toList == s.toList) with
    | false =>
      have ha : argF decl files n = none := by unfold argF; rw [hf, Option.bind_some, hin]; rfl
      rw [ha] at hC
      refine Gs.sq (Gs.rg [0, 1] fun K hK => ?_); simp (maxSteps:=9^7) only [go_sem]
      refine hK _ _ ?_; clear hK K
      refine Gs.sq (Gs.rg [0, 1] fun K hK => ?_); simp (maxSteps:=9^7) only [go_sem, hc]
      refine ⟨_, Tryz.call27, hfind.mono ?_⟩
      rintro e σ1 ⟨o, hgr, rfl, rfl⟩
      simp only [go_sem]
      refine hK _ _ ?_; clear hK K
      refine Gs.sq ?_
      have hc2 := hgr.keep hc
      refine Gs.rg [0, 1, 5, 6] fun K hK => ?_; simp (maxSteps:=9^7) only [go_sem, hc2]
      refine ⟨_, Tryz.call50, (contains_str decl n _ hd).mono ?_⟩
      rintro e σ1 ⟨rfl, rfl⟩
      simp only [go_sem, hin]
      refine ⟨_, Tryz.call81, (need_calls false _).mono ?_⟩
      rintro e σ1 ⟨rfl, rfl⟩
      simp only [go_sem]
      exact Pan.of hC Tryz.func133 ⟨rfl, hgr.sle⟩
    | true =>
      have ha : argF decl files n = some b := by unfold argF; rw [hf, Option.bind_some, hin]; rfl
      rw [ha] at hC
      refine Gs.sq (Gs.rg [0, 1] fun K hK => ?_); simp (maxSteps:=9^7) only [go_sem]
      refine hK _ _ ?_; clear hK K
      refine Gs.sq (Gs.rg [0, 1] fun K hK => ?_); simp (maxSteps:=9^7) only [go_sem, hc]
      refine ⟨_, Tryz.call27, hfind.mono ?_⟩
      rintro e σ1 ⟨o, hgr, rfl, rfl⟩
      simp only [go_sem]
      refine hK _ _ ?_; clear hK K
      refine Gs.sq ?_
      have hc2 := hgr.keep hc
      refine Gs.rg [0, 1, 5, 6] fun K hK => ?_; simp (maxSteps:=9^7) only [go_sem, hc2]
      refine ⟨_, Tryz.call50, (contains_str decl n _ hd).mono ?_⟩
      rintro e σ1 ⟨rfl, rfl⟩
      simp only [go_sem, hin]
      refine ⟨_, Tryz.call81, (need_calls true _).mono ?_⟩
      rintro e σ1 ⟨rfl, rfl⟩
      simp only [go_sem]
      refine hK _ _ ?_; clear hK K
      refine Gs.sq (Gs.rg [5] fun K hK => ?_); simp (maxSteps:=9^7) only [go_sem]
      refine hK _ _ ?_; clear hK K
      refine Gs.ret hC Tryz.func133 (by simp [go_sem]) ?_
      simp only [go_sem]
      exact ⟨o, hgr, rfl, rfl⟩
end Go.Ab.S16
