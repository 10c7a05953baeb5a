/- Facts about the program's types, by a program of the prover's (facts.py), each checked by the kernel. -/
import Derived.Test.YtcpcfglccnmmnaaAbQ
import Derived.Test.YtcpcfglccnmmnaaProg
import Derived.KernelRfl
namespace Go.Ab.Try
open Go
@[go_sem] theorem res0 : Go.Proofs.Try.f0.results.toList = [] := by kernel_rfl
@[go_sem] theorem res1 : Go.Proofs.Try.f1.results.toList = [] := by kernel_rfl
@[go_sem] theorem res2 : Go.Proofs.Try.f2.results.toList = [] := by kernel_rfl
@[go_sem] theorem res3 : Go.Proofs.Try.f3.results.toList = [Go.ResultVar.tmp 2] := by kernel_rfl
@[go_sem] theorem res4 : Go.Proofs.Try.f4.results.toList = [Go.ResultVar.tmp 4] := by kernel_rfl
@[go_sem] theorem res5 : Go.Proofs.Try.f5.results.toList = [Go.ResultVar.tmp 2] := by kernel_rfl
@[go_sem] theorem res6 : Go.Proofs.Try.f6.results.toList = [Go.ResultVar.tmp 4] := by kernel_rfl
@[go_sem] theorem res7 : Go.Proofs.Try.f7.results.toList = [Go.ResultVar.tmp 2] := by kernel_rfl
@[go_sem] theorem res8 : Go.Proofs.Try.f8.results.toList = [Go.ResultVar.tmp 2, Go.ResultVar.tmp 3] := by kernel_rfl
@[go_sem] theorem res9 : Go.Proofs.Try.f9.results.toList = [Go.ResultVar.tmp 2] := by kernel_rfl
@[go_sem] theorem res10 : Go.Proofs.Try.f10.results.toList = [Go.ResultVar.tmp 2] := by kernel_rfl
@[go_sem] theorem res11 : Go.Proofs.Try.f11.results.toList = [Go.ResultVar.tmp 0] := by kernel_rfl
@[go_sem] theorem res12 : Go.Proofs.Try.f12.results.toList = [Go.ResultVar.tmp 2] := by kernel_rfl
@[go_sem] theorem res13 : Go.Proofs.Try.f13.results.toList = [Go.ResultVar.tmp 2, Go.ResultVar.tmp 3] := by kernel_rfl
@[go_sem] theorem res14 : Go.Proofs.Try.f14.results.toList = [Go.ResultVar.tmp 2, Go.ResultVar.tmp 3] := by kernel_rfl
@[go_sem] theorem res15 : Go.Proofs.Try.f15.results.toList = [Go.ResultVar.tmp 4] := by kernel_rfl
@[go_sem] theorem res16 : Go.Proofs.Try.f16.results.toList = [Go.ResultVar.cell 2 25] := by kernel_rfl
@[go_sem] theorem res17 : Go.Proofs.Try.f17.results.toList = [] := by kernel_rfl
@[go_sem] theorem res18 : Go.Proofs.Try.f18.results.toList = [] := by kernel_rfl
@[go_sem] theorem res19 : Go.Proofs.Try.f19.results.toList = [Go.ResultVar.tmp 2] := by kernel_rfl
@[go_sem] theorem res20 : Go.Proofs.Try.f20.results.toList = [Go.ResultVar.tmp 4] := by kernel_rfl
@[go_sem] theorem res21 : Go.Proofs.Try.f21.results.toList = [Go.ResultVar.tmp 2, Go.ResultVar.tmp 3] := by kernel_rfl
@[go_sem] theorem res22 : Go.Proofs.Try.f22.results.toList = [Go.ResultVar.tmp 4] := by kernel_rfl
@[go_sem] theorem res23 : Go.Proofs.Try.f23.results.toList = [] := by kernel_rfl
@[go_sem] theorem res24 : Go.Proofs.Try.f24.results.toList = [Go.ResultVar.tmp 2] := by kernel_rfl
@[go_sem] theorem res25 : Go.Proofs.Try.f25.results.toList = [Go.ResultVar.cell 4 49] := by kernel_rfl
@[go_sem] theorem res26 : Go.Proofs.Try.f26.results.toList = [Go.ResultVar.tmp 2] := by kernel_rfl
@[go_sem] theorem res27 : Go.Proofs.Try.f27.results.toList = [Go.ResultVar.tmp 2] := by kernel_rfl
@[go_sem] theorem res28 : Go.Proofs.Try.f28.results.toList = [Go.ResultVar.tmp 4] := by kernel_rfl
@[go_sem] theorem res29 : Go.Proofs.Try.f29.results.toList = [Go.ResultVar.tmp 2] := by kernel_rfl
@[go_sem] theorem res30 : Go.Proofs.Try.f30.results.toList = [Go.ResultVar.tmp 2, Go.ResultVar.tmp 3] := by kernel_rfl
@[go_sem] theorem res31 : Go.Proofs.Try.f31.results.toList = [Go.ResultVar.tmp 4] := by kernel_rfl
@[go_sem] theorem res32 : Go.Proofs.Try.f32.results.toList = [] := by kernel_rfl
@[go_sem] theorem res33 : Go.Proofs.Try.f33.results.toList = [Go.ResultVar.cell 2 76, Go.ResultVar.tmp 3] := by kernel_rfl
@[go_sem] theorem res34 : Go.Proofs.Try.f34.results.toList = [] := by kernel_rfl
@[go_sem] theorem res35 : Go.Proofs.Try.f35.results.toList = [] := by kernel_rfl
@[go_sem] theorem res36 : Go.Proofs.Try.f36.results.toList = [] := by kernel_rfl
@[go_sem] theorem res37 : Go.Proofs.Try.f37.results.toList = [Go.ResultVar.tmp 2] := by kernel_rfl
@[go_sem] theorem res38 : Go.Proofs.Try.f38.results.toList = [Go.ResultVar.tmp 2] := by kernel_rfl
@[go_sem] theorem res39 : Go.Proofs.Try.f39.results.toList = [Go.ResultVar.tmp 2] := by kernel_rfl
@[go_sem] theorem res40 : Go.Proofs.Try.f40.results.toList = [Go.ResultVar.tmp 2] := by kernel_rfl
@[go_sem] theorem res41 : Go.Proofs.Try.f41.results.toList = [Go.ResultVar.tmp 2] := by kernel_rfl
@[go_sem] theorem res42 : Go.Proofs.Try.f42.results.toList = [Go.ResultVar.tmp 4, Go.ResultVar.tmp 5] := by kernel_rfl
@[go_sem] theorem res43 : Go.Proofs.Try.f43.results.toList = [Go.ResultVar.tmp 2] := by kernel_rfl
@[go_sem] theorem res44 : Go.Proofs.Try.f44.results.toList = [Go.ResultVar.tmp 4, Go.ResultVar.tmp 5] := by kernel_rfl
@[go_sem] theorem res45 : Go.Proofs.Try.f45.results.toList = [Go.ResultVar.tmp 4] := by kernel_rfl
@[go_sem] theorem res46 : Go.Proofs.Try.f46.results.toList = [Go.ResultVar.tmp 2] := by kernel_rfl
@[go_sem] theorem res47 : Go.Proofs.Try.f47.results.toList = [Go.ResultVar.tmp 4] := by kernel_rfl
@[go_sem] theorem res48 : Go.Proofs.Try.f48.results.toList = [Go.ResultVar.tmp 6] := by kernel_rfl
@[go_sem] theorem res49 : Go.Proofs.Try.f49.results.toList = [Go.ResultVar.tmp 6] := by kernel_rfl
@[go_sem] theorem res50 : Go.Proofs.Try.f50.results.toList = [Go.ResultVar.tmp 4] := by kernel_rfl
@[go_sem] theorem res51 : Go.Proofs.Try.f51.results.toList = [Go.ResultVar.tmp 4] := by kernel_rfl
@[go_sem] theorem res52 : Go.Proofs.Try.f52.results.toList = [Go.ResultVar.tmp 4] := by kernel_rfl
@[go_sem] theorem res53 : Go.Proofs.Try.f53.results.toList = [] := by kernel_rfl
@[go_sem] theorem res54 : Go.Proofs.Try.f54.results.toList = [] := by kernel_rfl
@[go_sem] theorem res55 : Go.Proofs.Try.f55.results.toList = [] := by kernel_rfl
@[go_sem] theorem res56 : Go.Proofs.Try.f56.results.toList = [] := by kernel_rfl
@[go_sem] theorem res57 : Go.Proofs.Try.f57.results.toList = [] := by kernel_rfl
@[go_sem] theorem res58 : Go.Proofs.Try.f58.results.toList = [] := by kernel_rfl
@[go_sem] theorem res59 : Go.Proofs.Try.f59.results.toList = [] := by kernel_rfl
@[go_sem] theorem res60 : Go.Proofs.Try.f60.results.toList = [] := by kernel_rfl
@[go_sem] theorem res61 : Go.Proofs.Try.f61.results.toList = [] := by kernel_rfl
@[go_sem] theorem res62 : Go.Proofs.Try.f62.results.toList = [] := by kernel_rfl
@[go_sem] theorem res63 : Go.Proofs.Try.f63.results.toList = [] := by kernel_rfl
@[go_sem] theorem res64 : Go.Proofs.Try.f64.results.toList = [] := by kernel_rfl
@[go_sem] theorem res65 : Go.Proofs.Try.f65.results.toList = [] := by kernel_rfl
@[go_sem] theorem res66 : Go.Proofs.Try.f66.results.toList = [] := by kernel_rfl
@[go_sem] theorem res67 : Go.Proofs.Try.f67.results.toList = [] := by kernel_rfl
@[go_sem] theorem res68 : Go.Proofs.Try.f68.results.toList = [] := by kernel_rfl
@[go_sem] theorem size2 : rsize Go.Proofs.Try.prog 2 = some 1 := by kernel_rfl
@[go_sem] theorem bytes2 : rbytes Go.Proofs.Try.prog 2 = some 8 := by kernel_rfl
@[go_sem] theorem zero2 : rzero Go.Proofs.Try.prog 2 = some (Go.Value.int Go.IntKind.i64 0) := by kernel_rfl
@[go_sem] theorem agg2 : ragg Go.Proofs.Try.prog 2 = some false := by kernel_rfl
@[go_sem] theorem bs2 : isByteSlice Go.Proofs.Try.prog 2 = false := by kernel_rfl
@[go_sem] theorem str2 : isStr Go.Proofs.Try.prog 2 = false := by kernel_rfl
@[go_sem] theorem under2 : Program.underlying Go.Proofs.Try.prog 2 = some (Go.TypeDesc.int Go.IntKind.i64) := by kernel_rfl
@[go_sem] theorem size3 : rsize Go.Proofs.Try.prog 3 = some 1 := by kernel_rfl
@[go_sem] theorem bytes3 : rbytes Go.Proofs.Try.prog 3 = some 8 := by kernel_rfl
@[go_sem] theorem zero3 : rzero Go.Proofs.Try.prog 3 = some (Go.Value.int Go.IntKind.i64 0) := by kernel_rfl
@[go_sem] theorem agg3 : ragg Go.Proofs.Try.prog 3 = some false := by kernel_rfl
@[go_sem] theorem bs3 : isByteSlice Go.Proofs.Try.prog 3 = false := by kernel_rfl
@[go_sem] theorem str3 : isStr Go.Proofs.Try.prog 3 = false := by kernel_rfl
@[go_sem] theorem under3 : Program.underlying Go.Proofs.Try.prog 3 = some (Go.TypeDesc.int Go.IntKind.i64) := by kernel_rfl
@[go_sem] theorem size4 : rsize Go.Proofs.Try.prog 4 = some 1 := by kernel_rfl
@[go_sem] theorem bytes4 : rbytes Go.Proofs.Try.prog 4 = some 1 := by kernel_rfl
@[go_sem] theorem zero4 : rzero Go.Proofs.Try.prog 4 = some (Go.Value.bool false) := by kernel_rfl
@[go_sem] theorem agg4 : ragg Go.Proofs.Try.prog 4 = some false := by kernel_rfl
@[go_sem] theorem bs4 : isByteSlice Go.Proofs.Try.prog 4 = false := by kernel_rfl
@[go_sem] theorem str4 : isStr Go.Proofs.Try.prog 4 = false := by kernel_rfl
@[go_sem] theorem under4 : Program.underlying Go.Proofs.Try.prog 4 = some (Go.TypeDesc.bool) := by kernel_rfl
@[go_sem] theorem size5 : rsize Go.Proofs.Try.prog 5 = some 1 := by kernel_rfl
@[go_sem] theorem bytes5 : rbytes Go.Proofs.Try.prog 5 = some 1 := by kernel_rfl
@[go_sem] theorem zero5 : rzero Go.Proofs.Try.prog 5 = some (Go.Value.int Go.IntKind.u8 0) := by kernel_rfl
@[go_sem] theorem agg5 : ragg Go.Proofs.Try.prog 5 = some false := by kernel_rfl
@[go_sem] theorem bs5 : isByteSlice Go.Proofs.Try.prog 5 = false := by kernel_rfl
@[go_sem] theorem str5 : isStr Go.Proofs.Try.prog 5 = false := by kernel_rfl
@[go_sem] theorem under5 : Program.underlying Go.Proofs.Try.prog 5 = some (Go.TypeDesc.int Go.IntKind.u8) := by kernel_rfl
@[go_sem] theorem size9 : rsize Go.Proofs.Try.prog 9 = some 1 := by kernel_rfl
@[go_sem] theorem bytes9 : rbytes Go.Proofs.Try.prog 9 = some 16 := by kernel_rfl
@[go_sem] theorem zero9 : rzero Go.Proofs.Try.prog 9 = some (Go.Value.string ByteArray.empty) := by kernel_rfl
@[go_sem] theorem agg9 : ragg Go.Proofs.Try.prog 9 = some false := by kernel_rfl
@[go_sem] theorem bs9 : isByteSlice Go.Proofs.Try.prog 9 = false := by kernel_rfl
@[go_sem] theorem str9 : isStr Go.Proofs.Try.prog 9 = true := by kernel_rfl
@[go_sem] theorem under9 : Program.underlying Go.Proofs.Try.prog 9 = some (Go.TypeDesc.string) := by kernel_rfl
@[go_sem] theorem size20 : rsize Go.Proofs.Try.prog 20 = some 1 := by kernel_rfl
@[go_sem] theorem bytes20 : rbytes Go.Proofs.Try.prog 20 = some 16 := by kernel_rfl
@[go_sem] theorem zero20 : rzero Go.Proofs.Try.prog 20 = some Go.Value.nilIface := by kernel_rfl
@[go_sem] theorem agg20 : ragg Go.Proofs.Try.prog 20 = some false := by kernel_rfl
@[go_sem] theorem bs20 : isByteSlice Go.Proofs.Try.prog 20 = false := by kernel_rfl
@[go_sem] theorem str20 : isStr Go.Proofs.Try.prog 20 = false := by kernel_rfl
@[go_sem] theorem under20 : Program.underlying Go.Proofs.Try.prog 20 = some (Go.TypeDesc.interface #[]) := by kernel_rfl
@[go_sem] theorem size21 : rsize Go.Proofs.Try.prog 21 = some 1 := by kernel_rfl
@[go_sem] theorem bytes21 : rbytes Go.Proofs.Try.prog 21 = some 4 := by kernel_rfl
@[go_sem] theorem zero21 : rzero Go.Proofs.Try.prog 21 = some (Go.Value.int Go.IntKind.i32 0) := by kernel_rfl
@[go_sem] theorem agg21 : ragg Go.Proofs.Try.prog 21 = some false := by kernel_rfl
@[go_sem] theorem bs21 : isByteSlice Go.Proofs.Try.prog 21 = false := by kernel_rfl
@[go_sem] theorem str21 : isStr Go.Proofs.Try.prog 21 = false := by kernel_rfl
@[go_sem] theorem under21 : Program.underlying Go.Proofs.Try.prog 21 = some (Go.TypeDesc.int Go.IntKind.i32) := by kernel_rfl
@[go_sem] theorem size22 : rsize Go.Proofs.Try.prog 22 = some 1 := by kernel_rfl
@[go_sem] theorem bytes22 : rbytes Go.Proofs.Try.prog 22 = some 24 := by kernel_rfl
@[go_sem] theorem zero22 : rzero Go.Proofs.Try.prog 22 = some (Go.Value.slice none 0 0) := by kernel_rfl
@[go_sem] theorem agg22 : ragg Go.Proofs.Try.prog 22 = some false := by kernel_rfl
@[go_sem] theorem elem22 : relem Go.Proofs.Try.prog 22 = some 34 := by kernel_rfl
@[go_sem] theorem bs22 : isByteSlice Go.Proofs.Try.prog 22 = false := by kernel_rfl
@[go_sem] theorem str22 : isStr Go.Proofs.Try.prog 22 = false := by kernel_rfl
@[go_sem] theorem under22 : Program.underlying Go.Proofs.Try.prog 22 = some (Go.TypeDesc.slice 34) := by kernel_rfl
@[go_sem] theorem size23 : rsize Go.Proofs.Try.prog 23 = some 1 := by kernel_rfl
@[go_sem] theorem bytes23 : rbytes Go.Proofs.Try.prog 23 = some 8 := by kernel_rfl
@[go_sem] theorem zero23 : rzero Go.Proofs.Try.prog 23 = some Go.Value.nilFunc := by kernel_rfl
@[go_sem] theorem agg23 : ragg Go.Proofs.Try.prog 23 = some false := by kernel_rfl
@[go_sem] theorem bs23 : isByteSlice Go.Proofs.Try.prog 23 = false := by kernel_rfl
@[go_sem] theorem str23 : isStr Go.Proofs.Try.prog 23 = false := by kernel_rfl
@[go_sem] theorem under23 : Program.underlying Go.Proofs.Try.prog 23 = some (Go.TypeDesc.func #[22] #[4] false) := by kernel_rfl
@[go_sem] theorem size24 : rsize Go.Proofs.Try.prog 24 = some 1 := by kernel_rfl
@[go_sem] theorem bytes24 : rbytes Go.Proofs.Try.prog 24 = some 24 := by kernel_rfl
@[go_sem] theorem zero24 : rzero Go.Proofs.Try.prog 24 = some (Go.Value.slice none 0 0) := by kernel_rfl
@[go_sem] theorem agg24 : ragg Go.Proofs.Try.prog 24 = some false := by kernel_rfl
@[go_sem] theorem elem24 : relem Go.Proofs.Try.prog 24 = some 5 := by kernel_rfl
@[go_sem] theorem bs24 : isByteSlice Go.Proofs.Try.prog 24 = true := by kernel_rfl
@[go_sem] theorem str24 : isStr Go.Proofs.Try.prog 24 = false := by kernel_rfl
@[go_sem] theorem under24 : Program.underlying Go.Proofs.Try.prog 24 = some (Go.TypeDesc.slice 5) := by kernel_rfl
@[go_sem] theorem size25 : rsize Go.Proofs.Try.prog 25 = some 1 := by kernel_rfl
@[go_sem] theorem bytes25 : rbytes Go.Proofs.Try.prog 25 = some 8 := by kernel_rfl
@[go_sem] theorem zero25 : rzero Go.Proofs.Try.prog 25 = some (Go.Value.int Go.IntKind.i64 0) := by kernel_rfl
@[go_sem] theorem agg25 : ragg Go.Proofs.Try.prog 25 = some false := by kernel_rfl
@[go_sem] theorem bs25 : isByteSlice Go.Proofs.Try.prog 25 = false := by kernel_rfl
@[go_sem] theorem str25 : isStr Go.Proofs.Try.prog 25 = false := by kernel_rfl
@[go_sem] theorem under25 : Program.underlying Go.Proofs.Try.prog 25 = some (Go.TypeDesc.int Go.IntKind.i64) := by kernel_rfl
@[go_sem] theorem size26 : rsize Go.Proofs.Try.prog 26 = some 1 := by kernel_rfl
@[go_sem] theorem bytes26 : rbytes Go.Proofs.Try.prog 26 = some 0 := by kernel_rfl
@[go_sem] theorem zero26 : rzero Go.Proofs.Try.prog 26 = some (Go.Value.tuple #[Go.Value.slice none 0 0, Go.Value.int Go.IntKind.i64 0]) := by kernel_rfl
@[go_sem] theorem agg26 : ragg Go.Proofs.Try.prog 26 = some false := by kernel_rfl
@[go_sem] theorem bs26 : isByteSlice Go.Proofs.Try.prog 26 = false := by kernel_rfl
@[go_sem] theorem str26 : isStr Go.Proofs.Try.prog 26 = false := by kernel_rfl
@[go_sem] theorem under26 : Program.underlying Go.Proofs.Try.prog 26 = some (Go.TypeDesc.tuple #[24, 25]) := by kernel_rfl
@[go_sem] theorem size27 : rsize Go.Proofs.Try.prog 27 = some 1 := by kernel_rfl
@[go_sem] theorem bytes27 : rbytes Go.Proofs.Try.prog 27 = some 8 := by kernel_rfl
@[go_sem] theorem zero27 : rzero Go.Proofs.Try.prog 27 = some Go.Value.nilFunc := by kernel_rfl
@[go_sem] theorem agg27 : ragg Go.Proofs.Try.prog 27 = some false := by kernel_rfl
@[go_sem] theorem bs27 : isByteSlice Go.Proofs.Try.prog 27 = false := by kernel_rfl
@[go_sem] theorem str27 : isStr Go.Proofs.Try.prog 27 = false := by kernel_rfl
@[go_sem] theorem under27 : Program.underlying Go.Proofs.Try.prog 27 = some (Go.TypeDesc.func #[28] #[24, 25] false) := by kernel_rfl
@[go_sem] theorem size28 : rsize Go.Proofs.Try.prog 28 = some 1 := by kernel_rfl
@[go_sem] theorem bytes28 : rbytes Go.Proofs.Try.prog 28 = some 24 := by kernel_rfl
@[go_sem] theorem zero28 : rzero Go.Proofs.Try.prog 28 = some (Go.Value.slice none 0 0) := by kernel_rfl
@[go_sem] theorem agg28 : ragg Go.Proofs.Try.prog 28 = some false := by kernel_rfl
@[go_sem] theorem elem28 : relem Go.Proofs.Try.prog 28 = some 49 := by kernel_rfl
@[go_sem] theorem bs28 : isByteSlice Go.Proofs.Try.prog 28 = false := by kernel_rfl
@[go_sem] theorem str28 : isStr Go.Proofs.Try.prog 28 = false := by kernel_rfl
@[go_sem] theorem under28 : Program.underlying Go.Proofs.Try.prog 28 = some (Go.TypeDesc.slice 49) := by kernel_rfl
@[go_sem] theorem size29 : rsize Go.Proofs.Try.prog 29 = some 1 := by kernel_rfl
@[go_sem] theorem bytes29 : rbytes Go.Proofs.Try.prog 29 = some 8 := by kernel_rfl
@[go_sem] theorem zero29 : rzero Go.Proofs.Try.prog 29 = some Go.Value.nilFunc := by kernel_rfl
@[go_sem] theorem agg29 : ragg Go.Proofs.Try.prog 29 = some false := by kernel_rfl
@[go_sem] theorem bs29 : isByteSlice Go.Proofs.Try.prog 29 = false := by kernel_rfl
@[go_sem] theorem str29 : isStr Go.Proofs.Try.prog 29 = false := by kernel_rfl
@[go_sem] theorem under29 : Program.underlying Go.Proofs.Try.prog 29 = some (Go.TypeDesc.func #[22] #[28] false) := by kernel_rfl
@[go_sem] theorem size30 : rsize Go.Proofs.Try.prog 30 = some 1 := by kernel_rfl
@[go_sem] theorem bytes30 : rbytes Go.Proofs.Try.prog 30 = some 8 := by kernel_rfl
@[go_sem] theorem zero30 : rzero Go.Proofs.Try.prog 30 = some Go.Value.nilFunc := by kernel_rfl
@[go_sem] theorem agg30 : ragg Go.Proofs.Try.prog 30 = some false := by kernel_rfl
@[go_sem] theorem bs30 : isByteSlice Go.Proofs.Try.prog 30 = false := by kernel_rfl
@[go_sem] theorem str30 : isStr Go.Proofs.Try.prog 30 = false := by kernel_rfl
@[go_sem] theorem under30 : Program.underlying Go.Proofs.Try.prog 30 = some (Go.TypeDesc.func #[34] #[3] false) := by kernel_rfl
@[go_sem] theorem size31 : rsize Go.Proofs.Try.prog 31 = some 1 := by kernel_rfl
@[go_sem] theorem bytes31 : rbytes Go.Proofs.Try.prog 31 = some 24 := by kernel_rfl
@[go_sem] theorem zero31 : rzero Go.Proofs.Try.prog 31 = some (Go.Value.slice none 0 0) := by kernel_rfl
@[go_sem] theorem agg31 : ragg Go.Proofs.Try.prog 31 = some false := by kernel_rfl
@[go_sem] theorem elem31 : relem Go.Proofs.Try.prog 31 = some 9 := by kernel_rfl
@[go_sem] theorem bs31 : isByteSlice Go.Proofs.Try.prog 31 = false := by kernel_rfl
@[go_sem] theorem str31 : isStr Go.Proofs.Try.prog 31 = false := by kernel_rfl
@[go_sem] theorem under31 : Program.underlying Go.Proofs.Try.prog 31 = some (Go.TypeDesc.slice 9) := by kernel_rfl
@[go_sem] theorem size32 : rsize Go.Proofs.Try.prog 32 = some 1 := by kernel_rfl
@[go_sem] theorem bytes32 : rbytes Go.Proofs.Try.prog 32 = some 24 := by kernel_rfl
@[go_sem] theorem zero32 : rzero Go.Proofs.Try.prog 32 = some (Go.Value.slice none 0 0) := by kernel_rfl
@[go_sem] theorem agg32 : ragg Go.Proofs.Try.prog 32 = some false := by kernel_rfl
@[go_sem] theorem elem32 : relem Go.Proofs.Try.prog 32 = some 3 := by kernel_rfl
@[go_sem] theorem bs32 : isByteSlice Go.Proofs.Try.prog 32 = false := by kernel_rfl
@[go_sem] theorem str32 : isStr Go.Proofs.Try.prog 32 = false := by kernel_rfl
@[go_sem] theorem under32 : Program.underlying Go.Proofs.Try.prog 32 = some (Go.TypeDesc.slice 3) := by kernel_rfl
@[go_sem] theorem size33 : rsize Go.Proofs.Try.prog 33 = some 6 := by kernel_rfl
@[go_sem] theorem bytes33 : rbytes Go.Proofs.Try.prog 33 = some 104 := by kernel_rfl
@[go_sem] theorem zero33 : rzero Go.Proofs.Try.prog 33 = some (Go.Value.agg #[Go.Value.int Go.IntKind.i64 0, Go.Value.int Go.IntKind.i64 0, Go.Value.string ByteArray.empty, Go.Value.slice none 0 0, Go.Value.slice none 0 0, Go.Value.slice none 0 0]) := by kernel_rfl
@[go_sem] theorem agg33 : ragg Go.Proofs.Try.prog 33 = some true := by kernel_rfl
@[go_sem] theorem bs33 : isByteSlice Go.Proofs.Try.prog 33 = false := by kernel_rfl
@[go_sem] theorem str33 : isStr Go.Proofs.Try.prog 33 = false := by kernel_rfl
@[go_sem] theorem places33 : placesOk Go.Proofs.Try.prog 33 = true := by kernel_rfl
@[go_sem] theorem fld33_0 : rfield Go.Proofs.Try.prog 33 0 = some { name := "Kind", type := 3, offset := 0, embedded := false, tag := "", pkgPath := "", byteOffset := 0 } := by kernel_rfl
@[go_sem] theorem fld33_1 : rfield Go.Proofs.Try.prog 33 1 = some { name := "N", type := 3, offset := 1, embedded := false, tag := "", pkgPath := "", byteOffset := 8 } := by kernel_rfl
@[go_sem] theorem fld33_2 : rfield Go.Proofs.Try.prog 33 2 = some { name := "Name", type := 9, offset := 2, embedded := false, tag := "", pkgPath := "", byteOffset := 16 } := by kernel_rfl
@[go_sem] theorem fld33_3 : rfield Go.Proofs.Try.prog 33 3 = some { name := "B", type := 24, offset := 3, embedded := false, tag := "", pkgPath := "", byteOffset := 32 } := by kernel_rfl
@[go_sem] theorem fld33_4 : rfield Go.Proofs.Try.prog 33 4 = some { name := "Names", type := 31, offset := 4, embedded := false, tag := "", pkgPath := "", byteOffset := 56 } := by kernel_rfl
@[go_sem] theorem fld33_5 : rfield Go.Proofs.Try.prog 33 5 = some { name := "Tails", type := 32, offset := 5, embedded := false, tag := "", pkgPath := "", byteOffset := 80 } := by kernel_rfl
@[go_sem] theorem under33 : Program.underlying Go.Proofs.Try.prog 33 = some (Go.TypeDesc.struct #[{ name := "Kind", type := 3, offset := 0, embedded := false, tag := "", pkgPath := "", byteOffset := 0 }, { name := "N", type := 3, offset := 1, embedded := false, tag := "", pkgPath := "", byteOffset := 8 }, { name := "Name", type := 9, offset := 2, embedded := false, tag := "", pkgPath := "", byteOffset := 16 }, { name := "B", type := 24, offset := 3, embedded := false, tag := "", pkgPath := "", byteOffset := 32 }, { name := "Names", type := 31, offset := 4, embedded := false, tag := "", pkgPath := "", byteOffset := 56 }, { name := "Tails", type := 32, offset := 5, embedded := false, tag := "", pkgPath := "", byteOffset := 80 }]) := by kernel_rfl
@[go_sem] theorem size34 : rsize Go.Proofs.Try.prog 34 = some 6 := by kernel_rfl
@[go_sem] theorem bytes34 : rbytes Go.Proofs.Try.prog 34 = some 104 := by kernel_rfl
@[go_sem] theorem zero34 : rzero Go.Proofs.Try.prog 34 = some (Go.Value.agg #[Go.Value.int Go.IntKind.i64 0, Go.Value.int Go.IntKind.i64 0, Go.Value.string ByteArray.empty, Go.Value.slice none 0 0, Go.Value.slice none 0 0, Go.Value.slice none 0 0]) := by kernel_rfl
@[go_sem] theorem agg34 : ragg Go.Proofs.Try.prog 34 = some true := by kernel_rfl
@[go_sem] theorem bs34 : isByteSlice Go.Proofs.Try.prog 34 = false := by kernel_rfl
@[go_sem] theorem str34 : isStr Go.Proofs.Try.prog 34 = false := by kernel_rfl
@[go_sem] theorem places34 : placesOk Go.Proofs.Try.prog 34 = true := by kernel_rfl
@[go_sem] theorem fld34_0 : rfield Go.Proofs.Try.prog 34 0 = some { name := "Kind", type := 3, offset := 0, embedded := false, tag := "", pkgPath := "", byteOffset := 0 } := by kernel_rfl
@[go_sem] theorem fld34_1 : rfield Go.Proofs.Try.prog 34 1 = some { name := "N", type := 3, offset := 1, embedded := false, tag := "", pkgPath := "", byteOffset := 8 } := by kernel_rfl
@[go_sem] theorem fld34_2 : rfield Go.Proofs.Try.prog 34 2 = some { name := "Name", type := 9, offset := 2, embedded := false, tag := "", pkgPath := "", byteOffset := 16 } := by kernel_rfl
@[go_sem] theorem fld34_3 : rfield Go.Proofs.Try.prog 34 3 = some { name := "B", type := 24, offset := 3, embedded := false, tag := "", pkgPath := "", byteOffset := 32 } := by kernel_rfl
@[go_sem] theorem fld34_4 : rfield Go.Proofs.Try.prog 34 4 = some { name := "Names", type := 31, offset := 4, embedded := false, tag := "", pkgPath := "", byteOffset := 56 } := by kernel_rfl
@[go_sem] theorem fld34_5 : rfield Go.Proofs.Try.prog 34 5 = some { name := "Tails", type := 32, offset := 5, embedded := false, tag := "", pkgPath := "", byteOffset := 80 } := by kernel_rfl
@[go_sem] theorem under34 : Program.underlying Go.Proofs.Try.prog 34 = some (Go.TypeDesc.struct #[{ name := "Kind", type := 3, offset := 0, embedded := false, tag := "", pkgPath := "", byteOffset := 0 }, { name := "N", type := 3, offset := 1, embedded := false, tag := "", pkgPath := "", byteOffset := 8 }, { name := "Name", type := 9, offset := 2, embedded := false, tag := "", pkgPath := "", byteOffset := 16 }, { name := "B", type := 24, offset := 3, embedded := false, tag := "", pkgPath := "", byteOffset := 32 }, { name := "Names", type := 31, offset := 4, embedded := false, tag := "", pkgPath := "", byteOffset := 56 }, { name := "Tails", type := 32, offset := 5, embedded := false, tag := "", pkgPath := "", byteOffset := 80 }]) := by kernel_rfl
@[go_sem] theorem size35 : rsize Go.Proofs.Try.prog 35 = some 1 := by kernel_rfl
@[go_sem] theorem bytes35 : rbytes Go.Proofs.Try.prog 35 = some 8 := by kernel_rfl
@[go_sem] theorem zero35 : rzero Go.Proofs.Try.prog 35 = some Go.Value.nilFunc := by kernel_rfl
@[go_sem] theorem agg35 : ragg Go.Proofs.Try.prog 35 = some false := by kernel_rfl
@[go_sem] theorem bs35 : isByteSlice Go.Proofs.Try.prog 35 = false := by kernel_rfl
@[go_sem] theorem str35 : isStr Go.Proofs.Try.prog 35 = false := by kernel_rfl
@[go_sem] theorem under35 : Program.underlying Go.Proofs.Try.prog 35 = some (Go.TypeDesc.func #[] #[4] false) := by kernel_rfl
@[go_sem] theorem size36 : rsize Go.Proofs.Try.prog 36 = some 1 := by kernel_rfl
@[go_sem] theorem bytes36 : rbytes Go.Proofs.Try.prog 36 = some 8 := by kernel_rfl
@[go_sem] theorem zero36 : rzero Go.Proofs.Try.prog 36 = some Go.Value.nilFunc := by kernel_rfl
@[go_sem] theorem agg36 : ragg Go.Proofs.Try.prog 36 = some false := by kernel_rfl
@[go_sem] theorem bs36 : isByteSlice Go.Proofs.Try.prog 36 = false := by kernel_rfl
@[go_sem] theorem str36 : isStr Go.Proofs.Try.prog 36 = false := by kernel_rfl
@[go_sem] theorem under36 : Program.underlying Go.Proofs.Try.prog 36 = some (Go.TypeDesc.func #[34] #[24] false) := by kernel_rfl
@[go_sem] theorem size37 : rsize Go.Proofs.Try.prog 37 = some 1 := by kernel_rfl
@[go_sem] theorem bytes37 : rbytes Go.Proofs.Try.prog 37 = some 8 := by kernel_rfl
@[go_sem] theorem zero37 : rzero Go.Proofs.Try.prog 37 = some Go.Value.nilFunc := by kernel_rfl
@[go_sem] theorem agg37 : ragg Go.Proofs.Try.prog 37 = some false := by kernel_rfl
@[go_sem] theorem bs37 : isByteSlice Go.Proofs.Try.prog 37 = false := by kernel_rfl
@[go_sem] theorem str37 : isStr Go.Proofs.Try.prog 37 = false := by kernel_rfl
@[go_sem] theorem under37 : Program.underlying Go.Proofs.Try.prog 37 = some (Go.TypeDesc.func #[22, 22] #[4] false) := by kernel_rfl
@[go_sem] theorem size38 : rsize Go.Proofs.Try.prog 38 = some 1 := by kernel_rfl
@[go_sem] theorem bytes38 : rbytes Go.Proofs.Try.prog 38 = some 0 := by kernel_rfl
@[go_sem] theorem zero38 : rzero Go.Proofs.Try.prog 38 = some (Go.Value.tuple #[Go.Value.slice none 0 0, Go.Value.int Go.IntKind.i64 0]) := by kernel_rfl
@[go_sem] theorem agg38 : ragg Go.Proofs.Try.prog 38 = some false := by kernel_rfl
@[go_sem] theorem bs38 : isByteSlice Go.Proofs.Try.prog 38 = false := by kernel_rfl
@[go_sem] theorem str38 : isStr Go.Proofs.Try.prog 38 = false := by kernel_rfl
@[go_sem] theorem under38 : Program.underlying Go.Proofs.Try.prog 38 = some (Go.TypeDesc.tuple #[28, 25]) := by kernel_rfl
@[go_sem] theorem size39 : rsize Go.Proofs.Try.prog 39 = some 1 := by kernel_rfl
@[go_sem] theorem bytes39 : rbytes Go.Proofs.Try.prog 39 = some 8 := by kernel_rfl
@[go_sem] theorem zero39 : rzero Go.Proofs.Try.prog 39 = some Go.Value.nilFunc := by kernel_rfl
@[go_sem] theorem agg39 : ragg Go.Proofs.Try.prog 39 = some false := by kernel_rfl
@[go_sem] theorem bs39 : isByteSlice Go.Proofs.Try.prog 39 = false := by kernel_rfl
@[go_sem] theorem str39 : isStr Go.Proofs.Try.prog 39 = false := by kernel_rfl
@[go_sem] theorem under39 : Program.underlying Go.Proofs.Try.prog 39 = some (Go.TypeDesc.func #[24] #[28, 25] false) := by kernel_rfl
@[go_sem] theorem size40 : rsize Go.Proofs.Try.prog 40 = some 1 := by kernel_rfl
@[go_sem] theorem bytes40 : rbytes Go.Proofs.Try.prog 40 = some 0 := by kernel_rfl
@[go_sem] theorem zero40 : rzero Go.Proofs.Try.prog 40 = some (Go.Value.tuple #[Go.Value.slice none 0 0, Go.Value.int Go.IntKind.i64 0]) := by kernel_rfl
@[go_sem] theorem agg40 : ragg Go.Proofs.Try.prog 40 = some false := by kernel_rfl
@[go_sem] theorem bs40 : isByteSlice Go.Proofs.Try.prog 40 = false := by kernel_rfl
@[go_sem] theorem str40 : isStr Go.Proofs.Try.prog 40 = false := by kernel_rfl
@[go_sem] theorem under40 : Program.underlying Go.Proofs.Try.prog 40 = some (Go.TypeDesc.tuple #[22, 3]) := by kernel_rfl
@[go_sem] theorem size41 : rsize Go.Proofs.Try.prog 41 = some 1 := by kernel_rfl
@[go_sem] theorem bytes41 : rbytes Go.Proofs.Try.prog 41 = some 8 := by kernel_rfl
@[go_sem] theorem zero41 : rzero Go.Proofs.Try.prog 41 = some Go.Value.nilFunc := by kernel_rfl
@[go_sem] theorem agg41 : ragg Go.Proofs.Try.prog 41 = some false := by kernel_rfl
@[go_sem] theorem bs41 : isByteSlice Go.Proofs.Try.prog 41 = false := by kernel_rfl
@[go_sem] theorem str41 : isStr Go.Proofs.Try.prog 41 = false := by kernel_rfl
@[go_sem] theorem under41 : Program.underlying Go.Proofs.Try.prog 41 = some (Go.TypeDesc.func #[24] #[22, 3] false) := by kernel_rfl
@[go_sem] theorem size42 : rsize Go.Proofs.Try.prog 42 = some 1 := by kernel_rfl
@[go_sem] theorem bytes42 : rbytes Go.Proofs.Try.prog 42 = some 8 := by kernel_rfl
@[go_sem] theorem zero42 : rzero Go.Proofs.Try.prog 42 = some Go.Value.nilFunc := by kernel_rfl
@[go_sem] theorem agg42 : ragg Go.Proofs.Try.prog 42 = some false := by kernel_rfl
@[go_sem] theorem bs42 : isByteSlice Go.Proofs.Try.prog 42 = false := by kernel_rfl
@[go_sem] theorem str42 : isStr Go.Proofs.Try.prog 42 = false := by kernel_rfl
@[go_sem] theorem under42 : Program.underlying Go.Proofs.Try.prog 42 = some (Go.TypeDesc.func #[28, 22] #[4] false) := by kernel_rfl
@[go_sem] theorem size43 : rsize Go.Proofs.Try.prog 43 = some 1 := by kernel_rfl
@[go_sem] theorem bytes43 : rbytes Go.Proofs.Try.prog 43 = some 8 := by kernel_rfl
@[go_sem] theorem zero43 : rzero Go.Proofs.Try.prog 43 = some Go.Value.nilFunc := by kernel_rfl
@[go_sem] theorem agg43 : ragg Go.Proofs.Try.prog 43 = some false := by kernel_rfl
@[go_sem] theorem bs43 : isByteSlice Go.Proofs.Try.prog 43 = false := by kernel_rfl
@[go_sem] theorem str43 : isStr Go.Proofs.Try.prog 43 = false := by kernel_rfl
@[go_sem] theorem under43 : Program.underlying Go.Proofs.Try.prog 43 = some (Go.TypeDesc.func #[24] #[4] false) := by kernel_rfl
@[go_sem] theorem size44 : rsize Go.Proofs.Try.prog 44 = some 1 := by kernel_rfl
@[go_sem] theorem bytes44 : rbytes Go.Proofs.Try.prog 44 = some 8 := by kernel_rfl
@[go_sem] theorem zero44 : rzero Go.Proofs.Try.prog 44 = some Go.Value.nilFunc := by kernel_rfl
@[go_sem] theorem agg44 : ragg Go.Proofs.Try.prog 44 = some false := by kernel_rfl
@[go_sem] theorem bs44 : isByteSlice Go.Proofs.Try.prog 44 = false := by kernel_rfl
@[go_sem] theorem str44 : isStr Go.Proofs.Try.prog 44 = false := by kernel_rfl
@[go_sem] theorem under44 : Program.underlying Go.Proofs.Try.prog 44 = some (Go.TypeDesc.func #[22, 24] #[4] false) := by kernel_rfl
@[go_sem] theorem size45 : rsize Go.Proofs.Try.prog 45 = some 1 := by kernel_rfl
@[go_sem] theorem bytes45 : rbytes Go.Proofs.Try.prog 45 = some 8 := by kernel_rfl
@[go_sem] theorem zero45 : rzero Go.Proofs.Try.prog 45 = some (Go.Value.pointer none) := by kernel_rfl
@[go_sem] theorem agg45 : ragg Go.Proofs.Try.prog 45 = some false := by kernel_rfl
@[go_sem] theorem bs45 : isByteSlice Go.Proofs.Try.prog 45 = false := by kernel_rfl
@[go_sem] theorem str45 : isStr Go.Proofs.Try.prog 45 = false := by kernel_rfl
@[go_sem] theorem under45 : Program.underlying Go.Proofs.Try.prog 45 = some (Go.TypeDesc.pointer 47) := by kernel_rfl
@[go_sem] theorem size46 : rsize Go.Proofs.Try.prog 46 = some 1 := by kernel_rfl
@[go_sem] theorem bytes46 : rbytes Go.Proofs.Try.prog 46 = some 24 := by kernel_rfl
@[go_sem] theorem zero46 : rzero Go.Proofs.Try.prog 46 = some (Go.Value.agg #[Go.Value.slice none 0 0]) := by kernel_rfl
@[go_sem] theorem agg46 : ragg Go.Proofs.Try.prog 46 = some true := by kernel_rfl
@[go_sem] theorem bs46 : isByteSlice Go.Proofs.Try.prog 46 = false := by kernel_rfl
@[go_sem] theorem str46 : isStr Go.Proofs.Try.prog 46 = false := by kernel_rfl
@[go_sem] theorem places46 : placesOk Go.Proofs.Try.prog 46 = true := by kernel_rfl
@[go_sem] theorem fld46_0 : rfield Go.Proofs.Try.prog 46 0 = some { name := "b", type := 24, offset := 0, embedded := false, tag := "", pkgPath := "bellows/script", byteOffset := 0 } := by kernel_rfl
@[go_sem] theorem under46 : Program.underlying Go.Proofs.Try.prog 46 = some (Go.TypeDesc.struct #[{ name := "b", type := 24, offset := 0, embedded := false, tag := "", pkgPath := "bellows/script", byteOffset := 0 }]) := by kernel_rfl
@[go_sem] theorem size47 : rsize Go.Proofs.Try.prog 47 = some 1 := by kernel_rfl
@[go_sem] theorem bytes47 : rbytes Go.Proofs.Try.prog 47 = some 24 := by kernel_rfl
@[go_sem] theorem zero47 : rzero Go.Proofs.Try.prog 47 = some (Go.Value.agg #[Go.Value.slice none 0 0]) := by kernel_rfl
@[go_sem] theorem agg47 : ragg Go.Proofs.Try.prog 47 = some true := by kernel_rfl
@[go_sem] theorem bs47 : isByteSlice Go.Proofs.Try.prog 47 = false := by kernel_rfl
@[go_sem] theorem str47 : isStr Go.Proofs.Try.prog 47 = false := by kernel_rfl
@[go_sem] theorem places47 : placesOk Go.Proofs.Try.prog 47 = true := by kernel_rfl
@[go_sem] theorem fld47_0 : rfield Go.Proofs.Try.prog 47 0 = some { name := "b", type := 24, offset := 0, embedded := false, tag := "", pkgPath := "bellows/script", byteOffset := 0 } := by kernel_rfl
@[go_sem] theorem under47 : Program.underlying Go.Proofs.Try.prog 47 = some (Go.TypeDesc.struct #[{ name := "b", type := 24, offset := 0, embedded := false, tag := "", pkgPath := "bellows/script", byteOffset := 0 }]) := by kernel_rfl
@[go_sem] theorem size48 : rsize Go.Proofs.Try.prog 48 = some 1 := by kernel_rfl
@[go_sem] theorem bytes48 : rbytes Go.Proofs.Try.prog 48 = some 8 := by kernel_rfl
@[go_sem] theorem zero48 : rzero Go.Proofs.Try.prog 48 = some Go.Value.nilFunc := by kernel_rfl
@[go_sem] theorem agg48 : ragg Go.Proofs.Try.prog 48 = some false := by kernel_rfl
@[go_sem] theorem bs48 : isByteSlice Go.Proofs.Try.prog 48 = false := by kernel_rfl
@[go_sem] theorem str48 : isStr Go.Proofs.Try.prog 48 = false := by kernel_rfl
@[go_sem] theorem under48 : Program.underlying Go.Proofs.Try.prog 48 = some (Go.TypeDesc.func #[1] #[25] false) := by kernel_rfl
@[go_sem] theorem size49 : rsize Go.Proofs.Try.prog 49 = some 6 := by kernel_rfl
@[go_sem] theorem bytes49 : rbytes Go.Proofs.Try.prog 49 = some 104 := by kernel_rfl
@[go_sem] theorem zero49 : rzero Go.Proofs.Try.prog 49 = some (Go.Value.agg #[Go.Value.int Go.IntKind.i64 0, Go.Value.int Go.IntKind.i64 0, Go.Value.string ByteArray.empty, Go.Value.slice none 0 0, Go.Value.slice none 0 0, Go.Value.slice none 0 0]) := by kernel_rfl
@[go_sem] theorem agg49 : ragg Go.Proofs.Try.prog 49 = some true := by kernel_rfl
@[go_sem] theorem bs49 : isByteSlice Go.Proofs.Try.prog 49 = false := by kernel_rfl
@[go_sem] theorem str49 : isStr Go.Proofs.Try.prog 49 = false := by kernel_rfl
@[go_sem] theorem places49 : placesOk Go.Proofs.Try.prog 49 = true := by kernel_rfl
@[go_sem] theorem fld49_0 : rfield Go.Proofs.Try.prog 49 0 = some { name := "Kind", type := 3, offset := 0, embedded := false, tag := "", pkgPath := "", byteOffset := 0 } := by kernel_rfl
@[go_sem] theorem fld49_1 : rfield Go.Proofs.Try.prog 49 1 = some { name := "N", type := 3, offset := 1, embedded := false, tag := "", pkgPath := "", byteOffset := 8 } := by kernel_rfl
@[go_sem] theorem fld49_2 : rfield Go.Proofs.Try.prog 49 2 = some { name := "Name", type := 9, offset := 2, embedded := false, tag := "", pkgPath := "", byteOffset := 16 } := by kernel_rfl
@[go_sem] theorem fld49_3 : rfield Go.Proofs.Try.prog 49 3 = some { name := "B", type := 24, offset := 3, embedded := false, tag := "", pkgPath := "", byteOffset := 32 } := by kernel_rfl
@[go_sem] theorem fld49_4 : rfield Go.Proofs.Try.prog 49 4 = some { name := "Names", type := 31, offset := 4, embedded := false, tag := "", pkgPath := "", byteOffset := 56 } := by kernel_rfl
@[go_sem] theorem fld49_5 : rfield Go.Proofs.Try.prog 49 5 = some { name := "Tails", type := 32, offset := 5, embedded := false, tag := "", pkgPath := "", byteOffset := 80 } := by kernel_rfl
@[go_sem] theorem under49 : Program.underlying Go.Proofs.Try.prog 49 = some (Go.TypeDesc.struct #[{ name := "Kind", type := 3, offset := 0, embedded := false, tag := "", pkgPath := "", byteOffset := 0 }, { name := "N", type := 3, offset := 1, embedded := false, tag := "", pkgPath := "", byteOffset := 8 }, { name := "Name", type := 9, offset := 2, embedded := false, tag := "", pkgPath := "", byteOffset := 16 }, { name := "B", type := 24, offset := 3, embedded := false, tag := "", pkgPath := "", byteOffset := 32 }, { name := "Names", type := 31, offset := 4, embedded := false, tag := "", pkgPath := "", byteOffset := 56 }, { name := "Tails", type := 32, offset := 5, embedded := false, tag := "", pkgPath := "", byteOffset := 80 }]) := by kernel_rfl
@[go_sem] theorem size50 : rsize Go.Proofs.Try.prog 50 = some 1 := by kernel_rfl
@[go_sem] theorem bytes50 : rbytes Go.Proofs.Try.prog 50 = some 8 := by kernel_rfl
@[go_sem] theorem zero50 : rzero Go.Proofs.Try.prog 50 = some Go.Value.nilFunc := by kernel_rfl
@[go_sem] theorem agg50 : ragg Go.Proofs.Try.prog 50 = some false := by kernel_rfl
@[go_sem] theorem bs50 : isByteSlice Go.Proofs.Try.prog 50 = false := by kernel_rfl
@[go_sem] theorem str50 : isStr Go.Proofs.Try.prog 50 = false := by kernel_rfl
@[go_sem] theorem under50 : Program.underlying Go.Proofs.Try.prog 50 = some (Go.TypeDesc.func #[49] #[] false) := by kernel_rfl
@[go_sem] theorem size51 : rsize Go.Proofs.Try.prog 51 = some 1 := by kernel_rfl
@[go_sem] theorem bytes51 : rbytes Go.Proofs.Try.prog 51 = some 8 := by kernel_rfl
@[go_sem] theorem zero51 : rzero Go.Proofs.Try.prog 51 = some Go.Value.nilFunc := by kernel_rfl
@[go_sem] theorem agg51 : ragg Go.Proofs.Try.prog 51 = some false := by kernel_rfl
@[go_sem] theorem bs51 : isByteSlice Go.Proofs.Try.prog 51 = false := by kernel_rfl
@[go_sem] theorem str51 : isStr Go.Proofs.Try.prog 51 = false := by kernel_rfl
@[go_sem] theorem under51 : Program.underlying Go.Proofs.Try.prog 51 = some (Go.TypeDesc.func #[3] #[9] false) := by kernel_rfl
@[go_sem] theorem size52 : rsize Go.Proofs.Try.prog 52 = some 1 := by kernel_rfl
@[go_sem] theorem bytes52 : rbytes Go.Proofs.Try.prog 52 = some 8 := by kernel_rfl
@[go_sem] theorem zero52 : rzero Go.Proofs.Try.prog 52 = some Go.Value.nilFunc := by kernel_rfl
@[go_sem] theorem agg52 : ragg Go.Proofs.Try.prog 52 = some false := by kernel_rfl
@[go_sem] theorem bs52 : isByteSlice Go.Proofs.Try.prog 52 = false := by kernel_rfl
@[go_sem] theorem str52 : isStr Go.Proofs.Try.prog 52 = false := by kernel_rfl
@[go_sem] theorem under52 : Program.underlying Go.Proofs.Try.prog 52 = some (Go.TypeDesc.func #[9, 5] #[4] false) := by kernel_rfl
@[go_sem] theorem size53 : rsize Go.Proofs.Try.prog 53 = some 1 := by kernel_rfl
@[go_sem] theorem bytes53 : rbytes Go.Proofs.Try.prog 53 = some 0 := by kernel_rfl
@[go_sem] theorem zero53 : rzero Go.Proofs.Try.prog 53 = some (Go.Value.tuple #[Go.Value.slice none 0 0, Go.Value.bool false]) := by kernel_rfl
@[go_sem] theorem agg53 : ragg Go.Proofs.Try.prog 53 = some false := by kernel_rfl
@[go_sem] theorem bs53 : isByteSlice Go.Proofs.Try.prog 53 = false := by kernel_rfl
@[go_sem] theorem str53 : isStr Go.Proofs.Try.prog 53 = false := by kernel_rfl
@[go_sem] theorem under53 : Program.underlying Go.Proofs.Try.prog 53 = some (Go.TypeDesc.tuple #[24, 4]) := by kernel_rfl
@[go_sem] theorem size54 : rsize Go.Proofs.Try.prog 54 = some 1 := by kernel_rfl
@[go_sem] theorem bytes54 : rbytes Go.Proofs.Try.prog 54 = some 8 := by kernel_rfl
@[go_sem] theorem zero54 : rzero Go.Proofs.Try.prog 54 = some Go.Value.nilFunc := by kernel_rfl
@[go_sem] theorem agg54 : ragg Go.Proofs.Try.prog 54 = some false := by kernel_rfl
@[go_sem] theorem bs54 : isByteSlice Go.Proofs.Try.prog 54 = false := by kernel_rfl
@[go_sem] theorem str54 : isStr Go.Proofs.Try.prog 54 = false := by kernel_rfl
@[go_sem] theorem under54 : Program.underlying Go.Proofs.Try.prog 54 = some (Go.TypeDesc.func #[9] #[24, 4] false) := by kernel_rfl
@[go_sem] theorem size55 : rsize Go.Proofs.Try.prog 55 = some 1 := by kernel_rfl
@[go_sem] theorem bytes55 : rbytes Go.Proofs.Try.prog 55 = some 8 := by kernel_rfl
@[go_sem] theorem zero55 : rzero Go.Proofs.Try.prog 55 = some Go.Value.nilFunc := by kernel_rfl
@[go_sem] theorem agg55 : ragg Go.Proofs.Try.prog 55 = some false := by kernel_rfl
@[go_sem] theorem bs55 : isByteSlice Go.Proofs.Try.prog 55 = false := by kernel_rfl
@[go_sem] theorem str55 : isStr Go.Proofs.Try.prog 55 = false := by kernel_rfl
@[go_sem] theorem under55 : Program.underlying Go.Proofs.Try.prog 55 = some (Go.TypeDesc.func #[56, 3] #[24] false) := by kernel_rfl
@[go_sem] theorem size56 : rsize Go.Proofs.Try.prog 56 = some 1 := by kernel_rfl
@[go_sem] theorem bytes56 : rbytes Go.Proofs.Try.prog 56 = some 8 := by kernel_rfl
@[go_sem] theorem zero56 : rzero Go.Proofs.Try.prog 56 = some (Go.Value.int Go.IntKind.u64 0) := by kernel_rfl
@[go_sem] theorem agg56 : ragg Go.Proofs.Try.prog 56 = some false := by kernel_rfl
@[go_sem] theorem bs56 : isByteSlice Go.Proofs.Try.prog 56 = false := by kernel_rfl
@[go_sem] theorem str56 : isStr Go.Proofs.Try.prog 56 = false := by kernel_rfl
@[go_sem] theorem under56 : Program.underlying Go.Proofs.Try.prog 56 = some (Go.TypeDesc.int Go.IntKind.u64) := by kernel_rfl
@[go_sem] theorem size57 : rsize Go.Proofs.Try.prog 57 = some 1 := by kernel_rfl
@[go_sem] theorem bytes57 : rbytes Go.Proofs.Try.prog 57 = some 4 := by kernel_rfl
@[go_sem] theorem zero57 : rzero Go.Proofs.Try.prog 57 = some (Go.Value.int Go.IntKind.u32 0) := by kernel_rfl
@[go_sem] theorem agg57 : ragg Go.Proofs.Try.prog 57 = some false := by kernel_rfl
@[go_sem] theorem bs57 : isByteSlice Go.Proofs.Try.prog 57 = false := by kernel_rfl
@[go_sem] theorem str57 : isStr Go.Proofs.Try.prog 57 = false := by kernel_rfl
@[go_sem] theorem under57 : Program.underlying Go.Proofs.Try.prog 57 = some (Go.TypeDesc.int Go.IntKind.u32) := by kernel_rfl
@[go_sem] theorem size58 : rsize Go.Proofs.Try.prog 58 = some 1 := by kernel_rfl
@[go_sem] theorem bytes58 : rbytes Go.Proofs.Try.prog 58 = some 8 := by kernel_rfl
@[go_sem] theorem zero58 : rzero Go.Proofs.Try.prog 58 = some (Go.Value.pointer none) := by kernel_rfl
@[go_sem] theorem agg58 : ragg Go.Proofs.Try.prog 58 = some false := by kernel_rfl
@[go_sem] theorem bs58 : isByteSlice Go.Proofs.Try.prog 58 = false := by kernel_rfl
@[go_sem] theorem str58 : isStr Go.Proofs.Try.prog 58 = false := by kernel_rfl
@[go_sem] theorem under58 : Program.underlying Go.Proofs.Try.prog 58 = some (Go.TypeDesc.pointer 84) := by kernel_rfl
@[go_sem] theorem size59 : rsize Go.Proofs.Try.prog 59 = some 1 := by kernel_rfl
@[go_sem] theorem bytes59 : rbytes Go.Proofs.Try.prog 59 = some 8 := by kernel_rfl
@[go_sem] theorem zero59 : rzero Go.Proofs.Try.prog 59 = some Go.Value.nilFunc := by kernel_rfl
@[go_sem] theorem agg59 : ragg Go.Proofs.Try.prog 59 = some false := by kernel_rfl
@[go_sem] theorem bs59 : isByteSlice Go.Proofs.Try.prog 59 = false := by kernel_rfl
@[go_sem] theorem str59 : isStr Go.Proofs.Try.prog 59 = false := by kernel_rfl
@[go_sem] theorem under59 : Program.underlying Go.Proofs.Try.prog 59 = some (Go.TypeDesc.func #[24] #[58] false) := by kernel_rfl
@[go_sem] theorem size60 : rsize Go.Proofs.Try.prog 60 = some 1 := by kernel_rfl
@[go_sem] theorem bytes60 : rbytes Go.Proofs.Try.prog 60 = some 8 := by kernel_rfl
@[go_sem] theorem zero60 : rzero Go.Proofs.Try.prog 60 = some (Go.Value.agg #[Go.Value.pointer none]) := by kernel_rfl
@[go_sem] theorem agg60 : ragg Go.Proofs.Try.prog 60 = some true := by kernel_rfl
@[go_sem] theorem bs60 : isByteSlice Go.Proofs.Try.prog 60 = false := by kernel_rfl
@[go_sem] theorem str60 : isStr Go.Proofs.Try.prog 60 = false := by kernel_rfl
@[go_sem] theorem places60 : placesOk Go.Proofs.Try.prog 60 = true := by kernel_rfl
@[go_sem] theorem fld60_0 : rfield Go.Proofs.Try.prog 60 0 = some { name := "Reader", type := 58, offset := 0, embedded := true, tag := "", pkgPath := "", byteOffset := 0 } := by kernel_rfl
@[go_sem] theorem under60 : Program.underlying Go.Proofs.Try.prog 60 = some (Go.TypeDesc.struct #[{ name := "Reader", type := 58, offset := 0, embedded := true, tag := "", pkgPath := "", byteOffset := 0 }]) := by kernel_rfl
@[go_sem] theorem size61 : rsize Go.Proofs.Try.prog 61 = some 1 := by kernel_rfl
@[go_sem] theorem bytes61 : rbytes Go.Proofs.Try.prog 61 = some 8 := by kernel_rfl
@[go_sem] theorem zero61 : rzero Go.Proofs.Try.prog 61 = some (Go.Value.agg #[Go.Value.pointer none]) := by kernel_rfl
@[go_sem] theorem agg61 : ragg Go.Proofs.Try.prog 61 = some true := by kernel_rfl
@[go_sem] theorem bs61 : isByteSlice Go.Proofs.Try.prog 61 = false := by kernel_rfl
@[go_sem] theorem str61 : isStr Go.Proofs.Try.prog 61 = false := by kernel_rfl
@[go_sem] theorem places61 : placesOk Go.Proofs.Try.prog 61 = true := by kernel_rfl
@[go_sem] theorem fld61_0 : rfield Go.Proofs.Try.prog 61 0 = some { name := "Reader", type := 58, offset := 0, embedded := true, tag := "", pkgPath := "", byteOffset := 0 } := by kernel_rfl
@[go_sem] theorem under61 : Program.underlying Go.Proofs.Try.prog 61 = some (Go.TypeDesc.struct #[{ name := "Reader", type := 58, offset := 0, embedded := true, tag := "", pkgPath := "", byteOffset := 0 }]) := by kernel_rfl
@[go_sem] theorem size62 : rsize Go.Proofs.Try.prog 62 = some 1 := by kernel_rfl
@[go_sem] theorem bytes62 : rbytes Go.Proofs.Try.prog 62 = some 8 := by kernel_rfl
@[go_sem] theorem zero62 : rzero Go.Proofs.Try.prog 62 = some Go.Value.nilFunc := by kernel_rfl
@[go_sem] theorem agg62 : ragg Go.Proofs.Try.prog 62 = some false := by kernel_rfl
@[go_sem] theorem bs62 : isByteSlice Go.Proofs.Try.prog 62 = false := by kernel_rfl
@[go_sem] theorem str62 : isStr Go.Proofs.Try.prog 62 = false := by kernel_rfl
@[go_sem] theorem under62 : Program.underlying Go.Proofs.Try.prog 62 = some (Go.TypeDesc.func #[5] #[49] false) := by kernel_rfl
@[go_sem] theorem size63 : rsize Go.Proofs.Try.prog 63 = some 1 := by kernel_rfl
@[go_sem] theorem bytes63 : rbytes Go.Proofs.Try.prog 63 = some 8 := by kernel_rfl
@[go_sem] theorem zero63 : rzero Go.Proofs.Try.prog 63 = some Go.Value.nilFunc := by kernel_rfl
@[go_sem] theorem agg63 : ragg Go.Proofs.Try.prog 63 = some false := by kernel_rfl
@[go_sem] theorem bs63 : isByteSlice Go.Proofs.Try.prog 63 = false := by kernel_rfl
@[go_sem] theorem str63 : isStr Go.Proofs.Try.prog 63 = false := by kernel_rfl
@[go_sem] theorem under63 : Program.underlying Go.Proofs.Try.prog 63 = some (Go.TypeDesc.func #[] #[3] false) := by kernel_rfl
@[go_sem] theorem size64 : rsize Go.Proofs.Try.prog 64 = some 1 := by kernel_rfl
@[go_sem] theorem bytes64 : rbytes Go.Proofs.Try.prog 64 = some 8 := by kernel_rfl
@[go_sem] theorem zero64 : rzero Go.Proofs.Try.prog 64 = some (Go.Value.pointer none) := by kernel_rfl
@[go_sem] theorem agg64 : ragg Go.Proofs.Try.prog 64 = some false := by kernel_rfl
@[go_sem] theorem bs64 : isByteSlice Go.Proofs.Try.prog 64 = false := by kernel_rfl
@[go_sem] theorem str64 : isStr Go.Proofs.Try.prog 64 = false := by kernel_rfl
@[go_sem] theorem under64 : Program.underlying Go.Proofs.Try.prog 64 = some (Go.TypeDesc.pointer 66) := by kernel_rfl
@[go_sem] theorem size65 : rsize Go.Proofs.Try.prog 65 = some 3 := by kernel_rfl
@[go_sem] theorem bytes65 : rbytes Go.Proofs.Try.prog 65 = some 40 := by kernel_rfl
@[go_sem] theorem zero65 : rzero Go.Proofs.Try.prog 65 = some (Go.Value.agg #[Go.Value.slice none 0 0, Go.Value.int Go.IntKind.i64 0, Go.Value.bool false]) := by kernel_rfl
@[go_sem] theorem agg65 : ragg Go.Proofs.Try.prog 65 = some true := by kernel_rfl
@[go_sem] theorem bs65 : isByteSlice Go.Proofs.Try.prog 65 = false := by kernel_rfl
@[go_sem] theorem str65 : isStr Go.Proofs.Try.prog 65 = false := by kernel_rfl
@[go_sem] theorem places65 : placesOk Go.Proofs.Try.prog 65 = true := by kernel_rfl
@[go_sem] theorem fld65_0 : rfield Go.Proofs.Try.prog 65 0 = some { name := "B", type := 24, offset := 0, embedded := false, tag := "", pkgPath := "", byteOffset := 0 } := by kernel_rfl
@[go_sem] theorem fld65_1 : rfield Go.Proofs.Try.prog 65 1 = some { name := "At", type := 3, offset := 1, embedded := false, tag := "", pkgPath := "", byteOffset := 24 } := by kernel_rfl
@[go_sem] theorem fld65_2 : rfield Go.Proofs.Try.prog 65 2 = some { name := "Bad", type := 4, offset := 2, embedded := false, tag := "", pkgPath := "", byteOffset := 32 } := by kernel_rfl
@[go_sem] theorem under65 : Program.underlying Go.Proofs.Try.prog 65 = some (Go.TypeDesc.struct #[{ name := "B", type := 24, offset := 0, embedded := false, tag := "", pkgPath := "", byteOffset := 0 }, { name := "At", type := 3, offset := 1, embedded := false, tag := "", pkgPath := "", byteOffset := 24 }, { name := "Bad", type := 4, offset := 2, embedded := false, tag := "", pkgPath := "", byteOffset := 32 }]) := by kernel_rfl
@[go_sem] theorem size66 : rsize Go.Proofs.Try.prog 66 = some 3 := by kernel_rfl
@[go_sem] theorem bytes66 : rbytes Go.Proofs.Try.prog 66 = some 40 := by kernel_rfl
@[go_sem] theorem zero66 : rzero Go.Proofs.Try.prog 66 = some (Go.Value.agg #[Go.Value.slice none 0 0, Go.Value.int Go.IntKind.i64 0, Go.Value.bool false]) := by kernel_rfl
@[go_sem] theorem agg66 : ragg Go.Proofs.Try.prog 66 = some true := by kernel_rfl
@[go_sem] theorem bs66 : isByteSlice Go.Proofs.Try.prog 66 = false := by kernel_rfl
@[go_sem] theorem str66 : isStr Go.Proofs.Try.prog 66 = false := by kernel_rfl
@[go_sem] theorem places66 : placesOk Go.Proofs.Try.prog 66 = true := by kernel_rfl
@[go_sem] theorem fld66_0 : rfield Go.Proofs.Try.prog 66 0 = some { name := "B", type := 24, offset := 0, embedded := false, tag := "", pkgPath := "", byteOffset := 0 } := by kernel_rfl
@[go_sem] theorem fld66_1 : rfield Go.Proofs.Try.prog 66 1 = some { name := "At", type := 3, offset := 1, embedded := false, tag := "", pkgPath := "", byteOffset := 24 } := by kernel_rfl
@[go_sem] theorem fld66_2 : rfield Go.Proofs.Try.prog 66 2 = some { name := "Bad", type := 4, offset := 2, embedded := false, tag := "", pkgPath := "", byteOffset := 32 } := by kernel_rfl
@[go_sem] theorem under66 : Program.underlying Go.Proofs.Try.prog 66 = some (Go.TypeDesc.struct #[{ name := "B", type := 24, offset := 0, embedded := false, tag := "", pkgPath := "", byteOffset := 0 }, { name := "At", type := 3, offset := 1, embedded := false, tag := "", pkgPath := "", byteOffset := 24 }, { name := "Bad", type := 4, offset := 2, embedded := false, tag := "", pkgPath := "", byteOffset := 32 }]) := by kernel_rfl
@[go_sem] theorem size67 : rsize Go.Proofs.Try.prog 67 = some 1 := by kernel_rfl
@[go_sem] theorem bytes67 : rbytes Go.Proofs.Try.prog 67 = some 8 := by kernel_rfl
@[go_sem] theorem zero67 : rzero Go.Proofs.Try.prog 67 = some Go.Value.nilFunc := by kernel_rfl
@[go_sem] theorem agg67 : ragg Go.Proofs.Try.prog 67 = some false := by kernel_rfl
@[go_sem] theorem bs67 : isByteSlice Go.Proofs.Try.prog 67 = false := by kernel_rfl
@[go_sem] theorem str67 : isStr Go.Proofs.Try.prog 67 = false := by kernel_rfl
@[go_sem] theorem under67 : Program.underlying Go.Proofs.Try.prog 67 = some (Go.TypeDesc.func #[3] #[56] false) := by kernel_rfl
@[go_sem] theorem size68 : rsize Go.Proofs.Try.prog 68 = some 1 := by kernel_rfl
@[go_sem] theorem bytes68 : rbytes Go.Proofs.Try.prog 68 = some 8 := by kernel_rfl
@[go_sem] theorem zero68 : rzero Go.Proofs.Try.prog 68 = some Go.Value.nilFunc := by kernel_rfl
@[go_sem] theorem agg68 : ragg Go.Proofs.Try.prog 68 = some false := by kernel_rfl
@[go_sem] theorem bs68 : isByteSlice Go.Proofs.Try.prog 68 = false := by kernel_rfl
@[go_sem] theorem str68 : isStr Go.Proofs.Try.prog 68 = false := by kernel_rfl
@[go_sem] theorem under68 : Program.underlying Go.Proofs.Try.prog 68 = some (Go.TypeDesc.func #[] #[9] false) := by kernel_rfl
@[go_sem] theorem size69 : rsize Go.Proofs.Try.prog 69 = some 1 := by kernel_rfl
@[go_sem] theorem bytes69 : rbytes Go.Proofs.Try.prog 69 = some 0 := by kernel_rfl
@[go_sem] theorem zero69 : rzero Go.Proofs.Try.prog 69 = some (Go.Value.tuple #[Go.Value.int Go.IntKind.i64 0, Go.Value.int Go.IntKind.i64 0]) := by kernel_rfl
@[go_sem] theorem agg69 : ragg Go.Proofs.Try.prog 69 = some false := by kernel_rfl
@[go_sem] theorem bs69 : isByteSlice Go.Proofs.Try.prog 69 = false := by kernel_rfl
@[go_sem] theorem str69 : isStr Go.Proofs.Try.prog 69 = false := by kernel_rfl
@[go_sem] theorem under69 : Program.underlying Go.Proofs.Try.prog 69 = some (Go.TypeDesc.tuple #[3, 3]) := by kernel_rfl
@[go_sem] theorem size70 : rsize Go.Proofs.Try.prog 70 = some 1 := by kernel_rfl
@[go_sem] theorem bytes70 : rbytes Go.Proofs.Try.prog 70 = some 8 := by kernel_rfl
@[go_sem] theorem zero70 : rzero Go.Proofs.Try.prog 70 = some Go.Value.nilFunc := by kernel_rfl
@[go_sem] theorem agg70 : ragg Go.Proofs.Try.prog 70 = some false := by kernel_rfl
@[go_sem] theorem bs70 : isByteSlice Go.Proofs.Try.prog 70 = false := by kernel_rfl
@[go_sem] theorem str70 : isStr Go.Proofs.Try.prog 70 = false := by kernel_rfl
@[go_sem] theorem under70 : Program.underlying Go.Proofs.Try.prog 70 = some (Go.TypeDesc.func #[64] #[3, 3] false) := by kernel_rfl
@[go_sem] theorem size71 : rsize Go.Proofs.Try.prog 71 = some 1 := by kernel_rfl
@[go_sem] theorem bytes71 : rbytes Go.Proofs.Try.prog 71 = some 8 := by kernel_rfl
@[go_sem] theorem zero71 : rzero Go.Proofs.Try.prog 71 = some Go.Value.nilFunc := by kernel_rfl
@[go_sem] theorem agg71 : ragg Go.Proofs.Try.prog 71 = some false := by kernel_rfl
@[go_sem] theorem bs71 : isByteSlice Go.Proofs.Try.prog 71 = false := by kernel_rfl
@[go_sem] theorem str71 : isStr Go.Proofs.Try.prog 71 = false := by kernel_rfl
@[go_sem] theorem under71 : Program.underlying Go.Proofs.Try.prog 71 = some (Go.TypeDesc.func #[31, 31] #[4] false) := by kernel_rfl
@[go_sem] theorem size72 : rsize Go.Proofs.Try.prog 72 = some 1 := by kernel_rfl
@[go_sem] theorem bytes72 : rbytes Go.Proofs.Try.prog 72 = some 8 := by kernel_rfl
@[go_sem] theorem zero72 : rzero Go.Proofs.Try.prog 72 = some (Go.Value.agg #[Go.Value.int Go.IntKind.i64 0]) := by kernel_rfl
@[go_sem] theorem agg72 : ragg Go.Proofs.Try.prog 72 = some true := by kernel_rfl
@[go_sem] theorem bs72 : isByteSlice Go.Proofs.Try.prog 72 = false := by kernel_rfl
@[go_sem] theorem str72 : isStr Go.Proofs.Try.prog 72 = false := by kernel_rfl
@[go_sem] theorem places72 : placesOk Go.Proofs.Try.prog 72 = true := by kernel_rfl
@[go_sem] theorem fld72_0 : rfield Go.Proofs.Try.prog 72 0 = some { name := "e", type := 25, offset := 0, embedded := false, tag := "", pkgPath := "bellows/script", byteOffset := 0 } := by kernel_rfl
@[go_sem] theorem under72 : Program.underlying Go.Proofs.Try.prog 72 = some (Go.TypeDesc.struct #[{ name := "e", type := 25, offset := 0, embedded := false, tag := "", pkgPath := "bellows/script", byteOffset := 0 }]) := by kernel_rfl
@[go_sem] theorem size73 : rsize Go.Proofs.Try.prog 73 = some 1 := by kernel_rfl
@[go_sem] theorem bytes73 : rbytes Go.Proofs.Try.prog 73 = some 8 := by kernel_rfl
@[go_sem] theorem zero73 : rzero Go.Proofs.Try.prog 73 = some (Go.Value.agg #[Go.Value.int Go.IntKind.i64 0]) := by kernel_rfl
@[go_sem] theorem agg73 : ragg Go.Proofs.Try.prog 73 = some true := by kernel_rfl
@[go_sem] theorem bs73 : isByteSlice Go.Proofs.Try.prog 73 = false := by kernel_rfl
@[go_sem] theorem str73 : isStr Go.Proofs.Try.prog 73 = false := by kernel_rfl
@[go_sem] theorem places73 : placesOk Go.Proofs.Try.prog 73 = true := by kernel_rfl
@[go_sem] theorem fld73_0 : rfield Go.Proofs.Try.prog 73 0 = some { name := "e", type := 25, offset := 0, embedded := false, tag := "", pkgPath := "bellows/script", byteOffset := 0 } := by kernel_rfl
@[go_sem] theorem under73 : Program.underlying Go.Proofs.Try.prog 73 = some (Go.TypeDesc.struct #[{ name := "e", type := 25, offset := 0, embedded := false, tag := "", pkgPath := "bellows/script", byteOffset := 0 }]) := by kernel_rfl
@[go_sem] theorem size74 : rsize Go.Proofs.Try.prog 74 = some 1 := by kernel_rfl
@[go_sem] theorem bytes74 : rbytes Go.Proofs.Try.prog 74 = some 0 := by kernel_rfl
@[go_sem] theorem zero74 : rzero Go.Proofs.Try.prog 74 = some (Go.Value.tuple #[Go.Value.agg #[Go.Value.int Go.IntKind.i64 0], Go.Value.bool false]) := by kernel_rfl
@[go_sem] theorem agg74 : ragg Go.Proofs.Try.prog 74 = some false := by kernel_rfl
@[go_sem] theorem bs74 : isByteSlice Go.Proofs.Try.prog 74 = false := by kernel_rfl
@[go_sem] theorem str74 : isStr Go.Proofs.Try.prog 74 = false := by kernel_rfl
@[go_sem] theorem under74 : Program.underlying Go.Proofs.Try.prog 74 = some (Go.TypeDesc.tuple #[73, 4]) := by kernel_rfl
@[go_sem] theorem size75 : rsize Go.Proofs.Try.prog 75 = some 5 := by kernel_rfl
@[go_sem] theorem bytes75 : rbytes Go.Proofs.Try.prog 75 = some 5 := by kernel_rfl
@[go_sem] theorem zero75 : rzero Go.Proofs.Try.prog 75 = some (Go.Value.agg #[Go.Value.bool false, Go.Value.bool false, Go.Value.bool false, Go.Value.bool false, Go.Value.bool false]) := by kernel_rfl
@[go_sem] theorem agg75 : ragg Go.Proofs.Try.prog 75 = some true := by kernel_rfl
@[go_sem] theorem bs75 : isByteSlice Go.Proofs.Try.prog 75 = false := by kernel_rfl
@[go_sem] theorem str75 : isStr Go.Proofs.Try.prog 75 = false := by kernel_rfl
@[go_sem] theorem places75 : placesOk Go.Proofs.Try.prog 75 = true := by kernel_rfl
@[go_sem] theorem fld75_0 : rfield Go.Proofs.Try.prog 75 0 = some { name := "name", type := 4, offset := 0, embedded := false, tag := "", pkgPath := "bellows/script", byteOffset := 0 } := by kernel_rfl
@[go_sem] theorem fld75_1 : rfield Go.Proofs.Try.prog 75 1 = some { name := "bytes", type := 4, offset := 1, embedded := false, tag := "", pkgPath := "bellows/script", byteOffset := 1 } := by kernel_rfl
@[go_sem] theorem fld75_2 : rfield Go.Proofs.Try.prog 75 2 = some { name := "number", type := 4, offset := 2, embedded := false, tag := "", pkgPath := "bellows/script", byteOffset := 2 } := by kernel_rfl
@[go_sem] theorem fld75_3 : rfield Go.Proofs.Try.prog 75 3 = some { name := "names", type := 4, offset := 3, embedded := false, tag := "", pkgPath := "bellows/script", byteOffset := 3 } := by kernel_rfl
@[go_sem] theorem fld75_4 : rfield Go.Proofs.Try.prog 75 4 = some { name := "tails", type := 4, offset := 4, embedded := false, tag := "", pkgPath := "bellows/script", byteOffset := 4 } := by kernel_rfl
@[go_sem] theorem under75 : Program.underlying Go.Proofs.Try.prog 75 = some (Go.TypeDesc.struct #[{ name := "name", type := 4, offset := 0, embedded := false, tag := "", pkgPath := "bellows/script", byteOffset := 0 }, { name := "bytes", type := 4, offset := 1, embedded := false, tag := "", pkgPath := "bellows/script", byteOffset := 1 }, { name := "number", type := 4, offset := 2, embedded := false, tag := "", pkgPath := "bellows/script", byteOffset := 2 }, { name := "names", type := 4, offset := 3, embedded := false, tag := "", pkgPath := "bellows/script", byteOffset := 3 }, { name := "tails", type := 4, offset := 4, embedded := false, tag := "", pkgPath := "bellows/script", byteOffset := 4 }]) := by kernel_rfl
@[go_sem] theorem size76 : rsize Go.Proofs.Try.prog 76 = some 5 := by kernel_rfl
@[go_sem] theorem bytes76 : rbytes Go.Proofs.Try.prog 76 = some 5 := by kernel_rfl
@[go_sem] theorem zero76 : rzero Go.Proofs.Try.prog 76 = some (Go.Value.agg #[Go.Value.bool false, Go.Value.bool false, Go.Value.bool false, Go.Value.bool false, Go.Value.bool false]) := by kernel_rfl
@[go_sem] theorem agg76 : ragg Go.Proofs.Try.prog 76 = some true := by kernel_rfl
@[go_sem] theorem bs76 : isByteSlice Go.Proofs.Try.prog 76 = false := by kernel_rfl
@[go_sem] theorem str76 : isStr Go.Proofs.Try.prog 76 = false := by kernel_rfl
@[go_sem] theorem places76 : placesOk Go.Proofs.Try.prog 76 = true := by kernel_rfl
@[go_sem] theorem fld76_0 : rfield Go.Proofs.Try.prog 76 0 = some { name := "name", type := 4, offset := 0, embedded := false, tag := "", pkgPath := "bellows/script", byteOffset := 0 } := by kernel_rfl
@[go_sem] theorem fld76_1 : rfield Go.Proofs.Try.prog 76 1 = some { name := "bytes", type := 4, offset := 1, embedded := false, tag := "", pkgPath := "bellows/script", byteOffset := 1 } := by kernel_rfl
@[go_sem] theorem fld76_2 : rfield Go.Proofs.Try.prog 76 2 = some { name := "number", type := 4, offset := 2, embedded := false, tag := "", pkgPath := "bellows/script", byteOffset := 2 } := by kernel_rfl
@[go_sem] theorem fld76_3 : rfield Go.Proofs.Try.prog 76 3 = some { name := "names", type := 4, offset := 3, embedded := false, tag := "", pkgPath := "bellows/script", byteOffset := 3 } := by kernel_rfl
@[go_sem] theorem fld76_4 : rfield Go.Proofs.Try.prog 76 4 = some { name := "tails", type := 4, offset := 4, embedded := false, tag := "", pkgPath := "bellows/script", byteOffset := 4 } := by kernel_rfl
@[go_sem] theorem under76 : Program.underlying Go.Proofs.Try.prog 76 = some (Go.TypeDesc.struct #[{ name := "name", type := 4, offset := 0, embedded := false, tag := "", pkgPath := "bellows/script", byteOffset := 0 }, { name := "bytes", type := 4, offset := 1, embedded := false, tag := "", pkgPath := "bellows/script", byteOffset := 1 }, { name := "number", type := 4, offset := 2, embedded := false, tag := "", pkgPath := "bellows/script", byteOffset := 2 }, { name := "names", type := 4, offset := 3, embedded := false, tag := "", pkgPath := "bellows/script", byteOffset := 3 }, { name := "tails", type := 4, offset := 4, embedded := false, tag := "", pkgPath := "bellows/script", byteOffset := 4 }]) := by kernel_rfl
@[go_sem] theorem size77 : rsize Go.Proofs.Try.prog 77 = some 1 := by kernel_rfl
@[go_sem] theorem bytes77 : rbytes Go.Proofs.Try.prog 77 = some 0 := by kernel_rfl
@[go_sem] theorem zero77 : rzero Go.Proofs.Try.prog 77 = some (Go.Value.tuple #[Go.Value.agg #[Go.Value.bool false, Go.Value.bool false, Go.Value.bool false, Go.Value.bool false, Go.Value.bool false], Go.Value.bool false]) := by kernel_rfl
@[go_sem] theorem agg77 : ragg Go.Proofs.Try.prog 77 = some false := by kernel_rfl
@[go_sem] theorem bs77 : isByteSlice Go.Proofs.Try.prog 77 = false := by kernel_rfl
@[go_sem] theorem str77 : isStr Go.Proofs.Try.prog 77 = false := by kernel_rfl
@[go_sem] theorem under77 : Program.underlying Go.Proofs.Try.prog 77 = some (Go.TypeDesc.tuple #[76, 4]) := by kernel_rfl
@[go_sem] theorem size78 : rsize Go.Proofs.Try.prog 78 = some 1 := by kernel_rfl
@[go_sem] theorem bytes78 : rbytes Go.Proofs.Try.prog 78 = some 8 := by kernel_rfl
@[go_sem] theorem zero78 : rzero Go.Proofs.Try.prog 78 = some Go.Value.nilFunc := by kernel_rfl
@[go_sem] theorem agg78 : ragg Go.Proofs.Try.prog 78 = some false := by kernel_rfl
@[go_sem] theorem bs78 : isByteSlice Go.Proofs.Try.prog 78 = false := by kernel_rfl
@[go_sem] theorem str78 : isStr Go.Proofs.Try.prog 78 = false := by kernel_rfl
@[go_sem] theorem under78 : Program.underlying Go.Proofs.Try.prog 78 = some (Go.TypeDesc.func #[3] #[76, 4] false) := by kernel_rfl
@[go_sem] theorem size79 : rsize Go.Proofs.Try.prog 79 = some 1 := by kernel_rfl
@[go_sem] theorem bytes79 : rbytes Go.Proofs.Try.prog 79 = some 8 := by kernel_rfl
@[go_sem] theorem zero79 : rzero Go.Proofs.Try.prog 79 = some Go.Value.nilFunc := by kernel_rfl
@[go_sem] theorem agg79 : ragg Go.Proofs.Try.prog 79 = some false := by kernel_rfl
@[go_sem] theorem bs79 : isByteSlice Go.Proofs.Try.prog 79 = false := by kernel_rfl
@[go_sem] theorem str79 : isStr Go.Proofs.Try.prog 79 = false := by kernel_rfl
@[go_sem] theorem under79 : Program.underlying Go.Proofs.Try.prog 79 = some (Go.TypeDesc.func #[4, 25] #[] false) := by kernel_rfl
@[go_sem] theorem size80 : rsize Go.Proofs.Try.prog 80 = some 1 := by kernel_rfl
@[go_sem] theorem bytes80 : rbytes Go.Proofs.Try.prog 80 = some 8 := by kernel_rfl
@[go_sem] theorem zero80 : rzero Go.Proofs.Try.prog 80 = some Go.Value.nilFunc := by kernel_rfl
@[go_sem] theorem agg80 : ragg Go.Proofs.Try.prog 80 = some false := by kernel_rfl
@[go_sem] theorem bs80 : isByteSlice Go.Proofs.Try.prog 80 = false := by kernel_rfl
@[go_sem] theorem str80 : isStr Go.Proofs.Try.prog 80 = false := by kernel_rfl
@[go_sem] theorem under80 : Program.underlying Go.Proofs.Try.prog 80 = some (Go.TypeDesc.func #[9] #[] false) := by kernel_rfl
@[go_sem] theorem size81 : rsize Go.Proofs.Try.prog 81 = some 1 := by kernel_rfl
@[go_sem] theorem bytes81 : rbytes Go.Proofs.Try.prog 81 = some 8 := by kernel_rfl
@[go_sem] theorem zero81 : rzero Go.Proofs.Try.prog 81 = some Go.Value.nilFunc := by kernel_rfl
@[go_sem] theorem agg81 : ragg Go.Proofs.Try.prog 81 = some false := by kernel_rfl
@[go_sem] theorem bs81 : isByteSlice Go.Proofs.Try.prog 81 = false := by kernel_rfl
@[go_sem] theorem str81 : isStr Go.Proofs.Try.prog 81 = false := by kernel_rfl
@[go_sem] theorem under81 : Program.underlying Go.Proofs.Try.prog 81 = some (Go.TypeDesc.func #[3, 3] #[] false) := by kernel_rfl
@[go_sem] theorem size82 : rsize Go.Proofs.Try.prog 82 = some 1 := by kernel_rfl
@[go_sem] theorem bytes82 : rbytes Go.Proofs.Try.prog 82 = some 8 := by kernel_rfl
@[go_sem] theorem zero82 : rzero Go.Proofs.Try.prog 82 = some Go.Value.nilFunc := by kernel_rfl
@[go_sem] theorem agg82 : ragg Go.Proofs.Try.prog 82 = some false := by kernel_rfl
@[go_sem] theorem bs82 : isByteSlice Go.Proofs.Try.prog 82 = false := by kernel_rfl
@[go_sem] theorem str82 : isStr Go.Proofs.Try.prog 82 = false := by kernel_rfl
@[go_sem] theorem under82 : Program.underlying Go.Proofs.Try.prog 82 = some (Go.TypeDesc.func #[24] #[24] false) := by kernel_rfl
@[go_sem] theorem size83 : rsize Go.Proofs.Try.prog 83 = some 2 := by kernel_rfl
@[go_sem] theorem bytes83 : rbytes Go.Proofs.Try.prog 83 = some 32 := by kernel_rfl
@[go_sem] theorem zero83 : rzero Go.Proofs.Try.prog 83 = some (Go.Value.agg #[Go.Value.slice none 0 0, Go.Value.bool false]) := by kernel_rfl
@[go_sem] theorem agg83 : ragg Go.Proofs.Try.prog 83 = some true := by kernel_rfl
@[go_sem] theorem bs83 : isByteSlice Go.Proofs.Try.prog 83 = false := by kernel_rfl
@[go_sem] theorem str83 : isStr Go.Proofs.Try.prog 83 = false := by kernel_rfl
@[go_sem] theorem places83 : placesOk Go.Proofs.Try.prog 83 = true := by kernel_rfl
@[go_sem] theorem fld83_0 : rfield Go.Proofs.Try.prog 83 0 = some { name := "b", type := 24, offset := 0, embedded := false, tag := "", pkgPath := "bellows/pack", byteOffset := 0 } := by kernel_rfl
@[go_sem] theorem fld83_1 : rfield Go.Proofs.Try.prog 83 1 = some { name := "bad", type := 4, offset := 1, embedded := false, tag := "", pkgPath := "bellows/pack", byteOffset := 24 } := by kernel_rfl
@[go_sem] theorem under83 : Program.underlying Go.Proofs.Try.prog 83 = some (Go.TypeDesc.struct #[{ name := "b", type := 24, offset := 0, embedded := false, tag := "", pkgPath := "bellows/pack", byteOffset := 0 }, { name := "bad", type := 4, offset := 1, embedded := false, tag := "", pkgPath := "bellows/pack", byteOffset := 24 }]) := by kernel_rfl
@[go_sem] theorem size84 : rsize Go.Proofs.Try.prog 84 = some 2 := by kernel_rfl
@[go_sem] theorem bytes84 : rbytes Go.Proofs.Try.prog 84 = some 32 := by kernel_rfl
@[go_sem] theorem zero84 : rzero Go.Proofs.Try.prog 84 = some (Go.Value.agg #[Go.Value.slice none 0 0, Go.Value.bool false]) := by kernel_rfl
@[go_sem] theorem agg84 : ragg Go.Proofs.Try.prog 84 = some true := by kernel_rfl
@[go_sem] theorem bs84 : isByteSlice Go.Proofs.Try.prog 84 = false := by kernel_rfl
@[go_sem] theorem str84 : isStr Go.Proofs.Try.prog 84 = false := by kernel_rfl
@[go_sem] theorem places84 : placesOk Go.Proofs.Try.prog 84 = true := by kernel_rfl
@[go_sem] theorem fld84_0 : rfield Go.Proofs.Try.prog 84 0 = some { name := "b", type := 24, offset := 0, embedded := false, tag := "", pkgPath := "bellows/pack", byteOffset := 0 } := by kernel_rfl
@[go_sem] theorem fld84_1 : rfield Go.Proofs.Try.prog 84 1 = some { name := "bad", type := 4, offset := 1, embedded := false, tag := "", pkgPath := "bellows/pack", byteOffset := 24 } := by kernel_rfl
@[go_sem] theorem under84 : Program.underlying Go.Proofs.Try.prog 84 = some (Go.TypeDesc.struct #[{ name := "b", type := 24, offset := 0, embedded := false, tag := "", pkgPath := "bellows/pack", byteOffset := 0 }, { name := "bad", type := 4, offset := 1, embedded := false, tag := "", pkgPath := "bellows/pack", byteOffset := 24 }]) := by kernel_rfl
@[go_sem] theorem size85 : rsize Go.Proofs.Try.prog 85 = some 1 := by kernel_rfl
@[go_sem] theorem bytes85 : rbytes Go.Proofs.Try.prog 85 = some 8 := by kernel_rfl
@[go_sem] theorem zero85 : rzero Go.Proofs.Try.prog 85 = some Go.Value.nilFunc := by kernel_rfl
@[go_sem] theorem agg85 : ragg Go.Proofs.Try.prog 85 = some false := by kernel_rfl
@[go_sem] theorem bs85 : isByteSlice Go.Proofs.Try.prog 85 = false := by kernel_rfl
@[go_sem] theorem str85 : isStr Go.Proofs.Try.prog 85 = false := by kernel_rfl
@[go_sem] theorem under85 : Program.underlying Go.Proofs.Try.prog 85 = some (Go.TypeDesc.func #[] #[57] false) := by kernel_rfl
@[go_sem] theorem size86 : rsize Go.Proofs.Try.prog 86 = some 1 := by kernel_rfl
@[go_sem] theorem bytes86 : rbytes Go.Proofs.Try.prog 86 = some 8 := by kernel_rfl
@[go_sem] theorem zero86 : rzero Go.Proofs.Try.prog 86 = some Go.Value.nilFunc := by kernel_rfl
@[go_sem] theorem agg86 : ragg Go.Proofs.Try.prog 86 = some false := by kernel_rfl
@[go_sem] theorem bs86 : isByteSlice Go.Proofs.Try.prog 86 = false := by kernel_rfl
@[go_sem] theorem str86 : isStr Go.Proofs.Try.prog 86 = false := by kernel_rfl
@[go_sem] theorem under86 : Program.underlying Go.Proofs.Try.prog 86 = some (Go.TypeDesc.func #[3] #[24, 4] false) := by kernel_rfl
@[go_sem] theorem size87 : rsize Go.Proofs.Try.prog 87 = some 1 := by kernel_rfl
@[go_sem] theorem bytes87 : rbytes Go.Proofs.Try.prog 87 = some 8 := by kernel_rfl
@[go_sem] theorem zero87 : rzero Go.Proofs.Try.prog 87 = some Go.Value.nilFunc := by kernel_rfl
@[go_sem] theorem agg87 : ragg Go.Proofs.Try.prog 87 = some false := by kernel_rfl
@[go_sem] theorem bs87 : isByteSlice Go.Proofs.Try.prog 87 = false := by kernel_rfl
@[go_sem] theorem str87 : isStr Go.Proofs.Try.prog 87 = false := by kernel_rfl
@[go_sem] theorem under87 : Program.underlying Go.Proofs.Try.prog 87 = some (Go.TypeDesc.func #[24] #[56] false) := by kernel_rfl
@[go_sem] theorem size88 : rsize Go.Proofs.Try.prog 88 = some 1 := by kernel_rfl
@[go_sem] theorem bytes88 : rbytes Go.Proofs.Try.prog 88 = some 8 := by kernel_rfl
@[go_sem] theorem zero88 : rzero Go.Proofs.Try.prog 88 = some Go.Value.nilFunc := by kernel_rfl
@[go_sem] theorem agg88 : ragg Go.Proofs.Try.prog 88 = some false := by kernel_rfl
@[go_sem] theorem bs88 : isByteSlice Go.Proofs.Try.prog 88 = false := by kernel_rfl
@[go_sem] theorem str88 : isStr Go.Proofs.Try.prog 88 = false := by kernel_rfl
@[go_sem] theorem under88 : Program.underlying Go.Proofs.Try.prog 88 = some (Go.TypeDesc.func #[24, 9] #[24, 25] false) := by kernel_rfl
@[go_sem] theorem size89 : rsize Go.Proofs.Try.prog 89 = some 1 := by kernel_rfl
@[go_sem] theorem bytes89 : rbytes Go.Proofs.Try.prog 89 = some 8 := by kernel_rfl
@[go_sem] theorem zero89 : rzero Go.Proofs.Try.prog 89 = some Go.Value.nilFunc := by kernel_rfl
@[go_sem] theorem agg89 : ragg Go.Proofs.Try.prog 89 = some false := by kernel_rfl
@[go_sem] theorem bs89 : isByteSlice Go.Proofs.Try.prog 89 = false := by kernel_rfl
@[go_sem] theorem str89 : isStr Go.Proofs.Try.prog 89 = false := by kernel_rfl
@[go_sem] theorem under89 : Program.underlying Go.Proofs.Try.prog 89 = some (Go.TypeDesc.func #[24, 57] #[24] false) := by kernel_rfl
@[go_sem] theorem size90 : rsize Go.Proofs.Try.prog 90 = some 1 := by kernel_rfl
@[go_sem] theorem bytes90 : rbytes Go.Proofs.Try.prog 90 = some 8 := by kernel_rfl
@[go_sem] theorem zero90 : rzero Go.Proofs.Try.prog 90 = some Go.Value.nilFunc := by kernel_rfl
@[go_sem] theorem agg90 : ragg Go.Proofs.Try.prog 90 = some false := by kernel_rfl
@[go_sem] theorem bs90 : isByteSlice Go.Proofs.Try.prog 90 = false := by kernel_rfl
@[go_sem] theorem str90 : isStr Go.Proofs.Try.prog 90 = false := by kernel_rfl
@[go_sem] theorem under90 : Program.underlying Go.Proofs.Try.prog 90 = some (Go.TypeDesc.func #[58, 3] #[57] false) := by kernel_rfl
@[go_sem] theorem size91 : rsize Go.Proofs.Try.prog 91 = some 1 := by kernel_rfl
@[go_sem] theorem bytes91 : rbytes Go.Proofs.Try.prog 91 = some 8 := by kernel_rfl
@[go_sem] theorem zero91 : rzero Go.Proofs.Try.prog 91 = some Go.Value.nilFunc := by kernel_rfl
@[go_sem] theorem agg91 : ragg Go.Proofs.Try.prog 91 = some false := by kernel_rfl
@[go_sem] theorem bs91 : isByteSlice Go.Proofs.Try.prog 91 = false := by kernel_rfl
@[go_sem] theorem str91 : isStr Go.Proofs.Try.prog 91 = false := by kernel_rfl
@[go_sem] theorem under91 : Program.underlying Go.Proofs.Try.prog 91 = some (Go.TypeDesc.func #[24, 92, 3] #[24] false) := by kernel_rfl
@[go_sem] theorem size92 : rsize Go.Proofs.Try.prog 92 = some 1 := by kernel_rfl
@[go_sem] theorem bytes92 : rbytes Go.Proofs.Try.prog 92 = some 2 := by kernel_rfl
@[go_sem] theorem zero92 : rzero Go.Proofs.Try.prog 92 = some (Go.Value.int Go.IntKind.u16 0) := by kernel_rfl
@[go_sem] theorem agg92 : ragg Go.Proofs.Try.prog 92 = some false := by kernel_rfl
@[go_sem] theorem bs92 : isByteSlice Go.Proofs.Try.prog 92 = false := by kernel_rfl
@[go_sem] theorem str92 : isStr Go.Proofs.Try.prog 92 = false := by kernel_rfl
@[go_sem] theorem under92 : Program.underlying Go.Proofs.Try.prog 92 = some (Go.TypeDesc.int Go.IntKind.u16) := by kernel_rfl
@[go_sem] theorem size93 : rsize Go.Proofs.Try.prog 93 = some 1 := by kernel_rfl
@[go_sem] theorem bytes93 : rbytes Go.Proofs.Try.prog 93 = some 8 := by kernel_rfl
@[go_sem] theorem zero93 : rzero Go.Proofs.Try.prog 93 = some Go.Value.nilFunc := by kernel_rfl
@[go_sem] theorem agg93 : ragg Go.Proofs.Try.prog 93 = some false := by kernel_rfl
@[go_sem] theorem bs93 : isByteSlice Go.Proofs.Try.prog 93 = false := by kernel_rfl
@[go_sem] theorem str93 : isStr Go.Proofs.Try.prog 93 = false := by kernel_rfl
@[go_sem] theorem under93 : Program.underlying Go.Proofs.Try.prog 93 = some (Go.TypeDesc.func #[24, 57, 3] #[24] false) := by kernel_rfl
@[go_sem] theorem size94 : rsize Go.Proofs.Try.prog 94 = some 1 := by kernel_rfl
@[go_sem] theorem bytes94 : rbytes Go.Proofs.Try.prog 94 = some 8 := by kernel_rfl
@[go_sem] theorem zero94 : rzero Go.Proofs.Try.prog 94 = some Go.Value.nilFunc := by kernel_rfl
@[go_sem] theorem agg94 : ragg Go.Proofs.Try.prog 94 = some false := by kernel_rfl
@[go_sem] theorem bs94 : isByteSlice Go.Proofs.Try.prog 94 = false := by kernel_rfl
@[go_sem] theorem str94 : isStr Go.Proofs.Try.prog 94 = false := by kernel_rfl
@[go_sem] theorem under94 : Program.underlying Go.Proofs.Try.prog 94 = some (Go.TypeDesc.func #[3] #[24] false) := by kernel_rfl
@[go_sem] theorem size95 : rsize Go.Proofs.Try.prog 95 = some 1 := by kernel_rfl
@[go_sem] theorem bytes95 : rbytes Go.Proofs.Try.prog 95 = some 8 := by kernel_rfl
@[go_sem] theorem zero95 : rzero Go.Proofs.Try.prog 95 = some Go.Value.nilFunc := by kernel_rfl
@[go_sem] theorem agg95 : ragg Go.Proofs.Try.prog 95 = some false := by kernel_rfl
@[go_sem] theorem bs95 : isByteSlice Go.Proofs.Try.prog 95 = false := by kernel_rfl
@[go_sem] theorem str95 : isStr Go.Proofs.Try.prog 95 = false := by kernel_rfl
@[go_sem] theorem under95 : Program.underlying Go.Proofs.Try.prog 95 = some (Go.TypeDesc.func #[58, 3] #[92] false) := by kernel_rfl
@[go_sem] theorem size96 : rsize Go.Proofs.Try.prog 96 = some 1 := by kernel_rfl
@[go_sem] theorem bytes96 : rbytes Go.Proofs.Try.prog 96 = some 8 := by kernel_rfl
@[go_sem] theorem zero96 : rzero Go.Proofs.Try.prog 96 = some Go.Value.nilFunc := by kernel_rfl
@[go_sem] theorem agg96 : ragg Go.Proofs.Try.prog 96 = some false := by kernel_rfl
@[go_sem] theorem bs96 : isByteSlice Go.Proofs.Try.prog 96 = false := by kernel_rfl
@[go_sem] theorem str96 : isStr Go.Proofs.Try.prog 96 = false := by kernel_rfl
@[go_sem] theorem under96 : Program.underlying Go.Proofs.Try.prog 96 = some (Go.TypeDesc.func #[24, 3] #[24] false) := by kernel_rfl
@[go_sem] theorem size97 : rsize Go.Proofs.Try.prog 97 = some 4 := by kernel_rfl
@[go_sem] theorem bytes97 : rbytes Go.Proofs.Try.prog 97 = some 40 := by kernel_rfl
@[go_sem] theorem zero97 : rzero Go.Proofs.Try.prog 97 = some (Go.Value.agg #[Go.Value.pointer none, Go.Value.pointer none, Go.Value.pointer none, Go.Value.string ByteArray.empty]) := by kernel_rfl
@[go_sem] theorem agg97 : ragg Go.Proofs.Try.prog 97 = some true := by kernel_rfl
@[go_sem] theorem bs97 : isByteSlice Go.Proofs.Try.prog 97 = false := by kernel_rfl
@[go_sem] theorem str97 : isStr Go.Proofs.Try.prog 97 = false := by kernel_rfl
@[go_sem] theorem places97 : placesOk Go.Proofs.Try.prog 97 = true := by kernel_rfl
@[go_sem] theorem fld97_0 : rfield Go.Proofs.Try.prog 97 0 = some { name := "_interface", type := 17, offset := 0, embedded := false, tag := "", pkgPath := "runtime", byteOffset := 0 } := by kernel_rfl
@[go_sem] theorem fld97_1 : rfield Go.Proofs.Try.prog 97 1 = some { name := "concrete", type := 17, offset := 1, embedded := false, tag := "", pkgPath := "runtime", byteOffset := 8 } := by kernel_rfl
@[go_sem] theorem fld97_2 : rfield Go.Proofs.Try.prog 97 2 = some { name := "asserted", type := 17, offset := 2, embedded := false, tag := "", pkgPath := "runtime", byteOffset := 16 } := by kernel_rfl
@[go_sem] theorem fld97_3 : rfield Go.Proofs.Try.prog 97 3 = some { name := "missingMethod", type := 9, offset := 3, embedded := false, tag := "", pkgPath := "runtime", byteOffset := 24 } := by kernel_rfl
@[go_sem] theorem under97 : Program.underlying Go.Proofs.Try.prog 97 = some (Go.TypeDesc.struct #[{ name := "_interface", type := 17, offset := 0, embedded := false, tag := "", pkgPath := "runtime", byteOffset := 0 }, { name := "concrete", type := 17, offset := 1, embedded := false, tag := "", pkgPath := "runtime", byteOffset := 8 }, { name := "asserted", type := 17, offset := 2, embedded := false, tag := "", pkgPath := "runtime", byteOffset := 16 }, { name := "missingMethod", type := 9, offset := 3, embedded := false, tag := "", pkgPath := "runtime", byteOffset := 24 }]) := by kernel_rfl
@[go_sem] theorem size98 : rsize Go.Proofs.Try.prog 98 = some 4 := by kernel_rfl
@[go_sem] theorem bytes98 : rbytes Go.Proofs.Try.prog 98 = some 40 := by kernel_rfl
@[go_sem] theorem zero98 : rzero Go.Proofs.Try.prog 98 = some (Go.Value.agg #[Go.Value.pointer none, Go.Value.pointer none, Go.Value.pointer none, Go.Value.string ByteArray.empty]) := by kernel_rfl
@[go_sem] theorem agg98 : ragg Go.Proofs.Try.prog 98 = some true := by kernel_rfl
@[go_sem] theorem bs98 : isByteSlice Go.Proofs.Try.prog 98 = false := by kernel_rfl
@[go_sem] theorem str98 : isStr Go.Proofs.Try.prog 98 = false := by kernel_rfl
@[go_sem] theorem places98 : placesOk Go.Proofs.Try.prog 98 = true := by kernel_rfl
@[go_sem] theorem fld98_0 : rfield Go.Proofs.Try.prog 98 0 = some { name := "_interface", type := 17, offset := 0, embedded := false, tag := "", pkgPath := "runtime", byteOffset := 0 } := by kernel_rfl
@[go_sem] theorem fld98_1 : rfield Go.Proofs.Try.prog 98 1 = some { name := "concrete", type := 17, offset := 1, embedded := false, tag := "", pkgPath := "runtime", byteOffset := 8 } := by kernel_rfl
@[go_sem] theorem fld98_2 : rfield Go.Proofs.Try.prog 98 2 = some { name := "asserted", type := 17, offset := 2, embedded := false, tag := "", pkgPath := "runtime", byteOffset := 16 } := by kernel_rfl
@[go_sem] theorem fld98_3 : rfield Go.Proofs.Try.prog 98 3 = some { name := "missingMethod", type := 9, offset := 3, embedded := false, tag := "", pkgPath := "runtime", byteOffset := 24 } := by kernel_rfl
@[go_sem] theorem under98 : Program.underlying Go.Proofs.Try.prog 98 = some (Go.TypeDesc.struct #[{ name := "_interface", type := 17, offset := 0, embedded := false, tag := "", pkgPath := "runtime", byteOffset := 0 }, { name := "concrete", type := 17, offset := 1, embedded := false, tag := "", pkgPath := "runtime", byteOffset := 8 }, { name := "asserted", type := 17, offset := 2, embedded := false, tag := "", pkgPath := "runtime", byteOffset := 16 }, { name := "missingMethod", type := 9, offset := 3, embedded := false, tag := "", pkgPath := "runtime", byteOffset := 24 }]) := by kernel_rfl
@[go_sem] theorem size99 : rsize Go.Proofs.Try.prog 99 = some 0 := by kernel_rfl
@[go_sem] theorem bytes99 : rbytes Go.Proofs.Try.prog 99 = some 0 := by kernel_rfl
@[go_sem] theorem zero99 : rzero Go.Proofs.Try.prog 99 = some (Go.Value.agg #[]) := by kernel_rfl
@[go_sem] theorem agg99 : ragg Go.Proofs.Try.prog 99 = some true := by kernel_rfl
@[go_sem] theorem bs99 : isByteSlice Go.Proofs.Try.prog 99 = false := by kernel_rfl
@[go_sem] theorem str99 : isStr Go.Proofs.Try.prog 99 = false := by kernel_rfl
@[go_sem] theorem under99 : Program.underlying Go.Proofs.Try.prog 99 = some (Go.TypeDesc.array 0 16) := by kernel_rfl
@[go_sem] theorem size100 : rsize Go.Proofs.Try.prog 100 = some 0 := by kernel_rfl
@[go_sem] theorem bytes100 : rbytes Go.Proofs.Try.prog 100 = some 0 := by kernel_rfl
@[go_sem] theorem zero100 : rzero Go.Proofs.Try.prog 100 = some (Go.Value.agg #[]) := by kernel_rfl
@[go_sem] theorem agg100 : ragg Go.Proofs.Try.prog 100 = some true := by kernel_rfl
@[go_sem] theorem bs100 : isByteSlice Go.Proofs.Try.prog 100 = false := by kernel_rfl
@[go_sem] theorem str100 : isStr Go.Proofs.Try.prog 100 = false := by kernel_rfl
@[go_sem] theorem places100 : placesOk Go.Proofs.Try.prog 100 = true := by kernel_rfl
@[go_sem] theorem fld100_0 : rfield Go.Proofs.Try.prog 100 0 = some { name := "_", type := 99, offset := 0, embedded := false, tag := "", pkgPath := "runtime", byteOffset := 0 } := by kernel_rfl
@[go_sem] theorem under100 : Program.underlying Go.Proofs.Try.prog 100 = some (Go.TypeDesc.struct #[{ name := "_", type := 99, offset := 0, embedded := false, tag := "", pkgPath := "runtime", byteOffset := 0 }]) := by kernel_rfl
@[go_sem] theorem size101 : rsize Go.Proofs.Try.prog 101 = some 0 := by kernel_rfl
@[go_sem] theorem bytes101 : rbytes Go.Proofs.Try.prog 101 = some 0 := by kernel_rfl
@[go_sem] theorem zero101 : rzero Go.Proofs.Try.prog 101 = some (Go.Value.agg #[]) := by kernel_rfl
@[go_sem] theorem agg101 : ragg Go.Proofs.Try.prog 101 = some true := by kernel_rfl
@[go_sem] theorem bs101 : isByteSlice Go.Proofs.Try.prog 101 = false := by kernel_rfl
@[go_sem] theorem str101 : isStr Go.Proofs.Try.prog 101 = false := by kernel_rfl
@[go_sem] theorem places101 : placesOk Go.Proofs.Try.prog 101 = true := by kernel_rfl
@[go_sem] theorem fld101_0 : rfield Go.Proofs.Try.prog 101 0 = some { name := "_", type := 99, offset := 0, embedded := false, tag := "", pkgPath := "runtime", byteOffset := 0 } := by kernel_rfl
@[go_sem] theorem under101 : Program.underlying Go.Proofs.Try.prog 101 = some (Go.TypeDesc.struct #[{ name := "_", type := 99, offset := 0, embedded := false, tag := "", pkgPath := "runtime", byteOffset := 0 }]) := by kernel_rfl
@[go_sem] theorem size102 : rsize Go.Proofs.Try.prog 102 = some 1 := by kernel_rfl
@[go_sem] theorem bytes102 : rbytes Go.Proofs.Try.prog 102 = some 1 := by kernel_rfl
@[go_sem] theorem zero102 : rzero Go.Proofs.Try.prog 102 = some (Go.Value.int Go.IntKind.u8 0) := by kernel_rfl
@[go_sem] theorem agg102 : ragg Go.Proofs.Try.prog 102 = some false := by kernel_rfl
@[go_sem] theorem bs102 : isByteSlice Go.Proofs.Try.prog 102 = false := by kernel_rfl
@[go_sem] theorem str102 : isStr Go.Proofs.Try.prog 102 = false := by kernel_rfl
@[go_sem] theorem under102 : Program.underlying Go.Proofs.Try.prog 102 = some (Go.TypeDesc.int Go.IntKind.u8) := by kernel_rfl
@[go_sem] theorem size103 : rsize Go.Proofs.Try.prog 103 = some 1 := by kernel_rfl
@[go_sem] theorem bytes103 : rbytes Go.Proofs.Try.prog 103 = some 1 := by kernel_rfl
@[go_sem] theorem zero103 : rzero Go.Proofs.Try.prog 103 = some (Go.Value.int Go.IntKind.u8 0) := by kernel_rfl
@[go_sem] theorem agg103 : ragg Go.Proofs.Try.prog 103 = some false := by kernel_rfl
@[go_sem] theorem bs103 : isByteSlice Go.Proofs.Try.prog 103 = false := by kernel_rfl
@[go_sem] theorem str103 : isStr Go.Proofs.Try.prog 103 = false := by kernel_rfl
@[go_sem] theorem under103 : Program.underlying Go.Proofs.Try.prog 103 = some (Go.TypeDesc.int Go.IntKind.u8) := by kernel_rfl
@[go_sem] theorem size104 : rsize Go.Proofs.Try.prog 104 = some 1 := by kernel_rfl
@[go_sem] theorem bytes104 : rbytes Go.Proofs.Try.prog 104 = some 8 := by kernel_rfl
@[go_sem] theorem zero104 : rzero Go.Proofs.Try.prog 104 = some Go.Value.nilFunc := by kernel_rfl
@[go_sem] theorem agg104 : ragg Go.Proofs.Try.prog 104 = some false := by kernel_rfl
@[go_sem] theorem bs104 : isByteSlice Go.Proofs.Try.prog 104 = false := by kernel_rfl
@[go_sem] theorem str104 : isStr Go.Proofs.Try.prog 104 = false := by kernel_rfl
@[go_sem] theorem under104 : Program.underlying Go.Proofs.Try.prog 104 = some (Go.TypeDesc.func #[110, 110] #[4] false) := by kernel_rfl
@[go_sem] theorem size105 : rsize Go.Proofs.Try.prog 105 = some 1 := by kernel_rfl
@[go_sem] theorem bytes105 : rbytes Go.Proofs.Try.prog 105 = some 8 := by kernel_rfl
@[go_sem] theorem zero105 : rzero Go.Proofs.Try.prog 105 = some (Go.Value.pointer none) := by kernel_rfl
@[go_sem] theorem agg105 : ragg Go.Proofs.Try.prog 105 = some false := by kernel_rfl
@[go_sem] theorem bs105 : isByteSlice Go.Proofs.Try.prog 105 = false := by kernel_rfl
@[go_sem] theorem str105 : isStr Go.Proofs.Try.prog 105 = false := by kernel_rfl
@[go_sem] theorem under105 : Program.underlying Go.Proofs.Try.prog 105 = some (Go.TypeDesc.pointer 5) := by kernel_rfl
@[go_sem] theorem size106 : rsize Go.Proofs.Try.prog 106 = some 1 := by kernel_rfl
@[go_sem] theorem bytes106 : rbytes Go.Proofs.Try.prog 106 = some 4 := by kernel_rfl
@[go_sem] theorem zero106 : rzero Go.Proofs.Try.prog 106 = some (Go.Value.int Go.IntKind.i32 0) := by kernel_rfl
@[go_sem] theorem agg106 : ragg Go.Proofs.Try.prog 106 = some false := by kernel_rfl
@[go_sem] theorem bs106 : isByteSlice Go.Proofs.Try.prog 106 = false := by kernel_rfl
@[go_sem] theorem str106 : isStr Go.Proofs.Try.prog 106 = false := by kernel_rfl
@[go_sem] theorem under106 : Program.underlying Go.Proofs.Try.prog 106 = some (Go.TypeDesc.int Go.IntKind.i32) := by kernel_rfl
@[go_sem] theorem size107 : rsize Go.Proofs.Try.prog 107 = some 1 := by kernel_rfl
@[go_sem] theorem bytes107 : rbytes Go.Proofs.Try.prog 107 = some 4 := by kernel_rfl
@[go_sem] theorem zero107 : rzero Go.Proofs.Try.prog 107 = some (Go.Value.int Go.IntKind.i32 0) := by kernel_rfl
@[go_sem] theorem agg107 : ragg Go.Proofs.Try.prog 107 = some false := by kernel_rfl
@[go_sem] theorem bs107 : isByteSlice Go.Proofs.Try.prog 107 = false := by kernel_rfl
@[go_sem] theorem str107 : isStr Go.Proofs.Try.prog 107 = false := by kernel_rfl
@[go_sem] theorem under107 : Program.underlying Go.Proofs.Try.prog 107 = some (Go.TypeDesc.int Go.IntKind.i32) := by kernel_rfl
@[go_sem] theorem size108 : rsize Go.Proofs.Try.prog 108 = some 11 := by kernel_rfl
@[go_sem] theorem bytes108 : rbytes Go.Proofs.Try.prog 108 = some 48 := by kernel_rfl
@[go_sem] theorem zero108 : rzero Go.Proofs.Try.prog 108 = some (Go.Value.agg #[Go.Value.int Go.IntKind.u64 0, Go.Value.int Go.IntKind.u64 0, Go.Value.int Go.IntKind.u32 0, Go.Value.int Go.IntKind.u8 0, Go.Value.int Go.IntKind.u8 0, Go.Value.int Go.IntKind.u8 0, Go.Value.int Go.IntKind.u8 0, Go.Value.nilFunc, Go.Value.pointer none, Go.Value.int Go.IntKind.i32 0, Go.Value.int Go.IntKind.i32 0]) := by kernel_rfl
@[go_sem] theorem agg108 : ragg Go.Proofs.Try.prog 108 = some true := by kernel_rfl
@[go_sem] theorem bs108 : isByteSlice Go.Proofs.Try.prog 108 = false := by kernel_rfl
@[go_sem] theorem str108 : isStr Go.Proofs.Try.prog 108 = false := by kernel_rfl
@[go_sem] theorem places108 : placesOk Go.Proofs.Try.prog 108 = true := by kernel_rfl
@[go_sem] theorem fld108_0 : rfield Go.Proofs.Try.prog 108 0 = some { name := "Size_", type := 12, offset := 0, embedded := false, tag := "", pkgPath := "", byteOffset := 0 } := by kernel_rfl
@[go_sem] theorem fld108_1 : rfield Go.Proofs.Try.prog 108 1 = some { name := "PtrBytes", type := 12, offset := 1, embedded := false, tag := "", pkgPath := "", byteOffset := 8 } := by kernel_rfl
@[go_sem] theorem fld108_2 : rfield Go.Proofs.Try.prog 108 2 = some { name := "Hash", type := 57, offset := 2, embedded := false, tag := "", pkgPath := "", byteOffset := 16 } := by kernel_rfl
@[go_sem] theorem fld108_3 : rfield Go.Proofs.Try.prog 108 3 = some { name := "TFlag", type := 102, offset := 3, embedded := false, tag := "", pkgPath := "", byteOffset := 20 } := by kernel_rfl
@[go_sem] theorem fld108_4 : rfield Go.Proofs.Try.prog 108 4 = some { name := "Align_", type := 5, offset := 4, embedded := false, tag := "", pkgPath := "", byteOffset := 21 } := by kernel_rfl
@[go_sem] theorem fld108_5 : rfield Go.Proofs.Try.prog 108 5 = some { name := "FieldAlign_", type := 5, offset := 5, embedded := false, tag := "", pkgPath := "", byteOffset := 22 } := by kernel_rfl
@[go_sem] theorem fld108_6 : rfield Go.Proofs.Try.prog 108 6 = some { name := "Kind_", type := 103, offset := 6, embedded := false, tag := "", pkgPath := "", byteOffset := 23 } := by kernel_rfl
@[go_sem] theorem fld108_7 : rfield Go.Proofs.Try.prog 108 7 = some { name := "Equal", type := 104, offset := 7, embedded := false, tag := "", pkgPath := "", byteOffset := 24 } := by kernel_rfl
@[go_sem] theorem fld108_8 : rfield Go.Proofs.Try.prog 108 8 = some { name := "GCData", type := 105, offset := 8, embedded := false, tag := "", pkgPath := "", byteOffset := 32 } := by kernel_rfl
@[go_sem] theorem fld108_9 : rfield Go.Proofs.Try.prog 108 9 = some { name := "Str", type := 106, offset := 9, embedded := false, tag := "", pkgPath := "", byteOffset := 40 } := by kernel_rfl
@[go_sem] theorem fld108_10 : rfield Go.Proofs.Try.prog 108 10 = some { name := "PtrToThis", type := 107, offset := 10, embedded := false, tag := "", pkgPath := "", byteOffset := 44 } := by kernel_rfl
@[go_sem] theorem under108 : Program.underlying Go.Proofs.Try.prog 108 = some (Go.TypeDesc.struct #[{ name := "Size_", type := 12, offset := 0, embedded := false, tag := "", pkgPath := "", byteOffset := 0 }, { name := "PtrBytes", type := 12, offset := 1, embedded := false, tag := "", pkgPath := "", byteOffset := 8 }, { name := "Hash", type := 57, offset := 2, embedded := false, tag := "", pkgPath := "", byteOffset := 16 }, { name := "TFlag", type := 102, offset := 3, embedded := false, tag := "", pkgPath := "", byteOffset := 20 }, { name := "Align_", type := 5, offset := 4, embedded := false, tag := "", pkgPath := "", byteOffset := 21 }, { name := "FieldAlign_", type := 5, offset := 5, embedded := false, tag := "", pkgPath := "", byteOffset := 22 }, { name := "Kind_", type := 103, offset := 6, embedded := false, tag := "", pkgPath := "", byteOffset := 23 }, { name := "Equal", type := 104, offset := 7, embedded := false, tag := "", pkgPath := "", byteOffset := 24 }, { name := "GCData", type := 105, offset := 8, embedded := false, tag := "", pkgPath := "", byteOffset := 32 }, { name := "Str", type := 106, offset := 9, embedded := false, tag := "", pkgPath := "", byteOffset := 40 }, { name := "PtrToThis", type := 107, offset := 10, embedded := false, tag := "", pkgPath := "", byteOffset := 44 }]) := by kernel_rfl
@[go_sem] theorem size109 : rsize Go.Proofs.Try.prog 109 = some 11 := by kernel_rfl
@[go_sem] theorem bytes109 : rbytes Go.Proofs.Try.prog 109 = some 48 := by kernel_rfl
@[go_sem] theorem zero109 : rzero Go.Proofs.Try.prog 109 = some (Go.Value.agg #[Go.Value.int Go.IntKind.u64 0, Go.Value.int Go.IntKind.u64 0, Go.Value.int Go.IntKind.u32 0, Go.Value.int Go.IntKind.u8 0, Go.Value.int Go.IntKind.u8 0, Go.Value.int Go.IntKind.u8 0, Go.Value.int Go.IntKind.u8 0, Go.Value.nilFunc, Go.Value.pointer none, Go.Value.int Go.IntKind.i32 0, Go.Value.int Go.IntKind.i32 0]) := by kernel_rfl
@[go_sem] theorem agg109 : ragg Go.Proofs.Try.prog 109 = some true := by kernel_rfl
@[go_sem] theorem bs109 : isByteSlice Go.Proofs.Try.prog 109 = false := by kernel_rfl
@[go_sem] theorem str109 : isStr Go.Proofs.Try.prog 109 = false := by kernel_rfl
@[go_sem] theorem places109 : placesOk Go.Proofs.Try.prog 109 = true := by kernel_rfl
@[go_sem] theorem fld109_0 : rfield Go.Proofs.Try.prog 109 0 = some { name := "Size_", type := 12, offset := 0, embedded := false, tag := "", pkgPath := "", byteOffset := 0 } := by kernel_rfl
@[go_sem] theorem fld109_1 : rfield Go.Proofs.Try.prog 109 1 = some { name := "PtrBytes", type := 12, offset := 1, embedded := false, tag := "", pkgPath := "", byteOffset := 8 } := by kernel_rfl
@[go_sem] theorem fld109_2 : rfield Go.Proofs.Try.prog 109 2 = some { name := "Hash", type := 57, offset := 2, embedded := false, tag := "", pkgPath := "", byteOffset := 16 } := by kernel_rfl
@[go_sem] theorem fld109_3 : rfield Go.Proofs.Try.prog 109 3 = some { name := "TFlag", type := 102, offset := 3, embedded := false, tag := "", pkgPath := "", byteOffset := 20 } := by kernel_rfl
@[go_sem] theorem fld109_4 : rfield Go.Proofs.Try.prog 109 4 = some { name := "Align_", type := 5, offset := 4, embedded := false, tag := "", pkgPath := "", byteOffset := 21 } := by kernel_rfl
@[go_sem] theorem fld109_5 : rfield Go.Proofs.Try.prog 109 5 = some { name := "FieldAlign_", type := 5, offset := 5, embedded := false, tag := "", pkgPath := "", byteOffset := 22 } := by kernel_rfl
@[go_sem] theorem fld109_6 : rfield Go.Proofs.Try.prog 109 6 = some { name := "Kind_", type := 103, offset := 6, embedded := false, tag := "", pkgPath := "", byteOffset := 23 } := by kernel_rfl
@[go_sem] theorem fld109_7 : rfield Go.Proofs.Try.prog 109 7 = some { name := "Equal", type := 104, offset := 7, embedded := false, tag := "", pkgPath := "", byteOffset := 24 } := by kernel_rfl
@[go_sem] theorem fld109_8 : rfield Go.Proofs.Try.prog 109 8 = some { name := "GCData", type := 105, offset := 8, embedded := false, tag := "", pkgPath := "", byteOffset := 32 } := by kernel_rfl
@[go_sem] theorem fld109_9 : rfield Go.Proofs.Try.prog 109 9 = some { name := "Str", type := 106, offset := 9, embedded := false, tag := "", pkgPath := "", byteOffset := 40 } := by kernel_rfl
@[go_sem] theorem fld109_10 : rfield Go.Proofs.Try.prog 109 10 = some { name := "PtrToThis", type := 107, offset := 10, embedded := false, tag := "", pkgPath := "", byteOffset := 44 } := by kernel_rfl
@[go_sem] theorem under109 : Program.underlying Go.Proofs.Try.prog 109 = some (Go.TypeDesc.struct #[{ name := "Size_", type := 12, offset := 0, embedded := false, tag := "", pkgPath := "", byteOffset := 0 }, { name := "PtrBytes", type := 12, offset := 1, embedded := false, tag := "", pkgPath := "", byteOffset := 8 }, { name := "Hash", type := 57, offset := 2, embedded := false, tag := "", pkgPath := "", byteOffset := 16 }, { name := "TFlag", type := 102, offset := 3, embedded := false, tag := "", pkgPath := "", byteOffset := 20 }, { name := "Align_", type := 5, offset := 4, embedded := false, tag := "", pkgPath := "", byteOffset := 21 }, { name := "FieldAlign_", type := 5, offset := 5, embedded := false, tag := "", pkgPath := "", byteOffset := 22 }, { name := "Kind_", type := 103, offset := 6, embedded := false, tag := "", pkgPath := "", byteOffset := 23 }, { name := "Equal", type := 104, offset := 7, embedded := false, tag := "", pkgPath := "", byteOffset := 24 }, { name := "GCData", type := 105, offset := 8, embedded := false, tag := "", pkgPath := "", byteOffset := 32 }, { name := "Str", type := 106, offset := 9, embedded := false, tag := "", pkgPath := "", byteOffset := 40 }, { name := "PtrToThis", type := 107, offset := 10, embedded := false, tag := "", pkgPath := "", byteOffset := 44 }]) := by kernel_rfl
@[go_sem] theorem size110 : rsize Go.Proofs.Try.prog 110 = some 1 := by kernel_rfl
@[go_sem] theorem bytes110 : rbytes Go.Proofs.Try.prog 110 = some 8 := by kernel_rfl
@[go_sem] theorem zero110 : rzero Go.Proofs.Try.prog 110 = some (Go.Value.pointer none) := by kernel_rfl
@[go_sem] theorem agg110 : ragg Go.Proofs.Try.prog 110 = some false := by kernel_rfl
@[go_sem] theorem bs110 : isByteSlice Go.Proofs.Try.prog 110 = false := by kernel_rfl
@[go_sem] theorem str110 : isStr Go.Proofs.Try.prog 110 = false := by kernel_rfl
@[go_sem] theorem under110 : Program.underlying Go.Proofs.Try.prog 110 = some (Go.TypeDesc.unsafePointer) := by kernel_rfl
end Go.Ab.Try
