/- Closed facts of the seat's program. -/
import Derived.Test.YthnkcocemlcpgaaA7
import Derived.Test.YthnkcocemlcpgaaProg
import Derived.KernelRfl
namespace Go.Mi.Ring
open Go.Mi Go.Proofs
theorem mo : Try.prog.follows .mixedOrders = true := by kernel_rfl
theorem c3 : Callee Try.prog 3 := ⟨_, Try.func3, by kernel_rfl, by kernel_rfl⟩
theorem c4 : Callee Try.prog 4 := ⟨_, Try.func4, by kernel_rfl, by kernel_rfl⟩
theorem c5 : Callee Try.prog 5 := ⟨_, Try.func5, by kernel_rfl, by kernel_rfl⟩
theorem c6 : Callee Try.prog 6 := ⟨_, Try.func6, by kernel_rfl, by kernel_rfl⟩
theorem c7 : Callee Try.prog 7 := ⟨_, Try.func7, by kernel_rfl, by kernel_rfl⟩
theorem c8 : Callee Try.prog 8 := ⟨_, Try.func8, by kernel_rfl, by kernel_rfl⟩
theorem c9 : Callee Try.prog 9 := ⟨_, Try.func9, by kernel_rfl, by kernel_rfl⟩
theorem c10 : Callee Try.prog 10 := ⟨_, Try.func10, by kernel_rfl, by kernel_rfl⟩
theorem c11 : Callee Try.prog 11 := ⟨_, Try.func11, by kernel_rfl, by kernel_rfl⟩
theorem c12 : Callee Try.prog 12 := ⟨_, Try.func12, by kernel_rfl, by kernel_rfl⟩
theorem c13 : Callee Try.prog 13 := ⟨_, Try.func13, by kernel_rfl, by kernel_rfl⟩
theorem c14 : Callee Try.prog 14 := ⟨_, Try.func14, by kernel_rfl, by kernel_rfl⟩
theorem c15 : Callee Try.prog 15 := ⟨_, Try.func15, by kernel_rfl, by kernel_rfl⟩
theorem c16 : Callee Try.prog 16 := ⟨_, Try.func16, by kernel_rfl, by kernel_rfl⟩
theorem c17 : Callee Try.prog 17 := ⟨_, Try.func17, by kernel_rfl, by kernel_rfl⟩
theorem c18 : Callee Try.prog 18 := ⟨_, Try.func18, by kernel_rfl, by kernel_rfl⟩
theorem c19 : Callee Try.prog 19 := ⟨_, Try.func19, by kernel_rfl, by kernel_rfl⟩
theorem c20 : Callee Try.prog 20 := ⟨_, Try.func20, by kernel_rfl, by kernel_rfl⟩
theorem c21 : Callee Try.prog 21 := ⟨_, Try.func21, by kernel_rfl, by kernel_rfl⟩
theorem c22 : Callee Try.prog 22 := ⟨_, Try.func22, by kernel_rfl, by kernel_rfl⟩
theorem c23 : Callee Try.prog 23 := ⟨_, Try.func23, by kernel_rfl, by kernel_rfl⟩
theorem c24 : Callee Try.prog 24 := ⟨_, Try.func24, by kernel_rfl, by kernel_rfl⟩
theorem c25 : Callee Try.prog 25 := ⟨_, Try.func25, by kernel_rfl, by kernel_rfl⟩
theorem c26 : Callee Try.prog 26 := ⟨_, Try.func26, by kernel_rfl, by kernel_rfl⟩
theorem c27 : Callee Try.prog 27 := ⟨_, Try.func27, by kernel_rfl, by kernel_rfl⟩
theorem c28 : Callee Try.prog 28 := ⟨_, Try.func28, by kernel_rfl, by kernel_rfl⟩
theorem c29 : Callee Try.prog 29 := ⟨_, Try.func29, by kernel_rfl, by kernel_rfl⟩
theorem c30 : Callee Try.prog 30 := ⟨_, Try.func30, by kernel_rfl, by kernel_rfl⟩
theorem c31 : Callee Try.prog 31 := ⟨_, Try.func31, by kernel_rfl, by kernel_rfl⟩
theorem c32 : Callee Try.prog 32 := ⟨_, Try.func32, by kernel_rfl, by kernel_rfl⟩
theorem c33 : Callee Try.prog 33 := ⟨_, Try.func33, by kernel_rfl, by kernel_rfl⟩
theorem c34 : Callee Try.prog 34 := ⟨_, Try.func34, by kernel_rfl, by kernel_rfl⟩
theorem c35 : Callee Try.prog 35 := ⟨_, Try.func35, by kernel_rfl, by kernel_rfl⟩
theorem c36 : Callee Try.prog 36 := ⟨_, Try.func36, by kernel_rfl, by kernel_rfl⟩
theorem c37 : Callee Try.prog 37 := ⟨_, Try.func37, by kernel_rfl, by kernel_rfl⟩
theorem c38 : Callee Try.prog 38 := ⟨_, Try.func38, by kernel_rfl, by kernel_rfl⟩
theorem c39 : Callee Try.prog 39 := ⟨_, Try.func39, by kernel_rfl, by kernel_rfl⟩
theorem c40 : Callee Try.prog 40 := ⟨_, Try.func40, by kernel_rfl, by kernel_rfl⟩
theorem c41 : Callee Try.prog 41 := ⟨_, Try.func41, by kernel_rfl, by kernel_rfl⟩
theorem c42 : Callee Try.prog 42 := ⟨_, Try.func42, by kernel_rfl, by kernel_rfl⟩
theorem c43 : Callee Try.prog 43 := ⟨_, Try.func43, by kernel_rfl, by kernel_rfl⟩
theorem c44 : Callee Try.prog 44 := ⟨_, Try.func44, by kernel_rfl, by kernel_rfl⟩
theorem c45 : Callee Try.prog 45 := ⟨_, Try.func45, by kernel_rfl, by kernel_rfl⟩
theorem c46 : Callee Try.prog 46 := ⟨_, Try.func46, by kernel_rfl, by kernel_rfl⟩
theorem c47 : Callee Try.prog 47 := ⟨_, Try.func47, by kernel_rfl, by kernel_rfl⟩
theorem c48 : Callee Try.prog 48 := ⟨_, Try.func48, by kernel_rfl, by kernel_rfl⟩
theorem c49 : Callee Try.prog 49 := ⟨_, Try.func49, by kernel_rfl, by kernel_rfl⟩
theorem c50 : Callee Try.prog 50 := ⟨_, Try.func50, by kernel_rfl, by kernel_rfl⟩
theorem c51 : Callee Try.prog 51 := ⟨_, Try.func51, by kernel_rfl, by kernel_rfl⟩
theorem c52 : Callee Try.prog 52 := ⟨_, Try.func52, by kernel_rfl, by kernel_rfl⟩
theorem c53 : Callee Try.prog 53 := ⟨_, Try.func53, by kernel_rfl, by kernel_rfl⟩
theorem c54 : Callee Try.prog 54 := ⟨_, Try.func54, by kernel_rfl, by kernel_rfl⟩
theorem c55 : Callee Try.prog 55 := ⟨_, Try.func55, by kernel_rfl, by kernel_rfl⟩
theorem c56 : Callee Try.prog 56 := ⟨_, Try.func56, by kernel_rfl, by kernel_rfl⟩
theorem c57 : Callee Try.prog 57 := ⟨_, Try.func57, by kernel_rfl, by kernel_rfl⟩
theorem c58 : Callee Try.prog 58 := ⟨_, Try.func58, by kernel_rfl, by kernel_rfl⟩
theorem c59 : Callee Try.prog 59 := ⟨_, Try.func59, by kernel_rfl, by kernel_rfl⟩
theorem sz2 : (Try.prog.info? 2).map (·.size) = some 1 := by kernel_rfl
theorem sz3 : (Try.prog.info? 3).map (·.size) = some 1 := by kernel_rfl
theorem sz4 : (Try.prog.info? 4).map (·.size) = some 1 := by kernel_rfl
theorem sz5 : (Try.prog.info? 5).map (·.size) = some 1 := by kernel_rfl
theorem mk5 : (Try.prog.info? 5).map (fun i => (i.size, i.bytes, i.zero)) = some (1, 1, some (.int .u8 0)) := by kernel_rfl
theorem sz6 : (Try.prog.info? 6).map (·.size) = some 1 := by kernel_rfl
theorem sz9 : (Try.prog.info? 9).map (·.size) = some 1 := by kernel_rfl
theorem sz10 : (Try.prog.info? 10).map (·.size) = some 1 := by kernel_rfl
theorem sz11 : (Try.prog.info? 11).map (·.size) = some 1 := by kernel_rfl
theorem sz12 : (Try.prog.info? 12).map (·.size) = some 1 := by kernel_rfl
theorem sz15 : (Try.prog.info? 15).map (·.size) = some 1 := by kernel_rfl
theorem sz16 : (Try.prog.info? 16).map (·.size) = some 1 := by kernel_rfl
theorem sz17 : (Try.prog.info? 17).map (·.size) = some 1 := by kernel_rfl
theorem sz21 : (Try.prog.info? 21).map (·.size) = some 1 := by kernel_rfl
theorem sz22 : (Try.prog.info? 22).map (·.size) = some 1 := by kernel_rfl
theorem sz24 : (Try.prog.info? 24).map (·.size) = some 1 := by kernel_rfl
theorem sz25 : (Try.prog.info? 25).map (·.size) = some 256 := by kernel_rfl
theorem z25 : (Try.prog.info? 25).bind (·.zero) = some (.agg (cl .u16 256 fun _ => 0)) := by kernel_rfl
theorem sz26 : (Try.prog.info? 26).map (·.size) = some 256 := by kernel_rfl
theorem z26 : (Try.prog.info? 26).bind (·.zero) = some (.agg (cl .u16 256 fun _ => 0)) := by kernel_rfl
theorem sz27 : (Try.prog.info? 27).map (·.size) = some 256 := by kernel_rfl
theorem z27 : (Try.prog.info? 27).bind (·.zero) = some (.agg (cl .u16 256 fun _ => 0)) := by kernel_rfl
theorem sz39 : (Try.prog.info? 39).map (·.size) = some 1 := by kernel_rfl
theorem sz40 : (Try.prog.info? 40).map (·.size) = some 1 := by kernel_rfl
theorem sz53 : (Try.prog.info? 53).map (·.size) = some 1 := by kernel_rfl
theorem sz54 : (Try.prog.info? 54).map (·.size) = some 128 := by kernel_rfl
theorem z54 : (Try.prog.info? 54).bind (·.zero) = some (.agg (cl .u32 128 fun _ => 0)) := by kernel_rfl
theorem sz57 : (Try.prog.info? 57).map (·.size) = some 512 := by kernel_rfl
theorem z57 : (Try.prog.info? 57).bind (·.zero) = some (.agg (cl .i64 512 fun _ => 0)) := by kernel_rfl
theorem sz60 : (Try.prog.info? 60).map (·.size) = some 1 := by kernel_rfl
theorem sz63 : (Try.prog.info? 63).map (·.size) = some 1 := by kernel_rfl
theorem sz68 : (Try.prog.info? 68).map (·.size) = some 1 := by kernel_rfl
theorem sz69 : (Try.prog.info? 69).map (·.size) = some 1 := by kernel_rfl
theorem sz74 : (Try.prog.info? 74).map (·.size) = some 1 := by kernel_rfl
theorem sz75 : (Try.prog.info? 75).map (·.size) = some 25 := by kernel_rfl
theorem z75 : (Try.prog.info? 75).bind (·.zero) = some (.agg (cl .u64 25 fun _ => 0)) := by kernel_rfl
theorem sz79 : (Try.prog.info? 79).map (·.size) = some 25 := by kernel_rfl
theorem z79 : (Try.prog.info? 79).bind (·.zero) = some (.agg (cl .u64 25 fun _ => 0)) := by kernel_rfl
theorem sz83 : (Try.prog.info? 83).map (·.size) = some 24 := by kernel_rfl
theorem z83 : (Try.prog.info? 83).bind (·.zero) = some (.agg (cl .u64 24 fun _ => 0)) := by kernel_rfl
theorem sz85 : (Try.prog.info? 85).map (·.size) = some 5 := by kernel_rfl
theorem z85 : (Try.prog.info? 85).bind (·.zero) = some (.agg (cl .u64 5 fun _ => 0)) := by kernel_rfl
theorem sz95 : (Try.prog.info? 95).map (·.size) = some 1 := by kernel_rfl
theorem sz96 : (Try.prog.info? 96).map (·.size) = some 1 := by kernel_rfl
theorem sz98 : (Try.prog.info? 98).map (·.size) = some 1 := by kernel_rfl
theorem sz99 : (Try.prog.info? 99).map (·.size) = some 1 := by kernel_rfl
theorem sz100 : (Try.prog.info? 100).map (·.size) = some 1 := by kernel_rfl
end Go.Mi.Ring
