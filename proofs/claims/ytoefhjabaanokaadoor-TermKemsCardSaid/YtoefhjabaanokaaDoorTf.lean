/- Closed facts of the seat's program. -/
import Derived.Test.YtoefhjabaanokaaDoorH5
import Derived.Test.YtoefhjabaanokaaDoorProg
import Derived.KernelRfl
namespace Go.Mi.Term
open Go.Mi Go.Proofs
theorem mo : Tryd.prog.follows .mixedOrders = true := by kernel_rfl
theorem c3 : Callee Tryd.prog 3 := ⟨_, Tryd.func3, by kernel_rfl, by kernel_rfl⟩
theorem c4 : Callee Tryd.prog 4 := ⟨_, Tryd.func4, by kernel_rfl, by kernel_rfl⟩
theorem c5 : Callee Tryd.prog 5 := ⟨_, Tryd.func5, by kernel_rfl, by kernel_rfl⟩
theorem c6 : Callee Tryd.prog 6 := ⟨_, Tryd.func6, by kernel_rfl, by kernel_rfl⟩
theorem c7 : Callee Tryd.prog 7 := ⟨_, Tryd.func7, by kernel_rfl, by kernel_rfl⟩
theorem c8 : Callee Tryd.prog 8 := ⟨_, Tryd.func8, by kernel_rfl, by kernel_rfl⟩
theorem c9 : Callee Tryd.prog 9 := ⟨_, Tryd.func9, by kernel_rfl, by kernel_rfl⟩
theorem c10 : Callee Tryd.prog 10 := ⟨_, Tryd.func10, by kernel_rfl, by kernel_rfl⟩
theorem c11 : Callee Tryd.prog 11 := ⟨_, Tryd.func11, by kernel_rfl, by kernel_rfl⟩
theorem c12 : Callee Tryd.prog 12 := ⟨_, Tryd.func12, by kernel_rfl, by kernel_rfl⟩
theorem c13 : Callee Tryd.prog 13 := ⟨_, Tryd.func13, by kernel_rfl, by kernel_rfl⟩
theorem c14 : Callee Tryd.prog 14 := ⟨_, Tryd.func14, by kernel_rfl, by kernel_rfl⟩
theorem c15 : Callee Tryd.prog 15 := ⟨_, Tryd.func15, by kernel_rfl, by kernel_rfl⟩
theorem c16 : Callee Tryd.prog 16 := ⟨_, Tryd.func16, by kernel_rfl, by kernel_rfl⟩
theorem c17 : Callee Tryd.prog 17 := ⟨_, Tryd.func17, by kernel_rfl, by kernel_rfl⟩
theorem c18 : Callee Tryd.prog 18 := ⟨_, Tryd.func18, by kernel_rfl, by kernel_rfl⟩
theorem c19 : Callee Tryd.prog 19 := ⟨_, Tryd.func19, by kernel_rfl, by kernel_rfl⟩
theorem c20 : Callee Tryd.prog 20 := ⟨_, Tryd.func20, by kernel_rfl, by kernel_rfl⟩
theorem c21 : Callee Tryd.prog 21 := ⟨_, Tryd.func21, by kernel_rfl, by kernel_rfl⟩
theorem c22 : Callee Tryd.prog 22 := ⟨_, Tryd.func22, by kernel_rfl, by kernel_rfl⟩
theorem c23 : Callee Tryd.prog 23 := ⟨_, Tryd.func23, by kernel_rfl, by kernel_rfl⟩
theorem c24 : Callee Tryd.prog 24 := ⟨_, Tryd.func24, by kernel_rfl, by kernel_rfl⟩
theorem c25 : Callee Tryd.prog 25 := ⟨_, Tryd.func25, by kernel_rfl, by kernel_rfl⟩
theorem c26 : Callee Tryd.prog 26 := ⟨_, Tryd.func26, by kernel_rfl, by kernel_rfl⟩
theorem c27 : Callee Tryd.prog 27 := ⟨_, Tryd.func27, by kernel_rfl, by kernel_rfl⟩
theorem c28 : Callee Tryd.prog 28 := ⟨_, Tryd.func28, by kernel_rfl, by kernel_rfl⟩
theorem c29 : Callee Tryd.prog 29 := ⟨_, Tryd.func29, by kernel_rfl, by kernel_rfl⟩
theorem c30 : Callee Tryd.prog 30 := ⟨_, Tryd.func30, by kernel_rfl, by kernel_rfl⟩
theorem c31 : Callee Tryd.prog 31 := ⟨_, Tryd.func31, by kernel_rfl, by kernel_rfl⟩
theorem c32 : Callee Tryd.prog 32 := ⟨_, Tryd.func32, by kernel_rfl, by kernel_rfl⟩
theorem c33 : Callee Tryd.prog 33 := ⟨_, Tryd.func33, by kernel_rfl, by kernel_rfl⟩
theorem c34 : Callee Tryd.prog 34 := ⟨_, Tryd.func34, by kernel_rfl, by kernel_rfl⟩
theorem c35 : Callee Tryd.prog 35 := ⟨_, Tryd.func35, by kernel_rfl, by kernel_rfl⟩
theorem c36 : Callee Tryd.prog 36 := ⟨_, Tryd.func36, by kernel_rfl, by kernel_rfl⟩
theorem c37 : Callee Tryd.prog 37 := ⟨_, Tryd.func37, by kernel_rfl, by kernel_rfl⟩
theorem c38 : Callee Tryd.prog 38 := ⟨_, Tryd.func38, by kernel_rfl, by kernel_rfl⟩
theorem c39 : Callee Tryd.prog 39 := ⟨_, Tryd.func39, by kernel_rfl, by kernel_rfl⟩
theorem c40 : Callee Tryd.prog 40 := ⟨_, Tryd.func40, by kernel_rfl, by kernel_rfl⟩
theorem c41 : Callee Tryd.prog 41 := ⟨_, Tryd.func41, by kernel_rfl, by kernel_rfl⟩
theorem c42 : Callee Tryd.prog 42 := ⟨_, Tryd.func42, by kernel_rfl, by kernel_rfl⟩
theorem c43 : Callee Tryd.prog 43 := ⟨_, Tryd.func43, by kernel_rfl, by kernel_rfl⟩
theorem c44 : Callee Tryd.prog 44 := ⟨_, Tryd.func44, by kernel_rfl, by kernel_rfl⟩
theorem c45 : Callee Tryd.prog 45 := ⟨_, Tryd.func45, by kernel_rfl, by kernel_rfl⟩
theorem c46 : Callee Tryd.prog 46 := ⟨_, Tryd.func46, by kernel_rfl, by kernel_rfl⟩
theorem c47 : Callee Tryd.prog 47 := ⟨_, Tryd.func47, by kernel_rfl, by kernel_rfl⟩
theorem c48 : Callee Tryd.prog 48 := ⟨_, Tryd.func48, by kernel_rfl, by kernel_rfl⟩
theorem c49 : Callee Tryd.prog 49 := ⟨_, Tryd.func49, by kernel_rfl, by kernel_rfl⟩
theorem c50 : Callee Tryd.prog 50 := ⟨_, Tryd.func50, by kernel_rfl, by kernel_rfl⟩
theorem c51 : Callee Tryd.prog 51 := ⟨_, Tryd.func51, by kernel_rfl, by kernel_rfl⟩
theorem c52 : Callee Tryd.prog 52 := ⟨_, Tryd.func52, by kernel_rfl, by kernel_rfl⟩
theorem c53 : Callee Tryd.prog 53 := ⟨_, Tryd.func53, by kernel_rfl, by kernel_rfl⟩
theorem c54 : Callee Tryd.prog 54 := ⟨_, Tryd.func54, by kernel_rfl, by kernel_rfl⟩
theorem c55 : Callee Tryd.prog 55 := ⟨_, Tryd.func55, by kernel_rfl, by kernel_rfl⟩
theorem c56 : Callee Tryd.prog 56 := ⟨_, Tryd.func56, by kernel_rfl, by kernel_rfl⟩
theorem c57 : Callee Tryd.prog 57 := ⟨_, Tryd.func57, by kernel_rfl, by kernel_rfl⟩
theorem c58 : Callee Tryd.prog 58 := ⟨_, Tryd.func58, by kernel_rfl, by kernel_rfl⟩
theorem c59 : Callee Tryd.prog 59 := ⟨_, Tryd.func59, by kernel_rfl, by kernel_rfl⟩
theorem c60 : Callee Tryd.prog 60 := ⟨_, Tryd.func60, by kernel_rfl, by kernel_rfl⟩
theorem c61 : Callee Tryd.prog 61 := ⟨_, Tryd.func61, by kernel_rfl, by kernel_rfl⟩
theorem c62 : Callee Tryd.prog 62 := ⟨_, Tryd.func62, by kernel_rfl, by kernel_rfl⟩
theorem c63 : Callee Tryd.prog 63 := ⟨_, Tryd.func63, by kernel_rfl, by kernel_rfl⟩
theorem c64 : Callee Tryd.prog 64 := ⟨_, Tryd.func64, by kernel_rfl, by kernel_rfl⟩
theorem c65 : Callee Tryd.prog 65 := ⟨_, Tryd.func65, by kernel_rfl, by kernel_rfl⟩
theorem c66 : Callee Tryd.prog 66 := ⟨_, Tryd.func66, by kernel_rfl, by kernel_rfl⟩
theorem c67 : Callee Tryd.prog 67 := ⟨_, Tryd.func67, by kernel_rfl, by kernel_rfl⟩
theorem c68 : Callee Tryd.prog 68 := ⟨_, Tryd.func68, by kernel_rfl, by kernel_rfl⟩
theorem c69 : Callee Tryd.prog 69 := ⟨_, Tryd.func69, by kernel_rfl, by kernel_rfl⟩
theorem c70 : Callee Tryd.prog 70 := ⟨_, Tryd.func70, by kernel_rfl, by kernel_rfl⟩
theorem c71 : Callee Tryd.prog 71 := ⟨_, Tryd.func71, by kernel_rfl, by kernel_rfl⟩
theorem c72 : Callee Tryd.prog 72 := ⟨_, Tryd.func72, by kernel_rfl, by kernel_rfl⟩
theorem c73 : Callee Tryd.prog 73 := ⟨_, Tryd.func73, by kernel_rfl, by kernel_rfl⟩
theorem c74 : Callee Tryd.prog 74 := ⟨_, Tryd.func74, by kernel_rfl, by kernel_rfl⟩
theorem c75 : Callee Tryd.prog 75 := ⟨_, Tryd.func75, by kernel_rfl, by kernel_rfl⟩
theorem c76 : Callee Tryd.prog 76 := ⟨_, Tryd.func76, by kernel_rfl, by kernel_rfl⟩
theorem c77 : Callee Tryd.prog 77 := ⟨_, Tryd.func77, by kernel_rfl, by kernel_rfl⟩
theorem c78 : Callee Tryd.prog 78 := ⟨_, Tryd.func78, by kernel_rfl, by kernel_rfl⟩
theorem c79 : Callee Tryd.prog 79 := ⟨_, Tryd.func79, by kernel_rfl, by kernel_rfl⟩
theorem c80 : Callee Tryd.prog 80 := ⟨_, Tryd.func80, by kernel_rfl, by kernel_rfl⟩
theorem c81 : Callee Tryd.prog 81 := ⟨_, Tryd.func81, by kernel_rfl, by kernel_rfl⟩
theorem c82 : Callee Tryd.prog 82 := ⟨_, Tryd.func82, by kernel_rfl, by kernel_rfl⟩
theorem c83 : Callee Tryd.prog 83 := ⟨_, Tryd.func83, by kernel_rfl, by kernel_rfl⟩
theorem c84 : Callee Tryd.prog 84 := ⟨_, Tryd.func84, by kernel_rfl, by kernel_rfl⟩
theorem c85 : Callee Tryd.prog 85 := ⟨_, Tryd.func85, by kernel_rfl, by kernel_rfl⟩
theorem c86 : Callee Tryd.prog 86 := ⟨_, Tryd.func86, by kernel_rfl, by kernel_rfl⟩
theorem c87 : Callee Tryd.prog 87 := ⟨_, Tryd.func87, by kernel_rfl, by kernel_rfl⟩
theorem c88 : Callee Tryd.prog 88 := ⟨_, Tryd.func88, by kernel_rfl, by kernel_rfl⟩
theorem c89 : Callee Tryd.prog 89 := ⟨_, Tryd.func89, by kernel_rfl, by kernel_rfl⟩
theorem c90 : Callee Tryd.prog 90 := ⟨_, Tryd.func90, by kernel_rfl, by kernel_rfl⟩
theorem c91 : Callee Tryd.prog 91 := ⟨_, Tryd.func91, by kernel_rfl, by kernel_rfl⟩
theorem c92 : Callee Tryd.prog 92 := ⟨_, Tryd.func92, by kernel_rfl, by kernel_rfl⟩
theorem c93 : Callee Tryd.prog 93 := ⟨_, Tryd.func93, by kernel_rfl, by kernel_rfl⟩
theorem c95 : Callee Tryd.prog 95 := ⟨_, Tryd.func95, by kernel_rfl, by kernel_rfl⟩
theorem c96 : Callee Tryd.prog 96 := ⟨_, Tryd.func96, by kernel_rfl, by kernel_rfl⟩
theorem c97 : Callee Tryd.prog 97 := ⟨_, Tryd.func97, by kernel_rfl, by kernel_rfl⟩
theorem c98 : Callee Tryd.prog 98 := ⟨_, Tryd.func98, by kernel_rfl, by kernel_rfl⟩
theorem c99 : Callee Tryd.prog 99 := ⟨_, Tryd.func99, by kernel_rfl, by kernel_rfl⟩
theorem c100 : Callee Tryd.prog 100 := ⟨_, Tryd.func100, by kernel_rfl, by kernel_rfl⟩
theorem c101 : Callee Tryd.prog 101 := ⟨_, Tryd.func101, by kernel_rfl, by kernel_rfl⟩
theorem c102 : Callee Tryd.prog 102 := ⟨_, Tryd.func102, by kernel_rfl, by kernel_rfl⟩
theorem c103 : Callee Tryd.prog 103 := ⟨_, Tryd.func103, by kernel_rfl, by kernel_rfl⟩
theorem c104 : Callee Tryd.prog 104 := ⟨_, Tryd.func104, by kernel_rfl, by kernel_rfl⟩
theorem c105 : Callee Tryd.prog 105 := ⟨_, Tryd.func105, by kernel_rfl, by kernel_rfl⟩
theorem c106 : Callee Tryd.prog 106 := ⟨_, Tryd.func106, by kernel_rfl, by kernel_rfl⟩
theorem c107 : Callee Tryd.prog 107 := ⟨_, Tryd.func107, by kernel_rfl, by kernel_rfl⟩
theorem c108 : Callee Tryd.prog 108 := ⟨_, Tryd.func108, by kernel_rfl, by kernel_rfl⟩
theorem c109 : Callee Tryd.prog 109 := ⟨_, Tryd.func109, by kernel_rfl, by kernel_rfl⟩
theorem c110 : Callee Tryd.prog 110 := ⟨_, Tryd.func110, by kernel_rfl, by kernel_rfl⟩
theorem c111 : Callee Tryd.prog 111 := ⟨_, Tryd.func111, by kernel_rfl, by kernel_rfl⟩
theorem c112 : Callee Tryd.prog 112 := ⟨_, Tryd.func112, by kernel_rfl, by kernel_rfl⟩
theorem c113 : Callee Tryd.prog 113 := ⟨_, Tryd.func113, by kernel_rfl, by kernel_rfl⟩
theorem c114 : Callee Tryd.prog 114 := ⟨_, Tryd.func114, by kernel_rfl, by kernel_rfl⟩
theorem c115 : Callee Tryd.prog 115 := ⟨_, Tryd.func115, by kernel_rfl, by kernel_rfl⟩
theorem c118 : Callee Tryd.prog 118 := ⟨_, Tryd.func118, by kernel_rfl, by kernel_rfl⟩
theorem c119 : Callee Tryd.prog 119 := ⟨_, Tryd.func119, by kernel_rfl, by kernel_rfl⟩
theorem sz2 : (Tryd.prog.info? 2).map (·.size) = some 1 := by kernel_rfl
theorem ii2 : (Tryd.prog.info? 2).map (fun i => (i.size, i.bytes, i.zero)) = some (1, 8, some (Value.int .i64 0)) := by kernel_rfl
theorem zz2 : (Tryd.prog.info? 2).map (fun i => (i.size, i.zero)) = some (1, some (Value.int .i64 0)) := by kernel_rfl
theorem sz3 : (Tryd.prog.info? 3).map (·.size) = some 1 := by kernel_rfl
theorem ii3 : (Tryd.prog.info? 3).map (fun i => (i.size, i.bytes, i.zero)) = some (1, 8, some (Value.int .i64 0)) := by kernel_rfl
theorem zz3 : (Tryd.prog.info? 3).map (fun i => (i.size, i.zero)) = some (1, some (Value.int .i64 0)) := by kernel_rfl
theorem sz4 : (Tryd.prog.info? 4).map (·.size) = some 1 := by kernel_rfl
theorem ii4 : (Tryd.prog.info? 4).map (fun i => (i.size, i.bytes, i.zero)) = some (1, 1, some (Value.bool false)) := by kernel_rfl
theorem zz4 : (Tryd.prog.info? 4).map (fun i => (i.size, i.zero)) = some (1, some (Value.bool false)) := by kernel_rfl
theorem sz5 : (Tryd.prog.info? 5).map (·.size) = some 1 := by kernel_rfl
theorem ii5 : (Tryd.prog.info? 5).map (fun i => (i.size, i.bytes, i.zero)) = some (1, 1, some (Value.int .u8 0)) := by kernel_rfl
theorem zz5 : (Tryd.prog.info? 5).map (fun i => (i.size, i.zero)) = some (1, some (Value.int .u8 0)) := by kernel_rfl
theorem sz6 : (Tryd.prog.info? 6).map (·.size) = some 1 := by kernel_rfl
theorem ii6 : (Tryd.prog.info? 6).map (fun i => (i.size, i.bytes, i.zero)) = some (1, 1, some (Value.int .u8 0)) := by kernel_rfl
theorem zz6 : (Tryd.prog.info? 6).map (fun i => (i.size, i.zero)) = some (1, some (Value.int .u8 0)) := by kernel_rfl
theorem sz7 : (Tryd.prog.info? 7).map (·.size) = some 4 := by kernel_rfl
theorem ii7 : (Tryd.prog.info? 7).map (fun i => (i.size, i.bytes, i.zero)) = some (4, 24, some (.agg #[(Value.int .i64 0), (Value.int .i64 0), (Value.bool false), (Value.int .u8 0)])) := by kernel_rfl
theorem zz7 : (Tryd.prog.info? 7).map (fun i => (i.size, i.zero)) = some (4, some (.agg #[(Value.int .i64 0), (Value.int .i64 0), (Value.bool false), (Value.int .u8 0)])) := by kernel_rfl
theorem z7 : (Tryd.prog.info? 7).bind (·.zero) = some (.agg #[(Value.int .i64 0), (Value.int .i64 0), (Value.bool false), (Value.int .u8 0)]) := by kernel_rfl
theorem sz8 : (Tryd.prog.info? 8).map (·.size) = some 4 := by kernel_rfl
theorem ii8 : (Tryd.prog.info? 8).map (fun i => (i.size, i.bytes, i.zero)) = some (4, 24, some (.agg #[(Value.int .i64 0), (Value.int .i64 0), (Value.bool false), (Value.int .u8 0)])) := by kernel_rfl
theorem zz8 : (Tryd.prog.info? 8).map (fun i => (i.size, i.zero)) = some (4, some (.agg #[(Value.int .i64 0), (Value.int .i64 0), (Value.bool false), (Value.int .u8 0)])) := by kernel_rfl
theorem z8 : (Tryd.prog.info? 8).bind (·.zero) = some (.agg #[(Value.int .i64 0), (Value.int .i64 0), (Value.bool false), (Value.int .u8 0)]) := by kernel_rfl
theorem sz9 : (Tryd.prog.info? 9).map (·.size) = some 1 := by kernel_rfl
theorem ii9 : (Tryd.prog.info? 9).map (fun i => (i.size, i.bytes, i.zero)) = some (1, 16, some (Value.string (bs []))) := by kernel_rfl
theorem zz9 : (Tryd.prog.info? 9).map (fun i => (i.size, i.zero)) = some (1, some (Value.string (bs []))) := by kernel_rfl
theorem sz10 : (Tryd.prog.info? 10).map (·.size) = some 1 := by kernel_rfl
theorem ii10 : (Tryd.prog.info? 10).map (fun i => (i.size, i.bytes, i.zero)) = some (1, 16, some (Value.string (bs []))) := by kernel_rfl
theorem zz10 : (Tryd.prog.info? 10).map (fun i => (i.size, i.zero)) = some (1, some (Value.string (bs []))) := by kernel_rfl
theorem sz11 : (Tryd.prog.info? 11).map (·.size) = some 1 := by kernel_rfl
theorem ii11 : (Tryd.prog.info? 11).map (fun i => (i.size, i.bytes, i.zero)) = some (1, 16, some (Value.string (bs []))) := by kernel_rfl
theorem zz11 : (Tryd.prog.info? 11).map (fun i => (i.size, i.zero)) = some (1, some (Value.string (bs []))) := by kernel_rfl
theorem sz12 : (Tryd.prog.info? 12).map (·.size) = some 1 := by kernel_rfl
theorem ii12 : (Tryd.prog.info? 12).map (fun i => (i.size, i.bytes, i.zero)) = some (1, 8, some (Value.int .u64 0)) := by kernel_rfl
theorem zz12 : (Tryd.prog.info? 12).map (fun i => (i.size, i.zero)) = some (1, some (Value.int .u64 0)) := by kernel_rfl
theorem sz13 : (Tryd.prog.info? 13).map (·.size) = some 2 := by kernel_rfl
theorem ii13 : (Tryd.prog.info? 13).map (fun i => (i.size, i.bytes, i.zero)) = some (2, 24, some (.agg #[(Value.string (bs [])), (Value.int .u64 0)])) := by kernel_rfl
theorem zz13 : (Tryd.prog.info? 13).map (fun i => (i.size, i.zero)) = some (2, some (.agg #[(Value.string (bs [])), (Value.int .u64 0)])) := by kernel_rfl
theorem z13 : (Tryd.prog.info? 13).bind (·.zero) = some (.agg #[(Value.string (bs [])), (Value.int .u64 0)]) := by kernel_rfl
theorem sz14 : (Tryd.prog.info? 14).map (·.size) = some 2 := by kernel_rfl
theorem ii14 : (Tryd.prog.info? 14).map (fun i => (i.size, i.bytes, i.zero)) = some (2, 24, some (.agg #[(Value.string (bs [])), (Value.int .u64 0)])) := by kernel_rfl
theorem zz14 : (Tryd.prog.info? 14).map (fun i => (i.size, i.zero)) = some (2, some (.agg #[(Value.string (bs [])), (Value.int .u64 0)])) := by kernel_rfl
theorem z14 : (Tryd.prog.info? 14).bind (·.zero) = some (.agg #[(Value.string (bs [])), (Value.int .u64 0)]) := by kernel_rfl
theorem sz15 : (Tryd.prog.info? 15).map (·.size) = some 1 := by kernel_rfl
theorem ii15 : (Tryd.prog.info? 15).map (fun i => (i.size, i.bytes, i.zero)) = some (1, 8, some (Value.pointer none)) := by kernel_rfl
theorem zz15 : (Tryd.prog.info? 15).map (fun i => (i.size, i.zero)) = some (1, some (Value.pointer none)) := by kernel_rfl
theorem sz16 : (Tryd.prog.info? 16).map (·.size) = some 1 := by kernel_rfl
theorem ii16 : (Tryd.prog.info? 16).map (fun i => (i.size, i.bytes, i.zero)) = some (1, 8, some (Value.pointer none)) := by kernel_rfl
theorem zz16 : (Tryd.prog.info? 16).map (fun i => (i.size, i.zero)) = some (1, some (Value.pointer none)) := by kernel_rfl
theorem sz17 : (Tryd.prog.info? 17).map (·.size) = some 1 := by kernel_rfl
theorem ii17 : (Tryd.prog.info? 17).map (fun i => (i.size, i.bytes, i.zero)) = some (1, 8, some (Value.pointer none)) := by kernel_rfl
theorem zz17 : (Tryd.prog.info? 17).map (fun i => (i.size, i.zero)) = some (1, some (Value.pointer none)) := by kernel_rfl
theorem sz18 : (Tryd.prog.info? 18).map (·.size) = some 1 := by kernel_rfl
theorem ii18 : (Tryd.prog.info? 18).map (fun i => (i.size, i.bytes, i.zero)) = some (1, 8, some (.agg #[(Value.pointer none)])) := by kernel_rfl
theorem zz18 : (Tryd.prog.info? 18).map (fun i => (i.size, i.zero)) = some (1, some (.agg #[(Value.pointer none)])) := by kernel_rfl
theorem sz19 : (Tryd.prog.info? 19).map (·.size) = some 1 := by kernel_rfl
theorem ii19 : (Tryd.prog.info? 19).map (fun i => (i.size, i.bytes, i.zero)) = some (1, 8, some (.agg #[(Value.pointer none)])) := by kernel_rfl
theorem zz19 : (Tryd.prog.info? 19).map (fun i => (i.size, i.zero)) = some (1, some (.agg #[(Value.pointer none)])) := by kernel_rfl
theorem sz21 : (Tryd.prog.info? 21).map (·.size) = some 1 := by kernel_rfl
theorem ii21 : (Tryd.prog.info? 21).map (fun i => (i.size, i.bytes, i.zero)) = some (1, 4, some (Value.int .i32 0)) := by kernel_rfl
theorem zz21 : (Tryd.prog.info? 21).map (fun i => (i.size, i.zero)) = some (1, some (Value.int .i32 0)) := by kernel_rfl
theorem sz22 : (Tryd.prog.info? 22).map (·.size) = some 1 := by kernel_rfl
theorem ii22 : (Tryd.prog.info? 22).map (fun i => (i.size, i.bytes, i.zero)) = some (1, 24, some (Value.slice none 0 0)) := by kernel_rfl
theorem zz22 : (Tryd.prog.info? 22).map (fun i => (i.size, i.zero)) = some (1, some (Value.slice none 0 0)) := by kernel_rfl
theorem sz24 : (Tryd.prog.info? 24).map (·.size) = some 1 := by kernel_rfl
theorem ii24 : (Tryd.prog.info? 24).map (fun i => (i.size, i.bytes, i.zero)) = some (1, 24, some (Value.slice none 0 0)) := by kernel_rfl
theorem zz24 : (Tryd.prog.info? 24).map (fun i => (i.size, i.zero)) = some (1, some (Value.slice none 0 0)) := by kernel_rfl
theorem sz25 : (Tryd.prog.info? 25).map (·.size) = some 3 := by kernel_rfl
theorem ii25 : (Tryd.prog.info? 25).map (fun i => (i.size, i.bytes, i.zero)) = some (3, 40, some (.agg #[(Value.int .i64 0), (Value.int .i64 0), (Value.slice none 0 0)])) := by kernel_rfl
theorem zz25 : (Tryd.prog.info? 25).map (fun i => (i.size, i.zero)) = some (3, some (.agg #[(Value.int .i64 0), (Value.int .i64 0), (Value.slice none 0 0)])) := by kernel_rfl
theorem z25 : (Tryd.prog.info? 25).bind (·.zero) = some (.agg #[(Value.int .i64 0), (Value.int .i64 0), (Value.slice none 0 0)]) := by kernel_rfl
theorem sz26 : (Tryd.prog.info? 26).map (·.size) = some 3 := by kernel_rfl
theorem ii26 : (Tryd.prog.info? 26).map (fun i => (i.size, i.bytes, i.zero)) = some (3, 40, some (.agg #[(Value.int .i64 0), (Value.int .i64 0), (Value.slice none 0 0)])) := by kernel_rfl
theorem zz26 : (Tryd.prog.info? 26).map (fun i => (i.size, i.zero)) = some (3, some (.agg #[(Value.int .i64 0), (Value.int .i64 0), (Value.slice none 0 0)])) := by kernel_rfl
theorem z26 : (Tryd.prog.info? 26).bind (·.zero) = some (.agg #[(Value.int .i64 0), (Value.int .i64 0), (Value.slice none 0 0)]) := by kernel_rfl
theorem sz30 : (Tryd.prog.info? 30).map (·.size) = some 2 := by kernel_rfl
theorem ii30 : (Tryd.prog.info? 30).map (fun i => (i.size, i.bytes, i.zero)) = some (2, 2, some (.agg #[(Value.bool false), (Value.bool false)])) := by kernel_rfl
theorem zz30 : (Tryd.prog.info? 30).map (fun i => (i.size, i.zero)) = some (2, some (.agg #[(Value.bool false), (Value.bool false)])) := by kernel_rfl
theorem z30 : (Tryd.prog.info? 30).bind (·.zero) = some (.agg #[(Value.bool false), (Value.bool false)]) := by kernel_rfl
theorem sz31 : (Tryd.prog.info? 31).map (·.size) = some 2 := by kernel_rfl
theorem ii31 : (Tryd.prog.info? 31).map (fun i => (i.size, i.bytes, i.zero)) = some (2, 2, some (.agg #[(Value.bool false), (Value.bool false)])) := by kernel_rfl
theorem zz31 : (Tryd.prog.info? 31).map (fun i => (i.size, i.zero)) = some (2, some (.agg #[(Value.bool false), (Value.bool false)])) := by kernel_rfl
theorem z31 : (Tryd.prog.info? 31).bind (·.zero) = some (.agg #[(Value.bool false), (Value.bool false)]) := by kernel_rfl
theorem sz36 : (Tryd.prog.info? 36).map (·.size) = some 1 := by kernel_rfl
theorem ii36 : (Tryd.prog.info? 36).map (fun i => (i.size, i.bytes, i.zero)) = some (1, 24, some (Value.slice none 0 0)) := by kernel_rfl
theorem zz36 : (Tryd.prog.info? 36).map (fun i => (i.size, i.zero)) = some (1, some (Value.slice none 0 0)) := by kernel_rfl
theorem sz42 : (Tryd.prog.info? 42).map (·.size) = some 1 := by kernel_rfl
theorem ii42 : (Tryd.prog.info? 42).map (fun i => (i.size, i.bytes, i.zero)) = some (1, 8, some (Value.pointer none)) := by kernel_rfl
theorem zz42 : (Tryd.prog.info? 42).map (fun i => (i.size, i.zero)) = some (1, some (Value.pointer none)) := by kernel_rfl
theorem sz44 : (Tryd.prog.info? 44).map (·.size) = some 1 := by kernel_rfl
theorem ii44 : (Tryd.prog.info? 44).map (fun i => (i.size, i.bytes, i.zero)) = some (1, 8, some (Value.int .i64 0)) := by kernel_rfl
theorem zz44 : (Tryd.prog.info? 44).map (fun i => (i.size, i.zero)) = some (1, some (Value.int .i64 0)) := by kernel_rfl
theorem sz46 : (Tryd.prog.info? 46).map (·.size) = some 3 := by kernel_rfl
theorem ii46 : (Tryd.prog.info? 46).map (fun i => (i.size, i.bytes, i.zero)) = some (3, 24, some (.agg #[(Value.int .i64 0), (Value.int .i64 0), (Value.bool false)])) := by kernel_rfl
theorem zz46 : (Tryd.prog.info? 46).map (fun i => (i.size, i.zero)) = some (3, some (.agg #[(Value.int .i64 0), (Value.int .i64 0), (Value.bool false)])) := by kernel_rfl
theorem z46 : (Tryd.prog.info? 46).bind (·.zero) = some (.agg #[(Value.int .i64 0), (Value.int .i64 0), (Value.bool false)]) := by kernel_rfl
theorem sz47 : (Tryd.prog.info? 47).map (·.size) = some 3 := by kernel_rfl
theorem ii47 : (Tryd.prog.info? 47).map (fun i => (i.size, i.bytes, i.zero)) = some (3, 24, some (.agg #[(Value.int .i64 0), (Value.int .i64 0), (Value.bool false)])) := by kernel_rfl
theorem zz47 : (Tryd.prog.info? 47).map (fun i => (i.size, i.zero)) = some (3, some (.agg #[(Value.int .i64 0), (Value.int .i64 0), (Value.bool false)])) := by kernel_rfl
theorem z47 : (Tryd.prog.info? 47).bind (·.zero) = some (.agg #[(Value.int .i64 0), (Value.int .i64 0), (Value.bool false)]) := by kernel_rfl
theorem sz51 : (Tryd.prog.info? 51).map (·.size) = some 1 := by kernel_rfl
theorem ii51 : (Tryd.prog.info? 51).map (fun i => (i.size, i.bytes, i.zero)) = some (1, 24, some (Value.slice none 0 0)) := by kernel_rfl
theorem zz51 : (Tryd.prog.info? 51).map (fun i => (i.size, i.zero)) = some (1, some (Value.slice none 0 0)) := by kernel_rfl
theorem sz52 : (Tryd.prog.info? 52).map (·.size) = some 3 := by kernel_rfl
theorem ii52 : (Tryd.prog.info? 52).map (fun i => (i.size, i.bytes, i.zero)) = some (3, 24, some (.agg #[(Value.int .i64 0), (Value.int .i64 0), (Value.bool false)])) := by kernel_rfl
theorem zz52 : (Tryd.prog.info? 52).map (fun i => (i.size, i.zero)) = some (3, some (.agg #[(Value.int .i64 0), (Value.int .i64 0), (Value.bool false)])) := by kernel_rfl
theorem z52 : (Tryd.prog.info? 52).bind (·.zero) = some (.agg #[(Value.int .i64 0), (Value.int .i64 0), (Value.bool false)]) := by kernel_rfl
theorem sz53 : (Tryd.prog.info? 53).map (·.size) = some 1 := by kernel_rfl
theorem ii53 : (Tryd.prog.info? 53).map (fun i => (i.size, i.bytes, i.zero)) = some (1, 24, some (Value.slice none 0 0)) := by kernel_rfl
theorem zz53 : (Tryd.prog.info? 53).map (fun i => (i.size, i.zero)) = some (1, some (Value.slice none 0 0)) := by kernel_rfl
theorem sz57 : (Tryd.prog.info? 57).map (·.size) = some 6 := by kernel_rfl
theorem ii57 : (Tryd.prog.info? 57).map (fun i => (i.size, i.bytes, i.zero)) = some (6, 64, some (.agg #[(Value.int .i64 0), (Value.int .i64 0), (Value.slice none 0 0), (Value.int .i64 0), (Value.int .i64 0), (Value.int .i64 0)])) := by kernel_rfl
theorem zz57 : (Tryd.prog.info? 57).map (fun i => (i.size, i.zero)) = some (6, some (.agg #[(Value.int .i64 0), (Value.int .i64 0), (Value.slice none 0 0), (Value.int .i64 0), (Value.int .i64 0), (Value.int .i64 0)])) := by kernel_rfl
theorem z57 : (Tryd.prog.info? 57).bind (·.zero) = some (.agg #[(Value.int .i64 0), (Value.int .i64 0), (Value.slice none 0 0), (Value.int .i64 0), (Value.int .i64 0), (Value.int .i64 0)]) := by kernel_rfl
theorem sz58 : (Tryd.prog.info? 58).map (·.size) = some 6 := by kernel_rfl
theorem ii58 : (Tryd.prog.info? 58).map (fun i => (i.size, i.bytes, i.zero)) = some (6, 64, some (.agg #[(Value.int .i64 0), (Value.int .i64 0), (Value.slice none 0 0), (Value.int .i64 0), (Value.int .i64 0), (Value.int .i64 0)])) := by kernel_rfl
theorem zz58 : (Tryd.prog.info? 58).map (fun i => (i.size, i.zero)) = some (6, some (.agg #[(Value.int .i64 0), (Value.int .i64 0), (Value.slice none 0 0), (Value.int .i64 0), (Value.int .i64 0), (Value.int .i64 0)])) := by kernel_rfl
theorem z58 : (Tryd.prog.info? 58).bind (·.zero) = some (.agg #[(Value.int .i64 0), (Value.int .i64 0), (Value.slice none 0 0), (Value.int .i64 0), (Value.int .i64 0), (Value.int .i64 0)]) := by kernel_rfl
theorem sz61 : (Tryd.prog.info? 61).map (·.size) = some 1 := by kernel_rfl
theorem ii61 : (Tryd.prog.info? 61).map (fun i => (i.size, i.bytes, i.zero)) = some (1, 8, some (Value.pointer none)) := by kernel_rfl
theorem zz61 : (Tryd.prog.info? 61).map (fun i => (i.size, i.zero)) = some (1, some (Value.pointer none)) := by kernel_rfl
theorem sz65 : (Tryd.prog.info? 65).map (·.size) = some 1 := by kernel_rfl
theorem ii65 : (Tryd.prog.info? 65).map (fun i => (i.size, i.bytes, i.zero)) = some (1, 24, some (Value.slice none 0 0)) := by kernel_rfl
theorem zz65 : (Tryd.prog.info? 65).map (fun i => (i.size, i.zero)) = some (1, some (Value.slice none 0 0)) := by kernel_rfl
theorem sz66 : (Tryd.prog.info? 66).map (·.size) = some 1 := by kernel_rfl
theorem ii66 : (Tryd.prog.info? 66).map (fun i => (i.size, i.bytes, i.zero)) = some (1, 24, some (Value.slice none 0 0)) := by kernel_rfl
theorem zz66 : (Tryd.prog.info? 66).map (fun i => (i.size, i.zero)) = some (1, some (Value.slice none 0 0)) := by kernel_rfl
theorem sz67 : (Tryd.prog.info? 67).map (·.size) = some 1 := by kernel_rfl
theorem ii67 : (Tryd.prog.info? 67).map (fun i => (i.size, i.bytes, i.zero)) = some (1, 24, some (Value.slice none 0 0)) := by kernel_rfl
theorem zz67 : (Tryd.prog.info? 67).map (fun i => (i.size, i.zero)) = some (1, some (Value.slice none 0 0)) := by kernel_rfl
theorem sz73 : (Tryd.prog.info? 73).map (·.size) = some 6 := by kernel_rfl
theorem ii73 : (Tryd.prog.info? 73).map (fun i => (i.size, i.bytes, i.zero)) = some (6, 64, some (.agg #[(Value.int .i64 0), (Value.int .i64 0), (Value.slice none 0 0), (Value.int .i64 0), (Value.int .i64 0), (Value.int .i64 0)])) := by kernel_rfl
theorem zz73 : (Tryd.prog.info? 73).map (fun i => (i.size, i.zero)) = some (6, some (.agg #[(Value.int .i64 0), (Value.int .i64 0), (Value.slice none 0 0), (Value.int .i64 0), (Value.int .i64 0), (Value.int .i64 0)])) := by kernel_rfl
theorem z73 : (Tryd.prog.info? 73).bind (·.zero) = some (.agg #[(Value.int .i64 0), (Value.int .i64 0), (Value.slice none 0 0), (Value.int .i64 0), (Value.int .i64 0), (Value.int .i64 0)]) := by kernel_rfl
theorem sz78 : (Tryd.prog.info? 78).map (·.size) = some 1 := by kernel_rfl
theorem ii78 : (Tryd.prog.info? 78).map (fun i => (i.size, i.bytes, i.zero)) = some (1, 8, some (Value.pointer none)) := by kernel_rfl
theorem zz78 : (Tryd.prog.info? 78).map (fun i => (i.size, i.zero)) = some (1, some (Value.pointer none)) := by kernel_rfl
theorem sz80 : (Tryd.prog.info? 80).map (·.size) = some 1 := by kernel_rfl
theorem ii80 : (Tryd.prog.info? 80).map (fun i => (i.size, i.bytes, i.zero)) = some (1, 8, some (Value.pointer none)) := by kernel_rfl
theorem zz80 : (Tryd.prog.info? 80).map (fun i => (i.size, i.zero)) = some (1, some (Value.pointer none)) := by kernel_rfl
theorem sz83 : (Tryd.prog.info? 83).map (·.size) = some 1 := by kernel_rfl
theorem ii83 : (Tryd.prog.info? 83).map (fun i => (i.size, i.bytes, i.zero)) = some (1, 8, some (Value.pointer none)) := by kernel_rfl
theorem zz83 : (Tryd.prog.info? 83).map (fun i => (i.size, i.zero)) = some (1, some (Value.pointer none)) := by kernel_rfl
theorem sz89 : (Tryd.prog.info? 89).map (·.size) = some 1 := by kernel_rfl
theorem ii89 : (Tryd.prog.info? 89).map (fun i => (i.size, i.bytes, i.zero)) = some (1, 8, some (Value.map none)) := by kernel_rfl
theorem zz89 : (Tryd.prog.info? 89).map (fun i => (i.size, i.zero)) = some (1, some (Value.map none)) := by kernel_rfl
theorem sz90 : (Tryd.prog.info? 90).map (·.size) = some 1 := by kernel_rfl
theorem ii90 : (Tryd.prog.info? 90).map (fun i => (i.size, i.bytes, i.zero)) = some (1, 24, some (Value.slice none 0 0)) := by kernel_rfl
theorem zz90 : (Tryd.prog.info? 90).map (fun i => (i.size, i.zero)) = some (1, some (Value.slice none 0 0)) := by kernel_rfl
theorem sz97 : (Tryd.prog.info? 97).map (·.size) = some 1 := by kernel_rfl
theorem ii97 : (Tryd.prog.info? 97).map (fun i => (i.size, i.bytes, i.zero)) = some (1, 24, some (Value.slice none 0 0)) := by kernel_rfl
theorem zz97 : (Tryd.prog.info? 97).map (fun i => (i.size, i.zero)) = some (1, some (Value.slice none 0 0)) := by kernel_rfl
theorem sz98 : (Tryd.prog.info? 98).map (·.size) = some 3 := by kernel_rfl
theorem ii98 : (Tryd.prog.info? 98).map (fun i => (i.size, i.bytes, i.zero)) = some (3, 32, some (.agg #[(Value.slice none 0 0), (Value.bool false), (Value.bool false)])) := by kernel_rfl
theorem zz98 : (Tryd.prog.info? 98).map (fun i => (i.size, i.zero)) = some (3, some (.agg #[(Value.slice none 0 0), (Value.bool false), (Value.bool false)])) := by kernel_rfl
theorem z98 : (Tryd.prog.info? 98).bind (·.zero) = some (.agg #[(Value.slice none 0 0), (Value.bool false), (Value.bool false)]) := by kernel_rfl
theorem sz99 : (Tryd.prog.info? 99).map (·.size) = some 3 := by kernel_rfl
theorem ii99 : (Tryd.prog.info? 99).map (fun i => (i.size, i.bytes, i.zero)) = some (3, 32, some (.agg #[(Value.slice none 0 0), (Value.bool false), (Value.bool false)])) := by kernel_rfl
theorem zz99 : (Tryd.prog.info? 99).map (fun i => (i.size, i.zero)) = some (3, some (.agg #[(Value.slice none 0 0), (Value.bool false), (Value.bool false)])) := by kernel_rfl
theorem z99 : (Tryd.prog.info? 99).bind (·.zero) = some (.agg #[(Value.slice none 0 0), (Value.bool false), (Value.bool false)]) := by kernel_rfl
theorem sz102 : (Tryd.prog.info? 102).map (·.size) = some 3 := by kernel_rfl
theorem ii102 : (Tryd.prog.info? 102).map (fun i => (i.size, i.bytes, i.zero)) = some (3, 32, some (.agg #[(Value.slice none 0 0), (Value.bool false), (Value.bool false)])) := by kernel_rfl
theorem zz102 : (Tryd.prog.info? 102).map (fun i => (i.size, i.zero)) = some (3, some (.agg #[(Value.slice none 0 0), (Value.bool false), (Value.bool false)])) := by kernel_rfl
theorem z102 : (Tryd.prog.info? 102).bind (·.zero) = some (.agg #[(Value.slice none 0 0), (Value.bool false), (Value.bool false)]) := by kernel_rfl
theorem sz103 : (Tryd.prog.info? 103).map (·.size) = some 3 := by kernel_rfl
theorem ii103 : (Tryd.prog.info? 103).map (fun i => (i.size, i.bytes, i.zero)) = some (3, 32, some (.agg #[(Value.slice none 0 0), (Value.bool false), (Value.bool false)])) := by kernel_rfl
theorem zz103 : (Tryd.prog.info? 103).map (fun i => (i.size, i.zero)) = some (3, some (.agg #[(Value.slice none 0 0), (Value.bool false), (Value.bool false)])) := by kernel_rfl
theorem z103 : (Tryd.prog.info? 103).bind (·.zero) = some (.agg #[(Value.slice none 0 0), (Value.bool false), (Value.bool false)]) := by kernel_rfl
theorem sz106 : (Tryd.prog.info? 106).map (·.size) = some 2 := by kernel_rfl
theorem ii106 : (Tryd.prog.info? 106).map (fun i => (i.size, i.bytes, i.zero)) = some (2, 16, some (.agg #[(Value.int .i64 0), (Value.bool false)])) := by kernel_rfl
theorem zz106 : (Tryd.prog.info? 106).map (fun i => (i.size, i.zero)) = some (2, some (.agg #[(Value.int .i64 0), (Value.bool false)])) := by kernel_rfl
theorem z106 : (Tryd.prog.info? 106).bind (·.zero) = some (.agg #[(Value.int .i64 0), (Value.bool false)]) := by kernel_rfl
theorem sz107 : (Tryd.prog.info? 107).map (·.size) = some 2 := by kernel_rfl
theorem ii107 : (Tryd.prog.info? 107).map (fun i => (i.size, i.bytes, i.zero)) = some (2, 16, some (.agg #[(Value.int .i64 0), (Value.bool false)])) := by kernel_rfl
theorem zz107 : (Tryd.prog.info? 107).map (fun i => (i.size, i.zero)) = some (2, some (.agg #[(Value.int .i64 0), (Value.bool false)])) := by kernel_rfl
theorem z107 : (Tryd.prog.info? 107).bind (·.zero) = some (.agg #[(Value.int .i64 0), (Value.bool false)]) := by kernel_rfl
theorem sz110 : (Tryd.prog.info? 110).map (·.size) = some 1 := by kernel_rfl
theorem ii110 : (Tryd.prog.info? 110).map (fun i => (i.size, i.bytes, i.zero)) = some (1, 24, some (Value.slice none 0 0)) := by kernel_rfl
theorem zz110 : (Tryd.prog.info? 110).map (fun i => (i.size, i.zero)) = some (1, some (Value.slice none 0 0)) := by kernel_rfl
theorem sz111 : (Tryd.prog.info? 111).map (·.size) = some 4 := by kernel_rfl
theorem ii111 : (Tryd.prog.info? 111).map (fun i => (i.size, i.bytes, i.zero)) = some (4, 56, some (.agg #[(Value.int .i64 0), (Value.int .i64 0), (Value.slice none 0 0), (Value.string (bs []))])) := by kernel_rfl
theorem zz111 : (Tryd.prog.info? 111).map (fun i => (i.size, i.zero)) = some (4, some (.agg #[(Value.int .i64 0), (Value.int .i64 0), (Value.slice none 0 0), (Value.string (bs []))])) := by kernel_rfl
theorem z111 : (Tryd.prog.info? 111).bind (·.zero) = some (.agg #[(Value.int .i64 0), (Value.int .i64 0), (Value.slice none 0 0), (Value.string (bs []))]) := by kernel_rfl
theorem sz112 : (Tryd.prog.info? 112).map (·.size) = some 4 := by kernel_rfl
theorem ii112 : (Tryd.prog.info? 112).map (fun i => (i.size, i.bytes, i.zero)) = some (4, 56, some (.agg #[(Value.int .i64 0), (Value.int .i64 0), (Value.slice none 0 0), (Value.string (bs []))])) := by kernel_rfl
theorem zz112 : (Tryd.prog.info? 112).map (fun i => (i.size, i.zero)) = some (4, some (.agg #[(Value.int .i64 0), (Value.int .i64 0), (Value.slice none 0 0), (Value.string (bs []))])) := by kernel_rfl
theorem z112 : (Tryd.prog.info? 112).bind (·.zero) = some (.agg #[(Value.int .i64 0), (Value.int .i64 0), (Value.slice none 0 0), (Value.string (bs []))]) := by kernel_rfl
theorem sz114 : (Tryd.prog.info? 114).map (·.size) = some 1 := by kernel_rfl
theorem ii114 : (Tryd.prog.info? 114).map (fun i => (i.size, i.bytes, i.zero)) = some (1, 8, some (Value.map none)) := by kernel_rfl
theorem zz114 : (Tryd.prog.info? 114).map (fun i => (i.size, i.zero)) = some (1, some (Value.map none)) := by kernel_rfl
theorem sz115 : (Tryd.prog.info? 115).map (·.size) = some 4 := by kernel_rfl
theorem ii115 : (Tryd.prog.info? 115).map (fun i => (i.size, i.bytes, i.zero)) = some (4, 24, some (.agg #[(Value.bool false), (Value.bool false), (Value.pointer none), (Value.map none)])) := by kernel_rfl
theorem zz115 : (Tryd.prog.info? 115).map (fun i => (i.size, i.zero)) = some (4, some (.agg #[(Value.bool false), (Value.bool false), (Value.pointer none), (Value.map none)])) := by kernel_rfl
theorem z115 : (Tryd.prog.info? 115).bind (·.zero) = some (.agg #[(Value.bool false), (Value.bool false), (Value.pointer none), (Value.map none)]) := by kernel_rfl
theorem sz116 : (Tryd.prog.info? 116).map (·.size) = some 4 := by kernel_rfl
theorem ii116 : (Tryd.prog.info? 116).map (fun i => (i.size, i.bytes, i.zero)) = some (4, 24, some (.agg #[(Value.bool false), (Value.bool false), (Value.pointer none), (Value.map none)])) := by kernel_rfl
theorem zz116 : (Tryd.prog.info? 116).map (fun i => (i.size, i.zero)) = some (4, some (.agg #[(Value.bool false), (Value.bool false), (Value.pointer none), (Value.map none)])) := by kernel_rfl
theorem z116 : (Tryd.prog.info? 116).bind (·.zero) = some (.agg #[(Value.bool false), (Value.bool false), (Value.pointer none), (Value.map none)]) := by kernel_rfl
theorem sz117 : (Tryd.prog.info? 117).map (·.size) = some 2 := by kernel_rfl
theorem ii117 : (Tryd.prog.info? 117).map (fun i => (i.size, i.bytes, i.zero)) = some (2, 32, some (.agg #[(Value.slice none 0 0), (Value.map none)])) := by kernel_rfl
theorem zz117 : (Tryd.prog.info? 117).map (fun i => (i.size, i.zero)) = some (2, some (.agg #[(Value.slice none 0 0), (Value.map none)])) := by kernel_rfl
theorem z117 : (Tryd.prog.info? 117).bind (·.zero) = some (.agg #[(Value.slice none 0 0), (Value.map none)]) := by kernel_rfl
theorem sz118 : (Tryd.prog.info? 118).map (·.size) = some 2 := by kernel_rfl
theorem ii118 : (Tryd.prog.info? 118).map (fun i => (i.size, i.bytes, i.zero)) = some (2, 32, some (.agg #[(Value.slice none 0 0), (Value.map none)])) := by kernel_rfl
theorem zz118 : (Tryd.prog.info? 118).map (fun i => (i.size, i.zero)) = some (2, some (.agg #[(Value.slice none 0 0), (Value.map none)])) := by kernel_rfl
theorem z118 : (Tryd.prog.info? 118).bind (·.zero) = some (.agg #[(Value.slice none 0 0), (Value.map none)]) := by kernel_rfl
theorem sz132 : (Tryd.prog.info? 132).map (·.size) = some 1 := by kernel_rfl
theorem ii132 : (Tryd.prog.info? 132).map (fun i => (i.size, i.bytes, i.zero)) = some (1, 24, some (Value.slice none 0 0)) := by kernel_rfl
theorem zz132 : (Tryd.prog.info? 132).map (fun i => (i.size, i.zero)) = some (1, some (Value.slice none 0 0)) := by kernel_rfl
theorem sz137 : (Tryd.prog.info? 137).map (·.size) = some 1 := by kernel_rfl
theorem ii137 : (Tryd.prog.info? 137).map (fun i => (i.size, i.bytes, i.zero)) = some (1, 8, some (Value.pointer none)) := by kernel_rfl
theorem zz137 : (Tryd.prog.info? 137).map (fun i => (i.size, i.zero)) = some (1, some (Value.pointer none)) := by kernel_rfl
theorem sz138 : (Tryd.prog.info? 138).map (·.size) = some 1 := by kernel_rfl
theorem ii138 : (Tryd.prog.info? 138).map (fun i => (i.size, i.bytes, i.zero)) = some (1, 24, some (Value.slice none 0 0)) := by kernel_rfl
theorem zz138 : (Tryd.prog.info? 138).map (fun i => (i.size, i.zero)) = some (1, some (Value.slice none 0 0)) := by kernel_rfl
theorem sz139 : (Tryd.prog.info? 139).map (·.size) = some 2 := by kernel_rfl
theorem ii139 : (Tryd.prog.info? 139).map (fun i => (i.size, i.bytes, i.zero)) = some (2, 32, some (.agg #[(Value.pointer none), (Value.slice none 0 0)])) := by kernel_rfl
theorem zz139 : (Tryd.prog.info? 139).map (fun i => (i.size, i.zero)) = some (2, some (.agg #[(Value.pointer none), (Value.slice none 0 0)])) := by kernel_rfl
theorem z139 : (Tryd.prog.info? 139).bind (·.zero) = some (.agg #[(Value.pointer none), (Value.slice none 0 0)]) := by kernel_rfl
theorem sz140 : (Tryd.prog.info? 140).map (·.size) = some 2 := by kernel_rfl
theorem ii140 : (Tryd.prog.info? 140).map (fun i => (i.size, i.bytes, i.zero)) = some (2, 32, some (.agg #[(Value.pointer none), (Value.slice none 0 0)])) := by kernel_rfl
theorem zz140 : (Tryd.prog.info? 140).map (fun i => (i.size, i.zero)) = some (2, some (.agg #[(Value.pointer none), (Value.slice none 0 0)])) := by kernel_rfl
theorem z140 : (Tryd.prog.info? 140).bind (·.zero) = some (.agg #[(Value.pointer none), (Value.slice none 0 0)]) := by kernel_rfl
theorem sz146 : (Tryd.prog.info? 146).map (·.size) = some 1 := by kernel_rfl
theorem ii146 : (Tryd.prog.info? 146).map (fun i => (i.size, i.bytes, i.zero)) = some (1, 24, some (Value.slice none 0 0)) := by kernel_rfl
theorem zz146 : (Tryd.prog.info? 146).map (fun i => (i.size, i.zero)) = some (1, some (Value.slice none 0 0)) := by kernel_rfl
theorem sz150 : (Tryd.prog.info? 150).map (·.size) = some 1 := by kernel_rfl
theorem ii150 : (Tryd.prog.info? 150).map (fun i => (i.size, i.bytes, i.zero)) = some (1, 8, some (Value.pointer none)) := by kernel_rfl
theorem zz150 : (Tryd.prog.info? 150).map (fun i => (i.size, i.zero)) = some (1, some (Value.pointer none)) := by kernel_rfl
theorem sz152 : (Tryd.prog.info? 152).map (·.size) = some 1 := by kernel_rfl
theorem ii152 : (Tryd.prog.info? 152).map (fun i => (i.size, i.bytes, i.zero)) = some (1, 8, some (Value.int .u64 0)) := by kernel_rfl
theorem zz152 : (Tryd.prog.info? 152).map (fun i => (i.size, i.zero)) = some (1, some (Value.int .u64 0)) := by kernel_rfl
theorem sz163 : (Tryd.prog.info? 163).map (·.size) = some 1 := by kernel_rfl
theorem ii163 : (Tryd.prog.info? 163).map (fun i => (i.size, i.bytes, i.zero)) = some (1, 4, some (Value.int .u32 0)) := by kernel_rfl
theorem zz163 : (Tryd.prog.info? 163).map (fun i => (i.size, i.zero)) = some (1, some (Value.int .u32 0)) := by kernel_rfl
theorem sz165 : (Tryd.prog.info? 165).map (·.size) = some 1 := by kernel_rfl
theorem ii165 : (Tryd.prog.info? 165).map (fun i => (i.size, i.bytes, i.zero)) = some (1, 8, some (Value.int .u64 0)) := by kernel_rfl
theorem zz165 : (Tryd.prog.info? 165).map (fun i => (i.size, i.zero)) = some (1, some (Value.int .u64 0)) := by kernel_rfl
theorem sz170 : (Tryd.prog.info? 170).map (·.size) = some 4 := by kernel_rfl
theorem ii170 : (Tryd.prog.info? 170).map (fun i => (i.size, i.bytes, i.zero)) = some (4, 40, some (.agg #[(Value.pointer none), (Value.pointer none), (Value.pointer none), (Value.string (bs []))])) := by kernel_rfl
theorem zz170 : (Tryd.prog.info? 170).map (fun i => (i.size, i.zero)) = some (4, some (.agg #[(Value.pointer none), (Value.pointer none), (Value.pointer none), (Value.string (bs []))])) := by kernel_rfl
theorem z170 : (Tryd.prog.info? 170).bind (·.zero) = some (.agg #[(Value.pointer none), (Value.pointer none), (Value.pointer none), (Value.string (bs []))]) := by kernel_rfl
theorem sz171 : (Tryd.prog.info? 171).map (·.size) = some 4 := by kernel_rfl
theorem ii171 : (Tryd.prog.info? 171).map (fun i => (i.size, i.bytes, i.zero)) = some (4, 40, some (.agg #[(Value.pointer none), (Value.pointer none), (Value.pointer none), (Value.string (bs []))])) := by kernel_rfl
theorem zz171 : (Tryd.prog.info? 171).map (fun i => (i.size, i.zero)) = some (4, some (.agg #[(Value.pointer none), (Value.pointer none), (Value.pointer none), (Value.string (bs []))])) := by kernel_rfl
theorem z171 : (Tryd.prog.info? 171).bind (·.zero) = some (.agg #[(Value.pointer none), (Value.pointer none), (Value.pointer none), (Value.string (bs []))]) := by kernel_rfl
theorem sz175 : (Tryd.prog.info? 175).map (·.size) = some 1 := by kernel_rfl
theorem ii175 : (Tryd.prog.info? 175).map (fun i => (i.size, i.bytes, i.zero)) = some (1, 1, some (Value.int .u8 0)) := by kernel_rfl
theorem zz175 : (Tryd.prog.info? 175).map (fun i => (i.size, i.zero)) = some (1, some (Value.int .u8 0)) := by kernel_rfl
theorem sz176 : (Tryd.prog.info? 176).map (·.size) = some 1 := by kernel_rfl
theorem ii176 : (Tryd.prog.info? 176).map (fun i => (i.size, i.bytes, i.zero)) = some (1, 1, some (Value.int .u8 0)) := by kernel_rfl
theorem zz176 : (Tryd.prog.info? 176).map (fun i => (i.size, i.zero)) = some (1, some (Value.int .u8 0)) := by kernel_rfl
theorem sz178 : (Tryd.prog.info? 178).map (·.size) = some 1 := by kernel_rfl
theorem ii178 : (Tryd.prog.info? 178).map (fun i => (i.size, i.bytes, i.zero)) = some (1, 4, some (Value.int .i32 0)) := by kernel_rfl
theorem zz178 : (Tryd.prog.info? 178).map (fun i => (i.size, i.zero)) = some (1, some (Value.int .i32 0)) := by kernel_rfl
theorem sz179 : (Tryd.prog.info? 179).map (·.size) = some 1 := by kernel_rfl
theorem ii179 : (Tryd.prog.info? 179).map (fun i => (i.size, i.bytes, i.zero)) = some (1, 4, some (Value.int .i32 0)) := by kernel_rfl
theorem zz179 : (Tryd.prog.info? 179).map (fun i => (i.size, i.zero)) = some (1, some (Value.int .i32 0)) := by kernel_rfl
end Go.Mi.Term
