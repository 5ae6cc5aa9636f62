/- The types of the translation, as instances of the symbolic layer. -/
import Derived.Test.YtbkojmcppeflbaaDoorSl14
import Derived.Test.YtbkojmcppeflbaaDoorProg
namespace Go.Proofs.YtbkojmcppeflbaaDoor
open Go
set_option linter.unusedVariables false
set_option linter.unusedSimpArgs false
set_option linter.unusedSectionVars false
set_option linter.unnecessarySimpa false
theorem inf_of {P : Program} {t : TypeId} {i : TypeInfo} (h : ∀ w, (typeInfo t).run P w = .ok i w) : P.info? t = some i := by
  have := h default
  simp only [typeInfo, Sem.run_bind, run_program, Result.andThen_ok] at this
  cases e : P.info? t with
  | none => rw [e] at this; simp at this
  | some j => rw [e] at this; simp at this; rw [this]
instance in1 : Inf Tryd.prog 1 1 8 (.nilFunc) := ⟨_, inf_of Tryd.typeInfo1, rfl, rfl, rfl⟩
instance ty1 : Und Tryd.prog 1 (.func #[] #[] false) := ⟨Tryd.underlying1⟩
instance ty2 : Und Tryd.prog 2 (.int .i64) := ⟨Tryd.underlying2⟩
instance in2 : Inf Tryd.prog 2 1 8 (.int .i64 0) := ⟨_, inf_of Tryd.typeInfo2, rfl, rfl, rfl⟩
instance ty3 : Und Tryd.prog 3 (.int .i64) := ⟨Tryd.underlying3⟩
instance in3 : Inf Tryd.prog 3 1 8 (.int .i64 0) := ⟨_, inf_of Tryd.typeInfo3, rfl, rfl, rfl⟩
instance ty4 : Und Tryd.prog 4 (.bool) := ⟨Tryd.underlying4⟩
instance in4 : Inf Tryd.prog 4 1 1 (.bool false) := ⟨_, inf_of Tryd.typeInfo4, rfl, rfl, rfl⟩
instance ty5 : Und Tryd.prog 5 (.int .u8) := ⟨Tryd.underlying5⟩
instance in5 : Inf Tryd.prog 5 1 1 (.int .u8 0) := ⟨_, inf_of Tryd.typeInfo5, rfl, rfl, rfl⟩
instance ty9 : Und Tryd.prog 9 (.string) := ⟨Tryd.underlying9⟩
instance in9 : Inf Tryd.prog 9 1 16 (.string ⟨#[]⟩) := ⟨_, inf_of Tryd.typeInfo9, rfl, rfl, rfl⟩
instance ty12 : Und Tryd.prog 12 (.int .u64) := ⟨Tryd.underlying12⟩
instance in12 : Inf Tryd.prog 12 1 8 (.int .u64 0) := ⟨_, inf_of Tryd.typeInfo12, rfl, rfl, rfl⟩
instance ty13 : Und Tryd.prog 13 (.struct #[⟨"msg", 9, 0, false, "", "runtime", 0⟩, ⟨"addr", 12, 1, false, "", "runtime", 16⟩]) := ⟨Tryd.underlying13⟩
instance in13 : Inf Tryd.prog 13 2 24 (.agg #[.string ⟨#[]⟩, .int .u64 0]) := ⟨_, inf_of Tryd.typeInfo13, rfl, rfl, rfl⟩
instance ty19 : Und Tryd.prog 19 (.struct #[⟨"typ", 17, 0, false, "", "internal/runtime/maps", 0⟩]) := ⟨Tryd.underlying19⟩
instance in19 : Inf Tryd.prog 19 1 8 (.agg #[.pointer none]) := ⟨_, inf_of Tryd.typeInfo19, rfl, rfl, rfl⟩
instance if20 : IsIfc Tryd.prog 20 := ⟨_, Tryd.underlying20⟩
instance ty21 : Und Tryd.prog 21 (.int .i32) := ⟨Tryd.underlying21⟩
instance in21 : Inf Tryd.prog 21 1 4 (.int .i32 0) := ⟨_, inf_of Tryd.typeInfo21, rfl, rfl, rfl⟩
instance ty22 : Und Tryd.prog 22 (.slice 45) := ⟨Tryd.underlying22⟩
instance in22 : Inf Tryd.prog 22 1 24 (.slice none 0 0) := ⟨_, inf_of Tryd.typeInfo22, rfl, rfl, rfl⟩
instance ty23 : Und Tryd.prog 23 (.struct #[⟨"Kind", 3, 0, false, "", "", 0⟩, ⟨"In", 3, 1, false, "", "", 8⟩, ⟨"Out", 3, 2, false, "", "", 16⟩, ⟨"Lines", 22, 3, false, "", "", 24⟩]) := ⟨Tryd.underlying23⟩
instance in23 : Inf Tryd.prog 23 4 48 (.agg #[.int .i64 0, .int .i64 0, .int .i64 0, .slice none 0 0]) := ⟨_, inf_of Tryd.typeInfo23, rfl, rfl, rfl⟩
instance ty24 : Und Tryd.prog 24 (.struct #[⟨"Kind", 3, 0, false, "", "", 0⟩, ⟨"In", 3, 1, false, "", "", 8⟩, ⟨"Out", 3, 2, false, "", "", 16⟩, ⟨"Lines", 22, 3, false, "", "", 24⟩]) := ⟨Tryd.underlying24⟩
instance in24 : Inf Tryd.prog 24 4 48 (.agg #[.int .i64 0, .int .i64 0, .int .i64 0, .slice none 0 0]) := ⟨_, inf_of Tryd.typeInfo24, rfl, rfl, rfl⟩
instance in25 : Inf Tryd.prog 25 1 8 (.nilFunc) := ⟨_, inf_of Tryd.typeInfo25, rfl, rfl, rfl⟩
instance ty25 : Und Tryd.prog 25 (.func #[24] #[4] false) := ⟨Tryd.underlying25⟩
instance in26 : Inf Tryd.prog 26 1 8 (.nilFunc) := ⟨_, inf_of Tryd.typeInfo26, rfl, rfl, rfl⟩
instance ty26 : Und Tryd.prog 26 (.func #[] #[4] false) := ⟨Tryd.underlying26⟩
instance ty27 : Und Tryd.prog 27 (.int .i64) := ⟨Tryd.underlying27⟩
instance in27 : Inf Tryd.prog 27 1 8 (.int .i64 0) := ⟨_, inf_of Tryd.typeInfo27, rfl, rfl, rfl⟩
instance in29 : Inf Tryd.prog 29 1 8 (.nilFunc) := ⟨_, inf_of Tryd.typeInfo29, rfl, rfl, rfl⟩
instance ty29 : Und Tryd.prog 29 (.func #[24] #[9, 27] false) := ⟨Tryd.underlying29⟩
instance in30 : Inf Tryd.prog 30 1 8 (.nilFunc) := ⟨_, inf_of Tryd.typeInfo30, rfl, rfl, rfl⟩
instance ty30 : Und Tryd.prog 30 (.func #[24, 24] #[4] false) := ⟨Tryd.underlying30⟩
instance in31 : Inf Tryd.prog 31 1 8 (.nilFunc) := ⟨_, inf_of Tryd.typeInfo31, rfl, rfl, rfl⟩
instance ty31 : Und Tryd.prog 31 (.func #[24] #[9] false) := ⟨Tryd.underlying31⟩
instance in33 : Inf Tryd.prog 33 1 8 (.nilFunc) := ⟨_, inf_of Tryd.typeInfo33, rfl, rfl, rfl⟩
instance ty33 : Und Tryd.prog 33 (.func #[9] #[24, 3, 27] false) := ⟨Tryd.underlying33⟩
instance in34 : Inf Tryd.prog 34 1 8 (.nilFunc) := ⟨_, inf_of Tryd.typeInfo34, rfl, rfl, rfl⟩
instance ty34 : Und Tryd.prog 34 (.func #[24, 9] #[4] false) := ⟨Tryd.underlying34⟩
instance ty35 : Und Tryd.prog 35 (.slice 51) := ⟨Tryd.underlying35⟩
instance in35 : Inf Tryd.prog 35 1 24 (.slice none 0 0) := ⟨_, inf_of Tryd.typeInfo35, rfl, rfl, rfl⟩
instance ty36 : Und Tryd.prog 36 (.struct #[⟨"In", 3, 0, false, "", "", 0⟩, ⟨"On", 35, 1, false, "", "", 8⟩, ⟨"May", 35, 2, false, "", "", 32⟩]) := ⟨Tryd.underlying36⟩
instance in36 : Inf Tryd.prog 36 3 56 (.agg #[.int .i64 0, .slice none 0 0, .slice none 0 0]) := ⟨_, inf_of Tryd.typeInfo36, rfl, rfl, rfl⟩
instance ty37 : Und Tryd.prog 37 (.struct #[⟨"In", 3, 0, false, "", "", 0⟩, ⟨"On", 35, 1, false, "", "", 8⟩, ⟨"May", 35, 2, false, "", "", 32⟩]) := ⟨Tryd.underlying37⟩
instance in37 : Inf Tryd.prog 37 3 56 (.agg #[.int .i64 0, .slice none 0 0, .slice none 0 0]) := ⟨_, inf_of Tryd.typeInfo37, rfl, rfl, rfl⟩
instance in39 : Inf Tryd.prog 39 1 8 (.nilFunc) := ⟨_, inf_of Tryd.typeInfo39, rfl, rfl, rfl⟩
instance ty39 : Und Tryd.prog 39 (.func #[24] #[37, 27] false) := ⟨Tryd.underlying39⟩
instance ty40 : Und Tryd.prog 40 (.slice 47) := ⟨Tryd.underlying40⟩
instance in40 : Inf Tryd.prog 40 1 24 (.slice none 0 0) := ⟨_, inf_of Tryd.typeInfo40, rfl, rfl, rfl⟩
instance ty41 : Und Tryd.prog 41 (.struct #[⟨"Mask", 5, 0, false, "", "", 0⟩, ⟨"Val", 5, 1, false, "", "", 1⟩]) := ⟨Tryd.underlying41⟩
instance in41 : Inf Tryd.prog 41 2 2 (.agg #[.int .u8 0, .int .u8 0]) := ⟨_, inf_of Tryd.typeInfo41, rfl, rfl, rfl⟩
instance ty42 : Und Tryd.prog 42 (.struct #[⟨"Mask", 5, 0, false, "", "", 0⟩, ⟨"Val", 5, 1, false, "", "", 1⟩]) := ⟨Tryd.underlying42⟩
instance in42 : Inf Tryd.prog 42 2 2 (.agg #[.int .u8 0, .int .u8 0]) := ⟨_, inf_of Tryd.typeInfo42, rfl, rfl, rfl⟩
instance ty43 : Und Tryd.prog 43 (.slice 3) := ⟨Tryd.underlying43⟩
instance in43 : Inf Tryd.prog 43 1 24 (.slice none 0 0) := ⟨_, inf_of Tryd.typeInfo43, rfl, rfl, rfl⟩
instance ty44 : Und Tryd.prog 44 (.struct #[⟨"Cube", 42, 0, false, "", "", 0⟩, ⟨"Outs", 43, 2, false, "", "", 8⟩]) := ⟨Tryd.underlying44⟩
instance in44 : Inf Tryd.prog 44 3 32 (.agg #[.int .u8 0, .int .u8 0, .slice none 0 0]) := ⟨_, inf_of Tryd.typeInfo44, rfl, rfl, rfl⟩
instance ty45 : Und Tryd.prog 45 (.struct #[⟨"Cube", 42, 0, false, "", "", 0⟩, ⟨"Outs", 43, 2, false, "", "", 8⟩]) := ⟨Tryd.underlying45⟩
instance in45 : Inf Tryd.prog 45 3 32 (.agg #[.int .u8 0, .int .u8 0, .slice none 0 0]) := ⟨_, inf_of Tryd.typeInfo45, rfl, rfl, rfl⟩
instance ty46 : Und Tryd.prog 46 (.struct #[⟨"Cube", 42, 0, false, "", "", 0⟩, ⟨"Outs", 5, 2, false, "", "", 2⟩]) := ⟨Tryd.underlying46⟩
instance in46 : Inf Tryd.prog 46 3 3 (.agg #[.int .u8 0, .int .u8 0, .int .u8 0]) := ⟨_, inf_of Tryd.typeInfo46, rfl, rfl, rfl⟩
instance ty47 : Und Tryd.prog 47 (.struct #[⟨"Cube", 42, 0, false, "", "", 0⟩, ⟨"Outs", 5, 2, false, "", "", 2⟩]) := ⟨Tryd.underlying47⟩
instance in47 : Inf Tryd.prog 47 3 3 (.agg #[.int .u8 0, .int .u8 0, .int .u8 0]) := ⟨_, inf_of Tryd.typeInfo47, rfl, rfl, rfl⟩
instance in48 : Inf Tryd.prog 48 1 8 (.nilFunc) := ⟨_, inf_of Tryd.typeInfo48, rfl, rfl, rfl⟩
instance ty48 : Und Tryd.prog 48 (.func #[37, 40] #[4] false) := ⟨Tryd.underlying48⟩
instance ty49 : Und Tryd.prog 49 (.int .u64) := ⟨Tryd.underlying49⟩
instance in49 : Inf Tryd.prog 49 1 8 (.int .u64 0) := ⟨_, inf_of Tryd.typeInfo49, rfl, rfl, rfl⟩
instance ty50 : Und Tryd.prog 50 (.array 4 49) := ⟨Tryd.underlying50⟩
instance in50 : Inf Tryd.prog 50 4 32 (.agg #[.int .u64 0, .int .u64 0, .int .u64 0, .int .u64 0]) := ⟨_, inf_of Tryd.typeInfo50, rfl, rfl, rfl⟩
instance ty51 : Und Tryd.prog 51 (.array 4 49) := ⟨Tryd.underlying51⟩
instance in51 : Inf Tryd.prog 51 4 32 (.agg #[.int .u64 0, .int .u64 0, .int .u64 0, .int .u64 0]) := ⟨_, inf_of Tryd.typeInfo51, rfl, rfl, rfl⟩
instance in53 : Inf Tryd.prog 53 1 8 (.nilFunc) := ⟨_, inf_of Tryd.typeInfo53, rfl, rfl, rfl⟩
instance ty53 : Und Tryd.prog 53 (.func #[40, 3, 3] #[51, 27] false) := ⟨Tryd.underlying53⟩
instance in54 : Inf Tryd.prog 54 1 8 (.nilFunc) := ⟨_, inf_of Tryd.typeInfo54, rfl, rfl, rfl⟩
instance ty54 : Und Tryd.prog 54 (.func #[42, 3] #[4] false) := ⟨Tryd.underlying54⟩
instance in55 : Inf Tryd.prog 55 1 8 (.nilFunc) := ⟨_, inf_of Tryd.typeInfo55, rfl, rfl, rfl⟩
instance ty55 : Und Tryd.prog 55 (.func #[3] #[51, 27] false) := ⟨Tryd.underlying55⟩
instance in56 : Inf Tryd.prog 56 1 8 (.nilFunc) := ⟨_, inf_of Tryd.typeInfo56, rfl, rfl, rfl⟩
instance ty56 : Und Tryd.prog 56 (.func #[51, 3] #[4] false) := ⟨Tryd.underlying56⟩
instance in57 : Inf Tryd.prog 57 1 8 (.nilFunc) := ⟨_, inf_of Tryd.typeInfo57, rfl, rfl, rfl⟩
instance ty57 : Und Tryd.prog 57 (.func #[40, 3, 3] #[4] false) := ⟨Tryd.underlying57⟩
instance in58 : Inf Tryd.prog 58 1 8 (.nilFunc) := ⟨_, inf_of Tryd.typeInfo58, rfl, rfl, rfl⟩
instance ty58 : Und Tryd.prog 58 (.func #[3] #[9] false) := ⟨Tryd.underlying58⟩
instance ty59 : Und Tryd.prog 59 (.slice 9) := ⟨Tryd.underlying59⟩
instance in59 : Inf Tryd.prog 59 1 24 (.slice none 0 0) := ⟨_, inf_of Tryd.typeInfo59, rfl, rfl, rfl⟩
instance in60 : Inf Tryd.prog 60 1 8 (.nilFunc) := ⟨_, inf_of Tryd.typeInfo60, rfl, rfl, rfl⟩
instance ty60 : Und Tryd.prog 60 (.func #[] #[59] false) := ⟨Tryd.underlying60⟩
instance in61 : Inf Tryd.prog 61 1 8 (.nilFunc) := ⟨_, inf_of Tryd.typeInfo61, rfl, rfl, rfl⟩
instance ty61 : Und Tryd.prog 61 (.func #[42, 3] #[9, 27] false) := ⟨Tryd.underlying61⟩
instance in62 : Inf Tryd.prog 62 1 8 (.nilFunc) := ⟨_, inf_of Tryd.typeInfo62, rfl, rfl, rfl⟩
instance ty62 : Und Tryd.prog 62 (.func #[45, 3] #[9] false) := ⟨Tryd.underlying62⟩
instance ty63 : Und Tryd.prog 63 (.pointer 65) := ⟨Tryd.underlying63⟩
instance in63 : Inf Tryd.prog 63 1 8 (.pointer none) := ⟨_, inf_of Tryd.typeInfo63, rfl, rfl, rfl⟩
instance ty64 : Und Tryd.prog 64 (.struct #[⟨"t", 24, 0, false, "", "drawknife/pla", 0⟩, ⟨"stage", 3, 4, false, "", "drawknife/pla", 48⟩, ⟨"told", 3, 5, false, "", "drawknife/pla", 56⟩]) := ⟨Tryd.underlying64⟩
instance in64 : Inf Tryd.prog 64 6 64 (.agg #[.int .i64 0, .int .i64 0, .int .i64 0, .slice none 0 0, .int .i64 0, .int .i64 0]) := ⟨_, inf_of Tryd.typeInfo64, rfl, rfl, rfl⟩
instance ty65 : Und Tryd.prog 65 (.struct #[⟨"t", 24, 0, false, "", "drawknife/pla", 0⟩, ⟨"stage", 3, 4, false, "", "drawknife/pla", 48⟩, ⟨"told", 3, 5, false, "", "drawknife/pla", 56⟩]) := ⟨Tryd.underlying65⟩
instance in65 : Inf Tryd.prog 65 6 64 (.agg #[.int .i64 0, .int .i64 0, .int .i64 0, .slice none 0 0, .int .i64 0, .int .i64 0]) := ⟨_, inf_of Tryd.typeInfo65, rfl, rfl, rfl⟩
instance in66 : Inf Tryd.prog 66 1 8 (.nilFunc) := ⟨_, inf_of Tryd.typeInfo66, rfl, rfl, rfl⟩
instance ty66 : Und Tryd.prog 66 (.func #[9, 9] #[59] false) := ⟨Tryd.underlying66⟩
instance in67 : Inf Tryd.prog 67 1 8 (.nilFunc) := ⟨_, inf_of Tryd.typeInfo67, rfl, rfl, rfl⟩
instance ty67 : Und Tryd.prog 67 (.func #[9] #[27] false) := ⟨Tryd.underlying67⟩
instance in68 : Inf Tryd.prog 68 1 8 (.nilFunc) := ⟨_, inf_of Tryd.typeInfo68, rfl, rfl, rfl⟩
instance ty68 : Und Tryd.prog 68 (.func #[37] #[4] false) := ⟨Tryd.underlying68⟩
instance in69 : Inf Tryd.prog 69 1 8 (.nilFunc) := ⟨_, inf_of Tryd.typeInfo69, rfl, rfl, rfl⟩
instance ty69 : Und Tryd.prog 69 (.func #[51, 51, 51, 51] #[51] false) := ⟨Tryd.underlying69⟩
instance ty70 : Und Tryd.prog 70 (.struct #[⟨"may", 69, 0, false, "", "drawknife/spec", 0⟩, ⟨"apart", 4, 1, false, "", "drawknife/spec", 8⟩]) := ⟨Tryd.underlying70⟩
instance in70 : Inf Tryd.prog 70 2 16 (.agg #[.nilFunc, .bool false]) := ⟨_, inf_of Tryd.typeInfo70, rfl, rfl, rfl⟩
instance ty71 : Und Tryd.prog 71 (.struct #[⟨"may", 69, 0, false, "", "drawknife/spec", 0⟩, ⟨"apart", 4, 1, false, "", "drawknife/spec", 8⟩]) := ⟨Tryd.underlying71⟩
instance in71 : Inf Tryd.prog 71 2 16 (.agg #[.nilFunc, .bool false]) := ⟨_, inf_of Tryd.typeInfo71, rfl, rfl, rfl⟩
instance ty72 : Und Tryd.prog 72 (.array 4 71) := ⟨Tryd.underlying72⟩
instance in72 : Inf Tryd.prog 72 8 64 (.agg #[.nilFunc, .bool false, .nilFunc, .bool false, .nilFunc, .bool false, .nilFunc, .bool false]) := ⟨_, inf_of Tryd.typeInfo72, rfl, rfl, rfl⟩
instance in73 : Inf Tryd.prog 73 1 8 (.nilFunc) := ⟨_, inf_of Tryd.typeInfo73, rfl, rfl, rfl⟩
instance ty73 : Und Tryd.prog 73 (.func #[] #[72] false) := ⟨Tryd.underlying73⟩
instance in74 : Inf Tryd.prog 74 1 8 (.nilFunc) := ⟨_, inf_of Tryd.typeInfo74, rfl, rfl, rfl⟩
instance ty74 : Und Tryd.prog 74 (.func #[24, 3, 3] #[51] false) := ⟨Tryd.underlying74⟩
instance in75 : Inf Tryd.prog 75 1 8 (.nilFunc) := ⟨_, inf_of Tryd.typeInfo75, rfl, rfl, rfl⟩
instance ty75 : Und Tryd.prog 75 (.func #[51, 51] #[51] false) := ⟨Tryd.underlying75⟩
instance in76 : Inf Tryd.prog 76 1 8 (.nilFunc) := ⟨_, inf_of Tryd.typeInfo76, rfl, rfl, rfl⟩
instance ty76 : Und Tryd.prog 76 (.func #[51, 51] #[4] false) := ⟨Tryd.underlying76⟩
instance in77 : Inf Tryd.prog 77 1 8 (.nilFunc) := ⟨_, inf_of Tryd.typeInfo77, rfl, rfl, rfl⟩
instance ty77 : Und Tryd.prog 77 (.func #[42, 3] #[51, 27] false) := ⟨Tryd.underlying77⟩
instance in78 : Inf Tryd.prog 78 1 8 (.nilFunc) := ⟨_, inf_of Tryd.typeInfo78, rfl, rfl, rfl⟩
instance ty78 : Und Tryd.prog 78 (.func #[42] #[43] false) := ⟨Tryd.underlying78⟩
instance in79 : Inf Tryd.prog 79 1 8 (.nilFunc) := ⟨_, inf_of Tryd.typeInfo79, rfl, rfl, rfl⟩
instance ty79 : Und Tryd.prog 79 (.func #[43] #[42] false) := ⟨Tryd.underlying79⟩
instance in80 : Inf Tryd.prog 80 1 8 (.nilFunc) := ⟨_, inf_of Tryd.typeInfo80, rfl, rfl, rfl⟩
instance ty80 : Und Tryd.prog 80 (.func #[51, 3] #[51] false) := ⟨Tryd.underlying80⟩
instance in81 : Inf Tryd.prog 81 1 8 (.nilFunc) := ⟨_, inf_of Tryd.typeInfo81, rfl, rfl, rfl⟩
instance ty81 : Und Tryd.prog 81 (.func #[3] #[4] false) := ⟨Tryd.underlying81⟩
instance in83 : Inf Tryd.prog 83 1 8 (.nilFunc) := ⟨_, inf_of Tryd.typeInfo83, rfl, rfl, rfl⟩
instance ty83 : Und Tryd.prog 83 (.func #[3] #[3, 49] false) := ⟨Tryd.underlying83⟩
instance in84 : Inf Tryd.prog 84 1 8 (.nilFunc) := ⟨_, inf_of Tryd.typeInfo84, rfl, rfl, rfl⟩
instance ty84 : Und Tryd.prog 84 (.func #[5, 3] #[4] false) := ⟨Tryd.underlying84⟩
instance ty85 : Und Tryd.prog 85 (.slice 5) := ⟨Tryd.underlying85⟩
instance in85 : Inf Tryd.prog 85 1 24 (.slice none 0 0) := ⟨_, inf_of Tryd.typeInfo85, rfl, rfl, rfl⟩
instance in86 : Inf Tryd.prog 86 1 8 (.nilFunc) := ⟨_, inf_of Tryd.typeInfo86, rfl, rfl, rfl⟩
instance ty86 : Und Tryd.prog 86 (.func #[42, 3] #[9] false) := ⟨Tryd.underlying86⟩
instance in87 : Inf Tryd.prog 87 1 8 (.nilFunc) := ⟨_, inf_of Tryd.typeInfo87, rfl, rfl, rfl⟩
instance ty87 : Und Tryd.prog 87 (.func #[9, 9, 3, 3] #[59] false) := ⟨Tryd.underlying87⟩
instance in88 : Inf Tryd.prog 88 1 8 (.nilFunc) := ⟨_, inf_of Tryd.typeInfo88, rfl, rfl, rfl⟩
instance ty88 : Und Tryd.prog 88 (.func #[4] #[27] false) := ⟨Tryd.underlying88⟩
instance in89 : Inf Tryd.prog 89 1 8 (.nilFunc) := ⟨_, inf_of Tryd.typeInfo89, rfl, rfl, rfl⟩
instance ty89 : Und Tryd.prog 89 (.func #[9, 9, 3, 3] #[3] false) := ⟨Tryd.underlying89⟩
instance in91 : Inf Tryd.prog 91 1 8 (.nilFunc) := ⟨_, inf_of Tryd.typeInfo91, rfl, rfl, rfl⟩
instance ty91 : Und Tryd.prog 91 (.func #[9, 9] #[9, 4] false) := ⟨Tryd.underlying91⟩
instance in92 : Inf Tryd.prog 92 1 8 (.nilFunc) := ⟨_, inf_of Tryd.typeInfo92, rfl, rfl, rfl⟩
instance ty92 : Und Tryd.prog 92 (.func #[9] #[4] false) := ⟨Tryd.underlying92⟩
instance in93 : Inf Tryd.prog 93 1 8 (.nilFunc) := ⟨_, inf_of Tryd.typeInfo93, rfl, rfl, rfl⟩
instance ty93 : Und Tryd.prog 93 (.func #[51, 51, 94] #[51] false) := ⟨Tryd.underlying93⟩
instance in94 : Inf Tryd.prog 94 1 8 (.nilFunc) := ⟨_, inf_of Tryd.typeInfo94, rfl, rfl, rfl⟩
instance ty94 : Und Tryd.prog 94 (.func #[49, 49] #[49] false) := ⟨Tryd.underlying94⟩
instance in95 : Inf Tryd.prog 95 1 8 (.nilFunc) := ⟨_, inf_of Tryd.typeInfo95, rfl, rfl, rfl⟩
instance ty95 : Und Tryd.prog 95 (.func #[3, 3] #[3] false) := ⟨Tryd.underlying95⟩
instance in96 : Inf Tryd.prog 96 1 8 (.nilFunc) := ⟨_, inf_of Tryd.typeInfo96, rfl, rfl, rfl⟩
instance ty96 : Und Tryd.prog 96 (.func #[2, 3] #[9] false) := ⟨Tryd.underlying96⟩
instance in97 : Inf Tryd.prog 97 1 8 (.nilFunc) := ⟨_, inf_of Tryd.typeInfo97, rfl, rfl, rfl⟩
instance ty97 : Und Tryd.prog 97 (.func #[9, 3] #[59] false) := ⟨Tryd.underlying97⟩
instance in98 : Inf Tryd.prog 98 1 8 (.nilFunc) := ⟨_, inf_of Tryd.typeInfo98, rfl, rfl, rfl⟩
instance ty98 : Und Tryd.prog 98 (.func #[9, 9] #[3] false) := ⟨Tryd.underlying98⟩
instance if99 : IsIfc Tryd.prog 99 := ⟨_, Tryd.underlying99⟩
instance if100 : IsIfc Tryd.prog 100 := ⟨_, Tryd.underlying100⟩
instance in102 : Inf Tryd.prog 102 1 8 (.nilFunc) := ⟨_, inf_of Tryd.typeInfo102, rfl, rfl, rfl⟩
instance ty102 : Und Tryd.prog 102 (.func #[9] #[3, 100] false) := ⟨Tryd.underlying102⟩
instance in104 : Inf Tryd.prog 104 1 8 (.nilFunc) := ⟨_, inf_of Tryd.typeInfo104, rfl, rfl, rfl⟩
instance ty104 : Und Tryd.prog 104 (.func #[9, 9] #[9, 9, 4] false) := ⟨Tryd.underlying104⟩
instance in106 : Inf Tryd.prog 106 1 8 (.nilFunc) := ⟨_, inf_of Tryd.typeInfo106, rfl, rfl, rfl⟩
instance ty106 : Und Tryd.prog 106 (.func #[9] #[42, 27] false) := ⟨Tryd.underlying106⟩
instance in107 : Inf Tryd.prog 107 1 8 (.nilFunc) := ⟨_, inf_of Tryd.typeInfo107, rfl, rfl, rfl⟩
instance ty107 : Und Tryd.prog 107 (.func #[3] #[49] false) := ⟨Tryd.underlying107⟩
instance ty108 : Und Tryd.prog 108 (.array 24 5) := ⟨Tryd.underlying108⟩
instance in108 : Inf Tryd.prog 108 24 24 (.agg #[.int .u8 0, .int .u8 0, .int .u8 0, .int .u8 0, .int .u8 0, .int .u8 0, .int .u8 0, .int .u8 0, .int .u8 0, .int .u8 0, .int .u8 0, .int .u8 0, .int .u8 0, .int .u8 0, .int .u8 0, .int .u8 0, .int .u8 0, .int .u8 0, .int .u8 0, .int .u8 0, .int .u8 0, .int .u8 0, .int .u8 0, .int .u8 0]) := ⟨_, inf_of Tryd.typeInfo108, rfl, rfl, rfl⟩
instance in109 : Inf Tryd.prog 109 1 8 (.nilFunc) := ⟨_, inf_of Tryd.typeInfo109, rfl, rfl, rfl⟩
instance ty109 : Und Tryd.prog 109 (.func #[49] #[3] false) := ⟨Tryd.underlying109⟩
instance in110 : Inf Tryd.prog 110 1 8 (.nilFunc) := ⟨_, inf_of Tryd.typeInfo110, rfl, rfl, rfl⟩
instance ty110 : Und Tryd.prog 110 (.func #[85, 49] #[] false) := ⟨Tryd.underlying110⟩
instance in112 : Inf Tryd.prog 112 1 8 (.nilFunc) := ⟨_, inf_of Tryd.typeInfo112, rfl, rfl, rfl⟩
instance ty112 : Und Tryd.prog 112 (.func #[85, 49, 3, 4, 4] #[85, 9] false) := ⟨Tryd.underlying112⟩
instance in113 : Inf Tryd.prog 113 1 8 (.nilFunc) := ⟨_, inf_of Tryd.typeInfo113, rfl, rfl, rfl⟩
instance ty113 : Und Tryd.prog 113 (.func #[9] #[3] false) := ⟨Tryd.underlying113⟩
instance in115 : Inf Tryd.prog 115 1 8 (.nilFunc) := ⟨_, inf_of Tryd.typeInfo115, rfl, rfl, rfl⟩
instance ty115 : Und Tryd.prog 115 (.func #[9] #[21, 3] false) := ⟨Tryd.underlying115⟩
instance in116 : Inf Tryd.prog 116 1 8 (.nilFunc) := ⟨_, inf_of Tryd.typeInfo116, rfl, rfl, rfl⟩
instance ty116 : Und Tryd.prog 116 (.func #[9, 5] #[3] false) := ⟨Tryd.underlying116⟩
instance in117 : Inf Tryd.prog 117 1 8 (.nilFunc) := ⟨_, inf_of Tryd.typeInfo117, rfl, rfl, rfl⟩
instance ty117 : Und Tryd.prog 117 (.func #[9, 9, 3, 3, 100] #[100] false) := ⟨Tryd.underlying117⟩
instance in118 : Inf Tryd.prog 118 1 8 (.nilFunc) := ⟨_, inf_of Tryd.typeInfo118, rfl, rfl, rfl⟩
instance ty118 : Und Tryd.prog 118 (.func #[9, 9] #[4] false) := ⟨Tryd.underlying118⟩
instance in119 : Inf Tryd.prog 119 1 8 (.nilFunc) := ⟨_, inf_of Tryd.typeInfo119, rfl, rfl, rfl⟩
instance ty119 : Und Tryd.prog 119 (.func #[3] #[3] false) := ⟨Tryd.underlying119⟩
instance in120 : Inf Tryd.prog 120 1 8 (.nilFunc) := ⟨_, inf_of Tryd.typeInfo120, rfl, rfl, rfl⟩
instance ty120 : Und Tryd.prog 120 (.func #[4] #[3] false) := ⟨Tryd.underlying120⟩
instance ty121 : Und Tryd.prog 121 (.array 20 49) := ⟨Tryd.underlying121⟩
instance in121 : Inf Tryd.prog 121 20 160 (.agg #[.int .u64 0, .int .u64 0, .int .u64 0, .int .u64 0, .int .u64 0, .int .u64 0, .int .u64 0, .int .u64 0, .int .u64 0, .int .u64 0, .int .u64 0, .int .u64 0, .int .u64 0, .int .u64 0, .int .u64 0, .int .u64 0, .int .u64 0, .int .u64 0, .int .u64 0, .int .u64 0]) := ⟨_, inf_of Tryd.typeInfo121, rfl, rfl, rfl⟩
instance ty122 : Und Tryd.prog 122 (.int .u32) := ⟨Tryd.underlying122⟩
instance in122 : Inf Tryd.prog 122 1 4 (.int .u32 0) := ⟨_, inf_of Tryd.typeInfo122, rfl, rfl, rfl⟩
instance ty123 : Und Tryd.prog 123 (.array 65 5) := ⟨Tryd.underlying123⟩
instance in123 : Inf Tryd.prog 123 65 65 (.agg #[.int .u8 0, .int .u8 0, .int .u8 0, .int .u8 0, .int .u8 0, .int .u8 0, .int .u8 0, .int .u8 0, .int .u8 0, .int .u8 0, .int .u8 0, .int .u8 0, .int .u8 0, .int .u8 0, .int .u8 0, .int .u8 0, .int .u8 0, .int .u8 0, .int .u8 0, .int .u8 0, .int .u8 0, .int .u8 0, .int .u8 0, .int .u8 0, .int .u8 0, .int .u8 0, .int .u8 0, .int .u8 0, .int .u8 0, .int .u8 0, .int .u8 0, .int .u8 0, .int .u8 0, .int .u8 0, .int .u8 0, .int .u8 0, .int .u8 0, .int .u8 0, .int .u8 0, .int .u8 0, .int .u8 0, .int .u8 0, .int .u8 0, .int .u8 0, .int .u8 0, .int .u8 0, .int .u8 0, .int .u8 0, .int .u8 0, .int .u8 0, .int .u8 0, .int .u8 0, .int .u8 0, .int .u8 0, .int .u8 0, .int .u8 0, .int .u8 0, .int .u8 0, .int .u8 0, .int .u8 0, .int .u8 0, .int .u8 0, .int .u8 0, .int .u8 0, .int .u8 0]) := ⟨_, inf_of Tryd.typeInfo123, rfl, rfl, rfl⟩
instance ty124 : Und Tryd.prog 124 (.int .u64) := ⟨Tryd.underlying124⟩
instance in124 : Inf Tryd.prog 124 1 8 (.int .u64 0) := ⟨_, inf_of Tryd.typeInfo124, rfl, rfl, rfl⟩
instance in125 : Inf Tryd.prog 125 1 8 (.nilFunc) := ⟨_, inf_of Tryd.typeInfo125, rfl, rfl, rfl⟩
instance ty125 : Und Tryd.prog 125 (.func #[124] #[3] false) := ⟨Tryd.underlying125⟩
instance ty126 : Und Tryd.prog 126 (.int .i64) := ⟨Tryd.underlying126⟩
instance in126 : Inf Tryd.prog 126 1 8 (.int .i64 0) := ⟨_, inf_of Tryd.typeInfo126, rfl, rfl, rfl⟩
instance in128 : Inf Tryd.prog 128 1 8 (.nilFunc) := ⟨_, inf_of Tryd.typeInfo128, rfl, rfl, rfl⟩
instance ty128 : Und Tryd.prog 128 (.func #[9, 3, 3] #[2, 100] false) := ⟨Tryd.underlying128⟩
instance ty129 : Und Tryd.prog 129 (.pointer 143) := ⟨Tryd.underlying129⟩
instance in129 : Inf Tryd.prog 129 1 8 (.pointer none) := ⟨_, inf_of Tryd.typeInfo129, rfl, rfl, rfl⟩
instance in130 : Inf Tryd.prog 130 1 8 (.nilFunc) := ⟨_, inf_of Tryd.typeInfo130, rfl, rfl, rfl⟩
instance ty130 : Und Tryd.prog 130 (.func #[9, 9] #[129] false) := ⟨Tryd.underlying130⟩
instance in131 : Inf Tryd.prog 131 1 8 (.nilFunc) := ⟨_, inf_of Tryd.typeInfo131, rfl, rfl, rfl⟩
instance ty131 : Und Tryd.prog 131 (.func #[9, 9, 3] #[129] false) := ⟨Tryd.underlying131⟩
instance in132 : Inf Tryd.prog 132 1 8 (.nilFunc) := ⟨_, inf_of Tryd.typeInfo132, rfl, rfl, rfl⟩
instance ty132 : Und Tryd.prog 132 (.func #[122] #[3] false) := ⟨Tryd.underlying132⟩
instance ty133 : Und Tryd.prog 133 (.array 256 5) := ⟨Tryd.underlying133⟩
instance in133 : Inf Tryd.prog 133 256 256 (.agg #[.int .u8 0, .int .u8 0, .int .u8 0, .int .u8 0, .int .u8 0, .int .u8 0, .int .u8 0, .int .u8 0, .int .u8 0, .int .u8 0, .int .u8 0, .int .u8 0, .int .u8 0, .int .u8 0, .int .u8 0, .int .u8 0, .int .u8 0, .int .u8 0, .int .u8 0, .int .u8 0, .int .u8 0, .int .u8 0, .int .u8 0, .int .u8 0, .int .u8 0, .int .u8 0, .int .u8 0, .int .u8 0, .int .u8 0, .int .u8 0, .int .u8 0, .int .u8 0, .int .u8 0, .int .u8 0, .int .u8 0, .int .u8 0, .int .u8 0, .int .u8 0, .int .u8 0, .int .u8 0, .int .u8 0, .int .u8 0, .int .u8 0, .int .u8 0, .int .u8 0, .int .u8 0, .int .u8 0, .int .u8 0, .int .u8 0, .int .u8 0, .int .u8 0, .int .u8 0, .int .u8 0, .int .u8 0, .int .u8 0, .int .u8 0, .int .u8 0, .int .u8 0, .int .u8 0, .int .u8 0, .int .u8 0, .int .u8 0, .int .u8 0, .int .u8 0, .int .u8 0, .int .u8 0, .int .u8 0, .int .u8 0, .int .u8 0, .int .u8 0, .int .u8 0, .int .u8 0, .int .u8 0, .int .u8 0, .int .u8 0, .int .u8 0, .int .u8 0, .int .u8 0, .int .u8 0, .int .u8 0, .int .u8 0, .int .u8 0, .int .u8 0, .int .u8 0, .int .u8 0, .int .u8 0, .int .u8 0, .int .u8 0, .int .u8 0, .int .u8 0, .int .u8 0, .int .u8 0, .int .u8 0, .int .u8 0, .int .u8 0, .int .u8 0, .int .u8 0, .int .u8 0, .int .u8 0, .int .u8 0, .int .u8 0, .int .u8 0, .int .u8 0, .int .u8 0, .int .u8 0, .int .u8 0, .int .u8 0, .int .u8 0, .int .u8 0, .int .u8 0, .int .u8 0, .int .u8 0, .int .u8 0, .int .u8 0, .int .u8 0, .int .u8 0, .int .u8 0, .int .u8 0, .int .u8 0, .int .u8 0, .int .u8 0, .int .u8 0, .int .u8 0, .int .u8 0, .int .u8 0, .int .u8 0, .int .u8 0, .int .u8 0, .int .u8 0, .int .u8 0, .int .u8 0, .int .u8 0, .int .u8 0, .int .u8 0, .int .u8 0, .int .u8 0, .int .u8 0, .int .u8 0, .int .u8 0, .int .u8 0, .int .u8 0, .int .u8 0, .int .u8 0, .int .u8 0, .int .u8 0, .int .u8 0, .int .u8 0, .int .u8 0, .int .u8 0, .int .u8 0, .int .u8 0, .int .u8 0, .int .u8 0, .int .u8 0, .int .u8 0, .int .u8 0, .int .u8 0, .int .u8 0, .int .u8 0, .int .u8 0, .int .u8 0, .int .u8 0, .int .u8 0, .int .u8 0, .int .u8 0, .int .u8 0, .int .u8 0, .int .u8 0, .int .u8 0, .int .u8 0, .int .u8 0, .int .u8 0, .int .u8 0, .int .u8 0, .int .u8 0, .int .u8 0, .int .u8 0, .int .u8 0, .int .u8 0, .int .u8 0, .int .u8 0, .int .u8 0, .int .u8 0, .int .u8 0, .int .u8 0, .int .u8 0, .int .u8 0, .int .u8 0, .int .u8 0, .int .u8 0, .int .u8 0, .int .u8 0, .int .u8 0, .int .u8 0, .int .u8 0, .int .u8 0, .int .u8 0, .int .u8 0, .int .u8 0, .int .u8 0, .int .u8 0, .int .u8 0, .int .u8 0, .int .u8 0, .int .u8 0, .int .u8 0, .int .u8 0, .int .u8 0, .int .u8 0, .int .u8 0, .int .u8 0, .int .u8 0, .int .u8 0, .int .u8 0, .int .u8 0, .int .u8 0, .int .u8 0, .int .u8 0, .int .u8 0, .int .u8 0, .int .u8 0, .int .u8 0, .int .u8 0, .int .u8 0, .int .u8 0, .int .u8 0, .int .u8 0, .int .u8 0, .int .u8 0, .int .u8 0, .int .u8 0, .int .u8 0, .int .u8 0, .int .u8 0, .int .u8 0, .int .u8 0, .int .u8 0, .int .u8 0, .int .u8 0, .int .u8 0, .int .u8 0, .int .u8 0, .int .u8 0, .int .u8 0, .int .u8 0, .int .u8 0, .int .u8 0, .int .u8 0, .int .u8 0, .int .u8 0, .int .u8 0, .int .u8 0, .int .u8 0, .int .u8 0, .int .u8 0, .int .u8 0]) := ⟨_, inf_of Tryd.typeInfo133, rfl, rfl, rfl⟩
instance ty134 : Und Tryd.prog 134 (.struct #[⟨"lo", 5, 0, false, "", "unicode/utf8", 0⟩, ⟨"hi", 5, 1, false, "", "unicode/utf8", 1⟩]) := ⟨Tryd.underlying134⟩
instance in134 : Inf Tryd.prog 134 2 2 (.agg #[.int .u8 0, .int .u8 0]) := ⟨_, inf_of Tryd.typeInfo134, rfl, rfl, rfl⟩
instance ty135 : Und Tryd.prog 135 (.struct #[⟨"lo", 5, 0, false, "", "unicode/utf8", 0⟩, ⟨"hi", 5, 1, false, "", "unicode/utf8", 1⟩]) := ⟨Tryd.underlying135⟩
instance in135 : Inf Tryd.prog 135 2 2 (.agg #[.int .u8 0, .int .u8 0]) := ⟨_, inf_of Tryd.typeInfo135, rfl, rfl, rfl⟩
instance ty136 : Und Tryd.prog 136 (.array 16 135) := ⟨Tryd.underlying136⟩
instance in136 : Inf Tryd.prog 136 32 32 (.agg #[.int .u8 0, .int .u8 0, .int .u8 0, .int .u8 0, .int .u8 0, .int .u8 0, .int .u8 0, .int .u8 0, .int .u8 0, .int .u8 0, .int .u8 0, .int .u8 0, .int .u8 0, .int .u8 0, .int .u8 0, .int .u8 0, .int .u8 0, .int .u8 0, .int .u8 0, .int .u8 0, .int .u8 0, .int .u8 0, .int .u8 0, .int .u8 0, .int .u8 0, .int .u8 0, .int .u8 0, .int .u8 0, .int .u8 0, .int .u8 0, .int .u8 0, .int .u8 0]) := ⟨_, inf_of Tryd.typeInfo136, rfl, rfl, rfl⟩
instance in138 : Inf Tryd.prog 138 1 8 (.nilFunc) := ⟨_, inf_of Tryd.typeInfo138, rfl, rfl, rfl⟩
instance ty138 : Und Tryd.prog 138 (.func #[9] #[122, 122] false) := ⟨Tryd.underlying138⟩
instance in140 : Inf Tryd.prog 140 1 8 (.nilFunc) := ⟨_, inf_of Tryd.typeInfo140, rfl, rfl, rfl⟩
instance ty140 : Und Tryd.prog 140 (.func #[9, 3, 3] #[49, 100] false) := ⟨Tryd.underlying140⟩
instance in141 : Inf Tryd.prog 141 1 8 (.nilFunc) := ⟨_, inf_of Tryd.typeInfo141, rfl, rfl, rfl⟩
instance ty141 : Und Tryd.prog 141 (.func #[9] #[9] false) := ⟨Tryd.underlying141⟩
instance ty142 : Und Tryd.prog 142 (.struct #[⟨"Func", 9, 0, false, "", "", 0⟩, ⟨"Num", 9, 1, false, "", "", 16⟩, ⟨"Err", 100, 2, false, "", "", 32⟩]) := ⟨Tryd.underlying142⟩
instance in142 : Inf Tryd.prog 142 3 48 (.agg #[.string ⟨#[]⟩, .string ⟨#[]⟩, .nilIface]) := ⟨_, inf_of Tryd.typeInfo142, rfl, rfl, rfl⟩
instance ty143 : Und Tryd.prog 143 (.struct #[⟨"Func", 9, 0, false, "", "", 0⟩, ⟨"Num", 9, 1, false, "", "", 16⟩, ⟨"Err", 100, 2, false, "", "", 32⟩]) := ⟨Tryd.underlying143⟩
instance in143 : Inf Tryd.prog 143 3 48 (.agg #[.string ⟨#[]⟩, .string ⟨#[]⟩, .nilIface]) := ⟨_, inf_of Tryd.typeInfo143, rfl, rfl, rfl⟩
instance in144 : Inf Tryd.prog 144 1 8 (.nilFunc) := ⟨_, inf_of Tryd.typeInfo144, rfl, rfl, rfl⟩
instance ty144 : Und Tryd.prog 144 (.func #[9] #[100] false) := ⟨Tryd.underlying144⟩
instance ty145 : Und Tryd.prog 145 (.array 32 5) := ⟨Tryd.underlying145⟩
instance in145 : Inf Tryd.prog 145 32 32 (.agg #[.int .u8 0, .int .u8 0, .int .u8 0, .int .u8 0, .int .u8 0, .int .u8 0, .int .u8 0, .int .u8 0, .int .u8 0, .int .u8 0, .int .u8 0, .int .u8 0, .int .u8 0, .int .u8 0, .int .u8 0, .int .u8 0, .int .u8 0, .int .u8 0, .int .u8 0, .int .u8 0, .int .u8 0, .int .u8 0, .int .u8 0, .int .u8 0, .int .u8 0, .int .u8 0, .int .u8 0, .int .u8 0, .int .u8 0, .int .u8 0, .int .u8 0, .int .u8 0]) := ⟨_, inf_of Tryd.typeInfo145, rfl, rfl, rfl⟩
instance ty146 : Und Tryd.prog 146 (.array 64 5) := ⟨Tryd.underlying146⟩
instance in146 : Inf Tryd.prog 146 64 64 (.agg #[.int .u8 0, .int .u8 0, .int .u8 0, .int .u8 0, .int .u8 0, .int .u8 0, .int .u8 0, .int .u8 0, .int .u8 0, .int .u8 0, .int .u8 0, .int .u8 0, .int .u8 0, .int .u8 0, .int .u8 0, .int .u8 0, .int .u8 0, .int .u8 0, .int .u8 0, .int .u8 0, .int .u8 0, .int .u8 0, .int .u8 0, .int .u8 0, .int .u8 0, .int .u8 0, .int .u8 0, .int .u8 0, .int .u8 0, .int .u8 0, .int .u8 0, .int .u8 0, .int .u8 0, .int .u8 0, .int .u8 0, .int .u8 0, .int .u8 0, .int .u8 0, .int .u8 0, .int .u8 0, .int .u8 0, .int .u8 0, .int .u8 0, .int .u8 0, .int .u8 0, .int .u8 0, .int .u8 0, .int .u8 0, .int .u8 0, .int .u8 0, .int .u8 0, .int .u8 0, .int .u8 0, .int .u8 0, .int .u8 0, .int .u8 0, .int .u8 0, .int .u8 0, .int .u8 0, .int .u8 0, .int .u8 0, .int .u8 0, .int .u8 0, .int .u8 0]) := ⟨_, inf_of Tryd.typeInfo146, rfl, rfl, rfl⟩
instance in147 : Inf Tryd.prog 147 1 8 (.nilFunc) := ⟨_, inf_of Tryd.typeInfo147, rfl, rfl, rfl⟩
instance ty147 : Und Tryd.prog 147 (.func #[5] #[5] false) := ⟨Tryd.underlying147⟩
instance ty148 : Und Tryd.prog 148 (.pointer 5) := ⟨Tryd.underlying148⟩
instance in148 : Inf Tryd.prog 148 1 8 (.pointer none) := ⟨_, inf_of Tryd.typeInfo148, rfl, rfl, rfl⟩
instance ty149 : Und Tryd.prog 149 (.pointer 151) := ⟨Tryd.underlying149⟩
instance in149 : Inf Tryd.prog 149 1 8 (.pointer none) := ⟨_, inf_of Tryd.typeInfo149, rfl, rfl, rfl⟩
instance ty150 : Und Tryd.prog 150 (.struct #[⟨"s", 9, 0, false, "", "errors", 0⟩]) := ⟨Tryd.underlying150⟩
instance in150 : Inf Tryd.prog 150 1 16 (.agg #[.string ⟨#[]⟩]) := ⟨_, inf_of Tryd.typeInfo150, rfl, rfl, rfl⟩
instance ty151 : Und Tryd.prog 151 (.struct #[⟨"s", 9, 0, false, "", "errors", 0⟩]) := ⟨Tryd.underlying151⟩
instance in151 : Inf Tryd.prog 151 1 16 (.agg #[.string ⟨#[]⟩]) := ⟨_, inf_of Tryd.typeInfo151, rfl, rfl, rfl⟩
instance in152 : Inf Tryd.prog 152 1 8 (.nilFunc) := ⟨_, inf_of Tryd.typeInfo152, rfl, rfl, rfl⟩
instance ty152 : Und Tryd.prog 152 (.func #[] #[9] false) := ⟨Tryd.underlying152⟩
instance in158 : Inf Tryd.prog 158 1 8 (.nilFunc) := ⟨_, inf_of Tryd.typeInfo158, rfl, rfl, rfl⟩
instance ty158 : Und Tryd.prog 158 (.func #[] #[3] false) := ⟨Tryd.underlying158⟩
instance in161 : Inf Tryd.prog 161 1 8 (.nilFunc) := ⟨_, inf_of Tryd.typeInfo161, rfl, rfl, rfl⟩
instance ty161 : Und Tryd.prog 161 (.func #[166, 166] #[4] false) := ⟨Tryd.underlying161⟩
instance ty166 : Und Tryd.prog 166 (.unsafePointer) := ⟨Tryd.underlying166⟩
instance in166 : Inf Tryd.prog 166 1 8 (.pointer none) := ⟨_, inf_of Tryd.typeInfo166, rfl, rfl, rfl⟩
instance fl13_0 : Fld Tryd.prog 13 0 0 := ⟨_, _, _, _, _, Tryd.underlying13, rfl, rfl, in9, by decide⟩
instance fl13_1 : Fld Tryd.prog 13 1 1 := ⟨_, _, _, _, _, Tryd.underlying13, rfl, rfl, in12, by decide⟩
instance pl13 : Plc Tryd.prog 13 (fun i => (#[(0, 1), (1, 1)] : Array (Nat × Nat))[i]?) := ⟨.inl ⟨_, _, Tryd.underlying13, fun w => by simp [run_sizeOf], rfl⟩⟩
instance fl23_0 : Fld Tryd.prog 23 0 0 := ⟨_, _, _, _, _, Tryd.underlying23, rfl, rfl, in3, by decide⟩
instance fl23_1 : Fld Tryd.prog 23 1 1 := ⟨_, _, _, _, _, Tryd.underlying23, rfl, rfl, in3, by decide⟩
instance fl23_2 : Fld Tryd.prog 23 2 2 := ⟨_, _, _, _, _, Tryd.underlying23, rfl, rfl, in3, by decide⟩
instance fl23_3 : Fld Tryd.prog 23 3 3 := ⟨_, _, _, _, _, Tryd.underlying23, rfl, rfl, in22, by decide⟩
instance pl23 : Plc Tryd.prog 23 (fun i => (#[(0, 1), (1, 1), (2, 1), (3, 1)] : Array (Nat × Nat))[i]?) := ⟨.inl ⟨_, _, Tryd.underlying23, fun w => by simp [run_sizeOf], rfl⟩⟩
instance fl24_0 : Fld Tryd.prog 24 0 0 := ⟨_, _, _, _, _, Tryd.underlying24, rfl, rfl, in3, by decide⟩
instance fl24_1 : Fld Tryd.prog 24 1 1 := ⟨_, _, _, _, _, Tryd.underlying24, rfl, rfl, in3, by decide⟩
instance fl24_2 : Fld Tryd.prog 24 2 2 := ⟨_, _, _, _, _, Tryd.underlying24, rfl, rfl, in3, by decide⟩
instance fl24_3 : Fld Tryd.prog 24 3 3 := ⟨_, _, _, _, _, Tryd.underlying24, rfl, rfl, in22, by decide⟩
instance pl24 : Plc Tryd.prog 24 (fun i => (#[(0, 1), (1, 1), (2, 1), (3, 1)] : Array (Nat × Nat))[i]?) := ⟨.inl ⟨_, _, Tryd.underlying24, fun w => by simp [run_sizeOf], rfl⟩⟩
instance fl36_0 : Fld Tryd.prog 36 0 0 := ⟨_, _, _, _, _, Tryd.underlying36, rfl, rfl, in3, by decide⟩
instance fl36_1 : Fld Tryd.prog 36 1 1 := ⟨_, _, _, _, _, Tryd.underlying36, rfl, rfl, in35, by decide⟩
instance fl36_2 : Fld Tryd.prog 36 2 2 := ⟨_, _, _, _, _, Tryd.underlying36, rfl, rfl, in35, by decide⟩
instance pl36 : Plc Tryd.prog 36 (fun i => (#[(0, 1), (1, 1), (2, 1)] : Array (Nat × Nat))[i]?) := ⟨.inl ⟨_, _, Tryd.underlying36, fun w => by simp [run_sizeOf], rfl⟩⟩
instance fl37_0 : Fld Tryd.prog 37 0 0 := ⟨_, _, _, _, _, Tryd.underlying37, rfl, rfl, in3, by decide⟩
instance fl37_1 : Fld Tryd.prog 37 1 1 := ⟨_, _, _, _, _, Tryd.underlying37, rfl, rfl, in35, by decide⟩
instance fl37_2 : Fld Tryd.prog 37 2 2 := ⟨_, _, _, _, _, Tryd.underlying37, rfl, rfl, in35, by decide⟩
instance pl37 : Plc Tryd.prog 37 (fun i => (#[(0, 1), (1, 1), (2, 1)] : Array (Nat × Nat))[i]?) := ⟨.inl ⟨_, _, Tryd.underlying37, fun w => by simp [run_sizeOf], rfl⟩⟩
instance fl41_0 : Fld Tryd.prog 41 0 0 := ⟨_, _, _, _, _, Tryd.underlying41, rfl, rfl, in5, by decide⟩
instance fl41_1 : Fld Tryd.prog 41 1 1 := ⟨_, _, _, _, _, Tryd.underlying41, rfl, rfl, in5, by decide⟩
instance pl41 : Plc Tryd.prog 41 (fun i => (#[(0, 1), (1, 1)] : Array (Nat × Nat))[i]?) := ⟨.inl ⟨_, _, Tryd.underlying41, fun w => by simp [run_sizeOf], rfl⟩⟩
instance fl42_0 : Fld Tryd.prog 42 0 0 := ⟨_, _, _, _, _, Tryd.underlying42, rfl, rfl, in5, by decide⟩
instance fl42_1 : Fld Tryd.prog 42 1 1 := ⟨_, _, _, _, _, Tryd.underlying42, rfl, rfl, in5, by decide⟩
instance pl42 : Plc Tryd.prog 42 (fun i => (#[(0, 1), (1, 1)] : Array (Nat × Nat))[i]?) := ⟨.inl ⟨_, _, Tryd.underlying42, fun w => by simp [run_sizeOf], rfl⟩⟩
instance fl44_0 : Fld Tryd.prog 44 0 0 := ⟨_, _, _, _, _, Tryd.underlying44, rfl, rfl, in42, by decide⟩
instance fl44_1 : Fld Tryd.prog 44 1 2 := ⟨_, _, _, _, _, Tryd.underlying44, rfl, rfl, in43, by decide⟩
instance pl44 : Plc Tryd.prog 44 (fun i => (#[(0, 2), (2, 1)] : Array (Nat × Nat))[i]?) := ⟨.inl ⟨_, _, Tryd.underlying44, fun w => by simp [run_sizeOf], rfl⟩⟩
instance fl45_0 : Fld Tryd.prog 45 0 0 := ⟨_, _, _, _, _, Tryd.underlying45, rfl, rfl, in42, by decide⟩
instance fl45_1 : Fld Tryd.prog 45 1 2 := ⟨_, _, _, _, _, Tryd.underlying45, rfl, rfl, in43, by decide⟩
instance pl45 : Plc Tryd.prog 45 (fun i => (#[(0, 2), (2, 1)] : Array (Nat × Nat))[i]?) := ⟨.inl ⟨_, _, Tryd.underlying45, fun w => by simp [run_sizeOf], rfl⟩⟩
instance fl46_0 : Fld Tryd.prog 46 0 0 := ⟨_, _, _, _, _, Tryd.underlying46, rfl, rfl, in42, by decide⟩
instance fl46_1 : Fld Tryd.prog 46 1 2 := ⟨_, _, _, _, _, Tryd.underlying46, rfl, rfl, in5, by decide⟩
instance pl46 : Plc Tryd.prog 46 (fun i => (#[(0, 2), (2, 1)] : Array (Nat × Nat))[i]?) := ⟨.inl ⟨_, _, Tryd.underlying46, fun w => by simp [run_sizeOf], rfl⟩⟩
instance fl47_0 : Fld Tryd.prog 47 0 0 := ⟨_, _, _, _, _, Tryd.underlying47, rfl, rfl, in42, by decide⟩
instance fl47_1 : Fld Tryd.prog 47 1 2 := ⟨_, _, _, _, _, Tryd.underlying47, rfl, rfl, in5, by decide⟩
instance pl47 : Plc Tryd.prog 47 (fun i => (#[(0, 2), (2, 1)] : Array (Nat × Nat))[i]?) := ⟨.inl ⟨_, _, Tryd.underlying47, fun w => by simp [run_sizeOf], rfl⟩⟩
instance pl50 : Plc Tryd.prog 50 (fun i => some (i * 1, 1)) := ⟨.inr ⟨_, _, _, _, _, Tryd.underlying50, in49, rfl⟩⟩
instance ar50 : Arr Tryd.prog 50 4 1 := ⟨_, _, _, Tryd.underlying50, in49⟩
instance pl51 : Plc Tryd.prog 51 (fun i => some (i * 1, 1)) := ⟨.inr ⟨_, _, _, _, _, Tryd.underlying51, in49, rfl⟩⟩
instance ar51 : Arr Tryd.prog 51 4 1 := ⟨_, _, _, Tryd.underlying51, in49⟩
instance fl64_0 : Fld Tryd.prog 64 0 0 := ⟨_, _, _, _, _, Tryd.underlying64, rfl, rfl, in24, by decide⟩
instance fl64_1 : Fld Tryd.prog 64 1 4 := ⟨_, _, _, _, _, Tryd.underlying64, rfl, rfl, in3, by decide⟩
instance fl64_2 : Fld Tryd.prog 64 2 5 := ⟨_, _, _, _, _, Tryd.underlying64, rfl, rfl, in3, by decide⟩
instance pl64 : Plc Tryd.prog 64 (fun i => (#[(0, 4), (4, 1), (5, 1)] : Array (Nat × Nat))[i]?) := ⟨.inl ⟨_, _, Tryd.underlying64, fun w => by simp [run_sizeOf], rfl⟩⟩
instance fl65_0 : Fld Tryd.prog 65 0 0 := ⟨_, _, _, _, _, Tryd.underlying65, rfl, rfl, in24, by decide⟩
instance fl65_1 : Fld Tryd.prog 65 1 4 := ⟨_, _, _, _, _, Tryd.underlying65, rfl, rfl, in3, by decide⟩
instance fl65_2 : Fld Tryd.prog 65 2 5 := ⟨_, _, _, _, _, Tryd.underlying65, rfl, rfl, in3, by decide⟩
instance pl65 : Plc Tryd.prog 65 (fun i => (#[(0, 4), (4, 1), (5, 1)] : Array (Nat × Nat))[i]?) := ⟨.inl ⟨_, _, Tryd.underlying65, fun w => by simp [run_sizeOf], rfl⟩⟩
instance fl70_0 : Fld Tryd.prog 70 0 0 := ⟨_, _, _, _, _, Tryd.underlying70, rfl, rfl, in69, by decide⟩
instance fl70_1 : Fld Tryd.prog 70 1 1 := ⟨_, _, _, _, _, Tryd.underlying70, rfl, rfl, in4, by decide⟩
instance pl70 : Plc Tryd.prog 70 (fun i => (#[(0, 1), (1, 1)] : Array (Nat × Nat))[i]?) := ⟨.inl ⟨_, _, Tryd.underlying70, fun w => by simp [run_sizeOf], rfl⟩⟩
instance fl71_0 : Fld Tryd.prog 71 0 0 := ⟨_, _, _, _, _, Tryd.underlying71, rfl, rfl, in69, by decide⟩
instance fl71_1 : Fld Tryd.prog 71 1 1 := ⟨_, _, _, _, _, Tryd.underlying71, rfl, rfl, in4, by decide⟩
instance pl71 : Plc Tryd.prog 71 (fun i => (#[(0, 1), (1, 1)] : Array (Nat × Nat))[i]?) := ⟨.inl ⟨_, _, Tryd.underlying71, fun w => by simp [run_sizeOf], rfl⟩⟩
instance pl72 : Plc Tryd.prog 72 (fun i => some (i * 2, 2)) := ⟨.inr ⟨_, _, _, _, _, Tryd.underlying72, in71, rfl⟩⟩
instance ar72 : Arr Tryd.prog 72 4 2 := ⟨_, _, _, Tryd.underlying72, in71⟩
instance pl108 : Plc Tryd.prog 108 (fun i => some (i * 1, 1)) := ⟨.inr ⟨_, _, _, _, _, Tryd.underlying108, in5, rfl⟩⟩
instance ar108 : Arr Tryd.prog 108 24 1 := ⟨_, _, _, Tryd.underlying108, in5⟩
instance pl121 : Plc Tryd.prog 121 (fun i => some (i * 1, 1)) := ⟨.inr ⟨_, _, _, _, _, Tryd.underlying121, in49, rfl⟩⟩
instance ar121 : Arr Tryd.prog 121 20 1 := ⟨_, _, _, Tryd.underlying121, in49⟩
instance pl123 : Plc Tryd.prog 123 (fun i => some (i * 1, 1)) := ⟨.inr ⟨_, _, _, _, _, Tryd.underlying123, in5, rfl⟩⟩
instance ar123 : Arr Tryd.prog 123 65 1 := ⟨_, _, _, Tryd.underlying123, in5⟩
instance pl133 : Plc Tryd.prog 133 (fun i => some (i * 1, 1)) := ⟨.inr ⟨_, _, _, _, _, Tryd.underlying133, in5, rfl⟩⟩
instance ar133 : Arr Tryd.prog 133 256 1 := ⟨_, _, _, Tryd.underlying133, in5⟩
instance fl134_0 : Fld Tryd.prog 134 0 0 := ⟨_, _, _, _, _, Tryd.underlying134, rfl, rfl, in5, by decide⟩
instance fl134_1 : Fld Tryd.prog 134 1 1 := ⟨_, _, _, _, _, Tryd.underlying134, rfl, rfl, in5, by decide⟩
instance pl134 : Plc Tryd.prog 134 (fun i => (#[(0, 1), (1, 1)] : Array (Nat × Nat))[i]?) := ⟨.inl ⟨_, _, Tryd.underlying134, fun w => by simp [run_sizeOf], rfl⟩⟩
instance fl135_0 : Fld Tryd.prog 135 0 0 := ⟨_, _, _, _, _, Tryd.underlying135, rfl, rfl, in5, by decide⟩
instance fl135_1 : Fld Tryd.prog 135 1 1 := ⟨_, _, _, _, _, Tryd.underlying135, rfl, rfl, in5, by decide⟩
instance pl135 : Plc Tryd.prog 135 (fun i => (#[(0, 1), (1, 1)] : Array (Nat × Nat))[i]?) := ⟨.inl ⟨_, _, Tryd.underlying135, fun w => by simp [run_sizeOf], rfl⟩⟩
instance pl136 : Plc Tryd.prog 136 (fun i => some (i * 2, 2)) := ⟨.inr ⟨_, _, _, _, _, Tryd.underlying136, in135, rfl⟩⟩
instance ar136 : Arr Tryd.prog 136 16 2 := ⟨_, _, _, Tryd.underlying136, in135⟩
instance fl142_0 : Fld Tryd.prog 142 0 0 := ⟨_, _, _, _, _, Tryd.underlying142, rfl, rfl, in9, by decide⟩
instance fl142_1 : Fld Tryd.prog 142 1 1 := ⟨_, _, _, _, _, Tryd.underlying142, rfl, rfl, in9, by decide⟩
instance fl143_0 : Fld Tryd.prog 143 0 0 := ⟨_, _, _, _, _, Tryd.underlying143, rfl, rfl, in9, by decide⟩
instance fl143_1 : Fld Tryd.prog 143 1 1 := ⟨_, _, _, _, _, Tryd.underlying143, rfl, rfl, in9, by decide⟩
instance pl145 : Plc Tryd.prog 145 (fun i => some (i * 1, 1)) := ⟨.inr ⟨_, _, _, _, _, Tryd.underlying145, in5, rfl⟩⟩
instance ar145 : Arr Tryd.prog 145 32 1 := ⟨_, _, _, Tryd.underlying145, in5⟩
instance pl146 : Plc Tryd.prog 146 (fun i => some (i * 1, 1)) := ⟨.inr ⟨_, _, _, _, _, Tryd.underlying146, in5, rfl⟩⟩
instance ar146 : Arr Tryd.prog 146 64 1 := ⟨_, _, _, Tryd.underlying146, in5⟩
instance fl150_0 : Fld Tryd.prog 150 0 0 := ⟨_, _, _, _, _, Tryd.underlying150, rfl, rfl, in9, by decide⟩
instance pl150 : Plc Tryd.prog 150 (fun i => (#[(0, 1)] : Array (Nat × Nat))[i]?) := ⟨.inl ⟨_, _, Tryd.underlying150, fun w => by simp [run_sizeOf], rfl⟩⟩
instance fl151_0 : Fld Tryd.prog 151 0 0 := ⟨_, _, _, _, _, Tryd.underlying151, rfl, rfl, in9, by decide⟩
instance pl151 : Plc Tryd.prog 151 (fun i => (#[(0, 1)] : Array (Nat × Nat))[i]?) := ⟨.inl ⟨_, _, Tryd.underlying151, fun w => by simp [run_sizeOf], rfl⟩⟩
end Go.Proofs.YtbkojmcppeflbaaDoor
