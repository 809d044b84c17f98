/-
  What this text proves: the facts on the program's types that the evaluator of 'Sx' wants ('T_ok').
  Conditions: none.
-/
import Derived.Test.YtmmlpaehehgfnaaProg
import Derived.Test.YtmmlpaehehgfnaaEq
namespace Go.Proofs.Ytmmlpaehehgfnaa.Sx
set_option linter.unusedSimpArgs false
set_option linter.unusedVariables false
set_option maxRecDepth 100000

def ty56 : TE := ⟨56, .str [(0, 1, false), (1, 1, false), (2, 1, false)], 3, [.int .i64 0, .int .i64 0, .bool false]⟩
def ty3 : TE := ⟨3, .scal, 1, [.int .i64 0]⟩
def ty79 : TE := ⟨79, .str [(0, 3, true), (3, 3, true), (6, 3, true)], 9, [.int .i64 0, .int .i64 0, .bool false, .int .i64 0, .int .i64 0, .bool false, .int .i64 0, .int .i64 0, .bool false]⟩
def ty76 : TE := ⟨76, .str [(0, 1, false), (1, 3, true)], 4, [.slice none 0 0, .int .i64 0, .int .i64 0, .bool false]⟩
def ty133 : TE := ⟨133, .str [(0, 1, false), (1, 1, false)], 2, [.int .i64 0, .int .i64 0]⟩
def ty81 : TE := ⟨81, .str [(0, 9, true), (9, 9, true)], 18, [.int .i64 0, .int .i64 0, .bool false, .int .i64 0, .int .i64 0, .bool false, .int .i64 0, .int .i64 0, .bool false, .int .i64 0, .int .i64 0, .bool false, .int .i64 0, .int .i64 0, .bool false, .int .i64 0, .int .i64 0, .bool false]⟩
def ty84 : TE := ⟨84, .str [(0, 1, false), (1, 1, false), (2, 3, true), (5, 3, true), (8, 3, true), (11, 3, true), (14, 3, true), (17, 3, true), (20, 3, true)], 23, [.bool false, .bool false, .int .i64 0, .int .i64 0, .bool false, .int .i64 0, .int .i64 0, .bool false, .int .i64 0, .int .i64 0, .bool false, .int .i64 0, .int .i64 0, .bool false, .int .i64 0, .int .i64 0, .bool false, .int .i64 0, .int .i64 0, .bool false, .int .i64 0, .int .i64 0, .bool false]⟩
def ty175 : TE := ⟨175, .str [(0, 1, false), (1, 2, true), (3, 2, true), (5, 2, true), (7, 2, true), (9, 2, true), (11, 2, true), (13, 1, false)], 14, [.bool false, .int .i64 0, .int .i64 0, .int .i64 0, .int .i64 0, .int .i64 0, .int .i64 0, .int .i64 0, .int .i64 0, .int .i64 0, .int .i64 0, .int .i64 0, .int .i64 0, .string ⟨#[]⟩]⟩
def ty47 : TE := ⟨47, .str [(0, 1, false), (1, 1, false)], 2, [.complex .f64 0 0, .complex .f64 0 0]⟩
def ty100 : TE := ⟨100, .str [(0, 1, false), (1, 1, false), (2, 1, false), (3, 1, false), (4, 1, false), (5, 1, false)], 6, [.int .i64 0, .int .i64 0, .int .i64 0, .bool false, .complex .f64 0 0, .complex .f64 0 0]⟩
def ty26 : TE := ⟨26, .str [(0, 1, false), (1, 1, false)], 2, [.int .i64 0, .int .i64 0]⟩
def ty136 : TE := ⟨136, .str [(0, 1, false), (1, 2, true), (3, 1, false)], 4, [.string ⟨#[]⟩, .int .i64 0, .int .i64 0, .slice none 0 0]⟩
def ty113 : TE := ⟨113, .str [(0, 1, false), (1, 1, false), (2, 3, true), (5, 3, true), (8, 3, true)], 11, [.int .i64 0, .int .i64 0, .int .i64 0, .int .i64 0, .bool false, .int .i64 0, .int .i64 0, .bool false, .int .i64 0, .int .i64 0, .bool false]⟩
def ty134 : TE := ⟨134, .slc .face 120 175, 1, [.slice none 0 0]⟩
def ty74 : TE := ⟨74, .slc .surf 176 84, 1, [.slice none 0 0]⟩
def ty22 : TE := ⟨22, .scal, 1, [.complex .f64 0 0]⟩
def ty53 : TE := ⟨53, .slc .iv 24 56, 1, [.slice none 0 0]⟩
def ty4 : TE := ⟨4, .scal, 1, [.bool false]⟩
def ty150 : TE := ⟨150, .str [(0, 1, false), (1, 1, false), (2, 18, true)], 20, [.int .i64 0, .int .i64 0, .int .i64 0, .int .i64 0, .bool false, .int .i64 0, .int .i64 0, .bool false, .int .i64 0, .int .i64 0, .bool false, .int .i64 0, .int .i64 0, .bool false, .int .i64 0, .int .i64 0, .bool false, .int .i64 0, .int .i64 0, .bool false]⟩
def ty170 : TE := ⟨170, .str [(0, 1, false), (1, 6, true), (7, 6, true)], 13, [.string ⟨#[]⟩, .int .i64 0, .int .i64 0, .int .i64 0, .int .i64 0, .int .i64 0, .int .i64 0, .int .i64 0, .int .i64 0, .int .i64 0, .int .i64 0, .int .i64 0, .int .i64 0]⟩
def ty40 : TE := ⟨40, .slc .cx 16 22, 1, [.slice none 0 0]⟩
def ty9 : TE := ⟨9, .scal, 1, [.string ⟨#[]⟩]⟩
def ty111 : TE := ⟨111, .str [(0, 3, true), (3, 3, true), (6, 6, true)], 12, [.int .i64 0, .int .i64 0, .bool false, .int .i64 0, .int .i64 0, .bool false, .int .i64 0, .int .i64 0, .int .i64 0, .bool false, .complex .f64 0 0, .complex .f64 0 0]⟩
def ty52 : TE := ⟨52, .slc .int 8 3, 1, [.slice none 0 0]⟩
def ty173 : TE := ⟨173, .str [(0, 1, false), (1, 1, false), (2, 1, false), (3, 1, false), (4, 1, false), (5, 1, false)], 6, [.int .i64 0, .int .i64 0, .int .i64 0, .int .i64 0, .int .i64 0, .int .i64 0]⟩
def ty159 : TE := ⟨159, .str [(0, 3, true), (3, 3, true)], 6, [.int .i64 0, .int .i64 0, .bool false, .int .i64 0, .int .i64 0, .bool false]⟩
def ty73 : TE := ⟨73, .str [(0, 1, false), (1, 1, false), (2, 1, false), (3, 1, false), (4, 1, false), (5, 1, false)], 6, [.int .i64 0, .int .i64 0, .int .i64 0, .int .i64 0, .int .i64 0, .int .i64 0]⟩
def ty50 : TE := ⟨50, .arr 4 1 false, 4, [.int .i64 0, .int .i64 0, .int .i64 0, .int .i64 0]⟩
def ty107 : TE := ⟨107, .slc .row 112 111, 1, [.slice none 0 0]⟩
def ty130 : TE := ⟨130, .slc .glass 112 170, 1, [.slice none 0 0]⟩
def ty168 : TE := ⟨168, .arr 3 2 true, 6, [.int .i64 0, .int .i64 0, .int .i64 0, .int .i64 0, .int .i64 0, .int .i64 0]⟩
def ty156 : TE := ⟨156, .slc .place 48 159, 1, [.slice none 0 0]⟩
def ty42 : TE := ⟨42, .slc .pair 16 26, 1, [.slice none 0 0]⟩
def ty166 : TE := ⟨166, .arr 2 1 false, 2, [.int .i64 0, .int .i64 0]⟩
def ty71 : TE := ⟨71, .slc .raw 48 173, 1, [.slice none 0 0]⟩
def ty194 : TE := ⟨194, .slc .byte 1 5, 1, [.slice none 0 0]⟩

theorem ty56_ok : TEok Try.prog ty56 := ⟨by kernel_rfl, by kernel_rfl, by kernel_rfl, by kernel_rfl, by first | (intro _; rfl) | (intro h; cases h), by kernel_rfl, by kernel_rfl⟩
theorem ty3_ok : TEok Try.prog ty3 := ⟨by kernel_rfl, by kernel_rfl, by kernel_rfl, by kernel_rfl, by first | (intro _; rfl) | (intro h; cases h), by kernel_rfl, by kernel_rfl⟩
theorem ty79_ok : TEok Try.prog ty79 := ⟨by kernel_rfl, by kernel_rfl, by kernel_rfl, by kernel_rfl, by first | (intro _; rfl) | (intro h; cases h), by kernel_rfl, by kernel_rfl⟩
theorem ty76_ok : TEok Try.prog ty76 := ⟨by kernel_rfl, by kernel_rfl, by kernel_rfl, by kernel_rfl, by first | (intro _; rfl) | (intro h; cases h), by kernel_rfl, by kernel_rfl⟩
theorem ty133_ok : TEok Try.prog ty133 := ⟨by kernel_rfl, by kernel_rfl, by kernel_rfl, by kernel_rfl, by first | (intro _; rfl) | (intro h; cases h), by kernel_rfl, by kernel_rfl⟩
theorem ty81_ok : TEok Try.prog ty81 := ⟨by kernel_rfl, by kernel_rfl, by kernel_rfl, by kernel_rfl, by first | (intro _; rfl) | (intro h; cases h), by kernel_rfl, by kernel_rfl⟩
theorem ty84_ok : TEok Try.prog ty84 := ⟨by kernel_rfl, by kernel_rfl, by kernel_rfl, by kernel_rfl, by first | (intro _; rfl) | (intro h; cases h), by kernel_rfl, by kernel_rfl⟩
theorem ty175_ok : TEok Try.prog ty175 := ⟨by kernel_rfl, by kernel_rfl, by kernel_rfl, by kernel_rfl, by first | (intro _; rfl) | (intro h; cases h), by kernel_rfl, by kernel_rfl⟩
theorem ty47_ok : TEok Try.prog ty47 := ⟨by kernel_rfl, by kernel_rfl, by kernel_rfl, by kernel_rfl, by first | (intro _; rfl) | (intro h; cases h), by kernel_rfl, by kernel_rfl⟩
theorem ty100_ok : TEok Try.prog ty100 := ⟨by kernel_rfl, by kernel_rfl, by kernel_rfl, by kernel_rfl, by first | (intro _; rfl) | (intro h; cases h), by kernel_rfl, by kernel_rfl⟩
theorem ty26_ok : TEok Try.prog ty26 := ⟨by kernel_rfl, by kernel_rfl, by kernel_rfl, by kernel_rfl, by first | (intro _; rfl) | (intro h; cases h), by kernel_rfl, by kernel_rfl⟩
theorem ty136_ok : TEok Try.prog ty136 := ⟨by kernel_rfl, by kernel_rfl, by kernel_rfl, by kernel_rfl, by first | (intro _; rfl) | (intro h; cases h), by kernel_rfl, by kernel_rfl⟩
theorem ty113_ok : TEok Try.prog ty113 := ⟨by kernel_rfl, by kernel_rfl, by kernel_rfl, by kernel_rfl, by first | (intro _; rfl) | (intro h; cases h), by kernel_rfl, by kernel_rfl⟩
theorem ty134_ok : TEok Try.prog ty134 := ⟨by kernel_rfl, by kernel_rfl, by kernel_rfl, by kernel_rfl, by first | (intro _; rfl) | (intro h; cases h), by kernel_rfl, by kernel_rfl⟩
theorem ty74_ok : TEok Try.prog ty74 := ⟨by kernel_rfl, by kernel_rfl, by kernel_rfl, by kernel_rfl, by first | (intro _; rfl) | (intro h; cases h), by kernel_rfl, by kernel_rfl⟩
theorem ty22_ok : TEok Try.prog ty22 := ⟨by kernel_rfl, by kernel_rfl, by kernel_rfl, by kernel_rfl, by first | (intro _; rfl) | (intro h; cases h), by kernel_rfl, by kernel_rfl⟩
theorem ty53_ok : TEok Try.prog ty53 := ⟨by kernel_rfl, by kernel_rfl, by kernel_rfl, by kernel_rfl, by first | (intro _; rfl) | (intro h; cases h), by kernel_rfl, by kernel_rfl⟩
theorem ty4_ok : TEok Try.prog ty4 := ⟨by kernel_rfl, by kernel_rfl, by kernel_rfl, by kernel_rfl, by first | (intro _; rfl) | (intro h; cases h), by kernel_rfl, by kernel_rfl⟩
theorem ty150_ok : TEok Try.prog ty150 := ⟨by kernel_rfl, by kernel_rfl, by kernel_rfl, by kernel_rfl, by first | (intro _; rfl) | (intro h; cases h), by kernel_rfl, by kernel_rfl⟩
theorem ty170_ok : TEok Try.prog ty170 := ⟨by kernel_rfl, by kernel_rfl, by kernel_rfl, by kernel_rfl, by first | (intro _; rfl) | (intro h; cases h), by kernel_rfl, by kernel_rfl⟩
theorem ty40_ok : TEok Try.prog ty40 := ⟨by kernel_rfl, by kernel_rfl, by kernel_rfl, by kernel_rfl, by first | (intro _; rfl) | (intro h; cases h), by kernel_rfl, by kernel_rfl⟩
theorem ty9_ok : TEok Try.prog ty9 := ⟨by kernel_rfl, by kernel_rfl, by kernel_rfl, by kernel_rfl, by first | (intro _; rfl) | (intro h; cases h), by kernel_rfl, by kernel_rfl⟩
theorem ty111_ok : TEok Try.prog ty111 := ⟨by kernel_rfl, by kernel_rfl, by kernel_rfl, by kernel_rfl, by first | (intro _; rfl) | (intro h; cases h), by kernel_rfl, by kernel_rfl⟩
theorem ty52_ok : TEok Try.prog ty52 := ⟨by kernel_rfl, by kernel_rfl, by kernel_rfl, by kernel_rfl, by first | (intro _; rfl) | (intro h; cases h), by kernel_rfl, by kernel_rfl⟩
theorem ty173_ok : TEok Try.prog ty173 := ⟨by kernel_rfl, by kernel_rfl, by kernel_rfl, by kernel_rfl, by first | (intro _; rfl) | (intro h; cases h), by kernel_rfl, by kernel_rfl⟩
theorem ty159_ok : TEok Try.prog ty159 := ⟨by kernel_rfl, by kernel_rfl, by kernel_rfl, by kernel_rfl, by first | (intro _; rfl) | (intro h; cases h), by kernel_rfl, by kernel_rfl⟩
theorem ty73_ok : TEok Try.prog ty73 := ⟨by kernel_rfl, by kernel_rfl, by kernel_rfl, by kernel_rfl, by first | (intro _; rfl) | (intro h; cases h), by kernel_rfl, by kernel_rfl⟩
theorem ty50_ok : TEok Try.prog ty50 := ⟨by kernel_rfl, by kernel_rfl, by kernel_rfl, by kernel_rfl, by first | (intro _; rfl) | (intro h; cases h), by kernel_rfl, by kernel_rfl⟩
theorem ty107_ok : TEok Try.prog ty107 := ⟨by kernel_rfl, by kernel_rfl, by kernel_rfl, by kernel_rfl, by first | (intro _; rfl) | (intro h; cases h), by kernel_rfl, by kernel_rfl⟩
theorem ty130_ok : TEok Try.prog ty130 := ⟨by kernel_rfl, by kernel_rfl, by kernel_rfl, by kernel_rfl, by first | (intro _; rfl) | (intro h; cases h), by kernel_rfl, by kernel_rfl⟩
theorem ty168_ok : TEok Try.prog ty168 := ⟨by kernel_rfl, by kernel_rfl, by kernel_rfl, by kernel_rfl, by first | (intro _; rfl) | (intro h; cases h), by kernel_rfl, by kernel_rfl⟩
theorem ty156_ok : TEok Try.prog ty156 := ⟨by kernel_rfl, by kernel_rfl, by kernel_rfl, by kernel_rfl, by first | (intro _; rfl) | (intro h; cases h), by kernel_rfl, by kernel_rfl⟩
theorem ty42_ok : TEok Try.prog ty42 := ⟨by kernel_rfl, by kernel_rfl, by kernel_rfl, by kernel_rfl, by first | (intro _; rfl) | (intro h; cases h), by kernel_rfl, by kernel_rfl⟩
theorem ty166_ok : TEok Try.prog ty166 := ⟨by kernel_rfl, by kernel_rfl, by kernel_rfl, by kernel_rfl, by first | (intro _; rfl) | (intro h; cases h), by kernel_rfl, by kernel_rfl⟩
theorem ty71_ok : TEok Try.prog ty71 := ⟨by kernel_rfl, by kernel_rfl, by kernel_rfl, by kernel_rfl, by first | (intro _; rfl) | (intro h; cases h), by kernel_rfl, by kernel_rfl⟩
theorem ty194_ok : TEok Try.prog ty194 := ⟨by kernel_rfl, by kernel_rfl, by kernel_rfl, by kernel_rfl, by first | (intro _; rfl) | (intro h; cases h), by kernel_rfl, by kernel_rfl⟩

def T : List TE := [ty56, ty3, ty79, ty76, ty133, ty81, ty84, ty175, ty47, ty100, ty26, ty136, ty113, ty134, ty74, ty22, ty53, ty4, ty150, ty170, ty40, ty9, ty111, ty52, ty173, ty159, ty73, ty50, ty107, ty130, ty168, ty156, ty42, ty166, ty71, ty194]

theorem T_ok : ∀ e ∈ T, TEok Try.prog e := by
  intro e he
  simp only [T, List.mem_cons, List.not_mem_nil, or_false] at he
  rcases he with rfl | rfl | rfl | rfl | rfl | rfl | rfl | rfl | rfl | rfl | rfl | rfl | rfl | rfl | rfl | rfl | rfl | rfl | rfl | rfl | rfl | rfl | rfl | rfl | rfl | rfl | rfl | rfl | rfl | rfl | rfl | rfl | rfl | rfl | rfl | rfl
  · exact ty56_ok
  · exact ty3_ok
  · exact ty79_ok
  · exact ty76_ok
  · exact ty133_ok
  · exact ty81_ok
  · exact ty84_ok
  · exact ty175_ok
  · exact ty47_ok
  · exact ty100_ok
  · exact ty26_ok
  · exact ty136_ok
  · exact ty113_ok
  · exact ty134_ok
  · exact ty74_ok
  · exact ty22_ok
  · exact ty53_ok
  · exact ty4_ok
  · exact ty150_ok
  · exact ty170_ok
  · exact ty40_ok
  · exact ty9_ok
  · exact ty111_ok
  · exact ty52_ok
  · exact ty173_ok
  · exact ty159_ok
  · exact ty73_ok
  · exact ty50_ok
  · exact ty107_ok
  · exact ty130_ok
  · exact ty168_ok
  · exact ty156_ok
  · exact ty42_ok
  · exact ty166_ok
  · exact ty71_ok
  · exact ty194_ok


end Go.Proofs.Ytmmlpaehehgfnaa.Sx
