/- The table, the program. -/
import Derived.Test.YtcibofbmennjpaaAmPl14
import Derived.Test.YtcibofbmennjpaaAmOpen
import Derived.Test.YtcibofbmennjpaaShelf
set_option linter.unusedVariables false
set_option linter.unusedSimpArgs false
namespace Go.Am
open Go.Proofs

def tab : Nat → Option MF
  | 3 => some mf3
  | 4 => some mf4
  | 5 => some mf5
  | 6 => some mf6
  | 7 => some mf7
  | 8 => some mf8
  | 9 => some mf9
  | 10 => some mf10
  | 11 => some mf11
  | 12 => some mf12
  | 13 => some mf13
  | 14 => some mf14
  | 15 => some mf15
  | 16 => some mf16
  | 17 => some mf17
  | 18 => some mf18
  | 19 => some mf19
  | 20 => some mf20
  | 21 => some mf21
  | 22 => some mf22
  | 23 => some mf23
  | 24 => some mf24
  | 25 => some mf25
  | 26 => some mf26
  | 27 => some mf27
  | 28 => some mf28
  | 29 => some mf29
  | 30 => some mf30
  | 31 => some mf31
  | 32 => some mf32
  | 33 => some mf33
  | 34 => some mf34
  | 35 => some mf35
  | 36 => some mf36
  | 37 => some mf37
  | 38 => some mf38
  | 39 => some mfSort
  | _ => none
theorem tab_Tbl : Tbl tab := ⟨rfl, rfl, rfl, rfl, rfl, rfl, rfl, rfl, rfl, rfl, rfl, rfl, rfl, rfl, rfl, rfl, rfl, rfl, rfl, rfl, rfl, rfl, rfl, rfl, rfl, rfl, rfl, rfl, rfl, rfl, rfl, rfl, rfl, rfl, rfl, rfl, rfl⟩

theorem enters39 (args : Array Value) (w : World) : (callFunc 39 args).run Try.prog w = .ok (.enter 39 args) w := enters_of Try.func39 (by kernel_rfl) rfl args w
theorem tab_ok : FOk Try.prog tab := by
  intro f mf h
  unfold tab at h
  split at h
  · cases h; exact .inl ⟨Try.f3, _, Try.func3, c3⟩
  · cases h; exact .inl ⟨Try.f4, _, Try.func4, c4⟩
  · cases h; exact .inl ⟨Try.f5, _, Try.func5, c5⟩
  · cases h; exact .inl ⟨Try.f6, _, Try.func6, c6⟩
  · cases h; exact .inl ⟨Try.f7, _, Try.func7, c7⟩
  · cases h; exact .inl ⟨Try.f8, _, Try.func8, c8⟩
  · cases h; exact .inl ⟨Try.f9, _, Try.func9, c9⟩
  · cases h; exact .inl ⟨Try.f10, _, Try.func10, c10⟩
  · cases h; exact .inl ⟨Try.f11, _, Try.func11, c11⟩
  · cases h; exact .inl ⟨Try.f12, _, Try.func12, c12⟩
  · cases h; exact .inl ⟨Try.f13, _, Try.func13, c13⟩
  · cases h; exact .inl ⟨Try.f14, _, Try.func14, c14⟩
  · cases h; exact .inl ⟨Try.f15, _, Try.func15, c15⟩
  · cases h; exact .inl ⟨Try.f16, _, Try.func16, c16⟩
  · cases h; exact .inl ⟨Try.f17, _, Try.func17, c17⟩
  · cases h; exact .inl ⟨Try.f18, _, Try.func18, c18⟩
  · cases h; exact .inl ⟨Try.f19, _, Try.func19, c19⟩
  · cases h; exact .inl ⟨Try.f20, _, Try.func20, c20⟩
  · cases h; exact .inl ⟨Try.f21, _, Try.func21, c21⟩
  · cases h; exact .inl ⟨Try.f22, _, Try.func22, c22⟩
  · cases h; exact .inl ⟨Try.f23, _, Try.func23, c23⟩
  · cases h; exact .inl ⟨Try.f24, _, Try.func24, c24⟩
  · cases h; exact .inl ⟨Try.f25, _, Try.func25, c25⟩
  · cases h; exact .inl ⟨Try.f26, _, Try.func26, c26⟩
  · cases h; exact .inl ⟨Try.f27, _, Try.func27, c27⟩
  · cases h; exact .inl ⟨Try.f28, _, Try.func28, c28⟩
  · cases h; exact .inl ⟨Try.f29, _, Try.func29, c29⟩
  · cases h; exact .inl ⟨Try.f30, _, Try.func30, c30⟩
  · cases h; exact .inl ⟨Try.f31, _, Try.func31, c31⟩
  · cases h; exact .inl ⟨Try.f32, _, Try.func32, c32⟩
  · cases h; exact .inl ⟨Try.f33, _, Try.func33, c33⟩
  · cases h; exact .inl ⟨Try.f34, _, Try.func34, c34⟩
  · cases h; exact .inl ⟨Try.f35, _, Try.func35, c35⟩
  · cases h; exact .inl ⟨Try.f36, _, Try.func36, c36⟩
  · cases h; exact .inl ⟨Try.f37, _, Try.func37, c37⟩
  · cases h; exact .inl ⟨Try.f38, _, Try.func38, c38⟩
  · cases h; exact .inr (sort_prim enters39 Try.slices_Sort_int Try.slices_Sort_int_none)
  · cases h
end Go.Am
