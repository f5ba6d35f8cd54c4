import Derived.Test.YthaoplcmkaaflaaLaw18
namespace Go.Proofs.Ythaoplcmkaaflaa
open Go.RowKit

@[go_sem high] theorem sf0 (w : World) : (binOp .mul 77 (.complex .f64 4607182418800017408 0) (.complex .f64 4607182418800017408 0)).run Try.prog w = .ok (.complex .f64 4607182418800017408 0) w := by kernel_rfl
@[go_sem high] theorem sf1 (w : World) : (binOp .eql 77 (.complex .f64 4607182418800017408 0) (.complex .f64 4607182418800017408 0)).run Try.prog w = .ok (.bool true) w := by kernel_rfl
@[go_sem high] theorem sf2 (w : World) : (binOp .mul 79 (.float .f64 4607182418800017408) (.float .f64 4607182418800017408)).run Try.prog w = .ok (.float .f64 4607182418800017408) w := by kernel_rfl
@[go_sem high] theorem sf3 (w : World) : (binOp .mul 79 (.float .f64 0) (.float .f64 0)).run Try.prog w = .ok (.float .f64 0) w := by kernel_rfl
@[go_sem high] theorem sf4 (w : World) : (binOp .add 79 (.float .f64 4607182418800017408) (.float .f64 0)).run Try.prog w = .ok (.float .f64 4607182418800017408) w := by kernel_rfl
@[go_sem high] theorem sf5 (w : World) : (binOp .mul 77 (.complex .f64 4607182418800017408 0) (.complex .f64 13830554455654793216 0)).run Try.prog w = .ok (.complex .f64 13830554455654793216 0) w := by kernel_rfl
@[go_sem high] theorem sf6 (w : World) : (binOp .eql 77 (.complex .f64 13830554455654793216 0) (.complex .f64 13830554455654793216 0)).run Try.prog w = .ok (.bool true) w := by kernel_rfl
@[go_sem high] theorem sf7 (w : World) : (binOp .mul 77 (.complex .f64 13830554455654793216 0) (.complex .f64 13830554455654793216 0)).run Try.prog w = .ok (.complex .f64 4607182418800017408 9223372036854775808) w := by kernel_rfl
@[go_sem high] theorem sf8 (w : World) : (binOp .eql 77 (.complex .f64 4607182418800017408 0) (.complex .f64 4607182418800017408 9223372036854775808)).run Try.prog w = .ok (.bool true) w := by kernel_rfl
@[go_sem high] theorem sf9 (w : World) : (binOp .mul 79 (.float .f64 13830554455654793216) (.float .f64 13830554455654793216)).run Try.prog w = .ok (.float .f64 4607182418800017408) w := by kernel_rfl
@[go_sem high] theorem sf10 (w : World) : (binOp .mul 77 (.complex .f64 4607182418800017408 0) (.complex .f64 0 4607182418800017408)).run Try.prog w = .ok (.complex .f64 0 4607182418800017408) w := by kernel_rfl
@[go_sem high] theorem sf11 (w : World) : (binOp .eql 77 (.complex .f64 0 4607182418800017408) (.complex .f64 0 4607182418800017408)).run Try.prog w = .ok (.bool true) w := by kernel_rfl
@[go_sem high] theorem sf12 (w : World) : (binOp .mul 77 (.complex .f64 0 4607182418800017408) (.complex .f64 0 4607182418800017408)).run Try.prog w = .ok (.complex .f64 13830554455654793216 0) w := by kernel_rfl
@[go_sem high] theorem sf13 (w : World) : (binOp .add 79 (.float .f64 0) (.float .f64 4607182418800017408)).run Try.prog w = .ok (.float .f64 4607182418800017408) w := by kernel_rfl
@[go_sem high] theorem sf14 (w : World) : (binOp .mul 77 (.complex .f64 13830554455654793216 0) (.complex .f64 0 4607182418800017408)).run Try.prog w = .ok (.complex .f64 9223372036854775808 13830554455654793216) w := by kernel_rfl
@[go_sem high] theorem sf15 (w : World) : (binOp .eql 77 (.complex .f64 0 13830554455654793216) (.complex .f64 9223372036854775808 13830554455654793216)).run Try.prog w = .ok (.bool true) w := by kernel_rfl
@[go_sem high] theorem sf16 (w : World) : (binOp .mul 77 (.complex .f64 0 13830554455654793216) (.complex .f64 0 4607182418800017408)).run Try.prog w = .ok (.complex .f64 4607182418800017408 0) w := by kernel_rfl
@[go_sem high] theorem sf17 (w : World) : (binOp .eql 77 (.complex .f64 0 13830554455654793216) (.complex .f64 0 13830554455654793216)).run Try.prog w = .ok (.bool true) w := by kernel_rfl
@[go_sem high] theorem sf18 (w : World) : (binOp .eql 79 (.float .f64 4607182418800017408) (.float .f64 4607182418800017408)).run Try.prog w = .ok (.bool true) w := by kernel_rfl
@[go_sem high] theorem sf19 (w : World) : (binOp .eql 77 (.complex .f64 0 0) (.complex .f64 0 0)).run Try.prog w = .ok (.bool true) w := by kernel_rfl
end Go.Proofs.Ythaoplcmkaaflaa
