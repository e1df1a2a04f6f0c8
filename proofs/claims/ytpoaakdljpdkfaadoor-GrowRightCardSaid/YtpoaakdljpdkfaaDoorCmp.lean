/- == AND != ON STRUCTS, AS THE WALKS MEET THEM. -/
import Derived.Test.YtpoaakdljpdkfaaDoorEq
set_option linter.unusedSimpArgs false
set_option linter.unusedVariables false
namespace Go.Proofs.YtpoaakdljpdkfaaDoor
open Go.RowKit Go.Alm
@[go_sem ↓] theorem eqnH (w : World) (a b : H32) : (Op.equalIn 10000 23 (.agg (encH a)) (.agg (encH b))).run Tryd.prog w = .ok (decide (a = b)) w := eqH 9998 w a b
@[go_sem ↓] theorem eqnDt (w : World) (a b : Dt) : (Op.equalIn 10000 31 (.agg (encDt a)) (.agg (encDt b))).run Tryd.prog w = .ok (decide (a = b)) w := eqDt 9997 w a b
@[go_sem ↓] theorem eqnPr (w : World) (a b : Pr) : (Op.equalIn 10000 33 (.agg (encPr a)) (.agg (encPr b))).run Tryd.prog w = .ok (decide (a = b)) w := eqPr 9996 w a b
@[go_sem ↓] theorem eqnSt (w : World) (a b : St) : (Op.equalIn 10000 35 (.agg (encSt a)) (.agg (encSt b))).run Tryd.prog w = .ok (decide (a = b)) w := eqSt 9995 w a b
@[go_sem ↓] theorem eqnKy (w : World) (a b : Ky) : (Op.equalIn 10000 72 (.agg (encKy a)) (.agg (encKy b))).run Tryd.prog w = .ok (decide (a = b)) w := eqKy 9997 w a b
@[go_sem ↓] theorem eqnRg (w : World) (a b : Rg) : (Op.equalIn 10000 27 (.agg (encRg a)) (.agg (encRg b))).run Tryd.prog w = .ok (decide (a = b)) w := eqRg 9997 w a b
@[go_sem ↓] theorem eqnWn (w : World) (a b : Wn) : (Op.equalIn 10000 29 (.agg (encWn a)) (.agg (encWn b))).run Tryd.prog w = .ok (decide (a = b)) w := eqWn 9996 w a b
end Go.Proofs.YtpoaakdljpdkfaaDoor
