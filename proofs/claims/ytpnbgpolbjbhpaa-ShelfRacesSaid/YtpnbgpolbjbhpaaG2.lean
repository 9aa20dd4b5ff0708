/- The functions of the program, read as predicates on the world, each with its contract (text G2). No conditions beyond those its theorems state. -/
import Derived.Test.YtpnbgpolbjbhpaaG1
set_option linter.all false
namespace Go.Proofs.Ytpnbgpolbjbhpaa
set_option maxRecDepth 100000
open Go.Dm
def A_damperlaw4_ShelfRaces : Ann := (.seq .auto (.seq .auto (.seq .auto (.seq .auto (.seq (.one [(12, (.one (.adr))), (13, (.one (.adr))), (14, (.one (.adr)))] .auto) (.seq .auto (.seq .auto (.seq .auto (.seq .auto (.seq .auto (.seq .auto (.seq (.seq .auto .auto (some [(128, (.one (.bool)))])) .auto none) none) none) none) none) none) none) none) none) none) none) none)
/-- damper/damperlaw4.ShelfRaces -/
def F_damperlaw4_ShelfRaces (p0 : HT [.str, .int .i64, .int .i64, .int .i64, .int .i64, .int .i64]) (p1 : HT [.str, .int .i64, .int .i64, .int .i64, .int .i64, .int .i64]) (p2 : HT [.str, .int .i64, .int .i64, .int .i64, .int .i64, .int .i64]) (p3 : Int) (p4 : Int) (K : Value → PT) : PT :=
  L.new [.string p0.1, .int .i64 p0.2.1, .int .i64 p0.2.2.1, .int .i64 p0.2.2.2.1, .int .i64 p0.2.2.2.2.1, .int .i64 p0.2.2.2.2.2.1] T_api_Config fun b1 =>
  L.new [.string p1.1, .int .i64 p1.2.1, .int .i64 p1.2.2.1, .int .i64 p1.2.2.2.1, .int .i64 p1.2.2.2.2.1, .int .i64 p1.2.2.2.2.2.1] T_api_Config fun b2 =>
  L.new [.string p2.1, .int .i64 p2.2.1, .int .i64 p2.2.2.1, .int .i64 p2.2.2.2.1, .int .i64 p2.2.2.2.2.1, .int .i64 p2.2.2.2.2.2.1] T_api_Config fun b3 =>
  L.call Pr n_damperlaw4_known [] (.one (.one (.bool))) fun (x4 : Bool) =>
  L.ite (!x4) (
    K (.bool false)) <|
  L.call Pr n_shelf_New [] (.one (.one (.ptr))) fun (x5 : Option Addr) =>
  L.ite ((x5).isNone) (
    K (.bool false)) <|
  L.join (Y := Addr × Addr × Addr × Unit) (fun k6 =>
    L.draw <|
    L.load (.agg [.str, .int .i64, .int .i64, .int .i64, .int .i64, .int .i64]) (⟨b1, 0, none⟩) fun (x8 : ByteArray × Int × Int × Int × Int × Int × Unit) =>
    L.load (.agg [.str, .int .i64, .int .i64, .int .i64, .int .i64, .int .i64]) (⟨b2, 0, none⟩) fun (x9 : ByteArray × Int × Int × Int × Int × Int × Unit) =>
    L.load (.agg [.str, .int .i64, .int .i64, .int .i64, .int .i64, .int .i64]) (⟨b3, 0, none⟩) fun (x10 : ByteArray × Int × Int × Int × Int × Int × Unit) =>
    L.alts [(
        L.call Pr n_damperlaw2_Config [.agg #[.string x8.1, .int .i64 x8.2.1, .int .i64 x8.2.2.1, .int .i64 x8.2.2.2.1, .int .i64 x8.2.2.2.2.1, .int .i64 x8.2.2.2.2.2.1], .int .i64 p3] (.one (.agg [.str, .int .i64, .int .i64, .int .i64, .int .i64, .int .i64])) fun (x11 : ByteArray × Int × Int × Int × Int × Int × Unit) =>
        L.chk (⟨b3, 0, none⟩) [.string x10.1, .int .i64 x10.2.1, .int .i64 x10.2.2.1, .int .i64 x10.2.2.2.1, .int .i64 x10.2.2.2.2.1, .int .i64 x10.2.2.2.2.2.1] <|
        L.chk (⟨b2, 0, none⟩) [.string x9.1, .int .i64 x9.2.1, .int .i64 x9.2.2.1, .int .i64 x9.2.2.2.1, .int .i64 x9.2.2.2.2.1, .int .i64 x9.2.2.2.2.2.1] <|
        L.alts [(
            L.call Pr n_damperlaw2_Config [.agg #[.string x9.1, .int .i64 x9.2.1, .int .i64 x9.2.2.1, .int .i64 x9.2.2.2.1, .int .i64 x9.2.2.2.2.1, .int .i64 x9.2.2.2.2.2.1], .int .i64 p3] (.one (.agg [.str, .int .i64, .int .i64, .int .i64, .int .i64, .int .i64])) fun (x12 : ByteArray × Int × Int × Int × Int × Int × Unit) =>
            L.chk (⟨b3, 0, none⟩) [.string x10.1, .int .i64 x10.2.1, .int .i64 x10.2.2.1, .int .i64 x10.2.2.2.1, .int .i64 x10.2.2.2.2.1, .int .i64 x10.2.2.2.2.2.1] <|
            L.alts [(
                L.call Pr n_damperlaw2_Config [.agg #[.string x10.1, .int .i64 x10.2.1, .int .i64 x10.2.2.1, .int .i64 x10.2.2.2.1, .int .i64 x10.2.2.2.2.1, .int .i64 x10.2.2.2.2.2.1], .int .i64 p3] (.one (.agg [.str, .int .i64, .int .i64, .int .i64, .int .i64, .int .i64])) fun (x13 : ByteArray × Int × Int × Int × Int × Int × Unit) =>
                L.alts [(
                    L.new [.string s_, .int .i64 0, .int .i64 0, .int .i64 0, .int .i64 0, .int .i64 0] T_api_Config fun b14 =>
                    L.chk (⟨b3, 0, none⟩) [.string x10.1, .int .i64 x10.2.1, .int .i64 x10.2.2.1, .int .i64 x10.2.2.2.1, .int .i64 x10.2.2.2.2.1, .int .i64 x10.2.2.2.2.2.1] <|
                    L.chk (⟨b2, 0, none⟩) [.string x9.1, .int .i64 x9.2.1, .int .i64 x9.2.2.1, .int .i64 x9.2.2.2.1, .int .i64 x9.2.2.2.2.1, .int .i64 x9.2.2.2.2.2.1] <|
                    L.chk (⟨b1, 0, none⟩) [.string x8.1, .int .i64 x8.2.1, .int .i64 x8.2.2.1, .int .i64 x8.2.2.2.1, .int .i64 x8.2.2.2.2.1, .int .i64 x8.2.2.2.2.2.1] <|
                    L.alts [(
                        L.new [.string s_, .int .i64 0, .int .i64 0, .int .i64 0, .int .i64 0, .int .i64 0] T_api_Config fun b15 =>
                        L.chk (⟨b3, 0, none⟩) [.string x10.1, .int .i64 x10.2.1, .int .i64 x10.2.2.1, .int .i64 x10.2.2.2.1, .int .i64 x10.2.2.2.2.1, .int .i64 x10.2.2.2.2.2.1] <|
                        L.chk (⟨b2, 0, none⟩) [.string x9.1, .int .i64 x9.2.1, .int .i64 x9.2.2.1, .int .i64 x9.2.2.2.1, .int .i64 x9.2.2.2.2.1, .int .i64 x9.2.2.2.2.2.1] <|
                        L.chk (⟨b1, 0, none⟩) [.string x8.1, .int .i64 x8.2.1, .int .i64 x8.2.2.1, .int .i64 x8.2.2.2.1, .int .i64 x8.2.2.2.2.1, .int .i64 x8.2.2.2.2.2.1] <|
                        L.new [.string s_, .int .i64 0, .int .i64 0, .int .i64 0, .int .i64 0, .int .i64 0] T_api_Config fun b16 =>
                        L.chk (⟨b3, 0, none⟩) [.string x10.1, .int .i64 x10.2.1, .int .i64 x10.2.2.1, .int .i64 x10.2.2.2.1, .int .i64 x10.2.2.2.2.1, .int .i64 x10.2.2.2.2.2.1] <|
                        L.chk (⟨b2, 0, none⟩) [.string x9.1, .int .i64 x9.2.1, .int .i64 x9.2.2.1, .int .i64 x9.2.2.2.1, .int .i64 x9.2.2.2.2.1, .int .i64 x9.2.2.2.2.2.1] <|
                        L.chk (⟨b1, 0, none⟩) [.string x8.1, .int .i64 x8.2.1, .int .i64 x8.2.2.1, .int .i64 x8.2.2.2.1, .int .i64 x8.2.2.2.2.1, .int .i64 x8.2.2.2.2.2.1] <|
                        L.store (⟨b14, 0, none⟩) [.string x11.1, .int .i64 x11.2.1, .int .i64 x11.2.2.1, .int .i64 x11.2.2.2.1, .int .i64 x11.2.2.2.2.1, .int .i64 x11.2.2.2.2.2.1] <|
                        L.store (⟨b15, 0, none⟩) [.string x12.1, .int .i64 x12.2.1, .int .i64 x12.2.2.1, .int .i64 x12.2.2.2.1, .int .i64 x12.2.2.2.2.1, .int .i64 x12.2.2.2.2.2.1] <|
                        L.store (⟨b16, 0, none⟩) [.string x13.1, .int .i64 x13.2.1, .int .i64 x13.2.2.1, .int .i64 x13.2.2.2.1, .int .i64 x13.2.2.2.2.1, .int .i64 x13.2.2.2.2.2.1] <|
                        k6 (⟨b14, 0, none⟩, ⟨b15, 0, none⟩, ⟨b16, 0, none⟩, ())),(
                        L.new [.string s_, .int .i64 0, .int .i64 0, .int .i64 0, .int .i64 0, .int .i64 0] T_api_Config fun b17 =>
                        L.chk (⟨b3, 0, none⟩) [.string x10.1, .int .i64 x10.2.1, .int .i64 x10.2.2.1, .int .i64 x10.2.2.2.1, .int .i64 x10.2.2.2.2.1, .int .i64 x10.2.2.2.2.2.1] <|
                        L.chk (⟨b2, 0, none⟩) [.string x9.1, .int .i64 x9.2.1, .int .i64 x9.2.2.1, .int .i64 x9.2.2.2.1, .int .i64 x9.2.2.2.2.1, .int .i64 x9.2.2.2.2.2.1] <|
                        L.chk (⟨b1, 0, none⟩) [.string x8.1, .int .i64 x8.2.1, .int .i64 x8.2.2.1, .int .i64 x8.2.2.2.1, .int .i64 x8.2.2.2.2.1, .int .i64 x8.2.2.2.2.2.1] <|
                        L.new [.string s_, .int .i64 0, .int .i64 0, .int .i64 0, .int .i64 0, .int .i64 0] T_api_Config fun b18 =>
                        L.chk (⟨b3, 0, none⟩) [.string x10.1, .int .i64 x10.2.1, .int .i64 x10.2.2.1, .int .i64 x10.2.2.2.1, .int .i64 x10.2.2.2.2.1, .int .i64 x10.2.2.2.2.2.1] <|
                        L.chk (⟨b2, 0, none⟩) [.string x9.1, .int .i64 x9.2.1, .int .i64 x9.2.2.1, .int .i64 x9.2.2.2.1, .int .i64 x9.2.2.2.2.1, .int .i64 x9.2.2.2.2.2.1] <|
                        L.chk (⟨b1, 0, none⟩) [.string x8.1, .int .i64 x8.2.1, .int .i64 x8.2.2.1, .int .i64 x8.2.2.2.1, .int .i64 x8.2.2.2.2.1, .int .i64 x8.2.2.2.2.2.1] <|
                        L.store (⟨b14, 0, none⟩) [.string x11.1, .int .i64 x11.2.1, .int .i64 x11.2.2.1, .int .i64 x11.2.2.2.1, .int .i64 x11.2.2.2.2.1, .int .i64 x11.2.2.2.2.2.1] <|
                        L.store (⟨b18, 0, none⟩) [.string x12.1, .int .i64 x12.2.1, .int .i64 x12.2.2.1, .int .i64 x12.2.2.2.1, .int .i64 x12.2.2.2.2.1, .int .i64 x12.2.2.2.2.2.1] <|
                        L.store (⟨b17, 0, none⟩) [.string x13.1, .int .i64 x13.2.1, .int .i64 x13.2.2.1, .int .i64 x13.2.2.2.1, .int .i64 x13.2.2.2.2.1, .int .i64 x13.2.2.2.2.2.1] <|
                        k6 (⟨b14, 0, none⟩, ⟨b18, 0, none⟩, ⟨b17, 0, none⟩, ()))]),(
                    L.new [.string s_, .int .i64 0, .int .i64 0, .int .i64 0, .int .i64 0, .int .i64 0] T_api_Config fun b19 =>
                    L.chk (⟨b3, 0, none⟩) [.string x10.1, .int .i64 x10.2.1, .int .i64 x10.2.2.1, .int .i64 x10.2.2.2.1, .int .i64 x10.2.2.2.2.1, .int .i64 x10.2.2.2.2.2.1] <|
                    L.chk (⟨b2, 0, none⟩) [.string x9.1, .int .i64 x9.2.1, .int .i64 x9.2.2.1, .int .i64 x9.2.2.2.1, .int .i64 x9.2.2.2.2.1, .int .i64 x9.2.2.2.2.2.1] <|
                    L.chk (⟨b1, 0, none⟩) [.string x8.1, .int .i64 x8.2.1, .int .i64 x8.2.2.1, .int .i64 x8.2.2.2.1, .int .i64 x8.2.2.2.2.1, .int .i64 x8.2.2.2.2.2.1] <|
                    L.alts [(
                        L.new [.string s_, .int .i64 0, .int .i64 0, .int .i64 0, .int .i64 0, .int .i64 0] T_api_Config fun b20 =>
                        L.chk (⟨b3, 0, none⟩) [.string x10.1, .int .i64 x10.2.1, .int .i64 x10.2.2.1, .int .i64 x10.2.2.2.1, .int .i64 x10.2.2.2.2.1, .int .i64 x10.2.2.2.2.2.1] <|
                        L.chk (⟨b2, 0, none⟩) [.string x9.1, .int .i64 x9.2.1, .int .i64 x9.2.2.1, .int .i64 x9.2.2.2.1, .int .i64 x9.2.2.2.2.1, .int .i64 x9.2.2.2.2.2.1] <|
                        L.chk (⟨b1, 0, none⟩) [.string x8.1, .int .i64 x8.2.1, .int .i64 x8.2.2.1, .int .i64 x8.2.2.2.1, .int .i64 x8.2.2.2.2.1, .int .i64 x8.2.2.2.2.2.1] <|
                        L.new [.string s_, .int .i64 0, .int .i64 0, .int .i64 0, .int .i64 0, .int .i64 0] T_api_Config fun b21 =>
                        L.chk (⟨b3, 0, none⟩) [.string x10.1, .int .i64 x10.2.1, .int .i64 x10.2.2.1, .int .i64 x10.2.2.2.1, .int .i64 x10.2.2.2.2.1, .int .i64 x10.2.2.2.2.2.1] <|
                        L.chk (⟨b2, 0, none⟩) [.string x9.1, .int .i64 x9.2.1, .int .i64 x9.2.2.1, .int .i64 x9.2.2.2.1, .int .i64 x9.2.2.2.2.1, .int .i64 x9.2.2.2.2.2.1] <|
                        L.chk (⟨b1, 0, none⟩) [.string x8.1, .int .i64 x8.2.1, .int .i64 x8.2.2.1, .int .i64 x8.2.2.2.1, .int .i64 x8.2.2.2.2.1, .int .i64 x8.2.2.2.2.2.1] <|
                        L.store (⟨b20, 0, none⟩) [.string x11.1, .int .i64 x11.2.1, .int .i64 x11.2.2.1, .int .i64 x11.2.2.2.1, .int .i64 x11.2.2.2.2.1, .int .i64 x11.2.2.2.2.2.1] <|
                        L.store (⟨b19, 0, none⟩) [.string x12.1, .int .i64 x12.2.1, .int .i64 x12.2.2.1, .int .i64 x12.2.2.2.1, .int .i64 x12.2.2.2.2.1, .int .i64 x12.2.2.2.2.2.1] <|
                        L.store (⟨b21, 0, none⟩) [.string x13.1, .int .i64 x13.2.1, .int .i64 x13.2.2.1, .int .i64 x13.2.2.2.1, .int .i64 x13.2.2.2.2.1, .int .i64 x13.2.2.2.2.2.1] <|
                        k6 (⟨b20, 0, none⟩, ⟨b19, 0, none⟩, ⟨b21, 0, none⟩, ())),(
                        L.new [.string s_, .int .i64 0, .int .i64 0, .int .i64 0, .int .i64 0, .int .i64 0] T_api_Config fun b22 =>
                        L.chk (⟨b3, 0, none⟩) [.string x10.1, .int .i64 x10.2.1, .int .i64 x10.2.2.1, .int .i64 x10.2.2.2.1, .int .i64 x10.2.2.2.2.1, .int .i64 x10.2.2.2.2.2.1] <|
                        L.chk (⟨b2, 0, none⟩) [.string x9.1, .int .i64 x9.2.1, .int .i64 x9.2.2.1, .int .i64 x9.2.2.2.1, .int .i64 x9.2.2.2.2.1, .int .i64 x9.2.2.2.2.2.1] <|
                        L.chk (⟨b1, 0, none⟩) [.string x8.1, .int .i64 x8.2.1, .int .i64 x8.2.2.1, .int .i64 x8.2.2.2.1, .int .i64 x8.2.2.2.2.1, .int .i64 x8.2.2.2.2.2.1] <|
                        L.new [.string s_, .int .i64 0, .int .i64 0, .int .i64 0, .int .i64 0, .int .i64 0] T_api_Config fun b23 =>
                        L.chk (⟨b3, 0, none⟩) [.string x10.1, .int .i64 x10.2.1, .int .i64 x10.2.2.1, .int .i64 x10.2.2.2.1, .int .i64 x10.2.2.2.2.1, .int .i64 x10.2.2.2.2.2.1] <|
                        L.chk (⟨b2, 0, none⟩) [.string x9.1, .int .i64 x9.2.1, .int .i64 x9.2.2.1, .int .i64 x9.2.2.2.1, .int .i64 x9.2.2.2.2.1, .int .i64 x9.2.2.2.2.2.1] <|
                        L.chk (⟨b1, 0, none⟩) [.string x8.1, .int .i64 x8.2.1, .int .i64 x8.2.2.1, .int .i64 x8.2.2.2.1, .int .i64 x8.2.2.2.2.1, .int .i64 x8.2.2.2.2.2.1] <|
                        L.store (⟨b23, 0, none⟩) [.string x11.1, .int .i64 x11.2.1, .int .i64 x11.2.2.1, .int .i64 x11.2.2.2.1, .int .i64 x11.2.2.2.2.1, .int .i64 x11.2.2.2.2.2.1] <|
                        L.store (⟨b19, 0, none⟩) [.string x12.1, .int .i64 x12.2.1, .int .i64 x12.2.2.1, .int .i64 x12.2.2.2.1, .int .i64 x12.2.2.2.2.1, .int .i64 x12.2.2.2.2.2.1] <|
                        L.store (⟨b22, 0, none⟩) [.string x13.1, .int .i64 x13.2.1, .int .i64 x13.2.2.1, .int .i64 x13.2.2.2.1, .int .i64 x13.2.2.2.2.1, .int .i64 x13.2.2.2.2.2.1] <|
                        k6 (⟨b23, 0, none⟩, ⟨b19, 0, none⟩, ⟨b22, 0, none⟩, ()))]),(
                    L.new [.string s_, .int .i64 0, .int .i64 0, .int .i64 0, .int .i64 0, .int .i64 0] T_api_Config fun b24 =>
                    L.chk (⟨b3, 0, none⟩) [.string x10.1, .int .i64 x10.2.1, .int .i64 x10.2.2.1, .int .i64 x10.2.2.2.1, .int .i64 x10.2.2.2.2.1, .int .i64 x10.2.2.2.2.2.1] <|
                    L.chk (⟨b2, 0, none⟩) [.string x9.1, .int .i64 x9.2.1, .int .i64 x9.2.2.1, .int .i64 x9.2.2.2.1, .int .i64 x9.2.2.2.2.1, .int .i64 x9.2.2.2.2.2.1] <|
                    L.chk (⟨b1, 0, none⟩) [.string x8.1, .int .i64 x8.2.1, .int .i64 x8.2.2.1, .int .i64 x8.2.2.2.1, .int .i64 x8.2.2.2.2.1, .int .i64 x8.2.2.2.2.2.1] <|
                    L.alts [(
                        L.new [.string s_, .int .i64 0, .int .i64 0, .int .i64 0, .int .i64 0, .int .i64 0] T_api_Config fun b25 =>
                        L.chk (⟨b3, 0, none⟩) [.string x10.1, .int .i64 x10.2.1, .int .i64 x10.2.2.1, .int .i64 x10.2.2.2.1, .int .i64 x10.2.2.2.2.1, .int .i64 x10.2.2.2.2.2.1] <|
                        L.chk (⟨b2, 0, none⟩) [.string x9.1, .int .i64 x9.2.1, .int .i64 x9.2.2.1, .int .i64 x9.2.2.2.1, .int .i64 x9.2.2.2.2.1, .int .i64 x9.2.2.2.2.2.1] <|
                        L.chk (⟨b1, 0, none⟩) [.string x8.1, .int .i64 x8.2.1, .int .i64 x8.2.2.1, .int .i64 x8.2.2.2.1, .int .i64 x8.2.2.2.2.1, .int .i64 x8.2.2.2.2.2.1] <|
                        L.new [.string s_, .int .i64 0, .int .i64 0, .int .i64 0, .int .i64 0, .int .i64 0] T_api_Config fun b26 =>
                        L.chk (⟨b3, 0, none⟩) [.string x10.1, .int .i64 x10.2.1, .int .i64 x10.2.2.1, .int .i64 x10.2.2.2.1, .int .i64 x10.2.2.2.2.1, .int .i64 x10.2.2.2.2.2.1] <|
                        L.chk (⟨b2, 0, none⟩) [.string x9.1, .int .i64 x9.2.1, .int .i64 x9.2.2.1, .int .i64 x9.2.2.2.1, .int .i64 x9.2.2.2.2.1, .int .i64 x9.2.2.2.2.2.1] <|
                        L.chk (⟨b1, 0, none⟩) [.string x8.1, .int .i64 x8.2.1, .int .i64 x8.2.2.1, .int .i64 x8.2.2.2.1, .int .i64 x8.2.2.2.2.1, .int .i64 x8.2.2.2.2.2.1] <|
                        L.store (⟨b25, 0, none⟩) [.string x11.1, .int .i64 x11.2.1, .int .i64 x11.2.2.1, .int .i64 x11.2.2.2.1, .int .i64 x11.2.2.2.2.1, .int .i64 x11.2.2.2.2.2.1] <|
                        L.store (⟨b26, 0, none⟩) [.string x12.1, .int .i64 x12.2.1, .int .i64 x12.2.2.1, .int .i64 x12.2.2.2.1, .int .i64 x12.2.2.2.2.1, .int .i64 x12.2.2.2.2.2.1] <|
                        L.store (⟨b24, 0, none⟩) [.string x13.1, .int .i64 x13.2.1, .int .i64 x13.2.2.1, .int .i64 x13.2.2.2.1, .int .i64 x13.2.2.2.2.1, .int .i64 x13.2.2.2.2.2.1] <|
                        k6 (⟨b25, 0, none⟩, ⟨b26, 0, none⟩, ⟨b24, 0, none⟩, ())),(
                        L.new [.string s_, .int .i64 0, .int .i64 0, .int .i64 0, .int .i64 0, .int .i64 0] T_api_Config fun b27 =>
                        L.chk (⟨b3, 0, none⟩) [.string x10.1, .int .i64 x10.2.1, .int .i64 x10.2.2.1, .int .i64 x10.2.2.2.1, .int .i64 x10.2.2.2.2.1, .int .i64 x10.2.2.2.2.2.1] <|
                        L.chk (⟨b2, 0, none⟩) [.string x9.1, .int .i64 x9.2.1, .int .i64 x9.2.2.1, .int .i64 x9.2.2.2.1, .int .i64 x9.2.2.2.2.1, .int .i64 x9.2.2.2.2.2.1] <|
                        L.chk (⟨b1, 0, none⟩) [.string x8.1, .int .i64 x8.2.1, .int .i64 x8.2.2.1, .int .i64 x8.2.2.2.1, .int .i64 x8.2.2.2.2.1, .int .i64 x8.2.2.2.2.2.1] <|
                        L.new [.string s_, .int .i64 0, .int .i64 0, .int .i64 0, .int .i64 0, .int .i64 0] T_api_Config fun b28 =>
                        L.chk (⟨b3, 0, none⟩) [.string x10.1, .int .i64 x10.2.1, .int .i64 x10.2.2.1, .int .i64 x10.2.2.2.1, .int .i64 x10.2.2.2.2.1, .int .i64 x10.2.2.2.2.2.1] <|
                        L.chk (⟨b2, 0, none⟩) [.string x9.1, .int .i64 x9.2.1, .int .i64 x9.2.2.1, .int .i64 x9.2.2.2.1, .int .i64 x9.2.2.2.2.1, .int .i64 x9.2.2.2.2.2.1] <|
                        L.chk (⟨b1, 0, none⟩) [.string x8.1, .int .i64 x8.2.1, .int .i64 x8.2.2.1, .int .i64 x8.2.2.2.1, .int .i64 x8.2.2.2.2.1, .int .i64 x8.2.2.2.2.2.1] <|
                        L.store (⟨b28, 0, none⟩) [.string x11.1, .int .i64 x11.2.1, .int .i64 x11.2.2.1, .int .i64 x11.2.2.2.1, .int .i64 x11.2.2.2.2.1, .int .i64 x11.2.2.2.2.2.1] <|
                        L.store (⟨b27, 0, none⟩) [.string x12.1, .int .i64 x12.2.1, .int .i64 x12.2.2.1, .int .i64 x12.2.2.2.1, .int .i64 x12.2.2.2.2.1, .int .i64 x12.2.2.2.2.2.1] <|
                        L.store (⟨b24, 0, none⟩) [.string x13.1, .int .i64 x13.2.1, .int .i64 x13.2.2.1, .int .i64 x13.2.2.2.1, .int .i64 x13.2.2.2.2.1, .int .i64 x13.2.2.2.2.2.1] <|
                        k6 (⟨b28, 0, none⟩, ⟨b27, 0, none⟩, ⟨b24, 0, none⟩, ()))])]),(
                L.new [.string s_, .int .i64 0, .int .i64 0, .int .i64 0, .int .i64 0, .int .i64 0] T_api_Config fun b29 =>
                L.chk (⟨b3, 0, none⟩) [.string x10.1, .int .i64 x10.2.1, .int .i64 x10.2.2.1, .int .i64 x10.2.2.2.1, .int .i64 x10.2.2.2.2.1, .int .i64 x10.2.2.2.2.2.1] <|
                L.chk (⟨b2, 0, none⟩) [.string x9.1, .int .i64 x9.2.1, .int .i64 x9.2.2.1, .int .i64 x9.2.2.2.1, .int .i64 x9.2.2.2.2.1, .int .i64 x9.2.2.2.2.2.1] <|
                L.chk (⟨b1, 0, none⟩) [.string x8.1, .int .i64 x8.2.1, .int .i64 x8.2.2.1, .int .i64 x8.2.2.2.1, .int .i64 x8.2.2.2.2.1, .int .i64 x8.2.2.2.2.2.1] <|
                L.alts [(
                    L.call Pr n_damperlaw2_Config [.agg #[.string x10.1, .int .i64 x10.2.1, .int .i64 x10.2.2.1, .int .i64 x10.2.2.2.1, .int .i64 x10.2.2.2.2.1, .int .i64 x10.2.2.2.2.2.1], .int .i64 p3] (.one (.agg [.str, .int .i64, .int .i64, .int .i64, .int .i64, .int .i64])) fun (x30 : ByteArray × Int × Int × Int × Int × Int × Unit) =>
                    L.alts [(
                        L.new [.string s_, .int .i64 0, .int .i64 0, .int .i64 0, .int .i64 0, .int .i64 0] T_api_Config fun b31 =>
                        L.chk (⟨b3, 0, none⟩) [.string x10.1, .int .i64 x10.2.1, .int .i64 x10.2.2.1, .int .i64 x10.2.2.2.1, .int .i64 x10.2.2.2.2.1, .int .i64 x10.2.2.2.2.2.1] <|
                        L.chk (⟨b2, 0, none⟩) [.string x9.1, .int .i64 x9.2.1, .int .i64 x9.2.2.1, .int .i64 x9.2.2.2.1, .int .i64 x9.2.2.2.2.1, .int .i64 x9.2.2.2.2.2.1] <|
                        L.chk (⟨b1, 0, none⟩) [.string x8.1, .int .i64 x8.2.1, .int .i64 x8.2.2.1, .int .i64 x8.2.2.2.1, .int .i64 x8.2.2.2.2.1, .int .i64 x8.2.2.2.2.2.1] <|
                        L.new [.string s_, .int .i64 0, .int .i64 0, .int .i64 0, .int .i64 0, .int .i64 0] T_api_Config fun b32 =>
                        L.chk (⟨b3, 0, none⟩) [.string x10.1, .int .i64 x10.2.1, .int .i64 x10.2.2.1, .int .i64 x10.2.2.2.1, .int .i64 x10.2.2.2.2.1, .int .i64 x10.2.2.2.2.2.1] <|
                        L.chk (⟨b2, 0, none⟩) [.string x9.1, .int .i64 x9.2.1, .int .i64 x9.2.2.1, .int .i64 x9.2.2.2.1, .int .i64 x9.2.2.2.2.1, .int .i64 x9.2.2.2.2.2.1] <|
                        L.chk (⟨b1, 0, none⟩) [.string x8.1, .int .i64 x8.2.1, .int .i64 x8.2.2.1, .int .i64 x8.2.2.2.1, .int .i64 x8.2.2.2.2.1, .int .i64 x8.2.2.2.2.2.1] <|
                        L.store (⟨b29, 0, none⟩) [.string x11.1, .int .i64 x11.2.1, .int .i64 x11.2.2.1, .int .i64 x11.2.2.2.1, .int .i64 x11.2.2.2.2.1, .int .i64 x11.2.2.2.2.2.1] <|
                        L.store (⟨b31, 0, none⟩) [.string x12.1, .int .i64 x12.2.1, .int .i64 x12.2.2.1, .int .i64 x12.2.2.2.1, .int .i64 x12.2.2.2.2.1, .int .i64 x12.2.2.2.2.2.1] <|
                        L.store (⟨b32, 0, none⟩) [.string x30.1, .int .i64 x30.2.1, .int .i64 x30.2.2.1, .int .i64 x30.2.2.2.1, .int .i64 x30.2.2.2.2.1, .int .i64 x30.2.2.2.2.2.1] <|
                        k6 (⟨b29, 0, none⟩, ⟨b31, 0, none⟩, ⟨b32, 0, none⟩, ())),(
                        L.new [.string s_, .int .i64 0, .int .i64 0, .int .i64 0, .int .i64 0, .int .i64 0] T_api_Config fun b33 =>
                        L.chk (⟨b3, 0, none⟩) [.string x10.1, .int .i64 x10.2.1, .int .i64 x10.2.2.1, .int .i64 x10.2.2.2.1, .int .i64 x10.2.2.2.2.1, .int .i64 x10.2.2.2.2.2.1] <|
                        L.chk (⟨b2, 0, none⟩) [.string x9.1, .int .i64 x9.2.1, .int .i64 x9.2.2.1, .int .i64 x9.2.2.2.1, .int .i64 x9.2.2.2.2.1, .int .i64 x9.2.2.2.2.2.1] <|
                        L.chk (⟨b1, 0, none⟩) [.string x8.1, .int .i64 x8.2.1, .int .i64 x8.2.2.1, .int .i64 x8.2.2.2.1, .int .i64 x8.2.2.2.2.1, .int .i64 x8.2.2.2.2.2.1] <|
                        L.new [.string s_, .int .i64 0, .int .i64 0, .int .i64 0, .int .i64 0, .int .i64 0] T_api_Config fun b34 =>
                        L.chk (⟨b3, 0, none⟩) [.string x10.1, .int .i64 x10.2.1, .int .i64 x10.2.2.1, .int .i64 x10.2.2.2.1, .int .i64 x10.2.2.2.2.1, .int .i64 x10.2.2.2.2.2.1] <|
                        L.chk (⟨b2, 0, none⟩) [.string x9.1, .int .i64 x9.2.1, .int .i64 x9.2.2.1, .int .i64 x9.2.2.2.1, .int .i64 x9.2.2.2.2.1, .int .i64 x9.2.2.2.2.2.1] <|
                        L.chk (⟨b1, 0, none⟩) [.string x8.1, .int .i64 x8.2.1, .int .i64 x8.2.2.1, .int .i64 x8.2.2.2.1, .int .i64 x8.2.2.2.2.1, .int .i64 x8.2.2.2.2.2.1] <|
                        L.store (⟨b29, 0, none⟩) [.string x11.1, .int .i64 x11.2.1, .int .i64 x11.2.2.1, .int .i64 x11.2.2.2.1, .int .i64 x11.2.2.2.2.1, .int .i64 x11.2.2.2.2.2.1] <|
                        L.store (⟨b34, 0, none⟩) [.string x12.1, .int .i64 x12.2.1, .int .i64 x12.2.2.1, .int .i64 x12.2.2.2.1, .int .i64 x12.2.2.2.2.1, .int .i64 x12.2.2.2.2.2.1] <|
                        L.store (⟨b33, 0, none⟩) [.string x30.1, .int .i64 x30.2.1, .int .i64 x30.2.2.1, .int .i64 x30.2.2.2.1, .int .i64 x30.2.2.2.2.1, .int .i64 x30.2.2.2.2.2.1] <|
                        k6 (⟨b29, 0, none⟩, ⟨b34, 0, none⟩, ⟨b33, 0, none⟩, ()))]),(
                    L.new [.string s_, .int .i64 0, .int .i64 0, .int .i64 0, .int .i64 0, .int .i64 0] T_api_Config fun b35 =>
                    L.chk (⟨b3, 0, none⟩) [.string x10.1, .int .i64 x10.2.1, .int .i64 x10.2.2.1, .int .i64 x10.2.2.2.1, .int .i64 x10.2.2.2.2.1, .int .i64 x10.2.2.2.2.2.1] <|
                    L.chk (⟨b2, 0, none⟩) [.string x9.1, .int .i64 x9.2.1, .int .i64 x9.2.2.1, .int .i64 x9.2.2.2.1, .int .i64 x9.2.2.2.2.1, .int .i64 x9.2.2.2.2.2.1] <|
                    L.chk (⟨b1, 0, none⟩) [.string x8.1, .int .i64 x8.2.1, .int .i64 x8.2.2.1, .int .i64 x8.2.2.2.1, .int .i64 x8.2.2.2.2.1, .int .i64 x8.2.2.2.2.2.1] <|
                    L.alts [(
                        L.call Pr n_damperlaw2_Config [.agg #[.string x10.1, .int .i64 x10.2.1, .int .i64 x10.2.2.1, .int .i64 x10.2.2.2.1, .int .i64 x10.2.2.2.2.1, .int .i64 x10.2.2.2.2.2.1], .int .i64 p3] (.one (.agg [.str, .int .i64, .int .i64, .int .i64, .int .i64, .int .i64])) fun (x36 : ByteArray × Int × Int × Int × Int × Int × Unit) =>
                        L.new [.string s_, .int .i64 0, .int .i64 0, .int .i64 0, .int .i64 0, .int .i64 0] T_api_Config fun b37 =>
                        L.chk (⟨b3, 0, none⟩) [.string x10.1, .int .i64 x10.2.1, .int .i64 x10.2.2.1, .int .i64 x10.2.2.2.1, .int .i64 x10.2.2.2.2.1, .int .i64 x10.2.2.2.2.2.1] <|
                        L.chk (⟨b2, 0, none⟩) [.string x9.1, .int .i64 x9.2.1, .int .i64 x9.2.2.1, .int .i64 x9.2.2.2.1, .int .i64 x9.2.2.2.2.1, .int .i64 x9.2.2.2.2.2.1] <|
                        L.chk (⟨b1, 0, none⟩) [.string x8.1, .int .i64 x8.2.1, .int .i64 x8.2.2.1, .int .i64 x8.2.2.2.1, .int .i64 x8.2.2.2.2.1, .int .i64 x8.2.2.2.2.2.1] <|
                        L.store (⟨b29, 0, none⟩) [.string x11.1, .int .i64 x11.2.1, .int .i64 x11.2.2.1, .int .i64 x11.2.2.2.1, .int .i64 x11.2.2.2.2.1, .int .i64 x11.2.2.2.2.2.1] <|
                        L.store (⟨b35, 0, none⟩) [.string x12.1, .int .i64 x12.2.1, .int .i64 x12.2.2.1, .int .i64 x12.2.2.2.1, .int .i64 x12.2.2.2.2.1, .int .i64 x12.2.2.2.2.2.1] <|
                        L.store (⟨b37, 0, none⟩) [.string x36.1, .int .i64 x36.2.1, .int .i64 x36.2.2.1, .int .i64 x36.2.2.2.1, .int .i64 x36.2.2.2.2.1, .int .i64 x36.2.2.2.2.2.1] <|
                        k6 (⟨b29, 0, none⟩, ⟨b35, 0, none⟩, ⟨b37, 0, none⟩, ())),(
                        L.new [.string s_, .int .i64 0, .int .i64 0, .int .i64 0, .int .i64 0, .int .i64 0] T_api_Config fun b38 =>
                        L.chk (⟨b3, 0, none⟩) [.string x10.1, .int .i64 x10.2.1, .int .i64 x10.2.2.1, .int .i64 x10.2.2.2.1, .int .i64 x10.2.2.2.2.1, .int .i64 x10.2.2.2.2.2.1] <|
                        L.chk (⟨b2, 0, none⟩) [.string x9.1, .int .i64 x9.2.1, .int .i64 x9.2.2.1, .int .i64 x9.2.2.2.1, .int .i64 x9.2.2.2.2.1, .int .i64 x9.2.2.2.2.2.1] <|
                        L.chk (⟨b1, 0, none⟩) [.string x8.1, .int .i64 x8.2.1, .int .i64 x8.2.2.1, .int .i64 x8.2.2.2.1, .int .i64 x8.2.2.2.2.1, .int .i64 x8.2.2.2.2.2.1] <|
                        L.call Pr n_damperlaw2_Config [.agg #[.string x10.1, .int .i64 x10.2.1, .int .i64 x10.2.2.1, .int .i64 x10.2.2.2.1, .int .i64 x10.2.2.2.2.1, .int .i64 x10.2.2.2.2.2.1], .int .i64 p3] (.one (.agg [.str, .int .i64, .int .i64, .int .i64, .int .i64, .int .i64])) fun (x39 : ByteArray × Int × Int × Int × Int × Int × Unit) =>
                        L.store (⟨b29, 0, none⟩) [.string x11.1, .int .i64 x11.2.1, .int .i64 x11.2.2.1, .int .i64 x11.2.2.2.1, .int .i64 x11.2.2.2.2.1, .int .i64 x11.2.2.2.2.2.1] <|
                        L.store (⟨b35, 0, none⟩) [.string x12.1, .int .i64 x12.2.1, .int .i64 x12.2.2.1, .int .i64 x12.2.2.2.1, .int .i64 x12.2.2.2.2.1, .int .i64 x12.2.2.2.2.2.1] <|
                        L.store (⟨b38, 0, none⟩) [.string x39.1, .int .i64 x39.2.1, .int .i64 x39.2.2.1, .int .i64 x39.2.2.2.1, .int .i64 x39.2.2.2.2.1, .int .i64 x39.2.2.2.2.2.1] <|
                        k6 (⟨b29, 0, none⟩, ⟨b35, 0, none⟩, ⟨b38, 0, none⟩, ()))]),(
                    L.new [.string s_, .int .i64 0, .int .i64 0, .int .i64 0, .int .i64 0, .int .i64 0] T_api_Config fun b40 =>
                    L.chk (⟨b3, 0, none⟩) [.string x10.1, .int .i64 x10.2.1, .int .i64 x10.2.2.1, .int .i64 x10.2.2.2.1, .int .i64 x10.2.2.2.2.1, .int .i64 x10.2.2.2.2.2.1] <|
                    L.chk (⟨b2, 0, none⟩) [.string x9.1, .int .i64 x9.2.1, .int .i64 x9.2.2.1, .int .i64 x9.2.2.2.1, .int .i64 x9.2.2.2.2.1, .int .i64 x9.2.2.2.2.2.1] <|
                    L.chk (⟨b1, 0, none⟩) [.string x8.1, .int .i64 x8.2.1, .int .i64 x8.2.2.1, .int .i64 x8.2.2.2.1, .int .i64 x8.2.2.2.2.1, .int .i64 x8.2.2.2.2.2.1] <|
                    L.alts [(
                        L.call Pr n_damperlaw2_Config [.agg #[.string x10.1, .int .i64 x10.2.1, .int .i64 x10.2.2.1, .int .i64 x10.2.2.2.1, .int .i64 x10.2.2.2.2.1, .int .i64 x10.2.2.2.2.2.1], .int .i64 p3] (.one (.agg [.str, .int .i64, .int .i64, .int .i64, .int .i64, .int .i64])) fun (x41 : ByteArray × Int × Int × Int × Int × Int × Unit) =>
                        L.new [.string s_, .int .i64 0, .int .i64 0, .int .i64 0, .int .i64 0, .int .i64 0] T_api_Config fun b42 =>
                        L.chk (⟨b3, 0, none⟩) [.string x10.1, .int .i64 x10.2.1, .int .i64 x10.2.2.1, .int .i64 x10.2.2.2.1, .int .i64 x10.2.2.2.2.1, .int .i64 x10.2.2.2.2.2.1] <|
                        L.chk (⟨b2, 0, none⟩) [.string x9.1, .int .i64 x9.2.1, .int .i64 x9.2.2.1, .int .i64 x9.2.2.2.1, .int .i64 x9.2.2.2.2.1, .int .i64 x9.2.2.2.2.2.1] <|
                        L.chk (⟨b1, 0, none⟩) [.string x8.1, .int .i64 x8.2.1, .int .i64 x8.2.2.1, .int .i64 x8.2.2.2.1, .int .i64 x8.2.2.2.2.1, .int .i64 x8.2.2.2.2.2.1] <|
                        L.store (⟨b29, 0, none⟩) [.string x11.1, .int .i64 x11.2.1, .int .i64 x11.2.2.1, .int .i64 x11.2.2.2.1, .int .i64 x11.2.2.2.2.1, .int .i64 x11.2.2.2.2.2.1] <|
                        L.store (⟨b42, 0, none⟩) [.string x12.1, .int .i64 x12.2.1, .int .i64 x12.2.2.1, .int .i64 x12.2.2.2.1, .int .i64 x12.2.2.2.2.1, .int .i64 x12.2.2.2.2.2.1] <|
                        L.store (⟨b40, 0, none⟩) [.string x41.1, .int .i64 x41.2.1, .int .i64 x41.2.2.1, .int .i64 x41.2.2.2.1, .int .i64 x41.2.2.2.2.1, .int .i64 x41.2.2.2.2.2.1] <|
                        k6 (⟨b29, 0, none⟩, ⟨b42, 0, none⟩, ⟨b40, 0, none⟩, ())),(
                        L.new [.string s_, .int .i64 0, .int .i64 0, .int .i64 0, .int .i64 0, .int .i64 0] T_api_Config fun b43 =>
                        L.chk (⟨b3, 0, none⟩) [.string x10.1, .int .i64 x10.2.1, .int .i64 x10.2.2.1, .int .i64 x10.2.2.2.1, .int .i64 x10.2.2.2.2.1, .int .i64 x10.2.2.2.2.2.1] <|
                        L.chk (⟨b2, 0, none⟩) [.string x9.1, .int .i64 x9.2.1, .int .i64 x9.2.2.1, .int .i64 x9.2.2.2.1, .int .i64 x9.2.2.2.2.1, .int .i64 x9.2.2.2.2.2.1] <|
                        L.chk (⟨b1, 0, none⟩) [.string x8.1, .int .i64 x8.2.1, .int .i64 x8.2.2.1, .int .i64 x8.2.2.2.1, .int .i64 x8.2.2.2.2.1, .int .i64 x8.2.2.2.2.2.1] <|
                        L.call Pr n_damperlaw2_Config [.agg #[.string x10.1, .int .i64 x10.2.1, .int .i64 x10.2.2.1, .int .i64 x10.2.2.2.1, .int .i64 x10.2.2.2.2.1, .int .i64 x10.2.2.2.2.2.1], .int .i64 p3] (.one (.agg [.str, .int .i64, .int .i64, .int .i64, .int .i64, .int .i64])) fun (x44 : ByteArray × Int × Int × Int × Int × Int × Unit) =>
                        L.store (⟨b29, 0, none⟩) [.string x11.1, .int .i64 x11.2.1, .int .i64 x11.2.2.1, .int .i64 x11.2.2.2.1, .int .i64 x11.2.2.2.2.1, .int .i64 x11.2.2.2.2.2.1] <|
                        L.store (⟨b43, 0, none⟩) [.string x12.1, .int .i64 x12.2.1, .int .i64 x12.2.2.1, .int .i64 x12.2.2.2.1, .int .i64 x12.2.2.2.2.1, .int .i64 x12.2.2.2.2.2.1] <|
                        L.store (⟨b40, 0, none⟩) [.string x44.1, .int .i64 x44.2.1, .int .i64 x44.2.2.1, .int .i64 x44.2.2.2.1, .int .i64 x44.2.2.2.2.1, .int .i64 x44.2.2.2.2.2.1] <|
                        k6 (⟨b29, 0, none⟩, ⟨b43, 0, none⟩, ⟨b40, 0, none⟩, ()))])]),(
                L.new [.string s_, .int .i64 0, .int .i64 0, .int .i64 0, .int .i64 0, .int .i64 0] T_api_Config fun b45 =>
                L.chk (⟨b3, 0, none⟩) [.string x10.1, .int .i64 x10.2.1, .int .i64 x10.2.2.1, .int .i64 x10.2.2.2.1, .int .i64 x10.2.2.2.2.1, .int .i64 x10.2.2.2.2.2.1] <|
                L.chk (⟨b2, 0, none⟩) [.string x9.1, .int .i64 x9.2.1, .int .i64 x9.2.2.1, .int .i64 x9.2.2.2.1, .int .i64 x9.2.2.2.2.1, .int .i64 x9.2.2.2.2.2.1] <|
                L.chk (⟨b1, 0, none⟩) [.string x8.1, .int .i64 x8.2.1, .int .i64 x8.2.2.1, .int .i64 x8.2.2.2.1, .int .i64 x8.2.2.2.2.1, .int .i64 x8.2.2.2.2.2.1] <|
                L.alts [(
                    L.call Pr n_damperlaw2_Config [.agg #[.string x10.1, .int .i64 x10.2.1, .int .i64 x10.2.2.1, .int .i64 x10.2.2.2.1, .int .i64 x10.2.2.2.2.1, .int .i64 x10.2.2.2.2.2.1], .int .i64 p3] (.one (.agg [.str, .int .i64, .int .i64, .int .i64, .int .i64, .int .i64])) fun (x46 : ByteArray × Int × Int × Int × Int × Int × Unit) =>
                    L.alts [(
                        L.new [.string s_, .int .i64 0, .int .i64 0, .int .i64 0, .int .i64 0, .int .i64 0] T_api_Config fun b47 =>
                        L.chk (⟨b3, 0, none⟩) [.string x10.1, .int .i64 x10.2.1, .int .i64 x10.2.2.1, .int .i64 x10.2.2.2.1, .int .i64 x10.2.2.2.2.1, .int .i64 x10.2.2.2.2.2.1] <|
                        L.chk (⟨b2, 0, none⟩) [.string x9.1, .int .i64 x9.2.1, .int .i64 x9.2.2.1, .int .i64 x9.2.2.2.1, .int .i64 x9.2.2.2.2.1, .int .i64 x9.2.2.2.2.2.1] <|
                        L.chk (⟨b1, 0, none⟩) [.string x8.1, .int .i64 x8.2.1, .int .i64 x8.2.2.1, .int .i64 x8.2.2.2.1, .int .i64 x8.2.2.2.2.1, .int .i64 x8.2.2.2.2.2.1] <|
                        L.new [.string s_, .int .i64 0, .int .i64 0, .int .i64 0, .int .i64 0, .int .i64 0] T_api_Config fun b48 =>
                        L.chk (⟨b3, 0, none⟩) [.string x10.1, .int .i64 x10.2.1, .int .i64 x10.2.2.1, .int .i64 x10.2.2.2.1, .int .i64 x10.2.2.2.2.1, .int .i64 x10.2.2.2.2.2.1] <|
                        L.chk (⟨b2, 0, none⟩) [.string x9.1, .int .i64 x9.2.1, .int .i64 x9.2.2.1, .int .i64 x9.2.2.2.1, .int .i64 x9.2.2.2.2.1, .int .i64 x9.2.2.2.2.2.1] <|
                        L.chk (⟨b1, 0, none⟩) [.string x8.1, .int .i64 x8.2.1, .int .i64 x8.2.2.1, .int .i64 x8.2.2.2.1, .int .i64 x8.2.2.2.2.1, .int .i64 x8.2.2.2.2.2.1] <|
                        L.store (⟨b47, 0, none⟩) [.string x11.1, .int .i64 x11.2.1, .int .i64 x11.2.2.1, .int .i64 x11.2.2.2.1, .int .i64 x11.2.2.2.2.1, .int .i64 x11.2.2.2.2.2.1] <|
                        L.store (⟨b45, 0, none⟩) [.string x12.1, .int .i64 x12.2.1, .int .i64 x12.2.2.1, .int .i64 x12.2.2.2.1, .int .i64 x12.2.2.2.2.1, .int .i64 x12.2.2.2.2.2.1] <|
                        L.store (⟨b48, 0, none⟩) [.string x46.1, .int .i64 x46.2.1, .int .i64 x46.2.2.1, .int .i64 x46.2.2.2.1, .int .i64 x46.2.2.2.2.1, .int .i64 x46.2.2.2.2.2.1] <|
                        k6 (⟨b47, 0, none⟩, ⟨b45, 0, none⟩, ⟨b48, 0, none⟩, ())),(
                        L.new [.string s_, .int .i64 0, .int .i64 0, .int .i64 0, .int .i64 0, .int .i64 0] T_api_Config fun b49 =>
                        L.chk (⟨b3, 0, none⟩) [.string x10.1, .int .i64 x10.2.1, .int .i64 x10.2.2.1, .int .i64 x10.2.2.2.1, .int .i64 x10.2.2.2.2.1, .int .i64 x10.2.2.2.2.2.1] <|
                        L.chk (⟨b2, 0, none⟩) [.string x9.1, .int .i64 x9.2.1, .int .i64 x9.2.2.1, .int .i64 x9.2.2.2.1, .int .i64 x9.2.2.2.2.1, .int .i64 x9.2.2.2.2.2.1] <|
                        L.chk (⟨b1, 0, none⟩) [.string x8.1, .int .i64 x8.2.1, .int .i64 x8.2.2.1, .int .i64 x8.2.2.2.1, .int .i64 x8.2.2.2.2.1, .int .i64 x8.2.2.2.2.2.1] <|
                        L.new [.string s_, .int .i64 0, .int .i64 0, .int .i64 0, .int .i64 0, .int .i64 0] T_api_Config fun b50 =>
                        L.chk (⟨b3, 0, none⟩) [.string x10.1, .int .i64 x10.2.1, .int .i64 x10.2.2.1, .int .i64 x10.2.2.2.1, .int .i64 x10.2.2.2.2.1, .int .i64 x10.2.2.2.2.2.1] <|
                        L.chk (⟨b2, 0, none⟩) [.string x9.1, .int .i64 x9.2.1, .int .i64 x9.2.2.1, .int .i64 x9.2.2.2.1, .int .i64 x9.2.2.2.2.1, .int .i64 x9.2.2.2.2.2.1] <|
                        L.chk (⟨b1, 0, none⟩) [.string x8.1, .int .i64 x8.2.1, .int .i64 x8.2.2.1, .int .i64 x8.2.2.2.1, .int .i64 x8.2.2.2.2.1, .int .i64 x8.2.2.2.2.2.1] <|
                        L.store (⟨b50, 0, none⟩) [.string x11.1, .int .i64 x11.2.1, .int .i64 x11.2.2.1, .int .i64 x11.2.2.2.1, .int .i64 x11.2.2.2.2.1, .int .i64 x11.2.2.2.2.2.1] <|
                        L.store (⟨b45, 0, none⟩) [.string x12.1, .int .i64 x12.2.1, .int .i64 x12.2.2.1, .int .i64 x12.2.2.2.1, .int .i64 x12.2.2.2.2.1, .int .i64 x12.2.2.2.2.2.1] <|
                        L.store (⟨b49, 0, none⟩) [.string x46.1, .int .i64 x46.2.1, .int .i64 x46.2.2.1, .int .i64 x46.2.2.2.1, .int .i64 x46.2.2.2.2.1, .int .i64 x46.2.2.2.2.2.1] <|
                        k6 (⟨b50, 0, none⟩, ⟨b45, 0, none⟩, ⟨b49, 0, none⟩, ()))]),(
                    L.new [.string s_, .int .i64 0, .int .i64 0, .int .i64 0, .int .i64 0, .int .i64 0] T_api_Config fun b51 =>
                    L.chk (⟨b3, 0, none⟩) [.string x10.1, .int .i64 x10.2.1, .int .i64 x10.2.2.1, .int .i64 x10.2.2.2.1, .int .i64 x10.2.2.2.2.1, .int .i64 x10.2.2.2.2.2.1] <|
                    L.chk (⟨b2, 0, none⟩) [.string x9.1, .int .i64 x9.2.1, .int .i64 x9.2.2.1, .int .i64 x9.2.2.2.1, .int .i64 x9.2.2.2.2.1, .int .i64 x9.2.2.2.2.2.1] <|
                    L.chk (⟨b1, 0, none⟩) [.string x8.1, .int .i64 x8.2.1, .int .i64 x8.2.2.1, .int .i64 x8.2.2.2.1, .int .i64 x8.2.2.2.2.1, .int .i64 x8.2.2.2.2.2.1] <|
                    L.alts [(
                        L.call Pr n_damperlaw2_Config [.agg #[.string x10.1, .int .i64 x10.2.1, .int .i64 x10.2.2.1, .int .i64 x10.2.2.2.1, .int .i64 x10.2.2.2.2.1, .int .i64 x10.2.2.2.2.2.1], .int .i64 p3] (.one (.agg [.str, .int .i64, .int .i64, .int .i64, .int .i64, .int .i64])) fun (x52 : ByteArray × Int × Int × Int × Int × Int × Unit) =>
                        L.new [.string s_, .int .i64 0, .int .i64 0, .int .i64 0, .int .i64 0, .int .i64 0] T_api_Config fun b53 =>
                        L.chk (⟨b3, 0, none⟩) [.string x10.1, .int .i64 x10.2.1, .int .i64 x10.2.2.1, .int .i64 x10.2.2.2.1, .int .i64 x10.2.2.2.2.1, .int .i64 x10.2.2.2.2.2.1] <|
                        L.chk (⟨b2, 0, none⟩) [.string x9.1, .int .i64 x9.2.1, .int .i64 x9.2.2.1, .int .i64 x9.2.2.2.1, .int .i64 x9.2.2.2.2.1, .int .i64 x9.2.2.2.2.2.1] <|
                        L.chk (⟨b1, 0, none⟩) [.string x8.1, .int .i64 x8.2.1, .int .i64 x8.2.2.1, .int .i64 x8.2.2.2.1, .int .i64 x8.2.2.2.2.1, .int .i64 x8.2.2.2.2.2.1] <|
                        L.store (⟨b51, 0, none⟩) [.string x11.1, .int .i64 x11.2.1, .int .i64 x11.2.2.1, .int .i64 x11.2.2.2.1, .int .i64 x11.2.2.2.2.1, .int .i64 x11.2.2.2.2.2.1] <|
                        L.store (⟨b45, 0, none⟩) [.string x12.1, .int .i64 x12.2.1, .int .i64 x12.2.2.1, .int .i64 x12.2.2.2.1, .int .i64 x12.2.2.2.2.1, .int .i64 x12.2.2.2.2.2.1] <|
                        L.store (⟨b53, 0, none⟩) [.string x52.1, .int .i64 x52.2.1, .int .i64 x52.2.2.1, .int .i64 x52.2.2.2.1, .int .i64 x52.2.2.2.2.1, .int .i64 x52.2.2.2.2.2.1] <|
                        k6 (⟨b51, 0, none⟩, ⟨b45, 0, none⟩, ⟨b53, 0, none⟩, ())),(
                        L.new [.string s_, .int .i64 0, .int .i64 0, .int .i64 0, .int .i64 0, .int .i64 0] T_api_Config fun b54 =>
                        L.chk (⟨b3, 0, none⟩) [.string x10.1, .int .i64 x10.2.1, .int .i64 x10.2.2.1, .int .i64 x10.2.2.2.1, .int .i64 x10.2.2.2.2.1, .int .i64 x10.2.2.2.2.2.1] <|
                        L.chk (⟨b2, 0, none⟩) [.string x9.1, .int .i64 x9.2.1, .int .i64 x9.2.2.1, .int .i64 x9.2.2.2.1, .int .i64 x9.2.2.2.2.1, .int .i64 x9.2.2.2.2.2.1] <|
                        L.chk (⟨b1, 0, none⟩) [.string x8.1, .int .i64 x8.2.1, .int .i64 x8.2.2.1, .int .i64 x8.2.2.2.1, .int .i64 x8.2.2.2.2.1, .int .i64 x8.2.2.2.2.2.1] <|
                        L.call Pr n_damperlaw2_Config [.agg #[.string x10.1, .int .i64 x10.2.1, .int .i64 x10.2.2.1, .int .i64 x10.2.2.2.1, .int .i64 x10.2.2.2.2.1, .int .i64 x10.2.2.2.2.2.1], .int .i64 p3] (.one (.agg [.str, .int .i64, .int .i64, .int .i64, .int .i64, .int .i64])) fun (x55 : ByteArray × Int × Int × Int × Int × Int × Unit) =>
                        L.store (⟨b51, 0, none⟩) [.string x11.1, .int .i64 x11.2.1, .int .i64 x11.2.2.1, .int .i64 x11.2.2.2.1, .int .i64 x11.2.2.2.2.1, .int .i64 x11.2.2.2.2.2.1] <|
                        L.store (⟨b45, 0, none⟩) [.string x12.1, .int .i64 x12.2.1, .int .i64 x12.2.2.1, .int .i64 x12.2.2.2.1, .int .i64 x12.2.2.2.2.1, .int .i64 x12.2.2.2.2.2.1] <|
                        L.store (⟨b54, 0, none⟩) [.string x55.1, .int .i64 x55.2.1, .int .i64 x55.2.2.1, .int .i64 x55.2.2.2.1, .int .i64 x55.2.2.2.2.1, .int .i64 x55.2.2.2.2.2.1] <|
                        k6 (⟨b51, 0, none⟩, ⟨b45, 0, none⟩, ⟨b54, 0, none⟩, ()))]),(
                    L.new [.string s_, .int .i64 0, .int .i64 0, .int .i64 0, .int .i64 0, .int .i64 0] T_api_Config fun b56 =>
                    L.chk (⟨b3, 0, none⟩) [.string x10.1, .int .i64 x10.2.1, .int .i64 x10.2.2.1, .int .i64 x10.2.2.2.1, .int .i64 x10.2.2.2.2.1, .int .i64 x10.2.2.2.2.2.1] <|
                    L.chk (⟨b2, 0, none⟩) [.string x9.1, .int .i64 x9.2.1, .int .i64 x9.2.2.1, .int .i64 x9.2.2.2.1, .int .i64 x9.2.2.2.2.1, .int .i64 x9.2.2.2.2.2.1] <|
                    L.chk (⟨b1, 0, none⟩) [.string x8.1, .int .i64 x8.2.1, .int .i64 x8.2.2.1, .int .i64 x8.2.2.2.1, .int .i64 x8.2.2.2.2.1, .int .i64 x8.2.2.2.2.2.1] <|
                    L.alts [(
                        L.call Pr n_damperlaw2_Config [.agg #[.string x10.1, .int .i64 x10.2.1, .int .i64 x10.2.2.1, .int .i64 x10.2.2.2.1, .int .i64 x10.2.2.2.2.1, .int .i64 x10.2.2.2.2.2.1], .int .i64 p3] (.one (.agg [.str, .int .i64, .int .i64, .int .i64, .int .i64, .int .i64])) fun (x57 : ByteArray × Int × Int × Int × Int × Int × Unit) =>
                        L.new [.string s_, .int .i64 0, .int .i64 0, .int .i64 0, .int .i64 0, .int .i64 0] T_api_Config fun b58 =>
                        L.chk (⟨b3, 0, none⟩) [.string x10.1, .int .i64 x10.2.1, .int .i64 x10.2.2.1, .int .i64 x10.2.2.2.1, .int .i64 x10.2.2.2.2.1, .int .i64 x10.2.2.2.2.2.1] <|
                        L.chk (⟨b2, 0, none⟩) [.string x9.1, .int .i64 x9.2.1, .int .i64 x9.2.2.1, .int .i64 x9.2.2.2.1, .int .i64 x9.2.2.2.2.1, .int .i64 x9.2.2.2.2.2.1] <|
                        L.chk (⟨b1, 0, none⟩) [.string x8.1, .int .i64 x8.2.1, .int .i64 x8.2.2.1, .int .i64 x8.2.2.2.1, .int .i64 x8.2.2.2.2.1, .int .i64 x8.2.2.2.2.2.1] <|
                        L.store (⟨b58, 0, none⟩) [.string x11.1, .int .i64 x11.2.1, .int .i64 x11.2.2.1, .int .i64 x11.2.2.2.1, .int .i64 x11.2.2.2.2.1, .int .i64 x11.2.2.2.2.2.1] <|
                        L.store (⟨b45, 0, none⟩) [.string x12.1, .int .i64 x12.2.1, .int .i64 x12.2.2.1, .int .i64 x12.2.2.2.1, .int .i64 x12.2.2.2.2.1, .int .i64 x12.2.2.2.2.2.1] <|
                        L.store (⟨b56, 0, none⟩) [.string x57.1, .int .i64 x57.2.1, .int .i64 x57.2.2.1, .int .i64 x57.2.2.2.1, .int .i64 x57.2.2.2.2.1, .int .i64 x57.2.2.2.2.2.1] <|
                        k6 (⟨b58, 0, none⟩, ⟨b45, 0, none⟩, ⟨b56, 0, none⟩, ())),(
                        L.new [.string s_, .int .i64 0, .int .i64 0, .int .i64 0, .int .i64 0, .int .i64 0] T_api_Config fun b59 =>
                        L.chk (⟨b3, 0, none⟩) [.string x10.1, .int .i64 x10.2.1, .int .i64 x10.2.2.1, .int .i64 x10.2.2.2.1, .int .i64 x10.2.2.2.2.1, .int .i64 x10.2.2.2.2.2.1] <|
                        L.chk (⟨b2, 0, none⟩) [.string x9.1, .int .i64 x9.2.1, .int .i64 x9.2.2.1, .int .i64 x9.2.2.2.1, .int .i64 x9.2.2.2.2.1, .int .i64 x9.2.2.2.2.2.1] <|
                        L.chk (⟨b1, 0, none⟩) [.string x8.1, .int .i64 x8.2.1, .int .i64 x8.2.2.1, .int .i64 x8.2.2.2.1, .int .i64 x8.2.2.2.2.1, .int .i64 x8.2.2.2.2.2.1] <|
                        L.call Pr n_damperlaw2_Config [.agg #[.string x10.1, .int .i64 x10.2.1, .int .i64 x10.2.2.1, .int .i64 x10.2.2.2.1, .int .i64 x10.2.2.2.2.1, .int .i64 x10.2.2.2.2.2.1], .int .i64 p3] (.one (.agg [.str, .int .i64, .int .i64, .int .i64, .int .i64, .int .i64])) fun (x60 : ByteArray × Int × Int × Int × Int × Int × Unit) =>
                        L.store (⟨b59, 0, none⟩) [.string x11.1, .int .i64 x11.2.1, .int .i64 x11.2.2.1, .int .i64 x11.2.2.2.1, .int .i64 x11.2.2.2.2.1, .int .i64 x11.2.2.2.2.2.1] <|
                        L.store (⟨b45, 0, none⟩) [.string x12.1, .int .i64 x12.2.1, .int .i64 x12.2.2.1, .int .i64 x12.2.2.2.1, .int .i64 x12.2.2.2.2.1, .int .i64 x12.2.2.2.2.2.1] <|
                        L.store (⟨b56, 0, none⟩) [.string x60.1, .int .i64 x60.2.1, .int .i64 x60.2.2.1, .int .i64 x60.2.2.2.1, .int .i64 x60.2.2.2.2.1, .int .i64 x60.2.2.2.2.2.1] <|
                        k6 (⟨b59, 0, none⟩, ⟨b45, 0, none⟩, ⟨b56, 0, none⟩, ()))])]),(
                L.new [.string s_, .int .i64 0, .int .i64 0, .int .i64 0, .int .i64 0, .int .i64 0] T_api_Config fun b61 =>
                L.chk (⟨b3, 0, none⟩) [.string x10.1, .int .i64 x10.2.1, .int .i64 x10.2.2.1, .int .i64 x10.2.2.2.1, .int .i64 x10.2.2.2.2.1, .int .i64 x10.2.2.2.2.2.1] <|
                L.chk (⟨b2, 0, none⟩) [.string x9.1, .int .i64 x9.2.1, .int .i64 x9.2.2.1, .int .i64 x9.2.2.2.1, .int .i64 x9.2.2.2.2.1, .int .i64 x9.2.2.2.2.2.1] <|
                L.chk (⟨b1, 0, none⟩) [.string x8.1, .int .i64 x8.2.1, .int .i64 x8.2.2.1, .int .i64 x8.2.2.2.1, .int .i64 x8.2.2.2.2.1, .int .i64 x8.2.2.2.2.2.1] <|
                L.alts [(
                    L.call Pr n_damperlaw2_Config [.agg #[.string x10.1, .int .i64 x10.2.1, .int .i64 x10.2.2.1, .int .i64 x10.2.2.2.1, .int .i64 x10.2.2.2.2.1, .int .i64 x10.2.2.2.2.2.1], .int .i64 p3] (.one (.agg [.str, .int .i64, .int .i64, .int .i64, .int .i64, .int .i64])) fun (x62 : ByteArray × Int × Int × Int × Int × Int × Unit) =>
                    L.alts [(
                        L.new [.string s_, .int .i64 0, .int .i64 0, .int .i64 0, .int .i64 0, .int .i64 0] T_api_Config fun b63 =>
                        L.chk (⟨b3, 0, none⟩) [.string x10.1, .int .i64 x10.2.1, .int .i64 x10.2.2.1, .int .i64 x10.2.2.2.1, .int .i64 x10.2.2.2.2.1, .int .i64 x10.2.2.2.2.2.1] <|
                        L.chk (⟨b2, 0, none⟩) [.string x9.1, .int .i64 x9.2.1, .int .i64 x9.2.2.1, .int .i64 x9.2.2.2.1, .int .i64 x9.2.2.2.2.1, .int .i64 x9.2.2.2.2.2.1] <|
                        L.chk (⟨b1, 0, none⟩) [.string x8.1, .int .i64 x8.2.1, .int .i64 x8.2.2.1, .int .i64 x8.2.2.2.1, .int .i64 x8.2.2.2.2.1, .int .i64 x8.2.2.2.2.2.1] <|
                        L.new [.string s_, .int .i64 0, .int .i64 0, .int .i64 0, .int .i64 0, .int .i64 0] T_api_Config fun b64 =>
                        L.chk (⟨b3, 0, none⟩) [.string x10.1, .int .i64 x10.2.1, .int .i64 x10.2.2.1, .int .i64 x10.2.2.2.1, .int .i64 x10.2.2.2.2.1, .int .i64 x10.2.2.2.2.2.1] <|
                        L.chk (⟨b2, 0, none⟩) [.string x9.1, .int .i64 x9.2.1, .int .i64 x9.2.2.1, .int .i64 x9.2.2.2.1, .int .i64 x9.2.2.2.2.1, .int .i64 x9.2.2.2.2.2.1] <|
                        L.chk (⟨b1, 0, none⟩) [.string x8.1, .int .i64 x8.2.1, .int .i64 x8.2.2.1, .int .i64 x8.2.2.2.1, .int .i64 x8.2.2.2.2.1, .int .i64 x8.2.2.2.2.2.1] <|
                        L.store (⟨b63, 0, none⟩) [.string x11.1, .int .i64 x11.2.1, .int .i64 x11.2.2.1, .int .i64 x11.2.2.2.1, .int .i64 x11.2.2.2.2.1, .int .i64 x11.2.2.2.2.2.1] <|
                        L.store (⟨b64, 0, none⟩) [.string x12.1, .int .i64 x12.2.1, .int .i64 x12.2.2.1, .int .i64 x12.2.2.2.1, .int .i64 x12.2.2.2.2.1, .int .i64 x12.2.2.2.2.2.1] <|
                        L.store (⟨b61, 0, none⟩) [.string x62.1, .int .i64 x62.2.1, .int .i64 x62.2.2.1, .int .i64 x62.2.2.2.1, .int .i64 x62.2.2.2.2.1, .int .i64 x62.2.2.2.2.2.1] <|
                        k6 (⟨b63, 0, none⟩, ⟨b64, 0, none⟩, ⟨b61, 0, none⟩, ())),(
                        L.new [.string s_, .int .i64 0, .int .i64 0, .int .i64 0, .int .i64 0, .int .i64 0] T_api_Config fun b65 =>
                        L.chk (⟨b3, 0, none⟩) [.string x10.1, .int .i64 x10.2.1, .int .i64 x10.2.2.1, .int .i64 x10.2.2.2.1, .int .i64 x10.2.2.2.2.1, .int .i64 x10.2.2.2.2.2.1] <|
                        L.chk (⟨b2, 0, none⟩) [.string x9.1, .int .i64 x9.2.1, .int .i64 x9.2.2.1, .int .i64 x9.2.2.2.1, .int .i64 x9.2.2.2.2.1, .int .i64 x9.2.2.2.2.2.1] <|
                        L.chk (⟨b1, 0, none⟩) [.string x8.1, .int .i64 x8.2.1, .int .i64 x8.2.2.1, .int .i64 x8.2.2.2.1, .int .i64 x8.2.2.2.2.1, .int .i64 x8.2.2.2.2.2.1] <|
                        L.new [.string s_, .int .i64 0, .int .i64 0, .int .i64 0, .int .i64 0, .int .i64 0] T_api_Config fun b66 =>
                        L.chk (⟨b3, 0, none⟩) [.string x10.1, .int .i64 x10.2.1, .int .i64 x10.2.2.1, .int .i64 x10.2.2.2.1, .int .i64 x10.2.2.2.2.1, .int .i64 x10.2.2.2.2.2.1] <|
                        L.chk (⟨b2, 0, none⟩) [.string x9.1, .int .i64 x9.2.1, .int .i64 x9.2.2.1, .int .i64 x9.2.2.2.1, .int .i64 x9.2.2.2.2.1, .int .i64 x9.2.2.2.2.2.1] <|
                        L.chk (⟨b1, 0, none⟩) [.string x8.1, .int .i64 x8.2.1, .int .i64 x8.2.2.1, .int .i64 x8.2.2.2.1, .int .i64 x8.2.2.2.2.1, .int .i64 x8.2.2.2.2.2.1] <|
                        L.store (⟨b66, 0, none⟩) [.string x11.1, .int .i64 x11.2.1, .int .i64 x11.2.2.1, .int .i64 x11.2.2.2.1, .int .i64 x11.2.2.2.2.1, .int .i64 x11.2.2.2.2.2.1] <|
                        L.store (⟨b65, 0, none⟩) [.string x12.1, .int .i64 x12.2.1, .int .i64 x12.2.2.1, .int .i64 x12.2.2.2.1, .int .i64 x12.2.2.2.2.1, .int .i64 x12.2.2.2.2.2.1] <|
                        L.store (⟨b61, 0, none⟩) [.string x62.1, .int .i64 x62.2.1, .int .i64 x62.2.2.1, .int .i64 x62.2.2.2.1, .int .i64 x62.2.2.2.2.1, .int .i64 x62.2.2.2.2.2.1] <|
                        k6 (⟨b66, 0, none⟩, ⟨b65, 0, none⟩, ⟨b61, 0, none⟩, ()))]),(
                    L.new [.string s_, .int .i64 0, .int .i64 0, .int .i64 0, .int .i64 0, .int .i64 0] T_api_Config fun b67 =>
                    L.chk (⟨b3, 0, none⟩) [.string x10.1, .int .i64 x10.2.1, .int .i64 x10.2.2.1, .int .i64 x10.2.2.2.1, .int .i64 x10.2.2.2.2.1, .int .i64 x10.2.2.2.2.2.1] <|
                    L.chk (⟨b2, 0, none⟩) [.string x9.1, .int .i64 x9.2.1, .int .i64 x9.2.2.1, .int .i64 x9.2.2.2.1, .int .i64 x9.2.2.2.2.1, .int .i64 x9.2.2.2.2.2.1] <|
                    L.chk (⟨b1, 0, none⟩) [.string x8.1, .int .i64 x8.2.1, .int .i64 x8.2.2.1, .int .i64 x8.2.2.2.1, .int .i64 x8.2.2.2.2.1, .int .i64 x8.2.2.2.2.2.1] <|
                    L.alts [(
                        L.call Pr n_damperlaw2_Config [.agg #[.string x10.1, .int .i64 x10.2.1, .int .i64 x10.2.2.1, .int .i64 x10.2.2.2.1, .int .i64 x10.2.2.2.2.1, .int .i64 x10.2.2.2.2.2.1], .int .i64 p3] (.one (.agg [.str, .int .i64, .int .i64, .int .i64, .int .i64, .int .i64])) fun (x68 : ByteArray × Int × Int × Int × Int × Int × Unit) =>
                        L.new [.string s_, .int .i64 0, .int .i64 0, .int .i64 0, .int .i64 0, .int .i64 0] T_api_Config fun b69 =>
                        L.chk (⟨b3, 0, none⟩) [.string x10.1, .int .i64 x10.2.1, .int .i64 x10.2.2.1, .int .i64 x10.2.2.2.1, .int .i64 x10.2.2.2.2.1, .int .i64 x10.2.2.2.2.2.1] <|
                        L.chk (⟨b2, 0, none⟩) [.string x9.1, .int .i64 x9.2.1, .int .i64 x9.2.2.1, .int .i64 x9.2.2.2.1, .int .i64 x9.2.2.2.2.1, .int .i64 x9.2.2.2.2.2.1] <|
                        L.chk (⟨b1, 0, none⟩) [.string x8.1, .int .i64 x8.2.1, .int .i64 x8.2.2.1, .int .i64 x8.2.2.2.1, .int .i64 x8.2.2.2.2.1, .int .i64 x8.2.2.2.2.2.1] <|
                        L.store (⟨b67, 0, none⟩) [.string x11.1, .int .i64 x11.2.1, .int .i64 x11.2.2.1, .int .i64 x11.2.2.2.1, .int .i64 x11.2.2.2.2.1, .int .i64 x11.2.2.2.2.2.1] <|
                        L.store (⟨b69, 0, none⟩) [.string x12.1, .int .i64 x12.2.1, .int .i64 x12.2.2.1, .int .i64 x12.2.2.2.1, .int .i64 x12.2.2.2.2.1, .int .i64 x12.2.2.2.2.2.1] <|
                        L.store (⟨b61, 0, none⟩) [.string x68.1, .int .i64 x68.2.1, .int .i64 x68.2.2.1, .int .i64 x68.2.2.2.1, .int .i64 x68.2.2.2.2.1, .int .i64 x68.2.2.2.2.2.1] <|
                        k6 (⟨b67, 0, none⟩, ⟨b69, 0, none⟩, ⟨b61, 0, none⟩, ())),(
                        L.new [.string s_, .int .i64 0, .int .i64 0, .int .i64 0, .int .i64 0, .int .i64 0] T_api_Config fun b70 =>
                        L.chk (⟨b3, 0, none⟩) [.string x10.1, .int .i64 x10.2.1, .int .i64 x10.2.2.1, .int .i64 x10.2.2.2.1, .int .i64 x10.2.2.2.2.1, .int .i64 x10.2.2.2.2.2.1] <|
                        L.chk (⟨b2, 0, none⟩) [.string x9.1, .int .i64 x9.2.1, .int .i64 x9.2.2.1, .int .i64 x9.2.2.2.1, .int .i64 x9.2.2.2.2.1, .int .i64 x9.2.2.2.2.2.1] <|
                        L.chk (⟨b1, 0, none⟩) [.string x8.1, .int .i64 x8.2.1, .int .i64 x8.2.2.1, .int .i64 x8.2.2.2.1, .int .i64 x8.2.2.2.2.1, .int .i64 x8.2.2.2.2.2.1] <|
                        L.call Pr n_damperlaw2_Config [.agg #[.string x10.1, .int .i64 x10.2.1, .int .i64 x10.2.2.1, .int .i64 x10.2.2.2.1, .int .i64 x10.2.2.2.2.1, .int .i64 x10.2.2.2.2.2.1], .int .i64 p3] (.one (.agg [.str, .int .i64, .int .i64, .int .i64, .int .i64, .int .i64])) fun (x71 : ByteArray × Int × Int × Int × Int × Int × Unit) =>
                        L.store (⟨b67, 0, none⟩) [.string x11.1, .int .i64 x11.2.1, .int .i64 x11.2.2.1, .int .i64 x11.2.2.2.1, .int .i64 x11.2.2.2.2.1, .int .i64 x11.2.2.2.2.2.1] <|
                        L.store (⟨b70, 0, none⟩) [.string x12.1, .int .i64 x12.2.1, .int .i64 x12.2.2.1, .int .i64 x12.2.2.2.1, .int .i64 x12.2.2.2.2.1, .int .i64 x12.2.2.2.2.2.1] <|
                        L.store (⟨b61, 0, none⟩) [.string x71.1, .int .i64 x71.2.1, .int .i64 x71.2.2.1, .int .i64 x71.2.2.2.1, .int .i64 x71.2.2.2.2.1, .int .i64 x71.2.2.2.2.2.1] <|
                        k6 (⟨b67, 0, none⟩, ⟨b70, 0, none⟩, ⟨b61, 0, none⟩, ()))]),(
                    L.new [.string s_, .int .i64 0, .int .i64 0, .int .i64 0, .int .i64 0, .int .i64 0] T_api_Config fun b72 =>
                    L.chk (⟨b3, 0, none⟩) [.string x10.1, .int .i64 x10.2.1, .int .i64 x10.2.2.1, .int .i64 x10.2.2.2.1, .int .i64 x10.2.2.2.2.1, .int .i64 x10.2.2.2.2.2.1] <|
                    L.chk (⟨b2, 0, none⟩) [.string x9.1, .int .i64 x9.2.1, .int .i64 x9.2.2.1, .int .i64 x9.2.2.2.1, .int .i64 x9.2.2.2.2.1, .int .i64 x9.2.2.2.2.2.1] <|
                    L.chk (⟨b1, 0, none⟩) [.string x8.1, .int .i64 x8.2.1, .int .i64 x8.2.2.1, .int .i64 x8.2.2.2.1, .int .i64 x8.2.2.2.2.1, .int .i64 x8.2.2.2.2.2.1] <|
                    L.alts [(
                        L.call Pr n_damperlaw2_Config [.agg #[.string x10.1, .int .i64 x10.2.1, .int .i64 x10.2.2.1, .int .i64 x10.2.2.2.1, .int .i64 x10.2.2.2.2.1, .int .i64 x10.2.2.2.2.2.1], .int .i64 p3] (.one (.agg [.str, .int .i64, .int .i64, .int .i64, .int .i64, .int .i64])) fun (x73 : ByteArray × Int × Int × Int × Int × Int × Unit) =>
                        L.new [.string s_, .int .i64 0, .int .i64 0, .int .i64 0, .int .i64 0, .int .i64 0] T_api_Config fun b74 =>
                        L.chk (⟨b3, 0, none⟩) [.string x10.1, .int .i64 x10.2.1, .int .i64 x10.2.2.1, .int .i64 x10.2.2.2.1, .int .i64 x10.2.2.2.2.1, .int .i64 x10.2.2.2.2.2.1] <|
                        L.chk (⟨b2, 0, none⟩) [.string x9.1, .int .i64 x9.2.1, .int .i64 x9.2.2.1, .int .i64 x9.2.2.2.1, .int .i64 x9.2.2.2.2.1, .int .i64 x9.2.2.2.2.2.1] <|
                        L.chk (⟨b1, 0, none⟩) [.string x8.1, .int .i64 x8.2.1, .int .i64 x8.2.2.1, .int .i64 x8.2.2.2.1, .int .i64 x8.2.2.2.2.1, .int .i64 x8.2.2.2.2.2.1] <|
                        L.store (⟨b74, 0, none⟩) [.string x11.1, .int .i64 x11.2.1, .int .i64 x11.2.2.1, .int .i64 x11.2.2.2.1, .int .i64 x11.2.2.2.2.1, .int .i64 x11.2.2.2.2.2.1] <|
                        L.store (⟨b72, 0, none⟩) [.string x12.1, .int .i64 x12.2.1, .int .i64 x12.2.2.1, .int .i64 x12.2.2.2.1, .int .i64 x12.2.2.2.2.1, .int .i64 x12.2.2.2.2.2.1] <|
                        L.store (⟨b61, 0, none⟩) [.string x73.1, .int .i64 x73.2.1, .int .i64 x73.2.2.1, .int .i64 x73.2.2.2.1, .int .i64 x73.2.2.2.2.1, .int .i64 x73.2.2.2.2.2.1] <|
                        k6 (⟨b74, 0, none⟩, ⟨b72, 0, none⟩, ⟨b61, 0, none⟩, ())),(
                        L.new [.string s_, .int .i64 0, .int .i64 0, .int .i64 0, .int .i64 0, .int .i64 0] T_api_Config fun b75 =>
                        L.chk (⟨b3, 0, none⟩) [.string x10.1, .int .i64 x10.2.1, .int .i64 x10.2.2.1, .int .i64 x10.2.2.2.1, .int .i64 x10.2.2.2.2.1, .int .i64 x10.2.2.2.2.2.1] <|
                        L.chk (⟨b2, 0, none⟩) [.string x9.1, .int .i64 x9.2.1, .int .i64 x9.2.2.1, .int .i64 x9.2.2.2.1, .int .i64 x9.2.2.2.2.1, .int .i64 x9.2.2.2.2.2.1] <|
                        L.chk (⟨b1, 0, none⟩) [.string x8.1, .int .i64 x8.2.1, .int .i64 x8.2.2.1, .int .i64 x8.2.2.2.1, .int .i64 x8.2.2.2.2.1, .int .i64 x8.2.2.2.2.2.1] <|
                        L.call Pr n_damperlaw2_Config [.agg #[.string x10.1, .int .i64 x10.2.1, .int .i64 x10.2.2.1, .int .i64 x10.2.2.2.1, .int .i64 x10.2.2.2.2.1, .int .i64 x10.2.2.2.2.2.1], .int .i64 p3] (.one (.agg [.str, .int .i64, .int .i64, .int .i64, .int .i64, .int .i64])) fun (x76 : ByteArray × Int × Int × Int × Int × Int × Unit) =>
                        L.store (⟨b75, 0, none⟩) [.string x11.1, .int .i64 x11.2.1, .int .i64 x11.2.2.1, .int .i64 x11.2.2.2.1, .int .i64 x11.2.2.2.2.1, .int .i64 x11.2.2.2.2.2.1] <|
                        L.store (⟨b72, 0, none⟩) [.string x12.1, .int .i64 x12.2.1, .int .i64 x12.2.2.1, .int .i64 x12.2.2.2.1, .int .i64 x12.2.2.2.2.1, .int .i64 x12.2.2.2.2.2.1] <|
                        L.store (⟨b61, 0, none⟩) [.string x76.1, .int .i64 x76.2.1, .int .i64 x76.2.2.1, .int .i64 x76.2.2.2.1, .int .i64 x76.2.2.2.2.1, .int .i64 x76.2.2.2.2.2.1] <|
                        k6 (⟨b75, 0, none⟩, ⟨b72, 0, none⟩, ⟨b61, 0, none⟩, ()))])])]),(
            L.new [.string s_, .int .i64 0, .int .i64 0, .int .i64 0, .int .i64 0, .int .i64 0] T_api_Config fun b77 =>
            L.chk (⟨b3, 0, none⟩) [.string x10.1, .int .i64 x10.2.1, .int .i64 x10.2.2.1, .int .i64 x10.2.2.2.1, .int .i64 x10.2.2.2.2.1, .int .i64 x10.2.2.2.2.2.1] <|
            L.chk (⟨b2, 0, none⟩) [.string x9.1, .int .i64 x9.2.1, .int .i64 x9.2.2.1, .int .i64 x9.2.2.2.1, .int .i64 x9.2.2.2.2.1, .int .i64 x9.2.2.2.2.2.1] <|
            L.chk (⟨b1, 0, none⟩) [.string x8.1, .int .i64 x8.2.1, .int .i64 x8.2.2.1, .int .i64 x8.2.2.2.1, .int .i64 x8.2.2.2.2.1, .int .i64 x8.2.2.2.2.2.1] <|
            L.alts [(
                L.call Pr n_damperlaw2_Config [.agg #[.string x9.1, .int .i64 x9.2.1, .int .i64 x9.2.2.1, .int .i64 x9.2.2.2.1, .int .i64 x9.2.2.2.2.1, .int .i64 x9.2.2.2.2.2.1], .int .i64 p3] (.one (.agg [.str, .int .i64, .int .i64, .int .i64, .int .i64, .int .i64])) fun (x78 : ByteArray × Int × Int × Int × Int × Int × Unit) =>
                L.chk (⟨b3, 0, none⟩) [.string x10.1, .int .i64 x10.2.1, .int .i64 x10.2.2.1, .int .i64 x10.2.2.2.1, .int .i64 x10.2.2.2.2.1, .int .i64 x10.2.2.2.2.2.1] <|
                L.alts [(
                    L.call Pr n_damperlaw2_Config [.agg #[.string x10.1, .int .i64 x10.2.1, .int .i64 x10.2.2.1, .int .i64 x10.2.2.2.1, .int .i64 x10.2.2.2.2.1, .int .i64 x10.2.2.2.2.2.1], .int .i64 p3] (.one (.agg [.str, .int .i64, .int .i64, .int .i64, .int .i64, .int .i64])) fun (x79 : ByteArray × Int × Int × Int × Int × Int × Unit) =>
                    L.alts [(
                        L.new [.string s_, .int .i64 0, .int .i64 0, .int .i64 0, .int .i64 0, .int .i64 0] T_api_Config fun b80 =>
                        L.chk (⟨b3, 0, none⟩) [.string x10.1, .int .i64 x10.2.1, .int .i64 x10.2.2.1, .int .i64 x10.2.2.2.1, .int .i64 x10.2.2.2.2.1, .int .i64 x10.2.2.2.2.2.1] <|
                        L.chk (⟨b2, 0, none⟩) [.string x9.1, .int .i64 x9.2.1, .int .i64 x9.2.2.1, .int .i64 x9.2.2.2.1, .int .i64 x9.2.2.2.2.1, .int .i64 x9.2.2.2.2.2.1] <|
                        L.chk (⟨b1, 0, none⟩) [.string x8.1, .int .i64 x8.2.1, .int .i64 x8.2.2.1, .int .i64 x8.2.2.2.1, .int .i64 x8.2.2.2.2.1, .int .i64 x8.2.2.2.2.2.1] <|
                        L.new [.string s_, .int .i64 0, .int .i64 0, .int .i64 0, .int .i64 0, .int .i64 0] T_api_Config fun b81 =>
                        L.chk (⟨b3, 0, none⟩) [.string x10.1, .int .i64 x10.2.1, .int .i64 x10.2.2.1, .int .i64 x10.2.2.2.1, .int .i64 x10.2.2.2.2.1, .int .i64 x10.2.2.2.2.2.1] <|
                        L.chk (⟨b2, 0, none⟩) [.string x9.1, .int .i64 x9.2.1, .int .i64 x9.2.2.1, .int .i64 x9.2.2.2.1, .int .i64 x9.2.2.2.2.1, .int .i64 x9.2.2.2.2.2.1] <|
                        L.chk (⟨b1, 0, none⟩) [.string x8.1, .int .i64 x8.2.1, .int .i64 x8.2.2.1, .int .i64 x8.2.2.2.1, .int .i64 x8.2.2.2.2.1, .int .i64 x8.2.2.2.2.2.1] <|
                        L.store (⟨b77, 0, none⟩) [.string x11.1, .int .i64 x11.2.1, .int .i64 x11.2.2.1, .int .i64 x11.2.2.2.1, .int .i64 x11.2.2.2.2.1, .int .i64 x11.2.2.2.2.2.1] <|
                        L.store (⟨b80, 0, none⟩) [.string x78.1, .int .i64 x78.2.1, .int .i64 x78.2.2.1, .int .i64 x78.2.2.2.1, .int .i64 x78.2.2.2.2.1, .int .i64 x78.2.2.2.2.2.1] <|
                        L.store (⟨b81, 0, none⟩) [.string x79.1, .int .i64 x79.2.1, .int .i64 x79.2.2.1, .int .i64 x79.2.2.2.1, .int .i64 x79.2.2.2.2.1, .int .i64 x79.2.2.2.2.2.1] <|
                        k6 (⟨b77, 0, none⟩, ⟨b80, 0, none⟩, ⟨b81, 0, none⟩, ())),(
                        L.new [.string s_, .int .i64 0, .int .i64 0, .int .i64 0, .int .i64 0, .int .i64 0] T_api_Config fun b82 =>
                        L.chk (⟨b3, 0, none⟩) [.string x10.1, .int .i64 x10.2.1, .int .i64 x10.2.2.1, .int .i64 x10.2.2.2.1, .int .i64 x10.2.2.2.2.1, .int .i64 x10.2.2.2.2.2.1] <|
                        L.chk (⟨b2, 0, none⟩) [.string x9.1, .int .i64 x9.2.1, .int .i64 x9.2.2.1, .int .i64 x9.2.2.2.1, .int .i64 x9.2.2.2.2.1, .int .i64 x9.2.2.2.2.2.1] <|
                        L.chk (⟨b1, 0, none⟩) [.string x8.1, .int .i64 x8.2.1, .int .i64 x8.2.2.1, .int .i64 x8.2.2.2.1, .int .i64 x8.2.2.2.2.1, .int .i64 x8.2.2.2.2.2.1] <|
                        L.new [.string s_, .int .i64 0, .int .i64 0, .int .i64 0, .int .i64 0, .int .i64 0] T_api_Config fun b83 =>
                        L.chk (⟨b3, 0, none⟩) [.string x10.1, .int .i64 x10.2.1, .int .i64 x10.2.2.1, .int .i64 x10.2.2.2.1, .int .i64 x10.2.2.2.2.1, .int .i64 x10.2.2.2.2.2.1] <|
                        L.chk (⟨b2, 0, none⟩) [.string x9.1, .int .i64 x9.2.1, .int .i64 x9.2.2.1, .int .i64 x9.2.2.2.1, .int .i64 x9.2.2.2.2.1, .int .i64 x9.2.2.2.2.2.1] <|
                        L.chk (⟨b1, 0, none⟩) [.string x8.1, .int .i64 x8.2.1, .int .i64 x8.2.2.1, .int .i64 x8.2.2.2.1, .int .i64 x8.2.2.2.2.1, .int .i64 x8.2.2.2.2.2.1] <|
                        L.store (⟨b77, 0, none⟩) [.string x11.1, .int .i64 x11.2.1, .int .i64 x11.2.2.1, .int .i64 x11.2.2.2.1, .int .i64 x11.2.2.2.2.1, .int .i64 x11.2.2.2.2.2.1] <|
                        L.store (⟨b83, 0, none⟩) [.string x78.1, .int .i64 x78.2.1, .int .i64 x78.2.2.1, .int .i64 x78.2.2.2.1, .int .i64 x78.2.2.2.2.1, .int .i64 x78.2.2.2.2.2.1] <|
                        L.store (⟨b82, 0, none⟩) [.string x79.1, .int .i64 x79.2.1, .int .i64 x79.2.2.1, .int .i64 x79.2.2.2.1, .int .i64 x79.2.2.2.2.1, .int .i64 x79.2.2.2.2.2.1] <|
                        k6 (⟨b77, 0, none⟩, ⟨b83, 0, none⟩, ⟨b82, 0, none⟩, ()))]),(
                    L.new [.string s_, .int .i64 0, .int .i64 0, .int .i64 0, .int .i64 0, .int .i64 0] T_api_Config fun b84 =>
                    L.chk (⟨b3, 0, none⟩) [.string x10.1, .int .i64 x10.2.1, .int .i64 x10.2.2.1, .int .i64 x10.2.2.2.1, .int .i64 x10.2.2.2.2.1, .int .i64 x10.2.2.2.2.2.1] <|
                    L.chk (⟨b2, 0, none⟩) [.string x9.1, .int .i64 x9.2.1, .int .i64 x9.2.2.1, .int .i64 x9.2.2.2.1, .int .i64 x9.2.2.2.2.1, .int .i64 x9.2.2.2.2.2.1] <|
                    L.chk (⟨b1, 0, none⟩) [.string x8.1, .int .i64 x8.2.1, .int .i64 x8.2.2.1, .int .i64 x8.2.2.2.1, .int .i64 x8.2.2.2.2.1, .int .i64 x8.2.2.2.2.2.1] <|
                    L.alts [(
                        L.call Pr n_damperlaw2_Config [.agg #[.string x10.1, .int .i64 x10.2.1, .int .i64 x10.2.2.1, .int .i64 x10.2.2.2.1, .int .i64 x10.2.2.2.2.1, .int .i64 x10.2.2.2.2.2.1], .int .i64 p3] (.one (.agg [.str, .int .i64, .int .i64, .int .i64, .int .i64, .int .i64])) fun (x85 : ByteArray × Int × Int × Int × Int × Int × Unit) =>
                        L.new [.string s_, .int .i64 0, .int .i64 0, .int .i64 0, .int .i64 0, .int .i64 0] T_api_Config fun b86 =>
                        L.chk (⟨b3, 0, none⟩) [.string x10.1, .int .i64 x10.2.1, .int .i64 x10.2.2.1, .int .i64 x10.2.2.2.1, .int .i64 x10.2.2.2.2.1, .int .i64 x10.2.2.2.2.2.1] <|
                        L.chk (⟨b2, 0, none⟩) [.string x9.1, .int .i64 x9.2.1, .int .i64 x9.2.2.1, .int .i64 x9.2.2.2.1, .int .i64 x9.2.2.2.2.1, .int .i64 x9.2.2.2.2.2.1] <|
                        L.chk (⟨b1, 0, none⟩) [.string x8.1, .int .i64 x8.2.1, .int .i64 x8.2.2.1, .int .i64 x8.2.2.2.1, .int .i64 x8.2.2.2.2.1, .int .i64 x8.2.2.2.2.2.1] <|
                        L.store (⟨b77, 0, none⟩) [.string x11.1, .int .i64 x11.2.1, .int .i64 x11.2.2.1, .int .i64 x11.2.2.2.1, .int .i64 x11.2.2.2.2.1, .int .i64 x11.2.2.2.2.2.1] <|
                        L.store (⟨b84, 0, none⟩) [.string x78.1, .int .i64 x78.2.1, .int .i64 x78.2.2.1, .int .i64 x78.2.2.2.1, .int .i64 x78.2.2.2.2.1, .int .i64 x78.2.2.2.2.2.1] <|
                        L.store (⟨b86, 0, none⟩) [.string x85.1, .int .i64 x85.2.1, .int .i64 x85.2.2.1, .int .i64 x85.2.2.2.1, .int .i64 x85.2.2.2.2.1, .int .i64 x85.2.2.2.2.2.1] <|
                        k6 (⟨b77, 0, none⟩, ⟨b84, 0, none⟩, ⟨b86, 0, none⟩, ())),(
                        L.new [.string s_, .int .i64 0, .int .i64 0, .int .i64 0, .int .i64 0, .int .i64 0] T_api_Config fun b87 =>
                        L.chk (⟨b3, 0, none⟩) [.string x10.1, .int .i64 x10.2.1, .int .i64 x10.2.2.1, .int .i64 x10.2.2.2.1, .int .i64 x10.2.2.2.2.1, .int .i64 x10.2.2.2.2.2.1] <|
                        L.chk (⟨b2, 0, none⟩) [.string x9.1, .int .i64 x9.2.1, .int .i64 x9.2.2.1, .int .i64 x9.2.2.2.1, .int .i64 x9.2.2.2.2.1, .int .i64 x9.2.2.2.2.2.1] <|
                        L.chk (⟨b1, 0, none⟩) [.string x8.1, .int .i64 x8.2.1, .int .i64 x8.2.2.1, .int .i64 x8.2.2.2.1, .int .i64 x8.2.2.2.2.1, .int .i64 x8.2.2.2.2.2.1] <|
                        L.call Pr n_damperlaw2_Config [.agg #[.string x10.1, .int .i64 x10.2.1, .int .i64 x10.2.2.1, .int .i64 x10.2.2.2.1, .int .i64 x10.2.2.2.2.1, .int .i64 x10.2.2.2.2.2.1], .int .i64 p3] (.one (.agg [.str, .int .i64, .int .i64, .int .i64, .int .i64, .int .i64])) fun (x88 : ByteArray × Int × Int × Int × Int × Int × Unit) =>
                        L.store (⟨b77, 0, none⟩) [.string x11.1, .int .i64 x11.2.1, .int .i64 x11.2.2.1, .int .i64 x11.2.2.2.1, .int .i64 x11.2.2.2.2.1, .int .i64 x11.2.2.2.2.2.1] <|
                        L.store (⟨b84, 0, none⟩) [.string x78.1, .int .i64 x78.2.1, .int .i64 x78.2.2.1, .int .i64 x78.2.2.2.1, .int .i64 x78.2.2.2.2.1, .int .i64 x78.2.2.2.2.2.1] <|
                        L.store (⟨b87, 0, none⟩) [.string x88.1, .int .i64 x88.2.1, .int .i64 x88.2.2.1, .int .i64 x88.2.2.2.1, .int .i64 x88.2.2.2.2.1, .int .i64 x88.2.2.2.2.2.1] <|
                        k6 (⟨b77, 0, none⟩, ⟨b84, 0, none⟩, ⟨b87, 0, none⟩, ()))]),(
                    L.new [.string s_, .int .i64 0, .int .i64 0, .int .i64 0, .int .i64 0, .int .i64 0] T_api_Config fun b89 =>
                    L.chk (⟨b3, 0, none⟩) [.string x10.1, .int .i64 x10.2.1, .int .i64 x10.2.2.1, .int .i64 x10.2.2.2.1, .int .i64 x10.2.2.2.2.1, .int .i64 x10.2.2.2.2.2.1] <|
                    L.chk (⟨b2, 0, none⟩) [.string x9.1, .int .i64 x9.2.1, .int .i64 x9.2.2.1, .int .i64 x9.2.2.2.1, .int .i64 x9.2.2.2.2.1, .int .i64 x9.2.2.2.2.2.1] <|
                    L.chk (⟨b1, 0, none⟩) [.string x8.1, .int .i64 x8.2.1, .int .i64 x8.2.2.1, .int .i64 x8.2.2.2.1, .int .i64 x8.2.2.2.2.1, .int .i64 x8.2.2.2.2.2.1] <|
                    L.alts [(
                        L.call Pr n_damperlaw2_Config [.agg #[.string x10.1, .int .i64 x10.2.1, .int .i64 x10.2.2.1, .int .i64 x10.2.2.2.1, .int .i64 x10.2.2.2.2.1, .int .i64 x10.2.2.2.2.2.1], .int .i64 p3] (.one (.agg [.str, .int .i64, .int .i64, .int .i64, .int .i64, .int .i64])) fun (x90 : ByteArray × Int × Int × Int × Int × Int × Unit) =>
                        L.new [.string s_, .int .i64 0, .int .i64 0, .int .i64 0, .int .i64 0, .int .i64 0] T_api_Config fun b91 =>
                        L.chk (⟨b3, 0, none⟩) [.string x10.1, .int .i64 x10.2.1, .int .i64 x10.2.2.1, .int .i64 x10.2.2.2.1, .int .i64 x10.2.2.2.2.1, .int .i64 x10.2.2.2.2.2.1] <|
                        L.chk (⟨b2, 0, none⟩) [.string x9.1, .int .i64 x9.2.1, .int .i64 x9.2.2.1, .int .i64 x9.2.2.2.1, .int .i64 x9.2.2.2.2.1, .int .i64 x9.2.2.2.2.2.1] <|
                        L.chk (⟨b1, 0, none⟩) [.string x8.1, .int .i64 x8.2.1, .int .i64 x8.2.2.1, .int .i64 x8.2.2.2.1, .int .i64 x8.2.2.2.2.1, .int .i64 x8.2.2.2.2.2.1] <|
                        L.store (⟨b77, 0, none⟩) [.string x11.1, .int .i64 x11.2.1, .int .i64 x11.2.2.1, .int .i64 x11.2.2.2.1, .int .i64 x11.2.2.2.2.1, .int .i64 x11.2.2.2.2.2.1] <|
                        L.store (⟨b91, 0, none⟩) [.string x78.1, .int .i64 x78.2.1, .int .i64 x78.2.2.1, .int .i64 x78.2.2.2.1, .int .i64 x78.2.2.2.2.1, .int .i64 x78.2.2.2.2.2.1] <|
                        L.store (⟨b89, 0, none⟩) [.string x90.1, .int .i64 x90.2.1, .int .i64 x90.2.2.1, .int .i64 x90.2.2.2.1, .int .i64 x90.2.2.2.2.1, .int .i64 x90.2.2.2.2.2.1] <|
                        k6 (⟨b77, 0, none⟩, ⟨b91, 0, none⟩, ⟨b89, 0, none⟩, ())),(
                        L.new [.string s_, .int .i64 0, .int .i64 0, .int .i64 0, .int .i64 0, .int .i64 0] T_api_Config fun b92 =>
                        L.chk (⟨b3, 0, none⟩) [.string x10.1, .int .i64 x10.2.1, .int .i64 x10.2.2.1, .int .i64 x10.2.2.2.1, .int .i64 x10.2.2.2.2.1, .int .i64 x10.2.2.2.2.2.1] <|
                        L.chk (⟨b2, 0, none⟩) [.string x9.1, .int .i64 x9.2.1, .int .i64 x9.2.2.1, .int .i64 x9.2.2.2.1, .int .i64 x9.2.2.2.2.1, .int .i64 x9.2.2.2.2.2.1] <|
                        L.chk (⟨b1, 0, none⟩) [.string x8.1, .int .i64 x8.2.1, .int .i64 x8.2.2.1, .int .i64 x8.2.2.2.1, .int .i64 x8.2.2.2.2.1, .int .i64 x8.2.2.2.2.2.1] <|
                        L.call Pr n_damperlaw2_Config [.agg #[.string x10.1, .int .i64 x10.2.1, .int .i64 x10.2.2.1, .int .i64 x10.2.2.2.1, .int .i64 x10.2.2.2.2.1, .int .i64 x10.2.2.2.2.2.1], .int .i64 p3] (.one (.agg [.str, .int .i64, .int .i64, .int .i64, .int .i64, .int .i64])) fun (x93 : ByteArray × Int × Int × Int × Int × Int × Unit) =>
                        L.store (⟨b77, 0, none⟩) [.string x11.1, .int .i64 x11.2.1, .int .i64 x11.2.2.1, .int .i64 x11.2.2.2.1, .int .i64 x11.2.2.2.2.1, .int .i64 x11.2.2.2.2.2.1] <|
                        L.store (⟨b92, 0, none⟩) [.string x78.1, .int .i64 x78.2.1, .int .i64 x78.2.2.1, .int .i64 x78.2.2.2.1, .int .i64 x78.2.2.2.2.1, .int .i64 x78.2.2.2.2.2.1] <|
                        L.store (⟨b89, 0, none⟩) [.string x93.1, .int .i64 x93.2.1, .int .i64 x93.2.2.1, .int .i64 x93.2.2.2.1, .int .i64 x93.2.2.2.2.1, .int .i64 x93.2.2.2.2.2.1] <|
                        k6 (⟨b77, 0, none⟩, ⟨b92, 0, none⟩, ⟨b89, 0, none⟩, ()))])]),(
                L.new [.string s_, .int .i64 0, .int .i64 0, .int .i64 0, .int .i64 0, .int .i64 0] T_api_Config fun b94 =>
                L.chk (⟨b3, 0, none⟩) [.string x10.1, .int .i64 x10.2.1, .int .i64 x10.2.2.1, .int .i64 x10.2.2.2.1, .int .i64 x10.2.2.2.2.1, .int .i64 x10.2.2.2.2.2.1] <|
                L.chk (⟨b2, 0, none⟩) [.string x9.1, .int .i64 x9.2.1, .int .i64 x9.2.2.1, .int .i64 x9.2.2.2.1, .int .i64 x9.2.2.2.2.1, .int .i64 x9.2.2.2.2.2.1] <|
                L.chk (⟨b1, 0, none⟩) [.string x8.1, .int .i64 x8.2.1, .int .i64 x8.2.2.1, .int .i64 x8.2.2.2.1, .int .i64 x8.2.2.2.2.1, .int .i64 x8.2.2.2.2.2.1] <|
                L.alts [(
                    L.call Pr n_damperlaw2_Config [.agg #[.string x9.1, .int .i64 x9.2.1, .int .i64 x9.2.2.1, .int .i64 x9.2.2.2.1, .int .i64 x9.2.2.2.2.1, .int .i64 x9.2.2.2.2.2.1], .int .i64 p3] (.one (.agg [.str, .int .i64, .int .i64, .int .i64, .int .i64, .int .i64])) fun (x95 : ByteArray × Int × Int × Int × Int × Int × Unit) =>
                    L.chk (⟨b3, 0, none⟩) [.string x10.1, .int .i64 x10.2.1, .int .i64 x10.2.2.1, .int .i64 x10.2.2.2.1, .int .i64 x10.2.2.2.2.1, .int .i64 x10.2.2.2.2.2.1] <|
                    L.alts [(
                        L.call Pr n_damperlaw2_Config [.agg #[.string x10.1, .int .i64 x10.2.1, .int .i64 x10.2.2.1, .int .i64 x10.2.2.2.1, .int .i64 x10.2.2.2.2.1, .int .i64 x10.2.2.2.2.2.1], .int .i64 p3] (.one (.agg [.str, .int .i64, .int .i64, .int .i64, .int .i64, .int .i64])) fun (x96 : ByteArray × Int × Int × Int × Int × Int × Unit) =>
                        L.new [.string s_, .int .i64 0, .int .i64 0, .int .i64 0, .int .i64 0, .int .i64 0] T_api_Config fun b97 =>
                        L.chk (⟨b3, 0, none⟩) [.string x10.1, .int .i64 x10.2.1, .int .i64 x10.2.2.1, .int .i64 x10.2.2.2.1, .int .i64 x10.2.2.2.2.1, .int .i64 x10.2.2.2.2.2.1] <|
                        L.chk (⟨b2, 0, none⟩) [.string x9.1, .int .i64 x9.2.1, .int .i64 x9.2.2.1, .int .i64 x9.2.2.2.1, .int .i64 x9.2.2.2.2.1, .int .i64 x9.2.2.2.2.2.1] <|
                        L.chk (⟨b1, 0, none⟩) [.string x8.1, .int .i64 x8.2.1, .int .i64 x8.2.2.1, .int .i64 x8.2.2.2.1, .int .i64 x8.2.2.2.2.1, .int .i64 x8.2.2.2.2.2.1] <|
                        L.store (⟨b77, 0, none⟩) [.string x11.1, .int .i64 x11.2.1, .int .i64 x11.2.2.1, .int .i64 x11.2.2.2.1, .int .i64 x11.2.2.2.2.1, .int .i64 x11.2.2.2.2.2.1] <|
                        L.store (⟨b94, 0, none⟩) [.string x95.1, .int .i64 x95.2.1, .int .i64 x95.2.2.1, .int .i64 x95.2.2.2.1, .int .i64 x95.2.2.2.2.1, .int .i64 x95.2.2.2.2.2.1] <|
                        L.store (⟨b97, 0, none⟩) [.string x96.1, .int .i64 x96.2.1, .int .i64 x96.2.2.1, .int .i64 x96.2.2.2.1, .int .i64 x96.2.2.2.2.1, .int .i64 x96.2.2.2.2.2.1] <|
                        k6 (⟨b77, 0, none⟩, ⟨b94, 0, none⟩, ⟨b97, 0, none⟩, ())),(
                        L.new [.string s_, .int .i64 0, .int .i64 0, .int .i64 0, .int .i64 0, .int .i64 0] T_api_Config fun b98 =>
                        L.chk (⟨b3, 0, none⟩) [.string x10.1, .int .i64 x10.2.1, .int .i64 x10.2.2.1, .int .i64 x10.2.2.2.1, .int .i64 x10.2.2.2.2.1, .int .i64 x10.2.2.2.2.2.1] <|
                        L.chk (⟨b2, 0, none⟩) [.string x9.1, .int .i64 x9.2.1, .int .i64 x9.2.2.1, .int .i64 x9.2.2.2.1, .int .i64 x9.2.2.2.2.1, .int .i64 x9.2.2.2.2.2.1] <|
                        L.chk (⟨b1, 0, none⟩) [.string x8.1, .int .i64 x8.2.1, .int .i64 x8.2.2.1, .int .i64 x8.2.2.2.1, .int .i64 x8.2.2.2.2.1, .int .i64 x8.2.2.2.2.2.1] <|
                        L.call Pr n_damperlaw2_Config [.agg #[.string x10.1, .int .i64 x10.2.1, .int .i64 x10.2.2.1, .int .i64 x10.2.2.2.1, .int .i64 x10.2.2.2.2.1, .int .i64 x10.2.2.2.2.2.1], .int .i64 p3] (.one (.agg [.str, .int .i64, .int .i64, .int .i64, .int .i64, .int .i64])) fun (x99 : ByteArray × Int × Int × Int × Int × Int × Unit) =>
                        L.store (⟨b77, 0, none⟩) [.string x11.1, .int .i64 x11.2.1, .int .i64 x11.2.2.1, .int .i64 x11.2.2.2.1, .int .i64 x11.2.2.2.2.1, .int .i64 x11.2.2.2.2.2.1] <|
                        L.store (⟨b94, 0, none⟩) [.string x95.1, .int .i64 x95.2.1, .int .i64 x95.2.2.1, .int .i64 x95.2.2.2.1, .int .i64 x95.2.2.2.2.1, .int .i64 x95.2.2.2.2.2.1] <|
                        L.store (⟨b98, 0, none⟩) [.string x99.1, .int .i64 x99.2.1, .int .i64 x99.2.2.1, .int .i64 x99.2.2.2.1, .int .i64 x99.2.2.2.2.1, .int .i64 x99.2.2.2.2.2.1] <|
                        k6 (⟨b77, 0, none⟩, ⟨b94, 0, none⟩, ⟨b98, 0, none⟩, ()))]),(
                    L.new [.string s_, .int .i64 0, .int .i64 0, .int .i64 0, .int .i64 0, .int .i64 0] T_api_Config fun b100 =>
                    L.chk (⟨b3, 0, none⟩) [.string x10.1, .int .i64 x10.2.1, .int .i64 x10.2.2.1, .int .i64 x10.2.2.2.1, .int .i64 x10.2.2.2.2.1, .int .i64 x10.2.2.2.2.2.1] <|
                    L.chk (⟨b2, 0, none⟩) [.string x9.1, .int .i64 x9.2.1, .int .i64 x9.2.2.1, .int .i64 x9.2.2.2.1, .int .i64 x9.2.2.2.2.1, .int .i64 x9.2.2.2.2.2.1] <|
                    L.chk (⟨b1, 0, none⟩) [.string x8.1, .int .i64 x8.2.1, .int .i64 x8.2.2.1, .int .i64 x8.2.2.2.1, .int .i64 x8.2.2.2.2.1, .int .i64 x8.2.2.2.2.2.1] <|
                    L.call Pr n_damperlaw2_Config [.agg #[.string x9.1, .int .i64 x9.2.1, .int .i64 x9.2.2.1, .int .i64 x9.2.2.2.1, .int .i64 x9.2.2.2.2.1, .int .i64 x9.2.2.2.2.2.1], .int .i64 p3] (.one (.agg [.str, .int .i64, .int .i64, .int .i64, .int .i64, .int .i64])) fun (x101 : ByteArray × Int × Int × Int × Int × Int × Unit) =>
                    L.chk (⟨b3, 0, none⟩) [.string x10.1, .int .i64 x10.2.1, .int .i64 x10.2.2.1, .int .i64 x10.2.2.2.1, .int .i64 x10.2.2.2.2.1, .int .i64 x10.2.2.2.2.2.1] <|
                    L.call Pr n_damperlaw2_Config [.agg #[.string x10.1, .int .i64 x10.2.1, .int .i64 x10.2.2.1, .int .i64 x10.2.2.2.1, .int .i64 x10.2.2.2.2.1, .int .i64 x10.2.2.2.2.2.1], .int .i64 p3] (.one (.agg [.str, .int .i64, .int .i64, .int .i64, .int .i64, .int .i64])) fun (x102 : ByteArray × Int × Int × Int × Int × Int × Unit) =>
                    L.store (⟨b77, 0, none⟩) [.string x11.1, .int .i64 x11.2.1, .int .i64 x11.2.2.1, .int .i64 x11.2.2.2.1, .int .i64 x11.2.2.2.2.1, .int .i64 x11.2.2.2.2.2.1] <|
                    L.store (⟨b94, 0, none⟩) [.string x101.1, .int .i64 x101.2.1, .int .i64 x101.2.2.1, .int .i64 x101.2.2.2.1, .int .i64 x101.2.2.2.2.1, .int .i64 x101.2.2.2.2.2.1] <|
                    L.store (⟨b100, 0, none⟩) [.string x102.1, .int .i64 x102.2.1, .int .i64 x102.2.2.1, .int .i64 x102.2.2.2.1, .int .i64 x102.2.2.2.2.1, .int .i64 x102.2.2.2.2.2.1] <|
                    k6 (⟨b77, 0, none⟩, ⟨b94, 0, none⟩, ⟨b100, 0, none⟩, ()))]),(
                L.new [.string s_, .int .i64 0, .int .i64 0, .int .i64 0, .int .i64 0, .int .i64 0] T_api_Config fun b103 =>
                L.chk (⟨b3, 0, none⟩) [.string x10.1, .int .i64 x10.2.1, .int .i64 x10.2.2.1, .int .i64 x10.2.2.2.1, .int .i64 x10.2.2.2.2.1, .int .i64 x10.2.2.2.2.2.1] <|
                L.chk (⟨b2, 0, none⟩) [.string x9.1, .int .i64 x9.2.1, .int .i64 x9.2.2.1, .int .i64 x9.2.2.2.1, .int .i64 x9.2.2.2.2.1, .int .i64 x9.2.2.2.2.2.1] <|
                L.chk (⟨b1, 0, none⟩) [.string x8.1, .int .i64 x8.2.1, .int .i64 x8.2.2.1, .int .i64 x8.2.2.2.1, .int .i64 x8.2.2.2.2.1, .int .i64 x8.2.2.2.2.2.1] <|
                L.alts [(
                    L.call Pr n_damperlaw2_Config [.agg #[.string x9.1, .int .i64 x9.2.1, .int .i64 x9.2.2.1, .int .i64 x9.2.2.2.1, .int .i64 x9.2.2.2.2.1, .int .i64 x9.2.2.2.2.2.1], .int .i64 p3] (.one (.agg [.str, .int .i64, .int .i64, .int .i64, .int .i64, .int .i64])) fun (x104 : ByteArray × Int × Int × Int × Int × Int × Unit) =>
                    L.chk (⟨b3, 0, none⟩) [.string x10.1, .int .i64 x10.2.1, .int .i64 x10.2.2.1, .int .i64 x10.2.2.2.1, .int .i64 x10.2.2.2.2.1, .int .i64 x10.2.2.2.2.2.1] <|
                    L.alts [(
                        L.call Pr n_damperlaw2_Config [.agg #[.string x10.1, .int .i64 x10.2.1, .int .i64 x10.2.2.1, .int .i64 x10.2.2.2.1, .int .i64 x10.2.2.2.2.1, .int .i64 x10.2.2.2.2.2.1], .int .i64 p3] (.one (.agg [.str, .int .i64, .int .i64, .int .i64, .int .i64, .int .i64])) fun (x105 : ByteArray × Int × Int × Int × Int × Int × Unit) =>
                        L.new [.string s_, .int .i64 0, .int .i64 0, .int .i64 0, .int .i64 0, .int .i64 0] T_api_Config fun b106 =>
                        L.chk (⟨b3, 0, none⟩) [.string x10.1, .int .i64 x10.2.1, .int .i64 x10.2.2.1, .int .i64 x10.2.2.2.1, .int .i64 x10.2.2.2.2.1, .int .i64 x10.2.2.2.2.2.1] <|
                        L.chk (⟨b2, 0, none⟩) [.string x9.1, .int .i64 x9.2.1, .int .i64 x9.2.2.1, .int .i64 x9.2.2.2.1, .int .i64 x9.2.2.2.2.1, .int .i64 x9.2.2.2.2.2.1] <|
                        L.chk (⟨b1, 0, none⟩) [.string x8.1, .int .i64 x8.2.1, .int .i64 x8.2.2.1, .int .i64 x8.2.2.2.1, .int .i64 x8.2.2.2.2.1, .int .i64 x8.2.2.2.2.2.1] <|
                        L.store (⟨b77, 0, none⟩) [.string x11.1, .int .i64 x11.2.1, .int .i64 x11.2.2.1, .int .i64 x11.2.2.2.1, .int .i64 x11.2.2.2.2.1, .int .i64 x11.2.2.2.2.2.1] <|
                        L.store (⟨b106, 0, none⟩) [.string x104.1, .int .i64 x104.2.1, .int .i64 x104.2.2.1, .int .i64 x104.2.2.2.1, .int .i64 x104.2.2.2.2.1, .int .i64 x104.2.2.2.2.2.1] <|
                        L.store (⟨b103, 0, none⟩) [.string x105.1, .int .i64 x105.2.1, .int .i64 x105.2.2.1, .int .i64 x105.2.2.2.1, .int .i64 x105.2.2.2.2.1, .int .i64 x105.2.2.2.2.2.1] <|
                        k6 (⟨b77, 0, none⟩, ⟨b106, 0, none⟩, ⟨b103, 0, none⟩, ())),(
                        L.new [.string s_, .int .i64 0, .int .i64 0, .int .i64 0, .int .i64 0, .int .i64 0] T_api_Config fun b107 =>
                        L.chk (⟨b3, 0, none⟩) [.string x10.1, .int .i64 x10.2.1, .int .i64 x10.2.2.1, .int .i64 x10.2.2.2.1, .int .i64 x10.2.2.2.2.1, .int .i64 x10.2.2.2.2.2.1] <|
                        L.chk (⟨b2, 0, none⟩) [.string x9.1, .int .i64 x9.2.1, .int .i64 x9.2.2.1, .int .i64 x9.2.2.2.1, .int .i64 x9.2.2.2.2.1, .int .i64 x9.2.2.2.2.2.1] <|
                        L.chk (⟨b1, 0, none⟩) [.string x8.1, .int .i64 x8.2.1, .int .i64 x8.2.2.1, .int .i64 x8.2.2.2.1, .int .i64 x8.2.2.2.2.1, .int .i64 x8.2.2.2.2.2.1] <|
                        L.call Pr n_damperlaw2_Config [.agg #[.string x10.1, .int .i64 x10.2.1, .int .i64 x10.2.2.1, .int .i64 x10.2.2.2.1, .int .i64 x10.2.2.2.2.1, .int .i64 x10.2.2.2.2.2.1], .int .i64 p3] (.one (.agg [.str, .int .i64, .int .i64, .int .i64, .int .i64, .int .i64])) fun (x108 : ByteArray × Int × Int × Int × Int × Int × Unit) =>
                        L.store (⟨b77, 0, none⟩) [.string x11.1, .int .i64 x11.2.1, .int .i64 x11.2.2.1, .int .i64 x11.2.2.2.1, .int .i64 x11.2.2.2.2.1, .int .i64 x11.2.2.2.2.2.1] <|
                        L.store (⟨b107, 0, none⟩) [.string x104.1, .int .i64 x104.2.1, .int .i64 x104.2.2.1, .int .i64 x104.2.2.2.1, .int .i64 x104.2.2.2.2.1, .int .i64 x104.2.2.2.2.2.1] <|
                        L.store (⟨b103, 0, none⟩) [.string x108.1, .int .i64 x108.2.1, .int .i64 x108.2.2.1, .int .i64 x108.2.2.2.1, .int .i64 x108.2.2.2.2.1, .int .i64 x108.2.2.2.2.2.1] <|
                        k6 (⟨b77, 0, none⟩, ⟨b107, 0, none⟩, ⟨b103, 0, none⟩, ()))]),(
                    L.new [.string s_, .int .i64 0, .int .i64 0, .int .i64 0, .int .i64 0, .int .i64 0] T_api_Config fun b109 =>
                    L.chk (⟨b3, 0, none⟩) [.string x10.1, .int .i64 x10.2.1, .int .i64 x10.2.2.1, .int .i64 x10.2.2.2.1, .int .i64 x10.2.2.2.2.1, .int .i64 x10.2.2.2.2.2.1] <|
                    L.chk (⟨b2, 0, none⟩) [.string x9.1, .int .i64 x9.2.1, .int .i64 x9.2.2.1, .int .i64 x9.2.2.2.1, .int .i64 x9.2.2.2.2.1, .int .i64 x9.2.2.2.2.2.1] <|
                    L.chk (⟨b1, 0, none⟩) [.string x8.1, .int .i64 x8.2.1, .int .i64 x8.2.2.1, .int .i64 x8.2.2.2.1, .int .i64 x8.2.2.2.2.1, .int .i64 x8.2.2.2.2.2.1] <|
                    L.call Pr n_damperlaw2_Config [.agg #[.string x9.1, .int .i64 x9.2.1, .int .i64 x9.2.2.1, .int .i64 x9.2.2.2.1, .int .i64 x9.2.2.2.2.1, .int .i64 x9.2.2.2.2.2.1], .int .i64 p3] (.one (.agg [.str, .int .i64, .int .i64, .int .i64, .int .i64, .int .i64])) fun (x110 : ByteArray × Int × Int × Int × Int × Int × Unit) =>
                    L.chk (⟨b3, 0, none⟩) [.string x10.1, .int .i64 x10.2.1, .int .i64 x10.2.2.1, .int .i64 x10.2.2.2.1, .int .i64 x10.2.2.2.2.1, .int .i64 x10.2.2.2.2.2.1] <|
                    L.call Pr n_damperlaw2_Config [.agg #[.string x10.1, .int .i64 x10.2.1, .int .i64 x10.2.2.1, .int .i64 x10.2.2.2.1, .int .i64 x10.2.2.2.2.1, .int .i64 x10.2.2.2.2.2.1], .int .i64 p3] (.one (.agg [.str, .int .i64, .int .i64, .int .i64, .int .i64, .int .i64])) fun (x111 : ByteArray × Int × Int × Int × Int × Int × Unit) =>
                    L.store (⟨b77, 0, none⟩) [.string x11.1, .int .i64 x11.2.1, .int .i64 x11.2.2.1, .int .i64 x11.2.2.2.1, .int .i64 x11.2.2.2.2.1, .int .i64 x11.2.2.2.2.2.1] <|
                    L.store (⟨b109, 0, none⟩) [.string x110.1, .int .i64 x110.2.1, .int .i64 x110.2.2.1, .int .i64 x110.2.2.2.1, .int .i64 x110.2.2.2.2.1, .int .i64 x110.2.2.2.2.2.1] <|
                    L.store (⟨b103, 0, none⟩) [.string x111.1, .int .i64 x111.2.1, .int .i64 x111.2.2.1, .int .i64 x111.2.2.2.1, .int .i64 x111.2.2.2.2.1, .int .i64 x111.2.2.2.2.2.1] <|
                    k6 (⟨b77, 0, none⟩, ⟨b109, 0, none⟩, ⟨b103, 0, none⟩, ()))])]),(
            L.new [.string s_, .int .i64 0, .int .i64 0, .int .i64 0, .int .i64 0, .int .i64 0] T_api_Config fun b112 =>
            L.chk (⟨b3, 0, none⟩) [.string x10.1, .int .i64 x10.2.1, .int .i64 x10.2.2.1, .int .i64 x10.2.2.2.1, .int .i64 x10.2.2.2.2.1, .int .i64 x10.2.2.2.2.2.1] <|
            L.chk (⟨b2, 0, none⟩) [.string x9.1, .int .i64 x9.2.1, .int .i64 x9.2.2.1, .int .i64 x9.2.2.2.1, .int .i64 x9.2.2.2.2.1, .int .i64 x9.2.2.2.2.2.1] <|
            L.chk (⟨b1, 0, none⟩) [.string x8.1, .int .i64 x8.2.1, .int .i64 x8.2.2.1, .int .i64 x8.2.2.2.1, .int .i64 x8.2.2.2.2.1, .int .i64 x8.2.2.2.2.2.1] <|
            L.alts [(
                L.call Pr n_damperlaw2_Config [.agg #[.string x9.1, .int .i64 x9.2.1, .int .i64 x9.2.2.1, .int .i64 x9.2.2.2.1, .int .i64 x9.2.2.2.2.1, .int .i64 x9.2.2.2.2.2.1], .int .i64 p3] (.one (.agg [.str, .int .i64, .int .i64, .int .i64, .int .i64, .int .i64])) fun (x113 : ByteArray × Int × Int × Int × Int × Int × Unit) =>
                L.chk (⟨b3, 0, none⟩) [.string x10.1, .int .i64 x10.2.1, .int .i64 x10.2.2.1, .int .i64 x10.2.2.2.1, .int .i64 x10.2.2.2.2.1, .int .i64 x10.2.2.2.2.2.1] <|
                L.alts [(
                    L.call Pr n_damperlaw2_Config [.agg #[.string x10.1, .int .i64 x10.2.1, .int .i64 x10.2.2.1, .int .i64 x10.2.2.2.1, .int .i64 x10.2.2.2.2.1, .int .i64 x10.2.2.2.2.2.1], .int .i64 p3] (.one (.agg [.str, .int .i64, .int .i64, .int .i64, .int .i64, .int .i64])) fun (x114 : ByteArray × Int × Int × Int × Int × Int × Unit) =>
                    L.alts [(
                        L.new [.string s_, .int .i64 0, .int .i64 0, .int .i64 0, .int .i64 0, .int .i64 0] T_api_Config fun b115 =>
                        L.chk (⟨b3, 0, none⟩) [.string x10.1, .int .i64 x10.2.1, .int .i64 x10.2.2.1, .int .i64 x10.2.2.2.1, .int .i64 x10.2.2.2.2.1, .int .i64 x10.2.2.2.2.2.1] <|
                        L.chk (⟨b2, 0, none⟩) [.string x9.1, .int .i64 x9.2.1, .int .i64 x9.2.2.1, .int .i64 x9.2.2.2.1, .int .i64 x9.2.2.2.2.1, .int .i64 x9.2.2.2.2.2.1] <|
                        L.chk (⟨b1, 0, none⟩) [.string x8.1, .int .i64 x8.2.1, .int .i64 x8.2.2.1, .int .i64 x8.2.2.2.1, .int .i64 x8.2.2.2.2.1, .int .i64 x8.2.2.2.2.2.1] <|
                        L.new [.string s_, .int .i64 0, .int .i64 0, .int .i64 0, .int .i64 0, .int .i64 0] T_api_Config fun b116 =>
                        L.chk (⟨b3, 0, none⟩) [.string x10.1, .int .i64 x10.2.1, .int .i64 x10.2.2.1, .int .i64 x10.2.2.2.1, .int .i64 x10.2.2.2.2.1, .int .i64 x10.2.2.2.2.2.1] <|
                        L.chk (⟨b2, 0, none⟩) [.string x9.1, .int .i64 x9.2.1, .int .i64 x9.2.2.1, .int .i64 x9.2.2.2.1, .int .i64 x9.2.2.2.2.1, .int .i64 x9.2.2.2.2.2.1] <|
                        L.chk (⟨b1, 0, none⟩) [.string x8.1, .int .i64 x8.2.1, .int .i64 x8.2.2.1, .int .i64 x8.2.2.2.1, .int .i64 x8.2.2.2.2.1, .int .i64 x8.2.2.2.2.2.1] <|
                        L.store (⟨b115, 0, none⟩) [.string x11.1, .int .i64 x11.2.1, .int .i64 x11.2.2.1, .int .i64 x11.2.2.2.1, .int .i64 x11.2.2.2.2.1, .int .i64 x11.2.2.2.2.2.1] <|
                        L.store (⟨b112, 0, none⟩) [.string x113.1, .int .i64 x113.2.1, .int .i64 x113.2.2.1, .int .i64 x113.2.2.2.1, .int .i64 x113.2.2.2.2.1, .int .i64 x113.2.2.2.2.2.1] <|
                        L.store (⟨b116, 0, none⟩) [.string x114.1, .int .i64 x114.2.1, .int .i64 x114.2.2.1, .int .i64 x114.2.2.2.1, .int .i64 x114.2.2.2.2.1, .int .i64 x114.2.2.2.2.2.1] <|
                        k6 (⟨b115, 0, none⟩, ⟨b112, 0, none⟩, ⟨b116, 0, none⟩, ())),(
                        L.new [.string s_, .int .i64 0, .int .i64 0, .int .i64 0, .int .i64 0, .int .i64 0] T_api_Config fun b117 =>
                        L.chk (⟨b3, 0, none⟩) [.string x10.1, .int .i64 x10.2.1, .int .i64 x10.2.2.1, .int .i64 x10.2.2.2.1, .int .i64 x10.2.2.2.2.1, .int .i64 x10.2.2.2.2.2.1] <|
                        L.chk (⟨b2, 0, none⟩) [.string x9.1, .int .i64 x9.2.1, .int .i64 x9.2.2.1, .int .i64 x9.2.2.2.1, .int .i64 x9.2.2.2.2.1, .int .i64 x9.2.2.2.2.2.1] <|
                        L.chk (⟨b1, 0, none⟩) [.string x8.1, .int .i64 x8.2.1, .int .i64 x8.2.2.1, .int .i64 x8.2.2.2.1, .int .i64 x8.2.2.2.2.1, .int .i64 x8.2.2.2.2.2.1] <|
                        L.new [.string s_, .int .i64 0, .int .i64 0, .int .i64 0, .int .i64 0, .int .i64 0] T_api_Config fun b118 =>
                        L.chk (⟨b3, 0, none⟩) [.string x10.1, .int .i64 x10.2.1, .int .i64 x10.2.2.1, .int .i64 x10.2.2.2.1, .int .i64 x10.2.2.2.2.1, .int .i64 x10.2.2.2.2.2.1] <|
                        L.chk (⟨b2, 0, none⟩) [.string x9.1, .int .i64 x9.2.1, .int .i64 x9.2.2.1, .int .i64 x9.2.2.2.1, .int .i64 x9.2.2.2.2.1, .int .i64 x9.2.2.2.2.2.1] <|
                        L.chk (⟨b1, 0, none⟩) [.string x8.1, .int .i64 x8.2.1, .int .i64 x8.2.2.1, .int .i64 x8.2.2.2.1, .int .i64 x8.2.2.2.2.1, .int .i64 x8.2.2.2.2.2.1] <|
                        L.store (⟨b118, 0, none⟩) [.string x11.1, .int .i64 x11.2.1, .int .i64 x11.2.2.1, .int .i64 x11.2.2.2.1, .int .i64 x11.2.2.2.2.1, .int .i64 x11.2.2.2.2.2.1] <|
                        L.store (⟨b112, 0, none⟩) [.string x113.1, .int .i64 x113.2.1, .int .i64 x113.2.2.1, .int .i64 x113.2.2.2.1, .int .i64 x113.2.2.2.2.1, .int .i64 x113.2.2.2.2.2.1] <|
                        L.store (⟨b117, 0, none⟩) [.string x114.1, .int .i64 x114.2.1, .int .i64 x114.2.2.1, .int .i64 x114.2.2.2.1, .int .i64 x114.2.2.2.2.1, .int .i64 x114.2.2.2.2.2.1] <|
                        k6 (⟨b118, 0, none⟩, ⟨b112, 0, none⟩, ⟨b117, 0, none⟩, ()))]),(
                    L.new [.string s_, .int .i64 0, .int .i64 0, .int .i64 0, .int .i64 0, .int .i64 0] T_api_Config fun b119 =>
                    L.chk (⟨b3, 0, none⟩) [.string x10.1, .int .i64 x10.2.1, .int .i64 x10.2.2.1, .int .i64 x10.2.2.2.1, .int .i64 x10.2.2.2.2.1, .int .i64 x10.2.2.2.2.2.1] <|
                    L.chk (⟨b2, 0, none⟩) [.string x9.1, .int .i64 x9.2.1, .int .i64 x9.2.2.1, .int .i64 x9.2.2.2.1, .int .i64 x9.2.2.2.2.1, .int .i64 x9.2.2.2.2.2.1] <|
                    L.chk (⟨b1, 0, none⟩) [.string x8.1, .int .i64 x8.2.1, .int .i64 x8.2.2.1, .int .i64 x8.2.2.2.1, .int .i64 x8.2.2.2.2.1, .int .i64 x8.2.2.2.2.2.1] <|
                    L.alts [(
                        L.call Pr n_damperlaw2_Config [.agg #[.string x10.1, .int .i64 x10.2.1, .int .i64 x10.2.2.1, .int .i64 x10.2.2.2.1, .int .i64 x10.2.2.2.2.1, .int .i64 x10.2.2.2.2.2.1], .int .i64 p3] (.one (.agg [.str, .int .i64, .int .i64, .int .i64, .int .i64, .int .i64])) fun (x120 : ByteArray × Int × Int × Int × Int × Int × Unit) =>
                        L.new [.string s_, .int .i64 0, .int .i64 0, .int .i64 0, .int .i64 0, .int .i64 0] T_api_Config fun b121 =>
                        L.chk (⟨b3, 0, none⟩) [.string x10.1, .int .i64 x10.2.1, .int .i64 x10.2.2.1, .int .i64 x10.2.2.2.1, .int .i64 x10.2.2.2.2.1, .int .i64 x10.2.2.2.2.2.1] <|
                        L.chk (⟨b2, 0, none⟩) [.string x9.1, .int .i64 x9.2.1, .int .i64 x9.2.2.1, .int .i64 x9.2.2.2.1, .int .i64 x9.2.2.2.2.1, .int .i64 x9.2.2.2.2.2.1] <|
                        L.chk (⟨b1, 0, none⟩) [.string x8.1, .int .i64 x8.2.1, .int .i64 x8.2.2.1, .int .i64 x8.2.2.2.1, .int .i64 x8.2.2.2.2.1, .int .i64 x8.2.2.2.2.2.1] <|
                        L.store (⟨b119, 0, none⟩) [.string x11.1, .int .i64 x11.2.1, .int .i64 x11.2.2.1, .int .i64 x11.2.2.2.1, .int .i64 x11.2.2.2.2.1, .int .i64 x11.2.2.2.2.2.1] <|
                        L.store (⟨b112, 0, none⟩) [.string x113.1, .int .i64 x113.2.1, .int .i64 x113.2.2.1, .int .i64 x113.2.2.2.1, .int .i64 x113.2.2.2.2.1, .int .i64 x113.2.2.2.2.2.1] <|
                        L.store (⟨b121, 0, none⟩) [.string x120.1, .int .i64 x120.2.1, .int .i64 x120.2.2.1, .int .i64 x120.2.2.2.1, .int .i64 x120.2.2.2.2.1, .int .i64 x120.2.2.2.2.2.1] <|
                        k6 (⟨b119, 0, none⟩, ⟨b112, 0, none⟩, ⟨b121, 0, none⟩, ())),(
                        L.new [.string s_, .int .i64 0, .int .i64 0, .int .i64 0, .int .i64 0, .int .i64 0] T_api_Config fun b122 =>
                        L.chk (⟨b3, 0, none⟩) [.string x10.1, .int .i64 x10.2.1, .int .i64 x10.2.2.1, .int .i64 x10.2.2.2.1, .int .i64 x10.2.2.2.2.1, .int .i64 x10.2.2.2.2.2.1] <|
                        L.chk (⟨b2, 0, none⟩) [.string x9.1, .int .i64 x9.2.1, .int .i64 x9.2.2.1, .int .i64 x9.2.2.2.1, .int .i64 x9.2.2.2.2.1, .int .i64 x9.2.2.2.2.2.1] <|
                        L.chk (⟨b1, 0, none⟩) [.string x8.1, .int .i64 x8.2.1, .int .i64 x8.2.2.1, .int .i64 x8.2.2.2.1, .int .i64 x8.2.2.2.2.1, .int .i64 x8.2.2.2.2.2.1] <|
                        L.call Pr n_damperlaw2_Config [.agg #[.string x10.1, .int .i64 x10.2.1, .int .i64 x10.2.2.1, .int .i64 x10.2.2.2.1, .int .i64 x10.2.2.2.2.1, .int .i64 x10.2.2.2.2.2.1], .int .i64 p3] (.one (.agg [.str, .int .i64, .int .i64, .int .i64, .int .i64, .int .i64])) fun (x123 : ByteArray × Int × Int × Int × Int × Int × Unit) =>
                        L.store (⟨b119, 0, none⟩) [.string x11.1, .int .i64 x11.2.1, .int .i64 x11.2.2.1, .int .i64 x11.2.2.2.1, .int .i64 x11.2.2.2.2.1, .int .i64 x11.2.2.2.2.2.1] <|
                        L.store (⟨b112, 0, none⟩) [.string x113.1, .int .i64 x113.2.1, .int .i64 x113.2.2.1, .int .i64 x113.2.2.2.1, .int .i64 x113.2.2.2.2.1, .int .i64 x113.2.2.2.2.2.1] <|
                        L.store (⟨b122, 0, none⟩) [.string x123.1, .int .i64 x123.2.1, .int .i64 x123.2.2.1, .int .i64 x123.2.2.2.1, .int .i64 x123.2.2.2.2.1, .int .i64 x123.2.2.2.2.2.1] <|
                        k6 (⟨b119, 0, none⟩, ⟨b112, 0, none⟩, ⟨b122, 0, none⟩, ()))]),(
                    L.new [.string s_, .int .i64 0, .int .i64 0, .int .i64 0, .int .i64 0, .int .i64 0] T_api_Config fun b124 =>
                    L.chk (⟨b3, 0, none⟩) [.string x10.1, .int .i64 x10.2.1, .int .i64 x10.2.2.1, .int .i64 x10.2.2.2.1, .int .i64 x10.2.2.2.2.1, .int .i64 x10.2.2.2.2.2.1] <|
                    L.chk (⟨b2, 0, none⟩) [.string x9.1, .int .i64 x9.2.1, .int .i64 x9.2.2.1, .int .i64 x9.2.2.2.1, .int .i64 x9.2.2.2.2.1, .int .i64 x9.2.2.2.2.2.1] <|
                    L.chk (⟨b1, 0, none⟩) [.string x8.1, .int .i64 x8.2.1, .int .i64 x8.2.2.1, .int .i64 x8.2.2.2.1, .int .i64 x8.2.2.2.2.1, .int .i64 x8.2.2.2.2.2.1] <|
                    L.alts [(
                        L.call Pr n_damperlaw2_Config [.agg #[.string x10.1, .int .i64 x10.2.1, .int .i64 x10.2.2.1, .int .i64 x10.2.2.2.1, .int .i64 x10.2.2.2.2.1, .int .i64 x10.2.2.2.2.2.1], .int .i64 p3] (.one (.agg [.str, .int .i64, .int .i64, .int .i64, .int .i64, .int .i64])) fun (x125 : ByteArray × Int × Int × Int × Int × Int × Unit) =>
                        L.new [.string s_, .int .i64 0, .int .i64 0, .int .i64 0, .int .i64 0, .int .i64 0] T_api_Config fun b126 =>
                        L.chk (⟨b3, 0, none⟩) [.string x10.1, .int .i64 x10.2.1, .int .i64 x10.2.2.1, .int .i64 x10.2.2.2.1, .int .i64 x10.2.2.2.2.1, .int .i64 x10.2.2.2.2.2.1] <|
                        L.chk (⟨b2, 0, none⟩) [.string x9.1, .int .i64 x9.2.1, .int .i64 x9.2.2.1, .int .i64 x9.2.2.2.1, .int .i64 x9.2.2.2.2.1, .int .i64 x9.2.2.2.2.2.1] <|
                        L.chk (⟨b1, 0, none⟩) [.string x8.1, .int .i64 x8.2.1, .int .i64 x8.2.2.1, .int .i64 x8.2.2.2.1, .int .i64 x8.2.2.2.2.1, .int .i64 x8.2.2.2.2.2.1] <|
                        L.store (⟨b126, 0, none⟩) [.string x11.1, .int .i64 x11.2.1, .int .i64 x11.2.2.1, .int .i64 x11.2.2.2.1, .int .i64 x11.2.2.2.2.1, .int .i64 x11.2.2.2.2.2.1] <|
                        L.store (⟨b112, 0, none⟩) [.string x113.1, .int .i64 x113.2.1, .int .i64 x113.2.2.1, .int .i64 x113.2.2.2.1, .int .i64 x113.2.2.2.2.1, .int .i64 x113.2.2.2.2.2.1] <|
                        L.store (⟨b124, 0, none⟩) [.string x125.1, .int .i64 x125.2.1, .int .i64 x125.2.2.1, .int .i64 x125.2.2.2.1, .int .i64 x125.2.2.2.2.1, .int .i64 x125.2.2.2.2.2.1] <|
                        k6 (⟨b126, 0, none⟩, ⟨b112, 0, none⟩, ⟨b124, 0, none⟩, ())),(
                        L.new [.string s_, .int .i64 0, .int .i64 0, .int .i64 0, .int .i64 0, .int .i64 0] T_api_Config fun b127 =>
                        L.chk (⟨b3, 0, none⟩) [.string x10.1, .int .i64 x10.2.1, .int .i64 x10.2.2.1, .int .i64 x10.2.2.2.1, .int .i64 x10.2.2.2.2.1, .int .i64 x10.2.2.2.2.2.1] <|
                        L.chk (⟨b2, 0, none⟩) [.string x9.1, .int .i64 x9.2.1, .int .i64 x9.2.2.1, .int .i64 x9.2.2.2.1, .int .i64 x9.2.2.2.2.1, .int .i64 x9.2.2.2.2.2.1] <|
                        L.chk (⟨b1, 0, none⟩) [.string x8.1, .int .i64 x8.2.1, .int .i64 x8.2.2.1, .int .i64 x8.2.2.2.1, .int .i64 x8.2.2.2.2.1, .int .i64 x8.2.2.2.2.2.1] <|
                        L.call Pr n_damperlaw2_Config [.agg #[.string x10.1, .int .i64 x10.2.1, .int .i64 x10.2.2.1, .int .i64 x10.2.2.2.1, .int .i64 x10.2.2.2.2.1, .int .i64 x10.2.2.2.2.2.1], .int .i64 p3] (.one (.agg [.str, .int .i64, .int .i64, .int .i64, .int .i64, .int .i64])) fun (x128 : ByteArray × Int × Int × Int × Int × Int × Unit) =>
                        L.store (⟨b127, 0, none⟩) [.string x11.1, .int .i64 x11.2.1, .int .i64 x11.2.2.1, .int .i64 x11.2.2.2.1, .int .i64 x11.2.2.2.2.1, .int .i64 x11.2.2.2.2.2.1] <|
                        L.store (⟨b112, 0, none⟩) [.string x113.1, .int .i64 x113.2.1, .int .i64 x113.2.2.1, .int .i64 x113.2.2.2.1, .int .i64 x113.2.2.2.2.1, .int .i64 x113.2.2.2.2.2.1] <|
                        L.store (⟨b124, 0, none⟩) [.string x128.1, .int .i64 x128.2.1, .int .i64 x128.2.2.1, .int .i64 x128.2.2.2.1, .int .i64 x128.2.2.2.2.1, .int .i64 x128.2.2.2.2.2.1] <|
                        k6 (⟨b127, 0, none⟩, ⟨b112, 0, none⟩, ⟨b124, 0, none⟩, ()))])]),(
                L.new [.string s_, .int .i64 0, .int .i64 0, .int .i64 0, .int .i64 0, .int .i64 0] T_api_Config fun b129 =>
                L.chk (⟨b3, 0, none⟩) [.string x10.1, .int .i64 x10.2.1, .int .i64 x10.2.2.1, .int .i64 x10.2.2.2.1, .int .i64 x10.2.2.2.2.1, .int .i64 x10.2.2.2.2.2.1] <|
                L.chk (⟨b2, 0, none⟩) [.string x9.1, .int .i64 x9.2.1, .int .i64 x9.2.2.1, .int .i64 x9.2.2.2.1, .int .i64 x9.2.2.2.2.1, .int .i64 x9.2.2.2.2.2.1] <|
                L.chk (⟨b1, 0, none⟩) [.string x8.1, .int .i64 x8.2.1, .int .i64 x8.2.2.1, .int .i64 x8.2.2.2.1, .int .i64 x8.2.2.2.2.1, .int .i64 x8.2.2.2.2.2.1] <|
                L.alts [(
                    L.call Pr n_damperlaw2_Config [.agg #[.string x9.1, .int .i64 x9.2.1, .int .i64 x9.2.2.1, .int .i64 x9.2.2.2.1, .int .i64 x9.2.2.2.2.1, .int .i64 x9.2.2.2.2.2.1], .int .i64 p3] (.one (.agg [.str, .int .i64, .int .i64, .int .i64, .int .i64, .int .i64])) fun (x130 : ByteArray × Int × Int × Int × Int × Int × Unit) =>
                    L.chk (⟨b3, 0, none⟩) [.string x10.1, .int .i64 x10.2.1, .int .i64 x10.2.2.1, .int .i64 x10.2.2.2.1, .int .i64 x10.2.2.2.2.1, .int .i64 x10.2.2.2.2.2.1] <|
                    L.alts [(
                        L.call Pr n_damperlaw2_Config [.agg #[.string x10.1, .int .i64 x10.2.1, .int .i64 x10.2.2.1, .int .i64 x10.2.2.2.1, .int .i64 x10.2.2.2.2.1, .int .i64 x10.2.2.2.2.2.1], .int .i64 p3] (.one (.agg [.str, .int .i64, .int .i64, .int .i64, .int .i64, .int .i64])) fun (x131 : ByteArray × Int × Int × Int × Int × Int × Unit) =>
                        L.new [.string s_, .int .i64 0, .int .i64 0, .int .i64 0, .int .i64 0, .int .i64 0] T_api_Config fun b132 =>
                        L.chk (⟨b3, 0, none⟩) [.string x10.1, .int .i64 x10.2.1, .int .i64 x10.2.2.1, .int .i64 x10.2.2.2.1, .int .i64 x10.2.2.2.2.1, .int .i64 x10.2.2.2.2.2.1] <|
                        L.chk (⟨b2, 0, none⟩) [.string x9.1, .int .i64 x9.2.1, .int .i64 x9.2.2.1, .int .i64 x9.2.2.2.1, .int .i64 x9.2.2.2.2.1, .int .i64 x9.2.2.2.2.2.1] <|
                        L.chk (⟨b1, 0, none⟩) [.string x8.1, .int .i64 x8.2.1, .int .i64 x8.2.2.1, .int .i64 x8.2.2.2.1, .int .i64 x8.2.2.2.2.1, .int .i64 x8.2.2.2.2.2.1] <|
                        L.store (⟨b129, 0, none⟩) [.string x11.1, .int .i64 x11.2.1, .int .i64 x11.2.2.1, .int .i64 x11.2.2.2.1, .int .i64 x11.2.2.2.2.1, .int .i64 x11.2.2.2.2.2.1] <|
                        L.store (⟨b112, 0, none⟩) [.string x130.1, .int .i64 x130.2.1, .int .i64 x130.2.2.1, .int .i64 x130.2.2.2.1, .int .i64 x130.2.2.2.2.1, .int .i64 x130.2.2.2.2.2.1] <|
                        L.store (⟨b132, 0, none⟩) [.string x131.1, .int .i64 x131.2.1, .int .i64 x131.2.2.1, .int .i64 x131.2.2.2.1, .int .i64 x131.2.2.2.2.1, .int .i64 x131.2.2.2.2.2.1] <|
                        k6 (⟨b129, 0, none⟩, ⟨b112, 0, none⟩, ⟨b132, 0, none⟩, ())),(
                        L.new [.string s_, .int .i64 0, .int .i64 0, .int .i64 0, .int .i64 0, .int .i64 0] T_api_Config fun b133 =>
                        L.chk (⟨b3, 0, none⟩) [.string x10.1, .int .i64 x10.2.1, .int .i64 x10.2.2.1, .int .i64 x10.2.2.2.1, .int .i64 x10.2.2.2.2.1, .int .i64 x10.2.2.2.2.2.1] <|
                        L.chk (⟨b2, 0, none⟩) [.string x9.1, .int .i64 x9.2.1, .int .i64 x9.2.2.1, .int .i64 x9.2.2.2.1, .int .i64 x9.2.2.2.2.1, .int .i64 x9.2.2.2.2.2.1] <|
                        L.chk (⟨b1, 0, none⟩) [.string x8.1, .int .i64 x8.2.1, .int .i64 x8.2.2.1, .int .i64 x8.2.2.2.1, .int .i64 x8.2.2.2.2.1, .int .i64 x8.2.2.2.2.2.1] <|
                        L.call Pr n_damperlaw2_Config [.agg #[.string x10.1, .int .i64 x10.2.1, .int .i64 x10.2.2.1, .int .i64 x10.2.2.2.1, .int .i64 x10.2.2.2.2.1, .int .i64 x10.2.2.2.2.2.1], .int .i64 p3] (.one (.agg [.str, .int .i64, .int .i64, .int .i64, .int .i64, .int .i64])) fun (x134 : ByteArray × Int × Int × Int × Int × Int × Unit) =>
                        L.store (⟨b129, 0, none⟩) [.string x11.1, .int .i64 x11.2.1, .int .i64 x11.2.2.1, .int .i64 x11.2.2.2.1, .int .i64 x11.2.2.2.2.1, .int .i64 x11.2.2.2.2.2.1] <|
                        L.store (⟨b112, 0, none⟩) [.string x130.1, .int .i64 x130.2.1, .int .i64 x130.2.2.1, .int .i64 x130.2.2.2.1, .int .i64 x130.2.2.2.2.1, .int .i64 x130.2.2.2.2.2.1] <|
                        L.store (⟨b133, 0, none⟩) [.string x134.1, .int .i64 x134.2.1, .int .i64 x134.2.2.1, .int .i64 x134.2.2.2.1, .int .i64 x134.2.2.2.2.1, .int .i64 x134.2.2.2.2.2.1] <|
                        k6 (⟨b129, 0, none⟩, ⟨b112, 0, none⟩, ⟨b133, 0, none⟩, ()))]),(
                    L.new [.string s_, .int .i64 0, .int .i64 0, .int .i64 0, .int .i64 0, .int .i64 0] T_api_Config fun b135 =>
                    L.chk (⟨b3, 0, none⟩) [.string x10.1, .int .i64 x10.2.1, .int .i64 x10.2.2.1, .int .i64 x10.2.2.2.1, .int .i64 x10.2.2.2.2.1, .int .i64 x10.2.2.2.2.2.1] <|
                    L.chk (⟨b2, 0, none⟩) [.string x9.1, .int .i64 x9.2.1, .int .i64 x9.2.2.1, .int .i64 x9.2.2.2.1, .int .i64 x9.2.2.2.2.1, .int .i64 x9.2.2.2.2.2.1] <|
                    L.chk (⟨b1, 0, none⟩) [.string x8.1, .int .i64 x8.2.1, .int .i64 x8.2.2.1, .int .i64 x8.2.2.2.1, .int .i64 x8.2.2.2.2.1, .int .i64 x8.2.2.2.2.2.1] <|
                    L.call Pr n_damperlaw2_Config [.agg #[.string x9.1, .int .i64 x9.2.1, .int .i64 x9.2.2.1, .int .i64 x9.2.2.2.1, .int .i64 x9.2.2.2.2.1, .int .i64 x9.2.2.2.2.2.1], .int .i64 p3] (.one (.agg [.str, .int .i64, .int .i64, .int .i64, .int .i64, .int .i64])) fun (x136 : ByteArray × Int × Int × Int × Int × Int × Unit) =>
                    L.chk (⟨b3, 0, none⟩) [.string x10.1, .int .i64 x10.2.1, .int .i64 x10.2.2.1, .int .i64 x10.2.2.2.1, .int .i64 x10.2.2.2.2.1, .int .i64 x10.2.2.2.2.2.1] <|
                    L.call Pr n_damperlaw2_Config [.agg #[.string x10.1, .int .i64 x10.2.1, .int .i64 x10.2.2.1, .int .i64 x10.2.2.2.1, .int .i64 x10.2.2.2.2.1, .int .i64 x10.2.2.2.2.2.1], .int .i64 p3] (.one (.agg [.str, .int .i64, .int .i64, .int .i64, .int .i64, .int .i64])) fun (x137 : ByteArray × Int × Int × Int × Int × Int × Unit) =>
                    L.store (⟨b129, 0, none⟩) [.string x11.1, .int .i64 x11.2.1, .int .i64 x11.2.2.1, .int .i64 x11.2.2.2.1, .int .i64 x11.2.2.2.2.1, .int .i64 x11.2.2.2.2.2.1] <|
                    L.store (⟨b112, 0, none⟩) [.string x136.1, .int .i64 x136.2.1, .int .i64 x136.2.2.1, .int .i64 x136.2.2.2.1, .int .i64 x136.2.2.2.2.1, .int .i64 x136.2.2.2.2.2.1] <|
                    L.store (⟨b135, 0, none⟩) [.string x137.1, .int .i64 x137.2.1, .int .i64 x137.2.2.1, .int .i64 x137.2.2.2.1, .int .i64 x137.2.2.2.2.1, .int .i64 x137.2.2.2.2.2.1] <|
                    k6 (⟨b129, 0, none⟩, ⟨b112, 0, none⟩, ⟨b135, 0, none⟩, ()))]),(
                L.new [.string s_, .int .i64 0, .int .i64 0, .int .i64 0, .int .i64 0, .int .i64 0] T_api_Config fun b138 =>
                L.chk (⟨b3, 0, none⟩) [.string x10.1, .int .i64 x10.2.1, .int .i64 x10.2.2.1, .int .i64 x10.2.2.2.1, .int .i64 x10.2.2.2.2.1, .int .i64 x10.2.2.2.2.2.1] <|
                L.chk (⟨b2, 0, none⟩) [.string x9.1, .int .i64 x9.2.1, .int .i64 x9.2.2.1, .int .i64 x9.2.2.2.1, .int .i64 x9.2.2.2.2.1, .int .i64 x9.2.2.2.2.2.1] <|
                L.chk (⟨b1, 0, none⟩) [.string x8.1, .int .i64 x8.2.1, .int .i64 x8.2.2.1, .int .i64 x8.2.2.2.1, .int .i64 x8.2.2.2.2.1, .int .i64 x8.2.2.2.2.2.1] <|
                L.alts [(
                    L.call Pr n_damperlaw2_Config [.agg #[.string x9.1, .int .i64 x9.2.1, .int .i64 x9.2.2.1, .int .i64 x9.2.2.2.1, .int .i64 x9.2.2.2.2.1, .int .i64 x9.2.2.2.2.2.1], .int .i64 p3] (.one (.agg [.str, .int .i64, .int .i64, .int .i64, .int .i64, .int .i64])) fun (x139 : ByteArray × Int × Int × Int × Int × Int × Unit) =>
                    L.chk (⟨b3, 0, none⟩) [.string x10.1, .int .i64 x10.2.1, .int .i64 x10.2.2.1, .int .i64 x10.2.2.2.1, .int .i64 x10.2.2.2.2.1, .int .i64 x10.2.2.2.2.2.1] <|
                    L.alts [(
                        L.call Pr n_damperlaw2_Config [.agg #[.string x10.1, .int .i64 x10.2.1, .int .i64 x10.2.2.1, .int .i64 x10.2.2.2.1, .int .i64 x10.2.2.2.2.1, .int .i64 x10.2.2.2.2.2.1], .int .i64 p3] (.one (.agg [.str, .int .i64, .int .i64, .int .i64, .int .i64, .int .i64])) fun (x140 : ByteArray × Int × Int × Int × Int × Int × Unit) =>
                        L.new [.string s_, .int .i64 0, .int .i64 0, .int .i64 0, .int .i64 0, .int .i64 0] T_api_Config fun b141 =>
                        L.chk (⟨b3, 0, none⟩) [.string x10.1, .int .i64 x10.2.1, .int .i64 x10.2.2.1, .int .i64 x10.2.2.2.1, .int .i64 x10.2.2.2.2.1, .int .i64 x10.2.2.2.2.2.1] <|
                        L.chk (⟨b2, 0, none⟩) [.string x9.1, .int .i64 x9.2.1, .int .i64 x9.2.2.1, .int .i64 x9.2.2.2.1, .int .i64 x9.2.2.2.2.1, .int .i64 x9.2.2.2.2.2.1] <|
                        L.chk (⟨b1, 0, none⟩) [.string x8.1, .int .i64 x8.2.1, .int .i64 x8.2.2.1, .int .i64 x8.2.2.2.1, .int .i64 x8.2.2.2.2.1, .int .i64 x8.2.2.2.2.2.1] <|
                        L.store (⟨b141, 0, none⟩) [.string x11.1, .int .i64 x11.2.1, .int .i64 x11.2.2.1, .int .i64 x11.2.2.2.1, .int .i64 x11.2.2.2.2.1, .int .i64 x11.2.2.2.2.2.1] <|
                        L.store (⟨b112, 0, none⟩) [.string x139.1, .int .i64 x139.2.1, .int .i64 x139.2.2.1, .int .i64 x139.2.2.2.1, .int .i64 x139.2.2.2.2.1, .int .i64 x139.2.2.2.2.2.1] <|
                        L.store (⟨b138, 0, none⟩) [.string x140.1, .int .i64 x140.2.1, .int .i64 x140.2.2.1, .int .i64 x140.2.2.2.1, .int .i64 x140.2.2.2.2.1, .int .i64 x140.2.2.2.2.2.1] <|
                        k6 (⟨b141, 0, none⟩, ⟨b112, 0, none⟩, ⟨b138, 0, none⟩, ())),(
                        L.new [.string s_, .int .i64 0, .int .i64 0, .int .i64 0, .int .i64 0, .int .i64 0] T_api_Config fun b142 =>
                        L.chk (⟨b3, 0, none⟩) [.string x10.1, .int .i64 x10.2.1, .int .i64 x10.2.2.1, .int .i64 x10.2.2.2.1, .int .i64 x10.2.2.2.2.1, .int .i64 x10.2.2.2.2.2.1] <|
                        L.chk (⟨b2, 0, none⟩) [.string x9.1, .int .i64 x9.2.1, .int .i64 x9.2.2.1, .int .i64 x9.2.2.2.1, .int .i64 x9.2.2.2.2.1, .int .i64 x9.2.2.2.2.2.1] <|
                        L.chk (⟨b1, 0, none⟩) [.string x8.1, .int .i64 x8.2.1, .int .i64 x8.2.2.1, .int .i64 x8.2.2.2.1, .int .i64 x8.2.2.2.2.1, .int .i64 x8.2.2.2.2.2.1] <|
                        L.call Pr n_damperlaw2_Config [.agg #[.string x10.1, .int .i64 x10.2.1, .int .i64 x10.2.2.1, .int .i64 x10.2.2.2.1, .int .i64 x10.2.2.2.2.1, .int .i64 x10.2.2.2.2.2.1], .int .i64 p3] (.one (.agg [.str, .int .i64, .int .i64, .int .i64, .int .i64, .int .i64])) fun (x143 : ByteArray × Int × Int × Int × Int × Int × Unit) =>
                        L.store (⟨b142, 0, none⟩) [.string x11.1, .int .i64 x11.2.1, .int .i64 x11.2.2.1, .int .i64 x11.2.2.2.1, .int .i64 x11.2.2.2.2.1, .int .i64 x11.2.2.2.2.2.1] <|
                        L.store (⟨b112, 0, none⟩) [.string x139.1, .int .i64 x139.2.1, .int .i64 x139.2.2.1, .int .i64 x139.2.2.2.1, .int .i64 x139.2.2.2.2.1, .int .i64 x139.2.2.2.2.2.1] <|
                        L.store (⟨b138, 0, none⟩) [.string x143.1, .int .i64 x143.2.1, .int .i64 x143.2.2.1, .int .i64 x143.2.2.2.1, .int .i64 x143.2.2.2.2.1, .int .i64 x143.2.2.2.2.2.1] <|
                        k6 (⟨b142, 0, none⟩, ⟨b112, 0, none⟩, ⟨b138, 0, none⟩, ()))]),(
                    L.new [.string s_, .int .i64 0, .int .i64 0, .int .i64 0, .int .i64 0, .int .i64 0] T_api_Config fun b144 =>
                    L.chk (⟨b3, 0, none⟩) [.string x10.1, .int .i64 x10.2.1, .int .i64 x10.2.2.1, .int .i64 x10.2.2.2.1, .int .i64 x10.2.2.2.2.1, .int .i64 x10.2.2.2.2.2.1] <|
                    L.chk (⟨b2, 0, none⟩) [.string x9.1, .int .i64 x9.2.1, .int .i64 x9.2.2.1, .int .i64 x9.2.2.2.1, .int .i64 x9.2.2.2.2.1, .int .i64 x9.2.2.2.2.2.1] <|
                    L.chk (⟨b1, 0, none⟩) [.string x8.1, .int .i64 x8.2.1, .int .i64 x8.2.2.1, .int .i64 x8.2.2.2.1, .int .i64 x8.2.2.2.2.1, .int .i64 x8.2.2.2.2.2.1] <|
                    L.call Pr n_damperlaw2_Config [.agg #[.string x9.1, .int .i64 x9.2.1, .int .i64 x9.2.2.1, .int .i64 x9.2.2.2.1, .int .i64 x9.2.2.2.2.1, .int .i64 x9.2.2.2.2.2.1], .int .i64 p3] (.one (.agg [.str, .int .i64, .int .i64, .int .i64, .int .i64, .int .i64])) fun (x145 : ByteArray × Int × Int × Int × Int × Int × Unit) =>
                    L.chk (⟨b3, 0, none⟩) [.string x10.1, .int .i64 x10.2.1, .int .i64 x10.2.2.1, .int .i64 x10.2.2.2.1, .int .i64 x10.2.2.2.2.1, .int .i64 x10.2.2.2.2.2.1] <|
                    L.call Pr n_damperlaw2_Config [.agg #[.string x10.1, .int .i64 x10.2.1, .int .i64 x10.2.2.1, .int .i64 x10.2.2.2.1, .int .i64 x10.2.2.2.2.1, .int .i64 x10.2.2.2.2.2.1], .int .i64 p3] (.one (.agg [.str, .int .i64, .int .i64, .int .i64, .int .i64, .int .i64])) fun (x146 : ByteArray × Int × Int × Int × Int × Int × Unit) =>
                    L.store (⟨b144, 0, none⟩) [.string x11.1, .int .i64 x11.2.1, .int .i64 x11.2.2.1, .int .i64 x11.2.2.2.1, .int .i64 x11.2.2.2.2.1, .int .i64 x11.2.2.2.2.2.1] <|
                    L.store (⟨b112, 0, none⟩) [.string x145.1, .int .i64 x145.2.1, .int .i64 x145.2.2.1, .int .i64 x145.2.2.2.1, .int .i64 x145.2.2.2.2.1, .int .i64 x145.2.2.2.2.2.1] <|
                    L.store (⟨b138, 0, none⟩) [.string x146.1, .int .i64 x146.2.1, .int .i64 x146.2.2.1, .int .i64 x146.2.2.2.1, .int .i64 x146.2.2.2.2.1, .int .i64 x146.2.2.2.2.2.1] <|
                    k6 (⟨b144, 0, none⟩, ⟨b112, 0, none⟩, ⟨b138, 0, none⟩, ()))])]),(
            L.new [.string s_, .int .i64 0, .int .i64 0, .int .i64 0, .int .i64 0, .int .i64 0] T_api_Config fun b147 =>
            L.chk (⟨b3, 0, none⟩) [.string x10.1, .int .i64 x10.2.1, .int .i64 x10.2.2.1, .int .i64 x10.2.2.2.1, .int .i64 x10.2.2.2.2.1, .int .i64 x10.2.2.2.2.2.1] <|
            L.chk (⟨b2, 0, none⟩) [.string x9.1, .int .i64 x9.2.1, .int .i64 x9.2.2.1, .int .i64 x9.2.2.2.1, .int .i64 x9.2.2.2.2.1, .int .i64 x9.2.2.2.2.2.1] <|
            L.chk (⟨b1, 0, none⟩) [.string x8.1, .int .i64 x8.2.1, .int .i64 x8.2.2.1, .int .i64 x8.2.2.2.1, .int .i64 x8.2.2.2.2.1, .int .i64 x8.2.2.2.2.2.1] <|
            L.alts [(
                L.call Pr n_damperlaw2_Config [.agg #[.string x9.1, .int .i64 x9.2.1, .int .i64 x9.2.2.1, .int .i64 x9.2.2.2.1, .int .i64 x9.2.2.2.2.1, .int .i64 x9.2.2.2.2.2.1], .int .i64 p3] (.one (.agg [.str, .int .i64, .int .i64, .int .i64, .int .i64, .int .i64])) fun (x148 : ByteArray × Int × Int × Int × Int × Int × Unit) =>
                L.chk (⟨b3, 0, none⟩) [.string x10.1, .int .i64 x10.2.1, .int .i64 x10.2.2.1, .int .i64 x10.2.2.2.1, .int .i64 x10.2.2.2.2.1, .int .i64 x10.2.2.2.2.2.1] <|
                L.alts [(
                    L.call Pr n_damperlaw2_Config [.agg #[.string x10.1, .int .i64 x10.2.1, .int .i64 x10.2.2.1, .int .i64 x10.2.2.2.1, .int .i64 x10.2.2.2.2.1, .int .i64 x10.2.2.2.2.2.1], .int .i64 p3] (.one (.agg [.str, .int .i64, .int .i64, .int .i64, .int .i64, .int .i64])) fun (x149 : ByteArray × Int × Int × Int × Int × Int × Unit) =>
                    L.alts [(
                        L.new [.string s_, .int .i64 0, .int .i64 0, .int .i64 0, .int .i64 0, .int .i64 0] T_api_Config fun b150 =>
                        L.chk (⟨b3, 0, none⟩) [.string x10.1, .int .i64 x10.2.1, .int .i64 x10.2.2.1, .int .i64 x10.2.2.2.1, .int .i64 x10.2.2.2.2.1, .int .i64 x10.2.2.2.2.2.1] <|
                        L.chk (⟨b2, 0, none⟩) [.string x9.1, .int .i64 x9.2.1, .int .i64 x9.2.2.1, .int .i64 x9.2.2.2.1, .int .i64 x9.2.2.2.2.1, .int .i64 x9.2.2.2.2.2.1] <|
                        L.chk (⟨b1, 0, none⟩) [.string x8.1, .int .i64 x8.2.1, .int .i64 x8.2.2.1, .int .i64 x8.2.2.2.1, .int .i64 x8.2.2.2.2.1, .int .i64 x8.2.2.2.2.2.1] <|
                        L.new [.string s_, .int .i64 0, .int .i64 0, .int .i64 0, .int .i64 0, .int .i64 0] T_api_Config fun b151 =>
                        L.chk (⟨b3, 0, none⟩) [.string x10.1, .int .i64 x10.2.1, .int .i64 x10.2.2.1, .int .i64 x10.2.2.2.1, .int .i64 x10.2.2.2.2.1, .int .i64 x10.2.2.2.2.2.1] <|
                        L.chk (⟨b2, 0, none⟩) [.string x9.1, .int .i64 x9.2.1, .int .i64 x9.2.2.1, .int .i64 x9.2.2.2.1, .int .i64 x9.2.2.2.2.1, .int .i64 x9.2.2.2.2.2.1] <|
                        L.chk (⟨b1, 0, none⟩) [.string x8.1, .int .i64 x8.2.1, .int .i64 x8.2.2.1, .int .i64 x8.2.2.2.1, .int .i64 x8.2.2.2.2.1, .int .i64 x8.2.2.2.2.2.1] <|
                        L.store (⟨b150, 0, none⟩) [.string x11.1, .int .i64 x11.2.1, .int .i64 x11.2.2.1, .int .i64 x11.2.2.2.1, .int .i64 x11.2.2.2.2.1, .int .i64 x11.2.2.2.2.2.1] <|
                        L.store (⟨b151, 0, none⟩) [.string x148.1, .int .i64 x148.2.1, .int .i64 x148.2.2.1, .int .i64 x148.2.2.2.1, .int .i64 x148.2.2.2.2.1, .int .i64 x148.2.2.2.2.2.1] <|
                        L.store (⟨b147, 0, none⟩) [.string x149.1, .int .i64 x149.2.1, .int .i64 x149.2.2.1, .int .i64 x149.2.2.2.1, .int .i64 x149.2.2.2.2.1, .int .i64 x149.2.2.2.2.2.1] <|
                        k6 (⟨b150, 0, none⟩, ⟨b151, 0, none⟩, ⟨b147, 0, none⟩, ())),(
                        L.new [.string s_, .int .i64 0, .int .i64 0, .int .i64 0, .int .i64 0, .int .i64 0] T_api_Config fun b152 =>
                        L.chk (⟨b3, 0, none⟩) [.string x10.1, .int .i64 x10.2.1, .int .i64 x10.2.2.1, .int .i64 x10.2.2.2.1, .int .i64 x10.2.2.2.2.1, .int .i64 x10.2.2.2.2.2.1] <|
                        L.chk (⟨b2, 0, none⟩) [.string x9.1, .int .i64 x9.2.1, .int .i64 x9.2.2.1, .int .i64 x9.2.2.2.1, .int .i64 x9.2.2.2.2.1, .int .i64 x9.2.2.2.2.2.1] <|
                        L.chk (⟨b1, 0, none⟩) [.string x8.1, .int .i64 x8.2.1, .int .i64 x8.2.2.1, .int .i64 x8.2.2.2.1, .int .i64 x8.2.2.2.2.1, .int .i64 x8.2.2.2.2.2.1] <|
                        L.new [.string s_, .int .i64 0, .int .i64 0, .int .i64 0, .int .i64 0, .int .i64 0] T_api_Config fun b153 =>
                        L.chk (⟨b3, 0, none⟩) [.string x10.1, .int .i64 x10.2.1, .int .i64 x10.2.2.1, .int .i64 x10.2.2.2.1, .int .i64 x10.2.2.2.2.1, .int .i64 x10.2.2.2.2.2.1] <|
                        L.chk (⟨b2, 0, none⟩) [.string x9.1, .int .i64 x9.2.1, .int .i64 x9.2.2.1, .int .i64 x9.2.2.2.1, .int .i64 x9.2.2.2.2.1, .int .i64 x9.2.2.2.2.2.1] <|
                        L.chk (⟨b1, 0, none⟩) [.string x8.1, .int .i64 x8.2.1, .int .i64 x8.2.2.1, .int .i64 x8.2.2.2.1, .int .i64 x8.2.2.2.2.1, .int .i64 x8.2.2.2.2.2.1] <|
                        L.store (⟨b153, 0, none⟩) [.string x11.1, .int .i64 x11.2.1, .int .i64 x11.2.2.1, .int .i64 x11.2.2.2.1, .int .i64 x11.2.2.2.2.1, .int .i64 x11.2.2.2.2.2.1] <|
                        L.store (⟨b152, 0, none⟩) [.string x148.1, .int .i64 x148.2.1, .int .i64 x148.2.2.1, .int .i64 x148.2.2.2.1, .int .i64 x148.2.2.2.2.1, .int .i64 x148.2.2.2.2.2.1] <|
                        L.store (⟨b147, 0, none⟩) [.string x149.1, .int .i64 x149.2.1, .int .i64 x149.2.2.1, .int .i64 x149.2.2.2.1, .int .i64 x149.2.2.2.2.1, .int .i64 x149.2.2.2.2.2.1] <|
                        k6 (⟨b153, 0, none⟩, ⟨b152, 0, none⟩, ⟨b147, 0, none⟩, ()))]),(
                    L.new [.string s_, .int .i64 0, .int .i64 0, .int .i64 0, .int .i64 0, .int .i64 0] T_api_Config fun b154 =>
                    L.chk (⟨b3, 0, none⟩) [.string x10.1, .int .i64 x10.2.1, .int .i64 x10.2.2.1, .int .i64 x10.2.2.2.1, .int .i64 x10.2.2.2.2.1, .int .i64 x10.2.2.2.2.2.1] <|
                    L.chk (⟨b2, 0, none⟩) [.string x9.1, .int .i64 x9.2.1, .int .i64 x9.2.2.1, .int .i64 x9.2.2.2.1, .int .i64 x9.2.2.2.2.1, .int .i64 x9.2.2.2.2.2.1] <|
                    L.chk (⟨b1, 0, none⟩) [.string x8.1, .int .i64 x8.2.1, .int .i64 x8.2.2.1, .int .i64 x8.2.2.2.1, .int .i64 x8.2.2.2.2.1, .int .i64 x8.2.2.2.2.2.1] <|
                    L.alts [(
                        L.call Pr n_damperlaw2_Config [.agg #[.string x10.1, .int .i64 x10.2.1, .int .i64 x10.2.2.1, .int .i64 x10.2.2.2.1, .int .i64 x10.2.2.2.2.1, .int .i64 x10.2.2.2.2.2.1], .int .i64 p3] (.one (.agg [.str, .int .i64, .int .i64, .int .i64, .int .i64, .int .i64])) fun (x155 : ByteArray × Int × Int × Int × Int × Int × Unit) =>
                        L.new [.string s_, .int .i64 0, .int .i64 0, .int .i64 0, .int .i64 0, .int .i64 0] T_api_Config fun b156 =>
                        L.chk (⟨b3, 0, none⟩) [.string x10.1, .int .i64 x10.2.1, .int .i64 x10.2.2.1, .int .i64 x10.2.2.2.1, .int .i64 x10.2.2.2.2.1, .int .i64 x10.2.2.2.2.2.1] <|
                        L.chk (⟨b2, 0, none⟩) [.string x9.1, .int .i64 x9.2.1, .int .i64 x9.2.2.1, .int .i64 x9.2.2.2.1, .int .i64 x9.2.2.2.2.1, .int .i64 x9.2.2.2.2.2.1] <|
                        L.chk (⟨b1, 0, none⟩) [.string x8.1, .int .i64 x8.2.1, .int .i64 x8.2.2.1, .int .i64 x8.2.2.2.1, .int .i64 x8.2.2.2.2.1, .int .i64 x8.2.2.2.2.2.1] <|
                        L.store (⟨b154, 0, none⟩) [.string x11.1, .int .i64 x11.2.1, .int .i64 x11.2.2.1, .int .i64 x11.2.2.2.1, .int .i64 x11.2.2.2.2.1, .int .i64 x11.2.2.2.2.2.1] <|
                        L.store (⟨b156, 0, none⟩) [.string x148.1, .int .i64 x148.2.1, .int .i64 x148.2.2.1, .int .i64 x148.2.2.2.1, .int .i64 x148.2.2.2.2.1, .int .i64 x148.2.2.2.2.2.1] <|
                        L.store (⟨b147, 0, none⟩) [.string x155.1, .int .i64 x155.2.1, .int .i64 x155.2.2.1, .int .i64 x155.2.2.2.1, .int .i64 x155.2.2.2.2.1, .int .i64 x155.2.2.2.2.2.1] <|
                        k6 (⟨b154, 0, none⟩, ⟨b156, 0, none⟩, ⟨b147, 0, none⟩, ())),(
                        L.new [.string s_, .int .i64 0, .int .i64 0, .int .i64 0, .int .i64 0, .int .i64 0] T_api_Config fun b157 =>
                        L.chk (⟨b3, 0, none⟩) [.string x10.1, .int .i64 x10.2.1, .int .i64 x10.2.2.1, .int .i64 x10.2.2.2.1, .int .i64 x10.2.2.2.2.1, .int .i64 x10.2.2.2.2.2.1] <|
                        L.chk (⟨b2, 0, none⟩) [.string x9.1, .int .i64 x9.2.1, .int .i64 x9.2.2.1, .int .i64 x9.2.2.2.1, .int .i64 x9.2.2.2.2.1, .int .i64 x9.2.2.2.2.2.1] <|
                        L.chk (⟨b1, 0, none⟩) [.string x8.1, .int .i64 x8.2.1, .int .i64 x8.2.2.1, .int .i64 x8.2.2.2.1, .int .i64 x8.2.2.2.2.1, .int .i64 x8.2.2.2.2.2.1] <|
                        L.call Pr n_damperlaw2_Config [.agg #[.string x10.1, .int .i64 x10.2.1, .int .i64 x10.2.2.1, .int .i64 x10.2.2.2.1, .int .i64 x10.2.2.2.2.1, .int .i64 x10.2.2.2.2.2.1], .int .i64 p3] (.one (.agg [.str, .int .i64, .int .i64, .int .i64, .int .i64, .int .i64])) fun (x158 : ByteArray × Int × Int × Int × Int × Int × Unit) =>
                        L.store (⟨b154, 0, none⟩) [.string x11.1, .int .i64 x11.2.1, .int .i64 x11.2.2.1, .int .i64 x11.2.2.2.1, .int .i64 x11.2.2.2.2.1, .int .i64 x11.2.2.2.2.2.1] <|
                        L.store (⟨b157, 0, none⟩) [.string x148.1, .int .i64 x148.2.1, .int .i64 x148.2.2.1, .int .i64 x148.2.2.2.1, .int .i64 x148.2.2.2.2.1, .int .i64 x148.2.2.2.2.2.1] <|
                        L.store (⟨b147, 0, none⟩) [.string x158.1, .int .i64 x158.2.1, .int .i64 x158.2.2.1, .int .i64 x158.2.2.2.1, .int .i64 x158.2.2.2.2.1, .int .i64 x158.2.2.2.2.2.1] <|
                        k6 (⟨b154, 0, none⟩, ⟨b157, 0, none⟩, ⟨b147, 0, none⟩, ()))]),(
                    L.new [.string s_, .int .i64 0, .int .i64 0, .int .i64 0, .int .i64 0, .int .i64 0] T_api_Config fun b159 =>
                    L.chk (⟨b3, 0, none⟩) [.string x10.1, .int .i64 x10.2.1, .int .i64 x10.2.2.1, .int .i64 x10.2.2.2.1, .int .i64 x10.2.2.2.2.1, .int .i64 x10.2.2.2.2.2.1] <|
                    L.chk (⟨b2, 0, none⟩) [.string x9.1, .int .i64 x9.2.1, .int .i64 x9.2.2.1, .int .i64 x9.2.2.2.1, .int .i64 x9.2.2.2.2.1, .int .i64 x9.2.2.2.2.2.1] <|
                    L.chk (⟨b1, 0, none⟩) [.string x8.1, .int .i64 x8.2.1, .int .i64 x8.2.2.1, .int .i64 x8.2.2.2.1, .int .i64 x8.2.2.2.2.1, .int .i64 x8.2.2.2.2.2.1] <|
                    L.alts [(
                        L.call Pr n_damperlaw2_Config [.agg #[.string x10.1, .int .i64 x10.2.1, .int .i64 x10.2.2.1, .int .i64 x10.2.2.2.1, .int .i64 x10.2.2.2.2.1, .int .i64 x10.2.2.2.2.2.1], .int .i64 p3] (.one (.agg [.str, .int .i64, .int .i64, .int .i64, .int .i64, .int .i64])) fun (x160 : ByteArray × Int × Int × Int × Int × Int × Unit) =>
                        L.new [.string s_, .int .i64 0, .int .i64 0, .int .i64 0, .int .i64 0, .int .i64 0] T_api_Config fun b161 =>
                        L.chk (⟨b3, 0, none⟩) [.string x10.1, .int .i64 x10.2.1, .int .i64 x10.2.2.1, .int .i64 x10.2.2.2.1, .int .i64 x10.2.2.2.2.1, .int .i64 x10.2.2.2.2.2.1] <|
                        L.chk (⟨b2, 0, none⟩) [.string x9.1, .int .i64 x9.2.1, .int .i64 x9.2.2.1, .int .i64 x9.2.2.2.1, .int .i64 x9.2.2.2.2.1, .int .i64 x9.2.2.2.2.2.1] <|
                        L.chk (⟨b1, 0, none⟩) [.string x8.1, .int .i64 x8.2.1, .int .i64 x8.2.2.1, .int .i64 x8.2.2.2.1, .int .i64 x8.2.2.2.2.1, .int .i64 x8.2.2.2.2.2.1] <|
                        L.store (⟨b161, 0, none⟩) [.string x11.1, .int .i64 x11.2.1, .int .i64 x11.2.2.1, .int .i64 x11.2.2.2.1, .int .i64 x11.2.2.2.2.1, .int .i64 x11.2.2.2.2.2.1] <|
                        L.store (⟨b159, 0, none⟩) [.string x148.1, .int .i64 x148.2.1, .int .i64 x148.2.2.1, .int .i64 x148.2.2.2.1, .int .i64 x148.2.2.2.2.1, .int .i64 x148.2.2.2.2.2.1] <|
                        L.store (⟨b147, 0, none⟩) [.string x160.1, .int .i64 x160.2.1, .int .i64 x160.2.2.1, .int .i64 x160.2.2.2.1, .int .i64 x160.2.2.2.2.1, .int .i64 x160.2.2.2.2.2.1] <|
                        k6 (⟨b161, 0, none⟩, ⟨b159, 0, none⟩, ⟨b147, 0, none⟩, ())),(
                        L.new [.string s_, .int .i64 0, .int .i64 0, .int .i64 0, .int .i64 0, .int .i64 0] T_api_Config fun b162 =>
                        L.chk (⟨b3, 0, none⟩) [.string x10.1, .int .i64 x10.2.1, .int .i64 x10.2.2.1, .int .i64 x10.2.2.2.1, .int .i64 x10.2.2.2.2.1, .int .i64 x10.2.2.2.2.2.1] <|
                        L.chk (⟨b2, 0, none⟩) [.string x9.1, .int .i64 x9.2.1, .int .i64 x9.2.2.1, .int .i64 x9.2.2.2.1, .int .i64 x9.2.2.2.2.1, .int .i64 x9.2.2.2.2.2.1] <|
                        L.chk (⟨b1, 0, none⟩) [.string x8.1, .int .i64 x8.2.1, .int .i64 x8.2.2.1, .int .i64 x8.2.2.2.1, .int .i64 x8.2.2.2.2.1, .int .i64 x8.2.2.2.2.2.1] <|
                        L.call Pr n_damperlaw2_Config [.agg #[.string x10.1, .int .i64 x10.2.1, .int .i64 x10.2.2.1, .int .i64 x10.2.2.2.1, .int .i64 x10.2.2.2.2.1, .int .i64 x10.2.2.2.2.2.1], .int .i64 p3] (.one (.agg [.str, .int .i64, .int .i64, .int .i64, .int .i64, .int .i64])) fun (x163 : ByteArray × Int × Int × Int × Int × Int × Unit) =>
                        L.store (⟨b162, 0, none⟩) [.string x11.1, .int .i64 x11.2.1, .int .i64 x11.2.2.1, .int .i64 x11.2.2.2.1, .int .i64 x11.2.2.2.2.1, .int .i64 x11.2.2.2.2.2.1] <|
                        L.store (⟨b159, 0, none⟩) [.string x148.1, .int .i64 x148.2.1, .int .i64 x148.2.2.1, .int .i64 x148.2.2.2.1, .int .i64 x148.2.2.2.2.1, .int .i64 x148.2.2.2.2.2.1] <|
                        L.store (⟨b147, 0, none⟩) [.string x163.1, .int .i64 x163.2.1, .int .i64 x163.2.2.1, .int .i64 x163.2.2.2.1, .int .i64 x163.2.2.2.2.1, .int .i64 x163.2.2.2.2.2.1] <|
                        k6 (⟨b162, 0, none⟩, ⟨b159, 0, none⟩, ⟨b147, 0, none⟩, ()))])]),(
                L.new [.string s_, .int .i64 0, .int .i64 0, .int .i64 0, .int .i64 0, .int .i64 0] T_api_Config fun b164 =>
                L.chk (⟨b3, 0, none⟩) [.string x10.1, .int .i64 x10.2.1, .int .i64 x10.2.2.1, .int .i64 x10.2.2.2.1, .int .i64 x10.2.2.2.2.1, .int .i64 x10.2.2.2.2.2.1] <|
                L.chk (⟨b2, 0, none⟩) [.string x9.1, .int .i64 x9.2.1, .int .i64 x9.2.2.1, .int .i64 x9.2.2.2.1, .int .i64 x9.2.2.2.2.1, .int .i64 x9.2.2.2.2.2.1] <|
                L.chk (⟨b1, 0, none⟩) [.string x8.1, .int .i64 x8.2.1, .int .i64 x8.2.2.1, .int .i64 x8.2.2.2.1, .int .i64 x8.2.2.2.2.1, .int .i64 x8.2.2.2.2.2.1] <|
                L.alts [(
                    L.call Pr n_damperlaw2_Config [.agg #[.string x9.1, .int .i64 x9.2.1, .int .i64 x9.2.2.1, .int .i64 x9.2.2.2.1, .int .i64 x9.2.2.2.2.1, .int .i64 x9.2.2.2.2.2.1], .int .i64 p3] (.one (.agg [.str, .int .i64, .int .i64, .int .i64, .int .i64, .int .i64])) fun (x165 : ByteArray × Int × Int × Int × Int × Int × Unit) =>
                    L.chk (⟨b3, 0, none⟩) [.string x10.1, .int .i64 x10.2.1, .int .i64 x10.2.2.1, .int .i64 x10.2.2.2.1, .int .i64 x10.2.2.2.2.1, .int .i64 x10.2.2.2.2.2.1] <|
                    L.alts [(
                        L.call Pr n_damperlaw2_Config [.agg #[.string x10.1, .int .i64 x10.2.1, .int .i64 x10.2.2.1, .int .i64 x10.2.2.2.1, .int .i64 x10.2.2.2.2.1, .int .i64 x10.2.2.2.2.2.1], .int .i64 p3] (.one (.agg [.str, .int .i64, .int .i64, .int .i64, .int .i64, .int .i64])) fun (x166 : ByteArray × Int × Int × Int × Int × Int × Unit) =>
                        L.new [.string s_, .int .i64 0, .int .i64 0, .int .i64 0, .int .i64 0, .int .i64 0] T_api_Config fun b167 =>
                        L.chk (⟨b3, 0, none⟩) [.string x10.1, .int .i64 x10.2.1, .int .i64 x10.2.2.1, .int .i64 x10.2.2.2.1, .int .i64 x10.2.2.2.2.1, .int .i64 x10.2.2.2.2.2.1] <|
                        L.chk (⟨b2, 0, none⟩) [.string x9.1, .int .i64 x9.2.1, .int .i64 x9.2.2.1, .int .i64 x9.2.2.2.1, .int .i64 x9.2.2.2.2.1, .int .i64 x9.2.2.2.2.2.1] <|
                        L.chk (⟨b1, 0, none⟩) [.string x8.1, .int .i64 x8.2.1, .int .i64 x8.2.2.1, .int .i64 x8.2.2.2.1, .int .i64 x8.2.2.2.2.1, .int .i64 x8.2.2.2.2.2.1] <|
                        L.store (⟨b164, 0, none⟩) [.string x11.1, .int .i64 x11.2.1, .int .i64 x11.2.2.1, .int .i64 x11.2.2.2.1, .int .i64 x11.2.2.2.2.1, .int .i64 x11.2.2.2.2.2.1] <|
                        L.store (⟨b167, 0, none⟩) [.string x165.1, .int .i64 x165.2.1, .int .i64 x165.2.2.1, .int .i64 x165.2.2.2.1, .int .i64 x165.2.2.2.2.1, .int .i64 x165.2.2.2.2.2.1] <|
                        L.store (⟨b147, 0, none⟩) [.string x166.1, .int .i64 x166.2.1, .int .i64 x166.2.2.1, .int .i64 x166.2.2.2.1, .int .i64 x166.2.2.2.2.1, .int .i64 x166.2.2.2.2.2.1] <|
                        k6 (⟨b164, 0, none⟩, ⟨b167, 0, none⟩, ⟨b147, 0, none⟩, ())),(
                        L.new [.string s_, .int .i64 0, .int .i64 0, .int .i64 0, .int .i64 0, .int .i64 0] T_api_Config fun b168 =>
                        L.chk (⟨b3, 0, none⟩) [.string x10.1, .int .i64 x10.2.1, .int .i64 x10.2.2.1, .int .i64 x10.2.2.2.1, .int .i64 x10.2.2.2.2.1, .int .i64 x10.2.2.2.2.2.1] <|
                        L.chk (⟨b2, 0, none⟩) [.string x9.1, .int .i64 x9.2.1, .int .i64 x9.2.2.1, .int .i64 x9.2.2.2.1, .int .i64 x9.2.2.2.2.1, .int .i64 x9.2.2.2.2.2.1] <|
                        L.chk (⟨b1, 0, none⟩) [.string x8.1, .int .i64 x8.2.1, .int .i64 x8.2.2.1, .int .i64 x8.2.2.2.1, .int .i64 x8.2.2.2.2.1, .int .i64 x8.2.2.2.2.2.1] <|
                        L.call Pr n_damperlaw2_Config [.agg #[.string x10.1, .int .i64 x10.2.1, .int .i64 x10.2.2.1, .int .i64 x10.2.2.2.1, .int .i64 x10.2.2.2.2.1, .int .i64 x10.2.2.2.2.2.1], .int .i64 p3] (.one (.agg [.str, .int .i64, .int .i64, .int .i64, .int .i64, .int .i64])) fun (x169 : ByteArray × Int × Int × Int × Int × Int × Unit) =>
                        L.store (⟨b164, 0, none⟩) [.string x11.1, .int .i64 x11.2.1, .int .i64 x11.2.2.1, .int .i64 x11.2.2.2.1, .int .i64 x11.2.2.2.2.1, .int .i64 x11.2.2.2.2.2.1] <|
                        L.store (⟨b168, 0, none⟩) [.string x165.1, .int .i64 x165.2.1, .int .i64 x165.2.2.1, .int .i64 x165.2.2.2.1, .int .i64 x165.2.2.2.2.1, .int .i64 x165.2.2.2.2.2.1] <|
                        L.store (⟨b147, 0, none⟩) [.string x169.1, .int .i64 x169.2.1, .int .i64 x169.2.2.1, .int .i64 x169.2.2.2.1, .int .i64 x169.2.2.2.2.1, .int .i64 x169.2.2.2.2.2.1] <|
                        k6 (⟨b164, 0, none⟩, ⟨b168, 0, none⟩, ⟨b147, 0, none⟩, ()))]),(
                    L.new [.string s_, .int .i64 0, .int .i64 0, .int .i64 0, .int .i64 0, .int .i64 0] T_api_Config fun b170 =>
                    L.chk (⟨b3, 0, none⟩) [.string x10.1, .int .i64 x10.2.1, .int .i64 x10.2.2.1, .int .i64 x10.2.2.2.1, .int .i64 x10.2.2.2.2.1, .int .i64 x10.2.2.2.2.2.1] <|
                    L.chk (⟨b2, 0, none⟩) [.string x9.1, .int .i64 x9.2.1, .int .i64 x9.2.2.1, .int .i64 x9.2.2.2.1, .int .i64 x9.2.2.2.2.1, .int .i64 x9.2.2.2.2.2.1] <|
                    L.chk (⟨b1, 0, none⟩) [.string x8.1, .int .i64 x8.2.1, .int .i64 x8.2.2.1, .int .i64 x8.2.2.2.1, .int .i64 x8.2.2.2.2.1, .int .i64 x8.2.2.2.2.2.1] <|
                    L.call Pr n_damperlaw2_Config [.agg #[.string x9.1, .int .i64 x9.2.1, .int .i64 x9.2.2.1, .int .i64 x9.2.2.2.1, .int .i64 x9.2.2.2.2.1, .int .i64 x9.2.2.2.2.2.1], .int .i64 p3] (.one (.agg [.str, .int .i64, .int .i64, .int .i64, .int .i64, .int .i64])) fun (x171 : ByteArray × Int × Int × Int × Int × Int × Unit) =>
                    L.chk (⟨b3, 0, none⟩) [.string x10.1, .int .i64 x10.2.1, .int .i64 x10.2.2.1, .int .i64 x10.2.2.2.1, .int .i64 x10.2.2.2.2.1, .int .i64 x10.2.2.2.2.2.1] <|
                    L.call Pr n_damperlaw2_Config [.agg #[.string x10.1, .int .i64 x10.2.1, .int .i64 x10.2.2.1, .int .i64 x10.2.2.2.1, .int .i64 x10.2.2.2.2.1, .int .i64 x10.2.2.2.2.2.1], .int .i64 p3] (.one (.agg [.str, .int .i64, .int .i64, .int .i64, .int .i64, .int .i64])) fun (x172 : ByteArray × Int × Int × Int × Int × Int × Unit) =>
                    L.store (⟨b164, 0, none⟩) [.string x11.1, .int .i64 x11.2.1, .int .i64 x11.2.2.1, .int .i64 x11.2.2.2.1, .int .i64 x11.2.2.2.2.1, .int .i64 x11.2.2.2.2.2.1] <|
                    L.store (⟨b170, 0, none⟩) [.string x171.1, .int .i64 x171.2.1, .int .i64 x171.2.2.1, .int .i64 x171.2.2.2.1, .int .i64 x171.2.2.2.2.1, .int .i64 x171.2.2.2.2.2.1] <|
                    L.store (⟨b147, 0, none⟩) [.string x172.1, .int .i64 x172.2.1, .int .i64 x172.2.2.1, .int .i64 x172.2.2.2.1, .int .i64 x172.2.2.2.2.1, .int .i64 x172.2.2.2.2.2.1] <|
                    k6 (⟨b164, 0, none⟩, ⟨b170, 0, none⟩, ⟨b147, 0, none⟩, ()))]),(
                L.new [.string s_, .int .i64 0, .int .i64 0, .int .i64 0, .int .i64 0, .int .i64 0] T_api_Config fun b173 =>
                L.chk (⟨b3, 0, none⟩) [.string x10.1, .int .i64 x10.2.1, .int .i64 x10.2.2.1, .int .i64 x10.2.2.2.1, .int .i64 x10.2.2.2.2.1, .int .i64 x10.2.2.2.2.2.1] <|
                L.chk (⟨b2, 0, none⟩) [.string x9.1, .int .i64 x9.2.1, .int .i64 x9.2.2.1, .int .i64 x9.2.2.2.1, .int .i64 x9.2.2.2.2.1, .int .i64 x9.2.2.2.2.2.1] <|
                L.chk (⟨b1, 0, none⟩) [.string x8.1, .int .i64 x8.2.1, .int .i64 x8.2.2.1, .int .i64 x8.2.2.2.1, .int .i64 x8.2.2.2.2.1, .int .i64 x8.2.2.2.2.2.1] <|
                L.alts [(
                    L.call Pr n_damperlaw2_Config [.agg #[.string x9.1, .int .i64 x9.2.1, .int .i64 x9.2.2.1, .int .i64 x9.2.2.2.1, .int .i64 x9.2.2.2.2.1, .int .i64 x9.2.2.2.2.2.1], .int .i64 p3] (.one (.agg [.str, .int .i64, .int .i64, .int .i64, .int .i64, .int .i64])) fun (x174 : ByteArray × Int × Int × Int × Int × Int × Unit) =>
                    L.chk (⟨b3, 0, none⟩) [.string x10.1, .int .i64 x10.2.1, .int .i64 x10.2.2.1, .int .i64 x10.2.2.2.1, .int .i64 x10.2.2.2.2.1, .int .i64 x10.2.2.2.2.2.1] <|
                    L.alts [(
                        L.call Pr n_damperlaw2_Config [.agg #[.string x10.1, .int .i64 x10.2.1, .int .i64 x10.2.2.1, .int .i64 x10.2.2.2.1, .int .i64 x10.2.2.2.2.1, .int .i64 x10.2.2.2.2.2.1], .int .i64 p3] (.one (.agg [.str, .int .i64, .int .i64, .int .i64, .int .i64, .int .i64])) fun (x175 : ByteArray × Int × Int × Int × Int × Int × Unit) =>
                        L.new [.string s_, .int .i64 0, .int .i64 0, .int .i64 0, .int .i64 0, .int .i64 0] T_api_Config fun b176 =>
                        L.chk (⟨b3, 0, none⟩) [.string x10.1, .int .i64 x10.2.1, .int .i64 x10.2.2.1, .int .i64 x10.2.2.2.1, .int .i64 x10.2.2.2.2.1, .int .i64 x10.2.2.2.2.2.1] <|
                        L.chk (⟨b2, 0, none⟩) [.string x9.1, .int .i64 x9.2.1, .int .i64 x9.2.2.1, .int .i64 x9.2.2.2.1, .int .i64 x9.2.2.2.2.1, .int .i64 x9.2.2.2.2.2.1] <|
                        L.chk (⟨b1, 0, none⟩) [.string x8.1, .int .i64 x8.2.1, .int .i64 x8.2.2.1, .int .i64 x8.2.2.2.1, .int .i64 x8.2.2.2.2.1, .int .i64 x8.2.2.2.2.2.1] <|
                        L.store (⟨b176, 0, none⟩) [.string x11.1, .int .i64 x11.2.1, .int .i64 x11.2.2.1, .int .i64 x11.2.2.2.1, .int .i64 x11.2.2.2.2.1, .int .i64 x11.2.2.2.2.2.1] <|
                        L.store (⟨b173, 0, none⟩) [.string x174.1, .int .i64 x174.2.1, .int .i64 x174.2.2.1, .int .i64 x174.2.2.2.1, .int .i64 x174.2.2.2.2.1, .int .i64 x174.2.2.2.2.2.1] <|
                        L.store (⟨b147, 0, none⟩) [.string x175.1, .int .i64 x175.2.1, .int .i64 x175.2.2.1, .int .i64 x175.2.2.2.1, .int .i64 x175.2.2.2.2.1, .int .i64 x175.2.2.2.2.2.1] <|
                        k6 (⟨b176, 0, none⟩, ⟨b173, 0, none⟩, ⟨b147, 0, none⟩, ())),(
                        L.new [.string s_, .int .i64 0, .int .i64 0, .int .i64 0, .int .i64 0, .int .i64 0] T_api_Config fun b177 =>
                        L.chk (⟨b3, 0, none⟩) [.string x10.1, .int .i64 x10.2.1, .int .i64 x10.2.2.1, .int .i64 x10.2.2.2.1, .int .i64 x10.2.2.2.2.1, .int .i64 x10.2.2.2.2.2.1] <|
                        L.chk (⟨b2, 0, none⟩) [.string x9.1, .int .i64 x9.2.1, .int .i64 x9.2.2.1, .int .i64 x9.2.2.2.1, .int .i64 x9.2.2.2.2.1, .int .i64 x9.2.2.2.2.2.1] <|
                        L.chk (⟨b1, 0, none⟩) [.string x8.1, .int .i64 x8.2.1, .int .i64 x8.2.2.1, .int .i64 x8.2.2.2.1, .int .i64 x8.2.2.2.2.1, .int .i64 x8.2.2.2.2.2.1] <|
                        L.call Pr n_damperlaw2_Config [.agg #[.string x10.1, .int .i64 x10.2.1, .int .i64 x10.2.2.1, .int .i64 x10.2.2.2.1, .int .i64 x10.2.2.2.2.1, .int .i64 x10.2.2.2.2.2.1], .int .i64 p3] (.one (.agg [.str, .int .i64, .int .i64, .int .i64, .int .i64, .int .i64])) fun (x178 : ByteArray × Int × Int × Int × Int × Int × Unit) =>
                        L.store (⟨b177, 0, none⟩) [.string x11.1, .int .i64 x11.2.1, .int .i64 x11.2.2.1, .int .i64 x11.2.2.2.1, .int .i64 x11.2.2.2.2.1, .int .i64 x11.2.2.2.2.2.1] <|
                        L.store (⟨b173, 0, none⟩) [.string x174.1, .int .i64 x174.2.1, .int .i64 x174.2.2.1, .int .i64 x174.2.2.2.1, .int .i64 x174.2.2.2.2.1, .int .i64 x174.2.2.2.2.2.1] <|
                        L.store (⟨b147, 0, none⟩) [.string x178.1, .int .i64 x178.2.1, .int .i64 x178.2.2.1, .int .i64 x178.2.2.2.1, .int .i64 x178.2.2.2.2.1, .int .i64 x178.2.2.2.2.2.1] <|
                        k6 (⟨b177, 0, none⟩, ⟨b173, 0, none⟩, ⟨b147, 0, none⟩, ()))]),(
                    L.new [.string s_, .int .i64 0, .int .i64 0, .int .i64 0, .int .i64 0, .int .i64 0] T_api_Config fun b179 =>
                    L.chk (⟨b3, 0, none⟩) [.string x10.1, .int .i64 x10.2.1, .int .i64 x10.2.2.1, .int .i64 x10.2.2.2.1, .int .i64 x10.2.2.2.2.1, .int .i64 x10.2.2.2.2.2.1] <|
                    L.chk (⟨b2, 0, none⟩) [.string x9.1, .int .i64 x9.2.1, .int .i64 x9.2.2.1, .int .i64 x9.2.2.2.1, .int .i64 x9.2.2.2.2.1, .int .i64 x9.2.2.2.2.2.1] <|
                    L.chk (⟨b1, 0, none⟩) [.string x8.1, .int .i64 x8.2.1, .int .i64 x8.2.2.1, .int .i64 x8.2.2.2.1, .int .i64 x8.2.2.2.2.1, .int .i64 x8.2.2.2.2.2.1] <|
                    L.call Pr n_damperlaw2_Config [.agg #[.string x9.1, .int .i64 x9.2.1, .int .i64 x9.2.2.1, .int .i64 x9.2.2.2.1, .int .i64 x9.2.2.2.2.1, .int .i64 x9.2.2.2.2.2.1], .int .i64 p3] (.one (.agg [.str, .int .i64, .int .i64, .int .i64, .int .i64, .int .i64])) fun (x180 : ByteArray × Int × Int × Int × Int × Int × Unit) =>
                    L.chk (⟨b3, 0, none⟩) [.string x10.1, .int .i64 x10.2.1, .int .i64 x10.2.2.1, .int .i64 x10.2.2.2.1, .int .i64 x10.2.2.2.2.1, .int .i64 x10.2.2.2.2.2.1] <|
                    L.call Pr n_damperlaw2_Config [.agg #[.string x10.1, .int .i64 x10.2.1, .int .i64 x10.2.2.1, .int .i64 x10.2.2.2.1, .int .i64 x10.2.2.2.2.1, .int .i64 x10.2.2.2.2.2.1], .int .i64 p3] (.one (.agg [.str, .int .i64, .int .i64, .int .i64, .int .i64, .int .i64])) fun (x181 : ByteArray × Int × Int × Int × Int × Int × Unit) =>
                    L.store (⟨b179, 0, none⟩) [.string x11.1, .int .i64 x11.2.1, .int .i64 x11.2.2.1, .int .i64 x11.2.2.2.1, .int .i64 x11.2.2.2.2.1, .int .i64 x11.2.2.2.2.2.1] <|
                    L.store (⟨b173, 0, none⟩) [.string x180.1, .int .i64 x180.2.1, .int .i64 x180.2.2.1, .int .i64 x180.2.2.2.1, .int .i64 x180.2.2.2.2.1, .int .i64 x180.2.2.2.2.2.1] <|
                    L.store (⟨b147, 0, none⟩) [.string x181.1, .int .i64 x181.2.1, .int .i64 x181.2.2.1, .int .i64 x181.2.2.2.1, .int .i64 x181.2.2.2.2.1, .int .i64 x181.2.2.2.2.2.1] <|
                    k6 (⟨b179, 0, none⟩, ⟨b173, 0, none⟩, ⟨b147, 0, none⟩, ()))])])]),(
        L.new [.string s_, .int .i64 0, .int .i64 0, .int .i64 0, .int .i64 0, .int .i64 0] T_api_Config fun b182 =>
        L.chk (⟨b3, 0, none⟩) [.string x10.1, .int .i64 x10.2.1, .int .i64 x10.2.2.1, .int .i64 x10.2.2.2.1, .int .i64 x10.2.2.2.2.1, .int .i64 x10.2.2.2.2.2.1] <|
        L.chk (⟨b2, 0, none⟩) [.string x9.1, .int .i64 x9.2.1, .int .i64 x9.2.2.1, .int .i64 x9.2.2.2.1, .int .i64 x9.2.2.2.2.1, .int .i64 x9.2.2.2.2.2.1] <|
        L.chk (⟨b1, 0, none⟩) [.string x8.1, .int .i64 x8.2.1, .int .i64 x8.2.2.1, .int .i64 x8.2.2.2.1, .int .i64 x8.2.2.2.2.1, .int .i64 x8.2.2.2.2.2.1] <|
        L.alts [(
            L.call Pr n_damperlaw2_Config [.agg #[.string x8.1, .int .i64 x8.2.1, .int .i64 x8.2.2.1, .int .i64 x8.2.2.2.1, .int .i64 x8.2.2.2.2.1, .int .i64 x8.2.2.2.2.2.1], .int .i64 p3] (.one (.agg [.str, .int .i64, .int .i64, .int .i64, .int .i64, .int .i64])) fun (x183 : ByteArray × Int × Int × Int × Int × Int × Unit) =>
            L.chk (⟨b3, 0, none⟩) [.string x10.1, .int .i64 x10.2.1, .int .i64 x10.2.2.1, .int .i64 x10.2.2.2.1, .int .i64 x10.2.2.2.2.1, .int .i64 x10.2.2.2.2.2.1] <|
            L.chk (⟨b2, 0, none⟩) [.string x9.1, .int .i64 x9.2.1, .int .i64 x9.2.2.1, .int .i64 x9.2.2.2.1, .int .i64 x9.2.2.2.2.1, .int .i64 x9.2.2.2.2.2.1] <|
            L.alts [(
                L.call Pr n_damperlaw2_Config [.agg #[.string x9.1, .int .i64 x9.2.1, .int .i64 x9.2.2.1, .int .i64 x9.2.2.2.1, .int .i64 x9.2.2.2.2.1, .int .i64 x9.2.2.2.2.2.1], .int .i64 p3] (.one (.agg [.str, .int .i64, .int .i64, .int .i64, .int .i64, .int .i64])) fun (x184 : ByteArray × Int × Int × Int × Int × Int × Unit) =>
                L.chk (⟨b3, 0, none⟩) [.string x10.1, .int .i64 x10.2.1, .int .i64 x10.2.2.1, .int .i64 x10.2.2.2.1, .int .i64 x10.2.2.2.2.1, .int .i64 x10.2.2.2.2.2.1] <|
                L.alts [(
                    L.call Pr n_damperlaw2_Config [.agg #[.string x10.1, .int .i64 x10.2.1, .int .i64 x10.2.2.1, .int .i64 x10.2.2.2.1, .int .i64 x10.2.2.2.2.1, .int .i64 x10.2.2.2.2.2.1], .int .i64 p3] (.one (.agg [.str, .int .i64, .int .i64, .int .i64, .int .i64, .int .i64])) fun (x185 : ByteArray × Int × Int × Int × Int × Int × Unit) =>
                    L.alts [(
                        L.new [.string s_, .int .i64 0, .int .i64 0, .int .i64 0, .int .i64 0, .int .i64 0] T_api_Config fun b186 =>
                        L.chk (⟨b3, 0, none⟩) [.string x10.1, .int .i64 x10.2.1, .int .i64 x10.2.2.1, .int .i64 x10.2.2.2.1, .int .i64 x10.2.2.2.2.1, .int .i64 x10.2.2.2.2.2.1] <|
                        L.chk (⟨b2, 0, none⟩) [.string x9.1, .int .i64 x9.2.1, .int .i64 x9.2.2.1, .int .i64 x9.2.2.2.1, .int .i64 x9.2.2.2.2.1, .int .i64 x9.2.2.2.2.2.1] <|
                        L.chk (⟨b1, 0, none⟩) [.string x8.1, .int .i64 x8.2.1, .int .i64 x8.2.2.1, .int .i64 x8.2.2.2.1, .int .i64 x8.2.2.2.2.1, .int .i64 x8.2.2.2.2.2.1] <|
                        L.new [.string s_, .int .i64 0, .int .i64 0, .int .i64 0, .int .i64 0, .int .i64 0] T_api_Config fun b187 =>
                        L.chk (⟨b3, 0, none⟩) [.string x10.1, .int .i64 x10.2.1, .int .i64 x10.2.2.1, .int .i64 x10.2.2.2.1, .int .i64 x10.2.2.2.2.1, .int .i64 x10.2.2.2.2.2.1] <|
                        L.chk (⟨b2, 0, none⟩) [.string x9.1, .int .i64 x9.2.1, .int .i64 x9.2.2.1, .int .i64 x9.2.2.2.1, .int .i64 x9.2.2.2.2.1, .int .i64 x9.2.2.2.2.2.1] <|
                        L.chk (⟨b1, 0, none⟩) [.string x8.1, .int .i64 x8.2.1, .int .i64 x8.2.2.1, .int .i64 x8.2.2.2.1, .int .i64 x8.2.2.2.2.1, .int .i64 x8.2.2.2.2.2.1] <|
                        L.store (⟨b182, 0, none⟩) [.string x183.1, .int .i64 x183.2.1, .int .i64 x183.2.2.1, .int .i64 x183.2.2.2.1, .int .i64 x183.2.2.2.2.1, .int .i64 x183.2.2.2.2.2.1] <|
                        L.store (⟨b186, 0, none⟩) [.string x184.1, .int .i64 x184.2.1, .int .i64 x184.2.2.1, .int .i64 x184.2.2.2.1, .int .i64 x184.2.2.2.2.1, .int .i64 x184.2.2.2.2.2.1] <|
                        L.store (⟨b187, 0, none⟩) [.string x185.1, .int .i64 x185.2.1, .int .i64 x185.2.2.1, .int .i64 x185.2.2.2.1, .int .i64 x185.2.2.2.2.1, .int .i64 x185.2.2.2.2.2.1] <|
                        k6 (⟨b182, 0, none⟩, ⟨b186, 0, none⟩, ⟨b187, 0, none⟩, ())),(
                        L.new [.string s_, .int .i64 0, .int .i64 0, .int .i64 0, .int .i64 0, .int .i64 0] T_api_Config fun b188 =>
                        L.chk (⟨b3, 0, none⟩) [.string x10.1, .int .i64 x10.2.1, .int .i64 x10.2.2.1, .int .i64 x10.2.2.2.1, .int .i64 x10.2.2.2.2.1, .int .i64 x10.2.2.2.2.2.1] <|
                        L.chk (⟨b2, 0, none⟩) [.string x9.1, .int .i64 x9.2.1, .int .i64 x9.2.2.1, .int .i64 x9.2.2.2.1, .int .i64 x9.2.2.2.2.1, .int .i64 x9.2.2.2.2.2.1] <|
                        L.chk (⟨b1, 0, none⟩) [.string x8.1, .int .i64 x8.2.1, .int .i64 x8.2.2.1, .int .i64 x8.2.2.2.1, .int .i64 x8.2.2.2.2.1, .int .i64 x8.2.2.2.2.2.1] <|
                        L.new [.string s_, .int .i64 0, .int .i64 0, .int .i64 0, .int .i64 0, .int .i64 0] T_api_Config fun b189 =>
                        L.chk (⟨b3, 0, none⟩) [.string x10.1, .int .i64 x10.2.1, .int .i64 x10.2.2.1, .int .i64 x10.2.2.2.1, .int .i64 x10.2.2.2.2.1, .int .i64 x10.2.2.2.2.2.1] <|
                        L.chk (⟨b2, 0, none⟩) [.string x9.1, .int .i64 x9.2.1, .int .i64 x9.2.2.1, .int .i64 x9.2.2.2.1, .int .i64 x9.2.2.2.2.1, .int .i64 x9.2.2.2.2.2.1] <|
                        L.chk (⟨b1, 0, none⟩) [.string x8.1, .int .i64 x8.2.1, .int .i64 x8.2.2.1, .int .i64 x8.2.2.2.1, .int .i64 x8.2.2.2.2.1, .int .i64 x8.2.2.2.2.2.1] <|
                        L.store (⟨b182, 0, none⟩) [.string x183.1, .int .i64 x183.2.1, .int .i64 x183.2.2.1, .int .i64 x183.2.2.2.1, .int .i64 x183.2.2.2.2.1, .int .i64 x183.2.2.2.2.2.1] <|
                        L.store (⟨b189, 0, none⟩) [.string x184.1, .int .i64 x184.2.1, .int .i64 x184.2.2.1, .int .i64 x184.2.2.2.1, .int .i64 x184.2.2.2.2.1, .int .i64 x184.2.2.2.2.2.1] <|
                        L.store (⟨b188, 0, none⟩) [.string x185.1, .int .i64 x185.2.1, .int .i64 x185.2.2.1, .int .i64 x185.2.2.2.1, .int .i64 x185.2.2.2.2.1, .int .i64 x185.2.2.2.2.2.1] <|
                        k6 (⟨b182, 0, none⟩, ⟨b189, 0, none⟩, ⟨b188, 0, none⟩, ()))]),(
                    L.new [.string s_, .int .i64 0, .int .i64 0, .int .i64 0, .int .i64 0, .int .i64 0] T_api_Config fun b190 =>
                    L.chk (⟨b3, 0, none⟩) [.string x10.1, .int .i64 x10.2.1, .int .i64 x10.2.2.1, .int .i64 x10.2.2.2.1, .int .i64 x10.2.2.2.2.1, .int .i64 x10.2.2.2.2.2.1] <|
                    L.chk (⟨b2, 0, none⟩) [.string x9.1, .int .i64 x9.2.1, .int .i64 x9.2.2.1, .int .i64 x9.2.2.2.1, .int .i64 x9.2.2.2.2.1, .int .i64 x9.2.2.2.2.2.1] <|
                    L.chk (⟨b1, 0, none⟩) [.string x8.1, .int .i64 x8.2.1, .int .i64 x8.2.2.1, .int .i64 x8.2.2.2.1, .int .i64 x8.2.2.2.2.1, .int .i64 x8.2.2.2.2.2.1] <|
                    L.alts [(
                        L.call Pr n_damperlaw2_Config [.agg #[.string x10.1, .int .i64 x10.2.1, .int .i64 x10.2.2.1, .int .i64 x10.2.2.2.1, .int .i64 x10.2.2.2.2.1, .int .i64 x10.2.2.2.2.2.1], .int .i64 p3] (.one (.agg [.str, .int .i64, .int .i64, .int .i64, .int .i64, .int .i64])) fun (x191 : ByteArray × Int × Int × Int × Int × Int × Unit) =>
                        L.new [.string s_, .int .i64 0, .int .i64 0, .int .i64 0, .int .i64 0, .int .i64 0] T_api_Config fun b192 =>
                        L.chk (⟨b3, 0, none⟩) [.string x10.1, .int .i64 x10.2.1, .int .i64 x10.2.2.1, .int .i64 x10.2.2.2.1, .int .i64 x10.2.2.2.2.1, .int .i64 x10.2.2.2.2.2.1] <|
                        L.chk (⟨b2, 0, none⟩) [.string x9.1, .int .i64 x9.2.1, .int .i64 x9.2.2.1, .int .i64 x9.2.2.2.1, .int .i64 x9.2.2.2.2.1, .int .i64 x9.2.2.2.2.2.1] <|
                        L.chk (⟨b1, 0, none⟩) [.string x8.1, .int .i64 x8.2.1, .int .i64 x8.2.2.1, .int .i64 x8.2.2.2.1, .int .i64 x8.2.2.2.2.1, .int .i64 x8.2.2.2.2.2.1] <|
                        L.store (⟨b182, 0, none⟩) [.string x183.1, .int .i64 x183.2.1, .int .i64 x183.2.2.1, .int .i64 x183.2.2.2.1, .int .i64 x183.2.2.2.2.1, .int .i64 x183.2.2.2.2.2.1] <|
                        L.store (⟨b190, 0, none⟩) [.string x184.1, .int .i64 x184.2.1, .int .i64 x184.2.2.1, .int .i64 x184.2.2.2.1, .int .i64 x184.2.2.2.2.1, .int .i64 x184.2.2.2.2.2.1] <|
                        L.store (⟨b192, 0, none⟩) [.string x191.1, .int .i64 x191.2.1, .int .i64 x191.2.2.1, .int .i64 x191.2.2.2.1, .int .i64 x191.2.2.2.2.1, .int .i64 x191.2.2.2.2.2.1] <|
                        k6 (⟨b182, 0, none⟩, ⟨b190, 0, none⟩, ⟨b192, 0, none⟩, ())),(
                        L.new [.string s_, .int .i64 0, .int .i64 0, .int .i64 0, .int .i64 0, .int .i64 0] T_api_Config fun b193 =>
                        L.chk (⟨b3, 0, none⟩) [.string x10.1, .int .i64 x10.2.1, .int .i64 x10.2.2.1, .int .i64 x10.2.2.2.1, .int .i64 x10.2.2.2.2.1, .int .i64 x10.2.2.2.2.2.1] <|
                        L.chk (⟨b2, 0, none⟩) [.string x9.1, .int .i64 x9.2.1, .int .i64 x9.2.2.1, .int .i64 x9.2.2.2.1, .int .i64 x9.2.2.2.2.1, .int .i64 x9.2.2.2.2.2.1] <|
                        L.chk (⟨b1, 0, none⟩) [.string x8.1, .int .i64 x8.2.1, .int .i64 x8.2.2.1, .int .i64 x8.2.2.2.1, .int .i64 x8.2.2.2.2.1, .int .i64 x8.2.2.2.2.2.1] <|
                        L.call Pr n_damperlaw2_Config [.agg #[.string x10.1, .int .i64 x10.2.1, .int .i64 x10.2.2.1, .int .i64 x10.2.2.2.1, .int .i64 x10.2.2.2.2.1, .int .i64 x10.2.2.2.2.2.1], .int .i64 p3] (.one (.agg [.str, .int .i64, .int .i64, .int .i64, .int .i64, .int .i64])) fun (x194 : ByteArray × Int × Int × Int × Int × Int × Unit) =>
                        L.store (⟨b182, 0, none⟩) [.string x183.1, .int .i64 x183.2.1, .int .i64 x183.2.2.1, .int .i64 x183.2.2.2.1, .int .i64 x183.2.2.2.2.1, .int .i64 x183.2.2.2.2.2.1] <|
                        L.store (⟨b190, 0, none⟩) [.string x184.1, .int .i64 x184.2.1, .int .i64 x184.2.2.1, .int .i64 x184.2.2.2.1, .int .i64 x184.2.2.2.2.1, .int .i64 x184.2.2.2.2.2.1] <|
                        L.store (⟨b193, 0, none⟩) [.string x194.1, .int .i64 x194.2.1, .int .i64 x194.2.2.1, .int .i64 x194.2.2.2.1, .int .i64 x194.2.2.2.2.1, .int .i64 x194.2.2.2.2.2.1] <|
                        k6 (⟨b182, 0, none⟩, ⟨b190, 0, none⟩, ⟨b193, 0, none⟩, ()))]),(
                    L.new [.string s_, .int .i64 0, .int .i64 0, .int .i64 0, .int .i64 0, .int .i64 0] T_api_Config fun b195 =>
                    L.chk (⟨b3, 0, none⟩) [.string x10.1, .int .i64 x10.2.1, .int .i64 x10.2.2.1, .int .i64 x10.2.2.2.1, .int .i64 x10.2.2.2.2.1, .int .i64 x10.2.2.2.2.2.1] <|
                    L.chk (⟨b2, 0, none⟩) [.string x9.1, .int .i64 x9.2.1, .int .i64 x9.2.2.1, .int .i64 x9.2.2.2.1, .int .i64 x9.2.2.2.2.1, .int .i64 x9.2.2.2.2.2.1] <|
                    L.chk (⟨b1, 0, none⟩) [.string x8.1, .int .i64 x8.2.1, .int .i64 x8.2.2.1, .int .i64 x8.2.2.2.1, .int .i64 x8.2.2.2.2.1, .int .i64 x8.2.2.2.2.2.1] <|
                    L.alts [(
                        L.call Pr n_damperlaw2_Config [.agg #[.string x10.1, .int .i64 x10.2.1, .int .i64 x10.2.2.1, .int .i64 x10.2.2.2.1, .int .i64 x10.2.2.2.2.1, .int .i64 x10.2.2.2.2.2.1], .int .i64 p3] (.one (.agg [.str, .int .i64, .int .i64, .int .i64, .int .i64, .int .i64])) fun (x196 : ByteArray × Int × Int × Int × Int × Int × Unit) =>
                        L.new [.string s_, .int .i64 0, .int .i64 0, .int .i64 0, .int .i64 0, .int .i64 0] T_api_Config fun b197 =>
                        L.chk (⟨b3, 0, none⟩) [.string x10.1, .int .i64 x10.2.1, .int .i64 x10.2.2.1, .int .i64 x10.2.2.2.1, .int .i64 x10.2.2.2.2.1, .int .i64 x10.2.2.2.2.2.1] <|
                        L.chk (⟨b2, 0, none⟩) [.string x9.1, .int .i64 x9.2.1, .int .i64 x9.2.2.1, .int .i64 x9.2.2.2.1, .int .i64 x9.2.2.2.2.1, .int .i64 x9.2.2.2.2.2.1] <|
                        L.chk (⟨b1, 0, none⟩) [.string x8.1, .int .i64 x8.2.1, .int .i64 x8.2.2.1, .int .i64 x8.2.2.2.1, .int .i64 x8.2.2.2.2.1, .int .i64 x8.2.2.2.2.2.1] <|
                        L.store (⟨b182, 0, none⟩) [.string x183.1, .int .i64 x183.2.1, .int .i64 x183.2.2.1, .int .i64 x183.2.2.2.1, .int .i64 x183.2.2.2.2.1, .int .i64 x183.2.2.2.2.2.1] <|
                        L.store (⟨b197, 0, none⟩) [.string x184.1, .int .i64 x184.2.1, .int .i64 x184.2.2.1, .int .i64 x184.2.2.2.1, .int .i64 x184.2.2.2.2.1, .int .i64 x184.2.2.2.2.2.1] <|
                        L.store (⟨b195, 0, none⟩) [.string x196.1, .int .i64 x196.2.1, .int .i64 x196.2.2.1, .int .i64 x196.2.2.2.1, .int .i64 x196.2.2.2.2.1, .int .i64 x196.2.2.2.2.2.1] <|
                        k6 (⟨b182, 0, none⟩, ⟨b197, 0, none⟩, ⟨b195, 0, none⟩, ())),(
                        L.new [.string s_, .int .i64 0, .int .i64 0, .int .i64 0, .int .i64 0, .int .i64 0] T_api_Config fun b198 =>
                        L.chk (⟨b3, 0, none⟩) [.string x10.1, .int .i64 x10.2.1, .int .i64 x10.2.2.1, .int .i64 x10.2.2.2.1, .int .i64 x10.2.2.2.2.1, .int .i64 x10.2.2.2.2.2.1] <|
                        L.chk (⟨b2, 0, none⟩) [.string x9.1, .int .i64 x9.2.1, .int .i64 x9.2.2.1, .int .i64 x9.2.2.2.1, .int .i64 x9.2.2.2.2.1, .int .i64 x9.2.2.2.2.2.1] <|
                        L.chk (⟨b1, 0, none⟩) [.string x8.1, .int .i64 x8.2.1, .int .i64 x8.2.2.1, .int .i64 x8.2.2.2.1, .int .i64 x8.2.2.2.2.1, .int .i64 x8.2.2.2.2.2.1] <|
                        L.call Pr n_damperlaw2_Config [.agg #[.string x10.1, .int .i64 x10.2.1, .int .i64 x10.2.2.1, .int .i64 x10.2.2.2.1, .int .i64 x10.2.2.2.2.1, .int .i64 x10.2.2.2.2.2.1], .int .i64 p3] (.one (.agg [.str, .int .i64, .int .i64, .int .i64, .int .i64, .int .i64])) fun (x199 : ByteArray × Int × Int × Int × Int × Int × Unit) =>
                        L.store (⟨b182, 0, none⟩) [.string x183.1, .int .i64 x183.2.1, .int .i64 x183.2.2.1, .int .i64 x183.2.2.2.1, .int .i64 x183.2.2.2.2.1, .int .i64 x183.2.2.2.2.2.1] <|
                        L.store (⟨b198, 0, none⟩) [.string x184.1, .int .i64 x184.2.1, .int .i64 x184.2.2.1, .int .i64 x184.2.2.2.1, .int .i64 x184.2.2.2.2.1, .int .i64 x184.2.2.2.2.2.1] <|
                        L.store (⟨b195, 0, none⟩) [.string x199.1, .int .i64 x199.2.1, .int .i64 x199.2.2.1, .int .i64 x199.2.2.2.1, .int .i64 x199.2.2.2.2.1, .int .i64 x199.2.2.2.2.2.1] <|
                        k6 (⟨b182, 0, none⟩, ⟨b198, 0, none⟩, ⟨b195, 0, none⟩, ()))])]),(
                L.new [.string s_, .int .i64 0, .int .i64 0, .int .i64 0, .int .i64 0, .int .i64 0] T_api_Config fun b200 =>
                L.chk (⟨b3, 0, none⟩) [.string x10.1, .int .i64 x10.2.1, .int .i64 x10.2.2.1, .int .i64 x10.2.2.2.1, .int .i64 x10.2.2.2.2.1, .int .i64 x10.2.2.2.2.2.1] <|
                L.chk (⟨b2, 0, none⟩) [.string x9.1, .int .i64 x9.2.1, .int .i64 x9.2.2.1, .int .i64 x9.2.2.2.1, .int .i64 x9.2.2.2.2.1, .int .i64 x9.2.2.2.2.2.1] <|
                L.chk (⟨b1, 0, none⟩) [.string x8.1, .int .i64 x8.2.1, .int .i64 x8.2.2.1, .int .i64 x8.2.2.2.1, .int .i64 x8.2.2.2.2.1, .int .i64 x8.2.2.2.2.2.1] <|
                L.alts [(
                    L.call Pr n_damperlaw2_Config [.agg #[.string x9.1, .int .i64 x9.2.1, .int .i64 x9.2.2.1, .int .i64 x9.2.2.2.1, .int .i64 x9.2.2.2.2.1, .int .i64 x9.2.2.2.2.2.1], .int .i64 p3] (.one (.agg [.str, .int .i64, .int .i64, .int .i64, .int .i64, .int .i64])) fun (x201 : ByteArray × Int × Int × Int × Int × Int × Unit) =>
                    L.chk (⟨b3, 0, none⟩) [.string x10.1, .int .i64 x10.2.1, .int .i64 x10.2.2.1, .int .i64 x10.2.2.2.1, .int .i64 x10.2.2.2.2.1, .int .i64 x10.2.2.2.2.2.1] <|
                    L.alts [(
                        L.call Pr n_damperlaw2_Config [.agg #[.string x10.1, .int .i64 x10.2.1, .int .i64 x10.2.2.1, .int .i64 x10.2.2.2.1, .int .i64 x10.2.2.2.2.1, .int .i64 x10.2.2.2.2.2.1], .int .i64 p3] (.one (.agg [.str, .int .i64, .int .i64, .int .i64, .int .i64, .int .i64])) fun (x202 : ByteArray × Int × Int × Int × Int × Int × Unit) =>
                        L.new [.string s_, .int .i64 0, .int .i64 0, .int .i64 0, .int .i64 0, .int .i64 0] T_api_Config fun b203 =>
                        L.chk (⟨b3, 0, none⟩) [.string x10.1, .int .i64 x10.2.1, .int .i64 x10.2.2.1, .int .i64 x10.2.2.2.1, .int .i64 x10.2.2.2.2.1, .int .i64 x10.2.2.2.2.2.1] <|
                        L.chk (⟨b2, 0, none⟩) [.string x9.1, .int .i64 x9.2.1, .int .i64 x9.2.2.1, .int .i64 x9.2.2.2.1, .int .i64 x9.2.2.2.2.1, .int .i64 x9.2.2.2.2.2.1] <|
                        L.chk (⟨b1, 0, none⟩) [.string x8.1, .int .i64 x8.2.1, .int .i64 x8.2.2.1, .int .i64 x8.2.2.2.1, .int .i64 x8.2.2.2.2.1, .int .i64 x8.2.2.2.2.2.1] <|
                        L.store (⟨b182, 0, none⟩) [.string x183.1, .int .i64 x183.2.1, .int .i64 x183.2.2.1, .int .i64 x183.2.2.2.1, .int .i64 x183.2.2.2.2.1, .int .i64 x183.2.2.2.2.2.1] <|
                        L.store (⟨b200, 0, none⟩) [.string x201.1, .int .i64 x201.2.1, .int .i64 x201.2.2.1, .int .i64 x201.2.2.2.1, .int .i64 x201.2.2.2.2.1, .int .i64 x201.2.2.2.2.2.1] <|
                        L.store (⟨b203, 0, none⟩) [.string x202.1, .int .i64 x202.2.1, .int .i64 x202.2.2.1, .int .i64 x202.2.2.2.1, .int .i64 x202.2.2.2.2.1, .int .i64 x202.2.2.2.2.2.1] <|
                        k6 (⟨b182, 0, none⟩, ⟨b200, 0, none⟩, ⟨b203, 0, none⟩, ())),(
                        L.new [.string s_, .int .i64 0, .int .i64 0, .int .i64 0, .int .i64 0, .int .i64 0] T_api_Config fun b204 =>
                        L.chk (⟨b3, 0, none⟩) [.string x10.1, .int .i64 x10.2.1, .int .i64 x10.2.2.1, .int .i64 x10.2.2.2.1, .int .i64 x10.2.2.2.2.1, .int .i64 x10.2.2.2.2.2.1] <|
                        L.chk (⟨b2, 0, none⟩) [.string x9.1, .int .i64 x9.2.1, .int .i64 x9.2.2.1, .int .i64 x9.2.2.2.1, .int .i64 x9.2.2.2.2.1, .int .i64 x9.2.2.2.2.2.1] <|
                        L.chk (⟨b1, 0, none⟩) [.string x8.1, .int .i64 x8.2.1, .int .i64 x8.2.2.1, .int .i64 x8.2.2.2.1, .int .i64 x8.2.2.2.2.1, .int .i64 x8.2.2.2.2.2.1] <|
                        L.call Pr n_damperlaw2_Config [.agg #[.string x10.1, .int .i64 x10.2.1, .int .i64 x10.2.2.1, .int .i64 x10.2.2.2.1, .int .i64 x10.2.2.2.2.1, .int .i64 x10.2.2.2.2.2.1], .int .i64 p3] (.one (.agg [.str, .int .i64, .int .i64, .int .i64, .int .i64, .int .i64])) fun (x205 : ByteArray × Int × Int × Int × Int × Int × Unit) =>
                        L.store (⟨b182, 0, none⟩) [.string x183.1, .int .i64 x183.2.1, .int .i64 x183.2.2.1, .int .i64 x183.2.2.2.1, .int .i64 x183.2.2.2.2.1, .int .i64 x183.2.2.2.2.2.1] <|
                        L.store (⟨b200, 0, none⟩) [.string x201.1, .int .i64 x201.2.1, .int .i64 x201.2.2.1, .int .i64 x201.2.2.2.1, .int .i64 x201.2.2.2.2.1, .int .i64 x201.2.2.2.2.2.1] <|
                        L.store (⟨b204, 0, none⟩) [.string x205.1, .int .i64 x205.2.1, .int .i64 x205.2.2.1, .int .i64 x205.2.2.2.1, .int .i64 x205.2.2.2.2.1, .int .i64 x205.2.2.2.2.2.1] <|
                        k6 (⟨b182, 0, none⟩, ⟨b200, 0, none⟩, ⟨b204, 0, none⟩, ()))]),(
                    L.new [.string s_, .int .i64 0, .int .i64 0, .int .i64 0, .int .i64 0, .int .i64 0] T_api_Config fun b206 =>
                    L.chk (⟨b3, 0, none⟩) [.string x10.1, .int .i64 x10.2.1, .int .i64 x10.2.2.1, .int .i64 x10.2.2.2.1, .int .i64 x10.2.2.2.2.1, .int .i64 x10.2.2.2.2.2.1] <|
                    L.chk (⟨b2, 0, none⟩) [.string x9.1, .int .i64 x9.2.1, .int .i64 x9.2.2.1, .int .i64 x9.2.2.2.1, .int .i64 x9.2.2.2.2.1, .int .i64 x9.2.2.2.2.2.1] <|
                    L.chk (⟨b1, 0, none⟩) [.string x8.1, .int .i64 x8.2.1, .int .i64 x8.2.2.1, .int .i64 x8.2.2.2.1, .int .i64 x8.2.2.2.2.1, .int .i64 x8.2.2.2.2.2.1] <|
                    L.call Pr n_damperlaw2_Config [.agg #[.string x9.1, .int .i64 x9.2.1, .int .i64 x9.2.2.1, .int .i64 x9.2.2.2.1, .int .i64 x9.2.2.2.2.1, .int .i64 x9.2.2.2.2.2.1], .int .i64 p3] (.one (.agg [.str, .int .i64, .int .i64, .int .i64, .int .i64, .int .i64])) fun (x207 : ByteArray × Int × Int × Int × Int × Int × Unit) =>
                    L.chk (⟨b3, 0, none⟩) [.string x10.1, .int .i64 x10.2.1, .int .i64 x10.2.2.1, .int .i64 x10.2.2.2.1, .int .i64 x10.2.2.2.2.1, .int .i64 x10.2.2.2.2.2.1] <|
                    L.call Pr n_damperlaw2_Config [.agg #[.string x10.1, .int .i64 x10.2.1, .int .i64 x10.2.2.1, .int .i64 x10.2.2.2.1, .int .i64 x10.2.2.2.2.1, .int .i64 x10.2.2.2.2.2.1], .int .i64 p3] (.one (.agg [.str, .int .i64, .int .i64, .int .i64, .int .i64, .int .i64])) fun (x208 : ByteArray × Int × Int × Int × Int × Int × Unit) =>
                    L.store (⟨b182, 0, none⟩) [.string x183.1, .int .i64 x183.2.1, .int .i64 x183.2.2.1, .int .i64 x183.2.2.2.1, .int .i64 x183.2.2.2.2.1, .int .i64 x183.2.2.2.2.2.1] <|
                    L.store (⟨b200, 0, none⟩) [.string x207.1, .int .i64 x207.2.1, .int .i64 x207.2.2.1, .int .i64 x207.2.2.2.1, .int .i64 x207.2.2.2.2.1, .int .i64 x207.2.2.2.2.2.1] <|
                    L.store (⟨b206, 0, none⟩) [.string x208.1, .int .i64 x208.2.1, .int .i64 x208.2.2.1, .int .i64 x208.2.2.2.1, .int .i64 x208.2.2.2.2.1, .int .i64 x208.2.2.2.2.2.1] <|
                    k6 (⟨b182, 0, none⟩, ⟨b200, 0, none⟩, ⟨b206, 0, none⟩, ()))]),(
                L.new [.string s_, .int .i64 0, .int .i64 0, .int .i64 0, .int .i64 0, .int .i64 0] T_api_Config fun b209 =>
                L.chk (⟨b3, 0, none⟩) [.string x10.1, .int .i64 x10.2.1, .int .i64 x10.2.2.1, .int .i64 x10.2.2.2.1, .int .i64 x10.2.2.2.2.1, .int .i64 x10.2.2.2.2.2.1] <|
                L.chk (⟨b2, 0, none⟩) [.string x9.1, .int .i64 x9.2.1, .int .i64 x9.2.2.1, .int .i64 x9.2.2.2.1, .int .i64 x9.2.2.2.2.1, .int .i64 x9.2.2.2.2.2.1] <|
                L.chk (⟨b1, 0, none⟩) [.string x8.1, .int .i64 x8.2.1, .int .i64 x8.2.2.1, .int .i64 x8.2.2.2.1, .int .i64 x8.2.2.2.2.1, .int .i64 x8.2.2.2.2.2.1] <|
                L.alts [(
                    L.call Pr n_damperlaw2_Config [.agg #[.string x9.1, .int .i64 x9.2.1, .int .i64 x9.2.2.1, .int .i64 x9.2.2.2.1, .int .i64 x9.2.2.2.2.1, .int .i64 x9.2.2.2.2.2.1], .int .i64 p3] (.one (.agg [.str, .int .i64, .int .i64, .int .i64, .int .i64, .int .i64])) fun (x210 : ByteArray × Int × Int × Int × Int × Int × Unit) =>
                    L.chk (⟨b3, 0, none⟩) [.string x10.1, .int .i64 x10.2.1, .int .i64 x10.2.2.1, .int .i64 x10.2.2.2.1, .int .i64 x10.2.2.2.2.1, .int .i64 x10.2.2.2.2.2.1] <|
                    L.alts [(
                        L.call Pr n_damperlaw2_Config [.agg #[.string x10.1, .int .i64 x10.2.1, .int .i64 x10.2.2.1, .int .i64 x10.2.2.2.1, .int .i64 x10.2.2.2.2.1, .int .i64 x10.2.2.2.2.2.1], .int .i64 p3] (.one (.agg [.str, .int .i64, .int .i64, .int .i64, .int .i64, .int .i64])) fun (x211 : ByteArray × Int × Int × Int × Int × Int × Unit) =>
                        L.new [.string s_, .int .i64 0, .int .i64 0, .int .i64 0, .int .i64 0, .int .i64 0] T_api_Config fun b212 =>
                        L.chk (⟨b3, 0, none⟩) [.string x10.1, .int .i64 x10.2.1, .int .i64 x10.2.2.1, .int .i64 x10.2.2.2.1, .int .i64 x10.2.2.2.2.1, .int .i64 x10.2.2.2.2.2.1] <|
                        L.chk (⟨b2, 0, none⟩) [.string x9.1, .int .i64 x9.2.1, .int .i64 x9.2.2.1, .int .i64 x9.2.2.2.1, .int .i64 x9.2.2.2.2.1, .int .i64 x9.2.2.2.2.2.1] <|
                        L.chk (⟨b1, 0, none⟩) [.string x8.1, .int .i64 x8.2.1, .int .i64 x8.2.2.1, .int .i64 x8.2.2.2.1, .int .i64 x8.2.2.2.2.1, .int .i64 x8.2.2.2.2.2.1] <|
                        L.store (⟨b182, 0, none⟩) [.string x183.1, .int .i64 x183.2.1, .int .i64 x183.2.2.1, .int .i64 x183.2.2.2.1, .int .i64 x183.2.2.2.2.1, .int .i64 x183.2.2.2.2.2.1] <|
                        L.store (⟨b212, 0, none⟩) [.string x210.1, .int .i64 x210.2.1, .int .i64 x210.2.2.1, .int .i64 x210.2.2.2.1, .int .i64 x210.2.2.2.2.1, .int .i64 x210.2.2.2.2.2.1] <|
                        L.store (⟨b209, 0, none⟩) [.string x211.1, .int .i64 x211.2.1, .int .i64 x211.2.2.1, .int .i64 x211.2.2.2.1, .int .i64 x211.2.2.2.2.1, .int .i64 x211.2.2.2.2.2.1] <|
                        k6 (⟨b182, 0, none⟩, ⟨b212, 0, none⟩, ⟨b209, 0, none⟩, ())),(
                        L.new [.string s_, .int .i64 0, .int .i64 0, .int .i64 0, .int .i64 0, .int .i64 0] T_api_Config fun b213 =>
                        L.chk (⟨b3, 0, none⟩) [.string x10.1, .int .i64 x10.2.1, .int .i64 x10.2.2.1, .int .i64 x10.2.2.2.1, .int .i64 x10.2.2.2.2.1, .int .i64 x10.2.2.2.2.2.1] <|
                        L.chk (⟨b2, 0, none⟩) [.string x9.1, .int .i64 x9.2.1, .int .i64 x9.2.2.1, .int .i64 x9.2.2.2.1, .int .i64 x9.2.2.2.2.1, .int .i64 x9.2.2.2.2.2.1] <|
                        L.chk (⟨b1, 0, none⟩) [.string x8.1, .int .i64 x8.2.1, .int .i64 x8.2.2.1, .int .i64 x8.2.2.2.1, .int .i64 x8.2.2.2.2.1, .int .i64 x8.2.2.2.2.2.1] <|
                        L.call Pr n_damperlaw2_Config [.agg #[.string x10.1, .int .i64 x10.2.1, .int .i64 x10.2.2.1, .int .i64 x10.2.2.2.1, .int .i64 x10.2.2.2.2.1, .int .i64 x10.2.2.2.2.2.1], .int .i64 p3] (.one (.agg [.str, .int .i64, .int .i64, .int .i64, .int .i64, .int .i64])) fun (x214 : ByteArray × Int × Int × Int × Int × Int × Unit) =>
                        L.store (⟨b182, 0, none⟩) [.string x183.1, .int .i64 x183.2.1, .int .i64 x183.2.2.1, .int .i64 x183.2.2.2.1, .int .i64 x183.2.2.2.2.1, .int .i64 x183.2.2.2.2.2.1] <|
                        L.store (⟨b213, 0, none⟩) [.string x210.1, .int .i64 x210.2.1, .int .i64 x210.2.2.1, .int .i64 x210.2.2.2.1, .int .i64 x210.2.2.2.2.1, .int .i64 x210.2.2.2.2.2.1] <|
                        L.store (⟨b209, 0, none⟩) [.string x214.1, .int .i64 x214.2.1, .int .i64 x214.2.2.1, .int .i64 x214.2.2.2.1, .int .i64 x214.2.2.2.2.1, .int .i64 x214.2.2.2.2.2.1] <|
                        k6 (⟨b182, 0, none⟩, ⟨b213, 0, none⟩, ⟨b209, 0, none⟩, ()))]),(
                    L.new [.string s_, .int .i64 0, .int .i64 0, .int .i64 0, .int .i64 0, .int .i64 0] T_api_Config fun b215 =>
                    L.chk (⟨b3, 0, none⟩) [.string x10.1, .int .i64 x10.2.1, .int .i64 x10.2.2.1, .int .i64 x10.2.2.2.1, .int .i64 x10.2.2.2.2.1, .int .i64 x10.2.2.2.2.2.1] <|
                    L.chk (⟨b2, 0, none⟩) [.string x9.1, .int .i64 x9.2.1, .int .i64 x9.2.2.1, .int .i64 x9.2.2.2.1, .int .i64 x9.2.2.2.2.1, .int .i64 x9.2.2.2.2.2.1] <|
                    L.chk (⟨b1, 0, none⟩) [.string x8.1, .int .i64 x8.2.1, .int .i64 x8.2.2.1, .int .i64 x8.2.2.2.1, .int .i64 x8.2.2.2.2.1, .int .i64 x8.2.2.2.2.2.1] <|
                    L.call Pr n_damperlaw2_Config [.agg #[.string x9.1, .int .i64 x9.2.1, .int .i64 x9.2.2.1, .int .i64 x9.2.2.2.1, .int .i64 x9.2.2.2.2.1, .int .i64 x9.2.2.2.2.2.1], .int .i64 p3] (.one (.agg [.str, .int .i64, .int .i64, .int .i64, .int .i64, .int .i64])) fun (x216 : ByteArray × Int × Int × Int × Int × Int × Unit) =>
                    L.chk (⟨b3, 0, none⟩) [.string x10.1, .int .i64 x10.2.1, .int .i64 x10.2.2.1, .int .i64 x10.2.2.2.1, .int .i64 x10.2.2.2.2.1, .int .i64 x10.2.2.2.2.2.1] <|
                    L.call Pr n_damperlaw2_Config [.agg #[.string x10.1, .int .i64 x10.2.1, .int .i64 x10.2.2.1, .int .i64 x10.2.2.2.1, .int .i64 x10.2.2.2.2.1, .int .i64 x10.2.2.2.2.2.1], .int .i64 p3] (.one (.agg [.str, .int .i64, .int .i64, .int .i64, .int .i64, .int .i64])) fun (x217 : ByteArray × Int × Int × Int × Int × Int × Unit) =>
                    L.store (⟨b182, 0, none⟩) [.string x183.1, .int .i64 x183.2.1, .int .i64 x183.2.2.1, .int .i64 x183.2.2.2.1, .int .i64 x183.2.2.2.2.1, .int .i64 x183.2.2.2.2.2.1] <|
                    L.store (⟨b215, 0, none⟩) [.string x216.1, .int .i64 x216.2.1, .int .i64 x216.2.2.1, .int .i64 x216.2.2.2.1, .int .i64 x216.2.2.2.2.1, .int .i64 x216.2.2.2.2.2.1] <|
                    L.store (⟨b209, 0, none⟩) [.string x217.1, .int .i64 x217.2.1, .int .i64 x217.2.2.1, .int .i64 x217.2.2.2.1, .int .i64 x217.2.2.2.2.1, .int .i64 x217.2.2.2.2.2.1] <|
                    k6 (⟨b182, 0, none⟩, ⟨b215, 0, none⟩, ⟨b209, 0, none⟩, ()))])]),(
            L.new [.string s_, .int .i64 0, .int .i64 0, .int .i64 0, .int .i64 0, .int .i64 0] T_api_Config fun b218 =>
            L.chk (⟨b3, 0, none⟩) [.string x10.1, .int .i64 x10.2.1, .int .i64 x10.2.2.1, .int .i64 x10.2.2.2.1, .int .i64 x10.2.2.2.2.1, .int .i64 x10.2.2.2.2.2.1] <|
            L.chk (⟨b2, 0, none⟩) [.string x9.1, .int .i64 x9.2.1, .int .i64 x9.2.2.1, .int .i64 x9.2.2.2.1, .int .i64 x9.2.2.2.2.1, .int .i64 x9.2.2.2.2.2.1] <|
            L.chk (⟨b1, 0, none⟩) [.string x8.1, .int .i64 x8.2.1, .int .i64 x8.2.2.1, .int .i64 x8.2.2.2.1, .int .i64 x8.2.2.2.2.1, .int .i64 x8.2.2.2.2.2.1] <|
            L.alts [(
                L.call Pr n_damperlaw2_Config [.agg #[.string x8.1, .int .i64 x8.2.1, .int .i64 x8.2.2.1, .int .i64 x8.2.2.2.1, .int .i64 x8.2.2.2.2.1, .int .i64 x8.2.2.2.2.2.1], .int .i64 p3] (.one (.agg [.str, .int .i64, .int .i64, .int .i64, .int .i64, .int .i64])) fun (x219 : ByteArray × Int × Int × Int × Int × Int × Unit) =>
                L.chk (⟨b3, 0, none⟩) [.string x10.1, .int .i64 x10.2.1, .int .i64 x10.2.2.1, .int .i64 x10.2.2.2.1, .int .i64 x10.2.2.2.2.1, .int .i64 x10.2.2.2.2.2.1] <|
                L.chk (⟨b2, 0, none⟩) [.string x9.1, .int .i64 x9.2.1, .int .i64 x9.2.2.1, .int .i64 x9.2.2.2.1, .int .i64 x9.2.2.2.2.1, .int .i64 x9.2.2.2.2.2.1] <|
                L.alts [(
                    L.call Pr n_damperlaw2_Config [.agg #[.string x9.1, .int .i64 x9.2.1, .int .i64 x9.2.2.1, .int .i64 x9.2.2.2.1, .int .i64 x9.2.2.2.2.1, .int .i64 x9.2.2.2.2.2.1], .int .i64 p3] (.one (.agg [.str, .int .i64, .int .i64, .int .i64, .int .i64, .int .i64])) fun (x220 : ByteArray × Int × Int × Int × Int × Int × Unit) =>
                    L.chk (⟨b3, 0, none⟩) [.string x10.1, .int .i64 x10.2.1, .int .i64 x10.2.2.1, .int .i64 x10.2.2.2.1, .int .i64 x10.2.2.2.2.1, .int .i64 x10.2.2.2.2.2.1] <|
                    L.alts [(
                        L.call Pr n_damperlaw2_Config [.agg #[.string x10.1, .int .i64 x10.2.1, .int .i64 x10.2.2.1, .int .i64 x10.2.2.2.1, .int .i64 x10.2.2.2.2.1, .int .i64 x10.2.2.2.2.2.1], .int .i64 p3] (.one (.agg [.str, .int .i64, .int .i64, .int .i64, .int .i64, .int .i64])) fun (x221 : ByteArray × Int × Int × Int × Int × Int × Unit) =>
                        L.new [.string s_, .int .i64 0, .int .i64 0, .int .i64 0, .int .i64 0, .int .i64 0] T_api_Config fun b222 =>
                        L.chk (⟨b3, 0, none⟩) [.string x10.1, .int .i64 x10.2.1, .int .i64 x10.2.2.1, .int .i64 x10.2.2.2.1, .int .i64 x10.2.2.2.2.1, .int .i64 x10.2.2.2.2.2.1] <|
                        L.chk (⟨b2, 0, none⟩) [.string x9.1, .int .i64 x9.2.1, .int .i64 x9.2.2.1, .int .i64 x9.2.2.2.1, .int .i64 x9.2.2.2.2.1, .int .i64 x9.2.2.2.2.2.1] <|
                        L.chk (⟨b1, 0, none⟩) [.string x8.1, .int .i64 x8.2.1, .int .i64 x8.2.2.1, .int .i64 x8.2.2.2.1, .int .i64 x8.2.2.2.2.1, .int .i64 x8.2.2.2.2.2.1] <|
                        L.store (⟨b182, 0, none⟩) [.string x219.1, .int .i64 x219.2.1, .int .i64 x219.2.2.1, .int .i64 x219.2.2.2.1, .int .i64 x219.2.2.2.2.1, .int .i64 x219.2.2.2.2.2.1] <|
                        L.store (⟨b218, 0, none⟩) [.string x220.1, .int .i64 x220.2.1, .int .i64 x220.2.2.1, .int .i64 x220.2.2.2.1, .int .i64 x220.2.2.2.2.1, .int .i64 x220.2.2.2.2.2.1] <|
                        L.store (⟨b222, 0, none⟩) [.string x221.1, .int .i64 x221.2.1, .int .i64 x221.2.2.1, .int .i64 x221.2.2.2.1, .int .i64 x221.2.2.2.2.1, .int .i64 x221.2.2.2.2.2.1] <|
                        k6 (⟨b182, 0, none⟩, ⟨b218, 0, none⟩, ⟨b222, 0, none⟩, ())),(
                        L.new [.string s_, .int .i64 0, .int .i64 0, .int .i64 0, .int .i64 0, .int .i64 0] T_api_Config fun b223 =>
                        L.chk (⟨b3, 0, none⟩) [.string x10.1, .int .i64 x10.2.1, .int .i64 x10.2.2.1, .int .i64 x10.2.2.2.1, .int .i64 x10.2.2.2.2.1, .int .i64 x10.2.2.2.2.2.1] <|
                        L.chk (⟨b2, 0, none⟩) [.string x9.1, .int .i64 x9.2.1, .int .i64 x9.2.2.1, .int .i64 x9.2.2.2.1, .int .i64 x9.2.2.2.2.1, .int .i64 x9.2.2.2.2.2.1] <|
                        L.chk (⟨b1, 0, none⟩) [.string x8.1, .int .i64 x8.2.1, .int .i64 x8.2.2.1, .int .i64 x8.2.2.2.1, .int .i64 x8.2.2.2.2.1, .int .i64 x8.2.2.2.2.2.1] <|
                        L.call Pr n_damperlaw2_Config [.agg #[.string x10.1, .int .i64 x10.2.1, .int .i64 x10.2.2.1, .int .i64 x10.2.2.2.1, .int .i64 x10.2.2.2.2.1, .int .i64 x10.2.2.2.2.2.1], .int .i64 p3] (.one (.agg [.str, .int .i64, .int .i64, .int .i64, .int .i64, .int .i64])) fun (x224 : ByteArray × Int × Int × Int × Int × Int × Unit) =>
                        L.store (⟨b182, 0, none⟩) [.string x219.1, .int .i64 x219.2.1, .int .i64 x219.2.2.1, .int .i64 x219.2.2.2.1, .int .i64 x219.2.2.2.2.1, .int .i64 x219.2.2.2.2.2.1] <|
                        L.store (⟨b218, 0, none⟩) [.string x220.1, .int .i64 x220.2.1, .int .i64 x220.2.2.1, .int .i64 x220.2.2.2.1, .int .i64 x220.2.2.2.2.1, .int .i64 x220.2.2.2.2.2.1] <|
                        L.store (⟨b223, 0, none⟩) [.string x224.1, .int .i64 x224.2.1, .int .i64 x224.2.2.1, .int .i64 x224.2.2.2.1, .int .i64 x224.2.2.2.2.1, .int .i64 x224.2.2.2.2.2.1] <|
                        k6 (⟨b182, 0, none⟩, ⟨b218, 0, none⟩, ⟨b223, 0, none⟩, ()))]),(
                    L.new [.string s_, .int .i64 0, .int .i64 0, .int .i64 0, .int .i64 0, .int .i64 0] T_api_Config fun b225 =>
                    L.chk (⟨b3, 0, none⟩) [.string x10.1, .int .i64 x10.2.1, .int .i64 x10.2.2.1, .int .i64 x10.2.2.2.1, .int .i64 x10.2.2.2.2.1, .int .i64 x10.2.2.2.2.2.1] <|
                    L.chk (⟨b2, 0, none⟩) [.string x9.1, .int .i64 x9.2.1, .int .i64 x9.2.2.1, .int .i64 x9.2.2.2.1, .int .i64 x9.2.2.2.2.1, .int .i64 x9.2.2.2.2.2.1] <|
                    L.chk (⟨b1, 0, none⟩) [.string x8.1, .int .i64 x8.2.1, .int .i64 x8.2.2.1, .int .i64 x8.2.2.2.1, .int .i64 x8.2.2.2.2.1, .int .i64 x8.2.2.2.2.2.1] <|
                    L.call Pr n_damperlaw2_Config [.agg #[.string x9.1, .int .i64 x9.2.1, .int .i64 x9.2.2.1, .int .i64 x9.2.2.2.1, .int .i64 x9.2.2.2.2.1, .int .i64 x9.2.2.2.2.2.1], .int .i64 p3] (.one (.agg [.str, .int .i64, .int .i64, .int .i64, .int .i64, .int .i64])) fun (x226 : ByteArray × Int × Int × Int × Int × Int × Unit) =>
                    L.chk (⟨b3, 0, none⟩) [.string x10.1, .int .i64 x10.2.1, .int .i64 x10.2.2.1, .int .i64 x10.2.2.2.1, .int .i64 x10.2.2.2.2.1, .int .i64 x10.2.2.2.2.2.1] <|
                    L.call Pr n_damperlaw2_Config [.agg #[.string x10.1, .int .i64 x10.2.1, .int .i64 x10.2.2.1, .int .i64 x10.2.2.2.1, .int .i64 x10.2.2.2.2.1, .int .i64 x10.2.2.2.2.2.1], .int .i64 p3] (.one (.agg [.str, .int .i64, .int .i64, .int .i64, .int .i64, .int .i64])) fun (x227 : ByteArray × Int × Int × Int × Int × Int × Unit) =>
                    L.store (⟨b182, 0, none⟩) [.string x219.1, .int .i64 x219.2.1, .int .i64 x219.2.2.1, .int .i64 x219.2.2.2.1, .int .i64 x219.2.2.2.2.1, .int .i64 x219.2.2.2.2.2.1] <|
                    L.store (⟨b218, 0, none⟩) [.string x226.1, .int .i64 x226.2.1, .int .i64 x226.2.2.1, .int .i64 x226.2.2.2.1, .int .i64 x226.2.2.2.2.1, .int .i64 x226.2.2.2.2.2.1] <|
                    L.store (⟨b225, 0, none⟩) [.string x227.1, .int .i64 x227.2.1, .int .i64 x227.2.2.1, .int .i64 x227.2.2.2.1, .int .i64 x227.2.2.2.2.1, .int .i64 x227.2.2.2.2.2.1] <|
                    k6 (⟨b182, 0, none⟩, ⟨b218, 0, none⟩, ⟨b225, 0, none⟩, ()))]),(
                L.new [.string s_, .int .i64 0, .int .i64 0, .int .i64 0, .int .i64 0, .int .i64 0] T_api_Config fun b228 =>
                L.chk (⟨b3, 0, none⟩) [.string x10.1, .int .i64 x10.2.1, .int .i64 x10.2.2.1, .int .i64 x10.2.2.2.1, .int .i64 x10.2.2.2.2.1, .int .i64 x10.2.2.2.2.2.1] <|
                L.chk (⟨b2, 0, none⟩) [.string x9.1, .int .i64 x9.2.1, .int .i64 x9.2.2.1, .int .i64 x9.2.2.2.1, .int .i64 x9.2.2.2.2.1, .int .i64 x9.2.2.2.2.2.1] <|
                L.chk (⟨b1, 0, none⟩) [.string x8.1, .int .i64 x8.2.1, .int .i64 x8.2.2.1, .int .i64 x8.2.2.2.1, .int .i64 x8.2.2.2.2.1, .int .i64 x8.2.2.2.2.2.1] <|
                L.call Pr n_damperlaw2_Config [.agg #[.string x8.1, .int .i64 x8.2.1, .int .i64 x8.2.2.1, .int .i64 x8.2.2.2.1, .int .i64 x8.2.2.2.2.1, .int .i64 x8.2.2.2.2.2.1], .int .i64 p3] (.one (.agg [.str, .int .i64, .int .i64, .int .i64, .int .i64, .int .i64])) fun (x229 : ByteArray × Int × Int × Int × Int × Int × Unit) =>
                L.chk (⟨b3, 0, none⟩) [.string x10.1, .int .i64 x10.2.1, .int .i64 x10.2.2.1, .int .i64 x10.2.2.2.1, .int .i64 x10.2.2.2.2.1, .int .i64 x10.2.2.2.2.2.1] <|
                L.chk (⟨b2, 0, none⟩) [.string x9.1, .int .i64 x9.2.1, .int .i64 x9.2.2.1, .int .i64 x9.2.2.2.1, .int .i64 x9.2.2.2.2.1, .int .i64 x9.2.2.2.2.2.1] <|
                L.call Pr n_damperlaw2_Config [.agg #[.string x9.1, .int .i64 x9.2.1, .int .i64 x9.2.2.1, .int .i64 x9.2.2.2.1, .int .i64 x9.2.2.2.2.1, .int .i64 x9.2.2.2.2.2.1], .int .i64 p3] (.one (.agg [.str, .int .i64, .int .i64, .int .i64, .int .i64, .int .i64])) fun (x230 : ByteArray × Int × Int × Int × Int × Int × Unit) =>
                L.chk (⟨b3, 0, none⟩) [.string x10.1, .int .i64 x10.2.1, .int .i64 x10.2.2.1, .int .i64 x10.2.2.2.1, .int .i64 x10.2.2.2.2.1, .int .i64 x10.2.2.2.2.2.1] <|
                L.call Pr n_damperlaw2_Config [.agg #[.string x10.1, .int .i64 x10.2.1, .int .i64 x10.2.2.1, .int .i64 x10.2.2.2.1, .int .i64 x10.2.2.2.2.1, .int .i64 x10.2.2.2.2.2.1], .int .i64 p3] (.one (.agg [.str, .int .i64, .int .i64, .int .i64, .int .i64, .int .i64])) fun (x231 : ByteArray × Int × Int × Int × Int × Int × Unit) =>
                L.store (⟨b182, 0, none⟩) [.string x229.1, .int .i64 x229.2.1, .int .i64 x229.2.2.1, .int .i64 x229.2.2.2.1, .int .i64 x229.2.2.2.2.1, .int .i64 x229.2.2.2.2.2.1] <|
                L.store (⟨b218, 0, none⟩) [.string x230.1, .int .i64 x230.2.1, .int .i64 x230.2.2.1, .int .i64 x230.2.2.2.1, .int .i64 x230.2.2.2.2.1, .int .i64 x230.2.2.2.2.2.1] <|
                L.store (⟨b228, 0, none⟩) [.string x231.1, .int .i64 x231.2.1, .int .i64 x231.2.2.1, .int .i64 x231.2.2.2.1, .int .i64 x231.2.2.2.2.1, .int .i64 x231.2.2.2.2.2.1] <|
                k6 (⟨b182, 0, none⟩, ⟨b218, 0, none⟩, ⟨b228, 0, none⟩, ()))]),(
            L.new [.string s_, .int .i64 0, .int .i64 0, .int .i64 0, .int .i64 0, .int .i64 0] T_api_Config fun b232 =>
            L.chk (⟨b3, 0, none⟩) [.string x10.1, .int .i64 x10.2.1, .int .i64 x10.2.2.1, .int .i64 x10.2.2.2.1, .int .i64 x10.2.2.2.2.1, .int .i64 x10.2.2.2.2.2.1] <|
            L.chk (⟨b2, 0, none⟩) [.string x9.1, .int .i64 x9.2.1, .int .i64 x9.2.2.1, .int .i64 x9.2.2.2.1, .int .i64 x9.2.2.2.2.1, .int .i64 x9.2.2.2.2.2.1] <|
            L.chk (⟨b1, 0, none⟩) [.string x8.1, .int .i64 x8.2.1, .int .i64 x8.2.2.1, .int .i64 x8.2.2.2.1, .int .i64 x8.2.2.2.2.1, .int .i64 x8.2.2.2.2.2.1] <|
            L.alts [(
                L.call Pr n_damperlaw2_Config [.agg #[.string x8.1, .int .i64 x8.2.1, .int .i64 x8.2.2.1, .int .i64 x8.2.2.2.1, .int .i64 x8.2.2.2.2.1, .int .i64 x8.2.2.2.2.2.1], .int .i64 p3] (.one (.agg [.str, .int .i64, .int .i64, .int .i64, .int .i64, .int .i64])) fun (x233 : ByteArray × Int × Int × Int × Int × Int × Unit) =>
                L.chk (⟨b3, 0, none⟩) [.string x10.1, .int .i64 x10.2.1, .int .i64 x10.2.2.1, .int .i64 x10.2.2.2.1, .int .i64 x10.2.2.2.2.1, .int .i64 x10.2.2.2.2.2.1] <|
                L.chk (⟨b2, 0, none⟩) [.string x9.1, .int .i64 x9.2.1, .int .i64 x9.2.2.1, .int .i64 x9.2.2.2.1, .int .i64 x9.2.2.2.2.1, .int .i64 x9.2.2.2.2.2.1] <|
                L.alts [(
                    L.call Pr n_damperlaw2_Config [.agg #[.string x9.1, .int .i64 x9.2.1, .int .i64 x9.2.2.1, .int .i64 x9.2.2.2.1, .int .i64 x9.2.2.2.2.1, .int .i64 x9.2.2.2.2.2.1], .int .i64 p3] (.one (.agg [.str, .int .i64, .int .i64, .int .i64, .int .i64, .int .i64])) fun (x234 : ByteArray × Int × Int × Int × Int × Int × Unit) =>
                    L.chk (⟨b3, 0, none⟩) [.string x10.1, .int .i64 x10.2.1, .int .i64 x10.2.2.1, .int .i64 x10.2.2.2.1, .int .i64 x10.2.2.2.2.1, .int .i64 x10.2.2.2.2.2.1] <|
                    L.alts [(
                        L.call Pr n_damperlaw2_Config [.agg #[.string x10.1, .int .i64 x10.2.1, .int .i64 x10.2.2.1, .int .i64 x10.2.2.2.1, .int .i64 x10.2.2.2.2.1, .int .i64 x10.2.2.2.2.2.1], .int .i64 p3] (.one (.agg [.str, .int .i64, .int .i64, .int .i64, .int .i64, .int .i64])) fun (x235 : ByteArray × Int × Int × Int × Int × Int × Unit) =>
                        L.new [.string s_, .int .i64 0, .int .i64 0, .int .i64 0, .int .i64 0, .int .i64 0] T_api_Config fun b236 =>
                        L.chk (⟨b3, 0, none⟩) [.string x10.1, .int .i64 x10.2.1, .int .i64 x10.2.2.1, .int .i64 x10.2.2.2.1, .int .i64 x10.2.2.2.2.1, .int .i64 x10.2.2.2.2.2.1] <|
                        L.chk (⟨b2, 0, none⟩) [.string x9.1, .int .i64 x9.2.1, .int .i64 x9.2.2.1, .int .i64 x9.2.2.2.1, .int .i64 x9.2.2.2.2.1, .int .i64 x9.2.2.2.2.2.1] <|
                        L.chk (⟨b1, 0, none⟩) [.string x8.1, .int .i64 x8.2.1, .int .i64 x8.2.2.1, .int .i64 x8.2.2.2.1, .int .i64 x8.2.2.2.2.1, .int .i64 x8.2.2.2.2.2.1] <|
                        L.store (⟨b182, 0, none⟩) [.string x233.1, .int .i64 x233.2.1, .int .i64 x233.2.2.1, .int .i64 x233.2.2.2.1, .int .i64 x233.2.2.2.2.1, .int .i64 x233.2.2.2.2.2.1] <|
                        L.store (⟨b236, 0, none⟩) [.string x234.1, .int .i64 x234.2.1, .int .i64 x234.2.2.1, .int .i64 x234.2.2.2.1, .int .i64 x234.2.2.2.2.1, .int .i64 x234.2.2.2.2.2.1] <|
                        L.store (⟨b232, 0, none⟩) [.string x235.1, .int .i64 x235.2.1, .int .i64 x235.2.2.1, .int .i64 x235.2.2.2.1, .int .i64 x235.2.2.2.2.1, .int .i64 x235.2.2.2.2.2.1] <|
                        k6 (⟨b182, 0, none⟩, ⟨b236, 0, none⟩, ⟨b232, 0, none⟩, ())),(
                        L.new [.string s_, .int .i64 0, .int .i64 0, .int .i64 0, .int .i64 0, .int .i64 0] T_api_Config fun b237 =>
                        L.chk (⟨b3, 0, none⟩) [.string x10.1, .int .i64 x10.2.1, .int .i64 x10.2.2.1, .int .i64 x10.2.2.2.1, .int .i64 x10.2.2.2.2.1, .int .i64 x10.2.2.2.2.2.1] <|
                        L.chk (⟨b2, 0, none⟩) [.string x9.1, .int .i64 x9.2.1, .int .i64 x9.2.2.1, .int .i64 x9.2.2.2.1, .int .i64 x9.2.2.2.2.1, .int .i64 x9.2.2.2.2.2.1] <|
                        L.chk (⟨b1, 0, none⟩) [.string x8.1, .int .i64 x8.2.1, .int .i64 x8.2.2.1, .int .i64 x8.2.2.2.1, .int .i64 x8.2.2.2.2.1, .int .i64 x8.2.2.2.2.2.1] <|
                        L.call Pr n_damperlaw2_Config [.agg #[.string x10.1, .int .i64 x10.2.1, .int .i64 x10.2.2.1, .int .i64 x10.2.2.2.1, .int .i64 x10.2.2.2.2.1, .int .i64 x10.2.2.2.2.2.1], .int .i64 p3] (.one (.agg [.str, .int .i64, .int .i64, .int .i64, .int .i64, .int .i64])) fun (x238 : ByteArray × Int × Int × Int × Int × Int × Unit) =>
                        L.store (⟨b182, 0, none⟩) [.string x233.1, .int .i64 x233.2.1, .int .i64 x233.2.2.1, .int .i64 x233.2.2.2.1, .int .i64 x233.2.2.2.2.1, .int .i64 x233.2.2.2.2.2.1] <|
                        L.store (⟨b237, 0, none⟩) [.string x234.1, .int .i64 x234.2.1, .int .i64 x234.2.2.1, .int .i64 x234.2.2.2.1, .int .i64 x234.2.2.2.2.1, .int .i64 x234.2.2.2.2.2.1] <|
                        L.store (⟨b232, 0, none⟩) [.string x238.1, .int .i64 x238.2.1, .int .i64 x238.2.2.1, .int .i64 x238.2.2.2.1, .int .i64 x238.2.2.2.2.1, .int .i64 x238.2.2.2.2.2.1] <|
                        k6 (⟨b182, 0, none⟩, ⟨b237, 0, none⟩, ⟨b232, 0, none⟩, ()))]),(
                    L.new [.string s_, .int .i64 0, .int .i64 0, .int .i64 0, .int .i64 0, .int .i64 0] T_api_Config fun b239 =>
                    L.chk (⟨b3, 0, none⟩) [.string x10.1, .int .i64 x10.2.1, .int .i64 x10.2.2.1, .int .i64 x10.2.2.2.1, .int .i64 x10.2.2.2.2.1, .int .i64 x10.2.2.2.2.2.1] <|
                    L.chk (⟨b2, 0, none⟩) [.string x9.1, .int .i64 x9.2.1, .int .i64 x9.2.2.1, .int .i64 x9.2.2.2.1, .int .i64 x9.2.2.2.2.1, .int .i64 x9.2.2.2.2.2.1] <|
                    L.chk (⟨b1, 0, none⟩) [.string x8.1, .int .i64 x8.2.1, .int .i64 x8.2.2.1, .int .i64 x8.2.2.2.1, .int .i64 x8.2.2.2.2.1, .int .i64 x8.2.2.2.2.2.1] <|
                    L.call Pr n_damperlaw2_Config [.agg #[.string x9.1, .int .i64 x9.2.1, .int .i64 x9.2.2.1, .int .i64 x9.2.2.2.1, .int .i64 x9.2.2.2.2.1, .int .i64 x9.2.2.2.2.2.1], .int .i64 p3] (.one (.agg [.str, .int .i64, .int .i64, .int .i64, .int .i64, .int .i64])) fun (x240 : ByteArray × Int × Int × Int × Int × Int × Unit) =>
                    L.chk (⟨b3, 0, none⟩) [.string x10.1, .int .i64 x10.2.1, .int .i64 x10.2.2.1, .int .i64 x10.2.2.2.1, .int .i64 x10.2.2.2.2.1, .int .i64 x10.2.2.2.2.2.1] <|
                    L.call Pr n_damperlaw2_Config [.agg #[.string x10.1, .int .i64 x10.2.1, .int .i64 x10.2.2.1, .int .i64 x10.2.2.2.1, .int .i64 x10.2.2.2.2.1, .int .i64 x10.2.2.2.2.2.1], .int .i64 p3] (.one (.agg [.str, .int .i64, .int .i64, .int .i64, .int .i64, .int .i64])) fun (x241 : ByteArray × Int × Int × Int × Int × Int × Unit) =>
                    L.store (⟨b182, 0, none⟩) [.string x233.1, .int .i64 x233.2.1, .int .i64 x233.2.2.1, .int .i64 x233.2.2.2.1, .int .i64 x233.2.2.2.2.1, .int .i64 x233.2.2.2.2.2.1] <|
                    L.store (⟨b239, 0, none⟩) [.string x240.1, .int .i64 x240.2.1, .int .i64 x240.2.2.1, .int .i64 x240.2.2.2.1, .int .i64 x240.2.2.2.2.1, .int .i64 x240.2.2.2.2.2.1] <|
                    L.store (⟨b232, 0, none⟩) [.string x241.1, .int .i64 x241.2.1, .int .i64 x241.2.2.1, .int .i64 x241.2.2.2.1, .int .i64 x241.2.2.2.2.1, .int .i64 x241.2.2.2.2.2.1] <|
                    k6 (⟨b182, 0, none⟩, ⟨b239, 0, none⟩, ⟨b232, 0, none⟩, ()))]),(
                L.new [.string s_, .int .i64 0, .int .i64 0, .int .i64 0, .int .i64 0, .int .i64 0] T_api_Config fun b242 =>
                L.chk (⟨b3, 0, none⟩) [.string x10.1, .int .i64 x10.2.1, .int .i64 x10.2.2.1, .int .i64 x10.2.2.2.1, .int .i64 x10.2.2.2.2.1, .int .i64 x10.2.2.2.2.2.1] <|
                L.chk (⟨b2, 0, none⟩) [.string x9.1, .int .i64 x9.2.1, .int .i64 x9.2.2.1, .int .i64 x9.2.2.2.1, .int .i64 x9.2.2.2.2.1, .int .i64 x9.2.2.2.2.2.1] <|
                L.chk (⟨b1, 0, none⟩) [.string x8.1, .int .i64 x8.2.1, .int .i64 x8.2.2.1, .int .i64 x8.2.2.2.1, .int .i64 x8.2.2.2.2.1, .int .i64 x8.2.2.2.2.2.1] <|
                L.call Pr n_damperlaw2_Config [.agg #[.string x8.1, .int .i64 x8.2.1, .int .i64 x8.2.2.1, .int .i64 x8.2.2.2.1, .int .i64 x8.2.2.2.2.1, .int .i64 x8.2.2.2.2.2.1], .int .i64 p3] (.one (.agg [.str, .int .i64, .int .i64, .int .i64, .int .i64, .int .i64])) fun (x243 : ByteArray × Int × Int × Int × Int × Int × Unit) =>
                L.chk (⟨b3, 0, none⟩) [.string x10.1, .int .i64 x10.2.1, .int .i64 x10.2.2.1, .int .i64 x10.2.2.2.1, .int .i64 x10.2.2.2.2.1, .int .i64 x10.2.2.2.2.2.1] <|
                L.chk (⟨b2, 0, none⟩) [.string x9.1, .int .i64 x9.2.1, .int .i64 x9.2.2.1, .int .i64 x9.2.2.2.1, .int .i64 x9.2.2.2.2.1, .int .i64 x9.2.2.2.2.2.1] <|
                L.call Pr n_damperlaw2_Config [.agg #[.string x9.1, .int .i64 x9.2.1, .int .i64 x9.2.2.1, .int .i64 x9.2.2.2.1, .int .i64 x9.2.2.2.2.1, .int .i64 x9.2.2.2.2.2.1], .int .i64 p3] (.one (.agg [.str, .int .i64, .int .i64, .int .i64, .int .i64, .int .i64])) fun (x244 : ByteArray × Int × Int × Int × Int × Int × Unit) =>
                L.chk (⟨b3, 0, none⟩) [.string x10.1, .int .i64 x10.2.1, .int .i64 x10.2.2.1, .int .i64 x10.2.2.2.1, .int .i64 x10.2.2.2.2.1, .int .i64 x10.2.2.2.2.2.1] <|
                L.call Pr n_damperlaw2_Config [.agg #[.string x10.1, .int .i64 x10.2.1, .int .i64 x10.2.2.1, .int .i64 x10.2.2.2.1, .int .i64 x10.2.2.2.2.1, .int .i64 x10.2.2.2.2.2.1], .int .i64 p3] (.one (.agg [.str, .int .i64, .int .i64, .int .i64, .int .i64, .int .i64])) fun (x245 : ByteArray × Int × Int × Int × Int × Int × Unit) =>
                L.store (⟨b182, 0, none⟩) [.string x243.1, .int .i64 x243.2.1, .int .i64 x243.2.2.1, .int .i64 x243.2.2.2.1, .int .i64 x243.2.2.2.2.1, .int .i64 x243.2.2.2.2.2.1] <|
                L.store (⟨b242, 0, none⟩) [.string x244.1, .int .i64 x244.2.1, .int .i64 x244.2.2.1, .int .i64 x244.2.2.2.1, .int .i64 x244.2.2.2.2.1, .int .i64 x244.2.2.2.2.2.1] <|
                L.store (⟨b232, 0, none⟩) [.string x245.1, .int .i64 x245.2.1, .int .i64 x245.2.2.1, .int .i64 x245.2.2.2.1, .int .i64 x245.2.2.2.2.1, .int .i64 x245.2.2.2.2.2.1] <|
                k6 (⟨b182, 0, none⟩, ⟨b242, 0, none⟩, ⟨b232, 0, none⟩, ()))])]),(
        L.new [.string s_, .int .i64 0, .int .i64 0, .int .i64 0, .int .i64 0, .int .i64 0] T_api_Config fun b246 =>
        L.chk (⟨b3, 0, none⟩) [.string x10.1, .int .i64 x10.2.1, .int .i64 x10.2.2.1, .int .i64 x10.2.2.2.1, .int .i64 x10.2.2.2.2.1, .int .i64 x10.2.2.2.2.2.1] <|
        L.chk (⟨b2, 0, none⟩) [.string x9.1, .int .i64 x9.2.1, .int .i64 x9.2.2.1, .int .i64 x9.2.2.2.1, .int .i64 x9.2.2.2.2.1, .int .i64 x9.2.2.2.2.2.1] <|
        L.chk (⟨b1, 0, none⟩) [.string x8.1, .int .i64 x8.2.1, .int .i64 x8.2.2.1, .int .i64 x8.2.2.2.1, .int .i64 x8.2.2.2.2.1, .int .i64 x8.2.2.2.2.2.1] <|
        L.alts [(
            L.call Pr n_damperlaw2_Config [.agg #[.string x8.1, .int .i64 x8.2.1, .int .i64 x8.2.2.1, .int .i64 x8.2.2.2.1, .int .i64 x8.2.2.2.2.1, .int .i64 x8.2.2.2.2.2.1], .int .i64 p3] (.one (.agg [.str, .int .i64, .int .i64, .int .i64, .int .i64, .int .i64])) fun (x247 : ByteArray × Int × Int × Int × Int × Int × Unit) =>
            L.chk (⟨b3, 0, none⟩) [.string x10.1, .int .i64 x10.2.1, .int .i64 x10.2.2.1, .int .i64 x10.2.2.2.1, .int .i64 x10.2.2.2.2.1, .int .i64 x10.2.2.2.2.2.1] <|
            L.chk (⟨b2, 0, none⟩) [.string x9.1, .int .i64 x9.2.1, .int .i64 x9.2.2.1, .int .i64 x9.2.2.2.1, .int .i64 x9.2.2.2.2.1, .int .i64 x9.2.2.2.2.2.1] <|
            L.alts [(
                L.call Pr n_damperlaw2_Config [.agg #[.string x9.1, .int .i64 x9.2.1, .int .i64 x9.2.2.1, .int .i64 x9.2.2.2.1, .int .i64 x9.2.2.2.2.1, .int .i64 x9.2.2.2.2.2.1], .int .i64 p3] (.one (.agg [.str, .int .i64, .int .i64, .int .i64, .int .i64, .int .i64])) fun (x248 : ByteArray × Int × Int × Int × Int × Int × Unit) =>
                L.chk (⟨b3, 0, none⟩) [.string x10.1, .int .i64 x10.2.1, .int .i64 x10.2.2.1, .int .i64 x10.2.2.2.1, .int .i64 x10.2.2.2.2.1, .int .i64 x10.2.2.2.2.2.1] <|
                L.alts [(
                    L.call Pr n_damperlaw2_Config [.agg #[.string x10.1, .int .i64 x10.2.1, .int .i64 x10.2.2.1, .int .i64 x10.2.2.2.1, .int .i64 x10.2.2.2.2.1, .int .i64 x10.2.2.2.2.2.1], .int .i64 p3] (.one (.agg [.str, .int .i64, .int .i64, .int .i64, .int .i64, .int .i64])) fun (x249 : ByteArray × Int × Int × Int × Int × Int × Unit) =>
                    L.alts [(
                        L.new [.string s_, .int .i64 0, .int .i64 0, .int .i64 0, .int .i64 0, .int .i64 0] T_api_Config fun b250 =>
                        L.chk (⟨b3, 0, none⟩) [.string x10.1, .int .i64 x10.2.1, .int .i64 x10.2.2.1, .int .i64 x10.2.2.2.1, .int .i64 x10.2.2.2.2.1, .int .i64 x10.2.2.2.2.2.1] <|
                        L.chk (⟨b2, 0, none⟩) [.string x9.1, .int .i64 x9.2.1, .int .i64 x9.2.2.1, .int .i64 x9.2.2.2.1, .int .i64 x9.2.2.2.2.1, .int .i64 x9.2.2.2.2.2.1] <|
                        L.chk (⟨b1, 0, none⟩) [.string x8.1, .int .i64 x8.2.1, .int .i64 x8.2.2.1, .int .i64 x8.2.2.2.1, .int .i64 x8.2.2.2.2.1, .int .i64 x8.2.2.2.2.2.1] <|
                        L.new [.string s_, .int .i64 0, .int .i64 0, .int .i64 0, .int .i64 0, .int .i64 0] T_api_Config fun b251 =>
                        L.chk (⟨b3, 0, none⟩) [.string x10.1, .int .i64 x10.2.1, .int .i64 x10.2.2.1, .int .i64 x10.2.2.2.1, .int .i64 x10.2.2.2.2.1, .int .i64 x10.2.2.2.2.2.1] <|
                        L.chk (⟨b2, 0, none⟩) [.string x9.1, .int .i64 x9.2.1, .int .i64 x9.2.2.1, .int .i64 x9.2.2.2.1, .int .i64 x9.2.2.2.2.1, .int .i64 x9.2.2.2.2.2.1] <|
                        L.chk (⟨b1, 0, none⟩) [.string x8.1, .int .i64 x8.2.1, .int .i64 x8.2.2.1, .int .i64 x8.2.2.2.1, .int .i64 x8.2.2.2.2.1, .int .i64 x8.2.2.2.2.2.1] <|
                        L.store (⟨b250, 0, none⟩) [.string x247.1, .int .i64 x247.2.1, .int .i64 x247.2.2.1, .int .i64 x247.2.2.2.1, .int .i64 x247.2.2.2.2.1, .int .i64 x247.2.2.2.2.2.1] <|
                        L.store (⟨b246, 0, none⟩) [.string x248.1, .int .i64 x248.2.1, .int .i64 x248.2.2.1, .int .i64 x248.2.2.2.1, .int .i64 x248.2.2.2.2.1, .int .i64 x248.2.2.2.2.2.1] <|
                        L.store (⟨b251, 0, none⟩) [.string x249.1, .int .i64 x249.2.1, .int .i64 x249.2.2.1, .int .i64 x249.2.2.2.1, .int .i64 x249.2.2.2.2.1, .int .i64 x249.2.2.2.2.2.1] <|
                        k6 (⟨b250, 0, none⟩, ⟨b246, 0, none⟩, ⟨b251, 0, none⟩, ())),(
                        L.new [.string s_, .int .i64 0, .int .i64 0, .int .i64 0, .int .i64 0, .int .i64 0] T_api_Config fun b252 =>
                        L.chk (⟨b3, 0, none⟩) [.string x10.1, .int .i64 x10.2.1, .int .i64 x10.2.2.1, .int .i64 x10.2.2.2.1, .int .i64 x10.2.2.2.2.1, .int .i64 x10.2.2.2.2.2.1] <|
                        L.chk (⟨b2, 0, none⟩) [.string x9.1, .int .i64 x9.2.1, .int .i64 x9.2.2.1, .int .i64 x9.2.2.2.1, .int .i64 x9.2.2.2.2.1, .int .i64 x9.2.2.2.2.2.1] <|
                        L.chk (⟨b1, 0, none⟩) [.string x8.1, .int .i64 x8.2.1, .int .i64 x8.2.2.1, .int .i64 x8.2.2.2.1, .int .i64 x8.2.2.2.2.1, .int .i64 x8.2.2.2.2.2.1] <|
                        L.new [.string s_, .int .i64 0, .int .i64 0, .int .i64 0, .int .i64 0, .int .i64 0] T_api_Config fun b253 =>
                        L.chk (⟨b3, 0, none⟩) [.string x10.1, .int .i64 x10.2.1, .int .i64 x10.2.2.1, .int .i64 x10.2.2.2.1, .int .i64 x10.2.2.2.2.1, .int .i64 x10.2.2.2.2.2.1] <|
                        L.chk (⟨b2, 0, none⟩) [.string x9.1, .int .i64 x9.2.1, .int .i64 x9.2.2.1, .int .i64 x9.2.2.2.1, .int .i64 x9.2.2.2.2.1, .int .i64 x9.2.2.2.2.2.1] <|
                        L.chk (⟨b1, 0, none⟩) [.string x8.1, .int .i64 x8.2.1, .int .i64 x8.2.2.1, .int .i64 x8.2.2.2.1, .int .i64 x8.2.2.2.2.1, .int .i64 x8.2.2.2.2.2.1] <|
                        L.store (⟨b253, 0, none⟩) [.string x247.1, .int .i64 x247.2.1, .int .i64 x247.2.2.1, .int .i64 x247.2.2.2.1, .int .i64 x247.2.2.2.2.1, .int .i64 x247.2.2.2.2.2.1] <|
                        L.store (⟨b246, 0, none⟩) [.string x248.1, .int .i64 x248.2.1, .int .i64 x248.2.2.1, .int .i64 x248.2.2.2.1, .int .i64 x248.2.2.2.2.1, .int .i64 x248.2.2.2.2.2.1] <|
                        L.store (⟨b252, 0, none⟩) [.string x249.1, .int .i64 x249.2.1, .int .i64 x249.2.2.1, .int .i64 x249.2.2.2.1, .int .i64 x249.2.2.2.2.1, .int .i64 x249.2.2.2.2.2.1] <|
                        k6 (⟨b253, 0, none⟩, ⟨b246, 0, none⟩, ⟨b252, 0, none⟩, ()))]),(
                    L.new [.string s_, .int .i64 0, .int .i64 0, .int .i64 0, .int .i64 0, .int .i64 0] T_api_Config fun b254 =>
                    L.chk (⟨b3, 0, none⟩) [.string x10.1, .int .i64 x10.2.1, .int .i64 x10.2.2.1, .int .i64 x10.2.2.2.1, .int .i64 x10.2.2.2.2.1, .int .i64 x10.2.2.2.2.2.1] <|
                    L.chk (⟨b2, 0, none⟩) [.string x9.1, .int .i64 x9.2.1, .int .i64 x9.2.2.1, .int .i64 x9.2.2.2.1, .int .i64 x9.2.2.2.2.1, .int .i64 x9.2.2.2.2.2.1] <|
                    L.chk (⟨b1, 0, none⟩) [.string x8.1, .int .i64 x8.2.1, .int .i64 x8.2.2.1, .int .i64 x8.2.2.2.1, .int .i64 x8.2.2.2.2.1, .int .i64 x8.2.2.2.2.2.1] <|
                    L.alts [(
                        L.call Pr n_damperlaw2_Config [.agg #[.string x10.1, .int .i64 x10.2.1, .int .i64 x10.2.2.1, .int .i64 x10.2.2.2.1, .int .i64 x10.2.2.2.2.1, .int .i64 x10.2.2.2.2.2.1], .int .i64 p3] (.one (.agg [.str, .int .i64, .int .i64, .int .i64, .int .i64, .int .i64])) fun (x255 : ByteArray × Int × Int × Int × Int × Int × Unit) =>
                        L.new [.string s_, .int .i64 0, .int .i64 0, .int .i64 0, .int .i64 0, .int .i64 0] T_api_Config fun b256 =>
                        L.chk (⟨b3, 0, none⟩) [.string x10.1, .int .i64 x10.2.1, .int .i64 x10.2.2.1, .int .i64 x10.2.2.2.1, .int .i64 x10.2.2.2.2.1, .int .i64 x10.2.2.2.2.2.1] <|
                        L.chk (⟨b2, 0, none⟩) [.string x9.1, .int .i64 x9.2.1, .int .i64 x9.2.2.1, .int .i64 x9.2.2.2.1, .int .i64 x9.2.2.2.2.1, .int .i64 x9.2.2.2.2.2.1] <|
                        L.chk (⟨b1, 0, none⟩) [.string x8.1, .int .i64 x8.2.1, .int .i64 x8.2.2.1, .int .i64 x8.2.2.2.1, .int .i64 x8.2.2.2.2.1, .int .i64 x8.2.2.2.2.2.1] <|
                        L.store (⟨b254, 0, none⟩) [.string x247.1, .int .i64 x247.2.1, .int .i64 x247.2.2.1, .int .i64 x247.2.2.2.1, .int .i64 x247.2.2.2.2.1, .int .i64 x247.2.2.2.2.2.1] <|
                        L.store (⟨b246, 0, none⟩) [.string x248.1, .int .i64 x248.2.1, .int .i64 x248.2.2.1, .int .i64 x248.2.2.2.1, .int .i64 x248.2.2.2.2.1, .int .i64 x248.2.2.2.2.2.1] <|
                        L.store (⟨b256, 0, none⟩) [.string x255.1, .int .i64 x255.2.1, .int .i64 x255.2.2.1, .int .i64 x255.2.2.2.1, .int .i64 x255.2.2.2.2.1, .int .i64 x255.2.2.2.2.2.1] <|
                        k6 (⟨b254, 0, none⟩, ⟨b246, 0, none⟩, ⟨b256, 0, none⟩, ())),(
                        L.new [.string s_, .int .i64 0, .int .i64 0, .int .i64 0, .int .i64 0, .int .i64 0] T_api_Config fun b257 =>
                        L.chk (⟨b3, 0, none⟩) [.string x10.1, .int .i64 x10.2.1, .int .i64 x10.2.2.1, .int .i64 x10.2.2.2.1, .int .i64 x10.2.2.2.2.1, .int .i64 x10.2.2.2.2.2.1] <|
                        L.chk (⟨b2, 0, none⟩) [.string x9.1, .int .i64 x9.2.1, .int .i64 x9.2.2.1, .int .i64 x9.2.2.2.1, .int .i64 x9.2.2.2.2.1, .int .i64 x9.2.2.2.2.2.1] <|
                        L.chk (⟨b1, 0, none⟩) [.string x8.1, .int .i64 x8.2.1, .int .i64 x8.2.2.1, .int .i64 x8.2.2.2.1, .int .i64 x8.2.2.2.2.1, .int .i64 x8.2.2.2.2.2.1] <|
                        L.call Pr n_damperlaw2_Config [.agg #[.string x10.1, .int .i64 x10.2.1, .int .i64 x10.2.2.1, .int .i64 x10.2.2.2.1, .int .i64 x10.2.2.2.2.1, .int .i64 x10.2.2.2.2.2.1], .int .i64 p3] (.one (.agg [.str, .int .i64, .int .i64, .int .i64, .int .i64, .int .i64])) fun (x258 : ByteArray × Int × Int × Int × Int × Int × Unit) =>
                        L.store (⟨b254, 0, none⟩) [.string x247.1, .int .i64 x247.2.1, .int .i64 x247.2.2.1, .int .i64 x247.2.2.2.1, .int .i64 x247.2.2.2.2.1, .int .i64 x247.2.2.2.2.2.1] <|
                        L.store (⟨b246, 0, none⟩) [.string x248.1, .int .i64 x248.2.1, .int .i64 x248.2.2.1, .int .i64 x248.2.2.2.1, .int .i64 x248.2.2.2.2.1, .int .i64 x248.2.2.2.2.2.1] <|
                        L.store (⟨b257, 0, none⟩) [.string x258.1, .int .i64 x258.2.1, .int .i64 x258.2.2.1, .int .i64 x258.2.2.2.1, .int .i64 x258.2.2.2.2.1, .int .i64 x258.2.2.2.2.2.1] <|
                        k6 (⟨b254, 0, none⟩, ⟨b246, 0, none⟩, ⟨b257, 0, none⟩, ()))]),(
                    L.new [.string s_, .int .i64 0, .int .i64 0, .int .i64 0, .int .i64 0, .int .i64 0] T_api_Config fun b259 =>
                    L.chk (⟨b3, 0, none⟩) [.string x10.1, .int .i64 x10.2.1, .int .i64 x10.2.2.1, .int .i64 x10.2.2.2.1, .int .i64 x10.2.2.2.2.1, .int .i64 x10.2.2.2.2.2.1] <|
                    L.chk (⟨b2, 0, none⟩) [.string x9.1, .int .i64 x9.2.1, .int .i64 x9.2.2.1, .int .i64 x9.2.2.2.1, .int .i64 x9.2.2.2.2.1, .int .i64 x9.2.2.2.2.2.1] <|
                    L.chk (⟨b1, 0, none⟩) [.string x8.1, .int .i64 x8.2.1, .int .i64 x8.2.2.1, .int .i64 x8.2.2.2.1, .int .i64 x8.2.2.2.2.1, .int .i64 x8.2.2.2.2.2.1] <|
                    L.alts [(
                        L.call Pr n_damperlaw2_Config [.agg #[.string x10.1, .int .i64 x10.2.1, .int .i64 x10.2.2.1, .int .i64 x10.2.2.2.1, .int .i64 x10.2.2.2.2.1, .int .i64 x10.2.2.2.2.2.1], .int .i64 p3] (.one (.agg [.str, .int .i64, .int .i64, .int .i64, .int .i64, .int .i64])) fun (x260 : ByteArray × Int × Int × Int × Int × Int × Unit) =>
                        L.new [.string s_, .int .i64 0, .int .i64 0, .int .i64 0, .int .i64 0, .int .i64 0] T_api_Config fun b261 =>
                        L.chk (⟨b3, 0, none⟩) [.string x10.1, .int .i64 x10.2.1, .int .i64 x10.2.2.1, .int .i64 x10.2.2.2.1, .int .i64 x10.2.2.2.2.1, .int .i64 x10.2.2.2.2.2.1] <|
                        L.chk (⟨b2, 0, none⟩) [.string x9.1, .int .i64 x9.2.1, .int .i64 x9.2.2.1, .int .i64 x9.2.2.2.1, .int .i64 x9.2.2.2.2.1, .int .i64 x9.2.2.2.2.2.1] <|
                        L.chk (⟨b1, 0, none⟩) [.string x8.1, .int .i64 x8.2.1, .int .i64 x8.2.2.1, .int .i64 x8.2.2.2.1, .int .i64 x8.2.2.2.2.1, .int .i64 x8.2.2.2.2.2.1] <|
                        L.store (⟨b261, 0, none⟩) [.string x247.1, .int .i64 x247.2.1, .int .i64 x247.2.2.1, .int .i64 x247.2.2.2.1, .int .i64 x247.2.2.2.2.1, .int .i64 x247.2.2.2.2.2.1] <|
                        L.store (⟨b246, 0, none⟩) [.string x248.1, .int .i64 x248.2.1, .int .i64 x248.2.2.1, .int .i64 x248.2.2.2.1, .int .i64 x248.2.2.2.2.1, .int .i64 x248.2.2.2.2.2.1] <|
                        L.store (⟨b259, 0, none⟩) [.string x260.1, .int .i64 x260.2.1, .int .i64 x260.2.2.1, .int .i64 x260.2.2.2.1, .int .i64 x260.2.2.2.2.1, .int .i64 x260.2.2.2.2.2.1] <|
                        k6 (⟨b261, 0, none⟩, ⟨b246, 0, none⟩, ⟨b259, 0, none⟩, ())),(
                        L.new [.string s_, .int .i64 0, .int .i64 0, .int .i64 0, .int .i64 0, .int .i64 0] T_api_Config fun b262 =>
                        L.chk (⟨b3, 0, none⟩) [.string x10.1, .int .i64 x10.2.1, .int .i64 x10.2.2.1, .int .i64 x10.2.2.2.1, .int .i64 x10.2.2.2.2.1, .int .i64 x10.2.2.2.2.2.1] <|
                        L.chk (⟨b2, 0, none⟩) [.string x9.1, .int .i64 x9.2.1, .int .i64 x9.2.2.1, .int .i64 x9.2.2.2.1, .int .i64 x9.2.2.2.2.1, .int .i64 x9.2.2.2.2.2.1] <|
                        L.chk (⟨b1, 0, none⟩) [.string x8.1, .int .i64 x8.2.1, .int .i64 x8.2.2.1, .int .i64 x8.2.2.2.1, .int .i64 x8.2.2.2.2.1, .int .i64 x8.2.2.2.2.2.1] <|
                        L.call Pr n_damperlaw2_Config [.agg #[.string x10.1, .int .i64 x10.2.1, .int .i64 x10.2.2.1, .int .i64 x10.2.2.2.1, .int .i64 x10.2.2.2.2.1, .int .i64 x10.2.2.2.2.2.1], .int .i64 p3] (.one (.agg [.str, .int .i64, .int .i64, .int .i64, .int .i64, .int .i64])) fun (x263 : ByteArray × Int × Int × Int × Int × Int × Unit) =>
                        L.store (⟨b262, 0, none⟩) [.string x247.1, .int .i64 x247.2.1, .int .i64 x247.2.2.1, .int .i64 x247.2.2.2.1, .int .i64 x247.2.2.2.2.1, .int .i64 x247.2.2.2.2.2.1] <|
                        L.store (⟨b246, 0, none⟩) [.string x248.1, .int .i64 x248.2.1, .int .i64 x248.2.2.1, .int .i64 x248.2.2.2.1, .int .i64 x248.2.2.2.2.1, .int .i64 x248.2.2.2.2.2.1] <|
                        L.store (⟨b259, 0, none⟩) [.string x263.1, .int .i64 x263.2.1, .int .i64 x263.2.2.1, .int .i64 x263.2.2.2.1, .int .i64 x263.2.2.2.2.1, .int .i64 x263.2.2.2.2.2.1] <|
                        k6 (⟨b262, 0, none⟩, ⟨b246, 0, none⟩, ⟨b259, 0, none⟩, ()))])]),(
                L.new [.string s_, .int .i64 0, .int .i64 0, .int .i64 0, .int .i64 0, .int .i64 0] T_api_Config fun b264 =>
                L.chk (⟨b3, 0, none⟩) [.string x10.1, .int .i64 x10.2.1, .int .i64 x10.2.2.1, .int .i64 x10.2.2.2.1, .int .i64 x10.2.2.2.2.1, .int .i64 x10.2.2.2.2.2.1] <|
                L.chk (⟨b2, 0, none⟩) [.string x9.1, .int .i64 x9.2.1, .int .i64 x9.2.2.1, .int .i64 x9.2.2.2.1, .int .i64 x9.2.2.2.2.1, .int .i64 x9.2.2.2.2.2.1] <|
                L.chk (⟨b1, 0, none⟩) [.string x8.1, .int .i64 x8.2.1, .int .i64 x8.2.2.1, .int .i64 x8.2.2.2.1, .int .i64 x8.2.2.2.2.1, .int .i64 x8.2.2.2.2.2.1] <|
                L.alts [(
                    L.call Pr n_damperlaw2_Config [.agg #[.string x9.1, .int .i64 x9.2.1, .int .i64 x9.2.2.1, .int .i64 x9.2.2.2.1, .int .i64 x9.2.2.2.2.1, .int .i64 x9.2.2.2.2.2.1], .int .i64 p3] (.one (.agg [.str, .int .i64, .int .i64, .int .i64, .int .i64, .int .i64])) fun (x265 : ByteArray × Int × Int × Int × Int × Int × Unit) =>
                    L.chk (⟨b3, 0, none⟩) [.string x10.1, .int .i64 x10.2.1, .int .i64 x10.2.2.1, .int .i64 x10.2.2.2.1, .int .i64 x10.2.2.2.2.1, .int .i64 x10.2.2.2.2.2.1] <|
                    L.alts [(
                        L.call Pr n_damperlaw2_Config [.agg #[.string x10.1, .int .i64 x10.2.1, .int .i64 x10.2.2.1, .int .i64 x10.2.2.2.1, .int .i64 x10.2.2.2.2.1, .int .i64 x10.2.2.2.2.2.1], .int .i64 p3] (.one (.agg [.str, .int .i64, .int .i64, .int .i64, .int .i64, .int .i64])) fun (x266 : ByteArray × Int × Int × Int × Int × Int × Unit) =>
                        L.new [.string s_, .int .i64 0, .int .i64 0, .int .i64 0, .int .i64 0, .int .i64 0] T_api_Config fun b267 =>
                        L.chk (⟨b3, 0, none⟩) [.string x10.1, .int .i64 x10.2.1, .int .i64 x10.2.2.1, .int .i64 x10.2.2.2.1, .int .i64 x10.2.2.2.2.1, .int .i64 x10.2.2.2.2.2.1] <|
                        L.chk (⟨b2, 0, none⟩) [.string x9.1, .int .i64 x9.2.1, .int .i64 x9.2.2.1, .int .i64 x9.2.2.2.1, .int .i64 x9.2.2.2.2.1, .int .i64 x9.2.2.2.2.2.1] <|
                        L.chk (⟨b1, 0, none⟩) [.string x8.1, .int .i64 x8.2.1, .int .i64 x8.2.2.1, .int .i64 x8.2.2.2.1, .int .i64 x8.2.2.2.2.1, .int .i64 x8.2.2.2.2.2.1] <|
                        L.store (⟨b264, 0, none⟩) [.string x247.1, .int .i64 x247.2.1, .int .i64 x247.2.2.1, .int .i64 x247.2.2.2.1, .int .i64 x247.2.2.2.2.1, .int .i64 x247.2.2.2.2.2.1] <|
                        L.store (⟨b246, 0, none⟩) [.string x265.1, .int .i64 x265.2.1, .int .i64 x265.2.2.1, .int .i64 x265.2.2.2.1, .int .i64 x265.2.2.2.2.1, .int .i64 x265.2.2.2.2.2.1] <|
                        L.store (⟨b267, 0, none⟩) [.string x266.1, .int .i64 x266.2.1, .int .i64 x266.2.2.1, .int .i64 x266.2.2.2.1, .int .i64 x266.2.2.2.2.1, .int .i64 x266.2.2.2.2.2.1] <|
                        k6 (⟨b264, 0, none⟩, ⟨b246, 0, none⟩, ⟨b267, 0, none⟩, ())),(
                        L.new [.string s_, .int .i64 0, .int .i64 0, .int .i64 0, .int .i64 0, .int .i64 0] T_api_Config fun b268 =>
                        L.chk (⟨b3, 0, none⟩) [.string x10.1, .int .i64 x10.2.1, .int .i64 x10.2.2.1, .int .i64 x10.2.2.2.1, .int .i64 x10.2.2.2.2.1, .int .i64 x10.2.2.2.2.2.1] <|
                        L.chk (⟨b2, 0, none⟩) [.string x9.1, .int .i64 x9.2.1, .int .i64 x9.2.2.1, .int .i64 x9.2.2.2.1, .int .i64 x9.2.2.2.2.1, .int .i64 x9.2.2.2.2.2.1] <|
                        L.chk (⟨b1, 0, none⟩) [.string x8.1, .int .i64 x8.2.1, .int .i64 x8.2.2.1, .int .i64 x8.2.2.2.1, .int .i64 x8.2.2.2.2.1, .int .i64 x8.2.2.2.2.2.1] <|
                        L.call Pr n_damperlaw2_Config [.agg #[.string x10.1, .int .i64 x10.2.1, .int .i64 x10.2.2.1, .int .i64 x10.2.2.2.1, .int .i64 x10.2.2.2.2.1, .int .i64 x10.2.2.2.2.2.1], .int .i64 p3] (.one (.agg [.str, .int .i64, .int .i64, .int .i64, .int .i64, .int .i64])) fun (x269 : ByteArray × Int × Int × Int × Int × Int × Unit) =>
                        L.store (⟨b264, 0, none⟩) [.string x247.1, .int .i64 x247.2.1, .int .i64 x247.2.2.1, .int .i64 x247.2.2.2.1, .int .i64 x247.2.2.2.2.1, .int .i64 x247.2.2.2.2.2.1] <|
                        L.store (⟨b246, 0, none⟩) [.string x265.1, .int .i64 x265.2.1, .int .i64 x265.2.2.1, .int .i64 x265.2.2.2.1, .int .i64 x265.2.2.2.2.1, .int .i64 x265.2.2.2.2.2.1] <|
                        L.store (⟨b268, 0, none⟩) [.string x269.1, .int .i64 x269.2.1, .int .i64 x269.2.2.1, .int .i64 x269.2.2.2.1, .int .i64 x269.2.2.2.2.1, .int .i64 x269.2.2.2.2.2.1] <|
                        k6 (⟨b264, 0, none⟩, ⟨b246, 0, none⟩, ⟨b268, 0, none⟩, ()))]),(
                    L.new [.string s_, .int .i64 0, .int .i64 0, .int .i64 0, .int .i64 0, .int .i64 0] T_api_Config fun b270 =>
                    L.chk (⟨b3, 0, none⟩) [.string x10.1, .int .i64 x10.2.1, .int .i64 x10.2.2.1, .int .i64 x10.2.2.2.1, .int .i64 x10.2.2.2.2.1, .int .i64 x10.2.2.2.2.2.1] <|
                    L.chk (⟨b2, 0, none⟩) [.string x9.1, .int .i64 x9.2.1, .int .i64 x9.2.2.1, .int .i64 x9.2.2.2.1, .int .i64 x9.2.2.2.2.1, .int .i64 x9.2.2.2.2.2.1] <|
                    L.chk (⟨b1, 0, none⟩) [.string x8.1, .int .i64 x8.2.1, .int .i64 x8.2.2.1, .int .i64 x8.2.2.2.1, .int .i64 x8.2.2.2.2.1, .int .i64 x8.2.2.2.2.2.1] <|
                    L.call Pr n_damperlaw2_Config [.agg #[.string x9.1, .int .i64 x9.2.1, .int .i64 x9.2.2.1, .int .i64 x9.2.2.2.1, .int .i64 x9.2.2.2.2.1, .int .i64 x9.2.2.2.2.2.1], .int .i64 p3] (.one (.agg [.str, .int .i64, .int .i64, .int .i64, .int .i64, .int .i64])) fun (x271 : ByteArray × Int × Int × Int × Int × Int × Unit) =>
                    L.chk (⟨b3, 0, none⟩) [.string x10.1, .int .i64 x10.2.1, .int .i64 x10.2.2.1, .int .i64 x10.2.2.2.1, .int .i64 x10.2.2.2.2.1, .int .i64 x10.2.2.2.2.2.1] <|
                    L.call Pr n_damperlaw2_Config [.agg #[.string x10.1, .int .i64 x10.2.1, .int .i64 x10.2.2.1, .int .i64 x10.2.2.2.1, .int .i64 x10.2.2.2.2.1, .int .i64 x10.2.2.2.2.2.1], .int .i64 p3] (.one (.agg [.str, .int .i64, .int .i64, .int .i64, .int .i64, .int .i64])) fun (x272 : ByteArray × Int × Int × Int × Int × Int × Unit) =>
                    L.store (⟨b264, 0, none⟩) [.string x247.1, .int .i64 x247.2.1, .int .i64 x247.2.2.1, .int .i64 x247.2.2.2.1, .int .i64 x247.2.2.2.2.1, .int .i64 x247.2.2.2.2.2.1] <|
                    L.store (⟨b246, 0, none⟩) [.string x271.1, .int .i64 x271.2.1, .int .i64 x271.2.2.1, .int .i64 x271.2.2.2.1, .int .i64 x271.2.2.2.2.1, .int .i64 x271.2.2.2.2.2.1] <|
                    L.store (⟨b270, 0, none⟩) [.string x272.1, .int .i64 x272.2.1, .int .i64 x272.2.2.1, .int .i64 x272.2.2.2.1, .int .i64 x272.2.2.2.2.1, .int .i64 x272.2.2.2.2.2.1] <|
                    k6 (⟨b264, 0, none⟩, ⟨b246, 0, none⟩, ⟨b270, 0, none⟩, ()))]),(
                L.new [.string s_, .int .i64 0, .int .i64 0, .int .i64 0, .int .i64 0, .int .i64 0] T_api_Config fun b273 =>
                L.chk (⟨b3, 0, none⟩) [.string x10.1, .int .i64 x10.2.1, .int .i64 x10.2.2.1, .int .i64 x10.2.2.2.1, .int .i64 x10.2.2.2.2.1, .int .i64 x10.2.2.2.2.2.1] <|
                L.chk (⟨b2, 0, none⟩) [.string x9.1, .int .i64 x9.2.1, .int .i64 x9.2.2.1, .int .i64 x9.2.2.2.1, .int .i64 x9.2.2.2.2.1, .int .i64 x9.2.2.2.2.2.1] <|
                L.chk (⟨b1, 0, none⟩) [.string x8.1, .int .i64 x8.2.1, .int .i64 x8.2.2.1, .int .i64 x8.2.2.2.1, .int .i64 x8.2.2.2.2.1, .int .i64 x8.2.2.2.2.2.1] <|
                L.alts [(
                    L.call Pr n_damperlaw2_Config [.agg #[.string x9.1, .int .i64 x9.2.1, .int .i64 x9.2.2.1, .int .i64 x9.2.2.2.1, .int .i64 x9.2.2.2.2.1, .int .i64 x9.2.2.2.2.2.1], .int .i64 p3] (.one (.agg [.str, .int .i64, .int .i64, .int .i64, .int .i64, .int .i64])) fun (x274 : ByteArray × Int × Int × Int × Int × Int × Unit) =>
                    L.chk (⟨b3, 0, none⟩) [.string x10.1, .int .i64 x10.2.1, .int .i64 x10.2.2.1, .int .i64 x10.2.2.2.1, .int .i64 x10.2.2.2.2.1, .int .i64 x10.2.2.2.2.2.1] <|
                    L.alts [(
                        L.call Pr n_damperlaw2_Config [.agg #[.string x10.1, .int .i64 x10.2.1, .int .i64 x10.2.2.1, .int .i64 x10.2.2.2.1, .int .i64 x10.2.2.2.2.1, .int .i64 x10.2.2.2.2.2.1], .int .i64 p3] (.one (.agg [.str, .int .i64, .int .i64, .int .i64, .int .i64, .int .i64])) fun (x275 : ByteArray × Int × Int × Int × Int × Int × Unit) =>
                        L.new [.string s_, .int .i64 0, .int .i64 0, .int .i64 0, .int .i64 0, .int .i64 0] T_api_Config fun b276 =>
                        L.chk (⟨b3, 0, none⟩) [.string x10.1, .int .i64 x10.2.1, .int .i64 x10.2.2.1, .int .i64 x10.2.2.2.1, .int .i64 x10.2.2.2.2.1, .int .i64 x10.2.2.2.2.2.1] <|
                        L.chk (⟨b2, 0, none⟩) [.string x9.1, .int .i64 x9.2.1, .int .i64 x9.2.2.1, .int .i64 x9.2.2.2.1, .int .i64 x9.2.2.2.2.1, .int .i64 x9.2.2.2.2.2.1] <|
                        L.chk (⟨b1, 0, none⟩) [.string x8.1, .int .i64 x8.2.1, .int .i64 x8.2.2.1, .int .i64 x8.2.2.2.1, .int .i64 x8.2.2.2.2.1, .int .i64 x8.2.2.2.2.2.1] <|
                        L.store (⟨b276, 0, none⟩) [.string x247.1, .int .i64 x247.2.1, .int .i64 x247.2.2.1, .int .i64 x247.2.2.2.1, .int .i64 x247.2.2.2.2.1, .int .i64 x247.2.2.2.2.2.1] <|
                        L.store (⟨b246, 0, none⟩) [.string x274.1, .int .i64 x274.2.1, .int .i64 x274.2.2.1, .int .i64 x274.2.2.2.1, .int .i64 x274.2.2.2.2.1, .int .i64 x274.2.2.2.2.2.1] <|
                        L.store (⟨b273, 0, none⟩) [.string x275.1, .int .i64 x275.2.1, .int .i64 x275.2.2.1, .int .i64 x275.2.2.2.1, .int .i64 x275.2.2.2.2.1, .int .i64 x275.2.2.2.2.2.1] <|
                        k6 (⟨b276, 0, none⟩, ⟨b246, 0, none⟩, ⟨b273, 0, none⟩, ())),(
                        L.new [.string s_, .int .i64 0, .int .i64 0, .int .i64 0, .int .i64 0, .int .i64 0] T_api_Config fun b277 =>
                        L.chk (⟨b3, 0, none⟩) [.string x10.1, .int .i64 x10.2.1, .int .i64 x10.2.2.1, .int .i64 x10.2.2.2.1, .int .i64 x10.2.2.2.2.1, .int .i64 x10.2.2.2.2.2.1] <|
                        L.chk (⟨b2, 0, none⟩) [.string x9.1, .int .i64 x9.2.1, .int .i64 x9.2.2.1, .int .i64 x9.2.2.2.1, .int .i64 x9.2.2.2.2.1, .int .i64 x9.2.2.2.2.2.1] <|
                        L.chk (⟨b1, 0, none⟩) [.string x8.1, .int .i64 x8.2.1, .int .i64 x8.2.2.1, .int .i64 x8.2.2.2.1, .int .i64 x8.2.2.2.2.1, .int .i64 x8.2.2.2.2.2.1] <|
                        L.call Pr n_damperlaw2_Config [.agg #[.string x10.1, .int .i64 x10.2.1, .int .i64 x10.2.2.1, .int .i64 x10.2.2.2.1, .int .i64 x10.2.2.2.2.1, .int .i64 x10.2.2.2.2.2.1], .int .i64 p3] (.one (.agg [.str, .int .i64, .int .i64, .int .i64, .int .i64, .int .i64])) fun (x278 : ByteArray × Int × Int × Int × Int × Int × Unit) =>
                        L.store (⟨b277, 0, none⟩) [.string x247.1, .int .i64 x247.2.1, .int .i64 x247.2.2.1, .int .i64 x247.2.2.2.1, .int .i64 x247.2.2.2.2.1, .int .i64 x247.2.2.2.2.2.1] <|
                        L.store (⟨b246, 0, none⟩) [.string x274.1, .int .i64 x274.2.1, .int .i64 x274.2.2.1, .int .i64 x274.2.2.2.1, .int .i64 x274.2.2.2.2.1, .int .i64 x274.2.2.2.2.2.1] <|
                        L.store (⟨b273, 0, none⟩) [.string x278.1, .int .i64 x278.2.1, .int .i64 x278.2.2.1, .int .i64 x278.2.2.2.1, .int .i64 x278.2.2.2.2.1, .int .i64 x278.2.2.2.2.2.1] <|
                        k6 (⟨b277, 0, none⟩, ⟨b246, 0, none⟩, ⟨b273, 0, none⟩, ()))]),(
                    L.new [.string s_, .int .i64 0, .int .i64 0, .int .i64 0, .int .i64 0, .int .i64 0] T_api_Config fun b279 =>
                    L.chk (⟨b3, 0, none⟩) [.string x10.1, .int .i64 x10.2.1, .int .i64 x10.2.2.1, .int .i64 x10.2.2.2.1, .int .i64 x10.2.2.2.2.1, .int .i64 x10.2.2.2.2.2.1] <|
                    L.chk (⟨b2, 0, none⟩) [.string x9.1, .int .i64 x9.2.1, .int .i64 x9.2.2.1, .int .i64 x9.2.2.2.1, .int .i64 x9.2.2.2.2.1, .int .i64 x9.2.2.2.2.2.1] <|
                    L.chk (⟨b1, 0, none⟩) [.string x8.1, .int .i64 x8.2.1, .int .i64 x8.2.2.1, .int .i64 x8.2.2.2.1, .int .i64 x8.2.2.2.2.1, .int .i64 x8.2.2.2.2.2.1] <|
                    L.call Pr n_damperlaw2_Config [.agg #[.string x9.1, .int .i64 x9.2.1, .int .i64 x9.2.2.1, .int .i64 x9.2.2.2.1, .int .i64 x9.2.2.2.2.1, .int .i64 x9.2.2.2.2.2.1], .int .i64 p3] (.one (.agg [.str, .int .i64, .int .i64, .int .i64, .int .i64, .int .i64])) fun (x280 : ByteArray × Int × Int × Int × Int × Int × Unit) =>
                    L.chk (⟨b3, 0, none⟩) [.string x10.1, .int .i64 x10.2.1, .int .i64 x10.2.2.1, .int .i64 x10.2.2.2.1, .int .i64 x10.2.2.2.2.1, .int .i64 x10.2.2.2.2.2.1] <|
                    L.call Pr n_damperlaw2_Config [.agg #[.string x10.1, .int .i64 x10.2.1, .int .i64 x10.2.2.1, .int .i64 x10.2.2.2.1, .int .i64 x10.2.2.2.2.1, .int .i64 x10.2.2.2.2.2.1], .int .i64 p3] (.one (.agg [.str, .int .i64, .int .i64, .int .i64, .int .i64, .int .i64])) fun (x281 : ByteArray × Int × Int × Int × Int × Int × Unit) =>
                    L.store (⟨b279, 0, none⟩) [.string x247.1, .int .i64 x247.2.1, .int .i64 x247.2.2.1, .int .i64 x247.2.2.2.1, .int .i64 x247.2.2.2.2.1, .int .i64 x247.2.2.2.2.2.1] <|
                    L.store (⟨b246, 0, none⟩) [.string x280.1, .int .i64 x280.2.1, .int .i64 x280.2.2.1, .int .i64 x280.2.2.2.1, .int .i64 x280.2.2.2.2.1, .int .i64 x280.2.2.2.2.2.1] <|
                    L.store (⟨b273, 0, none⟩) [.string x281.1, .int .i64 x281.2.1, .int .i64 x281.2.2.1, .int .i64 x281.2.2.2.1, .int .i64 x281.2.2.2.2.1, .int .i64 x281.2.2.2.2.2.1] <|
                    k6 (⟨b279, 0, none⟩, ⟨b246, 0, none⟩, ⟨b273, 0, none⟩, ()))])]),(
            L.new [.string s_, .int .i64 0, .int .i64 0, .int .i64 0, .int .i64 0, .int .i64 0] T_api_Config fun b282 =>
            L.chk (⟨b3, 0, none⟩) [.string x10.1, .int .i64 x10.2.1, .int .i64 x10.2.2.1, .int .i64 x10.2.2.2.1, .int .i64 x10.2.2.2.2.1, .int .i64 x10.2.2.2.2.2.1] <|
            L.chk (⟨b2, 0, none⟩) [.string x9.1, .int .i64 x9.2.1, .int .i64 x9.2.2.1, .int .i64 x9.2.2.2.1, .int .i64 x9.2.2.2.2.1, .int .i64 x9.2.2.2.2.2.1] <|
            L.chk (⟨b1, 0, none⟩) [.string x8.1, .int .i64 x8.2.1, .int .i64 x8.2.2.1, .int .i64 x8.2.2.2.1, .int .i64 x8.2.2.2.2.1, .int .i64 x8.2.2.2.2.2.1] <|
            L.alts [(
                L.call Pr n_damperlaw2_Config [.agg #[.string x8.1, .int .i64 x8.2.1, .int .i64 x8.2.2.1, .int .i64 x8.2.2.2.1, .int .i64 x8.2.2.2.2.1, .int .i64 x8.2.2.2.2.2.1], .int .i64 p3] (.one (.agg [.str, .int .i64, .int .i64, .int .i64, .int .i64, .int .i64])) fun (x283 : ByteArray × Int × Int × Int × Int × Int × Unit) =>
                L.chk (⟨b3, 0, none⟩) [.string x10.1, .int .i64 x10.2.1, .int .i64 x10.2.2.1, .int .i64 x10.2.2.2.1, .int .i64 x10.2.2.2.2.1, .int .i64 x10.2.2.2.2.2.1] <|
                L.chk (⟨b2, 0, none⟩) [.string x9.1, .int .i64 x9.2.1, .int .i64 x9.2.2.1, .int .i64 x9.2.2.2.1, .int .i64 x9.2.2.2.2.1, .int .i64 x9.2.2.2.2.2.1] <|
                L.alts [(
                    L.call Pr n_damperlaw2_Config [.agg #[.string x9.1, .int .i64 x9.2.1, .int .i64 x9.2.2.1, .int .i64 x9.2.2.2.1, .int .i64 x9.2.2.2.2.1, .int .i64 x9.2.2.2.2.2.1], .int .i64 p3] (.one (.agg [.str, .int .i64, .int .i64, .int .i64, .int .i64, .int .i64])) fun (x284 : ByteArray × Int × Int × Int × Int × Int × Unit) =>
                    L.chk (⟨b3, 0, none⟩) [.string x10.1, .int .i64 x10.2.1, .int .i64 x10.2.2.1, .int .i64 x10.2.2.2.1, .int .i64 x10.2.2.2.2.1, .int .i64 x10.2.2.2.2.2.1] <|
                    L.alts [(
                        L.call Pr n_damperlaw2_Config [.agg #[.string x10.1, .int .i64 x10.2.1, .int .i64 x10.2.2.1, .int .i64 x10.2.2.2.1, .int .i64 x10.2.2.2.2.1, .int .i64 x10.2.2.2.2.2.1], .int .i64 p3] (.one (.agg [.str, .int .i64, .int .i64, .int .i64, .int .i64, .int .i64])) fun (x285 : ByteArray × Int × Int × Int × Int × Int × Unit) =>
                        L.new [.string s_, .int .i64 0, .int .i64 0, .int .i64 0, .int .i64 0, .int .i64 0] T_api_Config fun b286 =>
                        L.chk (⟨b3, 0, none⟩) [.string x10.1, .int .i64 x10.2.1, .int .i64 x10.2.2.1, .int .i64 x10.2.2.2.1, .int .i64 x10.2.2.2.2.1, .int .i64 x10.2.2.2.2.2.1] <|
                        L.chk (⟨b2, 0, none⟩) [.string x9.1, .int .i64 x9.2.1, .int .i64 x9.2.2.1, .int .i64 x9.2.2.2.1, .int .i64 x9.2.2.2.2.1, .int .i64 x9.2.2.2.2.2.1] <|
                        L.chk (⟨b1, 0, none⟩) [.string x8.1, .int .i64 x8.2.1, .int .i64 x8.2.2.1, .int .i64 x8.2.2.2.1, .int .i64 x8.2.2.2.2.1, .int .i64 x8.2.2.2.2.2.1] <|
                        L.store (⟨b282, 0, none⟩) [.string x283.1, .int .i64 x283.2.1, .int .i64 x283.2.2.1, .int .i64 x283.2.2.2.1, .int .i64 x283.2.2.2.2.1, .int .i64 x283.2.2.2.2.2.1] <|
                        L.store (⟨b246, 0, none⟩) [.string x284.1, .int .i64 x284.2.1, .int .i64 x284.2.2.1, .int .i64 x284.2.2.2.1, .int .i64 x284.2.2.2.2.1, .int .i64 x284.2.2.2.2.2.1] <|
                        L.store (⟨b286, 0, none⟩) [.string x285.1, .int .i64 x285.2.1, .int .i64 x285.2.2.1, .int .i64 x285.2.2.2.1, .int .i64 x285.2.2.2.2.1, .int .i64 x285.2.2.2.2.2.1] <|
                        k6 (⟨b282, 0, none⟩, ⟨b246, 0, none⟩, ⟨b286, 0, none⟩, ())),(
                        L.new [.string s_, .int .i64 0, .int .i64 0, .int .i64 0, .int .i64 0, .int .i64 0] T_api_Config fun b287 =>
                        L.chk (⟨b3, 0, none⟩) [.string x10.1, .int .i64 x10.2.1, .int .i64 x10.2.2.1, .int .i64 x10.2.2.2.1, .int .i64 x10.2.2.2.2.1, .int .i64 x10.2.2.2.2.2.1] <|
                        L.chk (⟨b2, 0, none⟩) [.string x9.1, .int .i64 x9.2.1, .int .i64 x9.2.2.1, .int .i64 x9.2.2.2.1, .int .i64 x9.2.2.2.2.1, .int .i64 x9.2.2.2.2.2.1] <|
                        L.chk (⟨b1, 0, none⟩) [.string x8.1, .int .i64 x8.2.1, .int .i64 x8.2.2.1, .int .i64 x8.2.2.2.1, .int .i64 x8.2.2.2.2.1, .int .i64 x8.2.2.2.2.2.1] <|
                        L.call Pr n_damperlaw2_Config [.agg #[.string x10.1, .int .i64 x10.2.1, .int .i64 x10.2.2.1, .int .i64 x10.2.2.2.1, .int .i64 x10.2.2.2.2.1, .int .i64 x10.2.2.2.2.2.1], .int .i64 p3] (.one (.agg [.str, .int .i64, .int .i64, .int .i64, .int .i64, .int .i64])) fun (x288 : ByteArray × Int × Int × Int × Int × Int × Unit) =>
                        L.store (⟨b282, 0, none⟩) [.string x283.1, .int .i64 x283.2.1, .int .i64 x283.2.2.1, .int .i64 x283.2.2.2.1, .int .i64 x283.2.2.2.2.1, .int .i64 x283.2.2.2.2.2.1] <|
                        L.store (⟨b246, 0, none⟩) [.string x284.1, .int .i64 x284.2.1, .int .i64 x284.2.2.1, .int .i64 x284.2.2.2.1, .int .i64 x284.2.2.2.2.1, .int .i64 x284.2.2.2.2.2.1] <|
                        L.store (⟨b287, 0, none⟩) [.string x288.1, .int .i64 x288.2.1, .int .i64 x288.2.2.1, .int .i64 x288.2.2.2.1, .int .i64 x288.2.2.2.2.1, .int .i64 x288.2.2.2.2.2.1] <|
                        k6 (⟨b282, 0, none⟩, ⟨b246, 0, none⟩, ⟨b287, 0, none⟩, ()))]),(
                    L.new [.string s_, .int .i64 0, .int .i64 0, .int .i64 0, .int .i64 0, .int .i64 0] T_api_Config fun b289 =>
                    L.chk (⟨b3, 0, none⟩) [.string x10.1, .int .i64 x10.2.1, .int .i64 x10.2.2.1, .int .i64 x10.2.2.2.1, .int .i64 x10.2.2.2.2.1, .int .i64 x10.2.2.2.2.2.1] <|
                    L.chk (⟨b2, 0, none⟩) [.string x9.1, .int .i64 x9.2.1, .int .i64 x9.2.2.1, .int .i64 x9.2.2.2.1, .int .i64 x9.2.2.2.2.1, .int .i64 x9.2.2.2.2.2.1] <|
                    L.chk (⟨b1, 0, none⟩) [.string x8.1, .int .i64 x8.2.1, .int .i64 x8.2.2.1, .int .i64 x8.2.2.2.1, .int .i64 x8.2.2.2.2.1, .int .i64 x8.2.2.2.2.2.1] <|
                    L.call Pr n_damperlaw2_Config [.agg #[.string x9.1, .int .i64 x9.2.1, .int .i64 x9.2.2.1, .int .i64 x9.2.2.2.1, .int .i64 x9.2.2.2.2.1, .int .i64 x9.2.2.2.2.2.1], .int .i64 p3] (.one (.agg [.str, .int .i64, .int .i64, .int .i64, .int .i64, .int .i64])) fun (x290 : ByteArray × Int × Int × Int × Int × Int × Unit) =>
                    L.chk (⟨b3, 0, none⟩) [.string x10.1, .int .i64 x10.2.1, .int .i64 x10.2.2.1, .int .i64 x10.2.2.2.1, .int .i64 x10.2.2.2.2.1, .int .i64 x10.2.2.2.2.2.1] <|
                    L.call Pr n_damperlaw2_Config [.agg #[.string x10.1, .int .i64 x10.2.1, .int .i64 x10.2.2.1, .int .i64 x10.2.2.2.1, .int .i64 x10.2.2.2.2.1, .int .i64 x10.2.2.2.2.2.1], .int .i64 p3] (.one (.agg [.str, .int .i64, .int .i64, .int .i64, .int .i64, .int .i64])) fun (x291 : ByteArray × Int × Int × Int × Int × Int × Unit) =>
                    L.store (⟨b282, 0, none⟩) [.string x283.1, .int .i64 x283.2.1, .int .i64 x283.2.2.1, .int .i64 x283.2.2.2.1, .int .i64 x283.2.2.2.2.1, .int .i64 x283.2.2.2.2.2.1] <|
                    L.store (⟨b246, 0, none⟩) [.string x290.1, .int .i64 x290.2.1, .int .i64 x290.2.2.1, .int .i64 x290.2.2.2.1, .int .i64 x290.2.2.2.2.1, .int .i64 x290.2.2.2.2.2.1] <|
                    L.store (⟨b289, 0, none⟩) [.string x291.1, .int .i64 x291.2.1, .int .i64 x291.2.2.1, .int .i64 x291.2.2.2.1, .int .i64 x291.2.2.2.2.1, .int .i64 x291.2.2.2.2.2.1] <|
                    k6 (⟨b282, 0, none⟩, ⟨b246, 0, none⟩, ⟨b289, 0, none⟩, ()))]),(
                L.new [.string s_, .int .i64 0, .int .i64 0, .int .i64 0, .int .i64 0, .int .i64 0] T_api_Config fun b292 =>
                L.chk (⟨b3, 0, none⟩) [.string x10.1, .int .i64 x10.2.1, .int .i64 x10.2.2.1, .int .i64 x10.2.2.2.1, .int .i64 x10.2.2.2.2.1, .int .i64 x10.2.2.2.2.2.1] <|
                L.chk (⟨b2, 0, none⟩) [.string x9.1, .int .i64 x9.2.1, .int .i64 x9.2.2.1, .int .i64 x9.2.2.2.1, .int .i64 x9.2.2.2.2.1, .int .i64 x9.2.2.2.2.2.1] <|
                L.chk (⟨b1, 0, none⟩) [.string x8.1, .int .i64 x8.2.1, .int .i64 x8.2.2.1, .int .i64 x8.2.2.2.1, .int .i64 x8.2.2.2.2.1, .int .i64 x8.2.2.2.2.2.1] <|
                L.call Pr n_damperlaw2_Config [.agg #[.string x8.1, .int .i64 x8.2.1, .int .i64 x8.2.2.1, .int .i64 x8.2.2.2.1, .int .i64 x8.2.2.2.2.1, .int .i64 x8.2.2.2.2.2.1], .int .i64 p3] (.one (.agg [.str, .int .i64, .int .i64, .int .i64, .int .i64, .int .i64])) fun (x293 : ByteArray × Int × Int × Int × Int × Int × Unit) =>
                L.chk (⟨b3, 0, none⟩) [.string x10.1, .int .i64 x10.2.1, .int .i64 x10.2.2.1, .int .i64 x10.2.2.2.1, .int .i64 x10.2.2.2.2.1, .int .i64 x10.2.2.2.2.2.1] <|
                L.chk (⟨b2, 0, none⟩) [.string x9.1, .int .i64 x9.2.1, .int .i64 x9.2.2.1, .int .i64 x9.2.2.2.1, .int .i64 x9.2.2.2.2.1, .int .i64 x9.2.2.2.2.2.1] <|
                L.call Pr n_damperlaw2_Config [.agg #[.string x9.1, .int .i64 x9.2.1, .int .i64 x9.2.2.1, .int .i64 x9.2.2.2.1, .int .i64 x9.2.2.2.2.1, .int .i64 x9.2.2.2.2.2.1], .int .i64 p3] (.one (.agg [.str, .int .i64, .int .i64, .int .i64, .int .i64, .int .i64])) fun (x294 : ByteArray × Int × Int × Int × Int × Int × Unit) =>
                L.chk (⟨b3, 0, none⟩) [.string x10.1, .int .i64 x10.2.1, .int .i64 x10.2.2.1, .int .i64 x10.2.2.2.1, .int .i64 x10.2.2.2.2.1, .int .i64 x10.2.2.2.2.2.1] <|
                L.call Pr n_damperlaw2_Config [.agg #[.string x10.1, .int .i64 x10.2.1, .int .i64 x10.2.2.1, .int .i64 x10.2.2.2.1, .int .i64 x10.2.2.2.2.1, .int .i64 x10.2.2.2.2.2.1], .int .i64 p3] (.one (.agg [.str, .int .i64, .int .i64, .int .i64, .int .i64, .int .i64])) fun (x295 : ByteArray × Int × Int × Int × Int × Int × Unit) =>
                L.store (⟨b282, 0, none⟩) [.string x293.1, .int .i64 x293.2.1, .int .i64 x293.2.2.1, .int .i64 x293.2.2.2.1, .int .i64 x293.2.2.2.2.1, .int .i64 x293.2.2.2.2.2.1] <|
                L.store (⟨b246, 0, none⟩) [.string x294.1, .int .i64 x294.2.1, .int .i64 x294.2.2.1, .int .i64 x294.2.2.2.1, .int .i64 x294.2.2.2.2.1, .int .i64 x294.2.2.2.2.2.1] <|
                L.store (⟨b292, 0, none⟩) [.string x295.1, .int .i64 x295.2.1, .int .i64 x295.2.2.1, .int .i64 x295.2.2.2.1, .int .i64 x295.2.2.2.2.1, .int .i64 x295.2.2.2.2.2.1] <|
                k6 (⟨b282, 0, none⟩, ⟨b246, 0, none⟩, ⟨b292, 0, none⟩, ()))]),(
            L.new [.string s_, .int .i64 0, .int .i64 0, .int .i64 0, .int .i64 0, .int .i64 0] T_api_Config fun b296 =>
            L.chk (⟨b3, 0, none⟩) [.string x10.1, .int .i64 x10.2.1, .int .i64 x10.2.2.1, .int .i64 x10.2.2.2.1, .int .i64 x10.2.2.2.2.1, .int .i64 x10.2.2.2.2.2.1] <|
            L.chk (⟨b2, 0, none⟩) [.string x9.1, .int .i64 x9.2.1, .int .i64 x9.2.2.1, .int .i64 x9.2.2.2.1, .int .i64 x9.2.2.2.2.1, .int .i64 x9.2.2.2.2.2.1] <|
            L.chk (⟨b1, 0, none⟩) [.string x8.1, .int .i64 x8.2.1, .int .i64 x8.2.2.1, .int .i64 x8.2.2.2.1, .int .i64 x8.2.2.2.2.1, .int .i64 x8.2.2.2.2.2.1] <|
            L.alts [(
                L.call Pr n_damperlaw2_Config [.agg #[.string x8.1, .int .i64 x8.2.1, .int .i64 x8.2.2.1, .int .i64 x8.2.2.2.1, .int .i64 x8.2.2.2.2.1, .int .i64 x8.2.2.2.2.2.1], .int .i64 p3] (.one (.agg [.str, .int .i64, .int .i64, .int .i64, .int .i64, .int .i64])) fun (x297 : ByteArray × Int × Int × Int × Int × Int × Unit) =>
                L.chk (⟨b3, 0, none⟩) [.string x10.1, .int .i64 x10.2.1, .int .i64 x10.2.2.1, .int .i64 x10.2.2.2.1, .int .i64 x10.2.2.2.2.1, .int .i64 x10.2.2.2.2.2.1] <|
                L.chk (⟨b2, 0, none⟩) [.string x9.1, .int .i64 x9.2.1, .int .i64 x9.2.2.1, .int .i64 x9.2.2.2.1, .int .i64 x9.2.2.2.2.1, .int .i64 x9.2.2.2.2.2.1] <|
                L.alts [(
                    L.call Pr n_damperlaw2_Config [.agg #[.string x9.1, .int .i64 x9.2.1, .int .i64 x9.2.2.1, .int .i64 x9.2.2.2.1, .int .i64 x9.2.2.2.2.1, .int .i64 x9.2.2.2.2.2.1], .int .i64 p3] (.one (.agg [.str, .int .i64, .int .i64, .int .i64, .int .i64, .int .i64])) fun (x298 : ByteArray × Int × Int × Int × Int × Int × Unit) =>
                    L.chk (⟨b3, 0, none⟩) [.string x10.1, .int .i64 x10.2.1, .int .i64 x10.2.2.1, .int .i64 x10.2.2.2.1, .int .i64 x10.2.2.2.2.1, .int .i64 x10.2.2.2.2.2.1] <|
                    L.alts [(
                        L.call Pr n_damperlaw2_Config [.agg #[.string x10.1, .int .i64 x10.2.1, .int .i64 x10.2.2.1, .int .i64 x10.2.2.2.1, .int .i64 x10.2.2.2.2.1, .int .i64 x10.2.2.2.2.2.1], .int .i64 p3] (.one (.agg [.str, .int .i64, .int .i64, .int .i64, .int .i64, .int .i64])) fun (x299 : ByteArray × Int × Int × Int × Int × Int × Unit) =>
                        L.new [.string s_, .int .i64 0, .int .i64 0, .int .i64 0, .int .i64 0, .int .i64 0] T_api_Config fun b300 =>
                        L.chk (⟨b3, 0, none⟩) [.string x10.1, .int .i64 x10.2.1, .int .i64 x10.2.2.1, .int .i64 x10.2.2.2.1, .int .i64 x10.2.2.2.2.1, .int .i64 x10.2.2.2.2.2.1] <|
                        L.chk (⟨b2, 0, none⟩) [.string x9.1, .int .i64 x9.2.1, .int .i64 x9.2.2.1, .int .i64 x9.2.2.2.1, .int .i64 x9.2.2.2.2.1, .int .i64 x9.2.2.2.2.2.1] <|
                        L.chk (⟨b1, 0, none⟩) [.string x8.1, .int .i64 x8.2.1, .int .i64 x8.2.2.1, .int .i64 x8.2.2.2.1, .int .i64 x8.2.2.2.2.1, .int .i64 x8.2.2.2.2.2.1] <|
                        L.store (⟨b300, 0, none⟩) [.string x297.1, .int .i64 x297.2.1, .int .i64 x297.2.2.1, .int .i64 x297.2.2.2.1, .int .i64 x297.2.2.2.2.1, .int .i64 x297.2.2.2.2.2.1] <|
                        L.store (⟨b246, 0, none⟩) [.string x298.1, .int .i64 x298.2.1, .int .i64 x298.2.2.1, .int .i64 x298.2.2.2.1, .int .i64 x298.2.2.2.2.1, .int .i64 x298.2.2.2.2.2.1] <|
                        L.store (⟨b296, 0, none⟩) [.string x299.1, .int .i64 x299.2.1, .int .i64 x299.2.2.1, .int .i64 x299.2.2.2.1, .int .i64 x299.2.2.2.2.1, .int .i64 x299.2.2.2.2.2.1] <|
                        k6 (⟨b300, 0, none⟩, ⟨b246, 0, none⟩, ⟨b296, 0, none⟩, ())),(
                        L.new [.string s_, .int .i64 0, .int .i64 0, .int .i64 0, .int .i64 0, .int .i64 0] T_api_Config fun b301 =>
                        L.chk (⟨b3, 0, none⟩) [.string x10.1, .int .i64 x10.2.1, .int .i64 x10.2.2.1, .int .i64 x10.2.2.2.1, .int .i64 x10.2.2.2.2.1, .int .i64 x10.2.2.2.2.2.1] <|
                        L.chk (⟨b2, 0, none⟩) [.string x9.1, .int .i64 x9.2.1, .int .i64 x9.2.2.1, .int .i64 x9.2.2.2.1, .int .i64 x9.2.2.2.2.1, .int .i64 x9.2.2.2.2.2.1] <|
                        L.chk (⟨b1, 0, none⟩) [.string x8.1, .int .i64 x8.2.1, .int .i64 x8.2.2.1, .int .i64 x8.2.2.2.1, .int .i64 x8.2.2.2.2.1, .int .i64 x8.2.2.2.2.2.1] <|
                        L.call Pr n_damperlaw2_Config [.agg #[.string x10.1, .int .i64 x10.2.1, .int .i64 x10.2.2.1, .int .i64 x10.2.2.2.1, .int .i64 x10.2.2.2.2.1, .int .i64 x10.2.2.2.2.2.1], .int .i64 p3] (.one (.agg [.str, .int .i64, .int .i64, .int .i64, .int .i64, .int .i64])) fun (x302 : ByteArray × Int × Int × Int × Int × Int × Unit) =>
                        L.store (⟨b301, 0, none⟩) [.string x297.1, .int .i64 x297.2.1, .int .i64 x297.2.2.1, .int .i64 x297.2.2.2.1, .int .i64 x297.2.2.2.2.1, .int .i64 x297.2.2.2.2.2.1] <|
                        L.store (⟨b246, 0, none⟩) [.string x298.1, .int .i64 x298.2.1, .int .i64 x298.2.2.1, .int .i64 x298.2.2.2.1, .int .i64 x298.2.2.2.2.1, .int .i64 x298.2.2.2.2.2.1] <|
                        L.store (⟨b296, 0, none⟩) [.string x302.1, .int .i64 x302.2.1, .int .i64 x302.2.2.1, .int .i64 x302.2.2.2.1, .int .i64 x302.2.2.2.2.1, .int .i64 x302.2.2.2.2.2.1] <|
                        k6 (⟨b301, 0, none⟩, ⟨b246, 0, none⟩, ⟨b296, 0, none⟩, ()))]),(
                    L.new [.string s_, .int .i64 0, .int .i64 0, .int .i64 0, .int .i64 0, .int .i64 0] T_api_Config fun b303 =>
                    L.chk (⟨b3, 0, none⟩) [.string x10.1, .int .i64 x10.2.1, .int .i64 x10.2.2.1, .int .i64 x10.2.2.2.1, .int .i64 x10.2.2.2.2.1, .int .i64 x10.2.2.2.2.2.1] <|
                    L.chk (⟨b2, 0, none⟩) [.string x9.1, .int .i64 x9.2.1, .int .i64 x9.2.2.1, .int .i64 x9.2.2.2.1, .int .i64 x9.2.2.2.2.1, .int .i64 x9.2.2.2.2.2.1] <|
                    L.chk (⟨b1, 0, none⟩) [.string x8.1, .int .i64 x8.2.1, .int .i64 x8.2.2.1, .int .i64 x8.2.2.2.1, .int .i64 x8.2.2.2.2.1, .int .i64 x8.2.2.2.2.2.1] <|
                    L.call Pr n_damperlaw2_Config [.agg #[.string x9.1, .int .i64 x9.2.1, .int .i64 x9.2.2.1, .int .i64 x9.2.2.2.1, .int .i64 x9.2.2.2.2.1, .int .i64 x9.2.2.2.2.2.1], .int .i64 p3] (.one (.agg [.str, .int .i64, .int .i64, .int .i64, .int .i64, .int .i64])) fun (x304 : ByteArray × Int × Int × Int × Int × Int × Unit) =>
                    L.chk (⟨b3, 0, none⟩) [.string x10.1, .int .i64 x10.2.1, .int .i64 x10.2.2.1, .int .i64 x10.2.2.2.1, .int .i64 x10.2.2.2.2.1, .int .i64 x10.2.2.2.2.2.1] <|
                    L.call Pr n_damperlaw2_Config [.agg #[.string x10.1, .int .i64 x10.2.1, .int .i64 x10.2.2.1, .int .i64 x10.2.2.2.1, .int .i64 x10.2.2.2.2.1, .int .i64 x10.2.2.2.2.2.1], .int .i64 p3] (.one (.agg [.str, .int .i64, .int .i64, .int .i64, .int .i64, .int .i64])) fun (x305 : ByteArray × Int × Int × Int × Int × Int × Unit) =>
                    L.store (⟨b303, 0, none⟩) [.string x297.1, .int .i64 x297.2.1, .int .i64 x297.2.2.1, .int .i64 x297.2.2.2.1, .int .i64 x297.2.2.2.2.1, .int .i64 x297.2.2.2.2.2.1] <|
                    L.store (⟨b246, 0, none⟩) [.string x304.1, .int .i64 x304.2.1, .int .i64 x304.2.2.1, .int .i64 x304.2.2.2.1, .int .i64 x304.2.2.2.2.1, .int .i64 x304.2.2.2.2.2.1] <|
                    L.store (⟨b296, 0, none⟩) [.string x305.1, .int .i64 x305.2.1, .int .i64 x305.2.2.1, .int .i64 x305.2.2.2.1, .int .i64 x305.2.2.2.2.1, .int .i64 x305.2.2.2.2.2.1] <|
                    k6 (⟨b303, 0, none⟩, ⟨b246, 0, none⟩, ⟨b296, 0, none⟩, ()))]),(
                L.new [.string s_, .int .i64 0, .int .i64 0, .int .i64 0, .int .i64 0, .int .i64 0] T_api_Config fun b306 =>
                L.chk (⟨b3, 0, none⟩) [.string x10.1, .int .i64 x10.2.1, .int .i64 x10.2.2.1, .int .i64 x10.2.2.2.1, .int .i64 x10.2.2.2.2.1, .int .i64 x10.2.2.2.2.2.1] <|
                L.chk (⟨b2, 0, none⟩) [.string x9.1, .int .i64 x9.2.1, .int .i64 x9.2.2.1, .int .i64 x9.2.2.2.1, .int .i64 x9.2.2.2.2.1, .int .i64 x9.2.2.2.2.2.1] <|
                L.chk (⟨b1, 0, none⟩) [.string x8.1, .int .i64 x8.2.1, .int .i64 x8.2.2.1, .int .i64 x8.2.2.2.1, .int .i64 x8.2.2.2.2.1, .int .i64 x8.2.2.2.2.2.1] <|
                L.call Pr n_damperlaw2_Config [.agg #[.string x8.1, .int .i64 x8.2.1, .int .i64 x8.2.2.1, .int .i64 x8.2.2.2.1, .int .i64 x8.2.2.2.2.1, .int .i64 x8.2.2.2.2.2.1], .int .i64 p3] (.one (.agg [.str, .int .i64, .int .i64, .int .i64, .int .i64, .int .i64])) fun (x307 : ByteArray × Int × Int × Int × Int × Int × Unit) =>
                L.chk (⟨b3, 0, none⟩) [.string x10.1, .int .i64 x10.2.1, .int .i64 x10.2.2.1, .int .i64 x10.2.2.2.1, .int .i64 x10.2.2.2.2.1, .int .i64 x10.2.2.2.2.2.1] <|
                L.chk (⟨b2, 0, none⟩) [.string x9.1, .int .i64 x9.2.1, .int .i64 x9.2.2.1, .int .i64 x9.2.2.2.1, .int .i64 x9.2.2.2.2.1, .int .i64 x9.2.2.2.2.2.1] <|
                L.call Pr n_damperlaw2_Config [.agg #[.string x9.1, .int .i64 x9.2.1, .int .i64 x9.2.2.1, .int .i64 x9.2.2.2.1, .int .i64 x9.2.2.2.2.1, .int .i64 x9.2.2.2.2.2.1], .int .i64 p3] (.one (.agg [.str, .int .i64, .int .i64, .int .i64, .int .i64, .int .i64])) fun (x308 : ByteArray × Int × Int × Int × Int × Int × Unit) =>
                L.chk (⟨b3, 0, none⟩) [.string x10.1, .int .i64 x10.2.1, .int .i64 x10.2.2.1, .int .i64 x10.2.2.2.1, .int .i64 x10.2.2.2.2.1, .int .i64 x10.2.2.2.2.2.1] <|
                L.call Pr n_damperlaw2_Config [.agg #[.string x10.1, .int .i64 x10.2.1, .int .i64 x10.2.2.1, .int .i64 x10.2.2.2.1, .int .i64 x10.2.2.2.2.1, .int .i64 x10.2.2.2.2.2.1], .int .i64 p3] (.one (.agg [.str, .int .i64, .int .i64, .int .i64, .int .i64, .int .i64])) fun (x309 : ByteArray × Int × Int × Int × Int × Int × Unit) =>
                L.store (⟨b306, 0, none⟩) [.string x307.1, .int .i64 x307.2.1, .int .i64 x307.2.2.1, .int .i64 x307.2.2.2.1, .int .i64 x307.2.2.2.2.1, .int .i64 x307.2.2.2.2.2.1] <|
                L.store (⟨b246, 0, none⟩) [.string x308.1, .int .i64 x308.2.1, .int .i64 x308.2.2.1, .int .i64 x308.2.2.2.1, .int .i64 x308.2.2.2.2.1, .int .i64 x308.2.2.2.2.2.1] <|
                L.store (⟨b296, 0, none⟩) [.string x309.1, .int .i64 x309.2.1, .int .i64 x309.2.2.1, .int .i64 x309.2.2.2.1, .int .i64 x309.2.2.2.2.1, .int .i64 x309.2.2.2.2.2.1] <|
                k6 (⟨b306, 0, none⟩, ⟨b246, 0, none⟩, ⟨b296, 0, none⟩, ()))])]),(
        L.new [.string s_, .int .i64 0, .int .i64 0, .int .i64 0, .int .i64 0, .int .i64 0] T_api_Config fun b310 =>
        L.chk (⟨b3, 0, none⟩) [.string x10.1, .int .i64 x10.2.1, .int .i64 x10.2.2.1, .int .i64 x10.2.2.2.1, .int .i64 x10.2.2.2.2.1, .int .i64 x10.2.2.2.2.2.1] <|
        L.chk (⟨b2, 0, none⟩) [.string x9.1, .int .i64 x9.2.1, .int .i64 x9.2.2.1, .int .i64 x9.2.2.2.1, .int .i64 x9.2.2.2.2.1, .int .i64 x9.2.2.2.2.2.1] <|
        L.chk (⟨b1, 0, none⟩) [.string x8.1, .int .i64 x8.2.1, .int .i64 x8.2.2.1, .int .i64 x8.2.2.2.1, .int .i64 x8.2.2.2.2.1, .int .i64 x8.2.2.2.2.2.1] <|
        L.alts [(
            L.call Pr n_damperlaw2_Config [.agg #[.string x8.1, .int .i64 x8.2.1, .int .i64 x8.2.2.1, .int .i64 x8.2.2.2.1, .int .i64 x8.2.2.2.2.1, .int .i64 x8.2.2.2.2.2.1], .int .i64 p3] (.one (.agg [.str, .int .i64, .int .i64, .int .i64, .int .i64, .int .i64])) fun (x311 : ByteArray × Int × Int × Int × Int × Int × Unit) =>
            L.chk (⟨b3, 0, none⟩) [.string x10.1, .int .i64 x10.2.1, .int .i64 x10.2.2.1, .int .i64 x10.2.2.2.1, .int .i64 x10.2.2.2.2.1, .int .i64 x10.2.2.2.2.2.1] <|
            L.chk (⟨b2, 0, none⟩) [.string x9.1, .int .i64 x9.2.1, .int .i64 x9.2.2.1, .int .i64 x9.2.2.2.1, .int .i64 x9.2.2.2.2.1, .int .i64 x9.2.2.2.2.2.1] <|
            L.alts [(
                L.call Pr n_damperlaw2_Config [.agg #[.string x9.1, .int .i64 x9.2.1, .int .i64 x9.2.2.1, .int .i64 x9.2.2.2.1, .int .i64 x9.2.2.2.2.1, .int .i64 x9.2.2.2.2.2.1], .int .i64 p3] (.one (.agg [.str, .int .i64, .int .i64, .int .i64, .int .i64, .int .i64])) fun (x312 : ByteArray × Int × Int × Int × Int × Int × Unit) =>
                L.chk (⟨b3, 0, none⟩) [.string x10.1, .int .i64 x10.2.1, .int .i64 x10.2.2.1, .int .i64 x10.2.2.2.1, .int .i64 x10.2.2.2.2.1, .int .i64 x10.2.2.2.2.2.1] <|
                L.alts [(
                    L.call Pr n_damperlaw2_Config [.agg #[.string x10.1, .int .i64 x10.2.1, .int .i64 x10.2.2.1, .int .i64 x10.2.2.2.1, .int .i64 x10.2.2.2.2.1, .int .i64 x10.2.2.2.2.2.1], .int .i64 p3] (.one (.agg [.str, .int .i64, .int .i64, .int .i64, .int .i64, .int .i64])) fun (x313 : ByteArray × Int × Int × Int × Int × Int × Unit) =>
                    L.alts [(
                        L.new [.string s_, .int .i64 0, .int .i64 0, .int .i64 0, .int .i64 0, .int .i64 0] T_api_Config fun b314 =>
                        L.chk (⟨b3, 0, none⟩) [.string x10.1, .int .i64 x10.2.1, .int .i64 x10.2.2.1, .int .i64 x10.2.2.2.1, .int .i64 x10.2.2.2.2.1, .int .i64 x10.2.2.2.2.2.1] <|
                        L.chk (⟨b2, 0, none⟩) [.string x9.1, .int .i64 x9.2.1, .int .i64 x9.2.2.1, .int .i64 x9.2.2.2.1, .int .i64 x9.2.2.2.2.1, .int .i64 x9.2.2.2.2.2.1] <|
                        L.chk (⟨b1, 0, none⟩) [.string x8.1, .int .i64 x8.2.1, .int .i64 x8.2.2.1, .int .i64 x8.2.2.2.1, .int .i64 x8.2.2.2.2.1, .int .i64 x8.2.2.2.2.2.1] <|
                        L.new [.string s_, .int .i64 0, .int .i64 0, .int .i64 0, .int .i64 0, .int .i64 0] T_api_Config fun b315 =>
                        L.chk (⟨b3, 0, none⟩) [.string x10.1, .int .i64 x10.2.1, .int .i64 x10.2.2.1, .int .i64 x10.2.2.2.1, .int .i64 x10.2.2.2.2.1, .int .i64 x10.2.2.2.2.2.1] <|
                        L.chk (⟨b2, 0, none⟩) [.string x9.1, .int .i64 x9.2.1, .int .i64 x9.2.2.1, .int .i64 x9.2.2.2.1, .int .i64 x9.2.2.2.2.1, .int .i64 x9.2.2.2.2.2.1] <|
                        L.chk (⟨b1, 0, none⟩) [.string x8.1, .int .i64 x8.2.1, .int .i64 x8.2.2.1, .int .i64 x8.2.2.2.1, .int .i64 x8.2.2.2.2.1, .int .i64 x8.2.2.2.2.2.1] <|
                        L.store (⟨b314, 0, none⟩) [.string x311.1, .int .i64 x311.2.1, .int .i64 x311.2.2.1, .int .i64 x311.2.2.2.1, .int .i64 x311.2.2.2.2.1, .int .i64 x311.2.2.2.2.2.1] <|
                        L.store (⟨b315, 0, none⟩) [.string x312.1, .int .i64 x312.2.1, .int .i64 x312.2.2.1, .int .i64 x312.2.2.2.1, .int .i64 x312.2.2.2.2.1, .int .i64 x312.2.2.2.2.2.1] <|
                        L.store (⟨b310, 0, none⟩) [.string x313.1, .int .i64 x313.2.1, .int .i64 x313.2.2.1, .int .i64 x313.2.2.2.1, .int .i64 x313.2.2.2.2.1, .int .i64 x313.2.2.2.2.2.1] <|
                        k6 (⟨b314, 0, none⟩, ⟨b315, 0, none⟩, ⟨b310, 0, none⟩, ())),(
                        L.new [.string s_, .int .i64 0, .int .i64 0, .int .i64 0, .int .i64 0, .int .i64 0] T_api_Config fun b316 =>
                        L.chk (⟨b3, 0, none⟩) [.string x10.1, .int .i64 x10.2.1, .int .i64 x10.2.2.1, .int .i64 x10.2.2.2.1, .int .i64 x10.2.2.2.2.1, .int .i64 x10.2.2.2.2.2.1] <|
                        L.chk (⟨b2, 0, none⟩) [.string x9.1, .int .i64 x9.2.1, .int .i64 x9.2.2.1, .int .i64 x9.2.2.2.1, .int .i64 x9.2.2.2.2.1, .int .i64 x9.2.2.2.2.2.1] <|
                        L.chk (⟨b1, 0, none⟩) [.string x8.1, .int .i64 x8.2.1, .int .i64 x8.2.2.1, .int .i64 x8.2.2.2.1, .int .i64 x8.2.2.2.2.1, .int .i64 x8.2.2.2.2.2.1] <|
                        L.new [.string s_, .int .i64 0, .int .i64 0, .int .i64 0, .int .i64 0, .int .i64 0] T_api_Config fun b317 =>
                        L.chk (⟨b3, 0, none⟩) [.string x10.1, .int .i64 x10.2.1, .int .i64 x10.2.2.1, .int .i64 x10.2.2.2.1, .int .i64 x10.2.2.2.2.1, .int .i64 x10.2.2.2.2.2.1] <|
                        L.chk (⟨b2, 0, none⟩) [.string x9.1, .int .i64 x9.2.1, .int .i64 x9.2.2.1, .int .i64 x9.2.2.2.1, .int .i64 x9.2.2.2.2.1, .int .i64 x9.2.2.2.2.2.1] <|
                        L.chk (⟨b1, 0, none⟩) [.string x8.1, .int .i64 x8.2.1, .int .i64 x8.2.2.1, .int .i64 x8.2.2.2.1, .int .i64 x8.2.2.2.2.1, .int .i64 x8.2.2.2.2.2.1] <|
                        L.store (⟨b317, 0, none⟩) [.string x311.1, .int .i64 x311.2.1, .int .i64 x311.2.2.1, .int .i64 x311.2.2.2.1, .int .i64 x311.2.2.2.2.1, .int .i64 x311.2.2.2.2.2.1] <|
                        L.store (⟨b316, 0, none⟩) [.string x312.1, .int .i64 x312.2.1, .int .i64 x312.2.2.1, .int .i64 x312.2.2.2.1, .int .i64 x312.2.2.2.2.1, .int .i64 x312.2.2.2.2.2.1] <|
                        L.store (⟨b310, 0, none⟩) [.string x313.1, .int .i64 x313.2.1, .int .i64 x313.2.2.1, .int .i64 x313.2.2.2.1, .int .i64 x313.2.2.2.2.1, .int .i64 x313.2.2.2.2.2.1] <|
                        k6 (⟨b317, 0, none⟩, ⟨b316, 0, none⟩, ⟨b310, 0, none⟩, ()))]),(
                    L.new [.string s_, .int .i64 0, .int .i64 0, .int .i64 0, .int .i64 0, .int .i64 0] T_api_Config fun b318 =>
                    L.chk (⟨b3, 0, none⟩) [.string x10.1, .int .i64 x10.2.1, .int .i64 x10.2.2.1, .int .i64 x10.2.2.2.1, .int .i64 x10.2.2.2.2.1, .int .i64 x10.2.2.2.2.2.1] <|
                    L.chk (⟨b2, 0, none⟩) [.string x9.1, .int .i64 x9.2.1, .int .i64 x9.2.2.1, .int .i64 x9.2.2.2.1, .int .i64 x9.2.2.2.2.1, .int .i64 x9.2.2.2.2.2.1] <|
                    L.chk (⟨b1, 0, none⟩) [.string x8.1, .int .i64 x8.2.1, .int .i64 x8.2.2.1, .int .i64 x8.2.2.2.1, .int .i64 x8.2.2.2.2.1, .int .i64 x8.2.2.2.2.2.1] <|
                    L.alts [(
                        L.call Pr n_damperlaw2_Config [.agg #[.string x10.1, .int .i64 x10.2.1, .int .i64 x10.2.2.1, .int .i64 x10.2.2.2.1, .int .i64 x10.2.2.2.2.1, .int .i64 x10.2.2.2.2.2.1], .int .i64 p3] (.one (.agg [.str, .int .i64, .int .i64, .int .i64, .int .i64, .int .i64])) fun (x319 : ByteArray × Int × Int × Int × Int × Int × Unit) =>
                        L.new [.string s_, .int .i64 0, .int .i64 0, .int .i64 0, .int .i64 0, .int .i64 0] T_api_Config fun b320 =>
                        L.chk (⟨b3, 0, none⟩) [.string x10.1, .int .i64 x10.2.1, .int .i64 x10.2.2.1, .int .i64 x10.2.2.2.1, .int .i64 x10.2.2.2.2.1, .int .i64 x10.2.2.2.2.2.1] <|
                        L.chk (⟨b2, 0, none⟩) [.string x9.1, .int .i64 x9.2.1, .int .i64 x9.2.2.1, .int .i64 x9.2.2.2.1, .int .i64 x9.2.2.2.2.1, .int .i64 x9.2.2.2.2.2.1] <|
                        L.chk (⟨b1, 0, none⟩) [.string x8.1, .int .i64 x8.2.1, .int .i64 x8.2.2.1, .int .i64 x8.2.2.2.1, .int .i64 x8.2.2.2.2.1, .int .i64 x8.2.2.2.2.2.1] <|
                        L.store (⟨b318, 0, none⟩) [.string x311.1, .int .i64 x311.2.1, .int .i64 x311.2.2.1, .int .i64 x311.2.2.2.1, .int .i64 x311.2.2.2.2.1, .int .i64 x311.2.2.2.2.2.1] <|
                        L.store (⟨b320, 0, none⟩) [.string x312.1, .int .i64 x312.2.1, .int .i64 x312.2.2.1, .int .i64 x312.2.2.2.1, .int .i64 x312.2.2.2.2.1, .int .i64 x312.2.2.2.2.2.1] <|
                        L.store (⟨b310, 0, none⟩) [.string x319.1, .int .i64 x319.2.1, .int .i64 x319.2.2.1, .int .i64 x319.2.2.2.1, .int .i64 x319.2.2.2.2.1, .int .i64 x319.2.2.2.2.2.1] <|
                        k6 (⟨b318, 0, none⟩, ⟨b320, 0, none⟩, ⟨b310, 0, none⟩, ())),(
                        L.new [.string s_, .int .i64 0, .int .i64 0, .int .i64 0, .int .i64 0, .int .i64 0] T_api_Config fun b321 =>
                        L.chk (⟨b3, 0, none⟩) [.string x10.1, .int .i64 x10.2.1, .int .i64 x10.2.2.1, .int .i64 x10.2.2.2.1, .int .i64 x10.2.2.2.2.1, .int .i64 x10.2.2.2.2.2.1] <|
                        L.chk (⟨b2, 0, none⟩) [.string x9.1, .int .i64 x9.2.1, .int .i64 x9.2.2.1, .int .i64 x9.2.2.2.1, .int .i64 x9.2.2.2.2.1, .int .i64 x9.2.2.2.2.2.1] <|
                        L.chk (⟨b1, 0, none⟩) [.string x8.1, .int .i64 x8.2.1, .int .i64 x8.2.2.1, .int .i64 x8.2.2.2.1, .int .i64 x8.2.2.2.2.1, .int .i64 x8.2.2.2.2.2.1] <|
                        L.call Pr n_damperlaw2_Config [.agg #[.string x10.1, .int .i64 x10.2.1, .int .i64 x10.2.2.1, .int .i64 x10.2.2.2.1, .int .i64 x10.2.2.2.2.1, .int .i64 x10.2.2.2.2.2.1], .int .i64 p3] (.one (.agg [.str, .int .i64, .int .i64, .int .i64, .int .i64, .int .i64])) fun (x322 : ByteArray × Int × Int × Int × Int × Int × Unit) =>
                        L.store (⟨b318, 0, none⟩) [.string x311.1, .int .i64 x311.2.1, .int .i64 x311.2.2.1, .int .i64 x311.2.2.2.1, .int .i64 x311.2.2.2.2.1, .int .i64 x311.2.2.2.2.2.1] <|
                        L.store (⟨b321, 0, none⟩) [.string x312.1, .int .i64 x312.2.1, .int .i64 x312.2.2.1, .int .i64 x312.2.2.2.1, .int .i64 x312.2.2.2.2.1, .int .i64 x312.2.2.2.2.2.1] <|
                        L.store (⟨b310, 0, none⟩) [.string x322.1, .int .i64 x322.2.1, .int .i64 x322.2.2.1, .int .i64 x322.2.2.2.1, .int .i64 x322.2.2.2.2.1, .int .i64 x322.2.2.2.2.2.1] <|
                        k6 (⟨b318, 0, none⟩, ⟨b321, 0, none⟩, ⟨b310, 0, none⟩, ()))]),(
                    L.new [.string s_, .int .i64 0, .int .i64 0, .int .i64 0, .int .i64 0, .int .i64 0] T_api_Config fun b323 =>
                    L.chk (⟨b3, 0, none⟩) [.string x10.1, .int .i64 x10.2.1, .int .i64 x10.2.2.1, .int .i64 x10.2.2.2.1, .int .i64 x10.2.2.2.2.1, .int .i64 x10.2.2.2.2.2.1] <|
                    L.chk (⟨b2, 0, none⟩) [.string x9.1, .int .i64 x9.2.1, .int .i64 x9.2.2.1, .int .i64 x9.2.2.2.1, .int .i64 x9.2.2.2.2.1, .int .i64 x9.2.2.2.2.2.1] <|
                    L.chk (⟨b1, 0, none⟩) [.string x8.1, .int .i64 x8.2.1, .int .i64 x8.2.2.1, .int .i64 x8.2.2.2.1, .int .i64 x8.2.2.2.2.1, .int .i64 x8.2.2.2.2.2.1] <|
                    L.alts [(
                        L.call Pr n_damperlaw2_Config [.agg #[.string x10.1, .int .i64 x10.2.1, .int .i64 x10.2.2.1, .int .i64 x10.2.2.2.1, .int .i64 x10.2.2.2.2.1, .int .i64 x10.2.2.2.2.2.1], .int .i64 p3] (.one (.agg [.str, .int .i64, .int .i64, .int .i64, .int .i64, .int .i64])) fun (x324 : ByteArray × Int × Int × Int × Int × Int × Unit) =>
                        L.new [.string s_, .int .i64 0, .int .i64 0, .int .i64 0, .int .i64 0, .int .i64 0] T_api_Config fun b325 =>
                        L.chk (⟨b3, 0, none⟩) [.string x10.1, .int .i64 x10.2.1, .int .i64 x10.2.2.1, .int .i64 x10.2.2.2.1, .int .i64 x10.2.2.2.2.1, .int .i64 x10.2.2.2.2.2.1] <|
                        L.chk (⟨b2, 0, none⟩) [.string x9.1, .int .i64 x9.2.1, .int .i64 x9.2.2.1, .int .i64 x9.2.2.2.1, .int .i64 x9.2.2.2.2.1, .int .i64 x9.2.2.2.2.2.1] <|
                        L.chk (⟨b1, 0, none⟩) [.string x8.1, .int .i64 x8.2.1, .int .i64 x8.2.2.1, .int .i64 x8.2.2.2.1, .int .i64 x8.2.2.2.2.1, .int .i64 x8.2.2.2.2.2.1] <|
                        L.store (⟨b325, 0, none⟩) [.string x311.1, .int .i64 x311.2.1, .int .i64 x311.2.2.1, .int .i64 x311.2.2.2.1, .int .i64 x311.2.2.2.2.1, .int .i64 x311.2.2.2.2.2.1] <|
                        L.store (⟨b323, 0, none⟩) [.string x312.1, .int .i64 x312.2.1, .int .i64 x312.2.2.1, .int .i64 x312.2.2.2.1, .int .i64 x312.2.2.2.2.1, .int .i64 x312.2.2.2.2.2.1] <|
                        L.store (⟨b310, 0, none⟩) [.string x324.1, .int .i64 x324.2.1, .int .i64 x324.2.2.1, .int .i64 x324.2.2.2.1, .int .i64 x324.2.2.2.2.1, .int .i64 x324.2.2.2.2.2.1] <|
                        k6 (⟨b325, 0, none⟩, ⟨b323, 0, none⟩, ⟨b310, 0, none⟩, ())),(
                        L.new [.string s_, .int .i64 0, .int .i64 0, .int .i64 0, .int .i64 0, .int .i64 0] T_api_Config fun b326 =>
                        L.chk (⟨b3, 0, none⟩) [.string x10.1, .int .i64 x10.2.1, .int .i64 x10.2.2.1, .int .i64 x10.2.2.2.1, .int .i64 x10.2.2.2.2.1, .int .i64 x10.2.2.2.2.2.1] <|
                        L.chk (⟨b2, 0, none⟩) [.string x9.1, .int .i64 x9.2.1, .int .i64 x9.2.2.1, .int .i64 x9.2.2.2.1, .int .i64 x9.2.2.2.2.1, .int .i64 x9.2.2.2.2.2.1] <|
                        L.chk (⟨b1, 0, none⟩) [.string x8.1, .int .i64 x8.2.1, .int .i64 x8.2.2.1, .int .i64 x8.2.2.2.1, .int .i64 x8.2.2.2.2.1, .int .i64 x8.2.2.2.2.2.1] <|
                        L.call Pr n_damperlaw2_Config [.agg #[.string x10.1, .int .i64 x10.2.1, .int .i64 x10.2.2.1, .int .i64 x10.2.2.2.1, .int .i64 x10.2.2.2.2.1, .int .i64 x10.2.2.2.2.2.1], .int .i64 p3] (.one (.agg [.str, .int .i64, .int .i64, .int .i64, .int .i64, .int .i64])) fun (x327 : ByteArray × Int × Int × Int × Int × Int × Unit) =>
                        L.store (⟨b326, 0, none⟩) [.string x311.1, .int .i64 x311.2.1, .int .i64 x311.2.2.1, .int .i64 x311.2.2.2.1, .int .i64 x311.2.2.2.2.1, .int .i64 x311.2.2.2.2.2.1] <|
                        L.store (⟨b323, 0, none⟩) [.string x312.1, .int .i64 x312.2.1, .int .i64 x312.2.2.1, .int .i64 x312.2.2.2.1, .int .i64 x312.2.2.2.2.1, .int .i64 x312.2.2.2.2.2.1] <|
                        L.store (⟨b310, 0, none⟩) [.string x327.1, .int .i64 x327.2.1, .int .i64 x327.2.2.1, .int .i64 x327.2.2.2.1, .int .i64 x327.2.2.2.2.1, .int .i64 x327.2.2.2.2.2.1] <|
                        k6 (⟨b326, 0, none⟩, ⟨b323, 0, none⟩, ⟨b310, 0, none⟩, ()))])]),(
                L.new [.string s_, .int .i64 0, .int .i64 0, .int .i64 0, .int .i64 0, .int .i64 0] T_api_Config fun b328 =>
                L.chk (⟨b3, 0, none⟩) [.string x10.1, .int .i64 x10.2.1, .int .i64 x10.2.2.1, .int .i64 x10.2.2.2.1, .int .i64 x10.2.2.2.2.1, .int .i64 x10.2.2.2.2.2.1] <|
                L.chk (⟨b2, 0, none⟩) [.string x9.1, .int .i64 x9.2.1, .int .i64 x9.2.2.1, .int .i64 x9.2.2.2.1, .int .i64 x9.2.2.2.2.1, .int .i64 x9.2.2.2.2.2.1] <|
                L.chk (⟨b1, 0, none⟩) [.string x8.1, .int .i64 x8.2.1, .int .i64 x8.2.2.1, .int .i64 x8.2.2.2.1, .int .i64 x8.2.2.2.2.1, .int .i64 x8.2.2.2.2.2.1] <|
                L.alts [(
                    L.call Pr n_damperlaw2_Config [.agg #[.string x9.1, .int .i64 x9.2.1, .int .i64 x9.2.2.1, .int .i64 x9.2.2.2.1, .int .i64 x9.2.2.2.2.1, .int .i64 x9.2.2.2.2.2.1], .int .i64 p3] (.one (.agg [.str, .int .i64, .int .i64, .int .i64, .int .i64, .int .i64])) fun (x329 : ByteArray × Int × Int × Int × Int × Int × Unit) =>
                    L.chk (⟨b3, 0, none⟩) [.string x10.1, .int .i64 x10.2.1, .int .i64 x10.2.2.1, .int .i64 x10.2.2.2.1, .int .i64 x10.2.2.2.2.1, .int .i64 x10.2.2.2.2.2.1] <|
                    L.alts [(
                        L.call Pr n_damperlaw2_Config [.agg #[.string x10.1, .int .i64 x10.2.1, .int .i64 x10.2.2.1, .int .i64 x10.2.2.2.1, .int .i64 x10.2.2.2.2.1, .int .i64 x10.2.2.2.2.2.1], .int .i64 p3] (.one (.agg [.str, .int .i64, .int .i64, .int .i64, .int .i64, .int .i64])) fun (x330 : ByteArray × Int × Int × Int × Int × Int × Unit) =>
                        L.new [.string s_, .int .i64 0, .int .i64 0, .int .i64 0, .int .i64 0, .int .i64 0] T_api_Config fun b331 =>
                        L.chk (⟨b3, 0, none⟩) [.string x10.1, .int .i64 x10.2.1, .int .i64 x10.2.2.1, .int .i64 x10.2.2.2.1, .int .i64 x10.2.2.2.2.1, .int .i64 x10.2.2.2.2.2.1] <|
                        L.chk (⟨b2, 0, none⟩) [.string x9.1, .int .i64 x9.2.1, .int .i64 x9.2.2.1, .int .i64 x9.2.2.2.1, .int .i64 x9.2.2.2.2.1, .int .i64 x9.2.2.2.2.2.1] <|
                        L.chk (⟨b1, 0, none⟩) [.string x8.1, .int .i64 x8.2.1, .int .i64 x8.2.2.1, .int .i64 x8.2.2.2.1, .int .i64 x8.2.2.2.2.1, .int .i64 x8.2.2.2.2.2.1] <|
                        L.store (⟨b328, 0, none⟩) [.string x311.1, .int .i64 x311.2.1, .int .i64 x311.2.2.1, .int .i64 x311.2.2.2.1, .int .i64 x311.2.2.2.2.1, .int .i64 x311.2.2.2.2.2.1] <|
                        L.store (⟨b331, 0, none⟩) [.string x329.1, .int .i64 x329.2.1, .int .i64 x329.2.2.1, .int .i64 x329.2.2.2.1, .int .i64 x329.2.2.2.2.1, .int .i64 x329.2.2.2.2.2.1] <|
                        L.store (⟨b310, 0, none⟩) [.string x330.1, .int .i64 x330.2.1, .int .i64 x330.2.2.1, .int .i64 x330.2.2.2.1, .int .i64 x330.2.2.2.2.1, .int .i64 x330.2.2.2.2.2.1] <|
                        k6 (⟨b328, 0, none⟩, ⟨b331, 0, none⟩, ⟨b310, 0, none⟩, ())),(
                        L.new [.string s_, .int .i64 0, .int .i64 0, .int .i64 0, .int .i64 0, .int .i64 0] T_api_Config fun b332 =>
                        L.chk (⟨b3, 0, none⟩) [.string x10.1, .int .i64 x10.2.1, .int .i64 x10.2.2.1, .int .i64 x10.2.2.2.1, .int .i64 x10.2.2.2.2.1, .int .i64 x10.2.2.2.2.2.1] <|
                        L.chk (⟨b2, 0, none⟩) [.string x9.1, .int .i64 x9.2.1, .int .i64 x9.2.2.1, .int .i64 x9.2.2.2.1, .int .i64 x9.2.2.2.2.1, .int .i64 x9.2.2.2.2.2.1] <|
                        L.chk (⟨b1, 0, none⟩) [.string x8.1, .int .i64 x8.2.1, .int .i64 x8.2.2.1, .int .i64 x8.2.2.2.1, .int .i64 x8.2.2.2.2.1, .int .i64 x8.2.2.2.2.2.1] <|
                        L.call Pr n_damperlaw2_Config [.agg #[.string x10.1, .int .i64 x10.2.1, .int .i64 x10.2.2.1, .int .i64 x10.2.2.2.1, .int .i64 x10.2.2.2.2.1, .int .i64 x10.2.2.2.2.2.1], .int .i64 p3] (.one (.agg [.str, .int .i64, .int .i64, .int .i64, .int .i64, .int .i64])) fun (x333 : ByteArray × Int × Int × Int × Int × Int × Unit) =>
                        L.store (⟨b328, 0, none⟩) [.string x311.1, .int .i64 x311.2.1, .int .i64 x311.2.2.1, .int .i64 x311.2.2.2.1, .int .i64 x311.2.2.2.2.1, .int .i64 x311.2.2.2.2.2.1] <|
                        L.store (⟨b332, 0, none⟩) [.string x329.1, .int .i64 x329.2.1, .int .i64 x329.2.2.1, .int .i64 x329.2.2.2.1, .int .i64 x329.2.2.2.2.1, .int .i64 x329.2.2.2.2.2.1] <|
                        L.store (⟨b310, 0, none⟩) [.string x333.1, .int .i64 x333.2.1, .int .i64 x333.2.2.1, .int .i64 x333.2.2.2.1, .int .i64 x333.2.2.2.2.1, .int .i64 x333.2.2.2.2.2.1] <|
                        k6 (⟨b328, 0, none⟩, ⟨b332, 0, none⟩, ⟨b310, 0, none⟩, ()))]),(
                    L.new [.string s_, .int .i64 0, .int .i64 0, .int .i64 0, .int .i64 0, .int .i64 0] T_api_Config fun b334 =>
                    L.chk (⟨b3, 0, none⟩) [.string x10.1, .int .i64 x10.2.1, .int .i64 x10.2.2.1, .int .i64 x10.2.2.2.1, .int .i64 x10.2.2.2.2.1, .int .i64 x10.2.2.2.2.2.1] <|
                    L.chk (⟨b2, 0, none⟩) [.string x9.1, .int .i64 x9.2.1, .int .i64 x9.2.2.1, .int .i64 x9.2.2.2.1, .int .i64 x9.2.2.2.2.1, .int .i64 x9.2.2.2.2.2.1] <|
                    L.chk (⟨b1, 0, none⟩) [.string x8.1, .int .i64 x8.2.1, .int .i64 x8.2.2.1, .int .i64 x8.2.2.2.1, .int .i64 x8.2.2.2.2.1, .int .i64 x8.2.2.2.2.2.1] <|
                    L.call Pr n_damperlaw2_Config [.agg #[.string x9.1, .int .i64 x9.2.1, .int .i64 x9.2.2.1, .int .i64 x9.2.2.2.1, .int .i64 x9.2.2.2.2.1, .int .i64 x9.2.2.2.2.2.1], .int .i64 p3] (.one (.agg [.str, .int .i64, .int .i64, .int .i64, .int .i64, .int .i64])) fun (x335 : ByteArray × Int × Int × Int × Int × Int × Unit) =>
                    L.chk (⟨b3, 0, none⟩) [.string x10.1, .int .i64 x10.2.1, .int .i64 x10.2.2.1, .int .i64 x10.2.2.2.1, .int .i64 x10.2.2.2.2.1, .int .i64 x10.2.2.2.2.2.1] <|
                    L.call Pr n_damperlaw2_Config [.agg #[.string x10.1, .int .i64 x10.2.1, .int .i64 x10.2.2.1, .int .i64 x10.2.2.2.1, .int .i64 x10.2.2.2.2.1, .int .i64 x10.2.2.2.2.2.1], .int .i64 p3] (.one (.agg [.str, .int .i64, .int .i64, .int .i64, .int .i64, .int .i64])) fun (x336 : ByteArray × Int × Int × Int × Int × Int × Unit) =>
                    L.store (⟨b328, 0, none⟩) [.string x311.1, .int .i64 x311.2.1, .int .i64 x311.2.2.1, .int .i64 x311.2.2.2.1, .int .i64 x311.2.2.2.2.1, .int .i64 x311.2.2.2.2.2.1] <|
                    L.store (⟨b334, 0, none⟩) [.string x335.1, .int .i64 x335.2.1, .int .i64 x335.2.2.1, .int .i64 x335.2.2.2.1, .int .i64 x335.2.2.2.2.1, .int .i64 x335.2.2.2.2.2.1] <|
                    L.store (⟨b310, 0, none⟩) [.string x336.1, .int .i64 x336.2.1, .int .i64 x336.2.2.1, .int .i64 x336.2.2.2.1, .int .i64 x336.2.2.2.2.1, .int .i64 x336.2.2.2.2.2.1] <|
                    k6 (⟨b328, 0, none⟩, ⟨b334, 0, none⟩, ⟨b310, 0, none⟩, ()))]),(
                L.new [.string s_, .int .i64 0, .int .i64 0, .int .i64 0, .int .i64 0, .int .i64 0] T_api_Config fun b337 =>
                L.chk (⟨b3, 0, none⟩) [.string x10.1, .int .i64 x10.2.1, .int .i64 x10.2.2.1, .int .i64 x10.2.2.2.1, .int .i64 x10.2.2.2.2.1, .int .i64 x10.2.2.2.2.2.1] <|
                L.chk (⟨b2, 0, none⟩) [.string x9.1, .int .i64 x9.2.1, .int .i64 x9.2.2.1, .int .i64 x9.2.2.2.1, .int .i64 x9.2.2.2.2.1, .int .i64 x9.2.2.2.2.2.1] <|
                L.chk (⟨b1, 0, none⟩) [.string x8.1, .int .i64 x8.2.1, .int .i64 x8.2.2.1, .int .i64 x8.2.2.2.1, .int .i64 x8.2.2.2.2.1, .int .i64 x8.2.2.2.2.2.1] <|
                L.alts [(
                    L.call Pr n_damperlaw2_Config [.agg #[.string x9.1, .int .i64 x9.2.1, .int .i64 x9.2.2.1, .int .i64 x9.2.2.2.1, .int .i64 x9.2.2.2.2.1, .int .i64 x9.2.2.2.2.2.1], .int .i64 p3] (.one (.agg [.str, .int .i64, .int .i64, .int .i64, .int .i64, .int .i64])) fun (x338 : ByteArray × Int × Int × Int × Int × Int × Unit) =>
                    L.chk (⟨b3, 0, none⟩) [.string x10.1, .int .i64 x10.2.1, .int .i64 x10.2.2.1, .int .i64 x10.2.2.2.1, .int .i64 x10.2.2.2.2.1, .int .i64 x10.2.2.2.2.2.1] <|
                    L.alts [(
                        L.call Pr n_damperlaw2_Config [.agg #[.string x10.1, .int .i64 x10.2.1, .int .i64 x10.2.2.1, .int .i64 x10.2.2.2.1, .int .i64 x10.2.2.2.2.1, .int .i64 x10.2.2.2.2.2.1], .int .i64 p3] (.one (.agg [.str, .int .i64, .int .i64, .int .i64, .int .i64, .int .i64])) fun (x339 : ByteArray × Int × Int × Int × Int × Int × Unit) =>
                        L.new [.string s_, .int .i64 0, .int .i64 0, .int .i64 0, .int .i64 0, .int .i64 0] T_api_Config fun b340 =>
                        L.chk (⟨b3, 0, none⟩) [.string x10.1, .int .i64 x10.2.1, .int .i64 x10.2.2.1, .int .i64 x10.2.2.2.1, .int .i64 x10.2.2.2.2.1, .int .i64 x10.2.2.2.2.2.1] <|
                        L.chk (⟨b2, 0, none⟩) [.string x9.1, .int .i64 x9.2.1, .int .i64 x9.2.2.1, .int .i64 x9.2.2.2.1, .int .i64 x9.2.2.2.2.1, .int .i64 x9.2.2.2.2.2.1] <|
                        L.chk (⟨b1, 0, none⟩) [.string x8.1, .int .i64 x8.2.1, .int .i64 x8.2.2.1, .int .i64 x8.2.2.2.1, .int .i64 x8.2.2.2.2.1, .int .i64 x8.2.2.2.2.2.1] <|
                        L.store (⟨b340, 0, none⟩) [.string x311.1, .int .i64 x311.2.1, .int .i64 x311.2.2.1, .int .i64 x311.2.2.2.1, .int .i64 x311.2.2.2.2.1, .int .i64 x311.2.2.2.2.2.1] <|
                        L.store (⟨b337, 0, none⟩) [.string x338.1, .int .i64 x338.2.1, .int .i64 x338.2.2.1, .int .i64 x338.2.2.2.1, .int .i64 x338.2.2.2.2.1, .int .i64 x338.2.2.2.2.2.1] <|
                        L.store (⟨b310, 0, none⟩) [.string x339.1, .int .i64 x339.2.1, .int .i64 x339.2.2.1, .int .i64 x339.2.2.2.1, .int .i64 x339.2.2.2.2.1, .int .i64 x339.2.2.2.2.2.1] <|
                        k6 (⟨b340, 0, none⟩, ⟨b337, 0, none⟩, ⟨b310, 0, none⟩, ())),(
                        L.new [.string s_, .int .i64 0, .int .i64 0, .int .i64 0, .int .i64 0, .int .i64 0] T_api_Config fun b341 =>
                        L.chk (⟨b3, 0, none⟩) [.string x10.1, .int .i64 x10.2.1, .int .i64 x10.2.2.1, .int .i64 x10.2.2.2.1, .int .i64 x10.2.2.2.2.1, .int .i64 x10.2.2.2.2.2.1] <|
                        L.chk (⟨b2, 0, none⟩) [.string x9.1, .int .i64 x9.2.1, .int .i64 x9.2.2.1, .int .i64 x9.2.2.2.1, .int .i64 x9.2.2.2.2.1, .int .i64 x9.2.2.2.2.2.1] <|
                        L.chk (⟨b1, 0, none⟩) [.string x8.1, .int .i64 x8.2.1, .int .i64 x8.2.2.1, .int .i64 x8.2.2.2.1, .int .i64 x8.2.2.2.2.1, .int .i64 x8.2.2.2.2.2.1] <|
                        L.call Pr n_damperlaw2_Config [.agg #[.string x10.1, .int .i64 x10.2.1, .int .i64 x10.2.2.1, .int .i64 x10.2.2.2.1, .int .i64 x10.2.2.2.2.1, .int .i64 x10.2.2.2.2.2.1], .int .i64 p3] (.one (.agg [.str, .int .i64, .int .i64, .int .i64, .int .i64, .int .i64])) fun (x342 : ByteArray × Int × Int × Int × Int × Int × Unit) =>
                        L.store (⟨b341, 0, none⟩) [.string x311.1, .int .i64 x311.2.1, .int .i64 x311.2.2.1, .int .i64 x311.2.2.2.1, .int .i64 x311.2.2.2.2.1, .int .i64 x311.2.2.2.2.2.1] <|
                        L.store (⟨b337, 0, none⟩) [.string x338.1, .int .i64 x338.2.1, .int .i64 x338.2.2.1, .int .i64 x338.2.2.2.1, .int .i64 x338.2.2.2.2.1, .int .i64 x338.2.2.2.2.2.1] <|
                        L.store (⟨b310, 0, none⟩) [.string x342.1, .int .i64 x342.2.1, .int .i64 x342.2.2.1, .int .i64 x342.2.2.2.1, .int .i64 x342.2.2.2.2.1, .int .i64 x342.2.2.2.2.2.1] <|
                        k6 (⟨b341, 0, none⟩, ⟨b337, 0, none⟩, ⟨b310, 0, none⟩, ()))]),(
                    L.new [.string s_, .int .i64 0, .int .i64 0, .int .i64 0, .int .i64 0, .int .i64 0] T_api_Config fun b343 =>
                    L.chk (⟨b3, 0, none⟩) [.string x10.1, .int .i64 x10.2.1, .int .i64 x10.2.2.1, .int .i64 x10.2.2.2.1, .int .i64 x10.2.2.2.2.1, .int .i64 x10.2.2.2.2.2.1] <|
                    L.chk (⟨b2, 0, none⟩) [.string x9.1, .int .i64 x9.2.1, .int .i64 x9.2.2.1, .int .i64 x9.2.2.2.1, .int .i64 x9.2.2.2.2.1, .int .i64 x9.2.2.2.2.2.1] <|
                    L.chk (⟨b1, 0, none⟩) [.string x8.1, .int .i64 x8.2.1, .int .i64 x8.2.2.1, .int .i64 x8.2.2.2.1, .int .i64 x8.2.2.2.2.1, .int .i64 x8.2.2.2.2.2.1] <|
                    L.call Pr n_damperlaw2_Config [.agg #[.string x9.1, .int .i64 x9.2.1, .int .i64 x9.2.2.1, .int .i64 x9.2.2.2.1, .int .i64 x9.2.2.2.2.1, .int .i64 x9.2.2.2.2.2.1], .int .i64 p3] (.one (.agg [.str, .int .i64, .int .i64, .int .i64, .int .i64, .int .i64])) fun (x344 : ByteArray × Int × Int × Int × Int × Int × Unit) =>
                    L.chk (⟨b3, 0, none⟩) [.string x10.1, .int .i64 x10.2.1, .int .i64 x10.2.2.1, .int .i64 x10.2.2.2.1, .int .i64 x10.2.2.2.2.1, .int .i64 x10.2.2.2.2.2.1] <|
                    L.call Pr n_damperlaw2_Config [.agg #[.string x10.1, .int .i64 x10.2.1, .int .i64 x10.2.2.1, .int .i64 x10.2.2.2.1, .int .i64 x10.2.2.2.2.1, .int .i64 x10.2.2.2.2.2.1], .int .i64 p3] (.one (.agg [.str, .int .i64, .int .i64, .int .i64, .int .i64, .int .i64])) fun (x345 : ByteArray × Int × Int × Int × Int × Int × Unit) =>
                    L.store (⟨b343, 0, none⟩) [.string x311.1, .int .i64 x311.2.1, .int .i64 x311.2.2.1, .int .i64 x311.2.2.2.1, .int .i64 x311.2.2.2.2.1, .int .i64 x311.2.2.2.2.2.1] <|
                    L.store (⟨b337, 0, none⟩) [.string x344.1, .int .i64 x344.2.1, .int .i64 x344.2.2.1, .int .i64 x344.2.2.2.1, .int .i64 x344.2.2.2.2.1, .int .i64 x344.2.2.2.2.2.1] <|
                    L.store (⟨b310, 0, none⟩) [.string x345.1, .int .i64 x345.2.1, .int .i64 x345.2.2.1, .int .i64 x345.2.2.2.1, .int .i64 x345.2.2.2.2.1, .int .i64 x345.2.2.2.2.2.1] <|
                    k6 (⟨b343, 0, none⟩, ⟨b337, 0, none⟩, ⟨b310, 0, none⟩, ()))])]),(
            L.new [.string s_, .int .i64 0, .int .i64 0, .int .i64 0, .int .i64 0, .int .i64 0] T_api_Config fun b346 =>
            L.chk (⟨b3, 0, none⟩) [.string x10.1, .int .i64 x10.2.1, .int .i64 x10.2.2.1, .int .i64 x10.2.2.2.1, .int .i64 x10.2.2.2.2.1, .int .i64 x10.2.2.2.2.2.1] <|
            L.chk (⟨b2, 0, none⟩) [.string x9.1, .int .i64 x9.2.1, .int .i64 x9.2.2.1, .int .i64 x9.2.2.2.1, .int .i64 x9.2.2.2.2.1, .int .i64 x9.2.2.2.2.2.1] <|
            L.chk (⟨b1, 0, none⟩) [.string x8.1, .int .i64 x8.2.1, .int .i64 x8.2.2.1, .int .i64 x8.2.2.2.1, .int .i64 x8.2.2.2.2.1, .int .i64 x8.2.2.2.2.2.1] <|
            L.alts [(
                L.call Pr n_damperlaw2_Config [.agg #[.string x8.1, .int .i64 x8.2.1, .int .i64 x8.2.2.1, .int .i64 x8.2.2.2.1, .int .i64 x8.2.2.2.2.1, .int .i64 x8.2.2.2.2.2.1], .int .i64 p3] (.one (.agg [.str, .int .i64, .int .i64, .int .i64, .int .i64, .int .i64])) fun (x347 : ByteArray × Int × Int × Int × Int × Int × Unit) =>
                L.chk (⟨b3, 0, none⟩) [.string x10.1, .int .i64 x10.2.1, .int .i64 x10.2.2.1, .int .i64 x10.2.2.2.1, .int .i64 x10.2.2.2.2.1, .int .i64 x10.2.2.2.2.2.1] <|
                L.chk (⟨b2, 0, none⟩) [.string x9.1, .int .i64 x9.2.1, .int .i64 x9.2.2.1, .int .i64 x9.2.2.2.1, .int .i64 x9.2.2.2.2.1, .int .i64 x9.2.2.2.2.2.1] <|
                L.alts [(
                    L.call Pr n_damperlaw2_Config [.agg #[.string x9.1, .int .i64 x9.2.1, .int .i64 x9.2.2.1, .int .i64 x9.2.2.2.1, .int .i64 x9.2.2.2.2.1, .int .i64 x9.2.2.2.2.2.1], .int .i64 p3] (.one (.agg [.str, .int .i64, .int .i64, .int .i64, .int .i64, .int .i64])) fun (x348 : ByteArray × Int × Int × Int × Int × Int × Unit) =>
                    L.chk (⟨b3, 0, none⟩) [.string x10.1, .int .i64 x10.2.1, .int .i64 x10.2.2.1, .int .i64 x10.2.2.2.1, .int .i64 x10.2.2.2.2.1, .int .i64 x10.2.2.2.2.2.1] <|
                    L.alts [(
                        L.call Pr n_damperlaw2_Config [.agg #[.string x10.1, .int .i64 x10.2.1, .int .i64 x10.2.2.1, .int .i64 x10.2.2.2.1, .int .i64 x10.2.2.2.2.1, .int .i64 x10.2.2.2.2.2.1], .int .i64 p3] (.one (.agg [.str, .int .i64, .int .i64, .int .i64, .int .i64, .int .i64])) fun (x349 : ByteArray × Int × Int × Int × Int × Int × Unit) =>
                        L.new [.string s_, .int .i64 0, .int .i64 0, .int .i64 0, .int .i64 0, .int .i64 0] T_api_Config fun b350 =>
                        L.chk (⟨b3, 0, none⟩) [.string x10.1, .int .i64 x10.2.1, .int .i64 x10.2.2.1, .int .i64 x10.2.2.2.1, .int .i64 x10.2.2.2.2.1, .int .i64 x10.2.2.2.2.2.1] <|
                        L.chk (⟨b2, 0, none⟩) [.string x9.1, .int .i64 x9.2.1, .int .i64 x9.2.2.1, .int .i64 x9.2.2.2.1, .int .i64 x9.2.2.2.2.1, .int .i64 x9.2.2.2.2.2.1] <|
                        L.chk (⟨b1, 0, none⟩) [.string x8.1, .int .i64 x8.2.1, .int .i64 x8.2.2.1, .int .i64 x8.2.2.2.1, .int .i64 x8.2.2.2.2.1, .int .i64 x8.2.2.2.2.2.1] <|
                        L.store (⟨b346, 0, none⟩) [.string x347.1, .int .i64 x347.2.1, .int .i64 x347.2.2.1, .int .i64 x347.2.2.2.1, .int .i64 x347.2.2.2.2.1, .int .i64 x347.2.2.2.2.2.1] <|
                        L.store (⟨b350, 0, none⟩) [.string x348.1, .int .i64 x348.2.1, .int .i64 x348.2.2.1, .int .i64 x348.2.2.2.1, .int .i64 x348.2.2.2.2.1, .int .i64 x348.2.2.2.2.2.1] <|
                        L.store (⟨b310, 0, none⟩) [.string x349.1, .int .i64 x349.2.1, .int .i64 x349.2.2.1, .int .i64 x349.2.2.2.1, .int .i64 x349.2.2.2.2.1, .int .i64 x349.2.2.2.2.2.1] <|
                        k6 (⟨b346, 0, none⟩, ⟨b350, 0, none⟩, ⟨b310, 0, none⟩, ())),(
                        L.new [.string s_, .int .i64 0, .int .i64 0, .int .i64 0, .int .i64 0, .int .i64 0] T_api_Config fun b351 =>
                        L.chk (⟨b3, 0, none⟩) [.string x10.1, .int .i64 x10.2.1, .int .i64 x10.2.2.1, .int .i64 x10.2.2.2.1, .int .i64 x10.2.2.2.2.1, .int .i64 x10.2.2.2.2.2.1] <|
                        L.chk (⟨b2, 0, none⟩) [.string x9.1, .int .i64 x9.2.1, .int .i64 x9.2.2.1, .int .i64 x9.2.2.2.1, .int .i64 x9.2.2.2.2.1, .int .i64 x9.2.2.2.2.2.1] <|
                        L.chk (⟨b1, 0, none⟩) [.string x8.1, .int .i64 x8.2.1, .int .i64 x8.2.2.1, .int .i64 x8.2.2.2.1, .int .i64 x8.2.2.2.2.1, .int .i64 x8.2.2.2.2.2.1] <|
                        L.call Pr n_damperlaw2_Config [.agg #[.string x10.1, .int .i64 x10.2.1, .int .i64 x10.2.2.1, .int .i64 x10.2.2.2.1, .int .i64 x10.2.2.2.2.1, .int .i64 x10.2.2.2.2.2.1], .int .i64 p3] (.one (.agg [.str, .int .i64, .int .i64, .int .i64, .int .i64, .int .i64])) fun (x352 : ByteArray × Int × Int × Int × Int × Int × Unit) =>
                        L.store (⟨b346, 0, none⟩) [.string x347.1, .int .i64 x347.2.1, .int .i64 x347.2.2.1, .int .i64 x347.2.2.2.1, .int .i64 x347.2.2.2.2.1, .int .i64 x347.2.2.2.2.2.1] <|
                        L.store (⟨b351, 0, none⟩) [.string x348.1, .int .i64 x348.2.1, .int .i64 x348.2.2.1, .int .i64 x348.2.2.2.1, .int .i64 x348.2.2.2.2.1, .int .i64 x348.2.2.2.2.2.1] <|
                        L.store (⟨b310, 0, none⟩) [.string x352.1, .int .i64 x352.2.1, .int .i64 x352.2.2.1, .int .i64 x352.2.2.2.1, .int .i64 x352.2.2.2.2.1, .int .i64 x352.2.2.2.2.2.1] <|
                        k6 (⟨b346, 0, none⟩, ⟨b351, 0, none⟩, ⟨b310, 0, none⟩, ()))]),(
                    L.new [.string s_, .int .i64 0, .int .i64 0, .int .i64 0, .int .i64 0, .int .i64 0] T_api_Config fun b353 =>
                    L.chk (⟨b3, 0, none⟩) [.string x10.1, .int .i64 x10.2.1, .int .i64 x10.2.2.1, .int .i64 x10.2.2.2.1, .int .i64 x10.2.2.2.2.1, .int .i64 x10.2.2.2.2.2.1] <|
                    L.chk (⟨b2, 0, none⟩) [.string x9.1, .int .i64 x9.2.1, .int .i64 x9.2.2.1, .int .i64 x9.2.2.2.1, .int .i64 x9.2.2.2.2.1, .int .i64 x9.2.2.2.2.2.1] <|
                    L.chk (⟨b1, 0, none⟩) [.string x8.1, .int .i64 x8.2.1, .int .i64 x8.2.2.1, .int .i64 x8.2.2.2.1, .int .i64 x8.2.2.2.2.1, .int .i64 x8.2.2.2.2.2.1] <|
                    L.call Pr n_damperlaw2_Config [.agg #[.string x9.1, .int .i64 x9.2.1, .int .i64 x9.2.2.1, .int .i64 x9.2.2.2.1, .int .i64 x9.2.2.2.2.1, .int .i64 x9.2.2.2.2.2.1], .int .i64 p3] (.one (.agg [.str, .int .i64, .int .i64, .int .i64, .int .i64, .int .i64])) fun (x354 : ByteArray × Int × Int × Int × Int × Int × Unit) =>
                    L.chk (⟨b3, 0, none⟩) [.string x10.1, .int .i64 x10.2.1, .int .i64 x10.2.2.1, .int .i64 x10.2.2.2.1, .int .i64 x10.2.2.2.2.1, .int .i64 x10.2.2.2.2.2.1] <|
                    L.call Pr n_damperlaw2_Config [.agg #[.string x10.1, .int .i64 x10.2.1, .int .i64 x10.2.2.1, .int .i64 x10.2.2.2.1, .int .i64 x10.2.2.2.2.1, .int .i64 x10.2.2.2.2.2.1], .int .i64 p3] (.one (.agg [.str, .int .i64, .int .i64, .int .i64, .int .i64, .int .i64])) fun (x355 : ByteArray × Int × Int × Int × Int × Int × Unit) =>
                    L.store (⟨b346, 0, none⟩) [.string x347.1, .int .i64 x347.2.1, .int .i64 x347.2.2.1, .int .i64 x347.2.2.2.1, .int .i64 x347.2.2.2.2.1, .int .i64 x347.2.2.2.2.2.1] <|
                    L.store (⟨b353, 0, none⟩) [.string x354.1, .int .i64 x354.2.1, .int .i64 x354.2.2.1, .int .i64 x354.2.2.2.1, .int .i64 x354.2.2.2.2.1, .int .i64 x354.2.2.2.2.2.1] <|
                    L.store (⟨b310, 0, none⟩) [.string x355.1, .int .i64 x355.2.1, .int .i64 x355.2.2.1, .int .i64 x355.2.2.2.1, .int .i64 x355.2.2.2.2.1, .int .i64 x355.2.2.2.2.2.1] <|
                    k6 (⟨b346, 0, none⟩, ⟨b353, 0, none⟩, ⟨b310, 0, none⟩, ()))]),(
                L.new [.string s_, .int .i64 0, .int .i64 0, .int .i64 0, .int .i64 0, .int .i64 0] T_api_Config fun b356 =>
                L.chk (⟨b3, 0, none⟩) [.string x10.1, .int .i64 x10.2.1, .int .i64 x10.2.2.1, .int .i64 x10.2.2.2.1, .int .i64 x10.2.2.2.2.1, .int .i64 x10.2.2.2.2.2.1] <|
                L.chk (⟨b2, 0, none⟩) [.string x9.1, .int .i64 x9.2.1, .int .i64 x9.2.2.1, .int .i64 x9.2.2.2.1, .int .i64 x9.2.2.2.2.1, .int .i64 x9.2.2.2.2.2.1] <|
                L.chk (⟨b1, 0, none⟩) [.string x8.1, .int .i64 x8.2.1, .int .i64 x8.2.2.1, .int .i64 x8.2.2.2.1, .int .i64 x8.2.2.2.2.1, .int .i64 x8.2.2.2.2.2.1] <|
                L.call Pr n_damperlaw2_Config [.agg #[.string x8.1, .int .i64 x8.2.1, .int .i64 x8.2.2.1, .int .i64 x8.2.2.2.1, .int .i64 x8.2.2.2.2.1, .int .i64 x8.2.2.2.2.2.1], .int .i64 p3] (.one (.agg [.str, .int .i64, .int .i64, .int .i64, .int .i64, .int .i64])) fun (x357 : ByteArray × Int × Int × Int × Int × Int × Unit) =>
                L.chk (⟨b3, 0, none⟩) [.string x10.1, .int .i64 x10.2.1, .int .i64 x10.2.2.1, .int .i64 x10.2.2.2.1, .int .i64 x10.2.2.2.2.1, .int .i64 x10.2.2.2.2.2.1] <|
                L.chk (⟨b2, 0, none⟩) [.string x9.1, .int .i64 x9.2.1, .int .i64 x9.2.2.1, .int .i64 x9.2.2.2.1, .int .i64 x9.2.2.2.2.1, .int .i64 x9.2.2.2.2.2.1] <|
                L.call Pr n_damperlaw2_Config [.agg #[.string x9.1, .int .i64 x9.2.1, .int .i64 x9.2.2.1, .int .i64 x9.2.2.2.1, .int .i64 x9.2.2.2.2.1, .int .i64 x9.2.2.2.2.2.1], .int .i64 p3] (.one (.agg [.str, .int .i64, .int .i64, .int .i64, .int .i64, .int .i64])) fun (x358 : ByteArray × Int × Int × Int × Int × Int × Unit) =>
                L.chk (⟨b3, 0, none⟩) [.string x10.1, .int .i64 x10.2.1, .int .i64 x10.2.2.1, .int .i64 x10.2.2.2.1, .int .i64 x10.2.2.2.2.1, .int .i64 x10.2.2.2.2.2.1] <|
                L.call Pr n_damperlaw2_Config [.agg #[.string x10.1, .int .i64 x10.2.1, .int .i64 x10.2.2.1, .int .i64 x10.2.2.2.1, .int .i64 x10.2.2.2.2.1, .int .i64 x10.2.2.2.2.2.1], .int .i64 p3] (.one (.agg [.str, .int .i64, .int .i64, .int .i64, .int .i64, .int .i64])) fun (x359 : ByteArray × Int × Int × Int × Int × Int × Unit) =>
                L.store (⟨b346, 0, none⟩) [.string x357.1, .int .i64 x357.2.1, .int .i64 x357.2.2.1, .int .i64 x357.2.2.2.1, .int .i64 x357.2.2.2.2.1, .int .i64 x357.2.2.2.2.2.1] <|
                L.store (⟨b356, 0, none⟩) [.string x358.1, .int .i64 x358.2.1, .int .i64 x358.2.2.1, .int .i64 x358.2.2.2.1, .int .i64 x358.2.2.2.2.1, .int .i64 x358.2.2.2.2.2.1] <|
                L.store (⟨b310, 0, none⟩) [.string x359.1, .int .i64 x359.2.1, .int .i64 x359.2.2.1, .int .i64 x359.2.2.2.1, .int .i64 x359.2.2.2.2.1, .int .i64 x359.2.2.2.2.2.1] <|
                k6 (⟨b346, 0, none⟩, ⟨b356, 0, none⟩, ⟨b310, 0, none⟩, ()))]),(
            L.new [.string s_, .int .i64 0, .int .i64 0, .int .i64 0, .int .i64 0, .int .i64 0] T_api_Config fun b360 =>
            L.chk (⟨b3, 0, none⟩) [.string x10.1, .int .i64 x10.2.1, .int .i64 x10.2.2.1, .int .i64 x10.2.2.2.1, .int .i64 x10.2.2.2.2.1, .int .i64 x10.2.2.2.2.2.1] <|
            L.chk (⟨b2, 0, none⟩) [.string x9.1, .int .i64 x9.2.1, .int .i64 x9.2.2.1, .int .i64 x9.2.2.2.1, .int .i64 x9.2.2.2.2.1, .int .i64 x9.2.2.2.2.2.1] <|
            L.chk (⟨b1, 0, none⟩) [.string x8.1, .int .i64 x8.2.1, .int .i64 x8.2.2.1, .int .i64 x8.2.2.2.1, .int .i64 x8.2.2.2.2.1, .int .i64 x8.2.2.2.2.2.1] <|
            L.alts [(
                L.call Pr n_damperlaw2_Config [.agg #[.string x8.1, .int .i64 x8.2.1, .int .i64 x8.2.2.1, .int .i64 x8.2.2.2.1, .int .i64 x8.2.2.2.2.1, .int .i64 x8.2.2.2.2.2.1], .int .i64 p3] (.one (.agg [.str, .int .i64, .int .i64, .int .i64, .int .i64, .int .i64])) fun (x361 : ByteArray × Int × Int × Int × Int × Int × Unit) =>
                L.chk (⟨b3, 0, none⟩) [.string x10.1, .int .i64 x10.2.1, .int .i64 x10.2.2.1, .int .i64 x10.2.2.2.1, .int .i64 x10.2.2.2.2.1, .int .i64 x10.2.2.2.2.2.1] <|
                L.chk (⟨b2, 0, none⟩) [.string x9.1, .int .i64 x9.2.1, .int .i64 x9.2.2.1, .int .i64 x9.2.2.2.1, .int .i64 x9.2.2.2.2.1, .int .i64 x9.2.2.2.2.2.1] <|
                L.alts [(
                    L.call Pr n_damperlaw2_Config [.agg #[.string x9.1, .int .i64 x9.2.1, .int .i64 x9.2.2.1, .int .i64 x9.2.2.2.1, .int .i64 x9.2.2.2.2.1, .int .i64 x9.2.2.2.2.2.1], .int .i64 p3] (.one (.agg [.str, .int .i64, .int .i64, .int .i64, .int .i64, .int .i64])) fun (x362 : ByteArray × Int × Int × Int × Int × Int × Unit) =>
                    L.chk (⟨b3, 0, none⟩) [.string x10.1, .int .i64 x10.2.1, .int .i64 x10.2.2.1, .int .i64 x10.2.2.2.1, .int .i64 x10.2.2.2.2.1, .int .i64 x10.2.2.2.2.2.1] <|
                    L.alts [(
                        L.call Pr n_damperlaw2_Config [.agg #[.string x10.1, .int .i64 x10.2.1, .int .i64 x10.2.2.1, .int .i64 x10.2.2.2.1, .int .i64 x10.2.2.2.2.1, .int .i64 x10.2.2.2.2.2.1], .int .i64 p3] (.one (.agg [.str, .int .i64, .int .i64, .int .i64, .int .i64, .int .i64])) fun (x363 : ByteArray × Int × Int × Int × Int × Int × Unit) =>
                        L.new [.string s_, .int .i64 0, .int .i64 0, .int .i64 0, .int .i64 0, .int .i64 0] T_api_Config fun b364 =>
                        L.chk (⟨b3, 0, none⟩) [.string x10.1, .int .i64 x10.2.1, .int .i64 x10.2.2.1, .int .i64 x10.2.2.2.1, .int .i64 x10.2.2.2.2.1, .int .i64 x10.2.2.2.2.2.1] <|
                        L.chk (⟨b2, 0, none⟩) [.string x9.1, .int .i64 x9.2.1, .int .i64 x9.2.2.1, .int .i64 x9.2.2.2.1, .int .i64 x9.2.2.2.2.1, .int .i64 x9.2.2.2.2.2.1] <|
                        L.chk (⟨b1, 0, none⟩) [.string x8.1, .int .i64 x8.2.1, .int .i64 x8.2.2.1, .int .i64 x8.2.2.2.1, .int .i64 x8.2.2.2.2.1, .int .i64 x8.2.2.2.2.2.1] <|
                        L.store (⟨b364, 0, none⟩) [.string x361.1, .int .i64 x361.2.1, .int .i64 x361.2.2.1, .int .i64 x361.2.2.2.1, .int .i64 x361.2.2.2.2.1, .int .i64 x361.2.2.2.2.2.1] <|
                        L.store (⟨b360, 0, none⟩) [.string x362.1, .int .i64 x362.2.1, .int .i64 x362.2.2.1, .int .i64 x362.2.2.2.1, .int .i64 x362.2.2.2.2.1, .int .i64 x362.2.2.2.2.2.1] <|
                        L.store (⟨b310, 0, none⟩) [.string x363.1, .int .i64 x363.2.1, .int .i64 x363.2.2.1, .int .i64 x363.2.2.2.1, .int .i64 x363.2.2.2.2.1, .int .i64 x363.2.2.2.2.2.1] <|
                        k6 (⟨b364, 0, none⟩, ⟨b360, 0, none⟩, ⟨b310, 0, none⟩, ())),(
                        L.new [.string s_, .int .i64 0, .int .i64 0, .int .i64 0, .int .i64 0, .int .i64 0] T_api_Config fun b365 =>
                        L.chk (⟨b3, 0, none⟩) [.string x10.1, .int .i64 x10.2.1, .int .i64 x10.2.2.1, .int .i64 x10.2.2.2.1, .int .i64 x10.2.2.2.2.1, .int .i64 x10.2.2.2.2.2.1] <|
                        L.chk (⟨b2, 0, none⟩) [.string x9.1, .int .i64 x9.2.1, .int .i64 x9.2.2.1, .int .i64 x9.2.2.2.1, .int .i64 x9.2.2.2.2.1, .int .i64 x9.2.2.2.2.2.1] <|
                        L.chk (⟨b1, 0, none⟩) [.string x8.1, .int .i64 x8.2.1, .int .i64 x8.2.2.1, .int .i64 x8.2.2.2.1, .int .i64 x8.2.2.2.2.1, .int .i64 x8.2.2.2.2.2.1] <|
                        L.call Pr n_damperlaw2_Config [.agg #[.string x10.1, .int .i64 x10.2.1, .int .i64 x10.2.2.1, .int .i64 x10.2.2.2.1, .int .i64 x10.2.2.2.2.1, .int .i64 x10.2.2.2.2.2.1], .int .i64 p3] (.one (.agg [.str, .int .i64, .int .i64, .int .i64, .int .i64, .int .i64])) fun (x366 : ByteArray × Int × Int × Int × Int × Int × Unit) =>
                        L.store (⟨b365, 0, none⟩) [.string x361.1, .int .i64 x361.2.1, .int .i64 x361.2.2.1, .int .i64 x361.2.2.2.1, .int .i64 x361.2.2.2.2.1, .int .i64 x361.2.2.2.2.2.1] <|
                        L.store (⟨b360, 0, none⟩) [.string x362.1, .int .i64 x362.2.1, .int .i64 x362.2.2.1, .int .i64 x362.2.2.2.1, .int .i64 x362.2.2.2.2.1, .int .i64 x362.2.2.2.2.2.1] <|
                        L.store (⟨b310, 0, none⟩) [.string x366.1, .int .i64 x366.2.1, .int .i64 x366.2.2.1, .int .i64 x366.2.2.2.1, .int .i64 x366.2.2.2.2.1, .int .i64 x366.2.2.2.2.2.1] <|
                        k6 (⟨b365, 0, none⟩, ⟨b360, 0, none⟩, ⟨b310, 0, none⟩, ()))]),(
                    L.new [.string s_, .int .i64 0, .int .i64 0, .int .i64 0, .int .i64 0, .int .i64 0] T_api_Config fun b367 =>
                    L.chk (⟨b3, 0, none⟩) [.string x10.1, .int .i64 x10.2.1, .int .i64 x10.2.2.1, .int .i64 x10.2.2.2.1, .int .i64 x10.2.2.2.2.1, .int .i64 x10.2.2.2.2.2.1] <|
                    L.chk (⟨b2, 0, none⟩) [.string x9.1, .int .i64 x9.2.1, .int .i64 x9.2.2.1, .int .i64 x9.2.2.2.1, .int .i64 x9.2.2.2.2.1, .int .i64 x9.2.2.2.2.2.1] <|
                    L.chk (⟨b1, 0, none⟩) [.string x8.1, .int .i64 x8.2.1, .int .i64 x8.2.2.1, .int .i64 x8.2.2.2.1, .int .i64 x8.2.2.2.2.1, .int .i64 x8.2.2.2.2.2.1] <|
                    L.call Pr n_damperlaw2_Config [.agg #[.string x9.1, .int .i64 x9.2.1, .int .i64 x9.2.2.1, .int .i64 x9.2.2.2.1, .int .i64 x9.2.2.2.2.1, .int .i64 x9.2.2.2.2.2.1], .int .i64 p3] (.one (.agg [.str, .int .i64, .int .i64, .int .i64, .int .i64, .int .i64])) fun (x368 : ByteArray × Int × Int × Int × Int × Int × Unit) =>
                    L.chk (⟨b3, 0, none⟩) [.string x10.1, .int .i64 x10.2.1, .int .i64 x10.2.2.1, .int .i64 x10.2.2.2.1, .int .i64 x10.2.2.2.2.1, .int .i64 x10.2.2.2.2.2.1] <|
                    L.call Pr n_damperlaw2_Config [.agg #[.string x10.1, .int .i64 x10.2.1, .int .i64 x10.2.2.1, .int .i64 x10.2.2.2.1, .int .i64 x10.2.2.2.2.1, .int .i64 x10.2.2.2.2.2.1], .int .i64 p3] (.one (.agg [.str, .int .i64, .int .i64, .int .i64, .int .i64, .int .i64])) fun (x369 : ByteArray × Int × Int × Int × Int × Int × Unit) =>
                    L.store (⟨b367, 0, none⟩) [.string x361.1, .int .i64 x361.2.1, .int .i64 x361.2.2.1, .int .i64 x361.2.2.2.1, .int .i64 x361.2.2.2.2.1, .int .i64 x361.2.2.2.2.2.1] <|
                    L.store (⟨b360, 0, none⟩) [.string x368.1, .int .i64 x368.2.1, .int .i64 x368.2.2.1, .int .i64 x368.2.2.2.1, .int .i64 x368.2.2.2.2.1, .int .i64 x368.2.2.2.2.2.1] <|
                    L.store (⟨b310, 0, none⟩) [.string x369.1, .int .i64 x369.2.1, .int .i64 x369.2.2.1, .int .i64 x369.2.2.2.1, .int .i64 x369.2.2.2.2.1, .int .i64 x369.2.2.2.2.2.1] <|
                    k6 (⟨b367, 0, none⟩, ⟨b360, 0, none⟩, ⟨b310, 0, none⟩, ()))]),(
                L.new [.string s_, .int .i64 0, .int .i64 0, .int .i64 0, .int .i64 0, .int .i64 0] T_api_Config fun b370 =>
                L.chk (⟨b3, 0, none⟩) [.string x10.1, .int .i64 x10.2.1, .int .i64 x10.2.2.1, .int .i64 x10.2.2.2.1, .int .i64 x10.2.2.2.2.1, .int .i64 x10.2.2.2.2.2.1] <|
                L.chk (⟨b2, 0, none⟩) [.string x9.1, .int .i64 x9.2.1, .int .i64 x9.2.2.1, .int .i64 x9.2.2.2.1, .int .i64 x9.2.2.2.2.1, .int .i64 x9.2.2.2.2.2.1] <|
                L.chk (⟨b1, 0, none⟩) [.string x8.1, .int .i64 x8.2.1, .int .i64 x8.2.2.1, .int .i64 x8.2.2.2.1, .int .i64 x8.2.2.2.2.1, .int .i64 x8.2.2.2.2.2.1] <|
                L.call Pr n_damperlaw2_Config [.agg #[.string x8.1, .int .i64 x8.2.1, .int .i64 x8.2.2.1, .int .i64 x8.2.2.2.1, .int .i64 x8.2.2.2.2.1, .int .i64 x8.2.2.2.2.2.1], .int .i64 p3] (.one (.agg [.str, .int .i64, .int .i64, .int .i64, .int .i64, .int .i64])) fun (x371 : ByteArray × Int × Int × Int × Int × Int × Unit) =>
                L.chk (⟨b3, 0, none⟩) [.string x10.1, .int .i64 x10.2.1, .int .i64 x10.2.2.1, .int .i64 x10.2.2.2.1, .int .i64 x10.2.2.2.2.1, .int .i64 x10.2.2.2.2.2.1] <|
                L.chk (⟨b2, 0, none⟩) [.string x9.1, .int .i64 x9.2.1, .int .i64 x9.2.2.1, .int .i64 x9.2.2.2.1, .int .i64 x9.2.2.2.2.1, .int .i64 x9.2.2.2.2.2.1] <|
                L.call Pr n_damperlaw2_Config [.agg #[.string x9.1, .int .i64 x9.2.1, .int .i64 x9.2.2.1, .int .i64 x9.2.2.2.1, .int .i64 x9.2.2.2.2.1, .int .i64 x9.2.2.2.2.2.1], .int .i64 p3] (.one (.agg [.str, .int .i64, .int .i64, .int .i64, .int .i64, .int .i64])) fun (x372 : ByteArray × Int × Int × Int × Int × Int × Unit) =>
                L.chk (⟨b3, 0, none⟩) [.string x10.1, .int .i64 x10.2.1, .int .i64 x10.2.2.1, .int .i64 x10.2.2.2.1, .int .i64 x10.2.2.2.2.1, .int .i64 x10.2.2.2.2.2.1] <|
                L.call Pr n_damperlaw2_Config [.agg #[.string x10.1, .int .i64 x10.2.1, .int .i64 x10.2.2.1, .int .i64 x10.2.2.2.1, .int .i64 x10.2.2.2.2.1, .int .i64 x10.2.2.2.2.2.1], .int .i64 p3] (.one (.agg [.str, .int .i64, .int .i64, .int .i64, .int .i64, .int .i64])) fun (x373 : ByteArray × Int × Int × Int × Int × Int × Unit) =>
                L.store (⟨b370, 0, none⟩) [.string x371.1, .int .i64 x371.2.1, .int .i64 x371.2.2.1, .int .i64 x371.2.2.2.1, .int .i64 x371.2.2.2.2.1, .int .i64 x371.2.2.2.2.2.1] <|
                L.store (⟨b360, 0, none⟩) [.string x372.1, .int .i64 x372.2.1, .int .i64 x372.2.2.1, .int .i64 x372.2.2.2.1, .int .i64 x372.2.2.2.2.1, .int .i64 x372.2.2.2.2.2.1] <|
                L.store (⟨b310, 0, none⟩) [.string x373.1, .int .i64 x373.2.1, .int .i64 x373.2.2.1, .int .i64 x373.2.2.2.1, .int .i64 x373.2.2.2.2.1, .int .i64 x373.2.2.2.2.2.1] <|
                k6 (⟨b370, 0, none⟩, ⟨b360, 0, none⟩, ⟨b310, 0, none⟩, ()))])])]) fun z7 =>
  L.load (.agg [.str, .int .i64, .int .i64, .int .i64, .int .i64, .int .i64]) z7.1 fun (x374 : ByteArray × Int × Int × Int × Int × Int × Unit) =>
  L.call Pr n_shelf_Shelf_PutConfig [.pointer x5, .agg #[.string x374.1, .int .i64 x374.2.1, .int .i64 x374.2.2.1, .int .i64 x374.2.2.2.1, .int .i64 x374.2.2.2.2.1, .int .i64 x374.2.2.2.2.2.1], .int .i64 0] (.tup [(.one (.int .i64)), (.one (.int .i64))]) fun (x375 : Int × Int × Unit) =>
  L.load (.agg [.str, .int .i64, .int .i64, .int .i64, .int .i64, .int .i64]) z7.2.1 fun (x376 : ByteArray × Int × Int × Int × Int × Int × Unit) =>
  L.call Pr n_shelf_Shelf_PutConfig [.pointer x5, .agg #[.string x376.1, .int .i64 x376.2.1, .int .i64 x376.2.2.1, .int .i64 x376.2.2.2.1, .int .i64 x376.2.2.2.2.1, .int .i64 x376.2.2.2.2.2.1], .int .i64 0] (.tup [(.one (.int .i64)), (.one (.int .i64))]) fun (x377 : Int × Int × Unit) =>
  L.load (.agg [.str, .int .i64, .int .i64, .int .i64, .int .i64, .int .i64]) z7.2.1 fun (x378 : ByteArray × Int × Int × Int × Int × Int × Unit) =>
  L.call Pr n_shelf_Shelf_PutConfig [.pointer x5, .agg #[.string x378.1, .int .i64 x378.2.1, .int .i64 x378.2.2.1, .int .i64 x378.2.2.2.1, .int .i64 x378.2.2.2.2.1, .int .i64 x378.2.2.2.2.2.1], .int .i64 x375.1] (.tup [(.one (.int .i64)), (.one (.int .i64))]) fun (x379 : Int × Int × Unit) =>
  L.load (.agg [.str, .int .i64, .int .i64, .int .i64, .int .i64, .int .i64]) z7.2.2.1 fun (x380 : ByteArray × Int × Int × Int × Int × Int × Unit) =>
  L.call Pr n_shelf_Shelf_PutConfig [.pointer x5, .agg #[.string x380.1, .int .i64 x380.2.1, .int .i64 x380.2.2.1, .int .i64 x380.2.2.2.1, .int .i64 x380.2.2.2.2.1, .int .i64 x380.2.2.2.2.2.1], .int .i64 x375.1] (.tup [(.one (.int .i64)), (.one (.int .i64))]) fun (x381 : Int × Int × Unit) =>
  L.load (.one (.str)) (z7.1.add 0) fun (x382 : ByteArray) =>
  L.call Pr n_shelf_Shelf_Drop [.pointer x5, .int .i64 1, .string x382, .int .i64 x375.1] (.one (.one (.int .i64))) fun (x383 : Int) =>
  L.load (.one (.str)) (z7.1.add 0) fun (x384 : ByteArray) =>
  L.call Pr n_shelf_Shelf_Config [.pointer x5, .string x384] (.tup [(.agg [.str, .int .i64, .int .i64, .int .i64, .int .i64, .int .i64]), (.one (.int .i64)), (.one (.int .i64)), (.one (.bool))]) fun (x385 : (ByteArray × Int × Int × Int × Int × Int × Unit) × Int × Int × Bool × Unit) =>
  L.new [.string s_, .int .i64 0, .int .i64 0, .int .i64 0, .int .i64 0, .int .i64 0] T_api_Config fun b386 =>
  L.store (⟨b386, 0, none⟩) [.string x385.1.1, .int .i64 x385.1.2.1, .int .i64 x385.1.2.2.1, .int .i64 x385.1.2.2.2.1, .int .i64 x385.1.2.2.2.2.1, .int .i64 x385.1.2.2.2.2.2.1] <|
  L.join (Y := Bool × Unit) (fun k387 =>
    L.ite (x375.2.1 != 0) (
      k387 (true, ())) <|
    L.ite (x377.2.1 != 5) (
      k387 (true, ())) <|
    L.ite (x379.2.1 != 0) (
      k387 (true, ())) <|
    L.ite (decide (x379.1 ≤ x375.1)) (
      k387 (true, ())) <|
    L.ite (x381.1 != 0) (
      k387 (true, ())) <|
    L.ite (x381.2.1 != 7) (
      k387 (true, ())) <|
    L.ite (x383 != 7) (
      k387 (true, ())) <|
    L.ite (!x385.2.2.2.1) (
      k387 (true, ())) <|
    L.load (.agg [.str, .int .i64, .int .i64, .int .i64, .int .i64, .int .i64]) (⟨b386, 0, none⟩) fun (x389 : ByteArray × Int × Int × Int × Int × Int × Unit) =>
    L.load (.agg [.str, .int .i64, .int .i64, .int .i64, .int .i64, .int .i64]) z7.2.1 fun (x390 : ByteArray × Int × Int × Int × Int × Int × Unit) =>
    L.chkSem Pr (do eqGuard .neq T_api_Config (.tmp 0) (.tmp 0) (.agg #[.string x389.1, .int .i64 x389.2.1, .int .i64 x389.2.2.1, .int .i64 x389.2.2.2.1, .int .i64 x389.2.2.2.2.1, .int .i64 x389.2.2.2.2.2.1]) (.agg #[.string x390.1, .int .i64 x390.2.1, .int .i64 x390.2.2.1, .int .i64 x390.2.2.2.1, .int .i64 x390.2.2.2.2.1, .int .i64 x390.2.2.2.2.2.1]); binOp .neq T_api_Config (.agg #[.string x389.1, .int .i64 x389.2.1, .int .i64 x389.2.2.1, .int .i64 x389.2.2.2.1, .int .i64 x389.2.2.2.2.1, .int .i64 x389.2.2.2.2.2.1]) (.agg #[.string x390.1, .int .i64 x390.2.1, .int .i64 x390.2.2.1, .int .i64 x390.2.2.2.1, .int .i64 x390.2.2.2.2.1, .int .i64 x390.2.2.2.2.2.1])) (.bool (!((x389.1 == x390.1) && ((x389.2.1 == x390.2.1) && ((x389.2.2.1 == x390.2.2.1) && ((x389.2.2.2.1 == x390.2.2.2.1) && ((x389.2.2.2.2.1 == x390.2.2.2.2.1) && ((x389.2.2.2.2.2.1 == x390.2.2.2.2.2.1) && true)))))))) <|
    L.ite (!((x389.1 == x390.1) && ((x389.2.1 == x390.2.1) && ((x389.2.2.1 == x390.2.2.1) && ((x389.2.2.2.1 == x390.2.2.2.1) && ((x389.2.2.2.2.1 == x390.2.2.2.2.1) && ((x389.2.2.2.2.2.1 == x390.2.2.2.2.2.1) && true))))))) (
      k387 (true, ())) <|
    k387 (x385.2.1 != x379.1, ())) fun z388 =>
  L.ite z388.1 (
    K (.bool false)) <|
  L.load (.one (.str)) (z7.1.add 0) fun (x391 : ByteArray) =>
  L.call Pr n_shelf_Shelf_Drop [.pointer x5, .int .i64 1, .string x391, .int .i64 x379.1] (.one (.one (.int .i64))) fun (x392 : Int) =>
  L.ite (x392 != 0) (
    K (.bool false)) <|
  L.draw <|
  L.load (.agg [.str, .int .i64, .int .i64, .int .i64, .int .i64, .int .i64]) z7.2.2.1 fun (x393 : ByteArray × Int × Int × Int × Int × Int × Unit) =>
  L.call Pr n_damperlaw4_within [.int .i64 p4, .int .i64 9] (.one (.one (.int .i64))) fun (x394 : Int) =>
  L.chk z7.2.2.1 [.string x393.1, .int .i64 x393.2.1, .int .i64 x393.2.2.1, .int .i64 x393.2.2.2.1, .int .i64 x393.2.2.2.2.1, .int .i64 x393.2.2.2.2.2.1] <|
  L.call Pr n_shelf_Shelf_PutConfig [.pointer x5, .agg #[.string x393.1, .int .i64 x393.2.1, .int .i64 x393.2.2.1, .int .i64 x393.2.2.2.1, .int .i64 x393.2.2.2.2.1, .int .i64 x393.2.2.2.2.2.1], .int .i64 (IntKind.wrap .i64 (1 + x394))] (.tup [(.one (.int .i64)), (.one (.int .i64))]) fun (x395 : Int × Int × Unit) =>
  L.load (.one (.str)) (z7.1.add 0) fun (x396 : ByteArray) =>
  L.call Pr n_shelf_Shelf_Config [.pointer x5, .string x396] (.tup [(.agg [.str, .int .i64, .int .i64, .int .i64, .int .i64, .int .i64]), (.one (.int .i64)), (.one (.int .i64)), (.one (.bool))]) fun (x397 : (ByteArray × Int × Int × Int × Int × Int × Unit) × Int × Int × Bool × Unit) =>
  L.new [.string s_, .int .i64 0, .int .i64 0, .int .i64 0, .int .i64 0, .int .i64 0] T_api_Config fun b398 =>
  L.store (⟨b398, 0, none⟩) [.string x397.1.1, .int .i64 x397.1.2.1, .int .i64 x397.1.2.2.1, .int .i64 x397.1.2.2.2.1, .int .i64 x397.1.2.2.2.2.1, .int .i64 x397.1.2.2.2.2.2.1] <|
  L.ite (x395.2.1 == 6) (
    K (.bool (!x397.2.2.2.1))) <|
  K (.bool false)
theorem D_damperlaw4_ShelfRaces (p0 : HT [.str, .int .i64, .int .i64, .int .i64, .int .i64, .int .i64]) (p1 : HT [.str, .int .i64, .int .i64, .int .i64, .int .i64, .int .i64]) (p2 : HT [.str, .int .i64, .int .i64, .int .i64, .int .i64, .int .i64]) (p3 : Int) (p4 : Int) (K : Value → PT) : denF Pr Dt Try.f4 A_damperlaw4_ShelfRaces [.ag [.string p0.1, .int .i64 p0.2.1, .int .i64 p0.2.2.1, .int .i64 p0.2.2.2.1, .int .i64 p0.2.2.2.2.1, .int .i64 p0.2.2.2.2.2.1], .ag [.string p1.1, .int .i64 p1.2.1, .int .i64 p1.2.2.1, .int .i64 p1.2.2.2.1, .int .i64 p1.2.2.2.2.1, .int .i64 p1.2.2.2.2.2.1], .ag [.string p2.1, .int .i64 p2.2.1, .int .i64 p2.2.2.1, .int .i64 p2.2.2.2.1, .int .i64 p2.2.2.2.2.1, .int .i64 p2.2.2.2.2.2.1], .v (.int .i64 p3), .v (.int .i64 p4)] K = F_damperlaw4_ShelfRaces p0 p1 p2 p3 p4 K := by kernel_rfl
theorem C_damperlaw4_ShelfRaces (p0 : HT [.str, .int .i64, .int .i64, .int .i64, .int .i64, .int .i64]) (p1 : HT [.str, .int .i64, .int .i64, .int .i64, .int .i64, .int .i64]) (p2 : HT [.str, .int .i64, .int .i64, .int .i64, .int .i64, .int .i64]) (p3 : Int) (p4 : Int) {K : Value → PT} {w : World} (h : F_damperlaw4_ShelfRaces p0 p1 p2 p3 p4 K w) : Calls Pr n_damperlaw4_ShelfRaces [(.ag [.string p0.1, .int .i64 p0.2.1, .int .i64 p0.2.2.1, .int .i64 p0.2.2.2.1, .int .i64 p0.2.2.2.2.1, .int .i64 p0.2.2.2.2.2.1] : SV).toV, (.ag [.string p1.1, .int .i64 p1.2.1, .int .i64 p1.2.2.1, .int .i64 p1.2.2.2.1, .int .i64 p1.2.2.2.2.1, .int .i64 p1.2.2.2.2.2.1] : SV).toV, (.ag [.string p2.1, .int .i64 p2.2.1, .int .i64 p2.2.2.1, .int .i64 p2.2.2.2.1, .int .i64 p2.2.2.2.2.1, .int .i64 p2.2.2.2.2.2.1] : SV).toV, .int .i64 p3, .int .i64 p4].toArray w fun e w2 => ∃ v, e = .returned v ∧ K v w2 :=
  denF_ok Tok (f := 4) (fn := Try.f4) (an := A_damperlaw4_ShelfRaces) (args := [.ag [.string p0.1, .int .i64 p0.2.1, .int .i64 p0.2.2.1, .int .i64 p0.2.2.2.1, .int .i64 p0.2.2.2.2.1, .int .i64 p0.2.2.2.2.2.1], .ag [.string p1.1, .int .i64 p1.2.1, .int .i64 p1.2.2.1, .int .i64 p1.2.2.2.1, .int .i64 p1.2.2.2.2.1, .int .i64 p1.2.2.2.2.2.1], .ag [.string p2.1, .int .i64 p2.2.1, .int .i64 p2.2.2.1, .int .i64 p2.2.2.2.1, .int .i64 p2.2.2.2.2.1, .int .i64 p2.2.2.2.2.2.1], .v (.int .i64 p3), .v (.int .i64 p4)]) (by kernel_rfl) (by kernel_rfl) ((congrFun (D_damperlaw4_ShelfRaces p0 p1 p2 p3 p4 K) w).mpr h)
theorem E_damperlaw4_ShelfRaces : Enters Pr n_damperlaw4_ShelfRaces := enters_of_B (by kernel_rfl)
end Go.Proofs.Ytpnbgpolbjbhpaa
