/- A row of operations that draws its order. -/
import Derived.Test.YtcfbnhdcpmnpaaaFwI
set_option linter.unusedSimpArgs false
set_option linter.unusedVariables false
namespace Go.Abs
open Go.RowKit
variable {P : Program} {wr : FuncId → Bool} {c : Ctx} {w : World} {G : Nat → Option (List AVal)} {s : AState} {a : Act}
variable {callv : AVal → List AVal → Store → Option (AVal × Store)} {raw : FuncId → Bool}

theorem draw_ok (hm : P.follows .mixedOrders = true) (hcall : UponOk P wr G callv) {app : List (Nat × Nat)} (happ : ∀ p ∈ app, 0 < p.2) {id : Nat} {ops : Array Oper} {os : List AOper} {site site' : Nat} {ro : Option Nat} {m : Nat} {Q : Exit → Act → World → Prop} {s' : AState}
    (hc : compOps P app ops.toList ops.toList site = some (os, site')) (hd : ∀ o ∈ ops.toList, ∀ t, o.dst = some t → t < a.tmps.size) (h : Fr P wr G c w s a)
    (hk : (drawReady && drawOk (flagsOf wr os (befs ops.toList [])) (befs ops.toList [])) = true) (hr : runOps G callv raw (flagsOf wr os (befs ops.toList [])) s = some s')
    (hQ : ∀ c' w' a', Went P wr G c w a s' c' w' a' → Q .normal a' w') : (Code.region id ops true).wpIn (WF ro) m P Q a w := by
  simp [drawReady] at hk
end Go.Abs
