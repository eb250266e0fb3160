/- The engine, last part: a program's functions, from a law's arguments on. -/
import Derived.Test.YtimkclpogbfciaaDoorEngF
import Derived.Test.YtimkclpogbfciaaDoorEngK
set_option linter.unusedVariables false
set_option linter.unusedSimpArgs false
namespace Go.Eng
open Go.RowKit
section
variable {P : Program} {w : World}
def codeB (d : Array Oper -> Bool) : Code -> Bool
 | .region _ ops draw => !draw || d ops
 | .seq a b => codeB d a && codeB d b
 | .cond _ a b => codeB d a && codeB d b
 | .block _ a => codeB d a
 | .loop a => codeB d a
 | .scope a => codeB d a
 | _ => true
theorem codeB_ok {d : Array Oper -> Bool} (hd : ∀ ops, d ops = true -> DrawOk P ops) : ∀ {c : Code}, codeB d c = true -> CodeOk P c
 | .region id ops draw, h => by
  cases draw with
  | false => exact .text id ops
  | true => exact .draw id ops (hd ops (by simpa [codeB] using h))
 | .seq a b, h => by simp only [codeB, Bool.and_eq_true] at h; exact .seq (codeB_ok hd h.1) (codeB_ok hd h.2)
 | .cond c a b, h => by simp only [codeB, Bool.and_eq_true] at h; exact .cond c (codeB_ok hd h.1) (codeB_ok hd h.2)
 | .block id a, h => .block id (codeB_ok hd (by simpa [codeB] using h))
 | .loop a, h => .loop (codeB_ok hd (by simpa [codeB] using h))
 | .scope a, h => .scope (codeB_ok hd (by simpa [codeB] using h))
 | .skip, _ => .skip
 | .label l, _ => .label l
 | .goto l, _ => .goto l
 | .exit id, _ => .exit id
 | .ret, _ => .ret
 | .rangeFunc .., _ => .range ..
 | .refuse _, _ => .refuse _
def progB (d : Array Oper -> Bool) (P : Program) : Bool := P.funcs.toList.all fun fn => match fn.body with
 | none => true
 | some c => codeB d c && !(fn.name == "runtime.NumGoroutine")
theorem progB_ok {d : Array Oper -> Bool} (hd : ∀ ops, d ops = true -> DrawOk P ops) (h : progB d P = true) : ProgOk P := by
 intro f fn c hf hb
 have hm : fn ∈ P.funcs.toList := by
  obtain ⟨h1, h2⟩ := Array.getElem?_eq_some_iff.1 hf
  rw [<- h2]; simp
 have := List.all_eq_true.1 h fn hm
 simp only [hb, Bool.and_eq_true, Bool.not_eq_true'] at this
 exact ⟨codeB_ok hd this.1, this.2⟩
theorem prog_ok (hm : P.follows .mixedOrders = true) (h : progB drawB P = true) : ProgOk P := progB_ok (fun ops ho => draw_ok hm ho) h
def noView : Gh := ⟨fun _ => none, fun _ => none, fun _ => none⟩
theorem closed_calls (hT : Tabs P w) (hP : ProgOk P) {n : Nat} {f : FuncId} {b : Bool} {sig' : Sig} (h : evFunc P n f [] [] = some (.t (.sc (.bool b)), sig')) :
  Calls P f #[] w fun e w' => e = .returned (.bool b) /\ Below w.heap.size w w' := by
 refine ((func_sound hP n f [] [] _ _ h).1 w noView #[] rfl (fun i v x h => by simp at h) ⟨fun _ _ h => (by cases h), fun _ _ _ h => (by cases h), fun _ _ h => (by cases h)⟩ ⟨fun _ _ h => (by cases h), fun _ _ h => (by cases h), fun _ h => (by cases h), fun _ _ h => (by cases h), hT.glob (fun _ => rfl) (fun _ => rfl)⟩ (fun _ _ h => by cases h) (fun _ _ h => by cases h)).mono ?_
 rintro e w' ⟨x, g', rfl, hr, _, _, hx, _⟩
 simp only [RelV] at hr
 exact ⟨by rw [hr.toSc.1], hx.os, hx.tape, hx.output, hx.size, fun k hk => (hx.old k hk (fun _ h => by cases h) rfl).1⟩
end
end Go.Eng
