/- What the engine's walk comes to, printed by a program of this work: for each function its model, and that it is one. No conditions. -/
import Derived.Test.YtbcgpjlkkcdmmaaGreatDoorStr
namespace Go.Proofs.YtbcgpjlkkcdmmaaGreatDoor.W
open Go Go.Eng
set_option linter.unusedVariables false
set_option linter.unusedSimpArgs false
set_option maxRecDepth 100000
def m_z49 (n:Nat) (a0:Int):Option ((List T)) := declsM a0
def d_z49:FnF := ⟨31,[.int .i64],[.own 4]⟩
theorem m_z49_ok (n:Nat):Ok Tryz.prog d_z49 (m_z49 n) := fun a r h=>x_suturehand_Decls (show declsM a.1 = some r from h)
def m_z65 (n:Nat) (a0:List T):Option ((List T)) :=
bif (decide ((((List.length a0:Nat):Int):Int) > 16)) then (
must true (decide (0 <= 0)&&decide (0 <= 16)&&decide (16 <= ((List.length a0:Nat):Int))&&sized 5 a0) (some (List.drop (Int.toNat 0) (List.take (Int.toNat 16) a0))))
else (
some a0)
def d_z65:FnF := ⟨33,[.list],[.list]⟩
theorem m_z65_ok (n:Nat):Ok Tryz.prog d_z65 (m_z65 n) := fnOk0 sound [] Tryz.func33 (by kernel_rfl) (fun a=>by kernel_rfl)
def m_z63 (n:Nat) (a0:Int) (a1:Int):Option (Int) :=
must true (!decide (a1 = 0)) (bif (decide (((Int.tmod a0 a1):Int) < 0)) then (
some (IntKind.wrap .i64 ((Int.tmod a0 a1) + a1)))
else (
some (Int.tmod a0 a1)))
def d_z63:FnF := ⟨26,[.int .i64,.int .i64],[.int .i64]⟩
theorem m_z63_ok (n:Nat):Ok Tryz.prog d_z63 (m_z63 n) := fnOk0 sound [] Tryz.func26 (by kernel_rfl) (fun a=>by kernel_rfl)
def m_z51 (n:Nat) (a0:Int):Option (ByteArray) :=
Option.bind (m_z63 n a0 8) fun r0 =>
Option.bind (idx1 true (.str) [(T.sc (.string (⟨#[120]⟩:ByteArray))),(T.sc (.string (⟨#[120]⟩:ByteArray))),(T.sc (.string (⟨#[121]⟩:ByteArray))),(T.sc (.string (⟨#[122]⟩:ByteArray))),(T.sc (.string (⟨#[97]⟩:ByteArray))),(T.sc (.string (⟨#[116]⟩:ByteArray))),(T.sc (.string (⟨#[120]⟩:ByteArray))),(T.sc (.string (⟨#[121]⟩:ByteArray)))] r0) fun y1 =>
some y1.str
def d_z51:FnF := ⟨54,[.int .i64],[.str]⟩
theorem m_z51_ok (n:Nat):Ok Tryz.prog d_z51 (m_z51 n) := fnOk0 sound [⟨d_z63,m_z63 n,m_z63_ok n⟩] Tryz.func54 (by kernel_rfl) (fun a=>by kernel_rfl)
structure B_z62 where
 y10:List T -> Int -> Option (Int × Int × ByteArray × (List T))
def d_z62:FnF := ⟨92,[.list,.int .i64],[.agg 4,.int .i64,.int .i64,.str,.list]⟩
structure B_z62_ok (b:B_z62):Prop where
 y10:Ok Tryz.prog d_z62 b.y10
def f_z62 (b:B_z62) (n:Nat) (a0:List T) (a1:Int):Option (Int × Int × ByteArray × (List T)) :=
bif ((((List.length a0:Nat):Int):Int) == 0) then (
some (1,1,(⟨#[]⟩:ByteArray),([]:List T)))
else (
Option.bind (idx true [.int .i64] a0 0) fun y0 =>
Option.bind (m_z63 n (y0.cell 0).int 16) fun r1 =>
bif (bif (decide ((r1:Int) < 5)) then true else (decide ((a1:Int) > 5))) then (
must true (!decide (16 = 0)) (Option.bind (m_z51 n (IntKind.wrap .i64 (Int.tdiv (y0.cell 0).int 16))) fun r2 =>
some (2,0,r2,([]:List T))))
else (
bif (decide ((r1:Int) < 8)) then (
must true (!decide (16 = 0)) (Option.bind (m_z63 n (IntKind.wrap .i64 (Int.tdiv (y0.cell 0).int 16)) 5) fun r3 =>
some (1,r3,(⟨#[]⟩:ByteArray),([]:List T))))
else (
bif ((r1:Int) == 8) then (
must true (decide (0 <= 1)&&decide (1 <= ((List.length a0:Nat):Int))&&decide (((List.length a0:Nat):Int) <= ((List.length a0:Nat):Int))&&sized 1 a0) (Option.bind (b.y10 (List.drop (Int.toNat 1) (List.take (Int.toNat ((List.length a0:Nat):Int)) a0)) (IntKind.wrap .i64 (a1 + 1))) fun r4 =>
some (3,0,(⟨#[]⟩:ByteArray),[(T.agg [(T.sc (.int .i64 r4.1)),(T.sc (.int .i64 r4.2.1)),(T.sc (.string r4.2.2.1)),(T.list r4.2.2.2)])])))
else (
must true (!decide (16 = 0)) (Option.bind (m_z63 n (IntKind.wrap .i64 (Int.tdiv (y0.cell 0).int 16)) 7) fun r5 =>
must true (!decide (2 = 0)) (must true (decide (0 <= 1)&&decide (1 <= (IntKind.wrap .i64 (1 + (IntKind.wrap .i64 (Int.tdiv ((List.length a0:Nat):Int) 2)))))&&decide ((IntKind.wrap .i64 (1 + (IntKind.wrap .i64 (Int.tdiv ((List.length a0:Nat):Int) 2)))) <= ((List.length a0:Nat):Int))&&sized 1 a0) (Option.bind (b.y10 (List.drop (Int.toNat 1) (List.take (Int.toNat (IntKind.wrap .i64 (1 + (IntKind.wrap .i64 (Int.tdiv ((List.length a0:Nat):Int) 2))))) a0)) (IntKind.wrap .i64 (a1 + 1))) fun r6 =>
must true (decide (0 <= (IntKind.wrap .i64 (1 + (IntKind.wrap .i64 (Int.tdiv ((List.length a0:Nat):Int) 2)))))&&decide ((IntKind.wrap .i64 (1 + (IntKind.wrap .i64 (Int.tdiv ((List.length a0:Nat):Int) 2)))) <= ((List.length a0:Nat):Int))&&decide (((List.length a0:Nat):Int) <= ((List.length a0:Nat):Int))&&sized 1 a0) (Option.bind (b.y10 (List.drop (Int.toNat (IntKind.wrap .i64 (1 + (IntKind.wrap .i64 (Int.tdiv ((List.length a0:Nat):Int) 2))))) (List.take (Int.toNat ((List.length a0:Nat):Int)) a0)) (IntKind.wrap .i64 (a1 + 1))) fun r7 =>
some ((IntKind.wrap .i64 (4 + r5)),0,(⟨#[]⟩:ByteArray),[(T.agg [(T.sc (.int .i64 r6.1)),(T.sc (.int .i64 r6.2.1)),(T.sc (.string r6.2.2.1)),(T.list r6.2.2.2)]),(T.agg [(T.sc (.int .i64 r7.1)),(T.sc (.int .i64 r7.2.1)),(T.sc (.string r7.2.2.1)),(T.list r7.2.2.2)])])))))))))
theorem f_z62_ok (b:B_z62) (hb:B_z62_ok b) (n:Nat):Ok Tryz.prog d_z62 (f_z62 b n) := fnOk0 sound [⟨d_z63,m_z63 n,m_z63_ok n⟩,⟨d_z51,m_z51 n,m_z51_ok n⟩,⟨d_z62,b.y10,hb.y10⟩] Tryz.func92 (by kernel_rfl) (fun a=>by kernel_rfl)
def unB_z62 (n:Nat):Nat -> B_z62
 | 0=>{ y10 := fun _ _=>none }
 | m + 1=>{ y10 := f_z62 (unB_z62 n m) n }
theorem unB_z62_ok (n:Nat):∀ m,B_z62_ok (unB_z62 n m)
 | 0=>{ y10 := fun _ _ h=>(nomatch (show none = some _ from h)) }
 | m + 1=>{ y10 := f_z62_ok _ (unB_z62_ok n m) n }
def m_z62 (n:Nat):List T -> Int -> Option (Int × Int × ByteArray × (List T)) := (unB_z62 n n).y10
theorem m_z62_ok (n:Nat):Ok Tryz.prog d_z62 (m_z62 n) := (unB_z62_ok n n).y10
def m_z52 (n:Nat) (a0:Int) (a1:Int) (a2:Int) (a3:Int) (a4:List T):Option (Int × Int × ByteArray × (List T)) :=
bif (decide ((((List.length a4:Nat):Int):Int) > 3)) then (
must true (decide (0 <= 0)&&decide (0 <= 3)&&decide (3 <= ((List.length a4:Nat):Int))&&sized 1 a4) (Option.bind (m_z62 n (List.drop (Int.toNat 0) (List.take (Int.toNat 3) a4)) 0) fun r0 =>
some (r0.1,r0.2.1,r0.2.2.1,r0.2.2.2)))
else (
Option.bind (m_z62 n a4 0) fun r1 =>
some (r1.1,r1.2.1,r1.2.2.1,r1.2.2.2))
def d_z52:FnF := ⟨55,[.agg 5,.int .i64,.int .i64,.int .i64,.int .i64,.list],[.agg 4,.int .i64,.int .i64,.str,.list]⟩
theorem m_z52_ok (n:Nat):Ok Tryz.prog d_z52 (m_z52 n) := fnOk0 sound [⟨d_z62,m_z62 n,m_z62_ok n⟩] Tryz.func55 (by kernel_rfl) (fun a=>by kernel_rfl)
structure B_z53 where
 y13:List T -> Int -> Int -> Option ((List T) × (List T))
def d_z53:FnF := ⟨32,[.list,.int .i64,.int .i64],[.tup 2,.list,.list]⟩
structure B_z53_ok (b:B_z53):Prop where
 y13:Ok Tryz.prog d_z53 b.y13
def l_z53_2_B (b:B_z53) (n:Nat) (k:(List T) × Int × Int × (List T) -> Option ((List T) × (List T))):(List T) × Int × Int × (List T) -> Option ((List T) × (List T)) := fun (s0,s1,s2,s3) =>
bif (bif (decide ((((List.length s3:Nat):Int):Int) < s1)) then (decide ((((List.length s0:Nat):Int):Int) > 0)) else false) then (
Option.bind (idx true [.int .i64,.int .i64,.int .i64,.int .i64,.list] s0 0) fun y0 =>
must true (decide (0 <= 1)&&decide (1 <= ((List.length s0:Nat):Int))&&decide (((List.length s0:Nat):Int) <= ((List.length s0:Nat):Int))&&sized 5 s0) (Option.bind (m_z63 n (y0.cell 0).int 24) fun r1 =>
bif (decide ((r1:Int) < 9)) then (
Option.bind (m_z51 n (y0.cell 1).int) fun r2 =>
Option.bind (m_z52 n (y0.cell 0).int (y0.cell 1).int (y0.cell 2).int (y0.cell 3).int (y0.cell 4).lst) fun r3 =>
must true ((Nat.beq 11 11 || Nat.beq 11 0)&&(decide (List.length s3 + List.length [(T.agg [(T.sc (.int .i64 1)),(T.sc (.string r2)),(T.sc (.string (⟨#[]⟩:ByteArray))),(T.sc (.int .i64 0)),(T.sc (.int .i64 r3.1)),(T.sc (.int .i64 r3.2.1)),(T.sc (.string r3.2.2.1)),(T.list r3.2.2.2),(T.list ([]:List T)),(T.list ([]:List T)),(T.sc (.complex .f64 0 0))])] <= 1073741824)&&sized 11 [(T.agg [(T.sc (.int .i64 1)),(T.sc (.string r2)),(T.sc (.string (⟨#[]⟩:ByteArray))),(T.sc (.int .i64 0)),(T.sc (.int .i64 r3.1)),(T.sc (.int .i64 r3.2.1)),(T.sc (.string r3.2.2.1)),(T.list r3.2.2.2),(T.list ([]:List T)),(T.list ([]:List T)),(T.sc (.complex .f64 0 0))])])) (k ((List.drop (Int.toNat 1) (List.take (Int.toNat ((List.length s0:Nat):Int)) s0)),s1,s2,(s3++[(T.agg [(T.sc (.int .i64 1)),(T.sc (.string r2)),(T.sc (.string (⟨#[]⟩:ByteArray))),(T.sc (.int .i64 0)),(T.sc (.int .i64 r3.1)),(T.sc (.int .i64 r3.2.1)),(T.sc (.string r3.2.2.1)),(T.list r3.2.2.2),(T.list ([]:List T)),(T.list ([]:List T)),(T.sc (.complex .f64 0 0))])]))))
else (
bif (decide ((r1:Int) < 11)) then (
must true ((Nat.beq 11 11 || Nat.beq 11 0)&&(decide (List.length s3 + List.length [(T.agg [(T.sc (.int .i64 2)),(T.sc (.string (⟨#[109]⟩:ByteArray))),(T.sc (.string (⟨#[]⟩:ByteArray))),(T.sc (.int .i64 0)),(T.sc (.int .i64 0)),(T.sc (.int .i64 0)),(T.sc (.string (⟨#[]⟩:ByteArray))),(T.list ([]:List T)),(T.list ([]:List T)),(T.list ([]:List T)),(T.sc (.complex .f64 0 0))])] <= 1073741824)&&sized 11 [(T.agg [(T.sc (.int .i64 2)),(T.sc (.string (⟨#[109]⟩:ByteArray))),(T.sc (.string (⟨#[]⟩:ByteArray))),(T.sc (.int .i64 0)),(T.sc (.int .i64 0)),(T.sc (.int .i64 0)),(T.sc (.string (⟨#[]⟩:ByteArray))),(T.list ([]:List T)),(T.list ([]:List T)),(T.list ([]:List T)),(T.sc (.complex .f64 0 0))])])) (k ((List.drop (Int.toNat 1) (List.take (Int.toNat ((List.length s0:Nat):Int)) s0)),s1,s2,(s3++[(T.agg [(T.sc (.int .i64 2)),(T.sc (.string (⟨#[109]⟩:ByteArray))),(T.sc (.string (⟨#[]⟩:ByteArray))),(T.sc (.int .i64 0)),(T.sc (.int .i64 0)),(T.sc (.int .i64 0)),(T.sc (.string (⟨#[]⟩:ByteArray))),(T.list ([]:List T)),(T.list ([]:List T)),(T.list ([]:List T)),(T.sc (.complex .f64 0 0))])]))))
else (
bif (decide ((r1:Int) < 13)) then (
must true ((Nat.beq 11 11 || Nat.beq 11 0)&&(decide (List.length s3 + List.length [(T.agg [(T.sc (.int .i64 3)),(T.sc (.string (⟨#[109]⟩:ByteArray))),(T.sc (.string (⟨#[]⟩:ByteArray))),(T.sc (.int .i64 0)),(T.sc (.int .i64 0)),(T.sc (.int .i64 0)),(T.sc (.string (⟨#[]⟩:ByteArray))),(T.list ([]:List T)),(T.list ([]:List T)),(T.list ([]:List T)),(T.sc (.complex .f64 0 0))])] <= 1073741824)&&sized 11 [(T.agg [(T.sc (.int .i64 3)),(T.sc (.string (⟨#[109]⟩:ByteArray))),(T.sc (.string (⟨#[]⟩:ByteArray))),(T.sc (.int .i64 0)),(T.sc (.int .i64 0)),(T.sc (.int .i64 0)),(T.sc (.string (⟨#[]⟩:ByteArray))),(T.list ([]:List T)),(T.list ([]:List T)),(T.list ([]:List T)),(T.sc (.complex .f64 0 0))])])) (k ((List.drop (Int.toNat 1) (List.take (Int.toNat ((List.length s0:Nat):Int)) s0)),s1,s2,(s3++[(T.agg [(T.sc (.int .i64 3)),(T.sc (.string (⟨#[109]⟩:ByteArray))),(T.sc (.string (⟨#[]⟩:ByteArray))),(T.sc (.int .i64 0)),(T.sc (.int .i64 0)),(T.sc (.int .i64 0)),(T.sc (.string (⟨#[]⟩:ByteArray))),(T.list ([]:List T)),(T.list ([]:List T)),(T.list ([]:List T)),(T.sc (.complex .f64 0 0))])]))))
else (
bif (decide ((r1:Int) < 15)) then (
Option.bind (m_z63 n (y0.cell 1).int 2) fun r4 =>
Option.bind (idx1 true (.str) [(T.sc (.string (⟨#[99]⟩:ByteArray))),(T.sc (.string (⟨#[100]⟩:ByteArray)))] r4) fun y5 =>
Option.bind (m_z52 n (y0.cell 0).int (y0.cell 1).int (y0.cell 2).int (y0.cell 3).int (y0.cell 4).lst) fun r6 =>
must true ((Nat.beq 11 11 || Nat.beq 11 0)&&(decide (List.length s3 + List.length [(T.agg [(T.sc (.int .i64 4)),(T.sc (.string y5.str)),(T.sc (.string (⟨#[]⟩:ByteArray))),(T.sc (.int .i64 0)),(T.sc (.int .i64 r6.1)),(T.sc (.int .i64 r6.2.1)),(T.sc (.string r6.2.2.1)),(T.list r6.2.2.2),(T.list ([]:List T)),(T.list ([]:List T)),(T.sc (.complex .f64 0 0))])] <= 1073741824)&&sized 11 [(T.agg [(T.sc (.int .i64 4)),(T.sc (.string y5.str)),(T.sc (.string (⟨#[]⟩:ByteArray))),(T.sc (.int .i64 0)),(T.sc (.int .i64 r6.1)),(T.sc (.int .i64 r6.2.1)),(T.sc (.string r6.2.2.1)),(T.list r6.2.2.2),(T.list ([]:List T)),(T.list ([]:List T)),(T.sc (.complex .f64 0 0))])])) (k ((List.drop (Int.toNat 1) (List.take (Int.toNat ((List.length s0:Nat):Int)) s0)),s1,s2,(s3++[(T.agg [(T.sc (.int .i64 4)),(T.sc (.string y5.str)),(T.sc (.string (⟨#[]⟩:ByteArray))),(T.sc (.int .i64 0)),(T.sc (.int .i64 r6.1)),(T.sc (.int .i64 r6.2.1)),(T.sc (.string r6.2.2.1)),(T.list r6.2.2.2),(T.list ([]:List T)),(T.list ([]:List T)),(T.sc (.complex .f64 0 0))])]))))
else (
bif (decide ((r1:Int) < 17)) then (
Option.bind (m_z63 n (y0.cell 1).int 2) fun r7 =>
Option.bind (idx1 true (.str) [(T.sc (.string (⟨#[99]⟩:ByteArray))),(T.sc (.string (⟨#[100]⟩:ByteArray)))] r7) fun y8 =>
Option.bind (m_z51 n (y0.cell 2).int) fun r9 =>
must true ((Nat.beq 11 11 || Nat.beq 11 0)&&(decide (List.length s3 + List.length [(T.agg [(T.sc (.int .i64 5)),(T.sc (.string y8.str)),(T.sc (.string r9)),(T.sc (.int .i64 0)),(T.sc (.int .i64 0)),(T.sc (.int .i64 0)),(T.sc (.string (⟨#[]⟩:ByteArray))),(T.list ([]:List T)),(T.list ([]:List T)),(T.list ([]:List T)),(T.sc (.complex .f64 0 0))])] <= 1073741824)&&sized 11 [(T.agg [(T.sc (.int .i64 5)),(T.sc (.string y8.str)),(T.sc (.string r9)),(T.sc (.int .i64 0)),(T.sc (.int .i64 0)),(T.sc (.int .i64 0)),(T.sc (.string (⟨#[]⟩:ByteArray))),(T.list ([]:List T)),(T.list ([]:List T)),(T.list ([]:List T)),(T.sc (.complex .f64 0 0))])])) (k ((List.drop (Int.toNat 1) (List.take (Int.toNat ((List.length s0:Nat):Int)) s0)),s1,s2,(s3++[(T.agg [(T.sc (.int .i64 5)),(T.sc (.string y8.str)),(T.sc (.string r9)),(T.sc (.int .i64 0)),(T.sc (.int .i64 0)),(T.sc (.int .i64 0)),(T.sc (.string (⟨#[]⟩:ByteArray))),(T.list ([]:List T)),(T.list ([]:List T)),(T.list ([]:List T)),(T.sc (.complex .f64 0 0))])]))))
else (
bif (decide ((r1:Int) < 18)) then (
Option.bind (m_z52 n (y0.cell 0).int (y0.cell 1).int (y0.cell 2).int (y0.cell 3).int (y0.cell 4).lst) fun r10 =>
must true ((Nat.beq 11 11 || Nat.beq 11 0)&&(decide (List.length s3 + List.length [(T.agg [(T.sc (.int .i64 6)),(T.sc (.string (⟨#[]⟩:ByteArray))),(T.sc (.string (⟨#[]⟩:ByteArray))),(T.sc (.int .i64 0)),(T.sc (.int .i64 r10.1)),(T.sc (.int .i64 r10.2.1)),(T.sc (.string r10.2.2.1)),(T.list r10.2.2.2),(T.list ([]:List T)),(T.list ([]:List T)),(T.sc (.complex .f64 0 0))])] <= 1073741824)&&sized 11 [(T.agg [(T.sc (.int .i64 6)),(T.sc (.string (⟨#[]⟩:ByteArray))),(T.sc (.string (⟨#[]⟩:ByteArray))),(T.sc (.int .i64 0)),(T.sc (.int .i64 r10.1)),(T.sc (.int .i64 r10.2.1)),(T.sc (.string r10.2.2.1)),(T.list r10.2.2.2),(T.list ([]:List T)),(T.list ([]:List T)),(T.sc (.complex .f64 0 0))])])) (k ((List.drop (Int.toNat 1) (List.take (Int.toNat ((List.length s0:Nat):Int)) s0)),s1,s2,(s3++[(T.agg [(T.sc (.int .i64 6)),(T.sc (.string (⟨#[]⟩:ByteArray))),(T.sc (.string (⟨#[]⟩:ByteArray))),(T.sc (.int .i64 0)),(T.sc (.int .i64 r10.1)),(T.sc (.int .i64 r10.2.1)),(T.sc (.string r10.2.2.1)),(T.list r10.2.2.2),(T.list ([]:List T)),(T.list ([]:List T)),(T.sc (.complex .f64 0 0))])]))))
else (
bif (bif (decide ((r1:Int) < 20)) then (decide ((s2:Int) < 3)) else false) then (
Option.bind (m_z52 n (y0.cell 0).int (y0.cell 1).int (y0.cell 2).int (y0.cell 3).int (y0.cell 4).lst) fun r11 =>
Option.bind (m_z63 n (y0.cell 1).int 2) fun r12 =>
Option.bind (b.y13 (List.drop (Int.toNat 1) (List.take (Int.toNat ((List.length s0:Nat):Int)) s0)) (IntKind.wrap .i64 (1 + r12)) (IntKind.wrap .i64 (s2 + 1))) fun r13 =>
must true (!decide (3 = 0)) (bif (((Int.tmod (y0.cell 2).int 3):Int) == 0) then (
Option.bind (m_z63 n (y0.cell 3).int 2) fun r14 =>
Option.bind (b.y13 r13.2 (IntKind.wrap .i64 (1 + r14)) (IntKind.wrap .i64 (s2 + 1))) fun r15 =>
must true ((Nat.beq 11 11 || Nat.beq 11 0)&&(decide (List.length s3 + List.length [(T.agg [(T.sc (.int .i64 7)),(T.sc (.string (⟨#[]⟩:ByteArray))),(T.sc (.string (⟨#[]⟩:ByteArray))),(T.sc (.int .i64 0)),(T.sc (.int .i64 r11.1)),(T.sc (.int .i64 r11.2.1)),(T.sc (.string r11.2.2.1)),(T.list r11.2.2.2),(T.list r13.1),(T.list r15.1),(T.sc (.complex .f64 0 0))])] <= 1073741824)&&sized 11 [(T.agg [(T.sc (.int .i64 7)),(T.sc (.string (⟨#[]⟩:ByteArray))),(T.sc (.string (⟨#[]⟩:ByteArray))),(T.sc (.int .i64 0)),(T.sc (.int .i64 r11.1)),(T.sc (.int .i64 r11.2.1)),(T.sc (.string r11.2.2.1)),(T.list r11.2.2.2),(T.list r13.1),(T.list r15.1),(T.sc (.complex .f64 0 0))])])) (k (r15.2,s1,s2,(s3++[(T.agg [(T.sc (.int .i64 7)),(T.sc (.string (⟨#[]⟩:ByteArray))),(T.sc (.string (⟨#[]⟩:ByteArray))),(T.sc (.int .i64 0)),(T.sc (.int .i64 r11.1)),(T.sc (.int .i64 r11.2.1)),(T.sc (.string r11.2.2.1)),(T.list r11.2.2.2),(T.list r13.1),(T.list r15.1),(T.sc (.complex .f64 0 0))])]))))
else (
must true ((Nat.beq 11 11 || Nat.beq 11 0)&&(decide (List.length s3 + List.length [(T.agg [(T.sc (.int .i64 7)),(T.sc (.string (⟨#[]⟩:ByteArray))),(T.sc (.string (⟨#[]⟩:ByteArray))),(T.sc (.int .i64 0)),(T.sc (.int .i64 r11.1)),(T.sc (.int .i64 r11.2.1)),(T.sc (.string r11.2.2.1)),(T.list r11.2.2.2),(T.list r13.1),(T.list ([]:List T)),(T.sc (.complex .f64 0 0))])] <= 1073741824)&&sized 11 [(T.agg [(T.sc (.int .i64 7)),(T.sc (.string (⟨#[]⟩:ByteArray))),(T.sc (.string (⟨#[]⟩:ByteArray))),(T.sc (.int .i64 0)),(T.sc (.int .i64 r11.1)),(T.sc (.int .i64 r11.2.1)),(T.sc (.string r11.2.2.1)),(T.list r11.2.2.2),(T.list r13.1),(T.list ([]:List T)),(T.sc (.complex .f64 0 0))])])) (k (r13.2,s1,s2,(s3++[(T.agg [(T.sc (.int .i64 7)),(T.sc (.string (⟨#[]⟩:ByteArray))),(T.sc (.string (⟨#[]⟩:ByteArray))),(T.sc (.int .i64 0)),(T.sc (.int .i64 r11.1)),(T.sc (.int .i64 r11.2.1)),(T.sc (.string r11.2.2.1)),(T.list r11.2.2.2),(T.list r13.1),(T.list ([]:List T)),(T.sc (.complex .f64 0 0))])]))))))
else (
bif (bif (decide ((r1:Int) < 21)) then (decide ((s2:Int) < 3)) else false) then (
Option.bind (m_z63 n (y0.cell 3).int 3) fun r16 =>
Option.bind (m_z63 n (y0.cell 1).int 2) fun r17 =>
Option.bind (b.y13 (List.drop (Int.toNat 1) (List.take (Int.toNat ((List.length s0:Nat):Int)) s0)) (IntKind.wrap .i64 (1 + r17)) (IntKind.wrap .i64 (s2 + 1))) fun r18 =>
must true ((Nat.beq 11 11 || Nat.beq 11 0)&&(decide (List.length s3 + List.length [(T.agg [(T.sc (.int .i64 8)),(T.sc (.string (⟨#[]⟩:ByteArray))),(T.sc (.string (⟨#[]⟩:ByteArray))),(T.sc (.int .i64 r16)),(T.sc (.int .i64 0)),(T.sc (.int .i64 0)),(T.sc (.string (⟨#[]⟩:ByteArray))),(T.list ([]:List T)),(T.list r18.1),(T.list ([]:List T)),(T.sc (.complex .f64 0 0))])] <= 1073741824)&&sized 11 [(T.agg [(T.sc (.int .i64 8)),(T.sc (.string (⟨#[]⟩:ByteArray))),(T.sc (.string (⟨#[]⟩:ByteArray))),(T.sc (.int .i64 r16)),(T.sc (.int .i64 0)),(T.sc (.int .i64 0)),(T.sc (.string (⟨#[]⟩:ByteArray))),(T.list ([]:List T)),(T.list r18.1),(T.list ([]:List T)),(T.sc (.complex .f64 0 0))])])) (k (r18.2,s1,s2,(s3++[(T.agg [(T.sc (.int .i64 8)),(T.sc (.string (⟨#[]⟩:ByteArray))),(T.sc (.string (⟨#[]⟩:ByteArray))),(T.sc (.int .i64 r16)),(T.sc (.int .i64 0)),(T.sc (.int .i64 0)),(T.sc (.string (⟨#[]⟩:ByteArray))),(T.list ([]:List T)),(T.list r18.1),(T.list ([]:List T)),(T.sc (.complex .f64 0 0))])]))))
else (
bif (decide ((r1:Int) < 22)) then (
Option.bind (m_z63 n (y0.cell 1).int 2) fun r19 =>
Option.bind (idx1 true (.str) [(T.sc (.string (⟨#[108]⟩:ByteArray))),(T.sc (.string (⟨#[107]⟩:ByteArray)))] r19) fun y20 =>
must true ((Nat.beq 11 11 || Nat.beq 11 0)&&(decide (List.length s3 + List.length [(T.agg [(T.sc (.int .i64 9)),(T.sc (.string y20.str)),(T.sc (.string (⟨#[]⟩:ByteArray))),(T.sc (.int .i64 0)),(T.sc (.int .i64 0)),(T.sc (.int .i64 0)),(T.sc (.string (⟨#[]⟩:ByteArray))),(T.list ([]:List T)),(T.list ([]:List T)),(T.list ([]:List T)),(T.sc (.complex .f64 0 0))])] <= 1073741824)&&sized 11 [(T.agg [(T.sc (.int .i64 9)),(T.sc (.string y20.str)),(T.sc (.string (⟨#[]⟩:ByteArray))),(T.sc (.int .i64 0)),(T.sc (.int .i64 0)),(T.sc (.int .i64 0)),(T.sc (.string (⟨#[]⟩:ByteArray))),(T.list ([]:List T)),(T.list ([]:List T)),(T.list ([]:List T)),(T.sc (.complex .f64 0 0))])])) (k ((List.drop (Int.toNat 1) (List.take (Int.toNat ((List.length s0:Nat):Int)) s0)),s1,s2,(s3++[(T.agg [(T.sc (.int .i64 9)),(T.sc (.string y20.str)),(T.sc (.string (⟨#[]⟩:ByteArray))),(T.sc (.int .i64 0)),(T.sc (.int .i64 0)),(T.sc (.int .i64 0)),(T.sc (.string (⟨#[]⟩:ByteArray))),(T.list ([]:List T)),(T.list ([]:List T)),(T.list ([]:List T)),(T.sc (.complex .f64 0 0))])]))))
else (
bif (decide ((r1:Int) < 23)) then (
Option.bind (m_z63 n (y0.cell 1).int 2) fun r21 =>
Option.bind (idx1 true (.str) [(T.sc (.string (⟨#[108]⟩:ByteArray))),(T.sc (.string (⟨#[107]⟩:ByteArray)))] r21) fun y22 =>
must true ((Nat.beq 11 11 || Nat.beq 11 0)&&(decide (List.length s3 + List.length [(T.agg [(T.sc (.int .i64 10)),(T.sc (.string y22.str)),(T.sc (.string (⟨#[]⟩:ByteArray))),(T.sc (.int .i64 0)),(T.sc (.int .i64 0)),(T.sc (.int .i64 0)),(T.sc (.string (⟨#[]⟩:ByteArray))),(T.list ([]:List T)),(T.list ([]:List T)),(T.list ([]:List T)),(T.sc (.complex .f64 0 0))])] <= 1073741824)&&sized 11 [(T.agg [(T.sc (.int .i64 10)),(T.sc (.string y22.str)),(T.sc (.string (⟨#[]⟩:ByteArray))),(T.sc (.int .i64 0)),(T.sc (.int .i64 0)),(T.sc (.int .i64 0)),(T.sc (.string (⟨#[]⟩:ByteArray))),(T.list ([]:List T)),(T.list ([]:List T)),(T.list ([]:List T)),(T.sc (.complex .f64 0 0))])])) (k ((List.drop (Int.toNat 1) (List.take (Int.toNat ((List.length s0:Nat):Int)) s0)),s1,s2,(s3++[(T.agg [(T.sc (.int .i64 10)),(T.sc (.string y22.str)),(T.sc (.string (⟨#[]⟩:ByteArray))),(T.sc (.int .i64 0)),(T.sc (.int .i64 0)),(T.sc (.int .i64 0)),(T.sc (.string (⟨#[]⟩:ByteArray))),(T.list ([]:List T)),(T.list ([]:List T)),(T.list ([]:List T)),(T.sc (.complex .f64 0 0))])]))))
else (
Option.bind (m_z52 n (y0.cell 0).int (y0.cell 1).int (y0.cell 2).int (y0.cell 3).int (y0.cell 4).lst) fun r23 =>
must true ((Nat.beq 11 11 || Nat.beq 11 0)&&(decide (List.length s3 + List.length [(T.agg [(T.sc (.int .i64 1)),(T.sc (.string (⟨#[116]⟩:ByteArray))),(T.sc (.string (⟨#[]⟩:ByteArray))),(T.sc (.int .i64 0)),(T.sc (.int .i64 r23.1)),(T.sc (.int .i64 r23.2.1)),(T.sc (.string r23.2.2.1)),(T.list r23.2.2.2),(T.list ([]:List T)),(T.list ([]:List T)),(T.sc (.complex .f64 0 0))])] <= 1073741824)&&sized 11 [(T.agg [(T.sc (.int .i64 1)),(T.sc (.string (⟨#[116]⟩:ByteArray))),(T.sc (.string (⟨#[]⟩:ByteArray))),(T.sc (.int .i64 0)),(T.sc (.int .i64 r23.1)),(T.sc (.int .i64 r23.2.1)),(T.sc (.string r23.2.2.1)),(T.list r23.2.2.2),(T.list ([]:List T)),(T.list ([]:List T)),(T.sc (.complex .f64 0 0))])])) (k ((List.drop (Int.toNat 1) (List.take (Int.toNat ((List.length s0:Nat):Int)) s0)),s1,s2,(s3++[(T.agg [(T.sc (.int .i64 1)),(T.sc (.string (⟨#[116]⟩:ByteArray))),(T.sc (.string (⟨#[]⟩:ByteArray))),(T.sc (.int .i64 0)),(T.sc (.int .i64 r23.1)),(T.sc (.int .i64 r23.2.1)),(T.sc (.string r23.2.2.1)),(T.list r23.2.2.2),(T.list ([]:List T)),(T.list ([]:List T)),(T.sc (.complex .f64 0 0))])])))))))))))))))
else (
some (s0,s3))
def l_z53_2 (b:B_z53) (n:Nat):Nat -> (List T) × Int × Int × (List T) -> Option ((List T) × (List T))
 | 0,_=>none
 | m + 1,s=>l_z53_2_B b n (l_z53_2 b n m) s
def f_z53 (b:B_z53) (n:Nat) (a0:List T) (a1:Int) (a2:Int):Option ((List T) × (List T)) :=
Option.bind (l_z53_2 b n n (a0,a1,a2,([]:List T))) fun p25 =>
some (p25.2,p25.1)
def cs_z53 (b:B_z53) (hb:B_z53_ok b) (n:Nat):List (CalF Tryz.prog) := [⟨d_z63,m_z63 n,m_z63_ok n⟩,⟨d_z51,m_z51 n,m_z51_ok n⟩,⟨d_z52,m_z52 n,m_z52_ok n⟩,⟨d_z53,b.y13,hb.y13⟩]
def L_l_z53_2:LF := ⟨2,[0,1,2,8],[.list,.int .i64,.int .i64,.own 11],[⟨(.exit 0),[0,8],[.list,.own 11]⟩]⟩
def ls_z53 (b:B_z53) (n:Nat):List LE := [⟨2,loopS L_l_z53_2 (l_z53_2 b n n)⟩]
theorem l_z53_2_ok (b:B_z53) (hb:B_z53_ok b) (n:Nat):LoopOk Tryz.prog (mkSpec (cs_z53 b hb n) (ls_z53 b n)) 0 179 (loopAt Tryz.f32 0) := loopOk (L := L_l_z53_2) (f := l_z53_2 b n) (B := l_z53_2_B b n) (k := n) (loopAt_ok sound Tryz.func32 (by kernel_rfl)) (inner (by kernel_rfl) allN) (innerS (by kernel_rfl) allN) (fun _=>rfl) (fun _ _=>rfl) (by kernel_rfl) (fun _=>by kernel_rfl) (by kernel_rfl) (fun k a=>by kernel_rfl)
theorem f_z53_ok (b:B_z53) (hb:B_z53_ok b) (n:Nat):Ok Tryz.prog d_z53 (f_z53 b n) := fnOk sound (cs := cs_z53 b hb n) (ls := ls_z53 b n) (n := 179) Tryz.func32 (by kernel_rfl) (fun _=>by kernel_rfl) (inner (by kernel_rfl) (allC (l_z53_2_ok b hb n) allN)) (innerS (by kernel_rfl) allN) (by kernel_rfl) (fun a=>by kernel_rfl)
def unB_z53 (n:Nat):Nat -> B_z53
 | 0=>{ y13 := fun _ _ _=>none }
 | m + 1=>{ y13 := f_z53 (unB_z53 n m) n }
theorem unB_z53_ok (n:Nat):∀ m,B_z53_ok (unB_z53 n m)
 | 0=>{ y13 := fun _ _ h=>(nomatch (show none = some _ from h)) }
 | m + 1=>{ y13 := f_z53_ok _ (unB_z53_ok n m) n }
def m_z53 (n:Nat):List T -> Int -> Int -> Option ((List T) × (List T)) := (unB_z53 n n).y13
theorem m_z53_ok (n:Nat):Ok Tryz.prog d_z53 (m_z53 n) := (unB_z53_ok n n).y13
def l_z64_3_B (n:Nat) (k:(List T) × Int × (List T) × (List T) × (List T) × Int × (List T) × (List T) × (List T) × (List T) -> Option ((List T) × (List T) × (List T) × (List T))):(List T) × Int × (List T) × (List T) × (List T) × Int × (List T) × (List T) × (List T) × (List T) -> Option ((List T) × (List T) × (List T) × (List T)) := fun (s0,s1,s2,s3,s4,s5,s6,s7,s8,s9) =>
bif (decide ((s5:Int) < 3)) then (
Option.bind (idx1 true (.list) [(T.list s2),(T.list s3),(T.list s4)] s5) fun y1 =>
bif (bif ((s5:Int) == 2) then (bif ((((List.length s0:Nat):Int):Int) == 0) then true else (decide ((s1:Int) > 4))) else false) then (
some (s6,s7,s8,s9))
else (
Option.bind (m_z65 n y1.lst) fun r2 =>
Option.bind (m_z53 n r2 s1 1) fun r3 =>
must true ((Nat.beq 1 1 || Nat.beq 1 0)&&(decide (List.length s9 + List.length [(T.list r3.1)] <= 1073741824)&&sized 1 [(T.list r3.1)])) (k (s0,s1,s2,s3,s4,(IntKind.wrap .i64 (s5 + 1)),s6,s7,s8,(s9++[(T.list r3.1)])))))
else (
some (s6,s7,s8,s9))
def l_z64_3 (n:Nat):Nat -> (List T) × Int × (List T) × (List T) × (List T) × Int × (List T) × (List T) × (List T) × (List T) -> Option ((List T) × (List T) × (List T) × (List T))
 | 0,_=>none
 | m + 1,s=>l_z64_3_B n (l_z64_3 n m) s
def m_z64 (n:Nat) (a0:Int) (a1:List T) (a2:List T) (a3:List T) (a4:Int):Option ((List T) × (List T)) :=
Option.bind (m_z49 n a0) fun r0 =>
Option.bind (l_z64_3 n n (a3,a4,a1,a2,a3,0,([]:List T),([]:List T),r0,([]:List T))) fun p5 =>
some (p5.2.2.1,p5.2.2.2)
def d_z64:FnF := ⟨12,[.int .i64,.list,.list,.list,.int .i64],[.agg 2,.list,.list]⟩
def cs_z64 (n:Nat):List (CalF Tryz.prog) := [⟨d_z49,m_z49 n,m_z49_ok n⟩,⟨d_z65,m_z65 n,m_z65_ok n⟩,⟨d_z53,m_z53 n,m_z53_ok n⟩]
def L_l_z64_3:LF := ⟨3,[3,4,10,11,22,23],[.list,.int .i64,.ptr 0 0,.ptr 1 0,.agg 3,.list,.list,.list,.int .i64,.box 2,.own 0,.own 0,.box 2,.list,.own 1],[⟨(.exit 0),[10,11],[.ptr 0 0,.ptr 1 0,.box 2,.own 0,.own 0,.box 2,.list,.own 1]⟩]⟩
def ls_z64 (n:Nat):List LE := [⟨3,loopS L_l_z64_3 (l_z64_3 n n)⟩]
theorem l_z64_3_ok (n:Nat):LoopOk Tryz.prog (mkSpec (cs_z64 n) (ls_z64 n)) 0 53 (loopAt Tryz.f12 0) := loopOk (L := L_l_z64_3) (f := l_z64_3 n) (B := l_z64_3_B n) (k := n) (loopAt_ok sound Tryz.func12 (by kernel_rfl)) (inner (by kernel_rfl) allN) (innerS (by kernel_rfl) allN) (fun _=>rfl) (fun _ _=>rfl) (by kernel_rfl) (fun _=>by kernel_rfl) (by kernel_rfl) (fun k a=>by kernel_rfl)
theorem m_z64_ok (n:Nat):Ok Tryz.prog d_z64 (m_z64 n) := fnOk sound (cs := cs_z64 n) (ls := ls_z64 n) (n := 53) Tryz.func12 (by kernel_rfl) (fun _=>by kernel_rfl) (inner (by kernel_rfl) (allC (l_z64_3_ok n) allN)) (innerS (by kernel_rfl) allN) (by kernel_rfl) (fun a=>by kernel_rfl)
structure B_z41 where
 y15:Int -> Option (ByteArray)
def d_z41:FnF := ⟨51,[.int .i64],[.str]⟩
structure B_z41_ok (b:B_z41):Prop where
 y15:Ok Tryz.prog d_z41 b.y15
def f_z41 (b:B_z41) (n:Nat) (a0:Int):Option (ByteArray) :=
bif (decide ((a0:Int) < 10)) then (
Option.bind (bytesIf true [(T.sc (.int .u8 (IntKind.wrap .u8 (IntKind.wrap .i64 (48 + a0)))))]) fun l0 =>
some (ByteArray.mk (List.toArray l0)))
else (
must true (!decide (10 = 0)) (Option.bind (b.y15 (IntKind.wrap .i64 (Int.tdiv a0 10))) fun r1 =>
must true (!decide (10 = 0)) (Option.bind (bytesIf true [(T.sc (.int .u8 (IntKind.wrap .u8 (IntKind.wrap .i64 (48 + (Int.tmod a0 10))))))]) fun l2 =>
must true (decide (((ByteArray.size r1 + ByteArray.size (ByteArray.mk (List.toArray l2)):Nat):Int) <= IntKind.i64.max)) (some (r1++(ByteArray.mk (List.toArray l2)))))))
theorem f_z41_ok (b:B_z41) (hb:B_z41_ok b) (n:Nat):Ok Tryz.prog d_z41 (f_z41 b n) := fnOk0 sound [⟨d_z41,b.y15,hb.y15⟩] Tryz.func51 (by kernel_rfl) (fun a=>by kernel_rfl)
def unB_z41 (n:Nat):Nat -> B_z41
 | 0=>{ y15 := fun _=>none }
 | m + 1=>{ y15 := f_z41 (unB_z41 n m) n }
theorem unB_z41_ok (n:Nat):∀ m,B_z41_ok (unB_z41 n m)
 | 0=>{ y15 := fun _ _ h=>(nomatch (show none = some _ from h)) }
 | m + 1=>{ y15 := f_z41_ok _ (unB_z41_ok n m) n }
def m_z41 (n:Nat):Int -> Option (ByteArray) := (unB_z41 n n).y15
theorem m_z41_ok (n:Nat):Ok Tryz.prog d_z41 (m_z41 n) := (unB_z41_ok n n).y15
structure B_z72 where
 y21:Int -> Option (ByteArray)
def d_z72:FnF := ⟨90,[.int .i64],[.str]⟩
structure B_z72_ok (b:B_z72):Prop where
 y21:Ok Tryz.prog d_z72 b.y21
def f_z72 (b:B_z72) (n:Nat) (a0:Int):Option (ByteArray) :=
bif (decide ((a0:Int) <= 0)) then (
some (⟨#[]⟩:ByteArray))
else (
Option.bind (b.y21 (IntKind.wrap .i64 (a0 - 1))) fun r0 =>
must true (decide (((ByteArray.size (⟨#[9]⟩:ByteArray) + ByteArray.size r0:Nat):Int) <= IntKind.i64.max)) (some ((⟨#[9]⟩:ByteArray)++r0)))
theorem f_z72_ok (b:B_z72) (hb:B_z72_ok b) (n:Nat):Ok Tryz.prog d_z72 (f_z72 b n) := fnOk0 sound [⟨d_z72,b.y21,hb.y21⟩] Tryz.func90 (by kernel_rfl) (fun a=>by kernel_rfl)
def unB_z72 (n:Nat):Nat -> B_z72
 | 0=>{ y21 := fun _=>none }
 | m + 1=>{ y21 := f_z72 (unB_z72 n m) n }
theorem unB_z72_ok (n:Nat):∀ m,B_z72_ok (unB_z72 n m)
 | 0=>{ y21 := fun _ _ h=>(nomatch (show none = some _ from h)) }
 | m + 1=>{ y21 := f_z72_ok _ (unB_z72_ok n m) n }
def m_z72 (n:Nat):Int -> Option (ByteArray) := (unB_z72 n n).y21
theorem m_z72_ok (n:Nat):Ok Tryz.prog d_z72 (m_z72 n) := (unB_z72_ok n n).y21
def m_z58 (n:Nat) (a0:Int):Option (Int) :=
bif ((a0:Int) == 9) then (
bif ((a0:Int) == 9) then (
some 1)
else (
bif ((a0:Int) == 4) then (
bif ((a0:Int) == 4) then (
some 2)
else (
bif ((a0:Int) == 6) then (
bif ((a0:Int) == 6) then (
some 3)
else (
bif ((a0:Int) == 3) then (
some 4)
else (
bif ((a0:Int) == 1) then (
bif ((a0:Int) == 1) then (
some 5)
else (
some 0))
else (
bif ((a0:Int) == 2) then (
some 5)
else (
some 0)))))
else (
bif ((a0:Int) == 7) then (
bif ((a0:Int) == 7) then (
some 3)
else (
bif ((a0:Int) == 3) then (
some 4)
else (
bif ((a0:Int) == 1) then (
bif ((a0:Int) == 1) then (
some 5)
else (
some 0))
else (
bif ((a0:Int) == 2) then (
some 5)
else (
some 0)))))
else (
bif ((a0:Int) == 8) then (
some 3)
else (
bif ((a0:Int) == 3) then (
some 4)
else (
bif ((a0:Int) == 1) then (
bif ((a0:Int) == 1) then (
some 5)
else (
some 0))
else (
bif ((a0:Int) == 2) then (
some 5)
else (
some 0))))))))
else (
bif ((a0:Int) == 5) then (
some 2)
else (
bif ((a0:Int) == 6) then (
bif ((a0:Int) == 6) then (
some 3)
else (
bif ((a0:Int) == 3) then (
some 4)
else (
bif ((a0:Int) == 1) then (
bif ((a0:Int) == 1) then (
some 5)
else (
some 0))
else (
bif ((a0:Int) == 2) then (
some 5)
else (
some 0)))))
else (
bif ((a0:Int) == 7) then (
bif ((a0:Int) == 7) then (
some 3)
else (
bif ((a0:Int) == 3) then (
some 4)
else (
bif ((a0:Int) == 1) then (
bif ((a0:Int) == 1) then (
some 5)
else (
some 0))
else (
bif ((a0:Int) == 2) then (
some 5)
else (
some 0)))))
else (
bif ((a0:Int) == 8) then (
some 3)
else (
bif ((a0:Int) == 3) then (
some 4)
else (
bif ((a0:Int) == 1) then (
bif ((a0:Int) == 1) then (
some 5)
else (
some 0))
else (
bif ((a0:Int) == 2) then (
some 5)
else (
some 0))))))))))
else (
bif ((a0:Int) == 10) then (
some 1)
else (
bif ((a0:Int) == 4) then (
bif ((a0:Int) == 4) then (
some 2)
else (
bif ((a0:Int) == 6) then (
bif ((a0:Int) == 6) then (
some 3)
else (
bif ((a0:Int) == 3) then (
some 4)
else (
bif ((a0:Int) == 1) then (
bif ((a0:Int) == 1) then (
some 5)
else (
some 0))
else (
bif ((a0:Int) == 2) then (
some 5)
else (
some 0)))))
else (
bif ((a0:Int) == 7) then (
bif ((a0:Int) == 7) then (
some 3)
else (
bif ((a0:Int) == 3) then (
some 4)
else (
bif ((a0:Int) == 1) then (
bif ((a0:Int) == 1) then (
some 5)
else (
some 0))
else (
bif ((a0:Int) == 2) then (
some 5)
else (
some 0)))))
else (
bif ((a0:Int) == 8) then (
some 3)
else (
bif ((a0:Int) == 3) then (
some 4)
else (
bif ((a0:Int) == 1) then (
bif ((a0:Int) == 1) then (
some 5)
else (
some 0))
else (
bif ((a0:Int) == 2) then (
some 5)
else (
some 0))))))))
else (
bif ((a0:Int) == 5) then (
some 2)
else (
bif ((a0:Int) == 6) then (
bif ((a0:Int) == 6) then (
some 3)
else (
bif ((a0:Int) == 3) then (
some 4)
else (
bif ((a0:Int) == 1) then (
bif ((a0:Int) == 1) then (
some 5)
else (
some 0))
else (
bif ((a0:Int) == 2) then (
some 5)
else (
some 0)))))
else (
bif ((a0:Int) == 7) then (
bif ((a0:Int) == 7) then (
some 3)
else (
bif ((a0:Int) == 3) then (
some 4)
else (
bif ((a0:Int) == 1) then (
bif ((a0:Int) == 1) then (
some 5)
else (
some 0))
else (
bif ((a0:Int) == 2) then (
some 5)
else (
some 0)))))
else (
bif ((a0:Int) == 8) then (
some 3)
else (
bif ((a0:Int) == 3) then (
some 4)
else (
bif ((a0:Int) == 1) then (
bif ((a0:Int) == 1) then (
some 5)
else (
some 0))
else (
bif ((a0:Int) == 2) then (
some 5)
else (
some 0))))))))))
def d_z58:FnF := ⟨124,[.int .i64],[.int .i64]⟩
theorem m_z58_ok (n:Nat):Ok Tryz.prog d_z58 (m_z58 n) := fnOk0 sound [] Tryz.func124 (by kernel_rfl) (fun a=>by kernel_rfl)
def m_z71 (n:Nat) (a0:Int):Option (ByteArray) :=
bif ((a0:Int) == 4) then (
some (⟨#[43]⟩:ByteArray))
else (
bif ((a0:Int) == 5) then (
some (⟨#[45]⟩:ByteArray))
else (
bif ((a0:Int) == 6) then (
some (⟨#[42]⟩:ByteArray))
else (
bif ((a0:Int) == 7) then (
some (⟨#[47]⟩:ByteArray))
else (
bif ((a0:Int) == 8) then (
some (⟨#[37]⟩:ByteArray))
else (
bif ((a0:Int) == 9) then (
some (⟨#[60]⟩:ByteArray))
else (
some (⟨#[61,61]⟩:ByteArray)))))))
def d_z71:FnF := ⟨126,[.int .i64],[.str]⟩
theorem m_z71_ok (n:Nat):Ok Tryz.prog d_z71 (m_z71 n) := fnOk0 sound [] Tryz.func126 (by kernel_rfl) (fun a=>by kernel_rfl)
structure B_z70 where
 y19:Int -> Int -> ByteArray -> List T -> Option (ByteArray)
 y20:Int -> Int -> ByteArray -> List T -> Int -> Option (ByteArray)
def d_z70:FnF := ⟨91,[.agg 4,.int .i64,.int .i64,.str,.list],[.str]⟩
def d_sutureref1_side:FnF := ⟨125,[.agg 4,.int .i64,.int .i64,.str,.list,.int .i64],[.str]⟩
structure B_z70_ok (b:B_z70):Prop where
 y19:Ok Tryz.prog d_z70 b.y19
 y20:Ok Tryz.prog d_sutureref1_side b.y20
def f_z70 (b:B_z70) (n:Nat) (a0:Int) (a1:Int) (a2:ByteArray) (a3:List T):Option (ByteArray) :=
Option.bind (m_z58 n a0) fun r0 =>
bif (bif ((a0:Int) == 1) then (decide ((a1:Int) ≥ 0)) else false) then (
Option.bind (m_z41 n a1) fun r1 =>
some r1)
else (
bif ((a0:Int) == 2) then (
some a2)
else (
bif (bif ((a0:Int) == 3) then ((((List.length a3:Nat):Int):Int) == 1) else false) then (
Option.bind (idx true [.int .i64,.int .i64,.str,.list] a3 0) fun y2 =>
Option.bind (b.y20 (y2.cell 0).int (y2.cell 1).int (y2.cell 2).str (y2.cell 3).lst 4) fun r3 =>
must true (decide (((ByteArray.size (⟨#[45]⟩:ByteArray) + ByteArray.size r3:Nat):Int) <= IntKind.i64.max)) (some ((⟨#[45]⟩:ByteArray)++r3)))
else (
bif (bif (bif (decide ((r0:Int) ≥ 1)) then (decide ((r0:Int) <= 3)) else false) then ((((List.length a3:Nat):Int):Int) == 2) else false) then (
bif ((r0:Int) == 1) then (
Option.bind (idx true [.int .i64,.int .i64,.str,.list] a3 0) fun y4 =>
Option.bind (b.y20 (y4.cell 0).int (y4.cell 1).int (y4.cell 2).str (y4.cell 3).lst 2) fun r5 =>
must true (decide (((ByteArray.size r5 + ByteArray.size (⟨#[32]⟩:ByteArray):Nat):Int) <= IntKind.i64.max)) (Option.bind (m_z71 n a0) fun r6 =>
must true (decide (((ByteArray.size (r5++(⟨#[32]⟩:ByteArray)) + ByteArray.size r6:Nat):Int) <= IntKind.i64.max)) (must true (decide (((ByteArray.size ((r5++(⟨#[32]⟩:ByteArray))++r6) + ByteArray.size (⟨#[32]⟩:ByteArray):Nat):Int) <= IntKind.i64.max)) (Option.bind (idx true [.int .i64,.int .i64,.str,.list] a3 1) fun y7 =>
Option.bind (b.y20 (y7.cell 0).int (y7.cell 1).int (y7.cell 2).str (y7.cell 3).lst (IntKind.wrap .i64 (r0 + 1))) fun r8 =>
must true (decide (((ByteArray.size (((r5++(⟨#[32]⟩:ByteArray))++r6)++(⟨#[32]⟩:ByteArray)) + ByteArray.size r8:Nat):Int) <= IntKind.i64.max)) (some ((((r5++(⟨#[32]⟩:ByteArray))++r6)++(⟨#[32]⟩:ByteArray))++r8))))))
else (
Option.bind (idx true [.int .i64,.int .i64,.str,.list] a3 0) fun y9 =>
Option.bind (b.y20 (y9.cell 0).int (y9.cell 1).int (y9.cell 2).str (y9.cell 3).lst r0) fun r10 =>
must true (decide (((ByteArray.size r10 + ByteArray.size (⟨#[32]⟩:ByteArray):Nat):Int) <= IntKind.i64.max)) (Option.bind (m_z71 n a0) fun r11 =>
must true (decide (((ByteArray.size (r10++(⟨#[32]⟩:ByteArray)) + ByteArray.size r11:Nat):Int) <= IntKind.i64.max)) (must true (decide (((ByteArray.size ((r10++(⟨#[32]⟩:ByteArray))++r11) + ByteArray.size (⟨#[32]⟩:ByteArray):Nat):Int) <= IntKind.i64.max)) (Option.bind (idx true [.int .i64,.int .i64,.str,.list] a3 1) fun y12 =>
Option.bind (b.y20 (y12.cell 0).int (y12.cell 1).int (y12.cell 2).str (y12.cell 3).lst (IntKind.wrap .i64 (r0 + 1))) fun r13 =>
must true (decide (((ByteArray.size (((r10++(⟨#[32]⟩:ByteArray))++r11)++(⟨#[32]⟩:ByteArray)) + ByteArray.size r13:Nat):Int) <= IntKind.i64.max)) (some ((((r10++(⟨#[32]⟩:ByteArray))++r11)++(⟨#[32]⟩:ByteArray))++r13)))))))
else (
some (⟨#[63]⟩:ByteArray)))))
theorem f_z70_ok (b:B_z70) (hb:B_z70_ok b) (n:Nat):Ok Tryz.prog d_z70 (f_z70 b n) := fnOk0 sound [⟨d_z58,m_z58 n,m_z58_ok n⟩,⟨d_z41,m_z41 n,m_z41_ok n⟩,⟨d_sutureref1_side,b.y20,hb.y20⟩,⟨d_z71,m_z71 n,m_z71_ok n⟩] Tryz.func91 (by kernel_rfl) (fun a=>by kernel_rfl)
def f_sutureref1_side (b:B_z70) (n:Nat) (a0:Int) (a1:Int) (a2:ByteArray) (a3:List T) (a4:Int):Option (ByteArray) :=
Option.bind (m_z58 n a0) fun r0 =>
bif (decide ((r0:Int) < a4)) then (
Option.bind (b.y19 a0 a1 a2 a3) fun r1 =>
must true (decide (((ByteArray.size (⟨#[40]⟩:ByteArray) + ByteArray.size r1:Nat):Int) <= IntKind.i64.max)) (must true (decide (((ByteArray.size ((⟨#[40]⟩:ByteArray)++r1) + ByteArray.size (⟨#[41]⟩:ByteArray):Nat):Int) <= IntKind.i64.max)) (some (((⟨#[40]⟩:ByteArray)++r1)++(⟨#[41]⟩:ByteArray)))))
else (
Option.bind (b.y19 a0 a1 a2 a3) fun r2 =>
some r2)
theorem f_sutureref1_side_ok (b:B_z70) (hb:B_z70_ok b) (n:Nat):Ok Tryz.prog d_sutureref1_side (f_sutureref1_side b n) := fnOk0 sound [⟨d_z58,m_z58 n,m_z58_ok n⟩,⟨d_z70,b.y19,hb.y19⟩] Tryz.func125 (by kernel_rfl) (fun a=>by kernel_rfl)
def unB_z70 (n:Nat):Nat -> B_z70
 | 0=>{ y19 := fun _ _ _ _=>none,y20 := fun _ _ _ _ _=>none }
 | m + 1=>{ y19 := f_z70 (unB_z70 n m) n,y20 := f_sutureref1_side (unB_z70 n m) n }
theorem unB_z70_ok (n:Nat):∀ m,B_z70_ok (unB_z70 n m)
 | 0=>{ y19 := fun _ _ h=>(nomatch (show none = some _ from h)),y20 := fun _ _ h=>(nomatch (show none = some _ from h)) }
 | m + 1=>{ y19 := f_z70_ok _ (unB_z70_ok n m) n,y20 := f_sutureref1_side_ok _ (unB_z70_ok n m) n }
def m_z70 (n:Nat):Int -> Int -> ByteArray -> List T -> Option (ByteArray) := (unB_z70 n n).y19
theorem m_z70_ok (n:Nat):Ok Tryz.prog d_z70 (m_z70 n) := (unB_z70_ok n n).y19
structure B_z59 where
 y18:List T -> Int -> Option (ByteArray)
def d_z59:FnF := ⟨52,[.list,.int .i64],[.str]⟩
structure B_z59_ok (b:B_z59):Prop where
 y18:Ok Tryz.prog d_z59 b.y18
def l_z59_4_B (b:B_z59) (n:Nat) (k:(List T) × Int × ByteArray × ByteArray × Int -> Option (ByteArray)):(List T) × Int × ByteArray × ByteArray × Int -> Option (ByteArray) := fun (s0,s1,s2,s3,s4) =>
bif (decide ((s4:Int) < ((List.length s0:Nat):Int))) then (
Option.bind (idx true [.int .i64,.str,.str,.int .i64,.int .i64,.int .i64,.str,.list,.list,.list,.cplx .f64] s0 s4) fun y1 =>
bif (((y1.cell 0).int:Int) == 1) then (
must true (decide (((ByteArray.size (y1.cell 1).str + ByteArray.size (⟨#[32,61,32]⟩:ByteArray):Nat):Int) <= IntKind.i64.max)) (Option.bind (m_z70 n (y1.cell 4).int (y1.cell 5).int (y1.cell 6).str (y1.cell 7).lst) fun r2 =>
must true (decide (((ByteArray.size ((y1.cell 1).str++(⟨#[32,61,32]⟩:ByteArray)) + ByteArray.size r2:Nat):Int) <= IntKind.i64.max)) (must true (decide (((ByteArray.size s2 + ByteArray.size s3:Nat):Int) <= IntKind.i64.max)) (must true (decide (((ByteArray.size (s2++s3) + ByteArray.size (((y1.cell 1).str++(⟨#[32,61,32]⟩:ByteArray))++r2):Nat):Int) <= IntKind.i64.max)) (must true (decide (((ByteArray.size ((s2++s3)++(((y1.cell 1).str++(⟨#[32,61,32]⟩:ByteArray))++r2)) + ByteArray.size (⟨#[10]⟩:ByteArray):Nat):Int) <= IntKind.i64.max)) (k (s0,s1,(((s2++s3)++(((y1.cell 1).str++(⟨#[32,61,32]⟩:ByteArray))++r2))++(⟨#[10]⟩:ByteArray)),s3,(IntKind.wrap .i64 (s4 + 1)))))))))
else (
bif (((y1.cell 0).int:Int) == 2) then (
must true (decide (((ByteArray.size (⟨#[108,111,99,107,32]⟩:ByteArray) + ByteArray.size (y1.cell 1).str:Nat):Int) <= IntKind.i64.max)) (must true (decide (((ByteArray.size s2 + ByteArray.size s3:Nat):Int) <= IntKind.i64.max)) (must true (decide (((ByteArray.size (s2++s3) + ByteArray.size ((⟨#[108,111,99,107,32]⟩:ByteArray)++(y1.cell 1).str):Nat):Int) <= IntKind.i64.max)) (must true (decide (((ByteArray.size ((s2++s3)++((⟨#[108,111,99,107,32]⟩:ByteArray)++(y1.cell 1).str)) + ByteArray.size (⟨#[10]⟩:ByteArray):Nat):Int) <= IntKind.i64.max)) (k (s0,s1,(((s2++s3)++((⟨#[108,111,99,107,32]⟩:ByteArray)++(y1.cell 1).str))++(⟨#[10]⟩:ByteArray)),s3,(IntKind.wrap .i64 (s4 + 1))))))))
else (
bif (((y1.cell 0).int:Int) == 3) then (
must true (decide (((ByteArray.size (⟨#[117,110,108,111,99,107,32]⟩:ByteArray) + ByteArray.size (y1.cell 1).str:Nat):Int) <= IntKind.i64.max)) (must true (decide (((ByteArray.size s2 + ByteArray.size s3:Nat):Int) <= IntKind.i64.max)) (must true (decide (((ByteArray.size (s2++s3) + ByteArray.size ((⟨#[117,110,108,111,99,107,32]⟩:ByteArray)++(y1.cell 1).str):Nat):Int) <= IntKind.i64.max)) (must true (decide (((ByteArray.size ((s2++s3)++((⟨#[117,110,108,111,99,107,32]⟩:ByteArray)++(y1.cell 1).str)) + ByteArray.size (⟨#[10]⟩:ByteArray):Nat):Int) <= IntKind.i64.max)) (k (s0,s1,(((s2++s3)++((⟨#[117,110,108,111,99,107,32]⟩:ByteArray)++(y1.cell 1).str))++(⟨#[10]⟩:ByteArray)),s3,(IntKind.wrap .i64 (s4 + 1))))))))
else (
bif (((y1.cell 0).int:Int) == 4) then (
must true (decide (((ByteArray.size (⟨#[115,101,110,100,32]⟩:ByteArray) + ByteArray.size (y1.cell 1).str:Nat):Int) <= IntKind.i64.max)) (must true (decide (((ByteArray.size ((⟨#[115,101,110,100,32]⟩:ByteArray)++(y1.cell 1).str) + ByteArray.size (⟨#[32]⟩:ByteArray):Nat):Int) <= IntKind.i64.max)) (Option.bind (m_z70 n (y1.cell 4).int (y1.cell 5).int (y1.cell 6).str (y1.cell 7).lst) fun r3 =>
must true (decide (((ByteArray.size (((⟨#[115,101,110,100,32]⟩:ByteArray)++(y1.cell 1).str)++(⟨#[32]⟩:ByteArray)) + ByteArray.size r3:Nat):Int) <= IntKind.i64.max)) (must true (decide (((ByteArray.size s2 + ByteArray.size s3:Nat):Int) <= IntKind.i64.max)) (must true (decide (((ByteArray.size (s2++s3) + ByteArray.size ((((⟨#[115,101,110,100,32]⟩:ByteArray)++(y1.cell 1).str)++(⟨#[32]⟩:ByteArray))++r3):Nat):Int) <= IntKind.i64.max)) (must true (decide (((ByteArray.size ((s2++s3)++((((⟨#[115,101,110,100,32]⟩:ByteArray)++(y1.cell 1).str)++(⟨#[32]⟩:ByteArray))++r3)) + ByteArray.size (⟨#[10]⟩:ByteArray):Nat):Int) <= IntKind.i64.max)) (k (s0,s1,(((s2++s3)++((((⟨#[115,101,110,100,32]⟩:ByteArray)++(y1.cell 1).str)++(⟨#[32]⟩:ByteArray))++r3))++(⟨#[10]⟩:ByteArray)),s3,(IntKind.wrap .i64 (s4 + 1))))))))))
else (
bif (((y1.cell 0).int:Int) == 5) then (
must true (decide (((ByteArray.size (⟨#[114,101,99,118,32]⟩:ByteArray) + ByteArray.size (y1.cell 1).str:Nat):Int) <= IntKind.i64.max)) (must true (decide (((ByteArray.size ((⟨#[114,101,99,118,32]⟩:ByteArray)++(y1.cell 1).str) + ByteArray.size (⟨#[32]⟩:ByteArray):Nat):Int) <= IntKind.i64.max)) (must true (decide (((ByteArray.size (((⟨#[114,101,99,118,32]⟩:ByteArray)++(y1.cell 1).str)++(⟨#[32]⟩:ByteArray)) + ByteArray.size (y1.cell 2).str:Nat):Int) <= IntKind.i64.max)) (must true (decide (((ByteArray.size s2 + ByteArray.size s3:Nat):Int) <= IntKind.i64.max)) (must true (decide (((ByteArray.size (s2++s3) + ByteArray.size ((((⟨#[114,101,99,118,32]⟩:ByteArray)++(y1.cell 1).str)++(⟨#[32]⟩:ByteArray))++(y1.cell 2).str):Nat):Int) <= IntKind.i64.max)) (must true (decide (((ByteArray.size ((s2++s3)++((((⟨#[114,101,99,118,32]⟩:ByteArray)++(y1.cell 1).str)++(⟨#[32]⟩:ByteArray))++(y1.cell 2).str)) + ByteArray.size (⟨#[10]⟩:ByteArray):Nat):Int) <= IntKind.i64.max)) (k (s0,s1,(((s2++s3)++((((⟨#[114,101,99,118,32]⟩:ByteArray)++(y1.cell 1).str)++(⟨#[32]⟩:ByteArray))++(y1.cell 2).str))++(⟨#[10]⟩:ByteArray)),s3,(IntKind.wrap .i64 (s4 + 1))))))))))
else (
bif (((y1.cell 0).int:Int) == 6) then (
Option.bind (m_z70 n (y1.cell 4).int (y1.cell 5).int (y1.cell 6).str (y1.cell 7).lst) fun r4 =>
must true (decide (((ByteArray.size (⟨#[112,114,105,110,116,32]⟩:ByteArray) + ByteArray.size r4:Nat):Int) <= IntKind.i64.max)) (must true (decide (((ByteArray.size s2 + ByteArray.size s3:Nat):Int) <= IntKind.i64.max)) (must true (decide (((ByteArray.size (s2++s3) + ByteArray.size ((⟨#[112,114,105,110,116,32]⟩:ByteArray)++r4):Nat):Int) <= IntKind.i64.max)) (must true (decide (((ByteArray.size ((s2++s3)++((⟨#[112,114,105,110,116,32]⟩:ByteArray)++r4)) + ByteArray.size (⟨#[10]⟩:ByteArray):Nat):Int) <= IntKind.i64.max)) (k (s0,s1,(((s2++s3)++((⟨#[112,114,105,110,116,32]⟩:ByteArray)++r4))++(⟨#[10]⟩:ByteArray)),s3,(IntKind.wrap .i64 (s4 + 1))))))))
else (
bif (((y1.cell 0).int:Int) == 9) then (
must true (decide (((ByteArray.size (⟨#[103,111,116,111,32]⟩:ByteArray) + ByteArray.size (y1.cell 1).str:Nat):Int) <= IntKind.i64.max)) (must true (decide (((ByteArray.size s2 + ByteArray.size s3:Nat):Int) <= IntKind.i64.max)) (must true (decide (((ByteArray.size (s2++s3) + ByteArray.size ((⟨#[103,111,116,111,32]⟩:ByteArray)++(y1.cell 1).str):Nat):Int) <= IntKind.i64.max)) (must true (decide (((ByteArray.size ((s2++s3)++((⟨#[103,111,116,111,32]⟩:ByteArray)++(y1.cell 1).str)) + ByteArray.size (⟨#[10]⟩:ByteArray):Nat):Int) <= IntKind.i64.max)) (k (s0,s1,(((s2++s3)++((⟨#[103,111,116,111,32]⟩:ByteArray)++(y1.cell 1).str))++(⟨#[10]⟩:ByteArray)),s3,(IntKind.wrap .i64 (s4 + 1))))))))
else (
bif (((y1.cell 0).int:Int) == 10) then (
must true (decide (((ByteArray.size (⟨#[108,97,98,101,108,32]⟩:ByteArray) + ByteArray.size (y1.cell 1).str:Nat):Int) <= IntKind.i64.max)) (must true (decide (((ByteArray.size s2 + ByteArray.size s3:Nat):Int) <= IntKind.i64.max)) (must true (decide (((ByteArray.size (s2++s3) + ByteArray.size ((⟨#[108,97,98,101,108,32]⟩:ByteArray)++(y1.cell 1).str):Nat):Int) <= IntKind.i64.max)) (must true (decide (((ByteArray.size ((s2++s3)++((⟨#[108,97,98,101,108,32]⟩:ByteArray)++(y1.cell 1).str)) + ByteArray.size (⟨#[10]⟩:ByteArray):Nat):Int) <= IntKind.i64.max)) (k (s0,s1,(((s2++s3)++((⟨#[108,97,98,101,108,32]⟩:ByteArray)++(y1.cell 1).str))++(⟨#[10]⟩:ByteArray)),s3,(IntKind.wrap .i64 (s4 + 1))))))))
else (
bif (((y1.cell 0).int:Int) == 7) then (
Option.bind (m_z70 n (y1.cell 4).int (y1.cell 5).int (y1.cell 6).str (y1.cell 7).lst) fun r5 =>
must true (decide (((ByteArray.size (⟨#[105,102,32]⟩:ByteArray) + ByteArray.size r5:Nat):Int) <= IntKind.i64.max)) (must true (decide (((ByteArray.size ((⟨#[105,102,32]⟩:ByteArray)++r5) + ByteArray.size (⟨#[32,123,10]⟩:ByteArray):Nat):Int) <= IntKind.i64.max)) (Option.bind (b.y18 (y1.cell 8).lst (IntKind.wrap .i64 (s1 + 1))) fun r6 =>
must true (decide (((ByteArray.size (((⟨#[105,102,32]⟩:ByteArray)++r5)++(⟨#[32,123,10]⟩:ByteArray)) + ByteArray.size r6:Nat):Int) <= IntKind.i64.max)) (must true (decide (((ByteArray.size ((((⟨#[105,102,32]⟩:ByteArray)++r5)++(⟨#[32,123,10]⟩:ByteArray))++r6) + ByteArray.size s3:Nat):Int) <= IntKind.i64.max)) (must true (decide (((ByteArray.size (((((⟨#[105,102,32]⟩:ByteArray)++r5)++(⟨#[32,123,10]⟩:ByteArray))++r6)++s3) + ByteArray.size (⟨#[125]⟩:ByteArray):Nat):Int) <= IntKind.i64.max)) (bif (decide ((((List.length (y1.cell 9).lst:Nat):Int):Int) > 0)) then (
must true (decide (((ByteArray.size ((((((⟨#[105,102,32]⟩:ByteArray)++r5)++(⟨#[32,123,10]⟩:ByteArray))++r6)++s3)++(⟨#[125]⟩:ByteArray)) + ByteArray.size (⟨#[32,101,108,115,101,32,123,10]⟩:ByteArray):Nat):Int) <= IntKind.i64.max)) (Option.bind (b.y18 (y1.cell 9).lst (IntKind.wrap .i64 (s1 + 1))) fun r7 =>
must true (decide (((ByteArray.size (((((((⟨#[105,102,32]⟩:ByteArray)++r5)++(⟨#[32,123,10]⟩:ByteArray))++r6)++s3)++(⟨#[125]⟩:ByteArray))++(⟨#[32,101,108,115,101,32,123,10]⟩:ByteArray)) + ByteArray.size r7:Nat):Int) <= IntKind.i64.max)) (must true (decide (((ByteArray.size ((((((((⟨#[105,102,32]⟩:ByteArray)++r5)++(⟨#[32,123,10]⟩:ByteArray))++r6)++s3)++(⟨#[125]⟩:ByteArray))++(⟨#[32,101,108,115,101,32,123,10]⟩:ByteArray))++r7) + ByteArray.size s3:Nat):Int) <= IntKind.i64.max)) (must true (decide (((ByteArray.size (((((((((⟨#[105,102,32]⟩:ByteArray)++r5)++(⟨#[32,123,10]⟩:ByteArray))++r6)++s3)++(⟨#[125]⟩:ByteArray))++(⟨#[32,101,108,115,101,32,123,10]⟩:ByteArray))++r7)++s3) + ByteArray.size (⟨#[125]⟩:ByteArray):Nat):Int) <= IntKind.i64.max)) (must true (decide (((ByteArray.size s2 + ByteArray.size s3:Nat):Int) <= IntKind.i64.max)) (must true (decide (((ByteArray.size (s2++s3) + ByteArray.size ((((((((((⟨#[105,102,32]⟩:ByteArray)++r5)++(⟨#[32,123,10]⟩:ByteArray))++r6)++s3)++(⟨#[125]⟩:ByteArray))++(⟨#[32,101,108,115,101,32,123,10]⟩:ByteArray))++r7)++s3)++(⟨#[125]⟩:ByteArray)):Nat):Int) <= IntKind.i64.max)) (must true (decide (((ByteArray.size ((s2++s3)++((((((((((⟨#[105,102,32]⟩:ByteArray)++r5)++(⟨#[32,123,10]⟩:ByteArray))++r6)++s3)++(⟨#[125]⟩:ByteArray))++(⟨#[32,101,108,115,101,32,123,10]⟩:ByteArray))++r7)++s3)++(⟨#[125]⟩:ByteArray))) + ByteArray.size (⟨#[10]⟩:ByteArray):Nat):Int) <= IntKind.i64.max)) (k (s0,s1,(((s2++s3)++((((((((((⟨#[105,102,32]⟩:ByteArray)++r5)++(⟨#[32,123,10]⟩:ByteArray))++r6)++s3)++(⟨#[125]⟩:ByteArray))++(⟨#[32,101,108,115,101,32,123,10]⟩:ByteArray))++r7)++s3)++(⟨#[125]⟩:ByteArray)))++(⟨#[10]⟩:ByteArray)),s3,(IntKind.wrap .i64 (s4 + 1)))))))))))
else (
must true (decide (((ByteArray.size s2 + ByteArray.size s3:Nat):Int) <= IntKind.i64.max)) (must true (decide (((ByteArray.size (s2++s3) + ByteArray.size ((((((⟨#[105,102,32]⟩:ByteArray)++r5)++(⟨#[32,123,10]⟩:ByteArray))++r6)++s3)++(⟨#[125]⟩:ByteArray)):Nat):Int) <= IntKind.i64.max)) (must true (decide (((ByteArray.size ((s2++s3)++((((((⟨#[105,102,32]⟩:ByteArray)++r5)++(⟨#[32,123,10]⟩:ByteArray))++r6)++s3)++(⟨#[125]⟩:ByteArray))) + ByteArray.size (⟨#[10]⟩:ByteArray):Nat):Int) <= IntKind.i64.max)) (k (s0,s1,(((s2++s3)++((((((⟨#[105,102,32]⟩:ByteArray)++r5)++(⟨#[32,123,10]⟩:ByteArray))++r6)++s3)++(⟨#[125]⟩:ByteArray)))++(⟨#[10]⟩:ByteArray)),s3,(IntKind.wrap .i64 (s4 + 1)))))))))))))
else (
bif (((y1.cell 0).int:Int) == 8) then (
bif (decide (((y1.cell 3).int:Int) ≥ 0)) then (
Option.bind (m_z41 n (y1.cell 3).int) fun r8 =>
must true (decide (((ByteArray.size (⟨#[114,101,112,101,97,116,32]⟩:ByteArray) + ByteArray.size r8:Nat):Int) <= IntKind.i64.max)) (must true (decide (((ByteArray.size ((⟨#[114,101,112,101,97,116,32]⟩:ByteArray)++r8) + ByteArray.size (⟨#[32,123,10]⟩:ByteArray):Nat):Int) <= IntKind.i64.max)) (Option.bind (b.y18 (y1.cell 8).lst (IntKind.wrap .i64 (s1 + 1))) fun r9 =>
must true (decide (((ByteArray.size (((⟨#[114,101,112,101,97,116,32]⟩:ByteArray)++r8)++(⟨#[32,123,10]⟩:ByteArray)) + ByteArray.size r9:Nat):Int) <= IntKind.i64.max)) (must true (decide (((ByteArray.size ((((⟨#[114,101,112,101,97,116,32]⟩:ByteArray)++r8)++(⟨#[32,123,10]⟩:ByteArray))++r9) + ByteArray.size s3:Nat):Int) <= IntKind.i64.max)) (must true (decide (((ByteArray.size (((((⟨#[114,101,112,101,97,116,32]⟩:ByteArray)++r8)++(⟨#[32,123,10]⟩:ByteArray))++r9)++s3) + ByteArray.size (⟨#[125]⟩:ByteArray):Nat):Int) <= IntKind.i64.max)) (must true (decide (((ByteArray.size s2 + ByteArray.size s3:Nat):Int) <= IntKind.i64.max)) (must true (decide (((ByteArray.size (s2++s3) + ByteArray.size ((((((⟨#[114,101,112,101,97,116,32]⟩:ByteArray)++r8)++(⟨#[32,123,10]⟩:ByteArray))++r9)++s3)++(⟨#[125]⟩:ByteArray)):Nat):Int) <= IntKind.i64.max)) (must true (decide (((ByteArray.size ((s2++s3)++((((((⟨#[114,101,112,101,97,116,32]⟩:ByteArray)++r8)++(⟨#[32,123,10]⟩:ByteArray))++r9)++s3)++(⟨#[125]⟩:ByteArray))) + ByteArray.size (⟨#[10]⟩:ByteArray):Nat):Int) <= IntKind.i64.max)) (k (s0,s1,(((s2++s3)++((((((⟨#[114,101,112,101,97,116,32]⟩:ByteArray)++r8)++(⟨#[32,123,10]⟩:ByteArray))++r9)++s3)++(⟨#[125]⟩:ByteArray)))++(⟨#[10]⟩:ByteArray)),s3,(IntKind.wrap .i64 (s4 + 1))))))))))))
else (
must true (decide (((ByteArray.size s2 + ByteArray.size s3:Nat):Int) <= IntKind.i64.max)) (must true (decide (((ByteArray.size (s2++s3) + ByteArray.size (⟨#[63]⟩:ByteArray):Nat):Int) <= IntKind.i64.max)) (must true (decide (((ByteArray.size ((s2++s3)++(⟨#[63]⟩:ByteArray)) + ByteArray.size (⟨#[10]⟩:ByteArray):Nat):Int) <= IntKind.i64.max)) (k (s0,s1,(((s2++s3)++(⟨#[63]⟩:ByteArray))++(⟨#[10]⟩:ByteArray)),s3,(IntKind.wrap .i64 (s4 + 1))))))))
else (
must true (decide (((ByteArray.size s2 + ByteArray.size s3:Nat):Int) <= IntKind.i64.max)) (must true (decide (((ByteArray.size (s2++s3) + ByteArray.size (⟨#[63]⟩:ByteArray):Nat):Int) <= IntKind.i64.max)) (must true (decide (((ByteArray.size ((s2++s3)++(⟨#[63]⟩:ByteArray)) + ByteArray.size (⟨#[10]⟩:ByteArray):Nat):Int) <= IntKind.i64.max)) (k (s0,s1,(((s2++s3)++(⟨#[63]⟩:ByteArray))++(⟨#[10]⟩:ByteArray)),s3,(IntKind.wrap .i64 (s4 + 1)))))))))))))))))
else (
some s2)
def l_z59_4 (b:B_z59) (n:Nat):Nat -> (List T) × Int × ByteArray × ByteArray × Int -> Option (ByteArray)
 | 0,_=>none
 | m + 1,s=>l_z59_4_B b n (l_z59_4 b n m) s
def f_z59 (b:B_z59) (n:Nat) (a0:List T) (a1:Int):Option (ByteArray) :=
Option.bind (m_z72 n a1) fun r0 =>
Option.bind (l_z59_4 b n n (a0,a1,(⟨#[]⟩:ByteArray),r0,0)) fun p11 =>
some p11
def cs_z59 (b:B_z59) (hb:B_z59_ok b) (n:Nat):List (CalF Tryz.prog) := [⟨d_z72,m_z72 n,m_z72_ok n⟩,⟨d_z70,m_z70 n,m_z70_ok n⟩,⟨d_z59,b.y18,hb.y18⟩,⟨d_z41,m_z41 n,m_z41_ok n⟩]
def L_l_z59_4:LF := ⟨4,[0,1,5,6,7],[.list,.int .i64,.str,.str,.int .i64],[⟨(.exit 0),[5],[.str]⟩]⟩
def ls_z59 (b:B_z59) (n:Nat):List LE := [⟨4,loopS L_l_z59_4 (l_z59_4 b n n)⟩]
theorem l_z59_4_ok (b:B_z59) (hb:B_z59_ok b) (n:Nat):LoopOk Tryz.prog (mkSpec (cs_z59 b hb n) (ls_z59 b n)) 0 135 (loopAt Tryz.f52 0) := loopOk (L := L_l_z59_4) (f := l_z59_4 b n) (B := l_z59_4_B b n) (k := n) (loopAt_ok sound Tryz.func52 (by kernel_rfl)) (inner (by kernel_rfl) allN) (innerS (by kernel_rfl) allN) (fun _=>rfl) (fun _ _=>rfl) (by kernel_rfl) (fun _=>by kernel_rfl) (by kernel_rfl) (fun k a=>by kernel_rfl)
theorem f_z59_ok (b:B_z59) (hb:B_z59_ok b) (n:Nat):Ok Tryz.prog d_z59 (f_z59 b n) := fnOk sound (cs := cs_z59 b hb n) (ls := ls_z59 b n) (n := 135) Tryz.func52 (by kernel_rfl) (fun _=>by kernel_rfl) (inner (by kernel_rfl) (allC (l_z59_4_ok b hb n) allN)) (innerS (by kernel_rfl) allN) (by kernel_rfl) (fun a=>by kernel_rfl)
def unB_z59 (n:Nat):Nat -> B_z59
 | 0=>{ y18 := fun _ _=>none }
 | m + 1=>{ y18 := f_z59 (unB_z59 n m) n }
theorem unB_z59_ok (n:Nat):∀ m,B_z59_ok (unB_z59 n m)
 | 0=>{ y18 := fun _ _ h=>(nomatch (show none = some _ from h)) }
 | m + 1=>{ y18 := f_z59_ok _ (unB_z59_ok n m) n }
def m_z59 (n:Nat):List T -> Int -> Option (ByteArray) := (unB_z59 n n).y18
theorem m_z59_ok (n:Nat):Ok Tryz.prog d_z59 (m_z59 n) := (unB_z59_ok n n).y18
def l_z68_3_B (n:Nat) (k:ByteArray × Int × (List T) × (List T) -> Option (((ByteArray × (List T) × (List T)) ⊕ ByteArray × (List T) × (List T)))):ByteArray × Int × (List T) × (List T) -> Option (((ByteArray × (List T) × (List T)) ⊕ ByteArray × (List T) × (List T))) := fun (s0,s1,s2,s3) =>
bif (decide ((s1:Int) < ((List.length s2:Nat):Int))) then (
Option.bind (idx true [.int .i64,.str,.int .i64,.cplx .f64] s2 s1) fun y0 =>
bif (bif (decide (((y0.cell 0).int:Int) < 1)) then true else (decide (((y0.cell 0).int:Int) > 6))) then (
some (Sum.inl ((⟨#[63]⟩:ByteArray),s2,s3)))
else (
Option.bind (idx1 true (.str) [(T.sc (.string (⟨#[]⟩:ByteArray))),(T.sc (.string (⟨#[118,97,114]⟩:ByteArray))),(T.sc (.string (⟨#[119,105,100,101]⟩:ByteArray))),(T.sc (.string (⟨#[97,116,111,109,105,99]⟩:ByteArray))),(T.sc (.string (⟨#[108,111,99,97,108]⟩:ByteArray))),(T.sc (.string (⟨#[109,117,116,101,120]⟩:ByteArray))),(T.sc (.string (⟨#[99,104,97,110]⟩:ByteArray)))] (y0.cell 0).int) fun y1 =>
must true (decide (((ByteArray.size s0 + ByteArray.size y1.str:Nat):Int) <= IntKind.i64.max)) (must true (decide (((ByteArray.size (s0++y1.str) + ByteArray.size (⟨#[32]⟩:ByteArray):Nat):Int) <= IntKind.i64.max)) (must true (decide (((ByteArray.size ((s0++y1.str)++(⟨#[32]⟩:ByteArray)) + ByteArray.size (y0.cell 1).str:Nat):Int) <= IntKind.i64.max)) (bif (((y0.cell 0).int:Int) == 6) then (
bif (decide (((y0.cell 2).int:Int) < 0)) then (
some (Sum.inl ((⟨#[63]⟩:ByteArray),s2,s3)))
else (
must true (decide (((ByteArray.size (((s0++y1.str)++(⟨#[32]⟩:ByteArray))++(y0.cell 1).str) + ByteArray.size (⟨#[32]⟩:ByteArray):Nat):Int) <= IntKind.i64.max)) (Option.bind (m_z41 n (y0.cell 2).int) fun r2 =>
must true (decide (((ByteArray.size ((((s0++y1.str)++(⟨#[32]⟩:ByteArray))++(y0.cell 1).str)++(⟨#[32]⟩:ByteArray)) + ByteArray.size r2:Nat):Int) <= IntKind.i64.max)) (must true (decide (((ByteArray.size (((((s0++y1.str)++(⟨#[32]⟩:ByteArray))++(y0.cell 1).str)++(⟨#[32]⟩:ByteArray))++r2) + ByteArray.size (⟨#[10]⟩:ByteArray):Nat):Int) <= IntKind.i64.max)) (k (((((((s0++y1.str)++(⟨#[32]⟩:ByteArray))++(y0.cell 1).str)++(⟨#[32]⟩:ByteArray))++r2)++(⟨#[10]⟩:ByteArray)),(IntKind.wrap .i64 (s1 + 1)),s2,s3))))))
else (
must true (decide (((ByteArray.size (((s0++y1.str)++(⟨#[32]⟩:ByteArray))++(y0.cell 1).str) + ByteArray.size (⟨#[10]⟩:ByteArray):Nat):Int) <= IntKind.i64.max)) (k (((((s0++y1.str)++(⟨#[32]⟩:ByteArray))++(y0.cell 1).str)++(⟨#[10]⟩:ByteArray)),(IntKind.wrap .i64 (s1 + 1)),s2,s3))))))))
else (
some (Sum.inr (s0,s2,s3)))
def l_z68_3 (n:Nat):Nat -> ByteArray × Int × (List T) × (List T) -> Option (((ByteArray × (List T) × (List T)) ⊕ ByteArray × (List T) × (List T)))
 | 0,_=>none
 | m + 1,s=>l_z68_3_B n (l_z68_3 n m) s
def l_z68_15_B (n:Nat) (k:ByteArray × Int × (List T) × (List T) -> Option (ByteArray × (List T) × (List T))):ByteArray × Int × (List T) × (List T) -> Option (ByteArray × (List T) × (List T)) := fun (s0,s1,s2,s3) =>
bif (decide ((s1:Int) < ((List.length s3:Nat):Int))) then (
must true (decide (((ByteArray.size s0 + ByteArray.size (⟨#[103,111,32,123,10]⟩:ByteArray):Nat):Int) <= IntKind.i64.max)) (Option.bind (idx true [.list] s3 s1) fun y6 =>
Option.bind (m_z59 n (y6.cell 0).lst 1) fun r7 =>
must true (decide (((ByteArray.size (s0++(⟨#[103,111,32,123,10]⟩:ByteArray)) + ByteArray.size r7:Nat):Int) <= IntKind.i64.max)) (must true (decide (((ByteArray.size ((s0++(⟨#[103,111,32,123,10]⟩:ByteArray))++r7) + ByteArray.size (⟨#[125,10]⟩:ByteArray):Nat):Int) <= IntKind.i64.max)) (k ((((s0++(⟨#[103,111,32,123,10]⟩:ByteArray))++r7)++(⟨#[125,10]⟩:ByteArray)),(IntKind.wrap .i64 (s1 + 1)),s2,s3)))))
else (
some (s0,s2,s3))
def l_z68_15 (n:Nat):Nat -> ByteArray × Int × (List T) × (List T) -> Option (ByteArray × (List T) × (List T))
 | 0,_=>none
 | m + 1,s=>l_z68_15_B n (l_z68_15 n m) s
def m_z68 (n:Nat) (a0:List T) (a1:List T):Option (ByteArray) :=
Option.bind (l_z68_3 n n ((⟨#[]⟩:ByteArray),0,a0,a1)) fun x3 =>
Sum.elim (fun p4 =>
some p4.1) (fun x3'=>(fun p5 =>
Option.bind (l_z68_15 n n (p5.1,0,p5.2.1,p5.2.2)) fun p9 =>
some p9.1) x3') x3
def d_z68:FnF := ⟨25,[.agg 2,.list,.list],[.str]⟩
def cs_z68 (n:Nat):List (CalF Tryz.prog) := [⟨d_z41,m_z41 n,m_z41_ok n⟩,⟨d_z59,m_z59 n,m_z59_ok n⟩]
def L_l_z68_3:LF := ⟨3,[1,3,4],[.ptr 0 0,.str,.int .i64,.box 2,.list,.list],[⟨.ret,[2],[.str,.box 2,.list,.list]⟩,⟨(.exit 0),[1,3],[.ptr 0 0,.str,.box 2,.list,.list]⟩]⟩
def L_l_z68_15:LF := ⟨15,[1,3,6],[.ptr 0 0,.str,.int .i64,.box 2,.list,.list],[⟨(.exit 2),[3],[.str,.box 2,.list,.list]⟩]⟩
def ls_z68 (n:Nat):List LE := [⟨3,loopS L_l_z68_3 (l_z68_3 n n)⟩,⟨15,loopS L_l_z68_15 (l_z68_15 n n)⟩]
theorem l_z68_3_ok (n:Nat):LoopOk Tryz.prog (mkSpec (cs_z68 n) (ls_z68 n)) 0 69 (loopAt Tryz.f25 0) := loopOk (L := L_l_z68_3) (f := l_z68_3 n) (B := l_z68_3_B n) (k := n) (loopAt_ok sound Tryz.func25 (by kernel_rfl)) (inner (by kernel_rfl) allN) (innerS (by kernel_rfl) allN) (fun _=>rfl) (fun _ _=>rfl) (by kernel_rfl) (fun _=>by kernel_rfl) (by kernel_rfl) (fun k a=>by kernel_rfl)
theorem l_z68_15_ok (n:Nat):LoopOk Tryz.prog (mkSpec (cs_z68 n) (ls_z68 n)) 0 69 (loopAt Tryz.f25 1) := loopOk (L := L_l_z68_15) (f := l_z68_15 n) (B := l_z68_15_B n) (k := n) (loopAt_ok sound Tryz.func25 (by kernel_rfl)) (inner (by kernel_rfl) allN) (innerS (by kernel_rfl) allN) (fun _=>rfl) (fun _ _=>rfl) (by kernel_rfl) (fun _=>by kernel_rfl) (by kernel_rfl) (fun k a=>by kernel_rfl)
theorem m_z68_ok (n:Nat):Ok Tryz.prog d_z68 (m_z68 n) := fnOk sound (cs := cs_z68 n) (ls := ls_z68 n) (n := 69) Tryz.func25 (by kernel_rfl) (fun _=>by kernel_rfl) (inner (by kernel_rfl) (allC (l_z68_3_ok n) (allC (l_z68_15_ok n) allN))) (innerS (by kernel_rfl) allN) (by kernel_rfl) (fun a=>by kernel_rfl)
structure B_z39 where
 y12:List T -> Int -> Option ((List T) × Int)
def d_z39:FnF := ⟨104,[.list,.ptr 0 0,.box 1,.int .i64],[.own 11,.box 1,.int .i64]⟩
structure B_z39_ok (b:B_z39):Prop where
 y12:Ok Tryz.prog d_z39 b.y12
def l_z39_3_B (b:B_z39) (n:Nat) (k:(List T) × (List T) × Int × Int -> Option ((List T) × Int)):(List T) × (List T) × Int × Int -> Option ((List T) × Int) := fun (s0,s1,s2,s3) =>
bif (decide ((s2:Int) < ((List.length s0:Nat):Int))) then (
Option.bind (idx true [.int .i64,.str,.str,.int .i64,.int .i64,.int .i64,.str,.list,.list,.list,.cplx .f64] s0 s2) fun y0 =>
Option.bind (idx true [.int .i64,.str,.str,.int .i64,.int .i64,.int .i64,.str,.list,.list,.list,.cplx .f64] s0 s2) fun y1 =>
Option.bind (b.y12 (y1.cell 8).lst (IntKind.wrap .i64 (s3 + 1))) fun r2 =>
Option.bind (idx true [.int .i64,.str,.str,.int .i64,.int .i64,.int .i64,.str,.list,.list,.list,.cplx .f64] s0 s2) fun y3 =>
Option.bind (b.y12 (y3.cell 9).lst r2.2) fun r4 =>
must true ((Nat.beq 11 11 || Nat.beq 11 0)&&(decide (List.length s1 + List.length [(T.agg [(T.sc (.int .i64 (y0.cell 0).int)),(T.sc (.string (y0.cell 1).str)),(T.sc (.string (y0.cell 2).str)),(T.sc (.int .i64 (y0.cell 3).int)),(T.sc (.int .i64 (y0.cell 4).int)),(T.sc (.int .i64 (y0.cell 5).int)),(T.sc (.string (y0.cell 6).str)),(T.list (y0.cell 7).lst),(T.list r2.1),(T.list r4.1),(T.sc (.complex .f64 (FloatKind.nearest .f64 s3) 0))])] <= 1073741824)&&sized 11 [(T.agg [(T.sc (.int .i64 (y0.cell 0).int)),(T.sc (.string (y0.cell 1).str)),(T.sc (.string (y0.cell 2).str)),(T.sc (.int .i64 (y0.cell 3).int)),(T.sc (.int .i64 (y0.cell 4).int)),(T.sc (.int .i64 (y0.cell 5).int)),(T.sc (.string (y0.cell 6).str)),(T.list (y0.cell 7).lst),(T.list r2.1),(T.list r4.1),(T.sc (.complex .f64 (FloatKind.nearest .f64 s3) 0))])])) (k (s0,(s1++[(T.agg [(T.sc (.int .i64 (y0.cell 0).int)),(T.sc (.string (y0.cell 1).str)),(T.sc (.string (y0.cell 2).str)),(T.sc (.int .i64 (y0.cell 3).int)),(T.sc (.int .i64 (y0.cell 4).int)),(T.sc (.int .i64 (y0.cell 5).int)),(T.sc (.string (y0.cell 6).str)),(T.list (y0.cell 7).lst),(T.list r2.1),(T.list r4.1),(T.sc (.complex .f64 (FloatKind.nearest .f64 s3) 0))])]),(IntKind.wrap .i64 (s2 + 1)),r4.2)))
else (
some (s1,s3))
def l_z39_3 (b:B_z39) (n:Nat):Nat -> (List T) × (List T) × Int × Int -> Option ((List T) × Int)
 | 0,_=>none
 | m + 1,s=>l_z39_3_B b n (l_z39_3 b n m) s
def f_z39 (b:B_z39) (n:Nat) (a0:List T) (a1:Int):Option ((List T) × Int) :=
Option.bind (l_z39_3 b n n (a0,([]:List T),0,a1)) fun p6 =>
some (p6.1,p6.2)
def cs_z39 (b:B_z39) (hb:B_z39_ok b) (n:Nat):List (CalF Tryz.prog) := [⟨d_z39,b.y12,hb.y12⟩]
def L_l_z39_3:LF := ⟨3,[0,1,5,6],[.list,.ptr 0 0,.own 11,.int .i64,.box 1,.int .i64],[⟨(.exit 0),[5],[.own 11,.box 1,.int .i64]⟩]⟩
def ls_z39 (b:B_z39) (n:Nat):List LE := [⟨3,loopS L_l_z39_3 (l_z39_3 b n n)⟩]
theorem l_z39_3_ok (b:B_z39) (hb:B_z39_ok b) (n:Nat):LoopOk Tryz.prog (mkSpec (cs_z39 b hb n) (ls_z39 b n)) 1 51 (loopAt Tryz.f104 0) := loopOk (L := L_l_z39_3) (f := l_z39_3 b n) (B := l_z39_3_B b n) (k := n) (loopAt_ok sound Tryz.func104 (by kernel_rfl)) (inner (by kernel_rfl) allN) (innerS (by kernel_rfl) allN) (fun _=>rfl) (fun _ _=>rfl) (by kernel_rfl) (fun _=>by kernel_rfl) (by kernel_rfl) (fun k a=>by kernel_rfl)
theorem f_z39_ok (b:B_z39) (hb:B_z39_ok b) (n:Nat):Ok Tryz.prog d_z39 (f_z39 b n) := fnOk sound (cs := cs_z39 b hb n) (ls := ls_z39 b n) (n := 51) Tryz.func104 (by kernel_rfl) (fun _=>by kernel_rfl) (inner (by kernel_rfl) (allC (l_z39_3_ok b hb n) allN)) (innerS (by kernel_rfl) allN) (by kernel_rfl) (fun a=>by kernel_rfl)
def unB_z39 (n:Nat):Nat -> B_z39
 | 0=>{ y12 := fun _ _=>none }
 | m + 1=>{ y12 := f_z39 (unB_z39 n m) n }
theorem unB_z39_ok (n:Nat):∀ m,B_z39_ok (unB_z39 n m)
 | 0=>{ y12 := fun _ _ h=>(nomatch (show none = some _ from h)) }
 | m + 1=>{ y12 := f_z39_ok _ (unB_z39_ok n m) n }
def m_z39 (n:Nat):List T -> Int -> Option ((List T) × Int) := (unB_z39 n n).y12
theorem m_z39_ok (n:Nat):Ok Tryz.prog d_z39 (m_z39 n) := (unB_z39_ok n n).y12
def l_z66_4_B (n:Nat) (k:Int × (List T) × (List T) × (List T) × (List T) × Int × (List T) × (List T) -> Option ((List T) × (List T) × (List T) × (List T) × Int × (List T) × (List T))):Int × (List T) × (List T) × (List T) × (List T) × Int × (List T) × (List T) -> Option ((List T) × (List T) × (List T) × (List T) × Int × (List T) × (List T)) := fun (s0,s1,s2,s3,s4,s5,s6,s7) =>
bif (decide ((s0:Int) < ((List.length s2:Nat):Int))) then (
Option.bind (idx true [.list] s2 s0) fun y0 =>
Option.bind (m_z39 n (y0.cell 0).lst s5) fun r1 =>
must true ((Nat.beq 1 1 || Nat.beq 1 0)&&(decide (List.length s7 + List.length [(T.list r1.1)] <= 1073741824)&&sized 1 [(T.list r1.1)])) (k ((IntKind.wrap .i64 (s0 + 1)),s1,s2,s3,s4,r1.2,s6,(s7++[(T.list r1.1)]))))
else (
some (s1,s2,s3,s4,s5,s6,s7))
def l_z66_4 (n:Nat):Nat -> Int × (List T) × (List T) × (List T) × (List T) × Int × (List T) × (List T) -> Option ((List T) × (List T) × (List T) × (List T) × Int × (List T) × (List T))
 | 0,_=>none
 | m + 1,s=>l_z66_4_B n (l_z66_4 n m) s
def m_z66 (n:Nat) (a0:List T) (a1:List T):Option ((List T) × (List T)) :=
Option.bind (l_z66_4 n n (0,a0,a1,([]:List T),([]:List T),0,a0,([]:List T))) fun p3 =>
some (p3.2.2.2.2.2.1,p3.2.2.2.2.2.2)
def d_z66:FnF := ⟨65,[.agg 2,.list,.list],[.agg 2,.list,.list]⟩
def cs_z66 (n:Nat):List (CalF Tryz.prog) := [⟨d_z39,m_z39 n,m_z39_ok n⟩]
def L_l_z66_4:LF := ⟨4,[1,2,3,4,5],[.ptr 0 0,.ptr 1 0,.ptr 2 0,.ptr 3 0,.int .i64,.box 2,.list,.list,.box 2,.own 0,.own 0,.box 1,.int .i64,.box 2,.list,.own 1],[⟨(.exit 0),[2,4],[.ptr 1 0,.ptr 3 0,.box 2,.list,.list,.box 2,.own 0,.own 0,.box 1,.int .i64,.box 2,.list,.own 1]⟩]⟩
def ls_z66 (n:Nat):List LE := [⟨4,loopS L_l_z66_4 (l_z66_4 n n)⟩]
theorem l_z66_4_ok (n:Nat):LoopOk Tryz.prog (mkSpec (cs_z66 n) (ls_z66 n)) 0 28 (loopAt Tryz.f65 0) := loopOk (L := L_l_z66_4) (f := l_z66_4 n) (B := l_z66_4_B n) (k := n) (loopAt_ok sound Tryz.func65 (by kernel_rfl)) (inner (by kernel_rfl) allN) (innerS (by kernel_rfl) allN) (fun _=>rfl) (fun _ _=>rfl) (by kernel_rfl) (fun _=>by kernel_rfl) (by kernel_rfl) (fun k a=>by kernel_rfl)
theorem m_z66_ok (n:Nat):Ok Tryz.prog d_z66 (m_z66 n) := fnOk sound (cs := cs_z66 n) (ls := ls_z66 n) (n := 28) Tryz.func65 (by kernel_rfl) (fun _=>by kernel_rfl) (inner (by kernel_rfl) (allC (l_z66_4_ok n) allN)) (innerS (by kernel_rfl) allN) (by kernel_rfl) (fun a=>by kernel_rfl)
structure B_z61 where
 y22:List T -> List T -> Int -> Int -> Option ((List T) × Int)
def d_z61:FnF := ⟨138,[.list,.list,.int .i64,.ptr 0 0,.box 1,.int .i64],[.own 13,.box 1,.int .i64]⟩
structure B_z61_ok (b:B_z61):Prop where
 y22:Ok Tryz.prog d_z61 b.y22
def l_z61_5_B (b:B_z61) (n:Nat) (k:(List T) × Int × (List T) × (List T) × Int × Int -> Option ((List T) × Int)):(List T) × Int × (List T) × (List T) × Int × Int -> Option ((List T) × Int) := fun (s0,s1,s2,s3,s4,s5) =>
bif (decide ((s4:Int) < ((List.length s0:Nat):Int))) then (
Option.bind (idx true [.int .i64,.str,.str,.int .i64,.int .i64,.int .i64,.str,.list,.list,.list,.cplx .f64] s0 s4) fun y0 =>
must true ((Nat.beq 13 13 || Nat.beq 13 0)&&(decide (List.length s3 + List.length [(T.agg [(T.sc (.int .i64 (y0.cell 0).int)),(T.sc (.string (y0.cell 1).str)),(T.sc (.string (y0.cell 2).str)),(T.sc (.int .i64 (y0.cell 3).int)),(T.sc (.int .i64 (y0.cell 4).int)),(T.sc (.int .i64 (y0.cell 5).int)),(T.sc (.string (y0.cell 6).str)),(T.list (y0.cell 7).lst),(T.list (y0.cell 8).lst),(T.list (y0.cell 9).lst),(T.sc (.complex .f64 (y0.cell 10).re (y0.cell 10).im)),(T.list s2),(T.sc (.int .i64 s1))])] <= 1073741824)&&sized 13 [(T.agg [(T.sc (.int .i64 (y0.cell 0).int)),(T.sc (.string (y0.cell 1).str)),(T.sc (.string (y0.cell 2).str)),(T.sc (.int .i64 (y0.cell 3).int)),(T.sc (.int .i64 (y0.cell 4).int)),(T.sc (.int .i64 (y0.cell 5).int)),(T.sc (.string (y0.cell 6).str)),(T.list (y0.cell 7).lst),(T.list (y0.cell 8).lst),(T.list (y0.cell 9).lst),(T.sc (.complex .f64 (y0.cell 10).re (y0.cell 10).im)),(T.list s2),(T.sc (.int .i64 s1))])])) (Option.bind (idx true [.int .i64,.str,.str,.int .i64,.int .i64,.int .i64,.str,.list,.list,.list,.cplx .f64] s0 s4) fun y1 =>
Option.bind (b.y22 (y1.cell 8).lst s2 s1 s5) fun r2 =>
must true ((Nat.beq 13 13 || Nat.beq 13 0)&&(decide (List.length (s3++[(T.agg [(T.sc (.int .i64 (y0.cell 0).int)),(T.sc (.string (y0.cell 1).str)),(T.sc (.string (y0.cell 2).str)),(T.sc (.int .i64 (y0.cell 3).int)),(T.sc (.int .i64 (y0.cell 4).int)),(T.sc (.int .i64 (y0.cell 5).int)),(T.sc (.string (y0.cell 6).str)),(T.list (y0.cell 7).lst),(T.list (y0.cell 8).lst),(T.list (y0.cell 9).lst),(T.sc (.complex .f64 (y0.cell 10).re (y0.cell 10).im)),(T.list s2),(T.sc (.int .i64 s1))])]) + List.length r2.1 <= 1073741824)&&sized 13 r2.1)) (Option.bind (idx true [.int .i64,.str,.str,.int .i64,.int .i64,.int .i64,.str,.list,.list,.list,.cplx .f64] s0 s4) fun y3 =>
Option.bind (b.y22 (y3.cell 9).lst s2 s1 r2.2) fun r4 =>
must true ((Nat.beq 13 13 || Nat.beq 13 0)&&(decide (List.length ((s3++[(T.agg [(T.sc (.int .i64 (y0.cell 0).int)),(T.sc (.string (y0.cell 1).str)),(T.sc (.string (y0.cell 2).str)),(T.sc (.int .i64 (y0.cell 3).int)),(T.sc (.int .i64 (y0.cell 4).int)),(T.sc (.int .i64 (y0.cell 5).int)),(T.sc (.string (y0.cell 6).str)),(T.list (y0.cell 7).lst),(T.list (y0.cell 8).lst),(T.list (y0.cell 9).lst),(T.sc (.complex .f64 (y0.cell 10).re (y0.cell 10).im)),(T.list s2),(T.sc (.int .i64 s1))])])++r2.1) + List.length r4.1 <= 1073741824)&&sized 13 r4.1)) (k (s0,s1,s2,(((s3++[(T.agg [(T.sc (.int .i64 (y0.cell 0).int)),(T.sc (.string (y0.cell 1).str)),(T.sc (.string (y0.cell 2).str)),(T.sc (.int .i64 (y0.cell 3).int)),(T.sc (.int .i64 (y0.cell 4).int)),(T.sc (.int .i64 (y0.cell 5).int)),(T.sc (.string (y0.cell 6).str)),(T.list (y0.cell 7).lst),(T.list (y0.cell 8).lst),(T.list (y0.cell 9).lst),(T.sc (.complex .f64 (y0.cell 10).re (y0.cell 10).im)),(T.list s2),(T.sc (.int .i64 s1))])])++r2.1)++r4.1),(IntKind.wrap .i64 (s4 + 1)),r4.2)))))
else (
some (s3,s5))
def l_z61_5 (b:B_z61) (n:Nat):Nat -> (List T) × Int × (List T) × (List T) × Int × Int -> Option ((List T) × Int)
 | 0,_=>none
 | m + 1,s=>l_z61_5_B b n (l_z61_5 b n m) s
def f_z61 (b:B_z61) (n:Nat) (a0:List T) (a1:List T) (a2:Int) (a3:Int):Option ((List T) × Int) :=
must true ((Nat.beq 1 1 || Nat.beq 1 0)&&(decide (List.length ([]:List T) + List.length a1 <= 1073741824)&&sized 1 a1)) (must true ((Nat.beq 1 1 || Nat.beq 1 0)&&(decide (List.length (([]:List T)++a1) + List.length [(T.sc (.int .i64 (IntKind.wrap .i64 (a3 + 1))))] <= 1073741824)&&sized 1 [(T.sc (.int .i64 (IntKind.wrap .i64 (a3 + 1))))])) (Option.bind (l_z61_5 b n n (a0,a2,((([]:List T)++a1)++[(T.sc (.int .i64 (IntKind.wrap .i64 (a3 + 1))))]),([]:List T),0,(IntKind.wrap .i64 (a3 + 1)))) fun p6 =>
some (p6.1,p6.2)))
def cs_z61 (b:B_z61) (hb:B_z61_ok b) (n:Nat):List (CalF Tryz.prog) := [⟨d_z61,b.y22,hb.y22⟩]
def L_l_z61_5:LF := ⟨5,[0,2,3,9,10,11],[.list,.int .i64,.ptr 0 0,.own 1,.own 13,.int .i64,.box 1,.int .i64],[⟨(.exit 0),[10],[.own 13,.box 1,.int .i64]⟩]⟩
def ls_z61 (b:B_z61) (n:Nat):List LE := [⟨5,loopS L_l_z61_5 (l_z61_5 b n n)⟩]
theorem l_z61_5_ok (b:B_z61) (hb:B_z61_ok b) (n:Nat):LoopOk Tryz.prog (mkSpec (cs_z61 b hb n) (ls_z61 b n)) 1 65 (loopAt Tryz.f138 0) := loopOk (L := L_l_z61_5) (f := l_z61_5 b n) (B := l_z61_5_B b n) (k := n) (loopAt_ok sound Tryz.func138 (by kernel_rfl)) (inner (by kernel_rfl) allN) (innerS (by kernel_rfl) allN) (fun _=>rfl) (fun _ _=>rfl) (by kernel_rfl) (fun _=>by kernel_rfl) (by kernel_rfl) (fun k a=>by kernel_rfl)
theorem f_z61_ok (b:B_z61) (hb:B_z61_ok b) (n:Nat):Ok Tryz.prog d_z61 (f_z61 b n) := fnOk sound (cs := cs_z61 b hb n) (ls := ls_z61 b n) (n := 65) Tryz.func138 (by kernel_rfl) (fun _=>by kernel_rfl) (inner (by kernel_rfl) (allC (l_z61_5_ok b hb n) allN)) (innerS (by kernel_rfl) allN) (by kernel_rfl) (fun a=>by kernel_rfl)
def unB_z61 (n:Nat):Nat -> B_z61
 | 0=>{ y22 := fun _ _ _ _=>none }
 | m + 1=>{ y22 := f_z61 (unB_z61 n m) n }
theorem unB_z61_ok (n:Nat):∀ m,B_z61_ok (unB_z61 n m)
 | 0=>{ y22 := fun _ _ h=>(nomatch (show none = some _ from h)) }
 | m + 1=>{ y22 := f_z61_ok _ (unB_z61_ok n m) n }
def m_z61 (n:Nat):List T -> List T -> Int -> Int -> Option ((List T) × Int) := (unB_z61 n n).y22
theorem m_z61_ok (n:Nat):Ok Tryz.prog d_z61 (m_z61 n) := (unB_z61_ok n n).y22
def l_z76_4_B (n:Nat) (k:(List T) × Int × (List T) × (List T) × Int -> Option ((List T) × (List T) × (List T) × Int)):(List T) × Int × (List T) × (List T) × Int -> Option ((List T) × (List T) × (List T) × Int) := fun (s0,s1,s2,s3,s4) =>
bif (decide ((s1:Int) < ((List.length s3:Nat):Int))) then (
Option.bind (idx true [.list] s3 s1) fun y0 =>
Option.bind (m_z61 n (y0.cell 0).lst ([]:List T) s1 s4) fun r1 =>
must true ((Nat.beq 13 13 || Nat.beq 13 0)&&(decide (List.length s0 + List.length r1.1 <= 1073741824)&&sized 13 r1.1)) (k ((s0++r1.1),(IntKind.wrap .i64 (s1 + 1)),s2,s3,r1.2)))
else (
some (s0,s2,s3,s4))
def l_z76_4 (n:Nat):Nat -> (List T) × Int × (List T) × (List T) × Int -> Option ((List T) × (List T) × (List T) × Int)
 | 0,_=>none
 | m + 1,s=>l_z76_4_B n (l_z76_4 n m) s
def m_z76 (n:Nat) (a0:List T) (a1:List T):Option ((List T)) :=
Option.bind (l_z76_4 n n (([]:List T),0,a0,a1,0)) fun p3 =>
some p3.1
def d_z76:FnF := ⟨102,[.agg 2,.list,.list],[.own 13]⟩
def cs_z76 (n:Nat):List (CalF Tryz.prog) := [⟨d_z61,m_z61 n,m_z61_ok n⟩]
def L_l_z76_4:LF := ⟨4,[1,3,4,5],[.ptr 0 0,.own 13,.ptr 1 0,.int .i64,.box 2,.list,.list,.box 1,.int .i64],[⟨(.exit 0),[3],[.own 13,.box 2,.list,.list,.box 1,.int .i64]⟩]⟩
def ls_z76 (n:Nat):List LE := [⟨4,loopS L_l_z76_4 (l_z76_4 n n)⟩]
theorem l_z76_4_ok (n:Nat):LoopOk Tryz.prog (mkSpec (cs_z76 n) (ls_z76 n)) 0 23 (loopAt Tryz.f102 0) := loopOk (L := L_l_z76_4) (f := l_z76_4 n) (B := l_z76_4_B n) (k := n) (loopAt_ok sound Tryz.func102 (by kernel_rfl)) (inner (by kernel_rfl) allN) (innerS (by kernel_rfl) allN) (fun _=>rfl) (fun _ _=>rfl) (by kernel_rfl) (fun _=>by kernel_rfl) (by kernel_rfl) (fun k a=>by kernel_rfl)
theorem m_z76_ok (n:Nat):Ok Tryz.prog d_z76 (m_z76 n) := fnOk sound (cs := cs_z76 n) (ls := ls_z76 n) (n := 23) Tryz.func102 (by kernel_rfl) (fun _=>by kernel_rfl) (inner (by kernel_rfl) (allC (l_z76_4_ok n) allN)) (innerS (by kernel_rfl) allN) (by kernel_rfl) (fun a=>by kernel_rfl)
def l_z48_2_B (n:Nat) (k:Int × Int × Int × ByteArray × ByteArray × Int × Int × Int × ByteArray × (List T) × (List T) × (List T) × (Nat × Nat) × (List T) × Int -> Option (((Bool × Int × ByteArray × ByteArray × Int × Int × Int × ByteArray × (List T) × (List T) × (List T) × (Nat × Nat) × (List T) × Int) ⊕ Int × ByteArray × ByteArray × Int × Int × Int × ByteArray × (List T) × (List T) × (List T) × (Nat × Nat) × (List T) × Int))):Int × Int × Int × ByteArray × ByteArray × Int × Int × Int × ByteArray × (List T) × (List T) × (List T) × (Nat × Nat) × (List T) × Int -> Option (((Bool × Int × ByteArray × ByteArray × Int × Int × Int × ByteArray × (List T) × (List T) × (List T) × (Nat × Nat) × (List T) × Int) ⊕ Int × ByteArray × ByteArray × Int × Int × Int × ByteArray × (List T) × (List T) × (List T) × (Nat × Nat) × (List T) × Int)) := fun (s0,s1,s2,s3,s4,s5,s6,s7,s8,s9,s10,s11,s12,s13,s14) =>
bif (decide ((s1:Int) < ((List.length s13:Nat):Int))) then (
Option.bind (idx true [.int .i64] s13 s1) fun y0 =>
bif (((y0.cell 0).int:Int) == s0) then (
some (Sum.inl (true,s2,s3,s4,s5,s6,s7,s8,s9,s10,s11,s12,s13,s14)))
else (
k (s0,(IntKind.wrap .i64 (s1 + 1)),s2,s3,s4,s5,s6,s7,s8,s9,s10,s11,s12,s13,s14)))
else (
some (Sum.inr (s2,s3,s4,s5,s6,s7,s8,s9,s10,s11,s12,s13,s14)))
def l_z48_2 (n:Nat):Nat -> Int × Int × Int × ByteArray × ByteArray × Int × Int × Int × ByteArray × (List T) × (List T) × (List T) × (Nat × Nat) × (List T) × Int -> Option (((Bool × Int × ByteArray × ByteArray × Int × Int × Int × ByteArray × (List T) × (List T) × (List T) × (Nat × Nat) × (List T) × Int) ⊕ Int × ByteArray × ByteArray × Int × Int × Int × ByteArray × (List T) × (List T) × (List T) × (Nat × Nat) × (List T) × Int))
 | 0,_=>none
 | m + 1,s=>l_z48_2_B n (l_z48_2 n m) s
def m_z48 (n:Nat) (a0:Int) (a1:Int) (a2:ByteArray) (a3:ByteArray) (a4:Int) (a5:Int) (a6:Int) (a7:ByteArray) (a8:List T) (a9:List T) (a10:List T) (a11:Nat × Nat) (a12:List T) (a13:Int):Option (Bool) :=
Option.bind (l_z48_2 n n (a0,0,a1,a2,a3,a4,a5,a6,a7,a8,a9,a10,a11,a12,a13)) fun x1 =>
Sum.elim (fun p2 =>
some p2.1) (fun x1'=>(fun p3 =>
some false) x1') x1
def d_z48:FnF := ⟨139,[.int .i64,.agg 13,.int .i64,.str,.str,.int .i64,.int .i64,.int .i64,.str,.list,.list,.list,.cplx .f64,.list,.int .i64],[.bool]⟩
def cs_z48 (n:Nat):List (CalF Tryz.prog) := []
def L_l_z48_2:LF := ⟨2,[0,3,5],[.int .i64,.ptr 0 0,.int .i64,.box 13,.int .i64,.str,.str,.int .i64,.int .i64,.int .i64,.str,.list,.list,.list,.cplx .f64,.list,.int .i64],[⟨.ret,[4],[.bool,.box 13,.int .i64,.str,.str,.int .i64,.int .i64,.int .i64,.str,.list,.list,.list,.cplx .f64,.list,.int .i64]⟩,⟨(.exit 0),[],[.box 13,.int .i64,.str,.str,.int .i64,.int .i64,.int .i64,.str,.list,.list,.list,.cplx .f64,.list,.int .i64]⟩]⟩
def ls_z48 (n:Nat):List LE := [⟨2,loopS L_l_z48_2 (l_z48_2 n n)⟩]
theorem l_z48_2_ok (n:Nat):LoopOk Tryz.prog (mkSpec (cs_z48 n) (ls_z48 n)) 0 20 (loopAt Tryz.f139 0) := loopOk (L := L_l_z48_2) (f := l_z48_2 n) (B := l_z48_2_B n) (k := n) (loopAt_ok sound Tryz.func139 (by kernel_rfl)) (inner (by kernel_rfl) allN) (innerS (by kernel_rfl) allN) (fun _=>rfl) (fun _ _=>rfl) (by kernel_rfl) (fun _=>by kernel_rfl) (by kernel_rfl) (fun k a=>by kernel_rfl)
theorem m_z48_ok (n:Nat):Ok Tryz.prog d_z48 (m_z48 n) := fnOk sound (cs := cs_z48 n) (ls := ls_z48 n) (n := 20) Tryz.func139 (by kernel_rfl) (fun _=>by kernel_rfl) (inner (by kernel_rfl) (allC (l_z48_2_ok n) allN)) (innerS (by kernel_rfl) allN) (by kernel_rfl) (fun a=>by kernel_rfl)
def l_z47_4_B (n:Nat) (k:(List T) × Int × Int -> Option (((Int) ⊕ Unit))):(List T) × Int × Int -> Option (((Int) ⊕ Unit)) := fun (s0,s1,s2) =>
bif (decide ((s2:Int) < ((List.length s0:Nat):Int))) then (
Option.bind (idx true [.int .i64,.str,.str,.int .i64,.int .i64,.int .i64,.str,.list,.list,.list,.cplx .f64,.list,.int .i64] s0 s2) fun y1 =>
Option.bind (idx ((((y1.cell 0).int:Int) == 10)) [.int .i64,.str,.str,.int .i64,.int .i64,.int .i64,.str,.list,.list,.list,.cplx .f64,.list,.int .i64] s0 s1) fun y2 =>
Option.bind (idx ((bif (((y1.cell 0).int:Int) == 10) then (ByteArray.toList (y1.cell 1).str == ByteArray.toList (y2.cell 1).str) else false)) [.int .i64,.str,.str,.int .i64,.int .i64,.int .i64,.str,.list,.list,.list,.cplx .f64,.list,.int .i64] s0 s1) fun y3 =>
Option.bind (idx ((bif (bif (((y1.cell 0).int:Int) == 10) then (ByteArray.toList (y1.cell 1).str == ByteArray.toList (y2.cell 1).str) else false) then (((y1.cell 12).int:Int) == (y3.cell 12).int) else false)) [.int .i64] (y1.cell 11).lst (IntKind.wrap .i64 (((List.length (y1.cell 11).lst:Nat):Int) - 1))) fun y4 =>
Option.bind (idx ((bif (bif (((y1.cell 0).int:Int) == 10) then (ByteArray.toList (y1.cell 1).str == ByteArray.toList (y2.cell 1).str) else false) then (((y1.cell 12).int:Int) == (y3.cell 12).int) else false)) [.int .i64,.str,.str,.int .i64,.int .i64,.int .i64,.str,.list,.list,.list,.cplx .f64,.list,.int .i64] s0 s1) fun y5 =>
Option.bind (bif (bif (bif (((y1.cell 0).int:Int) == 10) then (ByteArray.toList (y1.cell 1).str == ByteArray.toList (y2.cell 1).str) else false) then (((y1.cell 12).int:Int) == (y3.cell 12).int) else false) then m_z48 n (y4.cell 0).int (y5.cell 0).int (y5.cell 1).str (y5.cell 2).str (y5.cell 3).int (y5.cell 4).int (y5.cell 5).int (y5.cell 6).str (y5.cell 7).lst (y5.cell 8).lst (y5.cell 9).lst ((y5.cell 10).re,(y5.cell 10).im) (y5.cell 11).lst (y5.cell 12).int else some false) fun r6 =>
bif (bif (bif (bif (((y1.cell 0).int:Int) == 10) then (ByteArray.toList (y1.cell 1).str == ByteArray.toList (y2.cell 1).str) else false) then (((y1.cell 12).int:Int) == (y3.cell 12).int) else false) then r6 else false) then (
some (Sum.inl s2))
else (
k (s0,s1,(IntKind.wrap .i64 (s2 + 1)))))
else (
some (Sum.inr ()))
def l_z47_4 (n:Nat):Nat -> (List T) × Int × Int -> Option (((Int) ⊕ Unit))
 | 0,_=>none
 | m + 1,s=>l_z47_4_B n (l_z47_4 n m) s
def m_z47 (n:Nat) (a0:List T) (a1:Int):Option (Int) :=
Option.bind (idx (!(bif (decide ((a1:Int) < 0)) then true else (decide ((a1:Int) ≥ ((List.length a0:Nat):Int))))) [.int .i64,.str,.str,.int .i64,.int .i64,.int .i64,.str,.list,.list,.list,.cplx .f64,.list,.int .i64] a0 a1) fun y0 =>
bif (bif (bif (decide ((a1:Int) < 0)) then true else (decide ((a1:Int) ≥ ((List.length a0:Nat):Int)))) then true else (((y0.cell 0).int:Int) != 9)) then (
some (-1))
else (
Option.bind (l_z47_4 n n (a0,a1,(IntKind.wrap .i64 (a1 + 1)))) fun x7 =>
Sum.elim (fun p8 =>
some p8) (fun x7'=>(fun p9 =>
some (-1)) x7') x7)
def d_z47:FnF := ⟨103,[.list,.int .i64],[.int .i64]⟩
def cs_z47 (n:Nat):List (CalF Tryz.prog) := [⟨d_z48,m_z48 n,m_z48_ok n⟩]
def L_l_z47_4:LF := ⟨4,[0,1,5],[.list,.int .i64,.int .i64],[⟨.ret,[4],[.int .i64]⟩,⟨(.exit 0),[],[]⟩]⟩
def ls_z47 (n:Nat):List LE := [⟨4,loopS L_l_z47_4 (l_z47_4 n n)⟩]
theorem l_z47_4_ok (n:Nat):LoopOk Tryz.prog (mkSpec (cs_z47 n) (ls_z47 n)) 0 78 (loopAt Tryz.f103 0) := loopOk (L := L_l_z47_4) (f := l_z47_4 n) (B := l_z47_4_B n) (k := n) (loopAt_ok sound Tryz.func103 (by kernel_rfl)) (inner (by kernel_rfl) allN) (innerS (by kernel_rfl) allN) (fun _=>rfl) (fun _ _=>rfl) (by kernel_rfl) (fun _=>by kernel_rfl) (by kernel_rfl) (fun k a=>by kernel_rfl)
theorem m_z47_ok (n:Nat):Ok Tryz.prog d_z47 (m_z47 n) := fnOk sound (cs := cs_z47 n) (ls := ls_z47 n) (n := 78) Tryz.func103 (by kernel_rfl) (fun _=>by kernel_rfl) (inner (by kernel_rfl) (allC (l_z47_4_ok n) allN)) (innerS (by kernel_rfl) allN) (by kernel_rfl) (fun a=>by kernel_rfl)
def l_z60_9_B (n:Nat) (k:(List T) × Int × Int × (List T) × (List T) × Int × ByteArray × ByteArray × Int × Int × Int × ByteArray × (List T) × (List T) × (List T) × (Nat × Nat) × (List T) × Int -> Option ((((Nat × Nat) × Int × (List T) × (List T) × Int × ByteArray × ByteArray × Int × Int × Int × ByteArray × (List T) × (List T) × (List T) × (Nat × Nat) × (List T) × Int) ⊕ (List T) × Int × (List T) × (List T) × Int × ByteArray × ByteArray × Int × Int × Int × ByteArray × (List T) × (List T) × (List T) × (Nat × Nat) × (List T) × Int))):(List T) × Int × Int × (List T) × (List T) × Int × ByteArray × ByteArray × Int × Int × Int × ByteArray × (List T) × (List T) × (List T) × (Nat × Nat) × (List T) × Int -> Option ((((Nat × Nat) × Int × (List T) × (List T) × Int × ByteArray × ByteArray × Int × Int × Int × ByteArray × (List T) × (List T) × (List T) × (Nat × Nat) × (List T) × Int) ⊕ (List T) × Int × (List T) × (List T) × Int × ByteArray × ByteArray × Int × Int × Int × ByteArray × (List T) × (List T) × (List T) × (Nat × Nat) × (List T) × Int)) := fun (s0,s1,s2,s3,s4,s5,s6,s7,s8,s9,s10,s11,s12,s13,s14,s15,s16,s17) =>
bif (bif (decide ((s2:Int) < s1)) then ((s5:Int) == 10) else false) then (
Option.bind (idx true [.int .i64,.str,.str,.int .i64,.int .i64,.int .i64,.str,.list,.list,.list,.cplx .f64,.list,.int .i64] s0 s2) fun y3 =>
Option.bind (idx ((((y3.cell 0).int:Int) == 10)) [.int .i64,.str,.str,.int .i64,.int .i64,.int .i64,.str,.list,.list,.list,.cplx .f64,.list,.int .i64] s0 s2) fun y4 =>
Option.bind (idx ((bif (((y3.cell 0).int:Int) == 10) then (ByteArray.toList (y4.cell 1).str == ByteArray.toList s6) else false)) [.int .i64,.str,.str,.int .i64,.int .i64,.int .i64,.str,.list,.list,.list,.cplx .f64,.list,.int .i64] s0 s2) fun y5 =>
bif (bif (bif (((y3.cell 0).int:Int) == 10) then (ByteArray.toList (y4.cell 1).str == ByteArray.toList s6) else false) then (((y5.cell 12).int:Int) == s17) else false) then (
some (Sum.inl (s15,4,s3,s4,s5,s6,s7,s8,s9,s10,s11,s12,s13,s14,s15,s16,s17)))
else (
k (s0,s1,(IntKind.wrap .i64 (s2 + 1)),s3,s4,s5,s6,s7,s8,s9,s10,s11,s12,s13,s14,s15,s16,s17)))
else (
some (Sum.inr (s0,s1,s3,s4,s5,s6,s7,s8,s9,s10,s11,s12,s13,s14,s15,s16,s17)))
def l_z60_9 (n:Nat):Nat -> (List T) × Int × Int × (List T) × (List T) × Int × ByteArray × ByteArray × Int × Int × Int × ByteArray × (List T) × (List T) × (List T) × (Nat × Nat) × (List T) × Int -> Option ((((Nat × Nat) × Int × (List T) × (List T) × Int × ByteArray × ByteArray × Int × Int × Int × ByteArray × (List T) × (List T) × (List T) × (Nat × Nat) × (List T) × Int) ⊕ (List T) × Int × (List T) × (List T) × Int × ByteArray × ByteArray × Int × Int × Int × ByteArray × (List T) × (List T) × (List T) × (Nat × Nat) × (List T) × Int))
 | 0,_=>none
 | m + 1,s=>l_z60_9_B n (l_z60_9 n m) s
def l_z60_3_B (n:Nat) (k:(List T) × Int × (List T) × (List T) -> Option ((((Nat × Nat) × Int × (List T) × (List T)) ⊕ (List T) × (List T)))):(List T) × Int × (List T) × (List T) -> Option ((((Nat × Nat) × Int × (List T) × (List T)) ⊕ (List T) × (List T))) := fun (s0,s1,s2,s3) =>
bif (decide ((s1:Int) < ((List.length s0:Nat):Int))) then (
Option.bind (idx true [.int .i64,.str,.str,.int .i64,.int .i64,.int .i64,.str,.list,.list,.list,.cplx .f64,.list,.int .i64] s0 s1) fun y1 =>
Option.bind (bif (((y1.cell 0).int:Int) == 9) then m_z47 n s0 s1 else some 0) fun r2 =>
bif (bif (((y1.cell 0).int:Int) == 9) then (decide ((r2:Int) < 0)) else false) then (
some (Sum.inl (((y1.cell 10).re,(y1.cell 10).im),4,s2,s3)))
else (
Option.bind (l_z60_9 n n (s0,s1,0,s2,s3,(y1.cell 0).int,(y1.cell 1).str,(y1.cell 2).str,(y1.cell 3).int,(y1.cell 4).int,(y1.cell 5).int,(y1.cell 6).str,(y1.cell 7).lst,(y1.cell 8).lst,(y1.cell 9).lst,((y1.cell 10).re,(y1.cell 10).im),(y1.cell 11).lst,(y1.cell 12).int)) fun x6 =>
Sum.elim (fun p7 =>
some (Sum.inl (p7.1,p7.2.1,p7.2.2.1,p7.2.2.2.1))) (fun x6'=>(fun p8 =>
k (p8.1,(IntKind.wrap .i64 (p8.2.1 + 1)),p8.2.2.1,p8.2.2.2.1)) x6') x6))
else (
some (Sum.inr (s2,s3)))
def l_z60_3 (n:Nat):Nat -> (List T) × Int × (List T) × (List T) -> Option ((((Nat × Nat) × Int × (List T) × (List T)) ⊕ (List T) × (List T)))
 | 0,_=>none
 | m + 1,s=>l_z60_3_B n (l_z60_3 n m) s
def m_z60 (n:Nat) (a0:List T) (a1:List T):Option ((Nat × Nat) × Int) :=
Option.bind (m_z76 n a0 a1) fun r0 =>
Option.bind (l_z60_3 n n (r0,0,a0,a1)) fun x9 =>
Sum.elim (fun p10 =>
some (p10.1,p10.2.1)) (fun x9'=>(fun p11 =>
some ((0,0),0)) x9') x9
def d_z60:FnF := ⟨64,[.agg 2,.list,.list],[.tup 2,.cplx .f64,.int .i64]⟩
def cs_z60 (n:Nat):List (CalF Tryz.prog) := [⟨d_z76,m_z76 n,m_z76_ok n⟩,⟨d_z47,m_z47 n,m_z47_ok n⟩]
def L_l_z60_9:LF := ⟨9,[4,5,6,7],[.own 13,.int .i64,.ptr 1 0,.int .i64,.box 2,.list,.list,.box 13,.int .i64,.str,.str,.int .i64,.int .i64,.int .i64,.str,.list,.list,.list,.cplx .f64,.list,.int .i64],[⟨.ret,[2,3],[.cplx .f64,.int .i64,.box 2,.list,.list,.box 13,.int .i64,.str,.str,.int .i64,.int .i64,.int .i64,.str,.list,.list,.list,.cplx .f64,.list,.int .i64]⟩,⟨(.exit 2),[4,5],[.own 13,.int .i64,.box 2,.list,.list,.box 13,.int .i64,.str,.str,.int .i64,.int .i64,.int .i64,.str,.list,.list,.list,.cplx .f64,.list,.int .i64]⟩]⟩
def L_l_z60_3:LF := ⟨3,[4,5],[.own 13,.int .i64,.box 2,.list,.list],[⟨.ret,[2,3],[.cplx .f64,.int .i64,.box 2,.list,.list]⟩,⟨(.exit 0),[],[.box 2,.list,.list]⟩]⟩
def ls_z60 (n:Nat):List LE := [⟨9,loopS L_l_z60_9 (l_z60_9 n n)⟩,⟨3,loopS L_l_z60_3 (l_z60_3 n n)⟩]
theorem l_z60_9_ok (n:Nat):LoopOk Tryz.prog (mkSpec (cs_z60 n) (ls_z60 n)) 0 76 (loopAt Tryz.f64 1) := loopOk (L := L_l_z60_9) (f := l_z60_9 n) (B := l_z60_9_B n) (k := n) (loopAt_ok sound Tryz.func64 (by kernel_rfl)) (inner (by kernel_rfl) allN) (innerS (by kernel_rfl) allN) (fun _=>rfl) (fun _ _=>rfl) (by kernel_rfl) (fun _=>by kernel_rfl) (by kernel_rfl) (fun k a=>by kernel_rfl)
theorem l_z60_3_ok (n:Nat):LoopOk Tryz.prog (mkSpec (cs_z60 n) (ls_z60 n)) 0 76 (loopAt Tryz.f64 0) := loopOk (L := L_l_z60_3) (f := l_z60_3 n) (B := l_z60_3_B n) (k := n) (loopAt_ok sound Tryz.func64 (by kernel_rfl)) (inner (by kernel_rfl) (allC (l_z60_9_ok n) allN)) (innerS (by kernel_rfl) allN) (fun _=>rfl) (fun _ _=>rfl) (by kernel_rfl) (fun _=>by kernel_rfl) (by kernel_rfl) (fun k a=>by kernel_rfl)
theorem m_z60_ok (n:Nat):Ok Tryz.prog d_z60 (m_z60 n) := fnOk sound (cs := cs_z60 n) (ls := ls_z60 n) (n := 76) Tryz.func64 (by kernel_rfl) (fun _=>by kernel_rfl) (inner (by kernel_rfl) (allC (l_z60_3_ok n) (allC (l_z60_9_ok n) allN))) (innerS (by kernel_rfl) allN) (by kernel_rfl) (fun a=>by kernel_rfl)
structure B_z74 where
 y11:List T -> Int -> Int -> Option ((List T) × Int)
def d_z74:FnF := ⟨105,[.list,.int .i64,.ptr 0 0,.box 1,.int .i64],[.own 11,.box 1,.int .i64]⟩
structure B_z74_ok (b:B_z74):Prop where
 y11:Ok Tryz.prog d_z74 b.y11
def l_z74_3_B (b:B_z74) (n:Nat) (k:(List T) × Int × (List T) × Int × Int -> Option ((List T) × Int)):(List T) × Int × (List T) × Int × Int -> Option ((List T) × Int) := fun (s0,s1,s2,s3,s4) =>
bif (decide ((s3:Int) < ((List.length s0:Nat):Int))) then (
Option.bind (idx true [.int .i64,.str,.str,.int .i64,.int .i64,.int .i64,.str,.list,.list,.list,.cplx .f64] s0 s3) fun y0 =>
Option.bind (idx true [.int .i64,.str,.str,.int .i64,.int .i64,.int .i64,.str,.list,.list,.list,.cplx .f64] s0 s3) fun y1 =>
Option.bind (b.y11 (y1.cell 8).lst s1 (IntKind.wrap .i64 (s4 + 1))) fun r2 =>
Option.bind (idx true [.int .i64,.str,.str,.int .i64,.int .i64,.int .i64,.str,.list,.list,.list,.cplx .f64] s0 s3) fun y3 =>
Option.bind (b.y11 (y3.cell 9).lst s1 r2.2) fun r4 =>
bif ((s4:Int) != s1) then (
must true ((Nat.beq 11 11 || Nat.beq 11 0)&&(decide (List.length s2 + List.length [(T.agg [(T.sc (.int .i64 (y0.cell 0).int)),(T.sc (.string (y0.cell 1).str)),(T.sc (.string (y0.cell 2).str)),(T.sc (.int .i64 (y0.cell 3).int)),(T.sc (.int .i64 (y0.cell 4).int)),(T.sc (.int .i64 (y0.cell 5).int)),(T.sc (.string (y0.cell 6).str)),(T.list (y0.cell 7).lst),(T.list r2.1),(T.list r4.1),(T.sc (.complex .f64 (y0.cell 10).re (y0.cell 10).im))])] <= 1073741824)&&sized 11 [(T.agg [(T.sc (.int .i64 (y0.cell 0).int)),(T.sc (.string (y0.cell 1).str)),(T.sc (.string (y0.cell 2).str)),(T.sc (.int .i64 (y0.cell 3).int)),(T.sc (.int .i64 (y0.cell 4).int)),(T.sc (.int .i64 (y0.cell 5).int)),(T.sc (.string (y0.cell 6).str)),(T.list (y0.cell 7).lst),(T.list r2.1),(T.list r4.1),(T.sc (.complex .f64 (y0.cell 10).re (y0.cell 10).im))])])) (k (s0,s1,(s2++[(T.agg [(T.sc (.int .i64 (y0.cell 0).int)),(T.sc (.string (y0.cell 1).str)),(T.sc (.string (y0.cell 2).str)),(T.sc (.int .i64 (y0.cell 3).int)),(T.sc (.int .i64 (y0.cell 4).int)),(T.sc (.int .i64 (y0.cell 5).int)),(T.sc (.string (y0.cell 6).str)),(T.list (y0.cell 7).lst),(T.list r2.1),(T.list r4.1),(T.sc (.complex .f64 (y0.cell 10).re (y0.cell 10).im))])]),(IntKind.wrap .i64 (s3 + 1)),r4.2)))
else (
k (s0,s1,s2,(IntKind.wrap .i64 (s3 + 1)),r4.2)))
else (
some (s2,s4))
def l_z74_3 (b:B_z74) (n:Nat):Nat -> (List T) × Int × (List T) × Int × Int -> Option ((List T) × Int)
 | 0,_=>none
 | m + 1,s=>l_z74_3_B b n (l_z74_3 b n m) s
def f_z74 (b:B_z74) (n:Nat) (a0:List T) (a1:Int) (a2:Int):Option ((List T) × Int) :=
Option.bind (l_z74_3 b n n (a0,a1,([]:List T),0,a2)) fun p6 =>
some (p6.1,p6.2)
def cs_z74 (b:B_z74) (hb:B_z74_ok b) (n:Nat):List (CalF Tryz.prog) := [⟨d_z74,b.y11,hb.y11⟩]
def L_l_z74_3:LF := ⟨3,[0,1,2,7,8],[.list,.int .i64,.ptr 0 0,.own 11,.int .i64,.box 1,.int .i64],[⟨(.exit 0),[7],[.own 11,.box 1,.int .i64]⟩]⟩
def ls_z74 (b:B_z74) (n:Nat):List LE := [⟨3,loopS L_l_z74_3 (l_z74_3 b n n)⟩]
theorem l_z74_3_ok (b:B_z74) (hb:B_z74_ok b) (n:Nat):LoopOk Tryz.prog (mkSpec (cs_z74 b hb n) (ls_z74 b n)) 1 56 (loopAt Tryz.f105 0) := loopOk (L := L_l_z74_3) (f := l_z74_3 b n) (B := l_z74_3_B b n) (k := n) (loopAt_ok sound Tryz.func105 (by kernel_rfl)) (inner (by kernel_rfl) allN) (innerS (by kernel_rfl) allN) (fun _=>rfl) (fun _ _=>rfl) (by kernel_rfl) (fun _=>by kernel_rfl) (by kernel_rfl) (fun k a=>by kernel_rfl)
theorem f_z74_ok (b:B_z74) (hb:B_z74_ok b) (n:Nat):Ok Tryz.prog d_z74 (f_z74 b n) := fnOk sound (cs := cs_z74 b hb n) (ls := ls_z74 b n) (n := 56) Tryz.func105 (by kernel_rfl) (fun _=>by kernel_rfl) (inner (by kernel_rfl) (allC (l_z74_3_ok b hb n) allN)) (innerS (by kernel_rfl) allN) (by kernel_rfl) (fun a=>by kernel_rfl)
def unB_z74 (n:Nat):Nat -> B_z74
 | 0=>{ y11 := fun _ _ _=>none }
 | m + 1=>{ y11 := f_z74 (unB_z74 n m) n }
theorem unB_z74_ok (n:Nat):∀ m,B_z74_ok (unB_z74 n m)
 | 0=>{ y11 := fun _ _ h=>(nomatch (show none = some _ from h)) }
 | m + 1=>{ y11 := f_z74_ok _ (unB_z74_ok n m) n }
def m_z74 (n:Nat):List T -> Int -> Int -> Option ((List T) × Int) := (unB_z74 n n).y11
theorem m_z74_ok (n:Nat):Ok Tryz.prog d_z74 (m_z74 n) := (unB_z74_ok n n).y11
def l_z33_4_B (n:Nat) (k:Int × Int × (List T) × (List T) × (List T) × (List T) × Int × (List T) × (List T) -> Option ((List T) × (List T) × (List T) × (List T) × Int × (List T) × (List T))):Int × Int × (List T) × (List T) × (List T) × (List T) × Int × (List T) × (List T) -> Option ((List T) × (List T) × (List T) × (List T) × Int × (List T) × (List T)) := fun (s0,s1,s2,s3,s4,s5,s6,s7,s8) =>
bif (decide ((s1:Int) < ((List.length s3:Nat):Int))) then (
Option.bind (idx true [.list] s3 s1) fun y0 =>
Option.bind (m_z74 n (y0.cell 0).lst s0 s6) fun r1 =>
must true ((Nat.beq 1 1 || Nat.beq 1 0)&&(decide (List.length s8 + List.length [(T.list r1.1)] <= 1073741824)&&sized 1 [(T.list r1.1)])) (k (s0,(IntKind.wrap .i64 (s1 + 1)),s2,s3,s4,s5,r1.2,s7,(s8++[(T.list r1.1)]))))
else (
some (s2,s3,s4,s5,s6,s7,s8))
def l_z33_4 (n:Nat):Nat -> Int × Int × (List T) × (List T) × (List T) × (List T) × Int × (List T) × (List T) -> Option ((List T) × (List T) × (List T) × (List T) × Int × (List T) × (List T))
 | 0,_=>none
 | m + 1,s=>l_z33_4_B n (l_z33_4 n m) s
def m_z33 (n:Nat) (a0:List T) (a1:List T) (a2:Int):Option ((List T) × (List T)) :=
Option.bind (l_z33_4 n n (a2,0,a0,a1,([]:List T),([]:List T),0,a0,([]:List T))) fun p3 =>
some (p3.2.2.2.2.2.1,p3.2.2.2.2.2.2)
def d_z33:FnF := ⟨66,[.agg 2,.list,.list,.int .i64],[.agg 2,.list,.list]⟩
def cs_z33 (n:Nat):List (CalF Tryz.prog) := [⟨d_z74,m_z74 n,m_z74_ok n⟩]
def L_l_z33_4:LF := ⟨4,[1,2,4,5,6,7],[.int .i64,.ptr 0 0,.ptr 1 0,.ptr 2 0,.ptr 3 0,.int .i64,.box 2,.list,.list,.box 2,.own 0,.own 0,.box 1,.int .i64,.box 2,.list,.own 1],[⟨(.exit 0),[4,6],[.ptr 1 0,.ptr 3 0,.box 2,.list,.list,.box 2,.own 0,.own 0,.box 1,.int .i64,.box 2,.list,.own 1]⟩]⟩
def ls_z33 (n:Nat):List LE := [⟨4,loopS L_l_z33_4 (l_z33_4 n n)⟩]
theorem l_z33_4_ok (n:Nat):LoopOk Tryz.prog (mkSpec (cs_z33 n) (ls_z33 n)) 0 31 (loopAt Tryz.f66 0) := loopOk (L := L_l_z33_4) (f := l_z33_4 n) (B := l_z33_4_B n) (k := n) (loopAt_ok sound Tryz.func66 (by kernel_rfl)) (inner (by kernel_rfl) allN) (innerS (by kernel_rfl) allN) (fun _=>rfl) (fun _ _=>rfl) (by kernel_rfl) (fun _=>by kernel_rfl) (by kernel_rfl) (fun k a=>by kernel_rfl)
theorem m_z33_ok (n:Nat):Ok Tryz.prog d_z33 (m_z33 n) := fnOk sound (cs := cs_z33 n) (ls := ls_z33 n) (n := 31) Tryz.func66 (by kernel_rfl) (fun _=>by kernel_rfl) (inner (by kernel_rfl) (allC (l_z33_4_ok n) allN)) (innerS (by kernel_rfl) allN) (by kernel_rfl) (fun a=>by kernel_rfl)
def l_z50_2_B (n:Nat) (k:Int × (List T) × (List T) × (List T) × (List T) -> Option ((((List T) × (List T) × (List T) × (List T)) ⊕ (List T) × (List T) × (List T) × (List T)))):Int × (List T) × (List T) × (List T) × (List T) -> Option ((((List T) × (List T) × (List T) × (List T)) ⊕ (List T) × (List T) × (List T) × (List T))) := fun (s0,s1,s2,s3,s4) =>
bif (decide ((s0:Int) < 40)) then (
Option.bind (m_z66 n s1 s2) fun r0 =>
Option.bind (m_z60 n r0.1 r0.2) fun r1 =>
bif ((r1.2:Int) == 0) then (
some (Sum.inl (s1,s2,s1,s2)))
else (
Option.bind (floInt true .f64 r1.1.1 .i64) fun i2 =>
Option.bind (m_z33 n s1 s2 i2) fun r3 =>
k ((IntKind.wrap .i64 (s0 + 1)),r3.1,r3.2,s3,s4)))
else (
some (Sum.inr (s1,s2,s3,s4)))
def l_z50_2 (n:Nat):Nat -> Int × (List T) × (List T) × (List T) × (List T) -> Option ((((List T) × (List T) × (List T) × (List T)) ⊕ (List T) × (List T) × (List T) × (List T)))
 | 0,_=>none
 | m + 1,s=>l_z50_2_B n (l_z50_2 n m) s
def m_z50 (n:Nat) (a0:List T) (a1:List T):Option ((List T) × (List T)) :=
Option.bind (l_z50_2 n n (0,a0,a1,([]:List T),([]:List T))) fun x4 =>
Sum.elim (fun p5 =>
some (p5.2.2.1,p5.2.2.2)) (fun x4'=>(fun p6 =>
some (p6.1,[(T.list ([]:List T))])) x4') x4
def d_z50:FnF := ⟨40,[.agg 2,.list,.list],[.agg 2,.list,.list]⟩
def cs_z50 (n:Nat):List (CalF Tryz.prog) := [⟨d_z66,m_z66 n,m_z66_ok n⟩,⟨d_z60,m_z60 n,m_z60_ok n⟩,⟨d_z33,m_z33 n,m_z33_ok n⟩]
def L_l_z50_2:LF := ⟨2,[1,2,3],[.ptr 0 0,.ptr 1 0,.int .i64,.box 2,.list,.list,.box 2,.own 0,.own 0],[⟨.ret,[2],[.ptr 1 0,.box 2,.list,.list,.box 2,.list,.list]⟩,⟨(.exit 0),[1,2],[.ptr 0 0,.ptr 1 0,.box 2,.list,.list,.box 2,.own 0,.own 0]⟩]⟩
def ls_z50 (n:Nat):List LE := [⟨2,loopS L_l_z50_2 (l_z50_2 n n)⟩]
theorem l_z50_2_ok (n:Nat):LoopOk Tryz.prog (mkSpec (cs_z50 n) (ls_z50 n)) 0 28 (loopAt Tryz.f40 0) := loopOk (L := L_l_z50_2) (f := l_z50_2 n) (B := l_z50_2_B n) (k := n) (loopAt_ok sound Tryz.func40 (by kernel_rfl)) (inner (by kernel_rfl) allN) (innerS (by kernel_rfl) allN) (fun _=>rfl) (fun _ _=>rfl) (by kernel_rfl) (fun _=>by kernel_rfl) (by kernel_rfl) (fun k a=>by kernel_rfl)
theorem m_z50_ok (n:Nat):Ok Tryz.prog d_z50 (m_z50 n) := fnOk sound (cs := cs_z50 n) (ls := ls_z50 n) (n := 28) Tryz.func40 (by kernel_rfl) (fun _=>by kernel_rfl) (inner (by kernel_rfl) (allC (l_z50_2_ok n) allN)) (innerS (by kernel_rfl) allN) (by kernel_rfl) (fun a=>by kernel_rfl)
def m_z73 (n:Nat) (a0:Int) (a1:List T) (a2:List T) (a3:List T) (a4:Int) (a5:Int):Option (ByteArray) :=
Option.bind (m_z64 n a0 a1 a2 a3 6) fun r0 =>
Option.bind (m_z68 n r0.1 r0.2) fun r1 =>
must true (!decide (5 = 0)) (bif (decide (((Int.tmod a5 5):Int) < 1)) then (
Option.bind (m_z64 n a0 a1 a2 a3 6) fun r2 =>
Option.bind (m_z50 n r2.1 r2.2) fun r3 =>
Option.bind (m_z68 n r3.1 r3.2) fun r4 =>
must true (!decide (4 = 0)) (bif (((Int.tmod a5 4):Int) == 0) then (
some r4)
else (
Option.bind (m_z63 n a4 (IntKind.wrap .i64 (((ByteArray.size r4:Nat):Int) + 1))) fun r5 =>
must true (!decide (4 = 0)) (Option.bind (m_z63 n (IntKind.wrap .i64 (Int.tdiv a5 4)) 16) fun r6 =>
Option.bind (idx1 true (.str) [(T.sc (.string (⟨#[32]⟩:ByteArray))),(T.sc (.string (⟨#[10]⟩:ByteArray))),(T.sc (.string (⟨#[35,32,97,32,123,32,110,111,116,101,10]⟩:ByteArray))),(T.sc (.string (⟨#[120]⟩:ByteArray))),(T.sc (.string (⟨#[48]⟩:ByteArray))),(T.sc (.string (⟨#[40]⟩:ByteArray))),(T.sc (.string (⟨#[41]⟩:ByteArray))),(T.sc (.string (⟨#[123]⟩:ByteArray))),(T.sc (.string (⟨#[125]⟩:ByteArray))),(T.sc (.string (⟨#[61]⟩:ByteArray))),(T.sc (.string (⟨#[45]⟩:ByteArray))),(T.sc (.string (⟨#[103,111,32]⟩:ByteArray))),(T.sc (.string (⟨#[109,117,116,101,120,32,109,10]⟩:ByteArray))),(T.sc (.string (⟨#[48,49,50]⟩:ByteArray))),(T.sc (.string (⟨#[126]⟩:ByteArray))),(T.sc (.string (⟨#[114,101,112,101,97,116,32,57,32]⟩:ByteArray)))] r6) fun y7 =>
must true (decide (0 <= 0)&&decide (0 <= r5)&&decide (r5 <= ((ByteArray.size r4:Nat):Int))) (must true (decide (((ByteArray.size (ByteArray.extract r4 (Int.toNat 0) (Int.toNat r5)) + ByteArray.size y7.str:Nat):Int) <= IntKind.i64.max)) (must true (!decide (64 = 0)) (Option.bind (m_z63 n (IntKind.wrap .i64 (Int.tdiv a5 64)) 3) fun r8 =>
must true (decide (0 <= (if ((IntKind.wrap .i64 (r5 + r8)):Int) < ((ByteArray.size r4:Nat):Int) then (IntKind.wrap .i64 (r5 + r8)) else ((ByteArray.size r4:Nat):Int)))&&decide ((if ((IntKind.wrap .i64 (r5 + r8)):Int) < ((ByteArray.size r4:Nat):Int) then (IntKind.wrap .i64 (r5 + r8)) else ((ByteArray.size r4:Nat):Int)) <= ((ByteArray.size r4:Nat):Int))&&decide (((ByteArray.size r4:Nat):Int) <= ((ByteArray.size r4:Nat):Int))) (must true (decide (((ByteArray.size ((ByteArray.extract r4 (Int.toNat 0) (Int.toNat r5))++y7.str) + ByteArray.size (ByteArray.extract r4 (Int.toNat (if ((IntKind.wrap .i64 (r5 + r8)):Int) < ((ByteArray.size r4:Nat):Int) then (IntKind.wrap .i64 (r5 + r8)) else ((ByteArray.size r4:Nat):Int))) (Int.toNat ((ByteArray.size r4:Nat):Int))):Nat):Int) <= IntKind.i64.max)) (some (((ByteArray.extract r4 (Int.toNat 0) (Int.toNat r5))++y7.str)++(ByteArray.extract r4 (Int.toNat (if ((IntKind.wrap .i64 (r5 + r8)):Int) < ((ByteArray.size r4:Nat):Int) then (IntKind.wrap .i64 (r5 + r8)) else ((ByteArray.size r4:Nat):Int))) (Int.toNat ((ByteArray.size r4:Nat):Int)))))))))))))
else (
must true (!decide (4 = 0)) (bif (((Int.tmod a5 4):Int) == 0) then (
some r1)
else (
Option.bind (m_z63 n a4 (IntKind.wrap .i64 (((ByteArray.size r1:Nat):Int) + 1))) fun r9 =>
must true (!decide (4 = 0)) (Option.bind (m_z63 n (IntKind.wrap .i64 (Int.tdiv a5 4)) 16) fun r10 =>
Option.bind (idx1 true (.str) [(T.sc (.string (⟨#[32]⟩:ByteArray))),(T.sc (.string (⟨#[10]⟩:ByteArray))),(T.sc (.string (⟨#[35,32,97,32,123,32,110,111,116,101,10]⟩:ByteArray))),(T.sc (.string (⟨#[120]⟩:ByteArray))),(T.sc (.string (⟨#[48]⟩:ByteArray))),(T.sc (.string (⟨#[40]⟩:ByteArray))),(T.sc (.string (⟨#[41]⟩:ByteArray))),(T.sc (.string (⟨#[123]⟩:ByteArray))),(T.sc (.string (⟨#[125]⟩:ByteArray))),(T.sc (.string (⟨#[61]⟩:ByteArray))),(T.sc (.string (⟨#[45]⟩:ByteArray))),(T.sc (.string (⟨#[103,111,32]⟩:ByteArray))),(T.sc (.string (⟨#[109,117,116,101,120,32,109,10]⟩:ByteArray))),(T.sc (.string (⟨#[48,49,50]⟩:ByteArray))),(T.sc (.string (⟨#[126]⟩:ByteArray))),(T.sc (.string (⟨#[114,101,112,101,97,116,32,57,32]⟩:ByteArray)))] r10) fun y11 =>
must true (decide (0 <= 0)&&decide (0 <= r9)&&decide (r9 <= ((ByteArray.size r1:Nat):Int))) (must true (decide (((ByteArray.size (ByteArray.extract r1 (Int.toNat 0) (Int.toNat r9)) + ByteArray.size y11.str:Nat):Int) <= IntKind.i64.max)) (must true (!decide (64 = 0)) (Option.bind (m_z63 n (IntKind.wrap .i64 (Int.tdiv a5 64)) 3) fun r12 =>
must true (decide (0 <= (if ((IntKind.wrap .i64 (r9 + r12)):Int) < ((ByteArray.size r1:Nat):Int) then (IntKind.wrap .i64 (r9 + r12)) else ((ByteArray.size r1:Nat):Int)))&&decide ((if ((IntKind.wrap .i64 (r9 + r12)):Int) < ((ByteArray.size r1:Nat):Int) then (IntKind.wrap .i64 (r9 + r12)) else ((ByteArray.size r1:Nat):Int)) <= ((ByteArray.size r1:Nat):Int))&&decide (((ByteArray.size r1:Nat):Int) <= ((ByteArray.size r1:Nat):Int))) (must true (decide (((ByteArray.size ((ByteArray.extract r1 (Int.toNat 0) (Int.toNat r9))++y11.str) + ByteArray.size (ByteArray.extract r1 (Int.toNat (if ((IntKind.wrap .i64 (r9 + r12)):Int) < ((ByteArray.size r1:Nat):Int) then (IntKind.wrap .i64 (r9 + r12)) else ((ByteArray.size r1:Nat):Int))) (Int.toNat ((ByteArray.size r1:Nat):Int))):Nat):Int) <= IntKind.i64.max)) (some (((ByteArray.extract r1 (Int.toNat 0) (Int.toNat r9))++y11.str)++(ByteArray.extract r1 (Int.toNat (if ((IntKind.wrap .i64 (r9 + r12)):Int) < ((ByteArray.size r1:Nat):Int) then (IntKind.wrap .i64 (r9 + r12)) else ((ByteArray.size r1:Nat):Int))) (Int.toNat ((ByteArray.size r1:Nat):Int))))))))))))))
def d_z73:FnF := ⟨18,[.int .i64,.list,.list,.list,.int .i64,.int .i64],[.str]⟩
theorem m_z73_ok (n:Nat):Ok Tryz.prog d_z73 (m_z73 n) := fnOk0 sound [⟨d_z64,m_z64 n,m_z64_ok n⟩,⟨d_z68,m_z68 n,m_z68_ok n⟩,⟨d_z50,m_z50 n,m_z50_ok n⟩,⟨d_z63,m_z63 n,m_z63_ok n⟩] Tryz.func18 (by kernel_rfl) (fun a=>by kernel_rfl)
def m_z78 (n:Nat) (a0:ByteArray) (a1:ByteArray):Option (Int) := cntM a0 a1
def d_z78:FnF := ⟨106,[.str,.str],[.int .i64]⟩
theorem m_z78_ok (n:Nat):Ok Tryz.prog d_z78 (m_z78 n) := fun a r h=>x_strings_Count (show cntM a.1 a.2.1 = some r from h)
def m_z20 (n:Nat) (a0:ByteArray) (a1:Int):Option (Int) := lastM a0 a1
def d_z20:FnF := ⟨107,[.str,.int .u8],[.int .i64]⟩
theorem m_z20_ok (n:Nat):Ok Tryz.prog d_z20 (m_z20 n) := fun a r h=>x_strings_LastIndexByte (show lastM a.1 a.2.1 = some r from h)
def m_z96 (n:Nat) (a0:ByteArray) (a1:Int):Option ((Nat × Nat)) :=
must true (decide (0 <= 0)&&decide (0 <= (if (0:Int) < (if (((ByteArray.size a0:Nat):Int):Int) < a1 then ((ByteArray.size a0:Nat):Int) else a1) then (if (((ByteArray.size a0:Nat):Int):Int) < a1 then ((ByteArray.size a0:Nat):Int) else a1) else 0))&&decide ((if (0:Int) < (if (((ByteArray.size a0:Nat):Int):Int) < a1 then ((ByteArray.size a0:Nat):Int) else a1) then (if (((ByteArray.size a0:Nat):Int):Int) < a1 then ((ByteArray.size a0:Nat):Int) else a1) else 0) <= ((ByteArray.size a0:Nat):Int))) (Option.bind (m_z78 n (ByteArray.extract a0 (Int.toNat 0) (Int.toNat (if (0:Int) < (if (((ByteArray.size a0:Nat):Int):Int) < a1 then ((ByteArray.size a0:Nat):Int) else a1) then (if (((ByteArray.size a0:Nat):Int):Int) < a1 then ((ByteArray.size a0:Nat):Int) else a1) else 0))) (⟨#[10]⟩:ByteArray)) fun r0 =>
Option.bind (m_z20 n (ByteArray.extract a0 (Int.toNat 0) (Int.toNat (if (0:Int) < (if (((ByteArray.size a0:Nat):Int):Int) < a1 then ((ByteArray.size a0:Nat):Int) else a1) then (if (((ByteArray.size a0:Nat):Int):Int) < a1 then ((ByteArray.size a0:Nat):Int) else a1) else 0))) 10) fun r1 =>
some ((FloatKind.nearest .f64 (IntKind.wrap .i64 (1 + r0))),(FloatKind.nearest .f64 (IntKind.wrap .i64 (((ByteArray.size (ByteArray.extract a0 (Int.toNat 0) (Int.toNat (if (0:Int) < (if (((ByteArray.size a0:Nat):Int):Int) < a1 then ((ByteArray.size a0:Nat):Int) else a1) then (if (((ByteArray.size a0:Nat):Int):Int) < a1 then ((ByteArray.size a0:Nat):Int) else a1) else 0))):Nat):Int) - r1)))))
def d_z96:FnF := ⟨67,[.str,.int .i64],[.cplx .f64]⟩
theorem m_z96_ok (n:Nat):Ok Tryz.prog d_z96 (m_z96 n) := fnOk0 sound [⟨d_z78,m_z78 n,m_z78_ok n⟩,⟨d_z20,m_z20 n,m_z20_ok n⟩] Tryz.func67 (by kernel_rfl) (fun a=>by kernel_rfl)
def m_z79 (n:Nat) (a0:Int):Option (Bool) :=
some (bif (bif ((a0:Int) == 32) then true else ((a0:Int) == 9)) then true else ((a0:Int) == 10))
def d_z79:FnF := ⟨69,[.int .u8],[.bool]⟩
theorem m_z79_ok (n:Nat):Ok Tryz.prog d_z79 (m_z79 n) := fnOk0 sound [] Tryz.func69 (by kernel_rfl) (fun a=>by kernel_rfl)
def l_z97_2_B (n:Nat) (k:ByteArray × Int -> Option (Int)):ByteArray × Int -> Option (Int) := fun (s0,s1) =>
Option.bind (bidx ((decide ((s1:Int) < ((ByteArray.size s0:Nat):Int)))) s0 s1) fun b0 =>
Option.bind (bif (decide ((s1:Int) < ((ByteArray.size s0:Nat):Int))) then m_z79 n ((UInt8.toNat b0:Nat):Int) else some false) fun r1 =>
bif (bif (decide ((s1:Int) < ((ByteArray.size s0:Nat):Int))) then r1 else false) then (
k (s0,(IntKind.wrap .i64 (s1 + 1))))
else (
some s1)
def l_z97_2 (n:Nat):Nat -> ByteArray × Int -> Option (Int)
 | 0,_=>none
 | m + 1,s=>l_z97_2_B n (l_z97_2 n m) s
def m_z97 (n:Nat) (a0:ByteArray):Option (Int) :=
Option.bind (l_z97_2 n n (a0,0)) fun p3 =>
some p3
def d_z97:FnF := ⟨68,[.str,.fn 69 0],[.int .i64]⟩
def cs_z97 (n:Nat):List (CalF Tryz.prog) := [⟨d_z79,m_z79 n,m_z79_ok n⟩]
def L_l_z97_2:LF := ⟨2,[0,1,5],[.str,.fn 69 0,.int .i64],[⟨(.exit 0),[5],[.int .i64]⟩]⟩
def ls_z97 (n:Nat):List LE := [⟨2,loopS L_l_z97_2 (l_z97_2 n n)⟩]
theorem l_z97_2_ok (n:Nat):LoopOk Tryz.prog (mkSpec (cs_z97 n) (ls_z97 n)) 0 20 (loopAt Tryz.f68 0) := loopOk (L := L_l_z97_2) (f := l_z97_2 n) (B := l_z97_2_B n) (k := n) (loopAt_ok sound Tryz.func68 (by kernel_rfl)) (inner (by kernel_rfl) allN) (innerS (by kernel_rfl) allN) (fun _=>rfl) (fun _ _=>rfl) (by kernel_rfl) (fun _=>by kernel_rfl) (by kernel_rfl) (fun k a=>by kernel_rfl)
theorem m_z97_ok (n:Nat):Ok Tryz.prog d_z97 (m_z97 n) := fnOk sound (cs := cs_z97 n) (ls := ls_z97 n) (n := 20) Tryz.func68 (by kernel_rfl) (fun _=>by kernel_rfl) (inner (by kernel_rfl) (allC (l_z97_2_ok n) allN)) (innerS (by kernel_rfl) allN) (by kernel_rfl) (fun a=>by kernel_rfl)
def m_z87 (n:Nat) (a0:Int):Option (Bool) :=
some (bif (decide ((a0:Int) ≥ 97)) then (decide ((a0:Int) <= 122)) else false)
def d_z87:FnF := ⟨70,[.int .u8],[.bool]⟩
theorem m_z87_ok (n:Nat):Ok Tryz.prog d_z87 (m_z87 n) := fnOk0 sound [] Tryz.func70 (by kernel_rfl) (fun a=>by kernel_rfl)
def m_z94 (n:Nat) (a0:Int):Option (Bool) :=
some (bif (decide ((a0:Int) ≥ 48)) then (decide ((a0:Int) <= 57)) else false)
def d_z94:FnF := ⟨71,[.int .u8],[.bool]⟩
theorem m_z94_ok (n:Nat):Ok Tryz.prog d_z94 (m_z94 n) := fnOk0 sound [] Tryz.func71 (by kernel_rfl) (fun a=>by kernel_rfl)
def m_z5 (n:Nat) (a0:ByteArray) (a1:ByteArray):Option (Bool) :=
must ((decide ((((ByteArray.size a0:Nat):Int):Int) ≥ ((ByteArray.size a1:Nat):Int)))) (decide (0 <= 0)&&decide (0 <= ((ByteArray.size a1:Nat):Int))&&decide (((ByteArray.size a1:Nat):Int) <= ((ByteArray.size a0:Nat):Int))) (some (bif (decide ((((ByteArray.size a0:Nat):Int):Int) ≥ ((ByteArray.size a1:Nat):Int))) then (ByteArray.toList (ByteArray.extract a0 (Int.toNat 0) (Int.toNat ((ByteArray.size a1:Nat):Int))) == ByteArray.toList a1) else false))
def d_z5:FnF := ⟨108,[.str,.str],[.bool]⟩
theorem m_z5_ok (n:Nat):Ok Tryz.prog d_z5 (m_z5 n) := fnOk0 sound [] Tryz.func108 (by kernel_rfl) (fun a=>by kernel_rfl)
def m_z37 (n:Nat) (a0:ByteArray) (a1:ByteArray):Option (Bool) :=
Option.bind (m_z5 n a0 a1) fun r0 =>
some r0
def d_z37:FnF := ⟨72,[.str,.str],[.bool]⟩
theorem m_z37_ok (n:Nat):Ok Tryz.prog d_z37 (m_z37 n) := fnOk0 sound [⟨d_z5,m_z5 n,m_z5_ok n⟩] Tryz.func72 (by kernel_rfl) (fun a=>by kernel_rfl)
def m_z38 (n:Nat) (a0:ByteArray) (a1:Int):Option (Int) := indexM a0 a1
def d_z38:FnF := ⟨73,[.str,.int .u8],[.int .i64]⟩
theorem m_z38_ok (n:Nat):Ok Tryz.prog d_z38 (m_z38 n) := fun a r h=>x_strings_IndexByte (show indexM a.1 a.2.1 = some r from h)
def m_z1 (n:Nat) (a0:List T):Option ((List T)) :=
must true (decide (0 <= 0)&&decide (0 <= ((List.length a0:Nat):Int))&&decide (((List.length a0:Nat):Int) <= ((List.length a0:Nat):Int))&&sized 4 a0) (must true (decide (((List.length a0:Nat):Int) = ((List.length a0:Nat):Int))) (some (List.drop (Int.toNat 0) (List.take (Int.toNat ((List.length a0:Nat):Int)) a0))))
def d_z1:FnF := ⟨77,[.list],[.own 4]⟩
theorem m_z1_ok (n:Nat):Ok Tryz.prog d_z1 (m_z1 n) := fnOk0 sound [] Tryz.func77 (by kernel_rfl) (fun a=>by kernel_rfl)
def m_z80 (n:Nat) (a0:Int):Option (Bool) :=
some ((a0:Int) != 10)
def d_z80:FnF := ⟨74,[.int .u8],[.bool]⟩
theorem m_z80_ok (n:Nat):Ok Tryz.prog d_z80 (m_z80 n) := fnOk0 sound [] Tryz.func74 (by kernel_rfl) (fun a=>by kernel_rfl)
def l_z88_2_B (n:Nat) (k:ByteArray × Int -> Option (Int)):ByteArray × Int -> Option (Int) := fun (s0,s1) =>
Option.bind (bidx ((decide ((s1:Int) < ((ByteArray.size s0:Nat):Int)))) s0 s1) fun b0 =>
Option.bind (bif (decide ((s1:Int) < ((ByteArray.size s0:Nat):Int))) then m_z80 n ((UInt8.toNat b0:Nat):Int) else some false) fun r1 =>
bif (bif (decide ((s1:Int) < ((ByteArray.size s0:Nat):Int))) then r1 else false) then (
k (s0,(IntKind.wrap .i64 (s1 + 1))))
else (
some s1)
def l_z88_2 (n:Nat):Nat -> ByteArray × Int -> Option (Int)
 | 0,_=>none
 | m + 1,s=>l_z88_2_B n (l_z88_2 n m) s
def m_z88 (n:Nat) (a0:ByteArray):Option (Int) :=
Option.bind (l_z88_2 n n (a0,0)) fun p3 =>
some p3
def d_z88:FnF := ⟨68,[.str,.fn 74 0],[.int .i64]⟩
def cs_z88 (n:Nat):List (CalF Tryz.prog) := [⟨d_z80,m_z80 n,m_z80_ok n⟩]
def L_l_z88_2:LF := ⟨2,[0,1,5],[.str,.fn 74 0,.int .i64],[⟨(.exit 0),[5],[.int .i64]⟩]⟩
def ls_z88 (n:Nat):List LE := [⟨2,loopS L_l_z88_2 (l_z88_2 n n)⟩]
theorem l_z88_2_ok (n:Nat):LoopOk Tryz.prog (mkSpec (cs_z88 n) (ls_z88 n)) 0 20 (loopAt Tryz.f68 0) := loopOk (L := L_l_z88_2) (f := l_z88_2 n) (B := l_z88_2_B n) (k := n) (loopAt_ok sound Tryz.func68 (by kernel_rfl)) (inner (by kernel_rfl) allN) (innerS (by kernel_rfl) allN) (fun _=>rfl) (fun _ _=>rfl) (by kernel_rfl) (fun _=>by kernel_rfl) (by kernel_rfl) (fun k a=>by kernel_rfl)
theorem m_z88_ok (n:Nat):Ok Tryz.prog d_z88 (m_z88 n) := fnOk sound (cs := cs_z88 n) (ls := ls_z88 n) (n := 20) Tryz.func68 (by kernel_rfl) (fun _=>by kernel_rfl) (inner (by kernel_rfl) (allC (l_z88_2_ok n) allN)) (innerS (by kernel_rfl) allN) (by kernel_rfl) (fun a=>by kernel_rfl)
def m_z91 (n:Nat) (a0:Int):Option (Bool) :=
Option.bind (m_z87 n a0) fun r0 =>
Option.bind (bif !r0 then m_z94 n a0 else some false) fun r1 =>
some (bif r0 then true else r1)
def d_z91:FnF := ⟨110,[.int .u8],[.bool]⟩
theorem m_z91_ok (n:Nat):Ok Tryz.prog d_z91 (m_z91 n) := fnOk0 sound [⟨d_z87,m_z87 n,m_z87_ok n⟩,⟨d_z94,m_z94 n,m_z94_ok n⟩] Tryz.func110 (by kernel_rfl) (fun a=>by kernel_rfl)
def l_z89_2_B (n:Nat) (k:ByteArray × Int -> Option (Int)):ByteArray × Int -> Option (Int) := fun (s0,s1) =>
Option.bind (bidx ((decide ((s1:Int) < ((ByteArray.size s0:Nat):Int)))) s0 s1) fun b0 =>
Option.bind (bif (decide ((s1:Int) < ((ByteArray.size s0:Nat):Int))) then m_z91 n ((UInt8.toNat b0:Nat):Int) else some false) fun r1 =>
bif (bif (decide ((s1:Int) < ((ByteArray.size s0:Nat):Int))) then r1 else false) then (
k (s0,(IntKind.wrap .i64 (s1 + 1))))
else (
some s1)
def l_z89_2 (n:Nat):Nat -> ByteArray × Int -> Option (Int)
 | 0,_=>none
 | m + 1,s=>l_z89_2_B n (l_z89_2 n m) s
def m_z89 (n:Nat) (a0:ByteArray):Option (Int) :=
Option.bind (l_z89_2 n n (a0,0)) fun p3 =>
some p3
def d_z89:FnF := ⟨68,[.str,.fn 110 0],[.int .i64]⟩
def cs_z89 (n:Nat):List (CalF Tryz.prog) := [⟨d_z91,m_z91 n,m_z91_ok n⟩]
def L_l_z89_2:LF := ⟨2,[0,1,5],[.str,.fn 110 0,.int .i64],[⟨(.exit 0),[5],[.int .i64]⟩]⟩
def ls_z89 (n:Nat):List LE := [⟨2,loopS L_l_z89_2 (l_z89_2 n n)⟩]
theorem l_z89_2_ok (n:Nat):LoopOk Tryz.prog (mkSpec (cs_z89 n) (ls_z89 n)) 0 20 (loopAt Tryz.f68 0) := loopOk (L := L_l_z89_2) (f := l_z89_2 n) (B := l_z89_2_B n) (k := n) (loopAt_ok sound Tryz.func68 (by kernel_rfl)) (inner (by kernel_rfl) allN) (innerS (by kernel_rfl) allN) (fun _=>rfl) (fun _ _=>rfl) (by kernel_rfl) (fun _=>by kernel_rfl) (by kernel_rfl) (fun k a=>by kernel_rfl)
theorem m_z89_ok (n:Nat):Ok Tryz.prog d_z89 (m_z89 n) := fnOk sound (cs := cs_z89 n) (ls := ls_z89 n) (n := 20) Tryz.func68 (by kernel_rfl) (fun _=>by kernel_rfl) (inner (by kernel_rfl) (allC (l_z89_2_ok n) allN)) (innerS (by kernel_rfl) allN) (by kernel_rfl) (fun a=>by kernel_rfl)
def m_z95 (n:Nat) (a0:ByteArray):Option (Int) :=
Option.bind (bidx (!(ByteArray.toList a0 == ByteArray.toList (⟨#[]⟩:ByteArray))) a0 0) fun b0 =>
Option.bind (bif !(ByteArray.toList a0 == ByteArray.toList (⟨#[]⟩:ByteArray)) then m_z87 n ((UInt8.toNat b0:Nat):Int) else some false) fun r1 =>
bif (bif (ByteArray.toList a0 == ByteArray.toList (⟨#[]⟩:ByteArray)) then true else (!r1)) then (
some 0)
else (
Option.bind (m_z89 n a0) fun r2 =>
bif (decide ((r2:Int) > 12)) then (
some 0)
else (
some r2))
def d_z95:FnF := ⟨75,[.str],[.int .i64]⟩
theorem m_z95_ok (n:Nat):Ok Tryz.prog d_z95 (m_z95 n) := fnOk0 sound [⟨d_z87,m_z87 n,m_z87_ok n⟩,⟨d_z89,m_z89 n,m_z89_ok n⟩] Tryz.func75 (by kernel_rfl) (fun a=>by kernel_rfl)
def l_z90_2_B (n:Nat) (k:ByteArray × Int -> Option (Int)):ByteArray × Int -> Option (Int) := fun (s0,s1) =>
Option.bind (bidx ((decide ((s1:Int) < ((ByteArray.size s0:Nat):Int)))) s0 s1) fun b0 =>
Option.bind (bif (decide ((s1:Int) < ((ByteArray.size s0:Nat):Int))) then m_z94 n ((UInt8.toNat b0:Nat):Int) else some false) fun r1 =>
bif (bif (decide ((s1:Int) < ((ByteArray.size s0:Nat):Int))) then r1 else false) then (
k (s0,(IntKind.wrap .i64 (s1 + 1))))
else (
some s1)
def l_z90_2 (n:Nat):Nat -> ByteArray × Int -> Option (Int)
 | 0,_=>none
 | m + 1,s=>l_z90_2_B n (l_z90_2 n m) s
def m_z90 (n:Nat) (a0:ByteArray):Option (Int) :=
Option.bind (l_z90_2 n n (a0,0)) fun p3 =>
some p3
def d_z90:FnF := ⟨68,[.str,.fn 71 0],[.int .i64]⟩
def cs_z90 (n:Nat):List (CalF Tryz.prog) := [⟨d_z94,m_z94 n,m_z94_ok n⟩]
def L_l_z90_2:LF := ⟨2,[0,1,5],[.str,.fn 71 0,.int .i64],[⟨(.exit 0),[5],[.int .i64]⟩]⟩
def ls_z90 (n:Nat):List LE := [⟨2,loopS L_l_z90_2 (l_z90_2 n n)⟩]
theorem l_z90_2_ok (n:Nat):LoopOk Tryz.prog (mkSpec (cs_z90 n) (ls_z90 n)) 0 20 (loopAt Tryz.f68 0) := loopOk (L := L_l_z90_2) (f := l_z90_2 n) (B := l_z90_2_B n) (k := n) (loopAt_ok sound Tryz.func68 (by kernel_rfl)) (inner (by kernel_rfl) allN) (innerS (by kernel_rfl) allN) (fun _=>rfl) (fun _ _=>rfl) (by kernel_rfl) (fun _=>by kernel_rfl) (by kernel_rfl) (fun k a=>by kernel_rfl)
theorem m_z90_ok (n:Nat):Ok Tryz.prog d_z90 (m_z90 n) := fnOk sound (cs := cs_z90 n) (ls := ls_z90 n) (n := 20) Tryz.func68 (by kernel_rfl) (fun _=>by kernel_rfl) (inner (by kernel_rfl) (allC (l_z90_2_ok n) allN)) (innerS (by kernel_rfl) allN) (by kernel_rfl) (fun a=>by kernel_rfl)
def m_z82 (n:Nat) (a0:ByteArray):Option (Int) := atoiM a0
def d_z82:FnF := ⟨76,[.str],[.tup 2,.int .i64,.any]⟩
theorem m_z82_ok (n:Nat):Ok Tryz.prog d_z82 (m_z82 n) := fun a r h=>x_strconv_Atoi (show atoiM a.1 = some r from h)
def m_z83 (n:Nat) (a0:Int):Option (ByteArray) := itoaM a0
def d_z83:FnF := ⟨36,[.int .i64],[.str]⟩
theorem m_z83_ok (n:Nat):Ok Tryz.prog d_z83 (m_z83 n) := fun a r h=>x_strconv_Itoa (show itoaM a.1 = some r from h)
end Go.Proofs.YtbcgpjlkkcdmmaaGreatDoor.W
