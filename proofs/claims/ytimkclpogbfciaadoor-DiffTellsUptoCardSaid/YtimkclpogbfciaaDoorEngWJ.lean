/- The engine: forms. What a function, a loop, a scope's labels read and hand back, as data; of a form once for all: how it is read, how it is weakened, that contracts hold by the walk. -/
import Derived.Test.YtimkclpogbfciaaDoorEngWE
set_option linter.unusedVariables false
set_option linter.unusedSimpArgs false
namespace Go.Eng
open Go.RowKit

/-- A leaf's type. -/
inductive LT where
  | int | bool | str | cplx | flt | list
abbrev LT.ty : LT → Type
  | .int => Int
  | .bool => Bool
  | .str => ByteArray
  | .cplx => Nat × Nat
  | .flt => Nat
  | .list => List T
def LT.dflt : (t : LT) → t.ty
  | .int => (0 : Int)
  | .bool => false
  | .str => (default : ByteArray)
  | .cplx => (0, 0)
  | .flt => (0 : Nat)
  | .list => ([] : List T)

/-- What values are read as: in order; agg, tup, fn: of so many that come next; box: a variable in memory, of so many cells. -/
inductive Tk where
  | int (k : IntKind) | bool | str | cplx (k : FloatKind) | flt (k : FloatKind) | list | own (m : Nat)
  | ptr (id off : Nat) | any | agg (n : Nat) | tup (n : Nat) | fn (f n : Nat) | box (n : Nat) | nobox

abbrev lv : List Tk → List LT
  | [] => []
  | .int _ :: r => .int :: lv r
  | .bool :: r => .bool :: lv r
  | .str :: r => .str :: lv r
  | .cplx _ :: r => .cplx :: lv r
  | .flt _ :: r => .flt :: lv r
  | .list :: r => .list :: lv r
  | .own _ :: r => .list :: lv r
  | .ptr _ _ :: r => lv r
  | .any :: r => lv r
  | .agg _ :: r => lv r
  | .tup _ :: r => lv r
  | .fn _ _ :: r => lv r
  | .box _ :: r => lv r
  | .nobox :: r => lv r

/-- Leaves, one by one; as a tuple; a function of them. -/
abbrev ArgL : List LT → Type
  | [] => Unit
  | t :: r => t.ty × ArgL r
abbrev Ret : List LT → Type
  | [] => Unit
  | [a] => a.ty
  | a :: b :: r => a.ty × Ret (b :: r)
abbrev Fn : List LT → Type → Type
  | [], R => R
  | t :: r, R => t.ty → Fn r R
def toA : (l : List LT) → Ret l → ArgL l
  | [], _ => ()
  | [_], x => (x, ())
  | _ :: b :: r, x => (x.1, toA (b :: r) x.2)
def ofA : (l : List LT) → ArgL l → Ret l
  | [], _ => ()
  | [_], x => x.1
  | _ :: b :: r, x => (x.1, ofA (b :: r) x.2)
theorem toA_ofA : ∀ (l : List LT) (x : ArgL l), toA l (ofA l x) = x
  | [], _ => rfl
  | [_], (_, _) => rfl
  | _ :: b :: r, (y, x) => by simp only [ofA, toA, toA_ofA (b :: r) x]
def app {R : Type} : (l : List LT) → Fn l R → ArgL l → R
  | [], f, _ => f
  | _ :: r, f, x => app r (f x.1) x.2
def dfltR : (l : List LT) → Ret l
  | [] => ()
  | [a] => a.dflt
  | a :: b :: r => (a.dflt, dfltR (b :: r))

/-- Values, variables in memory: read. -/
def dec : (ts : List Tk) → List V → Sig → Option (ArgL (lv ts))
  | [], [], _ => some ()
  | .int k :: r, v :: vs, s => Option.bind (v.intOf k) fun a => Option.bind (dec r vs s) fun x => some (a, x)
  | .bool :: r, v :: vs, s => Option.bind v.boolOf fun a => Option.bind (dec r vs s) fun x => some (a, x)
  | .str :: r, v :: vs, s => Option.bind v.strOf fun a => Option.bind (dec r vs s) fun x => some (a, x)
  | .cplx k :: r, v :: vs, s => Option.bind (v.cplxOf k) fun a => Option.bind (dec r vs s) fun x => some (a, x)
  | .flt k :: r, v :: vs, s => Option.bind (v.fltOf k) fun a => Option.bind (dec r vs s) fun x => some (a, x)
  | .list :: r, v :: vs, s => Option.bind v.lstOf fun a => Option.bind (dec r vs s) fun x => some (a, x)
  | .own m :: r, v :: vs, s => Option.bind (v.ownOf m) fun a => Option.bind (dec r vs s) fun x => some (a, x)
  | .ptr i o :: r, v :: vs, s => Option.bind (v.ptrOf i o) fun _ => dec r vs s
  | .any :: r, v :: vs, s => dec r vs s
  | .agg n :: r, v :: vs, s => Option.bind (v.aggN n) fun us => dec r (us ++ vs) s
  | .tup n :: r, v :: vs, s => Option.bind (v.tupN n) fun us => dec r (us ++ vs) s
  | .fn f n :: r, v :: vs, s => Option.bind (v.fnN f n) fun us => dec r (us ++ vs) s
  | .box n :: r, vs, some us :: s => bif Nat.beq us.length n then dec r (us ++ vs) s else none
  | .nobox :: r, vs, none :: s => dec r vs s
  | _, _, _ => none

/-- Values put together. -/
def encL : (ts : List Tk) → ArgL (lv ts) → List V
  | [], _ => []
  | .int k :: r, a => .t (.sc (.int k a.1)) :: encL r a.2
  | .bool :: r, a => .t (.sc (.bool a.1)) :: encL r a.2
  | .str :: r, a => .t (.sc (.string a.1)) :: encL r a.2
  | .cplx k :: r, a => .t (.sc (.complex k a.1.1 a.1.2)) :: encL r a.2
  | .flt k :: r, a => .t (.sc (.float k a.1)) :: encL r a.2
  | .list :: r, a => .t (.list a.1) :: encL r a.2
  | .own m :: r, a => .own m a.1 :: encL r a.2
  | .ptr i o :: r, a => .ptr i o :: encL r a
  | .any :: r, a => .any :: encL r a
  | .agg n :: r, a => .agg ((encL r a).take n) :: (encL r a).drop n
  | .tup n :: r, a => .tup ((encL r a).take n) :: (encL r a).drop n
  | .fn f n :: r, a => .fn f ((encL r a).take n) :: (encL r a).drop n
  | .box n :: r, a => (encL r a).drop n
  | .nobox :: r, a => encL r a

def encB : (ts : List Tk) → ArgL (lv ts) → Sig
  | [], _ => []
  | .int _ :: r, a => encB r a.2
  | .bool :: r, a => encB r a.2
  | .str :: r, a => encB r a.2
  | .cplx _ :: r, a => encB r a.2
  | .flt _ :: r, a => encB r a.2
  | .list :: r, a => encB r a.2
  | .own _ :: r, a => encB r a.2
  | .ptr _ _ :: r, a => encB r a
  | .any :: r, a => encB r a
  | .agg _ :: r, a => encB r a
  | .tup _ :: r, a => encB r a
  | .fn _ _ :: r, a => encB r a
  | .box n :: r, a => some ((encL r a).take n) :: encB r a
  | .nobox :: r, a => none :: encB r a

def boxes : List Tk → Nat
  | [] => 0
  | .box _ :: r => boxes r + 1
  | .nobox :: r => boxes r + 1
  | _ :: r => boxes r
/-- Pointers lead to the first so many variables. -/
def ptrsB (k : Nat) : List Tk → Bool
  | [] => true
  | .ptr i _ :: r => Nat.blt i k && ptrsB k r
  | _ :: r => ptrsB k r

/-- Variables in memory, weakened. -/
inductive WkB : Sig → Sig → Prop
  | nil (s : Sig) : WkB s []
  | cons {cs cs' : List V} {s s' : Sig} : WkL cs cs' → WkB s s' → WkB (some cs :: s) (some cs' :: s')
  | none {s s' : Sig} : WkB s s' → WkB (none :: s) (none :: s')

theorem WkL.split : ∀ {us vs ws : List V}, WkL (us ++ vs) ws → WkL us (ws.take us.length) ∧ WkL vs (ws.drop us.length)
  | [], vs, ws, h => ⟨.nil, h⟩
  | u :: us, vs, _, .cons h1 h2 => ⟨.cons h1 h2.split.1, by simpa using h2.split.2⟩

theorem aggN_eq {n : Nat} {v : V} {us : List V} (h : v.aggN n = some us) : v = .agg us ∧ us.length = n := by
  unfold V.aggN at h
  split at h
  · rename_i vs
    cases hb : Nat.beq vs.length n with
    | false => simp [hb] at h
    | true => simp [hb] at h; subst h; exact ⟨rfl, Nat.eq_of_beq_eq_true hb⟩
  · cases h
theorem tupN_eq {n : Nat} {v : V} {us : List V} (h : v.tupN n = some us) : v = .tup us ∧ us.length = n := by
  unfold V.tupN at h
  split at h
  · rename_i vs
    cases hb : Nat.beq vs.length n with
    | false => simp [hb] at h
    | true => simp [hb] at h; subst h; exact ⟨rfl, Nat.eq_of_beq_eq_true hb⟩
  · cases h
theorem fnN_eq {f n : Nat} {v : V} {us : List V} (h : v.fnN f n = some us) : v = .fn f us ∧ us.length = n := by
  unfold V.fnN at h
  split at h
  · rename_i f' vs
    cases hf : Nat.beq f' f with
    | false => simp [hf] at h
    | true =>
      cases hb : Nat.beq vs.length n with
      | false => simp [hf, hb] at h
      | true => simp [hf, hb] at h; subst h; rw [Nat.eq_of_beq_eq_true hf]; exact ⟨rfl, Nat.eq_of_beq_eq_true hb⟩
  · cases h

theorem bind2 {α β : Type} {x : Option α} {f : α → Option β} {y : β} (h : Option.bind x f = some y) : ∃ a, x = some a ∧ f a = some y := Option.bind_eq_some_iff.1 h

/-- What is read may be taken for what is put together of it. -/
theorem dec_wk : ∀ (ts : List Tk) (vs : List V) (s : Sig) (a : ArgL (lv ts)), dec ts vs s = some a → WkL vs (encL ts a) ∧ WkB s (encB ts a) := by
  intro ts
  induction ts with
  | nil =>
    intro vs s a h
    cases vs with
    | nil => exact ⟨.nil, .nil _⟩
    | cons v vs => simp [dec] at h
  | cons t r ih =>
    intro vs s a h
    cases t with
    | box n =>
      cases s with
      | nil => simp [dec] at h
      | cons o s =>
        cases o with
        | none => simp [dec] at h
        | some us =>
          simp only [dec] at h
          cases hb : Nat.beq us.length n with
          | false => simp [hb] at h
          | true =>
            rw [hb, cond_true] at h
            have hn := Nat.eq_of_beq_eq_true hb
            subst hn
            obtain ⟨h1, h2⟩ := ih _ _ _ h
            exact ⟨h1.split.2, .cons h1.split.1 h2⟩
    | nobox =>
      cases s with
      | nil => simp [dec] at h
      | cons o s =>
        cases o with
        | some us => simp [dec] at h
        | none =>
          obtain ⟨h1, h2⟩ := ih _ _ _ (show dec r vs s = some a from by simpa only [dec] using h)
          exact ⟨h1, .none h2⟩
    | _ =>
      cases vs with
      | nil => simp [dec] at h
      | cons v vs =>
        simp only [dec] at h
        first
        | (obtain ⟨us, hu, h⟩ := bind2 h
           first
           | (obtain ⟨x, hx, h⟩ := bind2 h
              simp only [Option.some.injEq] at h
              subst h
              obtain ⟨h1, h2⟩ := ih _ _ _ hx
              refine ⟨.cons ?_ h1, h2⟩
              first
              | exact intOf_wk hu
              | exact boolOf_wk hu
              | exact strOf_wk hu
              | exact cplxOf_wk hu
              | exact fltOf_wk hu
              | exact lstOf_wk hu
              | exact ownOf_wk hu)
           | (obtain ⟨h1, h2⟩ := ih _ _ _ h
              first
              | exact ⟨.cons (ptrOf_wk hu) h1, h2⟩
              | (obtain ⟨rfl, rfl⟩ := aggN_eq hu
                 exact ⟨.cons (Wk.agg h1.split.1) h1.split.2, h2⟩)
              | (obtain ⟨rfl, rfl⟩ := tupN_eq hu
                 exact ⟨.cons (Wk.tup h1.split.1) h1.split.2, h2⟩)
              | (obtain ⟨rfl, rfl⟩ := fnN_eq hu
                 exact ⟨.cons (Wk.fn h1.split.1) h1.split.2, h2⟩)))
        | (obtain ⟨h1, h2⟩ := ih _ _ _ h
           exact ⟨.cons (Wk.any _) h1, h2⟩)

theorem renL_same {ρ : Nat → Option Nat} : ∀ {l : List V}, (∀ u ∈ l, u.ren ρ = some u) → renL ρ l = some l
  | [], _ => by simp only [renL]
  | v :: l, h => by simp only [renL, h v (by simp), renL_same (l := l) (fun u hu => h u (by simp [hu]))]

theorem enc_ren {k : Nat} : ∀ (ts : List Tk) (a : ArgL (lv ts)), ptrsB k ts = true → (∀ u ∈ encL ts a, u.ren (below k) = some u) ∧ ∀ cs, some cs ∈ encB ts a → ∀ u ∈ cs, u.ren (below k) = some u := by
  intro ts
  induction ts with
  | nil => intro a _; exact ⟨fun u hu => by simp [encL] at hu, fun cs hc => by simp [encB] at hc⟩
  | cons t r ih =>
    intro a hp
    have cut : ∀ (n : Nat) (b : ArgL (lv r)), (∀ u ∈ encL r b, u.ren (below k) = some u) → (∀ u ∈ (encL r b).take n, u.ren (below k) = some u) ∧ ∀ u ∈ (encL r b).drop n, u.ren (below k) = some u :=
      fun n b h => ⟨fun u hu => h u (List.mem_of_mem_take hu), fun u hu => h u (List.mem_of_mem_drop hu)⟩
    have one : ∀ {v : V} {l : List V}, v.ren (below k) = some v → (∀ u ∈ l, u.ren (below k) = some u) → ∀ u ∈ v :: l, u.ren (below k) = some u := by
      intro v l h1 h2 u hu
      rcases List.mem_cons.1 hu with rfl | hu
      · exact h1
      · exact h2 u hu
    cases t with
    | ptr i o =>
      simp only [ptrsB, Bool.and_eq_true] at hp
      obtain ⟨h1, h2⟩ := ih a hp.2
      refine ⟨one ?_ h1, h2⟩
      have : i < k := by simpa using hp.1
      simp only [V.ren, below, if_pos this, Option.map_some]
    | agg n =>
      obtain ⟨h1, h2⟩ := ih a hp
      exact ⟨one (by simp only [V.ren, renL_same (cut n a h1).1, Option.map_some]) (cut n a h1).2, h2⟩
    | tup n =>
      obtain ⟨h1, h2⟩ := ih a hp
      exact ⟨one (by simp only [V.ren, renL_same (cut n a h1).1, Option.map_some]) (cut n a h1).2, h2⟩
    | fn f n =>
      obtain ⟨h1, h2⟩ := ih a hp
      exact ⟨one (by simp only [V.ren, renL_same (cut n a h1).1, Option.map_some]) (cut n a h1).2, h2⟩
    | box n =>
      obtain ⟨h1, h2⟩ := ih a hp
      refine ⟨(cut n a h1).2, fun cs hc => ?_⟩
      simp only [encB, List.mem_cons, Option.some.injEq] at hc
      rcases hc with rfl | hc
      · exact (cut n a h1).1
      · exact h2 cs hc
    | nobox =>
      obtain ⟨h1, h2⟩ := ih a hp
      refine ⟨h1, fun cs hc => ?_⟩
      simp only [encB, List.mem_cons, reduceCtorEq, false_or] at hc
      exact h2 cs hc
    | any =>
      obtain ⟨h1, h2⟩ := ih a hp
      exact ⟨one (by simp only [V.ren]) h1, h2⟩
    | _ =>
      obtain ⟨h1, h2⟩ := ih a.2 hp
      exact ⟨one (by simp only [V.ren]) h1, h2⟩

theorem encB_len : ∀ (ts : List Tk) (a : ArgL (lv ts)), (encB ts a).length = boxes ts := by
  intro ts
  induction ts with
  | nil => intro a; rfl
  | cons t r ih =>
    intro a
    cases t <;> simp only [encB, boxes, List.length_cons, ih]

theorem WkB.get : ∀ {s s' : Sig}, WkB s s' → ∀ (j : Nat) (cs : List V), j < s'.length → s[j]? = some (some cs) → ∃ cs', s'[j]? = some (some cs') ∧ WkL cs cs'
  | _, _, .nil _, j, cs, h, _ => by simp at h
  | _, _, .cons h1 h2, 0, cs, _, h => by
    simp only [List.getElem?_cons_zero, Option.some.injEq] at h
    subst h
    exact ⟨_, rfl, h1⟩
  | _, _, .cons h1 h2, j + 1, cs, hl, h => by
    obtain ⟨cs', q1, q2⟩ := h2.get j cs (by simpa using hl) (by simpa using h)
    exact ⟨cs', by simpa using q1, q2⟩
  | _, _, .none h2, 0, cs, _, h => by simp at h
  | _, _, .none h2, j + 1, cs, hl, h => by
    obtain ⟨cs', q1, q2⟩ := h2.get j cs (by simpa using hl) (by simpa using h)
    exact ⟨cs', by simpa using q1, q2⟩

/-! functions -/

/-- A function's form. -/
structure FnF where
  id : FuncId
  ins : List Tk
  out : List Tk

def encV (ts : List Tk) (a : ArgL (lv ts)) : V := (encL ts a).headD .any

section
variable {P : Program}

def Ok (P : Program) (d : FnF) (m : Fn (lv d.ins) (Option (Ret (lv d.out)))) : Prop :=
  ∀ (a : ArgL (lv d.ins)) (r : Ret (lv d.out)), app (lv d.ins) m a = some r → FuncOk P d.id (encL d.ins a) (encB d.ins a) (encV d.out (toA _ r)) (encB d.out (toA _ r))

structure CalF (P : Program) where
  d : FnF
  m : Fn (lv d.ins) (Option (Ret (lv d.out)))
  ok : Ok P d m

def CalF.cm (c : CalF P) (vs : List V) (sg : Sig) : Option CallM :=
  bif Nat.beq sg.length (boxes c.d.ins) then
    Option.bind (dec c.d.ins vs sg) fun a => some { α := Ret (lv c.d.out), m := app (lv c.d.ins) c.m a, dflt := dfltR (lv c.d.out), enc := fun r => (encV c.d.out (toA _ r), encB c.d.out (toA _ r)) }
  else none

theorem CalF.cm_ok (c : CalF P) {vs : List V} {sg : Sig} {cm : CallM} {x : cm.α} (h : c.cm vs sg = some cm) (hx : cm.m = some x) : FuncOk P c.d.id vs sg (cm.enc x).1 (cm.enc x).2 := by
  unfold CalF.cm at h
  cases hb : Nat.beq sg.length (boxes c.d.ins) with
  | false => simp [hb] at h
  | true =>
    rw [hb, cond_true] at h
    obtain ⟨a, ha, h⟩ := Option.bind_eq_some_iff.1 h
    simp only [Option.some.injEq] at h
    subst h
    obtain ⟨h1, h2⟩ := dec_wk _ _ _ _ ha
    have hl : (encB c.d.ins a).length = sg.length := by rw [encB_len, Nat.eq_of_beq_eq_true hb]
    exact (c.ok a x hx).wk h1 ⟨hl, fun id cs hid => h2.get id cs (by rw [hl]; exact (List.getElem?_eq_some_iff.1 hid).1) hid⟩

def findC : List (CalF P) → FuncId → List V → Sig → Option CallM
  | [], _, _, _ => none
  | c :: r, f, vs, sg => bif Nat.beq c.d.id f then orC (c.cm vs sg) (findC r f vs sg) else findC r f vs sg

theorem findC_ok : ∀ {l : List (CalF P)} {f : FuncId} {vs : List V} {sg : Sig} {cm : CallM} {x : cm.α}, findC l f vs sg = some cm → cm.m = some x → FuncOk P f vs sg (cm.enc x).1 (cm.enc x).2
  | [], _, _, _, _, _, h, _ => by simp [findC] at h
  | c :: r, f, vs, sg, cm, x, h, hx => by
    simp only [findC] at h
    cases hb : Nat.beq c.d.id f with
    | false => rw [hb, cond_false] at h; exact findC_ok h hx
    | true =>
      rw [hb, cond_true] at h
      rcases orC_some h with h | h
      · rw [← Nat.eq_of_beq_eq_true hb]; exact c.cm_ok h hx
      · exact findC_ok h hx

/-- A loop, or what is run from a label on. -/
structure LE where
  key : Nat
  S : (R : Type) → SEnv → Sig → (Ex → SEnv → Sig → Option R) → Option R
def findL : List LE → (R : Type) → Nat → SEnv → Sig → (Ex → SEnv → Sig → Option R) → Option R
  | [], _, _, _, _, _ => none
  | e :: r, R, key, E, sg, K => bif Nat.beq e.key key then e.S R E sg K else findL r R key E sg K

def mkSpec (cs : List (CalF P)) (ls : List LE) : Spec := ⟨findC cs, findL ls⟩
theorem mkSpec_ok (cs : List (CalF P)) (ls : List LE) : CallsOk P (mkSpec cs ls) := fun _ _ _ _ _ h hx => findC_ok h hx

/-! ways out -/

structure XF where
  ex : Ex
  slots : List Nat
  out : List Tk
abbrev Out : List XF → Type
  | [] => Empty
  | [e] => Ret (lv e.out)
  | e :: e' :: r => Ret (lv e.out) ⊕ Out (e' :: r)

def exB : Ex → Ex → Bool
  | .normal, .normal => true
  | .ret, .ret => true
  | .exit a, .exit b => Nat.beq a b
  | .goto a, .goto b => Nat.beq a b
  | _, _ => false
theorem exB_eq {x y : Ex} (h : exB x y = true) : x = y := by
  cases x <;> cases y <;> simp [exB] at h <;> simp [h]

def encE (slots : List Nat) (ts : List Tk) (a : ArgL (lv ts)) : SEnv := slots.zip (encL ts a)

def elimK {R : Type} : (xs : List XF) → Out xs → (Ex → SEnv → Sig → Option R) → Option R
  | [], _, _ => none
  | [e], y, K => K e.ex (encE e.slots e.out (toA _ y)) (encB e.out (toA _ y))
  | e :: e' :: r, y, K => Sum.elim (fun p => K e.ex (encE e.slots e.out (toA _ p)) (encB e.out (toA _ p))) (fun q => elimK (e' :: r) q K) y

def exitK : (xs : List XF) → Ex → SEnv → Sig → Option (Out xs)
  | [], _, _, _ => none
  | [e], x, E, s => bif exB e.ex x then Option.bind (dec e.out (e.slots.map E.at) s) fun a => some (ofA _ a) else none
  | e :: e' :: r, x, E, s => bif exB e.ex x then Option.bind (dec e.out (e.slots.map E.at) s) fun a => some (Sum.inl (ofA _ a)) else Option.bind (exitK (e' :: r) x E s) fun y => some (Sum.inr y)

/-- Of each way out: its slots are as many as its values, its variables so many or more, its pointers lead there. -/
def xOk (k : Nat) (e : XF) : Bool := Nat.ble k (boxes e.out) && ptrsB (boxes e.out) e.out
def xsOk (k : Nat) (xs : List XF) : Bool := xs.all (xOk k)

theorem look_zip : ∀ {slots : List Nat} {vs : List V} {d : Nat} {v : V}, look (slots.zip vs) d = some v → ∃ i : Nat, slots[i]? = some d ∧ vs[i]? = some v
  | [], vs, d, v, h => by simp [look] at h
  | s :: slots, [], d, v, h => by simp [look] at h
  | s :: slots, u :: vs, d, v, h => by
    rw [List.zip_cons_cons, look_cons] at h
    split at h
    · rename_i hd
      simp only [Option.some.injEq] at h
      subst h; subst hd
      exact ⟨0, rfl, rfl⟩
    · obtain ⟨i, h1, h2⟩ := look_zip h
      exact ⟨i + 1, by simpa using h1, by simpa using h2⟩

theorem wkE_dec {n k : Nat} {slots : List Nat} {ts : List Tk} {E : SEnv} {s : Sig} {a : ArgL (lv ts)} (h : dec ts (slots.map E.at) s = some a) (hp : ptrsB k ts = true) : WkE k (SEnv.env n E) (SEnv.env n (encE slots ts a)) := by
  refine WkA.env (fun d v hl => ?_) n
  obtain ⟨h1, _⟩ := dec_wk _ _ _ _ h
  obtain ⟨i, hi, hv⟩ := look_zip hl
  refine ⟨?_, (enc_ren ts a hp).1 v (List.mem_of_getElem? hv)⟩
  exact h1.get i _ v (by rw [List.getElem?_map, hi]; rfl) hv

theorem wkS_dec {k : Nat} {ts : List Tk} {vs : List V} {s : Sig} {a : ArgL (lv ts)} (h : dec ts vs s = some a) (hk : boxes ts = k) (hp : ptrsB k ts = true) : WkS k s (encB ts a) := by
  obtain ⟨_, h2⟩ := dec_wk _ _ _ _ h
  refine ⟨by rw [encB_len, hk], fun id cs hid hs => ?_⟩
  obtain ⟨cs', q1, q2⟩ := h2.get id cs (by rw [encB_len, hk]; exact hid) hs
  exact ⟨cs', q1, q2, (enc_ren ts a hp).2 cs' (List.mem_of_getElem? q1)⟩

/-- A way out is what is weakened. -/
theorem exitK_ok {R : Type} {n m0 : Nat} {E : SEnv} {s : Sig} {K : Ex → SEnv → Sig → Option R} {r : R} {x : Ex} : ∀ {xs : List XF} {y : Out xs}, xsOk m0 xs = true → exitK xs x E s = some y → elimK xs y K = some r →
    ∃ k E' s', m0 ≤ k ∧ WkE k (SEnv.env n E) (SEnv.env n E') ∧ WkS k s s' ∧ K x E' s' = some r
  | [], y, _, h, _ => by simp [exitK] at h
  | [e], y, hk, h, hK => by
    simp only [xsOk, List.all_cons, List.all_nil, Bool.and_true, xOk, Bool.and_eq_true] at hk
    simp only [exitK] at h
    cases hb : exB e.ex x with
    | false => rw [hb, cond_false] at h; cases h
    | true =>
      rw [hb, cond_true] at h
      obtain ⟨a, ha, h⟩ := Option.bind_eq_some_iff.1 h
      simp only [Option.some.injEq] at h
      subst h
      obtain rfl := exB_eq hb
      simp only [elimK, toA_ofA] at hK
      exact ⟨boxes e.out, _, _, Nat.le_of_ble_eq_true hk.1, wkE_dec ha hk.2, wkS_dec ha rfl hk.2, hK⟩
  | e :: e' :: l, y, hk, h, hK => by
    simp only [xsOk, List.all_cons, xOk, Bool.and_eq_true] at hk
    simp only [exitK] at h
    cases hb : exB e.ex x with
    | true =>
      rw [hb, cond_true] at h
      obtain ⟨a, ha, h⟩ := Option.bind_eq_some_iff.1 h
      simp only [Option.some.injEq] at h
      subst h
      obtain rfl := exB_eq hb
      simp only [elimK, Sum.elim_inl, toA_ofA] at hK
      exact ⟨boxes e.out, _, _, Nat.le_of_ble_eq_true hk.1.1, wkE_dec ha hk.1.2, wkS_dec ha rfl hk.1.2, hK⟩
    | false =>
      rw [hb, cond_false] at h
      obtain ⟨y', hy, h⟩ := Option.bind_eq_some_iff.1 h
      simp only [Option.some.injEq] at h
      subst h
      simp only [elimK, Sum.elim_inr] at hK
      exact exitK_ok (xs := e' :: l) (by simp only [xsOk, List.all_cons, xOk, Bool.and_eq_true]; exact hk.2) hy hK

/-! loops -/

structure LF where
  key : Nat
  slots : List Nat
  ins : List Tk
  exits : List XF

def loopS (L : LF) (f : Ret (lv L.ins) → Option (Out L.exits)) (R : Type) (E : SEnv) (sg : Sig) (K : Ex → SEnv → Sig → Option R) : Option R :=
  Option.bind (dec L.ins (L.slots.map E.at) sg) fun a => Option.bind (f (ofA _ a)) fun y => elimK L.exits y K

def loopK (L : LF) (k : Ret (lv L.ins) → Option (Out L.exits)) (x : Ex) (E : SEnv) (s : Sig) : Option (Out L.exits) :=
  match x with
  | .normal => Option.bind (dec L.ins (L.slots.map E.at) s) fun a => k (ofA _ a)
  | x => exitK L.exits x E s

theorem loopOk {cs : List (CalF P)} {ls : List LE} {m0 n : Nat} {code : Code} {L : LF} {f : Nat → Ret (lv L.ins) → Option (Out L.exits)} {B : (Ret (lv L.ins) → Option (Out L.exits)) → Ret (lv L.ins) → Option (Out L.exits)} {k : Nat}
    (hok : CodeOk P code) (hL : ∀ a ∈ loopsOf code, LoopOk P (mkSpec cs ls) m0 n a) (hJ : ∀ a ∈ scopesOf code, JumpOk P (mkSpec cs ls) m0 n a)
    (hf0 : ∀ s, f 0 s = none) (hfs : ∀ m s, f (m + 1) s = B (f m) s)
    (hk : keyOf code = some L.key) (hfind : ∀ R, findL ls R L.key = loopS L (f k) R)
    (hin : (Nat.ble m0 (boxes L.ins) && ptrsB (boxes L.ins) L.ins && xsOk m0 L.exits) = true)
    (heq : ∀ (k : Ret (lv L.ins) → Option (Out L.exits)) (a : ArgL (lv L.ins)), mX P (mkSpec cs ls) n code (encE L.slots L.ins a) (encB L.ins a) (loopK L k) = B k (ofA _ a)) : LoopOk P (mkSpec cs ls) m0 n code := by
  simp only [Bool.and_eq_true] at hin
  have run : ∀ (R : Type) (K : Ex → SEnv → Sig → Option R) (r : R) (m : Nat) (a : ArgL (lv L.ins)) (y : Out L.exits), f m (ofA _ a) = some y → elimK L.exits y K = some r →
      SemL P m0 code (SEnv.env n (encE L.slots L.ins a)) (encB L.ins a) fun x e' s' => ∃ E', e' = SEnv.env n E' ∧ K x E' s' = some r := by
    intro R K r m
    induction m with
    | zero => intro a y h; rw [hf0] at h; cases h
    | succ m ih =>
      intro a y h hK
      rw [hfs] at h
      refine loop_step (mkSpec_ok cs ls) hok hL hJ ((heq (f m) a).trans h) (fun E' s' hn => ?_) (fun ex E' s' hne he => ?_)
      · simp only [loopK] at hn
        obtain ⟨b, hb, hn⟩ := Option.bind_eq_some_iff.1 hn
        exact SemL.pre (k := boxes L.ins) (Nat.le_of_ble_eq_true hin.1.1) (wkE_dec hb hin.1.2) (wkS_dec hb rfl hin.1.2) (ih b y hn hK)
      · have he' : exitK L.exits ex E' s' = some y := by
          cases ex with
          | normal => exact absurd rfl hne
          | exit _ => exact he
          | goto _ => exact he
          | ret => exact he
        obtain ⟨k', E2, s2, q1, q2, q3, q4⟩ := exitK_ok (n := n) hin.2 he' hK
        exact ⟨k', _, s2, q1, q2, q3, E2, rfl, q4⟩
  intro R key E sg K r hkey h
  rw [hk] at hkey
  cases hkey
  have h : findL ls R L.key E sg K = some r := h
  rw [hfind] at h
  unfold loopS at h
  obtain ⟨a, ha, h⟩ := Option.bind_eq_some_iff.1 h
  obtain ⟨y, hy, h⟩ := Option.bind_eq_some_iff.1 h
  exact SemL.pre (k := boxes L.ins) (Nat.le_of_ble_eq_true hin.1.1) (wkE_dec ha hin.1.2) (wkS_dec ha rfl hin.1.2) (run R K r _ a y hy h)

def bodyAt (f : Func) : Code := f.body.getD .skip
def loopAt (f : Func) (i : Nat) : Code := (loopsOf (bodyAt f)).getD i .skip

theorem bodyAt_ok (hP : ProgOk P) {id : FuncId} {fn : Func} (hfn : P.funcs[id]? = some fn) (hb : fn.body.isSome = true) : fn.body = some (bodyAt fn) ∧ CodeOk P (bodyAt fn) := by
  cases h : fn.body with
  | none => rw [h] at hb; cases hb
  | some c =>
    have e : bodyAt fn = c := by unfold bodyAt; rw [h]; rfl
    rw [e]
    exact ⟨rfl, (hP id fn c hfn h).1⟩

theorem loopAt_ok (hP : ProgOk P) {id : FuncId} {fn : Func} (hfn : P.funcs[id]? = some fn) {i : Nat} (hb : (fn.body.isSome && Nat.blt i (loopsOf (bodyAt fn)).length) = true) : CodeOk P (loopAt fn i) := by
  rw [Bool.and_eq_true] at hb
  exact codeOk_loops (bodyAt_ok hP hfn hb.1).2 _ (getD_mem hb.2)

theorem allN {α : Type} {p : α → Prop} : ∀ a ∈ ([] : List α), p a := fun a h => by simp at h
theorem allC {α : Type} {p : α → Prop} {a : α} {l : List α} (h : p a) (hl : ∀ b ∈ l, p b) : ∀ b ∈ a :: l, p b := fun b hb => by
  rcases List.mem_cons.1 hb with rfl | hb
  · exact h
  · exact hl b hb
/-- The loops within code. -/
theorem inner {p : Code → Prop} {c : Code} {l : List Code} (h : loopsOf c = l) (hl : ∀ a ∈ l, p a) : ∀ a ∈ loopsOf c, p a := by rw [h]; exact hl
theorem innerS {p : Code → Prop} {c : Code} {l : List Code} (h : scopesOf c = l) (hl : ∀ a ∈ l, p a) : ∀ a ∈ scopesOf c, p a := by rw [h]; exact hl

/-- What a function's end is read as. -/
def outK (d : FnF) (v : V) (s : Sig) : Option (Ret (lv d.out)) := Option.bind (dec d.out [v] s) fun a => some (ofA _ a)

theorem fnOk (hP : ProgOk P) {cs : List (CalF P)} {ls : List LE} {d : FnF} {m : Fn (lv d.ins) (Option (Ret (lv d.out)))} {fn : Func} {n : Nat} (hfn : P.funcs[d.id]? = some fn) (hb : fn.body.isSome = true)
    (hn : ∀ a : ArgL (lv d.ins), (encL d.ins a).length + (fn.ntmps - (encL d.ins a).length) = n)
    (hL : ∀ a ∈ loopsOf (bodyAt fn), LoopOk P (mkSpec cs ls) (boxes d.ins) n a) (hJ : ∀ a ∈ scopesOf (bodyAt fn), JumpOk P (mkSpec cs ls) (boxes d.ins) n a)
    (ho : (Nat.beq (boxes d.out) (boxes d.ins) && ptrsB (boxes d.ins) d.out) = true)
    (heq : ∀ a : ArgL (lv d.ins), mF P (mkSpec cs ls) d.id (encL d.ins a) (encB d.ins a) (outK d) = app (lv d.ins) m a) : Ok P d m := by
  intro a r h
  rw [Bool.and_eq_true] at ho
  have hl := encB_len d.ins a
  refine mF_ok hP (mkSpec_ok cs ls) hfn (bodyAt_ok hP hfn hb).1 (by rw [hl, hn]; exact hL) (by rw [hl, hn]; exact hJ) ((heq a).trans h) (fun v s hk => ?_)
  unfold outK at hk
  obtain ⟨x, hx, hk⟩ := Option.bind_eq_some_iff.1 hk
  simp only [Option.some.injEq] at hk
  subst hk
  rw [toA_ofA, hl]
  have h1 := (dec_wk _ _ _ _ hx).1
  have h2 := enc_ren (k := boxes d.ins) d.out x ho.2
  have h3 := wkS_dec hx (Nat.eq_of_beq_eq_true ho.1) ho.2
  unfold encV
  generalize encL d.out x = l at h1 h2
  cases h1 with
  | cons q1 q2 => exact ⟨q1, h2.1 _ (by simp), h3⟩

/-- .. without loops. -/
theorem fnOk0 (hP : ProgOk P) (cs : List (CalF P)) {d : FnF} {m : Fn (lv d.ins) (Option (Ret (lv d.out)))} {fn : Func} (hfn : P.funcs[d.id]? = some fn)
    (h : (fn.body.isSome && ((loopsOf (bodyAt fn)).isEmpty && (scopesOf (bodyAt fn)).isEmpty) && (Nat.beq (boxes d.out) (boxes d.ins) && ptrsB (boxes d.ins) d.out)) = true)
    (heq : ∀ a : ArgL (lv d.ins), mF P (mkSpec cs []) d.id (encL d.ins a) (encB d.ins a) (outK d) = app (lv d.ins) m a) : Ok P d m := by
  intro a r hr
  rw [Bool.and_eq_true, Bool.and_eq_true, Bool.and_eq_true, List.isEmpty_iff, List.isEmpty_iff] at h
  obtain ⟨⟨h1, h2, h3⟩, h4⟩ := h
  rw [Bool.and_eq_true] at h4
  have hl := encB_len d.ins a
  refine mF_ok hP (mkSpec_ok cs []) hfn (bodyAt_ok hP hfn h1).1 (fun a ha => by rw [h2] at ha; simp at ha) (fun a ha => by rw [h3] at ha; simp at ha) ((heq a).trans hr) (fun v s hk => ?_)
  unfold outK at hk
  obtain ⟨x, hx, hk⟩ := Option.bind_eq_some_iff.1 hk
  simp only [Option.some.injEq] at hk
  subst hk
  rw [toA_ofA, hl]
  have h1 := (dec_wk _ _ _ _ hx).1
  have h2 := enc_ren (k := boxes d.ins) d.out x h4.2
  have h3 := wkS_dec hx (Nat.eq_of_beq_eq_true h4.1) h4.2
  unfold encV
  generalize encL d.out x = l at h1 h2
  cases h1 with
  | cons q1 q2 => exact ⟨q1, h2.1 _ (by simp), h3⟩

/-! what is run from a scope's labels on -/

/-- Of each label, with what makes a state of it. -/
def labP {O : Type} : (xs : List XF) → (Out xs → O) → ((e : XF) → (Ret (lv e.out) → O) → Prop) → Prop
  | [], _, _ => True
  | [e], j, p => p e j
  | e :: e' :: r, j, p => p e (fun x => j (.inl x)) ∧ labP (e' :: r) (fun x => j (.inr x)) p

theorem labP_mono {O : Type} {p q : (e : XF) → (Ret (lv e.out) → O) → Prop} (h : ∀ e j, p e j → q e j) : ∀ {xs : List XF} {j : Out xs → O}, labP xs j p → labP xs j q
  | [], _, _ => trivial
  | [e], j, hp => h e j hp
  | e :: e' :: r, j, hp => ⟨h _ _ hp.1, labP_mono h hp.2⟩
theorem labP_both {O : Type} {p q : (e : XF) → (Ret (lv e.out) → O) → Prop} : ∀ {xs : List XF} {j : Out xs → O}, labP xs j p → labP xs j q → labP xs j fun e j => p e j ∧ q e j
  | [], _, _, _ => trivial
  | [e], j, hp, hq => ⟨hp, hq⟩
  | e :: e' :: r, j, hp, hq => ⟨⟨hp.1, hq.1⟩, labP_both hp.2 hq.2⟩

theorem exitK_lab {O : Type} {p : (e : XF) → (Ret (lv e.out) → O) → Prop} {x : Ex} {E : SEnv} {s : Sig} : ∀ {xs : List XF} {j : Out xs → O} {z : Out xs}, labP xs j p → exitK xs x E s = some z →
    ∃ e i, p e i ∧ e.ex = x ∧ ∃ a, dec e.out (e.slots.map E.at) s = some a ∧ j z = i (ofA _ a)
  | [], _, z, _, h => by simp [exitK] at h
  | [e], j, z, hp, h => by
    simp only [exitK] at h
    cases hb : exB e.ex x with
    | false => rw [hb, cond_false] at h; cases h
    | true =>
      rw [hb, cond_true] at h
      obtain ⟨a, ha, h⟩ := Option.bind_eq_some_iff.1 h
      simp only [Option.some.injEq] at h
      subst h
      exact ⟨e, j, hp, exB_eq hb, a, ha, rfl⟩
  | e :: e' :: l, j, z, hp, h => by
    simp only [exitK] at h
    cases hb : exB e.ex x with
    | true =>
      rw [hb, cond_true] at h
      obtain ⟨a, ha, h⟩ := Option.bind_eq_some_iff.1 h
      simp only [Option.some.injEq] at h
      subst h
      exact ⟨e, _, hp.1, exB_eq hb, a, ha, rfl⟩
    | false =>
      rw [hb, cond_false] at h
      obtain ⟨y, hy, h⟩ := Option.bind_eq_some_iff.1 h
      simp only [Option.some.injEq] at h
      subst h
      exact exitK_lab hp.2 hy

def jumpS (e : XF) (xs : List XF) (f : Ret (lv e.out) → Option (Out xs)) (R : Type) (E : SEnv) (sg : Sig) (K : Ex → SEnv → Sig → Option R) : Option R :=
  Option.bind (dec e.out (e.slots.map E.at) sg) fun a => Option.bind (f (ofA _ a)) fun y => elimK xs y K

def jumpK (labs xs : List XF) (k : Out labs → Option (Out xs)) (x : Ex) (E : SEnv) (s : Sig) : Option (Out xs) :=
  bif labs.any (fun e => exB e.ex x) then Option.bind (exitK labs x E s) k else exitK xs x E s

def noGoto (xs : List XF) : Bool := xs.all fun e => match e.ex with | .goto _ => false | _ => true

theorem exitK_goto {l : Nat} {E : SEnv} {s : Sig} : ∀ {xs : List XF} {z : Out xs}, noGoto xs = true → exitK xs (.goto l) E s = some z → False
  | [], z, _, h => by simp [exitK] at h
  | [e], z, hn, h => by
    simp only [exitK] at h
    simp only [noGoto, List.all_cons, List.all_nil, Bool.and_true] at hn
    cases hx : e.ex <;> simp [hx, exB] at h hn
  | e :: e' :: r, z, hn, h => by
    simp only [exitK] at h
    simp only [noGoto, List.all_cons, Bool.and_eq_true] at hn
    have h0 : exB e.ex (.goto l) = false := by cases hx : e.ex <;> simp [hx, exB] at hn ⊢
    rw [h0, cond_false] at h
    obtain ⟨y, hy, _⟩ := Option.bind_eq_some_iff.1 h
    exact exitK_goto (xs := e' :: r) (by simp only [noGoto, List.all_cons, Bool.and_eq_true]; exact hn.2) hy

theorem jumpOk {cs : List (CalF P)} {ls : List LE} {m0 n : Nat} {body : Code} {labs xs : List XF} {f : Nat → Out labs → Option (Out xs)} {G : (Out labs → Option (Out xs)) → Out labs → Option (Out xs)} {k : Nat}
    (hok : CodeOk P body)
    (hf0 : ∀ s, f 0 s = none) (hfs : ∀ m s, f (m + 1) s = G (f m) s)
    (hin : (xsOk m0 labs && xsOk m0 xs && noGoto xs) = true)
    (hall : ∀ l rest, findLabel body l = some rest → labs.any (fun e => exB e.ex (.goto l)) = false → ∀ R E sg K, findL ls R (jumpKey l) E sg K = none)
    (hstep : labP labs (fun x => x) fun e j => ∃ l rest, e.ex = .goto l ∧ findLabel body l = some rest ∧ (∀ R, findL ls R (jumpKey l) = jumpS e xs (fun x => f k (j x)) R) ∧
      (∀ a ∈ loopsOf rest, LoopOk P (mkSpec cs ls) m0 n a) ∧ scopesOf rest = [] ∧
      ∀ (k : Out labs → Option (Out xs)) (a : ArgL (lv e.out)), mX P (mkSpec cs ls) n rest (encE e.slots e.out a) (encB e.out a) (jumpK labs xs k) = G k (j (ofA _ a))) : JumpOk P (mkSpec cs ls) m0 n body := by
  simp only [Bool.and_eq_true] at hin
  have hbox : labP labs (fun x => x) fun e j => xOk m0 e = true := by
    have : ∀ {O : Type} {zs : List XF} {j : Out zs → O}, xsOk m0 zs = true → labP zs j fun e j => xOk m0 e = true := by
      intro O zs
      induction zs with
      | nil => intro _ _; trivial
      | cons e l ih =>
        intro j h
        simp only [xsOk, List.all_cons, Bool.and_eq_true] at h
        cases l with
        | nil => exact h.1
        | cons e' l => exact ⟨h.1, ih h.2⟩
    exact this hin.1.1
  have run : ∀ (R : Type) (K : Ex → SEnv → Sig → Option R) (r : R) (m : Nat), labP labs (fun x => x) fun e j => ∀ l rest, e.ex = .goto l → findLabel body l = some rest → ∀ (a : ArgL (lv e.out)) (y : Out xs), f m (j (ofA _ a)) = some y → elimK xs y K = some r →
      SemC P m0 body rest (SEnv.env n (encE e.slots e.out a)) (encB e.out a) fun x e' s' => ∃ E', e' = SEnv.env n E' ∧ K x E' s' = some r := by
    intro R K r m
    induction m with
    | zero => exact labP_mono (fun e j _ l rest _ _ a y h => by rw [hf0] at h; cases h) hstep
    | succ m ih =>
      refine labP_mono (fun e j hs l rest hl hfl a y h hK => ?_) hstep
      obtain ⟨l', rest', h1, h2, h3, h4, h5, h6⟩ := hs
      rw [h1] at hl
      cases hl
      rw [h2] at hfl
      cases hfl
      rw [hfs] at h
      refine scope_step (mkSpec_ok cs ls) (hok.find h2) h4 (no_scope h5) ((h6 (f m) a).trans h) (fun ex E' s' he => ?_)
      unfold jumpK at he
      cases hb : labs.any (fun e => exB e.ex ex) with
      | true =>
        rw [hb, cond_true] at he
        obtain ⟨z, hz, hz2⟩ := Option.bind_eq_some_iff.1 he
        obtain ⟨e1, i1, ⟨⟨q1, q2⟩, q3⟩, rfl, b, hb1, hb2⟩ := exitK_lab (labP_both (labP_both ih hstep) hbox) hz
        obtain ⟨l1, rest1, p1, p2, _⟩ := q2
        simp only [xOk, Bool.and_eq_true] at q3
        exact .inl ⟨l1, rest1, p1, p2, SemC.pre (k := boxes e1.out) (Nat.le_of_ble_eq_true q3.1) (wkE_dec hb1 q3.2) (wkS_dec hb1 rfl q3.2) (q1 l1 rest1 p1 p2 b y (by rw [← hb2]; exact hz2) hK)⟩
      | false =>
        rw [hb, cond_false] at he
        refine .inr ⟨fun l1 hl1 => ?_, ?_⟩
        · subst hl1
          exact (exitK_goto hin.2 he).elim
        · obtain ⟨k', E2, s2, q1, q2, q3, q4⟩ := exitK_ok (n := n) hin.1.2 he hK
          exact ⟨k', _, s2, q1, q2, q3, E2, rfl, q4⟩
  intro l rest hfl R E sg K r h
  have h : findL ls R (jumpKey l) E sg K = some r := h
  cases hb : labs.any (fun e => exB e.ex (.goto l)) with
  | false => rw [hall l rest hfl hb] at h; cases h
  | true =>
    have key : ∀ {zs : List XF} {j : Out zs → Out labs}, zs.any (fun e => exB e.ex (.goto l)) = true → (labP zs j fun e j => (xOk m0 e = true ∧ ∃ l rest, e.ex = .goto l ∧ findLabel body l = some rest ∧ (∀ R, findL ls R (jumpKey l) = jumpS e xs (fun x => f k (j x)) R)) ∧
        ∀ l rest, e.ex = .goto l → findLabel body l = some rest → ∀ (a : ArgL (lv e.out)) (y : Out xs), f k (j (ofA _ a)) = some y → elimK xs y K = some r → SemC P m0 body rest (SEnv.env n (encE e.slots e.out a)) (encB e.out a) fun x e' s' => ∃ E', e' = SEnv.env n E' ∧ K x E' s' = some r) →
        SemC P m0 body rest (E.env n) sg fun x e' s' => ∃ E', e' = SEnv.env n E' ∧ K x E' s' = some r := by
      have one : ∀ {e : XF} {j : Ret (lv e.out) → Out labs}, exB e.ex (.goto l) = true → ((xOk m0 e = true ∧ ∃ l rest, e.ex = .goto l ∧ findLabel body l = some rest ∧ (∀ R, findL ls R (jumpKey l) = jumpS e xs (fun x => f k (j x)) R)) ∧
        ∀ l rest, e.ex = .goto l → findLabel body l = some rest → ∀ (a : ArgL (lv e.out)) (y : Out xs), f k (j (ofA _ a)) = some y → elimK xs y K = some r → SemC P m0 body rest (SEnv.env n (encE e.slots e.out a)) (encB e.out a) fun x e' s' => ∃ E', e' = SEnv.env n E' ∧ K x E' s' = some r) →
        SemC P m0 body rest (E.env n) sg fun x e' s' => ∃ E', e' = SEnv.env n E' ∧ K x E' s' = some r := by
        intro e j he ⟨⟨hx, l1, rest1, p1, p2, p3⟩, hrun⟩
        have hel := exB_eq he
        rw [hel] at p1
        cases p1
        rw [hfl] at p2
        cases p2
        rw [p3] at h
        unfold jumpS at h
        obtain ⟨a, ha, h⟩ := Option.bind_eq_some_iff.1 h
        obtain ⟨y, hy, h⟩ := Option.bind_eq_some_iff.1 h
        simp only [xOk, Bool.and_eq_true] at hx
        exact SemC.pre (k := boxes e.out) (Nat.le_of_ble_eq_true hx.1) (wkE_dec ha hx.2) (wkS_dec ha rfl hx.2) (hrun l rest hel hfl a y hy h)
      intro zs
      induction zs with
      | nil => intro j hz; simp at hz
      | cons e t ih =>
        intro j hz hp
        cases t with
        | nil =>
          simp only [List.any_cons, List.any_nil, Bool.or_false] at hz
          exact one hz hp
        | cons e' t =>
          simp only [List.any_cons, Bool.or_eq_true] at hz
          rcases hz with hz | hz
          · exact one hz hp.1
          · exact ih (by simpa only [List.any_cons, Bool.or_eq_true] using hz) hp.2
    refine key hb (labP_mono (fun e j hh => ?_) (labP_both (labP_both hbox hstep) (run R K r k)))
    obtain ⟨⟨a1, l1, rest1, a2, a3, a4, _⟩, a5⟩ := hh
    exact ⟨⟨a1, l1, rest1, a2, a3, a4⟩, a5⟩

def scopeAt (f : Func) (i : Nat) : Code := (scopesOf (bodyAt f)).getD i .skip
theorem scopeAt_ok (hP : ProgOk P) {id : FuncId} {fn : Func} (hfn : P.funcs[id]? = some fn) {i : Nat} (hb : (fn.body.isSome && Nat.blt i (scopesOf (bodyAt fn)).length) = true) : CodeOk P (scopeAt fn i) := by
  rw [Bool.and_eq_true] at hb
  exact codeOk_scopes (bodyAt_ok hP hfn hb.1).2 _ (getD_mem hb.2)
/-- Labels that nothing leads to. -/
theorem hall_of {ls : List LE} {body : Code} {labs : List XF} {l0 : List Nat} (hl : labelsOf body = l0) (h : (l0.all fun l => labs.any (fun e => exB e.ex (.goto l)) || !(ls.any fun e => Nat.beq e.key (jumpKey l))) = true) :
    ∀ l rest, findLabel body l = some rest → labs.any (fun e => exB e.ex (.goto l)) = false → ∀ R E sg K, findL ls R (jumpKey l) E sg K = none := by
  intro l rest hf hn R E sg K
  have hm := find_mem hf
  rw [hl] at hm
  have := List.all_eq_true.1 h l hm
  rw [hn, Bool.false_or] at this
  clear h hf
  induction ls with
  | nil => rfl
  | cons e r ih =>
    simp only [List.any_cons, Bool.not_or, Bool.and_eq_true, Bool.not_eq_true'] at this
    simp only [findL, this.1, cond_false]
    exact ih (by simpa using this.2)

/-- A function of a slice that asks whether it is nil. -/
theorem cloneOk (hP : ProgOk P) {d : FnF} {sz : Nat} {m : List T → Option (List T)} {fn : Func} {n : Nat} (hfn : P.funcs[d.id]? = some fn) (hb : fn.body.isSome = true)
    (h1 : evFunc P 9 d.id [.nil] [] = some (.nil, [])) (h2 : evFunc P 9 d.id [.t .vac] [] = some (.own sz [], [])) (h0 : m [] = some [])
    (hl : ((loopsOf (bodyAt fn)).isEmpty && (scopesOf (bodyAt fn)).isEmpty) = true)
    (heq : ∀ (y : T) (ys : List T), mF P (mkSpec (P := P) [] []) d.id [.t (.list (y :: ys))] [] (fun v _ => Option.bind (v.ownOf sz) fun u => some u) = m (y :: ys)) (a r : List T) (h : m a = some r) : FuncOk P d.id [.t (.list a)] [] (.own sz r) [] := by
  rw [Bool.and_eq_true, List.isEmpty_iff, List.isEmpty_iff] at hl
  refine nil_split (m := m) hP hfn (bodyAt_ok hP hfn hb).1 (func_sound hP 9 _ _ _ _ _ h1).1 (func_sound hP 9 _ _ _ _ _ h2).1 (fun r h => by rw [h0] at h; exact (Option.some.inj h).symm) (fun y ys r h => ?_) a r h
  refine mF_sound hP (mkSpec_ok [] []) hfn (bodyAt_ok hP hfn hb).1 (fun a ha => by rw [hl.1] at ha; simp at ha) (fun a ha => by rw [hl.2] at ha; simp at ha) ((heq y ys).trans h) (fun v s hk => ?_)
  obtain ⟨u0, hu0, hk⟩ := Option.bind_eq_some_iff.1 hk
  simp only [Option.some.injEq] at hk
  subst hk
  exact ⟨ownOf_wk hu0, rfl, WkS.none _⟩
/-- What stands behind a label. -/
def restAt (c : Code) (l : Nat) : Code := (findLabel c l).getD .skip
end
end Go.Eng
