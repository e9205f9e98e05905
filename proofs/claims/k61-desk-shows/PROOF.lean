import PyProof.Rows.All
import Wide.All
import OpenK.AllK
import Wide.FinOn
import HandS.ForMost
import HandS.IsInst
import HandS.WideBits
import HandS.Wide
import HandS.EndBits
import HandS.Evl
import HandS.More
import HandS.DictComp
import HandS.RevRange
import HandS.DeepEq
import HandS.ListEq
import HandS.Deep
import HandS.ForExc
import HandS.ExcIs
import HandS.RaiseMore
import KE.GoesEnum
import HandS.Defaults
import HandS.MakeKw
import PySem.Challenge.RW_dotpress_k61_desk_shows
set_option Elab.async false
set_option linter.all false
set_option maxRecDepth 100000
set_option maxHeartbeats 4000000
local macro_rules | `(tactic| omega) => `(tactic| lia)
namespace Dpr
open PySem PySem.Spec PyProof.Rows L2
/-! ### steps of a reading, one a construct -/
section
variable {K : PySem.W.Frag} {D : Ends} {σ : L2.St} {H : Hp} {Q : VK} {QB : Bool → Hp → Prop} {QA : List V → Hp → Prop} {ta tb tc te : TE} {t u : TS} {c : TT} {g : TG} {r r' : R2} {v x y : V}
theorem bnd1 {P : List Value → Prop} (h : ∀ a, P [a]) : ∀ us : List Value, us.length = 1 → P us
  | [a], _ => h a
theorem bnd2 {P : List Value → Prop} (h : ∀ a b, P [a, b]) : ∀ us : List Value, us.length = 2 → P us
  | [a, b], _ => h a b
theorem bnd3 {P : List Value → Prop} (h : ∀ a b c, P [a, b, c]) : ∀ us : List Value, us.length = 3 → P us
  | [a, b, c], _ => h a b c
theorem bnd4 {P : List Value → Prop} (h : ∀ a b c d, P [a, b, c, d]) : ∀ us : List Value, us.length = 4 → P us
  | [a, b, c, d], _ => h a b c d
theorem bnd5 {P : List Value → Prop} (h : ∀ a b c d e, P [a, b, c, d, e]) : ∀ us : List Value, us.length = 5 → P us
  | [a, b, c, d, e], _ => h a b c d e
theorem w_seq (h : t { D with nx := u D } σ H) : tSeq t u D σ H := h
theorem w_cut (M : L2.St → Hp → Prop) (h : t { D with nx := M } σ H) (k : ∀ σ' H', M σ' H' → u D σ' H') : Evl.tCut t u D σ H := ⟨M, h, k⟩
theorem w_asg {i : Nat} (h : te σ H fun v H1 => D.nx (σ.set i (some v)) H1) : tAsg te (gName i) D σ H := h
theorem w_asgG (h : te σ H fun v H1 => g v σ H1 D.nx) : tAsg te g D σ H := h
theorem w_drop (h : te σ H fun _ H1 => D.nx σ H1) : tDrop te D σ H := h
theorem w_ret (h : te σ H D.rt) : tRet te D σ H := h
theorem w_retN (h : D.rt .non H) : tRetN D σ H := h
theorem w_next (h : D.nx σ H) : tNext D σ H := h
theorem w_cont (h : D.ct σ H) : tCont D σ H := h
theorem w_brk (h : D.bk σ H) : tBreak D σ H := h
theorem w_if (h : c σ H fun b H1 => if b = true then t D σ H1 else u D σ H1) : tIfS c t u D σ H := h
theorem w_aug {i : Nat} {ti : TIp} (hx : σ[i]? = some (some x)) (h : te σ H fun y H1 => ti x y H1 fun z H2 => D.nx (σ.set i (some z)) H2) : tAug i te ti D σ H := ⟨x, hx, h⟩
theorem w_ipI {f : Int → Int → Int} {i j : Int} (h : Q (.int (f i j)) H) : ipI f (.int i) (.int j) H Q := ⟨i, j, rfl, rfl, h⟩
theorem w_var {i : Nat} (hx : σ[i]? = some (some v)) (h : Q v H) : tVar i σ H Q := ⟨v, hx, h⟩
theorem w_c (h : Q v H) : tC v σ H Q := h
theorem w_op (h : ta σ H fun x H1 => tb σ H1 fun y H2 => r x y H2 Q) : tOp r ta tb σ H Q := h
theorem w_un {f : V → Hp → VK → Prop} (h : ta σ H fun x H1 => f x H1 Q) : tUn f ta σ H Q := h
theorem w_chain (h : ta σ H fun x H1 => tb σ H1 fun y H2 => r x y H2 fun z H3 => ∃ k, z = .bl k ∧ (if k = true then tc σ H3 fun w' H4 => r' y w' H4 Q else Q (.bl false) H3)) : tChain r r' ta tb tc σ H Q := h
theorem w_test (h : te σ H fun x H1 => ∃ k, x = .bl k ∧ QB k H1) : tTest te σ H QB := h
theorem w_tB (h : te σ H fun x H1 => ∃ k, x = .bl k ∧ QB k H1) : tB te σ H QB := h
theorem w_bl {b : Bool} {P : Bool → Prop} (h : P b) : ∃ k, V.bl b = .bl k ∧ P k := ⟨b, rfl, h⟩
theorem w_and {t u : TT} (h : t σ H fun c H1 => if c = true then u σ H1 QB else QB false H1) : tAnd t u σ H QB := h
theorem w_or {t u : TT} (h : t σ H fun c H1 => if c = true then QB true H1 else u σ H1 QB) : tOr t u σ H QB := h
theorem w_not {t : TT} (h : t σ H fun c H1 => QB (!c) H1) : tNot t σ H QB := h
theorem w_andV (h : ta σ H fun x H1 => ∃ c, x = .bl c ∧ if c = true then tb σ H1 Q else Q (.bl false) H1) : tAndV ta tb σ H Q := h
theorem w_orV (h : ta σ H fun x H1 => ∃ c, x = .bl c ∧ if c = true then Q (.bl true) H1 else tb σ H1 Q) : tOrV ta tb σ H Q := h
theorem w_notV (h : ta σ H fun x H1 => ∃ c, x = .bl c ∧ Q (.bl (!c)) H1) : tNotV ta σ H Q := h
theorem w_ifx {t : TT} (h : t σ H fun c H1 => if c = true then ta σ H1 Q else tb σ H1 Q) : tIf t ta tb σ H Q := h
theorem w_nil (h : QA [] H) : tNil σ H QA := h
theorem w_cons {tr : TA} (h : ta σ H fun x H1 => tr σ H1 fun xs H2 => QA (x :: xs) H2) : tCons ta tr σ H QA := h
/-- a new tuple, a new list: the heap is a letter -/
def AlT (xs : List V) (H : Hp) (Q : VK) : Prop := xs.length ≤ sizeLine ∧ ∀ p, H p = none → Q (.ref p) (upd H p (.tup xs))
def AlL (xs : List V) (H : Hp) (Q : VK) : Prop := xs.length ≤ sizeLine ∧ ∀ p, H p = none → Q (.ref p) (upd H p (.lst xs))
theorem same_upd {H : Hp} {p : Addr} {o : HO} (h : H p = none) : Same H (upd H p o) := fun b x e => by
  rw [upd_ne (ne_of_none e h)]
  exact e
theorem w_tup {s : TA} (h : s σ H fun xs H1 => AlT xs H1 Q) : tTup s σ H Q := h
theorem w_lst {s : TA} (h : s σ H fun xs H1 => AlL xs H1 Q) : tLst s σ H Q := h
theorem sz_le {n : Nat} (h : Nat.ble n 1000 = true) : n ≤ sizeLine := Nat.le_trans (Nat.le_of_ble_eq_true h) (by rw [sizeLine_eq]; decide)
theorem w_alT {xs : List V} (hl : xs.length ≤ sizeLine) (h : ∀ p H', H p = none → Same H H' → H' p = some (.tup xs) → Q (.ref p) H') : AlT xs H Q := ⟨hl, fun p hp => h p _ hp (same_upd hp) upd_same⟩
theorem w_alL {xs : List V} (hl : xs.length ≤ sizeLine) (h : ∀ p H', H p = none → Same H H' → H' p = some (.lst xs) → Q (.ref p) H') : AlL xs H Q := ⟨hl, fun p hp => h p _ hp (same_upd hp) upd_same⟩
theorem w_call {sp : Sp} {dvs : List V} {E : XK} {s : TA} (h : s σ H fun vs H1 => sp (vs ++ dvs) H1 Q E) : tCall sp dvs E s σ H Q := h
theorem w_cb {f : List V → Hp → VK → Prop} {s : TA} (h : s σ H fun vs H1 => f vs H1 Q) : tCB f s σ H Q := h
theorem w_I0 {f : Int → Int → V} {i j : Int} (h : Q (f i j) H) : rI0 f (.int i) (.int j) H Q := ⟨i, j, rfl, rfl, h⟩
theorem w_I {C : Int → Int → Prop} {f : Int → Int → V} {i j : Int} (hc : C i j) (h : Q (f i j) H) : rI C f (.int i) (.int j) H Q := ⟨i, j, rfl, rfl, hc, h⟩
theorem w_U {f : Int → V} {i : Int} (h : Q (f i) H) : rU f (.int i) H Q := ⟨i, rfl, h⟩
theorem w_eq (hs : scal x y = true) (h : Q (.bl (decide (x = y))) H) : rEq x y H Q := ⟨hs, h⟩
theorem w_ne (hs : scal x y = true) (h : Q (.bl (!decide (x = y))) H) : rNe x y H Q := ⟨hs, h⟩
theorem w_bits {i : Int} (h : Q (.int (Builtin.Int.intBits i : Nat)) H) : (∃ j, V.int i = .int j ∧ Q (.int (Builtin.Int.intBits j : Nat)) H) := ⟨i, rfl, h⟩
theorem w_tbits (h : te σ H fun x H1 => ∃ i, x = .int i ∧ Q (.int (Builtin.Int.intBits i : Nat)) H1) : tBits te σ H Q := h
theorem w_ixL {p : Addr} {xs : List V} {i : Int} (hl : SqL K H p xs) (ha : atI xs i = some v) (h : Q v H) : rIxL K (.ref p) (.int i) H Q := ⟨p, xs, i, v, rfl, rfl, hl, ha, h⟩
theorem w_ixT {p : Addr} {xs : List V} {i : Int} (hl : SqT K H p xs) (ha : atI xs i = some v) (h : Q v H) : rIxT K (.ref p) (.int i) H Q := ⟨p, xs, i, v, rfl, rfl, hl, ha, h⟩
/-! tests -/
theorem w_itT {A B : Prop} (h : A) : if true = true then A else B := by rw [if_pos rfl]; exact h
theorem w_itF {A B : Prop} (h : B) : if false = true then A else B := by rw [if_neg Bool.false_ne_true]; exact h
theorem w_itC {b : Bool} {A B : Prop} (e : b = true) (h : A) : if b = true then A else B := by rw [if_pos e]; exact h
theorem w_itD {b : Bool} {A B : Prop} (e : b = false) (h : B) : if b = true then A else B := by rw [e, if_neg Bool.false_ne_true]; exact h
theorem w_itI {i j : Int} {A B : Prop} (h1 : i = j → A) (h2 : i ≠ j → B) : if decide (V.int i = V.int j) = true then A else B := by
  by_cases e : i = j
  · rw [if_pos (by rw [e]; exact decide_eq_true rfl)]; exact h1 e
  · rw [if_neg (fun z => e (V.int.inj (of_decide_eq_true z)))]; exact h2 e
theorem w_itN {i j : Int} {A B : Prop} (h1 : i ≠ j → A) (h2 : i = j → B) : if (!decide (V.int i = V.int j)) = true then A else B := by
  by_cases e : i = j
  · rw [e, decide_eq_true rfl]; exact w_itF (h2 e)
  · rw [decide_eq_false (fun z => e (V.int.inj z))]; exact w_itT (h1 e)
theorem w_itd {p A B : Prop} [Decidable p] (h1 : p → A) (h2 : ¬ p → B) : if decide p = true then A else B := by
  by_cases e : p
  · rw [if_pos (decide_eq_true e)]; exact h1 e
  · rw [if_neg (fun z => e (of_decide_eq_true z))]; exact h2 e
theorem w_itn {p A B : Prop} [Decidable p] (h1 : ¬ p → A) (h2 : p → B) : if (!decide p) = true then A else B := by
  by_cases e : p
  · rw [decide_eq_true e]; exact w_itF (h2 e)
  · rw [decide_eq_false e]; exact w_itT (h1 e)
theorem w_itb {b : Bool} {A B : Prop} (h1 : b = true → A) (h2 : b = false → B) : if b = true then A else B := by
  cases b with
  | true => exact w_itT (h1 rfl)
  | false => exact w_itF (h2 rfl)
end
/-! calls of built-ins, by names of our own -/
def rLen (K : PySem.W.Frag) : List V → Hp → VK → Prop := fun xs H Q => ∃ p ys, xs = [.ref p] ∧ (SqL K H p ys ∨ SqT K H p ys) ∧ Q (.int ys.length) H
theorem c_len {X : Cx} : CallR X (.builtin "len") (rLen X.K) := call_len_seq
theorem w_lenL {K : PySem.W.Frag} {H : Hp} {Q : VK} {p : Addr} {xs : List V} (h : SqL K H p xs) (q : Q (.int (xs.length : Int)) H) : rLen K [.ref p] H Q := ⟨p, xs, rfl, .inl h, q⟩
theorem w_lenT {K : PySem.W.Frag} {H : Hp} {Q : VK} {p : Addr} {xs : List V} (h : SqT K H p xs) (q : Q (.int (xs.length : Int)) H) : rLen K [.ref p] H Q := ⟨p, xs, rfl, .inr h, q⟩
def rAbs : List V → Hp → VK → Prop := fun xs H Q => ∃ i, xs = [.int i] ∧ Q (.int (if i < 0 then -i else i)) H
theorem w_abs {H : Hp} {Q : VK} {i : Int} (q : Q (.int (if i < 0 then -i else i)) H) : rAbs [.int i] H Q := ⟨i, rfl, q⟩
def rMax2 : List V → Hp → VK → Prop := fun xs H Q => ∃ i j, xs = [.int i, .int j] ∧ Q (.int (if j > i then j else i)) H
def rMin2 : List V → Hp → VK → Prop := fun xs H Q => ∃ i j, xs = [.int i, .int j] ∧ Q (.int (if j < i then j else i)) H
theorem w_max2 {H : Hp} {Q : VK} {i j : Int} (q : Q (.int (if j > i then j else i)) H) : rMax2 [.int i, .int j] H Q := ⟨i, j, rfl, q⟩
theorem w_min2 {H : Hp} {Q : VK} {i j : Int} (q : Q (.int (if j < i then j else i)) H) : rMin2 [.int i, .int j] H Q := ⟨i, j, rfl, q⟩
def rListOf (K : PySem.W.Frag) : List V → Hp → VK → Prop := fun xs H Q => ∃ p ys, xs = [.ref p] ∧ (SqL K H p ys ∨ SqT K H p ys) ∧ ∀ l, H l = none → Q (.ref l) (upd H l (.lst ys))
theorem w_listL {K : PySem.W.Frag} {H : Hp} {Q : VK} {p : Addr} {xs : List V} (h : SqL K H p xs) (q : ∀ l H', H l = none → Same H H' → H' l = some (.lst xs) → Q (.ref l) H') : rListOf K [.ref p] H Q := ⟨p, xs, rfl, .inl h, fun l hl => q l _ hl (same_upd hl) upd_same⟩
theorem w_listT {K : PySem.W.Frag} {H : Hp} {Q : VK} {p : Addr} {xs : List V} (h : SqT K H p xs) (q : ∀ l H', H l = none → Same H H' → H' l = some (.lst xs) → Q (.ref l) H') : rListOf K [.ref p] H Q := ⟨p, xs, rfl, .inr h, fun l hl => q l _ hl (same_upd hl) upd_same⟩
/-- a product of two ints of any size that the model allows -/
theorem op_mulI {X : Cx} : OpR X (binaryOp .Mult) (rI IntMulOk fun i j => .int (i * j)) := opI fun _ _ _ _ _ _ _ hc q => mul_int q hc
/-- isinstance, the answer told -/
theorem w_isi {K : PySem.W.Frag} {H : Hp} {Q : VK} {x : V} {t : Value} {n : String} {b : Bool} (ty : TyX K H x t) (e : PySem.W.kitOne K t (.type n) = some b) (q : Q (.bl b) H) : rIsi K [x, .ty n] H Q := ⟨x, .ty n, t, _, b, rfl, .ty n, ty, e, q⟩
theorem kit_ii (K : PySem.W.Frag) : PySem.W.kitOne K (.type "int") (.type "int") = some true := kit_ty (by decide +kernel)
theorem kit_ib (K : PySem.W.Frag) : PySem.W.kitOne K (.type "int") (.type "bool") = some false := kit_ty (by decide +kernel)
theorem kit_bi (K : PySem.W.Frag) : PySem.W.kitOne K (.type "bool") (.type "int") = some true := kit_ty (by decide +kernel)
theorem kit_bb (K : PySem.W.Frag) : PySem.W.kitOne K (.type "bool") (.type "bool") = some true := kit_ty (by decide +kernel)
theorem kit_ll (K : PySem.W.Frag) : PySem.W.kitOne K (.type "list") (.type "list") = some true := kit_ty (by decide +kernel)
theorem kit_tt (K : PySem.W.Frag) : PySem.W.kitOne K (.type "tuple") (.type "tuple") = some true := kit_ty (by decide +kernel)
theorem kit_ss (K : PySem.W.Frag) : PySem.W.kitOne K (.type "str") (.type "str") = some true := kit_ty (by decide +kernel)
theorem w_isiT {K : PySem.W.Frag} {H : Hp} {Q : VK} {p : Addr} {xs : List V} (e : H p = some (.tup xs)) (q : Q (.bl true) H) : rIsi K [.ref p, .ty "tuple"] H Q := w_isi (TyX.base (TyOf.tup e)) (kit_tt K) q
theorem w_isiL {K : PySem.W.Frag} {H : Hp} {Q : VK} {p : Addr} {xs : List V} (e : H p = some (.lst xs)) (q : Q (.bl true) H) : rIsi K [.ref p, .ty "list"] H Q := w_isi (TyX.base (TyOf.lst e)) (kit_ll K) q
/-! slices and sums of lists -/
section
variable {K : PySem.W.Frag} {σ : L2.St} {H : Hp} {Q : VK} {te : TE} {tl th : TO} {QO : Option Int → Hp → Prop}
theorem w_tsl {f : V → Option Int → Option Int → Hp → VK → Prop} (h : te σ H fun x H1 => tl σ H1 fun l H2 => th σ H2 fun u H3 => f x l u H3 Q) : tSl f te tl th σ H Q := h
theorem w_tnp (h : QO none H) : tNoPart σ H QO := h
theorem w_tpt (h : te σ H fun x H1 => ∃ i, x = .int i ∧ QO (some i) H1) : tPart te σ H QO := h
theorem w_pt {i : Int} {P : Int → Prop} (h : P i) : ∃ j, V.int i = .int j ∧ P j := ⟨i, rfl, h⟩
theorem w_sl {p : Addr} {xs : List V} {lo hi : Option Int} (h : SqL K H p xs) (q : ∀ l H', H l = none → Same H H' → H' l = some (.lst (cutV xs lo hi)) → Q (.ref l) H') : rSlL K (.ref p) lo hi H Q :=
  ⟨p, xs, rfl, h, fun l hl => q l _ hl (same_upd hl) upd_same⟩
theorem w_cat {p b : Addr} {xs ys : List V} (h1 : H p = some (.lst xs)) (h2 : H b = some (.lst ys)) (hz : xs.length + ys.length ≤ 16000000) (q : ∀ l H', H l = none → Same H H' → H' l = some (.lst (xs ++ ys)) → Q (.ref l) H') : rCat (.ref p) (.ref b) H Q :=
  ⟨p, b, xs, ys, rfl, rfl, h1, h2, Nat.le_trans hz (by rw [sizeLine_eq]; decide), fun l hl => q l _ hl (same_upd hl) upd_same⟩
end
/-! heaps that grow -/
theorem same_at {H H' : Hp} {b : Addr} {o : HO} (s : Same H H') (h : H b = some o) : H' b = some o := s b o h
theorem same_tup {K : PySem.W.Frag} {H H' : Hp} {a : Addr} {xs : List V} (e : Same H H') (h : SqT K H a xs) : SqT K H' a xs := by
  rcases h with (h | ⟨o, h⟩) | h
  · exact .inl (.inl (e _ _ h))
  · exact .inl (.inr ⟨o, e _ _ h⟩)
  · exact .inr h
theorem p2pos (k : Nat) : (0 : Int) < 2 ^ k := Int.pow_pos (by decide)
/-! loops -/
section
variable {K : PySem.W.Frag} {D : Ends} {σ : L2.St} {H : Hp} {Q : VK} {ta te tl : TE} {t : TS} {g : TG} {s : TA} {wi : TI} {tt : TT} {vs : List Nat}
def ForB (J : It) (g : TG) (t : TS) (D : Ends) (σ : L2.St) (H : Hp) : Prop := ∃ W : Nat → Nat → L2.St → Hp → Prop, (∃ m, W 0 m σ H) ∧ ∀ i m σ H, W i m σ H →
  (J.stop i H ∧ D.nx σ H) ∨ (J.go i H ∧ ∃ N : L2.St → Hp → Prop, (∀ σ' H', N σ' H' → ∃ m', m' < m ∧ W (i + 1) m' σ' H') ∧ ∀ x H', J.yld i H x H' → g x σ H' fun σ2 H2 => t { D with nx := N, ct := N, bk := D.nx } σ2 H2)
theorem w_for (h : wi σ H fun J H1 => ForB J g t D σ H1) : tFor wi g t D σ H := h
def LcB (J : It) (g : TG) (tt : TT) (te : TE) (vs : List Nat) (σ : L2.St) (Q : VK) (H1 : Hp) : Prop := ∀ D, H1 D = none → ∃ W : Nat → Nat → Hp → Prop, (∃ m, W 0 m (upd H1 D (.lst []))) ∧ ∀ i m H, W i m H →
  (J.stop i H ∧ Q (.ref D) H) ∨ (J.go i H ∧ ∃ Nx : Hp → Prop, (∀ H', Nx H' → ∃ m', m' < m ∧ W (i + 1) m' H') ∧ ∀ x H', J.yld i H x H' → g x (wipe σ vs) H' fun σ2 H2 => wipe σ2 vs = wipe σ vs ∧ tt σ2 H2 fun b H3 =>
    if b = true then te σ2 H3 fun y H4 => ∃ acc, H4 D = some (.lst acc) ∧ acc.length < sizeLine ∧ Nx (upd H4 D (.lst (acc ++ [y]))) else Nx H3)
theorem w_lc (h : wi σ H fun J H1 => LcB J g tt te vs σ Q H1) : tLc wi g tt te vs σ H Q := h
def IL1 (K : PySem.W.Frag) (R : It → Hp → Prop) (x : V) (H1 : Hp) : Prop := ∃ a, x = .ref a ∧ (∃ xs, SqL K H1 a xs) ∧ R (Itl K a) H1
def IT1 (K : PySem.W.Frag) (R : It → Hp → Prop) (x : V) (H1 : Hp) : Prop := ∃ a, x = .ref a ∧ (∃ xs, SqT K H1 a xs) ∧ R (Itt K a) H1
def IR1 (R : It → Hp → Prop) (vs : List V) (H1 : Hp) : Prop := ∃ j : Int, vs = [.int j] ∧ -(2 ^ 62) ≤ j ∧ j < 2 ^ 62 ∧ R (Itr 0 j.toNat) H1
def IR2 (R : It → Hp → Prop) (vs : List V) (H1 : Hp) : Prop := ∃ i j : Int, vs = [.int i, .int j] ∧ (-(2 ^ 62) ≤ i ∧ i < 2 ^ 62 ∧ -(2 ^ 62) ≤ j ∧ j < 2 ^ 62) ∧ R (Itr i (j - i).toNat) H1
variable {R : It → Hp → Prop}
theorem w_iL (h : tl σ H fun x H1 => IL1 K R x H1) : iList K tl σ H R := h
theorem w_iT (h : tl σ H fun x H1 => IT1 K R x H1) : iTup K tl σ H R := h
theorem w_iR1 (h : s σ H fun x H1 => IR1 R x H1) : iRng1 s σ H R := h
theorem w_iR2 (h : s σ H fun x H1 => IR2 R x H1) : iRng2 s σ H R := h
theorem w_IL1 {a : Addr} {xs : List V} (h : SqL K H a xs) (q : R (Itl K a) H) : IL1 K R (.ref a) H := ⟨a, rfl, ⟨xs, h⟩, q⟩
theorem w_IT1 {a : Addr} {xs : List V} (h : SqT K H a xs) (q : R (Itt K a) H) : IT1 K R (.ref a) H := ⟨a, rfl, ⟨xs, h⟩, q⟩
theorem w_IR1 {j : Int} (h : -1000000 ≤ j ∧ j ≤ 1000000) (q : R (Itr 0 j.toNat) H) : IR1 R [.int j] H := ⟨j, rfl, by omega, by omega, q⟩
theorem w_IR2 {i j : Int} (h : -1000000 ≤ i ∧ i ≤ 1000000 ∧ -1000000 ≤ j ∧ j ≤ 1000000) (q : R (Itr i (j - i).toNat) H) : IR2 R [.int i, .int j] H := ⟨i, j, rfl, by omega, q⟩
/-- for x in a list that stands: Pv by the turn, the slots, the heap -/
theorem for_l {a : Addr} {j : Nat} (xs : List V) (Pv : Nat → L2.St → Hp → Prop) (h0 : Pv 0 σ H) (hl : ∀ i σ H, i ≤ xs.length → Pv i σ H → SqL K H a xs)
    (hs : ∀ i x σ' H', xs[i]? = some x → Pv i σ' H' → t { D with nx := Pv (i + 1), ct := Pv (i + 1), bk := D.nx } (σ'.set j (some x)) H') (hd : ∀ σ' H', Pv xs.length σ' H' → D.nx σ' H') : ForB (Itl K a) (gName j) t D σ H :=
  for_list Pv h0 hl hs hd
theorem for_t {a : Addr} {j : Nat} (xs : List V) (Pv : Nat → L2.St → Hp → Prop) (h0 : Pv 0 σ H) (hl : ∀ i σ H, i ≤ xs.length → Pv i σ H → SqT K H a xs)
    (hs : ∀ i x σ' H', xs[i]? = some x → Pv i σ' H' → t { D with nx := Pv (i + 1), ct := Pv (i + 1), bk := D.nx } (σ'.set j (some x)) H') (hd : ∀ σ' H', Pv xs.length σ' H' → D.nx σ' H') : ForB (Itt K a) (gName j) t D σ H :=
  for_tup Pv h0 hl hs hd
theorem for_r {n j : Nat} (Pv : Nat → L2.St → Hp → Prop) (h0 : Pv 0 σ H)
    (hs : ∀ (i : Nat) σ' H', i < n → Pv i σ' H' → t { D with nx := Pv (i + 1), ct := Pv (i + 1), bk := D.nx } (σ'.set j (some (.int (i : Int)))) H') (hd : ∀ σ' H', Pv n σ' H' → D.nx σ' H') : ForB (Itr 0 n) (gName j) t D σ H :=
  for_range Pv h0 (fun i σ' H' hi p => by
    show t _ (σ'.set j (some (.int (0 + (i : Int))))) H'
    rw [Int.zero_add]
    exact hs i σ' H' hi p) hd
end
/-! lists of ints -/
theorem get_map {α : Type} {xs : List α} {f : α → V} {i : Nat} {x : V} (h : (xs.map f)[i]? = some x) : ∃ y, xs[i]? = some y ∧ x = f y := by
  rw [List.getElem?_map] at h
  cases e : xs[i]? with
  | none => rw [e] at h; cases h
  | some y => rw [e] at h; exact ⟨y, rfl, (Option.some.inj h).symm⟩
theorem cut_from (xs : List V) (n : Nat) (h : n ≤ xs.length) : cutV xs (some (n : Int)) none = xs.drop n := by
  unfold cutV
  rw [HT.sIx_none, HT.sIx_nat, Nat.min_eq_left h]
  exact List.take_of_length_le (by rw [List.length_drop]; exact Nat.le_refl _)
/-- the cells of a law: at most 63 of the script, and nought behind -/
def cells (ns : List Int) : List Int := ns.take 63 ++ [0]
/-! == of data -/
theorem w_eqSame {K : PySem.W.Frag} {H : Hp} {Q : VK} {x y : V} (d : PyData) (hx : Dp K H x d) (hy : Dp K H y d) (sd : SeqAt.shaped d = true) (q : Q (.bl true) H) : rEqD K x y H Q :=
  ⟨d, d, hx, hy, sd, sd, by rw [SeqAt.eqv_refl d (SeqAt.canLay_of_shaped sd)]; exact q⟩
/-! lists that change -/
section
variable {K : PySem.W.Frag} {D : Ends} {σ : L2.St} {H H1 : Hp} {Q : VK} {to : TE} {t : TA} {b : TS}
/-- what H does not know may change behind it -/
theorem same_mut {o : Addr} {u : HO} (s : Same H H1) (n : H o = none) : Same H (upd H1 o u) := fun c x e => by
  rw [upd_ne (ne_of_none e n)]
  exact s c x e
def BM1 (K : PySem.W.Frag) (T : String) (f : V → List V → Hp → VK → Prop) (t : TA) (σ : L2.St) (Q : VK) (x : V) (H1 : Hp) : Prop := tyV K T x H1 ∧ t σ H1 fun xs H2 => f x xs H2 Q
def BM0 (K : PySem.W.Frag) (T : String) (f : V → List V → Hp → VK → Prop) (Q : VK) (x : V) (H1 : Hp) : Prop := tyV K T x H1 ∧ f x [] H1 Q
theorem w_bm {T : String} {f : V → List V → Hp → VK → Prop} (h : to σ H fun x H1 => BM1 K T f t σ Q x H1) : tBM K T f to t σ H Q := h
theorem w_bm0 {T : String} {f : V → List V → Hp → VK → Prop} (h : to σ H fun x H1 => BM0 K T f Q x H1) : tBM0 K T f to σ H Q := h
theorem w_BML {f : V → List V → Hp → VK → Prop} {p : Addr} {xs : List V} (e : H p = some (.lst xs)) (q : t σ H fun vs H2 => f (.ref p) vs H2 Q) : BM1 K "list" f t σ Q (.ref p) H := ⟨.inl ⟨rfl, xs, SqL.of e⟩, q⟩
theorem w_BM0L {f : V → List V → Hp → VK → Prop} {p : Addr} {xs : List V} (e : H p = some (.lst xs)) (q : f (.ref p) [] H Q) : BM0 K "list" f Q (.ref p) H := ⟨.inl ⟨rfl, xs, SqL.of e⟩, q⟩
theorem w_append {p : Addr} {xs : List V} {y : V} (e : H p = some (.lst xs)) (hz : xs.length ≤ 16000000) (q : Q .non (upd H p (.lst (xs ++ [y])))) : rAppend (.ref p) [y] H Q :=
  ⟨p, xs, y, rfl, rfl, e, Nat.lt_of_le_of_lt hz (by rw [sizeLine_eq]; decide), q⟩
/-- for k, x in enumerate(a list that stands) -/
def IE1 (K : PySem.W.Frag) (R : It → Hp → Prop) (vs : List V) (H1 : Hp) : Prop := ∃ a xs, vs = [.ref a] ∧ SqL K H1 a xs ∧ R (Ite K a) H1
theorem w_iE {s : TA} {R : It → Hp → Prop} (h : s σ H fun x H1 => IE1 K R x H1) : iEnum K s σ H R := h
theorem w_IE1 {a : Addr} {xs : List V} {R : It → Hp → Prop} (h : SqL K H a xs) (q : R (Ite K a) H) : IE1 K R [.ref a] H := ⟨a, xs, rfl, h, q⟩
end
/-- x & 1 -/
def rBit1 : R2 := fun x y H Q => ∃ i : Int, x = .int i ∧ y = .int 1 ∧ Q (.int (i % 2)) H
theorem w_bit1 {H : Hp} {Q : VK} {i : Int} (q : Q (.int (i % 2)) H) : rBit1 (.int i) (.int 1) H Q := ⟨i, rfl, rfl, q⟩
/-- x >> k, k a place -/
def rShrN : R2 := fun x y H Q => ∃ (i : Int) (k : Nat), x = .int i ∧ y = .int (k : Int) ∧ Q (.int (i / 2 ^ k)) H
theorem w_shrN {H : Hp} {Q : VK} {i : Int} {k : Nat} (q : Q (.int (i / 2 ^ k)) H) : rShrN (.int i) (.int (k : Int)) H Q := ⟨i, k, rfl, rfl, q⟩
/-- x << k, x small, k a place -/
def rShlN : R2 := fun x y H Q => ∃ (i : Int) (k : Nat), x = .int i ∧ y = .int (k : Int) ∧ (-100 ≤ i ∧ i ≤ 100 ∧ k ≤ 1000000) ∧ Q (.int (i * 2 ^ k)) H
theorem w_shlN {H : Hp} {Q : VK} {i : Int} {k : Nat} (h : -100 ≤ i ∧ i ≤ 100 ∧ k ≤ 1000000) (q : Q (.int (i * 2 ^ k)) H) : rShlN (.int i) (.int (k : Int)) H Q := ⟨i, k, rfl, rfl, h, q⟩
theorem bits_of_int {i : Int} {n : Nat} (h : i.natAbs < 2 ^ n) : Builtin.Int.intBits i ≤ n + 1 := by
  have b : Builtin.Int.intBits i ≤ i.natAbs.log2 + 1 := by
    unfold Builtin.Int.intBits
    split <;> omega
  rcases Nat.eq_zero_or_pos n with h0 | h0
  · subst h0
    have e : i.natAbs = 0 := by omega
    rw [e] at b
    exact b
  · have := PySem.Flt.log2_lt_of h0 h
    omega
theorem mul_ok {i j : Int} {n : Nat} (hi : Builtin.Int.intBits i ≤ 1048576) (hj : j.natAbs < 2 ^ n) (hn : n ≤ 1000000) : IntMulOk i j :=
  CMulX.ok (show (Builtin.Int.intBits i : Int) + (Builtin.Int.intBits j : Int) ≤ 134217728 by have := bits_of_int hj; omega)
theorem mul_sm {i j : Int} (h : -1000000000000 ≤ i ∧ i ≤ 1000000000000) : IntMulOk i j := .of_left (intBits_le_64 (by omega) (by omega))
theorem mul_sm2 {i j : Int} (h : -1000000000000 ≤ j ∧ j ≤ 1000000000000) : IntMulOk i j := .of_right (intBits_le_64 (by omega) (by omega))
/-! targets of several names -/
section
variable {K : PySem.W.Frag} {σ : L2.St} {H : Hp} {t : TG} {u tt : TGs} {QS : L2.St → Hp → Prop}
theorem w_gTup {n : Nat} {a : Addr} {xs : List V} (h : SqT K H a xs) (e : xs.length = n) (q : tt xs σ H QS) : gTup K n tt (.ref a) σ H QS := ⟨a, xs, rfl, h, e, q⟩
theorem w_gCons {v : V} {r : List V} (q : t v σ H fun σ' H' => u r σ' H' QS) : gCons t u (v :: r) σ H QS := ⟨v, r, rfl, q⟩
theorem w_gNil (q : QS σ H) : gNil [] σ H QS := ⟨rfl, q⟩
theorem w_gName {v : V} {i : Nat} (q : QS (σ.set i (some v)) H) : gName i v σ H QS := q
end
theorem mul_cc {i j : Int} (hi : Builtin.Int.intBits i ≤ 1048576) (hj : Builtin.Int.intBits j ≤ 1048576) : IntMulOk i j :=
  CMulX.ok (show (Builtin.Int.intBits i : Int) + (Builtin.Int.intBits j : Int) ≤ 134217728 by omega)
theorem abs_pow (n : Nat) : ((1 : Int) * 2 ^ n).natAbs = 2 ^ n := by
  rw [Int.one_mul, Int.natAbs_pow]
  rfl
/-! cells of a script by their places -/
theorem get_int {ns : List Int} {i : Nat} (hi : i < ns.length) : atI (ns.map V.int) (i : Int) = some (.int ns[i]) := atI_nat (by rw [List.getElem?_map, List.getElem?_eq_getElem hi]; rfl)
/-! texts compared -/
theorem w_itS1 {x y : Str} {A B : Prop} (e : decide (x = y) = true) (h : A) : if decide (V.str x = V.str y) = true then A else B := by
  rw [of_decide_eq_true e, decide_eq_true rfl]
  exact w_itT h
theorem w_itS0 {x y : Str} {A B : Prop} (e : decide (x = y) = false) (h : B) : if decide (V.str x = V.str y) = true then A else B := by
  rw [decide_eq_false (fun z => of_decide_eq_false e (V.str.inj z))]
  exact w_itF h
theorem w_itN1 {x y : Str} {A B : Prop} (e : decide (x = y) = true) (h : B) : if (!decide (V.str x = V.str y)) = true then A else B := by
  rw [of_decide_eq_true e, decide_eq_true rfl]
  exact w_itF h
theorem w_itN0 {x y : Str} {A B : Prop} (e : decide (x = y) = false) (h : A) : if (!decide (V.str x = V.str y)) = true then A else B := by
  rw [decide_eq_false (fun z => of_decide_eq_false e (V.str.inj z))]
  exact w_itT h
theorem w_itS {x y : Str} {A B : Prop} (h1 : x = y → A) (h2 : x ≠ y → B) : if decide (V.str x = V.str y) = true then A else B := by
  by_cases e : x = y
  · exact w_itS1 (decide_eq_true e) (h1 e)
  · exact w_itS0 (decide_eq_false e) (h2 e)
theorem w_itSN {x y : Str} {A B : Prop} (h1 : x ≠ y → A) (h2 : x = y → B) : if (!decide (V.str x = V.str y)) = true then A else B := by
  by_cases e : x = y
  · exact w_itN1 (decide_eq_true e) (h2 e)
  · exact w_itN0 (decide_eq_false e) (h1 e)
/-! dicts asked -/
def DG1 (x y : V) (H2 : Hp) (Q : VK) : Prop := ∃ a v, x = .ref a ∧ DGet H2 a y (some v) ∧ Q v H2
theorem w_dget {td ty : TE} {σ : L2.St} {H : Hp} {Q : VK} (h : td σ H fun x H1 => ty σ H1 fun y H2 => DG1 x y H2 Q) : tDGet td ty σ H Q := h
theorem w_DG1 {a : Addr} {kvs : List (Key × V)} {n : Str} {v : V} {H : Hp} {Q : VK} (e : H a = some (.dK kvs)) (g : valV kvs (Sum.inr n) = some v) (q : Q v H) : DG1 (.ref a) (.str n) H Q :=
  ⟨a, v, rfl, by rw [← g]; exact DGet.k (k := Sum.inr n) e, q⟩
/-! lists in step -/
def A2 {α β : Type} (R : α → β → Prop) (xs : List α) (ys : List β) : Prop := xs.length = ys.length ∧ ∀ (i : Nat) x y, xs[i]? = some x → ys[i]? = some y → R x y
theorem A2.nil {α β : Type} {R : α → β → Prop} : A2 R [] [] := ⟨rfl, fun i x y h => by cases h⟩
theorem A2.snoc {α β : Type} {R : α → β → Prop} {xs : List α} {ys : List β} {x : α} {y : β} (h : A2 R xs ys) (r : R x y) : A2 R (xs ++ [x]) (ys ++ [y]) := by
  refine ⟨by rw [List.length_append, List.length_append, h.1]; rfl, fun i u v hu hv => ?_⟩
  rcases Nat.lt_trichotomy i xs.length with q | q | q
  · rw [List.getElem?_append_left q] at hu
    rw [List.getElem?_append_left (by rw [← h.1]; exact q)] at hv
    exact h.2 i u v hu hv
  · subst q
    rw [List.getElem?_append_right (Nat.le_refl _), Nat.sub_self] at hu
    rw [h.1, List.getElem?_append_right (Nat.le_refl _), Nat.sub_self] at hv
    cases hu
    cases hv
    exact r
  · rw [List.getElem?_eq_none (by rw [List.length_append]; exact q)] at hu
    cases hu
theorem A2.mono {α β : Type} {R S : α → β → Prop} {xs : List α} {ys : List β} (h : A2 R xs ys) (k : ∀ x y, R x y → S x y) : A2 S xs ys := ⟨h.1, fun i x y a b => k x y (h.2 i x y a b)⟩
theorem A2.get {α β : Type} {R : α → β → Prop} {xs : List α} {ys : List β} {i : Nat} {x : α} (h : A2 R xs ys) (e : xs[i]? = some x) : ∃ y, ys[i]? = some y ∧ R x y := by
  have hi := (List.getElem?_eq_some_iff.mp e).1
  have hj : i < ys.length := by rw [← h.1]; exact hi
  exact ⟨ys[i], List.getElem?_eq_getElem hj, h.2 i x _ e (List.getElem?_eq_getElem hj)⟩
theorem mul_ok2 {i j : Int} {n : Nat} (hi : Builtin.Int.intBits i ≤ 1048576) (hj : j.natAbs < 2 ^ n) (hn : n ≤ 1000000) : IntMulOk i j := mul_ok hi hj hn
/-! the rules with the written part named (within a comprehension it must be) -/
theorem ix_tupK {X : Cx} (K : PySem.W.Frag) (e : X.K = K := by rfl) : IxR X (rIxT K) := by subst e; exact ix_tup
theorem ix_listK {X : Cx} (K : PySem.W.Frag) (e : X.K = K := by rfl) : IxR X (rIxL K) := by subst e; exact ix_list
theorem c_lenK {X : Cx} (K : PySem.W.Frag) (e : X.K = K := by rfl) : CallR X (.builtin "len") (rLen K) := by subst e; exact c_len
/-- x // (1 << k) -/
def rDivP : R2 := fun x y H Q => ∃ (i : Int) (k : Nat), x = .int i ∧ y = .int (1 * 2 ^ k) ∧ k ≤ 5000 ∧ Q (.int (i / 2 ^ k)) H
theorem w_divP {H : Hp} {Q : VK} {i : Int} {k : Nat} (h : k ≤ 5000) (q : Q (.int (i / 2 ^ k)) H) : rDivP (.int i) (.int (1 * 2 ^ k)) H Q := ⟨i, k, rfl, rfl, h, q⟩
theorem hp_upd {H : Hp} {a b : Addr} {o u : HO} (ne : b ≠ a) (h : H b = some o) : upd H a u b = some o := by rw [upd_ne ne]; exact h
theorem hp_upd2 {H : Hp} {a b : Addr} {o u : HO} (ne : a ≠ b) (h : H b = some o) : upd H a u b = some o := hp_upd ne.symm h
/-- a comprehension over a range, of whose elements something is known -/
theorem lc_rx {σ : L2.St} {H : Hp} {Q : VK} {te : TE} {vs : List Nat} {lo : Int} {n j : Nat} (P : V → Prop) (hn : n < 1000000) (hw : ∀ x, wipe ((wipe σ vs).set j (some x)) vs = wipe σ vs)
    (he : ∀ (i : Nat) H' (Q' : VK), i < n → Same H H' → (∀ y, P y → Q' y H') → te ((wipe σ vs).set j (some (.int (lo + (i : Int))))) H' Q')
    (q : ∀ ys p H', ys.length = n → (∀ y ∈ ys, P y) → H p = none → Same H H' → H' p = some (.lst ys) → Q (.ref p) H') : LcB (Itr lo n) (gName j) tYes te vs σ Q H := fun p hp =>
  lc_range (lo := lo) (n := n) (fun i H' => ∃ ys : List V, ys.length = i ∧ (∀ y ∈ ys, P y) ∧ H' = upd H p (.lst ys)) ⟨[], rfl, fun y h => (by cases h), rfl⟩ (fun i H' hi e => by
    obtain ⟨ys, hl, hP, rfl⟩ := e
    show wipe ((wipe σ vs).set j (some (V.int (lo + (i : Int))))) vs = wipe σ vs ∧ te ((wipe σ vs).set j (some (V.int (lo + (i : Int))))) (upd H p (.lst ys))
      (fun y H4 => ∃ acc, H4 p = some (.lst acc) ∧ acc.length < sizeLine ∧ ∃ zs : List V, zs.length = i + 1 ∧ (∀ y ∈ zs, P y) ∧ upd H4 p (.lst (acc ++ [y])) = upd H p (.lst zs))
    refine ⟨hw _, he i _ _ hi (same_upd hp) fun y hy => ⟨ys, upd_same, ?_, ys ++ [y], ?_, ?_, ?_⟩⟩
    · exact Nat.lt_of_lt_of_le (show ys.length < 16777216 by omega) (by rw [sizeLine_eq]; exact Nat.le_refl _)
    · rw [List.length_append, hl]
      rfl
    · intro z hz
      rcases List.mem_append.mp hz with k | k
      · exact hP z k
      · rw [List.mem_singleton.mp k]
        exact hy
    · rw [upd_upd]) fun H' e => by
    obtain ⟨ys, hl, hP, rfl⟩ := e
    exact q ys p _ hl hP hp (same_upd hp) upd_same
/-- .. over a list -/
theorem lc_lx {K : PySem.W.Frag} {σ : L2.St} {H : Hp} {Q : VK} {te : TE} {vs : List Nat} {a : Addr} {j : Nat} (xs : List V) (P : V → Prop) (hS : SqL K H a xs) (hz : xs.length ≤ 1000000) (hw : ∀ x, wipe ((wipe σ vs).set j (some x)) vs = wipe σ vs)
    (he : ∀ (i : Nat) x H' (Q' : VK), xs[i]? = some x → Same H H' → (∀ y, P y → Q' y H') → te ((wipe σ vs).set j (some x)) H' Q')
    (q : ∀ ys p H', ys.length = xs.length → (∀ y ∈ ys, P y) → H p = none → Same H H' → H' p = some (.lst ys) → Q (.ref p) H') : LcB (Itl K a) (gName j) tYes te vs σ Q H := fun p hp =>
  lc_list (xs := xs) (fun i H' => ∃ ys : List V, ys.length = i ∧ (∀ y ∈ ys, P y) ∧ H' = upd H p (.lst ys)) ⟨[], rfl, fun y h => (by cases h), rfl⟩ (fun i H' _ e => by
    obtain ⟨ys, hl, hP, rfl⟩ := e
    exact (same_upd hp).seq hS) (fun i x H' hx e => by
    obtain ⟨ys, hl, hP, rfl⟩ := e
    have hi := (List.getElem?_eq_some_iff.mp hx).1
    show wipe ((wipe σ vs).set j (some x)) vs = wipe σ vs ∧ te ((wipe σ vs).set j (some x)) (upd H p (.lst ys))
      (fun y H4 => ∃ acc, H4 p = some (.lst acc) ∧ acc.length < sizeLine ∧ ∃ zs : List V, zs.length = i + 1 ∧ (∀ y ∈ zs, P y) ∧ upd H4 p (.lst (acc ++ [y])) = upd H p (.lst zs))
    refine ⟨hw _, he i x _ _ hx (same_upd hp) fun y hy => ⟨ys, upd_same, ?_, ys ++ [y], ?_, ?_, ?_⟩⟩
    · exact Nat.lt_of_lt_of_le (show ys.length < 16777216 by omega) (by rw [sizeLine_eq]; exact Nat.le_refl _)
    · rw [List.length_append, hl]
      rfl
    · intro z hz
      rcases List.mem_append.mp hz with k | k
      · exact hP z k
      · rw [List.mem_singleton.mp k]
        exact hy
    · rw [upd_upd]) fun H' e => by
    obtain ⟨ys, hl, hP, rfl⟩ := e
    exact q ys p _ hl hP hp (same_upd hp) upd_same
/-- values that are all of one form -/
theorem all_map {α : Type} {f : α → V} {R : α → Prop} : ∀ {ys : List V}, (∀ y ∈ ys, ∃ x, y = f x ∧ R x) → ∃ xs : List α, ys = xs.map f ∧ ∀ x ∈ xs, R x
  | [], _ => ⟨[], rfl, fun x h => by cases h⟩
  | y :: r, h => by
    obtain ⟨x, rfl, hx⟩ := h y (List.mem_cons_self ..)
    obtain ⟨xs, rfl, hr⟩ := all_map (f := f) (R := R) fun z hz => h z (List.mem_cons_of_mem _ hz)
    exact ⟨x :: xs, rfl, fun z hz => by
      rcases List.mem_cons.mp hz with e | e
      · rw [e]; exact hx
      · exact hr z e⟩
/-- int(a truth value) -/
def rIntB : List V → Hp → VK → Prop := fun xs H Q => ∃ k : Bool, xs = [.bl k] ∧ Q (.int (if k then 1 else 0)) H
theorem c_intB {X : Cx} : CallR X (.type "int") rIntB := by
  intro pins s σ H xs us Q I r h
  obtain ⟨k, rfl, q⟩ := h
  exact call_int1 pins s σ H _ us Q I r (.inr ⟨k, rfl, q⟩)
theorem w_intB {H : Hp} {Q : VK} {k : Bool} (q : Q (.int (if k then 1 else 0)) H) : rIntB [.bl k] H Q := ⟨k, rfl, q⟩
theorem w_ixS {z : Str} {i : Int} {c : Nat} {H : Hp} {Q : VK} (hz : z.length ≤ 1000000) (h : atI z.cps.toList i = some c) (q : Q (.str ⟨#[c]⟩) H) : rIxS (.str z) (.int i) H Q :=
  ⟨z, i, c, rfl, rfl, Nat.le_trans hz (by rw [sizeLine_eq]; decide), h, q⟩
theorem w_slS {z : Str} {lo hi : Option Int} {H : Hp} {Q : VK} (hz : z.length ≤ 1000000) (q : Q (.str (cutS z lo hi)) H) : rSlS (.str z) lo hi H Q := ⟨z, rfl, Nat.le_trans hz (by rw [sizeLine_eq]; decide), q⟩
/-- ''.join -/
def rJoin (K : PySem.W.Frag) : V → List V → Hp → VK → Prop := fun x xs H Q => ∃ a p, ∃ ys : List Str, x = .str a ∧ xs = [.ref p] ∧ (SqL K H p (ys.map V.str) ∨ SqT K H p (ys.map V.str)) ∧
    (ys.map (·.length)).sum + ys.length * a.length ≤ 16777216 ∧ Q (.str (Txt.join a ys)) H
theorem p_join {X : Cx} {o e : Expr} {to te : TE} {apos pos : Pos} (K : PySem.W.Frag) (ho : PE X o to) (he : PE X e te) (hs : starEach [e] X.env = [(false, eval e X.env)] := by rfl) (hbase : attributeBase o "join" X.env (eval o X.env) = eval o X.env := by rfl) (hline : (apos.endLine == pos.line) = true := by rfl) (hK : X.K = K := by rfl) :
    PE X (.Call (.Attribute o "join" apos) [e] [] pos) (tM1 (rJoin K) to te) := by
  subst hK
  exact pe_join ho he hs hbase hline
def M11 (f : V → List V → Hp → VK → Prop) (te : TE) (σ : L2.St) (Q : VK) (x : V) (H1 : Hp) : Prop := (∃ a, x = .str a) ∧ te σ H1 fun y H2 => f x [y] H2 Q
theorem w_tm1 {f : V → List V → Hp → VK → Prop} {to te : TE} {σ : L2.St} {H : Hp} {Q : VK} (h : to σ H fun x H1 => M11 f te σ Q x H1) : tM1 f to te σ H Q := h
theorem w_M11 {f : V → List V → Hp → VK → Prop} {te : TE} {σ : L2.St} {H : Hp} {Q : VK} {a : Str} (h : te σ H fun y H2 => f (.str a) [y] H2 Q) : M11 f te σ Q (.str a) H := ⟨⟨a, rfl⟩, h⟩
theorem w_join {K : PySem.W.Frag} {H : Hp} {Q : VK} {a : Str} {p : Addr} {ys : List Str} (h : SqL K H p (ys.map V.str)) (hz : (ys.map (·.length)).sum + ys.length * a.length ≤ 16777216) (q : Q (.str (Txt.join a ys)) H) : rJoin K (.str a) [.ref p] H Q :=
  ⟨a, p, ys, rfl, rfl, .inl h, hz, q⟩
/-! x in a list, in a tuple -/
theorem w_inL {K : PySem.W.Frag} {H : Hp} {Q : VK} {x : V} {p : Addr} {xs : List V} (h : SqL K H p xs) (hx : flatV x = true) (ha : xs.all flatV = true) (q : Q (.bl (inV x xs)) H) : rIn K false x (.ref p) H Q := ⟨p, xs, rfl, .inl h, hx, ha, q⟩
theorem w_inT {K : PySem.W.Frag} {H : Hp} {Q : VK} {x : V} {p : Addr} {xs : List V} (h : SqT K H p xs) (hx : flatV x = true) (ha : xs.all flatV = true) (q : Q (.bl (inV x xs)) H) : rIn K false x (.ref p) H Q := ⟨p, xs, rfl, .inr h, hx, ha, q⟩
theorem op_inK {X : Cx} (K : PySem.W.Frag) (e : X.K = K := by rfl) : OpR X (compareOp .In) (rIn K false) := by subst e; exact op_in_seq
theorem w_niL {K : PySem.W.Frag} {H : Hp} {Q : VK} {x : V} {p : Addr} {xs : List V} (h : SqL K H p xs) (hx : flatV x = true) (ha : xs.all flatV = true) (q : Q (.bl (!inV x xs)) H) : rIn K true x (.ref p) H Q := ⟨p, xs, rfl, .inl h, hx, ha, q⟩
theorem w_niT {K : PySem.W.Frag} {H : Hp} {Q : VK} {x : V} {p : Addr} {xs : List V} (h : SqT K H p xs) (hx : flatV x = true) (ha : xs.all flatV = true) (q : Q (.bl (!inV x xs)) H) : rIn K true x (.ref p) H Q := ⟨p, xs, rfl, .inr h, hx, ha, q⟩
theorem op_niK {X : Cx} (K : PySem.W.Frag) (e : X.K = K := by rfl) : OpR X (compareOp .NotIn) (rIn K true) := by subst e; exact op_notIn_seq
end Dpr
namespace Dpr
open PySem PySem.Spec PyProof.Rows L2 PySem.SeqAt
open MeetsSeq MeetsSeq2 MeetsSeq3 SeqRoads2
/-! != of two lists whose items are alike -/
end Dpr
namespace Dpr
open PySem PySem.Spec PyProof.Rows L2
/-! ### rows of gates -/
inductive Bop where
  | and | or | xor
  deriving DecidableEq
inductive Row where
  | fix (b : Int) | inn (n : Str) (k : Nat) | inv (a : Nat) | bin (o : Bop) (a b : Nat) | lat (a : Nat)
  deriving DecidableEq
def bopS : Bop → Str
  | .and => "and" | .or => "or" | .xor => "xor"
def rowV : Row → List V
  | .fix b => [.str "fix", .int b]
  | .inn n k => [.str "in", .str n, .int (k : Int)]
  | .inv a => [.str "not", .int (a : Int)]
  | .bin o a b => [.str (bopS o), .int (a : Int), .int (b : Int)]
  | .lat a => [.str "latch", .int (a : Int)]
def RowAt (H : Hp) (p : Addr) (r : Row) : Prop := H p = some (.tup (rowV r))
/-- a list of rows that may be read -/
def RowsL (K : PySem.W.Frag) (H : Hp) (a : Addr) (rs : List Row) : Prop := ∃ ps : List Addr, SqL K H a (ps.map V.ref) ∧ A2 (RowAt H) ps rs
/-- one of our own, that may change -/
def RowsM (H : Hp) (a : Addr) (rs : List Row) : Prop := ∃ ps : List Addr, H a = some (.lst (ps.map V.ref)) ∧ A2 (RowAt H) ps rs
theorem RowsL.same {K : PySem.W.Frag} {H H' : Hp} {a : Addr} {rs : List Row} (s : Same H H') (h : RowsL K H a rs) : RowsL K H' a rs := by
  obtain ⟨ps, h1, h2⟩ := h
  exact ⟨ps, s.seq h1, h2.mono fun p r e => s _ _ e⟩
theorem RowsM.same {H H' : Hp} {a : Addr} {rs : List Row} (s : Same H H') (h : RowsM H a rs) : RowsM H' a rs := by
  obtain ⟨ps, h1, h2⟩ := h
  exact ⟨ps, s _ _ h1, h2.mono fun p r e => s _ _ e⟩
/-! numbers by names -/
def wkv (ws : List (Str × Int)) : List (Key × V) := ws.map fun p => (Sum.inr p.1, V.int p.2)
def lookW (ws : List (Str × Int)) (n : Str) : Option Int := (ws.find? fun p => decide (p.1 = n)).map (·.2)
theorem valV_wkv (n : Str) : ∀ ws : List (Str × Int), valV (wkv ws) (Sum.inr n) = (lookW ws n).map V.int
  | [] => rfl
  | p :: r => by
    have ih := valV_wkv n r
    by_cases e : p.1 = n
    · rw [show wkv (p :: r) = (Sum.inr p.1, V.int p.2) :: wkv r from rfl, valV_pos (by rw [e])]
      unfold lookW
      rw [List.find?_cons_of_pos (by simpa using e)]
      rfl
    · rw [show wkv (p :: r) = (Sum.inr p.1, V.int p.2) :: wkv r from rfl, valV_neg (fun z => e (Sum.inr.inj z)), ih]
      unfold lookW
      rw [List.find?_cons_of_neg (by simpa using e)]
/-! what a gate tells -/
def is01 (x : Int) : Prop := x = 0 ∨ x = 1
def RowOk (N : Str → Prop) (n : Nat) : Row → Prop
  | .fix b => is01 b
  | .inn m k => N m ∧ k < 64
  | .inv a => a < n
  | .bin _ a b => a < n ∧ b < n
  | .lat a => a < n
def noLat : Row → Prop
  | .lat _ => False
  | _ => True
def RowsOk (N : Str → Prop) (rs : List Row) : Prop := ∀ (i : Nat) r, rs[i]? = some r → RowOk N i r
def NoLats (rs : List Row) : Prop := ∀ r ∈ rs, noLat r
/-- all names have numbers -/
def Has (N : Str → Prop) (ws : List (Str × Int)) : Prop := ∀ n, N n → ∃ v, lookW ws n = some v
theorem take_snoc {α : Type} {xs : List α} {i : Nat} {x : α} (h : xs[i]? = some x) : xs.take (i + 1) = xs.take i ++ [x] := by
  rw [List.take_add_one, h]
  rfl
/-! rows that are put -/
theorem RowsM.len {H : Hp} {a : Addr} {rs : List Row} (h : RowsM H a rs) : ∃ ps : List Addr, H a = some (.lst (ps.map V.ref)) ∧ A2 (RowAt H) ps rs ∧ ps.length = rs.length := by
  obtain ⟨ps, h1, h2⟩ := h
  exact ⟨ps, h1, h2, h2.1⟩
theorem RowsOk.snoc {N : Str → Prop} {rs : List Row} {r : Row} (h : RowsOk N rs) (k : RowOk N rs.length r) : RowsOk N (rs ++ [r]) := by
  intro i x hx
  rcases Nat.lt_trichotomy i rs.length with q | q | q
  · rw [List.getElem?_append_left q] at hx
    exact h i x hx
  · subst q
    rw [List.getElem?_append_right (Nat.le_refl _), Nat.sub_self] at hx
    cases hx
    exact k
  · rw [List.getElem?_eq_none (by rw [List.length_append]; exact q)] at hx
    cases hx
theorem NoLats.snoc {rs : List Row} {r : Row} (h : NoLats rs) (k : noLat r) : NoLats (rs ++ [r]) := by
  intro x hx
  rcases List.mem_append.mp hx with q | q
  · exact h x q
  · rw [List.mem_singleton.mp q]
    exact k
/-! rows as data -/
/-! dicts of numbers compared, copied -/
def rDictD : List V → Hp → VK → Prop := fun xs H Q => ∃ (a : Addr) (kvs : List (Key × V)), xs = [.ref a] ∧ Rd H a (.dK kvs) ∧ ∀ p, H p = none → Q (.ref p) (upd H p (.dK kvs))
theorem w_dictD {H : Hp} {Q : VK} {a : Addr} {kvs : List (Key × V)} (h : H a = some (.dK kvs)) (q : ∀ p H', H p = none → Same H H' → H' p = some (.dK kvs) → Q (.ref p) H') : rDictD [.ref a] H Q :=
  ⟨a, kvs, rfl, .inl h, fun p hp => q p _ hp (same_upd hp) upd_same⟩
/-! a written dict -/
def DspE (p : Addr) (Q : VK) (ps : List (V × V)) (H2 : Hp) : Prop := H2 p = some (.dK []) ∧ ∃ kvs : List (Key × V), ps = kvs.map (fun kv => (kV kv.1, kv.2)) ∧ kvs.length ≤ 15 ∧ Q (.ref p) (upd H2 p (.dK (mergeK [] kvs)))
theorem w_disp {σ : L2.St} {H : Hp} {Q : VK} {trs : List (TE × TE)} (h : ∀ p H', H p = none → Same H H' → H' p = some (.dK []) → tPairs trs σ H' fun ps H2 => DspE p Q ps H2) : tDisp trs σ H Q := fun p hp => h p _ hp (same_upd hp) upd_same
theorem w_pairs {σ : L2.St} {H : Hp} {tk tv : TE} {r : List (TE × TE)} {R : List (V × V) → Hp → Prop} (h : tk σ H fun x H1 => tv σ H1 fun y H2 => tPairs r σ H2 fun ps H3 => R ((x, y) :: ps) H3) : tPairs ((tk, tv) :: r) σ H R := h
theorem w_pairs0 {σ : L2.St} {H : Hp} {R : List (V × V) → Hp → Prop} (h : R [] H) : tPairs [] σ H R := h
end Dpr
namespace Dpr
open PySem PySem.Spec PyProof.Rows L2
/-! a number put by its name -/
def putW (ws : List (Str × Int)) (n : Str) (v : Int) : List (Str × Int) :=
  if (ws.any fun kv => decide (kv.1 = n)) = true then ws.map (fun kv => if kv.1 = n then (kv.1, v) else kv) else ws ++ [(n, v)]
theorem put_wkv (ws : List (Str × Int)) (n : Str) (v : Int) : putK (wkv ws) (Sum.inr n) (V.int v) = wkv (putW ws n v) := by
  have e : ((wkv ws).any fun kv => decide (kv.1 = (Sum.inr n : Key))) = (ws.any fun kv => decide (kv.1 = n)) := by
    induction ws with
    | nil => rfl
    | cons p r ih =>
      show (decide ((Sum.inr p.1 : Key) = Sum.inr n) || (wkv r).any _) = (decide (p.1 = n) || r.any _)
      rw [ih]
      by_cases e : p.1 = n
      · rw [decide_eq_true e, decide_eq_true (by rw [e])]
      · rw [decide_eq_false e, decide_eq_false (fun z => e (Sum.inr.inj z))]
  unfold putK putW
  rw [e]
  split
  · unfold wkv
    rw [List.map_map, List.map_map]
    refine List.map_congr_left fun p _ => ?_
    show (if (Sum.inr p.1 : Key) = Sum.inr n then ((Sum.inr p.1 : Key), V.int v) else (Sum.inr p.1, V.int p.2)) = _
    by_cases e : p.1 = n
    · rw [if_pos (by rw [e])]
      show _ = (Sum.inr (if p.1 = n then (p.1, v) else p).1, V.int (if p.1 = n then (p.1, v) else p).2)
      rw [if_pos e]
    · rw [if_neg (fun z => e (Sum.inr.inj z))]
      show _ = (Sum.inr (if p.1 = n then (p.1, v) else p).1, V.int (if p.1 = n then (p.1, v) else p).2)
      rw [if_neg e]
  · unfold wkv
    rw [List.map_append]
    rfl
theorem putW_len (ws : List (Str × Int)) (n : Str) (v : Int) : (putW ws n v).length ≤ ws.length + 1 := by
  unfold putW
  split
  · rw [List.length_map]; omega
  · rw [List.length_append, List.length_cons, List.length_nil]; omega
theorem look_put (ws : List (Str × Int)) (n m : Str) (v : Int) : lookW (putW ws n v) m = if m = n then some v else lookW ws m := by
  have e := valV_wkv m (putW ws n v)
  rw [← put_wkv, valV_put, valV_wkv] at e
  by_cases h : m = n
  · rw [if_pos h]
    rw [if_pos (by rw [h])] at e
    cases g : lookW (putW ws n v) m with
    | none => rw [g] at e; cases e
    | some x => rw [g] at e; cases e; rfl
  · rw [if_neg h]
    rw [if_neg (fun z => h (Sum.inr.inj z))] at e
    cases g : lookW (putW ws n v) m with
    | none =>
      rw [g] at e
      cases g2 : lookW ws m with
      | none => rfl
      | some x => rw [g2] at e; cases e
    | some x =>
      rw [g] at e
      cases g2 : lookW ws m with
      | none => rw [g2] at e; cases e
      | some y => rw [g2] at e; cases e; rfl
theorem Has.mono {N M : Str → Prop} {ws : List (Str × Int)} (h : Has N ws) (k : ∀ n, M n → N n) : Has M ws := fun n hn => h n (k n hn)
def DPutB (D : Ends) (σ : L2.St) (v x y : V) (H3 : Hp) : Prop := ∃ a H4, x = .ref a ∧ DPut H3 a y v H4 ∧ D.nx σ H4
theorem w_dput {D : Ends} {σ : L2.St} {H : Hp} {td ty tv : TE} (h : tv σ H fun v H1 => td σ H1 fun x H2 => ty σ H2 fun y H3 => DPutB D σ v x y H3) : sDPut td ty tv D σ H := h
theorem w_DPutB {D : Ends} {σ : L2.St} {H : Hp} {a : Addr} {ws : List (Str × Int)} {n : Str} {v : Int} (h : H a = some (.dK (wkv ws))) (hl : ws.length ≤ 1000) (q : D.nx σ (upd H a (.dK (wkv (putW ws n v))))) : DPutB D σ (.int v) (.ref a) (.str n) H :=
  ⟨a, _, rfl, .k (k := Sum.inr n) h (by rw [wkv, List.length_map]; exact Nat.lt_of_le_of_lt hl (by rw [sizeLine_eq]; decide)), by rw [put_wkv]; exact q⟩
def rInsert : V → List V → Hp → VK → Prop := fun x vs H Q => ∃ (l : Addr) (xs : List V) (i : Int) (y : V), x = .ref l ∧ vs = [.int i, y] ∧ H l = some (.lst xs) ∧ xs.length < sizeLine ∧ 0 ≤ i ∧ i < 2 ^ 63 ∧ Q .non (upd H l (.lst (xs.take i.toNat ++ [y] ++ xs.drop i.toNat)))
theorem w_insert {H : Hp} {Q : VK} {p : Addr} {xs : List V} {y : V} {i : Int} (e : H p = some (.lst xs)) (hz : xs.length ≤ 1000000) (hi : 0 ≤ i ∧ i ≤ 1000000) (q : Q .non (upd H p (.lst (xs.take i.toNat ++ [y] ++ xs.drop i.toNat)))) : rInsert (.ref p) [.int i, y] H Q :=
  ⟨p, xs, i, y, rfl, rfl, e, Nat.lt_of_le_of_lt hz (by rw [sizeLine_eq]; decide), hi.1, by omega, q⟩
theorem w_dnewK {σ : L2.St} {H : Hp} {Q : VK} (h : ∀ p H', H p = none → Same H H' → H' p = some (.dK (wkv [])) → Q (.ref p) H') : tDNewK σ H Q := fun p hp => h p _ hp (same_upd hp) upd_same
end Dpr
namespace Dpr
open PySem PySem.Spec PyProof.Rows L2
def RevB (R : It → Hp → Prop) (a b : Int) (H1 : Hp) : Prop := -(2 ^ 62) ≤ a ∧ a < 2 ^ 62 ∧ -(2 ^ 62) ≤ b ∧ b < 2 ^ 62 ∧ R (Itc (a + (((b - a).toNat : Nat) : Int) - 1) (-1) (b - a).toNat) H1
def RG1 (R : Int → Int → Hp → Prop) (x : V) (H1 : Hp) : Prop := ∃ i, x = .int i ∧ R 0 i H1
theorem w_revR {σ : L2.St} {H : Hp} {R : It → Hp → Prop} {tr : L2.St → Hp → (Int → Int → Hp → Prop) → Prop} (h : tr σ H (RevB R)) : iRevR tr σ H R := h
theorem w_rg1 {σ : L2.St} {H : Hp} {R : Int → Int → Hp → Prop} {ta : TE} (h : ta σ H (RG1 R)) : tRg1 ta σ H R := h
theorem w_RG1 {R : Int → Int → Hp → Prop} {b : Int} {H : Hp} (q : R 0 b H) : RG1 R (.int b) H := ⟨b, rfl, q⟩
theorem w_RevB {R : It → Hp → Prop} {a b : Int} {H : Hp} (h : -1000000 ≤ a ∧ a ≤ 1000000 ∧ -1000000 ≤ b ∧ b ≤ 1000000) (q : R (Itc (a + (((b - a).toNat : Nat) : Int) - 1) (-1) (b - a).toNat) H) : RevB R a b H := ⟨by omega, by omega, by omega, by omega, q⟩
end Dpr
namespace Dpr
open PySem PySem.Spec PyProof.Rows L2
/-! a row from its second part on, the greatest of a list -/
theorem w_slT1 {K : PySem.W.Frag} {H : Hp} {Q : VK} {p : Addr} {x : V} {r : List V} (h : SqT K H p (x :: r)) (q : ∀ l H', H l = none → Same H H' → H' l = some (.tup r) → Q (.ref l) H') : rSlT K (.ref p) (some 1) none H Q := by
  refine ⟨p, _, rfl, h, fun z => ?_, fun l hl => ?_⟩
  · have e := z.1
    rw [show (1 : Int) = ((1 : Nat) : Int) from rfl, HT.sIx_nat, List.length_cons] at e
    omega
  · have e : cutV (x :: r) (some 1) none = r := cut_from (x :: r) 1 (by rw [List.length_cons]; omega)
    rw [e]
    exact q l _ hl (same_upd hl) upd_same
theorem w_maxL {K : PySem.W.Frag} {H : Hp} {Q : VK} {p : Addr} {ns : List Int} (h : SqL K H p (ns.map V.int)) (hn : 0 < ns.length) (q : ∀ m, m ∈ ns → (∀ y ∈ ns, y ≤ m) → Q (.int m) H) : rMax K [.ref p] H Q := ⟨p, ns, rfl, h, hn, q⟩
theorem c_maxK {X : Cx} (K : PySem.W.Frag) (e : X.K = K := by rfl) (hc : X.calm = true := by rfl) : CallR X (.builtin "max") (rMax K) := by subst e; exact cr_max hc
/-! lists told row by row -/
def runL (f : List Int → Row → Int) (rs : List Row) : List Int := rs.foldl (fun a r => a ++ [f a r]) []
/-! depths -/
def ownR : Row → List Nat
  | .inv a => [a]
  | .bin _ a b => [a, b]
  | _ => []
def natI (ws : List Nat) : List Int := ws.map fun (z : Nat) => (z : Int)
def top2 (x y : Int) : Int := if y > x then y else x
def deepI (ds : List Int) (r : Row) : Int := (ownR r).foldl (fun d w => top2 d (ds.getD w 0 + 1)) 0
def depthL (rs : List Row) : List Int := runL deepI rs
theorem own_lt {N : Str → Prop} {i : Nat} {r : Row} (h : RowOk N i r) : ∀ w ∈ ownR r, w < i := by
  intro w hw
  cases r with
  | inv a => rw [List.mem_singleton.mp hw]; exact h
  | bin o a b =>
    rcases List.mem_cons.mp hw with e | e
    · rw [e]; exact h.1
    · rw [List.mem_singleton.mp e]; exact h.2
  | _ => cases hw
end Dpr
namespace Dpr
open PySem PySem.Spec PyProof.Rows L2
/-! ways -/
def dep (rs : List Row) (x : Nat) : Int := (depthL rs).getD x 0
def Way (rs : List Row) (w : Nat) (ws : List Nat) : Prop := ws[0]? = some w ∧ (∀ (k x y : Nat), ws[k]? = some x → ws[k + 1]? = some y → ∃ r, rs[x]? = some r ∧ y ∈ ownR r) ∧ ∀ (k x : Nat), ws[k]? = some x → x < rs.length ∧ dep rs x = dep rs w - k
theorem Way.one {rs : List Row} {w : Nat} (h : w < rs.length) : Way rs w [w] :=
  ⟨rfl, fun k x y _ hy => (by cases hy), fun k x hx => (by
    cases k with
    | zero => cases hx; exact ⟨h, by omega⟩
    | succ k => cases hx)⟩
theorem Way.snoc {rs : List Row} {w x y : Nat} {us : List Nat} {r : Row} (h : Way rs w (us ++ [x])) (hr : rs[x]? = some r) (hy : y ∈ ownR r) (hl : y < rs.length) (hd : dep rs y = dep rs x - 1) : Way rs w (us ++ [x] ++ [y]) := by
  have hux : (us ++ [x])[us.length]? = some x := by rw [List.getElem?_append_right (Nat.le_refl _), Nat.sub_self]; rfl
  have hlen : (us ++ [x]).length = us.length + 1 := by rw [List.length_append]; rfl
  refine ⟨by rw [List.getElem?_append_left (by omega)]; exact h.1, fun k a b ha hb => ?_, fun k a ha => ?_⟩
  · have hb' := (List.getElem?_eq_some_iff.mp hb).1
    rw [List.length_append, List.length_singleton, hlen] at hb'
    by_cases e : k + 1 < us.length + 1
    · rw [List.getElem?_append_left (by omega)] at ha hb
      exact h.2.1 k a b ha hb
    · have ek : k = us.length := by omega
      subst ek
      rw [List.getElem?_append_left (by omega), hux] at ha
      cases ha
      rw [List.getElem?_append_right (by omega), hlen, Nat.sub_self] at hb
      cases hb
      exact ⟨r, hr, hy⟩
  · have ha' := (List.getElem?_eq_some_iff.mp ha).1
    rw [List.length_append, List.length_singleton, hlen] at ha'
    by_cases e : k < us.length + 1
    · rw [List.getElem?_append_left (by omega)] at ha
      exact h.2.2 k a ha
    · have ek : k = us.length + 1 := by omega
      subst ek
      rw [List.getElem?_append_right (by omega), hlen, Nat.sub_self] at ha
      cases ha
      have hx := (h.2.2 us.length x hux).2
      exact ⟨hl, by omega⟩
end Dpr
namespace Dpr
open PySem PySem.Spec PyProof.Rows L2
/-! beats -/
theorem A2.mono2 {α β : Type} {R S : α → β → Prop} {xs : List α} {ys : List β} (h : A2 R xs ys) (k : ∀ x y, x ∈ xs → R x y → S x y) : A2 S xs ys := ⟨h.1, fun i x y a b => k x y (List.mem_of_getElem? a) (h.2 i x y a b)⟩
def IntsAt (H : Hp) (p : Addr) (bs : List Int) : Prop := H p = some (.lst (bs.map V.int))
/-- what stood at the beat before: nothing, or a list -/
def Before (H : Hp) (n : Nat) (prev : List Int) (bv : V) : Prop := (bv = .non ∧ prev = []) ∨ ∃ q, bv = .ref q ∧ IntsAt H q prev ∧ prev.length = n
theorem Before.same {H H' : Hp} {n : Nat} {prev : List Int} {bv : V} (s : Same H H') (h : Before H n prev bv) : Before H' n prev bv := by
  rcases h with h | ⟨q, h1, h2, h3⟩
  · exact .inl h
  · exact .inr ⟨q, h1, s _ _ h2, h3⟩
def rIsNo : R2 := fun x y H Q => y = .non ∧ Q (.bl (decide (x = .non))) H
def rNotNo : R2 := fun x y H Q => y = .non ∧ Q (.bl (!decide (x = .non))) H
theorem op_isNo {X : Cx} : OpR X (compareOp .Is) rIsNo := op_isN
theorem w_isNo1 {H : Hp} {Q : VK} (h : Q (.bl true) H) : rIsNo .non .non H Q := ⟨rfl, h⟩
theorem w_isNo0 {p : Addr} {H : Hp} {Q : VK} (h : Q (.bl false) H) : rIsNo (.ref p) .non H Q := ⟨rfl, by rw [decide_eq_false (fun z => by cases z)]; exact h⟩
theorem w_notNo1 {H : Hp} {Q : VK} (h : Q (.bl false) H) : rNotNo .non .non H Q := ⟨rfl, h⟩
theorem w_notNo0 {p : Addr} {H : Hp} {Q : VK} (h : Q (.bl true) H) : rNotNo (.ref p) .non H Q := ⟨rfl, by rw [decide_eq_false (fun z => by cases z)]; exact h⟩
end Dpr
namespace Dpr
open PySem PySem.Spec PyProof.Rows L2
/-! objects of the program's classes -/
def IsC (K : PySem.W.Frag) (c : Str) (C : Addr) : Prop := PySem.W.nsIn K mainGlobals c = some (some (.ref C))
theorem IsC.one {K : PySem.W.Frag} {c : Str} {C D : Addr} (h : IsC K c C) (k : IsC K c D) : C = D := by
  unfold IsC at h k
  rw [h] at k
  cases k
  rfl
theorem lookup_hd {f : Str} {v : V} {r : List (Str × V)} : ((f, v) :: r).lookup f = some v := List.lookup_cons_self ..
theorem lookup_tl {f g : Str} {v : V} {r : List (Str × V)} {o : Option V} (h : (f == g) = false) (k : r.lookup f = o) : ((g, v) :: r).lookup f = o := by
  rw [List.lookup_cons, h]
  exact k
theorem lookup_no {f : Str} : ([] : List (Str × V)).lookup f = none := rfl
section
variable {K : PySem.W.Frag} {σ : L2.St} {H : Hp} {Q : VK} {D : Ends} {ta tv : TE} {t : TA} {f m : Str}
def FldB (K : PySem.W.Frag) (f : Str) (Q : VK) (x : V) (H1 : Hp) : Prop := ∃ a C dx fs v, x = .ref a ∧ H1 a = some (.ins C dx fs) ∧ Cls K C ∧ NoAttr K C f ∧ fs.lookup f = some v ∧ Q v H1
theorem w_fld (h : ta σ H (FldB K f Q)) : tFld K ta f σ H Q := h
theorem w_FldB {a C dx : Addr} {fs : List (Str × V)} {v : V} (h : H a = some (.ins C dx fs)) (c : Cls K C) (n : NoAttr K C f) (e : fs.lookup f = some v) (q : Q v H) : FldB K f Q (.ref a) H := ⟨a, C, dx, fs, v, rfl, h, c, n, e, q⟩
def SFldB (K : PySem.W.Frag) (f : Str) (D : Ends) (σ : L2.St) (y x : V) (H2 : Hp) : Prop := ∃ a C dx fs, x = .ref a ∧ H2 a = some (.ins C dx fs) ∧ Cls K C ∧ NoAttr K C f ∧ fs.length < 1000 ∧ D.nx σ (upd H2 a (.ins C dx (putF f y fs)))
theorem w_sfld (h : tv σ H fun y H1 => ta σ H1 fun x H2 => SFldB K f D σ y x H2) : sFld K ta tv f D σ H := h
theorem w_SFldB {a C dx : Addr} {fs : List (Str × V)} {y : V} (h : H a = some (.ins C dx fs)) (c : Cls K C) (n : NoAttr K C f) (l : fs.length < 1000) (q : D.nx σ (upd H a (.ins C dx (putF f y fs)))) : SFldB K f D σ y (.ref a) H := ⟨a, C, dx, fs, rfl, h, c, n, l, q⟩
def MethB (C : Addr) (m : Str) (sp : Sp) (dvs : List V) (E : XK) (t : TA) (σ : L2.St) (Q : VK) (x : V) (H1 : Hp) : Prop := ∃ a dx fs, x = .ref a ∧ H1 a = some (.ins C dx fs) ∧ fs.lookup m = none ∧ t σ H1 fun vs H2 => sp (x :: (vs ++ dvs)) H2 Q E
theorem w_meth {C : Addr} {sp : Sp} {dvs : List V} {E : XK} (h : ta σ H (MethB C m sp dvs E t σ Q)) : tMeth C m sp dvs E ta t σ H Q := h
theorem w_MethB {C a dx : Addr} {fs : List (Str × V)} {sp : Sp} {dvs : List V} {E : XK} (h : H a = some (.ins C dx fs)) (e : fs.lookup m = none) (q : t σ H fun vs H2 => sp (.ref a :: (vs ++ dvs)) H2 Q E) : MethB C m sp dvs E t σ Q (.ref a) H := ⟨a, dx, fs, rfl, h, e, q⟩
end
end Dpr
namespace Dpr
open PySem PySem.Spec PyProof.Rows L2
/-! rows as keys of a dict -/
/-! the kept rows -/
def Grow (ks ks' : List Row) : Prop := ∃ t, ks' = ks ++ t ∧ t.length ≤ 1
theorem Grow.refl (ks : List Row) : Grow ks ks := ⟨[], (List.append_nil ks).symm, Nat.zero_le _⟩
theorem Grow.len {ks ks' : List Row} (h : Grow ks ks') : ks.length ≤ ks'.length ∧ ks'.length ≤ ks.length + 1 := by
  obtain ⟨t, rfl, h⟩ := h
  rw [List.length_append]
  omega
theorem Grow.get {ks ks' : List Row} (h : Grow ks ks') {w : Nat} (hw : w < ks.length) : ks'[w]? = ks[w]? := by
  obtain ⟨t, rfl, h⟩ := h
  exact List.getElem?_append_left hw
/-! what a wire tells -/
end Dpr
namespace Dpr
open PySem PySem.Spec PyProof.Rows L2
/-! heaps of which some places may change -/
def Fr (ms : List Addr) (H H' : Hp) : Prop := ∀ b o, H b = some o → b ∉ ms → H' b = some o
theorem Fr.refl {ms : List Addr} {H : Hp} : Fr ms H H := fun _ _ h _ => h
theorem Fr.trans {ms : List Addr} {H H1 H2 : Hp} (h : Fr ms H H1) (k : Fr ms H1 H2) : Fr ms H H2 := fun b o e n => k b o (h b o e n) n
theorem Fr.of {ms : List Addr} {H H' : Hp} (s : Same H H') : Fr ms H H' := fun b o e _ => s b o e
theorem Fr.put {ms : List Addr} {H : Hp} {a : Addr} {o : HO} (h : a ∈ ms) : Fr ms H (upd H a o) := fun b x e n => by
  rw [upd_ne (fun z => n (by rw [z]; exact h))]
  exact e
theorem Fr.same {ms : List Addr} {H0 H H' : Hp} (f : Fr ms H H') (s : Same H0 H) (n : ∀ m ∈ ms, H0 m = none) : Same H0 H' := fun b o e => f b o (s b o e) (fun z => by
  rw [n b z] at e
  cases e)
theorem Fr.mono {ms ns : List Addr} {H H' : Hp} (f : Fr ms H H') (h : ∀ m ∈ ms, m ∈ ns) : Fr ns H H' := fun b o e n => f b o e (fun z => n (h b z))
/-! dicts by rows -/
def NInB (Q : Bool → Hp → Prop) (y x : V) (H2 : Hp) : Prop := ∃ a o, x = .ref a ∧ DGet H2 a y o ∧ ∃ k, V.bl (!o.isSome) = .bl k ∧ Q k H2
def InB (Q : Bool → Hp → Prop) (y x : V) (H2 : Hp) : Prop := ∃ a o, x = .ref a ∧ DGet H2 a y o ∧ ∃ k, V.bl o.isSome = .bl k ∧ Q k H2
section
variable {σ : L2.St} {H : Hp} {Q : VK} {QB : Bool → Hp → Prop} {ty td : TE} {D : Ends}
theorem w_dnin (h : ty σ H fun y H1 => td σ H1 fun x H2 => NInB QB y x H2) : tB (tDNotIn ty td) σ H QB := h
theorem w_din (h : ty σ H fun y H1 => td σ H1 fun x H2 => InB QB y x H2) : tB (tDIn ty td) σ H QB := h
theorem w_dnewT (h : ∀ p H', H p = none → Same H H' → H' p = some (.dT []) → Q (.ref p) H') : tDNewT σ H Q := fun p hp => h p _ hp (same_upd hp) upd_same
end
theorem w_notNoI {i : Int} {H : Hp} {Q : VK} (h : Q (.bl true) H) : rNotNo (.int i) .non H Q := ⟨rfl, h⟩
/-! objects made -/
section
variable {σ : L2.St} {H H1 : Hp} {Q : VK} {C : Addr} {sp : Sp} {vs dvs : List V} {E : XK} {t : TA}
def MkB (C : Addr) (sp : Sp) (dvs : List V) (E : XK) (Q : VK) (vs : List V) (H1 : Hp) : Prop := ∀ x dx, H1 x = none → H1 dx = none → dx ≠ x → sp (.ref x :: (vs ++ dvs)) (upd (upd H1 dx (.own x)) x (.ins C dx [])) (fun v H2 => v = .non ∧ Q (.ref x) H2) E
theorem w_mk (h : t σ H fun vs H1 => MkB C sp dvs E Q vs H1) : tMake C sp dvs E t σ H Q := h
theorem w_MkB (h : ∀ x dx H2, H1 x = none → H1 dx = none → Same H1 H2 → H2 x = some (.ins C dx []) → sp (.ref x :: (vs ++ dvs)) H2 (fun v H3 => v = .non ∧ Q (.ref x) H3) E) : MkB C sp dvs E Q vs H1 := fun x dx n1 n2 ne =>
  h x dx _ n1 n2 ((same_upd n2).trans (same_upd (by rw [upd_ne ne.symm]; exact n1))) upd_same
end
/-! lists set by places -/
section
variable {σ : L2.St} {H : Hp} {Q : VK} {QS : L2.St → Hp → Prop} {ta ti : TE} {ts : TSet} {v : V}
theorem w_gSub (h : ta σ H fun o H1 => ti σ H1 fun i H2 => ts o i v H2 fun H3 => QS σ H3) : gSub ta ti ts v σ H QS := h
end
/-! tuples of lists, tuples joined -/
def rTupOf (K : PySem.W.Frag) : List V → Hp → VK → Prop := fun xs H Q => ∃ p ys, xs = [.ref p] ∧ ((SqL K H p ys ∧ ∀ l, H l = none → Q (.ref l) (upd H l (.tup ys))) ∨ (SqT K H p ys ∧ Q (.ref p) H))
theorem w_tupL {K : PySem.W.Frag} {H : Hp} {Q : VK} {p : Addr} {xs : List V} (h : SqL K H p xs) (q : ∀ l H', H l = none → Same H H' → H' l = some (.tup xs) → Q (.ref l) H') : rTupOf K [.ref p] H Q := ⟨p, xs, rfl, .inl ⟨h, fun l hl => q l _ hl (same_upd hl) upd_same⟩⟩
/-- a comprehension over a tuple -/
theorem lc_t {K : PySem.W.Frag} {σ : L2.St} {H : Hp} {Q : VK} {te : TE} {vs : List Nat} {a : Addr} {j : Nat} (xs ys : List V) (hlen : ys.length = xs.length) (hS : SqT K H a xs) (hz : xs.length ≤ 1000000) (hw : ∀ x, wipe ((wipe σ vs).set j (some x)) vs = wipe σ vs)
    (he : ∀ (i : Nat) x y H' (Q' : VK), xs[i]? = some x → ys[i]? = some y → Same H H' → Q' y H' → te ((wipe σ vs).set j (some x)) H' Q')
    (q : ∀ p H', H p = none → Same H H' → H' p = some (.lst ys) → Q (.ref p) H') : LcB (Itt K a) (gName j) tYes te vs σ Q H := fun p hp =>
  lc_tup (xs := xs) (fun i H' => H' = upd H p (.lst (ys.take i))) rfl (fun i H' _ e => by
    subst e
    exact same_tup (same_upd hp) hS) (fun i x H' hx e => by
    subst e
    have hi := (List.getElem?_eq_some_iff.mp hx).1
    have hy : ys[i]? = some ys[i] := List.getElem?_eq_getElem (by omega)
    show wipe ((wipe σ vs).set j (some x)) vs = wipe σ vs ∧ te ((wipe σ vs).set j (some x)) (upd H p (.lst (ys.take i)))
      (fun y H4 => ∃ acc, H4 p = some (.lst acc) ∧ acc.length < sizeLine ∧ upd H4 p (.lst (acc ++ [y])) = upd H p (.lst (ys.take (i + 1))))
    refine ⟨hw _, he i x _ _ _ hx hy (same_upd hp) ⟨_, upd_same, ?_, ?_⟩⟩
    · rw [List.length_take]
      exact Nat.lt_of_lt_of_le (show min i ys.length < 16777216 by omega) (by rw [sizeLine_eq]; exact Nat.le_refl _)
    · rw [upd_upd, List.take_add_one, hy]
      rfl) fun H' e => by
    subst e
    refine q p _ hp (same_upd hp) ?_
    rw [upd_same, List.take_of_length_le (by omega)]
end Dpr
namespace Dpr
open PySem PySem.Spec PyProof.Rows L2
end Dpr
namespace Dpr
open PySem PySem.Spec PyProof.Rows L2
/-! depths, row by row -/
/-! which wires are needed -/
def markL (fs : List Bool) (ws : List Nat) : List Bool := ws.foldl (fun f w => f.set w true) fs
theorem mark_len : ∀ (ws : List Nat) (fs : List Bool), (markL fs ws).length = fs.length
  | [], _ => rfl
  | w :: ws, fs => by
    show (markL (fs.set w true) ws).length = fs.length
    rw [mark_len ws, List.length_set]
theorem mark_get : ∀ (ws : List Nat) (fs : List Bool) (x : Nat), x < fs.length → ((markL fs ws)[x]? = some true ↔ x ∈ ws ∨ fs[x]? = some true)
  | [], fs, x, _ => ⟨.inr, fun h => h.resolve_left (fun z => by cases z)⟩
  | w :: ws, fs, x, hx => by
    show (markL (fs.set w true) ws)[x]? = some true ↔ _
    rw [mark_get ws (fs.set w true) x (by rw [List.length_set]; exact hx), List.getElem?_set]
    by_cases e : w = x
    · subst e
      rw [if_pos rfl, if_pos hx]
      exact ⟨fun _ => .inl (List.mem_cons_self ..), fun _ => .inr rfl⟩
    · rw [if_neg e, List.mem_cons]
      exact ⟨fun h => h.elim (fun a => .inl (.inr a)) .inr, fun h => h.elim (fun a => a.elim (fun z => absurd z.symm e) .inl) .inr⟩
def NeedI (rs : List Row) (outs : List Nat) (n i : Nat) (fs : List Bool) : Prop := fs.length = n ∧ ∀ w, w < n → (fs[w]? = some true ↔ w ∈ outs ∨ ∃ j r, n - i ≤ j ∧ rs[j]? = some r ∧ w ∈ ownR r ∧ fs[j]? = some true)
theorem NeedI.start {rs : List Row} {outs : List Nat} (n : Nat) (hn : rs.length = n) : NeedI rs outs n 0 (markL (List.replicate n false) outs) := by
  have hl : (List.replicate n false).length = n := List.length_replicate
  refine ⟨by rw [mark_len, hl], fun w hw => ?_⟩
  rw [mark_get _ _ _ (by rw [hl]; exact hw)]
  constructor
  · rintro (h | h)
    · exact .inl h
    · rw [List.getElem?_replicate, if_pos hw] at h
      cases h
  · rintro (h | ⟨j, r, h1, h2, _⟩)
    · exact .inl h
    · have := (List.getElem?_eq_some_iff.mp h2).1
      omega
theorem NeedI.mark {N : Str → Prop} {rs : List Row} {outs : List Nat} {n i : Nat} {fs : List Bool} {r : Row} (ok : RowsOk N rs) (h : NeedI rs outs n i fs) (hf : fs[n - (i + 1)]? = some true) (hi : i < n) (hr : rs[n - (i + 1)]? = some r) : NeedI rs outs n (i + 1) (markL fs (ownR r)) := by
  have lt := own_lt (ok _ r hr)
  have same : ∀ j, n - (i + 1) ≤ j → j < n → ((markL fs (ownR r))[j]? = some true ↔ fs[j]? = some true) := fun j h1 h2 => by
    rw [mark_get _ _ _ (by rw [h.1]; exact h2)]
    exact ⟨fun k => k.resolve_left (fun z => by have := lt j z; omega), .inr⟩
  have inn : ∀ j, (markL fs (ownR r))[j]? = some true → j < n := fun j z => by
    have := (List.getElem?_eq_some_iff.mp z).1
    rw [mark_len, h.1] at this
    exact this
  have inn2 : ∀ j, fs[j]? = some true → j < n := fun j z => by
    have := (List.getElem?_eq_some_iff.mp z).1
    rw [h.1] at this
    exact this
  refine ⟨by rw [mark_len]; exact h.1, fun w hw => ?_⟩
  rw [mark_get _ _ _ (by rw [h.1]; exact hw), h.2 w hw]
  constructor
  · rintro (k | k | ⟨j, s, h1, h2, h3, h4⟩)
    · exact .inr ⟨n - (i + 1), r, Nat.le_refl _, hr, k, (same _ (Nat.le_refl _) (by omega)).mpr hf⟩
    · exact .inl k
    · exact .inr ⟨j, s, by omega, h2, h3, (same j (by omega) (inn2 j h4)).mpr h4⟩
  · rintro (k | ⟨j, s, h1, h2, h3, h4⟩)
    · exact .inr (.inl k)
    · have h5 := (same j h1 (inn j h4)).mp h4
      by_cases e : n - i ≤ j
      · exact .inr (.inr ⟨j, s, e, h2, h3, h5⟩)
      · have e2 : j = n - (i + 1) := by omega
        rw [e2, hr] at h2
        cases h2
        exact .inl h3
/-! rows numbered anew -/
def cnt (fs : List Bool) (j : Nat) : Nat := (fs.take j).count true
def renR (f : Nat → Nat) : Row → Row
  | .inv a => .inv (f a)
  | .bin o a b => .bin o (f a) (f b)
  | r => r
def Ren (rs : List Row) (fs : List Bool) (i : Nat) (made : List Row) : Prop := made.length = cnt fs i ∧ ∀ j r, j < i → rs[j]? = some r → fs[j]? = some true → made[cnt fs j]? = some (renR (cnt fs) r)
theorem Ren.start (rs : List Row) (fs : List Bool) : Ren rs fs 0 [] := ⟨rfl, fun j r h => by omega⟩
/-! rows made fewer -/
end Dpr
namespace Dpr
open PySem PySem.Spec PyProof.Rows L2
/-! lists of lists of wires -/
def NatsAt (H : Hp) (p : Addr) (xs : List Nat) : Prop := H p = some (.lst ((natI xs).map V.int))
def Cols (H : Hp) (c : Addr) (ps : List Addr) (cols : List (List Nat)) : Prop := H c = some (.lst (ps.map V.ref)) ∧ A2 (NatsAt H) ps cols ∧ ps.Nodup
theorem Cols.fr {ms : List Addr} {H H' : Hp} {c : Addr} {ps : List Addr} {cols : List (List Nat)} (f : Fr ms H H') (nc : c ∉ ms) (np : ∀ p ∈ ps, p ∉ ms) (h : Cols H c ps cols) : Cols H' c ps cols :=
  ⟨f _ _ h.1 nc, h.2.1.mono2 fun p xs m e => f _ _ e (np p m), h.2.2⟩
theorem Cols.same {H H' : Hp} {c : Addr} {ps : List Addr} {cols : List (List Nat)} (s : Same H H') (h : Cols H c ps cols) : Cols H' c ps cols := ⟨s _ _ h.1, h.2.1.mono fun _ _ e => s _ _ e, h.2.2⟩
end Dpr
namespace Dpr
open PySem PySem.Spec PyProof.Rows L2
/-! [tab[w] for w in a tuple, a list] -/
end Dpr
namespace Dpr
open PySem PySem.Spec PyProof.Rows L2
/-! formulas -/
inductive Fm where
  | name (n : Str) | num (n : Int) | plus (f g : Fm) | less (f g : Fm) | times (f g : Fm) | turned (f : Fm)
def FmAt (H : Hp) : Addr → Fm → Prop
  | p, .name n => H p = some (.tup [.str "name", .str n])
  | p, .num n => H p = some (.tup [.str "number", .int n])
  | p, .plus f g => ∃ a b, H p = some (.tup [.str "plus", .ref a, .ref b]) ∧ FmAt H a f ∧ FmAt H b g
  | p, .less f g => ∃ a b, H p = some (.tup [.str "less", .ref a, .ref b]) ∧ FmAt H a f ∧ FmAt H b g
  | p, .times f g => ∃ a b, H p = some (.tup [.str "times", .ref a, .ref b]) ∧ FmAt H a f ∧ FmAt H b g
  | p, .turned f => ∃ a, H p = some (.tup [.str "turned", .ref a]) ∧ FmAt H a f
theorem FmAt.keep {H H' : Hp} (s : ∀ p xs, H p = some (.tup xs) → H' p = some (.tup xs)) : ∀ {f : Fm} {p : Addr}, FmAt H p f → FmAt H' p f
  | .name _, _, h => s _ _ h
  | .num _, _, h => s _ _ h
  | .plus _ _, _, ⟨a, b, h1, h2, h3⟩ => ⟨a, b, s _ _ h1, h2.keep s, h3.keep s⟩
  | .less _ _, _, ⟨a, b, h1, h2, h3⟩ => ⟨a, b, s _ _ h1, h2.keep s, h3.keep s⟩
  | .times _ _, _, ⟨a, b, h1, h2, h3⟩ => ⟨a, b, s _ _ h1, h2.keep s, h3.keep s⟩
  | .turned _, _, ⟨a, h1, h2⟩ => ⟨a, s _ _ h1, h2.keep s⟩
theorem FmAt.same {H H' : Hp} {p : Addr} {f : Fm} (s : Same H H') (h : FmAt H p f) : FmAt H' p f := h.keep fun _ _ e => s _ _ e
def headF : Fm → Str
  | .name _ => "name"
  | .num _ => "number"
  | .plus _ _ => "plus"
  | .less _ _ => "less"
  | .times _ _ => "times"
  | .turned _ => "turned"
theorem FmAt.head {H : Hp} {p : Addr} {f : Fm} (h : FmAt H p f) : ∃ xs, H p = some (.tup (.str (headF f) :: xs)) := by
  cases f with
  | name n => exact ⟨_, h⟩
  | num n => exact ⟨_, h⟩
  | plus f g => obtain ⟨a, b, h1, _⟩ := h; exact ⟨_, h1⟩
  | less f g => obtain ⟨a, b, h1, _⟩ := h; exact ⟨_, h1⟩
  | times f g => obtain ⟨a, b, h1, _⟩ := h; exact ⟨_, h1⟩
  | turned f => obtain ⟨a, h1, _⟩ := h; exact ⟨_, h1⟩
theorem headF_name {f : Fm} (h : headF f = "name") : ∃ n, f = .name n := by
  cases f with
  | name n => exact ⟨n, rfl⟩
  | num n => exact absurd (show Str.ofString "number" = Str.ofString "name" from h) (by decide +kernel)
  | plus f g => exact absurd (show Str.ofString "plus" = Str.ofString "name" from h) (by decide +kernel)
  | less f g => exact absurd (show Str.ofString "less" = Str.ofString "name" from h) (by decide +kernel)
  | times f g => exact absurd (show Str.ofString "times" = Str.ofString "name" from h) (by decide +kernel)
  | turned f => exact absurd (show Str.ofString "turned" = Str.ofString "name" from h) (by decide +kernel)
theorem headF_num {f : Fm} (h : headF f = "number") : ∃ n, f = .num n := by
  cases f with
  | name n => exact absurd (show Str.ofString "name" = Str.ofString "number" from h) (by decide +kernel)
  | num n => exact ⟨n, rfl⟩
  | plus f g => exact absurd (show Str.ofString "plus" = Str.ofString "number" from h) (by decide +kernel)
  | less f g => exact absurd (show Str.ofString "less" = Str.ofString "number" from h) (by decide +kernel)
  | times f g => exact absurd (show Str.ofString "times" = Str.ofString "number" from h) (by decide +kernel)
  | turned f => exact absurd (show Str.ofString "turned" = Str.ofString "number" from h) (by decide +kernel)
theorem at_0 {x : V} {r : List V} : atI (x :: r) 0 = some x := atI_nat (j := 0) rfl
def Fm.size : Fm → Nat
  | .name _ => 1
  | .num _ => 1
  | .plus f g => f.size + g.size + 1
  | .less f g => f.size + g.size + 1
  | .times f g => f.size + g.size + 1
  | .turned f => f.size + 1
theorem Fm.size_pos : ∀ f : Fm, 1 ≤ f.size
  | .name _ => Nat.le_refl _
  | .num _ => Nat.le_refl _
  | .plus _ _ => by unfold Fm.size; omega
  | .less _ _ => by unfold Fm.size; omega
  | .times _ _ => by unfold Fm.size; omega
  | .turned _ => by unfold Fm.size; omega
/-- its names are some names, its numbers from 0 to 10 ** 12 -/
def FmOk (N : Str → Prop) : Fm → Prop
  | .name n => N n
  | .num n => 0 ≤ n ∧ n ≤ 1000000000000
  | .plus f g => FmOk N f ∧ FmOk N g
  | .less f g => FmOk N f ∧ FmOk N g
  | .times f g => FmOk N f ∧ FmOk N g
  | .turned f => FmOk N f
theorem FmOk.mono {N M : Str → Prop} (h : ∀ n, N n → M n) : ∀ {f : Fm}, FmOk N f → FmOk M f
  | .name _, k => h _ k
  | .num _, k => k
  | .plus _ _, k => ⟨k.1.mono h, k.2.mono h⟩
  | .less _ _, k => ⟨k.1.mono h, k.2.mono h⟩
  | .times _ _, k => ⟨k.1.mono h, k.2.mono h⟩
  | .turned f, k => FmOk.mono (f := f) h (show FmOk N f from k)
theorem pow_le_of {a b : Nat} (h : a ≤ b) : 2 ^ a ≤ 2 ^ b := Nat.pow_le_pow_right (by decide) h
theorem mul_abs {i j : Int} {n m : Nat} (hi : i.natAbs < 2 ^ n) (hj : j.natAbs < 2 ^ m) (h : n + m ≤ 1000000) : IntMulOk i j :=
  CMulX.ok (show (Builtin.Int.intBits i : Int) + (Builtin.Int.intBits j : Int) ≤ 134217728 by have := bits_of_int hi; have := bits_of_int hj; omega)
/-! a copy of a dict -/
def rCopyD : V → List V → Hp → VK → Prop := fun x xs H Q => ∃ (a : Addr) (kvs : List (Key × V)), x = .ref a ∧ xs = [] ∧ H a = some (.dK kvs) ∧ ∀ p, H p = none → Q (.ref p) (upd H p (.dK kvs))
theorem w_copyD {H : Hp} {Q : VK} {a : Addr} {kvs : List (Key × V)} (h : H a = some (.dK kvs)) (q : ∀ p H', H p = none → Same H H' → H' p = some (.dK kvs) → Q (.ref p) H') : rCopyD (.ref a) [] H Q :=
  ⟨a, kvs, rfl, rfl, h, fun p hp => q p _ hp (same_upd hp) upd_same⟩
theorem w_BM0D {K : PySem.W.Frag} {H : Hp} {Q : VK} {f : V → List V → Hp → VK → Prop} {p : Addr} {kvs : List (Key × V)} (e : H p = some (.dK kvs)) (q : f (.ref p) [] H Q) : BM0 K "dict" f Q (.ref p) H := ⟨.inr (.inr (.inl ⟨rfl, .inl ⟨kvs, e⟩⟩)), q⟩
/-! the last of a list taken off -/
theorem w_pop {H : Hp} {Q : VK} {p : Addr} {xs : List V} {y : V} (e : H p = some (.lst (xs ++ [y]))) (q : Q y (upd H p (.lst xs))) : rPop (.ref p) [] H Q :=
  ⟨p, xs ++ [y], y, rfl, rfl, e, by rw [List.length_append, List.length_singleton, Nat.add_sub_cancel, List.getElem?_append_right (Nat.le_refl _), Nat.sub_self]; rfl, by rw [List.dropLast_concat]; exact q⟩
/-! texts put together -/
def rAddS : R2 := fun x y H Q => ∃ i j : Str, x = .str i ∧ y = .str j ∧ i.length + j.length ≤ sizeLine ∧ Q (.str (i ++ j)) H
theorem op_addS {X : Cx} : OpR X (binaryOp .Add) rAddS := op_add_str
theorem w_addS {H : Hp} {Q : VK} {i j : Str} (h : i.length + j.length ≤ 1000000) (q : Q (.str (i ++ j)) H) : rAddS (.str i) (.str j) H Q := ⟨i, j, rfl, rfl, Nat.le_trans h (by rw [sizeLine_eq]; decide), q⟩
theorem app_cps (x y : Str) : (x ++ y).cps.toList = x.cps.toList ++ y.cps.toList := TL.tl_append x y
theorem len_cps (x : Str) : x.length = x.cps.toList.length := (Array.length_toList).symm
theorem app_len (x y : Str) : (x ++ y).length = x.length + y.length := by rw [len_cps, app_cps, List.length_append, len_cps, len_cps]
end Dpr
namespace Dpr
open PySem PySem.Spec PyProof.Rows L2
/-! between which numbers a formula lies -/
def spanW (w : Int) : Int × Int := if 0 < w then (0, 2 ^ w.toNat - 1) else (-(2 ^ (-w - 1).toNat), 2 ^ (-w - 1).toNat - 1)
def min4 (a b c d : Int) : Int := min (min a b) (min c d)
def max4 (a b c d : Int) : Int := max (max a b) (max c d)
def mulSpan (s t : Int × Int) : Int × Int := (min4 (s.1 * t.1) (s.1 * t.2) (s.2 * t.1) (s.2 * t.2), max4 (s.1 * t.1) (s.1 * t.2) (s.2 * t.1) (s.2 * t.2))
def spanF (ws : List (Str × Int)) : Fm → Int × Int
  | .name n => spanW ((lookW ws n).getD 1)
  | .num n => (n, n)
  | .plus f g => ((spanF ws f).1 + (spanF ws g).1, (spanF ws f).2 + (spanF ws g).2)
  | .less f g => ((spanF ws f).1 - (spanF ws g).2, (spanF ws f).2 - (spanF ws g).1)
  | .times f g => mulSpan (spanF ws f) (spanF ws g)
  | .turned f => (-(spanF ws f).2, -(spanF ws f).1)
/-- widths -/
def WdOk (ws : List (Str × Int)) : Prop := ∀ n v, lookW ws n = some v → v ≠ 0 ∧ -24 ≤ v ∧ v ≤ 24
theorem wd_put {ws : List (Str × Int)} (h : WdOk ws) {n : Str} {v : Int} (hv : v ≠ 0 ∧ -24 ≤ v ∧ v ≤ 24) : WdOk (putW ws n v) := by
  intro m u hu
  rw [look_put] at hu
  split at hu
  · cases hu; exact hv
  · exact h m u hu
theorem wd_get {ws : List (Str × Int)} (h : WdOk ws) (n : Str) : (lookW ws n).getD 1 ≠ 0 ∧ -24 ≤ (lookW ws n).getD 1 ∧ (lookW ws n).getD 1 ≤ 24 := by
  cases e : lookW ws n with
  | none => exact ⟨by decide, by decide, by decide⟩
  | some v => exact h n v e
theorem p2le {k : Nat} (h : k ≤ 24) : 1 ≤ (2 : Int) ^ k ∧ (2 : Int) ^ k ≤ 16777216 := by
  have h1 : (2 : Nat) ^ k ≤ 2 ^ 24 := Nat.pow_le_pow_right (by decide) h
  have h0 : 0 < (2 : Nat) ^ k := Nat.pow_pos (by decide)
  have e : ((2 : Int) ^ k) = ((2 ^ k : Nat) : Int) := by rw [Int.natCast_pow]; rfl
  rw [e]
  have e2 : (2 : Nat) ^ 24 = 16777216 := by decide
  omega
theorem spanW_bd {w : Int} (h : w ≠ 0 ∧ -24 ≤ w ∧ w ≤ 24) : (spanW w).1 ≤ (spanW w).2 ∧ -16777216 ≤ (spanW w).1 ∧ (spanW w).2 ≤ 16777216 ∧ (spanW w).1 ≤ 0 ∧ 0 ≤ (spanW w).2 := by
  unfold spanW
  split
  · have := p2le (k := w.toNat) (by omega)
    exact ⟨by show (0 : Int) ≤ 2 ^ w.toNat - 1; omega, by show (-16777216 : Int) ≤ 0; decide, by show 2 ^ w.toNat - 1 ≤ (16777216 : Int); omega, by show (0 : Int) ≤ 0; decide, by show (0 : Int) ≤ 2 ^ w.toNat - 1; omega⟩
  · have := p2le (k := (-w - 1).toNat) (by omega)
    refine ⟨?_, ?_, ?_, ?_, ?_⟩
    · show -(2 ^ (-w - 1).toNat) ≤ (2 : Int) ^ (-w - 1).toNat - 1; omega
    · show (-16777216 : Int) ≤ -(2 ^ (-w - 1).toNat); omega
    · show (2 : Int) ^ (-w - 1).toNat - 1 ≤ 16777216; omega
    · show -((2 : Int) ^ (-w - 1).toNat) ≤ 0; omega
    · show (0 : Int) ≤ 2 ^ (-w - 1).toNat - 1; omega
def Bd (s : Int × Int) (n : Nat) : Prop := s.1.natAbs < 2 ^ n ∧ s.2.natAbs < 2 ^ n
theorem min_or (a b : Int) : min a b = a ∨ min a b = b := by omega
theorem max_or (a b : Int) : max a b = a ∨ max a b = b := by omega
theorem min4_mem (a b c d : Int) : min4 a b c d ∈ [a, b, c, d] ∧ ∀ y ∈ [a, b, c, d], min4 a b c d ≤ y := by
  unfold min4
  constructor
  · rcases min_or (min a b) (min c d) with e | e <;> rw [e]
    · rcases min_or a b with e | e <;> rw [e]
      · exact List.mem_cons_self ..
      · exact List.mem_cons_of_mem _ (List.mem_cons_self ..)
    · rcases min_or c d with e | e <;> rw [e]
      · exact List.mem_cons_of_mem _ (List.mem_cons_of_mem _ (List.mem_cons_self ..))
      · exact List.mem_cons_of_mem _ (List.mem_cons_of_mem _ (List.mem_cons_of_mem _ (List.mem_cons_self ..)))
  · intro y hy
    rcases List.mem_cons.mp hy with rfl | hy
    · exact Int.le_trans (Int.min_le_left ..) (Int.min_le_left ..)
    rcases List.mem_cons.mp hy with rfl | hy
    · exact Int.le_trans (Int.min_le_left ..) (Int.min_le_right ..)
    rcases List.mem_cons.mp hy with rfl | hy
    · exact Int.le_trans (Int.min_le_right ..) (Int.min_le_left ..)
    · rw [List.mem_singleton.mp hy]
      exact Int.le_trans (Int.min_le_right ..) (Int.min_le_right ..)
theorem max4_mem (a b c d : Int) : max4 a b c d ∈ [a, b, c, d] ∧ ∀ y ∈ [a, b, c, d], y ≤ max4 a b c d := by
  unfold max4
  constructor
  · rcases max_or (max a b) (max c d) with e | e <;> rw [e]
    · rcases max_or a b with e | e <;> rw [e]
      · exact List.mem_cons_self ..
      · exact List.mem_cons_of_mem _ (List.mem_cons_self ..)
    · rcases max_or c d with e | e <;> rw [e]
      · exact List.mem_cons_of_mem _ (List.mem_cons_of_mem _ (List.mem_cons_self ..))
      · exact List.mem_cons_of_mem _ (List.mem_cons_of_mem _ (List.mem_cons_of_mem _ (List.mem_cons_self ..)))
  · intro y hy
    rcases List.mem_cons.mp hy with rfl | hy
    · exact Int.le_trans (Int.le_max_left ..) (Int.le_max_left ..)
    rcases List.mem_cons.mp hy with rfl | hy
    · exact Int.le_trans (Int.le_max_right ..) (Int.le_max_left ..)
    rcases List.mem_cons.mp hy with rfl | hy
    · exact Int.le_trans (Int.le_max_left ..) (Int.le_max_right ..)
    · rw [List.mem_singleton.mp hy]
      exact Int.le_trans (Int.le_max_right ..) (Int.le_max_right ..)
theorem abs_two {x y : Int} {A B C : Nat} (hx : x.natAbs < A) (hy : y.natAbs < B) (p1 : A * 2 ≤ C) (p2 : B * 2 ≤ C) : (x + y).natAbs < C ∧ (x - y).natAbs < C := by omega
theorem pow_two_le {k a n : Nat} (hk : 1 ≤ k) (h : a + 1 ≤ n) : 2 ^ (k * a) * 2 ≤ 2 ^ (k * n) := by
  rw [← Nat.pow_succ]
  exact pow_le_of (Nat.le_trans (Nat.add_le_add_left hk _) (by rw [← Nat.mul_succ]; exact Nat.mul_le_mul_left k h))
theorem span_bdn {N : Str → Prop} {ws : List (Str × Int)} {k : Nat} (hk : 41 ≤ k) (hw : WdOk ws) : ∀ {f : Fm}, FmOk N f → Bd (spanF ws f) (k * f.size)
  | .name n, _ => by
    have p : 2 ^ 25 ≤ 2 ^ (k * Fm.size (.name n)) := pow_le_of (by show 25 ≤ k * 1; rw [Nat.mul_one]; exact Nat.le_trans (by decide) hk)
    have e : 2 ^ 25 = 33554432 := by decide
    have b := spanW_bd (wd_get hw n)
    show (spanW ((lookW ws n).getD 1)).1.natAbs < _ ∧ (spanW ((lookW ws n).getD 1)).2.natAbs < _
    generalize 2 ^ (k * Fm.size (.name n)) = X at *
    clear hw hk
    omega
  | .num n, h => by
    have p : 2 ^ 41 ≤ 2 ^ (k * Fm.size (.num n)) := pow_le_of (by show 41 ≤ k * 1; rw [Nat.mul_one]; exact hk)
    have e : 2 ^ 41 = 2199023255552 := by decide
    have h1 := h.1
    have h2 := h.2
    have q : n.natAbs < 2 ^ (k * Fm.size (.num n)) := by
      generalize 2 ^ (k * Fm.size (.num n)) = X at *
      clear hw hk h
      omega
    exact ⟨q, q⟩
  | .plus f g, h => by
    have a := span_bdn hk hw h.1
    have b := span_bdn hk hw h.2
    have p1 : 2 ^ (k * f.size) * 2 ≤ 2 ^ (k * Fm.size (.plus f g)) := pow_two_le (by omega) (show f.size + 1 ≤ f.size + g.size + 1 by omega)
    have p2 : 2 ^ (k * g.size) * 2 ≤ 2 ^ (k * Fm.size (.plus f g)) := pow_two_le (by omega) (show g.size + 1 ≤ f.size + g.size + 1 by omega)
    exact ⟨(abs_two a.1 b.1 p1 p2).1, (abs_two a.2 b.2 p1 p2).1⟩
  | .less f g, h => by
    have a := span_bdn hk hw h.1
    have b := span_bdn hk hw h.2
    have p1 : 2 ^ (k * f.size) * 2 ≤ 2 ^ (k * Fm.size (.less f g)) := pow_two_le (by omega) (show f.size + 1 ≤ f.size + g.size + 1 by omega)
    have p2 : 2 ^ (k * g.size) * 2 ≤ 2 ^ (k * Fm.size (.less f g)) := pow_two_le (by omega) (show g.size + 1 ≤ f.size + g.size + 1 by omega)
    exact ⟨(abs_two a.1 b.2 p1 p2).2, (abs_two a.2 b.1 p1 p2).2⟩
  | .times f g, h => by
    have a := span_bdn hk hw h.1
    have b := span_bdn hk hw h.2
    have p1 : 2 ^ (k * f.size) * 2 ^ (k * g.size) ≤ 2 ^ (k * Fm.size (.times f g)) := by
      rw [← Nat.pow_add, ← Nat.mul_add]
      exact pow_le_of (Nat.mul_le_mul_left k (Nat.le_succ _))
    have m : ∀ x y : Int, x.natAbs < 2 ^ (k * f.size) → y.natAbs < 2 ^ (k * g.size) → (x * y).natAbs < 2 ^ (k * Fm.size (.times f g)) := fun x y hx hy => by
      rw [Int.natAbs_mul]
      exact Nat.lt_of_lt_of_le (Nat.mul_lt_mul'' hx hy) p1
    have all : ∀ z ∈ [(spanF ws f).1 * (spanF ws g).1, (spanF ws f).1 * (spanF ws g).2, (spanF ws f).2 * (spanF ws g).1, (spanF ws f).2 * (spanF ws g).2], z.natAbs < 2 ^ (k * Fm.size (.times f g)) := by
      intro z hz
      simp only [List.mem_cons, List.not_mem_nil, or_false] at hz
      rcases hz with rfl | rfl | rfl | rfl
      · exact m _ _ a.1 b.1
      · exact m _ _ a.1 b.2
      · exact m _ _ a.2 b.1
      · exact m _ _ a.2 b.2
    exact ⟨all _ (min4_mem _ _ _ _).1, all _ (max4_mem _ _ _ _).1⟩
  | .turned f, h => by
    have a := span_bdn hk hw (f := f) h
    have p1 : 2 ^ (k * f.size) ≤ 2 ^ (k * Fm.size (.turned f)) := pow_le_of (Nat.mul_le_mul_left k (Nat.le_succ _))
    show (-(spanF ws f).2).natAbs < _ ∧ (-(spanF ws f).1).natAbs < _
    rw [Int.natAbs_neg, Int.natAbs_neg]
    exact ⟨Nat.lt_of_lt_of_le a.2 p1, Nat.lt_of_lt_of_le a.1 p1⟩
theorem span_bd {N : Str → Prop} {ws : List (Str × Int)} (hw : WdOk ws) {f : Fm} (h : FmOk N f) : Bd (spanF ws f) (301 * f.size) := span_bdn (by decide) hw h
theorem min_is {a b c d m : Int} (h1 : m ∈ [a, b, c, d]) (h2 : ∀ y ∈ [a, b, c, d], m ≤ y) : m = min4 a b c d := by
  have k := min4_mem a b c d
  exact Int.le_antisymm (h2 _ k.1) (k.2 _ h1)
theorem max_is {a b c d m : Int} (h1 : m ∈ [a, b, c, d]) (h2 : ∀ y ∈ [a, b, c, d], y ≤ m) : m = max4 a b c d := by
  have k := max4_mem a b c d
  exact Int.le_antisymm (k.2 _ h1) (h2 _ k.1)
theorem w_minL {K : PySem.W.Frag} {H : Hp} {Q : VK} {p : Addr} {ns : List Int} (h : SqL K H p (ns.map V.int)) (hn : 0 < ns.length) (q : ∀ m, m ∈ ns → (∀ y ∈ ns, m ≤ y) → Q (.int m) H) : rMin K [.ref p] H Q := ⟨p, ns, rfl, h, hn, q⟩
theorem c_minK {X : Cx} (K : PySem.W.Frag) (e : X.K = K := by rfl) (hc : X.calm = true := by rfl) : CallR X (.builtin "min") (rMin K) := by subst e; exact cr_min hc
end Dpr
namespace Dpr
open PySem PySem.Spec PyProof.Rows L2
theorem span_bd41 {N : Str → Prop} {ws : List (Str × Int)} (hw : WdOk ws) {f : Fm} (h : FmOk N f) : Bd (spanF ws f) (41 * f.size) := span_bdn (Nat.le_refl _) hw h
end Dpr
namespace Dpr
open PySem PySem.Spec PyProof.Rows L2
/-! a reader of formulas as a function; fuel is the depth -/
/-- how many signs from here on are some signs -/
def runN (ss : List Nat) : List Nat → Nat
  | [] => 0
  | c :: r => if c ∈ ss then runN ss r + 1 else 0
theorem runN_le (ss : List Nat) : ∀ cs : List Nat, runN ss cs ≤ cs.length
  | [] => Nat.le_refl _
  | c :: r => by
    have := runN_le ss r
    unfold runN
    split
    · rw [List.length_cons]; omega
    · exact Nat.zero_le _
theorem runN_mem (ss : List Nat) : ∀ cs : List Nat, ∀ c ∈ cs.take (runN ss cs), c ∈ ss
  | [], c, h => by cases h
  | c :: r, x, h => by
    unfold runN at h
    split at h
    · rename_i hc
      rw [List.take_succ_cons] at h
      rcases List.mem_cons.mp h with e | e
      · rw [e]; exact hc
      · exact runN_mem ss r x e
    · cases h
/-- the head of what is left is none of some signs -/
def OffHead (ss : List Nat) (cs : List Nat) : Prop := ∀ c, cs.head? = some c → c ∉ ss
theorem runN_off {ss cs : List Nat} (h : OffHead ss cs) : runN ss cs = 0 := by
  cases cs with
  | nil => rfl
  | cons c r => unfold runN; rw [if_neg (h c rfl)]
theorem runN_app {ss : List Nat} : ∀ {xs rest : List Nat}, (∀ c ∈ xs, c ∈ ss) → OffHead ss rest → runN ss (xs ++ rest) = xs.length
  | [], rest, _, h => runN_off h
  | x :: xs, rest, hx, h => by
    show (if x ∈ ss then runN ss (xs ++ rest) + 1 else 0) = _
    rw [if_pos (hx x (List.mem_cons_self ..)), runN_app (fun c hc => hx c (List.mem_cons_of_mem _ hc)) h]
    rfl
inductive Pr where
  | out | no | ok (f : Fm) (rest : List Nat)
def digF (cs : List Nat) : Int := cs.foldl (fun (v : Int) (c : Nat) => 10 * v + ((c : Int) - 48)) 0
def smallL : List Nat := [97, 98, 99, 100, 101, 102, 103, 104, 105, 106, 107, 108, 109, 110, 111, 112, 113, 114, 115, 116, 117, 118, 119, 120, 121, 122]
def figL : List Nat := [48, 49, 50, 51, 52, 53, 54, 55, 56, 57]
theorem smallL_eq : ("abcdefghijklmnopqrstuvwxyz" : Str).cps.toList = smallL := by decide +kernel
theorem figL_eq : ("0123456789" : Str).cps.toList = figL := by decide +kernel
theorem small_iff {c : Nat} : c ∈ smallL ↔ 97 ≤ c ∧ c ≤ 122 := by
  rw [show smallL = List.range' 97 26 from rfl, List.mem_range'_1]
  omega
theorem fig_iff {c : Nat} : c ∈ figL ↔ 48 ≤ c ∧ c ≤ 57 := by
  rw [show figL = List.range' 48 10 from rfl, List.mem_range'_1]
  omega
def leafF (cs : List Nat) : Pr :=
  let a := runN smallL cs
  if 0 < a ∧ a < 7 then .ok (.name ⟨(cs.take a).toArray⟩) (cs.drop a)
  else
    let b := runN figL (cs.drop a)
    if a ≠ 0 ∨ ¬ (0 < b ∧ b < 14) then .no
    else if (cs.head? = some 48 ∧ 1 < b) ∨ 1000000000000 < digF (cs.take b) then .no
    else .ok (.num (digF (cs.take b))) (cs.drop b)
def pieceF (tot piece : List Nat → Pr) : List Nat → Pr
  | 45 :: r => match piece r with
    | .ok f r' => .ok (.turned f) r'
    | e => e
  | 40 :: r => match tot r with
    | .ok f (41 :: r') => .ok f r'
    | .ok _ _ => .no
    | e => e
  | cs => leafF cs
def timesF (piece : List Nat → Pr) : Nat → Fm → List Nat → Pr
  | k + 1, f, 42 :: r => match piece r with
    | .ok g r' => timesF piece k (.times f g) r'
    | e => e
  | _, f, cs => .ok f cs
def prodF (piece : List Nat → Pr) (cs : List Nat) : Pr := match piece cs with
  | .ok f r => timesF piece r.length f r
  | e => e
def sumsF (prod : List Nat → Pr) : Nat → Fm → List Nat → Pr
  | k + 1, f, 43 :: r => match prod r with
    | .ok g r' => sumsF prod k (.plus f g) r'
    | e => e
  | k + 1, f, 45 :: r => match prod r with
    | .ok g r' => sumsF prod k (.less f g) r'
    | e => e
  | _, f, cs => .ok f cs
def totF (prod : List Nat → Pr) (cs : List Nat) : Pr := match prod cs with
  | .ok f r => sumsF prod r.length f r
  | e => e
/-- total, product, piece, with so much fuel -/
def parseN : Nat → (List Nat → Pr) × (List Nat → Pr) × (List Nat → Pr)
  | 0 => (fun _ => .out, fun _ => .out, fun _ => .out)
  | n + 1 => (totF (parseN n).2.1, prodF (parseN n).2.2, pieceF (parseN n).1 (parseN n).2.2)
/-! one step each -/
theorem timesF_stop {p : List Nat → Pr} {k : Nat} {f : Fm} {cs : List Nat} (h : cs.head? ≠ some 42) : timesF p k f cs = .ok f cs := by
  cases k with
  | zero => rfl
  | succ k =>
    unfold timesF
    split
    · exact absurd rfl h
    · rfl
theorem timesF_go {p : List Nat → Pr} {k : Nat} {f : Fm} {r : List Nat} : timesF p (k + 1) f (42 :: r) = match p r with
    | .ok g r' => timesF p k (.times f g) r'
    | e => e := rfl
theorem sumsF_plus {p : List Nat → Pr} {k : Nat} {f : Fm} {r : List Nat} : sumsF p (k + 1) f (43 :: r) = match p r with
    | .ok g r' => sumsF p k (.plus f g) r'
    | e => e := rfl
theorem sumsF_less {p : List Nat → Pr} {k : Nat} {f : Fm} {r : List Nat} : sumsF p (k + 1) f (45 :: r) = match p r with
    | .ok g r' => sumsF p k (.less f g) r'
    | e => e := rfl
theorem sumsF_stop {p : List Nat → Pr} {k : Nat} {f : Fm} {cs : List Nat} (h : cs.head? ≠ some 43) (h2 : cs.head? ≠ some 45) : sumsF p k f cs = .ok f cs := by
  cases k with
  | zero => rfl
  | succ k =>
    unfold sumsF
    split
    · exact absurd rfl h
    · exact absurd rfl h2
    · rfl
theorem pieceF_leaf {t p : List Nat → Pr} {cs : List Nat} (h : cs.head? ≠ some 45) (h2 : cs.head? ≠ some 40) : pieceF t p cs = leafF cs := by
  unfold pieceF
  split
  · exact absurd rfl h
  · exact absurd rfl h2
  · rfl
/-! what a text writes -/
inductive Wr : Nat → Fm → List Nat → Prop
  | name {n : Str} (h0 : 0 < n.cps.toList.length) (h7 : n.cps.toList.length < 7) (hs : ∀ c ∈ n.cps.toList, c ∈ smallL) : Wr 2 (.name n) n.cps.toList
  | num {cs : List Nat} (h0 : 0 < cs.length) (h14 : cs.length < 14) (hs : ∀ c ∈ cs, c ∈ figL) (hz : cs.head? = some 48 → cs.length ≤ 1) (hm : digF cs ≤ 1000000000000) : Wr 2 (.num (digF cs)) cs
  | turned {f : Fm} {cs : List Nat} (h : Wr 2 f cs) : Wr 2 (.turned f) (45 :: cs)
  | held {f : Fm} {cs : List Nat} (h : Wr 0 f cs) : Wr 2 f (40 :: (cs ++ [41]))
  | one {f : Fm} {cs : List Nat} (h : Wr 2 f cs) : Wr 1 f cs
  | sum {f : Fm} {cs : List Nat} (h : Wr 1 f cs) : Wr 0 f cs
  | times {f g : Fm} {cs ds : List Nat} (h : Wr 1 f cs) (k : Wr 2 g ds) : Wr 1 (.times f g) (cs ++ 42 :: ds)
  | plus {f g : Fm} {cs ds : List Nat} (h : Wr 0 f cs) (k : Wr 1 g ds) : Wr 0 (.plus f g) (cs ++ 43 :: ds)
  | less {f g : Fm} {cs ds : List Nat} (h : Wr 0 f cs) (k : Wr 1 g ds) : Wr 0 (.less f g) (cs ++ 45 :: ds)
/-! what is read is written so -/
def Sound (r : Nat) (p : List Nat → Pr) : Prop := ∀ cs f rest, p cs = .ok f rest → ∃ pre, cs = pre ++ rest ∧ Wr r f pre
theorem leaf_sound : Sound 2 leafF := by
  intro cs f rest h
  unfold leafF at h
  dsimp only at h
  split at h
  · rename_i ha
    cases h
    refine ⟨cs.take (runN smallL cs), (List.take_append_drop _ _).symm, ?_⟩
    have hl : (cs.take (runN smallL cs)).length = runN smallL cs := by
      rw [List.length_take]
      exact Nat.min_eq_left (runN_le _ _)
    exact Wr.name (n := ⟨(cs.take (runN smallL cs)).toArray⟩) (by show 0 < (cs.take (runN smallL cs)).length; rw [hl]; exact ha.1) (by show (cs.take (runN smallL cs)).length < 7; rw [hl]; exact ha.2) (runN_mem smallL cs)
  · split at h
    · cases h
    · rename_i hb
      split at h
      · cases h
      · rename_i hc
        cases h
        have ha0 : runN smallL cs = 0 := Classical.byContradiction fun z => hb (.inl z)
        have hb2 := Classical.not_not.mp fun z => hb (.inr z)
        rw [ha0, List.drop_zero] at hb2 hc ⊢
        have hl : (cs.take (runN figL cs)).length = runN figL cs := by
          rw [List.length_take]
          exact Nat.min_eq_left (runN_le _ _)
        refine ⟨cs.take (runN figL cs), (List.take_append_drop _ _).symm, Wr.num (by omega) (by omega) (runN_mem figL cs) (fun e => ?_) (by omega)⟩
        rw [hl]
        refine Nat.le_of_not_lt fun z => hc (.inl ⟨?_, z⟩)
        rw [List.head?_take, if_neg (by omega)] at e
        exact e
theorem times_sound {p : List Nat → Pr} (hp : Sound 2 p) : ∀ (k : Nat) (f : Fm) (pre cs : List Nat) (g : Fm) (rest : List Nat), Wr 1 f pre → timesF p k f cs = .ok g rest → ∃ pre', cs = pre' ++ rest ∧ Wr 1 g (pre ++ pre') := by
  intro k
  induction k with
  | zero =>
    intro f pre cs g rest hf h
    cases h
    exact ⟨[], rfl, by rw [List.append_nil]; exact hf⟩
  | succ k ih =>
    intro f pre cs g rest hf h
    by_cases e : cs.head? = some 42
    · cases cs with
      | nil => cases e
      | cons c r =>
        cases e
        rw [timesF_go] at h
        split at h
        · rename_i g1 r1 e1
          obtain ⟨p1, rfl, h1⟩ := hp _ _ _ e1
          obtain ⟨p2, rfl, h2⟩ := ih _ (pre ++ 42 :: p1) _ _ _ (hf.times h1) h
          refine ⟨42 :: (p1 ++ p2), by rw [List.cons_append, List.append_assoc], ?_⟩
          rw [List.append_assoc, List.cons_append] at h2
          exact h2
        · rename_i q
          exact absurd h (q _ _)
    · rw [timesF_stop e] at h
      cases h
      exact ⟨[], rfl, by rw [List.append_nil]; exact hf⟩
theorem prod_sound {p : List Nat → Pr} (hp : Sound 2 p) : Sound 1 (prodF p) := by
  intro cs f rest h
  unfold prodF at h
  split at h
  · rename_i g r e
    obtain ⟨p1, rfl, h1⟩ := hp _ _ _ e
    obtain ⟨p2, rfl, h2⟩ := times_sound hp _ _ p1 _ _ _ h1.one h
    exact ⟨p1 ++ p2, (List.append_assoc ..).symm, h2⟩
  · rename_i q
    exact absurd h (q _ _)
theorem sums_sound {p : List Nat → Pr} (hp : Sound 1 p) : ∀ (k : Nat) (f : Fm) (pre cs : List Nat) (g : Fm) (rest : List Nat), Wr 0 f pre → sumsF p k f cs = .ok g rest → ∃ pre', cs = pre' ++ rest ∧ Wr 0 g (pre ++ pre') := by
  intro k
  induction k with
  | zero =>
    intro f pre cs g rest hf h
    cases h
    exact ⟨[], rfl, by rw [List.append_nil]; exact hf⟩
  | succ k ih =>
    intro f pre cs g rest hf h
    by_cases e : cs.head? = some 43
    · cases cs with
      | nil => cases e
      | cons c r =>
        cases e
        rw [sumsF_plus] at h
        split at h
        · rename_i g1 r1 e1
          obtain ⟨p1, rfl, h1⟩ := hp _ _ _ e1
          obtain ⟨p2, rfl, h2⟩ := ih _ (pre ++ 43 :: p1) _ _ _ (hf.plus h1) h
          refine ⟨43 :: (p1 ++ p2), by rw [List.cons_append, List.append_assoc], ?_⟩
          rw [List.append_assoc, List.cons_append] at h2
          exact h2
        · rename_i q
          exact absurd h (q _ _)
    · by_cases e2 : cs.head? = some 45
      · cases cs with
        | nil => cases e2
        | cons c r =>
          cases e2
          rw [sumsF_less] at h
          split at h
          · rename_i g1 r1 e1
            obtain ⟨p1, rfl, h1⟩ := hp _ _ _ e1
            obtain ⟨p2, rfl, h2⟩ := ih _ (pre ++ 45 :: p1) _ _ _ (hf.less h1) h
            refine ⟨45 :: (p1 ++ p2), by rw [List.cons_append, List.append_assoc], ?_⟩
            rw [List.append_assoc, List.cons_append] at h2
            exact h2
          · rename_i q
            exact absurd h (q _ _)
      · rw [sumsF_stop e e2] at h
        cases h
        exact ⟨[], rfl, by rw [List.append_nil]; exact hf⟩
theorem tot_sound {p : List Nat → Pr} (hp : Sound 1 p) : Sound 0 (totF p) := by
  intro cs f rest h
  unfold totF at h
  split at h
  · rename_i g r e
    obtain ⟨p1, rfl, h1⟩ := hp _ _ _ e
    obtain ⟨p2, rfl, h2⟩ := sums_sound hp _ _ p1 _ _ _ h1.sum h
    exact ⟨p1 ++ p2, (List.append_assoc ..).symm, h2⟩
  · rename_i q
    exact absurd h (q _ _)
theorem piece_sound {t p : List Nat → Pr} (ht : Sound 0 t) (hp : Sound 2 p) : Sound 2 (pieceF t p) := by
  intro cs f rest h
  unfold pieceF at h
  split at h
  · split at h
    · rename_i g r e
      cases h
      obtain ⟨p1, rfl, h1⟩ := hp _ _ _ e
      exact ⟨45 :: p1, rfl, h1.turned⟩
    · rename_i q
      exact absurd h (q _ _)
  · split at h
    · rename_i g r e
      cases h
      obtain ⟨p1, rfl, h1⟩ := ht _ _ _ e
      exact ⟨40 :: (p1 ++ [41]), by rw [List.cons_append, List.append_assoc]; rfl, h1.held⟩
    · cases h
    · rename_i q
      exact absurd h (q _ _)
  · exact leaf_sound _ _ _ h
theorem parse_sound : ∀ n : Nat, Sound 0 (parseN n).1 ∧ Sound 1 (parseN n).2.1 ∧ Sound 2 (parseN n).2.2
  | 0 => ⟨(fun _ _ _ h => by cases h), (fun _ _ _ h => by cases h), (fun _ _ _ h => by cases h)⟩
  | n + 1 => ⟨tot_sound (parse_sound n).2.1, prod_sound (parse_sound n).2.2, piece_sound (parse_sound n).1 (parse_sound n).2.2⟩
/-! there is fuel enough -/
def wgt (cs : List Nat) : Nat := cs.countP fun c => c == 40 || c == 45
theorem wgt_app (xs ys : List Nat) : wgt (xs ++ ys) = wgt xs + wgt ys := List.countP_append ..
theorem wgt_cons (c : Nat) (xs : List Nat) : wgt xs ≤ wgt (c :: xs) := by
  rw [← List.singleton_append, wgt_app]
  omega
theorem wgt_40 (xs : List Nat) : wgt (40 :: xs) = wgt xs + 1 := List.countP_cons_of_pos rfl
theorem wgt_45 (xs : List Nat) : wgt (45 :: xs) = wgt xs + 1 := List.countP_cons_of_pos rfl
def NoOut (p : List Nat → Pr) (m : Nat) : Prop := ∀ cs, wgt cs ≤ m → p cs ≠ .out
theorem leaf_noOut (cs : List Nat) : leafF cs ≠ .out := by
  unfold leafF
  dsimp only
  split
  · intro h; cases h
  · split
    · intro h; cases h
    · split <;> (intro h; cases h)
theorem times_noOut {p : List Nat → Pr} {m : Nat} (hs : Sound 2 p) (hp : NoOut p m) : ∀ (k : Nat) (f : Fm) (cs : List Nat), wgt cs ≤ m → timesF p k f cs ≠ .out := by
  intro k
  induction k with
  | zero => intro f cs _ h; cases h
  | succ k ih =>
    intro f cs hm
    by_cases e : cs.head? = some 42
    · cases cs with
      | nil => cases e
      | cons c r =>
        cases e
        rw [timesF_go]
        have hr : wgt r ≤ m := Nat.le_trans (wgt_cons 42 r) hm
        split
        · rename_i g1 r1 e1
          obtain ⟨p1, rfl, h1⟩ := hs _ _ _ e1
          rw [wgt_app] at hr
          exact ih _ _ (by omega)
        · exact hp _ hr
    · rw [timesF_stop e]
      intro h; cases h
theorem prod_noOut {p : List Nat → Pr} {m : Nat} (hs : Sound 2 p) (hp : NoOut p m) : NoOut (prodF p) m := by
  intro cs hm
  unfold prodF
  split
  · rename_i g r e
    obtain ⟨p1, rfl, h1⟩ := hs _ _ _ e
    rw [wgt_app] at hm
    exact times_noOut hs hp _ _ _ (by omega)
  · exact hp _ hm
theorem sums_noOut {p : List Nat → Pr} {m : Nat} (hs : Sound 1 p) (hp : NoOut p m) : ∀ (k : Nat) (f : Fm) (cs : List Nat), wgt cs ≤ m → sumsF p k f cs ≠ .out := by
  intro k
  induction k with
  | zero => intro f cs _ h; cases h
  | succ k ih =>
    intro f cs hm
    by_cases e : cs.head? = some 43
    · cases cs with
      | nil => cases e
      | cons c r =>
        cases e
        rw [sumsF_plus]
        have hr : wgt r ≤ m := Nat.le_trans (wgt_cons 43 r) hm
        split
        · rename_i g1 r1 e1
          obtain ⟨p1, rfl, h1⟩ := hs _ _ _ e1
          rw [wgt_app] at hr
          exact ih _ _ (by omega)
        · exact hp _ hr
    · by_cases e2 : cs.head? = some 45
      · cases cs with
        | nil => cases e2
        | cons c r =>
          cases e2
          rw [sumsF_less]
          have hr : wgt r ≤ m := Nat.le_trans (wgt_cons 45 r) hm
          split
          · rename_i g1 r1 e1
            obtain ⟨p1, rfl, h1⟩ := hs _ _ _ e1
            rw [wgt_app] at hr
            exact ih _ _ (by omega)
          · exact hp _ hr
      · rw [sumsF_stop e e2]
        intro h; cases h
theorem tot_noOut {p : List Nat → Pr} {m : Nat} (hs : Sound 1 p) (hp : NoOut p m) : NoOut (totF p) m := by
  intro cs hm
  unfold totF
  split
  · rename_i g r e
    obtain ⟨p1, rfl, h1⟩ := hs _ _ _ e
    rw [wgt_app] at hm
    exact sums_noOut hs hp _ _ _ (by omega)
  · exact hp _ hm
theorem piece_noOut {t p : List Nat → Pr} {m : Nat} (hp : NoOut p m) (ht : NoOut t m) : NoOut (pieceF t p) (m + 1) := by
  intro cs hm
  unfold pieceF
  split
  · rw [wgt_45] at hm
    split
    · intro h; cases h
    · exact hp _ (by omega)
  · rw [wgt_40] at hm
    split
    · intro h; cases h
    · intro h; cases h
    · exact ht _ (by omega)
  · exact leaf_noOut _
theorem piece_noOut0 {t p : List Nat → Pr} : NoOut (pieceF t p) 0 := by
  intro cs hm
  unfold pieceF
  split
  · rw [wgt_45] at hm
    omega
  · rw [wgt_40] at hm
    omega
  · exact leaf_noOut _
theorem NoOut.mono {p : List Nat → Pr} {m k : Nat} (h : NoOut p m) (l : k ≤ m) : NoOut p k := fun cs hc => h cs (Nat.le_trans hc l)
theorem parse_noOut : ∀ n m : Nat, (3 * m + 3 ≤ n → NoOut (parseN n).1 m) ∧ (3 * m + 2 ≤ n → NoOut (parseN n).2.1 m) ∧ (3 * m + 1 ≤ n → NoOut (parseN n).2.2 m)
  | 0, m => ⟨fun h => by omega, fun h => by omega, fun h => by omega⟩
  | n + 1, m => by
    have ih := parse_noOut n m
    refine ⟨fun h => tot_noOut (parse_sound n).2.1 (ih.2.1 (by omega)), fun h => prod_noOut (parse_sound n).2.2 (ih.2.2 (by omega)), fun h => ?_⟩
    cases m with
    | zero => exact piece_noOut0
    | succ m =>
      have ih := parse_noOut n m
      exact piece_noOut (ih.2.2 (by omega)) (ih.1 (by omega))
/-! what is written so is read -/
def Stop (cs : List Nat) : Prop := ∀ c, cs.head? = some c → c ∉ smallL ∧ c ∉ figL
theorem stop_nil : Stop [] := fun _ h => by cases h
theorem stop_cons {c : Nat} {r : List Nat} (h : c < 48) : Stop (c :: r) := fun d e => by
  cases e
  exact ⟨fun z => by have := small_iff.mp z; omega, fun z => by have := fig_iff.mp z; omega⟩
def FullW (r : Nat) (f : Fm) (cs : List Nat) : Prop := match r with
  | 2 => ∀ n rest, 3 * wgt cs + 1 ≤ n → Stop rest → (parseN n).2.2 (cs ++ rest) = .ok f rest
  | 1 => ∀ n rest, 3 * wgt cs + 2 ≤ n → Stop rest → ∃ k, rest.length ≤ k ∧ (parseN n).2.1 (cs ++ rest) = timesF (parseN (n - 1)).2.2 k f rest
  | _ => ∀ n rest, 3 * wgt cs + 3 ≤ n → Stop rest → rest.head? ≠ some 42 → ∃ k, rest.length ≤ k ∧ (parseN n).1 (cs ++ rest) = sumsF (parseN (n - 1)).2.1 k f rest
theorem leaf_name {n : Str} {rest : List Nat} (h0 : 0 < n.cps.toList.length) (h7 : n.cps.toList.length < 7) (hs : ∀ c ∈ n.cps.toList, c ∈ smallL) (st : Stop rest) : leafF (n.cps.toList ++ rest) = .ok (.name n) rest := by
  have e : runN smallL (n.cps.toList ++ rest) = n.cps.toList.length := runN_app hs (fun c h => (st c h).1)
  unfold leafF
  dsimp only
  rw [e, if_pos ⟨h0, h7⟩, List.take_left' rfl, List.drop_left' rfl]
theorem leaf_num {cs rest : List Nat} (h0 : 0 < cs.length) (h14 : cs.length < 14) (hs : ∀ c ∈ cs, c ∈ figL) (hz : cs.head? = some 48 → cs.length ≤ 1) (hm : digF cs ≤ 1000000000000) (st : Stop rest) : leafF (cs ++ rest) = .ok (.num (digF cs)) rest := by
  have e : runN figL (cs ++ rest) = cs.length := runN_app hs (fun c h => (st c h).2)
  have hh : (cs ++ rest).head? = cs.head? := by
    cases cs with
    | nil => cases h0
    | cons c r => rfl
  have e0 : runN smallL (cs ++ rest) = 0 := runN_off fun c h z => by
    rw [hh] at h
    have hc := hs c (List.mem_of_mem_head? h)
    have := small_iff.mp z
    have := fig_iff.mp hc
    omega
  unfold leafF
  dsimp only
  rw [e0, if_neg (by omega), List.drop_zero, e, if_neg (by omega), hh, List.take_left' rfl, List.drop_left' rfl, if_neg (by
    rintro (⟨a, b⟩ | b)
    · have := hz a
      omega
    · omega)]
theorem piece_leaf {n : Nat} {cs : List Nat} (h : cs.head? ≠ some 45) (h2 : cs.head? ≠ some 40) : (parseN (n + 1)).2.2 cs = leafF cs := pieceF_leaf h h2
theorem Wr.full {r : Nat} {f : Fm} {cs : List Nat} (h : Wr r f cs) : FullW r f cs := by
  induction h with
  | @name m h0 h7 hs =>
    intro n rest hn st
    obtain ⟨n, rfl⟩ : ∃ k, n = k + 1 := ⟨n - 1, by omega⟩
    have hh : ∀ d, (m.cps.toList ++ rest).head? = some d → d ∈ smallL := fun d e => by
      cases hc : m.cps.toList with
      | nil => rw [hc] at h0; cases h0
      | cons c r =>
        rw [hc] at e hs
        rw [← Option.some.inj (show some c = some d from e)]
        exact hs c (List.mem_cons_self ..)
    rw [piece_leaf (fun z => by have := small_iff.mp (hh _ z); omega) (fun z => by have := small_iff.mp (hh _ z); omega)]
    exact leaf_name h0 h7 hs st
  | @num cs h0 h14 hs hz hm =>
    intro n rest hn st
    obtain ⟨n, rfl⟩ : ∃ k, n = k + 1 := ⟨n - 1, by omega⟩
    have hh : ∀ d, (cs ++ rest).head? = some d → d ∈ figL := fun d e => by
      cases cs with
      | nil => cases h0
      | cons c r =>
        rw [← Option.some.inj (show some c = some d from e)]
        exact hs c (List.mem_cons_self ..)
    rw [piece_leaf (fun z => by have := fig_iff.mp (hh _ z); omega) (fun z => by have := fig_iff.mp (hh _ z); omega)]
    exact leaf_num h0 h14 hs hz hm st
  | @turned f cs h ih =>
    intro n rest hn st
    rw [wgt_45] at hn
    obtain ⟨n, rfl⟩ : ∃ k, n = k + 1 := ⟨n - 1, by omega⟩
    have e := ih n rest (by omega) st
    show (match (parseN n).2.2 (cs ++ rest) with
      | .ok f r' => Pr.ok (.turned f) r'
      | e => e) = _
    rw [e]
  | @held f cs h ih =>
    intro n rest hn st
    rw [wgt_40, wgt_app] at hn
    obtain ⟨n, rfl⟩ : ∃ k, n = k + 1 := ⟨n - 1, by omega⟩
    obtain ⟨k, hk, e⟩ := ih n (41 :: rest) (by omega) (stop_cons (by decide)) (by intro z; cases z)
    rw [sumsF_stop (by intro z; cases z) (by intro z; cases z)] at e
    show (match (parseN n).1 ((cs ++ [41]) ++ rest) with
      | .ok f (41 :: r') => Pr.ok f r'
      | .ok _ _ => .no
      | e => e) = _
    rw [List.append_assoc]
    show (match (parseN n).1 (cs ++ 41 :: rest) with
      | .ok f (41 :: r') => Pr.ok f r'
      | .ok _ _ => .no
      | e => e) = _
    rw [e]
    rfl
  | @one f cs h ih =>
    intro n rest hn st
    obtain ⟨n, rfl⟩ : ∃ k, n = k + 1 := ⟨n - 1, by omega⟩
    have e := ih n rest (by omega) st
    refine ⟨rest.length, Nat.le_refl _, ?_⟩
    show (match (parseN n).2.2 (cs ++ rest) with
      | .ok f r => timesF (parseN n).2.2 r.length f r
      | e => e) = _
    rw [e]
    rfl
  | @sum f cs h ih =>
    intro n rest hn st nt
    obtain ⟨n, rfl⟩ : ∃ k, n = k + 1 := ⟨n - 1, by omega⟩
    obtain ⟨k, hk, e⟩ := ih n rest (by omega) st
    rw [timesF_stop nt] at e
    refine ⟨rest.length, Nat.le_refl _, ?_⟩
    show (match (parseN n).2.1 (cs ++ rest) with
      | .ok f r => sumsF (parseN n).2.1 r.length f r
      | e => e) = _
    rw [e]
    rfl
  | @times f g cs ds h k ih ik =>
    intro n rest hn st
    rw [wgt_app] at hn
    have w := wgt_cons 42 ds
    obtain ⟨j, hj, e⟩ := ih n (42 :: (ds ++ rest)) (by omega) (stop_cons (by decide))
    rw [List.length_cons, List.length_append] at hj
    obtain ⟨j, rfl⟩ : ∃ i, j = i + 1 := ⟨j - 1, by omega⟩
    rw [timesF_go, ik (n - 1) rest (by omega) st] at e
    refine ⟨j, by omega, ?_⟩
    rw [List.append_assoc, List.cons_append]
    exact e
  | @plus f g cs ds h k ih ik =>
    intro n rest hn st nt
    rw [wgt_app] at hn
    have w := wgt_cons 43 ds
    obtain ⟨j, hj, e⟩ := ih n (43 :: (ds ++ rest)) (by omega) (stop_cons (by decide)) (by intro z; cases z)
    rw [List.length_cons, List.length_append] at hj
    obtain ⟨j, rfl⟩ : ∃ i, j = i + 1 := ⟨j - 1, by omega⟩
    obtain ⟨i, hi, e2⟩ := ik (n - 1) rest (by omega) st
    rw [timesF_stop nt] at e2
    rw [sumsF_plus, e2] at e
    refine ⟨j, by omega, ?_⟩
    rw [List.append_assoc, List.cons_append]
    exact e
  | @less f g cs ds h k ih ik =>
    intro n rest hn st nt
    rw [wgt_app, wgt_45] at hn
    obtain ⟨j, hj, e⟩ := ih n (45 :: (ds ++ rest)) (by omega) (stop_cons (by decide)) (by intro z; cases z)
    rw [List.length_cons, List.length_append] at hj
    obtain ⟨j, rfl⟩ : ∃ i, j = i + 1 := ⟨j - 1, by omega⟩
    obtain ⟨i, hi, e2⟩ := ik (n - 1) rest (by omega) st
    rw [timesF_stop nt] at e2
    rw [sumsF_less, e2] at e
    refine ⟨j, by omega, ?_⟩
    rw [List.append_assoc, List.cons_append]
    exact e
/-- a whole text read -/
theorem read_whole {f : Fm} {cs : List Nat} {n : Nat} (h : Wr 0 f cs) (hn : 3 * wgt cs + 3 ≤ n) : (parseN n).1 cs = .ok f [] := by
  obtain ⟨k, _, e⟩ := h.full n [] hn stop_nil (by intro z; cases z)
  rw [List.append_nil, sumsF_stop (by intro z; cases z) (by intro z; cases z)] at e
  exact e
theorem read_none {cs : List Nat} {n : Nat} (h : ∀ f, ¬ Wr 0 f cs) (hn : 3 * wgt cs + 3 ≤ n) : (parseN n).1 cs = .no ∨ ∃ f c r, (parseN n).1 cs = .ok f (c :: r) := by
  have no := (parse_noOut n (wgt cs)).1 hn cs (Nat.le_refl _)
  cases e : (parseN n).1 cs with
  | out => exact absurd e no
  | no => exact .inl rfl
  | ok f r =>
    cases r with
    | nil =>
      obtain ⟨p, rfl, hw⟩ := (parse_sound n).1 _ _ _ e
      rw [List.append_nil] at h
      exact absurd hw (h f)
    | cons c r => exact .inr ⟨f, c, r, rfl⟩
end Dpr
namespace Dpr
open PySem PySem.Spec PyProof.Rows L2
/-! texts looked at sign by sign: what no formula's text has -/
inductive Ls where
  | R | L (n : Nat) | Z | D (v : Nat) | C
def lintOp (c : Nat) : Option Ls := if c = 42 ∨ c = 43 ∨ c = 45 then some .R else if c = 41 then some .C else none
def lintS : Ls → Nat → Option Ls
  | .R, c => if 97 ≤ c ∧ c ≤ 122 then some (.L 1) else if c = 48 then some .Z else if 49 ≤ c ∧ c ≤ 57 then some (.D (c - 48)) else if c = 45 ∨ c = 40 then some .R else none
  | .L n, c => if 97 ≤ c ∧ c ≤ 122 then (if n < 6 then some (.L (n + 1)) else none) else lintOp c
  | .Z, c => lintOp c
  | .D v, c => if 48 ≤ c ∧ c ≤ 57 then (if 10 * v + (c - 48) ≤ 1000000000000 then some (.D (10 * v + (c - 48))) else none) else lintOp c
  | .C, c => lintOp c
def lint : Ls → List Nat → Option Ls
  | s, [] => some s
  | s, c :: r => match lintS s c with
    | some t => lint t r
    | none => none
def LDone : Ls → Prop
  | .R => False
  | _ => True
theorem lint_app : ∀ (xs ys : List Nat) (s : Ls), lint s (xs ++ ys) = match lint s xs with
    | some t => lint t ys
    | none => none
  | [], ys, s => rfl
  | c :: xs, ys, s => by
    show (match lintS s c with
      | some t => lint t (xs ++ ys)
      | none => none) = match (match lintS s c with
      | some t => lint t xs
      | none => none) with
      | some t => lint t ys
      | none => none
    cases lintS s c with
    | none => rfl
    | some t => exact lint_app xs ys t
theorem lint_none {xs ys : List Nat} {s : Ls} (h : lint s xs = none) : lint s (xs ++ ys) = none := by rw [lint_app, h]
theorem lint_some {xs ys : List Nat} {s t : Ls} (h : lint s xs = some t) : lint s (xs ++ ys) = lint t ys := by rw [lint_app, h]
theorem lint_cons {s t : Ls} {c : Nat} {r : List Nat} (h : lintS s c = some t) : lint s (c :: r) = lint t r := by
  show (match lintS s c with
    | some t => lint t r
    | none => none) = _
  rw [h]
theorem lint_fail {s : Ls} {c : Nat} {r : List Nat} (h : lintS s c = none) : lint s (c :: r) = none := by
  show (match lintS s c with
    | some t => lint t r
    | none => none) = _
  rw [h]
/-- behind what is done a sign goes on -/
theorem done_op {s : Ls} (h : LDone s) {c : Nat} (hc : c = 42 ∨ c = 43 ∨ c = 45) : lintS s c = some .R := by
  have e : lintOp c = some .R := if_pos hc
  cases s with
  | R => exact h.elim
  | L n => exact (if_neg (by omega)).trans e
  | Z => exact e
  | D v => exact (if_neg (by omega)).trans e
  | C => exact e
theorem done_close {s : Ls} (h : LDone s) : lintS s 41 = some .C := by
  cases s with
  | R => exact h.elim
  | _ => rfl
theorem lint_small : ∀ (cs : List Nat) (n : Nat), (∀ c ∈ cs, c ∈ smallL) → n + cs.length ≤ 6 → lint (.L n) cs = some (.L (n + cs.length))
  | [], n, _, _ => rfl
  | c :: cs, n, h, hn => by
    rw [List.length_cons] at hn
    have hc := small_iff.mp (h c (List.mem_cons_self ..))
    have e : lintS (.L n) c = some (.L (n + 1)) := by
      show (if 97 ≤ c ∧ c ≤ 122 then (if n < 6 then some (Ls.L (n + 1)) else none) else lintOp c) = _
      rw [if_pos hc, if_pos (by omega)]
    rw [lint_cons e, lint_small cs (n + 1) (fun d hd => h d (List.mem_cons_of_mem _ hd)) (by omega), List.length_cons, show n + 1 + cs.length = n + (cs.length + 1) by omega]
theorem dig_ge : ∀ (cs : List Nat) (v : Int), 0 ≤ v → (∀ c ∈ cs, c ∈ figL) → v ≤ cs.foldl (fun (v : Int) (c : Nat) => 10 * v + ((c : Int) - 48)) v
  | [], v, _, _ => Int.le_refl _
  | c :: cs, v, hv, h => by
    have hc := fig_iff.mp (h c (List.mem_cons_self ..))
    have := dig_ge cs (10 * v + ((c : Int) - 48)) (by omega) fun d hd => h d (List.mem_cons_of_mem _ hd)
    show v ≤ cs.foldl _ (10 * v + ((c : Int) - 48))
    omega
theorem lint_fig : ∀ (cs : List Nat) (v : Nat), (∀ c ∈ cs, c ∈ figL) → cs.foldl (fun (v : Int) (c : Nat) => 10 * v + ((c : Int) - 48)) (v : Int) ≤ 1000000000000 → ∃ u, lint (.D v) cs = some (.D u)
  | [], v, _, _ => ⟨v, rfl⟩
  | c :: cs, v, h, hm => by
    have hc := fig_iff.mp (h c (List.mem_cons_self ..))
    have hm : cs.foldl (fun (v : Int) (c : Nat) => 10 * v + ((c : Int) - 48)) (10 * (v : Int) + ((c : Int) - 48)) ≤ 1000000000000 := hm
    rw [show 10 * (v : Int) + ((c : Int) - 48) = ((10 * v + (c - 48) : Nat) : Int) by omega] at hm
    have ge := dig_ge cs ((10 * v + (c - 48) : Nat) : Int) (by omega) fun d hd => h d (List.mem_cons_of_mem _ hd)
    have e : lintS (.D v) c = some (.D (10 * v + (c - 48))) := by
      show (if 48 ≤ c ∧ c ≤ 57 then (if 10 * v + (c - 48) ≤ 1000000000000 then some (Ls.D (10 * v + (c - 48))) else none) else lintOp c) = _
      rw [if_pos hc, if_pos (by omega)]
    rw [lint_cons e]
    exact lint_fig cs _ (fun d hd => h d (List.mem_cons_of_mem _ hd)) hm
def bal (cs : List Nat) : Int := (cs.count 40 : Int) - (cs.count 41 : Int)
theorem bal_app (xs ys : List Nat) : bal (xs ++ ys) = bal xs + bal ys := by
  unfold bal
  rw [List.count_append, List.count_append]
  omega
theorem bal_cons {c : Nat} (h : c ≠ 40 ∧ c ≠ 41) (xs : List Nat) : bal (c :: xs) = bal xs := by
  unfold bal
  rw [List.count_cons_of_ne h.1, List.count_cons_of_ne h.2]
theorem bal_held (xs : List Nat) : bal (40 :: (xs ++ [41])) = bal xs := by
  rw [← List.singleton_append, bal_app, bal_app]
  show 1 + (bal xs + -1) = _
  omega
theorem bal_off : ∀ (cs : List Nat), (∀ c ∈ cs, 42 ≤ c) → bal cs = 0
  | [], _ => rfl
  | c :: cs, h => by
    have hc := h c (List.mem_cons_self ..)
    rw [bal_cons (by omega)]
    exact bal_off cs fun d hd => h d (List.mem_cons_of_mem _ hd)
def Clean (cs : List Nat) : Prop := (∃ s, lint .R cs = some s ∧ LDone s) ∧ bal cs = 0
theorem Clean.two {cs ds : List Nat} {c : Nat} (h : Clean cs) (k : Clean ds) (hc : c = 42 ∨ c = 43 ∨ c = 45) : Clean (cs ++ c :: ds) := by
  obtain ⟨⟨s, e, d⟩, b⟩ := h
  obtain ⟨⟨t, e2, d2⟩, b2⟩ := k
  refine ⟨⟨t, ?_, d2⟩, ?_⟩
  · rw [lint_some e, lint_cons (done_op d hc), e2]
  · rw [bal_app, bal_cons (by omega), b, b2]
    rfl
theorem Clean.held {cs : List Nat} (h : Clean cs) : Clean (40 :: (cs ++ [41])) := by
  obtain ⟨⟨s, e, d⟩, b⟩ := h
  refine ⟨⟨.C, ?_, trivial⟩, by rw [bal_held, b]⟩
  rw [lint_cons (show lintS .R 40 = some .R from rfl), lint_some e, lint_cons (done_close d)]
  rfl
theorem Clean.turned {cs : List Nat} (h : Clean cs) : Clean (45 :: cs) := by
  obtain ⟨⟨s, e, d⟩, b⟩ := h
  exact ⟨⟨s, by rw [lint_cons (show lintS .R 45 = some .R from rfl), e], d⟩, by rw [bal_cons (by decide), b]⟩
theorem Wr.clean {r : Nat} {f : Fm} {cs : List Nat} (h : Wr r f cs) : Clean cs := by
  induction h with
  | @name m h0 h7 hs =>
    refine ⟨?_, bal_off _ fun c hc => by have := small_iff.mp (hs c hc); omega⟩
    cases e : m.cps.toList with
    | nil => rw [e] at h0; cases h0
    | cons c r =>
      rw [e] at hs h7
      rw [List.length_cons] at h7
      have hc := small_iff.mp (hs c (List.mem_cons_self ..))
      refine ⟨.L (1 + r.length), ?_, trivial⟩
      rw [lint_cons (show lintS .R c = some (.L 1) from if_pos hc)]
      exact lint_small r 1 (fun d hd => hs d (List.mem_cons_of_mem _ hd)) (by omega)
  | @num cs h0 h14 hs hz hm =>
    refine ⟨?_, bal_off _ fun c hc => by have := fig_iff.mp (hs c hc); omega⟩
    cases cs with
    | nil => cases h0
    | cons c r =>
      have hc := fig_iff.mp (hs c (List.mem_cons_self ..))
      by_cases c0 : c = 48
      · subst c0
        have := hz rfl
        rw [List.length_cons] at this
        have hr : r = [] := List.eq_nil_of_length_eq_zero (by omega)
        subst hr
        exact ⟨.Z, rfl, trivial⟩
      · have e : lintS .R c = some (.D (c - 48)) := by
          show (if 97 ≤ c ∧ c ≤ 122 then some (Ls.L 1) else if c = 48 then some .Z else if 49 ≤ c ∧ c ≤ 57 then some (.D (c - 48)) else if c = 45 ∨ c = 40 then some .R else none) = _
          rw [if_neg (by omega), if_neg c0, if_pos (by omega)]
        rw [lint_cons e]
        have hm : r.foldl (fun (v : Int) (c : Nat) => 10 * v + ((c : Int) - 48)) (10 * 0 + ((c : Int) - 48)) ≤ 1000000000000 := hm
        rw [show 10 * 0 + ((c : Int) - 48) = ((c - 48 : Nat) : Int) by omega] at hm
        obtain ⟨u, hu⟩ := lint_fig r (c - 48) (fun d hd => hs d (List.mem_cons_of_mem _ hd)) hm
        exact ⟨_, hu, trivial⟩
  | turned h ih => exact ih.turned
  | held h ih => exact ih.held
  | one h ih => exact ih
  | sum h ih => exact ih
  | times h k ih ik => exact ih.two ik (.inl rfl)
  | plus h k ih ik => exact ih.two ik (.inr (.inl rfl))
  | less h k ih ik => exact ih.two ik (.inr (.inr rfl))
/-- a spoilt part: it stays spoilt in any whole -/
def Bad (cs : List Nat) : Prop := lint .R cs = none ∨ bal cs ≠ 0
theorem Bad.held {cs : List Nat} (h : Bad cs) : Bad (40 :: (cs ++ [41])) := by
  rcases h with h | h
  · exact .inl (by rw [lint_cons (show lintS .R 40 = some .R from rfl)]; exact lint_none h)
  · exact .inr (by rw [bal_held]; exact h)
theorem Bad.turned {cs : List Nat} (h : Bad cs) : Bad (45 :: cs) := by
  rcases h with h | h
  · exact .inl (by rw [lint_cons (show lintS .R 45 = some .R from rfl)]; exact h)
  · exact .inr (by rw [bal_cons (by decide)]; exact h)
end Dpr
namespace Dpr
open PySem PySem.Spec PyProof.Rows L2
/-! texts: rules by names of their own -/
def rLenS : List V → Hp → VK → Prop := fun xs H Q => ∃ z : Str, xs = [.str z] ∧ z.length ≤ sizeLine ∧ Q (.int z.length) H
theorem c_lenS {X : Cx} : CallR X (.builtin "len") rLenS := call_len_str
theorem w_lenS {z : Str} {H : Hp} {Q : VK} (hz : z.length ≤ 1000000) (q : Q (.int (z.length : Int)) H) : rLenS [V.str z] H Q := ⟨z, rfl, Nat.le_trans hz (by rw [sizeLine_eq]; decide), q⟩
def rStrI : List V → Hp → VK → Prop := fun xs H Q => ∃ i : Int, xs = [.int i] ∧ i.natAbs.log2 < 1920 ∧ Q (.str (Str.ofString (toString i))) H
theorem c_strI {X : Cx} : CallR X (.type "str") rStrI := call_str_int
theorem w_strI {i : Int} {H : Hp} {Q : VK} (h : i.natAbs < 2 ^ 1900) (q : Q (.str (Str.ofString (toString i))) H) : rStrI [V.int i] H Q :=
  ⟨i, rfl, Nat.lt_of_lt_of_le (PySem.Flt.log2_lt_of (by decide) h) (by decide), q⟩
theorem small_abs {i : Int} (h : -1000000000000000000 ≤ i ∧ i ≤ 1000000000000000000) : i.natAbs < 2 ^ 1900 :=
  Nat.lt_of_lt_of_le (show i.natAbs < 2 ^ 60 by have : (2 : Nat) ^ 60 = 1152921504606846976 := (by decide); omega) (Nat.pow_le_pow_right (by decide) (by decide))
def rIntS : List V → Hp → VK → Prop := fun xs H Q => ∃ (a : Str) (n : Int), xs = [.str a] ∧ PySem.intText? a = some n ∧ a.length ≤ 640 ∧ Q (.int n) H
theorem c_intS {X : Cx} : CallR X (.type "int") rIntS := call_int_str
theorem w_intS {a : Str} {n : Int} {H : Hp} {Q : VK} (h : PySem.intText? a = some n) (hl : a.length ≤ 640) (q : Q (.int n) H) : rIntS [V.str a] H Q := ⟨a, n, rfl, h, hl, q⟩
/-- str of a text, or of a number -/
def rStrA : List V → Hp → VK → Prop := fun xs H Q => (∃ a : Str, xs = [.str a] ∧ Q (.str a) H) ∨ rStrI xs H Q
theorem w_strAS {a : Str} {H : Hp} {Q : VK} (q : Q (.str a) H) : rStrA [V.str a] H Q := .inl ⟨a, rfl, q⟩
theorem w_strAI {i : Int} {H : Hp} {Q : VK} (h : i.natAbs < 2 ^ 1900) (q : Q (.str (Str.ofString (toString i))) H) : rStrA [V.int i] H Q := .inr (w_strI h q)
end Dpr
namespace Dpr
open PySem PySem.Spec PyProof.Rows L2
/-! a caught error that is kept behind its suite -/
def Exh (cls : Value) (d : Option Addr) (a : Addr) : HO := .ext fun h => ∃ (o : Obj) (fs : Array Value), h.get? a = some o ∧ Zc cls d o ∧ o.data = .fields fs
theorem exh_ok {P : Program} {w : World} {H : Hp} {h : Heap} {a : Addr} {cls : Value} {d : Option Addr} {o : Obj} {fs : Array Value} (g : h.get? a = some o) (z : Zc cls d o) (f : o.data = .fields fs) : ObjOk P w H h a (Exh cls d a) :=
  ⟨⟨o, fs, g, z, f⟩, ⟨o, g⟩, fun _ _ ⟨o', f', g', z'⟩ k => ⟨o', f', k o' g', z'⟩⟩
section
variable {X : Cx} {pins : List (Addr × Obj)} {σ : L2.St} {H : Hp} {s : Shared}
/-- an object that stands, new since the def's begin, is tracked -/
theorem inv_track {a : Addr} {φ : Heap → Prop} (I : Inv X pins σ H s) (n0 : X.s_0.heap.get? a = none) (na : H a = none) (nl : a ≠ X.env.locals) (nc : ∀ x c, X.env.cells.lookup x = some c → c ≠ a) (np : ∀ p ∈ X.pn ++ pins, p.1 ≠ a)
    (ob : ObjOk X.prog X.w (upd H a (.ext φ)) s.heap a (.ext φ)) : Inv X pins σ (upd H a (.ext φ)) s := by
  have old : ∀ {b : Addr} {u : HO}, H b = some u → upd H a (.ext φ) b = some u := fun {b u} e => by rw [upd_ne (ne_of_none e na)]; exact e
  have new0 : ∀ {b : Addr} {u : Obj}, X.s_0.heap.get? b = some u → b ≠ a := fun {b u} e z => by rw [z, n0] at e; cases e
  have gone : ∀ {b : Addr}, b ≠ a → H b = none → upd H a (.ext φ) b = none := fun {b} ne e => by rw [upd_ne ne]; exact e
  refine ⟨I.ok, I.os, I.bare, ⟨I.base.keep, I.base.slot, fun b u e n hx => gone (new0 e) (I.base.free b u e n hx), I.base.there, fun b xs e => old (I.base.tups b xs e), fun b u v e => old (I.base.frzs b u v e), fun b ps e => ?_⟩, I.loc, I.cell, gone nl.symm I.free, fun x c e => gone (nc x c e) (I.freeC x c e), fun p hp => ?_, fun b u e => ?_, I.len⟩
  · obtain ⟨m, q⟩ := I.base.tbls b ps e
    exact ⟨m, old q⟩
  · have q := I.pin p hp
    exact ⟨q.1, gone (np p hp) q.2.1, q.2.2⟩
  · by_cases c : b = a
    · subst c
      rw [upd_same] at e
      cases e
      exact ob
    · rw [upd_ne c] at e
      exact (I.hok b u e).stay (fun _ _ _ q => q) (fun _ q => old q) fun _ _ q => old q
end
/-- the clauses: the class asked, the suite's reading -/
abbrev Clss := List (Value × (Addr → Value → Option Addr → TS))
def keepE (D : Ends) (i : Nat) (a : Addr) (cls : Value) (d : Option Addr) : Ends where
  nx := fun σ H => H a = none → D.nx (σ.set i none) (upd H a (Exh cls d a))
  rt := D.rt
  bk := fun σ H => D.bk (σ.set i none) H
  ct := fun σ H => D.ct (σ.set i none) H
def wNamed (K : PySem.W.Frag) (Wout : WX) (D : Ends) (i : Nat) : Clss → WX
  | [] => Wout
  | q :: r => fun cls d σ H => ∃ b : Bool, PySem.W.exmOne K cls q.1 = some b ∧ (b = true → ∀ a : Addr, H a = none → q.2 a cls d (keepE D i a cls d) (σ.set i (some (.ref a))) H) ∧ (b = false → wNamed K Wout D i r cls d σ H)
inductive Clauses (X : Cx) (n : Str) : List ExceptHandler → Clss → Prop
  | nil : Clauses X n [] []
  | cons {x : Str} {c : Value} {ts : Addr → Value → Option Addr → TS} {b₀ : Stmt} {rest : List Stmt} {p1 p2 : Pos} {more : List ExceptHandler} {l : Clss} (hx : Names X x c)
      (run : ∀ (a : Addr) (o : Obj) (cls : Value) (d : Option Addr) (pn : List (Addr × Obj)), Zc cls d o → (∃ fs, o.data = .fields fs) → PSs (X.suite a ((a, o) :: pn)) (b₀ :: rest) (ts a cls d)) (tl : Clauses X n more l) :
      Clauses X n (.ExceptHandler (some (.Name x p1)) (some n) (b₀ :: rest) p2 :: more) ((c, ts) :: l)
section
variable {X : Cx} {n : Str} {i : Nat} {body : List Stmt} {h0 : ExceptHandler} {more : List ExceptHandler} {l : Clss} {pos : Pos} {tb : WX → TS} {Wout : WX}
theorem ps_try_named (st : X.stack = X.env :: X.outer) (fr : X.env.frame = some X.env.locals) (noex : X.ex = []) (nodup : X.N.Nodup) (at_i : X.N[i]? = some n) (loc : X.env.kindOf n = some .local) (tk : Takes X Wout)
    (run : ∀ (W : WX) (pn : List (Addr × Obj)) (xe : Value → Shared → Prop), Takes (X.tr pn xe) W → PassesOwn (model X.prog X.w) X.A X.env xe → PSs (X.tr pn xe) body (tb W))
    (hh : Clauses X n (h0 :: more) l) : PS X (.Try body (h0 :: more) [] [] pos) (fun D σ H => tb (wNamed X.K Wout D i l) D σ H) := by
  refine ⟨fun pins s σ H D I0 read => ?_⟩
  have okX := I0.ok
  have frs2 : X.A.frames = some (X.env :: X.outer) := okX.frames.trans (by rw [st])
  apply wpAny_Try_except
  refine wpAny_mono ((run (wNamed X.K Wout D i l) (X.pn ++ pins) (fun e t1 => wpAny (model X.prog X.w) X.A (noteFrame e X.env)
      (fun _ t2 => wpAny (model X.prog X.w) X.A (setFlight e none)
        (fun _ t3 => wpAny (model X.prog X.w) X.A (handleBy e X.env (h0 :: more)) (SP X pins D) X.xe t3) X.xe t2) X.xe t1)
      (fun u t caught => ?caught) PassesOwn.looking).run [] s σ H D (I0.toTry _) read) (fun f t through => ?through) (fun _ _ q => q)
  case through =>
    cases f <;> first
      | (obtain ⟨σ1, H1, I1, q1⟩ := through; exact wpAny_execs_nil ⟨σ1, H1, I1.ofTry okX, q1⟩)
      | (obtain ⟨σ1, H1, I1, q1⟩ := through; exact ⟨σ1, H1, I1.ofTry okX, q1⟩)
      | (obtain ⟨v1, σ1, H1, I1, r1, q1⟩ := through; exact ⟨v1, σ1, H1, I1.ofTry okX, r1, q1⟩)
  case caught =>
    obtain ⟨a, B, t0, pins1, σ1, H1, cls, d, rfl, I1', ground, up1, sky1, na, os1, bare1, wish⟩ := caught
    have I1 : Inv X pins σ1 H1 t0 := I1'.ofTry okX
    have sky2 : Sky B (X.env :: X.outer) a (Zc cls d) X.env.locals t.heap := st ▸ sky1
    show wpAny (model X.prog X.w) X.A (noteFrame (.ref a) X.env) _ _ _
    refine Sky.land Zc.steady frs2 fr sky2 fun g3 fly3 up3 => ?_
    have I3 : Inv X pins σ1 H1 { t with heap := g3 } := I1.landed ground fly3.1 (up1.trans up3) os1 bare1
    obtain ⟨o3, fs3, get3, z3, dat3⟩ := fly3.there
    have noFrame : a ∉ frs (X.env :: X.outer) := fun m => by
      obtain ⟨_, o', g', nf⟩ := fly3.2.2.1.mem m
      cases get3.symm.trans g'
      exact nf _ dat3
    have nl : a ≠ X.env.locals := fun z => noFrame (List.mem_filterMap.mpr ⟨X.env, List.mem_cons_self, fr.trans (congrArg some z.symm)⟩)
    have nfs : a ∉ X.fs := fun m => by
      obtain ⟨e1, m1, q1⟩ := List.mem_filterMap.mp m
      exact noFrame (List.mem_filterMap.mpr ⟨e1, List.mem_cons_of_mem _ m1, q1⟩)
    have inGround : ∀ b o, t0.heap.get? b = some o → b ∉ frs (X.env :: X.outer) → b ≠ a := fun b o e nb z => by
      have := ground b o e (by rw [show (X.tr (X.pn ++ pins) _).stack = X.env :: X.outer from st]; exact nb)
      rw [z, fly3.2.1] at this
      cases this
    have begin0 : X.s_0.heap.get? a = none := by
      cases e : X.s_0.heap.get? a with
      | none => rfl
      | some o =>
        obtain ⟨o', e'⟩ := I1.base.there a o e (by rw [noex]; exact List.not_mem_nil)
        exact absurd rfl (inGround a o' e' noFrame)
    have apart : ∀ p ∈ X.pn ++ pins, p.1 ≠ a := fun p hp => by
      have q := I1.pin p hp
      refine inGround p.1 p.2 q.1 fun m => ?_
      obtain ⟨e1, m1, q1⟩ := List.mem_filterMap.mp m
      rcases List.mem_cons.mp m1 with z | z
      · rw [z, fr] at q1
        exact q.2.2.1 (Option.some.inj q1).symm
      · exact q.2.2.2.1 (List.mem_filterMap.mpr ⟨e1, z, q1⟩)
    have S3 := I3.suite get3 dat3 na nl nfs
    have turn : ∀ {hs' : List ExceptHandler} {l' : Clss}, Clauses X n hs' l' → wNamed X.K Wout D i l' cls d σ1 H1 → wpAny (model X.prog X.w) X.A (handleBy (.ref a) X.env hs') (SP X pins D) X.xe { t with heap := g3 } := by
      intro hs' l' hc
      induction hc with
      | nil =>
        intro w1
        apply wpAny_handleBy_nil
        obtain ⟨_, _, _, o1, fs1, T1, _, _, g1, z1, d1, f1, _⟩ := id fly3
        unfold PySem.passOn
        refine wpAny_bind (wpAny_field g1 d1 f1 ?_)
        rw [if_neg (show ¬ ((Value.ref T1 == Value.none) = true) by simp)]
        have on : wpAny (model X.prog X.w) X.A (setFlight (.ref a) X.env.frame) (fun _ t4 => wpAny (model X.prog X.w) X.A (throw (.ref a) : Sem Flow) (SP X pins D) X.xe t4) X.xe { t with heap := g3 } := by
          rw [fr]
          exact HandSPX.setFlight_upZ fly3 fun g4 held up4 => wpAny_throw (tk _ _ ⟨a, B, t0, pins, σ1, H1, cls, d, rfl, I1, ground, (up1.trans up3).trans up4, .inr (.inr (by rw [st]; exact held)), na, os1, bare1, w1⟩)
        first
          | exact wpAny_bind on
          | exact wpAny_bind (wpAny_pure (wpAny_bind on))
      | @cons x c ts b₀ rest p1 p2 more2 l2 hx runS tl ih =>
        intro w1
        obtain ⟨b, asked, yes, no⟩ := w1
        refine wpAny_handleBy_cons (codeAny_handlers_test ?_) (by intro z; cases z)
        have cl3 : PySem.W.Looks (model X.prog X.w) g3 (typeOf (.ref a)) cls := fun _ _ _ _ k q => wpAny_typeOf_ref (k _ _ get3) (by rw [z3.1]; exact q)
        have tells := PySem.W.exm_one (M := model X.prog X.w) I3.kIn cl3 asked
        have named : ∀ {R : Value → Shared → Prop} {E : Value → Shared → Prop}, R c { t with heap := g3 } → wpAny (model X.prog X.w) (X.A.mark (some (.ref a))) (eval (.Name x p1) X.env) R E { t with heap := g3 } := fun {R E} q => by
          obtain ⟨hg, hdb, known | ⟨hm, hv, hnn⟩⟩ := hx
          · exact ld_glob (X := X.suite a ((a, o3) :: (X.pn ++ pins))) S3 hg known q hdb
          · exact ld_blt (X := X.suite a ((a, o3) :: (X.pn ++ pins))) S3 hg hm hv q hnn hdb
        refine named (tells.here ?_)
        cases b with
        | false =>
          show wpAny _ X.A (handleBy (.ref a) X.env more2) _ _ _
          exact ih (no rfl)
        | true =>
          apply codeAny_handlers_suite_as
          refine HandSPX.lands_againZ fly3 fun g4 fly4 up4 => ?_
          have I4 : Inv X pins σ1 H1 { t with heap := g4 } := I1.landed ground fly4.1 ((up1.trans up3).trans up4) os1 bare1
          obtain ⟨o4, fs4, get4, z4, dat4⟩ := fly4.there
          refine store_ok (X := X.suite a ((a, o4) :: (X.pn ++ pins))) (v := .ref a) (I4.suite get4 dat4 na nl nfs) nodup at_i (.inl loc) rfl (fun t5 S5 => ?_) (.inr loc)
          refine wpAny_mono ((runS a o4 cls d (X.pn ++ pins) z4 ⟨_, dat4⟩).run [] t5 _ H1 _ S5 (yes rfl a na)) (fun f t6 done => ?_) (fun _ _ z => z.elim)
          have behind : ∀ {σ6 : L2.St} {H6 : Hp} {R : Shared → Prop}, Inv X pins σ6 H6 t6 → (∀ t7, Inv X pins (σ6.set i none) H6 t7 → R t7) → wpAny (model X.prog X.w) X.A (do bindName X.env n .none; unbindBehindTheSuite X.env n p2) (fun _ t7 => R t7) X.xe t6 := fun {σ6 H6 R} J6 k => gone_ok J6 nodup at_i loc k
          cases f with
          | next =>
            obtain ⟨σ6, H6, S6, q6⟩ := done
            have pin6 := S6.pin (a, o4) (List.mem_append_left _ List.mem_cons_self)
            have J6 := inv_track (S6.unsuite okX) begin0 pin6.2.1 nl (fun x c e z => by
              obtain ⟨v, o, ho, hd⟩ := S6.cell x c e
              rw [z, pin6.1] at ho
              cases ho
              exact pin6.2.2.2.2 _ hd) apart (exh_ok pin6.1 z4 dat4)
            exact behind J6 fun t7 J7 => ⟨_, _, J7, q6 pin6.2.1⟩
          | brk =>
            obtain ⟨σ6, H6, S6, q6⟩ := done
            exact behind (S6.unsuite okX) fun t7 J7 => ⟨_, _, J7, q6⟩
          | cont =>
            obtain ⟨σ6, H6, S6, q6⟩ := done
            exact behind (S6.unsuite okX) fun t7 J7 => ⟨_, _, J7, q6⟩
          | ret u =>
            obtain ⟨v6, σ6, H6, S6, r6, q6⟩ := done
            exact behind (S6.unsuite okX) fun t7 J7 => ⟨_, _, _, J7, r6, q6⟩
    exact turn hh wish
end
/-! isinstance of such a one -/
def rIsx (K : PySem.W.Frag) : List V → Hp → VK → Prop := fun xs H Q => ∃ (a D : Addr) (c : V) (u : Value) (b : Bool), xs = [.ref a, c] ∧ H a = some (Exh (.ref D) none a) ∧ ExcC K D ∧ ClsV c u ∧ PySem.W.kitOne K (.ref D) u = some b ∧ Q (.bl b) H
theorem exh_inst {X : Cx} {pins : List (Addr × Obj)} {σ : L2.St} {H : Hp} {s : Shared} {a D : Addr} (I : Inv X pins σ H s) (e : H a = some (Exh (.ref D) none a)) : ∃ o, PySem.W.InstAt s.heap a o D none := by
  obtain ⟨⟨o, fs, g, ⟨z1, z2⟩, f⟩, _⟩ := I.hok a _ e
  refine ⟨o, ?_⟩
  obtain ⟨oc, od, oda, osl⟩ := o
  dsimp only at z1 z2 f
  subst z1 z2 f
  exact ⟨g, rfl, rfl, trivial⟩
theorem c_isx {X : Cx} (K : PySem.W.Frag) (eK : X.K = K := by rfl) : CallR X (.builtin "isinstance") (rIsx K) := by
  subst eK
  intro pins s σ H xs us Q I r q
  obtain ⟨a, D, c, u, b, rfl, e, C, hc, k, q⟩ := q
  obtain ⟨u1, u2, rfl, r1, r2⟩ := vals2 r
  cases (show u1 = Value.ref a from r1)
  obtain rfl := hc.eq r2
  obtain ⟨o, J⟩ := exh_inst I e
  exact PySem.W.kia_one (PySem.W.handS_kitx_exc C.hg C.hk C.hs C.hd C.ha C.hn C.ht C.hm) I.kIn J k (fun z => nomatch z) fun tk => ⟨.bl b, H, I.tok tk, rfl, q⟩
/-! o.m(e, ..) within a try -/
def tMethS (C : Addr) (m : Str) (sp : Sp) (E : L2.St → XK) (ta : TE) (t : TA) : TE := fun σ H Q => ta σ H fun x H1 => ∃ (a dx : Addr) (fs : List (Str × V)), x = .ref a ∧ H1 a = some (.ins C dx fs) ∧ fs.lookup m = none ∧ t σ H1 fun vs H2 => sp (x :: vs) H2 Q (E σ)
section
variable {X : Cx} {CX : CXT} {k : Nat} {f C : Addr} {fd : FuncData} {ps : List Str} {sp : Sp} {E : L2.St → XK} {m : Str} {pos apos : Pos} {e o : Expr} {es : List Expr} {ta : TE} {t : TA}
theorem pe_methS {pl : Sem Bool} (he : PE X o ta) (c : Cls X.K C) (hm : Meth X.K C m f) (F : FnOk X.prog X.w X.K X.mg X.base CX k f fd ps sp) (hr : Room k X.A) (hb : Binds X.K fd ps []) (hx : ∀ σ, PassesAt CX X σ (E σ)) (ha : PA X (e :: es) t)
    (one : starEach (e :: es) X.env = (false, eval e X.env) :: starEach es X.env := by rfl) (more : (backTo pos (starEach es X.env)).any (·.1) = false := by rfl)
    (tree : eval (.Call (.Attribute o m apos) (e :: es) [] pos) X.env = (do
      let ov ← eval o X.env; standAt apos.atName; let (f, first) ← holding [ov] (getMethod ov m pl)
      callWith pos f first (backTo pos (starEach (e :: es) X.env)) (backToKw pos (keywordEach [] X.env))) := by rfl) : PE X (.Call (.Attribute o m apos) (e :: es) [] pos) (tMethS C m sp E ta t) := by
  refine ⟨fun pins s σ H Q I q0 => ?_⟩
  refine PySem.W.methodCall_KW (pl := pl) (thn (he.run pins s σ H _ I q0) fun u t1 hu => ?_) tree
  obtain ⟨x, H1, I1, rx, a, dx, fs, rfl, ea, nl, q1⟩ := hu
  cases (show u = Value.ref a from rx)
  refine getmeth_ok I1 ea c hm nl (PySem.W.callWith_K (first := [.ref a]) (h₀ := X.base) I.ok.mod.kin hm.kp ?_ one more)
  refine thn (ha.run pos pins t1 σ H1 _ I1 q1) fun us t2 hus => ?_
  obtain ⟨vs, H2, I2, r2, q2⟩ := hus
  exact ⟨I2.kIn, run_fnS (us := .ref a :: us) (vs := .ref a :: vs) F hr hb (hx σ) I2 (.cons rfl r2) q2⟩
end
def MethSB (C : Addr) (m : Str) (sp : Sp) (E : L2.St → XK) (t : TA) (σ : L2.St) (Q : VK) (x : V) (H1 : Hp) : Prop := ∃ (a dx : Addr) (fs : List (Str × V)), x = .ref a ∧ H1 a = some (.ins C dx fs) ∧ fs.lookup m = none ∧ t σ H1 fun vs H2 => sp (x :: vs) H2 Q (E σ)
section
variable {K : PySem.W.Frag} {D : Ends} {σ : L2.St} {H : Hp} {Q : VK} {ta : TE} {t : TA} {C : Addr} {m : Str} {sp : Sp} {E : L2.St → XK} {cls c : Value} {d : Option Addr} {i : Nat} {Wout : WX}
theorem w_methS (h : ta σ H (MethSB C m sp E t σ Q)) : tMethS C m sp E ta t σ H Q := h
theorem w_MethSB {a dx : Addr} {fs : List (Str × V)} (h : H a = some (.ins C dx fs)) (e : fs.lookup m = none) (q : t σ H fun vs H2 => sp (.ref a :: vs) H2 Q (E σ)) : MethSB C m sp E t σ Q (.ref a) H := ⟨a, dx, fs, rfl, h, e, q⟩
theorem w_callS (h : t σ H fun vs H1 => sp vs H1 Q (E σ)) : tCallS sp E t σ H Q := h
theorem w_hit {ts : Addr → Value → Option Addr → TS} {r : Clss} (k : PySem.W.exmOne K cls c = some true) (h : ∀ a : Addr, H a = none → ts a cls d (keepE D i a cls d) (σ.set i (some (.ref a))) H) : wNamed K Wout D i ((c, ts) :: r) cls d σ H := ⟨true, k, (fun _ => h), (fun z => absurd z.symm Bool.false_ne_true)⟩
theorem w_keep {a : Addr} (h : ∀ H', Same H H' → H' a = some (Exh cls d a) → D.nx (σ.set i none) H') : (keepE D i a cls d).nx σ H := fun na => h _ (same_upd na) upd_same
theorem w_isx {a A : Addr} {x : V} {u : Value} {b : Bool} (e : H a = some (Exh (.ref A) none a)) (C : ExcC K A) (hc : ClsV x u) (k : PySem.W.kitOne K (.ref A) u = some b) (q : Q (.bl b) H) : rIsx K [.ref a, x] H Q := ⟨a, A, x, u, b, rfl, e, C, hc, k, q⟩
end
theorem kit_sub {K : PySem.W.Frag} {A B : Addr} {b : Bool} (hd : PySem.W.hasDictIn K B = true) (ht : PySem.W.typeIn K (.ref B) = some (.type "type")) (self : PySem.W.subIn K (.ref A) (.ref A) = some true) (hs : PySem.W.subIn K (.ref A) (.ref B) = some b) : PySem.W.kitOne K (.ref A) (.ref B) = some b := by
  unfold PySem.W.kitOne
  by_cases e : A = B
  · subst e
    rw [if_pos (beq_self_eq_true _), ← self, hs]
  · have ne : ¬ (Value.ref A == Value.ref B) = true := fun z => e (Value.ref.inj (eq_of_beq z))
    rw [if_neg ne]
    obtain ⟨cd, hc, _⟩ := PySem.W.any_some hd
    have ok : ((PySem.W.clsIn K B).isSome && PySem.W.typeIn K (.ref B) == some (.type "type")) = true := by rw [hc, ht] <;> rfl
    unfold PySem.W.kitCls
    dsimp only
    rw [if_pos ok]
    exact hs
theorem kit_ve {K : PySem.W.Frag} {A : Addr} {b : Bool} (hs : PySem.W.subIn K (.ref A) (.type "ValueError") = some b) : PySem.W.kitOne K (.ref A) (.type "ValueError") = some b := by
  unfold PySem.W.kitOne
  rw [if_neg (by intro z; cases eq_of_beq z)]
  unfold PySem.W.kitCls
  dsimp only
  rw [if_pos (by decide +kernel)]
  exact hs
end Dpr
namespace Dpr
open PySem PySem.Spec PyProof.Rows L2
/-! one step of the walk, found by its head -/
class WS (g : Prop) (g' : outParam Prop) : Prop where
  imp : g' → g
section
variable {K : PySem.W.Frag} {D : Ends} {σ : L2.St} {H : Hp} {Q : VK} {QB : Bool → Hp → Prop} {QA : List V → Hp → Prop} {ta tb tc te : TE} {t u : TS} {c : TT} {g : TG} {r r' : R2} {v x y : V}
instance ws_seq  : WS (tSeq t u D σ H) (t { D with nx := u D } σ H) := ⟨w_seq⟩
instance ws_asg {i : Nat} : WS (tAsg te (gName i) D σ H) (te σ H fun v H1 => D.nx (σ.set i (some v)) H1) := ⟨w_asg⟩
instance ws_asgG  : WS (tAsg te g D σ H) (te σ H fun v H1 => g v σ H1 D.nx) := ⟨w_asgG⟩
instance ws_drop  : WS (tDrop te D σ H) (te σ H fun _ H1 => D.nx σ H1) := ⟨w_drop⟩
instance ws_ret  : WS (tRet te D σ H) (te σ H D.rt) := ⟨w_ret⟩
instance ws_retN  : WS (tRetN D σ H) (D.rt .non H) := ⟨w_retN⟩
instance ws_next  : WS (tNext D σ H) (D.nx σ H) := ⟨w_next⟩
instance ws_cont  : WS (tCont D σ H) (D.ct σ H) := ⟨w_cont⟩
instance ws_brk  : WS (tBreak D σ H) (D.bk σ H) := ⟨w_brk⟩
instance ws_if  : WS (tIfS c t u D σ H) (c σ H fun b H1 => if b = true then t D σ H1 else u D σ H1) := ⟨w_if⟩
instance ws_ipI {f : Int → Int → Int} {i j : Int} : WS (ipI f (.int i) (.int j) H Q) (Q (.int (f i j)) H) := ⟨w_ipI⟩
instance ws_c  : WS (tC v σ H Q) (Q v H) := ⟨w_c⟩
instance ws_op  : WS (tOp r ta tb σ H Q) (ta σ H fun x H1 => tb σ H1 fun y H2 => r x y H2 Q) := ⟨w_op⟩
instance ws_un {f : V → Hp → VK → Prop} : WS (tUn f ta σ H Q) (ta σ H fun x H1 => f x H1 Q) := ⟨w_un⟩
instance ws_chain  : WS (tChain r r' ta tb tc σ H Q) (ta σ H fun x H1 => tb σ H1 fun y H2 => r x y H2 fun z H3 => ∃ k, z = .bl k ∧ (if k = true then tc σ H3 fun w' H4 => r' y w' H4 Q else Q (.bl false) H3)) := ⟨w_chain⟩
instance ws_test  : WS (tTest te σ H QB) (te σ H fun x H1 => ∃ k, x = .bl k ∧ QB k H1) := ⟨w_test⟩
instance (priority := low) ws_tB  : WS (tB te σ H QB) (te σ H fun x H1 => ∃ k, x = .bl k ∧ QB k H1) := ⟨w_tB⟩
instance ws_bl {b : Bool} {P : Bool → Prop} : WS (∃ k, V.bl b = .bl k ∧ P k) (P b) := ⟨w_bl⟩
instance ws_and {t u : TT} : WS (tAnd t u σ H QB) (t σ H fun c H1 => if c = true then u σ H1 QB else QB false H1) := ⟨w_and⟩
instance ws_or {t u : TT} : WS (tOr t u σ H QB) (t σ H fun c H1 => if c = true then QB true H1 else u σ H1 QB) := ⟨w_or⟩
instance ws_not {t : TT} : WS (tNot t σ H QB) (t σ H fun c H1 => QB (!c) H1) := ⟨w_not⟩
instance ws_andV  : WS (tAndV ta tb σ H Q) (ta σ H fun x H1 => ∃ c, x = .bl c ∧ if c = true then tb σ H1 Q else Q (.bl false) H1) := ⟨w_andV⟩
instance ws_orV  : WS (tOrV ta tb σ H Q) (ta σ H fun x H1 => ∃ c, x = .bl c ∧ if c = true then Q (.bl true) H1 else tb σ H1 Q) := ⟨w_orV⟩
instance ws_notV  : WS (tNotV ta σ H Q) (ta σ H fun x H1 => ∃ c, x = .bl c ∧ Q (.bl (!c)) H1) := ⟨w_notV⟩
instance ws_ifx {t : TT} : WS (tIf t ta tb σ H Q) (t σ H fun c H1 => if c = true then ta σ H1 Q else tb σ H1 Q) := ⟨w_ifx⟩
instance ws_nil  : WS (tNil σ H QA) (QA [] H) := ⟨w_nil⟩
instance ws_cons {tr : TA} : WS (tCons ta tr σ H QA) (ta σ H fun x H1 => tr σ H1 fun xs H2 => QA (x :: xs) H2) := ⟨w_cons⟩
instance ws_tup {s : TA} : WS (tTup s σ H Q) (s σ H fun xs H1 => AlT xs H1 Q) := ⟨w_tup⟩
instance ws_lst {s : TA} : WS (tLst s σ H Q) (s σ H fun xs H1 => AlL xs H1 Q) := ⟨w_lst⟩
instance ws_call {sp : Sp} {dvs : List V} {E : XK} {s : TA} : WS (tCall sp dvs E s σ H Q) (s σ H fun vs H1 => sp (vs ++ dvs) H1 Q E) := ⟨w_call⟩
instance ws_cb {f : List V → Hp → VK → Prop} {s : TA} : WS (tCB f s σ H Q) (s σ H fun vs H1 => f vs H1 Q) := ⟨w_cb⟩
instance ws_I0 {f : Int → Int → V} {i j : Int} : WS (rI0 f (.int i) (.int j) H Q) (Q (f i j) H) := ⟨w_I0⟩
instance ws_U {f : Int → V} {i : Int} : WS (rU f (.int i) H Q) (Q (f i) H) := ⟨w_U⟩
instance ws_bits {i : Int} : WS ((∃ j, V.int i = .int j ∧ Q (.int (Builtin.Int.intBits j : Nat)) H)) (Q (.int (Builtin.Int.intBits i : Nat)) H) := ⟨w_bits⟩
instance ws_tbits  : WS (tBits te σ H Q) (te σ H fun x H1 => ∃ i, x = .int i ∧ Q (.int (Builtin.Int.intBits i : Nat)) H1) := ⟨w_tbits⟩
instance ws_itT {A B : Prop} : WS (if true = true then A else B) (A) := ⟨w_itT⟩
instance ws_itF {A B : Prop} : WS (if false = true then A else B) (B) := ⟨w_itF⟩
end
section
instance ws_abs {H : Hp} {Q : VK} {i : Int} : WS (rAbs [.int i] H Q) (Q (.int (if i < 0 then -i else i)) H) := ⟨w_abs⟩
instance ws_max2 {H : Hp} {Q : VK} {i j : Int} : WS (rMax2 [.int i, .int j] H Q) (Q (.int (if j > i then j else i)) H) := ⟨w_max2⟩
instance ws_min2 {H : Hp} {Q : VK} {i j : Int} : WS (rMin2 [.int i, .int j] H Q) (Q (.int (if j < i then j else i)) H) := ⟨w_min2⟩
end
section
variable {K : PySem.W.Frag} {σ : L2.St} {H : Hp} {Q : VK} {te : TE} {tl th : TO} {QO : Option Int → Hp → Prop}
instance ws_tsl {f : V → Option Int → Option Int → Hp → VK → Prop} : WS (tSl f te tl th σ H Q) (te σ H fun x H1 => tl σ H1 fun l H2 => th σ H2 fun u H3 => f x l u H3 Q) := ⟨w_tsl⟩
instance ws_tnp  : WS (tNoPart σ H QO) (QO none H) := ⟨w_tnp⟩
instance ws_tpt  : WS (tPart te σ H QO) (te σ H fun x H1 => ∃ i, x = .int i ∧ QO (some i) H1) := ⟨w_tpt⟩
instance ws_pt {i : Int} {P : Int → Prop} : WS (∃ j, V.int i = .int j ∧ P j) (P i) := ⟨w_pt⟩
end
section
variable {K : PySem.W.Frag} {D : Ends} {σ : L2.St} {H : Hp} {Q : VK} {ta te tl : TE} {t : TS} {g : TG} {s : TA} {wi : TI} {tt : TT} {vs : List Nat}
variable {R : It → Hp → Prop}
instance ws_iL  : WS (iList K tl σ H R) (tl σ H fun x H1 => IL1 K R x H1) := ⟨w_iL⟩
instance ws_iT  : WS (iTup K tl σ H R) (tl σ H fun x H1 => IT1 K R x H1) := ⟨w_iT⟩
instance ws_iR1  : WS (iRng1 s σ H R) (s σ H fun x H1 => IR1 R x H1) := ⟨w_iR1⟩
instance ws_iR2  : WS (iRng2 s σ H R) (s σ H fun x H1 => IR2 R x H1) := ⟨w_iR2⟩
end
section
variable {K : PySem.W.Frag} {D : Ends} {σ : L2.St} {H H1 : Hp} {Q : VK} {to : TE} {t : TA} {b : TS}
instance ws_bm {T : String} {f : V → List V → Hp → VK → Prop} : WS (tBM K T f to t σ H Q) (to σ H fun x H1 => BM1 K T f t σ Q x H1) := ⟨w_bm⟩
instance ws_bm0 {T : String} {f : V → List V → Hp → VK → Prop} : WS (tBM0 K T f to σ H Q) (to σ H fun x H1 => BM0 K T f Q x H1) := ⟨w_bm0⟩
instance ws_iE {s : TA} {R : It → Hp → Prop} : WS (iEnum K s σ H R) (s σ H fun x H1 => IE1 K R x H1) := ⟨w_iE⟩
end
section
instance ws_bit1 {H : Hp} {Q : VK} {i : Int} : WS (rBit1 (.int i) (.int 1) H Q) (Q (.int (i % 2)) H) := ⟨w_bit1⟩
instance ws_shrN {H : Hp} {Q : VK} {i : Int} {k : Nat} : WS (rShrN (.int i) (.int (k : Int)) H Q) (Q (.int (i / 2 ^ k)) H) := ⟨w_shrN⟩
end
section
variable {K : PySem.W.Frag} {σ : L2.St} {H : Hp} {t : TG} {u tt : TGs} {QS : L2.St → Hp → Prop}
instance ws_gCons {v : V} {r : List V} : WS (gCons t u (v :: r) σ H QS) (t v σ H fun σ' H' => u r σ' H' QS) := ⟨w_gCons⟩
instance ws_gNil  : WS (gNil [] σ H QS) (QS σ H) := ⟨w_gNil⟩
instance ws_gName {v : V} {i : Nat} : WS (gName i v σ H QS) (QS (σ.set i (some v)) H) := ⟨w_gName⟩
end
section
instance ws_dget {td ty : TE} {σ : L2.St} {H : Hp} {Q : VK} : WS (tDGet td ty σ H Q) (td σ H fun x H1 => ty σ H1 fun y H2 => DG1 x y H2 Q) := ⟨w_dget⟩
instance ws_intB {H : Hp} {Q : VK} {k : Bool} : WS (rIntB [.bl k] H Q) (Q (.int (if k then 1 else 0)) H) := ⟨w_intB⟩
instance ws_tm1 {f : V → List V → Hp → VK → Prop} {to te : TE} {σ : L2.St} {H : Hp} {Q : VK} : WS (tM1 f to te σ H Q) (to σ H fun x H1 => M11 f te σ Q x H1) := ⟨w_tm1⟩
instance ws_M11 {f : V → List V → Hp → VK → Prop} {te : TE} {σ : L2.St} {H : Hp} {Q : VK} {a : Str} : WS (M11 f te σ Q (.str a) H) (te σ H fun y H2 => f (.str a) [y] H2 Q) := ⟨w_M11⟩
instance ws_pairs {σ : L2.St} {H : Hp} {tk tv : TE} {r : List (TE × TE)} {R : List (V × V) → Hp → Prop} : WS (tPairs ((tk, tv) :: r) σ H R) (tk σ H fun x H1 => tv σ H1 fun y H2 => tPairs r σ H2 fun ps H3 => R ((x, y) :: ps) H3) := ⟨w_pairs⟩
instance ws_pairs0 {σ : L2.St} {H : Hp} {R : List (V × V) → Hp → Prop} : WS (tPairs [] σ H R) (R [] H) := ⟨w_pairs0⟩
instance ws_dput {D : Ends} {σ : L2.St} {H : Hp} {td ty tv : TE} : WS (sDPut td ty tv D σ H) (tv σ H fun v H1 => td σ H1 fun x H2 => ty σ H2 fun y H3 => DPutB D σ v x y H3) := ⟨w_dput⟩
instance ws_revR {σ : L2.St} {H : Hp} {R : It → Hp → Prop} {tr : L2.St → Hp → (Int → Int → Hp → Prop) → Prop} : WS (iRevR tr σ H R) (tr σ H (RevB R)) := ⟨w_revR⟩
instance ws_rg1 {σ : L2.St} {H : Hp} {R : Int → Int → Hp → Prop} {ta : TE} : WS (tRg1 ta σ H R) (ta σ H (RG1 R)) := ⟨w_rg1⟩
instance ws_RG1 {R : Int → Int → Hp → Prop} {b : Int} {H : Hp} : WS (RG1 R (.int b) H) (R 0 b H) := ⟨w_RG1⟩
instance ws_isNo1 {H : Hp} {Q : VK} : WS (rIsNo .non .non H Q) (Q (.bl true) H) := ⟨w_isNo1⟩
instance ws_isNo0 {p : Addr} {H : Hp} {Q : VK} : WS (rIsNo (.ref p) .non H Q) (Q (.bl false) H) := ⟨w_isNo0⟩
instance ws_notNo1 {H : Hp} {Q : VK} : WS (rNotNo .non .non H Q) (Q (.bl false) H) := ⟨w_notNo1⟩
instance ws_notNo0 {p : Addr} {H : Hp} {Q : VK} : WS (rNotNo (.ref p) .non H Q) (Q (.bl true) H) := ⟨w_notNo0⟩
end
section
variable {K : PySem.W.Frag} {σ : L2.St} {H : Hp} {Q : VK} {D : Ends} {ta tv : TE} {t : TA} {f m : Str}
instance ws_fld  : WS (tFld K ta f σ H Q) (ta σ H (FldB K f Q)) := ⟨w_fld⟩
instance ws_sfld  : WS (sFld K ta tv f D σ H) (tv σ H fun y H1 => ta σ H1 fun x H2 => SFldB K f D σ y x H2) := ⟨w_sfld⟩
instance ws_meth {C : Addr} {sp : Sp} {dvs : List V} {E : XK} : WS (tMeth C m sp dvs E ta t σ H Q) (ta σ H (MethB C m sp dvs E t σ Q)) := ⟨w_meth⟩
end
section
variable {σ : L2.St} {H : Hp} {Q : VK} {QB : Bool → Hp → Prop} {ty td : TE} {D : Ends}
instance ws_dnin  : WS (tB (tDNotIn ty td) σ H QB) (ty σ H fun y H1 => td σ H1 fun x H2 => NInB QB y x H2) := ⟨w_dnin⟩
instance ws_din  : WS (tB (tDIn ty td) σ H QB) (ty σ H fun y H1 => td σ H1 fun x H2 => InB QB y x H2) := ⟨w_din⟩
end
section
instance ws_notNoI {i : Int} {H : Hp} {Q : VK} : WS (rNotNo (.int i) .non H Q) (Q (.bl true) H) := ⟨w_notNoI⟩
end
section
variable {σ : L2.St} {H H1 : Hp} {Q : VK} {C : Addr} {sp : Sp} {vs dvs : List V} {E : XK} {t : TA}
instance ws_mk  : WS (tMake C sp dvs E t σ H Q) (t σ H fun vs H1 => MkB C sp dvs E Q vs H1) := ⟨w_mk⟩
end
section
variable {σ : L2.St} {H : Hp} {Q : VK} {QS : L2.St → Hp → Prop} {ta ti : TE} {ts : TSet} {v : V}
instance ws_gSub  : WS (gSub ta ti ts v σ H QS) (ta σ H fun o H1 => ti σ H1 fun i H2 => ts o i v H2 fun H3 => QS σ H3) := ⟨w_gSub⟩
end
end Dpr
namespace Dpr
open PySem PySem.Spec PyProof.Rows L2
section
variable {K : PySem.W.Frag} {D : Ends} {σ : L2.St} {H : Hp} {Q : VK} {ta : TE} {t : TA} {C : Addr} {m : Str} {sp : Sp} {E : L2.St → XK} {cls c : Value} {d : Option Addr} {i : Nat} {Wout : WX}
instance ws_methS  : WS (tMethS C m sp E ta t σ H Q) (ta σ H (MethSB C m sp E t σ Q)) := ⟨w_methS⟩
instance ws_callS  : WS (tCallS sp E t σ H Q) (t σ H fun vs H1 => sp vs H1 Q (E σ)) := ⟨w_callS⟩
end
end Dpr
namespace Dpr
open PySem PySem.Spec PyProof.Rows L2
/-! goals of the walk sorted by their heads -/
class HD (g : Prop) (k : outParam Nat) : Prop where
  it : True
theorem HD.go (k : Nat) {g : Prop} [HD g k] (h : g) : g := h
instance {b : Bool} {A B : Prop} : HD (if b = true then A else B) 1 := ⟨trivial⟩
instance {K f Q x H} : HD (FldB K f Q x H) 2 := ⟨trivial⟩
instance {K f D σ y x H} : HD (SFldB K f D σ y x H) 2 := ⟨trivial⟩
instance {C m sp dvs E t σ Q x H} : HD (MethB C m sp dvs E t σ Q x H) 2 := ⟨trivial⟩
instance {K x y H Q} : HD (rIxL K x y H Q) 3 := ⟨trivial⟩
instance {K x y H Q} : HD (rIxT K x y H Q) 3 := ⟨trivial⟩
instance {K x H Q} : HD (rLen K x H Q) 3 := ⟨trivial⟩
instance {C f x y H Q} : HD (rI C f x y H Q) 3 := ⟨trivial⟩
instance {K R x H} : HD (IL1 K R x H) 4 := ⟨trivial⟩
instance {K R x H} : HD (IT1 K R x H) 4 := ⟨trivial⟩
instance {R x H} : HD (IR1 R x H) 4 := ⟨trivial⟩
instance {R x H} : HD (IR2 R x H) 4 := ⟨trivial⟩
instance {K R x H} : HD (IE1 K R x H) 4 := ⟨trivial⟩
instance {wi g t D σ H} : HD (tFor wi g t D σ H) 4 := ⟨trivial⟩
instance {wi g tt te vs σ H Q} : HD (tLc wi g tt te vs σ H Q) 4 := ⟨trivial⟩
instance {K n tt v σ H QS} : HD (gTup K n tt v σ H QS) 4 := ⟨trivial⟩
instance {R a b H} : HD (RevB R a b H) 4 := ⟨trivial⟩
instance {xs H Q} : HD (AlT xs H Q) 5 := ⟨trivial⟩
instance {xs H Q} : HD (AlL xs H Q) 5 := ⟨trivial⟩
instance {C sp dvs E Q vs H} : HD (MkB C sp dvs E Q vs H) 5 := ⟨trivial⟩
instance {σ H Q} : HD (tDNewK σ H Q) 5 := ⟨trivial⟩
instance {σ H Q} : HD (tDNewT σ H Q) 5 := ⟨trivial⟩
instance {trs σ H Q} : HD (tDisp trs σ H Q) 5 := ⟨trivial⟩
instance {K x H Q} : HD (rListOf K x H Q) 5 := ⟨trivial⟩
instance {K x H Q} : HD (rTupOf K x H Q) 5 := ⟨trivial⟩
instance {K x lo hi H Q} : HD (rSlL K x lo hi H Q) 5 := ⟨trivial⟩
instance {K x lo hi H Q} : HD (rSlT K x lo hi H Q) 5 := ⟨trivial⟩
instance {x y H Q} : HD (rCat x y H Q) 5 := ⟨trivial⟩
instance {x ys H Q} : HD (rCopyD x ys H Q) 5 := ⟨trivial⟩
instance {x H Q} : HD (rDictD x H Q) 5 := ⟨trivial⟩
instance {K T f t σ Q x H} : HD (BM1 K T f t σ Q x H) 6 := ⟨trivial⟩
instance {K T f Q x H} : HD (BM0 K T f Q x H) 6 := ⟨trivial⟩
instance {x ys H Q} : HD (rAppend x ys H Q) 6 := ⟨trivial⟩
instance {x ys H Q} : HD (rInsert x ys H Q) 6 := ⟨trivial⟩
instance {x y H Q} : HD (DG1 x y H Q) 6 := ⟨trivial⟩
instance {D σ v x y H} : HD (DPutB D σ v x y H) 6 := ⟨trivial⟩
instance {K b x y H Q} : HD (rIn K b x y H Q) 6 := ⟨trivial⟩
instance {i te ti D σ H} : HD (tAug i te ti D σ H) 6 := ⟨trivial⟩
instance {x y H Q} : HD (rShlN x y H Q) 7 := ⟨trivial⟩
instance {x y H Q} : HD (rDivP x y H Q) 7 := ⟨trivial⟩
instance {K x H Q} : HD (rIsi K x H Q) 7 := ⟨trivial⟩
instance {x H Q} : HD (rLenS x H Q) 7 := ⟨trivial⟩
instance {x H Q} : HD (rStrI x H Q) 7 := ⟨trivial⟩
instance {x H Q} : HD (rStrA x H Q) 7 := ⟨trivial⟩
instance {x y H Q} : HD (rAddS x y H Q) 7 := ⟨trivial⟩
end Dpr
namespace Dpr
open PySem PySem.Spec PyProof.Rows L2
instance {C m sp E t σ Q x H} : HD (MethSB C m sp E t σ Q x H) 2 := ⟨trivial⟩
end Dpr
namespace Dpr
open PySem PySem.Spec PyProof.Rows L2
def topS (i : Nat) : Stmt := PySem.Challenge.pw_dotpress_k61_desk_shows.main.body.getD i (.Pass ⟨0, 0, 0, 0⟩)
abbrev s_span_of_width : Stmt := topS 19
theorem sc_span_of_width : FnScope ["width", "half"] ["width"] (defScope s_span_of_width) := ⟨rfl, rfl, rfl, by decide +kernel, rfl, by decide +kernel, by decide +kernel⟩
abbrev s_span_of : Stmt := topS 22
theorem sc_span_of : FnScope ["formula", "widths", "word", "one", "other", "ends"] ["formula", "widths"] (defScope s_span_of) := ⟨rfl, rfl, rfl, by decide +kernel, rfl, by decide +kernel, by decide +kernel⟩
abbrev s_parts_of : Stmt := topS 23
theorem sc_parts_of : FnScope ["formula", "found", "part"] ["formula"] (defScope s_parts_of) := ⟨rfl, rfl, rfl, by decide +kernel, rfl, by decide +kernel, by decide +kernel⟩
abbrev s_only : Stmt := topS 27
theorem sc_only : FnScope ["word", "signs", "sign"] ["word", "signs"] (defScope s_only) := ⟨rfl, rfl, rfl, by decide +kernel, rfl, by decide +kernel, by decide +kernel⟩
abbrev s_refuse_unless : Stmt := topS 28
theorem sc_refuse_unless : FnScope ["fine"] ["fine"] (defScope s_refuse_unless) := ⟨rfl, rfl, rfl, by decide +kernel, rfl, by decide +kernel, by decide +kernel⟩
abbrev s_name_in : Stmt := topS 29
theorem sc_name_in : FnScope ["word"] ["word"] (defScope s_name_in) := ⟨rfl, rfl, rfl, by decide +kernel, rfl, by decide +kernel, by decide +kernel⟩
abbrev s_number_in : Stmt := topS 30
theorem sc_number_in : FnScope ["word", "figures"] ["word"] (defScope s_number_in) := ⟨rfl, rfl, rfl, by decide +kernel, rfl, by decide +kernel, by decide +kernel⟩
abbrev s_numbers_in : Stmt := topS 31
theorem sc_numbers_in : FnScope ["words", "numbers", "word"] ["words"] (defScope s_numbers_in) := ⟨rfl, rfl, rfl, by decide +kernel, rfl, by decide +kernel, by decide +kernel⟩
abbrev s_width_line : Stmt := topS 32
theorem sc_width_line : FnScope ["words", "name", "width"] ["words"] (defScope s_width_line) := ⟨rfl, rfl, rfl, by decide +kernel, rfl, by decide +kernel, by decide +kernel⟩
abbrev s_ask_line : Stmt := topS 33
theorem sc_ask_line : FnScope ["words", "found", "word", "name", "sign", "number"] ["words"] (defScope s_ask_line) := ⟨rfl, rfl, rfl, by decide +kernel, rfl, by decide +kernel, by decide +kernel⟩
abbrev s_line_read : Stmt := topS 34
theorem sc_line_read : FnScope ["line", "words", "word"] ["line"] (defScope s_line_read) := ⟨rfl, rfl, rfl, by decide +kernel, rfl, by decide +kernel, by decide +kernel⟩
abbrev s_bracketed : Stmt := topS 65
theorem sc_bracketed : FnScope ["formula", "words"] ["formula", "words"] (defScope s_bracketed) := ⟨rfl, rfl, rfl, by decide +kernel, rfl, by decide +kernel, by decide +kernel⟩
abbrev s_shown : Stmt := topS 66
theorem sc_shown : FnScope ["formula", "word", "one", "other"] ["formula"] (defScope s_shown) := ⟨rfl, rfl, rfl, by decide +kernel, rfl, by decide +kernel, by decide +kernel⟩
abbrev s_Reader__init : Stmt := inClass (topS 67) 0
theorem sc_Reader__init : FnScope ["self", "text"] ["self", "text"] (defScope s_Reader__init) := ⟨rfl, rfl, rfl, by decide +kernel, rfl, by decide +kernel, by decide +kernel⟩
abbrev s_Reader_here : Stmt := inClass (topS 67) 1
theorem sc_Reader_here : FnScope ["self"] ["self"] (defScope s_Reader_here) := ⟨rfl, rfl, rfl, by decide +kernel, rfl, by decide +kernel, by decide +kernel⟩
abbrev s_Reader_run_of : Stmt := inClass (topS 67) 2
theorem sc_Reader_run_of : FnScope ["self", "signs", "begin"] ["self", "signs"] (defScope s_Reader_run_of) := ⟨rfl, rfl, rfl, by decide +kernel, rfl, by decide +kernel, by decide +kernel⟩
abbrev s_Reader_total : Stmt := inClass (topS 67) 3
theorem sc_Reader_total : FnScope ["self", "formula", "word"] ["self"] (defScope s_Reader_total) := ⟨rfl, rfl, rfl, by decide +kernel, rfl, by decide +kernel, by decide +kernel⟩
abbrev s_Reader_product : Stmt := inClass (topS 67) 4
theorem sc_Reader_product : FnScope ["self", "formula"] ["self"] (defScope s_Reader_product) := ⟨rfl, rfl, rfl, by decide +kernel, rfl, by decide +kernel, by decide +kernel⟩
abbrev s_Reader_piece : Stmt := inClass (topS 67) 5
theorem sc_Reader_piece : FnScope ["self", "formula", "name", "figures"] ["self"] (defScope s_Reader_piece) := ⟨rfl, rfl, rfl, by decide +kernel, rfl, by decide +kernel, by decide +kernel⟩
abbrev s_read : Stmt := topS 68
theorem sc_read : FnScope ["text", "reader", "formula"] ["text"] (defScope s_read) := ⟨rfl, rfl, rfl, by decide +kernel, rfl, by decide +kernel, by decide +kernel⟩
abbrev s_names_of : Stmt := topS 70
theorem sc_names_of : FnScope ["formula", "found", "part"] ["formula"] (defScope s_names_of) := ⟨rfl, rfl, rfl, by decide +kernel, rfl, by decide +kernel, by decide +kernel⟩
abbrev s_Made__init : Stmt := inClass (topS 71) 0
theorem sc_Made__init : FnScope ["self", "formula", "widths", "order", "splits", "circuit", "name"] ["self", "formula", "widths", "order", "splits"] (defScope s_Made__init) := ⟨rfl, rfl, rfl, by decide +kernel, rfl, by decide +kernel, by decide +kernel⟩
abbrev s_Made_worth_for : Stmt := inClass (topS 71) 1
theorem sc_Made_worth_for : FnScope ["self", "words", "name", "low", "high", "bits", "wire"] ["self", "words"] (defScope s_Made_worth_for) := ⟨rfl, rfl, rfl, by decide +kernel, rfl, by decide +kernel, by decide +kernel⟩
abbrev s_span_told : Stmt := topS 72
theorem sc_span_told : FnScope ["formula", "widths", "name", "low", "high"] ["formula", "widths"] (defScope s_span_told) := ⟨rfl, rfl, rfl, by decide +kernel, rfl, by decide +kernel, by decide +kernel⟩
abbrev s_Desk__init : Stmt := inClass (topS 73) 0
theorem sc_Desk__init : FnScope ["self"] ["self"] (defScope s_Desk__init) := ⟨rfl, rfl, rfl, by decide +kernel, rfl, by decide +kernel, by decide +kernel⟩
abbrev s_Desk_say : Stmt := inClass (topS 73) 1
theorem sc_Desk_say : FnScope ["self", "line", "word", "rest", "formula"] ["self", "line"] (defScope s_Desk_say) := ⟨rfl, rfl, rfl, by decide +kernel, rfl, by decide +kernel, by decide +kernel⟩
abbrev s_law_at : Stmt := topS 75
theorem sc_law_at : FnScope ["_law_script", "_law_k"] ["_law_script", "_law_k"] (defScope s_law_at) := ⟨rfl, rfl, rfl, by decide +kernel, rfl, by decide +kernel, by decide +kernel⟩
abbrev s_law_mixed : Stmt := topS 76
theorem sc_law_mixed : FnScope ["_law_cell", "_law_k", "_law_number"] ["_law_cell", "_law_k"] (defScope s_law_mixed) := ⟨rfl, rfl, rfl, by decide +kernel, rfl, by decide +kernel, by decide +kernel⟩
abbrev s_law_names : Stmt := topS 77
theorem sc_law_names : FnScope ["_law_number", "_law_letters", "_law_some", "_law_at_here", "_law_names_here", "_law_j", "_law_spots", "_law_word", "_law_k", "_law_spot"] ["_law_number"] (defScope s_law_names) := ⟨rfl, rfl, rfl, by decide +kernel, rfl, by decide +kernel, by decide +kernel⟩
abbrev s_law_stream : Stmt := topS 78
theorem sc_law_stream : FnScope ["_law_cell", "_law_k", "_law_found", "_law_j", "_law_number"] ["_law_cell", "_law_k"] (defScope s_law_stream) := ⟨rfl, rfl, rfl, by decide +kernel, rfl, by decide +kernel, by decide +kernel⟩
abbrev s_law_formula : Stmt := topS 79
theorem sc_law_formula : FnScope ["_law_numbers", "_law_names_here", "_law_stack", "_law_number", "_law_other", "_law_one"] ["_law_numbers", "_law_names_here"] (defScope s_law_formula) := ⟨rfl, rfl, rfl, by decide +kernel, rfl, by decide +kernel, by decide +kernel⟩
abbrev s_law_bracketed : Stmt := topS 81
theorem sc_law_bracketed : FnScope ["_law_formula_here", "_law_words"] ["_law_formula_here", "_law_words"] (defScope s_law_bracketed) := ⟨rfl, rfl, rfl, by decide +kernel, rfl, by decide +kernel, by decide +kernel⟩
abbrev s_law_text : Stmt := topS 82
theorem sc_law_text : FnScope ["_law_formula_here", "_law_one", "_law_other"] ["_law_formula_here"] (defScope s_law_text) := ⟨rfl, rfl, rfl, by decide +kernel, rfl, by decide +kernel, by decide +kernel⟩
abbrev s_law_loose : Stmt := topS 83
theorem sc_law_loose : FnScope ["_law_formula_here", "_law_sign"] ["_law_formula_here"] (defScope s_law_loose) := ⟨rfl, rfl, rfl, by decide +kernel, rfl, by decide +kernel, by decide +kernel⟩
abbrev s_law_spoilt : Stmt := topS 84
theorem sc_law_spoilt : FnScope ["_law_text_here", "_law_number"] ["_law_text_here", "_law_number"] (defScope s_law_spoilt) := ⟨rfl, rfl, rfl, by decide +kernel, rfl, by decide +kernel, by decide +kernel⟩
abbrev s_law_ends : Stmt := topS 85
theorem sc_law_ends : FnScope ["_law_width"] ["_law_width"] (defScope s_law_ends) := ⟨rfl, rfl, rfl, by decide +kernel, rfl, by decide +kernel, by decide +kernel⟩
abbrev s_law_span : Stmt := topS 86
theorem sc_law_span : FnScope ["_law_formula_here", "_law_widths", "_law_one", "_law_other", "_law_ends_here", "_law_end"] ["_law_formula_here", "_law_widths"] (defScope s_law_span) := ⟨rfl, rfl, rfl, by decide +kernel, rfl, by decide +kernel, by decide +kernel⟩
abbrev s_law_lacks : Stmt := topS 87
theorem sc_law_lacks : FnScope ["_law_formula_here", "_law_widths", "_law_part"] ["_law_formula_here", "_law_widths"] (defScope s_law_lacks) := ⟨rfl, rfl, rfl, by decide +kernel, rfl, by decide +kernel, by decide +kernel⟩
abbrev s_law_says : Stmt := topS 88
theorem sc_law_says : FnScope ["_law_desk", "_law_line", "_law_caught", "_law_found", "e", "_law_sorts", "_law_one"] ["_law_desk", "_law_line"] (defScope s_law_says) := ⟨rfl, rfl, rfl, by decide +kernel, rfl, by decide +kernel, by decide +kernel⟩
abbrev s_law_answers : Stmt := topS 89
theorem sc_law_answers : FnScope ["_law_desk", "_law_line", "_law_due"] ["_law_desk", "_law_line", "_law_due"] (defScope s_law_answers) := ⟨rfl, rfl, rfl, by decide +kernel, rfl, by decide +kernel, by decide +kernel⟩
abbrev s_law_asked : Stmt := topS 90
theorem sc_law_asked : FnScope ["_law_desk", "_law_names_here", "_law_widths", "_law_xs", "_law_formula_here", "_law_line", "_law_low", "_law_high"] ["_law_desk", "_law_names_here", "_law_widths", "_law_xs"] (defScope s_law_asked) := ⟨rfl, rfl, rfl, by decide +kernel, rfl, by decide +kernel, by decide +kernel⟩
abbrev s_law : Stmt := topS 91
theorem sc_law : FnScope ["_law_script", "_law_names_here", "_law_desk", "_law_widths", "_law_cells", "_law_k", "_law_xs", "_law_name"] ["_law_script"] (defScope s_law) := ⟨rfl, rfl, rfl, by decide +kernel, rfl, by decide +kernel, by decide +kernel⟩
set_option genInjectivity false in
set_option genSizeOfSpec false in
structure Top (K : PySem.W.Frag) (mg : Str → Option Value) where
  a_span_of_width : Addr
  d_span_of_width : FuncData
  f_span_of_width : Fun K "span_of_width" "span_of_width" s_span_of_width a_span_of_width d_span_of_width
  b_span_of_width : Binds K d_span_of_width ["width"] []
  g_span_of_width : mg "span_of_width" = some (.ref a_span_of_width)
  a_span_of : Addr
  d_span_of : FuncData
  f_span_of : Fun K "span_of" "span_of" s_span_of a_span_of d_span_of
  b_span_of : Binds K d_span_of ["formula", "widths"] []
  g_span_of : mg "span_of" = some (.ref a_span_of)
  a_parts_of : Addr
  d_parts_of : FuncData
  f_parts_of : Fun K "parts_of" "parts_of" s_parts_of a_parts_of d_parts_of
  b_parts_of : Binds K d_parts_of ["formula"] []
  g_parts_of : mg "parts_of" = some (.ref a_parts_of)
  a_only : Addr
  d_only : FuncData
  f_only : Fun K "only" "only" s_only a_only d_only
  b_only : Binds K d_only ["word", "signs"] []
  g_only : mg "only" = some (.ref a_only)
  a_refuse_unless : Addr
  d_refuse_unless : FuncData
  f_refuse_unless : Fun K "refuse_unless" "refuse_unless" s_refuse_unless a_refuse_unless d_refuse_unless
  b_refuse_unless : Binds K d_refuse_unless ["fine"] []
  g_refuse_unless : mg "refuse_unless" = some (.ref a_refuse_unless)
  a_name_in : Addr
  d_name_in : FuncData
  f_name_in : Fun K "name_in" "name_in" s_name_in a_name_in d_name_in
  b_name_in : Binds K d_name_in ["word"] []
  g_name_in : mg "name_in" = some (.ref a_name_in)
  a_number_in : Addr
  d_number_in : FuncData
  f_number_in : Fun K "number_in" "number_in" s_number_in a_number_in d_number_in
  b_number_in : Binds K d_number_in ["word"] []
  g_number_in : mg "number_in" = some (.ref a_number_in)
  a_numbers_in : Addr
  d_numbers_in : FuncData
  f_numbers_in : Fun K "numbers_in" "numbers_in" s_numbers_in a_numbers_in d_numbers_in
  b_numbers_in : Binds K d_numbers_in ["words"] []
  g_numbers_in : mg "numbers_in" = some (.ref a_numbers_in)
  a_width_line : Addr
  d_width_line : FuncData
  f_width_line : Fun K "width_line" "width_line" s_width_line a_width_line d_width_line
  b_width_line : Binds K d_width_line ["words"] []
  g_width_line : mg "width_line" = some (.ref a_width_line)
  a_ask_line : Addr
  d_ask_line : FuncData
  f_ask_line : Fun K "ask_line" "ask_line" s_ask_line a_ask_line d_ask_line
  b_ask_line : Binds K d_ask_line ["words"] []
  g_ask_line : mg "ask_line" = some (.ref a_ask_line)
  a_line_read : Addr
  d_line_read : FuncData
  f_line_read : Fun K "line_read" "line_read" s_line_read a_line_read d_line_read
  b_line_read : Binds K d_line_read ["line"] []
  g_line_read : mg "line_read" = some (.ref a_line_read)
  a_bracketed : Addr
  d_bracketed : FuncData
  f_bracketed : Fun K "bracketed" "bracketed" s_bracketed a_bracketed d_bracketed
  b_bracketed : Binds K d_bracketed ["formula", "words"] []
  g_bracketed : mg "bracketed" = some (.ref a_bracketed)
  a_shown : Addr
  d_shown : FuncData
  f_shown : Fun K "shown" "shown" s_shown a_shown d_shown
  b_shown : Binds K d_shown ["formula"] []
  g_shown : mg "shown" = some (.ref a_shown)
  a_Reader__init : Addr
  d_Reader__init : FuncData
  f_Reader__init : Fun K "__init__" "Reader.__init__" s_Reader__init a_Reader__init d_Reader__init
  b_Reader__init : Binds K d_Reader__init ["self", "text"] []
  a_Reader_here : Addr
  d_Reader_here : FuncData
  f_Reader_here : Fun K "here" "Reader.here" s_Reader_here a_Reader_here d_Reader_here
  b_Reader_here : Binds K d_Reader_here ["self"] []
  a_Reader_run_of : Addr
  d_Reader_run_of : FuncData
  f_Reader_run_of : Fun K "run_of" "Reader.run_of" s_Reader_run_of a_Reader_run_of d_Reader_run_of
  b_Reader_run_of : Binds K d_Reader_run_of ["self", "signs"] []
  a_Reader_total : Addr
  d_Reader_total : FuncData
  f_Reader_total : Fun K "total" "Reader.total" s_Reader_total a_Reader_total d_Reader_total
  b_Reader_total : Binds K d_Reader_total ["self"] []
  a_Reader_product : Addr
  d_Reader_product : FuncData
  f_Reader_product : Fun K "product" "Reader.product" s_Reader_product a_Reader_product d_Reader_product
  b_Reader_product : Binds K d_Reader_product ["self"] []
  a_Reader_piece : Addr
  d_Reader_piece : FuncData
  f_Reader_piece : Fun K "piece" "Reader.piece" s_Reader_piece a_Reader_piece d_Reader_piece
  b_Reader_piece : Binds K d_Reader_piece ["self"] []
  a_read : Addr
  d_read : FuncData
  f_read : Fun K "read" "read" s_read a_read d_read
  b_read : Binds K d_read ["text"] []
  g_read : mg "read" = some (.ref a_read)
  a_names_of : Addr
  d_names_of : FuncData
  f_names_of : Fun K "names_of" "names_of" s_names_of a_names_of d_names_of
  b_names_of : Binds K d_names_of ["formula"] []
  g_names_of : mg "names_of" = some (.ref a_names_of)
  a_Made__init : Addr
  d_Made__init : FuncData
  f_Made__init : Fun K "__init__" "Made.__init__" s_Made__init a_Made__init d_Made__init
  b_Made__init : Binds K d_Made__init ["self", "formula", "widths", "order", "splits"] []
  a_Made_worth_for : Addr
  d_Made_worth_for : FuncData
  f_Made_worth_for : Fun K "worth_for" "Made.worth_for" s_Made_worth_for a_Made_worth_for d_Made_worth_for
  b_Made_worth_for : Binds K d_Made_worth_for ["self", "words"] []
  a_span_told : Addr
  d_span_told : FuncData
  f_span_told : Fun K "span_told" "span_told" s_span_told a_span_told d_span_told
  b_span_told : Binds K d_span_told ["formula", "widths"] []
  g_span_told : mg "span_told" = some (.ref a_span_told)
  a_Desk__init : Addr
  d_Desk__init : FuncData
  f_Desk__init : Fun K "__init__" "Desk.__init__" s_Desk__init a_Desk__init d_Desk__init
  b_Desk__init : Binds K d_Desk__init ["self"] []
  a_Desk_say : Addr
  d_Desk_say : FuncData
  f_Desk_say : Fun K "say" "Desk.say" s_Desk_say a_Desk_say d_Desk_say
  b_Desk_say : Binds K d_Desk_say ["self", "line"] []
  a_law_at : Addr
  d_law_at : FuncData
  f_law_at : Fun K "_law_at" "_law_at" s_law_at a_law_at d_law_at
  b_law_at : Binds K d_law_at ["_law_script", "_law_k"] []
  g_law_at : mg "_law_at" = some (.ref a_law_at)
  a_law_mixed : Addr
  d_law_mixed : FuncData
  f_law_mixed : Fun K "_law_mixed" "_law_mixed" s_law_mixed a_law_mixed d_law_mixed
  b_law_mixed : Binds K d_law_mixed ["_law_cell", "_law_k"] []
  g_law_mixed : mg "_law_mixed" = some (.ref a_law_mixed)
  a_law_names : Addr
  d_law_names : FuncData
  f_law_names : Fun K "_law_names" "_law_names" s_law_names a_law_names d_law_names
  b_law_names : Binds K d_law_names ["_law_number"] []
  g_law_names : mg "_law_names" = some (.ref a_law_names)
  a_law_stream : Addr
  d_law_stream : FuncData
  f_law_stream : Fun K "_law_stream" "_law_stream" s_law_stream a_law_stream d_law_stream
  b_law_stream : Binds K d_law_stream ["_law_cell", "_law_k"] []
  g_law_stream : mg "_law_stream" = some (.ref a_law_stream)
  a_law_formula : Addr
  d_law_formula : FuncData
  f_law_formula : Fun K "_law_formula" "_law_formula" s_law_formula a_law_formula d_law_formula
  b_law_formula : Binds K d_law_formula ["_law_numbers", "_law_names_here"] []
  g_law_formula : mg "_law_formula" = some (.ref a_law_formula)
  a_law_bracketed : Addr
  d_law_bracketed : FuncData
  f_law_bracketed : Fun K "_law_bracketed" "_law_bracketed" s_law_bracketed a_law_bracketed d_law_bracketed
  b_law_bracketed : Binds K d_law_bracketed ["_law_formula_here", "_law_words"] []
  g_law_bracketed : mg "_law_bracketed" = some (.ref a_law_bracketed)
  a_law_text : Addr
  d_law_text : FuncData
  f_law_text : Fun K "_law_text" "_law_text" s_law_text a_law_text d_law_text
  b_law_text : Binds K d_law_text ["_law_formula_here"] []
  g_law_text : mg "_law_text" = some (.ref a_law_text)
  a_law_loose : Addr
  d_law_loose : FuncData
  f_law_loose : Fun K "_law_loose" "_law_loose" s_law_loose a_law_loose d_law_loose
  b_law_loose : Binds K d_law_loose ["_law_formula_here"] []
  g_law_loose : mg "_law_loose" = some (.ref a_law_loose)
  a_law_spoilt : Addr
  d_law_spoilt : FuncData
  f_law_spoilt : Fun K "_law_spoilt" "_law_spoilt" s_law_spoilt a_law_spoilt d_law_spoilt
  b_law_spoilt : Binds K d_law_spoilt ["_law_text_here", "_law_number"] []
  g_law_spoilt : mg "_law_spoilt" = some (.ref a_law_spoilt)
  a_law_ends : Addr
  d_law_ends : FuncData
  f_law_ends : Fun K "_law_ends" "_law_ends" s_law_ends a_law_ends d_law_ends
  b_law_ends : Binds K d_law_ends ["_law_width"] []
  g_law_ends : mg "_law_ends" = some (.ref a_law_ends)
  a_law_span : Addr
  d_law_span : FuncData
  f_law_span : Fun K "_law_span" "_law_span" s_law_span a_law_span d_law_span
  b_law_span : Binds K d_law_span ["_law_formula_here", "_law_widths"] []
  g_law_span : mg "_law_span" = some (.ref a_law_span)
  a_law_lacks : Addr
  d_law_lacks : FuncData
  f_law_lacks : Fun K "_law_lacks" "_law_lacks" s_law_lacks a_law_lacks d_law_lacks
  b_law_lacks : Binds K d_law_lacks ["_law_formula_here", "_law_widths"] []
  g_law_lacks : mg "_law_lacks" = some (.ref a_law_lacks)
  a_law_says : Addr
  d_law_says : FuncData
  f_law_says : Fun K "_law_says" "_law_says" s_law_says a_law_says d_law_says
  b_law_says : Binds K d_law_says ["_law_desk", "_law_line"] []
  g_law_says : mg "_law_says" = some (.ref a_law_says)
  a_law_answers : Addr
  d_law_answers : FuncData
  f_law_answers : Fun K "_law_answers" "_law_answers" s_law_answers a_law_answers d_law_answers
  b_law_answers : Binds K d_law_answers ["_law_desk", "_law_line", "_law_due"] []
  g_law_answers : mg "_law_answers" = some (.ref a_law_answers)
  a_law_asked : Addr
  d_law_asked : FuncData
  f_law_asked : Fun K "_law_asked" "_law_asked" s_law_asked a_law_asked d_law_asked
  b_law_asked : Binds K d_law_asked ["_law_desk", "_law_names_here", "_law_widths", "_law_xs"] []
  g_law_asked : mg "_law_asked" = some (.ref a_law_asked)
  a_law : Addr
  d_law : FuncData
  f_law : Fun K "law" "law" s_law a_law d_law
  b_law : Binds K d_law ["_law_script"] []
  g_law : mg "law" = some (.ref a_law)
  c_PressError : Addr
  gc_PressError : mg "PressError" = some (.ref c_PressError)
  nc_PressError : IsC K "PressError" c_PressError
  kc_PressError : PySem.W.keepIn K (.ref c_PressError) = true
  x_PressError : PySem.W.excIn K c_PressError [.type "ValueError", .type "Exception", .type "BaseException", .type "object"] "ValueError.__new__" = true
  xb_PressError : PySem.W.subIn K (.ref c_PressError) (.type "BaseException") = some true
  xt_PressError : PySem.W.typeIn K (.ref c_PressError) = some (.type "type")
  c_TooFew : Addr
  gc_TooFew : mg "TooFew" = some (.ref c_TooFew)
  nc_TooFew : IsC K "TooFew" c_TooFew
  kc_TooFew : PySem.W.keepIn K (.ref c_TooFew) = true
  x_TooFew : PySem.W.excIn K c_TooFew [.type "ValueError", .type "Exception", .type "BaseException", .type "object"] "ValueError.__new__" = true
  xb_TooFew : PySem.W.subIn K (.ref c_TooFew) (.type "BaseException") = some true
  xt_TooFew : PySem.W.typeIn K (.ref c_TooFew) = some (.type "type")
  c_TooMany : Addr
  gc_TooMany : mg "TooMany" = some (.ref c_TooMany)
  nc_TooMany : IsC K "TooMany" c_TooMany
  kc_TooMany : PySem.W.keepIn K (.ref c_TooMany) = true
  x_TooMany : PySem.W.excIn K c_TooMany [.type "ValueError", .type "Exception", .type "BaseException", .type "object"] "ValueError.__new__" = true
  xb_TooMany : PySem.W.subIn K (.ref c_TooMany) (.type "BaseException") = some true
  xt_TooMany : PySem.W.typeIn K (.ref c_TooMany) = some (.type "type")
  c_TooWide : Addr
  gc_TooWide : mg "TooWide" = some (.ref c_TooWide)
  nc_TooWide : IsC K "TooWide" c_TooWide
  kc_TooWide : PySem.W.keepIn K (.ref c_TooWide) = true
  x_TooWide : PySem.W.excIn K c_TooWide [.type "ValueError", .type "Exception", .type "BaseException", .type "object"] "ValueError.__new__" = true
  xb_TooWide : PySem.W.subIn K (.ref c_TooWide) (.type "BaseException") = some true
  xt_TooWide : PySem.W.typeIn K (.ref c_TooWide) = some (.type "type")
  c_NoFormula : Addr
  gc_NoFormula : mg "NoFormula" = some (.ref c_NoFormula)
  nc_NoFormula : IsC K "NoFormula" c_NoFormula
  kc_NoFormula : PySem.W.keepIn K (.ref c_NoFormula) = true
  x_NoFormula : PySem.W.excIn K c_NoFormula [.type "ValueError", .type "Exception", .type "BaseException", .type "object"] "ValueError.__new__" = true
  xb_NoFormula : PySem.W.subIn K (.ref c_NoFormula) (.type "BaseException") = some true
  xt_NoFormula : PySem.W.typeIn K (.ref c_NoFormula) = some (.type "type")
  c_NoName : Addr
  gc_NoName : mg "NoName" = some (.ref c_NoName)
  nc_NoName : IsC K "NoName" c_NoName
  kc_NoName : PySem.W.keepIn K (.ref c_NoName) = true
  x_NoName : PySem.W.excIn K c_NoName [.type "ValueError", .type "Exception", .type "BaseException", .type "object"] "ValueError.__new__" = true
  xb_NoName : PySem.W.subIn K (.ref c_NoName) (.type "BaseException") = some true
  xt_NoName : PySem.W.typeIn K (.ref c_NoName) = some (.type "type")
  c_NoLine : Addr
  gc_NoLine : mg "NoLine" = some (.ref c_NoLine)
  nc_NoLine : IsC K "NoLine" c_NoLine
  kc_NoLine : PySem.W.keepIn K (.ref c_NoLine) = true
  x_NoLine : PySem.W.excIn K c_NoLine [.type "ValueError", .type "Exception", .type "BaseException", .type "object"] "ValueError.__new__" = true
  xb_NoLine : PySem.W.subIn K (.ref c_NoLine) (.type "BaseException") = some true
  xt_NoLine : PySem.W.typeIn K (.ref c_NoLine) = some (.type "type")
  c_NoCircuit : Addr
  gc_NoCircuit : mg "NoCircuit" = some (.ref c_NoCircuit)
  nc_NoCircuit : IsC K "NoCircuit" c_NoCircuit
  kc_NoCircuit : PySem.W.keepIn K (.ref c_NoCircuit) = true
  x_NoCircuit : PySem.W.excIn K c_NoCircuit [.type "ValueError", .type "Exception", .type "BaseException", .type "object"] "ValueError.__new__" = true
  xb_NoCircuit : PySem.W.subIn K (.ref c_NoCircuit) (.type "BaseException") = some true
  xt_NoCircuit : PySem.W.typeIn K (.ref c_NoCircuit) = some (.type "type")
  c_OutOfWidth : Addr
  gc_OutOfWidth : mg "OutOfWidth" = some (.ref c_OutOfWidth)
  nc_OutOfWidth : IsC K "OutOfWidth" c_OutOfWidth
  kc_OutOfWidth : PySem.W.keepIn K (.ref c_OutOfWidth) = true
  x_OutOfWidth : PySem.W.excIn K c_OutOfWidth [.type "ValueError", .type "Exception", .type "BaseException", .type "object"] "ValueError.__new__" = true
  xb_OutOfWidth : PySem.W.subIn K (.ref c_OutOfWidth) (.type "BaseException") = some true
  xt_OutOfWidth : PySem.W.typeIn K (.ref c_OutOfWidth) = some (.type "type")
  c_Reader : Addr
  gc_Reader : mg "Reader" = some (.ref c_Reader)
  nc_Reader : IsC K "Reader" c_Reader
  kc_Reader : PySem.W.keepIn K (.ref c_Reader) = true
  cl_Reader : Cls K c_Reader
  mk_Reader : Mk K c_Reader a_Reader__init
  m_Reader_here : Meth K c_Reader "here" a_Reader_here
  m_Reader_run_of : Meth K c_Reader "run_of" a_Reader_run_of
  m_Reader_total : Meth K c_Reader "total" a_Reader_total
  m_Reader_product : Meth K c_Reader "product" a_Reader_product
  m_Reader_piece : Meth K c_Reader "piece" a_Reader_piece
  n_Reader_text : NoAttr K c_Reader "text"
  n_Reader_at : NoAttr K c_Reader "at"
  c_Made : Addr
  gc_Made : mg "Made" = some (.ref c_Made)
  nc_Made : IsC K "Made" c_Made
  kc_Made : PySem.W.keepIn K (.ref c_Made) = true
  cl_Made : Cls K c_Made
  mk_Made : Mk K c_Made a_Made__init
  m_Made_worth_for : Meth K c_Made "worth_for" a_Made_worth_for
  n_Made_below : NoAttr K c_Made "below"
  n_Made_widths : NoAttr K c_Made "widths"
  n_Made_rows : NoAttr K c_Made "rows"
  n_Made_outs : NoAttr K c_Made "outs"
  c_Desk : Addr
  gc_Desk : mg "Desk" = some (.ref c_Desk)
  nc_Desk : IsC K "Desk" c_Desk
  kc_Desk : PySem.W.keepIn K (.ref c_Desk) = true
  cl_Desk : Cls K c_Desk
  mk_Desk : Mk K c_Desk a_Desk__init
  m_Desk_say : Meth K c_Desk "say" a_Desk_say
  n_Desk_widths : NoAttr K c_Desk "widths"
  n_Desk_order : NoAttr K c_Desk "order"
  n_Desk_splits : NoAttr K c_Desk "splits"
  n_Desk_made : NoAttr K c_Desk "made"
  ehd_PressError : PySem.W.hasDictIn K c_PressError = true
  ehd_TooFew : PySem.W.hasDictIn K c_TooFew = true
  ehd_TooMany : PySem.W.hasDictIn K c_TooMany = true
  ehd_TooWide : PySem.W.hasDictIn K c_TooWide = true
  ehd_NoFormula : PySem.W.hasDictIn K c_NoFormula = true
  ega_NoFormula : PySem.W.findIn K (.ref c_NoFormula) "__getattribute__" = some (some (.builtin "BaseException.__getattribute__"))
  egg_NoFormula : PySem.W.findIn K (.ref c_NoFormula) "__getattr__" = some none
  ecl_NoFormula : PySem.W.findIn K (.ref c_NoFormula) "__class__" = some (some (.builtin "object.__class__"))
  esp_NoFormula : PySem.W.specialIn K (.builtin "object.__class__") "__get__" = some (some (.builtin "getset_descriptor.__get__"))
  etk_NoFormula : PySem.W.takesIn K (.builtin "object.__class__") = some true
  emr_NoFormula : PySem.W.mroIn K c_NoFormula (.type "object") = some true
  sv_NoFormula : PySem.W.subIn K (.ref c_NoFormula) (.type "ValueError") = some true
  kv_NoFormula : PySem.W.kitOne K (.ref c_NoFormula) (.type "ValueError") = some true
  s_NoFormula_PressError : PySem.W.subIn K (.ref c_NoFormula) (.ref c_PressError) = some true
  k_NoFormula_PressError : PySem.W.kitOne K (.ref c_NoFormula) (.ref c_PressError) = some true
  m_NoFormula_PressError : PySem.W.exmOne K (.ref c_NoFormula) (.ref c_PressError) = some true
  s_NoFormula_TooFew : PySem.W.subIn K (.ref c_NoFormula) (.ref c_TooFew) = some false
  k_NoFormula_TooFew : PySem.W.kitOne K (.ref c_NoFormula) (.ref c_TooFew) = some false
  s_NoFormula_TooMany : PySem.W.subIn K (.ref c_NoFormula) (.ref c_TooMany) = some false
  k_NoFormula_TooMany : PySem.W.kitOne K (.ref c_NoFormula) (.ref c_TooMany) = some false
  s_NoFormula_TooWide : PySem.W.subIn K (.ref c_NoFormula) (.ref c_TooWide) = some false
  k_NoFormula_TooWide : PySem.W.kitOne K (.ref c_NoFormula) (.ref c_TooWide) = some false
  s_NoFormula_NoFormula : PySem.W.subIn K (.ref c_NoFormula) (.ref c_NoFormula) = some true
  k_NoFormula_NoFormula : PySem.W.kitOne K (.ref c_NoFormula) (.ref c_NoFormula) = some true
  s_NoFormula_NoName : PySem.W.subIn K (.ref c_NoFormula) (.ref c_NoName) = some false
  k_NoFormula_NoName : PySem.W.kitOne K (.ref c_NoFormula) (.ref c_NoName) = some false
  s_NoFormula_NoLine : PySem.W.subIn K (.ref c_NoFormula) (.ref c_NoLine) = some false
  k_NoFormula_NoLine : PySem.W.kitOne K (.ref c_NoFormula) (.ref c_NoLine) = some false
  s_NoFormula_NoCircuit : PySem.W.subIn K (.ref c_NoFormula) (.ref c_NoCircuit) = some false
  k_NoFormula_NoCircuit : PySem.W.kitOne K (.ref c_NoFormula) (.ref c_NoCircuit) = some false
  s_NoFormula_OutOfWidth : PySem.W.subIn K (.ref c_NoFormula) (.ref c_OutOfWidth) = some false
  k_NoFormula_OutOfWidth : PySem.W.kitOne K (.ref c_NoFormula) (.ref c_OutOfWidth) = some false
  ehd_NoName : PySem.W.hasDictIn K c_NoName = true
  ega_NoName : PySem.W.findIn K (.ref c_NoName) "__getattribute__" = some (some (.builtin "BaseException.__getattribute__"))
  egg_NoName : PySem.W.findIn K (.ref c_NoName) "__getattr__" = some none
  ecl_NoName : PySem.W.findIn K (.ref c_NoName) "__class__" = some (some (.builtin "object.__class__"))
  esp_NoName : PySem.W.specialIn K (.builtin "object.__class__") "__get__" = some (some (.builtin "getset_descriptor.__get__"))
  etk_NoName : PySem.W.takesIn K (.builtin "object.__class__") = some true
  emr_NoName : PySem.W.mroIn K c_NoName (.type "object") = some true
  sv_NoName : PySem.W.subIn K (.ref c_NoName) (.type "ValueError") = some true
  kv_NoName : PySem.W.kitOne K (.ref c_NoName) (.type "ValueError") = some true
  s_NoName_PressError : PySem.W.subIn K (.ref c_NoName) (.ref c_PressError) = some true
  k_NoName_PressError : PySem.W.kitOne K (.ref c_NoName) (.ref c_PressError) = some true
  m_NoName_PressError : PySem.W.exmOne K (.ref c_NoName) (.ref c_PressError) = some true
  s_NoName_TooFew : PySem.W.subIn K (.ref c_NoName) (.ref c_TooFew) = some false
  k_NoName_TooFew : PySem.W.kitOne K (.ref c_NoName) (.ref c_TooFew) = some false
  s_NoName_TooMany : PySem.W.subIn K (.ref c_NoName) (.ref c_TooMany) = some false
  k_NoName_TooMany : PySem.W.kitOne K (.ref c_NoName) (.ref c_TooMany) = some false
  s_NoName_TooWide : PySem.W.subIn K (.ref c_NoName) (.ref c_TooWide) = some false
  k_NoName_TooWide : PySem.W.kitOne K (.ref c_NoName) (.ref c_TooWide) = some false
  s_NoName_NoFormula : PySem.W.subIn K (.ref c_NoName) (.ref c_NoFormula) = some false
  k_NoName_NoFormula : PySem.W.kitOne K (.ref c_NoName) (.ref c_NoFormula) = some false
  s_NoName_NoName : PySem.W.subIn K (.ref c_NoName) (.ref c_NoName) = some true
  k_NoName_NoName : PySem.W.kitOne K (.ref c_NoName) (.ref c_NoName) = some true
  s_NoName_NoLine : PySem.W.subIn K (.ref c_NoName) (.ref c_NoLine) = some false
  k_NoName_NoLine : PySem.W.kitOne K (.ref c_NoName) (.ref c_NoLine) = some false
  s_NoName_NoCircuit : PySem.W.subIn K (.ref c_NoName) (.ref c_NoCircuit) = some false
  k_NoName_NoCircuit : PySem.W.kitOne K (.ref c_NoName) (.ref c_NoCircuit) = some false
  s_NoName_OutOfWidth : PySem.W.subIn K (.ref c_NoName) (.ref c_OutOfWidth) = some false
  k_NoName_OutOfWidth : PySem.W.kitOne K (.ref c_NoName) (.ref c_OutOfWidth) = some false
  ehd_NoLine : PySem.W.hasDictIn K c_NoLine = true
  ehd_NoCircuit : PySem.W.hasDictIn K c_NoCircuit = true
  ehd_OutOfWidth : PySem.W.hasDictIn K c_OutOfWidth = true
  z_ValueError : mg "ValueError" = none
  z_int : mg "int" = none
  z_isinstance : mg "isinstance" = none
  z_len : mg "len" = none
  z_list : mg "list" = none
  z_max : mg "max" = none
  z_min : mg "min" = none
  z_range : mg "range" = none
  z_sorted : mg "sorted" = none
  z_str : mg "str" = none
  k_FIGURES_lines : Tok
  g_FIGURES_lines : mg "FIGURES_lines" = some (Value.str "0123456789" k_FIGURES_lines)
  k_FIGURES_text : Tok
  g_FIGURES_text : mg "FIGURES_text" = some (Value.str "0123456789" k_FIGURES_text)
  k_MOST : Tok
  g_MOST : mg "MOST" = some (Value.int 1000000000000 k_MOST)
  k_SMALL_lines : Tok
  g_SMALL_lines : mg "SMALL_lines" = some (Value.str "abcdefghijklmnopqrstuvwxyz" k_SMALL_lines)
  k_SMALL_text : Tok
  g_SMALL_text : mg "SMALL_text" = some (Value.str "abcdefghijklmnopqrstuvwxyz" k_SMALL_text)
end Dpr
open PySem PySem.W PyProof.Rows
set_option maxHeartbeats 0 in
theorem Dpr.holds_by (h : PySem.Challenge.rw_dotpress_k61_desk_shows.row.wellSaid = true → PySem.Challenge.rw_dotpress_k61_desk_shows.row.Holds) : PySem.Challenge.rw_dotpress_k61_desk_shows.Holds := by
  o_law
  apply h
  assumption
namespace Dpr
open PySem PySem.Spec PyProof.Rows L2
section
variable {P : Program} {w : World} {K : PySem.W.Frag} {mg : Str → Option Value} {base : Heap}
/-! the walk: one step a construct -/
open PySem PySem.Spec PyProof.Rows L2 Dpr
local macro_rules | `(tactic| walk_at "hp") => `(tactic| first
  | assumption
  | exact upd_same
  | (apply hp_upd; assumption; walk_at "hp")
  | (apply hp_upd2; assumption; walk_at "hp")
  | (apply same_at; assumption; walk_at "hp"))
local macro_rules | `(tactic| walk_at "sq") => `(tactic| first
  | assumption
  | exact SqL.of (by assumption)
  | exact SqL.of upd_same
  | exact SqT.of (by assumption)
  | (apply SqL.of; walk_at "hp")
  | (apply SqT.of; walk_at "hp")
  | (apply Same.seq; assumption; walk_at "sq")
  | (apply same_tup; assumption; walk_at "sq"))
local macro_rules | `(tactic| walk_at "sz") => `(tactic| first
  | omega
  | (simp only [List.length_map, List.length_append, List.length_cons, List.length_nil, List.length_range, List.length_replicate, List.length_take]; omega))
local macro_rules | `(tactic| walk_at "w1") => `(tactic| first
  | with_reducible refine w_seq ?_
  | with_reducible refine w_asg ?_
  | ((with_reducible apply w_var); rfl)
  | with_reducible refine w_c ?_
  | with_reducible refine w_op ?_
  | with_reducible refine w_un ?_
  | with_reducible refine w_I0 ?_
  | with_reducible refine w_U ?_
  | with_reducible refine w_bl ?_
  | with_reducible refine w_test ?_
  | with_reducible refine w_tB ?_
  | ((with_reducible refine w_eq ?_ ?_); rfl)
  | ((with_reducible refine w_ne ?_ ?_); rfl)
  | with_reducible refine w_if ?_
  | with_reducible refine w_cons ?_
  | with_reducible refine w_nil ?_
  | with_reducible refine w_itT ?_
  | with_reducible refine w_itF ?_
  | ((with_reducible refine w_itS1 ?_ ?_); decide +kernel)
  | ((with_reducible refine w_itS0 ?_ ?_); decide +kernel)
  | ((with_reducible refine w_itN1 ?_ ?_); decide +kernel)
  | ((with_reducible refine w_itN0 ?_ ?_); decide +kernel)
  | with_reducible refine w_dget ?_
  | ((with_reducible apply w_DG1); (walk_at "hp"); assumption)
  | ((with_reducible refine w_itC ?_ ?_); (first | decide +kernel | (simp only [List.length_cons, List.length_nil]; decide +kernel)))
  | ((with_reducible refine w_itD ?_ ?_); (first | decide +kernel | (simp only [List.length_cons, List.length_nil]; decide +kernel)))
  | with_reducible refine w_asgG ?_
  | with_reducible refine w_drop ?_
  | with_reducible refine w_ret ?_
  | with_reducible refine w_retN ?_
  | with_reducible refine w_next ?_
  | with_reducible refine w_cont ?_
  | with_reducible refine w_brk ?_
  | ((with_reducible apply w_aug); rfl)
  | with_reducible refine w_ipI ?_
  | with_reducible refine w_chain ?_
  | with_reducible refine w_and ?_
  | with_reducible refine w_or ?_
  | with_reducible refine w_not ?_
  | with_reducible refine w_andV ?_
  | with_reducible refine w_orV ?_
  | with_reducible refine w_notV ?_
  | with_reducible refine w_ifx ?_
  | with_reducible refine w_call ?_
  | with_reducible refine w_cb ?_
  | ((with_reducible refine w_for ?_); (try simp only [List.set_cons_zero, List.set_cons_succ]))
  | ((with_reducible refine w_lc ?_); (try simp only [List.set_cons_zero, List.set_cons_succ]))
  | with_reducible refine w_bm ?_
  | with_reducible refine w_bm0 ?_
  | ((with_reducible apply w_BML); (walk_at "hp"))
  | ((with_reducible apply w_BM0L); (walk_at "hp"))
  | ((with_reducible apply w_append); (walk_at "hp"); (try (walk_at "sz")))
  | ((with_reducible apply w_gTup); (walk_at "sq"); rfl)
  | with_reducible refine w_gCons ?_
  | with_reducible refine w_gNil ?_
  | with_reducible refine w_gName ?_
  | with_reducible refine w_iE ?_
  | ((with_reducible apply w_IE1); (walk_at "sq"))
  | with_reducible refine w_intB ?_
  | with_reducible refine w_tm1 ?_
  | with_reducible refine w_M11 ?_
  | ((with_reducible apply w_inL); (walk_at "sq"); rfl; rfl)
  | ((with_reducible apply w_inT); (walk_at "sq"); rfl; rfl)
  | ((with_reducible apply w_niL); (walk_at "sq"); rfl; rfl)
  | ((with_reducible apply w_niT); (walk_at "sq"); rfl; rfl)
  | with_reducible refine w_bit1 ?_
  | with_reducible refine w_shrN ?_
  | ((with_reducible refine w_shlN ?_ ?_); omega)
  | ((with_reducible refine w_divP ?_ ?_); omega)
  | with_reducible refine w_iL ?_
  | with_reducible refine w_iT ?_
  | with_reducible refine w_iR1 ?_
  | with_reducible refine w_iR2 ?_
  | ((with_reducible apply w_IL1); (walk_at "sq"))
  | ((with_reducible apply w_IT1); (walk_at "sq"))
  | ((with_reducible refine w_IR1 ?_ ?_); (walk_at "sz"))
  | ((with_reducible refine w_IR2 ?_ ?_); (walk_at "sz"))
  | ((with_reducible apply w_sl); (walk_at "sq"); intro _ _ _ _ _)
  | with_reducible refine w_tsl ?_
  | with_reducible refine w_tnp ?_
  | with_reducible refine w_tpt ?_
  | with_reducible refine w_pt ?_
  | ((with_reducible apply w_cat); (walk_at "hp"); (walk_at "hp"); (try (walk_at "sz")))
  | ((with_reducible apply w_listL); (walk_at "sq"); intro _ _ _ _ _)
  | ((with_reducible apply w_listT); (walk_at "sq"); intro _ _ _ _ _)
  | with_reducible refine w_tbits ?_
  | with_reducible refine w_bits ?_
  | with_reducible refine w_tup ?_
  | with_reducible refine w_lst ?_
  | ((with_reducible refine w_alT ?_ ?_); (exact sz_le rfl); intro _ _ _ _ _)
  | ((with_reducible refine w_alL ?_ ?_); (exact sz_le rfl); intro _ _ _ _ _)
  | with_reducible refine w_abs ?_
  | with_reducible refine w_max2 ?_
  | with_reducible refine w_min2 ?_
  | ((with_reducible refine w_I ?_ ?_); (first | exact ⟨by decide, by decide⟩ | (show (_ : Int) < _; decide) | exact p2pos _ | exact ⟨by omega, by omega, by decide⟩ | exact ⟨by omega, by omega⟩ | (show (_ : Int) < _; omega) | (show (_ : Int) ≤ _; omega) | exact .of_left (by decide) | exact .of_right (by decide) | exact mul_sm (by omega) | exact mul_sm2 (by omega) | exact mul_cc (by assumption) (by assumption) | exact mul_ok2 (n := 250) (by assumption) (by decide) (by decide)))
  | ((with_reducible apply w_ixL); (walk_at "sq"); rfl)
  | ((with_reducible apply w_ixT); (walk_at "sq"); rfl)
  | ((with_reducible apply w_lenL); (walk_at "sq"))
  | ((with_reducible apply w_lenT); (walk_at "sq"))
  | (with_reducible refine w_isi (TyX.base (TyOf.int _)) (kit_ii _) ?_)
  | (with_reducible refine w_isi (TyX.base (TyOf.int _)) (kit_ib _) ?_)
  | (with_reducible refine w_isi (TyX.base (TyOf.bl _)) (kit_bi _) ?_)
  | (with_reducible refine w_isi (TyX.base (TyOf.bl _)) (kit_bb _) ?_)
  | (with_reducible refine w_isi (TyX.base (TyOf.str _)) (kit_ss _) ?_)
  | ((with_reducible apply w_isiT); (walk_at "hp"))
  | ((with_reducible apply w_isiL); (walk_at "hp")))
local macro_rules | `(tactic| walk_at "split") => `(tactic| first
  | ((with_reducible refine w_itS ?_ ?_) <;> intro _)
  | ((with_reducible refine w_itSN ?_ ?_) <;> intro _)
  | ((with_reducible refine w_itI ?_ ?_) <;> intro _)
  | ((with_reducible refine w_itN ?_ ?_) <;> intro _)
  | ((with_reducible refine w_itn ?_ ?_) <;> intro _)
  | ((with_reducible refine w_itd ?_ ?_) <;> intro _)
  | ((with_reducible refine w_itb ?_ ?_) <;> intro _))
local macro_rules | `(tactic| walk_at "wk") => `(tactic| repeat' (walk_at "w1"))
local macro_rules | `(tactic| walk_at "ws") => `(tactic| repeat' (first | (walk_at "w1") | ((walk_at "split") <;> (try (exfalso; omega (config := {}))))))
local macro_rules | `(tactic| walk_at "w1") => `(tactic| first
  | ((with_reducible refine w_disp ?_); intro _ _ _ _ _)
  | with_reducible refine w_pairs ?_
  | with_reducible refine w_pairs0 ?_
  | ((with_reducible apply w_dictD); (walk_at "hp"); intro _ _ _ _ _))
local macro_rules | `(tactic| walk_at "w1") => `(tactic| first
  | with_reducible refine w_dput ?_
  | ((with_reducible apply w_DPutB); (walk_at "hp"); (walk_at "sz"))
  | ((with_reducible apply w_insert); (walk_at "hp"); (walk_at "sz"); omega)
  | ((with_reducible refine w_dnewK ?_); intro _ _ _ _ _)
  | with_reducible refine w_revR ?_
  | with_reducible refine w_rg1 ?_
  | with_reducible refine w_RG1 ?_
  | ((with_reducible refine w_RevB ?_ ?_); omega))
local macro_rules | `(tactic| walk_at "w1") => `(tactic| first
  | ((with_reducible apply w_slT1); (walk_at "sq"); intro _ _ _ _ _))
local macro_rules | `(tactic| walk_at "w1") => `(tactic| first
  | with_reducible refine w_isNo1 ?_
  | with_reducible refine w_isNo0 ?_
  | with_reducible refine w_notNo1 ?_
  | with_reducible refine w_notNo0 ?_)
local macro_rules | `(tactic| walk_at "lk") => `(tactic| first
  | exact lookup_hd
  | exact lookup_no
  | ((refine lookup_tl ?_ ?_); decide +kernel; (walk_at "lk")))
local macro_rules | `(tactic| walk_at "w1") => `(tactic| first
  | with_reducible refine w_fld ?_
  | ((with_reducible apply w_FldB); (walk_at "hp"); assumption; assumption; (walk_at "lk"))
  | with_reducible refine w_sfld ?_
  | ((with_reducible apply w_SFldB); (walk_at "hp"); assumption; assumption; exact Nat.le_of_ble_eq_true rfl)
  | with_reducible refine w_meth ?_
  | ((with_reducible apply w_MethB); (walk_at "hp"); (walk_at "lk")))
local macro_rules | `(tactic| walk_at "w1") => `(tactic| first
  | with_reducible refine w_dnin ?_
  | with_reducible refine w_mk ?_
  | ((with_reducible refine w_MkB ?_); intro _ _ _ _ _ _ _)
  | with_reducible refine w_notNoI ?_
  | with_reducible refine w_din ?_
  | ((with_reducible refine w_dnewT ?_); intro _ _ _ _ _)
  | with_reducible refine w_gSub ?_
  | ((with_reducible apply w_tupL); (walk_at "sq"); intro _ _ _ _ _))
local macro_rules | `(tactic| walk_at "w1") => `(tactic| first
  | with_reducible refine w_methS ?_
  | ((with_reducible apply w_MethSB); (walk_at "hp"); (walk_at "lk"))
  | with_reducible refine w_callS ?_)
local macro_rules | `(tactic| walk_at "w1") => `(tactic| first
  | ((with_reducible apply w_BM0D); (walk_at "hp"))
  | ((with_reducible apply w_copyD); (walk_at "hp"); intro _ _ _ _ _)
  | ((with_reducible refine w_addS ?_ ?_); omega))
/-! lengths of short lists and tuples -/
theorem w_lenT2 {K : PySem.W.Frag} {H : Hp} {Q : VK} {p : Addr} {x y : V} (h : SqT K H p [x, y]) (q : Q (.int 2) H) : rLen K [.ref p] H Q := ⟨p, _, rfl, .inr h, q⟩
theorem w_lenT3 {K : PySem.W.Frag} {H : Hp} {Q : VK} {p : Addr} {x y z : V} (h : SqT K H p [x, y, z]) (q : Q (.int 3) H) : rLen K [.ref p] H Q := ⟨p, _, rfl, .inr h, q⟩
local macro_rules | `(tactic| walk_at "w1") => `(tactic| first
  | ((with_reducible apply w_lenT2); (walk_at "sq"))
  | ((with_reducible apply w_lenT3); (walk_at "sq")))
theorem w_lenL0 {K : PySem.W.Frag} {H : Hp} {Q : VK} {p : Addr} (h : SqL K H p []) (q : Q (.int 0) H) : rLen K [.ref p] H Q := ⟨p, _, rfl, .inl h, q⟩
theorem w_lenL1 {K : PySem.W.Frag} {H : Hp} {Q : VK} {p : Addr} {x : V} (h : SqL K H p [x]) (q : Q (.int 1) H) : rLen K [.ref p] H Q := ⟨p, _, rfl, .inl h, q⟩
theorem w_lenL2 {K : PySem.W.Frag} {H : Hp} {Q : VK} {p : Addr} {x y : V} (h : SqL K H p [x, y]) (q : Q (.int 2) H) : rLen K [.ref p] H Q := ⟨p, _, rfl, .inl h, q⟩
local macro_rules | `(tactic| walk_at "w1") => `(tactic| first
  | ((with_reducible apply w_lenL0); (walk_at "sq"))
  | ((with_reducible apply w_lenL1); (walk_at "sq"))
  | ((with_reducible apply w_lenL2); (walk_at "sq")))
local macro_rules | `(tactic| walk_at "w1") => `(tactic| first
  | ((with_reducible refine w_lenS ?_ ?_); (walk_at "sz"))
  | ((with_reducible refine w_strI ?_ ?_); (exact small_abs (by omega))))
local macro_rules | `(tactic| walk_at "w1") => `(tactic| first
  | with_reducible refine w_strAS ?_
  | ((with_reducible refine w_strAI ?_ ?_); (exact small_abs (by omega))))
/-! the walk's quick way: one step by its head -/
local macro_rules | `(tactic| walk_at "hq") => `(tactic| first
  | assumption
  | with_reducible exact upd_same
  | (with_reducible apply hp_upd; assumption; walk_at "hq")
  | (with_reducible apply hp_upd2; assumption; walk_at "hq")
  | (with_reducible apply same_at; assumption; walk_at "hq")
  | exact upd_same
  | (apply hp_upd; assumption; walk_at "hq")
  | (apply hp_upd2; assumption; walk_at "hq")
  | (apply same_at; assumption; walk_at "hq"))
local macro_rules | `(tactic| walk_at "h1") => `(tactic| first
  | ((with_reducible refine w_itS1 ?_ ?_); decide +kernel)
  | ((with_reducible refine w_itS0 ?_ ?_); decide +kernel)
  | ((with_reducible refine w_itN1 ?_ ?_); decide +kernel)
  | ((with_reducible refine w_itN0 ?_ ?_); decide +kernel)
  | ((with_reducible refine w_itC ?_ ?_); (first | decide +kernel | (simp only [List.length_cons, List.length_nil]; decide +kernel)))
  | ((with_reducible refine w_itD ?_ ?_); (first | decide +kernel | (simp only [List.length_cons, List.length_nil]; decide +kernel))))
local macro_rules | `(tactic| walk_at "h2") => `(tactic| first
  | ((with_reducible apply w_MethSB); (walk_at "hq"); (walk_at "lk"))
  | ((with_reducible apply w_FldB); (walk_at "hq"); assumption; assumption; (walk_at "lk"))
  | ((with_reducible apply w_SFldB); (walk_at "hq"); assumption; assumption; exact Nat.le_of_ble_eq_true rfl)
  | ((with_reducible apply w_MethB); (walk_at "hq"); (walk_at "lk")))
local macro_rules | `(tactic| walk_at "h3") => `(tactic| first
  | ((with_reducible apply w_lenL0); (walk_at "sq"))
  | ((with_reducible apply w_lenL1); (walk_at "sq"))
  | ((with_reducible apply w_lenL2); (walk_at "sq"))
  | ((with_reducible apply w_lenT2); (walk_at "sq"))
  | ((with_reducible apply w_lenT3); (walk_at "sq"))
  | ((with_reducible refine w_I ?_ ?_); (first | exact ⟨by decide, by decide⟩ | (show (_ : Int) < _; decide) | exact p2pos _ | exact ⟨by omega, by omega, by decide⟩ | exact ⟨by omega, by omega⟩ | (show (_ : Int) < _; omega) | (show (_ : Int) ≤ _; omega) | exact .of_left (by decide) | exact .of_right (by decide) | exact mul_sm (by omega) | exact mul_sm2 (by omega) | exact mul_cc (by assumption) (by assumption) | exact mul_ok2 (n := 250) (by assumption) (by decide) (by decide)))
  | ((with_reducible apply w_ixL); (walk_at "sq"); rfl)
  | ((with_reducible apply w_ixT); (walk_at "sq"); rfl)
  | ((with_reducible apply w_lenL); (walk_at "sq"))
  | ((with_reducible apply w_lenT); (walk_at "sq")))
local macro_rules | `(tactic| walk_at "h4") => `(tactic| first
  | ((with_reducible refine w_RevB ?_ ?_); omega)
  | ((with_reducible refine w_for ?_); (try simp only [List.set_cons_zero, List.set_cons_succ]))
  | ((with_reducible refine w_lc ?_); (try simp only [List.set_cons_zero, List.set_cons_succ]))
  | ((with_reducible apply w_gTup); (walk_at "sq"); rfl)
  | ((with_reducible apply w_IE1); (walk_at "sq"))
  | ((with_reducible apply w_IL1); (walk_at "sq"))
  | ((with_reducible apply w_IT1); (walk_at "sq"))
  | ((with_reducible refine w_IR1 ?_ ?_); (walk_at "sz"))
  | ((with_reducible refine w_IR2 ?_ ?_); (walk_at "sz")))
local macro_rules | `(tactic| walk_at "h5") => `(tactic| first
  | ((with_reducible apply w_copyD); (walk_at "hq"); intro _ _ _ _ _)
  | ((with_reducible refine w_MkB ?_); intro _ _ _ _ _ _ _)
  | ((with_reducible refine w_dnewT ?_); intro _ _ _ _ _)
  | ((with_reducible apply w_tupL); (walk_at "sq"); intro _ _ _ _ _)
  | ((with_reducible apply w_slT1); (walk_at "sq"); intro _ _ _ _ _)
  | ((with_reducible refine w_dnewK ?_); intro _ _ _ _ _)
  | ((with_reducible refine w_disp ?_); intro _ _ _ _ _)
  | ((with_reducible apply w_dictD); (walk_at "hq"); intro _ _ _ _ _)
  | ((with_reducible apply w_sl); (walk_at "sq"); intro _ _ _ _ _)
  | ((with_reducible apply w_cat); (walk_at "hq"); (walk_at "hq"); (try (walk_at "sz")))
  | ((with_reducible apply w_listL); (walk_at "sq"); intro _ _ _ _ _)
  | ((with_reducible apply w_listT); (walk_at "sq"); intro _ _ _ _ _)
  | ((with_reducible refine w_alT ?_ ?_); (exact sz_le rfl); intro _ _ _ _ _)
  | ((with_reducible refine w_alL ?_ ?_); (exact sz_le rfl); intro _ _ _ _ _))
local macro_rules | `(tactic| walk_at "h6") => `(tactic| first
  | ((with_reducible apply w_BM0D); (walk_at "hq"))
  | ((with_reducible apply w_DPutB); (walk_at "hq"); (walk_at "sz"))
  | ((with_reducible apply w_insert); (walk_at "hq"); (walk_at "sz"); omega)
  | ((with_reducible apply w_DG1); (walk_at "hq"); assumption)
  | ((with_reducible apply w_aug); rfl)
  | ((with_reducible apply w_BML); (walk_at "hq"))
  | ((with_reducible apply w_BM0L); (walk_at "hq"))
  | ((with_reducible apply w_append); (walk_at "hq"); (try (walk_at "sz")))
  | ((with_reducible apply w_inL); (walk_at "sq"); rfl; rfl)
  | ((with_reducible apply w_inT); (walk_at "sq"); rfl; rfl)
  | ((with_reducible apply w_niL); (walk_at "sq"); rfl; rfl)
  | ((with_reducible apply w_niT); (walk_at "sq"); rfl; rfl))
local macro_rules | `(tactic| walk_at "h7") => `(tactic| first
  | with_reducible refine w_strAS ?_
  | ((with_reducible refine w_strAI ?_ ?_); (exact small_abs (by omega)))
  | ((with_reducible refine w_lenS ?_ ?_); (walk_at "sz"))
  | ((with_reducible refine w_strI ?_ ?_); (exact small_abs (by omega)))
  | ((with_reducible refine w_addS ?_ ?_); omega)
  | ((with_reducible refine w_shlN ?_ ?_); omega)
  | ((with_reducible refine w_divP ?_ ?_); omega)
  | (with_reducible refine w_isi (TyX.base (TyOf.int _)) (kit_ii _) ?_)
  | (with_reducible refine w_isi (TyX.base (TyOf.int _)) (kit_ib _) ?_)
  | (with_reducible refine w_isi (TyX.base (TyOf.bl _)) (kit_bi _) ?_)
  | (with_reducible refine w_isi (TyX.base (TyOf.bl _)) (kit_bb _) ?_)
  | (with_reducible refine w_isi (TyX.base (TyOf.str _)) (kit_ss _) ?_)
  | ((with_reducible apply w_isiT); (walk_at "hq"))
  | ((with_reducible apply w_isiL); (walk_at "hq")))
local macro_rules | `(tactic| walk_at "wf") => `(tactic| first
  | with_reducible refine WS.imp ?_
  | ((with_reducible apply w_var); rfl)
  | ((with_reducible refine HD.go 1 ?_); walk_at "h1")
  | ((with_reducible refine HD.go 2 ?_); walk_at "h2")
  | ((with_reducible refine HD.go 3 ?_); walk_at "h3")
  | ((with_reducible refine w_eq ?_ ?_); rfl)
  | ((with_reducible refine w_ne ?_ ?_); rfl)
  | ((with_reducible refine HD.go 6 ?_); walk_at "h6")
  | ((with_reducible refine HD.go 5 ?_); walk_at "h5")
  | ((with_reducible refine HD.go 4 ?_); walk_at "h4")
  | ((with_reducible refine HD.go 7 ?_); walk_at "h7"))
local macro_rules | `(tactic| walk_at "w2") => `(tactic| fail)
local macro_rules | `(tactic| walk_at "wk") => `(tactic| repeat' (first | (walk_at "wf") | (walk_at "w2")))
local macro_rules | `(tactic| walk_at "ws") => `(tactic| repeat' (first | (walk_at "wf") | (walk_at "w2") | ((with_reducible refine HD.go 1 ?_); ((walk_at "split") <;> (try (exfalso; omega (config := {})))))))
/-! numbers drawn from a cell -/
def sp_law_mixed (K : PySem.W.Frag) : Sp := fun vs H Q _ => ∃ c k : Int, vs = [.int c, .int k] ∧ Builtin.Int.intBits c ≤ 1048600 ∧ (0 ≤ k ∧ k ≤ 1000000) ∧ ∀ v : Int, 0 ≤ v → v < 2147483648 → Q (.int v) H
theorem ok_law_mixed (T : Top K mg) : FnOk P w K mg base CX0 1 T.a_law_mixed T.d_law_mixed ["_law_cell", "_law_k"] (sp_law_mixed K) := by
  refine T.f_law_mixed.ok sc_law_mixed (fun vs H Q E h => ?_) (fun cdv A outer s H vs Q E hr h => ?_)
  · obtain ⟨c, k, rfl, _⟩ := h
    rfl
  obtain ⟨c, k, rfl, h⟩ := h
  refine ⟨_, (pss_cons (ps_if (pt_cmpR op_ge (pv 0) (pe_op op_pow pe_int pe_int) (nomark _)) (pss_one (ps_ret (pe_op op_mod (pe_op op_fdivW (pe_op op_sub (pv 0) (pe_op op_pow pe_int pe_int)) (pe_op op_shl pe_int (pe_op op_mulI pe_int (pe_op op_mod (pv 1) pe_int)))) (pe_op op_shl pe_int pe_int)))) pss_nil)
      (pss_cons (ps_set (i := 2) sc_law_mixed.nd rfl (.inl rfl) (pe_op op_mod (pe_op op_add (pe_op op_add (pe_op op_mulI (pv 0) pe_int) (pe_op op_mulI (pe_op op_mulI pe_int (pv 1)) (pv 1))) (pv 1)) pe_int))
      (pss_cons (ps_set (i := 2) sc_law_mixed.nd rfl (.inl rfl) (pe_op op_mod (pe_op op_mulI (pv 2) (pv 2)) pe_int))
      (pss_one (ps_ret (pe_op op_mod (pe_op op_mulI (pv 2) pe_int) pe_int)))))), ?_⟩
  try dsimp only [cxOf, Cx.nox, Cx.wish]
  simp only [L2.start, List.map_cons, List.map_nil, List.length_cons, List.length_nil, Nat.reduceAdd, Nat.reduceSub, List.replicate_succ, List.replicate_zero, List.cons_append, List.nil_append]
  obtain ⟨hc, hk, h⟩ := h
  walk_at "ws"
  · have hp : (0 : Int) < 1 * 2 ^ (31 * (k % 60)).toNat := by
      rw [Int.one_mul]
      exact p2pos _
    refine w_I (wide_div hp (b := 2001) (by rw [abs_pow]; exact Nat.pow_lt_pow_right (by decide) (by omega)) (by decide) (by decide)) ?_
    walk_at "ws"
    have e : (1 : Int) * 2 ^ Int.toNat 31 = 2147483648 := by decide
    rw [e]
    exact h _ (Int.emod_nonneg _ (by decide)) (Int.emod_lt_of_pos _ (by decide))
  · refine h _ (Int.emod_nonneg _ (by decide)) ?_
    exact Int.lt_trans (Int.emod_lt_of_pos _ (by decide)) (by decide)
theorem use_mixed {c k : Int} {H : Hp} {Q : VK} {E : XK} (hc : Builtin.Int.intBits c ≤ 1048600) (hk : 0 ≤ k ∧ k ≤ 1000000) (h : ∀ v : Int, 0 ≤ v → v < 2147483648 → Q (.int v) H) : sp_law_mixed K ([.int c, .int k] ++ []) H Q E :=
  ⟨c, k, rfl, hc, hk, h⟩
local macro_rules | `(tactic| walk_at "w2") => `(tactic| ((with_reducible refine use_mixed ?_ ?_ ?_); (first | assumption | exact Nat.le_trans (m := 1048576) (by assumption) (by decide) | exact Nat.le_trans (m := 1048577) (by assumption) (by decide) | exact Nat.le_trans (m := 1048582) (by assumption) (by decide)); omega; intro _ _ _))
/-! names: one to six small letters -/
def letter (c : Nat) : Prop := 97 ≤ c ∧ c ≤ 122
def NameOk (s : Str) : Prop := (1 ≤ s.length ∧ s.length ≤ 6) ∧ ∀ c ∈ s.cps.toList, letter c
theorem letters_at (i : Int) (h : 0 ≤ i ∧ i < 26) : ∃ c, atI (Str.ofString "abcdefghijklmnopqrstuvwxyz").cps.toList i = some c ∧ letter c := by
  have e : (Str.ofString "abcdefghijklmnopqrstuvwxyz").cps.toList = (List.range 26).map (· + 97) := by decide +kernel
  rw [e]
  obtain ⟨n, rfl⟩ := Int.eq_ofNat_of_zero_le h.1
  have hn : n < 26 := by omega
  refine ⟨n + 97, atI_nat ?_, by unfold letter; omega⟩
  rw [List.getElem?_map, List.getElem?_range hn]
  rfl
theorem tl_concat : ∀ ss : List Str, (Txt.join "" ss).cps.toList = (ss.map fun s => s.cps.toList).flatten := by
  intro ss
  have h : TL.tl (Txt.join "" ss) = TL.joinL (TL.tl "") (ss.map TL.tl) := by rw [TL.join_eq, TL.tl_join]
  have e : TL.tl "" = [] := by decide +kernel
  rw [e] at h
  have key : ∀ l : List (List Nat), TL.joinL [] l = l.flatten := by
    intro l
    induction l with
    | nil => rfl
    | cons p r ih =>
      cases r with
      | nil => exact (List.append_nil p).symm
      | cons q r => show p ++ ([] ++ TL.joinL [] (q :: r)) = p ++ (q :: r).flatten; rw [List.nil_append, ih]
  rw [key] at h
  exact h
/-- signs that are one letter each -/
def oneL (s : Str) : Prop := ∃ c, s = ⟨#[c]⟩ ∧ letter c
theorem ones_join {ss : List Str} (h : ∀ s ∈ ss, oneL s) : (Txt.join "" ss).length = ss.length ∧ ∀ c ∈ (Txt.join "" ss).cps.toList, letter c := by
  have e := tl_concat ss
  have key : ∀ ss : List Str, (∀ s ∈ ss, oneL s) → (ss.map fun s => s.cps.toList).flatten.length = ss.length ∧ ∀ c ∈ (ss.map fun s => s.cps.toList).flatten, letter c := by
    intro ss
    induction ss with
    | nil => intro _; exact ⟨rfl, fun c hc => by cases hc⟩
    | cons s r ih =>
      intro h
      obtain ⟨c, rfl, hc⟩ := h s (List.mem_cons_self ..)
      obtain ⟨h1, h2⟩ := ih fun z hz => h z (List.mem_cons_of_mem _ hz)
      refine ⟨?_, fun d hd => ?_⟩
      · show (c :: (r.map fun s => s.cps.toList).flatten).length = (r.length + 1)
        rw [List.length_cons, h1]
      · rcases List.mem_cons.mp (show d ∈ c :: (r.map fun s => s.cps.toList).flatten from hd) with q | q
        · rw [q]; exact hc
        · exact h2 d q
  obtain ⟨k1, k2⟩ := key ss h
  refine ⟨?_, fun c hc => k2 c (by rw [← e]; exact hc)⟩
  rw [← k1, ← e]
  exact (Array.length_toList).symm
theorem ones_sum : ∀ {ss : List Str}, (∀ s ∈ ss, oneL s) → (ss.map (·.length)).sum = ss.length
  | [], _ => rfl
  | s :: r, h => by
    obtain ⟨c, rfl, hc⟩ := h s (List.mem_cons_self ..)
    have ih := ones_sum fun z hz => h z (List.mem_cons_of_mem _ hz)
    rw [List.map_cons, List.sum_cons, ih, List.length_cons]
    show 1 + r.length = r.length + 1
    omega
theorem cut_name {z : Str} {n : Nat} (hz : n ≤ z.length) (h : ∀ c ∈ z.cps.toList, letter c) (hn : 1 ≤ n ∧ n ≤ 6) : NameOk (cutS z none (some (n : Int))) := by
  have e : (cutS z none (some (n : Int))).cps.toList = z.cps.toList.take n := by
    unfold cutS
    rw [HT.sIx_none, HT.sIx_nat, Nat.min_eq_left hz, List.drop_zero, Nat.sub_zero, List.toList_toArray]
  have hl : (cutS z none (some (n : Int))).length = n := by
    have : (cutS z none (some (n : Int))).length = (cutS z none (some (n : Int))).cps.toList.length := (Array.length_toList).symm
    rw [this, e, List.length_take]
    have : z.cps.toList.length = z.length := Array.length_toList
    omega
  refine ⟨by rw [hl]; exact hn, fun c hc => ?_⟩
  rw [e] at hc
  exact h c (List.mem_of_mem_take hc)
theorem num_len {v : Int} (h : 0 ≤ v ∧ v ≤ 1000000000000) : ((toString v : String) : Str).length ≤ 13 := toString_length_le h.1 (by decide) (show v < 10 ^ 13 by omega)
/-! what is written is read again: texts of numbers, of formulas -/
theorem digF_val : ∀ (cs : List Nat) (a : Nat) (b : Int), PySem.NumText.AllDigits cs → b = (a : Int) → cs.foldl (fun (v : Int) (c : Nat) => 10 * v + ((c : Int) - 48)) b = ((cs.foldl (fun acc c => acc * 10 + (c - 48)) a : Nat) : Int)
  | [], a, b, _, e => e
  | c :: cs, a, b, h, e => by
    have hc : 48 ≤ c ∧ c ≤ 57 := h c (List.mem_cons_self ..)
    exact digF_val cs _ _ (fun d hd => h d (List.mem_cons_of_mem _ hd)) (by subst e; show 10 * (a : Int) + ((c : Int) - 48) = ((a * 10 + (c - 48) : Nat) : Int); omega)
theorem digF_eq {cs : List Nat} (h : PySem.NumText.AllDigits cs) : digF cs = ((PySem.NumText.digitsVal cs : Nat) : Int) := digF_val cs 0 0 h rfl
theorem dig_head : ∀ m : Nat, 1 ≤ m → ∀ c, (Nat.toDigits 10 m).head? = some c → c ≠ '0' := by
  intro m
  induction m using Nat.strongRecOn with
  | _ m ih =>
    intro h1 c hc
    by_cases h : m < 10
    · rw [Nat.toDigits_of_lt_base h] at hc
      cases hc
      have key : ∀ d : Nat, d < 10 → 1 ≤ d → Nat.digitChar d ≠ '0' := by decide
      exact key m h h1
    · have hm : m % 10 < 10 := Nat.mod_lt m (by decide)
      have t : Nat.toDigits 10 (m / 10) ++ Nat.toDigits 10 (m % 10) = Nat.toDigits 10 (10 * (m / 10) + m % 10) := Nat.toDigits_append_toDigits (by decide) (by omega) hm
      rw [Nat.div_add_mod] at t
      rw [← t] at hc
      refine ih (m / 10) (by omega) (by omega) c ?_
      have hne : Nat.toDigits 10 (m / 10) ≠ [] := fun e => by
        have h := toDigits_len_ge 10 (m / 10)
        rw [e] at h
        exact absurd h (by decide)
      cases e : Nat.toDigits 10 (m / 10) with
      | nil => exact absurd e hne
      | cons d r => rw [e] at hc; exact hc
theorem num_digits (m : Nat) : (Str.ofString (toString ((m : Nat) : Int))).cps.toList = (Nat.toDigits 10 m).map Char.toNat := PySem.W.KIN.signs_num m
theorem num_all (m : Nat) : PySem.NumText.AllDigits ((Nat.toDigits 10 m).map Char.toNat) := by
  intro c hc
  obtain ⟨ch, hch, e⟩ := List.mem_map.mp hc
  have r := digit_range (Nat.isDigit_of_mem_toDigits (by decide) (by decide) hch)
  rw [← e]
  exact r
theorem num_ne (m : Nat) : 0 < ((Nat.toDigits 10 m).map Char.toNat).length := by
  rw [List.length_map]
  exact toDigits_len_ge 10 m
theorem num_wr {v : Int} (h : 0 ≤ v ∧ v ≤ 1000000000000) : Wr 2 (.num v) (Str.ofString (toString v)).cps.toList := by
  obtain ⟨m, rfl⟩ := Int.eq_ofNat_of_zero_le h.1
  have hl := num_len h
  rw [len_cps] at hl
  rw [num_digits] at hl ⊢
  have e : digF ((Nat.toDigits 10 m).map Char.toNat) = (m : Int) := by rw [digF_eq (num_all m), PySem.W.KIN.val_back]
  have key := Wr.num (cs := (Nat.toDigits 10 m).map Char.toNat) (num_ne m) (by omega) (fun c hc => fig_iff.mpr (num_all m c hc)) (fun z => by
    by_cases q : 1 ≤ m
    · cases hd : Nat.toDigits 10 m with
      | nil => rw [hd] at z; cases z
      | cons c r =>
        rw [hd] at z
        have hc := dig_head m q c (by rw [hd]; rfl)
        have hm := Nat.isDigit_of_mem_toDigits (b := 10) (n := m) (by decide) (by decide) (c := c) (by rw [hd]; exact List.mem_cons_self ..)
        have z : c.toNat = 48 := Option.some.inj z
        exact absurd (Char.toNat_inj.mp (z.trans (show 48 = ('0' : Char).toNat from rfl))) hc
    · rw [show m = 0 by omega]
      exact Nat.le_of_ble_eq_true rfl) (by rw [e]; exact h.2)
  rw [e] at key
  exact key
theorem name_wr {m : Str} (h : NameOk m) : Wr 2 (.name m) m.cps.toList := by
  have e := len_cps m
  have h1 := h.1
  exact Wr.name (by omega) (by omega) fun c hc => small_iff.mpr (h.2 c hc)
theorem wgt_off {cs : List Nat} (h : ∀ c ∈ cs, 46 ≤ c) : wgt cs = 0 := by
  unfold wgt
  rw [List.countP_eq_zero]
  intro c hc
  have := h c hc
  simp only [Bool.or_eq_true, beq_iff_eq]
  omega
/-! formulas written -/
def heldS (b : Bool) (z : Str) : Str := if b = true then ("(" : Str) ++ z ++ (")" : Str) else z
def sums : List Str := ["plus", "less", "turned"]
def sums4 : List Str := ["plus", "less", "turned", "times"]
def shownF : Fm → Str
  | .name m => m
  | .num v => ((toString v : String) : Str)
  | .turned f => ("-" : Str) ++ heldS (inV (.str (headF f)) (sums4.map V.str)) (shownF f)
  | .times f g => heldS (inV (.str (headF f)) (sums.map V.str)) (shownF f) ++ ("*" : Str) ++ heldS (inV (.str (headF g)) (sums4.map V.str)) (shownF g)
  | .plus f g => shownF f ++ ("+" : Str) ++ heldS (inV (.str (headF g)) (sums.map V.str)) (shownF g)
  | .less f g => shownF f ++ ("-" : Str) ++ heldS (inV (.str (headF g)) (sums.map V.str)) (shownF g)
def sp_shown (K : PySem.W.Frag) (n : Nat) : Sp := fun vs H Q _ => ∃ (p : Addr) (f : Fm) (N : Str → Prop), vs = [.ref p] ∧ FmAt H p f ∧ FmOk N f ∧ (∀ m, N m → m.length ≤ 6) ∧ 2 * f.size ≤ n ∧ f.size ≤ 60 ∧ ∀ H', Same H H' → Q (.str (shownF f)) H'
def sp_bracketed (K : PySem.W.Frag) (n : Nat) : Sp := fun vs H Q _ => ∃ (p w : Addr) (f : Fm) (ws : List Str) (N : Str → Prop), vs = [.ref p, .ref w] ∧ FmAt H p f ∧ H w = some (.tup (ws.map V.str)) ∧ FmOk N f ∧ (∀ m, N m → m.length ≤ 6) ∧ 2 * f.size + 1 ≤ n ∧ f.size ≤ 60 ∧ ∀ H', Same H H' → Q (.str (heldS (inV (.str (headF f)) (ws.map V.str)) (shownF f))) H'
theorem no_shown {vs : List V} {H : Hp} {Q : VK} {E : XK} (h : sp_shown K 0 vs H Q E) : False := by
  obtain ⟨p, f, N, _, _, _, _, h0, _⟩ := h
  have := f.size_pos
  omega
theorem no_bracketed {vs : List V} {H : Hp} {Q : VK} {E : XK} (h : sp_bracketed K 0 vs H Q E) : False := by
  obtain ⟨p, w, f, ws, N, _, _, _, _, _, h0, _⟩ := h
  omega
theorem held_len (b : Bool) (z : Str) : (heldS b z).length ≤ z.length + 2 := by
  unfold heldS
  split
  · rw [app_len, app_len]
    show 1 + z.length + 1 ≤ _
    omega
  · omega
theorem shown_len {N : Str → Prop} (hN : ∀ m, N m → m.length ≤ 6) : ∀ {f : Fm}, FmOk N f → (shownF f).length ≤ 20 * f.size
  | .name m, ok => by
    have := hN m ok
    show m.length ≤ 20 * 1
    omega
  | .num v, ok => by
    have := num_len ok
    show ((toString v : String) : Str).length ≤ 20 * 1
    omega
  | .turned f, ok => by
    have a := shown_len hN (f := f) ok
    unfold shownF
    rw [app_len]
    have b := held_len (inV (.str (headF f)) (sums4.map V.str)) (shownF f)
    show 1 + _ ≤ 20 * (f.size + 1)
    omega
  | .times f g, ok => by
    have a := shown_len hN (f := f) ok.1
    have a2 := shown_len hN (f := g) ok.2
    unfold shownF
    rw [app_len, app_len]
    have b := held_len (inV (.str (headF f)) (sums.map V.str)) (shownF f)
    have b2 := held_len (inV (.str (headF g)) (sums4.map V.str)) (shownF g)
    show _ + 1 + _ ≤ 20 * (f.size + g.size + 1)
    omega
  | .plus f g, ok => by
    have a := shown_len hN (f := f) ok.1
    have a2 := shown_len hN (f := g) ok.2
    unfold shownF
    rw [app_len, app_len]
    have b2 := held_len (inV (.str (headF g)) (sums.map V.str)) (shownF g)
    show _ + 1 + _ ≤ 20 * (f.size + g.size + 1)
    omega
  | .less f g, ok => by
    have a := shown_len hN (f := f) ok.1
    have a2 := shown_len hN (f := g) ok.2
    unfold shownF
    rw [app_len, app_len]
    have b2 := held_len (inV (.str (headF g)) (sums.map V.str)) (shownF g)
    show _ + 1 + _ ≤ 20 * (f.size + g.size + 1)
    omega
theorem flat_strs (nm : List Str) : (nm.map V.str).all flatV = true := by
  rw [List.all_eq_true]
  intro x hx
  obtain ⟨z, _, rfl⟩ := List.mem_map.mp hx
  rfl
theorem rec_bracketed (T : Top K mg) (n : Nat) (ih_shown : FnOk P w K mg base CX0 (1 + n) T.a_shown T.d_shown ["formula"] (sp_shown K n)) (ih_bracketed : FnOk P w K mg base CX0 (1 + n) T.a_bracketed T.d_bracketed ["formula", "words"] (sp_bracketed K n)) : FnOk P w K mg base CX0 (1 + n + 1) T.a_bracketed T.d_bracketed ["formula", "words"] (sp_bracketed K (n + 1)) := by
  refine T.f_bracketed.ok sc_bracketed (fun vs H Q E h => ?_) (fun cdv A outer s H vs Q E hr h => ?_)
  · obtain ⟨p, w, f, ws, N, rfl, _⟩ := h
    rfl
  obtain ⟨p, w, f, ws, N, rfl, h⟩ := h
  refine ⟨_, (pss_cons (ps_if (pt_cmpR (op_inK K) (pe_ix (ix_tupK K) (pv 0) pe_int (fun _ _ => rfl)) (pv 1) (by rfl)) (pss_one (ps_ret (pe_op op_addS (pe_op op_addS pe_str (pe_call ih_shown hr (by rfl) T.g_shown T.f_shown.kp T.b_shown .nil pass0 (pa_cons (pv 0) pa_nil))) pe_str))) pss_nil)
      (pss_one (ps_ret (pe_call ih_shown hr (by rfl) T.g_shown T.f_shown.kp T.b_shown .nil pass0 (pa_cons (pv 0) pa_nil))))), ?_⟩
  try dsimp only [cxOf, Cx.nox, Cx.wish]
  simp only [L2.start, List.map_cons, List.map_nil, List.length_cons, List.length_nil, Nat.reduceAdd, Nat.reduceSub, List.replicate_succ, List.replicate_zero, List.cons_append, List.nil_append]
  obtain ⟨hp, hw, ok, hN, hn, hs, h⟩ := h
  have hlen := shown_len hN ok
  have hfp := hp
  have l1 : (Str.ofString "(").length = 1 := rfl
  have l2 : (Str.ofString ")").length = 1 := rfl
  have hsp := Nat.mul_le_mul_left 20 hs
  obtain ⟨hd, hhd⟩ : ∃ hd, hd = headF f := ⟨_, rfl⟩
  obtain ⟨z, hz⟩ : ∃ z, z = shownF f := ⟨_, rfl⟩
  rw [← hhd, ← hz] at h
  rw [← hz] at hlen
  have call : ∀ {H2 : Hp} {Q2 : VK} {E2 : XK}, Same H H2 → (∀ H', Same H2 H' → Q2 (.str z) H') → sp_shown K n ([.ref p] ++ []) H2 Q2 E2 := fun s q => ⟨p, f, N, rfl, hfp.same s, ok, hN, by omega, hs, by rw [← hz]; exact q⟩
  have hz20 : z.length ≤ 20 * 60 := by omega
  have hap := app_len (Str.ofString "(") z
  have key : ∀ xs : List V, H p = some (.tup (.str hd :: xs)) → True := fun _ _ => trivial
  clear hlen hsp hz
  cases f
  all_goals first
    | (have hp : H p = some (.tup [.str "name", .str _]) := hp; skip)
    | (have hp : H p = some (.tup [.str "number", .int _]) := hp; skip)
    | (obtain ⟨a, b, hp, _⟩ := hp; skip)
    | (obtain ⟨a, hp, _⟩ := hp; skip)
  all_goals
    unfold headF at hhd
    subst hhd
    walk_at "ws"
    refine w_inT (SqT.of hw) rfl (flat_strs ws) ?_
    refine ⟨_, rfl, ?_⟩
    cases hb : inV _ (ws.map V.str) with
    | true =>
      rw [hb] at h
      rw [if_pos rfl]
      walk_at "ws"
      refine call (Same.refl _) fun H' s => ?_
      walk_at "ws"
      exact h H' s
    | false =>
      rw [hb] at h
      rw [if_neg (by decide)]
      walk_at "ws"
      refine call (Same.refl _) fun H' s => ?_
      exact h H' s
theorem rec_shown (T : Top K mg) (n : Nat) (ih_shown : FnOk P w K mg base CX0 (1 + n) T.a_shown T.d_shown ["formula"] (sp_shown K n)) (ih_bracketed : FnOk P w K mg base CX0 (1 + n) T.a_bracketed T.d_bracketed ["formula", "words"] (sp_bracketed K n)) : FnOk P w K mg base CX0 (1 + n + 1) T.a_shown T.d_shown ["formula"] (sp_shown K (n + 1)) := by
  refine T.f_shown.ok sc_shown (fun vs H Q E h => ?_) (fun cdv A outer s H vs Q E hr h => ?_)
  · obtain ⟨p, f, N, rfl, _⟩ := h
    rfl
  obtain ⟨p, f, N, rfl, h⟩ := h
  refine ⟨_, (pss_cons (ps_set (i := 1) sc_shown.nd rfl (.inl rfl) (pe_ix (ix_tupK K) (pv 0) pe_int (fun _ _ => rfl)))
      (pss_cons (ps_if (pt_cmpR op_eq (pv 1) pe_str (nomark _)) (pss_one (ps_ret (pe_ix (ix_tupK K) (pv 0) pe_int (fun _ _ => rfl)))) pss_nil)
      (pss_cons (ps_if (pt_cmpR op_eq (pv 1) pe_str (nomark _)) (pss_one (ps_ret (pe_callTy c_strI (by rfl) T.z_str (by decide +kernel) (pa_cons (pe_ix (ix_tupK K) (pv 0) pe_int (fun _ _ => rfl)) pa_nil)))) pss_nil)
      (pss_cons (ps_if (pt_cmpR op_eq (pv 1) pe_str (nomark _)) (pss_one (ps_ret (pe_op op_addS pe_str (pe_call ih_bracketed hr (by rfl) T.g_bracketed T.f_bracketed.kp T.b_bracketed .nil pass0 (pa_cons (pe_ix (ix_tupK K) (pv 0) pe_int (fun _ _ => rfl)) (pa_cons (pe_tup (pa_cons pe_str (pa_cons pe_str (pa_cons pe_str (pa_cons pe_str pa_nil))))) pa_nil)))))) pss_nil)
      (pss_cons (ps_if (pt_cmpR op_eq (pv 1) pe_str (nomark _)) (pss_cons (ps_set (i := 2) sc_shown.nd rfl (.inl rfl) (pe_call ih_bracketed hr (by rfl) T.g_bracketed T.f_bracketed.kp T.b_bracketed .nil pass0 (pa_cons (pe_ix (ix_tupK K) (pv 0) pe_int (fun _ _ => rfl)) (pa_cons (pe_tup (pa_cons pe_str (pa_cons pe_str (pa_cons pe_str pa_nil)))) pa_nil))))
      (pss_one (ps_ret (pe_op op_addS (pe_op op_addS (pv 2) pe_str) (pe_call ih_bracketed hr (by rfl) T.g_bracketed T.f_bracketed.kp T.b_bracketed .nil pass0 (pa_cons (pe_ix (ix_tupK K) (pv 0) pe_int (fun _ _ => rfl)) (pa_cons (pe_tup (pa_cons pe_str (pa_cons pe_str (pa_cons pe_str (pa_cons pe_str pa_nil))))) pa_nil))))))) pss_nil)
      (pss_cons (ps_set (i := 3) sc_shown.nd rfl (.inl rfl) (pe_call ih_bracketed hr (by rfl) T.g_bracketed T.f_bracketed.kp T.b_bracketed .nil pass0 (pa_cons (pe_ix (ix_tupK K) (pv 0) pe_int (fun _ _ => rfl)) (pa_cons (pe_tup (pa_cons pe_str (pa_cons pe_str (pa_cons pe_str pa_nil)))) pa_nil))))
      (pss_cons (ps_if (pt_cmpR op_eq (pv 1) pe_str (nomark _)) (pss_one (ps_ret (pe_op op_addS (pe_op op_addS (pe_call ih_shown hr (by rfl) T.g_shown T.f_shown.kp T.b_shown .nil pass0 (pa_cons (pe_ix (ix_tupK K) (pv 0) pe_int (fun _ _ => rfl)) pa_nil)) pe_str) (pv 3)))) pss_nil)
      (pss_one (ps_ret (pe_op op_addS (pe_op op_addS (pe_call ih_shown hr (by rfl) T.g_shown T.f_shown.kp T.b_shown .nil pass0 (pa_cons (pe_ix (ix_tupK K) (pv 0) pe_int (fun _ _ => rfl)) pa_nil)) pe_str) (pv 3))))))))))), ?_⟩
  try dsimp only [cxOf, Cx.nox, Cx.wish]
  simp only [L2.start, List.map_cons, List.map_nil, List.length_cons, List.length_nil, Nat.reduceAdd, Nat.reduceSub, List.replicate_succ, List.replicate_zero, List.cons_append, List.nil_append]
  obtain ⟨hp, ok, hN, hn, hs, h⟩ := h
  have hlen := shown_len hN ok
  have hsp := Nat.mul_le_mul_left 20 hs
  have brk : ∀ {a b : Addr} {g : Fm} {ws : List Str} {H2 : Hp} {Q2 : VK} {E2 : XK}, FmAt H2 a g → FmOk N g → H2 b = some (.tup (ws.map V.str)) → 2 * g.size + 1 ≤ n → g.size ≤ 60 → (∀ H', Same H2 H' → Q2 (.str (heldS (inV (.str (headF g)) (ws.map V.str)) (shownF g))) H') → sp_bracketed K n ([.ref a, .ref b] ++ []) H2 Q2 E2 := fun ha ok e h1 h2 q => ⟨_, _, _, _, N, rfl, ha, e, ok, hN, h1, h2, q⟩
  have rcu : ∀ {a : Addr} {g : Fm} {H2 : Hp} {Q2 : VK} {E2 : XK}, FmAt H2 a g → FmOk N g → 2 * g.size ≤ n → g.size ≤ 60 → (∀ H', Same H2 H' → Q2 (.str (shownF g)) H') → sp_shown K n ([.ref a] ++ []) H2 Q2 E2 := fun ha ok h1 h2 q => ⟨_, _, N, rfl, ha, ok, hN, h1, h2, q⟩
  have hl : ∀ g, FmOk N g → g.size ≤ 60 → ∀ b, (heldS b (shownF g)).length ≤ 1202 := fun g ok hs b => by
    have := held_len b (shownF g)
    have := shown_len hN ok
    have := Nat.mul_le_mul_left 20 hs
    omega
  have hl2 : ∀ g, FmOk N g → g.size ≤ 60 → (shownF g).length ≤ 1200 := fun g ok hs => by
    have := shown_len hN ok
    have := Nat.mul_le_mul_left 20 hs
    omega
  have l1 : (Str.ofString "-").length = 1 := rfl
  have l2 : (Str.ofString "+").length = 1 := rfl
  have l3 : (Str.ofString "*").length = 1 := rfl
  have al := app_len
  cases f with
  | name m =>
    have hp : H p = some (.tup [.str "name", .str m]) := hp
    walk_at "ws"
    exact h _ (Same.refl _)
  | num v =>
    have hp : H p = some (.tup [.str "number", .int v]) := hp
    have hv : 0 ≤ v ∧ v ≤ 1000000000000 := ok
    walk_at "ws"
    exact h _ (Same.refl _)
  | turned f =>
    obtain ⟨a, hp, ha⟩ := hp
    have hn : 2 * (f.size + 1) ≤ n + 1 := hn
    have hs : f.size + 1 ≤ 60 := hs
    walk_at "ws"
    rename_i b H1 n1 s1 e1
    refine brk (ws := sums4) (ha.same s1) ok e1 (by omega) (by omega) fun H2 s2 => ?_
    have := hl f ok (by omega) (inV (.str (headF f)) (sums4.map V.str))
    walk_at "ws"
    exact h _ (s1.trans s2)
  | times f g =>
    obtain ⟨a, b, hp, ha, hb⟩ := hp
    have hn : 2 * (f.size + g.size + 1) ≤ n + 1 := hn
    have hs : f.size + g.size + 1 ≤ 60 := hs
    have := f.size_pos
    have := g.size_pos
    walk_at "ws"
    rename_i c H1 n1 s1 e1
    refine brk (ws := sums) (ha.same s1) ok.1 e1 (by omega) (by omega) fun H2 s2 => ?_
    have hp2 := s2 _ _ (s1 _ _ hp)
    have q1 := hl f ok.1 (by omega) (inV (.str (headF f)) (sums.map V.str))
    have q3 := al (heldS (inV (.str (headF f)) (sums.map V.str)) (shownF f)) (Str.ofString "*")
    walk_at "ws"
    rename_i c2 H3 n3 s3 e3
    refine brk (ws := sums4) (hb.same ((s1.trans s2).trans s3)) ok.2 e3 (by omega) (by omega) fun H4 s4 => ?_
    have q2 := hl g ok.2 (by omega) (inV (.str (headF g)) (sums4.map V.str))
    walk_at "ws"
    exact h _ (((s1.trans s2).trans s3).trans s4)
  | plus f g =>
    obtain ⟨a, b, hp, ha, hb⟩ := hp
    have hn : 2 * (f.size + g.size + 1) ≤ n + 1 := hn
    have hs : f.size + g.size + 1 ≤ 60 := hs
    have := f.size_pos
    have := g.size_pos
    walk_at "ws"
    rename_i c H1 n1 s1 e1
    refine brk (ws := sums) (hb.same s1) ok.2 e1 (by omega) (by omega) fun H2 s2 => ?_
    have hp2 := s2 _ _ (s1 _ _ hp)
    have q2 := hl g ok.2 (by omega) (inV (.str (headF g)) (sums.map V.str))
    have q1 := hl2 f ok.1 (by omega)
    have q3 := al (shownF f) (Str.ofString "+")
    walk_at "ws"
    refine rcu (ha.same (s1.trans s2)) ok.1 (by omega) (by omega) fun H3 s3 => ?_
    walk_at "ws"
    exact h _ ((s1.trans s2).trans s3)
  | less f g =>
    obtain ⟨a, b, hp, ha, hb⟩ := hp
    have hn : 2 * (f.size + g.size + 1) ≤ n + 1 := hn
    have hs : f.size + g.size + 1 ≤ 60 := hs
    have := f.size_pos
    have := g.size_pos
    walk_at "ws"
    rename_i c H1 n1 s1 e1
    refine brk (ws := sums) (hb.same s1) ok.2 e1 (by omega) (by omega) fun H2 s2 => ?_
    have hp2 := s2 _ _ (s1 _ _ hp)
    have q2 := hl g ok.2 (by omega) (inV (.str (headF g)) (sums.map V.str))
    have q1 := hl2 f ok.1 (by omega)
    have q3 := al (shownF f) (Str.ofString "-")
    walk_at "ws"
    refine rcu (ha.same (s1.trans s2)) ok.1 (by omega) (by omega) fun H3 s3 => ?_
    walk_at "ws"
    exact h _ ((s1.trans s2).trans s3)
theorem all_shown (T : Top K mg) : ∀ n : Nat, FnOk P w K mg base CX0 (1 + n) T.a_shown T.d_shown ["formula"] (sp_shown K n) ∧ FnOk P w K mg base CX0 (1 + n) T.a_bracketed T.d_bracketed ["formula", "words"] (sp_bracketed K n)
  | 0 => ⟨T.f_shown.ok (k := 0) sc_shown (fun _ _ _ _ h => (no_shown h).elim) (fun _ _ _ _ _ _ _ _ _ h => (no_shown h).elim), T.f_bracketed.ok (k := 0) sc_bracketed (fun _ _ _ _ h => (no_bracketed h).elim) (fun _ _ _ _ _ _ _ _ _ h => (no_bracketed h).elim)⟩
  | n + 1 => ⟨rec_shown T n (all_shown T n).1 (all_shown T n).2, rec_bracketed T n (all_shown T n).1 (all_shown T n).2⟩
theorem ok_shown (T : Top K mg) : FnOk P w K mg base CX0 131 T.a_shown T.d_shown ["formula"] (sp_shown K 130) := (all_shown T 130).1
theorem w_fldaug {K : PySem.W.Frag} {D : Ends} {σ : L2.St} {H : Hp} {n : Nat} {a C dx : Addr} {fs : List (Str × V)} {f : Str} {i j : Int} (hx : σ[n]? = some (some (.ref a))) (h : H a = some (.ins C dx fs)) (c : Cls K C) (na : NoAttr K C f) (e : fs.lookup f = some (.int i)) (l : fs.length < 1000)
    (q : D.nx σ (upd H a (.ins C dx (putF f (.int (i + j)) fs)))) : sFldAug K (tVar n) (tC (.int j)) rAdd f D σ H :=
  ⟨_, hx, a, C, dx, fs, _, rfl, h, c, na, e, i, j, rfl, rfl, dx, fs, h, l, q⟩
local macro_rules | `(tactic| walk_at "w2") => `(tactic| ((with_reducible apply w_fldaug); rfl; (walk_at "hp"); assumption; assumption; (walk_at "lk"); (exact Nat.le_of_ble_eq_true rfl)))
/-! formulas read -/
def ReadAt (K : PySem.W.Frag) (H : Hp) (s : Addr) (z : Str) (k : Nat) : Prop := ∃ C dx, H s = some (.ins C dx [("text", .str z), ("at", .int (k : Int))]) ∧ IsC K "Reader" C
def hereS : List Nat → Str
  | [] => ""
  | c :: _ => ⟨#[c]⟩
def sp_Reader__init (K : PySem.W.Frag) : Sp := fun vs H Q _ => ∃ (s C dx : Addr) (z : Str), vs = [.ref s, .str z] ∧ H s = some (.ins C dx []) ∧ IsC K "Reader" C ∧ ∀ H1, ReadAt K H1 s z 0 → Fr [s] H H1 → Q .non H1
theorem ok_Reader__init (T : Top K mg) : FnOk P w K mg base CX0 1 T.a_Reader__init T.d_Reader__init ["self", "text"] (sp_Reader__init K) := by
  refine T.f_Reader__init.ok sc_Reader__init (fun vs H Q E h => ?_) (fun cdv A outer s H vs Q E hr h => ?_)
  · obtain ⟨s, C, dx, z, rfl, _⟩ := h
    rfl
  obtain ⟨s, C, dx, z, rfl, h⟩ := h
  refine ⟨_, (pss_cons (ps_fld (pv 0) (pv 1) rfl)
      (pss_one (ps_fld (pv 0) pe_int rfl))), ?_⟩
  try dsimp only [cxOf, Cx.nox, Cx.wish]
  simp only [L2.start, List.map_cons, List.map_nil, List.length_cons, List.length_nil, Nat.reduceAdd, Nat.reduceSub, List.replicate_succ, List.replicate_zero, List.cons_append, List.nil_append]
  obtain ⟨hs, hC, h⟩ := h
  obtain rfl := hC.one T.nc_Reader
  have c1 := T.cl_Reader
  have c2 := T.n_Reader_text
  have c3 := T.n_Reader_at
  walk_at "ws"
  exact h _ ⟨T.c_Reader, dx, by rw [upd_same]; rfl, hC⟩ ((Fr.put (List.mem_cons_self ..)).trans (Fr.put (List.mem_cons_self ..)))
theorem here_cut {z : Str} {k : Nat} (hk : k ≤ z.length) : cutS z (some (k : Int)) (some ((k : Int) + 1)) = hereS (z.cps.toList.drop k) := by
  have hl : z.cps.toList.length = z.length := Array.length_toList
  have e : cutS z (some (k : Int)) (some ((k : Int) + 1)) = ⟨((z.cps.toList.drop k).take 1).toArray⟩ := by
    rw [show (k : Int) + 1 = ((k + 1 : Nat) : Int) by omega]
    unfold cutS
    rw [HT.sIx_nat, HT.sIx_nat, Nat.min_eq_left hk]
    by_cases q : k + 1 ≤ z.length
    · rw [Nat.min_eq_left q, show k + 1 - k = 1 by omega]
    · have : k = z.length := by omega
      rw [Nat.min_eq_right (by omega), this, Nat.sub_self, List.drop_of_length_le (by omega)]
      rfl
  rw [e]
  cases z.cps.toList.drop k with
  | nil => rfl
  | cons c r => rfl
def sp_Reader_here (K : PySem.W.Frag) : Sp := fun vs H Q _ => ∃ (s : Addr) (z : Str) (k : Nat), vs = [.ref s] ∧ ReadAt K H s z k ∧ k ≤ z.length ∧ z.length ≤ 100000 ∧ Q (.str (hereS (z.cps.toList.drop k))) H
theorem ok_Reader_here (T : Top K mg) : FnOk P w K mg base CX0 1 T.a_Reader_here T.d_Reader_here ["self"] (sp_Reader_here K) := by
  refine T.f_Reader_here.ok sc_Reader_here (fun vs H Q E h => ?_) (fun cdv A outer s H vs Q E hr h => ?_)
  · obtain ⟨s, z, k, rfl, _⟩ := h
    rfl
  obtain ⟨s, z, k, rfl, h⟩ := h
  refine ⟨_, (pss_one (ps_ret (pe_slice sl_str (pe_fld (pv 0) rfl) (po_some (pe_fld (pv 0) rfl)) (po_some (pe_op op_add (pe_fld (pv 0) rfl) pe_int))))), ?_⟩
  try dsimp only [cxOf, Cx.nox, Cx.wish]
  simp only [L2.start, List.map_cons, List.map_nil, List.length_cons, List.length_nil, Nat.reduceAdd, Nat.reduceSub, List.replicate_succ, List.replicate_zero, List.cons_append, List.nil_append]
  obtain ⟨⟨C, dx, hs, hC⟩, hk, hz, h⟩ := h
  obtain rfl := hC.one T.nc_Reader
  have c1 := T.cl_Reader
  have c2 := T.n_Reader_text
  have c3 := T.n_Reader_at
  walk_at "ws"
  refine w_slS (by omega) ?_
  rw [here_cut hk]
  exact h
theorem cut_nat {z : Str} {k j : Nat} (hj : k + j ≤ z.length) : cutS z (some (k : Int)) (some ((k + j : Nat) : Int)) = ⟨((z.cps.toList.drop k).take j).toArray⟩ := by
  unfold cutS
  rw [HT.sIx_nat, HT.sIx_nat, Nat.min_eq_left hj, Nat.min_eq_left (show k ≤ z.length by omega), show k + j - k = j by omega]
def sp_Reader_run_of (K : PySem.W.Frag) : Sp := fun vs H Q _ => ∃ (s : Addr) (z ss : Str) (k : Nat), vs = [.ref s, .str ss] ∧ ReadAt K H s z k ∧ k ≤ z.length ∧ z.length ≤ 100000 ∧ ∀ H', ReadAt K H' s z (k + runN ss.cps.toList (z.cps.toList.drop k)) → Fr [s] H H' → Q (.str ⟨((z.cps.toList.drop k).take (runN ss.cps.toList (z.cps.toList.drop k))).toArray⟩) H'
theorem ok_Reader_run_of (T : Top K mg) : FnOk P w K mg base CX0 2 T.a_Reader_run_of T.d_Reader_run_of ["self", "signs"] (sp_Reader_run_of K) := by
  refine T.f_Reader_run_of.ok sc_Reader_run_of (fun vs H Q E h => ?_) (fun cdv A outer s H vs Q E hr h => ?_)
  · obtain ⟨s, z, ss, k, rfl, _⟩ := h
    rfl
  obtain ⟨s, z, ss, k, rfl, h⟩ := h
  refine ⟨_, (pss_cons (ps_set (i := 2) sc_Reader_run_of.nd rfl (.inl rfl) (pe_fld (pv 0) rfl))
      (pss_cons (ps_while PassesOwn.never (PW.pt (pw_and (pt_cmpR op_ne (pe_meth0 (pv 0) T.cl_Reader T.m_Reader_here (ok_Reader_here T) (hr.mono (by decide)) T.b_Reader_here .nil pass0) pe_str (nomark _)) (pw_and1 (pt_cmpR op_in_sign (pe_meth0 (pv 0) T.cl_Reader T.m_Reader_here (ok_Reader_here T) (hr.mono (by decide)) T.b_Reader_here .nil pass0) (pv 1) rfl))))
      (pss_one (ps_fldaug (pv 0) pe_int in_add)))
      (pss_one (ps_ret (pe_slice sl_str (pe_fld (pv 0) rfl) (po_some (pv 2)) (po_some (pe_fld (pv 0) rfl))))))), ?_⟩
  try dsimp only [cxOf, Cx.nox, Cx.wish]
  simp only [L2.start, List.map_cons, List.map_nil, List.length_cons, List.length_nil, Nat.reduceAdd, Nat.reduceSub, List.replicate_succ, List.replicate_zero, List.cons_append, List.nil_append]
  obtain ⟨ha, hk, hz, h⟩ := h
  have c1 := T.cl_Reader
  have c2 := T.n_Reader_text
  have c3 := T.n_Reader_at
  obtain ⟨C, dx, hs, hC⟩ := id ha
  obtain rfl := hC.one T.nc_Reader
  have hzl : z.cps.toList.length = z.length := Array.length_toList
  walk_at "ws"
  refine ⟨fun m σ' G => ∃ j : Nat, σ' = [some (.ref s), some (.str ss), some (.int (k : Int))] ∧ k + j ≤ z.length ∧ runN ss.cps.toList (z.cps.toList.drop k) = j + runN ss.cps.toList (z.cps.toList.drop (k + j)) ∧ ReadAt K G s z (k + j) ∧ Fr [s] H G ∧ m = z.length - (k + j), ⟨_, 0, rfl, hk, (Nat.zero_add _).symm, ha, Fr.refl, rfl⟩, fun m σ' G q => ?_⟩
  obtain ⟨j, rfl, hj, hrun, haG, fG, rfl⟩ := q
  obtain ⟨C, dx, hsG, hCG⟩ := id haG
  obtain rfl := hCG.one T.nc_Reader
  walk_at "ws"
  refine ⟨s, z, k + j, rfl, haG, hj, hz, ?_⟩
  have nin : ∀ c : Nat, (hereS [c]).length = 1 := fun c => rfl
  cases hd : z.cps.toList.drop (k + j) with
  | nil =>
    walk_at "ws"
    refine w_slS (by omega) ?_
    rw [cut_nat hj]
    have hr : runN ss.cps.toList (z.cps.toList.drop k) = j := by rw [hrun, hd]; rfl
    rw [hr] at h
    exact h G haG fG
  | cons c r =>
    have hdl : k + j < z.length := by
      have := congrArg List.length hd
      rw [List.length_drop, List.length_cons] at this
      omega
    have hd1 : z.cps.toList.drop (k + (j + 1)) = r := by
      rw [show k + (j + 1) = (k + j) + 1 by omega, ← List.drop_drop, hd]
      rfl
    walk_at "ws"
    · refine ⟨s, z, k + j, rfl, haG, hj, hz, ?_⟩
      rw [hd]
      walk_at "ws"
      refine ⟨c, ss, rfl, rfl, ?_⟩
      by_cases hc : c ∈ ss.cps.toList
      · rw [decide_eq_true hc]
        refine ⟨_, rfl, ?_⟩
        rw [if_pos rfl]
        refine ⟨fun σ' H' => ∃ m', m' < z.length - (k + j) ∧ _, fun _ _ z => z, ?_⟩
        walk_at "ws"
        refine ⟨z.length - (k + (j + 1)), by omega, j + 1, rfl, by omega, ?_, ⟨T.c_Reader, dx, ?_, hCG⟩, fG.trans (Fr.put (List.mem_cons_self ..)), rfl⟩
        · rw [hrun, hd, hd1]
          show j + (if c ∈ ss.cps.toList then runN ss.cps.toList r + 1 else 0) = _
          rw [if_pos hc]
          omega
        · rw [upd_same, show ((k + (j + 1) : Nat) : Int) = ((k + j : Nat) : Int) + 1 by omega]
          rfl
      · rw [decide_eq_false hc]
        refine ⟨_, rfl, ?_⟩
        rw [if_neg (by decide)]
        walk_at "ws"
        refine w_slS (by omega) ?_
        rw [cut_nat hj]
        have hr : runN ss.cps.toList (z.cps.toList.drop k) = j := by
          rw [hrun, hd]
          unfold runN
          rw [if_neg hc]
          rfl
        rw [hr] at h
        exact h G haG fG
    · rename_i e
      exact Nat.noConfusion (show 1 = 0 from congrArg Str.length e)
/-! total, product, piece walked -/
def RdP (K : PySem.W.Frag) (res : Pr) (s : Addr) (z : Str) (H : Hp) (Q : VK) (E : XK) : Prop := match res with
  | .out => False
  | .no => ∀ C H', IsC K "NoFormula" C → Fr [s] H H' → E (.ref C) none H'
  | .ok f r => ∀ p H', FmAt H' p f → r.length ≤ z.length → z.cps.toList.drop (z.length - r.length) = r → ReadAt K H' s z (z.length - r.length) → Fr [s] H H' → Q (.ref p) H'
def sp_Reader_total (K : PySem.W.Frag) (n : Nat) : Sp := fun vs H Q E => ∃ (s : Addr) (z : Str) (k : Nat), vs = [.ref s] ∧ ReadAt K H s z k ∧ k ≤ z.length ∧ z.length ≤ 100000 ∧ RdP K ((parseN n).1 (z.cps.toList.drop k)) s z H Q E
def sp_Reader_product (K : PySem.W.Frag) (n : Nat) : Sp := fun vs H Q E => ∃ (s : Addr) (z : Str) (k : Nat), vs = [.ref s] ∧ ReadAt K H s z k ∧ k ≤ z.length ∧ z.length ≤ 100000 ∧ RdP K ((parseN n).2.1 (z.cps.toList.drop k)) s z H Q E
def sp_Reader_piece (K : PySem.W.Frag) (n : Nat) : Sp := fun vs H Q E => ∃ (s : Addr) (z : Str) (k : Nat), vs = [.ref s] ∧ ReadAt K H s z k ∧ k ≤ z.length ∧ z.length ≤ 100000 ∧ RdP K ((parseN n).2.2 (z.cps.toList.drop k)) s z H Q E
theorem no_Reader_total {vs : List V} {H : Hp} {Q : VK} {E : XK} (h : sp_Reader_total K 0 vs H Q E) : False := by
  obtain ⟨s, z, k, _, _, _, _, h⟩ := h
  exact h
theorem no_Reader_product {vs : List V} {H : Hp} {Q : VK} {E : XK} (h : sp_Reader_product K 0 vs H Q E) : False := by
  obtain ⟨s, z, k, _, _, _, _, h⟩ := h
  exact h
theorem no_Reader_piece {vs : List V} {H : Hp} {Q : VK} {E : XK} (h : sp_Reader_piece K 0 vs H Q E) : False := by
  obtain ⟨s, z, k, _, _, _, _, h⟩ := h
  exact h
theorem use_here {s : Addr} {z : Str} {k : Nat} {cs : List Nat} {H : Hp} {Q : VK} {E : XK} (ha : ReadAt K H s z k) (hk : k ≤ z.length) (hz : z.length ≤ 100000) (e : z.cps.toList.drop k = cs) (q : Q (.str (hereS cs)) H) : sp_Reader_here K ([.ref s] ++ []) H Q E :=
  ⟨s, z, k, rfl, ha, hk, hz, by rw [e]; exact q⟩
theorem here_cps (cs : List Nat) : (hereS cs).cps.toList = cs.take 1 := by
  cases cs with
  | nil => decide +kernel
  | cons c r => rfl
theorem here_is {cs : List Nat} {x : Str} {d : Nat} (hx : x.cps.toList = [d]) (h : hereS cs = x) : ∃ r, cs = d :: r := by
  have e := here_cps cs
  rw [h, hx] at e
  cases cs with
  | nil => cases e
  | cons c r =>
    rw [List.take_succ_cons, List.take_zero] at e
    rw [(List.cons.inj e).1]
    exact ⟨r, rfl⟩
theorem here_not {cs : List Nat} {x : Str} {d : Nat} (hx : x = ⟨#[d]⟩) (h : hereS cs ≠ x) : cs.head? ≠ some d := by
  intro e
  cases cs with
  | nil => cases e
  | cons c r =>
    cases e
    exact h (by rw [hx]; rfl)
theorem drop_next {xs r : List Nat} {c k : Nat} (h : xs.drop k = c :: r) : xs.drop (k + 1) = r := by
  rw [← List.drop_drop, h]
  rfl
theorem RdP.fr {res : Pr} {s : Addr} {z : Str} {H G : Hp} {Q : VK} {E : XK} (h : RdP K res s z H Q E) (f : Fr [s] H G) : RdP K res s z G Q E := by
  cases res with
  | out => exact h
  | no => exact fun C H' c f' => h C H' c (f.trans f')
  | ok g r => exact fun p H' a b c d f' => h p H' a b c d (f.trans f')
theorem FmAt.frs {H G : Hp} {s p : Addr} {f : Fm} {C dx : Addr} {fs : List (Str × V)} (hs : H s = some (.ins C dx fs)) (fr : Fr [s] H G) (h : FmAt H p f) : FmAt G p f := h.keep fun q xs e => fr q _ e fun m => by
  rw [List.mem_singleton.mp m, hs] at e
  cases e
theorem ReadAt.ins {H : Hp} {s : Addr} {z : Str} {k : Nat} (h : ReadAt K H s z k) : ∃ C dx fs, H s = some (.ins C dx fs) := by
  obtain ⟨C, dx, e, _⟩ := h
  exact ⟨_, _, _, e⟩
theorem ReadAt.step {H : Hp} {s C dx : Addr} {z : Str} {k : Nat} (hC : IsC K "Reader" C) : ReadAt K (upd H s (.ins C dx (putF "at" (.int ((k : Int) + 1)) [("text", .str z), ("at", .int (k : Int))]))) s z (k + 1) :=
  ⟨C, dx, by rw [upd_same, show ((k + 1 : Nat) : Int) = (k : Int) + 1 by omega]; rfl, hC⟩
theorem rec_Reader_product (T : Top K mg) (n : Nat) (ih_Reader_total : FnOk P w K mg base (L2.CX P w) (3 + n) T.a_Reader_total T.d_Reader_total ["self"] (sp_Reader_total K n)) (ih_Reader_product : FnOk P w K mg base (L2.CX P w) (3 + n) T.a_Reader_product T.d_Reader_product ["self"] (sp_Reader_product K n)) (ih_Reader_piece : FnOk P w K mg base (L2.CX P w) (3 + n) T.a_Reader_piece T.d_Reader_piece ["self"] (sp_Reader_piece K n)) : FnOk P w K mg base (L2.CX P w) (3 + n + 1) T.a_Reader_product T.d_Reader_product ["self"] (sp_Reader_product K (n + 1)) := by
  refine T.f_Reader_product.okX sc_Reader_product (fun vs H Q E h => ?_) (fun cdv A outer s H vs Q E hr h => ?_)
  · obtain ⟨s, z, k, rfl, _⟩ := h
    rfl
  obtain ⟨s, z, k, rfl, h⟩ := h
  refine ⟨_, (pss_cons (ps_set (i := 1) sc_Reader_product.nd rfl (.inl rfl) (pe_meth0 (pv 0) T.cl_Reader T.m_Reader_piece ih_Reader_piece (hr.mono (by omega)) T.b_Reader_piece .nil (passes_call (takes_of rfl rfl rfl rfl) (fun _ _ _ _ z => z))))
      (pss_cons (ps_while (passes_of rfl) (pt_cmpR op_eq (pe_meth0 (pv 0) T.cl_Reader T.m_Reader_here (ok_Reader_here T) (hr.mono (by omega)) T.b_Reader_here .nil pass0) pe_str (nomark _))
      (pss_cons (ps_fldaug (pv 0) pe_int in_add)
      (pss_one (ps_set (i := 1) sc_Reader_product.nd rfl (.inl rfl) (pe_tup (pa_cons pe_str (pa_cons (pv 1) (pa_cons (pe_meth0 (pv 0) T.cl_Reader T.m_Reader_piece ih_Reader_piece (hr.mono (by omega)) T.b_Reader_piece .nil (passes_call (takes_of rfl rfl rfl rfl) (fun _ _ _ _ z => z))) pa_nil))))))))
      (pss_one (ps_ret (pv 1))))), ?_⟩
  try dsimp only [cxOf, Cx.nox, Cx.wish]
  simp only [L2.start, List.map_cons, List.map_nil, List.length_cons, List.length_nil, Nat.reduceAdd, Nat.reduceSub, List.replicate_succ, List.replicate_zero, List.cons_append, List.nil_append]
  obtain ⟨ha, hk, hz, h⟩ := h
  have c1 := T.cl_Reader
  have c2 := T.n_Reader_text
  have c3 := T.n_Reader_at
  have hzl : z.cps.toList.length = z.length := Array.length_toList
  obtain ⟨C, dx, hs, hC⟩ := id ha
  obtain rfl := hC.one T.nc_Reader
  walk_at "ws"
  refine ⟨s, z, k, rfl, ha, hk, hz, ?_⟩
  have h : RdP K (prodF (parseN n).2.2 (z.cps.toList.drop k)) s z H Q E := h
  unfold prodF at h
  cases e : (parseN n).2.2 (z.cps.toList.drop k) with
  | out => rw [e] at h; exact h.elim
  | no => rw [e] at h; exact h
  | ok f r =>
    rw [e] at h
    intro p H1 hf hr hd ha1 f1
    walk_at "ws"
    refine ⟨fun m σ' G => ∃ (g : Fm) (q : Addr) (r' : List Nat) (j : Nat), σ' = [some (.ref s), some (.ref q)] ∧ FmAt G q g ∧ r'.length ≤ z.length ∧ z.cps.toList.drop (z.length - r'.length) = r' ∧ ReadAt K G s z (z.length - r'.length) ∧ Fr [s] H G ∧ r'.length ≤ j ∧ RdP K (timesF (parseN n).2.2 j g r') s z H Q E ∧ m = r'.length,
      ⟨_, f, p, r, _, rfl, hf, hr, hd, ha1, f1, Nat.le_refl _, h, rfl⟩, fun m σ' G q => ?_⟩
    obtain ⟨g, q, r', j, rfl, hg, hr', hd', haG, fG, hj, hG, rfl⟩ := q
    obtain ⟨C, dx, hsG, hCG⟩ := id haG
    obtain rfl := hCG.one T.nc_Reader
    walk_at "ws"
    refine use_here haG (by omega) hz hd' ?_
    walk_at "ws"
    · rename_i e1
      obtain ⟨r2, rfl⟩ := here_is (d := 42) (by decide +kernel) e1
      obtain ⟨j, rfl⟩ : ∃ i, j = i + 1 := ⟨j - 1, by rw [List.length_cons] at hj; omega⟩
      rw [timesF_go] at hG
      rw [List.length_cons] at hr' hd' hj
      have hd2 := drop_next hd'
      have ek : z.length - (r2.length + 1) + 1 = z.length - r2.length := by omega
      rw [ek] at hd2
      refine ⟨fun σ' H' => ∃ m', m' < (42 :: r2).length ∧ _, fun _ _ z => z, ?_⟩
      walk_at "ws"
      have ha2 := ReadAt.step (K := K) (H := G) (s := s) (z := z) (dx := dx) (k := z.length - (r2.length + 1)) hCG
      rw [ek] at ha2
      refine ⟨s, z, z.length - r2.length, rfl, ha2, by omega, hz, ?_⟩
      have f2 : Fr [s] H (upd G s (.ins T.c_Reader dx (putF "at" (.int (((z.length - (r2.length + 1) : Nat) : Int) + 1)) [("text", .str z), ("at", .int ((z.length - (r2.length + 1) : Nat) : Int))]))) := fG.trans (Fr.put (List.mem_cons_self ..))
      rw [hd2]
      cases e2 : (parseN n).2.2 r2 with
      | out => rw [e2] at hG; exact hG.elim
      | no => rw [e2] at hG; exact fun C H' c f' => hG C H' c (f2.trans f')
      | ok g2 r3 =>
        rw [e2] at hG
        intro p2 H2 hf2 hr3 hd3 ha3 f3
        have hg2 := hg.frs hsG ((Fr.put (List.mem_cons_self ..)).trans f3)
        obtain ⟨pre, hpre, _⟩ := (parse_sound n).2.2 _ _ _ e2
        have hl3 : r3.length ≤ r2.length := by rw [hpre, List.length_append]; omega
        walk_at "ws"
        rename_i p3 H3 n3 s3 e3
        refine ⟨r3.length, by rw [List.length_cons]; omega, .times g g2, _, r3, j, rfl, ⟨q, p2, e3, hg2.same s3, hf2.same s3⟩, hr3, hd3, ?_, (f2.trans f3).trans (Fr.of s3), by omega, hG, rfl⟩
        obtain ⟨C, dx, e4, h4⟩ := ha3
        exact ⟨C, dx, s3 _ _ e4, h4⟩
    · rename_i e1
      rw [timesF_stop (here_not (d := 42) (by decide +kernel) e1)] at hG
      walk_at "ws"
      exact hG q G hg hr' hd' haG fG
theorem rec_Reader_total (T : Top K mg) (n : Nat) (ih_Reader_total : FnOk P w K mg base (L2.CX P w) (3 + n) T.a_Reader_total T.d_Reader_total ["self"] (sp_Reader_total K n)) (ih_Reader_product : FnOk P w K mg base (L2.CX P w) (3 + n) T.a_Reader_product T.d_Reader_product ["self"] (sp_Reader_product K n)) (ih_Reader_piece : FnOk P w K mg base (L2.CX P w) (3 + n) T.a_Reader_piece T.d_Reader_piece ["self"] (sp_Reader_piece K n)) : FnOk P w K mg base (L2.CX P w) (3 + n + 1) T.a_Reader_total T.d_Reader_total ["self"] (sp_Reader_total K (n + 1)) := by
  refine T.f_Reader_total.okX sc_Reader_total (fun vs H Q E h => ?_) (fun cdv A outer s H vs Q E hr h => ?_)
  · obtain ⟨s, z, k, rfl, _⟩ := h
    rfl
  obtain ⟨s, z, k, rfl, h⟩ := h
  refine ⟨_, (pss_cons (ps_set (i := 1) sc_Reader_total.nd rfl (.inl rfl) (pe_meth0 (pv 0) T.cl_Reader T.m_Reader_product ih_Reader_product (hr.mono (by omega)) T.b_Reader_product .nil (passes_call (takes_of rfl rfl rfl rfl) (fun _ _ _ _ z => z))))
      (pss_cons (ps_while (passes_of rfl) (PW.pt (pw_or (pt_cmpR op_eq (pe_meth0 (pv 0) T.cl_Reader T.m_Reader_here (ok_Reader_here T) (hr.mono (by omega)) T.b_Reader_here .nil pass0) pe_str (nomark _)) (pw_or1 (pt_cmpR op_eq (pe_meth0 (pv 0) T.cl_Reader T.m_Reader_here (ok_Reader_here T) (hr.mono (by omega)) T.b_Reader_here .nil pass0) pe_str (nomark _)))))
      (pss_cons (ps_set (i := 2) sc_Reader_total.nd rfl (.inl rfl) pe_str)
      (pss_cons (ps_if (pt_cmpR op_eq (pe_meth0 (pv 0) T.cl_Reader T.m_Reader_here (ok_Reader_here T) (hr.mono (by omega)) T.b_Reader_here .nil pass0) pe_str (nomark _)) (pss_one (ps_set (i := 2) sc_Reader_total.nd rfl (.inl rfl) pe_str)) pss_nil)
      (pss_cons (ps_fldaug (pv 0) pe_int in_add)
      (pss_one (ps_set (i := 1) sc_Reader_total.nd rfl (.inl rfl) (pe_tup (pa_cons (pv 2) (pa_cons (pv 1) (pa_cons (pe_meth0 (pv 0) T.cl_Reader T.m_Reader_product ih_Reader_product (hr.mono (by omega)) T.b_Reader_product .nil (passes_call (takes_of rfl rfl rfl rfl) (fun _ _ _ _ z => z))) pa_nil))))))))))
      (pss_one (ps_ret (pv 1))))), ?_⟩
  try dsimp only [cxOf, Cx.nox, Cx.wish]
  simp only [L2.start, List.map_cons, List.map_nil, List.length_cons, List.length_nil, Nat.reduceAdd, Nat.reduceSub, List.replicate_succ, List.replicate_zero, List.cons_append, List.nil_append]
  obtain ⟨ha, hk, hz, h⟩ := h
  have c1 := T.cl_Reader
  have c2 := T.n_Reader_text
  have c3 := T.n_Reader_at
  have hzl : z.cps.toList.length = z.length := Array.length_toList
  obtain ⟨C, dx, hs, hC⟩ := id ha
  obtain rfl := hC.one T.nc_Reader
  walk_at "ws"
  refine ⟨s, z, k, rfl, ha, hk, hz, ?_⟩
  have h : RdP K (totF (parseN n).2.1 (z.cps.toList.drop k)) s z H Q E := h
  unfold totF at h
  cases e : (parseN n).2.1 (z.cps.toList.drop k) with
  | out => rw [e] at h; exact h.elim
  | no => rw [e] at h; exact h
  | ok f r =>
    rw [e] at h
    intro p H1 hf hr hd ha1 f1
    walk_at "ws"
    refine ⟨fun m σ' G => ∃ (g : Fm) (q : Addr) (r' : List Nat) (j : Nat) (y : Option V), σ' = [some (.ref s), some (.ref q), y] ∧ FmAt G q g ∧ r'.length ≤ z.length ∧ z.cps.toList.drop (z.length - r'.length) = r' ∧ ReadAt K G s z (z.length - r'.length) ∧ Fr [s] H G ∧ r'.length ≤ j ∧ RdP K (sumsF (parseN n).2.1 j g r') s z H Q E ∧ m = r'.length,
      ⟨_, f, p, r, _, _, rfl, hf, hr, hd, ha1, f1, Nat.le_refl _, h, rfl⟩, fun m σ' G q => ?_⟩
    obtain ⟨g, q, r', j, y, rfl, hg, hr', hd', haG, fG, hj, hG, rfl⟩ := q
    obtain ⟨C, dx, hsG, hCG⟩ := id haG
    obtain rfl := hCG.one T.nc_Reader
    walk_at "ws"
    refine use_here haG (by omega) hz hd' ?_
    walk_at "ws"
    · rename_i e1
      obtain ⟨r2, rfl⟩ := here_is (d := 43) (by decide +kernel) e1
      obtain ⟨j, rfl⟩ : ∃ i, j = i + 1 := ⟨j - 1, by rw [List.length_cons] at hj; omega⟩
      rw [sumsF_plus] at hG
      rw [List.length_cons] at hr' hd' hj
      have hd2 := drop_next hd'
      have ek : z.length - (r2.length + 1) + 1 = z.length - r2.length := by omega
      rw [ek] at hd2
      refine ⟨fun σ' H' => ∃ m', m' < (43 :: r2).length ∧ _, fun _ _ z => z, ?_⟩
      walk_at "ws"
      refine use_here haG (by omega) hz hd' ?_
      walk_at "ws"
      · rename_i e9
        obtain ⟨r9, e9⟩ := here_is (d := 45) (by decide +kernel) e9
        cases e9
      have ha2 := ReadAt.step (K := K) (H := G) (s := s) (z := z) (dx := dx) (k := z.length - (r2.length + 1)) hCG
      rw [ek] at ha2
      refine ⟨s, z, z.length - r2.length, rfl, ha2, by omega, hz, ?_⟩
      have f2 : Fr [s] H (upd G s (.ins T.c_Reader dx (putF "at" (.int (((z.length - (r2.length + 1) : Nat) : Int) + 1)) [("text", .str z), ("at", .int ((z.length - (r2.length + 1) : Nat) : Int))]))) := fG.trans (Fr.put (List.mem_cons_self ..))
      rw [hd2]
      cases e2 : (parseN n).2.1 r2 with
      | out => rw [e2] at hG; exact hG.elim
      | no => rw [e2] at hG; exact fun C H' c f' => hG C H' c (f2.trans f')
      | ok g2 r3 =>
        rw [e2] at hG
        intro p2 H2 hf2 hr3 hd3 ha3 f3
        have hg2 := hg.frs hsG ((Fr.put (List.mem_cons_self ..)).trans f3)
        obtain ⟨pre, hpre, _⟩ := (parse_sound n).2.1 _ _ _ e2
        have hl3 : r3.length ≤ r2.length := by rw [hpre, List.length_append]; omega
        walk_at "ws"
        rename_i p3 H3 n3 s3 e3
        refine ⟨r3.length, by rw [List.length_cons]; omega, .plus g g2, _, r3, j, _, rfl, ⟨q, p2, e3, hg2.same s3, hf2.same s3⟩, hr3, hd3, ?_, (f2.trans f3).trans (Fr.of s3), by omega, hG, rfl⟩
        obtain ⟨C, dx, e4, h4⟩ := ha3
        exact ⟨C, dx, s3 _ _ e4, h4⟩
    · rename_i e0
      refine use_here haG (by omega) hz hd' ?_
      walk_at "ws"
      · rename_i e1
        obtain ⟨r2, rfl⟩ := here_is (d := 45) (by decide +kernel) e1
        obtain ⟨j, rfl⟩ : ∃ i, j = i + 1 := ⟨j - 1, by rw [List.length_cons] at hj; omega⟩
        rw [sumsF_less] at hG
        rw [List.length_cons] at hr' hd' hj
        have hd2 := drop_next hd'
        have ek : z.length - (r2.length + 1) + 1 = z.length - r2.length := by omega
        rw [ek] at hd2
        refine ⟨fun σ' H' => ∃ m', m' < (45 :: r2).length ∧ _, fun _ _ z => z, ?_⟩
        walk_at "ws"
        refine use_here haG (by omega) hz hd' ?_
        walk_at "ws"
        try any_goals (rename_i e9; exact absurd rfl (here_not (d := 45) (by decide +kernel) e9))
        have ha2 := ReadAt.step (K := K) (H := G) (s := s) (z := z) (dx := dx) (k := z.length - (r2.length + 1)) hCG
        rw [ek] at ha2
        refine ⟨s, z, z.length - r2.length, rfl, ha2, by omega, hz, ?_⟩
        have f2 : Fr [s] H (upd G s (.ins T.c_Reader dx (putF "at" (.int (((z.length - (r2.length + 1) : Nat) : Int) + 1)) [("text", .str z), ("at", .int ((z.length - (r2.length + 1) : Nat) : Int))]))) := fG.trans (Fr.put (List.mem_cons_self ..))
        rw [hd2]
        cases e2 : (parseN n).2.1 r2 with
        | out => rw [e2] at hG; exact hG.elim
        | no => rw [e2] at hG; exact fun C H' c f' => hG C H' c (f2.trans f')
        | ok g2 r3 =>
          rw [e2] at hG
          intro p2 H2 hf2 hr3 hd3 ha3 f3
          have hg2 := hg.frs hsG ((Fr.put (List.mem_cons_self ..)).trans f3)
          obtain ⟨pre, hpre, _⟩ := (parse_sound n).2.1 _ _ _ e2
          have hl3 : r3.length ≤ r2.length := by rw [hpre, List.length_append]; omega
          walk_at "ws"
          rename_i p3 H3 n3 s3 e3
          refine ⟨r3.length, by rw [List.length_cons]; omega, .less g g2, _, r3, j, _, rfl, ⟨q, p2, e3, hg2.same s3, hf2.same s3⟩, hr3, hd3, ?_, (f2.trans f3).trans (Fr.of s3), by omega, hG, rfl⟩
          obtain ⟨C, dx, e4, h4⟩ := ha3
          exact ⟨C, dx, s3 _ _ e4, h4⟩
      · rename_i e1
        rw [sumsF_stop (here_not (d := 43) (by decide +kernel) e0) (here_not (d := 45) (by decide +kernel) e1)] at hG
        walk_at "ws"
        exact hG q G hg hr' hd' haG fG
theorem rec_Reader_piece (T : Top K mg) (n : Nat) (ih_Reader_total : FnOk P w K mg base (L2.CX P w) (3 + n) T.a_Reader_total T.d_Reader_total ["self"] (sp_Reader_total K n)) (ih_Reader_product : FnOk P w K mg base (L2.CX P w) (3 + n) T.a_Reader_product T.d_Reader_product ["self"] (sp_Reader_product K n)) (ih_Reader_piece : FnOk P w K mg base (L2.CX P w) (3 + n) T.a_Reader_piece T.d_Reader_piece ["self"] (sp_Reader_piece K n)) : FnOk P w K mg base (L2.CX P w) (3 + n + 1) T.a_Reader_piece T.d_Reader_piece ["self"] (sp_Reader_piece K (n + 1)) := by
  refine T.f_Reader_piece.okX sc_Reader_piece (fun vs H Q E h => ?_) (fun cdv A outer s H vs Q E hr h => ?_)
  · obtain ⟨s, z, k, rfl, _⟩ := h
    rfl
  obtain ⟨s, z, k, rfl, h⟩ := h
  refine ⟨_, (pss_cons (ps_if (pt_cmpR op_eq (pe_meth0 (pv 0) T.cl_Reader T.m_Reader_here (ok_Reader_here T) (hr.mono (by omega)) T.b_Reader_here .nil pass0) pe_str (nomark _)) (pss_cons (ps_fldaug (pv 0) pe_int in_add)
      (pss_one (ps_ret (pe_tup (pa_cons pe_str (pa_cons (pe_meth0 (pv 0) T.cl_Reader T.m_Reader_piece ih_Reader_piece (hr.mono (by omega)) T.b_Reader_piece .nil (passes_call (takes_of rfl rfl rfl rfl) (fun _ _ _ _ z => z))) pa_nil)))))) pss_nil)
      (pss_cons (ps_if (pt_cmpR op_eq (pe_meth0 (pv 0) T.cl_Reader T.m_Reader_here (ok_Reader_here T) (hr.mono (by omega)) T.b_Reader_here .nil pass0) pe_str (nomark _)) (pss_cons (ps_fldaug (pv 0) pe_int in_add)
      (pss_cons (ps_set (i := 1) sc_Reader_piece.nd rfl (.inl rfl) (pe_meth0 (pv 0) T.cl_Reader T.m_Reader_total ih_Reader_total (hr.mono (by omega)) T.b_Reader_total .nil (passes_call (takes_of rfl rfl rfl rfl) (fun _ _ _ _ z => z))))
      (pss_cons (ps_if (pt_cmpR op_ne (pe_meth0 (pv 0) T.cl_Reader T.m_Reader_here (ok_Reader_here T) (hr.mono (by omega)) T.b_Reader_here .nil pass0) pe_str (nomark _)) (pss_one (ps_raise rfl (takes_of rfl rfl rfl rfl) (pmk_own PySem.F.excBase_ValueError T.x_NoFormula T.gc_NoFormula T.kc_NoFormula (raises_own T.xb_NoFormula T.xt_NoFormula) (by rfl)))) pss_nil)
      (pss_cons (ps_fldaug (pv 0) pe_int in_add)
      (pss_one (ps_ret (pv 1))))))) pss_nil)
      (pss_cons (ps_set (i := 2) sc_Reader_piece.nd rfl (.inl rfl) (pe_meth (pv 0) T.cl_Reader T.m_Reader_run_of (ok_Reader_run_of T) (hr.mono (by omega)) T.b_Reader_run_of .nil pass0 (pa_cons (pe_glob (v := V.str "abcdefghijklmnopqrstuvwxyz") (by rfl) T.g_SMALL_text ⟨_, rfl⟩) pa_nil)))
      (Evl.pss_cut (ps_if (pt_chain op_lt op_lt pe_int (pe_callB c_lenS (by rfl) T.z_len PySem.boot_len (pa_cons (pv 2) pa_nil)) pe_int) (pss_one (ps_ret (pe_tup (pa_cons pe_str (pa_cons (pv 2) pa_nil))))) pss_nil)
      (pss_cons (ps_set (i := 3) sc_Reader_piece.nd rfl (.inl rfl) (pe_meth (pv 0) T.cl_Reader T.m_Reader_run_of (ok_Reader_run_of T) (hr.mono (by omega)) T.b_Reader_run_of .nil pass0 (pa_cons (pe_glob (v := V.str "0123456789") (by rfl) T.g_FIGURES_text ⟨_, rfl⟩) pa_nil)))
      (Evl.pss_cut (ps_if (PW.pt (pw_or (pt_cmpR op_ne (pv 2) pe_str (nomark _)) (pw_or1 (pt_not (pt_chain op_lt op_lt pe_int (pe_callB c_lenS (by rfl) T.z_len PySem.boot_len (pa_cons (pv 3) pa_nil)) pe_int))))) (pss_one (ps_raise rfl (takes_of rfl rfl rfl rfl) (pmk_own PySem.F.excBase_ValueError T.x_NoFormula T.gc_NoFormula T.kc_NoFormula (raises_own T.xb_NoFormula T.xt_NoFormula) (by rfl)))) pss_nil)
      (Evl.pss_cut (ps_if (PW.pt (pw_or (PW.pt (pw_and (pt_cmpR op_eq (pe_ix ix_str (pv 3) pe_int (fun _ _ => rfl)) pe_str (nomark _)) (pw_and1 (pt_cmpR op_gt (pe_callB c_lenS (by rfl) T.z_len PySem.boot_len (pa_cons (pv 3) pa_nil)) pe_int (nomark _))))) (pw_or1 (pt_cmpR op_gt (pe_callTy c_intS (by rfl) T.z_int (by decide +kernel) (pa_cons (pv 3) pa_nil)) (pe_glob (v := V.int 1000000000000) (by rfl) T.g_MOST ⟨_, rfl⟩) (nomark _))))) (pss_one (ps_raise rfl (takes_of rfl rfl rfl rfl) (pmk_own PySem.F.excBase_ValueError T.x_NoFormula T.gc_NoFormula T.kc_NoFormula (raises_own T.xb_NoFormula T.xt_NoFormula) (by rfl)))) pss_nil)
      (pss_one (ps_ret (pe_tup (pa_cons pe_str (pa_cons (pe_callTy c_intS (by rfl) T.z_int (by decide +kernel) (pa_cons (pv 3) pa_nil)) pa_nil)))))))))))), ?_⟩
  try dsimp only [cxOf, Cx.nox, Cx.wish]
  simp only [L2.start, List.map_cons, List.map_nil, List.length_cons, List.length_nil, Nat.reduceAdd, Nat.reduceSub, List.replicate_succ, List.replicate_zero, List.cons_append, List.nil_append]
  obtain ⟨ha, hk, hz, h⟩ := h
  have c1 := T.cl_Reader
  have c2 := T.n_Reader_text
  have c3 := T.n_Reader_at
  have hzl : z.cps.toList.length = z.length := Array.length_toList
  obtain ⟨C, dx, hs, hC⟩ := id ha
  obtain rfl := hC.one T.nc_Reader
  walk_at "ws"
  have h : RdP K (pieceF (parseN n).1 (parseN n).2.2 (z.cps.toList.drop k)) s z H Q E := h
  obtain ⟨cs, hcs⟩ : ∃ cs, z.cps.toList.drop k = cs := ⟨_, rfl⟩
  rw [hcs] at h
  have hlc : cs.length = z.length - k := by rw [← hcs, List.length_drop, hzl]
  refine use_here ha hk hz hcs ?_
  walk_at "ws"
  · rename_i e1
    obtain ⟨r2, rfl⟩ := here_is (d := 45) (by decide +kernel) e1
    have hd2 := drop_next hcs
    rw [List.length_cons] at hlc
    have h : RdP K (match (parseN n).2.2 r2 with
      | .ok f r' => .ok (.turned f) r'
      | e => e) s z H Q E := h
    have ha2 := ReadAt.step (K := K) (H := H) (s := s) (z := z) (dx := dx) (k := k) hC
    refine ⟨s, z, k + 1, rfl, ha2, by omega, hz, ?_⟩
    have f2 : Fr [s] H (upd H s (.ins T.c_Reader dx (putF "at" (.int ((k : Int) + 1)) [("text", .str z), ("at", .int (k : Int))]))) := Fr.put (List.mem_cons_self ..)
    rw [hd2]
    cases e2 : (parseN n).2.2 r2 with
    | out => rw [e2] at h; exact h.elim
    | no => rw [e2] at h; exact fun C H' c f' => h C H' c (f2.trans f')
    | ok g r3 =>
      rw [e2] at h
      intro p2 H2 hf2 hr3 hd3 ha3 f3
      walk_at "ws"
      rename_i p3 H3 n3 s3 e3
      obtain ⟨C, dx, e4, h4⟩ := ha3
      exact h p3 H3 ⟨p2, e3, hf2.same s3⟩ hr3 hd3 ⟨C, dx, s3 _ _ e4, h4⟩ ((f2.trans f3).trans (Fr.of s3))
  · rename_i e0
    have ne45 := here_not (d := 45) (by decide +kernel) e0
    refine use_here ha hk hz hcs ?_
    walk_at "ws"
    · rename_i e1
      obtain ⟨r2, rfl⟩ := here_is (d := 40) (by decide +kernel) e1
      have hd2 := drop_next hcs
      rw [List.length_cons] at hlc
      have h : RdP K (match (parseN n).1 r2 with
        | .ok f (41 :: r') => .ok f r'
        | .ok _ _ => .no
        | e => e) s z H Q E := h
      have ha2 := ReadAt.step (K := K) (H := H) (s := s) (z := z) (dx := dx) (k := k) hC
      refine ⟨s, z, k + 1, rfl, ha2, by omega, hz, ?_⟩
      have f2 : Fr [s] H (upd H s (.ins T.c_Reader dx (putF "at" (.int ((k : Int) + 1)) [("text", .str z), ("at", .int (k : Int))]))) := Fr.put (List.mem_cons_self ..)
      rw [hd2]
      cases e2 : (parseN n).1 r2 with
      | out => rw [e2] at h; exact h.elim
      | no => rw [e2] at h; exact fun C H' c f' => h C H' c (f2.trans f')
      | ok g r3 =>
        rw [e2] at h
        intro p2 H2 hf2 hr3 hd3 ha3 f3
        obtain ⟨C, dx3, e4, h4⟩ := id ha3
        obtain rfl := h4.one T.nc_Reader
        walk_at "ws"
        refine use_here ha3 (by omega) hz hd3 ?_
        walk_at "ws"
        · rename_i e5
          have ne41 := here_not (d := 41) (by decide +kernel) e5
          have h : ∀ C H', IsC K "NoFormula" C → Fr [s] H H' → E (.ref C) none H' := by
            cases r3 with
            | nil => exact h
            | cons c r3 =>
              by_cases hc : c = 41
              · exact absurd (by rw [hc]; rfl) ne41
              · have e6 : (match Pr.ok g (c :: r3) with
                  | .ok f (41 :: r') => Pr.ok f r'
                  | .ok _ _ => .no
                  | e => e) = Pr.no := by
                  split
                  · rename_i e7
                    cases e7
                    exact absurd rfl hc
                  · rfl
                  · rename_i q
                    exact absurd rfl (q _ _)
                rw [e6] at h
                exact h
          exact h _ _ T.nc_NoFormula (f2.trans f3)
        · rename_i e5
          obtain ⟨r4, rfl⟩ := here_is (d := 41) (by decide +kernel) e5
          have h : ∀ p H', FmAt H' p g → r4.length ≤ z.length → z.cps.toList.drop (z.length - r4.length) = r4 → ReadAt K H' s z (z.length - r4.length) → Fr [s] H H' → Q (.ref p) H' := h
          rw [List.length_cons] at hr3 hd3
          have hd5 := drop_next hd3
          have ek : z.length - (r4.length + 1) + 1 = z.length - r4.length := by omega
          rw [ek] at hd5
          have ha5 := ReadAt.step (K := K) (H := H2) (s := s) (z := z) (dx := dx3) (k := z.length - (r4.length + 1)) h4
          rw [ek] at ha5
          exact h p2 _ (hf2.frs e4 (Fr.put (List.mem_cons_self ..))) (by omega) hd5 ha5 ((f2.trans f3).trans (Fr.put (List.mem_cons_self ..)))
    · rename_i e1
      have ne40 := here_not (d := 40) (by decide +kernel) e1
      rw [pieceF_leaf ne45 ne40] at h
      refine ⟨s, z, _, k, rfl, ha, hk, hz, ?_⟩
      rw [smallL_eq, hcs]
      intro H1 ha1 f1
      have la := runN_le smallL cs
      unfold leafF at h
      dsimp only at h
      generalize ea : runN smallL cs = a at *
      have nl : (⟨(cs.take a).toArray⟩ : Str).length = a := by
        show (cs.take a).length = a
        rw [List.length_take]
        omega
      generalize en : (⟨(cs.take a).toArray⟩ : Str) = nm at *
      have hk1 : k + a ≤ z.length := by omega
      obtain ⟨C, dx1, hs1, hC1⟩ := id ha1
      obtain rfl := hC1.one T.nc_Reader
      walk_at "ws"
      refine w_cut (fun σ' G => σ' = [some (.ref s), none, some (.str nm), none] ∧ G = H1 ∧ ¬ (0 < a ∧ a < 7)) ?_ fun σ' G k2 => ?_
      · walk_at "ws"
        · rename_i q1 q2 p H2 n2 s2 e2
          rw [if_pos (by omega)] at h
          have hd : (cs.drop a).length = cs.length - a := List.length_drop ..
          refine h p H2 e2 (by omega) ?_ ⟨T.c_Reader, dx1, by rw [show z.length - (cs.drop a).length = k + a by omega]; exact s2 _ _ hs1, hC1⟩ (f1.trans (Fr.of s2))
          rw [show z.length - (cs.drop a).length = k + a by omega, ← List.drop_drop, hcs]
        · exact ⟨rfl, rfl, by omega⟩
        · exact ⟨rfl, rfl, by omega⟩
      obtain ⟨rfl, rfl, hna⟩ := k2
      rw [if_neg hna] at h
      walk_at "ws"
      refine ⟨s, z, _, k + a, rfl, ha1, hk1, hz, ?_⟩
      rw [figL_eq, ← List.drop_drop, hcs]
      intro H2 ha2 f2
      have lb := runN_le figL (cs.drop a)
      have hdl : (cs.drop a).length = cs.length - a := List.length_drop ..
      generalize eb : runN figL (cs.drop a) = b at *
      have fl : (⟨((cs.drop a).take b).toArray⟩ : Str).length = b := by
        show ((cs.drop a).take b).length = b
        rw [List.length_take]
        omega
      have fcp : (⟨((cs.drop a).take b).toArray⟩ : Str).cps.toList = (cs.drop a).take b := rfl
      generalize ef : (⟨((cs.drop a).take b).toArray⟩ : Str) = fg at *
      obtain ⟨C, dx2, hs2, hC2⟩ := id ha2
      obtain rfl := hC2.one T.nc_Reader
      walk_at "ws"
      refine w_cut (fun σ' G => σ' = [some (.ref s), none, some (.str nm), some (.str fg)] ∧ G = H2 ∧ a = 0 ∧ 0 < b ∧ b < 14) ?_ fun σ' G k2 => ?_
      · walk_at "ws"
        · rename_i e
          have hne : a ≠ 0 := by
            intro a0
            subst a0
            exact e (by rw [← en]; rfl)
          rw [if_pos (.inl hne)] at h
          exact h _ _ T.nc_NoFormula (f1.trans f2)
        · rw [if_pos (.inr (by omega))] at h
          exact h _ _ T.nc_NoFormula (f1.trans f2)
        · rename_i e _ _
          have h0 : a = 0 := by
            rw [← nl, e]
            rfl
          exact ⟨rfl, rfl, h0, by omega, by omega⟩
        · rw [if_pos (.inr (by omega))] at h
          exact h _ _ T.nc_NoFormula (f1.trans f2)
      obtain ⟨rfl, rfl, rfl, hb0, hb14⟩ := k2
      rw [if_neg (by omega)] at h
      rw [List.drop_zero] at *
      have had : PySem.NumText.AllDigits fg.cps.toList := by
        intro c hc
        rw [fcp, ← eb] at hc
        exact fig_iff.mp (runN_mem figL cs c hc)
      have hne : fg.cps.toList ≠ [] := by
        intro z
        have := congrArg List.length z
        rw [← len_cps, fl, List.length_nil] at this
        omega
      have hit := PySem.intText_digits had hne (by omega)
      rw [← digF_eq had, fcp] at hit
      obtain ⟨c, cr, hcr⟩ : ∃ c cr, cs = c :: cr := by
        cases cs with
        | nil => rw [List.length_nil] at lb; omega
        | cons c cr => exact ⟨c, cr, rfl⟩
      have hat : atI fg.cps.toList 0 = some c := by
        rw [fcp, hcr]
        obtain ⟨b', rfl⟩ : ∃ x, b = x + 1 := ⟨b - 1, by omega⟩
        rw [List.take_succ_cons]
        show atI _ ((0 : Nat) : Int) = _
        exact atI_nat rfl
      have hh : cs.head? = some c := by rw [hcr]; rfl
      have hc0 : (⟨#[c]⟩ : Str) = Str.ofString "0" ↔ c = 48 := by
        rw [show Str.ofString "0" = ⟨#[48]⟩ by decide +kernel]
        exact ⟨fun z => (List.cons.inj (congrArg (fun s : Str => s.cps.toList) z)).1, fun z => by rw [z]⟩
      rw [hh] at h
      refine w_cut (fun σ' G' => σ' = [some (.ref s), none, some (.str nm), some (.str fg)] ∧ G' = G ∧ ¬ (some c = some 48 ∧ 1 < b ∨ 1000000000000 < digF (List.take b cs))) ?_ fun σ' G' k2 => ?_
      · walk_at "ws"
        refine w_ixS (by omega) hat ?_
        walk_at "ws"
        · rename_i e _
          rw [if_pos (.inl ⟨by rw [hc0.mp e], by omega⟩)] at h
          exact h _ _ T.nc_NoFormula (f1.trans f2)
        · refine w_intS hit (by omega) ?_
          walk_at "ws"
          · rw [if_pos (.inr (by omega))] at h
            exact h _ _ T.nc_NoFormula (f1.trans f2)
          · exact ⟨rfl, rfl, by omega⟩
        · rename_i e
          refine w_intS hit (by omega) ?_
          walk_at "ws"
          · rw [if_pos (.inr (by omega))] at h
            exact h _ _ T.nc_NoFormula (f1.trans f2)
          · refine ⟨rfl, rfl, ?_⟩
            rintro (⟨z, _⟩ | z)
            · exact e (hc0.mpr (Option.some.inj z))
            · omega
      obtain ⟨rfl, rfl, hnb⟩ := k2
      rw [if_neg hnb] at h
      walk_at "ws"
      refine w_intS hit (by omega) ?_
      walk_at "ws"
      rename_i p H3 n3 s3 e3
      have hdb : (cs.drop b).length = cs.length - b := List.length_drop ..
      refine h p H3 e3 (by omega) ?_ ⟨T.c_Reader, dx2, by rw [show z.length - (cs.drop b).length = k + 0 + b by omega]; exact s3 _ _ hs2, hC2⟩ ((f1.trans f2).trans (Fr.of s3))
      rw [show z.length - (cs.drop b).length = k + b by omega, ← List.drop_drop, hcs]
theorem all_Reader_total (T : Top K mg) : ∀ n : Nat, FnOk P w K mg base (L2.CX P w) (3 + n) T.a_Reader_total T.d_Reader_total ["self"] (sp_Reader_total K n) ∧ FnOk P w K mg base (L2.CX P w) (3 + n) T.a_Reader_product T.d_Reader_product ["self"] (sp_Reader_product K n) ∧ FnOk P w K mg base (L2.CX P w) (3 + n) T.a_Reader_piece T.d_Reader_piece ["self"] (sp_Reader_piece K n)
  | 0 => ⟨T.f_Reader_total.okX (k := 2) sc_Reader_total (fun _ _ _ _ h => (no_Reader_total h).elim) (fun _ _ _ _ _ _ _ _ _ h => (no_Reader_total h).elim), T.f_Reader_product.okX (k := 2) sc_Reader_product (fun _ _ _ _ h => (no_Reader_product h).elim) (fun _ _ _ _ _ _ _ _ _ h => (no_Reader_product h).elim), T.f_Reader_piece.okX (k := 2) sc_Reader_piece (fun _ _ _ _ h => (no_Reader_piece h).elim) (fun _ _ _ _ _ _ _ _ _ h => (no_Reader_piece h).elim)⟩
  | n + 1 => ⟨rec_Reader_total T n (all_Reader_total T n).1 (all_Reader_total T n).2.1 (all_Reader_total T n).2.2, rec_Reader_product T n (all_Reader_total T n).1 (all_Reader_total T n).2.1 (all_Reader_total T n).2.2, rec_Reader_piece T n (all_Reader_total T n).1 (all_Reader_total T n).2.1 (all_Reader_total T n).2.2⟩
theorem ok_Reader_total (T : Top K mg) : FnOk P w K mg base (L2.CX P w) 186 T.a_Reader_total T.d_Reader_total ["self"] (sp_Reader_total K 183) := (all_Reader_total T 183).1
/-! a whole text read -/
def sp_read (K : PySem.W.Frag) : Sp := fun vs H Q E => ∃ z : Str, vs = [.str z] ∧ z.length ≤ 100000 ∧ wgt z.cps.toList ≤ 60 ∧
  (∀ f, Wr 0 f z.cps.toList → ∀ p H', FmAt H' p f → Same H H' → Q (.ref p) H') ∧ ((∀ f, ¬ Wr 0 f z.cps.toList) → ∀ C H', IsC K "NoFormula" C → Same H H' → E (.ref C) none H')
theorem ok_read (T : Top K mg) : FnOk P w K mg base (L2.CX P w) 187 T.a_read T.d_read ["text"] (sp_read K) := by
  refine T.f_read.okX sc_read (fun vs H Q E h => ?_) (fun cdv A outer s H vs Q E hr h => ?_)
  · obtain ⟨z, rfl, _⟩ := h
    rfl
  obtain ⟨z, rfl, h⟩ := h
  refine ⟨_, (pss_cons (ps_set (i := 1) sc_read.nd rfl (.inl rfl) (pe_make T.mk_Reader (ok_Reader__init T) (hr.mono (by decide)) (by rfl) T.gc_Reader T.b_Reader__init .nil pass0 (pa_cons (pv 0) pa_nil)))
      (pss_cons (ps_set (i := 2) sc_read.nd rfl (.inl rfl) (pe_meth0 (pv 1) T.cl_Reader T.m_Reader_total (ok_Reader_total T) (hr.mono (by decide)) T.b_Reader_total .nil (passes_call (takes_of rfl rfl rfl rfl) (fun _ _ _ _ z => z))))
      (pss_cons (ps_if (pt_cmpR op_ne (pe_meth0 (pv 1) T.cl_Reader T.m_Reader_here (ok_Reader_here T) (hr.mono (by decide)) T.b_Reader_here .nil pass0) pe_str (nomark _)) (pss_one (ps_raise rfl (takes_of rfl rfl rfl rfl) (pmk_own PySem.F.excBase_ValueError T.x_NoFormula T.gc_NoFormula T.kc_NoFormula (raises_own T.xb_NoFormula T.xt_NoFormula) (by rfl)))) pss_nil)
      (pss_one (ps_ret (pv 2)))))), ?_⟩
  try dsimp only [cxOf, Cx.nox, Cx.wish]
  simp only [L2.start, List.map_cons, List.map_nil, List.length_cons, List.length_nil, Nat.reduceAdd, Nat.reduceSub, List.replicate_succ, List.replicate_zero, List.cons_append, List.nil_append]
  obtain ⟨hz, hw, h1, h2⟩ := h
  have hzl : z.cps.toList.length = z.length := Array.length_toList
  have c1 := T.cl_Reader
  have c2 := T.n_Reader_text
  have c3 := T.n_Reader_at
  walk_at "ws"
  rename_i s dx H1 n1 n2 s1 e1
  refine ⟨s, _, dx, z, rfl, e1, T.nc_Reader, fun H2 ha2 f2 => ⟨rfl, ?_⟩⟩
  have S2 : Same H H2 := f2.same s1 fun m hm => by rw [List.mem_singleton.mp hm]; exact n1
  obtain ⟨C, dx2, hs2, hC2⟩ := id ha2
  obtain rfl := hC2.one T.nc_Reader
  walk_at "ws"
  refine ⟨s, z, 0, rfl, ha2, Nat.zero_le _, hz, ?_⟩
  rw [List.drop_zero]
  have fuel : 3 * wgt z.cps.toList + 3 ≤ 183 := by omega
  have same3 : ∀ {H3 : Hp}, Fr [s] H2 H3 → Same H H3 := fun f => (f2.trans f).same s1 fun m hm => by rw [List.mem_singleton.mp hm]; exact n1
  by_cases hf : ∃ f, Wr 0 f z.cps.toList
  · obtain ⟨f, hf⟩ := hf
    rw [read_whole hf fuel]
    intro p H3 hp _ hd3 ha3 f3
    obtain ⟨C, dx3, hs3, hC3⟩ := id ha3
    obtain rfl := hC3.one T.nc_Reader
    walk_at "ws"
    refine use_here ha3 (by rw [List.length_nil]; omega) hz hd3 ?_
    walk_at "ws"
    exact h1 f hf p H3 hp (same3 f3)
  · have hf : ∀ f, ¬ Wr 0 f z.cps.toList := fun f w => hf ⟨f, w⟩
    rcases read_none hf fuel with e | ⟨f, c, r, e⟩
    · rw [e]
      exact fun C H3 hC f3 => h2 hf C H3 hC (same3 f3)
    · rw [e]
      intro p H3 hp hr hd3 ha3 f3
      obtain ⟨C, dx3, hs3, hC3⟩ := id ha3
      obtain rfl := hC3.one T.nc_Reader
      walk_at "ws"
      refine use_here ha3 (by omega) hz hd3 ?_
      walk_at "ws"
      · exact h2 hf _ H3 T.nc_NoFormula (same3 f3)
      · rename_i e9
        have := congrArg Str.length e9
        exact Nat.noConfusion (show 1 = 0 from this)
def sp_span_of_width (K : PySem.W.Frag) : Sp := fun vs H Q _ => ∃ w : Int, vs = [.int w] ∧ (w ≠ 0 ∧ -100 ≤ w ∧ w ≤ 100) ∧
  ∀ p H', H p = none → Same H H' → H' p = some (.tup [.int (spanW w).1, .int (spanW w).2]) → Q (.ref p) H'
theorem ok_span_of_width (T : Top K mg) : FnOk P w K mg base CX0 1 T.a_span_of_width T.d_span_of_width ["width"] (sp_span_of_width K) := by
  refine T.f_span_of_width.ok sc_span_of_width (fun vs H Q E h => ?_) (fun cdv A outer s H vs Q E hr h => ?_)
  · obtain ⟨z, rfl, _⟩ := h
    rfl
  obtain ⟨z, rfl, h⟩ := h
  refine ⟨_, (pss_cons (ps_if (pt_cmpR op_gt (pv 0) pe_int (nomark _)) (pss_one (ps_ret (pe_tup (pa_cons pe_int (pa_cons (pe_op op_sub (pe_op op_shl pe_int (pv 0)) pe_int) pa_nil))))) pss_nil)
      (pss_cons (ps_set (i := 1) sc_span_of_width.nd rfl (.inl rfl) (pe_op op_shl pe_int (pe_op op_sub (pe_un un_neg (pv 0)) pe_int)))
      (pss_one (ps_ret (pe_tup (pa_cons (pe_un un_neg (pv 1)) (pa_cons (pe_op op_sub (pv 1) pe_int) pa_nil))))))), ?_⟩
  try dsimp only [cxOf, Cx.nox, Cx.wish]
  simp only [L2.start, List.map_cons, List.map_nil, List.length_cons, List.length_nil, Nat.reduceAdd, Nat.reduceSub, List.replicate_succ, List.replicate_zero, List.cons_append, List.nil_append]
  obtain ⟨⟨h0, h1, h2⟩, h⟩ := h
  walk_at "ws"
  · rename_i hz p H1 hn hs hp
    refine h p H1 hn hs ?_
    rw [hp, spanW, if_pos hz, Int.one_mul]
  · rename_i hz p H1 hn hs hp
    refine h p H1 hn hs ?_
    rw [hp, spanW, if_neg hz, Int.one_mul]
def sp_span_of (K : PySem.W.Frag) (n : Nat) : Sp := fun vs H Q _ => ∃ (p d : Addr) (f : Fm) (ws : List (Str × Int)) (N : Str → Prop), vs = [.ref p, .ref d] ∧ FmAt H p f ∧ H d = some (.dK (wkv ws)) ∧ FmOk N f ∧ Has N ws ∧ WdOk ws ∧ f.size ≤ n ∧ f.size ≤ 1000 ∧
  ∀ q H', H q = none → Same H H' → H' q = some (.tup [.int (spanF ws f).1, .int (spanF ws f).2]) → Q (.ref q) H'
theorem no_span_of {vs : List V} {H : Hp} {Q : VK} {E : XK} (h : sp_span_of K 0 vs H Q E) : False := by
  obtain ⟨p, d, f, ws, N, _, _, _, _, _, _, h0, _⟩ := h
  have := f.size_pos
  omega
theorem rec_span_of (T : Top K mg) (n : Nat) (ih : FnOk P w K mg base CX0 (2 + n) T.a_span_of T.d_span_of ["formula", "widths"] (sp_span_of K n)) : FnOk P w K mg base CX0 (2 + n + 1) T.a_span_of T.d_span_of ["formula", "widths"] (sp_span_of K (n + 1)) := by
  refine T.f_span_of.ok sc_span_of (fun vs H Q E h => ?_) (fun cdv A outer s H vs Q E hr h => ?_)
  · obtain ⟨p, d, f, ws, N, rfl, _⟩ := h
    rfl
  obtain ⟨p, d, f, ws, N, rfl, h⟩ := h
  refine ⟨_, (pss_cons (ps_set (i := 2) sc_span_of.nd rfl (.inl rfl) (pe_ix (ix_tupK K) (pv 0) pe_int (fun _ _ => rfl)))
      (pss_cons (ps_if (pt_cmpR op_eq (pv 2) pe_str (nomark _)) (pss_one (ps_ret (pe_call (ok_span_of_width T) (hr.mono (by omega)) (by rfl) T.g_span_of_width T.f_span_of_width.kp T.b_span_of_width .nil pass0 (pa_cons (pe_dget (hu_of hr) (pv 1) (pe_ix (ix_tupK K) (pv 0) pe_int (fun _ _ => rfl)) (fun _ _ => rfl)) pa_nil)))) pss_nil)
      (pss_cons (ps_if (pt_cmpR op_eq (pv 2) pe_str (nomark _)) (pss_one (ps_ret (pe_tup (pa_cons (pe_ix (ix_tupK K) (pv 0) pe_int (fun _ _ => rfl)) (pa_cons (pe_ix (ix_tupK K) (pv 0) pe_int (fun _ _ => rfl)) pa_nil))))) pss_nil)
      (pss_cons (ps_set (i := 3) sc_span_of.nd rfl (.inl rfl) (pe_call ih hr (by rfl) T.g_span_of T.f_span_of.kp T.b_span_of .nil pass0 (pa_cons (pe_ix (ix_tupK K) (pv 0) pe_int (fun _ _ => rfl)) (pa_cons (pv 1) pa_nil))))
      (pss_cons (ps_if (pt_cmpR op_eq (pv 2) pe_str (nomark _)) (pss_one (ps_ret (pe_tup (pa_cons (pe_un un_neg (pe_ix (ix_tupK K) (pv 3) pe_int (fun _ _ => rfl))) (pa_cons (pe_un un_neg (pe_ix (ix_tupK K) (pv 3) pe_int (fun _ _ => rfl))) pa_nil))))) pss_nil)
      (pss_cons (ps_set (i := 4) sc_span_of.nd rfl (.inl rfl) (pe_call ih hr (by rfl) T.g_span_of T.f_span_of.kp T.b_span_of .nil pass0 (pa_cons (pe_ix (ix_tupK K) (pv 0) pe_int (fun _ _ => rfl)) (pa_cons (pv 1) pa_nil))))
      (pss_cons (ps_if (pt_cmpR op_eq (pv 2) pe_str (nomark _)) (pss_one (ps_ret (pe_tup (pa_cons (pe_op op_add (pe_ix (ix_tupK K) (pv 3) pe_int (fun _ _ => rfl)) (pe_ix (ix_tupK K) (pv 4) pe_int (fun _ _ => rfl))) (pa_cons (pe_op op_add (pe_ix (ix_tupK K) (pv 3) pe_int (fun _ _ => rfl)) (pe_ix (ix_tupK K) (pv 4) pe_int (fun _ _ => rfl))) pa_nil))))) pss_nil)
      (pss_cons (ps_if (pt_cmpR op_eq (pv 2) pe_str (nomark _)) (pss_one (ps_ret (pe_tup (pa_cons (pe_op op_sub (pe_ix (ix_tupK K) (pv 3) pe_int (fun _ _ => rfl)) (pe_ix (ix_tupK K) (pv 4) pe_int (fun _ _ => rfl))) (pa_cons (pe_op op_sub (pe_ix (ix_tupK K) (pv 3) pe_int (fun _ _ => rfl)) (pe_ix (ix_tupK K) (pv 4) pe_int (fun _ _ => rfl))) pa_nil))))) pss_nil)
      (pss_cons (ps_set (i := 5) sc_span_of.nd rfl (.inl rfl) (pe_lst (pa_cons (pe_op op_mulI (pe_ix (ix_tupK K) (pv 3) pe_int (fun _ _ => rfl)) (pe_ix (ix_tupK K) (pv 4) pe_int (fun _ _ => rfl))) (pa_cons (pe_op op_mulI (pe_ix (ix_tupK K) (pv 3) pe_int (fun _ _ => rfl)) (pe_ix (ix_tupK K) (pv 4) pe_int (fun _ _ => rfl))) (pa_cons (pe_op op_mulI (pe_ix (ix_tupK K) (pv 3) pe_int (fun _ _ => rfl)) (pe_ix (ix_tupK K) (pv 4) pe_int (fun _ _ => rfl))) (pa_cons (pe_op op_mulI (pe_ix (ix_tupK K) (pv 3) pe_int (fun _ _ => rfl)) (pe_ix (ix_tupK K) (pv 4) pe_int (fun _ _ => rfl))) pa_nil))))))
      (pss_one (ps_ret (pe_tup (pa_cons (pe_callB (c_minK K) (by rfl) T.z_min (by decide +kernel) (pa_cons (pv 5) pa_nil)) (pa_cons (pe_callB (c_maxK K) (by rfl) T.z_max (by decide +kernel) (pa_cons (pv 5) pa_nil)) pa_nil)))))))))))))), ?_⟩
  try dsimp only [cxOf, Cx.nox, Cx.wish]
  simp only [L2.start, List.map_cons, List.map_nil, List.length_cons, List.length_nil, Nat.reduceAdd, Nat.reduceSub, List.replicate_succ, List.replicate_zero, List.cons_append, List.nil_append]
  obtain ⟨hp, hd, ok, has, wd, hn, hk, h⟩ := h
  cases f with
  | name m =>
    have hp : H p = some (.tup [.str "name", .str m]) := hp
    obtain ⟨v, hv⟩ := has m ok
    have hv2 : valV (wkv ws) (Sum.inr m) = some (.int v) := by rw [valV_wkv, hv]; rfl
    have e : spanF ws (.name m) = spanW v := by show spanW ((lookW ws m).getD 1) = _; rw [hv]; rfl
    rw [e] at h
    have := wd m v hv
    walk_at "ws"
    exact ⟨v, rfl, by omega, h⟩
  | num m =>
    have hp : H p = some (.tup [.str "number", .int m]) := hp
    walk_at "ws"
    exact h _ _ (by assumption) (by assumption) (by assumption)
  | turned f =>
    obtain ⟨a, hp, ha⟩ := hp
    have hn : f.size + 1 ≤ n + 1 := hn
    have hk : f.size + 1 ≤ 1000 := hk
    walk_at "ws"
    refine ⟨a, d, f, ws, N, rfl, ha, hd, ok, has, wd, by omega, by omega, fun q1 H1 n1 s1 e1 => ?_⟩
    have hp1 := s1 _ _ hp
    walk_at "ws"
    exact h _ _ (s1.free (by assumption)) (s1.trans (by assumption)) (by assumption)
  | plus f g =>
    obtain ⟨a, b, hp, ha, hb⟩ := hp
    have hn : f.size + g.size + 1 ≤ n + 1 := hn
    have hk : f.size + g.size + 1 ≤ 1000 := hk
    have := f.size_pos
    have := g.size_pos
    walk_at "ws"
    refine ⟨a, d, f, ws, N, rfl, ha, hd, ok.1, has, wd, by omega, by omega, fun q1 H1 n1 s1 e1 => ?_⟩
    have hp1 := s1 _ _ hp
    walk_at "ws"
    refine ⟨b, d, g, ws, N, rfl, hb.same s1, s1 _ _ hd, ok.2, has, wd, by omega, by omega, fun q2 H2 n2 s2 e2 => ?_⟩
    have e12 := s2 _ _ e1
    have hp2 := s2 _ _ hp1
    have s12 := s1.trans s2
    walk_at "ws"
    exact h _ _ (s12.free (by assumption)) (s12.trans (by assumption)) (by assumption)
  | less f g =>
    obtain ⟨a, b, hp, ha, hb⟩ := hp
    have hn : f.size + g.size + 1 ≤ n + 1 := hn
    have hk : f.size + g.size + 1 ≤ 1000 := hk
    have := f.size_pos
    have := g.size_pos
    walk_at "ws"
    refine ⟨a, d, f, ws, N, rfl, ha, hd, ok.1, has, wd, by omega, by omega, fun q1 H1 n1 s1 e1 => ?_⟩
    have hp1 := s1 _ _ hp
    walk_at "ws"
    refine ⟨b, d, g, ws, N, rfl, hb.same s1, s1 _ _ hd, ok.2, has, wd, by omega, by omega, fun q2 H2 n2 s2 e2 => ?_⟩
    have e12 := s2 _ _ e1
    have hp2 := s2 _ _ hp1
    have s12 := s1.trans s2
    walk_at "ws"
    exact h _ _ (s12.free (by assumption)) (s12.trans (by assumption)) (by assumption)
  | times f g =>
    obtain ⟨a, b, hp, ha, hb⟩ := hp
    have hn : f.size + g.size + 1 ≤ n + 1 := hn
    have hk : f.size + g.size + 1 ≤ 1000 := hk
    have := f.size_pos
    have := g.size_pos
    have m1 := span_bd wd ok.1
    have m2 := span_bd wd ok.2
    have i1 := mul_abs m1.1 m2.1 (by omega)
    have i2 := mul_abs m1.1 m2.2 (by omega)
    have i3 := mul_abs m1.2 m2.1 (by omega)
    have i4 := mul_abs m1.2 m2.2 (by omega)
    walk_at "ws"
    refine ⟨a, d, f, ws, N, rfl, ha, hd, ok.1, has, wd, by omega, by omega, fun q1 H1 n1 s1 e1 => ?_⟩
    have hp1 := s1 _ _ hp
    walk_at "ws"
    refine ⟨b, d, g, ws, N, rfl, hb.same s1, s1 _ _ hd, ok.2, has, wd, by omega, by omega, fun q2 H2 n2 s2 e2 => ?_⟩
    have e12 := s2 _ _ e1
    have hp2 := s2 _ _ hp1
    have s12 := s1.trans s2
    walk_at "ws"
    refine w_I i1 ?_
    walk_at "ws"
    refine w_I i2 ?_
    walk_at "ws"
    refine w_I i3 ?_
    walk_at "ws"
    refine w_I i4 ?_
    walk_at "ws"
    rename_i p3 H3 n3 s3 e3
    have e3 : H3 p3 = some (.lst ([(spanF ws f).1 * (spanF ws g).1, (spanF ws f).1 * (spanF ws g).2, (spanF ws f).2 * (spanF ws g).1, (spanF ws f).2 * (spanF ws g).2].map V.int)) := e3
    refine w_minL (SqL.of e3) (Nat.succ_pos _) fun m1 k1 k2 => ?_
    walk_at "ws"
    refine w_maxL (SqL.of e3) (Nat.succ_pos _) fun m2 k3 k4 => ?_
    rw [min_is k1 k2, max_is k3 k4]
    have s13 := s12.trans s3
    walk_at "ws"
    exact h _ _ (s13.free (by assumption)) (s13.trans (by assumption)) (by assumption)
theorem all_span_of (T : Top K mg) : ∀ n : Nat, FnOk P w K mg base CX0 (2 + n) T.a_span_of T.d_span_of ["formula", "widths"] (sp_span_of K n)
  | 0 => T.f_span_of.ok (k := 1) sc_span_of (fun _ _ _ _ h => (no_span_of h).elim) (fun _ _ _ _ _ _ _ _ _ h => (no_span_of h).elim)
  | n + 1 => rec_span_of T n (all_span_of T n)
theorem ok_span_of (T : Top K mg) : FnOk P w K mg base CX0 62 T.a_span_of T.d_span_of ["formula", "widths"] (sp_span_of K 60) := all_span_of T 60
def partsF : Fm → List Fm
  | .name n => [.name n]
  | .num n => [.num n]
  | .turned f => .turned f :: partsF f
  | .plus f g => .plus f g :: (partsF f ++ partsF g)
  | .less f g => .less f g :: (partsF f ++ partsF g)
  | .times f g => .times f g :: (partsF f ++ partsF g)
theorem parts_len : ∀ f : Fm, (partsF f).length = f.size
  | .name n => rfl
  | .num n => rfl
  | .turned f => by show (partsF f).length + 1 = f.size + 1; rw [parts_len f]
  | .plus f g => by show (partsF f ++ partsF g).length + 1 = f.size + g.size + 1; rw [List.length_append, parts_len f, parts_len g]
  | .less f g => by show (partsF f ++ partsF g).length + 1 = f.size + g.size + 1; rw [List.length_append, parts_len f, parts_len g]
  | .times f g => by show (partsF f ++ partsF g).length + 1 = f.size + g.size + 1; rw [List.length_append, parts_len f, parts_len g]
theorem A2.app {α β : Type} {R : α → β → Prop} {xs us : List α} {ys vs : List β} (h : A2 R xs ys) (k : A2 R us vs) : A2 R (xs ++ us) (ys ++ vs) := by
  refine ⟨by rw [List.length_append, List.length_append, h.1, k.1], fun i x y hx hy => ?_⟩
  by_cases c : i < xs.length
  · rw [List.getElem?_append_left c] at hx
    rw [List.getElem?_append_left (by rw [← h.1]; exact c)] at hy
    exact h.2 i x y hx hy
  · rw [List.getElem?_append_right (by omega)] at hx
    rw [List.getElem?_append_right (by rw [← h.1]; omega), ← h.1] at hy
    exact k.2 _ x y hx hy
/-! a formula's own parts -/
def kids : Fm → List Fm
  | .name _ => []
  | .num _ => []
  | .turned f => [f]
  | .plus f g => [f, g]
  | .less f g => [f, g]
  | .times f g => [f, g]
def leafB : Fm → Bool
  | .name _ => true
  | .num _ => true
  | _ => false
theorem leaf_in (f : Fm) : inV (.str (headF f)) [V.str "name", V.str "number"] = leafB f := by
  cases f with
  | name n => show inV (.str "name") [V.str "name", V.str "number"] = true; decide +kernel
  | num n => show inV (.str "number") [V.str "name", V.str "number"] = true; decide +kernel
  | turned f => show inV (.str "turned") [V.str "name", V.str "number"] = false; decide +kernel
  | plus f g => show inV (.str "plus") [V.str "name", V.str "number"] = false; decide +kernel
  | less f g => show inV (.str "less") [V.str "name", V.str "number"] = false; decide +kernel
  | times f g => show inV (.str "times") [V.str "name", V.str "number"] = false; decide +kernel
theorem FmAt.kids {H : Hp} {p : Addr} {f : Fm} (h : FmAt H p f) (hl : leafB f = false) : ∃ ks : List Addr, H p = some (.tup (.str (headF f) :: ks.map V.ref)) ∧ A2 (FmAt H) ks (Dpr.kids f) := by
  cases f with
  | name n => cases hl
  | num n => cases hl
  | turned f => obtain ⟨a, h1, h2⟩ := h; exact ⟨[a], h1, A2.nil.snoc h2⟩
  | plus f g => obtain ⟨a, b, h1, h2, h3⟩ := h; exact ⟨[a, b], h1, (A2.nil.snoc h2).snoc h3⟩
  | less f g => obtain ⟨a, b, h1, h2, h3⟩ := h; exact ⟨[a, b], h1, (A2.nil.snoc h2).snoc h3⟩
  | times f g => obtain ⟨a, b, h1, h2, h3⟩ := h; exact ⟨[a, b], h1, (A2.nil.snoc h2).snoc h3⟩
theorem kid_size {f k : Fm} (h : k ∈ kids f) : k.size < f.size := by
  cases f with
  | name n => cases h
  | num n => cases h
  | turned f => rw [List.mem_singleton.mp h]; exact Nat.lt_succ_self _
  | plus f g => rcases List.mem_cons.mp h with e | e; (rw [e]; show f.size < f.size + g.size + 1; omega); (rw [List.mem_singleton.mp e]; show g.size < f.size + g.size + 1; omega)
  | less f g => rcases List.mem_cons.mp h with e | e; (rw [e]; show f.size < f.size + g.size + 1; omega); (rw [List.mem_singleton.mp e]; show g.size < f.size + g.size + 1; omega)
  | times f g => rcases List.mem_cons.mp h with e | e; (rw [e]; show f.size < f.size + g.size + 1; omega); (rw [List.mem_singleton.mp e]; show g.size < f.size + g.size + 1; omega)
theorem kids_len (f : Fm) : (kids f).length ≤ 2 := by cases f <;> exact Nat.le_of_ble_eq_true rfl
theorem parts_kids (f : Fm) : partsF f = f :: ((kids f).map partsF).flatten := by
  cases f with
  | name n => rfl
  | num n => rfl
  | turned f => show .turned f :: partsF f = .turned f :: (partsF f ++ []); rw [List.append_nil]
  | plus f g => show .plus f g :: (partsF f ++ partsF g) = .plus f g :: (partsF f ++ (partsF g ++ [])); rw [List.append_nil]
  | less f g => show .less f g :: (partsF f ++ partsF g) = .less f g :: (partsF f ++ (partsF g ++ [])); rw [List.append_nil]
  | times f g => show .times f g :: (partsF f ++ partsF g) = .times f g :: (partsF f ++ (partsF g ++ [])); rw [List.append_nil]
def namesF : Fm → List Str
  | .name n => [n]
  | .num _ => []
  | .turned f => namesF f
  | .plus f g => namesF f ++ namesF g
  | .less f g => namesF f ++ namesF g
  | .times f g => namesF f ++ namesF g
theorem names_kids (f : Fm) (hl : leafB f = false) : namesF f = ((kids f).map namesF).flatten := by
  cases f with
  | name n => cases hl
  | num n => cases hl
  | turned f => show namesF f = namesF f ++ []; rw [List.append_nil]
  | plus f g => show namesF f ++ namesF g = namesF f ++ (namesF g ++ []); rw [List.append_nil]
  | less f g => show namesF f ++ namesF g = namesF f ++ (namesF g ++ []); rw [List.append_nil]
  | times f g => show namesF f ++ namesF g = namesF f ++ (namesF g ++ []); rw [List.append_nil]
theorem ok_names {N : Str → Prop} : ∀ {f : Fm}, FmOk N f → FmOk (· ∈ namesF f) f
  | .name n, _ => List.mem_cons_self ..
  | .num n, h => h
  | .turned f, h => ok_names (f := f) h
  | .plus f g, h => ⟨(ok_names h.1).mono fun n m => List.mem_append_left _ m, (ok_names h.2).mono fun n m => List.mem_append_right _ m⟩
  | .less f g, h => ⟨(ok_names h.1).mono fun n m => List.mem_append_left _ m, (ok_names h.2).mono fun n m => List.mem_append_right _ m⟩
  | .times f g, h => ⟨(ok_names h.1).mono fun n m => List.mem_append_left _ m, (ok_names h.2).mono fun n m => List.mem_append_right _ m⟩
theorem name_part {n : Str} : ∀ {f : Fm}, n ∈ namesF f → Fm.name n ∈ partsF f
  | .name m, h => by rw [List.mem_singleton.mp h]; exact List.mem_cons_self ..
  | .num m, h => by cases h
  | .turned f, h => List.mem_cons_of_mem _ (name_part (f := f) h)
  | .plus f g, h => List.mem_cons_of_mem _ (by
    rcases List.mem_append.mp (show n ∈ namesF f ++ namesF g from h) with z | z
    · exact List.mem_append_left _ (name_part z)
    · exact List.mem_append_right _ (name_part z))
  | .less f g, h => List.mem_cons_of_mem _ (by
    rcases List.mem_append.mp (show n ∈ namesF f ++ namesF g from h) with z | z
    · exact List.mem_append_left _ (name_part z)
    · exact List.mem_append_right _ (name_part z))
  | .times f g, h => List.mem_cons_of_mem _ (by
    rcases List.mem_append.mp (show n ∈ namesF f ++ namesF g from h) with z | z
    · exact List.mem_append_left _ (name_part z)
    · exact List.mem_append_right _ (name_part z))
theorem part_name {n : Str} : ∀ {f : Fm}, Fm.name n ∈ partsF f → n ∈ namesF f
  | .name m, h => by
    have e := List.mem_singleton.mp h
    cases e
    exact List.mem_cons_self ..
  | .num m, h => by cases List.mem_singleton.mp h
  | .turned f, h => by
    rcases List.mem_cons.mp (show Fm.name n ∈ .turned f :: partsF f from h) with z | z
    · cases z
    · exact part_name (f := f) z
  | .plus f g, h => by
    rcases List.mem_cons.mp (show Fm.name n ∈ .plus f g :: (partsF f ++ partsF g) from h) with z | z
    · cases z
    · rcases List.mem_append.mp z with z | z
      · exact List.mem_append_left _ (part_name z)
      · exact List.mem_append_right _ (part_name z)
  | .less f g, h => by
    rcases List.mem_cons.mp (show Fm.name n ∈ .less f g :: (partsF f ++ partsF g) from h) with z | z
    · cases z
    · rcases List.mem_append.mp z with z | z
      · exact List.mem_append_left _ (part_name z)
      · exact List.mem_append_right _ (part_name z)
  | .times f g, h => by
    rcases List.mem_cons.mp (show Fm.name n ∈ .times f g :: (partsF f ++ partsF g) from h) with z | z
    · cases z
    · rcases List.mem_append.mp z with z | z
      · exact List.mem_append_left _ (part_name z)
      · exact List.mem_append_right _ (part_name z)
/-! names sought in a dict -/
theorem w_NInS {a : Addr} {ws : List (Str × Int)} {n : Str} {QB : Bool → Hp → Prop} {H : Hp} (e : H a = some (.dK (wkv ws))) (q : QB (lookW ws n).isNone H) : NInB QB (.str n) (.ref a) H := by
  refine ⟨a, (lookW ws n).map V.int, rfl, ?_, _, rfl, ?_⟩
  · have := DGet.k (H := H) (k := Sum.inr n) e
    rw [valV_wkv] at this
    exact this
  · have : (!((lookW ws n).map V.int).isSome) = (lookW ws n).isNone := by cases lookW ws n <;> rfl
    rw [this]
    exact q
/-! all parts, looked at; the circuit -/
def PartsAt (H : Hp) (p : Addr) (fs : List Fm) : Prop := ∃ ps : List Addr, H p = some (.lst (ps.map V.ref)) ∧ A2 (FmAt H) ps fs
theorem PartsAt.same {H H' : Hp} {p : Addr} {fs : List Fm} (h : PartsAt H p fs) (s : Same H H') : PartsAt H' p fs := by
  obtain ⟨ps, h1, h2⟩ := h
  exact ⟨ps, s _ _ h1, h2.mono fun _ _ k => k.same s⟩
theorem PartsAt.lst {H : Hp} {p : Addr} {fs : List Fm} (h : PartsAt H p fs) : ∃ us : List V, H p = some (.lst us) ∧ us.length = fs.length := by
  obtain ⟨ps, h1, h2⟩ := h
  exact ⟨_, h1, by rw [List.length_map, h2.1]⟩
theorem parts_cat {H2 H3 : Hp} {p q l : Addr} {xs ys : List Fm} (h : PartsAt H2 p xs) (k : PartsAt H2 q ys) (s23 : Same H2 H3) {us vs : List V} (e1 : H2 p = some (.lst us)) (e2 : H2 q = some (.lst vs)) (e : H3 l = some (.lst (us ++ vs))) : PartsAt H3 l (xs ++ ys) := by
  obtain ⟨ps, h1, h2⟩ := h
  obtain ⟨qs, k1, k2⟩ := k
  rw [e1] at h1
  rw [e2] at k1
  cases h1
  cases k1
  exact ⟨ps ++ qs, by rw [e, List.map_append], (A2.app h2 k2).mono fun _ _ z => z.same s23⟩
def sp_parts_of (K : PySem.W.Frag) (n : Nat) : Sp := fun vs H Q _ => ∃ (p : Addr) (f : Fm), vs = [.ref p] ∧ FmAt H p f ∧ f.size ≤ n ∧ f.size ≤ 1000 ∧ ∀ q H', H q = none → PartsAt H' q (partsF f) → Same H H' → Q (.ref q) H'
theorem no_parts_of {vs : List V} {H : Hp} {Q : VK} {E : XK} (h : sp_parts_of K 0 vs H Q E) : False := by
  obtain ⟨p, f, _, _, h0, _⟩ := h
  have := f.size_pos
  omega
theorem flat_take {fs : List (List Fm)} {i : Nat} {x : List Fm} (h : fs[i]? = some x) : (fs.take (i + 1)).flatten = (fs.take i).flatten ++ x := by
  rw [take_snoc h, List.flatten_append]
  simp
theorem flat_le {fs : List (List Fm)} (i : Nat) : (fs.take i).flatten.length ≤ fs.flatten.length := by
  have e := List.take_append_drop i fs
  have : fs.flatten.length = (fs.take i).flatten.length + (fs.drop i).flatten.length := by rw [← List.length_append, ← List.flatten_append, e]
  omega
theorem rec_parts_of (T : Top K mg) (n : Nat) (ih : FnOk P w K mg base CX0 (1 + n) T.a_parts_of T.d_parts_of ["formula"] (sp_parts_of K n)) : FnOk P w K mg base CX0 (1 + n + 1) T.a_parts_of T.d_parts_of ["formula"] (sp_parts_of K (n + 1)) := by
  refine T.f_parts_of.ok sc_parts_of (fun vs H Q E h => ?_) (fun cdv A outer s H vs Q E hr h => ?_)
  · obtain ⟨p, f, rfl, _⟩ := h
    rfl
  obtain ⟨p, f, rfl, h⟩ := h
  refine ⟨_, (pss_cons (ps_set (i := 1) sc_parts_of.nd rfl (.inl rfl) (pe_lst (pa_cons (pv 0) pa_nil)))
      (pss_cons (ps_if (pt_cmpR (op_niK K) (pe_ix (ix_tupK K) (pv 0) pe_int (fun _ _ => rfl)) (pe_tup (pa_cons pe_str (pa_cons pe_str pa_nil))) (by rfl)) (pss_one (ps_for PassesOwn.never rfl (pi_tup (pe_slice sl_tup (pv 0) (po_some pe_int) po_none)) (pg_name (i := 2) sc_parts_of.nd rfl (.inl rfl))
      (pss_one (ps_set (i := 1) sc_parts_of.nd rfl (.inl rfl) (pe_op op_cat (pv 1) (pe_call ih hr (by rfl) T.g_parts_of T.f_parts_of.kp T.b_parts_of .nil pass0 (pa_cons (pv 2) pa_nil))))))) pss_nil)
      (pss_one (ps_ret (pv 1))))), ?_⟩
  try dsimp only [cxOf, Cx.nox, Cx.wish]
  simp only [L2.start, List.map_cons, List.map_nil, List.length_cons, List.length_nil, Nat.reduceAdd, Nat.reduceSub, List.replicate_succ, List.replicate_zero, List.cons_append, List.nil_append]
  obtain ⟨hp, hn, hk, h⟩ := h
  obtain ⟨xs, ex⟩ := hp.head
  have hpl := parts_len f
  have hpk := parts_kids f
  walk_at "ws"
  rename_i q1 H1 n1 s1 e1
  have ex1 := s1 _ _ ex
  refine w_ixT (SqT.of ex1) at_0 ?_
  walk_at "ws"
  · rename_i p2 H2 n2 s2 e2 hin l H3 n3 s3 e3
    have hlf : leafB f = false := by rw [leaf_in] at hin; cases hb : leafB f with
      | true => rw [hb] at hin; cases hin
      | false => rfl
    obtain ⟨ks, ek, hA⟩ := hp.kids hlf
    rw [ex] at ek
    cases ek
    have s13 := (s1.trans s2).trans s3
    have hkl := kids_len f
    have lks : (ks.map V.ref).length = (kids f).length := by rw [List.length_map, hA.1]
    have lfl : ((kids f).map partsF).flatten.length + 1 = f.size := by
      rw [← hpl, hpk, List.length_cons]
    refine for_t (ks.map V.ref) (fun i σ' G => ∃ (q : Addr) (y2 : Option V), σ' = [some (.ref p), some (.ref q), y2] ∧ H q = none ∧ Same H G ∧ SqT K G l (ks.map V.ref) ∧ PartsAt G q (f :: (((kids f).map partsF).take i).flatten))
      ⟨q1, _, rfl, n1, s13, SqT.of e3, ⟨[p], s3 _ _ (s2 _ _ e1), A2.nil.snoc (hp.same s13)⟩⟩ (fun i σ' G _ q => ?_) (fun i x σ' G hx q => ?_) (fun σ' G q => ?_)
    · obtain ⟨q, y2, rfl, nq, sG, hT, _⟩ := q
      exact hT
    · obtain ⟨q, y2, rfl, nq, sG, hT, hq⟩ := q
      obtain ⟨pk, hpki, rfl⟩ := get_map hx
      obtain ⟨g, hgi, hg⟩ := hA.get hpki
      have hi := (List.getElem?_eq_some_iff.mp hgi).1
      have gsz := kid_size (List.mem_of_getElem? hgi)
      have hmi : ((kids f).map partsF)[i]? = some (partsF g) := by rw [List.getElem?_map, hgi]; rfl
      have ft := flat_take hmi
      have fl := flat_le (fs := (kids f).map partsF) (i + 1)
      rw [ft, List.length_append] at fl
      walk_at "ws"
      refine ⟨pk, g, rfl, hg.same sG, by omega, by omega, fun q2 G2 nq2 hq2 sG2 => ?_⟩
      have hq' := hq.same sG2
      obtain ⟨us, eu, lu⟩ := hq'.lst
      obtain ⟨vs, ev, lv⟩ := hq2.lst
      rw [List.length_cons] at lu
      walk_at "ws"
      intro q3 G3 n3 s3 e3
      refine ⟨q3, _, rfl, sG.free (sG2.free n3), (sG.trans sG2).trans s3, same_tup s3 (same_tup sG2 hT), ?_⟩
      rw [ft, ← List.cons_append]
      exact parts_cat hq' hq2 s3 eu ev e3
    · obtain ⟨q, y2, rfl, nq, sG, hT, hq⟩ := q
      rw [List.take_of_length_le (by rw [lks, List.length_map]; exact Nat.le_refl _), ← hpk] at hq
      walk_at "ws"
      exact h q G nq hq sG
  · rename_i p2 H2 n2 s2 e2 hin
    have hlf : leafB f = true := by rw [leaf_in] at hin; cases hb : leafB f with
      | true => rfl
      | false => rw [hb] at hin; cases hin
    have e : partsF f = [f] := by
      cases f with
      | name n => rfl
      | num n => rfl
      | _ => cases hlf
    rw [e] at h
    exact h q1 H2 n1 ⟨[p], s2 _ _ e1, A2.nil.snoc (hp.same (s1.trans s2))⟩ (s1.trans s2)
theorem all_parts_of (T : Top K mg) : ∀ n : Nat, FnOk P w K mg base CX0 (1 + n) T.a_parts_of T.d_parts_of ["formula"] (sp_parts_of K n)
  | 0 => T.f_parts_of.ok (k := 0) sc_parts_of (fun _ _ _ _ h => (no_parts_of h).elim) (fun _ _ _ _ _ _ _ _ _ h => (no_parts_of h).elim)
  | n + 1 => rec_parts_of T n (all_parts_of T n)
theorem ok_parts_of (T : Top K mg) : FnOk P w K mg base CX0 32 T.a_parts_of T.d_parts_of ["formula"] (sp_parts_of K 31) := all_parts_of T 31
def HasF (wd : List (Str × Int)) (f : Fm) : Prop := ∀ n ∈ namesF f, ∃ v, lookW wd n = some v
/-! words looked at sign by sign -/
theorem for_s {D : Ends} {σ : L2.St} {H : Hp} {t : TS} {z : Str} {j : Nat} (Pv : Nat → L2.St → Hp → Prop) (h0 : Pv 0 σ H)
    (hs : ∀ (i c : Nat) σ' H', z.cps.toList[i]? = some c → Pv i σ' H' → t { D with nx := Pv (i + 1), ct := Pv (i + 1), bk := D.nx } (σ'.set j (some (.str ⟨#[c]⟩))) H') (hd : ∀ σ' H', Pv z.cps.toList.length σ' H' → D.nx σ' H') : ForB (Its z) (gName j) t D σ H := by
  refine ⟨fun i m σ H => m = z.cps.size - i ∧ i ≤ z.cps.size ∧ Pv i σ H, ⟨z.cps.size, by simp, Nat.zero_le _, h0⟩, ?_⟩
  rintro i m σ H ⟨rfl, hi, p⟩
  by_cases hlt : i < z.cps.size
  · refine .inr ⟨hlt, Pv (i + 1), fun σ' H' p' => ⟨z.cps.size - (i + 1), by omega, rfl, hlt, p'⟩, fun x H' y => ?_⟩
    obtain ⟨e, c, hc, e2⟩ := y
    subst e e2
    exact hs i c σ _ (by rw [Array.getElem?_toList]; exact hc) p
  · refine .inl ⟨Nat.le_of_not_lt hlt, hd σ H ?_⟩
    rw [Array.length_toList, show z.cps.size = i by omega]
    exact p
def onlyB (w s : Str) : Bool := decide ((∀ c ∈ w.cps.toList, c ∈ s.cps.toList) ∧ w.cps.toList ≠ [])
theorem str_nil {w : Str} : V.str w = V.str "" ↔ w.cps.toList = [] := by
  constructor
  · intro e
    injection e with e
    rw [e]
    rfl
  · intro e
    obtain ⟨⟨l⟩⟩ := w
    have e : l = [] := e
    subst e
    rfl
theorem w_iStr {te : TE} {σ : L2.St} {H : Hp} {R : It → Hp → Prop} (h : te σ H fun v H1 => ∃ x, v = .str x ∧ R (Its x) H1) : iStr te σ H R := h
local macro_rules | `(tactic| walk_at "w2") => `(tactic| (with_reducible refine w_iStr ?_))
def sp_only (K : PySem.W.Frag) : Sp := fun vs H Q _ => ∃ (w s : Str), vs = [.str w, .str s] ∧ Q (.bl (onlyB w s)) H
theorem ok_only (T : Top K mg) : FnOk P w K mg base CX0 1 T.a_only T.d_only ["word", "signs"] (sp_only K) := by
  refine T.f_only.ok sc_only (fun vs H Q E h => ?_) (fun cdv A outer s H vs Q E hr h => ?_)
  · obtain ⟨w, s, rfl, _⟩ := h
    rfl
  obtain ⟨w, s, rfl, h⟩ := h
  refine ⟨_, (pss_cons (ps_for PassesOwn.never rfl (pi_str (pv 0)) (pg_name (i := 2) sc_only.nd rfl (.inl rfl))
      (pss_one (ps_if (pt_cmpR op_notIn_sign (pv 2) (pv 1) rfl) (pss_one (ps_ret pe_bl)) pss_nil)))
      (pss_one (ps_ret (pe_cmpR op_ne (pv 0) pe_str (nomark _))))), ?_⟩
  try dsimp only [cxOf, Cx.nox, Cx.wish]
  simp only [L2.start, List.map_cons, List.map_nil, List.length_cons, List.length_nil, Nat.reduceAdd, Nat.reduceSub, List.replicate_succ, List.replicate_zero, List.cons_append, List.nil_append]
  walk_at "ws"
  refine ⟨w, rfl, ?_⟩
  refine for_s (fun i σ' G => ∃ y2 : Option V, σ' = [some (.str w), some (.str s), y2] ∧ G = H ∧ ∀ c ∈ w.cps.toList.take i, c ∈ s.cps.toList) ⟨_, rfl, rfl, fun c z => by rw [List.take_zero] at z; cases z⟩ (fun i c σ' G hc q => ?_) (fun σ' G q => ?_)
  · obtain ⟨y2, rfl, rfl, hall⟩ := q
    walk_at "ws"
    refine ⟨c, s, rfl, rfl, ?_⟩
    by_cases hcs : c ∈ s.cps.toList
    · rw [decide_eq_true hcs]
      refine ⟨_, rfl, ?_⟩
      rw [if_neg (by decide)]
      refine ⟨_, rfl, rfl, fun d hd => ?_⟩
      rw [take_snoc hc] at hd
      rcases List.mem_append.mp hd with z | z
      · exact hall d z
      · rw [List.mem_singleton.mp z]; exact hcs
    · rw [decide_eq_false hcs]
      refine ⟨_, rfl, ?_⟩
      rw [if_pos (by decide)]
      walk_at "ws"
      have e : onlyB w s = false := decide_eq_false fun z => hcs (z.1 c (List.mem_of_getElem? hc))
      rw [← e]
      exact h
  · obtain ⟨y2, rfl, rfl, hall⟩ := q
    rw [List.take_of_length_le (Nat.le_refl _)] at hall
    walk_at "ws"
    have e : (!decide (V.str w = V.str (Str.ofString ""))) = onlyB w s := by
      unfold onlyB
      by_cases hn : w.cps.toList = []
      · rw [decide_eq_true (str_nil.mpr hn), decide_eq_false (fun z => z.2 hn)]
        rfl
      · rw [decide_eq_false (fun z => hn (str_nil.mp z)), decide_eq_true ⟨hall, hn⟩]
        rfl
    rw [e]
    exact h
/-! a line refused, or not -/
def sp_refuse_unless (K : PySem.W.Frag) : Sp := fun vs H Q E => ∃ b : Bool, vs = [.bl b] ∧ (b = true → Q .non H) ∧ (b = false → ∀ C H', IsC K "NoLine" C → Same H H' → E (.ref C) none H')
theorem ok_refuse_unless (T : Top K mg) : FnOk P w K mg base (L2.CX P w) 1 T.a_refuse_unless T.d_refuse_unless ["fine"] (sp_refuse_unless K) := by
  refine T.f_refuse_unless.okX sc_refuse_unless (fun vs H Q E h => ?_) (fun cdv A outer s H vs Q E hr h => ?_)
  · obtain ⟨b, rfl, _⟩ := h
    rfl
  obtain ⟨b, rfl, h⟩ := h
  refine ⟨_, (pss_one (ps_if (pt_not (pt_val (pv 0))) (pss_one (ps_raise rfl (takes_of rfl rfl rfl rfl) (pmk_own PySem.F.excBase_ValueError T.x_NoLine T.gc_NoLine T.kc_NoLine (raises_own T.xb_NoLine T.xt_NoLine) (by rfl)))) pss_nil)), ?_⟩
  try dsimp only [cxOf, Cx.nox, Cx.wish]
  simp only [L2.start, List.map_cons, List.map_nil, List.length_cons, List.length_nil, Nat.reduceAdd, Nat.reduceSub, List.replicate_succ, List.replicate_zero, List.cons_append, List.nil_append]
  obtain ⟨h1, h2⟩ := h
  walk_at "ws"
  · rename_i hb
    exact h2 (by cases b <;> first | rfl | cases hb) _ _ T.nc_NoLine (Same.refl _)
  · rename_i hb
    exact h1 (by cases b <;> first | rfl | cases hb)
/-! words that write a number -/
def numS (v : Int) : Str := ((toString v : String) : Str)
def digs (m : Nat) : List Nat := (Nat.toDigits 10 m).map Char.toNat
theorem num_pos (m : Nat) : (numS (m : Int)).cps.toList = digs m := num_digits m
theorem num_neg (m : Nat) (h : 0 < m) : (numS (-(m : Int))).cps.toList = 45 :: digs m := by
  obtain ⟨k, rfl⟩ : ∃ k, m = k + 1 := ⟨m - 1, by omega⟩
  show (Str.ofString (toString (Int.negSucc k))).cps.toList = 45 :: digs (k + 1)
  rw [signs_ofString]
  show ("-" ++ Nat.repr (k + 1)).toList.map Char.toNat = _
  rw [String.toList_append, List.map_append, Nat.toList_repr]
  rfl
theorem num_cases (v : Int) : (0 ≤ v ∧ (numS v).cps.toList = digs v.natAbs) ∨ (v < 0 ∧ (numS v).cps.toList = 45 :: digs v.natAbs) := by
  by_cases h : 0 ≤ v
  · left
    obtain ⟨m, rfl⟩ := Int.eq_ofNat_of_zero_le h
    exact ⟨h, by rw [Int.natAbs_natCast]; exact num_pos m⟩
  · right
    refine ⟨by omega, ?_⟩
    have e := num_neg v.natAbs (by omega)
    rw [show -((v.natAbs : Nat) : Int) = v by omega] at e
    exact e
theorem digs_all (m : Nat) : PySem.NumText.AllDigits (digs m) := num_all m
theorem digs_ne (m : Nat) : digs m ≠ [] := fun e => by
  have h := num_ne m
  unfold digs at e
  rw [e] at h
  cases h
theorem digs_len {m n : Nat} (h : m < 10 ^ n) (hn : 1 ≤ n) : (digs m).length ≤ n := by
  have h2 : ((toString ((m : Nat) : Int) : String) : Str).length ≤ n := toString_length_le (Int.natCast_nonneg m) hn (by exact_mod_cast h)
  rw [len_cps] at h2
  rw [show (((toString ((m : Nat) : Int) : String) : Str)).cps.toList = digs m from num_digits m] at h2
  exact h2
theorem num_reads {v : Int} (h : v.natAbs < 10 ^ 20) : PySem.intText? (numS v) = some v ∧ (numS v).length ≤ 21 := by
  have hl := digs_len h (by decide)
  have hl2 := len_cps (numS v)
  rcases num_cases v with ⟨h0, e⟩ | ⟨h0, e⟩
  · refine ⟨?_, by rw [hl2, e]; omega⟩
    rw [PySem.intText_digits (by rw [e]; exact digs_all _) (by rw [e]; exact digs_ne _) (by rw [hl2, e]; omega), e]
    unfold digs
    rw [PySem.W.KIN.val_back]
    congr 1
    omega
  · refine ⟨?_, by rw [hl2, e, List.length_cons]; omega⟩
    rw [PySem.intText_neg e (digs_all _) (digs_ne _) (by rw [hl2, e, List.length_cons]; omega)]
    unfold digs
    rw [PySem.W.KIN.val_back]
    congr 1
    omega
theorem digs_head {m : Nat} (h : 1 ≤ m) : ∃ c r, digs m = c :: r ∧ c ≠ 48 := by
  unfold digs
  cases hd : Nat.toDigits 10 m with
  | nil => exact absurd (by unfold digs; rw [hd]; rfl) (digs_ne m)
  | cons c r =>
    refine ⟨c.toNat, r.map Char.toNat, rfl, fun z => ?_⟩
    exact dig_head m h c (by rw [hd]; rfl) (Char.toNat_inj.mp (z.trans (show 48 = ('0' : Char).toNat from rfl)))
theorem str_eqL {a b : Str} : V.str a = V.str b ↔ a.cps.toList = b.cps.toList := by
  constructor
  · intro e
    injection e with e
    rw [e]
  · intro e
    obtain ⟨⟨l⟩⟩ := a
    obtain ⟨⟨r⟩⟩ := b
    have e : l = r := e
    subst e
    rfl
theorem cut_one (z : Str) : (cutS z none (some 1)).cps.toList = z.cps.toList.take 1 := by
  unfold cutS
  rw [show (some (1 : Int)) = some ((1 : Nat) : Int) from rfl, HT.sIx_nat]
  have hl := len_cps z
  show (z.cps.toList.drop 0).take (min 1 z.length - 0) = _
  rw [List.drop_zero, Nat.sub_zero]
  rcases Nat.lt_or_ge 0 z.length with h | h
  · rw [Nat.min_eq_left (by omega)]
  · rw [Nat.min_eq_right (by omega), List.take_of_length_le (by omega), List.take_of_length_le (by omega)]
theorem cut_rest (z : Str) : (cutS z (some 1) none).cps.toList = z.cps.toList.drop 1 := by
  unfold cutS
  rw [show (some (1 : Int)) = some ((1 : Nat) : Int) from rfl, HT.sIx_nat]
  have hl := len_cps z
  show (z.cps.toList.drop (min 1 z.length)).take (z.length - min 1 z.length) = _
  rcases Nat.lt_or_ge 0 z.length with h | h
  · rw [Nat.min_eq_left (by omega), List.take_of_length_le (by rw [List.length_drop]; omega)]
  · rw [Nat.min_eq_right (by omega), List.drop_of_length_le (by omega), List.drop_of_length_le (by omega), List.take_nil]
theorem only_digs {fg : Str} {m : Nat} (h : fg.cps.toList = digs m) : onlyB fg "0123456789" = true := by
  refine decide_eq_true ⟨fun c hc => ?_, by rw [h]; exact digs_ne m⟩
  rw [h] at hc
  have e : (Str.ofString "0123456789").cps.toList = figL := by decide +kernel
  show c ∈ (Str.ofString "0123456789").cps.toList
  rw [e]
  exact fig_iff.mpr (digs_all m c hc)
def sp_number_in (K : PySem.W.Frag) : Sp := fun vs H Q _ => ∃ v : Int, vs = [.str (numS v)] ∧ v.natAbs < 10 ^ 20 ∧ Q (.int v) H
theorem ok_number_in (T : Top K mg) : FnOk P w K mg base (L2.CX P w) 2 T.a_number_in T.d_number_in ["word"] (sp_number_in K) := by
  refine T.f_number_in.okX sc_number_in (fun vs H Q E h => ?_) (fun cdv A outer s H vs Q E hr h => ?_)
  · obtain ⟨v, rfl, _⟩ := h
    rfl
  obtain ⟨v, rfl, h⟩ := h
  refine ⟨_, (pss_cons (ps_set (i := 1) sc_number_in.nd rfl (.inl rfl) (pv 0))
      (Evl.pss_cut (ps_if (pt_cmpR op_eq (pe_slice sl_str (pv 0) po_none (po_some pe_int)) pe_str (nomark _)) (pss_one (ps_set (i := 1) sc_number_in.nd rfl (.inl rfl) (pe_slice sl_str (pv 0) (po_some pe_int) po_none))) pss_nil)
      (pss_cons (ps_expr (pe_call (ok_refuse_unless T) (hr.mono (by decide)) (by rfl) T.g_refuse_unless T.f_refuse_unless.kp T.b_refuse_unless .nil (passes_call (takes_of rfl rfl rfl rfl) (fun _ _ _ _ z => z)) (pa_cons (pe_and (pe_call (ok_only T) (hr.mono (by decide)) (by rfl) T.g_only T.f_only.kp T.b_only .nil pass0 (pa_cons (pv 1) (pa_cons (pe_glob (v := V.str "0123456789") (by rfl) T.g_FIGURES_lines ⟨_, rfl⟩) pa_nil))) (pe_one (pe_cmpR op_lt (pe_callB c_lenS (by rfl) T.z_len PySem.boot_len (pa_cons (pv 1) pa_nil)) pe_int (nomark _)))) pa_nil)))
      (pss_cons (ps_expr (pe_call (ok_refuse_unless T) (hr.mono (by decide)) (by rfl) T.g_refuse_unless T.f_refuse_unless.kp T.b_refuse_unless .nil (passes_call (takes_of rfl rfl rfl rfl) (fun _ _ _ _ z => z)) (pa_cons (pe_or (pe_cmpR op_eq (pv 0) pe_str (nomark _)) (pe_one (pe_cmpR op_ne (pe_ix ix_str (pv 1) pe_int (fun _ _ => rfl)) pe_str (nomark _)))) pa_nil)))
      (pss_one (ps_ret (pe_callTy c_intS (by rfl) T.z_int (by decide +kernel) (pa_cons (pv 0) pa_nil)))))))), ?_⟩
  try dsimp only [cxOf, Cx.nox, Cx.wish]
  simp only [L2.start, List.map_cons, List.map_nil, List.length_cons, List.length_nil, Nat.reduceAdd, Nat.reduceSub, List.replicate_succ, List.replicate_zero, List.cons_append, List.nil_append]
  obtain ⟨hv, h⟩ := h
  obtain ⟨hr, hrl⟩ := num_reads hv
  have hl := digs_len hv (by decide)
  have hm1 : (Str.ofString "-").cps.toList = [45] := by decide +kernel
  have h0s : (Str.ofString "0").cps.toList = [48] := by decide +kernel
  walk_at "ws"
  refine w_cut (fun σ' G => ∃ fg : Str, σ' = [some (.str (numS v)), some (.str fg)] ∧ G = H ∧ fg.cps.toList = digs v.natAbs) ?_ fun σ' G k => ?_
  · walk_at "ws"
    refine w_slS (by omega) ?_
    rcases num_cases v with ⟨h0, e⟩ | ⟨h0, e⟩
    · have ne : ¬ V.str (cutS (numS v) none (some 1)) = V.str "-" := fun z => by
        have z := str_eqL.mp z
        rw [cut_one, e] at z
        have z : (digs v.natAbs).take 1 = [45] := z.trans hm1
        cases hd : digs v.natAbs with
        | nil => exact digs_ne _ hd
        | cons c r =>
          rw [hd] at z
          have hc := digs_all v.natAbs c (by rw [hd]; exact List.mem_cons_self ..)
          cases z
          omega
      walk_at "ws"
      · rename_i z
        exact absurd (congrArg V.str z) ne
      · exact ⟨numS v, rfl, rfl, e⟩
    · have eq : V.str (cutS (numS v) none (some 1)) = V.str "-" := str_eqL.mpr (by
        rw [cut_one, e]
        exact hm1.symm)
      walk_at "ws"
      · refine w_slS (by omega) ?_
        exact ⟨_, rfl, rfl, by rw [cut_rest, e]; rfl⟩
      · rename_i z
        exact absurd (V.str.inj eq) z
  obtain ⟨fg, rfl, rfl, hfg⟩ := k
  have hfl : fg.length ≤ 20 := by rw [len_cps, hfg]; exact hl
  walk_at "ws"
  refine ⟨fg, _, rfl, ?_⟩
  rw [only_digs hfg]
  walk_at "ws"
  rw [decide_eq_true (show ((fg.length : Nat) : Int) < 21 by omega)]
  refine ⟨true, rfl, fun _ => ?_, fun z => by cases z⟩
  walk_at "ws"
  · refine ⟨true, rfl, fun _ => ?_, fun z => by cases z⟩
    walk_at "ws"
    exact w_intS hr (by omega) h
  · rename_i hne0
    have hv1 : 1 ≤ v.natAbs := by
      rcases Nat.eq_zero_or_pos v.natAbs with z | z
      · exfalso
        have hv0 : v = 0 := by omega
        refine hne0 (V.str.inj (str_eqL.mpr ?_))
        rw [hv0, h0s]
        decide +kernel
      · exact z
    obtain ⟨c, r, hcr, hc48⟩ := digs_head hv1
    have hat : atI fg.cps.toList 0 = some c := by rw [hfg, hcr]; exact atI_nat (j := 0) rfl
    refine w_ixS (by omega) hat ?_
    have hne : V.str ⟨#[c]⟩ ≠ V.str "0" := fun z => by
      have z := str_eqL.mp z
      have z : [c] = [48] := z.trans h0s
      cases z
      exact hc48 rfl
    walk_at "ws"
    rw [decide_eq_false hne]
    refine ⟨true, rfl, fun _ => ?_, fun z => by cases z⟩
    walk_at "ws"
    exact w_intS hr (by omega) h
/-! a name, a width, a line of the desk -/
def sp_name_in (K : PySem.W.Frag) : Sp := fun vs H Q _ => ∃ w : Str, vs = [.str w] ∧ NameOk w ∧ Q (.str w) H
theorem only_name {w : Str} (h : NameOk w) : onlyB w "abcdefghijklmnopqrstuvwxyz" = true := by
  refine decide_eq_true ⟨fun c hc => ?_, fun z => ?_⟩
  · have e : (Str.ofString "abcdefghijklmnopqrstuvwxyz").cps.toList = smallL := by decide +kernel
    show c ∈ (Str.ofString "abcdefghijklmnopqrstuvwxyz").cps.toList
    rw [e]
    have := h.2 c hc
    unfold letter at this
    exact small_iff.mpr (by omega)
  · have := h.1.1
    rw [len_cps, z] at this
    cases this
theorem ok_name_in (T : Top K mg) : FnOk P w K mg base (L2.CX P w) 2 T.a_name_in T.d_name_in ["word"] (sp_name_in K) := by
  refine T.f_name_in.okX sc_name_in (fun vs H Q E h => ?_) (fun cdv A outer s H vs Q E hr h => ?_)
  · obtain ⟨w, rfl, _⟩ := h
    rfl
  obtain ⟨w, rfl, h⟩ := h
  refine ⟨_, (pss_cons (ps_expr (pe_call (ok_refuse_unless T) (hr.mono (by decide)) (by rfl) T.g_refuse_unless T.f_refuse_unless.kp T.b_refuse_unless .nil (passes_call (takes_of rfl rfl rfl rfl) (fun _ _ _ _ z => z)) (pa_cons (pe_and (pe_call (ok_only T) (hr.mono (by decide)) (by rfl) T.g_only T.f_only.kp T.b_only .nil pass0 (pa_cons (pv 0) (pa_cons (pe_glob (v := V.str "abcdefghijklmnopqrstuvwxyz") (by rfl) T.g_SMALL_lines ⟨_, rfl⟩) pa_nil))) (pe_one (pe_cmpR op_lt (pe_callB c_lenS (by rfl) T.z_len PySem.boot_len (pa_cons (pv 0) pa_nil)) pe_int (nomark _)))) pa_nil)))
      (pss_one (ps_ret (pv 0)))), ?_⟩
  try dsimp only [cxOf, Cx.nox, Cx.wish]
  simp only [L2.start, List.map_cons, List.map_nil, List.length_cons, List.length_nil, Nat.reduceAdd, Nat.reduceSub, List.replicate_succ, List.replicate_zero, List.cons_append, List.nil_append]
  obtain ⟨hw, h⟩ := h
  have hl := hw.1.2
  walk_at "ws"
  refine ⟨w, _, rfl, ?_⟩
  rw [only_name hw]
  walk_at "ws"
  rw [decide_eq_true (show ((w.length : Nat) : Int) < 7 by omega)]
  refine ⟨true, rfl, fun _ => ?_, fun z => by cases z⟩
  walk_at "ws"
  exact h
def sp_width_line (K : PySem.W.Frag) : Sp := fun vs H Q _ => ∃ (a : Addr) (n : Str) (v : Int), vs = [.ref a] ∧ SqL K H a [.str n, .str (numS v)] ∧ NameOk n ∧ (v ≠ 0 ∧ -24 ≤ v ∧ v ≤ 24) ∧ ∀ p H', H p = none → Same H H' → H' p = some (.tup [.str n, .int v]) → Q (.ref p) H'
theorem ok_width_line (T : Top K mg) : FnOk P w K mg base (L2.CX P w) 3 T.a_width_line T.d_width_line ["words"] (sp_width_line K) := by
  refine T.f_width_line.okX sc_width_line (fun vs H Q E h => ?_) (fun cdv A outer s H vs Q E hr h => ?_)
  · obtain ⟨a, n, v, rfl, _⟩ := h
    rfl
  obtain ⟨a, n, v, rfl, h⟩ := h
  refine ⟨_, (pss_cons (ps_expr (pe_call (ok_refuse_unless T) (hr.mono (by decide)) (by rfl) T.g_refuse_unless T.f_refuse_unless.kp T.b_refuse_unless .nil (passes_call (takes_of rfl rfl rfl rfl) (fun _ _ _ _ z => z)) (pa_cons (pe_cmpR op_eq (pe_callB (c_lenK K) (by rfl) T.z_len PySem.boot_len (pa_cons (pv 0) pa_nil)) pe_int (nomark _)) pa_nil)))
      (pss_cons (ps_set (i := 1) sc_width_line.nd rfl (.inl rfl) (pe_call (ok_name_in T) (hr.mono (by decide)) (by rfl) T.g_name_in T.f_name_in.kp T.b_name_in .nil (passes_call (takes_of rfl rfl rfl rfl) (fun _ _ _ _ z => z)) (pa_cons (pe_ix (ix_listK K) (pv 0) pe_int (fun _ _ => rfl)) pa_nil)))
      (pss_cons (ps_set (i := 2) sc_width_line.nd rfl (.inl rfl) (pe_call (ok_number_in T) (hr.mono (by decide)) (by rfl) T.g_number_in T.f_number_in.kp T.b_number_in .nil (passes_call (takes_of rfl rfl rfl rfl) (fun _ _ _ _ z => z)) (pa_cons (pe_ix (ix_listK K) (pv 0) pe_int (fun _ _ => rfl)) pa_nil)))
      (pss_cons (ps_expr (pe_call (ok_refuse_unless T) (hr.mono (by decide)) (by rfl) T.g_refuse_unless T.f_refuse_unless.kp T.b_refuse_unless .nil (passes_call (takes_of rfl rfl rfl rfl) (fun _ _ _ _ z => z)) (pa_cons (pe_and (pe_cmpR op_ne (pv 2) pe_int (nomark _)) (pe_one (pe_chain op_lt op_lt (pe_un un_neg pe_int) (pv 2) pe_int))) pa_nil)))
      (pss_one (ps_ret (pe_tup (pa_cons (pv 1) (pa_cons (pv 2) pa_nil))))))))), ?_⟩
  try dsimp only [cxOf, Cx.nox, Cx.wish]
  simp only [L2.start, List.map_cons, List.map_nil, List.length_cons, List.length_nil, Nat.reduceAdd, Nat.reduceSub, List.replicate_succ, List.replicate_zero, List.cons_append, List.nil_append]
  obtain ⟨hS, hn, hv, h⟩ := h
  have hx0 : atI [V.str n, V.str (numS v)] 0 = some (.str n) := rfl
  have hx1 : atI [V.str n, V.str (numS v)] 1 = some (.str (numS v)) := rfl
  have hp : v.natAbs < 10 ^ 20 := Nat.lt_of_le_of_lt (show v.natAbs ≤ 24 by omega) (by decide)
  walk_at "ws"
  rw [decide_eq_true rfl]
  refine ⟨true, rfl, fun _ => ?_, fun z => by cases z⟩
  walk_at "ws"
  refine ⟨n, rfl, hn, ?_⟩
  walk_at "ws"
  refine ⟨v, rfl, hp, ?_⟩
  walk_at "ws"
  rw [decide_eq_true (show v < 25 by omega)]
  refine ⟨true, rfl, fun _ => ?_, fun z => by cases z⟩
  walk_at "ws"
  all_goals first | (rename_i p H1 n1 s1 e1; exact h p H1 n1 s1 e1) | (exfalso; omega) | skip
def sp_numbers_in (K : PySem.W.Frag) : Sp := fun _ _ _ _ => False
theorem ok_numbers_in (T : Top K mg) : FnOk P w K mg base (L2.CX P w) 1 T.a_numbers_in T.d_numbers_in ["words"] (sp_numbers_in K) :=
  T.f_numbers_in.okX (k := 0) sc_numbers_in (fun _ _ _ _ h => h.elim) (fun _ _ _ _ _ _ _ _ _ h => h.elim)
def sp_ask_line (K : PySem.W.Frag) : Sp := fun _ _ _ _ => False
theorem ok_ask_line (T : Top K mg) : FnOk P w K mg base (L2.CX P w) 1 T.a_ask_line T.d_ask_line ["words"] (sp_ask_line K) :=
  T.f_ask_line.okX (k := 0) sc_ask_line (fun _ _ _ _ h => h.elim) (fun _ _ _ _ _ _ _ _ _ h => h.elim)
theorem split_sp {parts : List Str} (hne : parts ≠ []) (hp : ∀ p ∈ parts, 32 ∉ p.cps.toList) : Txt.split (Txt.join " " parts) " " = parts :=
  TL.split_join (y := " ") (s := 32) (S := []) (by decide +kernel) (by decide +kernel) hne hp
theorem inV_strs {x : Str} : ∀ {ys : List Str}, inV (.str x) (ys.map V.str) = decide (x ∈ ys)
  | [] => (decide_eq_false (fun z => by cases z)).symm
  | y :: ys => by
    have ih := inV_strs (x := x) (ys := ys)
    unfold inV at *
    rw [List.map_cons, List.any_cons, ih]
    have e : eqV (.str y) (.str x) = decide (y = x) := by
      show (y == x) = decide (y = x)
      by_cases c : y = x
      · rw [decide_eq_true c, c]; exact beq_self_eq_true _
      · rw [decide_eq_false c]; exact beq_eq_false_iff_ne.mpr c
    rw [e, ← Bool.decide_or]
    congr 1
    simp only [List.mem_cons, eq_comm]
def sp_line_read (K : PySem.W.Frag) : Sp := fun vs H Q _ => ∃ z : Str, vs = [.str z] ∧ z.length ≤ 100000 ∧
  ((∃ (n : Str) (v : Int), z = Txt.join " " ["width", n, numS v] ∧ NameOk n ∧ (v ≠ 0 ∧ -24 ≤ v ∧ v ≤ 24) ∧ ∀ p q H', H' p = some (.tup [.str "width", .ref q]) → H' q = some (.tup [.str n, .int v]) → Same H H' → Q (.ref p) H') ∨
   ∃ w t : Str, z = Txt.join " " [w, t] ∧ (w = "make" ∨ w = "span" ∨ w = "show") ∧ 32 ∉ t.cps.toList ∧ t.cps.toList ≠ [] ∧ ∀ p H', H' p = some (.tup [.str w, .str t]) → Same H H' → Q (.ref p) H')
theorem ok_line_read (T : Top K mg) : FnOk P w K mg base (L2.CX P w) 4 T.a_line_read T.d_line_read ["line"] (sp_line_read K) := by
  refine T.f_line_read.okX sc_line_read (fun vs H Q E h => ?_) (fun cdv A outer s H vs Q E hr h => ?_)
  · obtain ⟨z, rfl, _⟩ := h
    rfl
  obtain ⟨z, rfl, h⟩ := h
  refine ⟨_, (pss_cons (ps_set (i := 1) sc_line_read.nd rfl (.inl rfl) (pe_split (pv 0) pe_str))
      (pss_cons (ps_expr (pe_call (ok_refuse_unless T) (hr.mono (by decide)) (by rfl) T.g_refuse_unless T.f_refuse_unless.kp T.b_refuse_unless .nil (passes_call (takes_of rfl rfl rfl rfl) (fun _ _ _ _ z => z)) (pa_cons (pe_cmpR (op_niK K) pe_str (pv 1) (by rfl)) pa_nil)))
      (pss_cons (ps_set (i := 2) sc_line_read.nd rfl (.inl rfl) (pe_ix (ix_listK K) (pv 1) pe_int (fun _ _ => rfl)))
      (pss_cons (ps_if (pt_cmpR op_eq (pv 2) pe_str (nomark _)) (pss_one (ps_ret (pe_tup (pa_cons (pv 2) (pa_cons (pe_call (ok_width_line T) (hr.mono (by decide)) (by rfl) T.g_width_line T.f_width_line.kp T.b_width_line .nil (passes_call (takes_of rfl rfl rfl rfl) (fun _ _ _ _ z => z)) (pa_cons (pe_slice sl_list (pv 1) (po_some pe_int) po_none) pa_nil)) pa_nil))))) pss_nil)
      (pss_cons (ps_if (PW.pt (pw_and (pt_cmpR op_eq (pv 2) pe_str (nomark _)) (pw_and1 (pt_cmpR (op_eqD hr.units) (pe_slice sl_list (pv 1) (po_some pe_int) po_none) (pe_lst (pa_cons pe_str pa_nil)) (nomark _))))) (pss_one (ps_ret (pe_tup (pa_cons (pv 2) (pa_cons pe_non pa_nil))))) pss_nil)
      (pss_cons (ps_if (pt_cmpR (op_inK K) (pv 2) (pe_tup (pa_cons pe_str (pa_cons pe_str pa_nil))) (by rfl)) (pss_one (ps_ret (pe_tup (pa_cons (pv 2) (pa_cons (pe_call (ok_numbers_in T) (hr.mono (by decide)) (by rfl) T.g_numbers_in T.f_numbers_in.kp T.b_numbers_in .nil (passes_call (takes_of rfl rfl rfl rfl) (fun _ _ _ _ z => z)) (pa_cons (pe_slice sl_list (pv 1) (po_some pe_int) po_none) pa_nil)) pa_nil))))) pss_nil)
      (pss_cons (ps_if (pt_cmpR op_eq (pv 2) pe_str (nomark _)) (pss_one (ps_ret (pe_tup (pa_cons (pv 2) (pa_cons (pe_call (ok_ask_line T) (hr.mono (by decide)) (by rfl) T.g_ask_line T.f_ask_line.kp T.b_ask_line .nil (passes_call (takes_of rfl rfl rfl rfl) (fun _ _ _ _ z => z)) (pa_cons (pe_slice sl_list (pv 1) (po_some pe_int) po_none) pa_nil)) pa_nil))))) pss_nil)
      (pss_cons (ps_expr (pe_call (ok_refuse_unless T) (hr.mono (by decide)) (by rfl) T.g_refuse_unless T.f_refuse_unless.kp T.b_refuse_unless .nil (passes_call (takes_of rfl rfl rfl rfl) (fun _ _ _ _ z => z)) (pa_cons (pe_and (pe_cmpR (op_inK K) (pv 2) (pe_tup (pa_cons pe_str (pa_cons pe_str (pa_cons pe_str pa_nil)))) (by rfl)) (pe_one (pe_cmpR op_eq (pe_callB (c_lenK K) (by rfl) T.z_len PySem.boot_len (pa_cons (pv 1) pa_nil)) pe_int (nomark _)))) pa_nil)))
      (pss_one (ps_ret (pe_tup (pa_cons (pv 2) (pa_cons (pe_ix (ix_listK K) (pv 1) pe_int (fun _ _ => rfl)) pa_nil))))))))))))), ?_⟩
  try dsimp only [cxOf, Cx.nox, Cx.wish]
  simp only [L2.start, List.map_cons, List.map_nil, List.length_cons, List.length_nil, Nat.reduceAdd, Nat.reduceSub, List.replicate_succ, List.replicate_zero, List.cons_append, List.nil_append]
  obtain ⟨hzl, h⟩ := h
  walk_at "ws"
  have hsz : z.length + 2 ≤ sizeLine := Nat.le_trans (show z.length + 2 ≤ 1000000 by omega) (by rw [sizeLine_eq]; decide)
  refine ⟨z, " ", rfl, rfl, by decide +kernel, hsz, ?_⟩
  have sp : ∀ x : Str, NameOk x → 32 ∉ x.cps.toList := fun x hx z => by have := hx.2 32 z; unfold letter at this; omega
  have sn : ∀ v : Int, 32 ∉ (numS v).cps.toList := fun v z => by
    rcases num_cases v with ⟨_, e⟩ | ⟨_, e⟩
    · rw [e] at z
      have := digs_all _ _ z
      omega
    · rw [e] at z
      rcases List.mem_cons.mp z with q | q
      · cases q
      · have := digs_all _ _ q
        omega
  rcases h with ⟨n, v, rfl, hn, hv, h⟩ | ⟨w, t, rfl, hw, ht, hte, h⟩
  · rw [split_sp (by intro z; cases z) (fun p hp => by
      rcases List.mem_cons.mp hp with z | z
      · rw [z]; decide +kernel
      · rcases List.mem_cons.mp z with z | z
        · rw [z]; exact sp n hn
        · rw [List.mem_singleton.mp z]; exact sn v)]
    intro pl np
    have s1 : Same H (upd H pl (.lst ([("width" : Str), n, numS v].map V.str))) := same_upd np
    have e1 : (upd H pl (.lst ([("width" : Str), n, numS v].map V.str))) pl = some (.lst [.str "width", .str n, .str (numS v)]) := upd_same
    generalize upd H pl (.lst ([("width" : Str), n, numS v].map V.str)) = H1 at *
    walk_at "ws"
    have ni : inV (V.str "") [V.str "width", V.str n, V.str (numS v)] = false := by
      rw [show ([V.str "width", V.str n, V.str (numS v)] : List V) = [("width" : Str), n, numS v].map V.str from rfl, inV_strs]
      refine decide_eq_false fun z => ?_
      have key : ∀ x : Str, x.cps.toList ≠ [] → ("" : Str) ≠ x := fun x hx q => hx (by rw [← q]; rfl)
      rcases List.mem_cons.mp z with z | z
      · exact absurd z (by decide +kernel)
      · rcases List.mem_cons.mp z with z | z
        · exact key n (fun q => by have := hn.1.1; rw [len_cps, q] at this; cases this) z
        · refine key (numS v) (fun q => ?_) (List.mem_singleton.mp z)
          rcases num_cases v with ⟨_, e⟩ | ⟨_, e⟩
          · rw [q] at e; exact digs_ne _ e.symm
          · rw [q] at e; cases e
    rw [ni]
    refine ⟨true, rfl, fun _ => ?_, fun z => by cases z⟩
    walk_at "ws"
    rename_i l H2 n2 s2 e2
    have e2 : H2 l = some (.lst [.str n, .str (numS v)]) := e2
    refine ⟨l, n, v, rfl, SqL.of e2, hn, hv, fun q H3 n3 s3 e3 => ?_⟩
    walk_at "ws"
    rename_i p H4 n4 s4 e4
    exact h p q H4 e4 (s4 _ _ e3) (((s1.trans s2).trans s3).trans s4)
  · rw [split_sp (by intro z; cases z) (fun p hp => by
      rcases List.mem_cons.mp hp with z | z
      · rw [z]; rcases hw with rfl | rfl | rfl <;> decide +kernel
      · rw [List.mem_singleton.mp z]; exact ht)]
    intro pl np
    have s1 : Same H (upd H pl (.lst ([w, t].map V.str))) := same_upd np
    have e1 : (upd H pl (.lst ([w, t].map V.str))) pl = some (.lst [.str w, .str t]) := upd_same
    generalize upd H pl (.lst ([w, t].map V.str)) = H1 at *
    walk_at "ws"
    have ni : inV (V.str "") [V.str w, V.str t] = false := by
      rw [show ([V.str w, V.str t] : List V) = [w, t].map V.str from rfl, inV_strs]
      refine decide_eq_false fun z => ?_
      rcases List.mem_cons.mp z with z | z
      · rcases hw with rfl | rfl | rfl <;> exact absurd z (by decide +kernel)
      · exact hte (by rw [← List.mem_singleton.mp z]; rfl)
    rw [ni]
    refine ⟨true, rfl, fun _ => ?_, fun z => by cases z⟩
    have w1 : w ≠ "width" := by rcases hw with rfl | rfl | rfl <;> decide +kernel
    have w2 : w ≠ "order" := by rcases hw with rfl | rfl | rfl <;> decide +kernel
    have w3 : w ≠ "splits" := by rcases hw with rfl | rfl | rfl <;> decide +kernel
    have w4 : w ≠ "ask" := by rcases hw with rfl | rfl | rfl <;> decide +kernel
    have nin : inV (V.str w) [V.str "order", V.str "splits"] = false := by
      rw [show ([V.str "order", V.str "splits"] : List V) = [("order" : Str), "splits"].map V.str from rfl, inV_strs]
      refine decide_eq_false fun z => ?_
      rcases List.mem_cons.mp z with z | z
      · exact w2 z
      · exact w3 (List.mem_singleton.mp z)
    have yin : inV (V.str w) [V.str "make", V.str "span", V.str "show"] = true := by
      rw [show ([V.str "make", V.str "span", V.str "show"] : List V) = [("make" : Str), "span", "show"].map V.str from rfl, inV_strs]
      refine decide_eq_true ?_
      rcases hw with rfl | rfl | rfl
      · exact List.mem_cons_self ..
      · exact List.mem_cons_of_mem _ (List.mem_cons_self ..)
      · exact List.mem_cons_of_mem _ (List.mem_cons_of_mem _ (List.mem_cons_self ..))
    walk_at "ws"
    · exact absurd (by assumption) w1
    · exact absurd (by assumption) w2
    · exact absurd (nin.symm.trans ‹inV (V.str w) [V.str "order", V.str "splits"] = true›) (by decide)
    · exact absurd ‹w = "ask"› w4
    · rename_i p3 H3 n3 s3 e3 hin3 wn p4 H4 n4 s4 e4 hin4
      rw [decide_eq_true rfl]
      refine ⟨true, rfl, fun _ => ?_, fun z => by cases z⟩
      have e14 := s4 _ _ (s3 _ _ e1)
      have hx1 : atI [V.str w, V.str t] 1 = some (.str t) := rfl
      walk_at "ws"
      rename_i p5 H5 n5 s5 e5
      exact h p5 H5 e5 (((s1.trans s3).trans s4).trans s5)
    · exact absurd (yin.symm.trans ‹inV (V.str w) [V.str "make", V.str "span", V.str "show"] = false›) (by decide)
/-! the names of a formula, each once; its span as a text -/
theorem numS_len {v : Int} {n : Nat} (hn : 1 ≤ n) (h : v.natAbs < 10 ^ n) : (numS v).length ≤ n + 1 := by
  have hl := digs_len h hn
  have hl2 := len_cps (numS v)
  rcases num_cases v with ⟨h0, e⟩ | ⟨h0, e⟩
  · rw [hl2, e]
    omega
  · rw [hl2, e, List.length_cons]
    omega
def sp_names_of (K : PySem.W.Frag) : Sp := fun vs H Q _ => ∃ (p : Addr) (f : Fm), vs = [.ref p] ∧ FmAt H p f ∧ f.size ≤ 31 ∧ ∀ (ns : List Str) q H', H q = none → Same H H' → H' q = some (.lst (ns.map V.str)) → (∀ x, x ∈ ns ↔ x ∈ namesF f) → ns.length ≤ f.size → Q (.ref q) H'
theorem ok_names_of (T : Top K mg) : FnOk P w K mg base CX0 33 T.a_names_of T.d_names_of ["formula"] (sp_names_of K) := by
  refine T.f_names_of.ok sc_names_of (fun vs H Q E h => ?_) (fun cdv A outer s H vs Q E hr h => ?_)
  · obtain ⟨p, f, rfl, _⟩ := h
    rfl
  obtain ⟨p, f, rfl, h⟩ := h
  refine ⟨_, (pss_cons (ps_set (i := 1) sc_names_of.nd rfl (.inl rfl) (pe_lst pa_nil))
      (pss_cons (ps_for PassesOwn.never rfl (pi_list (pe_call (ok_parts_of T) (hr.mono (by decide)) (by rfl) T.g_parts_of T.f_parts_of.kp T.b_parts_of .nil pass0 (pa_cons (pv 0) pa_nil))) (pg_name (i := 2) sc_names_of.nd rfl (.inl rfl))
      (pss_one (ps_if (PW.pt (pw_and (pt_cmpR op_eq (pe_ix (ix_tupK K) (pv 2) pe_int (fun _ _ => rfl)) pe_str (nomark _)) (pw_and1 (pt_cmpR (op_niK K) (pe_ix (ix_tupK K) (pv 2) pe_int (fun _ _ => rfl)) (pv 1) (by rfl))))) (pss_one (ps_expr (pe_bm PySem.F.plainAttrs_list PySem.F.slot_list_append PySem.F.type_list_append mt_append (pv 1) (pa_cons (pe_ix (ix_tupK K) (pv 2) pe_int (fun _ _ => rfl)) pa_nil)))) pss_nil)))
      (pss_one (ps_ret (pv 1))))), ?_⟩
  try dsimp only [cxOf, Cx.nox, Cx.wish]
  simp only [L2.start, List.map_cons, List.map_nil, List.length_cons, List.length_nil, Nat.reduceAdd, Nat.reduceSub, List.replicate_succ, List.replicate_zero, List.cons_append, List.nil_append]
  obtain ⟨hp, hsz, h⟩ := h
  walk_at "ws"
  rename_i q1 H1 n1 s1 e1
  refine ⟨p, f, rfl, hp.same s1, by omega, by omega, fun q2 H2 n2 hA s2 => ?_⟩
  obtain ⟨ps, e2, hA⟩ := hA
  have hpl := parts_len f
  have hps := hA.1
  have lps : (ps.map V.ref).length = (partsF f).length := by rw [List.length_map, hps]
  walk_at "ws"
  refine for_l (ps.map V.ref) (fun i σ' G => ∃ (ns : List Str) (y2 : Option V), σ' = [some (.ref p), some (.ref q1), y2] ∧ Same H G ∧ H2 q2 = G q2 ∧ (∀ a xs, H2 a = some (.tup xs) → G a = some (.tup xs)) ∧ G q1 = some (.lst (ns.map V.str)) ∧ (∀ x, x ∈ ns ↔ Fm.name x ∈ (partsF f).take i) ∧ ns.length ≤ i)
    ⟨[], _, rfl, s1.trans s2, rfl, fun _ _ z => z, s2 _ _ e1, fun x => ⟨fun z => (by cases z), fun z => by rw [List.take_zero] at z; cases z⟩, Nat.le_refl _⟩ (fun i σ' G _ q => ?_) (fun i x σ' G hx q => ?_) (fun σ' G q => ?_)
  · obtain ⟨ns, y2, rfl, sG, e2G, _⟩ := q
    exact SqL.of (e2G.symm.trans e2)
  · obtain ⟨ns, y2, rfl, sG, e2G, tG, eq, hiff, hnl⟩ := q
    obtain ⟨pa, hpa, rfl⟩ := get_map hx
    obtain ⟨g, hgi, hg⟩ := hA.get hpa
    have hgG : FmAt G pa g := hg.keep tG
    obtain ⟨xs, ex⟩ := hgG.head
    have hi := (List.getElem?_eq_some_iff.mp hgi).1
    have hnsl : (ns.map V.str).length ≤ 100 := by rw [List.length_map]; omega
    walk_at "ws"
    refine w_ixT (SqT.of ex) at_0 ?_
    by_cases hh : headF g = "name"
    · obtain ⟨n, rfl⟩ := headF_name hh
      have hpa2 : G pa = some (.tup [.str "name", .str n]) := hgG
      clear ex
      walk_at "ws"
      · refine ⟨q1, ns.map V.str, rfl, .inl (SqL.of eq), rfl, flat_strs ns, ?_⟩
        rw [if_pos rfl, inV_strs]
        by_cases hn : n ∈ ns
        · rw [decide_eq_true hn]
          walk_at "ws"
          refine ⟨ns, _, rfl, sG, e2G, tG, eq, fun x => ?_, by omega⟩
          rw [hiff x, take_snoc hgi, List.mem_append, List.mem_singleton]
          constructor
          · exact .inl
          · rintro (z | z)
            · exact z
            · injection z with z
              rw [z]
              exact (hiff n).mp hn
        · rw [decide_eq_false hn]
          walk_at "ws"
          have nq : q1 ≠ q2 := fun z => by rw [z, n2] at e1; cases e1
          refine ⟨ns ++ [n], _, rfl, same_mut sG n1, by rw [upd_ne nq.symm]; exact e2G, fun a ys ea => ?_, by rw [upd_same, List.map_append]; rfl, fun x => ?_, by rw [List.length_append, List.length_singleton]; omega⟩
          · rw [upd_ne (ne_of (tG a ys ea) eq (by intro z; cases z))]
            exact tG a ys ea
          · rw [List.mem_append, List.mem_singleton, take_snoc hgi, List.mem_append, List.mem_singleton, hiff x]
            constructor
            · rintro (z | z)
              · exact .inl z
              · exact .inr (by rw [z])
            · rintro (z | z)
              · exact .inl z
              · injection z with z
                exact .inr z
      · rename_i z
        exact absurd hh z
    · have hnn : ∀ x, Fm.name x ∈ (partsF f).take (i + 1) ↔ Fm.name x ∈ (partsF f).take i := fun x => by
        rw [take_snoc hgi, List.mem_append, List.mem_singleton]
        constructor
        · rintro (z | z)
          · exact z
          · rw [← z] at hh
            exact absurd rfl hh
        · exact .inl
      walk_at "ws"
      · rename_i z
        exact absurd z hh
      · exact ⟨ns, _, rfl, sG, e2G, tG, eq, fun x => (hiff x).trans (hnn x).symm, by omega⟩
  · obtain ⟨ns, y2, rfl, sG, e2G, tG, eq, hiff, hnl⟩ := q
    rw [lps, List.take_of_length_le (Nat.le_refl _)] at hiff
    walk_at "ws"
    exact h ns q1 G n1 sG eq (fun x => (hiff x).trans ⟨part_name, name_part⟩) (by rw [lps, hpl] at hnl; exact hnl)
def sp_span_told (K : PySem.W.Frag) : Sp := fun vs H Q E => ∃ (p d : Addr) (f : Fm) (wd : List (Str × Int)) (N : Str → Prop), vs = [.ref p, .ref d] ∧ FmAt H p f ∧ H d = some (.dK (wkv wd)) ∧ FmOk N f ∧ WdOk wd ∧ f.size ≤ 30 ∧
  (¬ HasF wd f → ∀ C H', IsC K "NoName" C → Same H H' → E (.ref C) none H') ∧ (HasF wd f → ∀ H', Same H H' → Q (.str (numS (spanF wd f).1 ++ " " ++ numS (spanF wd f).2)) H')
theorem ok_span_told (T : Top K mg) : FnOk P w K mg base (L2.CX P w) 63 T.a_span_told T.d_span_told ["formula", "widths"] (sp_span_told K) := by
  refine T.f_span_told.okX sc_span_told (fun vs H Q E h => ?_) (fun cdv A outer s H vs Q E hr h => ?_)
  · obtain ⟨p, d, f, wd, N, rfl, _⟩ := h
    rfl
  obtain ⟨p, d, f, wd, N, rfl, h⟩ := h
  refine ⟨_, (pss_cons (ps_for (passes_of rfl) rfl (pi_list (pe_call (ok_names_of T) (hr.mono (by decide)) (by rfl) T.g_names_of T.f_names_of.kp T.b_names_of .nil pass0 (pa_cons (pv 0) pa_nil))) (pg_name (i := 2) sc_span_told.nd rfl (.inl rfl))
      (pss_one (ps_if (pt_cmp (pc_dnotin (hu_of hr) (pv 2) (pv 1))) (pss_one (ps_raise rfl (takes_of rfl rfl rfl rfl) (pmk_own PySem.F.excBase_ValueError T.x_NoName T.gc_NoName T.kc_NoName (raises_own T.xb_NoName T.xt_NoName) (by rfl)))) pss_nil)))
      (pss_cons (ps_asg (pe_call (ok_span_of T) (hr.mono (by decide)) (by rfl) T.g_span_of T.f_span_of.kp T.b_span_of .nil pass0 (pa_cons (pv 0) (pa_cons (pv 1) pa_nil))) (pg_tup (by rfl) (pgs_cons (pg_name (i := 3) sc_span_told.nd rfl (.inl rfl)) (pgs_cons (pg_name (i := 4) sc_span_told.nd rfl (.inl rfl)) pgs_nil))))
      (pss_one (ps_ret (pe_op op_addS (pe_op op_addS (pe_callTy c_strI (by rfl) T.z_str (by decide +kernel) (pa_cons (pv 3) pa_nil)) pe_str) (pe_callTy c_strI (by rfl) T.z_str (by decide +kernel) (pa_cons (pv 4) pa_nil))))))), ?_⟩
  try dsimp only [cxOf, Cx.nox, Cx.wish]
  simp only [L2.start, List.map_cons, List.map_nil, List.length_cons, List.length_nil, Nat.reduceAdd, Nat.reduceSub, List.replicate_succ, List.replicate_zero, List.cons_append, List.nil_append]
  obtain ⟨hp, ed, ok, wok, hsz, hE, hQ⟩ := h
  walk_at "ws"
  refine ⟨p, f, rfl, hp, by omega, fun ns q H1 n1 s1 e1 hns hnl => ?_⟩
  have ed1 := s1 _ _ ed
  have hnl2 : (ns.map V.str).length = ns.length := List.length_map ..
  walk_at "ws"
  refine for_l (ns.map V.str) (fun i σ' G => ∃ (y2 : Option V), σ' = [some (.ref p), some (.ref d), y2, none, none] ∧ G = H1 ∧ ∀ m ∈ ns.take i, ∃ v, lookW wd m = some v) ⟨_, rfl, rfl, fun _ z => by rw [List.take_zero] at z; cases z⟩ (fun i σ' G _ q => ?_) (fun i x σ' G hx q => ?_) (fun σ' G q => ?_)
  · obtain ⟨y2, rfl, rfl, _⟩ := q
    exact SqL.of e1
  · obtain ⟨y2, rfl, rfl, hm⟩ := q
    obtain ⟨n, hni, rfl⟩ := get_map hx
    walk_at "ws"
    refine w_NInS ed1 ?_
    cases hl : lookW wd n with
    | none =>
      rw [show (none : Option Int).isNone = true from rfl]
      walk_at "ws"
      exact hE (fun hf => by obtain ⟨v, hv⟩ := hf n ((hns n).mp (List.mem_of_getElem? hni)); rw [hl] at hv; cases hv) _ _ T.nc_NoName s1
    | some v =>
      rw [show (some v).isNone = false from rfl]
      walk_at "ws"
      refine ⟨_, rfl, rfl, fun m hm' => ?_⟩
      rw [take_snoc hni] at hm'
      rcases List.mem_append.mp hm' with z | z
      · exact hm m z
      · cases List.mem_singleton.mp z
        exact ⟨v, hl⟩
  · obtain ⟨y2, rfl, rfl, hm⟩ := q
    rw [hnl2, List.take_of_length_le (Nat.le_refl _)] at hm
    have hasF : HasF wd f := fun n hn => hm n ((hns n).mpr hn)
    walk_at "ws"
    refine ⟨p, d, f, wd, (· ∈ namesF f), rfl, hp.same s1, ed1, ok_names ok, hasF, wok, by omega, by omega, fun q2 H2 n2 s2 e2 => ?_⟩
    have bd := span_bd41 wok ok
    have p1 : 2 ^ (41 * f.size) ≤ 2 ^ 1230 := pow_le_of (by omega)
    have p2 : 2 ^ 1230 < 2 ^ 1900 := by decide +kernel
    have p3 : 2 ^ 1230 < 10 ^ 400 := by decide +kernel
    have l1 := numS_len (n := 400) (by decide) (Nat.lt_trans (Nat.lt_of_lt_of_le bd.1 p1) p3)
    have l2 := numS_len (n := 400) (by decide) (Nat.lt_trans (Nat.lt_of_lt_of_le bd.2 p1) p3)
    have l3 : (Str.ofString " ").length = 1 := by decide +kernel
    walk_at "ws"
    refine w_strI (Nat.lt_trans (Nat.lt_of_lt_of_le bd.1 p1) p2) ?_
    walk_at "ws"
    refine w_addS (by unfold numS at l1; omega) ?_
    walk_at "ws"
    refine w_strI (Nat.lt_trans (Nat.lt_of_lt_of_le bd.2 p1) p2) ?_
    refine w_addS (by rw [Str.length_append]; unfold numS at l1 l2; omega) ?_
    exact hQ hasF _ (s1.trans s2)
/-! the desk: widths put, formulas shown, spans told -/
def sp_Made__init (K : PySem.W.Frag) : Sp := fun _ _ _ _ => False
theorem ok_Made__init (T : Top K mg) : FnOk P w K mg base (L2.CX P w) 1 T.a_Made__init T.d_Made__init ["self", "formula", "widths", "order", "splits"] (sp_Made__init K) :=
  T.f_Made__init.okX (k := 0) sc_Made__init (fun _ _ _ _ h => h.elim) (fun _ _ _ _ _ _ _ _ _ h => h.elim)
def sp_Made_worth_for (K : PySem.W.Frag) : Sp := fun _ _ _ _ => False
theorem ok_Made_worth_for (T : Top K mg) : FnOk P w K mg base (L2.CX P w) 1 T.a_Made_worth_for T.d_Made_worth_for ["self", "words"] (sp_Made_worth_for K) :=
  T.f_Made_worth_for.okX (k := 0) sc_Made_worth_for (fun _ _ _ _ h => h.elim) (fun _ _ _ _ _ _ _ _ _ h => h.elim)
def DeskAt (K : PySem.W.Frag) (H : Hp) (s d : Addr) : Prop := ∃ C dx sp, H s = some (.ins C dx [("widths", .ref d), ("order", .non), ("splits", .ref sp), ("made", .non)]) ∧ IsC K "Desk" C
def sp_Desk__init (K : PySem.W.Frag) : Sp := fun vs H Q _ => ∃ (s C dx : Addr), vs = [.ref s] ∧ H s = some (.ins C dx []) ∧ IsC K "Desk" C ∧ ∀ H1 d, DeskAt K H1 s d → H1 d = some (.dK (wkv [])) → H d = none → Fr [s] H H1 → Q .non H1
theorem ok_Desk__init (T : Top K mg) : FnOk P w K mg base CX0 1 T.a_Desk__init T.d_Desk__init ["self"] (sp_Desk__init K) := by
  refine T.f_Desk__init.ok sc_Desk__init (fun vs H Q E h => ?_) (fun cdv A outer s H vs Q E hr h => ?_)
  · obtain ⟨s, C, dx, rfl, _⟩ := h
    rfl
  obtain ⟨s, C, dx, rfl, h⟩ := h
  refine ⟨_, (pss_cons (ps_fld (pv 0) pe_dnewK rfl)
      (pss_cons (ps_fld (pv 0) pe_non rfl)
      (pss_cons (ps_fld (pv 0) (pe_lst pa_nil) rfl)
      (pss_one (ps_fld (pv 0) pe_non rfl))))), ?_⟩
  try dsimp only [cxOf, Cx.nox, Cx.wish]
  simp only [L2.start, List.map_cons, List.map_nil, List.length_cons, List.length_nil, Nat.reduceAdd, Nat.reduceSub, List.replicate_succ, List.replicate_zero, List.cons_append, List.nil_append]
  obtain ⟨hs, hC, h⟩ := h
  obtain rfl := hC.one T.nc_Desk
  have c1 := T.cl_Desk
  have c2 := T.n_Desk_widths
  have c3 := T.n_Desk_order
  have c4 := T.n_Desk_splits
  have c5 := T.n_Desk_made
  walk_at "ws"
  rename_i p H1 n1 s1 e1 q H2 n2 s2 e2
  have ps : p ≠ s := fun z => by rw [z, hs] at n1; cases n1
  refine h _ p ⟨T.c_Desk, dx, q, by rw [upd_same]; rfl, hC⟩ ?_ n1 ?_
  · rw [upd_ne ps, upd_ne ps]
    exact s2 _ _ (by rw [upd_ne ps, upd_ne ps]; exact e1)
  · have m : s ∈ [s] := List.mem_cons_self ..
    exact ((((Fr.of s1).trans (Fr.put m)).trans (Fr.put m)).trans (Fr.of s2)).trans ((Fr.put m).trans (Fr.put m))
def sp_Desk_say (K : PySem.W.Frag) : Sp := fun vs H Q E => ∃ (s d : Addr) (wd : List (Str × Int)) (z : Str), vs = [.ref s, .str z] ∧ DeskAt K H s d ∧ H d = some (.dK (wkv wd)) ∧ WdOk wd ∧ wd.length ≤ 1000 ∧ z.length ≤ 100000 ∧
  ((∃ (n : Str) (v : Int), z = Txt.join " " ["width", n, numS v] ∧ NameOk n ∧ (v ≠ 0 ∧ -24 ≤ v ∧ v ≤ 24) ∧ ∀ H', H' d = some (.dK (wkv (putW wd n v))) → Fr [d] H H' → Q (.str "ok") H') ∨
   ∃ w t : Str, z = Txt.join " " [w, t] ∧ (w = "span" ∨ w = "show") ∧ 32 ∉ t.cps.toList ∧ t.cps.toList ≠ [] ∧ t.length ≤ 100000 ∧ wgt t.cps.toList ≤ 60 ∧
    (((∀ f, ¬ Wr 0 f t.cps.toList) ∧ ∀ C H', IsC K "NoFormula" C → Same H H' → E (.ref C) none H') ∨
     ∃ (f : Fm) (N : Str → Prop), Wr 0 f t.cps.toList ∧ FmOk N f ∧ f.size ≤ 30 ∧ (∀ m, N m → m.length ≤ 6) ∧ (w = "show" → ∀ H', Same H H' → Q (.str (shownF f)) H') ∧
       (w = "span" → (¬ HasF wd f → ∀ C H', IsC K "NoName" C → Same H H' → E (.ref C) none H') ∧ (HasF wd f → ∀ H', Same H H' → Q (.str (numS (spanF wd f).1 ++ " " ++ numS (spanF wd f).2)) H'))))
theorem ok_Desk_say (T : Top K mg) : FnOk P w K mg base (L2.CX P w) 188 T.a_Desk_say T.d_Desk_say ["self", "line"] (sp_Desk_say K) := by
  refine T.f_Desk_say.okX sc_Desk_say (fun vs H Q E h => ?_) (fun cdv A outer s H vs Q E hr h => ?_)
  · obtain ⟨s, d, wd, z, rfl, _⟩ := h
    rfl
  obtain ⟨s, d, wd, z, rfl, h⟩ := h
  refine ⟨_, (pss_cons (ps_asg (pe_call (ok_line_read T) (hr.mono (by decide)) (by rfl) T.g_line_read T.f_line_read.kp T.b_line_read .nil (passes_call (takes_of rfl rfl rfl rfl) (fun _ _ _ _ z => z)) (pa_cons (pv 1) pa_nil)) (pg_tup (by rfl) (pgs_cons (pg_name (i := 2) sc_Desk_say.nd rfl (.inl rfl)) (pgs_cons (pg_name (i := 3) sc_Desk_say.nd rfl (.inl rfl)) pgs_nil))))
      (pss_cons (ps_if (pt_cmpR op_eq (pv 2) pe_str (nomark _)) (pss_cons (ps_dput (hu_of hr) (pe_fld (pv 0) rfl) (pe_ix (ix_tupK K) (pv 3) pe_int (fun _ _ => rfl)) (pe_ix (ix_tupK K) (pv 3) pe_int (fun _ _ => rfl)) rfl)
      (pss_one (ps_ret pe_str))) pss_nil)
      (pss_cons (ps_if (pt_cmpR op_eq (pv 2) pe_str (nomark _)) (pss_cons (ps_fld (pv 0) (pv 3) rfl)
      (pss_one (ps_ret pe_str))) pss_nil)
      (pss_cons (ps_if (pt_cmpR op_eq (pv 2) pe_str (nomark _)) (pss_cons (ps_fld (pv 0) (pv 3) rfl)
      (pss_one (ps_ret pe_str))) pss_nil)
      (pss_cons (ps_if (pt_cmpR op_eq (pv 2) pe_str (nomark _)) (pss_cons (ps_if (pt_cmpR op_isNo (pe_fld (pv 0) rfl) pe_non (nomark _)) (pss_one (ps_raise rfl (takes_of rfl rfl rfl rfl) (pmk_own PySem.F.excBase_ValueError T.x_NoCircuit T.gc_NoCircuit T.kc_NoCircuit (raises_own T.xb_NoCircuit T.xt_NoCircuit) (by rfl)))) pss_nil)
      (pss_one (ps_ret (pe_callTy c_strI (by rfl) T.z_str (by decide +kernel) (pa_cons (pe_meth (pe_fld (pv 0) rfl) T.cl_Made T.m_Made_worth_for (ok_Made_worth_for T) (hr.mono (by decide)) T.b_Made_worth_for .nil (passes_call (takes_of rfl rfl rfl rfl) (fun _ _ _ _ z => z)) (pa_cons (pv 3) pa_nil)) pa_nil))))) pss_nil)
      (pss_cons (ps_set (i := 4) sc_Desk_say.nd rfl (.inl rfl) (pe_call (ok_read T) (hr.mono (by decide)) (by rfl) T.g_read T.f_read.kp T.b_read .nil (passes_call (takes_of rfl rfl rfl rfl) (fun _ _ _ _ z => z)) (pa_cons (pv 3) pa_nil)))
      (pss_cons (ps_if (pt_cmpR op_eq (pv 2) pe_str (nomark _)) (pss_cons (ps_fld (pv 0) (pe_make T.mk_Made (ok_Made__init T) (hr.mono (by decide)) (by rfl) T.gc_Made T.b_Made__init .nil (passes_call (takes_of rfl rfl rfl rfl) (fun _ _ _ _ z => z)) (pa_cons (pv 4) (pa_cons (pe_fld (pv 0) rfl) (pa_cons (pe_fld (pv 0) rfl) (pa_cons (pe_fld (pv 0) rfl) pa_nil))))) rfl)
      (pss_one (ps_ret (pe_callTy c_strI (by rfl) T.z_str (by decide +kernel) (pa_cons (pe_callB (c_lenK K) (by rfl) T.z_len PySem.boot_len (pa_cons (pe_fld (pe_fld (pv 0) rfl) rfl) pa_nil)) pa_nil))))) pss_nil)
      (pss_cons (ps_if (pt_cmpR op_eq (pv 2) pe_str (nomark _)) (pss_one (ps_ret (pe_call (ok_span_told T) (hr.mono (by decide)) (by rfl) T.g_span_told T.f_span_told.kp T.b_span_told .nil (passes_call (takes_of rfl rfl rfl rfl) (fun _ _ _ _ z => z)) (pa_cons (pv 4) (pa_cons (pe_fld (pv 0) rfl) pa_nil))))) pss_nil)
      (pss_one (ps_ret (pe_call (ok_shown T) (hr.mono (by decide)) (by rfl) T.g_shown T.f_shown.kp T.b_shown .nil pass0 (pa_cons (pv 4) pa_nil)))))))))))), ?_⟩
  try dsimp only [cxOf, Cx.nox, Cx.wish]
  simp only [L2.start, List.map_cons, List.map_nil, List.length_cons, List.length_nil, Nat.reduceAdd, Nat.reduceSub, List.replicate_succ, List.replicate_zero, List.cons_append, List.nil_append]
  obtain ⟨⟨C, dx, sp, hs, hC⟩, ed, wok, hwl, hzl, h⟩ := h
  obtain rfl := hC.one T.nc_Desk
  have c1 := T.cl_Desk
  have c2 := T.n_Desk_widths
  have c3 := T.n_Desk_order
  have c4 := T.n_Desk_splits
  have c5 := T.n_Desk_made
  rcases h with ⟨n, v, rfl, hn, hv, h⟩ | ⟨w, t, rfl, hw, ht, hte, htl, hwg, h⟩
  · walk_at "ws"
    refine ⟨_, rfl, hzl, .inl ⟨n, v, rfl, hn, hv, fun p q H1 e1 e2 s1 => ?_⟩⟩
    have ed1 := s1 _ _ ed
    walk_at "ws"
    exact h _ upd_same ((Fr.of s1).trans (Fr.put (List.mem_cons_self ..)))
  · walk_at "ws"
    refine ⟨_, rfl, hzl, .inr ⟨w, t, rfl, .inr hw, ht, hte, fun p H1 e1 s1 => ?_⟩⟩
    have ed1 := s1 _ _ ed
    have w1 : w ≠ "width" := by rcases hw with rfl | rfl <;> decide +kernel
    have w2 : w ≠ "order" := by rcases hw with rfl | rfl <;> decide +kernel
    have w3 : w ≠ "splits" := by rcases hw with rfl | rfl <;> decide +kernel
    have w4 : w ≠ "ask" := by rcases hw with rfl | rfl <;> decide +kernel
    have w5 : w ≠ "make" := by rcases hw with rfl | rfl <;> decide +kernel
    walk_at "ws"
    · exact absurd ‹w = "width"› w1
    · exact absurd ‹w = "order"› w2
    · exact absurd ‹w = "splits"› w3
    · exact absurd ‹w = "ask"› w4
    rcases h with ⟨hno, hE⟩ | ⟨f, N, hwr, ok, hsz, hN, hsh, hsp⟩
    · refine ⟨t, rfl, htl, hwg, fun f hf => absurd hf (hno f), fun _ C H2 hC2 s2 => ?_⟩
      exact hE _ _ hC2 (s1.trans s2)
    · refine ⟨t, rfl, htl, hwg, fun g hg q H2 hq s2 => ?_, fun hn => absurd hwr (hn f)⟩
      obtain rfl : g = f := by
        have e1 := read_whole (n := 183) hg (by omega)
        rw [read_whole hwr (by omega)] at e1
        injection e1 with e1
        exact e1.symm
      have ed2 := s2 _ _ ed1
      walk_at "ws"
      · exact absurd ‹w = "make"› w5
      · have hsp := hsp ‹w = "span"›
        refine ⟨q, d, g, wd, N, rfl, hq, ed2, ok, wok, hsz, fun hn C H3 hC3 s3 => ?_, fun hf H3 s3 => ?_⟩
        · exact hsp.1 hn C H3 hC3 ((s1.trans s2).trans s3)
        · walk_at "ws"
          exact hsp.2 hf H3 ((s1.trans s2).trans s3)
      · have hsh := hsh (hw.resolve_left ‹¬ w = "span"›)
        refine ⟨q, g, N, rfl, hq, ok, hN, by omega, by omega, fun H3 s3 => ?_⟩
        walk_at "ws"
        exact hsh H3 ((s1.trans s2).trans s3)
def sp_law_names (K : PySem.W.Frag) : Sp := fun vs H Q _ => ∃ n : Int, vs = [.int n] ∧ (0 ≤ n ∧ n < 2147483648) ∧
  ∀ (nm : List Str) p H', nm.length = 4 → (∀ x ∈ nm, NameOk x) → H p = none → Same H H' → H' p = some (.lst (nm.map V.str)) → Q (.ref p) H'
theorem ok_law_names (T : Top K mg) : FnOk P w K mg base CX0 1 T.a_law_names T.d_law_names ["_law_number"] (sp_law_names K) := by
  refine T.f_law_names.ok sc_law_names (fun vs H Q E h => ?_) (fun cdv A outer s H vs Q E hr h => ?_)
  · obtain ⟨n, rfl, _⟩ := h
    rfl
  obtain ⟨n, rfl, h⟩ := h
  refine ⟨_, (pss_cons (ps_set (i := 1) sc_law_names.nd rfl (.inr rfl) pe_str)
      (pss_cons (ps_set (i := 2) sc_law_names.nd rfl (.inr rfl) (pe_lc (own := [("_law_k", 8)]) (g := gName 8) (tt := tYes) (by rfl) sc_law_names.nd (pi_range1 (by rfl) T.z_range (pa_cons (pe_op op_add pe_int (pe_op op_mod (pv 0) pe_int)) pa_nil)) (blkOk_by (N := ["_law_number", "_law_letters", "_law_some", "_law_at_here", "_law_names_here", "_law_j", "_law_spots", "_law_word", "_law_k", "_law_spot"]) (sc := defScope s_law_names) (by decide +kernel)) (fun _ _ _ _ _ => (pg_name (i := 8) sc_law_names.nd rfl (.inl rfl))) (fun _ _ _ _ _ => pts_nil) (fun _ _ _ _ _ => (pe_op op_mod (pe_op op_fdiv (pv 0) (pe_op op_add (pv 8) pe_int)) pe_int))))
      (pss_cons (ps_set (i := 3) sc_law_names.nd rfl (.inr rfl) (pe_op op_mod (pe_op op_fdiv (pv 0) pe_int) (pe_callB (c_lenK K) (by rfl) T.z_len PySem.boot_len (pa_cons (pv 2) pa_nil))))
      (pss_cons (ps_set (i := 4) sc_law_names.nd rfl (.inl rfl) (pe_lst pa_nil))
      (pss_cons (ps_for PassesOwn.never rfl (pi_range1 (by rfl) T.z_range (pa_cons pe_int pa_nil)) (pg_name (i := 5) sc_law_names.nd rfl (.inr rfl))
      (pss_cons (ps_setLc (i := 6) (own := [("_law_k", 8)]) (g := gName 8) (tt := tYes) (by rfl) sc_law_names.nd rfl rfl (sw_true rfl rfl rfl (by decide +kernel)) (pi_range1 (by rfl) T.z_range (pa_cons (pe_callB (c_lenK K) (by rfl) T.z_len PySem.boot_len (pa_cons (pv 2) pa_nil)) pa_nil)) (blkOk_by (N := ["_law_number", "_law_letters", "_law_some", "_law_at_here", "_law_names_here", "_law_j", "_law_spots", "_law_word", "_law_k", "_law_spot"]) (sc := defScope s_law_names) (by decide +kernel)) (fun _ _ _ _ _ => (pg_name (i := 8) sc_law_names.nd rfl (.inl rfl))) (fun _ _ _ _ _ => pts_nil) (fun _ _ _ _ _ => (pe_op op_add (pe_ix (ix_listK K) (pv 2) (pv 8) (fun _ _ => rfl)) (pe_op op_mulI (pv 5) (pe_callTy c_intB (by rfl) T.z_int (by decide +kernel) (pa_cons (pe_cmpR op_eq (pv 8) (pv 3) (nomark _)) pa_nil))))))
      (pss_one (ps_expr (pe_bm PySem.F.plainAttrs_list PySem.F.slot_list_append PySem.F.type_list_append mt_append (pv 4) (pa_cons (p_join K pe_str (pe_lc (own := [("_law_spot", 9)]) (g := gName 9) (tt := tYes) (by rfl) sc_law_names.nd (pi_list (pv 6)) (blkOk_by (N := ["_law_number", "_law_letters", "_law_some", "_law_at_here", "_law_names_here", "_law_j", "_law_spots", "_law_word", "_law_k", "_law_spot"]) (sc := defScope s_law_names) (by decide +kernel)) (fun _ _ _ _ _ => (pg_name (i := 9) sc_law_names.nd rfl (.inl rfl))) (fun _ _ _ _ _ => pts_nil) (fun _ _ _ _ _ => (pe_ix ix_str (pv 1) (pe_op op_mod (pv 9) pe_int) (fun _ _ => rfl))))) pa_nil))))))
      (Evl.pss_cut (ps_if (pt_cmpR op_eq (pe_op op_mod (pe_op op_fdiv (pv 0) pe_int) pe_int) pe_int (nomark _)) (pss_cons (ps_set (i := 7) sc_law_names.nd rfl (.inr rfl) (p_join K pe_str (pe_lc (own := [("_law_k", 8)]) (g := gName 8) (tt := tYes) (by rfl) sc_law_names.nd (pi_range1 (by rfl) T.z_range (pa_cons pe_int pa_nil)) (blkOk_by (N := ["_law_number", "_law_letters", "_law_some", "_law_at_here", "_law_names_here", "_law_j", "_law_spots", "_law_word", "_law_k", "_law_spot"]) (sc := defScope s_law_names) (by decide +kernel)) (fun _ _ _ _ _ => (pg_name (i := 8) sc_law_names.nd rfl (.inl rfl))) (fun _ _ _ _ _ => pts_nil) (fun _ _ _ _ _ => (pe_ix ix_str (pv 1) (pe_op op_mod (pe_op op_fdiv (pv 0) (pe_op op_add (pv 8) pe_int)) pe_int) (fun _ _ => rfl))))))
      (pss_one (ps_setLc (i := 4) (own := [("_law_k", 8)]) (g := gName 8) (tt := tYes) (by rfl) sc_law_names.nd rfl rfl (sw_true rfl rfl rfl (by decide +kernel)) (pi_range1 (by rfl) T.z_range (pa_cons pe_int pa_nil)) (blkOk_by (N := ["_law_number", "_law_letters", "_law_some", "_law_at_here", "_law_names_here", "_law_j", "_law_spots", "_law_word", "_law_k", "_law_spot"]) (sc := defScope s_law_names) (by decide +kernel)) (fun _ _ _ _ _ => (pg_name (i := 8) sc_law_names.nd rfl (.inl rfl))) (fun _ _ _ _ _ => pts_nil) (fun _ _ _ _ _ => (pe_slice sl_str (pv 7) po_none (po_some (pe_op op_add (pv 8) pe_int))))))) pss_nil)
      (pss_one (ps_ret (pv 4))))))))), ?_⟩
  try dsimp only [cxOf, Cx.nox, Cx.wish]
  simp only [L2.start, List.map_cons, List.map_nil, List.length_cons, List.length_nil, Nat.reduceAdd, Nat.reduceSub, List.replicate_succ, List.replicate_zero, List.cons_append, List.nil_append]
  obtain ⟨hn, h⟩ := h
  walk_at "ws"
  refine lc_rx (lo := 0) (fun y => ∃ i : Int, y = .int i ∧ True) (by omega) (fun x => rfl) (fun i H' Q' hi _ q => ?_) (fun ys p H1 hl hP n1 s1 e1 => ?_)
  · rw [Int.zero_add]
    walk_at "ws"
    exact q _ ⟨_, rfl, True.intro⟩
  obtain ⟨xs, rfl, _⟩ := all_map (f := V.int) (R := fun _ => True) hP
  have hlx : xs.length = (1 + n % 6).toNat := by rw [← hl, List.length_map]
  have hlm : (xs.map V.int).length = xs.length := List.length_map ..
  walk_at "ws"
  rename_i p2 H2 n2 s2 e2
  have hat0 : 0 ≤ n / 64 % ((xs.map V.int).length : Int) := Int.emod_nonneg _ (by omega)
  generalize n / 64 % ((xs.map V.int).length : Int) = at0 at *
  refine for_r (fun i σ' G => ∃ (nm : List Str) (y5 y6 : Option V), σ' = [some (.int n), some (.str "abcdefghijklmnopqrstuvwxyz"), some (.ref p), some (.int at0), some (.ref p2), y5, y6, none, none, none] ∧ Same H1 G ∧ G p2 = some (.lst (nm.map V.str)) ∧ nm.length = i ∧ ∀ x ∈ nm, NameOk x) ⟨[], _, _, rfl, s2, e2, rfl, fun x h => (by cases h)⟩ (fun i σ' G hi q => ?_) (fun σ' G q => ?_)
  · obtain ⟨nm, y5, y6, rfl, sG, eG, hnm, hok⟩ := q
    walk_at "ws"
    refine lc_rx (lo := 0) (fun y => ∃ i : Int, y = .int i ∧ True) (by omega) (fun x => rfl) (fun k H' Q' hk sm q => ?_) (fun ys p3 G1 hl3 hP3 n3 s3 e3 => ?_)
    · rw [Int.zero_add]
      have hk2 : k < xs.length := by omega
      walk_at "ws"
      refine w_ixL ((sG.trans sm).seq (SqL.of e1)) (get_int hk2) ?_
      walk_at "ws"
      exact q _ ⟨_, rfl, True.intro⟩
    obtain ⟨zs, rfl, _⟩ := all_map (f := V.int) (R := fun _ => True) hP3
    have hlz : zs.length = xs.length := by
      rw [List.length_map] at hl3
      omega
    walk_at "ws"
    refine lc_lx (zs.map V.int) (fun y => ∃ s : Str, y = .str s ∧ oneL s) (SqL.of e3) (by rw [List.length_map]; omega) (fun x => rfl) (fun k x H' Q' hx sm q => ?_) (fun ys p4 G2 hl4 hP4 n4 s4 e4 => ?_)
    · obtain ⟨z, _, rfl⟩ := get_map hx
      walk_at "ws"
      obtain ⟨c, hc, lc⟩ := letters_at (z % 26) (by omega)
      refine w_ixS (by decide +kernel) hc ?_
      exact q _ ⟨_, rfl, c, rfl, lc⟩
    obtain ⟨ss, rfl, hss⟩ := all_map (f := V.str) (R := oneL) hP4
    have hls : ss.length = xs.length := by
      rw [List.length_map, List.length_map] at hl4
      omega
    have e0 : (Str.ofString "").length = 0 := by decide +kernel
    refine w_join (SqL.of e4) (by rw [ones_sum hss, e0]; omega) ?_
    obtain ⟨j1, j2⟩ := ones_join hss
    have eG2 : G2 p2 = some (.lst (nm.map V.str)) := s4 _ _ (s3 _ _ eG)
    walk_at "ws"
    refine ⟨nm ++ [Txt.join "" ss], _, _, rfl, same_mut ((sG.trans s3).trans s4) n2, ?_, by rw [List.length_append, hnm]; rfl, fun x hx => ?_⟩
    · rw [upd_same, List.map_append]
      rfl
    · rcases List.mem_append.mp hx with k | k
      · exact hok x k
      · rw [List.mem_singleton.mp k]
        exact ⟨by rw [j1]; omega, j2⟩
  obtain ⟨nm, y5, y6, rfl, sG, eG, hnm, hok⟩ := q
  walk_at "ws"
  have hnp : H p2 = none := s1.free n2
  refine w_cut (fun σ' G' => ∃ (nm : List Str) (q : Addr) (y7 : Option V), σ' = [some (.int n), some (.str "abcdefghijklmnopqrstuvwxyz"), some (.ref p), some (.int at0), some (.ref q), y5, y6, y7, none, none] ∧ Same H G' ∧ H q = none ∧ G' q = some (.lst (nm.map V.str)) ∧ nm.length = 4 ∧ ∀ x ∈ nm, NameOk x) ?_ ?_
  · walk_at "ws"
    · refine lc_rx (lo := 0) (fun y => ∃ s : Str, y = .str s ∧ oneL s) (by decide) (fun x => rfl) (fun k H' Q' hk sm q => ?_) (fun ys p4 G2 hl4 hP4 n4 s4 e4 => ?_)
      · have hk5 : k < 5 := hk
        rw [Int.zero_add]
        walk_at "ws"
        obtain ⟨c, hc, lc⟩ := letters_at (n / ((k : Int) + 3) % 26) (by omega)
        refine w_ixS (by decide +kernel) hc ?_
        exact q _ ⟨_, rfl, c, rfl, lc⟩
      obtain ⟨ss, rfl, hss⟩ := all_map (f := V.str) (R := oneL) hP4
      have hls : ss.length = 5 := by
        rw [List.length_map] at hl4
        exact hl4
      have e0 : (Str.ofString "").length = 0 := by decide +kernel
      refine w_join (SqL.of e4) (by rw [ones_sum hss, e0]; omega) ?_
      obtain ⟨j1, j2⟩ := ones_join hss
      walk_at "ws"
      refine lc_rx (lo := 0) (fun y => ∃ s : Str, y = .str s ∧ NameOk s) (by decide) (fun x => rfl) (fun k H' Q' hk sm q => ?_) (fun ys p5 G3 hl5 hP5 n5 s5 e5 => ?_)
      · have hk4 : k < 4 := hk
        rw [Int.zero_add]
        walk_at "ws"
        refine w_slS (by omega) ?_
        refine q _ ⟨_, rfl, ?_⟩
        exact cut_name (n := k + 1) (by omega) j2 (by omega)
      obtain ⟨ns, rfl, hns⟩ := all_map (f := V.str) (R := NameOk) hP5
      have hln : ns.length = 4 := by
        rw [List.length_map] at hl5
        exact hl5
      walk_at "ws"
      exact ⟨ns, p5, _, rfl, ((s1.trans sG).trans s4).trans s5, ((s1.trans sG).trans s4).free n5, e5, hln, hns⟩
    · exact ⟨nm, p2, _, rfl, s1.trans sG, hnp, eG, hnm, hok⟩
  rintro σ1 G1 ⟨nm, q, y7, rfl, sG1, nq, eq, hl, hok⟩
  walk_at "ws"
  exact h nm q G1 hl hok nq sG1 eq
def Bits (ns : List Int) : Prop := ∀ z ∈ ns, Builtin.Int.intBits z ≤ 1048576
def sp_law_at (K : PySem.W.Frag) : Sp := fun vs H Q _ => ∃ (a : Addr) (ns : List Int) (k : Int), vs = [.ref a, .int k] ∧ SqL K H a (ns.map V.int) ∧ Bits ns ∧ (0 ≤ k ∧ k ≤ 1000000) ∧ ∀ v : Int, Builtin.Int.intBits v ≤ 1048576 → Q (.int v) H
theorem ok_law_at (T : Top K mg) : FnOk P w K mg base CX0 1 T.a_law_at T.d_law_at ["_law_script", "_law_k"] (sp_law_at K) := by
  refine T.f_law_at.ok sc_law_at (fun vs H Q E h => ?_) (fun cdv A outer s H vs Q E hr h => ?_)
  · obtain ⟨a, ns, k, rfl, _⟩ := h
    rfl
  obtain ⟨a, ns, k, rfl, h⟩ := h
  refine ⟨_, (pss_cons (ps_if (pt_cmpR op_lt (pv 1) (pe_callB (c_lenK K) (by rfl) T.z_len PySem.boot_len (pa_cons (pv 0) pa_nil)) (nomark _)) (pss_one (ps_ret (pe_ix (ix_listK K) (pv 0) (pv 1) (fun _ _ => rfl)))) pss_nil)
      (pss_one (ps_ret pe_int))), ?_⟩
  try dsimp only [cxOf, Cx.nox, Cx.wish]
  simp only [L2.start, List.map_cons, List.map_nil, List.length_cons, List.length_nil, Nat.reduceAdd, Nat.reduceSub, List.replicate_succ, List.replicate_zero, List.cons_append, List.nil_append]
  obtain ⟨hS, hb, hk, h⟩ := h
  walk_at "ws"
  · rename_i hlt
    rw [List.length_map] at hlt
    obtain ⟨n, rfl⟩ := Int.eq_ofNat_of_zero_le hk.1
    have hn : n < ns.length := by omega
    refine w_ixL hS (get_int hn) ?_
    walk_at "ws"
    exact h _ (hb _ (List.getElem_mem hn))
  · exact h _ (by decide)
theorem use_at {a : Addr} {ns : List Int} {k : Int} {H : Hp} {Q : VK} {E : XK} (hS : SqL K H a (ns.map V.int)) (hb : Bits ns) (hk : 0 ≤ k ∧ k ≤ 1000000) (h : ∀ v : Int, Builtin.Int.intBits v ≤ 1048576 → Q (.int v) H) : sp_law_at K ([.ref a, .int k] ++ []) H Q E := ⟨a, ns, k, rfl, hS, hb, hk, h⟩
local macro_rules | `(tactic| walk_at "w2") => `(tactic| ((with_reducible apply use_at); (walk_at "sq"); assumption; omega; intro _ _))
/-- a drawn number -/
def Drawn (x : Int) : Prop := 0 ≤ x ∧ x < 2147483648
def numMax : Int := 1000000000000
/-! twelve numbers drawn of a cell -/
def sp_law_stream (K : PySem.W.Frag) : Sp := fun vs H Q _ => ∃ c k : Int, vs = [.int c, .int k] ∧ Builtin.Int.intBits c ≤ 1048576 ∧ (0 ≤ k ∧ k ≤ 100) ∧
  ∀ (xs : List Int) p H', xs.length = 12 → (∀ x ∈ xs, Drawn x) → H p = none → Same H H' → H' p = some (.lst (xs.map V.int)) → Q (.ref p) H'
theorem ok_law_stream (T : Top K mg) : FnOk P w K mg base CX0 1 T.a_law_stream T.d_law_stream ["_law_cell", "_law_k"] (sp_law_stream K) := by
  refine T.f_law_stream.ok sc_law_stream (fun vs H Q E h => ?_) (fun cdv A outer s H vs Q E hr h => ?_)
  · obtain ⟨c, k, rfl, _⟩ := h
    rfl
  obtain ⟨c, k, rfl, h⟩ := h
  refine ⟨_, (pss_cons (ps_set (i := 2) sc_law_stream.nd rfl (.inl rfl) (pe_lst pa_nil))
      (pss_cons (ps_if (pt_cmpR op_ge (pv 0) (pe_op op_pow pe_int pe_int) (nomark _)) (pss_cons (ps_for PassesOwn.never rfl (pi_range1 (by rfl) T.z_range (pa_cons pe_int pa_nil)) (pg_name (i := 3) sc_law_stream.nd rfl (.inl rfl))
      (pss_one (ps_expr (pe_bm PySem.F.plainAttrs_list PySem.F.slot_list_append PySem.F.type_list_append mt_append (pv 2) (pa_cons (pe_op op_mod (pe_op op_fdivW (pe_op op_sub (pv 0) (pe_op op_pow pe_int pe_int)) (pe_op op_shl pe_int (pe_op op_mulI pe_int (pv 3)))) (pe_op op_shl pe_int pe_int)) pa_nil)))))
      (pss_one (ps_ret (pv 2)))) pss_nil)
      (pss_cons (ps_set (i := 4) sc_law_stream.nd rfl (.inl rfl) (pe_op op_mod (pe_op op_add (pe_op op_add (pe_op op_mulI (pv 0) pe_int) (pe_op op_mulI (pe_op op_mulI pe_int (pv 1)) (pv 1))) (pv 1)) pe_int))
      (pss_cons (ps_for PassesOwn.never rfl (pi_range1 (by rfl) T.z_range (pa_cons pe_int pa_nil)) (pg_name (i := 3) sc_law_stream.nd rfl (.inl rfl))
      (pss_cons (ps_set (i := 4) sc_law_stream.nd rfl (.inl rfl) (pe_op op_mod (pe_op op_add (pe_op op_add (pe_op op_mulI (pv 4) (pv 4)) (pe_op op_mulI pe_int (pv 3))) pe_int) pe_int))
      (pss_one (ps_expr (pe_bm PySem.F.plainAttrs_list PySem.F.slot_list_append PySem.F.type_list_append mt_append (pv 2) (pa_cons (pe_op op_fdiv (pe_op op_mod (pe_op op_mulI (pv 4) pe_int) pe_int) pe_int) pa_nil))))))
      (pss_one (ps_ret (pv 2))))))), ?_⟩
  try dsimp only [cxOf, Cx.nox, Cx.wish]
  simp only [L2.start, List.map_cons, List.map_nil, List.length_cons, List.length_nil, Nat.reduceAdd, Nat.reduceSub, List.replicate_succ, List.replicate_zero, List.cons_append, List.nil_append]
  obtain ⟨hc, hk, h⟩ := h
  walk_at "ws"
  all_goals rename_i p1 H1 n1 s1 e1 hlt
  · refine for_r (fun i σ' G => ∃ (xs : List Int) (y3 y4 : Option V), σ' = [some (.int c), some (.int k), some (.ref p1), y3, y4] ∧ Same H G ∧ G p1 = some (.lst (xs.map V.int)) ∧ xs.length = i ∧ ∀ x ∈ xs, Drawn x) ⟨[], _, _, rfl, s1, e1, rfl, fun _ z => by cases z⟩ (fun i σ' G hi q => ?_) (fun σ' G q => ?_)
    · obtain ⟨xs, y3, y4, rfl, sG, eG, hl, hx⟩ := q
      have hi : i < 12 := hi
      have hlm : (xs.map V.int).length ≤ 100 := by rw [List.length_map]; omega
      walk_at "ws"
      have hp : (0 : Int) < 1 * 2 ^ (27 * (i : Int)).toNat := by
        rw [Int.one_mul]
        exact p2pos _
      refine w_I (wide_div hp (b := 2001) (by rw [abs_pow]; exact Nat.pow_lt_pow_right (by decide) (by omega)) (by decide) (by decide)) ?_
      walk_at "ws"
      have e : (1 : Int) * 2 ^ Int.toNat 27 = 134217728 := by decide
      rw [e]
      refine ⟨xs ++ [_], _, _, rfl, same_mut sG n1, by rw [upd_same, List.map_append]; rfl, by rw [List.length_append, hl]; rfl, fun x hm => ?_⟩
      rcases List.mem_append.mp hm with z | z
      · exact hx x z
      · rw [List.mem_singleton.mp z]
        exact ⟨Int.emod_nonneg _ (by decide), Int.lt_trans (Int.emod_lt_of_pos _ (by decide)) (by decide)⟩
    · obtain ⟨xs, y3, y4, rfl, sG, eG, hl, hx⟩ := q
      walk_at "ws"
      exact h xs p1 G hl hx n1 sG eG
  · refine for_r (fun i σ' G => ∃ (xs : List Int) (y3 : Option V) (v : Int), σ' = [some (.int c), some (.int k), some (.ref p1), y3, some (.int v)] ∧ Same H G ∧ G p1 = some (.lst (xs.map V.int)) ∧ xs.length = i ∧ (∀ x ∈ xs, Drawn x) ∧ 0 ≤ v ∧ v < 2147483648) ⟨[], _, _, rfl, s1, e1, rfl, (fun _ z => by cases z), Int.emod_nonneg _ (by decide), Int.lt_trans (Int.emod_lt_of_pos _ (by decide)) (by decide)⟩ (fun i σ' G hi q => ?_) (fun σ' G q => ?_)
    · obtain ⟨xs, y3, v, rfl, sG, eG, hl, hx, hv0, hv1⟩ := q
      have hi : i < 12 := hi
      have hlm : (xs.map V.int).length ≤ 100 := by rw [List.length_map]; omega
      walk_at "ws"
      refine ⟨xs ++ [_], _, _, rfl, same_mut sG n1, by rw [upd_same, List.map_append]; rfl, by rw [List.length_append, hl]; rfl, fun x hm => ?_, Int.emod_nonneg _ (by decide), Int.lt_trans (Int.emod_lt_of_pos _ (by decide)) (by decide)⟩
      rcases List.mem_append.mp hm with z | z
      · exact hx x z
      · rw [List.mem_singleton.mp z]
        unfold Drawn
        omega
    · obtain ⟨xs, y3, v, rfl, sG, eG, hl, hx, _⟩ := q
      walk_at "ws"
      exact h xs p1 G hl hx n1 sG eG
/-- no number in it is beyond M -/
def NumLe (M : Int) : Fm → Prop
  | .name _ => True
  | .num n => n ≤ M
  | .turned f => NumLe M f
  | .plus f g => NumLe M f ∧ NumLe M g
  | .less f g => NumLe M f ∧ NumLe M g
  | .times f g => NumLe M f ∧ NumLe M g
/-! products: how many there are, what they cost -/
def tmF : Fm → Nat
  | .name _ => 0
  | .num _ => 0
  | .turned f => tmF f
  | .plus f g => tmF f + tmF g
  | .less f g => tmF f + tmF g
  | .times f g => tmF f + tmF g + 1
theorem tm_size : ∀ f : Fm, 2 * tmF f + 1 ≤ f.size
  | .name _ => Nat.le_refl _
  | .num _ => Nat.le_refl _
  | .turned f => by
    have h := tm_size f
    show 2 * tmF f + 1 ≤ f.size + 1
    omega
  | .plus f g => by
    have h1 := tm_size f
    have h2 := tm_size g
    show 2 * (tmF f + tmF g) + 1 ≤ f.size + g.size + 1
    omega
  | .less f g => by
    have h1 := tm_size f
    have h2 := tm_size g
    show 2 * (tmF f + tmF g) + 1 ≤ f.size + g.size + 1
    omega
  | .times f g => by
    have h1 := tm_size f
    have h2 := tm_size g
    show 2 * (tmF f + tmF g + 1) + 1 ≤ f.size + g.size + 1
    omega
theorem A2.unsnoc {α β : Type} {R : α → β → Prop} {xs : List α} {x : α} {ys : List β} (h : A2 R (xs ++ [x]) ys) : ∃ (zs : List β) (y : β), ys = zs ++ [y] ∧ A2 R xs zs ∧ R x y := by
  have hl := h.1
  rw [List.length_append, List.length_singleton] at hl
  have hne : ys ≠ [] := fun z => by rw [z] at hl; cases hl
  refine ⟨ys.dropLast, ys.getLast hne, (List.dropLast_concat_getLast hne).symm, ⟨by rw [List.length_dropLast]; omega, fun i u v hu hv => ?_⟩, ?_⟩
  · have hi := (List.getElem?_eq_some_iff.mp hu).1
    refine h.2 i u v (by rw [List.getElem?_append_left hi]; exact hu) ?_
    rw [List.getElem?_dropLast] at hv
    split at hv
    · exact hv
    · cases hv
  · refine h.2 xs.length x _ (by rw [List.getElem?_append_right (Nat.le_refl _), Nat.sub_self]; rfl) ?_
    rw [List.getLast_eq_getElem, List.getElem?_eq_getElem (show xs.length < ys.length by omega)]
    congr 1
    congr 1
    omega
/-- a stack of formulas -/
def StackAt (H : Hp) (o : Addr) (fs : List Fm) : Prop := ∃ ps : List Addr, H o = some (.lst (ps.map V.ref)) ∧ A2 (FmAt H) ps fs
theorem fm_upd {H : Hp} {o p : Addr} {xs ys : List V} {f : Fm} (e : H o = some (.lst xs)) (h : FmAt H p f) : FmAt (upd H o (.lst ys)) p f := h.keep fun q zs hq => hp_upd (ne_of hq e (by intro z; cases z)) hq
theorem StackAt.push {H G : Hp} {o p : Addr} {fs : List Fm} {f : Fm} {ps : List Addr} (s : Same H G) (e : H o = some (.lst (ps.map V.ref))) (hA : A2 (FmAt H) ps fs) (hf : FmAt G p f) : StackAt (upd G o (.lst (ps.map V.ref ++ [.ref p]))) o (fs ++ [f]) :=
  ⟨ps ++ [p], by rw [upd_same, List.map_append]; rfl, (hA.mono fun _ _ h => fm_upd (s _ _ e) (h.same s)).snoc (fm_upd (s _ _ e) hf)⟩
theorem StackAt.top {H : Hp} {o : Addr} {fs : List Fm} (h : StackAt H o fs) (hl : 0 < fs.length) : ∃ (gs : List Fm) (f : Fm) (qs : List Addr) (p : Addr), fs = gs ++ [f] ∧ H o = some (.lst (qs.map V.ref ++ [.ref p])) ∧ A2 (FmAt H) qs gs ∧ FmAt H p f := by
  obtain ⟨ps, e, hA⟩ := h
  have hpl := hA.1
  have hne : ps ≠ [] := fun z => by rw [z] at hpl; simp at hpl; omega
  rw [← List.dropLast_concat_getLast hne] at e hA
  obtain ⟨gs, f, rfl, h1, h2⟩ := hA.unsnoc
  exact ⟨gs, f, ps.dropLast, ps.getLast hne, rfl, by rw [e, List.map_append]; rfl, h1, h2⟩
/-! a text spoilt at its end or its begin -/
def sufL : List Str := ["+", "-", "*", ")", "()", "(a)", "A", "a1", "."]
def preL : List Str := ["+", "*", "(", "()", "00", "$", "a(", "/"]
/-- behind what is done: none, or not done, or out of balance -/
theorem op_none {s : Ls} {c : Nat} (h : LDone s) (h1 : ¬ (97 ≤ c ∧ c ≤ 122)) (h2 : ¬ (48 ≤ c ∧ c ≤ 57)) (h3 : ¬ (c = 42 ∨ c = 43 ∨ c = 45)) (h4 : c ≠ 41) : lintS s c = none := by
  have e : lintOp c = none := by unfold lintOp; rw [if_neg h3, if_neg h4]
  cases s with
  | R => exact h.elim
  | L n => exact (if_neg h1).trans e
  | Z => exact e
  | D v => exact (if_neg h2).trans e
  | C => exact e
theorem letter_none {s t : Ls} {c : Nat} (h1 : 97 ≤ c ∧ c ≤ 122) (h : LDone s) (e : lintS s c = some t) : ∃ n, t = .L n := by
  have e0 : lintOp c = none := by unfold lintOp; rw [if_neg (by omega), if_neg (by omega)]
  cases s with
  | R => exact h.elim
  | L n =>
    have e : (if 97 ≤ c ∧ c ≤ 122 then (if n < 6 then some (Ls.L (n + 1)) else none) else lintOp c) = some t := e
    rw [if_pos h1] at e
    split at e
    · cases e; exact ⟨_, rfl⟩
    · cases e
  | Z => rw [show lintS .Z c = lintOp c from rfl, e0] at e; cases e
  | D v =>
    have e : (if 48 ≤ c ∧ c ≤ 57 then (if 10 * v + (c - 48) ≤ 1000000000000 then some (Ls.D (10 * v + (c - 48))) else none) else lintOp c) = some t := e
    rw [if_neg (by omega), e0] at e
    cases e
  | C => rw [show lintS .C c = lintOp c from rfl, e0] at e; cases e
theorem suf_not {xs ys : List Nat} (h : Clean xs) (hy : ys = [43] ∨ ys = [45] ∨ ys = [42] ∨ ys = [41] ∨ ys = [40, 41] ∨ ys = [40, 97, 41] ∨ ys = [65] ∨ ys = [97, 49] ∨ ys = [46]) : ¬ Clean (xs ++ ys) := by
  obtain ⟨⟨s, e, d⟩, b⟩ := h
  rintro ⟨⟨t, e2, d2⟩, b2⟩
  rw [lint_some e] at e2
  have no : ∀ c r, lintS s c = none → lint s (c :: r) = some t → False := fun c r hn hs => by rw [lint_fail hn] at hs; cases hs
  rcases hy with rfl | rfl | rfl | rfl | rfl | rfl | rfl | rfl | rfl
  · rw [lint_cons (done_op d (.inr (.inl rfl)))] at e2; cases e2; exact d2
  · rw [lint_cons (done_op d (.inr (.inr rfl)))] at e2; cases e2; exact d2
  · rw [lint_cons (done_op d (.inl rfl))] at e2; cases e2; exact d2
  · rw [bal_app, b, show bal [41] = -1 from rfl] at b2; omega
  · exact no _ _ (op_none d (by decide) (by decide) (by decide) (by decide)) e2
  · exact no _ _ (op_none d (by decide) (by decide) (by decide) (by decide)) e2
  · exact no _ _ (op_none d (by decide) (by decide) (by decide) (by decide)) e2
  · cases k : lintS s 97 with
    | none => exact no _ _ k e2
    | some u =>
      obtain ⟨n, rfl⟩ := letter_none (by decide) d k
      rw [lint_cons k, lint_fail (show lintS (.L n) 49 = none from rfl)] at e2
      cases e2
  · exact no _ _ (op_none d (by decide) (by decide) (by decide) (by decide)) e2
theorem pre_not {xs ys : List Nat} (h : Clean ys) (hx : xs = [43] ∨ xs = [42] ∨ xs = [40] ∨ xs = [40, 41] ∨ xs = [48, 48] ∨ xs = [36] ∨ xs = [97, 40] ∨ xs = [47]) : ¬ Clean (xs ++ ys) := by
  obtain ⟨_, b⟩ := h
  rintro ⟨⟨t, e2, _⟩, b2⟩
  have no : ∀ zs : List Nat, lint .R zs = none → lint .R (zs ++ ys) = some t → False := fun zs hn hs => by rw [lint_none hn] at hs; cases hs
  rcases hx with rfl | rfl | rfl | rfl | rfl | rfl | rfl | rfl
  · exact no _ rfl e2
  · exact no _ rfl e2
  · rw [bal_app, b, show bal [40] = 1 from rfl] at b2; omega
  · exact no _ rfl e2
  · exact no _ rfl e2
  · exact no _ rfl e2
  · exact no _ rfl e2
  · exact no _ rfl e2
def sufC : List (List Nat) := [[43], [45], [42], [41], [40, 41], [40, 97, 41], [65], [97, 49], [46]]
def preC : List (List Nat) := [[43], [42], [40], [40, 41], [48, 48], [36], [97, 40], [47]]
theorem suf_cps : sufL.map (fun x => x.cps.toList) = sufC ∧ preL.map (fun x => x.cps.toList) = preC := by decide +kernel
theorem suf_in {x : Str} (h : x ∈ sufL) : x.cps.toList ∈ sufC := by rw [← suf_cps.1]; exact List.mem_map.mpr ⟨x, h, rfl⟩
theorem pre_in {x : Str} (h : x ∈ preL) : x.cps.toList ∈ preC := by rw [← suf_cps.2]; exact List.mem_map.mpr ⟨x, h, rfl⟩
theorem sufC_small : ∀ cs ∈ sufC ++ preC, cs.length ≤ 3 ∧ wgt cs ≤ 1 ∧ 32 ∉ cs ∧ cs ≠ [] := by decide
/-- a spoilt text of a clean one -/
structure SpoOk (z y : Str) : Prop where
  no : ∀ f, ¬ Wr 0 f y.cps.toList
  len : y.length ≤ z.length + 3
  wg : wgt y.cps.toList ≤ wgt z.cps.toList + 1
  sp : 32 ∉ z.cps.toList → 32 ∉ y.cps.toList
  ne : y.cps.toList ≠ []
theorem spo_suf {z x : Str} (h : Clean z.cps.toList) (hx : x ∈ sufL) : SpoOk z (z ++ x) := by
  have m := suf_in hx
  have k := sufC_small _ (List.mem_append_left _ m)
  refine ⟨fun f w => suf_not h ?_ (by rw [← app_cps]; exact w.clean), by rw [app_len, len_cps x]; omega, by rw [app_cps, wgt_app]; omega, fun hz => ?_, fun e => ?_⟩
  · unfold sufC at m
    simp only [List.mem_cons, List.not_mem_nil, or_false] at m
    exact m
  · rw [app_cps, List.mem_append]
    exact fun z => z.elim hz k.2.2.1
  · rw [app_cps] at e
    exact k.2.2.2 (List.append_eq_nil_iff.mp e).2
theorem spo_pre {z x : Str} (h : Clean z.cps.toList) (hx : x ∈ preL) : SpoOk z (x ++ z) := by
  have m := pre_in hx
  have k := sufC_small _ (List.mem_append_right _ m)
  refine ⟨fun f w => pre_not h ?_ (by rw [← app_cps]; exact w.clean), by rw [app_len, len_cps x]; omega, by rw [app_cps, wgt_app]; omega, fun hz => ?_, fun e => ?_⟩
  · unfold preC at m
    simp only [List.mem_cons, List.not_mem_nil, or_false] at m
    exact m
  · rw [app_cps, List.mem_append]
    exact fun z => z.elim k.2.2.1 hz
  · rw [app_cps] at e
    exact k.2.2.2 (List.append_eq_nil_iff.mp e).1
theorem get_strM {ns : List Str} {i : Int} (h : 0 ≤ i ∧ i < ns.length) : ∃ x, atI (ns.map V.str) i = some (.str x) ∧ x ∈ ns := by
  obtain ⟨n, rfl⟩ := Int.eq_ofNat_of_zero_le h.1
  have hn : n < ns.length := by omega
  exact ⟨ns[n], atI_nat (by rw [List.getElem?_map, List.getElem?_eq_getElem hn]; rfl), List.getElem_mem hn⟩
def sp_law_spoilt (K : PySem.W.Frag) : Sp := fun vs H Q _ => ∃ (z : Str) (v : Int), vs = [.str z, .int v] ∧ z.length ≤ 90000 ∧ Clean z.cps.toList ∧ (0 ≤ v ∧ v < 2147483648) ∧ ∀ (y : Str) H', SpoOk z y → Same H H' → Q (.str y) H'
theorem ok_law_spoilt (T : Top K mg) : FnOk P w K mg base CX0 1 T.a_law_spoilt T.d_law_spoilt ["_law_text_here", "_law_number"] (sp_law_spoilt K) := by
  refine T.f_law_spoilt.ok sc_law_spoilt (fun vs H Q E h => ?_) (fun cdv A outer s H vs Q E hr h => ?_)
  · obtain ⟨z, v, rfl, _⟩ := h
    rfl
  obtain ⟨z, v, rfl, h⟩ := h
  refine ⟨_, (pss_cons (ps_if (pt_cmpR op_eq (pe_op op_mod (pv 1) pe_int) pe_int (nomark _)) (pss_one (ps_ret (pe_op op_addS (pv 0) (pe_ix (ix_listK K) (pe_lst (pa_cons pe_str (pa_cons pe_str (pa_cons pe_str (pa_cons pe_str (pa_cons pe_str (pa_cons pe_str (pa_cons pe_str (pa_cons pe_str (pa_cons pe_str pa_nil)))))))))) (pe_op op_mod (pe_op op_fdiv (pv 1) pe_int) pe_int) (fun _ _ => rfl))))) pss_nil)
      (pss_one (ps_ret (pe_op op_addS (pe_ix (ix_listK K) (pe_lst (pa_cons pe_str (pa_cons pe_str (pa_cons pe_str (pa_cons pe_str (pa_cons pe_str (pa_cons pe_str (pa_cons pe_str (pa_cons pe_str pa_nil))))))))) (pe_op op_mod (pe_op op_fdiv (pv 1) pe_int) pe_int) (fun _ _ => rfl)) (pv 0))))), ?_⟩
  try dsimp only [cxOf, Cx.nox, Cx.wish]
  simp only [L2.start, List.map_cons, List.map_nil, List.length_cons, List.length_nil, Nat.reduceAdd, Nat.reduceSub, List.replicate_succ, List.replicate_zero, List.cons_append, List.nil_append]
  obtain ⟨hz, hc, hv, h⟩ := h
  have short : ∀ x ∈ sufL ++ preL, x.length ≤ 3 := by
    have e : (sufL ++ preL).all (fun x => decide (x.length ≤ 3)) = true := by decide +kernel
    exact fun x m => of_decide_eq_true (List.all_eq_true.mp e x m)
  walk_at "ws"
  · rename_i p H1 n1 s1 e1
    obtain ⟨x, hx, mx⟩ := get_strM (ns := sufL) (i := v / 2 % 9) ⟨by omega, show v / 2 % 9 < 9 by omega⟩
    have := short x (List.mem_append_left _ mx)
    refine w_ixL (SqL.of e1) hx ?_
    walk_at "ws"
    exact h _ _ (spo_suf hc mx) s1
  · rename_i p H1 n1 s1 e1
    obtain ⟨x, hx, mx⟩ := get_strM (ns := preL) (i := v / 2 % 8) ⟨by omega, show v / 2 % 8 < 8 by omega⟩
    have := short x (List.mem_append_right _ mx)
    refine w_ixL (SqL.of e1) hx ?_
    walk_at "ws"
    exact h _ _ (spo_pre hc mx) s1
theorem half_pow (k : Nat) : (2 : Int) ^ (k + 1) / 2 = 2 ^ k := by
  rw [Int.pow_succ]
  omega
theorem spanW_half {z : Int} (h : ¬ 0 < z) (h0 : z ≠ 0) : (2 : Int) ^ (0 - z).toNat / 2 = 2 ^ (-z - 1).toNat := by
  rw [show (0 - z).toNat = (-z - 1).toNat + 1 by omega, half_pow]
def sp_law_ends (K : PySem.W.Frag) : Sp := fun vs H Q _ => ∃ w : Int, vs = [.int w] ∧ (w ≠ 0 ∧ -100 ≤ w ∧ w ≤ 100) ∧
  ∀ p H', H p = none → Same H H' → H' p = some (.tup [.int (spanW w).1, .int (spanW w).2]) → Q (.ref p) H'
theorem ok_law_ends (T : Top K mg) : FnOk P w K mg base CX0 1 T.a_law_ends T.d_law_ends ["_law_width"] (sp_law_ends K) := by
  refine T.f_law_ends.ok sc_law_ends (fun vs H Q E h => ?_) (fun cdv A outer s H vs Q E hr h => ?_)
  · obtain ⟨z, rfl, _⟩ := h
    rfl
  obtain ⟨z, rfl, h⟩ := h
  refine ⟨_, (pss_cons (ps_if (pt_cmpR op_gt (pv 0) pe_int (nomark _)) (pss_one (ps_ret (pe_tup (pa_cons pe_int (pa_cons (pe_op op_sub (pe_op op_shl pe_int (pv 0)) pe_int) pa_nil))))) pss_nil)
      (pss_one (ps_ret (pe_tup (pa_cons (pe_op op_sub pe_int (pe_op op_fdiv (pe_op op_shl pe_int (pe_op op_sub pe_int (pv 0))) pe_int)) (pa_cons (pe_op op_sub (pe_op op_fdiv (pe_op op_shl pe_int (pe_op op_sub pe_int (pv 0))) pe_int) pe_int) pa_nil)))))), ?_⟩
  try dsimp only [cxOf, Cx.nox, Cx.wish]
  simp only [L2.start, List.map_cons, List.map_nil, List.length_cons, List.length_nil, Nat.reduceAdd, Nat.reduceSub, List.replicate_succ, List.replicate_zero, List.cons_append, List.nil_append]
  obtain ⟨⟨h0, h1, h2⟩, h⟩ := h
  walk_at "ws"
  · rename_i hz p H1 hn hs hp
    refine h p H1 hn hs ?_
    rw [hp, spanW, if_pos hz, Int.one_mul]
  · rename_i hz p H1 hn hs hp
    refine h p H1 hn hs ?_
    rw [hp, spanW, if_neg hz, Int.one_mul, spanW_half hz h0, Int.zero_sub]
def sp_law_span (K : PySem.W.Frag) (n : Nat) : Sp := fun vs H Q _ => ∃ (p d : Addr) (f : Fm) (ws : List (Str × Int)) (N : Str → Prop), vs = [.ref p, .ref d] ∧ FmAt H p f ∧ H d = some (.dK (wkv ws)) ∧ FmOk N f ∧ Has N ws ∧ WdOk ws ∧ f.size ≤ n ∧ f.size ≤ 1000 ∧
  ∀ q H', H q = none → Same H H' → H' q = some (.tup [.int (spanF ws f).1, .int (spanF ws f).2]) → Q (.ref q) H'
theorem no_law_span {vs : List V} {H : Hp} {Q : VK} {E : XK} (h : sp_law_span K 0 vs H Q E) : False := by
  obtain ⟨p, d, f, ws, N, _, _, _, _, _, _, h0, _⟩ := h
  have := f.size_pos
  omega
theorem rec_law_span (T : Top K mg) (n : Nat) (ih : FnOk P w K mg base CX0 (2 + n) T.a_law_span T.d_law_span ["_law_formula_here", "_law_widths"] (sp_law_span K n)) : FnOk P w K mg base CX0 (2 + n + 1) T.a_law_span T.d_law_span ["_law_formula_here", "_law_widths"] (sp_law_span K (n + 1)) := by
  refine T.f_law_span.ok sc_law_span (fun vs H Q E h => ?_) (fun cdv A outer s H vs Q E hr h => ?_)
  · obtain ⟨p, d, f, ws, N, rfl, _⟩ := h
    rfl
  obtain ⟨p, d, f, ws, N, rfl, h⟩ := h
  refine ⟨_, (pss_cons (ps_if (pt_cmpR op_eq (pe_ix (ix_tupK K) (pv 0) pe_int (fun _ _ => rfl)) pe_str (nomark _)) (pss_one (ps_ret (pe_call (ok_law_ends T) (hr.mono (by omega)) (by rfl) T.g_law_ends T.f_law_ends.kp T.b_law_ends .nil pass0 (pa_cons (pe_dget (hu_of hr) (pv 1) (pe_ix (ix_tupK K) (pv 0) pe_int (fun _ _ => rfl)) (fun _ _ => rfl)) pa_nil)))) pss_nil)
      (pss_cons (ps_if (pt_cmpR op_eq (pe_ix (ix_tupK K) (pv 0) pe_int (fun _ _ => rfl)) pe_str (nomark _)) (pss_one (ps_ret (pe_tup (pa_cons (pe_ix (ix_tupK K) (pv 0) pe_int (fun _ _ => rfl)) (pa_cons (pe_ix (ix_tupK K) (pv 0) pe_int (fun _ _ => rfl)) pa_nil))))) pss_nil)
      (pss_cons (ps_set (i := 2) sc_law_span.nd rfl (.inl rfl) (pe_call ih hr (by rfl) T.g_law_span T.f_law_span.kp T.b_law_span .nil pass0 (pa_cons (pe_ix (ix_tupK K) (pv 0) pe_int (fun _ _ => rfl)) (pa_cons (pv 1) pa_nil))))
      (pss_cons (ps_if (pt_cmpR op_eq (pe_ix (ix_tupK K) (pv 0) pe_int (fun _ _ => rfl)) pe_str (nomark _)) (pss_one (ps_ret (pe_tup (pa_cons (pe_op op_sub pe_int (pe_ix (ix_tupK K) (pv 2) pe_int (fun _ _ => rfl))) (pa_cons (pe_op op_sub pe_int (pe_ix (ix_tupK K) (pv 2) pe_int (fun _ _ => rfl))) pa_nil))))) pss_nil)
      (pss_cons (ps_set (i := 3) sc_law_span.nd rfl (.inr rfl) (pe_call ih hr (by rfl) T.g_law_span T.f_law_span.kp T.b_law_span .nil pass0 (pa_cons (pe_ix (ix_tupK K) (pv 0) pe_int (fun _ _ => rfl)) (pa_cons (pv 1) pa_nil))))
      (pss_cons (ps_if (pt_cmpR op_eq (pe_ix (ix_tupK K) (pv 0) pe_int (fun _ _ => rfl)) pe_str (nomark _)) (pss_one (ps_ret (pe_tup (pa_cons (pe_op op_add (pe_ix (ix_tupK K) (pv 2) pe_int (fun _ _ => rfl)) (pe_ix (ix_tupK K) (pv 3) pe_int (fun _ _ => rfl))) (pa_cons (pe_op op_add (pe_ix (ix_tupK K) (pv 2) pe_int (fun _ _ => rfl)) (pe_ix (ix_tupK K) (pv 3) pe_int (fun _ _ => rfl))) pa_nil))))) pss_nil)
      (pss_cons (ps_if (pt_cmpR op_eq (pe_ix (ix_tupK K) (pv 0) pe_int (fun _ _ => rfl)) pe_str (nomark _)) (pss_one (ps_ret (pe_tup (pa_cons (pe_op op_sub (pe_ix (ix_tupK K) (pv 2) pe_int (fun _ _ => rfl)) (pe_ix (ix_tupK K) (pv 3) pe_int (fun _ _ => rfl))) (pa_cons (pe_op op_sub (pe_ix (ix_tupK K) (pv 2) pe_int (fun _ _ => rfl)) (pe_ix (ix_tupK K) (pv 3) pe_int (fun _ _ => rfl))) pa_nil))))) pss_nil)
      (pss_cons (ps_set (i := 4) sc_law_span.nd rfl (.inl rfl) (pe_op op_cat (pe_lc (own := [("_law_end", 5)]) (g := gName 5) (tt := tYes) (by rfl) sc_law_span.nd (pi_tup (pv 2)) (blkOk_by (N := ["_law_formula_here", "_law_widths", "_law_one", "_law_other", "_law_ends_here", "_law_end"]) (sc := defScope s_law_span) (by decide +kernel)) (fun _ _ _ _ _ => (pg_name (i := 5) sc_law_span.nd rfl (.inl rfl))) (fun _ _ _ _ _ => pts_nil) (fun _ _ _ _ _ => (pe_op op_mulI (pv 5) (pe_ix (ix_tupK K) (pv 3) pe_int (fun _ _ => rfl))))) (pe_lc (own := [("_law_end", 5)]) (g := gName 5) (tt := tYes) (by rfl) sc_law_span.nd (pi_tup (pv 2)) (blkOk_by (N := ["_law_formula_here", "_law_widths", "_law_one", "_law_other", "_law_ends_here", "_law_end"]) (sc := defScope s_law_span) (by decide +kernel)) (fun _ _ _ _ _ => (pg_name (i := 5) sc_law_span.nd rfl (.inl rfl))) (fun _ _ _ _ _ => pts_nil) (fun _ _ _ _ _ => (pe_op op_mulI (pv 5) (pe_ix (ix_tupK K) (pv 3) pe_int (fun _ _ => rfl)))))))
      (pss_one (ps_ret (pe_tup (pa_cons (pe_callB (c_minK K) (by rfl) T.z_min (by decide +kernel) (pa_cons (pv 4) pa_nil)) (pa_cons (pe_callB (c_maxK K) (by rfl) T.z_max (by decide +kernel) (pa_cons (pv 4) pa_nil)) pa_nil))))))))))))), ?_⟩
  try dsimp only [cxOf, Cx.nox, Cx.wish]
  simp only [L2.start, List.map_cons, List.map_nil, List.length_cons, List.length_nil, Nat.reduceAdd, Nat.reduceSub, List.replicate_succ, List.replicate_zero, List.cons_append, List.nil_append]
  obtain ⟨hp, hd, ok, has, wd, hn, hk, h⟩ := h
  cases f with
  | name m =>
    have hp : H p = some (.tup [.str "name", .str m]) := hp
    obtain ⟨v, hv⟩ := has m ok
    have hv2 : valV (wkv ws) (Sum.inr m) = some (.int v) := by rw [valV_wkv, hv]; rfl
    have e : spanF ws (.name m) = spanW v := by show spanW ((lookW ws m).getD 1) = _; rw [hv]; rfl
    rw [e] at h
    have := wd m v hv
    walk_at "ws"
    exact ⟨v, rfl, by omega, h⟩
  | num m =>
    have hp : H p = some (.tup [.str "number", .int m]) := hp
    walk_at "ws"
    exact h _ _ (by assumption) (by assumption) (by assumption)
  | turned f =>
    obtain ⟨a, hp, ha⟩ := hp
    have hn : f.size + 1 ≤ n + 1 := hn
    have hk : f.size + 1 ≤ 1000 := hk
    walk_at "ws"
    refine ⟨a, d, f, ws, N, rfl, ha, hd, ok, has, wd, by omega, by omega, fun q1 H1 n1 s1 e1 => ?_⟩
    have hp1 := s1 _ _ hp
    walk_at "ws"
    rename_i p3 H3 n3 s3 e3
    exact h _ _ (s1.free n3) (s1.trans s3) (by rw [e3, Int.zero_sub, Int.zero_sub]; rfl)
  | plus f g =>
    obtain ⟨a, b, hp, ha, hb⟩ := hp
    have hn : f.size + g.size + 1 ≤ n + 1 := hn
    have hk : f.size + g.size + 1 ≤ 1000 := hk
    have := f.size_pos
    have := g.size_pos
    walk_at "ws"
    refine ⟨a, d, f, ws, N, rfl, ha, hd, ok.1, has, wd, by omega, by omega, fun q1 H1 n1 s1 e1 => ?_⟩
    have hp1 := s1 _ _ hp
    walk_at "ws"
    refine ⟨b, d, g, ws, N, rfl, hb.same s1, s1 _ _ hd, ok.2, has, wd, by omega, by omega, fun q2 H2 n2 s2 e2 => ?_⟩
    have e12 := s2 _ _ e1
    have hp2 := s2 _ _ hp1
    have s12 := s1.trans s2
    walk_at "ws"
    exact h _ _ (s12.free (by assumption)) (s12.trans (by assumption)) (by assumption)
  | less f g =>
    obtain ⟨a, b, hp, ha, hb⟩ := hp
    have hn : f.size + g.size + 1 ≤ n + 1 := hn
    have hk : f.size + g.size + 1 ≤ 1000 := hk
    have := f.size_pos
    have := g.size_pos
    walk_at "ws"
    refine ⟨a, d, f, ws, N, rfl, ha, hd, ok.1, has, wd, by omega, by omega, fun q1 H1 n1 s1 e1 => ?_⟩
    have hp1 := s1 _ _ hp
    walk_at "ws"
    refine ⟨b, d, g, ws, N, rfl, hb.same s1, s1 _ _ hd, ok.2, has, wd, by omega, by omega, fun q2 H2 n2 s2 e2 => ?_⟩
    have e12 := s2 _ _ e1
    have hp2 := s2 _ _ hp1
    have s12 := s1.trans s2
    walk_at "ws"
    exact h _ _ (s12.free (by assumption)) (s12.trans (by assumption)) (by assumption)
  | times f g =>
    obtain ⟨a, b, hp, ha, hb⟩ := hp
    have hn : f.size + g.size + 1 ≤ n + 1 := hn
    have hk : f.size + g.size + 1 ≤ 1000 := hk
    have := f.size_pos
    have := g.size_pos
    have m1 := span_bd wd ok.1
    have m2 := span_bd wd ok.2
    have i1 := mul_abs m1.1 m2.1 (by omega)
    have i2 := mul_abs m1.1 m2.2 (by omega)
    have i3 := mul_abs m1.2 m2.1 (by omega)
    have i4 := mul_abs m1.2 m2.2 (by omega)
    walk_at "ws"
    refine ⟨a, d, f, ws, N, rfl, ha, hd, ok.1, has, wd, by omega, by omega, fun q1 H1 n1 s1 e1 => ?_⟩
    have hp1 := s1 _ _ hp
    walk_at "ws"
    refine ⟨b, d, g, ws, N, rfl, hb.same s1, s1 _ _ hd, ok.2, has, wd, by omega, by omega, fun q2 H2 n2 s2 e2 => ?_⟩
    have e12 := s2 _ _ e1
    have hp2 := s2 _ _ hp1
    have s12 := s1.trans s2
    walk_at "ws"
    have hSf : SqT K H2 q1 ([(spanF ws f).1, (spanF ws f).2].map V.int) := SqT.of e12
    refine lc_t ([(spanF ws f).1, (spanF ws f).2].map V.int) ([(spanF ws f).1 * (spanF ws g).1, (spanF ws f).2 * (spanF ws g).1].map V.int) rfl hSf (Nat.le_of_ble_eq_true rfl) (fun x => rfl) (fun k x y G Q' hx hy sm kk => ?_) (fun p3 H3 n3 s3 e3 => ?_)
    · have e2G := sm _ _ e2
      rcases k with _ | _ | k
      · cases hx; cases hy
        walk_at "ws"
        refine w_I i1 ?_
        exact kk
      · cases hx; cases hy
        walk_at "ws"
        refine w_I i3 ?_
        exact kk
      · cases hx
    have e23 := s3 _ _ e2
    have e13 := s3 _ _ e12
    walk_at "ws"
    have hSf3 : SqT K H3 q1 ([(spanF ws f).1, (spanF ws f).2].map V.int) := SqT.of e13
    refine lc_t ([(spanF ws f).1, (spanF ws f).2].map V.int) ([(spanF ws f).1 * (spanF ws g).2, (spanF ws f).2 * (spanF ws g).2].map V.int) rfl hSf3 (Nat.le_of_ble_eq_true rfl) (fun x => rfl) (fun k x y G Q' hx hy sm kk => ?_) (fun p4 H4 n4 s4 e4 => ?_)
    · have e2G := sm _ _ e23
      rcases k with _ | _ | k
      · cases hx; cases hy
        walk_at "ws"
        refine w_I i2 ?_
        exact kk
      · cases hx; cases hy
        walk_at "ws"
        refine w_I i4 ?_
        exact kk
      · cases hx
    refine w_cat (s4 _ _ e3) e4 (Nat.le_of_ble_eq_true rfl) fun p5 H5 n5 s5 e5 => ?_
    have e5 : H5 p5 = some (.lst ([(spanF ws f).1 * (spanF ws g).1, (spanF ws f).2 * (spanF ws g).1, (spanF ws f).1 * (spanF ws g).2, (spanF ws f).2 * (spanF ws g).2].map V.int)) := e5
    have perm : ∀ x : Int, x ∈ [(spanF ws f).1 * (spanF ws g).1, (spanF ws f).2 * (spanF ws g).1, (spanF ws f).1 * (spanF ws g).2, (spanF ws f).2 * (spanF ws g).2] ↔ x ∈ [(spanF ws f).1 * (spanF ws g).1, (spanF ws f).1 * (spanF ws g).2, (spanF ws f).2 * (spanF ws g).1, (spanF ws f).2 * (spanF ws g).2] := by
      intro x
      simp only [List.mem_cons, List.not_mem_nil, or_false]
      constructor <;> (intro hh; rcases hh with hh | hh | hh | hh) <;> first | exact .inl hh | exact .inr (.inl hh) | exact .inr (.inr (.inl hh)) | exact .inr (.inr (.inr hh))
    walk_at "ws"
    refine w_minL (SqL.of e5) (Nat.succ_pos _) fun m1 k1 k2 => ?_
    walk_at "ws"
    refine w_maxL (SqL.of e5) (Nat.succ_pos _) fun m2 k3 k4 => ?_
    rw [min_is ((perm m1).mp k1) (fun y hy => k2 y ((perm y).mpr hy)), max_is ((perm m2).mp k3) (fun y hy => k4 y ((perm y).mpr hy))]
    have s15 := ((s12.trans s3).trans s4).trans s5
    walk_at "ws"
    exact h _ _ (s15.free (by assumption)) (s15.trans (by assumption)) (by assumption)
theorem all_law_span (T : Top K mg) : ∀ n : Nat, FnOk P w K mg base CX0 (2 + n) T.a_law_span T.d_law_span ["_law_formula_here", "_law_widths"] (sp_law_span K n)
  | 0 => T.f_law_span.ok (k := 1) sc_law_span (fun _ _ _ _ h => (no_law_span h).elim) (fun _ _ _ _ _ _ _ _ _ h => (no_law_span h).elim)
  | n + 1 => rec_law_span T n (all_law_span T n)
theorem ok_law_span (T : Top K mg) : FnOk P w K mg base CX0 62 T.a_law_span T.d_law_span ["_law_formula_here", "_law_widths"] (sp_law_span K 60) := all_law_span T 60
/-! what is written is read again: formulas -/
def rankF : Fm → Nat
  | .name _ => 2
  | .num _ => 2
  | .turned _ => 2
  | .times _ _ => 1
  | _ => 0
theorem Wr.to0 {r : Nat} {f : Fm} {cs : List Nat} (h : Wr r f cs) : Wr 0 f cs := by
  cases h with
  | name h0 h7 hs => exact (Wr.name h0 h7 hs).one.sum
  | num h0 h14 hs hz hm => exact (Wr.num h0 h14 hs hz hm).one.sum
  | turned h => exact h.turned.one.sum
  | held h => exact h.held.one.sum
  | one h => exact h.one.sum
  | sum h => exact h.sum
  | times h k => exact (h.times k).sum
  | plus h k => exact h.plus k
  | less h k => exact h.less k
theorem held_cps (b : Bool) (z : Str) : (heldS b z).cps.toList = if b = true then 40 :: (z.cps.toList ++ [41]) else z.cps.toList := by
  unfold heldS
  cases b with
  | true =>
    rw [if_pos rfl, if_pos rfl, app_cps, app_cps, show (Str.ofString "(").cps.toList = [40] by decide +kernel, show (Str.ofString ")").cps.toList = [41] by decide +kernel, List.append_assoc]
    rfl
  | false => rw [if_neg (by decide), if_neg (by decide)]
theorem held_T {b : Bool} {z : Str} (h : b = true) : (heldS b z).cps.toList = 40 :: (z.cps.toList ++ [41]) := by rw [held_cps, if_pos h]
theorem held_F {b : Bool} {z : Str} (h : b = false) : (heldS b z).cps.toList = z.cps.toList := by rw [held_cps, if_neg (by rw [h]; decide)]
theorem held_wr4 {f : Fm} {z : Str} (h : Wr (rankF f) f z.cps.toList) : Wr 2 f (heldS (inV (.str (headF f)) (sums4.map V.str)) z).cps.toList := by
  cases f with
  | name m => simp only [headF]; rw [held_F (show inV (.str (Str.ofString "name")) (sums4.map V.str) = false by decide +kernel)]; exact h
  | num m => simp only [headF]; rw [held_F (show inV (.str (Str.ofString "number")) (sums4.map V.str) = false by decide +kernel)]; exact h
  | turned m => simp only [headF]; rw [held_T (show inV (.str (Str.ofString "turned")) (sums4.map V.str) = true by decide +kernel)]; exact h.to0.held
  | times f g => simp only [headF]; rw [held_T (show inV (.str (Str.ofString "times")) (sums4.map V.str) = true by decide +kernel)]; exact h.to0.held
  | plus f g => simp only [headF]; rw [held_T (show inV (.str (Str.ofString "plus")) (sums4.map V.str) = true by decide +kernel)]; exact h.to0.held
  | less f g => simp only [headF]; rw [held_T (show inV (.str (Str.ofString "less")) (sums4.map V.str) = true by decide +kernel)]; exact h.to0.held
theorem held_wr {f : Fm} {z : Str} (h : Wr (rankF f) f z.cps.toList) : Wr 1 f (heldS (inV (.str (headF f)) (sums.map V.str)) z).cps.toList := by
  cases f with
  | name m => simp only [headF]; rw [held_F (show inV (.str (Str.ofString "name")) (sums.map V.str) = false by decide +kernel)]; exact h.one
  | num m => simp only [headF]; rw [held_F (show inV (.str (Str.ofString "number")) (sums.map V.str) = false by decide +kernel)]; exact h.one
  | turned m => simp only [headF]; rw [held_T (show inV (.str (Str.ofString "turned")) (sums.map V.str) = true by decide +kernel)]; exact h.to0.held.one
  | times f g => simp only [headF]; rw [held_F (show inV (.str (Str.ofString "times")) (sums.map V.str) = false by decide +kernel)]; exact h
  | plus f g => simp only [headF]; rw [held_T (show inV (.str (Str.ofString "plus")) (sums.map V.str) = true by decide +kernel)]; exact h.to0.held.one
  | less f g => simp only [headF]; rw [held_T (show inV (.str (Str.ofString "less")) (sums.map V.str) = true by decide +kernel)]; exact h.to0.held.one
theorem shown_wr : ∀ {f : Fm}, FmOk NameOk f → Wr (rankF f) f (shownF f).cps.toList
  | .name m, ok => name_wr ok
  | .num v, ok => num_wr ok
  | .turned f, ok => by
    have a := held_wr4 (shown_wr (f := f) ok)
    unfold shownF
    rw [app_cps, show (Str.ofString "-").cps.toList = [45] by decide +kernel]
    exact a.turned
  | .times f g, ok => by
    have a := held_wr (shown_wr (f := f) ok.1)
    have b := held_wr4 (shown_wr (f := g) ok.2)
    unfold shownF
    rw [app_cps, app_cps, show (Str.ofString "*").cps.toList = [42] by decide +kernel, List.append_assoc]
    exact a.times b
  | .plus f g, ok => by
    have a := shown_wr (f := f) ok.1
    have b := held_wr (shown_wr (f := g) ok.2)
    unfold shownF
    rw [app_cps, app_cps, show (Str.ofString "+").cps.toList = [43] by decide +kernel, List.append_assoc]
    exact a.to0.plus b
  | .less f g, ok => by
    have a := shown_wr (f := f) ok.1
    have b := held_wr (shown_wr (f := g) ok.2)
    unfold shownF
    rw [app_cps, app_cps, show (Str.ofString "-").cps.toList = [45] by decide +kernel, List.append_assoc]
    exact a.to0.less b
theorem wgt_held (b : Bool) (z : Str) : wgt (heldS b z).cps.toList ≤ wgt z.cps.toList + 1 := by
  rw [held_cps]
  split
  · rw [wgt_40, wgt_app, show wgt [41] = 0 from rfl]
    omega
  · omega
theorem shown_wgt : ∀ {f : Fm}, FmOk NameOk f → wgt (shownF f).cps.toList + 2 ≤ 2 * f.size
  | .name m, ok => by
    have e := wgt_off (cs := m.cps.toList) fun c hc => by have := ok.2 c hc; unfold letter at this; omega
    show wgt m.cps.toList + 2 ≤ 2 * 1
    omega
  | .num v, ok => by
    obtain ⟨m, rfl⟩ := Int.eq_ofNat_of_zero_le ok.1
    have e := wgt_off (cs := (Str.ofString (toString ((m : Nat) : Int))).cps.toList) fun c hc => by
      rw [num_digits] at hc
      have := num_all m c hc
      omega
    show wgt (Str.ofString (toString ((m : Nat) : Int))).cps.toList + 2 ≤ 2 * 1
    omega
  | .turned f, ok => by
    have a := shown_wgt (f := f) ok
    have b := wgt_held (inV (.str (headF f)) (sums4.map V.str)) (shownF f)
    unfold shownF
    rw [app_cps, wgt_app, show (Str.ofString "-").cps.toList = [45] by decide +kernel, show wgt [45] = 1 from rfl]
    show _ ≤ 2 * (f.size + 1)
    omega
  | .times f g, ok => by
    have a := shown_wgt (f := f) ok.1
    have a2 := shown_wgt (f := g) ok.2
    have b := wgt_held (inV (.str (headF f)) (sums.map V.str)) (shownF f)
    have b2 := wgt_held (inV (.str (headF g)) (sums4.map V.str)) (shownF g)
    unfold shownF
    rw [app_cps, app_cps, wgt_app, wgt_app, show (Str.ofString "*").cps.toList = [42] by decide +kernel, show wgt [42] = 0 from rfl]
    show _ ≤ 2 * (f.size + g.size + 1)
    omega
  | .plus f g, ok => by
    have a := shown_wgt (f := f) ok.1
    have a2 := shown_wgt (f := g) ok.2
    have b2 := wgt_held (inV (.str (headF g)) (sums.map V.str)) (shownF g)
    unfold shownF
    rw [app_cps, app_cps, wgt_app, wgt_app, show (Str.ofString "+").cps.toList = [43] by decide +kernel, show wgt [43] = 0 from rfl]
    show _ ≤ 2 * (f.size + g.size + 1)
    omega
  | .less f g, ok => by
    have a := shown_wgt (f := f) ok.1
    have a2 := shown_wgt (f := g) ok.2
    have b2 := wgt_held (inV (.str (headF g)) (sums.map V.str)) (shownF g)
    unfold shownF
    rw [app_cps, app_cps, wgt_app, wgt_app, show (Str.ofString "-").cps.toList = [45] by decide +kernel, show wgt [45] = 1 from rfl]
    show _ ≤ 2 * (f.size + g.size + 1)
    omega
def sp_law_text (K : PySem.W.Frag) (n : Nat) : Sp := fun vs H Q _ => ∃ (p : Addr) (f : Fm) (N : Str → Prop), vs = [.ref p] ∧ FmAt H p f ∧ FmOk N f ∧ (∀ m, N m → m.length ≤ 6) ∧ 2 * f.size ≤ n ∧ f.size ≤ 60 ∧ ∀ H', Same H H' → Q (.str (shownF f)) H'
def sp_law_bracketed (K : PySem.W.Frag) (n : Nat) : Sp := fun vs H Q _ => ∃ (p w : Addr) (f : Fm) (ws : List Str) (N : Str → Prop), vs = [.ref p, .ref w] ∧ FmAt H p f ∧ H w = some (.lst (ws.map V.str)) ∧ FmOk N f ∧ (∀ m, N m → m.length ≤ 6) ∧ 2 * f.size + 1 ≤ n ∧ f.size ≤ 60 ∧ ∀ H', Same H H' → Q (.str (heldS (inV (.str (headF f)) (ws.map V.str)) (shownF f))) H'
theorem no_law_text {vs : List V} {H : Hp} {Q : VK} {E : XK} (h : sp_law_text K 0 vs H Q E) : False := by
  obtain ⟨p, f, N, _, _, _, _, h0, _⟩ := h
  have := f.size_pos
  omega
theorem no_law_bracketed {vs : List V} {H : Hp} {Q : VK} {E : XK} (h : sp_law_bracketed K 0 vs H Q E) : False := by
  obtain ⟨p, w, f, ws, N, _, _, _, _, _, h0, _⟩ := h
  omega
theorem rec_law_bracketed (T : Top K mg) (n : Nat) (ih_law_text : FnOk P w K mg base CX0 (1 + n) T.a_law_text T.d_law_text ["_law_formula_here"] (sp_law_text K n)) (ih_law_bracketed : FnOk P w K mg base CX0 (1 + n) T.a_law_bracketed T.d_law_bracketed ["_law_formula_here", "_law_words"] (sp_law_bracketed K n)) : FnOk P w K mg base CX0 (1 + n + 1) T.a_law_bracketed T.d_law_bracketed ["_law_formula_here", "_law_words"] (sp_law_bracketed K (n + 1)) := by
  refine T.f_law_bracketed.ok sc_law_bracketed (fun vs H Q E h => ?_) (fun cdv A outer s H vs Q E hr h => ?_)
  · obtain ⟨p, w, f, ws, N, rfl, _⟩ := h
    rfl
  obtain ⟨p, w, f, ws, N, rfl, h⟩ := h
  refine ⟨_, (pss_cons (ps_if (pt_cmpR (op_inK K) (pe_ix (ix_tupK K) (pv 0) pe_int (fun _ _ => rfl)) (pv 1) (by rfl)) (pss_one (ps_ret (pe_op op_addS (pe_op op_addS pe_str (pe_call ih_law_text hr (by rfl) T.g_law_text T.f_law_text.kp T.b_law_text .nil pass0 (pa_cons (pv 0) pa_nil))) pe_str))) pss_nil)
      (pss_one (ps_ret (pe_call ih_law_text hr (by rfl) T.g_law_text T.f_law_text.kp T.b_law_text .nil pass0 (pa_cons (pv 0) pa_nil))))), ?_⟩
  try dsimp only [cxOf, Cx.nox, Cx.wish]
  simp only [L2.start, List.map_cons, List.map_nil, List.length_cons, List.length_nil, Nat.reduceAdd, Nat.reduceSub, List.replicate_succ, List.replicate_zero, List.cons_append, List.nil_append]
  obtain ⟨hp, hw, ok, hN, hn, hs, h⟩ := h
  have hlen := shown_len hN ok
  have hfp := hp
  have l1 : (Str.ofString "(").length = 1 := rfl
  have l2 : (Str.ofString ")").length = 1 := rfl
  have hsp := Nat.mul_le_mul_left 20 hs
  obtain ⟨hd, hhd⟩ : ∃ hd, hd = headF f := ⟨_, rfl⟩
  obtain ⟨z, hz⟩ : ∃ z, z = shownF f := ⟨_, rfl⟩
  rw [← hhd, ← hz] at h
  rw [← hz] at hlen
  have call : ∀ {H2 : Hp} {Q2 : VK} {E2 : XK}, Same H H2 → (∀ H', Same H2 H' → Q2 (.str z) H') → sp_law_text K n ([.ref p] ++ []) H2 Q2 E2 := fun s q => ⟨p, f, N, rfl, hfp.same s, ok, hN, by omega, hs, by rw [← hz]; exact q⟩
  have hz20 : z.length ≤ 20 * 60 := by omega
  have hap := app_len (Str.ofString "(") z
  have key : ∀ xs : List V, H p = some (.tup (.str hd :: xs)) → True := fun _ _ => trivial
  clear hlen hsp hz
  cases f
  all_goals first
    | (have hp : H p = some (.tup [.str "name", .str _]) := hp; skip)
    | (have hp : H p = some (.tup [.str "number", .int _]) := hp; skip)
    | (obtain ⟨a, b, hp, _⟩ := hp; skip)
    | (obtain ⟨a, hp, _⟩ := hp; skip)
  all_goals
    unfold headF at hhd
    subst hhd
    walk_at "ws"
    refine w_inL (SqL.of hw) rfl (flat_strs ws) ?_
    refine ⟨_, rfl, ?_⟩
    cases hb : inV _ (ws.map V.str) with
    | true =>
      rw [hb] at h
      rw [if_pos rfl]
      walk_at "ws"
      refine call (Same.refl _) fun H' s => ?_
      walk_at "ws"
      exact h H' s
    | false =>
      rw [hb] at h
      rw [if_neg (by decide)]
      walk_at "ws"
      refine call (Same.refl _) fun H' s => ?_
      exact h H' s
theorem rec_law_text (T : Top K mg) (n : Nat) (ih_law_text : FnOk P w K mg base CX0 (1 + n) T.a_law_text T.d_law_text ["_law_formula_here"] (sp_law_text K n)) (ih_law_bracketed : FnOk P w K mg base CX0 (1 + n) T.a_law_bracketed T.d_law_bracketed ["_law_formula_here", "_law_words"] (sp_law_bracketed K n)) : FnOk P w K mg base CX0 (1 + n + 1) T.a_law_text T.d_law_text ["_law_formula_here"] (sp_law_text K (n + 1)) := by
  refine T.f_law_text.ok sc_law_text (fun vs H Q E h => ?_) (fun cdv A outer s H vs Q E hr h => ?_)
  · obtain ⟨p, f, N, rfl, _⟩ := h
    rfl
  obtain ⟨p, f, N, rfl, h⟩ := h
  refine ⟨_, (pss_cons (ps_if (pt_cmpR op_eq (pe_ix (ix_tupK K) (pv 0) pe_int (fun _ _ => rfl)) pe_str (nomark _)) (pss_one (ps_ret (pe_ix (ix_tupK K) (pv 0) pe_int (fun _ _ => rfl)))) pss_nil)
      (pss_cons (ps_if (pt_cmpR op_eq (pe_ix (ix_tupK K) (pv 0) pe_int (fun _ _ => rfl)) pe_str (nomark _)) (pss_one (ps_ret (pe_callTy c_strI (by rfl) T.z_str (by decide +kernel) (pa_cons (pe_ix (ix_tupK K) (pv 0) pe_int (fun _ _ => rfl)) pa_nil)))) pss_nil)
      (pss_cons (ps_if (pt_cmpR op_eq (pe_ix (ix_tupK K) (pv 0) pe_int (fun _ _ => rfl)) pe_str (nomark _)) (pss_one (ps_ret (pe_op op_addS pe_str (pe_call ih_law_bracketed hr (by rfl) T.g_law_bracketed T.f_law_bracketed.kp T.b_law_bracketed .nil pass0 (pa_cons (pe_ix (ix_tupK K) (pv 0) pe_int (fun _ _ => rfl)) (pa_cons (pe_lst (pa_cons pe_str (pa_cons pe_str (pa_cons pe_str (pa_cons pe_str pa_nil))))) pa_nil)))))) pss_nil)
      (pss_cons (ps_if (pt_cmpR op_eq (pe_ix (ix_tupK K) (pv 0) pe_int (fun _ _ => rfl)) pe_str (nomark _)) (pss_cons (ps_set (i := 1) sc_law_text.nd rfl (.inl rfl) (pe_call ih_law_bracketed hr (by rfl) T.g_law_bracketed T.f_law_bracketed.kp T.b_law_bracketed .nil pass0 (pa_cons (pe_ix (ix_tupK K) (pv 0) pe_int (fun _ _ => rfl)) (pa_cons (pe_lst (pa_cons pe_str (pa_cons pe_str (pa_cons pe_str pa_nil)))) pa_nil))))
      (pss_one (ps_ret (pe_op op_addS (pe_op op_addS (pv 1) pe_str) (pe_call ih_law_bracketed hr (by rfl) T.g_law_bracketed T.f_law_bracketed.kp T.b_law_bracketed .nil pass0 (pa_cons (pe_ix (ix_tupK K) (pv 0) pe_int (fun _ _ => rfl)) (pa_cons (pe_lst (pa_cons pe_str (pa_cons pe_str (pa_cons pe_str (pa_cons pe_str pa_nil))))) pa_nil))))))) pss_nil)
      (pss_cons (ps_set (i := 2) sc_law_text.nd rfl (.inl rfl) (pe_call ih_law_bracketed hr (by rfl) T.g_law_bracketed T.f_law_bracketed.kp T.b_law_bracketed .nil pass0 (pa_cons (pe_ix (ix_tupK K) (pv 0) pe_int (fun _ _ => rfl)) (pa_cons (pe_lst (pa_cons pe_str (pa_cons pe_str (pa_cons pe_str pa_nil)))) pa_nil))))
      (pss_one (ps_ret (pe_op op_addS (pe_op op_addS (pe_call ih_law_text hr (by rfl) T.g_law_text T.f_law_text.kp T.b_law_text .nil pass0 (pa_cons (pe_ix (ix_tupK K) (pv 0) pe_int (fun _ _ => rfl)) pa_nil)) (pe_ix (ix_listK K) (pe_lst (pa_cons pe_str (pa_cons pe_str pa_nil))) (pe_callTy c_intB (by rfl) T.z_int (by decide +kernel) (pa_cons (pe_cmpR op_eq (pe_ix (ix_tupK K) (pv 0) pe_int (fun _ _ => rfl)) pe_str (nomark _)) pa_nil)) (fun _ _ => rfl))) (pv 2))))))))), ?_⟩
  try dsimp only [cxOf, Cx.nox, Cx.wish]
  simp only [L2.start, List.map_cons, List.map_nil, List.length_cons, List.length_nil, Nat.reduceAdd, Nat.reduceSub, List.replicate_succ, List.replicate_zero, List.cons_append, List.nil_append]
  obtain ⟨hp, ok, hN, hn, hs, h⟩ := h
  have hlen := shown_len hN ok
  have hsp := Nat.mul_le_mul_left 20 hs
  have brk : ∀ {a b : Addr} {g : Fm} {ws : List Str} {H2 : Hp} {Q2 : VK} {E2 : XK}, FmAt H2 a g → FmOk N g → H2 b = some (.lst (ws.map V.str)) → 2 * g.size + 1 ≤ n → g.size ≤ 60 → (∀ H', Same H2 H' → Q2 (.str (heldS (inV (.str (headF g)) (ws.map V.str)) (shownF g))) H') → sp_law_bracketed K n ([.ref a, .ref b] ++ []) H2 Q2 E2 := fun ha ok e h1 h2 q => ⟨_, _, _, _, N, rfl, ha, e, ok, hN, h1, h2, q⟩
  have rcu : ∀ {a : Addr} {g : Fm} {H2 : Hp} {Q2 : VK} {E2 : XK}, FmAt H2 a g → FmOk N g → 2 * g.size ≤ n → g.size ≤ 60 → (∀ H', Same H2 H' → Q2 (.str (shownF g)) H') → sp_law_text K n ([.ref a] ++ []) H2 Q2 E2 := fun ha ok h1 h2 q => ⟨_, _, N, rfl, ha, ok, hN, h1, h2, q⟩
  have hl : ∀ g, FmOk N g → g.size ≤ 60 → ∀ b, (heldS b (shownF g)).length ≤ 1202 := fun g ok hs b => by
    have := held_len b (shownF g)
    have := shown_len hN ok
    have := Nat.mul_le_mul_left 20 hs
    omega
  have hl2 : ∀ g, FmOk N g → g.size ≤ 60 → (shownF g).length ≤ 1200 := fun g ok hs => by
    have := shown_len hN ok
    have := Nat.mul_le_mul_left 20 hs
    omega
  have l1 : (Str.ofString "-").length = 1 := rfl
  have l2 : (Str.ofString "+").length = 1 := rfl
  have l3 : (Str.ofString "*").length = 1 := rfl
  have al := app_len
  cases f with
  | name m =>
    have hp : H p = some (.tup [.str "name", .str m]) := hp
    walk_at "ws"
    exact h _ (Same.refl _)
  | num v =>
    have hp : H p = some (.tup [.str "number", .int v]) := hp
    have hv : 0 ≤ v ∧ v ≤ 1000000000000 := ok
    walk_at "ws"
    exact h _ (Same.refl _)
  | turned f =>
    obtain ⟨a, hp, ha⟩ := hp
    have hn : 2 * (f.size + 1) ≤ n + 1 := hn
    have hs : f.size + 1 ≤ 60 := hs
    walk_at "ws"
    rename_i c3 H3 n3 s3 e3
    refine brk (ws := sums4) (ha.same s3) ok e3 (by omega) (by omega) fun H4 s4 => ?_
    have := hl f ok (by omega) (inV (.str (headF f)) (sums4.map V.str))
    walk_at "ws"
    exact h _ (s3.trans s4)
  | times f g =>
    obtain ⟨a, b, hp, ha, hb⟩ := hp
    have hn : 2 * (f.size + g.size + 1) ≤ n + 1 := hn
    have hs : f.size + g.size + 1 ≤ 60 := hs
    have := f.size_pos
    have := g.size_pos
    walk_at "ws"
    rename_i c H1 n1 s1 e1
    refine brk (ws := sums) (ha.same s1) ok.1 e1 (by omega) (by omega) fun H2 s2 => ?_
    have hp2 := s2 _ _ (s1 _ _ hp)
    have q1 := hl f ok.1 (by omega) (inV (.str (headF f)) (sums.map V.str))
    have q3 := al (heldS (inV (.str (headF f)) (sums.map V.str)) (shownF f)) (Str.ofString "*")
    walk_at "ws"
    rename_i c3 H4 n4 s4 e4
    refine brk (ws := sums4) (hb.same ((s1.trans s2).trans s4)) ok.2 e4 (by omega) (by omega) fun H5 s5 => ?_
    have q2 := hl g ok.2 (by omega) (inV (.str (headF g)) (sums4.map V.str))
    walk_at "ws"
    exact h _ (((s1.trans s2).trans s4).trans s5)
  | plus f g =>
    obtain ⟨a, b, hp, ha, hb⟩ := hp
    have hn : 2 * (f.size + g.size + 1) ≤ n + 1 := hn
    have hs : f.size + g.size + 1 ≤ 60 := hs
    have := f.size_pos
    have := g.size_pos
    walk_at "ws"
    rename_i c H1 n1 s1 e1
    refine brk (ws := sums) (hb.same s1) ok.2 e1 (by omega) (by omega) fun H2 s2 => ?_
    have q2 := hl g ok.2 (by omega) (inV (.str (headF g)) (sums.map V.str))
    have hp2 := s2 _ _ (s1 _ _ hp)
    walk_at "ws"
    refine rcu ((ha.same s1).same s2) ok.1 (by omega) (by omega) fun H3 s3 => ?_
    have hp3 := s3 _ _ hp2
    have q1 := hl2 f ok.1 (by omega)
    have q3 := al (shownF f) (Str.ofString "+")
    walk_at "ws"
    rename_i c4 H4 n4 s4 e4
    exact h _ (((s1.trans s2).trans s3).trans s4)
  | less f g =>
    obtain ⟨a, b, hp, ha, hb⟩ := hp
    have hn : 2 * (f.size + g.size + 1) ≤ n + 1 := hn
    have hs : f.size + g.size + 1 ≤ 60 := hs
    have := f.size_pos
    have := g.size_pos
    walk_at "ws"
    rename_i c H1 n1 s1 e1
    refine brk (ws := sums) (hb.same s1) ok.2 e1 (by omega) (by omega) fun H2 s2 => ?_
    have q2 := hl g ok.2 (by omega) (inV (.str (headF g)) (sums.map V.str))
    have hp2 := s2 _ _ (s1 _ _ hp)
    walk_at "ws"
    refine rcu ((ha.same s1).same s2) ok.1 (by omega) (by omega) fun H3 s3 => ?_
    have hp3 := s3 _ _ hp2
    have q1 := hl2 f ok.1 (by omega)
    have q3 := al (shownF f) (Str.ofString "-")
    walk_at "ws"
    rename_i c4 H4 n4 s4 e4
    exact h _ (((s1.trans s2).trans s3).trans s4)
theorem all_law_text (T : Top K mg) : ∀ n : Nat, FnOk P w K mg base CX0 (1 + n) T.a_law_text T.d_law_text ["_law_formula_here"] (sp_law_text K n) ∧ FnOk P w K mg base CX0 (1 + n) T.a_law_bracketed T.d_law_bracketed ["_law_formula_here", "_law_words"] (sp_law_bracketed K n)
  | 0 => ⟨T.f_law_text.ok (k := 0) sc_law_text (fun _ _ _ _ h => (no_law_text h).elim) (fun _ _ _ _ _ _ _ _ _ h => (no_law_text h).elim), T.f_law_bracketed.ok (k := 0) sc_law_bracketed (fun _ _ _ _ h => (no_law_bracketed h).elim) (fun _ _ _ _ _ _ _ _ _ h => (no_law_bracketed h).elim)⟩
  | n + 1 => ⟨rec_law_text T n (all_law_text T n).1 (all_law_text T n).2, rec_law_bracketed T n (all_law_text T n).1 (all_law_text T n).2⟩
theorem ok_law_text (T : Top K mg) : FnOk P w K mg base CX0 131 T.a_law_text T.d_law_text ["_law_formula_here"] (sp_law_text K 130) := (all_law_text T 130).1
/-! formulas drawn: pushed, turned, joined -/
def sizes (fs : List Fm) : Nat := (fs.map Fm.size).sum
theorem sizes_snoc (fs : List Fm) (f : Fm) : sizes (fs ++ [f]) = sizes fs + f.size := by
  unfold sizes
  rw [List.map_append, List.sum_append]
  simp only [List.map_cons, List.map_nil, List.sum_cons, List.sum_nil]
  omega
def tms (fs : List Fm) : Nat := (fs.map fun f => 2 * tmF f + 1).sum
theorem tms_snoc (fs : List Fm) (f : Fm) : tms (fs ++ [f]) = tms fs + (2 * tmF f + 1) := by
  unfold tms
  rw [List.map_append, List.sum_append]
  simp only [List.map_cons, List.map_nil, List.sum_cons, List.sum_nil]
  omega
theorem tms_le : ∀ fs : List Fm, tms fs ≤ sizes fs ∧ fs.length ≤ sizes fs
  | [] => ⟨Nat.le_refl _, Nat.le_refl _⟩
  | f :: fs => by
    have h := tms_le fs
    have h1 := tm_size f
    have e1 : tms (f :: fs) = (2 * tmF f + 1) + tms fs := List.sum_cons ..
    have e2 : sizes (f :: fs) = f.size + sizes fs := List.sum_cons ..
    rw [e1, e2, List.length_cons]
    omega
theorem two_at {a b i lo hi : Int} (h : i = 0 ∨ i = 1) (ha : lo ≤ a ∧ a ≤ hi) (hb : lo ≤ b ∧ b ≤ hi) : ∃ u, atI [V.int a, V.int b] i = some (.int u) ∧ lo ≤ u ∧ u ≤ hi := by
  rcases h with rfl | rfl
  · exact ⟨a, rfl, ha⟩
  · exact ⟨b, rfl, hb⟩
theorem three_at {i : Int} (h : 0 ≤ i ∧ i < 3) : atI [V.str "plus", V.str "less", V.str "times"] i = some (.str "plus") ∨ atI [V.str "plus", V.str "less", V.str "times"] i = some (.str "less") ∨ atI [V.str "plus", V.str "less", V.str "times"] i = some (.str "times") := by
  have : i = 0 ∨ i = 1 ∨ i = 2 := by omega
  rcases this with rfl | rfl | rfl
  · exact .inl rfl
  · exact .inr (.inl rfl)
  · exact .inr (.inr rfl)
theorem get_str {ns : List Str} {i : Int} (h : 0 ≤ i ∧ i < ns.length) : ∃ x, atI (ns.map V.str) i = some (.str x) ∧ x ∈ ns := by
  obtain ⟨n, rfl⟩ := Int.eq_ofNat_of_zero_le h.1
  have hn : n < ns.length := by omega
  exact ⟨ns[n], atI_nat (by rw [List.getElem?_map, List.getElem?_eq_getElem hn]; rfl), List.getElem_mem hn⟩
def FmN (nm : List Str) (f : Fm) : Prop := FmOk (· ∈ nm) f ∧ NumLe numMax f
theorem three_op {f g : Fm} {nm : List Str} {i : Int} (h : 0 ≤ i ∧ i < 3) (hf : FmN nm f) (hg : FmN nm g) : ∃ (o : Str) (F : Fm), atI [V.str "plus", V.str "less", V.str "times"] i = some (.str o) ∧ (∀ G p a b, G p = some (.tup [.str o, .ref a, .ref b]) → FmAt G a f → FmAt G b g → FmAt G p F) ∧ F.size = f.size + g.size + 1 ∧ FmN nm F := by
  rcases three_at h with z | z | z
  · exact ⟨_, .plus f g, z, fun G p a b e x y => ⟨a, b, e, x, y⟩, rfl, ⟨hf.1, hg.1⟩, hf.2, hg.2⟩
  · exact ⟨_, .less f g, z, fun G p a b e x y => ⟨a, b, e, x, y⟩, rfl, ⟨hf.1, hg.1⟩, hf.2, hg.2⟩
  · exact ⟨_, .times f g, z, fun G p a b e x y => ⟨a, b, e, x, y⟩, rfl, ⟨hf.1, hg.1⟩, hf.2, hg.2⟩
def sp_law_formula (K : PySem.W.Frag) : Sp := fun vs H Q _ => ∃ (a b : Addr) (ns : List Int) (nm : List Str), vs = [.ref a, .ref b] ∧ SqL K H a (ns.map V.int) ∧ (∀ z ∈ ns, Drawn z) ∧ ns.length ≤ 8 ∧ SqL K H b (nm.map V.str) ∧ 0 < nm.length ∧ nm.length ≤ 100 ∧
  ∀ (f : Fm) p H', f.size ≤ 15 → tmF f ≤ 3 → FmN nm f → Same H H' → FmAt H' p f → Q (.ref p) H'
theorem ok_law_formula (T : Top K mg) : FnOk P w K mg base CX0 1 T.a_law_formula T.d_law_formula ["_law_numbers", "_law_names_here"] (sp_law_formula K) := by
  refine T.f_law_formula.ok sc_law_formula (fun vs H Q E h => ?_) (fun cdv A outer s H vs Q E hr h => ?_)
  · obtain ⟨a, b, ns, nm, rfl, _⟩ := h
    rfl
  obtain ⟨a, b, ns, nm, rfl, h⟩ := h
  refine ⟨_, (pss_cons (ps_set (i := 2) sc_law_formula.nd rfl (.inl rfl) (pe_lst pa_nil))
      (pss_cons (ps_for PassesOwn.never rfl (pi_list (pv 0)) (pg_name (i := 3) sc_law_formula.nd rfl (.inl rfl))
      (pss_one (ps_if (PW.pt (pw_and (pt_cmpR op_eq (pe_op op_mod (pv 3) pe_int) pe_int (nomark _)) (pw_and1 (pt_cmpR op_gt (pe_callB (c_lenK K) (by rfl) T.z_len PySem.boot_len (pa_cons (pv 2) pa_nil)) pe_int (nomark _))))) (pss_one (ps_expr (pe_bm PySem.F.plainAttrs_list PySem.F.slot_list_append PySem.F.type_list_append mt_append (pv 2) (pa_cons (pe_tup (pa_cons pe_str (pa_cons (pe_bm0 PySem.F.plainAttrs_list PySem.F.slot_list_pop PySem.F.type_list_pop mt_pop (pv 2)) pa_nil))) pa_nil)))) (pss_one (ps_if (PW.pt (pw_and (pt_cmpR op_gt (pe_op op_mod (pv 3) pe_int) pe_int (nomark _)) (pw_and1 (pt_cmpR op_gt (pe_callB (c_lenK K) (by rfl) T.z_len PySem.boot_len (pa_cons (pv 2) pa_nil)) pe_int (nomark _))))) (pss_cons (ps_set (i := 4) sc_law_formula.nd rfl (.inl rfl) (pe_bm0 PySem.F.plainAttrs_list PySem.F.slot_list_pop PySem.F.type_list_pop mt_pop (pv 2)))
      (pss_cons (ps_set (i := 5) sc_law_formula.nd rfl (.inl rfl) (pe_bm0 PySem.F.plainAttrs_list PySem.F.slot_list_pop PySem.F.type_list_pop mt_pop (pv 2)))
      (pss_one (ps_expr (pe_bm PySem.F.plainAttrs_list PySem.F.slot_list_append PySem.F.type_list_append mt_append (pv 2) (pa_cons (pe_tup (pa_cons (pe_ix (ix_listK K) (pe_lst (pa_cons pe_str (pa_cons pe_str (pa_cons pe_str pa_nil)))) (pe_op op_mod (pe_op op_fdiv (pv 3) pe_int) pe_int) (fun _ _ => rfl)) (pa_cons (pv 5) (pa_cons (pv 4) pa_nil)))) pa_nil)))))) (pss_one (ps_if (pt_cmpR op_eq (pe_op op_mod (pv 3) pe_int) pe_int (nomark _)) (pss_one (ps_expr (pe_bm PySem.F.plainAttrs_list PySem.F.slot_list_append PySem.F.type_list_append mt_append (pv 2) (pa_cons (pe_tup (pa_cons pe_str (pa_cons (pe_ix (ix_listK K) (pe_lst (pa_cons (pe_op op_mod (pe_op op_fdiv (pv 3) pe_int) pe_int) (pa_cons (pe_op op_mod (pe_op op_mulI (pv 3) (pv 3)) (pe_op op_add (pe_op op_pow pe_int pe_int) pe_int)) pa_nil))) (pe_op op_fdiv (pe_op op_mod (pe_op op_fdiv (pv 3) pe_int) pe_int) pe_int) (fun _ _ => rfl)) pa_nil))) pa_nil)))) (pss_one (ps_expr (pe_bm PySem.F.plainAttrs_list PySem.F.slot_list_append PySem.F.type_list_append mt_append (pv 2) (pa_cons (pe_tup (pa_cons pe_str (pa_cons (pe_ix (ix_listK K) (pv 1) (pe_op op_mod (pe_op op_fdiv (pv 3) pe_int) (pe_callB (c_lenK K) (by rfl) T.z_len PySem.boot_len (pa_cons (pv 1) pa_nil))) (fun _ _ => rfl)) pa_nil))) pa_nil)))))))))))
      (pss_cons (ps_while PassesOwn.never (pt_cmpR op_gt (pe_callB (c_lenK K) (by rfl) T.z_len PySem.boot_len (pa_cons (pv 2) pa_nil)) pe_int (nomark _))
      (pss_cons (ps_set (i := 4) sc_law_formula.nd rfl (.inl rfl) (pe_bm0 PySem.F.plainAttrs_list PySem.F.slot_list_pop PySem.F.type_list_pop mt_pop (pv 2)))
      (pss_cons (ps_set (i := 5) sc_law_formula.nd rfl (.inl rfl) (pe_bm0 PySem.F.plainAttrs_list PySem.F.slot_list_pop PySem.F.type_list_pop mt_pop (pv 2)))
      (pss_one (ps_expr (pe_bm PySem.F.plainAttrs_list PySem.F.slot_list_append PySem.F.type_list_append mt_append (pv 2) (pa_cons (pe_tup (pa_cons pe_str (pa_cons (pv 5) (pa_cons (pv 4) pa_nil)))) pa_nil)))))))
      (pss_cons (ps_if (pt_cmpR op_eq (pe_callB (c_lenK K) (by rfl) T.z_len PySem.boot_len (pa_cons (pv 2) pa_nil)) pe_int (nomark _)) (pss_one (ps_ret (pe_tup (pa_cons pe_str (pa_cons pe_int pa_nil))))) pss_nil)
      (pss_one (ps_ret (pe_ix (ix_listK K) (pv 2) pe_int (fun _ _ => rfl)))))))), ?_⟩
  try dsimp only [cxOf, Cx.nox, Cx.wish]
  simp only [L2.start, List.map_cons, List.map_nil, List.length_cons, List.length_nil, Nat.reduceAdd, Nat.reduceSub, List.replicate_succ, List.replicate_zero, List.cons_append, List.nil_append]
  obtain ⟨hS, hb, hnl, hN, hml, hml2, h⟩ := h
  have hlm : (ns.map V.int).length = ns.length := List.length_map ..
  have hmm : (nm.map V.str).length = nm.length := List.length_map ..
  walk_at "ws"
  rename_i o H1 n1 s1 e1
  refine for_l (ns.map V.int) (fun i σ' G => ∃ (fs : List Fm) (y3 y4 y5 : Option V), σ' = [some (.ref a), some (.ref b), some (.ref o), y3, y4, y5] ∧ Same H G ∧ StackAt G o fs ∧ sizes fs ≤ i ∧ ∀ f ∈ fs, FmN nm f)
    ⟨[], _, _, _, rfl, s1, ⟨[], e1, A2.nil⟩, Nat.le_refl _, fun f z => (by cases z)⟩ (fun i σ' G _ q => ?_) (fun i x σ' G hx q => ?_) (fun σ' G q => ?_)
  · obtain ⟨fs, y3, y4, y5, rfl, sm, _⟩ := q
    exact sm.seq hS
  · obtain ⟨fs, y3, y4, y5, rfl, sm, hst, hsz, hok⟩ := q
    obtain ⟨z, hz, rfl⟩ := get_map hx
    have hzd := hb z (List.mem_of_getElem? hz)
    have hz0 := hzd.1
    have hz1 := hzd.2
    have hi := (List.getElem?_eq_some_iff.mp hz).1
    obtain ⟨ps, eo, hA⟩ := id hst
    have hpl : (ps.map V.ref).length = fs.length := by rw [List.length_map, hA.1]
    have hfl : fs.length ≤ 8 := by have := (tms_le fs).2; omega
    have hNG := sm.seq hN
    have fin : ∀ (gs : List Fm) (qs : List Addr) (f : Fm) (p : Addr) (G1 G2 : Hp), Same H G1 → G1 o = some (.lst (qs.map V.ref)) → A2 (FmAt G1) qs gs → Same G1 G2 → FmAt G2 p f → (∀ g ∈ gs, FmN nm g) → FmN nm f → sizes (gs ++ [f]) ≤ i + 1 → ∀ y3 y4 y5 : Option V,
        ∃ (fs : List Fm) (z3 z4 z5 : Option V), [some (V.ref a), some (.ref b), some (.ref o), y3, y4, y5] = [some (.ref a), some (.ref b), some (.ref o), z3, z4, z5] ∧ Same H (upd G2 o (.lst (qs.map V.ref ++ [.ref p]))) ∧ StackAt (upd G2 o (.lst (qs.map V.ref ++ [.ref p]))) o fs ∧ sizes fs ≤ i + 1 ∧ ∀ f ∈ fs, FmN nm f := fun gs qs f p G1 G2 s1 e1 hA1 s2 hf hg hfo ht' y3 y4 y5 =>
      ⟨gs ++ [f], _, _, _, rfl, same_mut (s1.trans s2) n1, StackAt.push s2 e1 hA1 hf, ht', fun g hgm => by
        rcases List.mem_append.mp hgm with z | z
        · exact hg g z
        · rw [List.mem_singleton.mp z]; exact hfo⟩
    have hpl8 : (ps.map V.ref).length ≤ 8 := by omega
    walk_at "ws"
    all_goals first
      | (obtain ⟨x, hx', hxm⟩ := get_str (ns := nm) (i := z / 7 % ((nm.map V.str).length : Int)) ⟨Int.emod_nonneg _ (by omega), by rw [hmm]; exact Int.emod_lt_of_pos _ (by omega)⟩
         refine w_ixL hNG hx' ?_
         walk_at "ws"
         rename_i p2 G2 n2 s2 e22
         exact fin fs ps (.name x) p2 G G2 sm eo hA s2 e22 hok ⟨hxm, trivial⟩ (by rw [sizes_snoc]; show _ + 1 ≤ _; omega) _ _ _)
      | (rename_i pl Gl nl sl el
         have hpow : (10 : Int) ^ Int.toNat 12 = 1000000000000 := by decide
         obtain ⟨u, hu, hu0, hu1⟩ := two_at (a := z / 7 % 20) (b := z * z % ((10 : Int) ^ Int.toNat 12 + 1)) (i := z / 64 % 16 / 15) (lo := 0) (hi := 1000000000000) (by omega) (by omega) (by rw [hpow]; omega)
         refine w_ixL (SqL.of el) hu ?_
         have eol := sl _ _ eo
         walk_at "ws"
         rename_i p2 G2 n2 s2 e22
         exact fin fs ps (.num u) p2 G G2 sm eo hA (sl.trans s2) e22 hok ⟨⟨hu0, by omega⟩, hu1⟩ (by rw [sizes_snoc]; show _ + 1 ≤ _; omega) _ _ _)
      | (obtain ⟨gs, g, qs, q, rfl, e1, hA1, hg⟩ := hst.top (by omega)
         rw [sizes_snoc] at hsz
         have hgo : ∀ f ∈ gs, FmN nm f := fun f z => hok f (List.mem_append_left _ z)
         have hgg := hok g (List.mem_append_right _ (List.mem_cons_self ..))
         refine w_pop e1 ?_
         have e2 : (upd G o (.lst (qs.map V.ref))) o = some (.lst (qs.map V.ref)) := upd_same
         have hA2 : A2 (FmAt (upd G o (.lst (qs.map V.ref)))) qs gs := hA1.mono fun _ _ h => fm_upd e1 h
         have hg2 := fm_upd (ys := qs.map V.ref) e1 hg
         have sm2 : Same H (upd G o (.lst (qs.map V.ref))) := same_mut sm n1
         have hql : (qs.map V.ref).length ≤ 100 := by rw [List.length_append] at hfl; rw [List.length_map, hA1.1]; omega
         have hgl : gs.length + 1 = ps.length := by rw [hA.1, List.length_append]; rfl
         generalize upd G o (.lst (qs.map V.ref)) = G1 at *
         walk_at "ws"
         first
           | (rename_i p2 G2 n2 s2 e22
              exact fin gs qs (.turned g) p2 G1 G2 sm2 e2 hA2 s2 ⟨q, e22, hg2.same s2⟩ hgo hgg (by rw [sizes_snoc]; show sizes gs + (g.size + 1) ≤ _; omega) _ _ _)
           | (obtain ⟨ks, f, rs, r, rfl, e3, hA3, hf⟩ := StackAt.top ⟨qs, e2, hA2⟩ (by rw [List.length_map] at *; omega)
              rw [sizes_snoc] at hsz
              have hko : ∀ f ∈ ks, FmN nm f := fun f z => hgo f (List.mem_append_left _ z)
              have hff := hgo f (List.mem_append_right _ (List.mem_cons_self ..))
              refine w_pop e3 ?_
              have e4 : (upd G1 o (.lst (rs.map V.ref))) o = some (.lst (rs.map V.ref)) := upd_same
              have hA4 : A2 (FmAt (upd G1 o (.lst (rs.map V.ref)))) rs ks := hA3.mono fun _ _ h => fm_upd e3 h
              have hf4 := fm_upd (ys := rs.map V.ref) e3 hf
              have hg4 := fm_upd (ys := rs.map V.ref) e3 hg2
              have sm4 : Same H (upd G1 o (.lst (rs.map V.ref))) := same_mut sm2 n1
              have hrl : (rs.map V.ref).length ≤ 100 := by rw [List.length_append] at hgl; rw [List.length_map, hA3.1]; rw [List.length_map] at hpl; omega
              generalize upd G1 o (.lst (rs.map V.ref)) = G2 at *
              walk_at "ws"
              rename_i pl Gl nl sl el
              have eol := sl _ _ e4
              obtain ⟨o3, F, hz3, hF, hFs, hFn⟩ := three_op (f := f) (g := g) (nm := nm) (i := z / 7 % 3) (by omega) hff hgg
              refine w_ixL (SqL.of el) hz3 ?_
              walk_at "ws"
              rename_i p2 G3 n3 s3 e33
              exact fin ks rs F p2 G2 G3 sm4 e4 hA4 (sl.trans s3) (hF G3 p2 r q e33 (hf4.same (sl.trans s3)) (hg4.same (sl.trans s3))) hko hFn (by rw [sizes_snoc, hFs]; omega) _ _ _))
  · obtain ⟨fs, y3, y4, y5, rfl, sm, hst, hsz, hok⟩ := q
    rw [hlm] at hsz
    have htl := tms_le fs
    refine ⟨fun k σ' G => ∃ (fs : List Fm) (y4 y5 : Option V), σ' = [some (.ref a), some (.ref b), some (.ref o), y3, y4, y5] ∧ Same H G ∧ StackAt G o fs ∧ fs.length = k ∧ sizes fs + fs.length ≤ 16 ∧ tms fs ≤ 8 ∧ ∀ f ∈ fs, FmN nm f, ⟨fs.length, fs, _, _, rfl, sm, hst, rfl, by omega, by omega, hok⟩, fun k σ' G q => ?_⟩
    clear hst hok sm hsz htl
    obtain ⟨fs, y4, y5, rfl, sm, hst, hk, hsz, htm, hok⟩ := q
    obtain ⟨ps, eo, hA⟩ := id hst
    have hpl : (ps.map V.ref).length = fs.length := by rw [List.length_map, hA.1]
    have hfl : fs.length ≤ 100 := by omega
    walk_at "ws"
    · refine ⟨fun σ' H' => ∃ m', m' < k ∧ _, fun _ _ z => z, ?_⟩
      walk_at "ws"
      obtain ⟨gs, g, qs, q, rfl, e1, hA1, hg⟩ := hst.top (by omega)
      rw [sizes_snoc] at hsz
      rw [tms_snoc] at htm
      have hgo : ∀ f ∈ gs, FmN nm f := fun f z => hok f (List.mem_append_left _ z)
      have hgg := hok g (List.mem_append_right _ (List.mem_cons_self ..))
      refine w_pop e1 ?_
      have e2 : (upd G o (.lst (qs.map V.ref))) o = some (.lst (qs.map V.ref)) := upd_same
      have hA2 : A2 (FmAt (upd G o (.lst (qs.map V.ref)))) qs gs := hA1.mono fun _ _ h => fm_upd e1 h
      have hg2 := fm_upd (ys := qs.map V.ref) e1 hg
      have sm2 : Same H (upd G o (.lst (qs.map V.ref))) := same_mut sm n1
      have hql : (qs.map V.ref).length ≤ 100 := by rw [List.length_append] at hfl; rw [List.length_map, hA1.1]; omega
      have hgl : gs.length + 1 = ps.length := by rw [hA.1, List.length_append]; rfl
      have hgk : gs.length + 1 = k := by rw [← hk, List.length_append]; rfl
      rw [List.length_append, List.length_singleton] at hsz
      generalize upd G o (.lst (qs.map V.ref)) = G1 at *
      walk_at "ws"
      obtain ⟨ks, f, rs, r, rfl, e3, hA3, hf⟩ := StackAt.top ⟨qs, e2, hA2⟩ (by rw [List.length_map] at *; omega)
      rw [sizes_snoc, List.length_append, List.length_singleton] at hsz
      rw [tms_snoc] at htm
      have hko : ∀ f ∈ ks, FmN nm f := fun f z => hgo f (List.mem_append_left _ z)
      have hff := hgo f (List.mem_append_right _ (List.mem_cons_self ..))
      refine w_pop e3 ?_
      have e4 : (upd G1 o (.lst (rs.map V.ref))) o = some (.lst (rs.map V.ref)) := upd_same
      have hA4 : A2 (FmAt (upd G1 o (.lst (rs.map V.ref)))) rs ks := hA3.mono fun _ _ h => fm_upd e3 h
      have hf4 := fm_upd (ys := rs.map V.ref) e3 hf
      have hg4 := fm_upd (ys := rs.map V.ref) e3 hg2
      have sm4 : Same H (upd G1 o (.lst (rs.map V.ref))) := same_mut sm2 n1
      rw [List.length_append, List.length_singleton] at hgl hgk
      have hrl : (rs.map V.ref).length ≤ 100 := by rw [List.length_map, hA3.1]; rw [List.length_map] at hpl; omega
      generalize upd G1 o (.lst (rs.map V.ref)) = G2 at *
      walk_at "ws"
      rename_i p2 G3 n3 s3 e33
      refine ⟨ks.length + 1, by omega, ks ++ [.plus f g], _, _, rfl, same_mut (sm4.trans s3) n1, StackAt.push (f := .plus f g) s3 e4 hA4 ⟨r, q, e33, hf4.same s3, hg4.same s3⟩, by rw [List.length_append]; rfl, ?_, ?_, fun x hx => ?_⟩
      · rw [sizes_snoc, List.length_append, List.length_singleton]
        show sizes ks + (f.size + g.size + 1) + (ks.length + 1) ≤ 16
        omega
      · rw [tms_snoc]
        show tms ks + (2 * (tmF f + tmF g) + 1) ≤ 8
        omega
      · rcases List.mem_append.mp hx with z | z
        · exact hko x z
        · rw [List.mem_singleton.mp z]; exact ⟨⟨hff.1, hgg.1⟩, hff.2, hgg.2⟩
    · rename_i p2 G2 n2 s2 e2
      exact h (.num 0) p2 G2 (Nat.le_of_ble_eq_true rfl) (Nat.zero_le _) ⟨⟨by decide, by decide⟩, show (0 : Int) ≤ numMax by decide⟩ (sm.trans s2) e2
    · obtain ⟨gs, g, qs, q, rfl, e1, hA1, hg⟩ := hst.top (by omega)
      rw [sizes_snoc] at hsz
      rw [tms_snoc] at htm
      rw [List.length_append, List.length_singleton] at hk hpl hsz
      have hq : qs = [] := by
        have := hA1.1
        cases qs with
        | nil => rfl
        | cons x y => exfalso; simp only [List.length_cons] at this; omega
      subst hq
      have e1 : G o = some (.lst [.ref q]) := e1
      refine w_ixL (SqL.of e1) rfl ?_
      exact h g q G (by omega) (by omega) (hok g (List.mem_append_right _ (List.mem_cons_self ..))) sm hg
/-! the text with all its brackets -/
def looseF : Fm → Str
  | .name m => m
  | .num v => ((toString v : String) : Str)
  | .turned f => ("-(" : Str) ++ looseF f ++ (")" : Str)
  | .times f g => ("(" : Str) ++ looseF f ++ (")" : Str) ++ ("*" : Str) ++ ("(" : Str) ++ looseF g ++ (")" : Str)
  | .plus f g => ("(" : Str) ++ looseF f ++ (")" : Str) ++ ("+" : Str) ++ ("(" : Str) ++ looseF g ++ (")" : Str)
  | .less f g => ("(" : Str) ++ looseF f ++ (")" : Str) ++ ("-" : Str) ++ ("(" : Str) ++ looseF g ++ (")" : Str)
theorem cps_1 : (Str.ofString "(").cps.toList = [40] ∧ (Str.ofString ")").cps.toList = [41] ∧ (Str.ofString "-(").cps.toList = [45, 40] ∧ (Str.ofString "*").cps.toList = [42] ∧ (Str.ofString "+").cps.toList = [43] ∧ (Str.ofString "-").cps.toList = [45] := by decide +kernel
theorem two_cps {a b c : Str} {k : Nat} (hc : c.cps.toList = [k]) : (("(" : Str) ++ a ++ (")" : Str) ++ c ++ ("(" : Str) ++ b ++ (")" : Str)).cps.toList = (40 :: (a.cps.toList ++ [41])) ++ k :: (40 :: (b.cps.toList ++ [41])) := by
  simp only [app_cps, cps_1.1, cps_1.2.1, hc, List.append_assoc, List.singleton_append, List.cons_append, List.nil_append]
theorem loose_wr : ∀ {f : Fm}, FmOk NameOk f → Wr 0 f (looseF f).cps.toList
  | .name m, ok => (name_wr ok).one.sum
  | .num v, ok => (num_wr ok).one.sum
  | .turned f, ok => by
    have a := (loose_wr (f := f) ok).held.turned.one.sum
    unfold looseF
    rw [app_cps, app_cps, cps_1.2.2.1, cps_1.2.1]
    exact a
  | .times f g, ok => by
    have a := loose_wr (f := f) ok.1
    have b := loose_wr (f := g) ok.2
    unfold looseF
    rw [two_cps cps_1.2.2.2.1]
    exact (a.held.one.times b.held).sum
  | .plus f g, ok => by
    have a := loose_wr (f := f) ok.1
    have b := loose_wr (f := g) ok.2
    unfold looseF
    rw [two_cps cps_1.2.2.2.2.1]
    exact a.held.one.sum.plus b.held.one
  | .less f g, ok => by
    have a := loose_wr (f := f) ok.1
    have b := loose_wr (f := g) ok.2
    unfold looseF
    rw [two_cps cps_1.2.2.2.2.2]
    exact a.held.one.sum.less b.held.one
theorem two_wgt {xs ys : List Nat} {k : Nat} (hk : wgt [k] ≤ 1) : wgt ((40 :: (xs ++ [41])) ++ k :: (40 :: (ys ++ [41]))) ≤ wgt xs + wgt ys + 3 := by
  have e : k :: (40 :: (ys ++ [41])) = [k] ++ (40 :: (ys ++ [41])) := rfl
  rw [wgt_app, e, wgt_app, wgt_40, wgt_40, wgt_app, wgt_app, show wgt [41] = 0 from rfl]
  omega
theorem loose_wgt : ∀ {f : Fm}, FmOk NameOk f → wgt (looseF f).cps.toList + 3 ≤ 3 * f.size
  | .name m, ok => by
    have e := wgt_off (cs := m.cps.toList) fun c hc => by have := ok.2 c hc; unfold letter at this; omega
    show wgt m.cps.toList + 3 ≤ 3 * 1
    omega
  | .num v, ok => by
    obtain ⟨m, rfl⟩ := Int.eq_ofNat_of_zero_le ok.1
    have e := wgt_off (cs := (Str.ofString (toString ((m : Nat) : Int))).cps.toList) fun c hc => by
      rw [num_digits] at hc
      have := num_all m c hc
      omega
    show wgt (Str.ofString (toString ((m : Nat) : Int))).cps.toList + 3 ≤ 3 * 1
    omega
  | .turned f, ok => by
    have a := loose_wgt (f := f) ok
    unfold looseF
    rw [app_cps, app_cps, cps_1.2.2.1, cps_1.2.1, wgt_app, wgt_app, show wgt [45, 40] = 2 from rfl, show wgt [41] = 0 from rfl]
    show _ ≤ 3 * (f.size + 1)
    omega
  | .times f g, ok => by
    have a := loose_wgt (f := f) ok.1
    have b := loose_wgt (f := g) ok.2
    unfold looseF
    rw [two_cps cps_1.2.2.2.1]
    have := two_wgt (xs := (looseF f).cps.toList) (ys := (looseF g).cps.toList) (k := 42) (by decide)
    show _ ≤ 3 * (f.size + g.size + 1)
    omega
  | .plus f g, ok => by
    have a := loose_wgt (f := f) ok.1
    have b := loose_wgt (f := g) ok.2
    unfold looseF
    rw [two_cps cps_1.2.2.2.2.1]
    have := two_wgt (xs := (looseF f).cps.toList) (ys := (looseF g).cps.toList) (k := 43) (by decide)
    show _ ≤ 3 * (f.size + g.size + 1)
    omega
  | .less f g, ok => by
    have a := loose_wgt (f := f) ok.1
    have b := loose_wgt (f := g) ok.2
    unfold looseF
    rw [two_cps cps_1.2.2.2.2.2]
    have := two_wgt (xs := (looseF f).cps.toList) (ys := (looseF g).cps.toList) (k := 45) (by decide)
    show _ ≤ 3 * (f.size + g.size + 1)
    omega
theorem loose_len {N : Str → Prop} (hN : ∀ m, N m → m.length ≤ 6) : ∀ {f : Fm}, FmOk N f → (looseF f).length ≤ 20 * f.size
  | .name m, ok => by
    have := hN m ok
    show m.length ≤ 20 * 1
    omega
  | .num v, ok => by
    have := num_len ok
    show (Str.ofString (toString v)).length ≤ 20 * 1
    omega
  | .turned f, ok => by
    have a := loose_len hN (f := f) ok
    have l1 : (Str.ofString "-(").length = 2 := rfl
    have l2 : (Str.ofString ")").length = 1 := rfl
    unfold looseF
    rw [app_len, app_len, l1, l2]
    show _ ≤ 20 * (f.size + 1)
    omega
  | .times f g, ok => by
    have a := loose_len hN (f := f) ok.1
    have b := loose_len hN (f := g) ok.2
    have l1 : (Str.ofString "(").length = 1 := rfl
    have l2 : (Str.ofString ")").length = 1 := rfl
    have l3 : (Str.ofString "*").length = 1 := rfl
    unfold looseF
    simp only [app_len, l1, l2, l3]
    show _ ≤ 20 * (f.size + g.size + 1)
    omega
  | .plus f g, ok => by
    have a := loose_len hN (f := f) ok.1
    have b := loose_len hN (f := g) ok.2
    have l1 : (Str.ofString "(").length = 1 := rfl
    have l2 : (Str.ofString ")").length = 1 := rfl
    have l3 : (Str.ofString "+").length = 1 := rfl
    unfold looseF
    simp only [app_len, l1, l2, l3]
    show _ ≤ 20 * (f.size + g.size + 1)
    omega
  | .less f g, ok => by
    have a := loose_len hN (f := f) ok.1
    have b := loose_len hN (f := g) ok.2
    have l1 : (Str.ofString "(").length = 1 := rfl
    have l2 : (Str.ofString ")").length = 1 := rfl
    have l3 : (Str.ofString "-").length = 1 := rfl
    unfold looseF
    simp only [app_len, l1, l2, l3]
    show _ ≤ 20 * (f.size + g.size + 1)
    omega
def signsK : List (Key × V) := [(Sum.inr "plus", .str "+"), (Sum.inr "less", .str "-"), (Sum.inr "times", .str "*")]
theorem signs_merge : mergeK [] signsK = signsK := by with_unfolding_all rfl
theorem w_signs {p : Addr} {Q : VK} {H2 : Hp} (e : H2 p = some (.dK [])) (q : ∀ H', H' p = some (.dK signsK) → (∀ H0, Same H0 H2 → H0 p = none → Same H0 H') → Q (.ref p) H') : DspE p Q [(.str "plus", .str "+"), (.str "less", .str "-"), (.str "times", .str "*")] H2 := by
  refine ⟨e, signsK, rfl, by decide, ?_⟩
  rw [signs_merge]
  exact q _ upd_same fun H0 s n => same_mut s n
theorem FmAt.bin {N : Str → Prop} {H : Hp} {p : Addr} {f : Fm} (h : FmAt H p f) (hl : leafB f = false) (ht : headF f ≠ "turned") : ∃ (o sg : Str) (f1 f2 : Fm) (a b : Addr), H p = some (.tup [.str o, .ref a, .ref b]) ∧ FmAt H a f1 ∧ FmAt H b f2 ∧ valV signsK (Sum.inr o) = some (.str sg) ∧ sg.length = 1 ∧ inV (.str o) [V.str "name", V.str "number"] = false ∧ o ≠ "turned" ∧
    looseF f = (("(" : Str) ++ looseF f1 ++ (")" : Str) ++ sg ++ ("(" : Str) ++ looseF f2 ++ (")" : Str)) ∧ f.size = f1.size + f2.size + 1 ∧ (FmOk N f → FmOk N f1 ∧ FmOk N f2) := by
  have k := leaf_in f
  rw [hl] at k
  cases f with
  | name m => cases hl
  | num m => cases hl
  | turned f => exact absurd rfl ht
  | times f g => obtain ⟨a, b, e, x, y⟩ := h; exact ⟨_, _, f, g, a, b, e, x, y, (show valV signsK (Sum.inr (Str.ofString "times")) = some (.str "*") by with_unfolding_all rfl), rfl, k, ht, rfl, rfl, id⟩
  | plus f g => obtain ⟨a, b, e, x, y⟩ := h; exact ⟨_, _, f, g, a, b, e, x, y, (show valV signsK (Sum.inr (Str.ofString "plus")) = some (.str "+") by with_unfolding_all rfl), rfl, k, ht, rfl, rfl, id⟩
  | less f g => obtain ⟨a, b, e, x, y⟩ := h; exact ⟨_, _, f, g, a, b, e, x, y, (show valV signsK (Sum.inr (Str.ofString "less")) = some (.str "-") by with_unfolding_all rfl), rfl, k, ht, rfl, rfl, id⟩
def sp_law_loose (K : PySem.W.Frag) (n : Nat) : Sp := fun vs H Q _ => ∃ (p : Addr) (f : Fm) (N : Str → Prop), vs = [.ref p] ∧ FmAt H p f ∧ FmOk N f ∧ (∀ m, N m → m.length ≤ 6) ∧ f.size ≤ n ∧ f.size ≤ 60 ∧ ∀ H', Same H H' → Q (.str (looseF f)) H'
theorem no_law_loose {vs : List V} {H : Hp} {Q : VK} {E : XK} (h : sp_law_loose K 0 vs H Q E) : False := by
  obtain ⟨p, f, N, _, _, _, _, h0, _⟩ := h
  have := f.size_pos
  omega
theorem rec_law_loose (T : Top K mg) (n : Nat) (ih : FnOk P w K mg base CX0 (132 + n) T.a_law_loose T.d_law_loose ["_law_formula_here"] (sp_law_loose K n)) : FnOk P w K mg base CX0 (132 + n + 1) T.a_law_loose T.d_law_loose ["_law_formula_here"] (sp_law_loose K (n + 1)) := by
  refine T.f_law_loose.ok sc_law_loose (fun vs H Q E h => ?_) (fun cdv A outer s H vs Q E hr h => ?_)
  · obtain ⟨p, f, N, rfl, _⟩ := h
    rfl
  obtain ⟨p, f, N, rfl, h⟩ := h
  refine ⟨_, (pss_cons (ps_if (pt_cmpR (op_inK K) (pe_ix (ix_tupK K) (pv 0) pe_int (fun _ _ => rfl)) (pe_lst (pa_cons pe_str (pa_cons pe_str pa_nil))) (by rfl)) (pss_one (ps_ret (pe_call (ok_law_text T) (hr.mono (by omega)) (by rfl) T.g_law_text T.f_law_text.kp T.b_law_text .nil pass0 (pa_cons (pv 0) pa_nil)))) pss_nil)
      (pss_cons (ps_if (pt_cmpR op_eq (pe_ix (ix_tupK K) (pv 0) pe_int (fun _ _ => rfl)) pe_str (nomark _)) (pss_one (ps_ret (pe_op op_addS (pe_op op_addS pe_str (pe_call ih hr (by rfl) T.g_law_loose T.f_law_loose.kp T.b_law_loose .nil pass0 (pa_cons (pe_ix (ix_tupK K) (pv 0) pe_int (fun _ _ => rfl)) pa_nil))) pe_str))) pss_nil)
      (pss_cons (ps_set (i := 1) sc_law_loose.nd rfl (.inl rfl) (pe_dget (hu_of hr) (pe_disp (pps_cons pe_str pe_str (pps_cons pe_str pe_str (pps_cons pe_str pe_str pps_nil))) (by rfl) (by rfl) (fun z => by cases z) (by decide)) (pe_ix (ix_tupK K) (pv 0) pe_int (fun _ _ => rfl)) (fun _ _ => rfl)))
      (pss_one (ps_ret (pe_op op_addS (pe_op op_addS (pe_op op_addS (pe_op op_addS (pe_op op_addS (pe_op op_addS pe_str (pe_call ih hr (by rfl) T.g_law_loose T.f_law_loose.kp T.b_law_loose .nil pass0 (pa_cons (pe_ix (ix_tupK K) (pv 0) pe_int (fun _ _ => rfl)) pa_nil))) pe_str) (pv 1)) pe_str) (pe_call ih hr (by rfl) T.g_law_loose T.f_law_loose.kp T.b_law_loose .nil pass0 (pa_cons (pe_ix (ix_tupK K) (pv 0) pe_int (fun _ _ => rfl)) pa_nil))) pe_str)))))), ?_⟩
  try dsimp only [cxOf, Cx.nox, Cx.wish]
  simp only [L2.start, List.map_cons, List.map_nil, List.length_cons, List.length_nil, Nat.reduceAdd, Nat.reduceSub, List.replicate_succ, List.replicate_zero, List.cons_append, List.nil_append]
  obtain ⟨hp, ok, hN, hn, hs, h⟩ := h
  have hfp := hp
  have l1 : (Str.ofString "(").length = 1 := rfl
  have l2 : (Str.ofString ")").length = 1 := rfl
  have l3 : (Str.ofString "*").length = 1 := rfl
  have l4 : (Str.ofString "+").length = 1 := rfl
  have l5 : (Str.ofString "-").length = 1 := rfl
  have l6 : (Str.ofString "-(").length = 2 := rfl
  have al := app_len
  have hl : ∀ g, FmOk N g → g.size ≤ 60 → (looseF g).length ≤ 1200 := fun g ok hs => by
    have := loose_len hN ok
    have := Nat.mul_le_mul_left 20 hs
    omega
  have txt : ∀ {H2 : Hp} {Q2 : VK} {E2 : XK}, Same H H2 → (∀ H', Same H2 H' → Q2 (.str (shownF f)) H') → sp_law_text K 130 ([.ref p] ++ []) H2 Q2 E2 := fun s q => ⟨p, f, N, rfl, hfp.same s, ok, hN, by omega, hs, q⟩
  by_cases hbin : leafB f = false ∧ headF f ≠ "turned"
  · obtain ⟨o, sg, f1, f2, a, b, hp2, ha, hb, hsg, hsl, hin, hno, hlo, hfs, hok2⟩ := hp.bin (N := N) hbin.1 hbin.2
    obtain ⟨ok1, ok2⟩ := hok2 ok
    have hl1 := hl f1 ok1 (by omega)
    have hl2 := hl f2 ok2 (by omega)
    have := f1.size_pos
    have := f2.size_pos
    have n1 : f1.size ≤ n ∧ f1.size ≤ 60 := by omega
    have n2 : f2.size ≤ n ∧ f2.size ≤ 60 := by omega
    have al1 := al (Str.ofString "(") (looseF f1)
    have al2 := al ((Str.ofString "(") ++ (looseF f1)) (Str.ofString ")")
    have al3 := al ((Str.ofString "(") ++ (looseF f1) ++ (Str.ofString ")")) sg
    have al4 := al ((Str.ofString "(") ++ (looseF f1) ++ (Str.ofString ")") ++ sg) (Str.ofString "(")
    have al5 := al ((Str.ofString "(") ++ (looseF f1) ++ (Str.ofString ")") ++ sg ++ (Str.ofString "(")) (looseF f2)
    rw [hlo] at h
    clear txt hfp hp ok hn hs hl al hfs hlo
    walk_at "ws"
    · rename_i hin2
      exact absurd (hin.symm.trans hin2) (by decide)
    · rename_i z
      exact absurd z hno
    rename_i q1 H1 m1 s1 e1 _ _ q2 H2 m2 s2 e2
    refine w_signs e2 fun H3 e3 k3 => ?_
    have s3 : Same H1 H3 := k3 H1 s2 m2
    have s13 := s1.trans s3
    have hp3 := s13 _ _ hp2
    walk_at "ws"
    refine ⟨a, f1, N, rfl, ha.same s13, ok1, hN, n1.1, n1.2, fun H4 s4 => ?_⟩
    have hp4 := s4 _ _ hp3
    walk_at "ws"
    refine ⟨b, f2, N, rfl, (hb.same s13).same s4, ok2, hN, n2.1, n2.2, fun H5 s5 => ?_⟩
    walk_at "ws"
    exact h _ ((s13.trans s4).trans s5)
  cases f with
  | name m =>
    have hp : H p = some (.tup [.str "name", .str m]) := hp
    walk_at "ws"
    rename_i q1 H1 n1 s1 e1
    refine txt s1 fun H2 s2 => ?_
    exact h _ (s1.trans s2)
  | num v =>
    have hp : H p = some (.tup [.str "number", .int v]) := hp
    walk_at "ws"
    rename_i q1 H1 n1 s1 e1
    refine txt s1 fun H2 s2 => ?_
    exact h _ (s1.trans s2)
  | turned f =>
    obtain ⟨a, hp, ha⟩ := hp
    have hn : f.size + 1 ≤ n + 1 := hn
    have hs : f.size + 1 ≤ 60 := hs
    walk_at "ws"
    rename_i q1 H1 n1 s1 e1
    refine ⟨a, f, N, rfl, ha.same s1, ok, hN, by omega, by omega, fun H2 s2 => ?_⟩
    have hl1 := hl f ok (by omega)
    have al1 := al (Str.ofString "-(") (looseF f)
    walk_at "ws"
    exact h _ (s1.trans s2)
  | times f g => exact absurd ⟨rfl, by show Str.ofString "times" ≠ Str.ofString "turned"; decide +kernel⟩ hbin
  | plus f g => exact absurd ⟨rfl, by show Str.ofString "plus" ≠ Str.ofString "turned"; decide +kernel⟩ hbin
  | less f g => exact absurd ⟨rfl, by show Str.ofString "less" ≠ Str.ofString "turned"; decide +kernel⟩ hbin
theorem all_law_loose (T : Top K mg) : ∀ n : Nat, FnOk P w K mg base CX0 (132 + n) T.a_law_loose T.d_law_loose ["_law_formula_here"] (sp_law_loose K n)
  | 0 => T.f_law_loose.ok (k := 131) sc_law_loose (fun _ _ _ _ h => (no_law_loose h).elim) (fun _ _ _ _ _ _ _ _ _ h => (no_law_loose h).elim)
  | n + 1 => rec_law_loose T n (all_law_loose T n)
theorem ok_law_loose (T : Top K mg) : FnOk P w K mg base CX0 192 T.a_law_loose T.d_law_loose ["_law_formula_here"] (sp_law_loose K 60) := all_law_loose T 60
/-! a name that has no width -/
theorem has_kids {wd : List (Str × Int)} {f : Fm} (hl : leafB f = false) : HasF wd f ↔ ∀ k ∈ kids f, HasF wd k := by
  unfold HasF
  rw [names_kids f hl]
  constructor
  · exact fun h k hk n hn => h n (List.mem_flatten.mpr ⟨namesF k, List.mem_map.mpr ⟨k, hk, rfl⟩, hn⟩)
  · intro h n hn
    obtain ⟨l, hl, hnl⟩ := List.mem_flatten.mp hn
    obtain ⟨k, hk, rfl⟩ := List.mem_map.mp hl
    exact h k hk n hnl
/-- a comprehension over a tuple with a test that may make objects -/
theorem lc_filtT {K : PySem.W.Frag} {σ : L2.St} {H : Hp} {Q : VK} {tt : TT} {te : TE} {vs : List Nat} {a : Addr} {j : Nat} (xs : List V) (sel : Nat → Prop) (hS : SqT K H a xs) (hz : xs.length ≤ 1000000) (hw : ∀ x, wipe ((wipe σ vs).set j (some x)) vs = wipe σ vs)
    (ht : ∀ (n : Nat) x H' (QB : Bool → Hp → Prop), xs[n]? = some x → Same H H' → (∀ b G, (b = true ↔ sel n) → Same H' G → QB b G) → tt ((wipe σ vs).set j (some x)) H' QB)
    (he : ∀ (n : Nat) x H' (Q' : VK), xs[n]? = some x → Same H H' → Q' x H' → te ((wipe σ vs).set j (some x)) H' Q')
    (q : ∀ (ys : List V) p H', H p = none → Same H H' → H' p = some (.lst ys) → ys.length ≤ xs.length → (0 < ys.length ↔ ∃ k, k < xs.length ∧ sel k) → Q (.ref p) H') : LcB (Itt K a) (gName j) tt te vs σ Q H := fun D hD =>
  lc_tup (xs := xs) (fun i H' => ∃ ys : List V, Same H H' ∧ H' D = some (.lst ys) ∧ ys.length ≤ i ∧ (0 < ys.length ↔ ∃ k, k < i ∧ sel k)) ⟨[], same_upd hD, upd_same, Nat.le_refl _, ⟨fun z => absurd z (Nat.lt_irrefl _), fun ⟨k, z, _⟩ => absurd z (Nat.not_lt_zero _)⟩⟩ (fun i H' _ e => by
    obtain ⟨ys, sm, _⟩ := e
    exact same_tup sm hS) (fun i x H' hx e => by
    obtain ⟨ys, sm, eD, hl, hiff⟩ := e
    have hi := (List.getElem?_eq_some_iff.mp hx).1
    show wipe ((wipe σ vs).set j (some x)) vs = wipe σ vs ∧ tt ((wipe σ vs).set j (some x)) H' (fun b H3 => if b = true then te ((wipe σ vs).set j (some x)) H3 (fun y H4 => ∃ acc, H4 D = some (.lst acc) ∧ acc.length < sizeLine ∧ ∃ ys : List V, Same H (upd H4 D (.lst (acc ++ [y]))) ∧ (upd H4 D (.lst (acc ++ [y]))) D = some (.lst ys) ∧ ys.length ≤ i + 1 ∧ (0 < ys.length ↔ ∃ k, k < i + 1 ∧ sel k)) else ∃ ys : List V, Same H H3 ∧ H3 D = some (.lst ys) ∧ ys.length ≤ i + 1 ∧ (0 < ys.length ↔ ∃ k, k < i + 1 ∧ sel k))
    refine ⟨hw _, ht i x H' _ hx sm fun b G hb sG => ?_⟩
    by_cases c : b = true
    · rw [if_pos c]
      refine he i x G _ hx (sm.trans sG) ⟨ys, sG _ _ eD, Nat.lt_of_le_of_lt (show ys.length ≤ 1000000 by omega) (by rw [sizeLine_eq]; decide), ys ++ [x], same_mut (sm.trans sG) hD, upd_same, by rw [List.length_append, List.length_singleton]; omega, ?_⟩
      rw [List.length_append, List.length_singleton]
      exact ⟨fun _ => ⟨i, Nat.lt_succ_self _, hb.mp c⟩, fun _ => Nat.succ_pos _⟩
    · rw [if_neg c]
      refine ⟨ys, sm.trans sG, sG _ _ eD, by omega, ?_⟩
      rw [hiff]
      constructor
      · rintro ⟨k, h1, h2⟩
        exact ⟨k, by omega, h2⟩
      · rintro ⟨k, h1, h2⟩
        refine ⟨k, ?_, h2⟩
        rcases Nat.lt_or_ge k i with z | z
        · exact z
        · rw [show k = i by omega] at h2
          exact absurd (hb.mpr h2) c) fun H' e => by
    obtain ⟨ys, sm, eD, hl, hiff⟩ := e
    exact q ys D H' hD sm eD hl hiff
def NInV (Q : VK) (y x : V) (H2 : Hp) : Prop := ∃ a o, x = .ref a ∧ DGet H2 a y o ∧ Q (.bl (!o.isSome)) H2
theorem w_dninV {σ : L2.St} {H : Hp} {Q : VK} {ty td : TE} (h : ty σ H fun y H1 => td σ H1 fun x H2 => NInV Q y x H2) : tDNotIn ty td σ H Q := h
theorem w_NInV {a : Addr} {ws : List (Str × Int)} {n : Str} {Q : VK} {H : Hp} (e : H a = some (.dK (wkv ws))) (q : Q (.bl (lookW ws n).isNone) H) : NInV Q (.str n) (.ref a) H := by
  refine ⟨a, (lookW ws n).map V.int, rfl, ?_, ?_⟩
  · have := DGet.k (H := H) (k := Sum.inr n) e
    rw [valV_wkv] at this
    exact this
  · have : (!((lookW ws n).map V.int).isSome) = (lookW ws n).isNone := by cases lookW ws n <;> rfl
    rw [this]
    exact q
def sp_law_lacks (K : PySem.W.Frag) (n : Nat) : Sp := fun vs H Q _ => ∃ (p d : Addr) (f : Fm) (wd : List (Str × Int)), vs = [.ref p, .ref d] ∧ FmAt H p f ∧ H d = some (.dK (wkv wd)) ∧ f.size ≤ n ∧ f.size ≤ 31 ∧
  (HasF wd f → ∀ H', Same H H' → Q (.bl false) H') ∧ (¬ HasF wd f → ∀ H', Same H H' → Q (.bl true) H')
theorem no_law_lacks {vs : List V} {H : Hp} {Q : VK} {E : XK} (h : sp_law_lacks K 0 vs H Q E) : False := by
  obtain ⟨p, d, f, wd, _, _, _, h0, _⟩ := h
  have := f.size_pos
  omega
theorem rec_law_lacks (T : Top K mg) (n : Nat) (ih : FnOk P w K mg base CX0 (1 + n) T.a_law_lacks T.d_law_lacks ["_law_formula_here", "_law_widths"] (sp_law_lacks K n)) : FnOk P w K mg base CX0 (1 + n + 1) T.a_law_lacks T.d_law_lacks ["_law_formula_here", "_law_widths"] (sp_law_lacks K (n + 1)) := by
  refine T.f_law_lacks.ok sc_law_lacks (fun vs H Q E h => ?_) (fun cdv A outer s H vs Q E hr h => ?_)
  · obtain ⟨p, d, f, wd, rfl, _⟩ := h
    rfl
  obtain ⟨p, d, f, wd, rfl, h⟩ := h
  refine ⟨_, (pss_cons (ps_if (pt_cmpR op_eq (pe_ix (ix_tupK K) (pv 0) pe_int (fun _ _ => rfl)) pe_str (nomark _)) (pss_one (ps_ret (pe_cmp (pc_dnotin (hu_of hr) (pe_ix (ix_tupK K) (pv 0) pe_int (fun _ _ => rfl)) (pv 1))))) pss_nil)
      (pss_cons (ps_if (pt_cmpR op_eq (pe_ix (ix_tupK K) (pv 0) pe_int (fun _ _ => rfl)) pe_str (nomark _)) (pss_one (ps_ret pe_bl)) pss_nil)
      (pss_one (ps_ret (pe_cmpR op_gt (pe_callB (c_lenK K) (by rfl) T.z_len PySem.boot_len (pa_cons (pe_lc (own := [("_law_part", 2)]) (g := gName 2) (by rfl) sc_law_lacks.nd (pi_tup (pe_slice sl_tup (pv 0) (po_some pe_int) po_none)) (blkOk_by (N := ["_law_formula_here", "_law_widths", "_law_part"]) (sc := defScope s_law_lacks) (by decide +kernel)) (fun _ _ _ _ _ => (pg_name (i := 2) sc_law_lacks.nd rfl (.inl rfl))) (fun _ _ _ _ _ => (pts_one (pt_val (pe_call ih hr (by rfl) T.g_law_lacks T.f_law_lacks.kp T.b_law_lacks .nil pass0 (pa_cons (pv 2) (pa_cons (pv 1) pa_nil)))))) (fun _ _ _ _ _ => (pv 2))) pa_nil)) pe_int (nomark _)))))), ?_⟩
  try dsimp only [cxOf, Cx.nox, Cx.wish]
  simp only [L2.start, List.map_cons, List.map_nil, List.length_cons, List.length_nil, Nat.reduceAdd, Nat.reduceSub, List.replicate_succ, List.replicate_zero, List.cons_append, List.nil_append]
  obtain ⟨hp, hd, hn, hk, hF, hT⟩ := h
  cases hlf : leafB f with
  | true =>
    cases f with
    | name m =>
      have hp : H p = some (.tup [.str "name", .str m]) := hp
      walk_at "ws"
      refine w_dninV ?_
      walk_at "ws"
      refine w_NInV hd ?_
      cases hl : lookW wd m with
      | none => exact hT (fun z => by obtain ⟨v, hv⟩ := z m (List.mem_cons_self ..); rw [hl] at hv; cases hv) _ (Same.refl _)
      | some v => exact hF (fun n hn => by rw [List.mem_singleton.mp hn]; exact ⟨v, hl⟩) _ (Same.refl _)
    | num m =>
      have hp : H p = some (.tup [.str "number", .int m]) := hp
      walk_at "ws"
      exact hF (fun n hn => by cases hn) _ (Same.refl _)
    | turned f => cases hlf
    | plus f g => cases hlf
    | less f g => cases hlf
    | times f g => cases hlf
  | false =>
    obtain ⟨ks, ek, hA⟩ := hp.kids hlf
    have h1 : headF f ≠ "name" := fun z => by obtain ⟨n, rfl⟩ := headF_name z; cases hlf
    have h2 : headF f ≠ "number" := fun z => by obtain ⟨n, rfl⟩ := headF_num z; cases hlf
    have lks : (ks.map V.ref).length = (kids f).length := by rw [List.length_map, hA.1]
    have hkl := kids_len f
    have hiffK := has_kids (wd := wd) hlf
    walk_at "ws"
    refine w_ixT (SqT.of ek) at_0 ?_
    walk_at "ws"
    · rename_i z
      exact absurd z h1
    refine w_ixT (SqT.of ek) at_0 ?_
    walk_at "ws"
    · rename_i z
      exact absurd z h2
    rename_i l H4 n4 s4 e4
    refine lc_filtT (ks.map V.ref) (fun i => ∃ g, (kids f)[i]? = some g ∧ ¬ HasF wd g) (SqT.of e4) (by rw [lks]; omega) (fun x => rfl) (fun i x G QB hx sm kk => ?_) (fun i x G Q' hx sm kk => ?_) (fun ys p5 H5 n5 s5 e5 hlen hiff => ?_)
    · obtain ⟨pk, hpki, rfl⟩ := get_map hx
      obtain ⟨g, hgi, hg⟩ := hA.get hpki
      have hgm := List.mem_of_getElem? hgi
      have gsz := kid_size hgm
      have sG := s4.trans sm
      walk_at "ws"
      refine ⟨pk, d, g, wd, rfl, hg.same sG, sG _ _ hd, by omega, by omega, fun fg G2 sG2 => ?_, fun hn2 G2 sG2 => ?_⟩
      · refine ⟨false, rfl, kk false G2 ⟨fun z => (by cases z), fun ⟨g', h1, h2⟩ => ?_⟩ sG2⟩
        rw [hgi] at h1
        cases h1
        exact absurd fg h2
      · exact ⟨true, rfl, kk true G2 ⟨fun _ => ⟨g, hgi, hn2⟩, fun _ => rfl⟩ sG2⟩
    · walk_at "ws"
      exact kk
    · rw [lks] at hlen hiff
      have hiff2 : (0 : Int) < ((ys.length : Nat) : Int) ↔ ¬ HasF wd f := by
        rw [show ((0 : Int) < ((ys.length : Nat) : Int)) ↔ 0 < ys.length by omega, hiff]
        constructor
        · rintro ⟨k, hk, g, hgi, hn2⟩ hf
          exact hn2 (hiffK.mp hf g (List.mem_of_getElem? hgi))
        · intro hn2
          apply Classical.byContradiction
          intro hno
          refine hn2 (hiffK.mpr fun g hg => ?_)
          apply Classical.byContradiction
          intro hg2
          obtain ⟨k, hk⟩ := List.getElem?_of_mem hg
          exact hno ⟨k, (List.getElem?_eq_some_iff.mp hk).1, g, hk, hg2⟩
      walk_at "ws"
      by_cases c : HasF wd f
      · rw [decide_eq_false (fun z => hiff2.mp z c)]
        exact hF c _ (s4.trans s5)
      · rw [decide_eq_true (hiff2.mpr c)]
        exact hT c _ (s4.trans s5)
theorem all_law_lacks (T : Top K mg) : ∀ n : Nat, FnOk P w K mg base CX0 (1 + n) T.a_law_lacks T.d_law_lacks ["_law_formula_here", "_law_widths"] (sp_law_lacks K n)
  | 0 => T.f_law_lacks.ok (k := 0) sc_law_lacks (fun _ _ _ _ h => (no_law_lacks h).elim) (fun _ _ _ _ _ _ _ _ _ h => (no_law_lacks h).elim)
  | n + 1 => rec_law_lacks T n (all_law_lacks T n)
theorem ok_law_lacks (T : Top K mg) : FnOk P w K mg base CX0 32 T.a_law_lacks T.d_law_lacks ["_law_formula_here", "_law_widths"] (sp_law_lacks K 31) := all_law_lacks T 31
/-! what a line is, and its answer: a text, or one of two refusals -/
def SayC (wd : List (Str × Int)) (z : Str) (d : Addr) (H : Hp) (A : Str → Hp → Prop) (B : Bool → Hp → Prop) : Prop :=
  (∃ (n : Str) (v : Int), z = Txt.join " " ["width", n, numS v] ∧ NameOk n ∧ (v ≠ 0 ∧ -24 ≤ v ∧ v ≤ 24) ∧ ∀ H', H' d = some (.dK (wkv (putW wd n v))) → Fr [d] H H' → A "ok" H') ∨
   ∃ w t : Str, z = Txt.join " " [w, t] ∧ (w = "span" ∨ w = "show") ∧ 32 ∉ t.cps.toList ∧ t.cps.toList ≠ [] ∧ t.length ≤ 100000 ∧ wgt t.cps.toList ≤ 60 ∧
    (((∀ f, ¬ Wr 0 f t.cps.toList) ∧ ∀ H', Same H H' → B false H') ∨
     ∃ (f : Fm) (N : Str → Prop), Wr 0 f t.cps.toList ∧ FmOk N f ∧ f.size ≤ 30 ∧ (∀ m, N m → m.length ≤ 6) ∧ (w = "show" → ∀ H', Same H H' → A (shownF f) H') ∧
       (w = "span" → (¬ HasF wd f → ∀ H', Same H H' → B true H') ∧ (HasF wd f → ∀ H', Same H H' → A (numS (spanF wd f).1 ++ " " ++ numS (spanF wd f).2) H')))
theorem exc_NoFormula (T : Top K mg) : ExcC K T.c_NoFormula := ⟨T.ega_NoFormula, T.egg_NoFormula, T.xb_NoFormula, T.ehd_NoFormula, T.ecl_NoFormula, T.esp_NoFormula, T.etk_NoFormula, T.emr_NoFormula⟩
theorem exc_NoName (T : Top K mg) : ExcC K T.c_NoName := ⟨T.ega_NoName, T.egg_NoName, T.xb_NoName, T.ehd_NoName, T.ecl_NoName, T.esp_NoName, T.etk_NoName, T.emr_NoName⟩
def sortS (b : Bool) : Str := if b then "name" else "formula"
/-- [x for x in a list if x], of truth values -/
theorem lc_bl {K : PySem.W.Frag} {σ : L2.St} {H : Hp} {Q : VK} {tt : TT} {te : TE} {vs : List Nat} {a : Addr} {j : Nat} (bs : List Bool) (hS : SqL K H a (bs.map V.bl)) (hz : bs.length ≤ 1000000) (hw : ∀ x, wipe ((wipe σ vs).set j (some x)) vs = wipe σ vs)
    (ht : ∀ (b : Bool) H' (QB : Bool → Hp → Prop), Same H H' → QB b H' → tt ((wipe σ vs).set j (some (.bl b))) H' QB)
    (he : ∀ (b : Bool) H' (Q' : VK), Same H H' → Q' (.bl b) H' → te ((wipe σ vs).set j (some (.bl b))) H' Q')
    (q : ∀ p ys H', H p = none → Same H H' → H' p = some (.lst ys) → ys.length = (bs.filter id).length → Q (.ref p) H') : LcB (Itl K a) (gName j) tt te vs σ Q H := fun D hD =>
  lc_list (xs := bs.map V.bl) (fun i H' => ∃ ys : List V, Same H H' ∧ H' D = some (.lst ys) ∧ ys.length = ((bs.take i).filter id).length) ⟨[], same_upd hD, upd_same, by rw [List.take_zero]; rfl⟩ (fun i H' _ e => by
    obtain ⟨ys, sm, _⟩ := e
    exact sm.seq hS) (fun i x H' hx e => by
    obtain ⟨ys, sm, eD, hl⟩ := e
    obtain ⟨b, hb, rfl⟩ := get_map hx
    have hi := (List.getElem?_eq_some_iff.mp hb).1
    have e1 : (bs.take (i + 1)).filter id = (bs.take i).filter id ++ [b].filter id := by rw [take_snoc hb, List.filter_append]
    have hl2 : ((bs.take i).filter id).length ≤ i := Nat.le_trans (List.length_filter_le ..) (by rw [List.length_take]; omega)
    show wipe ((wipe σ vs).set j (some (.bl b))) vs = wipe σ vs ∧ tt ((wipe σ vs).set j (some (.bl b))) H' (fun b2 H3 => if b2 = true then te ((wipe σ vs).set j (some (.bl b))) H3 (fun y H4 => ∃ acc, H4 D = some (.lst acc) ∧ acc.length < sizeLine ∧ ∃ zs : List V, Same H (upd H4 D (.lst (acc ++ [y]))) ∧ (upd H4 D (.lst (acc ++ [y]))) D = some (.lst zs) ∧ zs.length = ((bs.take (i + 1)).filter id).length) else ∃ zs : List V, Same H H3 ∧ H3 D = some (.lst zs) ∧ zs.length = ((bs.take (i + 1)).filter id).length)
    refine ⟨hw _, ht b H' _ sm ?_⟩
    cases b with
    | true =>
      rw [if_pos rfl]
      exact he true H' _ sm ⟨ys, eD, Nat.lt_of_le_of_lt (show ys.length ≤ 1000000 by omega) (by rw [sizeLine_eq]; decide), ys ++ [.bl true], same_mut sm hD, upd_same, by rw [e1, List.length_append, List.length_append, hl]; rfl⟩
    | false =>
      rw [if_neg (by decide)]
      exact ⟨ys, sm, eD, by rw [e1, List.length_append, hl]; rfl⟩) fun H' e => by
    obtain ⟨ys, sm, eD, hl⟩ := e
    exact q D ys H' hD sm eD (by rw [hl, List.length_map, List.take_of_length_le (Nat.le_refl _)])
def rEqF (K : PySem.W.Frag) : R2 := fun x y H Q => rEq x y H Q ∨ rEqD K x y H Q
theorem op_eqF {X : Cx} (hu : X.A.units + 64 < cLine) (K : PySem.W.Frag) (e : X.K = K := by rfl) : OpR X (compareOp .Eq) (rEqF K) := by
  subst e
  intro pins s σ H x y v u Q I rx ry h
  rcases h with h | h
  · exact op_eq pins s σ H x y v u Q I rx ry h
  · exact op_eqD hu pins s σ H x y v u Q I rx ry h
theorem w_eqFS {K : PySem.W.Frag} {a : Str} {H : Hp} {Q : VK} (q : Q (.bl true) H) : rEqF K (.str a) (.str a) H Q := .inl ⟨rfl, by rw [decide_eq_true rfl]; exact q⟩
theorem w_eqFL {K : PySem.W.Frag} {a : Str} {p r : Addr} {H : Hp} {Q : VK} (sh : SeqAt.shaped (.list [.str a]) = true) (e1 : H p = some (.lst [.str a])) (e2 : H r = some (.lst [.str a])) (q : Q (.bl true) H) : rEqF K (.ref p) (.ref r) H Q :=
  .inr (w_eqSame (.list [.str a]) (.lst (SqL.of e1) (.cons (.str _) .nil)) (.lst (SqL.of e2) (.cons (.str _) .nil)) sh q)
theorem sort_shaped (b : Bool) : SeqAt.shaped (.list [.str (sortS b)]) = true := by cases b <;> decide +kernel
theorem w_index {K : PySem.W.Frag} {H : Hp} {Q : VK} {a : Addr} (bs : List Bool) (j : Nat) (e : H a = some (.lst (bs.map V.bl))) (hj : bs[j]? = some true) (hno : ∀ m b, m < j → bs[m]? = some b → b = false) (q : Q (.int (j : Nat)) H) : rIndex K (.ref a) [.bl true] H Q := by
  refine ⟨a, bs.map V.bl, .bl true, j, .bl true, rfl, rfl, SqL.of e, rfl, ?_, by rw [List.getElem?_map, hj]; rfl, rfl, fun m z hm hz => ?_, q⟩
  · rw [List.all_map]
    exact List.all_eq_true.mpr fun _ _ => rfl
  · obtain ⟨b, hb, rfl⟩ := get_map hz
    rw [hno m b hm hb]
    rfl
def sp_law_says (K : PySem.W.Frag) : Sp := fun vs H Q _ => ∃ (s d : Addr) (wd : List (Str × Int)) (z : Str), vs = [.ref s, .str z] ∧ DeskAt K H s d ∧ H d = some (.dK (wkv wd)) ∧ WdOk wd ∧ wd.length ≤ 1000 ∧ z.length ≤ 100000 ∧
  SayC wd z d H (fun a H' => Q (.str a) H') (fun b H' => ∀ p H2, Same H' H2 → H2 p = some (.lst [.str (sortS b)]) → Q (.ref p) H2)
/-- the class of a refusal -/
def errC (T : Top K mg) (b : Bool) : Addr := if b then T.c_NoName else T.c_NoFormula
theorem err_exc (T : Top K mg) (b : Bool) : ExcC K (errC T b) := by cases b; exact exc_NoFormula T; exact exc_NoName T
theorem err_m (T : Top K mg) (b : Bool) : PySem.W.exmOne K (.ref (errC T b)) (.ref T.c_PressError) = some true := by cases b; exact T.m_NoFormula_PressError; exact T.m_NoName_PressError
theorem err_k (T : Top K mg) (b : Bool) : PySem.W.kitOne K (.ref (errC T b)) (.ref T.c_NoLine) = some false ∧ PySem.W.kitOne K (.ref (errC T b)) (.ref T.c_NoFormula) = some (!b) ∧ PySem.W.kitOne K (.ref (errC T b)) (.ref T.c_NoName) = some b ∧ PySem.W.kitOne K (.ref (errC T b)) (.ref T.c_TooWide) = some false ∧ PySem.W.kitOne K (.ref (errC T b)) (.ref T.c_NoCircuit) = some false ∧ PySem.W.kitOne K (.ref (errC T b)) (.ref T.c_OutOfWidth) = some false ∧ PySem.W.kitOne K (.ref (errC T b)) (.ref T.c_TooFew) = some false ∧ PySem.W.kitOne K (.ref (errC T b)) (.ref T.c_TooMany) = some false ∧ PySem.W.kitOne K (.ref (errC T b)) (.type "ValueError") = some true := by
  cases b
  · exact ⟨T.k_NoFormula_NoLine, T.k_NoFormula_NoFormula, T.k_NoFormula_NoName, T.k_NoFormula_TooWide, T.k_NoFormula_NoCircuit, T.k_NoFormula_OutOfWidth, T.k_NoFormula_TooFew, T.k_NoFormula_TooMany, T.kv_NoFormula⟩
  · exact ⟨T.k_NoName_NoLine, T.k_NoName_NoFormula, T.k_NoName_NoName, T.k_NoName_TooWide, T.k_NoName_NoCircuit, T.k_NoName_OutOfWidth, T.k_NoName_TooFew, T.k_NoName_TooMany, T.kv_NoName⟩
/-- a line told, by its kind -/
theorem use_say (T : Top K mg) {s d : Addr} {wd : List (Str × Int)} {z : Str} {H : Hp} {Q : VK} {E : XK} {A : Str → Hp → Prop} {B : Bool → Hp → Prop} (hD : DeskAt K H s d) (ed : H d = some (.dK (wkv wd))) (wok : WdOk wd) (hwl : wd.length ≤ 1000) (hzl : z.length ≤ 100000) (h : SayC wd z d H A B)
    (hA : ∀ a H', A a H' → Q (.str a) H') (hB : ∀ b H', Same H H' → B b H' → E (.ref (errC T b)) none H') : sp_Desk_say K [.ref s, .str z] H Q E := by
  refine ⟨s, d, wd, z, rfl, hD, ed, wok, hwl, hzl, ?_⟩
  rcases h with ⟨n, v, rfl, hn, hv, h⟩ | ⟨w, t, rfl, hw, ht, hte, htl, hwg, h⟩
  · exact .inl ⟨n, v, rfl, hn, hv, fun H1 e1 f1 => hA _ _ (h H1 e1 f1)⟩
  · refine .inr ⟨w, t, rfl, hw, ht, hte, htl, hwg, ?_⟩
    rcases h with ⟨hno, h⟩ | ⟨f, N, hwr, ok, hsz, hN, hsh, hsp⟩
    · exact .inl ⟨hno, fun C H1 hC s1 => by rw [hC.one T.nc_NoFormula]; exact hB false H1 s1 (h H1 s1)⟩
    · exact .inr ⟨f, N, hwr, ok, hsz, hN, fun e H1 s1 => hA _ _ (hsh e H1 s1), fun e => ⟨fun hn C H1 hC s1 => by rw [hC.one T.nc_NoName]; exact hB true H1 s1 ((hsp e).1 hn H1 s1), fun hf H1 s1 => hA _ _ ((hsp e).2 hf H1 s1)⟩⟩
theorem use_says {s d : Addr} {wd : List (Str × Int)} {z : Str} {H : Hp} {Q : VK} {E : XK} {A : Str → Hp → Prop} {B : Bool → Hp → Prop} (hD : DeskAt K H s d) (ed : H d = some (.dK (wkv wd))) (wok : WdOk wd) (hwl : wd.length ≤ 1000) (hzl : z.length ≤ 100000) (h : SayC wd z d H A B)
    (hA : ∀ a H', A a H' → Q (.str a) H') (hB : ∀ b H', B b H' → ∀ p H2, Same H' H2 → H2 p = some (.lst [.str (sortS b)]) → Q (.ref p) H2) : sp_law_says K [.ref s, .str z] H Q E := by
  refine ⟨s, d, wd, z, rfl, hD, ed, wok, hwl, hzl, ?_⟩
  rcases h with ⟨n, v, rfl, hn, hv, h⟩ | ⟨w, t, rfl, hw, ht, hte, htl, hwg, h⟩
  · exact .inl ⟨n, v, rfl, hn, hv, fun H1 e1 f1 => hA _ _ (h H1 e1 f1)⟩
  · refine .inr ⟨w, t, rfl, hw, ht, hte, htl, hwg, ?_⟩
    rcases h with ⟨hno, h⟩ | ⟨f, N, hwr, ok, hsz, hN, hsh, hsp⟩
    · exact .inl ⟨hno, fun H1 s1 => hB _ _ (h H1 s1)⟩
    · exact .inr ⟨f, N, hwr, ok, hsz, hN, fun e H1 s1 => hA _ _ (hsh e H1 s1), fun e => ⟨fun hn H1 s1 => hB _ _ ((hsp e).1 hn H1 s1), fun hf H1 s1 => hA _ _ ((hsp e).2 hf H1 s1)⟩⟩
theorem ok_law_says (T : Top K mg) : FnOk P w K mg base CX0 189 T.a_law_says T.d_law_says ["_law_desk", "_law_line"] (sp_law_says K) := by
  refine T.f_law_says.ok sc_law_says (fun vs H Q E h => ?_) (fun cdv A outer s H vs Q E hr h => ?_)
  · obtain ⟨s, d, wd, z, rfl, _⟩ := h
    rfl
  obtain ⟨s, d, wd, z, rfl, h⟩ := h
  refine ⟨_, (pss_cons (ps_set (i := 2) sc_law_says.nd rfl (.inl rfl) pe_non)
      (pss_cons (ps_set (i := 3) sc_law_says.nd rfl (.inl rfl) pe_non)
      (pss_cons (ps_try_named (i := 4) rfl rfl rfl sc_law_says.nd rfl rfl takes0 (fun W pn xe tk ow => (pss_one (ps_set (i := 3) sc_law_says.nd rfl (.inl rfl) (pe_methS (pv 0) T.cl_Desk T.m_Desk_say (ok_Desk_say T) (hr.mono (by decide)) T.b_Desk_say (fun σ => passAt tk σ) (pa_cons (pv 1) pa_nil)))))
      (.cons ⟨rfl, by decide, .inl T.gc_PressError⟩ (fun a oe cls d pn hz hf => (pss_one (ps_set (i := 2) sc_law_says.nd rfl (.inl rfl) (pv 4))))
      .nil))
      (pss_cons (ps_if (pt_cmpR op_isNo (pv 2) pe_non (nomark _)) (pss_one (ps_ret (pv 3))) pss_nil)
      (pss_cons (ps_set (i := 5) sc_law_says.nd rfl (.inl rfl) (pe_lst (pa_cons (pe_callB (c_isx K) (by rfl) T.z_isinstance (by decide +kernel) (pa_cons (pv 2) (pa_cons (pe_glob (v := .ref T.c_NoLine) (by rfl) T.gc_NoLine rfl) pa_nil))) (pa_cons (pe_callB (c_isx K) (by rfl) T.z_isinstance (by decide +kernel) (pa_cons (pv 2) (pa_cons (pe_glob (v := .ref T.c_NoFormula) (by rfl) T.gc_NoFormula rfl) pa_nil))) (pa_cons (pe_callB (c_isx K) (by rfl) T.z_isinstance (by decide +kernel) (pa_cons (pv 2) (pa_cons (pe_glob (v := .ref T.c_NoName) (by rfl) T.gc_NoName rfl) pa_nil))) pa_nil)))))
      (pss_cons (ps_set (i := 5) sc_law_says.nd rfl (.inl rfl) (pe_op op_cat (pv 5) (pe_lst (pa_cons (pe_callB (c_isx K) (by rfl) T.z_isinstance (by decide +kernel) (pa_cons (pv 2) (pa_cons (pe_glob (v := .ref T.c_TooWide) (by rfl) T.gc_TooWide rfl) pa_nil))) (pa_cons (pe_callB (c_isx K) (by rfl) T.z_isinstance (by decide +kernel) (pa_cons (pv 2) (pa_cons (pe_glob (v := .ref T.c_NoCircuit) (by rfl) T.gc_NoCircuit rfl) pa_nil))) (pa_cons (pe_callB (c_isx K) (by rfl) T.z_isinstance (by decide +kernel) (pa_cons (pv 2) (pa_cons (pe_glob (v := .ref T.c_OutOfWidth) (by rfl) T.gc_OutOfWidth rfl) pa_nil))) pa_nil))))))
      (pss_cons (ps_set (i := 5) sc_law_says.nd rfl (.inl rfl) (pe_op op_cat (pv 5) (pe_lst (pa_cons (pe_callB (c_isx K) (by rfl) T.z_isinstance (by decide +kernel) (pa_cons (pv 2) (pa_cons (pe_glob (v := .ref T.c_TooFew) (by rfl) T.gc_TooFew rfl) pa_nil))) (pa_cons (pe_callB (c_isx K) (by rfl) T.z_isinstance (by decide +kernel) (pa_cons (pv 2) (pa_cons (pe_glob (v := .ref T.c_TooMany) (by rfl) T.gc_TooMany rfl) pa_nil))) pa_nil)))))
      (pss_cons (ps_if (PW.pt (pw_or (pt_cmpR op_ne (pe_callB (c_lenK K) (by rfl) T.z_len PySem.boot_len (pa_cons (pe_lc (own := [("_law_one", 6)]) (g := gName 6) (by rfl) sc_law_says.nd (pi_list (pv 5)) (blkOk_by (N := ["_law_desk", "_law_line", "_law_caught", "_law_found", "e", "_law_sorts", "_law_one"]) (sc := defScope s_law_says) (by decide +kernel)) (fun _ _ _ _ _ => (pg_name (i := 6) sc_law_says.nd rfl (.inl rfl))) (fun _ _ _ _ _ => (pts_one (pt_val (pv 6)))) (fun _ _ _ _ _ => (pv 6))) pa_nil)) pe_int (nomark _)) (pw_or1 (pt_not (pt_val (pe_callB (c_isx K) (by rfl) T.z_isinstance (by decide +kernel) (pa_cons (pv 2) (pa_cons (pe_bltn (v := .ty "ValueError") (by rfl) T.z_ValueError (by decide +kernel) rfl) pa_nil)))))))) (pss_one (ps_ret (pe_lst (pa_cons pe_str pa_nil)))) pss_nil)
      (pss_one (ps_ret (pe_lst (pa_cons (pe_ix (ix_listK K) (pe_lst (pa_cons pe_str (pa_cons pe_str (pa_cons pe_str (pa_cons pe_str (pa_cons pe_str (pa_cons pe_str (pa_cons pe_str (pa_cons pe_str pa_nil))))))))) (pe_bm PySem.F.plainAttrs_list PySem.F.slot_list_index PySem.F.type_list_index mt_index (pv 5) (pa_cons pe_bl pa_nil)) (fun _ _ => rfl)) pa_nil)))))))))))), ?_⟩
  try dsimp only [cxOf, Cx.nox, Cx.wish]
  simp only [L2.start, List.map_cons, List.map_nil, List.length_cons, List.length_nil, Nat.reduceAdd, Nat.reduceSub, List.replicate_succ, List.replicate_zero, List.cons_append, List.nil_append]
  obtain ⟨hD, ed, wok, hwl, hzl, h⟩ := h
  obtain ⟨C, dx, sp, hs, hC⟩ := id hD
  obtain rfl := hC.one T.nc_Desk
  have c1 := T.cl_Desk
  walk_at "ws"
  refine use_say T hD ed wok hwl hzl h (fun a H1 h => ?_) (fun b H1 s1 h => ?_)
  · walk_at "ws"
    exact h
  refine w_hit (err_m T b) fun a na => ?_
  obtain ⟨k1, k2, k3, k4, k5, k6, k7, k8, kv⟩ := err_k T b
  have X := err_exc T b
  clear hD ed wok hwl hzl hs hC c1
  generalize errC T b = E at *
  walk_at "ws"
  refine w_keep fun H2 s2 e2 => ?_
  walk_at "ws"
  refine w_isx e2 X (.own _) k1 ?_
  walk_at "ws"
  refine w_isx e2 X (.own _) k2 ?_
  walk_at "ws"
  refine w_isx e2 X (.own _) k3 ?_
  walk_at "ws"
  rename_i q3 H3 n3 s3 e3
  have e23 := s3 _ _ e2
  refine w_isx e23 X (.own _) k4 ?_
  walk_at "ws"
  refine w_isx e23 X (.own _) k5 ?_
  walk_at "ws"
  refine w_isx e23 X (.own _) k6 ?_
  walk_at "ws"
  rename_i q4 H4 n4 s4 e4
  intro q5 H5 n5 s5 e5
  have e25 := s5 _ _ (s4 _ _ e23)
  walk_at "ws"
  refine w_isx e25 X (.own _) k7 ?_
  walk_at "ws"
  refine w_isx e25 X (.own _) k8 ?_
  walk_at "ws"
  rename_i q6 H6 n6 s6 e6
  intro q7 H7 n7 s7 e7
  have e27 := s7 _ _ (s6 _ _ e25)
  walk_at "ws"
  have e7 : H7 q7 = some (.lst ([false, !b, b, false, false, false, false, false].map V.bl)) := e7
  have s27 := ((((s2.trans s3).trans s4).trans s5).trans s6).trans s7
  clear e2 e23 e25 e3 e4 e5 e6 s2 s3 s4 s5 s6 s7 n3 n4 n5 n6 n7
  refine lc_bl _ (SqL.of e7) (Nat.le_of_ble_eq_true rfl) (fun x => rfl) (fun b G QB sm kk => ?_) (fun b G Q' sm kk => ?_) (fun q8 ys H8 n8 s8 e8 hl => ?_)
  · walk_at "ws"
    exact kk
  · walk_at "ws"
    exact kk
  have hl : ys.length = 1 := by rw [hl]; cases b <;> rfl
  walk_at "ws"
  refine w_isx (s8 _ _ e27) X (.ty _) kv ?_
  walk_at "ws"
  rename_i q9 H9 n9 s9 e9
  refine w_index _ (1 + b.toNat) (s9 _ _ (s8 _ _ e7)) (by cases b <;> rfl) (fun m c hm hc => ?_) ?_
  · cases b
    · have hm : m < 1 := hm
      obtain rfl : m = 0 := by omega
      cases hc
      rfl
    · rcases (show m = 0 ∨ m = 1 by have : m < 2 := hm; omega) with rfl | rfl <;> (cases hc; rfl)
  refine w_ixL (v := .str (sortS b)) (SqL.of e9) (by cases b <;> rfl) ?_
  walk_at "ws"
  rename_i qa Ha na sa ea
  exact h qa Ha ((s27.trans s8).trans (s9.trans sa)) ea
def sp_law_answers (K : PySem.W.Frag) : Sp := fun vs H Q _ => ∃ (s d : Addr) (wd : List (Str × Int)) (z : Str) (due : V), vs = [.ref s, .str z, due] ∧ DeskAt K H s d ∧ H d = some (.dK (wkv wd)) ∧ WdOk wd ∧ wd.length ≤ 1000 ∧ z.length ≤ 100000 ∧
  SayC wd z d H (fun a H' => due = .str a ∧ Q (.bl true) H') (fun b H' => ∃ q, due = .ref q ∧ H' q = some (.lst [.str (sortS b)]) ∧ ∀ H2, Same H' H2 → Q (.bl true) H2)
theorem ok_law_answers (T : Top K mg) : FnOk P w K mg base CX0 190 T.a_law_answers T.d_law_answers ["_law_desk", "_law_line", "_law_due"] (sp_law_answers K) := by
  refine T.f_law_answers.ok sc_law_answers (fun vs H Q E h => ?_) (fun cdv A outer s H vs Q E hr h => ?_)
  · obtain ⟨s, d, wd, z, due, rfl, _⟩ := h
    rfl
  obtain ⟨s, d, wd, z, due, rfl, h⟩ := h
  refine ⟨_, (pss_one (ps_ret (pe_cmpR (op_eqF hr.units K) (pe_call (ok_law_says T) (hr.mono (by decide)) (by rfl) T.g_law_says T.f_law_says.kp T.b_law_says .nil pass0 (pa_cons (pv 0) (pa_cons (pv 1) pa_nil))) (pv 2) (nomark _)))), ?_⟩
  try dsimp only [cxOf, Cx.nox, Cx.wish]
  simp only [L2.start, List.map_cons, List.map_nil, List.length_cons, List.length_nil, Nat.reduceAdd, Nat.reduceSub, List.replicate_succ, List.replicate_zero, List.cons_append, List.nil_append]
  obtain ⟨hD, ed, wok, hwl, hzl, h⟩ := h
  walk_at "ws"
  refine use_says hD ed wok hwl hzl h (fun a H1 h => ?_) (fun b H1 h p H2 s2 e2 => ?_)
  · obtain ⟨hd, hq⟩ := h
    subst hd
    walk_at "ws"
    exact w_eqFS hq
  · obtain ⟨q, hd, eq, hq⟩ := h
    subst hd
    walk_at "ws"
    exact w_eqFL (sort_shaped _) e2 (s2 _ _ eq) (hq _ s2)
/-! one line asked of the desk -/
theorem Wr.signs {r : Nat} {f : Fm} {cs : List Nat} (h : Wr r f cs) : 32 ∉ cs ∧ cs ≠ [] := by
  induction h with
  | name h0 h7 hs => exact ⟨fun z => absurd (small_iff.mp (hs _ z)) (by decide), fun z => by rw [z] at h0; cases h0⟩
  | num h0 h14 hs hz hm => exact ⟨fun z => absurd (fig_iff.mp (hs _ z)) (by decide), fun z => by rw [z] at h0; cases h0⟩
  | turned h ih => exact ⟨fun z => (List.mem_cons.mp z).elim (by decide) ih.1, List.cons_ne_nil _ _⟩
  | held h ih => exact ⟨fun z => (List.mem_cons.mp z).elim (by decide) fun z => (List.mem_append.mp z).elim ih.1 (by decide), List.cons_ne_nil _ _⟩
  | one h ih => exact ih
  | sum h ih => exact ih
  | times h k ih ik => exact ⟨fun z => (List.mem_append.mp z).elim ih.1 fun z => (List.mem_cons.mp z).elim (by decide) ik.1, fun z => ih.2 (List.append_eq_nil_iff.mp z).1⟩
  | plus h k ih ik => exact ⟨fun z => (List.mem_append.mp z).elim ih.1 fun z => (List.mem_cons.mp z).elim (by decide) ik.1, fun z => ih.2 (List.append_eq_nil_iff.mp z).1⟩
  | less h k ih ik => exact ⟨fun z => (List.mem_append.mp z).elim ih.1 fun z => (List.mem_cons.mp z).elim (by decide) ik.1, fun z => ih.2 (List.append_eq_nil_iff.mp z).1⟩
/-- a line's text of a formula -/
structure LineOk (f : Fm) (y : Str) : Prop where
  wr : Wr 0 f y.cps.toList
  wg : wgt y.cps.toList + 2 ≤ 3 * f.size
  len : y.length ≤ 20 * f.size
theorem name_len6 {nm : List Str} (h : ∀ x ∈ nm, NameOk x) : ∀ m, m ∈ nm → m.length ≤ 6 := fun m hm => (h m hm).1.2
theorem line_shown {f : Fm} (ok : FmOk NameOk f) : LineOk f (shownF f) := ⟨(shown_wr ok).to0, by have := shown_wgt ok; have := f.size_pos; omega, shown_len (fun m h => h.1.2) ok⟩
theorem line_loose {f : Fm} (ok : FmOk NameOk f) : LineOk f (looseF f) := ⟨loose_wr ok, by have := loose_wgt ok; omega, loose_len (fun m h => h.1.2) ok⟩
theorem join2 (w t : Str) : Txt.join " " [w, t] = w ++ " " ++ t := rfl
theorem join3 (w t u : Str) : Txt.join " " [w, t, u] = w ++ " " ++ t ++ " " ++ u := rfl
theorem show_sp : (Str.ofString "show ") = Str.ofString "show" ++ Str.ofString " " ∧ (Str.ofString "span ") = Str.ofString "span" ++ Str.ofString " " ∧ (Str.ofString "width ") = Str.ofString "width" ++ Str.ofString " " := by decide +kernel
theorem say_bad {wd : List (Str × Int)} {z y : Str} {d : Addr} {H : Hp} {A : Str → Hp → Prop} {B : Bool → Hp → Prop} {w : Str} (hw : w = "span" ∨ w = "show") (hz : z.length ≤ 1000) (hg : wgt z.cps.toList ≤ 50) (hs : 32 ∉ z.cps.toList) (h : SpoOk z y) (q : ∀ H', Same H H' → B false H') : SayC wd (w ++ " " ++ y) d H A B :=
  .inr ⟨w, y, (join2 w y).symm, hw, h.sp hs, h.ne, (by have := h.len; omega), (by have := h.wg; omega), .inl ⟨h.no, q⟩⟩
theorem say_bad2 {wd : List (Str × Int)} {z y : Str} {d : Addr} {H : Hp} {A : Str → Hp → Prop} {B : Bool → Hp → Prop} {w : Str} (hw : w ∈ ([Str.ofString "show ", Str.ofString "span "] : List Str)) (hz : z.length ≤ 1000) (hg : wgt z.cps.toList ≤ 50) (hs : 32 ∉ z.cps.toList) (h : SpoOk z y) (q : ∀ H', Same H H' → B false H') : SayC wd (w ++ y) d H A B := by
  rcases List.mem_cons.mp hw with rfl | hw
  · rw [show_sp.1]
    exact say_bad (.inr rfl) hz hg hs h q
  · rw [List.mem_singleton.mp hw, show_sp.2.1]
    exact say_bad (.inl rfl) hz hg hs h q
theorem say_show {wd : List (Str × Int)} {f : Fm} {nm : List Str} {y : Str} {d : Addr} {H : Hp} {A : Str → Hp → Prop} {B : Bool → Hp → Prop} (l : LineOk f y) (hf : f.size ≤ 15) (ok : FmOk (· ∈ nm) f) (hn : ∀ x ∈ nm, NameOk x) (q : ∀ H', Same H H' → A (shownF f) H') : SayC wd ((Str.ofString "show ") ++ y) d H A B := by
  have := l.len
  have := l.wg
  rw [show_sp.1]
  exact .inr ⟨"show", y, (join2 "show" y).symm, .inr rfl, l.wr.signs.1, l.wr.signs.2, by omega, by omega, .inr ⟨f, _, l.wr, ok, by omega, name_len6 hn, fun _ => q, fun z => absurd z (by decide +kernel)⟩⟩
theorem say_span {wd : List (Str × Int)} {f : Fm} {nm : List Str} {y : Str} {d : Addr} {H : Hp} {A : Str → Hp → Prop} {B : Bool → Hp → Prop} (l : LineOk f y) (hf : f.size ≤ 15) (ok : FmOk (· ∈ nm) f) (hn : ∀ x ∈ nm, NameOk x) (q0 : ¬ HasF wd f → ∀ H', Same H H' → B true H') (q : HasF wd f → ∀ H', Same H H' → A (numS (spanF wd f).1 ++ " " ++ numS (spanF wd f).2) H') : SayC wd ((Str.ofString "span ") ++ y) d H A B := by
  have := l.len
  have := l.wg
  rw [show_sp.2.1]
  exact .inr ⟨"span", y, (join2 "span" y).symm, .inl rfl, l.wr.signs.1, l.wr.signs.2, by omega, by omega, .inr ⟨f, _, l.wr, ok, by omega, name_len6 hn, fun z => absurd z (by decide +kernel), fun _ => ⟨q0, q⟩⟩⟩
theorem say_width {wd : List (Str × Int)} {n : Str} {v : Int} {d : Addr} {H : Hp} {A : Str → Hp → Prop} {B : Bool → Hp → Prop} (hn : NameOk n) (hv : v ≠ 0 ∧ -24 ≤ v ∧ v ≤ 24) (q : ∀ H', H' d = some (.dK (wkv (putW wd n v))) → Fr [d] H H' → A "ok" H') : SayC wd ((Str.ofString "width ") ++ n ++ " " ++ numS v) d H A B := by
  rw [show_sp.2.2]
  exact .inl ⟨n, v, (join3 "width" n (numS v)).symm, hn, hv, q⟩
theorem cut_mid61 (xs : List V) {l h : Nat} (hl : l ≤ h) (hh : h ≤ xs.length) : cutV xs (some (l : Int)) (some (h : Int)) = (xs.drop l).take (h - l) := by
  unfold cutV
  rw [HT.sIx_nat, HT.sIx_nat, Nat.min_eq_left (Nat.le_trans hl hh), Nat.min_eq_left hh]
theorem cut39 {xs : List Int} (h : xs.length = 12) : cutV (xs.map V.int) (some 3) (some 9) = ((xs.drop 3).take 6).map V.int := by
  rw [List.map_take, List.map_drop]
  exact cut_mid61 _ (l := 3) (h := 9) (by decide) (by rw [List.length_map]; omega)
theorem DeskAt.same {H H' : Hp} {s d : Addr} (k : Same H H') (h : DeskAt K H s d) : DeskAt K H' s d := by
  obtain ⟨C, dx, sp, e, c⟩ := h
  exact ⟨C, dx, sp, k _ _ e, c⟩
theorem get_drawn {xs : List Int} (hl : xs.length = 12) (hx : ∀ x ∈ xs, Drawn x) {k : Nat} (hk : k < 12) : ∃ v, atI (xs.map V.int) (k : Int) = some (.int v) ∧ Drawn v ∧ xs[k]? = some v := by
  have hk2 : k < xs.length := by omega
  exact ⟨xs[k], atI_nat (by rw [List.getElem?_map, List.getElem?_eq_getElem hk2]; rfl), hx _ (List.getElem_mem hk2), List.getElem?_eq_getElem hk2⟩
def sp_law_asked (K : PySem.W.Frag) : Sp := fun vs H Q _ => ∃ (s d nm d2 px : Addr) (ns : List Str) (wd : List (Str × Int)) (xs : List Int), vs = [.ref s, .ref nm, .ref d2, .ref px] ∧ DeskAt K H s d ∧ H d = some (.dK (wkv wd)) ∧ H d2 = some (.dK (wkv wd)) ∧ WdOk wd ∧ wd.length ≤ 1000 ∧
  SqL K H nm (ns.map V.str) ∧ ns.length = 4 ∧ (∀ x ∈ ns, NameOk x) ∧ SqL K H px (xs.map V.int) ∧ xs.length = 12 ∧ (∀ x ∈ xs, Drawn x) ∧ ∀ H', Same H H' → Q (.bl true) H'
theorem ok_law_asked (T : Top K mg) : FnOk P w K mg base CX0 193 T.a_law_asked T.d_law_asked ["_law_desk", "_law_names_here", "_law_widths", "_law_xs"] (sp_law_asked K) := by
  refine T.f_law_asked.ok sc_law_asked (fun vs H Q E h => ?_) (fun cdv A outer s H vs Q E hr h => ?_)
  · obtain ⟨s, d, nm, d2, px, ns, wd, xs, rfl, _⟩ := h
    rfl
  obtain ⟨s, d, nm, d2, px, ns, wd, xs, rfl, h⟩ := h
  refine ⟨_, (pss_cons (ps_set (i := 4) sc_law_asked.nd rfl (.inl rfl) (pe_call (ok_law_formula T) (hr.mono (by decide)) (by rfl) T.g_law_formula T.f_law_formula.kp T.b_law_formula .nil pass0 (pa_cons (pe_slice sl_list (pv 3) (po_some pe_int) (po_some pe_int)) (pa_cons (pv 1) pa_nil))))
      (pss_cons (ps_set (i := 5) sc_law_asked.nd rfl (.inl rfl) (pe_call (ok_law_text T) (hr.mono (by decide)) (by rfl) T.g_law_text T.f_law_text.kp T.b_law_text .nil pass0 (pa_cons (pv 4) pa_nil)))
      (Evl.pss_cut (ps_if (pt_cmpR op_eq (pe_op op_mod (pe_ix (ix_listK K) (pv 3) pe_int (fun _ _ => rfl)) pe_int) pe_int (nomark _)) (pss_one (ps_set (i := 5) sc_law_asked.nd rfl (.inl rfl) (pe_call (ok_law_loose T) (hr.mono (by decide)) (by rfl) T.g_law_loose T.f_law_loose.kp T.b_law_loose .nil pass0 (pa_cons (pv 4) pa_nil)))) pss_nil)
      (pss_cons (ps_if (pt_cmpR op_eq (pe_op op_mod (pe_ix (ix_listK K) (pv 3) pe_int (fun _ _ => rfl)) pe_int) pe_int (nomark _)) (pss_one (ps_ret (pe_call (ok_law_answers T) (hr.mono (by decide)) (by rfl) T.g_law_answers T.f_law_answers.kp T.b_law_answers .nil pass0 (pa_cons (pv 0) (pa_cons (pe_op op_addS (pe_ix (ix_listK K) (pe_lst (pa_cons pe_str (pa_cons pe_str pa_nil))) (pe_op op_mod (pe_ix (ix_listK K) (pv 3) pe_int (fun _ _ => rfl)) pe_int) (fun _ _ => rfl)) (pe_call (ok_law_spoilt T) (hr.mono (by decide)) (by rfl) T.g_law_spoilt T.f_law_spoilt.kp T.b_law_spoilt .nil pass0 (pa_cons (pv 5) (pa_cons (pe_op op_fdiv (pe_ix (ix_listK K) (pv 3) pe_int (fun _ _ => rfl)) pe_int) pa_nil)))) (pa_cons (pe_lst (pa_cons pe_str pa_nil)) pa_nil)))))) pss_nil)
      (pss_cons (ps_if (pt_cmpR op_eq (pe_op op_mod (pe_ix (ix_listK K) (pv 3) pe_int (fun _ _ => rfl)) pe_int) pe_int (nomark _)) (pss_one (ps_ret (pe_call (ok_law_answers T) (hr.mono (by decide)) (by rfl) T.g_law_answers T.f_law_answers.kp T.b_law_answers .nil pass0 (pa_cons (pv 0) (pa_cons (pe_op op_addS pe_str (pv 5)) (pa_cons (pe_call (ok_law_text T) (hr.mono (by decide)) (by rfl) T.g_law_text T.f_law_text.kp T.b_law_text .nil pass0 (pa_cons (pv 4) pa_nil)) pa_nil)))))) pss_nil)
      (pss_cons (ps_if (pt_val (pe_call (ok_law_lacks T) (hr.mono (by decide)) (by rfl) T.g_law_lacks T.f_law_lacks.kp T.b_law_lacks .nil pass0 (pa_cons (pv 4) (pa_cons (pv 2) pa_nil)))) (pss_one (ps_ret (pe_call (ok_law_answers T) (hr.mono (by decide)) (by rfl) T.g_law_answers T.f_law_answers.kp T.b_law_answers .nil pass0 (pa_cons (pv 0) (pa_cons (pe_op op_addS pe_str (pv 5)) (pa_cons (pe_lst (pa_cons pe_str pa_nil)) pa_nil)))))) pss_nil)
      (pss_cons (ps_asg (pe_call (ok_law_span T) (hr.mono (by decide)) (by rfl) T.g_law_span T.f_law_span.kp T.b_law_span .nil pass0 (pa_cons (pv 4) (pa_cons (pv 2) pa_nil))) (pg_tup (by rfl) (pgs_cons (pg_name (i := 6) sc_law_asked.nd rfl (.inl rfl)) (pgs_cons (pg_name (i := 7) sc_law_asked.nd rfl (.inl rfl)) pgs_nil))))
      (pss_one (ps_ret (pe_call (ok_law_answers T) (hr.mono (by decide)) (by rfl) T.g_law_answers T.f_law_answers.kp T.b_law_answers .nil pass0 (pa_cons (pv 0) (pa_cons (pe_op op_addS pe_str (pv 5)) (pa_cons (pe_op op_addS (pe_op op_addS (pe_callTy c_strI (by rfl) T.z_str (by decide +kernel) (pa_cons (pv 6) pa_nil)) pe_str) (pe_callTy c_strI (by rfl) T.z_str (by decide +kernel) (pa_cons (pv 7) pa_nil))) pa_nil))))))))))))), ?_⟩
  try dsimp only [cxOf, Cx.nox, Cx.wish]
  simp only [L2.start, List.map_cons, List.map_nil, List.length_cons, List.length_nil, Nat.reduceAdd, Nat.reduceSub, List.replicate_succ, List.replicate_zero, List.cons_append, List.nil_append]
  obtain ⟨hD, ed, ed2, wok, hwl, hN, hnl, hnm, hX, hxl, hxd, h⟩ := h
  have hxm : (xs.map V.int).length = xs.length := List.length_map ..
  obtain ⟨v1, g1, b1, _⟩ := get_drawn hxl hxd (k := 1) (by decide)
  obtain ⟨v2, g2, b2, _⟩ := get_drawn hxl hxd (k := 2) (by decide)
  obtain ⟨v9, g9, b9, _⟩ := get_drawn hxl hxd (k := 9) (by decide)
  have b10 := b1.1
  have b11 := b1.2
  have b20 := b2.1
  have b21 := b2.2
  have b90 := b9.1
  have b91 := b9.2
  walk_at "ws"
  rename_i p1 H1 n1 s1 e1
  rw [cut39 hxl] at e1
  refine ⟨p1, nm, (xs.drop 3).take 6, ns, rfl, SqL.of e1, fun z hz => hxd z (List.mem_of_mem_drop (List.mem_of_mem_take hz)), by rw [List.length_take]; omega, s1.seq hN, by omega, by omega, fun f p H2 hsz _ okN s2 hf => ?_⟩
  have ok := okN.1
  have ok6 : FmOk NameOk f := ok.mono hnm
  have s12 := s1.trans s2
  have l60 := name_len6 hnm
  walk_at "ws"
  refine ⟨p, f, (· ∈ ns), rfl, hf, ok, l60, by omega, by omega, fun H3 s3 => ?_⟩
  have s13 := s12.trans s3
  have hX3 := s13.seq hX
  walk_at "ws"
  refine w_cut (fun σ' G => ∃ y : Str, σ' = [some (.ref s), some (.ref nm), some (.ref d2), some (.ref px), some (.ref p), some (.str y), none, none] ∧ Same H3 G ∧ LineOk f y) ?_ fun σ' G k => ?_
  · walk_at "ws"
    refine w_ixL hX3 g1 ?_
    walk_at "ws"
    · refine ⟨p, f, (· ∈ ns), rfl, hf.same s3, ok, l60, by omega, by omega, fun H4 s4 => ?_⟩
      walk_at "ws"
      exact ⟨_, rfl, s4, line_loose ok6⟩
    · exact ⟨_, rfl, Same.refl _, line_shown ok6⟩
  obtain ⟨y, rfl, s4, ly⟩ := k
  have s14 := s13.trans s4
  have hX4 := s14.seq hX
  have hfG := (hf.same s3).same s4
  have yl := ly.len
  have yw := ly.wg
  have hDG := hD.same s14
  have edG := s14 _ _ ed
  have ed2G := s14 _ _ ed2
  walk_at "ws"
  refine w_ixL hX4 g2 ?_
  walk_at "ws"
  · rename_i q5 G5 n5 s5 e5
    have s15 := s14.trans s5
    have hX5 := s15.seq hX
    refine w_ixL hX5 g9 ?_
    walk_at "ws"
    obtain ⟨w, hw, mw⟩ := get_strM (ns := [Str.ofString "show ", Str.ofString "span "]) (i := v9 % 2) ⟨by omega, show v9 % 2 < 2 by omega⟩
    have wl : w.length ≤ 5 := by
      rcases List.mem_cons.mp mw with rfl | mw
      · decide +kernel
      · rw [List.mem_singleton.mp mw]; decide +kernel
    refine w_ixL (SqL.of e5) hw ?_
    walk_at "ws"
    refine w_ixL hX5 g2 ?_
    walk_at "ws"
    refine ⟨y, v2 / 4, rfl, by omega, ly.wr.clean, ⟨by omega, by omega⟩, fun y2 G6 hy2 s6 => ?_⟩
    have hyl := hy2.len
    walk_at "ws"
    rename_i q7 G7 n7 s7 e7
    have s17 := (s15.trans s6).trans s7
    refine ⟨s, d, wd, _, _, rfl, hD.same s17, s17 _ _ ed, wok, hwl, by rw [app_len]; omega, say_bad2 mw (by omega) (by omega) ly.wr.signs.1 hy2 fun G8 s8 => ⟨q7, rfl, s8 _ _ e7, fun G9 s9 => ?_⟩⟩
    exact h _ ((s17.trans s8).trans s9)
  · refine w_ixL hX4 g9 ?_
    have l5 : (Str.ofString "show ").length = 5 := by decide +kernel
    have l5b : (Str.ofString "span ").length = 5 := by decide +kernel
    walk_at "ws"
    · refine ⟨p, f, (· ∈ ns), rfl, hfG, ok, l60, by omega, by omega, fun G5 s5 => ?_⟩
      have s15 := s14.trans s5
      walk_at "ws"
      refine ⟨s, d, wd, _, _, rfl, hD.same s15, s15 _ _ ed, wok, hwl, by rw [app_len]; omega, say_show ly hsz ok hnm fun G8 s8 => ⟨rfl, ?_⟩⟩
      exact h _ (s15.trans s8)
    · refine ⟨p, d2, f, wd, rfl, hfG, ed2G, by omega, by omega, fun hh G5 s5 => ?_, fun hn G5 s5 => ?_⟩
      · refine ⟨false, rfl, ?_⟩
        have s15 := s14.trans s5
        have ed25 := s5 _ _ ed2G
        walk_at "ws"
        refine ⟨p, d2, f, wd, (· ∈ namesF f), rfl, hfG.same s5, ed25, ok_names ok, hh, wok, by omega, by omega, fun q6 G6 n6 s6 e6 => ?_⟩
        have s16 := s15.trans s6
        have bd := span_bd41 wok ok
        have p1 : 2 ^ (41 * f.size) ≤ 2 ^ 1230 := pow_le_of (by omega)
        have p2 : 2 ^ 1230 < 2 ^ 1900 := by decide +kernel
        have p3 : 2 ^ 1230 < 10 ^ 400 := by decide +kernel
        have l1 := numS_len (n := 400) (by decide) (Nat.lt_trans (Nat.lt_of_lt_of_le bd.1 p1) p3)
        have l2 := numS_len (n := 400) (by decide) (Nat.lt_trans (Nat.lt_of_lt_of_le bd.2 p1) p3)
        have l3 : (Str.ofString " ").length = 1 := by decide +kernel
        walk_at "ws"
        refine w_strI (Nat.lt_trans (Nat.lt_of_lt_of_le bd.1 p1) p2) ?_
        walk_at "ws"
        refine w_addS (by unfold numS at l1; omega) ?_
        walk_at "ws"
        refine w_strI (Nat.lt_trans (Nat.lt_of_lt_of_le bd.2 p1) p2) ?_
        refine w_addS (by rw [Str.length_append]; unfold numS at l1 l2; omega) ?_
        walk_at "ws"
        refine ⟨s, d, wd, _, _, rfl, hD.same s16, s16 _ _ ed, wok, hwl, by rw [app_len]; omega, say_span ly hsz ok hnm (fun z => absurd hh z) fun _ G8 s8 => ⟨rfl, ?_⟩⟩
        exact h _ (s16.trans s8)
      · refine ⟨true, rfl, ?_⟩
        have s15 := s14.trans s5
        walk_at "ws"
        rename_i q7 G7 n7 s7 e7
        have s17 := s15.trans s7
        refine ⟨s, d, wd, _, _, rfl, hD.same s17, s17 _ _ ed, wok, hwl, by rw [app_len]; omega, say_span ly hsz ok hnm (fun _ G8 s8 => ⟨q7, rfl, s8 _ _ e7, fun G9 s9 => ?_⟩) fun z => absurd z hn⟩
        exact h _ ((s17.trans s8).trans s9)
/-! the law k61 -/
theorem cutv_map (ns : List Int) (lo hi : Option Int) : ∃ ms : List Int, cutV (ns.map V.int) lo hi = ms.map V.int ∧ ms.length ≤ ns.length ∧ ∀ z ∈ ms, z ∈ ns := by
  refine ⟨(ns.drop (HT.sIx ns.length 0 lo)).take (HT.sIx ns.length ns.length hi - HT.sIx ns.length 0 lo), ?_, by rw [List.length_take, List.length_drop]; omega, fun z hz => List.mem_of_mem_drop (List.mem_of_mem_take hz)⟩
  unfold cutV
  rw [List.length_map, List.map_take, List.map_drop]
theorem DeskAt.fr {H H' : Hp} {s d : Addr} {ms : List Addr} (f : Fr ms H H') (n : s ∉ ms) (h : DeskAt K H s d) : DeskAt K H' s d := by
  obtain ⟨C, dx, sp, e, c⟩ := h
  exact ⟨C, dx, sp, f _ _ e n, c⟩
def sp_law (K : PySem.W.Frag) : Sp := fun vs H Q _ => ∃ (a : Addr) (ns : List Int), vs = [.ref a] ∧ SqL K H a (ns.map V.int) ∧ ns.length ≤ 63 ∧ (∀ z ∈ ns, Builtin.Int.intBits z ≤ 1048576) ∧ ∀ H', Q (.bl true) H'
theorem ok_law (T : Top K mg) : FnOk P w K mg base CX0 194 T.a_law T.d_law ["_law_script"] (sp_law K) := by
  refine T.f_law.ok sc_law (fun vs H Q E h => ?_) (fun cdv A outer s H vs Q E hr h => ?_)
  · obtain ⟨a, ns, rfl, _⟩ := h
    rfl
  obtain ⟨a, ns, rfl, h⟩ := h
  refine ⟨_, (pss_cons (ps_set (i := 1) sc_law.nd rfl (.inl rfl) (pe_call (ok_law_names T) (hr.mono (by decide)) (by rfl) T.g_law_names T.f_law_names.kp T.b_law_names .nil pass0 (pa_cons (pe_call (ok_law_mixed T) (hr.mono (by decide)) (by rfl) T.g_law_mixed T.f_law_mixed.kp T.b_law_mixed .nil pass0 (pa_cons (pe_call (ok_law_at T) (hr.mono (by decide)) (by rfl) T.g_law_at T.f_law_at.kp T.b_law_at .nil pass0 (pa_cons (pv 0) (pa_cons pe_int pa_nil))) (pa_cons pe_int pa_nil))) pa_nil)))
      (pss_cons (ps_set (i := 2) sc_law.nd rfl (.inl rfl) (pe_make0 T.mk_Desk (ok_Desk__init T) (hr.mono (by decide)) (by rfl) T.gc_Desk T.b_Desk__init .nil pass0))
      (pss_cons (ps_set (i := 3) sc_law.nd rfl (.inl rfl) pe_dnewK)
      (pss_cons (ps_set (i := 4) sc_law.nd rfl (.inl rfl) (pe_slice sl_list (pv 0) (po_some pe_int) (po_some pe_int)))
      (pss_cons (ps_for PassesOwn.never rfl (pi_range1 (by rfl) T.z_range (pa_cons (pe_callB (c_lenK K) (by rfl) T.z_len PySem.boot_len (pa_cons (pv 4) pa_nil)) pa_nil)) (pg_name (i := 5) sc_law.nd rfl (.inl rfl))
      (pss_cons (ps_set (i := 6) sc_law.nd rfl (.inl rfl) (pe_call (ok_law_stream T) (hr.mono (by decide)) (by rfl) T.g_law_stream T.f_law_stream.kp T.b_law_stream .nil pass0 (pa_cons (pe_ix (ix_listK K) (pv 4) (pv 5) (fun _ _ => rfl)) (pa_cons (pe_op op_add (pv 5) pe_int) pa_nil))))
      (pss_one (ps_if (pt_cmpR op_eq (pe_op op_mod (pe_ix (ix_listK K) (pv 6) pe_int (fun _ _ => rfl)) pe_int) pe_int (nomark _)) (pss_cons (ps_set (i := 7) sc_law.nd rfl (.inl rfl) (pe_ix (ix_listK K) (pv 1) (pe_op op_mod (pe_ix (ix_listK K) (pv 6) pe_int (fun _ _ => rfl)) pe_int) (fun _ _ => rfl)))
      (pss_cons (ps_dput (hu_of hr) (pv 3) (pv 7) (pe_ix (ix_listK K) (pe_lst (pa_cons (pe_op op_add pe_int (pe_op op_mod (pe_ix (ix_listK K) (pv 6) pe_int (fun _ _ => rfl)) pe_int)) (pa_cons (pe_op op_sub (pe_un un_neg pe_int) (pe_op op_mod (pe_ix (ix_listK K) (pv 6) pe_int (fun _ _ => rfl)) pe_int)) pa_nil))) (pe_op op_mod (pe_ix (ix_listK K) (pv 6) pe_int (fun _ _ => rfl)) pe_int) (fun _ _ => rfl)) rfl)
      (pss_one (ps_if (pt_not (pt_val (pe_call (ok_law_answers T) (hr.mono (by decide)) (by rfl) T.g_law_answers T.f_law_answers.kp T.b_law_answers .nil pass0 (pa_cons (pv 2) (pa_cons (pe_op op_addS (pe_op op_addS (pe_op op_addS pe_str (pv 7)) pe_str) (pe_callTy c_strI (by rfl) T.z_str (by decide +kernel) (pa_cons (pe_dget (hu_of hr) (pv 3) (pv 7) (fun _ _ => rfl)) pa_nil))) (pa_cons pe_str pa_nil)))))) (pss_one (ps_ret pe_bl)) pss_nil)))) (pss_one (ps_if (pt_not (pt_val (pe_call (ok_law_asked T) (hr.mono (by decide)) (by rfl) T.g_law_asked T.f_law_asked.kp T.b_law_asked .nil pass0 (pa_cons (pv 2) (pa_cons (pv 1) (pa_cons (pv 3) (pa_cons (pv 6) pa_nil))))))) (pss_one (ps_ret pe_bl)) pss_nil))))))
      (pss_one (ps_ret pe_bl))))))), ?_⟩
  try dsimp only [cxOf, Cx.nox, Cx.wish]
  simp only [L2.start, List.map_cons, List.map_nil, List.length_cons, List.length_nil, Nat.reduceAdd, Nat.reduceSub, List.replicate_succ, List.replicate_zero, List.cons_append, List.nil_append]
  obtain ⟨hS, hlen, hb, h⟩ := h
  have hb : Bits ns := hb
  have hlm : (ns.map V.int).length = ns.length := List.length_map ..
  walk_at "ws"
  rename_i v0 b0 x0 y0 z0
  refine ⟨_, rfl, ⟨y0, z0⟩, fun nm pn Hn hn4 hnm nn sn en => ?_⟩
  have hSn := sn.seq hS
  walk_at "ws"
  rename_i s dx H2 n2 n2b s2 e2
  refine ⟨s, T.c_Desk, dx, rfl, e2, T.nc_Desk, fun H3 d hD3 ed3 nd3 f3 => ⟨rfl, ?_⟩⟩
  have sn3 : Same Hn H3 := f3.same s2 fun m hm => by rw [List.mem_singleton.mp hm]; exact n2
  have hS3 := sn3.seq hSn
  have en3 := sn3 _ _ en
  walk_at "ws"
  rename_i d2 H4 n4 s4 e4 pc H5 n5 s5 e5
  obtain ⟨ms, em, hml, hmm⟩ := cutv_map ns (some 1) (some 63)
  rw [em] at e5
  have s35 := s4.trans s5
  have hmlm : (ms.map V.int).length = ms.length := List.length_map ..
  have e45 := s5 _ _ e4
  have en5 := s35 _ _ en3
  have ed5 := s35 _ _ ed3
  have hD5 := hD3.same s35
  have dne : d ≠ d2 := fun z => by rw [z, n4] at ed3; cases ed3
  have sne : s ∉ [d, d2] := fun z => by
    obtain ⟨C, dx, sp, es, _⟩ := hD5
    rcases List.mem_cons.mp z with z | z
    · rw [z, ed5] at es; cases es
    · rw [List.mem_singleton.mp z, e45] at es; cases es
  have pne : pn ∉ [d, d2] := fun z => by
    rcases List.mem_cons.mp z with z | z
    · rw [z, ed5] at en5; cases en5
    · rw [List.mem_singleton.mp z, e45] at en5; cases en5
  have cne : pc ∉ [d, d2] := fun z => by
    rcases List.mem_cons.mp z with z | z
    · rw [z, ed5] at e5; cases e5
    · rw [List.mem_singleton.mp z, e45] at e5; cases e5
  rw [em]
  walk_at "ws"
  refine for_r (fun i σ' G => ∃ (wd : List (Str × Int)) (y5 y6 y7 : Option V), σ' = [some (.ref a), some (.ref pn), some (.ref s), some (.ref d2), some (.ref pc), y5, y6, y7] ∧ Fr [d, d2] H5 G ∧ G d = some (.dK (wkv wd)) ∧ G d2 = some (.dK (wkv wd)) ∧ WdOk wd ∧ wd.length ≤ i) ⟨[], _, _, _, rfl, Fr.refl, ed5, e45, (fun n v hv => by cases hv), Nat.le_refl _⟩ (fun i σ' G hi q => ?_) (fun σ' G q => ?_)
  · obtain ⟨wd, y5, y6, y7, rfl, fG, edG, ed2G, wok, hwl⟩ := q
    have hi2 : i < ms.length := by omega
    have hpc : SqL K G pc (ms.map V.int) := SqL.of (fG _ _ e5 cne)
    have hpn := fG _ _ en5 pne
    have hDG := hD5.fr fG sne
    walk_at "ws"
    refine w_ixL hpc (get_int hi2) ?_
    walk_at "ws"
    refine ⟨_, _, rfl, hb _ (hmm _ (List.getElem_mem hi2)), ⟨by omega, by omega⟩, fun xs px G1 hxl hxd n1 s1 e1 => ?_⟩
    obtain ⟨u0, g0, b0, _⟩ := get_drawn hxl hxd (k := 0) (by decide)
    obtain ⟨u1, g1, b1, _⟩ := get_drawn hxl hxd (k := 1) (by decide)
    obtain ⟨u2, g2, b2, _⟩ := get_drawn hxl hxd (k := 2) (by decide)
    obtain ⟨u3, g3, b3, _⟩ := get_drawn hxl hxd (k := 3) (by decide)
    have b00 := b0.1
    have b01 := b0.2
    have b10 := b1.1
    have b11 := b1.2
    have b20 := b2.1
    have b21 := b2.2
    have b30 := b3.1
    have b31 := b3.2
    have hpn1 := s1 _ _ hpn
    have ed21 := s1 _ _ ed2G
    have ed1 := s1 _ _ edG
    have hD1 := hDG.same s1
    have hX := SqL.of (K := K) e1
    walk_at "ws"
    refine w_ixL hX g0 ?_
    walk_at "ws"
    · refine w_ixL hX g1 ?_
      walk_at "ws"
      obtain ⟨n, hn, mn⟩ := get_str (ns := nm) (i := u1 % 4) ⟨by omega, by rw [hn4]; omega⟩
      refine w_ixL (SqL.of hpn1) hn ?_
      have hnok := hnm n mn
      have hnl := hnok.1
      walk_at "ws"
      refine w_ixL hX g2 ?_
      walk_at "ws"
      refine w_ixL hX g2 ?_
      walk_at "ws"
      rename_i q2 G2 n2' s2' e2'
      refine w_ixL (s2'.seq hX) g3 ?_
      walk_at "ws"
      obtain ⟨v, hv, hvo⟩ : ∃ v : Int, atI [V.int (1 + u2 % 24), V.int (-1 - u2 % 24)] (u3 % 2) = some (.int v) ∧ (v ≠ 0 ∧ -24 ≤ v ∧ v ≤ 24) := by
        rcases (show u3 % 2 = 0 ∨ u3 % 2 = 1 by omega) with z | z <;> rw [z]
        · exact ⟨_, rfl, by omega, by omega, by omega⟩
        · exact ⟨_, rfl, by omega, by omega, by omega⟩
      refine w_ixL (SqL.of e2') hv ?_
      have ed22 := s2' _ _ ed21
      have ed12 := s2' _ _ ed1
      have hD2 := hD1.same s2'
      walk_at "ws"
      have f23 : Fr [d, d2] G2 (upd G2 d2 (.dK (wkv (putW wd n v)))) := Fr.put (List.mem_cons_of_mem _ (List.mem_cons_self ..))
      have ed23 : (upd G2 d2 (.dK (wkv (putW wd n v)))) d2 = some (.dK (wkv (putW wd n v))) := upd_same
      have ed13 : (upd G2 d2 (.dK (wkv (putW wd n v)))) d = some (.dK (wkv wd)) := by rw [upd_ne dne]; exact ed12
      have hval : valV (wkv (putW wd n v)) (Sum.inr n) = some (.int v) := by rw [valV_wkv, look_put, if_pos rfl]; rfl
      have hD3' := hD2.fr f23 sne
      generalize upd G2 d2 (.dK (wkv (putW wd n v))) = G3 at *
      have lw : (Str.ofString "width ").length = 6 := by decide +kernel
      have ls : (Str.ofString " ").length = 1 := by decide +kernel
      have ll : (numS v).length ≤ 2 + 1 := numS_len (by decide) (show v.natAbs < 10 ^ 2 by omega)
      have al1 := app_len (Str.ofString "width ") n
      have al2 := app_len (Str.ofString "width " ++ n) (Str.ofString " ")
      have al3 := app_len (Str.ofString "width " ++ n ++ (Str.ofString " ")) (numS v)
      walk_at "ws"
      refine w_addS (by unfold numS at ll; omega) ?_
      walk_at "ws"
      have fA := ((fG.trans (Fr.of s1)).trans (Fr.of s2')).trans f23
      have hpl := putW_len wd n v
      refine ⟨s, d, wd, _, _, rfl, hD3', ed13, wok, by omega, by unfold numS at al3 ll; omega, say_width hnok hvo fun G4 e4' f4 => ⟨rfl, true, rfl, ?_⟩⟩
      have m1 : ∀ m ∈ [d], m ∈ [d, d2] := fun m hm => by rw [List.mem_singleton.mp hm]; exact List.mem_cons_self ..
      have ed24 := f4 _ _ ed23 (fun z => dne (List.mem_singleton.mp z).symm)
      walk_at "ws"
      exact ⟨putW wd n v, _, _, _, rfl, fA.trans (f4.mono m1), e4', ed24, wd_put wok hvo, by omega⟩
    · refine ⟨s, d, pn, d2, px, nm, wd, xs, rfl, hD1, ed1, ed21, wok, by omega, SqL.of hpn1, hn4, hnm, hX, hxl, hxd, fun G2 s2' => ⟨true, rfl, ?_⟩⟩
      walk_at "ws"
      exact ⟨wd, _, _, _, rfl, (fG.trans (Fr.of s1)).trans (Fr.of s2'), s2' _ _ ed1, s2' _ _ ed21, wok, by omega⟩
  · obtain ⟨wd, y5, y6, y7, rfl, fG, _⟩ := q
    walk_at "ws"
    exact h _
end
theorem end_sp_law {K : PySem.W.Frag} {H : Hp} {a : Addr} {ns : List Int} (hl : ns.length ≤ 63) (hb : ∀ z ∈ ns, Builtin.Int.intBits z ≤ 1048576) (_ : Only H) (hS : SqL K H a (ns.map V.int)) : sp_law K [.ref a] H (fun v _ => v = .bl true) fun _ _ _ => False :=
  ⟨a, ns, rfl, hS, hl, hb, fun _ => rfl⟩
theorem all_mk {l : PySem.W.OpenLaw} {w : World} {K : PySem.W.Frag} {h : Heap} {mg : Str → Option Value} {fa ha0 ha1 ha2 ha3 ha4 ha5 ha6 ha7 ha8 ha9 ha10 ha11 ha12 ha13 ha14 ha15 ha16 ha17 ha18 ha19 ha20 ha21 ha22 ha23 ha24 ha25 ha26 ha27 ha28 ha29 ha30 ha31 ha32 ha33 ha34 ha35 ha36 ha37 ha38 ha39 ha40 ha41 c_PressError c_TooFew c_TooMany c_TooWide c_NoFormula c_NoName c_NoLine c_NoCircuit c_OutOfWidth c_Reader c_Made c_Desk : Addr} (X : K.In h) (G : h.Ns mainGlobals mg) (hfa : mg "law" = some (.ref fa))
    {tk_FIGURES_lines : Tok} {tk_FIGURES_text : Tok} {tk_MOST : Tok} {tk_SMALL_lines : Tok} {tk_SMALL_text : Tok} {od0 an0 od1 an1 od2 an2 od3 an3 od4 an4 od5 an5 od6 an6 od7 an7 od8 an8 od9 an9 od10 an10 od11 an11 od12 an12 od13 an13 od14 an14 od15 an15 od16 an16 od17 an17 od18 an18 od19 an19 od20 an20 od21 an21 od22 an22 od23 an23 od24 an24 od25 an25 od26 an26 od27 an27 od28 an28 od29 an29 od30 an30 od31 an31 od32 an32 od33 an33 od34 an34 od35 an35 od36 an36 od37 an37 od38 an38 od39 an39 od40 an40 od41 an41 : Option Addr} {shl0 shl1 shl2 shl3 shl4 shl5 shl6 shl7 shl8 shl9 shl10 shl11 shl12 shl13 shl14 shl15 shl16 shl17 shl18 shl19 shl20 shl21 shl22 shl23 shl24 shl25 shl26 shl27 shl28 shl29 shl30 shl31 shl32 shl33 shl34 shl35 shl36 shl37 shl38 shl39 shl40 shl41 : Array (Option Value)} {oc0 kV0 dc0 pm0 cd0 ct0 oc1 kV1 dc1 pm1 cd1 ct1 oc2 kV2 dc2 pm2 cd2 ct2 oc3 kV3 dc3 pm3 cd3 ct3 oc4 kV4 dc4 pm4 cd4 ct4 oc5 kV5 dc5 pm5 cd5 ct5 oc6 kV6 dc6 pm6 cd6 ct6 oc7 kV7 dc7 pm7 cd7 ct7 oc8 kV8 dc8 pm8 cd8 ct8 oc9 kV9 dc9 pm9 cd9 ct9 oc10 kV10 dc10 pm10 cd10 ct10 oc11 kV11 dc11 pm11 cd11 ct11 oc12 kV12 dc12 pm12 cd12 ct12 oc13 kV13 dc13 pm13 cd13 ct13 oc14 kV14 dc14 pm14 cd14 ct14 oc15 kV15 dc15 pm15 cd15 ct15 oc16 kV16 dc16 pm16 cd16 ct16 oc17 kV17 dc17 pm17 cd17 ct17 oc18 kV18 dc18 pm18 cd18 ct18 oc19 kV19 dc19 pm19 cd19 ct19 oc20 kV20 dc20 pm20 cd20 ct20 oc21 kV21 dc21 pm21 cd21 ct21 oc22 kV22 dc22 pm22 cd22 ct22 oc23 kV23 dc23 pm23 cd23 ct23 oc24 kV24 dc24 pm24 cd24 ct24 oc25 kV25 dc25 pm25 cd25 ct25 oc26 kV26 dc26 pm26 cd26 ct26 oc27 kV27 dc27 pm27 cd27 ct27 oc28 kV28 dc28 pm28 cd28 ct28 oc29 kV29 dc29 pm29 cd29 ct29 oc30 kV30 dc30 pm30 cd30 ct30 oc31 kV31 dc31 pm31 cd31 ct31 oc32 kV32 dc32 pm32 cd32 ct32 oc33 kV33 dc33 pm33 cd33 ct33 oc34 kV34 dc34 pm34 cd34 ct34 oc35 kV35 dc35 pm35 cd35 ct35 oc36 kV36 dc36 pm36 cd36 ct36 oc37 kV37 dc37 pm37 cd37 ct37 oc38 kV38 dc38 pm38 cd38 ct38 oc39 kV39 dc39 pm39 cd39 ct39 oc40 kV40 dc40 pm40 cd40 ct40 oc41 kV41 dc41 pm41 cd41 ct41 : Value}
    (hg0 : PySem.W.nsIn K mainGlobals "span_of_width" = some (some (.ref ha0)))
    (hl0 : K.lookup ha0 = some ⟨oc0, od0, .func (PySem.W.fnOf "span_of_width" "span_of_width" (defArgs s_span_of_width) (defBody s_span_of_width) (defScope s_span_of_width) .none kV0 dc0 pm0 an0 cd0 ct0), shl0⟩)
    (hk0 : PySem.W.codeIn K cd0 "span_of_width" = true)
    (hp0 : PySem.W.keepIn K (.ref ha0) = true)
    (hg1 : PySem.W.nsIn K mainGlobals "span_of" = some (some (.ref ha1)))
    (hl1 : K.lookup ha1 = some ⟨oc1, od1, .func (PySem.W.fnOf "span_of" "span_of" (defArgs s_span_of) (defBody s_span_of) (defScope s_span_of) .none kV1 dc1 pm1 an1 cd1 ct1), shl1⟩)
    (hk1 : PySem.W.codeIn K cd1 "span_of" = true)
    (hp1 : PySem.W.keepIn K (.ref ha1) = true)
    (hg2 : PySem.W.nsIn K mainGlobals "parts_of" = some (some (.ref ha2)))
    (hl2 : K.lookup ha2 = some ⟨oc2, od2, .func (PySem.W.fnOf "parts_of" "parts_of" (defArgs s_parts_of) (defBody s_parts_of) (defScope s_parts_of) .none kV2 dc2 pm2 an2 cd2 ct2), shl2⟩)
    (hk2 : PySem.W.codeIn K cd2 "parts_of" = true)
    (hp2 : PySem.W.keepIn K (.ref ha2) = true)
    (hg3 : PySem.W.nsIn K mainGlobals "only" = some (some (.ref ha3)))
    (hl3 : K.lookup ha3 = some ⟨oc3, od3, .func (PySem.W.fnOf "only" "only" (defArgs s_only) (defBody s_only) (defScope s_only) .none kV3 dc3 pm3 an3 cd3 ct3), shl3⟩)
    (hk3 : PySem.W.codeIn K cd3 "only" = true)
    (hp3 : PySem.W.keepIn K (.ref ha3) = true)
    (hg4 : PySem.W.nsIn K mainGlobals "refuse_unless" = some (some (.ref ha4)))
    (hl4 : K.lookup ha4 = some ⟨oc4, od4, .func (PySem.W.fnOf "refuse_unless" "refuse_unless" (defArgs s_refuse_unless) (defBody s_refuse_unless) (defScope s_refuse_unless) .none kV4 dc4 pm4 an4 cd4 ct4), shl4⟩)
    (hk4 : PySem.W.codeIn K cd4 "refuse_unless" = true)
    (hp4 : PySem.W.keepIn K (.ref ha4) = true)
    (hg5 : PySem.W.nsIn K mainGlobals "name_in" = some (some (.ref ha5)))
    (hl5 : K.lookup ha5 = some ⟨oc5, od5, .func (PySem.W.fnOf "name_in" "name_in" (defArgs s_name_in) (defBody s_name_in) (defScope s_name_in) .none kV5 dc5 pm5 an5 cd5 ct5), shl5⟩)
    (hk5 : PySem.W.codeIn K cd5 "name_in" = true)
    (hp5 : PySem.W.keepIn K (.ref ha5) = true)
    (hg6 : PySem.W.nsIn K mainGlobals "number_in" = some (some (.ref ha6)))
    (hl6 : K.lookup ha6 = some ⟨oc6, od6, .func (PySem.W.fnOf "number_in" "number_in" (defArgs s_number_in) (defBody s_number_in) (defScope s_number_in) .none kV6 dc6 pm6 an6 cd6 ct6), shl6⟩)
    (hk6 : PySem.W.codeIn K cd6 "number_in" = true)
    (hp6 : PySem.W.keepIn K (.ref ha6) = true)
    (hg7 : PySem.W.nsIn K mainGlobals "numbers_in" = some (some (.ref ha7)))
    (hl7 : K.lookup ha7 = some ⟨oc7, od7, .func (PySem.W.fnOf "numbers_in" "numbers_in" (defArgs s_numbers_in) (defBody s_numbers_in) (defScope s_numbers_in) .none kV7 dc7 pm7 an7 cd7 ct7), shl7⟩)
    (hk7 : PySem.W.codeIn K cd7 "numbers_in" = true)
    (hp7 : PySem.W.keepIn K (.ref ha7) = true)
    (hg8 : PySem.W.nsIn K mainGlobals "width_line" = some (some (.ref ha8)))
    (hl8 : K.lookup ha8 = some ⟨oc8, od8, .func (PySem.W.fnOf "width_line" "width_line" (defArgs s_width_line) (defBody s_width_line) (defScope s_width_line) .none kV8 dc8 pm8 an8 cd8 ct8), shl8⟩)
    (hk8 : PySem.W.codeIn K cd8 "width_line" = true)
    (hp8 : PySem.W.keepIn K (.ref ha8) = true)
    (hg9 : PySem.W.nsIn K mainGlobals "ask_line" = some (some (.ref ha9)))
    (hl9 : K.lookup ha9 = some ⟨oc9, od9, .func (PySem.W.fnOf "ask_line" "ask_line" (defArgs s_ask_line) (defBody s_ask_line) (defScope s_ask_line) .none kV9 dc9 pm9 an9 cd9 ct9), shl9⟩)
    (hk9 : PySem.W.codeIn K cd9 "ask_line" = true)
    (hp9 : PySem.W.keepIn K (.ref ha9) = true)
    (hg10 : PySem.W.nsIn K mainGlobals "line_read" = some (some (.ref ha10)))
    (hl10 : K.lookup ha10 = some ⟨oc10, od10, .func (PySem.W.fnOf "line_read" "line_read" (defArgs s_line_read) (defBody s_line_read) (defScope s_line_read) .none kV10 dc10 pm10 an10 cd10 ct10), shl10⟩)
    (hk10 : PySem.W.codeIn K cd10 "line_read" = true)
    (hp10 : PySem.W.keepIn K (.ref ha10) = true)
    (hg11 : PySem.W.nsIn K mainGlobals "bracketed" = some (some (.ref ha11)))
    (hl11 : K.lookup ha11 = some ⟨oc11, od11, .func (PySem.W.fnOf "bracketed" "bracketed" (defArgs s_bracketed) (defBody s_bracketed) (defScope s_bracketed) .none kV11 dc11 pm11 an11 cd11 ct11), shl11⟩)
    (hk11 : PySem.W.codeIn K cd11 "bracketed" = true)
    (hp11 : PySem.W.keepIn K (.ref ha11) = true)
    (hg12 : PySem.W.nsIn K mainGlobals "shown" = some (some (.ref ha12)))
    (hl12 : K.lookup ha12 = some ⟨oc12, od12, .func (PySem.W.fnOf "shown" "shown" (defArgs s_shown) (defBody s_shown) (defScope s_shown) .none kV12 dc12 pm12 an12 cd12 ct12), shl12⟩)
    (hk12 : PySem.W.codeIn K cd12 "shown" = true)
    (hp12 : PySem.W.keepIn K (.ref ha12) = true)
    (hg13 : PySem.W.findIn K (.ref c_Reader) "__init__" = some (some (.ref ha13)))
    (hi13 : PySem.W.isFn K (.ref ha13) = true)
    (hl13 : K.lookup ha13 = some ⟨oc13, od13, .func (PySem.W.fnOf "__init__" "Reader.__init__" (defArgs s_Reader__init) (defBody s_Reader__init) (defScope s_Reader__init) .none kV13 dc13 pm13 an13 cd13 ct13), shl13⟩)
    (hk13 : PySem.W.codeIn K cd13 "Reader.__init__" = true)
    (hp13 : PySem.W.keepIn K (.ref ha13) = true)
    (hg14 : PySem.W.findIn K (.ref c_Reader) "here" = some (some (.ref ha14)))
    (hi14 : PySem.W.isFn K (.ref ha14) = true)
    (hl14 : K.lookup ha14 = some ⟨oc14, od14, .func (PySem.W.fnOf "here" "Reader.here" (defArgs s_Reader_here) (defBody s_Reader_here) (defScope s_Reader_here) .none kV14 dc14 pm14 an14 cd14 ct14), shl14⟩)
    (hk14 : PySem.W.codeIn K cd14 "Reader.here" = true)
    (hp14 : PySem.W.keepIn K (.ref ha14) = true)
    (hg15 : PySem.W.findIn K (.ref c_Reader) "run_of" = some (some (.ref ha15)))
    (hi15 : PySem.W.isFn K (.ref ha15) = true)
    (hl15 : K.lookup ha15 = some ⟨oc15, od15, .func (PySem.W.fnOf "run_of" "Reader.run_of" (defArgs s_Reader_run_of) (defBody s_Reader_run_of) (defScope s_Reader_run_of) .none kV15 dc15 pm15 an15 cd15 ct15), shl15⟩)
    (hk15 : PySem.W.codeIn K cd15 "Reader.run_of" = true)
    (hp15 : PySem.W.keepIn K (.ref ha15) = true)
    (hg16 : PySem.W.findIn K (.ref c_Reader) "total" = some (some (.ref ha16)))
    (hi16 : PySem.W.isFn K (.ref ha16) = true)
    (hl16 : K.lookup ha16 = some ⟨oc16, od16, .func (PySem.W.fnOf "total" "Reader.total" (defArgs s_Reader_total) (defBody s_Reader_total) (defScope s_Reader_total) .none kV16 dc16 pm16 an16 cd16 ct16), shl16⟩)
    (hk16 : PySem.W.codeIn K cd16 "Reader.total" = true)
    (hp16 : PySem.W.keepIn K (.ref ha16) = true)
    (hg17 : PySem.W.findIn K (.ref c_Reader) "product" = some (some (.ref ha17)))
    (hi17 : PySem.W.isFn K (.ref ha17) = true)
    (hl17 : K.lookup ha17 = some ⟨oc17, od17, .func (PySem.W.fnOf "product" "Reader.product" (defArgs s_Reader_product) (defBody s_Reader_product) (defScope s_Reader_product) .none kV17 dc17 pm17 an17 cd17 ct17), shl17⟩)
    (hk17 : PySem.W.codeIn K cd17 "Reader.product" = true)
    (hp17 : PySem.W.keepIn K (.ref ha17) = true)
    (hg18 : PySem.W.findIn K (.ref c_Reader) "piece" = some (some (.ref ha18)))
    (hi18 : PySem.W.isFn K (.ref ha18) = true)
    (hl18 : K.lookup ha18 = some ⟨oc18, od18, .func (PySem.W.fnOf "piece" "Reader.piece" (defArgs s_Reader_piece) (defBody s_Reader_piece) (defScope s_Reader_piece) .none kV18 dc18 pm18 an18 cd18 ct18), shl18⟩)
    (hk18 : PySem.W.codeIn K cd18 "Reader.piece" = true)
    (hp18 : PySem.W.keepIn K (.ref ha18) = true)
    (hg19 : PySem.W.nsIn K mainGlobals "read" = some (some (.ref ha19)))
    (hl19 : K.lookup ha19 = some ⟨oc19, od19, .func (PySem.W.fnOf "read" "read" (defArgs s_read) (defBody s_read) (defScope s_read) .none kV19 dc19 pm19 an19 cd19 ct19), shl19⟩)
    (hk19 : PySem.W.codeIn K cd19 "read" = true)
    (hp19 : PySem.W.keepIn K (.ref ha19) = true)
    (hg20 : PySem.W.nsIn K mainGlobals "names_of" = some (some (.ref ha20)))
    (hl20 : K.lookup ha20 = some ⟨oc20, od20, .func (PySem.W.fnOf "names_of" "names_of" (defArgs s_names_of) (defBody s_names_of) (defScope s_names_of) .none kV20 dc20 pm20 an20 cd20 ct20), shl20⟩)
    (hk20 : PySem.W.codeIn K cd20 "names_of" = true)
    (hp20 : PySem.W.keepIn K (.ref ha20) = true)
    (hg21 : PySem.W.findIn K (.ref c_Made) "__init__" = some (some (.ref ha21)))
    (hi21 : PySem.W.isFn K (.ref ha21) = true)
    (hl21 : K.lookup ha21 = some ⟨oc21, od21, .func (PySem.W.fnOf "__init__" "Made.__init__" (defArgs s_Made__init) (defBody s_Made__init) (defScope s_Made__init) .none kV21 dc21 pm21 an21 cd21 ct21), shl21⟩)
    (hk21 : PySem.W.codeIn K cd21 "Made.__init__" = true)
    (hp21 : PySem.W.keepIn K (.ref ha21) = true)
    (hg22 : PySem.W.findIn K (.ref c_Made) "worth_for" = some (some (.ref ha22)))
    (hi22 : PySem.W.isFn K (.ref ha22) = true)
    (hl22 : K.lookup ha22 = some ⟨oc22, od22, .func (PySem.W.fnOf "worth_for" "Made.worth_for" (defArgs s_Made_worth_for) (defBody s_Made_worth_for) (defScope s_Made_worth_for) .none kV22 dc22 pm22 an22 cd22 ct22), shl22⟩)
    (hk22 : PySem.W.codeIn K cd22 "Made.worth_for" = true)
    (hp22 : PySem.W.keepIn K (.ref ha22) = true)
    (hg23 : PySem.W.nsIn K mainGlobals "span_told" = some (some (.ref ha23)))
    (hl23 : K.lookup ha23 = some ⟨oc23, od23, .func (PySem.W.fnOf "span_told" "span_told" (defArgs s_span_told) (defBody s_span_told) (defScope s_span_told) .none kV23 dc23 pm23 an23 cd23 ct23), shl23⟩)
    (hk23 : PySem.W.codeIn K cd23 "span_told" = true)
    (hp23 : PySem.W.keepIn K (.ref ha23) = true)
    (hg24 : PySem.W.findIn K (.ref c_Desk) "__init__" = some (some (.ref ha24)))
    (hi24 : PySem.W.isFn K (.ref ha24) = true)
    (hl24 : K.lookup ha24 = some ⟨oc24, od24, .func (PySem.W.fnOf "__init__" "Desk.__init__" (defArgs s_Desk__init) (defBody s_Desk__init) (defScope s_Desk__init) .none kV24 dc24 pm24 an24 cd24 ct24), shl24⟩)
    (hk24 : PySem.W.codeIn K cd24 "Desk.__init__" = true)
    (hp24 : PySem.W.keepIn K (.ref ha24) = true)
    (hg25 : PySem.W.findIn K (.ref c_Desk) "say" = some (some (.ref ha25)))
    (hi25 : PySem.W.isFn K (.ref ha25) = true)
    (hl25 : K.lookup ha25 = some ⟨oc25, od25, .func (PySem.W.fnOf "say" "Desk.say" (defArgs s_Desk_say) (defBody s_Desk_say) (defScope s_Desk_say) .none kV25 dc25 pm25 an25 cd25 ct25), shl25⟩)
    (hk25 : PySem.W.codeIn K cd25 "Desk.say" = true)
    (hp25 : PySem.W.keepIn K (.ref ha25) = true)
    (hg26 : PySem.W.nsIn K mainGlobals "_law_at" = some (some (.ref ha26)))
    (hl26 : K.lookup ha26 = some ⟨oc26, od26, .func (PySem.W.fnOf "_law_at" "_law_at" (defArgs s_law_at) (defBody s_law_at) (defScope s_law_at) .none kV26 dc26 pm26 an26 cd26 ct26), shl26⟩)
    (hk26 : PySem.W.codeIn K cd26 "_law_at" = true)
    (hp26 : PySem.W.keepIn K (.ref ha26) = true)
    (hg27 : PySem.W.nsIn K mainGlobals "_law_mixed" = some (some (.ref ha27)))
    (hl27 : K.lookup ha27 = some ⟨oc27, od27, .func (PySem.W.fnOf "_law_mixed" "_law_mixed" (defArgs s_law_mixed) (defBody s_law_mixed) (defScope s_law_mixed) .none kV27 dc27 pm27 an27 cd27 ct27), shl27⟩)
    (hk27 : PySem.W.codeIn K cd27 "_law_mixed" = true)
    (hp27 : PySem.W.keepIn K (.ref ha27) = true)
    (hg28 : PySem.W.nsIn K mainGlobals "_law_names" = some (some (.ref ha28)))
    (hl28 : K.lookup ha28 = some ⟨oc28, od28, .func (PySem.W.fnOf "_law_names" "_law_names" (defArgs s_law_names) (defBody s_law_names) (defScope s_law_names) .none kV28 dc28 pm28 an28 cd28 ct28), shl28⟩)
    (hk28 : PySem.W.codeIn K cd28 "_law_names" = true)
    (hp28 : PySem.W.keepIn K (.ref ha28) = true)
    (hg29 : PySem.W.nsIn K mainGlobals "_law_stream" = some (some (.ref ha29)))
    (hl29 : K.lookup ha29 = some ⟨oc29, od29, .func (PySem.W.fnOf "_law_stream" "_law_stream" (defArgs s_law_stream) (defBody s_law_stream) (defScope s_law_stream) .none kV29 dc29 pm29 an29 cd29 ct29), shl29⟩)
    (hk29 : PySem.W.codeIn K cd29 "_law_stream" = true)
    (hp29 : PySem.W.keepIn K (.ref ha29) = true)
    (hg30 : PySem.W.nsIn K mainGlobals "_law_formula" = some (some (.ref ha30)))
    (hl30 : K.lookup ha30 = some ⟨oc30, od30, .func (PySem.W.fnOf "_law_formula" "_law_formula" (defArgs s_law_formula) (defBody s_law_formula) (defScope s_law_formula) .none kV30 dc30 pm30 an30 cd30 ct30), shl30⟩)
    (hk30 : PySem.W.codeIn K cd30 "_law_formula" = true)
    (hp30 : PySem.W.keepIn K (.ref ha30) = true)
    (hg31 : PySem.W.nsIn K mainGlobals "_law_bracketed" = some (some (.ref ha31)))
    (hl31 : K.lookup ha31 = some ⟨oc31, od31, .func (PySem.W.fnOf "_law_bracketed" "_law_bracketed" (defArgs s_law_bracketed) (defBody s_law_bracketed) (defScope s_law_bracketed) .none kV31 dc31 pm31 an31 cd31 ct31), shl31⟩)
    (hk31 : PySem.W.codeIn K cd31 "_law_bracketed" = true)
    (hp31 : PySem.W.keepIn K (.ref ha31) = true)
    (hg32 : PySem.W.nsIn K mainGlobals "_law_text" = some (some (.ref ha32)))
    (hl32 : K.lookup ha32 = some ⟨oc32, od32, .func (PySem.W.fnOf "_law_text" "_law_text" (defArgs s_law_text) (defBody s_law_text) (defScope s_law_text) .none kV32 dc32 pm32 an32 cd32 ct32), shl32⟩)
    (hk32 : PySem.W.codeIn K cd32 "_law_text" = true)
    (hp32 : PySem.W.keepIn K (.ref ha32) = true)
    (hg33 : PySem.W.nsIn K mainGlobals "_law_loose" = some (some (.ref ha33)))
    (hl33 : K.lookup ha33 = some ⟨oc33, od33, .func (PySem.W.fnOf "_law_loose" "_law_loose" (defArgs s_law_loose) (defBody s_law_loose) (defScope s_law_loose) .none kV33 dc33 pm33 an33 cd33 ct33), shl33⟩)
    (hk33 : PySem.W.codeIn K cd33 "_law_loose" = true)
    (hp33 : PySem.W.keepIn K (.ref ha33) = true)
    (hg34 : PySem.W.nsIn K mainGlobals "_law_spoilt" = some (some (.ref ha34)))
    (hl34 : K.lookup ha34 = some ⟨oc34, od34, .func (PySem.W.fnOf "_law_spoilt" "_law_spoilt" (defArgs s_law_spoilt) (defBody s_law_spoilt) (defScope s_law_spoilt) .none kV34 dc34 pm34 an34 cd34 ct34), shl34⟩)
    (hk34 : PySem.W.codeIn K cd34 "_law_spoilt" = true)
    (hp34 : PySem.W.keepIn K (.ref ha34) = true)
    (hg35 : PySem.W.nsIn K mainGlobals "_law_ends" = some (some (.ref ha35)))
    (hl35 : K.lookup ha35 = some ⟨oc35, od35, .func (PySem.W.fnOf "_law_ends" "_law_ends" (defArgs s_law_ends) (defBody s_law_ends) (defScope s_law_ends) .none kV35 dc35 pm35 an35 cd35 ct35), shl35⟩)
    (hk35 : PySem.W.codeIn K cd35 "_law_ends" = true)
    (hp35 : PySem.W.keepIn K (.ref ha35) = true)
    (hg36 : PySem.W.nsIn K mainGlobals "_law_span" = some (some (.ref ha36)))
    (hl36 : K.lookup ha36 = some ⟨oc36, od36, .func (PySem.W.fnOf "_law_span" "_law_span" (defArgs s_law_span) (defBody s_law_span) (defScope s_law_span) .none kV36 dc36 pm36 an36 cd36 ct36), shl36⟩)
    (hk36 : PySem.W.codeIn K cd36 "_law_span" = true)
    (hp36 : PySem.W.keepIn K (.ref ha36) = true)
    (hg37 : PySem.W.nsIn K mainGlobals "_law_lacks" = some (some (.ref ha37)))
    (hl37 : K.lookup ha37 = some ⟨oc37, od37, .func (PySem.W.fnOf "_law_lacks" "_law_lacks" (defArgs s_law_lacks) (defBody s_law_lacks) (defScope s_law_lacks) .none kV37 dc37 pm37 an37 cd37 ct37), shl37⟩)
    (hk37 : PySem.W.codeIn K cd37 "_law_lacks" = true)
    (hp37 : PySem.W.keepIn K (.ref ha37) = true)
    (hg38 : PySem.W.nsIn K mainGlobals "_law_says" = some (some (.ref ha38)))
    (hl38 : K.lookup ha38 = some ⟨oc38, od38, .func (PySem.W.fnOf "_law_says" "_law_says" (defArgs s_law_says) (defBody s_law_says) (defScope s_law_says) .none kV38 dc38 pm38 an38 cd38 ct38), shl38⟩)
    (hk38 : PySem.W.codeIn K cd38 "_law_says" = true)
    (hp38 : PySem.W.keepIn K (.ref ha38) = true)
    (hg39 : PySem.W.nsIn K mainGlobals "_law_answers" = some (some (.ref ha39)))
    (hl39 : K.lookup ha39 = some ⟨oc39, od39, .func (PySem.W.fnOf "_law_answers" "_law_answers" (defArgs s_law_answers) (defBody s_law_answers) (defScope s_law_answers) .none kV39 dc39 pm39 an39 cd39 ct39), shl39⟩)
    (hk39 : PySem.W.codeIn K cd39 "_law_answers" = true)
    (hp39 : PySem.W.keepIn K (.ref ha39) = true)
    (hg40 : PySem.W.nsIn K mainGlobals "_law_asked" = some (some (.ref ha40)))
    (hl40 : K.lookup ha40 = some ⟨oc40, od40, .func (PySem.W.fnOf "_law_asked" "_law_asked" (defArgs s_law_asked) (defBody s_law_asked) (defScope s_law_asked) .none kV40 dc40 pm40 an40 cd40 ct40), shl40⟩)
    (hk40 : PySem.W.codeIn K cd40 "_law_asked" = true)
    (hp40 : PySem.W.keepIn K (.ref ha40) = true)
    (hg41 : PySem.W.nsIn K mainGlobals "law" = some (some (.ref ha41)))
    (hl41 : K.lookup ha41 = some ⟨oc41, od41, .func (PySem.W.fnOf "law" "law" (defArgs s_law) (defBody s_law) (defScope s_law) .none kV41 dc41 pm41 an41 cd41 ct41), shl41⟩)
    (hk41 : PySem.W.codeIn K cd41 "law" = true)
    (hp41 : PySem.W.keepIn K (.ref ha41) = true)
    (gc_PressError : PySem.W.nsIn K mainGlobals "PressError" = some (some (.ref c_PressError)))
    (kc_PressError : PySem.W.keepIn K (.ref c_PressError) = true)
    (x_PressError : PySem.W.excIn K c_PressError [.type "ValueError", .type "Exception", .type "BaseException", .type "object"] "ValueError.__new__" = true)
    (xb_PressError : PySem.W.subIn K (.ref c_PressError) (.type "BaseException") = some true)
    (xt_PressError : PySem.W.typeIn K (.ref c_PressError) = some (.type "type"))
    (ehd_PressError : PySem.W.hasDictIn K c_PressError = true)
    (gc_TooFew : PySem.W.nsIn K mainGlobals "TooFew" = some (some (.ref c_TooFew)))
    (kc_TooFew : PySem.W.keepIn K (.ref c_TooFew) = true)
    (x_TooFew : PySem.W.excIn K c_TooFew [.type "ValueError", .type "Exception", .type "BaseException", .type "object"] "ValueError.__new__" = true)
    (xb_TooFew : PySem.W.subIn K (.ref c_TooFew) (.type "BaseException") = some true)
    (xt_TooFew : PySem.W.typeIn K (.ref c_TooFew) = some (.type "type"))
    (ehd_TooFew : PySem.W.hasDictIn K c_TooFew = true)
    (gc_TooMany : PySem.W.nsIn K mainGlobals "TooMany" = some (some (.ref c_TooMany)))
    (kc_TooMany : PySem.W.keepIn K (.ref c_TooMany) = true)
    (x_TooMany : PySem.W.excIn K c_TooMany [.type "ValueError", .type "Exception", .type "BaseException", .type "object"] "ValueError.__new__" = true)
    (xb_TooMany : PySem.W.subIn K (.ref c_TooMany) (.type "BaseException") = some true)
    (xt_TooMany : PySem.W.typeIn K (.ref c_TooMany) = some (.type "type"))
    (ehd_TooMany : PySem.W.hasDictIn K c_TooMany = true)
    (gc_TooWide : PySem.W.nsIn K mainGlobals "TooWide" = some (some (.ref c_TooWide)))
    (kc_TooWide : PySem.W.keepIn K (.ref c_TooWide) = true)
    (x_TooWide : PySem.W.excIn K c_TooWide [.type "ValueError", .type "Exception", .type "BaseException", .type "object"] "ValueError.__new__" = true)
    (xb_TooWide : PySem.W.subIn K (.ref c_TooWide) (.type "BaseException") = some true)
    (xt_TooWide : PySem.W.typeIn K (.ref c_TooWide) = some (.type "type"))
    (ehd_TooWide : PySem.W.hasDictIn K c_TooWide = true)
    (gc_NoFormula : PySem.W.nsIn K mainGlobals "NoFormula" = some (some (.ref c_NoFormula)))
    (kc_NoFormula : PySem.W.keepIn K (.ref c_NoFormula) = true)
    (x_NoFormula : PySem.W.excIn K c_NoFormula [.type "ValueError", .type "Exception", .type "BaseException", .type "object"] "ValueError.__new__" = true)
    (xb_NoFormula : PySem.W.subIn K (.ref c_NoFormula) (.type "BaseException") = some true)
    (xt_NoFormula : PySem.W.typeIn K (.ref c_NoFormula) = some (.type "type"))
    (ehd_NoFormula : PySem.W.hasDictIn K c_NoFormula = true)
    (ega_NoFormula : PySem.W.findIn K (.ref c_NoFormula) "__getattribute__" = some (some (.builtin "BaseException.__getattribute__")))
    (egg_NoFormula : PySem.W.findIn K (.ref c_NoFormula) "__getattr__" = some none)
    (ecl_NoFormula : PySem.W.findIn K (.ref c_NoFormula) "__class__" = some (some (.builtin "object.__class__")))
    (esp_NoFormula : PySem.W.specialIn K (.builtin "object.__class__") "__get__" = some (some (.builtin "getset_descriptor.__get__")))
    (etk_NoFormula : PySem.W.takesIn K (.builtin "object.__class__") = some true)
    (emr_NoFormula : PySem.W.mroIn K c_NoFormula (.type "object") = some true)
    (sv_NoFormula : PySem.W.subIn K (.ref c_NoFormula) (.type "ValueError") = some true)
    (s_NoFormula_PressError : PySem.W.subIn K (.ref c_NoFormula) (.ref c_PressError) = some true)
    (s_NoFormula_TooFew : PySem.W.subIn K (.ref c_NoFormula) (.ref c_TooFew) = some false)
    (s_NoFormula_TooMany : PySem.W.subIn K (.ref c_NoFormula) (.ref c_TooMany) = some false)
    (s_NoFormula_TooWide : PySem.W.subIn K (.ref c_NoFormula) (.ref c_TooWide) = some false)
    (s_NoFormula_NoFormula : PySem.W.subIn K (.ref c_NoFormula) (.ref c_NoFormula) = some true)
    (s_NoFormula_NoName : PySem.W.subIn K (.ref c_NoFormula) (.ref c_NoName) = some false)
    (s_NoFormula_NoLine : PySem.W.subIn K (.ref c_NoFormula) (.ref c_NoLine) = some false)
    (s_NoFormula_NoCircuit : PySem.W.subIn K (.ref c_NoFormula) (.ref c_NoCircuit) = some false)
    (s_NoFormula_OutOfWidth : PySem.W.subIn K (.ref c_NoFormula) (.ref c_OutOfWidth) = some false)
    (gc_NoName : PySem.W.nsIn K mainGlobals "NoName" = some (some (.ref c_NoName)))
    (kc_NoName : PySem.W.keepIn K (.ref c_NoName) = true)
    (x_NoName : PySem.W.excIn K c_NoName [.type "ValueError", .type "Exception", .type "BaseException", .type "object"] "ValueError.__new__" = true)
    (xb_NoName : PySem.W.subIn K (.ref c_NoName) (.type "BaseException") = some true)
    (xt_NoName : PySem.W.typeIn K (.ref c_NoName) = some (.type "type"))
    (ehd_NoName : PySem.W.hasDictIn K c_NoName = true)
    (ega_NoName : PySem.W.findIn K (.ref c_NoName) "__getattribute__" = some (some (.builtin "BaseException.__getattribute__")))
    (egg_NoName : PySem.W.findIn K (.ref c_NoName) "__getattr__" = some none)
    (ecl_NoName : PySem.W.findIn K (.ref c_NoName) "__class__" = some (some (.builtin "object.__class__")))
    (esp_NoName : PySem.W.specialIn K (.builtin "object.__class__") "__get__" = some (some (.builtin "getset_descriptor.__get__")))
    (etk_NoName : PySem.W.takesIn K (.builtin "object.__class__") = some true)
    (emr_NoName : PySem.W.mroIn K c_NoName (.type "object") = some true)
    (sv_NoName : PySem.W.subIn K (.ref c_NoName) (.type "ValueError") = some true)
    (s_NoName_PressError : PySem.W.subIn K (.ref c_NoName) (.ref c_PressError) = some true)
    (s_NoName_TooFew : PySem.W.subIn K (.ref c_NoName) (.ref c_TooFew) = some false)
    (s_NoName_TooMany : PySem.W.subIn K (.ref c_NoName) (.ref c_TooMany) = some false)
    (s_NoName_TooWide : PySem.W.subIn K (.ref c_NoName) (.ref c_TooWide) = some false)
    (s_NoName_NoFormula : PySem.W.subIn K (.ref c_NoName) (.ref c_NoFormula) = some false)
    (s_NoName_NoName : PySem.W.subIn K (.ref c_NoName) (.ref c_NoName) = some true)
    (s_NoName_NoLine : PySem.W.subIn K (.ref c_NoName) (.ref c_NoLine) = some false)
    (s_NoName_NoCircuit : PySem.W.subIn K (.ref c_NoName) (.ref c_NoCircuit) = some false)
    (s_NoName_OutOfWidth : PySem.W.subIn K (.ref c_NoName) (.ref c_OutOfWidth) = some false)
    (gc_NoLine : PySem.W.nsIn K mainGlobals "NoLine" = some (some (.ref c_NoLine)))
    (kc_NoLine : PySem.W.keepIn K (.ref c_NoLine) = true)
    (x_NoLine : PySem.W.excIn K c_NoLine [.type "ValueError", .type "Exception", .type "BaseException", .type "object"] "ValueError.__new__" = true)
    (xb_NoLine : PySem.W.subIn K (.ref c_NoLine) (.type "BaseException") = some true)
    (xt_NoLine : PySem.W.typeIn K (.ref c_NoLine) = some (.type "type"))
    (ehd_NoLine : PySem.W.hasDictIn K c_NoLine = true)
    (gc_NoCircuit : PySem.W.nsIn K mainGlobals "NoCircuit" = some (some (.ref c_NoCircuit)))
    (kc_NoCircuit : PySem.W.keepIn K (.ref c_NoCircuit) = true)
    (x_NoCircuit : PySem.W.excIn K c_NoCircuit [.type "ValueError", .type "Exception", .type "BaseException", .type "object"] "ValueError.__new__" = true)
    (xb_NoCircuit : PySem.W.subIn K (.ref c_NoCircuit) (.type "BaseException") = some true)
    (xt_NoCircuit : PySem.W.typeIn K (.ref c_NoCircuit) = some (.type "type"))
    (ehd_NoCircuit : PySem.W.hasDictIn K c_NoCircuit = true)
    (gc_OutOfWidth : PySem.W.nsIn K mainGlobals "OutOfWidth" = some (some (.ref c_OutOfWidth)))
    (kc_OutOfWidth : PySem.W.keepIn K (.ref c_OutOfWidth) = true)
    (x_OutOfWidth : PySem.W.excIn K c_OutOfWidth [.type "ValueError", .type "Exception", .type "BaseException", .type "object"] "ValueError.__new__" = true)
    (xb_OutOfWidth : PySem.W.subIn K (.ref c_OutOfWidth) (.type "BaseException") = some true)
    (xt_OutOfWidth : PySem.W.typeIn K (.ref c_OutOfWidth) = some (.type "type"))
    (ehd_OutOfWidth : PySem.W.hasDictIn K c_OutOfWidth = true)
    (gc_Reader : PySem.W.nsIn K mainGlobals "Reader" = some (some (.ref c_Reader)))
    (kc_Reader : PySem.W.keepIn K (.ref c_Reader) = true)
    (pg_Reader : PySem.W.plainGet K c_Reader Str.empty = true)
    (hd_Reader : PySem.W.hasDictIn K c_Reader = true)
    (po_Reader : PySem.W.plainOver K c_Reader = true)
    (sa_Reader : PySem.W.findIn K (.ref c_Reader) "__setattr__" = some (some (.builtin "object.__setattr__")))
    (mk_Reader : PySem.W.makesIn K c_Reader = true)
    (n_Reader_text : PySem.W.findIn K (.ref c_Reader) "text" = some none)
    (n_Reader_at : PySem.W.findIn K (.ref c_Reader) "at" = some none)
    (gc_Made : PySem.W.nsIn K mainGlobals "Made" = some (some (.ref c_Made)))
    (kc_Made : PySem.W.keepIn K (.ref c_Made) = true)
    (pg_Made : PySem.W.plainGet K c_Made Str.empty = true)
    (hd_Made : PySem.W.hasDictIn K c_Made = true)
    (po_Made : PySem.W.plainOver K c_Made = true)
    (sa_Made : PySem.W.findIn K (.ref c_Made) "__setattr__" = some (some (.builtin "object.__setattr__")))
    (mk_Made : PySem.W.makesIn K c_Made = true)
    (n_Made_below : PySem.W.findIn K (.ref c_Made) "below" = some none)
    (n_Made_widths : PySem.W.findIn K (.ref c_Made) "widths" = some none)
    (n_Made_rows : PySem.W.findIn K (.ref c_Made) "rows" = some none)
    (n_Made_outs : PySem.W.findIn K (.ref c_Made) "outs" = some none)
    (gc_Desk : PySem.W.nsIn K mainGlobals "Desk" = some (some (.ref c_Desk)))
    (kc_Desk : PySem.W.keepIn K (.ref c_Desk) = true)
    (pg_Desk : PySem.W.plainGet K c_Desk Str.empty = true)
    (hd_Desk : PySem.W.hasDictIn K c_Desk = true)
    (po_Desk : PySem.W.plainOver K c_Desk = true)
    (sa_Desk : PySem.W.findIn K (.ref c_Desk) "__setattr__" = some (some (.builtin "object.__setattr__")))
    (mk_Desk : PySem.W.makesIn K c_Desk = true)
    (n_Desk_widths : PySem.W.findIn K (.ref c_Desk) "widths" = some none)
    (n_Desk_order : PySem.W.findIn K (.ref c_Desk) "order" = some none)
    (n_Desk_splits : PySem.W.findIn K (.ref c_Desk) "splits" = some none)
    (n_Desk_made : PySem.W.findIn K (.ref c_Desk) "made" = some none)
    (z_ValueError : PySem.W.nsIn K mainGlobals "ValueError" = some none)
    (z_int : PySem.W.nsIn K mainGlobals "int" = some none)
    (z_isinstance : PySem.W.nsIn K mainGlobals "isinstance" = some none)
    (z_len : PySem.W.nsIn K mainGlobals "len" = some none)
    (z_list : PySem.W.nsIn K mainGlobals "list" = some none)
    (z_max : PySem.W.nsIn K mainGlobals "max" = some none)
    (z_min : PySem.W.nsIn K mainGlobals "min" = some none)
    (z_range : PySem.W.nsIn K mainGlobals "range" = some none)
    (z_sorted : PySem.W.nsIn K mainGlobals "sorted" = some none)
    (z_str : PySem.W.nsIn K mainGlobals "str" = some none)
    (gk_FIGURES_lines : PySem.W.nsIn K mainGlobals "FIGURES_lines" = some (some (Value.str "0123456789" tk_FIGURES_lines)))
    (gk_FIGURES_text : PySem.W.nsIn K mainGlobals "FIGURES_text" = some (some (Value.str "0123456789" tk_FIGURES_text)))
    (gk_MOST : PySem.W.nsIn K mainGlobals "MOST" = some (some (Value.int 1000000000000 tk_MOST)))
    (gk_SMALL_lines : PySem.W.nsIn K mainGlobals "SMALL_lines" = some (some (Value.str "abcdefghijklmnopqrstuvwxyz" tk_SMALL_lines)))
    (gk_SMALL_text : PySem.W.nsIn K mainGlobals "SMALL_text" = some (some (Value.str "abcdefghijklmnopqrstuvwxyz" tk_SMALL_text))) :
    ∃ fd : FuncData, (∀ (s : Shared) (v : Value), BindsTo s fd ⟨[v], []⟩ [("_law_script", v)]) ∧ ∀ base : Heap, K.In base → base.Ns mainGlobals mg → FnOk l.prog w K mg base CX0 194 fa fd ["_law_script"] (sp_law K) := by
  have e := hfa.symm.trans (PySem.W.mg_of X G hg41)
  cases e
  have F0 := fun_mk (st := s_span_of_width) hl0 hk0 hp0
  have B0 := F0.binds (ps := ["width"]) fun _ _ _ _ _ _ us hl => by first | exact bnd1 (fun _ => rfl) us hl | exact (match us, hl with | [_], _ => rfl)
  have F1 := fun_mk (st := s_span_of) hl1 hk1 hp1
  have B1 := F1.binds (ps := ["formula", "widths"]) fun _ _ _ _ _ _ us hl => by first | exact bnd2 (fun _ _ => rfl) us hl | exact (match us, hl with | [_, _], _ => rfl)
  have F2 := fun_mk (st := s_parts_of) hl2 hk2 hp2
  have B2 := F2.binds (ps := ["formula"]) fun _ _ _ _ _ _ us hl => by first | exact bnd1 (fun _ => rfl) us hl | exact (match us, hl with | [_], _ => rfl)
  have F3 := fun_mk (st := s_only) hl3 hk3 hp3
  have B3 := F3.binds (ps := ["word", "signs"]) fun _ _ _ _ _ _ us hl => by first | exact bnd2 (fun _ _ => rfl) us hl | exact (match us, hl with | [_, _], _ => rfl)
  have F4 := fun_mk (st := s_refuse_unless) hl4 hk4 hp4
  have B4 := F4.binds (ps := ["fine"]) fun _ _ _ _ _ _ us hl => by first | exact bnd1 (fun _ => rfl) us hl | exact (match us, hl with | [_], _ => rfl)
  have F5 := fun_mk (st := s_name_in) hl5 hk5 hp5
  have B5 := F5.binds (ps := ["word"]) fun _ _ _ _ _ _ us hl => by first | exact bnd1 (fun _ => rfl) us hl | exact (match us, hl with | [_], _ => rfl)
  have F6 := fun_mk (st := s_number_in) hl6 hk6 hp6
  have B6 := F6.binds (ps := ["word"]) fun _ _ _ _ _ _ us hl => by first | exact bnd1 (fun _ => rfl) us hl | exact (match us, hl with | [_], _ => rfl)
  have F7 := fun_mk (st := s_numbers_in) hl7 hk7 hp7
  have B7 := F7.binds (ps := ["words"]) fun _ _ _ _ _ _ us hl => by first | exact bnd1 (fun _ => rfl) us hl | exact (match us, hl with | [_], _ => rfl)
  have F8 := fun_mk (st := s_width_line) hl8 hk8 hp8
  have B8 := F8.binds (ps := ["words"]) fun _ _ _ _ _ _ us hl => by first | exact bnd1 (fun _ => rfl) us hl | exact (match us, hl with | [_], _ => rfl)
  have F9 := fun_mk (st := s_ask_line) hl9 hk9 hp9
  have B9 := F9.binds (ps := ["words"]) fun _ _ _ _ _ _ us hl => by first | exact bnd1 (fun _ => rfl) us hl | exact (match us, hl with | [_], _ => rfl)
  have F10 := fun_mk (st := s_line_read) hl10 hk10 hp10
  have B10 := F10.binds (ps := ["line"]) fun _ _ _ _ _ _ us hl => by first | exact bnd1 (fun _ => rfl) us hl | exact (match us, hl with | [_], _ => rfl)
  have F11 := fun_mk (st := s_bracketed) hl11 hk11 hp11
  have B11 := F11.binds (ps := ["formula", "words"]) fun _ _ _ _ _ _ us hl => by first | exact bnd2 (fun _ _ => rfl) us hl | exact (match us, hl with | [_, _], _ => rfl)
  have F12 := fun_mk (st := s_shown) hl12 hk12 hp12
  have B12 := F12.binds (ps := ["formula"]) fun _ _ _ _ _ _ us hl => by first | exact bnd1 (fun _ => rfl) us hl | exact (match us, hl with | [_], _ => rfl)
  have F13 := fun_mk (st := s_Reader__init) hl13 hk13 hp13
  have B13 := F13.binds (ps := ["self", "text"]) fun _ _ _ _ _ _ us hl => by first | exact bnd2 (fun _ _ => rfl) us hl | exact (match us, hl with | [_, _], _ => rfl)
  have F14 := fun_mk (st := s_Reader_here) hl14 hk14 hp14
  have B14 := F14.binds (ps := ["self"]) fun _ _ _ _ _ _ us hl => by first | exact bnd1 (fun _ => rfl) us hl | exact (match us, hl with | [_], _ => rfl)
  have F15 := fun_mk (st := s_Reader_run_of) hl15 hk15 hp15
  have B15 := F15.binds (ps := ["self", "signs"]) fun _ _ _ _ _ _ us hl => by first | exact bnd2 (fun _ _ => rfl) us hl | exact (match us, hl with | [_, _], _ => rfl)
  have F16 := fun_mk (st := s_Reader_total) hl16 hk16 hp16
  have B16 := F16.binds (ps := ["self"]) fun _ _ _ _ _ _ us hl => by first | exact bnd1 (fun _ => rfl) us hl | exact (match us, hl with | [_], _ => rfl)
  have F17 := fun_mk (st := s_Reader_product) hl17 hk17 hp17
  have B17 := F17.binds (ps := ["self"]) fun _ _ _ _ _ _ us hl => by first | exact bnd1 (fun _ => rfl) us hl | exact (match us, hl with | [_], _ => rfl)
  have F18 := fun_mk (st := s_Reader_piece) hl18 hk18 hp18
  have B18 := F18.binds (ps := ["self"]) fun _ _ _ _ _ _ us hl => by first | exact bnd1 (fun _ => rfl) us hl | exact (match us, hl with | [_], _ => rfl)
  have F19 := fun_mk (st := s_read) hl19 hk19 hp19
  have B19 := F19.binds (ps := ["text"]) fun _ _ _ _ _ _ us hl => by first | exact bnd1 (fun _ => rfl) us hl | exact (match us, hl with | [_], _ => rfl)
  have F20 := fun_mk (st := s_names_of) hl20 hk20 hp20
  have B20 := F20.binds (ps := ["formula"]) fun _ _ _ _ _ _ us hl => by first | exact bnd1 (fun _ => rfl) us hl | exact (match us, hl with | [_], _ => rfl)
  have F21 := fun_mk (st := s_Made__init) hl21 hk21 hp21
  have B21 := F21.binds (ps := ["self", "formula", "widths", "order", "splits"]) fun _ _ _ _ _ _ us hl => by first | exact bnd5 (fun _ _ _ _ _ => rfl) us hl | exact (match us, hl with | [_, _, _, _, _], _ => rfl)
  have F22 := fun_mk (st := s_Made_worth_for) hl22 hk22 hp22
  have B22 := F22.binds (ps := ["self", "words"]) fun _ _ _ _ _ _ us hl => by first | exact bnd2 (fun _ _ => rfl) us hl | exact (match us, hl with | [_, _], _ => rfl)
  have F23 := fun_mk (st := s_span_told) hl23 hk23 hp23
  have B23 := F23.binds (ps := ["formula", "widths"]) fun _ _ _ _ _ _ us hl => by first | exact bnd2 (fun _ _ => rfl) us hl | exact (match us, hl with | [_, _], _ => rfl)
  have F24 := fun_mk (st := s_Desk__init) hl24 hk24 hp24
  have B24 := F24.binds (ps := ["self"]) fun _ _ _ _ _ _ us hl => by first | exact bnd1 (fun _ => rfl) us hl | exact (match us, hl with | [_], _ => rfl)
  have F25 := fun_mk (st := s_Desk_say) hl25 hk25 hp25
  have B25 := F25.binds (ps := ["self", "line"]) fun _ _ _ _ _ _ us hl => by first | exact bnd2 (fun _ _ => rfl) us hl | exact (match us, hl with | [_, _], _ => rfl)
  have F26 := fun_mk (st := s_law_at) hl26 hk26 hp26
  have B26 := F26.binds (ps := ["_law_script", "_law_k"]) fun _ _ _ _ _ _ us hl => by first | exact bnd2 (fun _ _ => rfl) us hl | exact (match us, hl with | [_, _], _ => rfl)
  have F27 := fun_mk (st := s_law_mixed) hl27 hk27 hp27
  have B27 := F27.binds (ps := ["_law_cell", "_law_k"]) fun _ _ _ _ _ _ us hl => by first | exact bnd2 (fun _ _ => rfl) us hl | exact (match us, hl with | [_, _], _ => rfl)
  have F28 := fun_mk (st := s_law_names) hl28 hk28 hp28
  have B28 := F28.binds (ps := ["_law_number"]) fun _ _ _ _ _ _ us hl => by first | exact bnd1 (fun _ => rfl) us hl | exact (match us, hl with | [_], _ => rfl)
  have F29 := fun_mk (st := s_law_stream) hl29 hk29 hp29
  have B29 := F29.binds (ps := ["_law_cell", "_law_k"]) fun _ _ _ _ _ _ us hl => by first | exact bnd2 (fun _ _ => rfl) us hl | exact (match us, hl with | [_, _], _ => rfl)
  have F30 := fun_mk (st := s_law_formula) hl30 hk30 hp30
  have B30 := F30.binds (ps := ["_law_numbers", "_law_names_here"]) fun _ _ _ _ _ _ us hl => by first | exact bnd2 (fun _ _ => rfl) us hl | exact (match us, hl with | [_, _], _ => rfl)
  have F31 := fun_mk (st := s_law_bracketed) hl31 hk31 hp31
  have B31 := F31.binds (ps := ["_law_formula_here", "_law_words"]) fun _ _ _ _ _ _ us hl => by first | exact bnd2 (fun _ _ => rfl) us hl | exact (match us, hl with | [_, _], _ => rfl)
  have F32 := fun_mk (st := s_law_text) hl32 hk32 hp32
  have B32 := F32.binds (ps := ["_law_formula_here"]) fun _ _ _ _ _ _ us hl => by first | exact bnd1 (fun _ => rfl) us hl | exact (match us, hl with | [_], _ => rfl)
  have F33 := fun_mk (st := s_law_loose) hl33 hk33 hp33
  have B33 := F33.binds (ps := ["_law_formula_here"]) fun _ _ _ _ _ _ us hl => by first | exact bnd1 (fun _ => rfl) us hl | exact (match us, hl with | [_], _ => rfl)
  have F34 := fun_mk (st := s_law_spoilt) hl34 hk34 hp34
  have B34 := F34.binds (ps := ["_law_text_here", "_law_number"]) fun _ _ _ _ _ _ us hl => by first | exact bnd2 (fun _ _ => rfl) us hl | exact (match us, hl with | [_, _], _ => rfl)
  have F35 := fun_mk (st := s_law_ends) hl35 hk35 hp35
  have B35 := F35.binds (ps := ["_law_width"]) fun _ _ _ _ _ _ us hl => by first | exact bnd1 (fun _ => rfl) us hl | exact (match us, hl with | [_], _ => rfl)
  have F36 := fun_mk (st := s_law_span) hl36 hk36 hp36
  have B36 := F36.binds (ps := ["_law_formula_here", "_law_widths"]) fun _ _ _ _ _ _ us hl => by first | exact bnd2 (fun _ _ => rfl) us hl | exact (match us, hl with | [_, _], _ => rfl)
  have F37 := fun_mk (st := s_law_lacks) hl37 hk37 hp37
  have B37 := F37.binds (ps := ["_law_formula_here", "_law_widths"]) fun _ _ _ _ _ _ us hl => by first | exact bnd2 (fun _ _ => rfl) us hl | exact (match us, hl with | [_, _], _ => rfl)
  have F38 := fun_mk (st := s_law_says) hl38 hk38 hp38
  have B38 := F38.binds (ps := ["_law_desk", "_law_line"]) fun _ _ _ _ _ _ us hl => by first | exact bnd2 (fun _ _ => rfl) us hl | exact (match us, hl with | [_, _], _ => rfl)
  have F39 := fun_mk (st := s_law_answers) hl39 hk39 hp39
  have B39 := F39.binds (ps := ["_law_desk", "_law_line", "_law_due"]) fun _ _ _ _ _ _ us hl => by first | exact bnd3 (fun _ _ _ => rfl) us hl | exact (match us, hl with | [_, _, _], _ => rfl)
  have F40 := fun_mk (st := s_law_asked) hl40 hk40 hp40
  have B40 := F40.binds (ps := ["_law_desk", "_law_names_here", "_law_widths", "_law_xs"]) fun _ _ _ _ _ _ us hl => by first | exact bnd4 (fun _ _ _ _ => rfl) us hl | exact (match us, hl with | [_, _, _, _], _ => rfl)
  have F41 := fun_mk (st := s_law) hl41 hk41 hp41
  have B41 := F41.binds (ps := ["_law_script"]) fun _ _ _ _ _ _ us hl => by first | exact bnd1 (fun _ => rfl) us hl | exact (match us, hl with | [_], _ => rfl)
  let T : Top K mg := ⟨ha0,
    _,
    F0,
    B0,
    PySem.W.mg_of X G hg0,
    ha1,
    _,
    F1,
    B1,
    PySem.W.mg_of X G hg1,
    ha2,
    _,
    F2,
    B2,
    PySem.W.mg_of X G hg2,
    ha3,
    _,
    F3,
    B3,
    PySem.W.mg_of X G hg3,
    ha4,
    _,
    F4,
    B4,
    PySem.W.mg_of X G hg4,
    ha5,
    _,
    F5,
    B5,
    PySem.W.mg_of X G hg5,
    ha6,
    _,
    F6,
    B6,
    PySem.W.mg_of X G hg6,
    ha7,
    _,
    F7,
    B7,
    PySem.W.mg_of X G hg7,
    ha8,
    _,
    F8,
    B8,
    PySem.W.mg_of X G hg8,
    ha9,
    _,
    F9,
    B9,
    PySem.W.mg_of X G hg9,
    ha10,
    _,
    F10,
    B10,
    PySem.W.mg_of X G hg10,
    ha11,
    _,
    F11,
    B11,
    PySem.W.mg_of X G hg11,
    ha12,
    _,
    F12,
    B12,
    PySem.W.mg_of X G hg12,
    ha13,
    _,
    F13,
    B13,
    ha14,
    _,
    F14,
    B14,
    ha15,
    _,
    F15,
    B15,
    ha16,
    _,
    F16,
    B16,
    ha17,
    _,
    F17,
    B17,
    ha18,
    _,
    F18,
    B18,
    ha19,
    _,
    F19,
    B19,
    PySem.W.mg_of X G hg19,
    ha20,
    _,
    F20,
    B20,
    PySem.W.mg_of X G hg20,
    ha21,
    _,
    F21,
    B21,
    ha22,
    _,
    F22,
    B22,
    ha23,
    _,
    F23,
    B23,
    PySem.W.mg_of X G hg23,
    ha24,
    _,
    F24,
    B24,
    ha25,
    _,
    F25,
    B25,
    ha26,
    _,
    F26,
    B26,
    PySem.W.mg_of X G hg26,
    ha27,
    _,
    F27,
    B27,
    PySem.W.mg_of X G hg27,
    ha28,
    _,
    F28,
    B28,
    PySem.W.mg_of X G hg28,
    ha29,
    _,
    F29,
    B29,
    PySem.W.mg_of X G hg29,
    ha30,
    _,
    F30,
    B30,
    PySem.W.mg_of X G hg30,
    ha31,
    _,
    F31,
    B31,
    PySem.W.mg_of X G hg31,
    ha32,
    _,
    F32,
    B32,
    PySem.W.mg_of X G hg32,
    ha33,
    _,
    F33,
    B33,
    PySem.W.mg_of X G hg33,
    ha34,
    _,
    F34,
    B34,
    PySem.W.mg_of X G hg34,
    ha35,
    _,
    F35,
    B35,
    PySem.W.mg_of X G hg35,
    ha36,
    _,
    F36,
    B36,
    PySem.W.mg_of X G hg36,
    ha37,
    _,
    F37,
    B37,
    PySem.W.mg_of X G hg37,
    ha38,
    _,
    F38,
    B38,
    PySem.W.mg_of X G hg38,
    ha39,
    _,
    F39,
    B39,
    PySem.W.mg_of X G hg39,
    ha40,
    _,
    F40,
    B40,
    PySem.W.mg_of X G hg40,
    fa,
    _,
    F41,
    B41,
    PySem.W.mg_of X G hg41,
    c_PressError,
    PySem.W.mg_of X G gc_PressError,
    gc_PressError,
    kc_PressError,
    x_PressError,
    xb_PressError,
    xt_PressError,
    c_TooFew,
    PySem.W.mg_of X G gc_TooFew,
    gc_TooFew,
    kc_TooFew,
    x_TooFew,
    xb_TooFew,
    xt_TooFew,
    c_TooMany,
    PySem.W.mg_of X G gc_TooMany,
    gc_TooMany,
    kc_TooMany,
    x_TooMany,
    xb_TooMany,
    xt_TooMany,
    c_TooWide,
    PySem.W.mg_of X G gc_TooWide,
    gc_TooWide,
    kc_TooWide,
    x_TooWide,
    xb_TooWide,
    xt_TooWide,
    c_NoFormula,
    PySem.W.mg_of X G gc_NoFormula,
    gc_NoFormula,
    kc_NoFormula,
    x_NoFormula,
    xb_NoFormula,
    xt_NoFormula,
    c_NoName,
    PySem.W.mg_of X G gc_NoName,
    gc_NoName,
    kc_NoName,
    x_NoName,
    xb_NoName,
    xt_NoName,
    c_NoLine,
    PySem.W.mg_of X G gc_NoLine,
    gc_NoLine,
    kc_NoLine,
    x_NoLine,
    xb_NoLine,
    xt_NoLine,
    c_NoCircuit,
    PySem.W.mg_of X G gc_NoCircuit,
    gc_NoCircuit,
    kc_NoCircuit,
    x_NoCircuit,
    xb_NoCircuit,
    xt_NoCircuit,
    c_OutOfWidth,
    PySem.W.mg_of X G gc_OutOfWidth,
    gc_OutOfWidth,
    kc_OutOfWidth,
    x_OutOfWidth,
    xb_OutOfWidth,
    xt_OutOfWidth,
    c_Reader,
    PySem.W.mg_of X G gc_Reader,
    gc_Reader,
    kc_Reader,
    ⟨pg_Reader, hd_Reader, po_Reader, sa_Reader⟩,
    ⟨mk_Reader, hg13, hi13, kc_Reader⟩,
    ⟨hg14, hi14, hp14⟩,
    ⟨hg15, hi15, hp15⟩,
    ⟨hg16, hi16, hp16⟩,
    ⟨hg17, hi17, hp17⟩,
    ⟨hg18, hi18, hp18⟩,
    n_Reader_text,
    n_Reader_at,
    c_Made,
    PySem.W.mg_of X G gc_Made,
    gc_Made,
    kc_Made,
    ⟨pg_Made, hd_Made, po_Made, sa_Made⟩,
    ⟨mk_Made, hg21, hi21, kc_Made⟩,
    ⟨hg22, hi22, hp22⟩,
    n_Made_below,
    n_Made_widths,
    n_Made_rows,
    n_Made_outs,
    c_Desk,
    PySem.W.mg_of X G gc_Desk,
    gc_Desk,
    kc_Desk,
    ⟨pg_Desk, hd_Desk, po_Desk, sa_Desk⟩,
    ⟨mk_Desk, hg24, hi24, kc_Desk⟩,
    ⟨hg25, hi25, hp25⟩,
    n_Desk_widths,
    n_Desk_order,
    n_Desk_splits,
    n_Desk_made,
    ehd_PressError,
    ehd_TooFew,
    ehd_TooMany,
    ehd_TooWide,
    ehd_NoFormula,
    ega_NoFormula,
    egg_NoFormula,
    ecl_NoFormula,
    esp_NoFormula,
    etk_NoFormula,
    emr_NoFormula,
    sv_NoFormula,
    (kit_ve sv_NoFormula),
    s_NoFormula_PressError,
    (kit_sub ehd_PressError xt_PressError s_NoFormula_NoFormula s_NoFormula_PressError),
    (PySem.W.exm_ref xb_PressError ehd_PressError xt_PressError s_NoFormula_PressError),
    s_NoFormula_TooFew,
    (kit_sub ehd_TooFew xt_TooFew s_NoFormula_NoFormula s_NoFormula_TooFew),
    s_NoFormula_TooMany,
    (kit_sub ehd_TooMany xt_TooMany s_NoFormula_NoFormula s_NoFormula_TooMany),
    s_NoFormula_TooWide,
    (kit_sub ehd_TooWide xt_TooWide s_NoFormula_NoFormula s_NoFormula_TooWide),
    s_NoFormula_NoFormula,
    (kit_sub ehd_NoFormula xt_NoFormula s_NoFormula_NoFormula s_NoFormula_NoFormula),
    s_NoFormula_NoName,
    (kit_sub ehd_NoName xt_NoName s_NoFormula_NoFormula s_NoFormula_NoName),
    s_NoFormula_NoLine,
    (kit_sub ehd_NoLine xt_NoLine s_NoFormula_NoFormula s_NoFormula_NoLine),
    s_NoFormula_NoCircuit,
    (kit_sub ehd_NoCircuit xt_NoCircuit s_NoFormula_NoFormula s_NoFormula_NoCircuit),
    s_NoFormula_OutOfWidth,
    (kit_sub ehd_OutOfWidth xt_OutOfWidth s_NoFormula_NoFormula s_NoFormula_OutOfWidth),
    ehd_NoName,
    ega_NoName,
    egg_NoName,
    ecl_NoName,
    esp_NoName,
    etk_NoName,
    emr_NoName,
    sv_NoName,
    (kit_ve sv_NoName),
    s_NoName_PressError,
    (kit_sub ehd_PressError xt_PressError s_NoName_NoName s_NoName_PressError),
    (PySem.W.exm_ref xb_PressError ehd_PressError xt_PressError s_NoName_PressError),
    s_NoName_TooFew,
    (kit_sub ehd_TooFew xt_TooFew s_NoName_NoName s_NoName_TooFew),
    s_NoName_TooMany,
    (kit_sub ehd_TooMany xt_TooMany s_NoName_NoName s_NoName_TooMany),
    s_NoName_TooWide,
    (kit_sub ehd_TooWide xt_TooWide s_NoName_NoName s_NoName_TooWide),
    s_NoName_NoFormula,
    (kit_sub ehd_NoFormula xt_NoFormula s_NoName_NoName s_NoName_NoFormula),
    s_NoName_NoName,
    (kit_sub ehd_NoName xt_NoName s_NoName_NoName s_NoName_NoName),
    s_NoName_NoLine,
    (kit_sub ehd_NoLine xt_NoLine s_NoName_NoName s_NoName_NoLine),
    s_NoName_NoCircuit,
    (kit_sub ehd_NoCircuit xt_NoCircuit s_NoName_NoName s_NoName_NoCircuit),
    s_NoName_OutOfWidth,
    (kit_sub ehd_OutOfWidth xt_OutOfWidth s_NoName_NoName s_NoName_OutOfWidth),
    ehd_NoLine,
    ehd_NoCircuit,
    ehd_OutOfWidth,
    PySem.W.mg_none_of X G z_ValueError,
    PySem.W.mg_none_of X G z_int,
    PySem.W.mg_none_of X G z_isinstance,
    PySem.W.mg_none_of X G z_len,
    PySem.W.mg_none_of X G z_list,
    PySem.W.mg_none_of X G z_max,
    PySem.W.mg_none_of X G z_min,
    PySem.W.mg_none_of X G z_range,
    PySem.W.mg_none_of X G z_sorted,
    PySem.W.mg_none_of X G z_str,
    tk_FIGURES_lines,
    PySem.W.mg_of X G gk_FIGURES_lines,
    tk_FIGURES_text,
    PySem.W.mg_of X G gk_FIGURES_text,
    tk_MOST,
    PySem.W.mg_of X G gk_MOST,
    tk_SMALL_lines,
    PySem.W.mg_of X G gk_SMALL_lines,
    tk_SMALL_text,
    PySem.W.mg_of X G gk_SMALL_text⟩
  exact ⟨T.d_law, fun s v => .of_eq rfl, fun base _ _ => ok_law T⟩
end Dpr
open PySem PySem.W PyProof.Rows
set_option maxHeartbeats 0 in
theorem PySem.Challenge.cw_dotpress_k61_desk_shows_holds : PySem.Challenge.rw_dotpress_k61_desk_shows.Holds := by
  refine Dpr.holds_by fun said => ?_
  w_on; k_head; (case hw => w_witness2)
  k_fill
  refine L2.walk_ofB (l := PySem.Challenge.rw_dotpress_k61_desk_shows) (n := 63) (k := 194) (x := "_law_script") (CX := fun _ => L2.CX0) (sp := fun w => Dpr.sp_law _) rfl (by decide) rfl ⟨rfl, by decide, by decide⟩ (fun w h Y => PySem.W.kIn_of Y) ?F (fun w H a ns hl hb hO hS => Dpr.end_sp_law hl hb hO hS) (fun _ _ _ _ _ h => h)
  case F =>
    intro w mg fa h KX G hmg
    refine' Dpr.all_mk KX G hmg ?hg0 ?hl0 ?hk0 ?hp0 ?hg1 ?hl1 ?hk1 ?hp1 ?hg2 ?hl2 ?hk2 ?hp2 ?hg3 ?hl3 ?hk3 ?hp3 ?hg4 ?hl4 ?hk4 ?hp4 ?hg5 ?hl5 ?hk5 ?hp5 ?hg6 ?hl6 ?hk6 ?hp6 ?hg7 ?hl7 ?hk7 ?hp7 ?hg8 ?hl8 ?hk8 ?hp8 ?hg9 ?hl9 ?hk9 ?hp9 ?hg10 ?hl10 ?hk10 ?hp10 ?hg11 ?hl11 ?hk11 ?hp11 ?hg12 ?hl12 ?hk12 ?hp12 ?hg13 ?hi13 ?hl13 ?hk13 ?hp13 ?hg14 ?hi14 ?hl14 ?hk14 ?hp14 ?hg15 ?hi15 ?hl15 ?hk15 ?hp15 ?hg16 ?hi16 ?hl16 ?hk16 ?hp16 ?hg17 ?hi17 ?hl17 ?hk17 ?hp17 ?hg18 ?hi18 ?hl18 ?hk18 ?hp18 ?hg19 ?hl19 ?hk19 ?hp19 ?hg20 ?hl20 ?hk20 ?hp20 ?hg21 ?hi21 ?hl21 ?hk21 ?hp21 ?hg22 ?hi22 ?hl22 ?hk22 ?hp22 ?hg23 ?hl23 ?hk23 ?hp23 ?hg24 ?hi24 ?hl24 ?hk24 ?hp24 ?hg25 ?hi25 ?hl25 ?hk25 ?hp25 ?hg26 ?hl26 ?hk26 ?hp26 ?hg27 ?hl27 ?hk27 ?hp27 ?hg28 ?hl28 ?hk28 ?hp28 ?hg29 ?hl29 ?hk29 ?hp29 ?hg30 ?hl30 ?hk30 ?hp30 ?hg31 ?hl31 ?hk31 ?hp31 ?hg32 ?hl32 ?hk32 ?hp32 ?hg33 ?hl33 ?hk33 ?hp33 ?hg34 ?hl34 ?hk34 ?hp34 ?hg35 ?hl35 ?hk35 ?hp35 ?hg36 ?hl36 ?hk36 ?hp36 ?hg37 ?hl37 ?hk37 ?hp37 ?hg38 ?hl38 ?hk38 ?hp38 ?hg39 ?hl39 ?hk39 ?hp39 ?hg40 ?hl40 ?hk40 ?hp40 ?hg41 ?hl41 ?hk41 ?hp41 ?gc_PressError ?kc_PressError ?x_PressError ?xb_PressError ?xt_PressError ?ehd_PressError ?gc_TooFew ?kc_TooFew ?x_TooFew ?xb_TooFew ?xt_TooFew ?ehd_TooFew ?gc_TooMany ?kc_TooMany ?x_TooMany ?xb_TooMany ?xt_TooMany ?ehd_TooMany ?gc_TooWide ?kc_TooWide ?x_TooWide ?xb_TooWide ?xt_TooWide ?ehd_TooWide ?gc_NoFormula ?kc_NoFormula ?x_NoFormula ?xb_NoFormula ?xt_NoFormula ?ehd_NoFormula ?ega_NoFormula ?egg_NoFormula ?ecl_NoFormula ?esp_NoFormula ?etk_NoFormula ?emr_NoFormula ?sv_NoFormula ?s_NoFormula_PressError ?s_NoFormula_TooFew ?s_NoFormula_TooMany ?s_NoFormula_TooWide ?s_NoFormula_NoFormula ?s_NoFormula_NoName ?s_NoFormula_NoLine ?s_NoFormula_NoCircuit ?s_NoFormula_OutOfWidth ?gc_NoName ?kc_NoName ?x_NoName ?xb_NoName ?xt_NoName ?ehd_NoName ?ega_NoName ?egg_NoName ?ecl_NoName ?esp_NoName ?etk_NoName ?emr_NoName ?sv_NoName ?s_NoName_PressError ?s_NoName_TooFew ?s_NoName_TooMany ?s_NoName_TooWide ?s_NoName_NoFormula ?s_NoName_NoName ?s_NoName_NoLine ?s_NoName_NoCircuit ?s_NoName_OutOfWidth ?gc_NoLine ?kc_NoLine ?x_NoLine ?xb_NoLine ?xt_NoLine ?ehd_NoLine ?gc_NoCircuit ?kc_NoCircuit ?x_NoCircuit ?xb_NoCircuit ?xt_NoCircuit ?ehd_NoCircuit ?gc_OutOfWidth ?kc_OutOfWidth ?x_OutOfWidth ?xb_OutOfWidth ?xt_OutOfWidth ?ehd_OutOfWidth ?gc_Reader ?kc_Reader ?pg_Reader ?hd_Reader ?po_Reader ?sa_Reader ?mk_Reader ?n_Reader_text ?n_Reader_at ?gc_Made ?kc_Made ?pg_Made ?hd_Made ?po_Made ?sa_Made ?mk_Made ?n_Made_below ?n_Made_widths ?n_Made_rows ?n_Made_outs ?gc_Desk ?kc_Desk ?pg_Desk ?hd_Desk ?po_Desk ?sa_Desk ?mk_Desk ?n_Desk_widths ?n_Desk_order ?n_Desk_splits ?n_Desk_made ?z_ValueError ?z_int ?z_isinstance ?z_len ?z_list ?z_max ?z_min ?z_range ?z_sorted ?z_str ?gk_FIGURES_lines ?gk_FIGURES_text ?gk_MOST ?gk_SMALL_lines ?gk_SMALL_text
    (case gc_PressError => k_is)
    (case gc_TooFew => k_is)
    (case gc_TooMany => k_is)
    (case gc_TooWide => k_is)
    (case gc_NoFormula => k_is)
    (case gc_NoName => k_is)
    (case gc_NoLine => k_is)
    (case gc_NoCircuit => k_is)
    (case gc_OutOfWidth => k_is)
    (case gc_Reader => k_is)
    (case gc_Made => k_is)
    (case gc_Desk => k_is)
    (case hg0 => k_is)
    (case hl0 => k_is)
    (case hk0 => k_is)
    (case hp0 => k_is)
    (case hg1 => k_is)
    (case hl1 => k_is)
    (case hk1 => k_is)
    (case hp1 => k_is)
    (case hg2 => k_is)
    (case hl2 => k_is)
    (case hk2 => k_is)
    (case hp2 => k_is)
    (case hg3 => k_is)
    (case hl3 => k_is)
    (case hk3 => k_is)
    (case hp3 => k_is)
    (case hg4 => k_is)
    (case hl4 => k_is)
    (case hk4 => k_is)
    (case hp4 => k_is)
    (case hg5 => k_is)
    (case hl5 => k_is)
    (case hk5 => k_is)
    (case hp5 => k_is)
    (case hg6 => k_is)
    (case hl6 => k_is)
    (case hk6 => k_is)
    (case hp6 => k_is)
    (case hg7 => k_is)
    (case hl7 => k_is)
    (case hk7 => k_is)
    (case hp7 => k_is)
    (case hg8 => k_is)
    (case hl8 => k_is)
    (case hk8 => k_is)
    (case hp8 => k_is)
    (case hg9 => k_is)
    (case hl9 => k_is)
    (case hk9 => k_is)
    (case hp9 => k_is)
    (case hg10 => k_is)
    (case hl10 => k_is)
    (case hk10 => k_is)
    (case hp10 => k_is)
    (case hg11 => k_is)
    (case hl11 => k_is)
    (case hk11 => k_is)
    (case hp11 => k_is)
    (case hg12 => k_is)
    (case hl12 => k_is)
    (case hk12 => k_is)
    (case hp12 => k_is)
    (case hg13 => k_is)
    (case hi13 => k_is)
    (case hl13 => k_is)
    (case hk13 => k_is)
    (case hp13 => k_is)
    (case hg14 => k_is)
    (case hi14 => k_is)
    (case hl14 => k_is)
    (case hk14 => k_is)
    (case hp14 => k_is)
    (case hg15 => k_is)
    (case hi15 => k_is)
    (case hl15 => k_is)
    (case hk15 => k_is)
    (case hp15 => k_is)
    (case hg16 => k_is)
    (case hi16 => k_is)
    (case hl16 => k_is)
    (case hk16 => k_is)
    (case hp16 => k_is)
    (case hg17 => k_is)
    (case hi17 => k_is)
    (case hl17 => k_is)
    (case hk17 => k_is)
    (case hp17 => k_is)
    (case hg18 => k_is)
    (case hi18 => k_is)
    (case hl18 => k_is)
    (case hk18 => k_is)
    (case hp18 => k_is)
    (case hg19 => k_is)
    (case hl19 => k_is)
    (case hk19 => k_is)
    (case hp19 => k_is)
    (case hg20 => k_is)
    (case hl20 => k_is)
    (case hk20 => k_is)
    (case hp20 => k_is)
    (case hg21 => k_is)
    (case hi21 => k_is)
    (case hl21 => k_is)
    (case hk21 => k_is)
    (case hp21 => k_is)
    (case hg22 => k_is)
    (case hi22 => k_is)
    (case hl22 => k_is)
    (case hk22 => k_is)
    (case hp22 => k_is)
    (case hg23 => k_is)
    (case hl23 => k_is)
    (case hk23 => k_is)
    (case hp23 => k_is)
    (case hg24 => k_is)
    (case hi24 => k_is)
    (case hl24 => k_is)
    (case hk24 => k_is)
    (case hp24 => k_is)
    (case hg25 => k_is)
    (case hi25 => k_is)
    (case hl25 => k_is)
    (case hk25 => k_is)
    (case hp25 => k_is)
    (case hg26 => k_is)
    (case hl26 => k_is)
    (case hk26 => k_is)
    (case hp26 => k_is)
    (case hg27 => k_is)
    (case hl27 => k_is)
    (case hk27 => k_is)
    (case hp27 => k_is)
    (case hg28 => k_is)
    (case hl28 => k_is)
    (case hk28 => k_is)
    (case hp28 => k_is)
    (case hg29 => k_is)
    (case hl29 => k_is)
    (case hk29 => k_is)
    (case hp29 => k_is)
    (case hg30 => k_is)
    (case hl30 => k_is)
    (case hk30 => k_is)
    (case hp30 => k_is)
    (case hg31 => k_is)
    (case hl31 => k_is)
    (case hk31 => k_is)
    (case hp31 => k_is)
    (case hg32 => k_is)
    (case hl32 => k_is)
    (case hk32 => k_is)
    (case hp32 => k_is)
    (case hg33 => k_is)
    (case hl33 => k_is)
    (case hk33 => k_is)
    (case hp33 => k_is)
    (case hg34 => k_is)
    (case hl34 => k_is)
    (case hk34 => k_is)
    (case hp34 => k_is)
    (case hg35 => k_is)
    (case hl35 => k_is)
    (case hk35 => k_is)
    (case hp35 => k_is)
    (case hg36 => k_is)
    (case hl36 => k_is)
    (case hk36 => k_is)
    (case hp36 => k_is)
    (case hg37 => k_is)
    (case hl37 => k_is)
    (case hk37 => k_is)
    (case hp37 => k_is)
    (case hg38 => k_is)
    (case hl38 => k_is)
    (case hk38 => k_is)
    (case hp38 => k_is)
    (case hg39 => k_is)
    (case hl39 => k_is)
    (case hk39 => k_is)
    (case hp39 => k_is)
    (case hg40 => k_is)
    (case hl40 => k_is)
    (case hk40 => k_is)
    (case hp40 => k_is)
    (case hg41 => k_is)
    (case hl41 => k_is)
    (case hk41 => k_is)
    (case hp41 => k_is)
    (case kc_PressError => k_is)
    (case x_PressError => k_exc)
    (case xb_PressError => k_is)
    (case xt_PressError => k_is)
    (case ehd_PressError => k_is)
    (case kc_TooFew => k_is)
    (case x_TooFew => k_exc)
    (case xb_TooFew => k_is)
    (case xt_TooFew => k_is)
    (case ehd_TooFew => k_is)
    (case kc_TooMany => k_is)
    (case x_TooMany => k_exc)
    (case xb_TooMany => k_is)
    (case xt_TooMany => k_is)
    (case ehd_TooMany => k_is)
    (case kc_TooWide => k_is)
    (case x_TooWide => k_exc)
    (case xb_TooWide => k_is)
    (case xt_TooWide => k_is)
    (case ehd_TooWide => k_is)
    (case kc_NoFormula => k_is)
    (case x_NoFormula => k_exc)
    (case xb_NoFormula => k_is)
    (case xt_NoFormula => k_is)
    (case ehd_NoFormula => k_is)
    (case ega_NoFormula => k_is)
    (case egg_NoFormula => k_is)
    (case ecl_NoFormula => k_is)
    (case esp_NoFormula => k_is)
    (case etk_NoFormula => k_is)
    (case emr_NoFormula => k_is)
    (case sv_NoFormula => k_is)
    (case s_NoFormula_PressError => k_is)
    (case s_NoFormula_TooFew => k_is)
    (case s_NoFormula_TooMany => k_is)
    (case s_NoFormula_TooWide => k_is)
    (case s_NoFormula_NoFormula => k_is)
    (case s_NoFormula_NoName => k_is)
    (case s_NoFormula_NoLine => k_is)
    (case s_NoFormula_NoCircuit => k_is)
    (case s_NoFormula_OutOfWidth => k_is)
    (case kc_NoName => k_is)
    (case x_NoName => k_exc)
    (case xb_NoName => k_is)
    (case xt_NoName => k_is)
    (case ehd_NoName => k_is)
    (case ega_NoName => k_is)
    (case egg_NoName => k_is)
    (case ecl_NoName => k_is)
    (case esp_NoName => k_is)
    (case etk_NoName => k_is)
    (case emr_NoName => k_is)
    (case sv_NoName => k_is)
    (case s_NoName_PressError => k_is)
    (case s_NoName_TooFew => k_is)
    (case s_NoName_TooMany => k_is)
    (case s_NoName_TooWide => k_is)
    (case s_NoName_NoFormula => k_is)
    (case s_NoName_NoName => k_is)
    (case s_NoName_NoLine => k_is)
    (case s_NoName_NoCircuit => k_is)
    (case s_NoName_OutOfWidth => k_is)
    (case kc_NoLine => k_is)
    (case x_NoLine => k_exc)
    (case xb_NoLine => k_is)
    (case xt_NoLine => k_is)
    (case ehd_NoLine => k_is)
    (case kc_NoCircuit => k_is)
    (case x_NoCircuit => k_exc)
    (case xb_NoCircuit => k_is)
    (case xt_NoCircuit => k_is)
    (case ehd_NoCircuit => k_is)
    (case kc_OutOfWidth => k_is)
    (case x_OutOfWidth => k_exc)
    (case xb_OutOfWidth => k_is)
    (case xt_OutOfWidth => k_is)
    (case ehd_OutOfWidth => k_is)
    (case kc_Reader => k_is)
    (case pg_Reader => k_is)
    (case hd_Reader => k_is)
    (case po_Reader => k_is)
    (case sa_Reader => k_is)
    (case mk_Reader => k_is)
    (case n_Reader_text => k_is)
    (case n_Reader_at => k_is)
    (case kc_Made => k_is)
    (case pg_Made => k_is)
    (case hd_Made => k_is)
    (case po_Made => k_is)
    (case sa_Made => k_is)
    (case mk_Made => k_is)
    (case n_Made_below => k_is)
    (case n_Made_widths => k_is)
    (case n_Made_rows => k_is)
    (case n_Made_outs => k_is)
    (case kc_Desk => k_is)
    (case pg_Desk => k_is)
    (case hd_Desk => k_is)
    (case po_Desk => k_is)
    (case sa_Desk => k_is)
    (case mk_Desk => k_is)
    (case n_Desk_widths => k_is)
    (case n_Desk_order => k_is)
    (case n_Desk_splits => k_is)
    (case n_Desk_made => k_is)
    (case z_ValueError => k_is)
    (case z_int => k_is)
    (case z_isinstance => k_is)
    (case z_len => k_is)
    (case z_list => k_is)
    (case z_max => k_is)
    (case z_min => k_is)
    (case z_range => k_is)
    (case z_sorted => k_is)
    (case z_str => k_is)
    (case gk_FIGURES_lines => k_is)
    (case gk_FIGURES_text => k_is)
    (case gk_MOST => k_is)
    (case gk_SMALL_lines => k_is)
    (case gk_SMALL_text => k_is)
