import PyProof.Rows.All
import Wide.All
import OpenK.AllK
import Wide.FinOn
import HandS.ForMost
import HandS.IsInst
import HandS.WideBits
import HandS.Wide
import HandS.EndBits
import HandS.Evl
import HandS.More
import HandS.DictComp
import HandS.RevRange
import PySem.Challenge.RW_dotpress_k08_sheets_of_rows
set_option Elab.async false
set_option linter.all false
set_option maxRecDepth 100000
set_option maxHeartbeats 4000000


namespace Dpr
open PySem PySem.Spec PyProof.Rows L2
/-! ### steps of a reading, one a construct -/
section
variable {K : PySem.W.Frag} {D : Ends} {σ : L2.St} {H : Hp} {Q : VK} {QB : Bool → Hp → Prop} {QA : List V → Hp → Prop} {ta tb tc te : TE} {t u : TS} {c : TT} {g : TG} {r r' : R2} {v x y : V}
theorem w_seq (h : t { D with nx := u D } σ H) : tSeq t u D σ H := h
theorem w_cut (M : L2.St → Hp → Prop) (h : t { D with nx := M } σ H) (k : ∀ σ' H', M σ' H' → u D σ' H') : Evl.tCut t u D σ H := ⟨M, h, k⟩
theorem w_asg {i : Nat} (h : te σ H fun v H1 => D.nx (σ.set i (some v)) H1) : tAsg te (gName i) D σ H := h
theorem w_asgG (h : te σ H fun v H1 => g v σ H1 D.nx) : tAsg te g D σ H := h
theorem w_drop (h : te σ H fun _ H1 => D.nx σ H1) : tDrop te D σ H := h
theorem w_ret (h : te σ H D.rt) : tRet te D σ H := h
theorem w_retN (h : D.rt .non H) : tRetN D σ H := h
theorem w_next (h : D.nx σ H) : tNext D σ H := h
theorem w_cont (h : D.ct σ H) : tCont D σ H := h
theorem w_brk (h : D.bk σ H) : tBreak D σ H := h
theorem w_if (h : c σ H fun b H1 => if b = true then t D σ H1 else u D σ H1) : tIfS c t u D σ H := h
theorem w_aug {i : Nat} {ti : TIp} (hx : σ[i]? = some (some x)) (h : te σ H fun y H1 => ti x y H1 fun z H2 => D.nx (σ.set i (some z)) H2) : tAug i te ti D σ H := ⟨x, hx, h⟩
theorem w_ipI {f : Int → Int → Int} {i j : Int} (h : Q (.int (f i j)) H) : ipI f (.int i) (.int j) H Q := ⟨i, j, rfl, rfl, h⟩
theorem w_var {i : Nat} (hx : σ[i]? = some (some v)) (h : Q v H) : tVar i σ H Q := ⟨v, hx, h⟩
theorem w_c (h : Q v H) : tC v σ H Q := h
theorem w_op (h : ta σ H fun x H1 => tb σ H1 fun y H2 => r x y H2 Q) : tOp r ta tb σ H Q := h
theorem w_un {f : V → Hp → VK → Prop} (h : ta σ H fun x H1 => f x H1 Q) : tUn f ta σ H Q := h
theorem w_chain (h : ta σ H fun x H1 => tb σ H1 fun y H2 => r x y H2 fun z H3 => ∃ k, z = .bl k ∧ (if k = true then tc σ H3 fun w' H4 => r' y w' H4 Q else Q (.bl false) H3)) : tChain r r' ta tb tc σ H Q := h
theorem w_test (h : te σ H fun x H1 => ∃ k, x = .bl k ∧ QB k H1) : tTest te σ H QB := h
theorem w_tB (h : te σ H fun x H1 => ∃ k, x = .bl k ∧ QB k H1) : tB te σ H QB := h
theorem w_bl {b : Bool} {P : Bool → Prop} (h : P b) : ∃ k, V.bl b = .bl k ∧ P k := ⟨b, rfl, h⟩
theorem w_and {t u : TT} (h : t σ H fun c H1 => if c = true then u σ H1 QB else QB false H1) : tAnd t u σ H QB := h
theorem w_or {t u : TT} (h : t σ H fun c H1 => if c = true then QB true H1 else u σ H1 QB) : tOr t u σ H QB := h
theorem w_not {t : TT} (h : t σ H fun c H1 => QB (!c) H1) : tNot t σ H QB := h
theorem w_andV (h : ta σ H fun x H1 => ∃ c, x = .bl c ∧ if c = true then tb σ H1 Q else Q (.bl false) H1) : tAndV ta tb σ H Q := h
theorem w_orV (h : ta σ H fun x H1 => ∃ c, x = .bl c ∧ if c = true then Q (.bl true) H1 else tb σ H1 Q) : tOrV ta tb σ H Q := h
theorem w_notV (h : ta σ H fun x H1 => ∃ c, x = .bl c ∧ Q (.bl (!c)) H1) : tNotV ta σ H Q := h
theorem w_ifx {t : TT} (h : t σ H fun c H1 => if c = true then ta σ H1 Q else tb σ H1 Q) : tIf t ta tb σ H Q := h
theorem w_nil (h : QA [] H) : tNil σ H QA := h
theorem w_cons {tr : TA} (h : ta σ H fun x H1 => tr σ H1 fun xs H2 => QA (x :: xs) H2) : tCons ta tr σ H QA := h
/-- a new tuple, a new list: the heap is a letter -/
def AlT (xs : List V) (H : Hp) (Q : VK) : Prop := xs.length ≤ sizeLine ∧ ∀ p, H p = none → Q (.ref p) (upd H p (.tup xs))
def AlL (xs : List V) (H : Hp) (Q : VK) : Prop := xs.length ≤ sizeLine ∧ ∀ p, H p = none → Q (.ref p) (upd H p (.lst xs))
theorem same_upd {H : Hp} {p : Addr} {o : HO} (h : H p = none) : Same H (upd H p o) := fun b x e => by
  rw [upd_ne (ne_of_none e h)]
  exact e
theorem w_tup {s : TA} (h : s σ H fun xs H1 => AlT xs H1 Q) : tTup s σ H Q := h
theorem w_lst {s : TA} (h : s σ H fun xs H1 => AlL xs H1 Q) : tLst s σ H Q := h
theorem sz_le {n : Nat} (h : Nat.ble n 1000 = true) : n ≤ sizeLine := Nat.le_trans (Nat.le_of_ble_eq_true h) (by rw [sizeLine_eq]; decide)
theorem w_alT {xs : List V} (hl : xs.length ≤ sizeLine) (h : ∀ p H', H p = none → Same H H' → H' p = some (.tup xs) → Q (.ref p) H') : AlT xs H Q := ⟨hl, fun p hp => h p _ hp (same_upd hp) upd_same⟩
theorem w_alL {xs : List V} (hl : xs.length ≤ sizeLine) (h : ∀ p H', H p = none → Same H H' → H' p = some (.lst xs) → Q (.ref p) H') : AlL xs H Q := ⟨hl, fun p hp => h p _ hp (same_upd hp) upd_same⟩
theorem w_call {sp : Sp} {dvs : List V} {E : XK} {s : TA} (h : s σ H fun vs H1 => sp (vs ++ dvs) H1 Q E) : tCall sp dvs E s σ H Q := h
theorem w_cb {f : List V → Hp → VK → Prop} {s : TA} (h : s σ H fun vs H1 => f vs H1 Q) : tCB f s σ H Q := h
theorem w_I0 {f : Int → Int → V} {i j : Int} (h : Q (f i j) H) : rI0 f (.int i) (.int j) H Q := ⟨i, j, rfl, rfl, h⟩
theorem w_I {C : Int → Int → Prop} {f : Int → Int → V} {i j : Int} (hc : C i j) (h : Q (f i j) H) : rI C f (.int i) (.int j) H Q := ⟨i, j, rfl, rfl, hc, h⟩
theorem w_U {f : Int → V} {i : Int} (h : Q (f i) H) : rU f (.int i) H Q := ⟨i, rfl, h⟩
theorem w_eq (hs : scal x y = true) (h : Q (.bl (decide (x = y))) H) : rEq x y H Q := ⟨hs, h⟩
theorem w_ne (hs : scal x y = true) (h : Q (.bl (!decide (x = y))) H) : rNe x y H Q := ⟨hs, h⟩
theorem w_bits {i : Int} (h : Q (.int (Builtin.Int.intBits i : Nat)) H) : (∃ j, V.int i = .int j ∧ Q (.int (Builtin.Int.intBits j : Nat)) H) := ⟨i, rfl, h⟩
theorem w_tbits (h : te σ H fun x H1 => ∃ i, x = .int i ∧ Q (.int (Builtin.Int.intBits i : Nat)) H1) : tBits te σ H Q := h
theorem w_ixL {p : Addr} {xs : List V} {i : Int} (hl : SqL K H p xs) (ha : atI xs i = some v) (h : Q v H) : rIxL K (.ref p) (.int i) H Q := ⟨p, xs, i, v, rfl, rfl, hl, ha, h⟩
theorem w_ixT {p : Addr} {xs : List V} {i : Int} (hl : SqT K H p xs) (ha : atI xs i = some v) (h : Q v H) : rIxT K (.ref p) (.int i) H Q := ⟨p, xs, i, v, rfl, rfl, hl, ha, h⟩
/-! tests -/
theorem w_itT {A B : Prop} (h : A) : if true = true then A else B := by rw [if_pos rfl]; exact h
theorem w_itF {A B : Prop} (h : B) : if false = true then A else B := by rw [if_neg Bool.false_ne_true]; exact h
theorem w_itC {b : Bool} {A B : Prop} (e : b = true) (h : A) : if b = true then A else B := by rw [if_pos e]; exact h
theorem w_itD {b : Bool} {A B : Prop} (e : b = false) (h : B) : if b = true then A else B := by rw [e, if_neg Bool.false_ne_true]; exact h
theorem w_itI {i j : Int} {A B : Prop} (h1 : i = j → A) (h2 : i ≠ j → B) : if decide (V.int i = V.int j) = true then A else B := by
  by_cases e : i = j
  · rw [if_pos (by rw [e]; exact decide_eq_true rfl)]; exact h1 e
  · rw [if_neg (fun z => e (V.int.inj (of_decide_eq_true z)))]; exact h2 e
theorem w_itN {i j : Int} {A B : Prop} (h1 : i ≠ j → A) (h2 : i = j → B) : if (!decide (V.int i = V.int j)) = true then A else B := by
  by_cases e : i = j
  · rw [e, decide_eq_true rfl]; exact w_itF (h2 e)
  · rw [decide_eq_false (fun z => e (V.int.inj z))]; exact w_itT (h1 e)
theorem w_itd {p A B : Prop} [Decidable p] (h1 : p → A) (h2 : ¬ p → B) : if decide p = true then A else B := by
  by_cases e : p
  · rw [if_pos (decide_eq_true e)]; exact h1 e
  · rw [if_neg (fun z => e (of_decide_eq_true z))]; exact h2 e
theorem w_itn {p A B : Prop} [Decidable p] (h1 : ¬ p → A) (h2 : p → B) : if (!decide p) = true then A else B := by
  by_cases e : p
  · rw [decide_eq_true e]; exact w_itF (h2 e)
  · rw [decide_eq_false e]; exact w_itT (h1 e)
theorem w_itb {b : Bool} {A B : Prop} (h1 : b = true → A) (h2 : b = false → B) : if b = true then A else B := by
  cases b with
  | true => exact w_itT (h1 rfl)
  | false => exact w_itF (h2 rfl)
end
/-! calls of built-ins, by names of our own -/
def rLen (K : PySem.W.Frag) : List V → Hp → VK → Prop := fun xs H Q => ∃ p ys, xs = [.ref p] ∧ (SqL K H p ys ∨ SqT K H p ys) ∧ Q (.int ys.length) H
theorem c_len {X : Cx} : CallR X (.builtin "len") (rLen X.K) := call_len_seq
theorem w_lenL {K : PySem.W.Frag} {H : Hp} {Q : VK} {p : Addr} {xs : List V} (h : SqL K H p xs) (q : Q (.int (xs.length : Int)) H) : rLen K [.ref p] H Q := ⟨p, xs, rfl, .inl h, q⟩
theorem w_lenT {K : PySem.W.Frag} {H : Hp} {Q : VK} {p : Addr} {xs : List V} (h : SqT K H p xs) (q : Q (.int (xs.length : Int)) H) : rLen K [.ref p] H Q := ⟨p, xs, rfl, .inr h, q⟩
def rAbs : List V → Hp → VK → Prop := fun xs H Q => ∃ i, xs = [.int i] ∧ Q (.int (if i < 0 then -i else i)) H
theorem c_abs {X : Cx} : CallR X (.builtin "abs") rAbs := call_abs
theorem w_abs {H : Hp} {Q : VK} {i : Int} (q : Q (.int (if i < 0 then -i else i)) H) : rAbs [.int i] H Q := ⟨i, rfl, q⟩
def rMax2 : List V → Hp → VK → Prop := fun xs H Q => ∃ i j, xs = [.int i, .int j] ∧ Q (.int (if j > i then j else i)) H
def rMin2 : List V → Hp → VK → Prop := fun xs H Q => ∃ i j, xs = [.int i, .int j] ∧ Q (.int (if j < i then j else i)) H
theorem c_max2 {X : Cx} (hc : X.calm = true) : CallR X (.builtin "max") rMax2 := call_max2 hc
theorem c_min2 {X : Cx} (hc : X.calm = true) : CallR X (.builtin "min") rMin2 := call_min2 hc
theorem w_max2 {H : Hp} {Q : VK} {i j : Int} (q : Q (.int (if j > i then j else i)) H) : rMax2 [.int i, .int j] H Q := ⟨i, j, rfl, q⟩
theorem w_min2 {H : Hp} {Q : VK} {i j : Int} (q : Q (.int (if j < i then j else i)) H) : rMin2 [.int i, .int j] H Q := ⟨i, j, rfl, q⟩
def rListOf (K : PySem.W.Frag) : List V → Hp → VK → Prop := fun xs H Q => ∃ p ys, xs = [.ref p] ∧ (SqL K H p ys ∨ SqT K H p ys) ∧ ∀ l, H l = none → Q (.ref l) (upd H l (.lst ys))
theorem c_list {X : Cx} : CallR X (.type "list") (rListOf X.K) := call_list_of
theorem w_listL {K : PySem.W.Frag} {H : Hp} {Q : VK} {p : Addr} {xs : List V} (h : SqL K H p xs) (q : ∀ l H', H l = none → Same H H' → H' l = some (.lst xs) → Q (.ref l) H') : rListOf K [.ref p] H Q := ⟨p, xs, rfl, .inl h, fun l hl => q l _ hl (same_upd hl) upd_same⟩
theorem w_listT {K : PySem.W.Frag} {H : Hp} {Q : VK} {p : Addr} {xs : List V} (h : SqT K H p xs) (q : ∀ l H', H l = none → Same H H' → H' l = some (.lst xs) → Q (.ref l) H') : rListOf K [.ref p] H Q := ⟨p, xs, rfl, .inr h, fun l hl => q l _ hl (same_upd hl) upd_same⟩
/-- a product of two ints of any size that the model allows -/
theorem op_mulI {X : Cx} : OpR X (binaryOp .Mult) (rI IntMulOk fun i j => .int (i * j)) := opI fun _ _ _ _ _ _ _ hc q => mul_int q hc
/-- isinstance, the answer told -/
theorem w_isi {K : PySem.W.Frag} {H : Hp} {Q : VK} {x : V} {t : Value} {n : String} {b : Bool} (ty : TyX K H x t) (e : PySem.W.kitOne K t (.type n) = some b) (q : Q (.bl b) H) : rIsi K [x, .ty n] H Q := ⟨x, .ty n, t, _, b, rfl, .ty n, ty, e, q⟩
theorem kit_ii (K : PySem.W.Frag) : PySem.W.kitOne K (.type "int") (.type "int") = some true := kit_ty (by decide +kernel)
theorem kit_ib (K : PySem.W.Frag) : PySem.W.kitOne K (.type "int") (.type "bool") = some false := kit_ty (by decide +kernel)
theorem kit_bi (K : PySem.W.Frag) : PySem.W.kitOne K (.type "bool") (.type "int") = some true := kit_ty (by decide +kernel)
theorem kit_bb (K : PySem.W.Frag) : PySem.W.kitOne K (.type "bool") (.type "bool") = some true := kit_ty (by decide +kernel)
theorem kit_ll (K : PySem.W.Frag) : PySem.W.kitOne K (.type "list") (.type "list") = some true := kit_ty (by decide +kernel)
theorem kit_tt (K : PySem.W.Frag) : PySem.W.kitOne K (.type "tuple") (.type "tuple") = some true := kit_ty (by decide +kernel)
theorem kit_ss (K : PySem.W.Frag) : PySem.W.kitOne K (.type "str") (.type "str") = some true := kit_ty (by decide +kernel)
theorem w_isiT {K : PySem.W.Frag} {H : Hp} {Q : VK} {p : Addr} {xs : List V} (e : H p = some (.tup xs)) (q : Q (.bl true) H) : rIsi K [.ref p, .ty "tuple"] H Q := w_isi (TyX.base (TyOf.tup e)) (kit_tt K) q
theorem w_isiL {K : PySem.W.Frag} {H : Hp} {Q : VK} {p : Addr} {xs : List V} (e : H p = some (.lst xs)) (q : Q (.bl true) H) : rIsi K [.ref p, .ty "list"] H Q := w_isi (TyX.base (TyOf.lst e)) (kit_ll K) q
theorem kit_tl (K : PySem.W.Frag) : PySem.W.kitOne K (.type "tuple") (.type "list") = some false := kit_ty (by decide +kernel)
theorem kit_lt (K : PySem.W.Frag) : PySem.W.kitOne K (.type "list") (.type "tuple") = some false := kit_ty (by decide +kernel)
/-! slices and sums of lists -/
section
variable {K : PySem.W.Frag} {σ : L2.St} {H : Hp} {Q : VK} {te : TE} {tl th : TO} {QO : Option Int → Hp → Prop}
theorem w_tsl {f : V → Option Int → Option Int → Hp → VK → Prop} (h : te σ H fun x H1 => tl σ H1 fun l H2 => th σ H2 fun u H3 => f x l u H3 Q) : tSl f te tl th σ H Q := h
theorem w_tnp (h : QO none H) : tNoPart σ H QO := h
theorem w_tpt (h : te σ H fun x H1 => ∃ i, x = .int i ∧ QO (some i) H1) : tPart te σ H QO := h
theorem w_pt {i : Int} {P : Int → Prop} (h : P i) : ∃ j, V.int i = .int j ∧ P j := ⟨i, rfl, h⟩
theorem w_sl {p : Addr} {xs : List V} {lo hi : Option Int} (h : SqL K H p xs) (q : ∀ l H', H l = none → Same H H' → H' l = some (.lst (cutV xs lo hi)) → Q (.ref l) H') : rSlL K (.ref p) lo hi H Q :=
  ⟨p, xs, rfl, h, fun l hl => q l _ hl (same_upd hl) upd_same⟩
theorem w_cat {p b : Addr} {xs ys : List V} (h1 : H p = some (.lst xs)) (h2 : H b = some (.lst ys)) (hz : xs.length + ys.length ≤ 16000000) (q : ∀ l H', H l = none → Same H H' → H' l = some (.lst (xs ++ ys)) → Q (.ref l) H') : rCat (.ref p) (.ref b) H Q :=
  ⟨p, b, xs, ys, rfl, rfl, h1, h2, Nat.le_trans hz (by rw [sizeLine_eq]; decide), fun l hl => q l _ hl (same_upd hl) upd_same⟩
end
/-! heaps that grow -/
theorem same_at {H H' : Hp} {b : Addr} {o : HO} (s : Same H H') (h : H b = some o) : H' b = some o := s b o h
theorem same_tup {K : PySem.W.Frag} {H H' : Hp} {a : Addr} {xs : List V} (e : Same H H') (h : SqT K H a xs) : SqT K H' a xs := by
  rcases h with (h | ⟨o, h⟩) | h
  · exact .inl (.inl (e _ _ h))
  · exact .inl (.inr ⟨o, e _ _ h⟩)
  · exact .inr h
theorem p2pos (k : Nat) : (0 : Int) < 2 ^ k := Int.pow_pos (by decide)
/-! loops -/
section
variable {K : PySem.W.Frag} {D : Ends} {σ : L2.St} {H : Hp} {Q : VK} {ta te tl : TE} {t : TS} {g : TG} {s : TA} {wi : TI} {tt : TT} {vs : List Nat}
def ForB (J : It) (g : TG) (t : TS) (D : Ends) (σ : L2.St) (H : Hp) : Prop := ∃ W : Nat → Nat → L2.St → Hp → Prop, (∃ m, W 0 m σ H) ∧ ∀ i m σ H, W i m σ H →
  (J.stop i H ∧ D.nx σ H) ∨ (J.go i H ∧ ∃ N : L2.St → Hp → Prop, (∀ σ' H', N σ' H' → ∃ m', m' < m ∧ W (i + 1) m' σ' H') ∧ ∀ x H', J.yld i H x H' → g x σ H' fun σ2 H2 => t { D with nx := N, ct := N, bk := D.nx } σ2 H2)
theorem w_for (h : wi σ H fun J H1 => ForB J g t D σ H1) : tFor wi g t D σ H := h
def LcB (J : It) (g : TG) (tt : TT) (te : TE) (vs : List Nat) (σ : L2.St) (Q : VK) (H1 : Hp) : Prop := ∀ D, H1 D = none → ∃ W : Nat → Nat → Hp → Prop, (∃ m, W 0 m (upd H1 D (.lst []))) ∧ ∀ i m H, W i m H →
  (J.stop i H ∧ Q (.ref D) H) ∨ (J.go i H ∧ ∃ Nx : Hp → Prop, (∀ H', Nx H' → ∃ m', m' < m ∧ W (i + 1) m' H') ∧ ∀ x H', J.yld i H x H' → g x (wipe σ vs) H' fun σ2 H2 => wipe σ2 vs = wipe σ vs ∧ tt σ2 H2 fun b H3 =>
    if b = true then te σ2 H3 fun y H4 => ∃ acc, H4 D = some (.lst acc) ∧ acc.length < sizeLine ∧ Nx (upd H4 D (.lst (acc ++ [y]))) else Nx H3)
theorem w_lc (h : wi σ H fun J H1 => LcB J g tt te vs σ Q H1) : tLc wi g tt te vs σ H Q := h
def IL1 (K : PySem.W.Frag) (R : It → Hp → Prop) (x : V) (H1 : Hp) : Prop := ∃ a, x = .ref a ∧ (∃ xs, SqL K H1 a xs) ∧ R (Itl K a) H1
def IT1 (K : PySem.W.Frag) (R : It → Hp → Prop) (x : V) (H1 : Hp) : Prop := ∃ a, x = .ref a ∧ (∃ xs, SqT K H1 a xs) ∧ R (Itt K a) H1
def IR1 (R : It → Hp → Prop) (vs : List V) (H1 : Hp) : Prop := ∃ j : Int, vs = [.int j] ∧ -(2 ^ 62) ≤ j ∧ j < 2 ^ 62 ∧ R (Itr 0 j.toNat) H1
def IR2 (R : It → Hp → Prop) (vs : List V) (H1 : Hp) : Prop := ∃ i j : Int, vs = [.int i, .int j] ∧ (-(2 ^ 62) ≤ i ∧ i < 2 ^ 62 ∧ -(2 ^ 62) ≤ j ∧ j < 2 ^ 62) ∧ R (Itr i (j - i).toNat) H1
variable {R : It → Hp → Prop}
theorem w_iL (h : tl σ H fun x H1 => IL1 K R x H1) : iList K tl σ H R := h
theorem w_iT (h : tl σ H fun x H1 => IT1 K R x H1) : iTup K tl σ H R := h
theorem w_iR1 (h : s σ H fun x H1 => IR1 R x H1) : iRng1 s σ H R := h
theorem w_iR2 (h : s σ H fun x H1 => IR2 R x H1) : iRng2 s σ H R := h
theorem w_IL1 {a : Addr} {xs : List V} (h : SqL K H a xs) (q : R (Itl K a) H) : IL1 K R (.ref a) H := ⟨a, rfl, ⟨xs, h⟩, q⟩
theorem w_IT1 {a : Addr} {xs : List V} (h : SqT K H a xs) (q : R (Itt K a) H) : IT1 K R (.ref a) H := ⟨a, rfl, ⟨xs, h⟩, q⟩
theorem w_IR1 {j : Int} (h : -1000000 ≤ j ∧ j ≤ 1000000) (q : R (Itr 0 j.toNat) H) : IR1 R [.int j] H := ⟨j, rfl, by omega, by omega, q⟩
theorem w_IR2 {i j : Int} (h : -1000000 ≤ i ∧ i ≤ 1000000 ∧ -1000000 ≤ j ∧ j ≤ 1000000) (q : R (Itr i (j - i).toNat) H) : IR2 R [.int i, .int j] H := ⟨i, j, rfl, by omega, q⟩
/-- for x in a list that stands: Pv by the turn, the slots, the heap -/
theorem for_l {a : Addr} {j : Nat} (xs : List V) (Pv : Nat → L2.St → Hp → Prop) (h0 : Pv 0 σ H) (hl : ∀ i σ H, i ≤ xs.length → Pv i σ H → SqL K H a xs)
    (hs : ∀ i x σ' H', xs[i]? = some x → Pv i σ' H' → t { D with nx := Pv (i + 1), ct := Pv (i + 1), bk := D.nx } (σ'.set j (some x)) H') (hd : ∀ σ' H', Pv xs.length σ' H' → D.nx σ' H') : ForB (Itl K a) (gName j) t D σ H :=
  for_list Pv h0 hl hs hd
theorem for_t {a : Addr} {j : Nat} (xs : List V) (Pv : Nat → L2.St → Hp → Prop) (h0 : Pv 0 σ H) (hl : ∀ i σ H, i ≤ xs.length → Pv i σ H → SqT K H a xs)
    (hs : ∀ i x σ' H', xs[i]? = some x → Pv i σ' H' → t { D with nx := Pv (i + 1), ct := Pv (i + 1), bk := D.nx } (σ'.set j (some x)) H') (hd : ∀ σ' H', Pv xs.length σ' H' → D.nx σ' H') : ForB (Itt K a) (gName j) t D σ H :=
  for_tup Pv h0 hl hs hd
theorem for_r {n j : Nat} (Pv : Nat → L2.St → Hp → Prop) (h0 : Pv 0 σ H)
    (hs : ∀ (i : Nat) σ' H', i < n → Pv i σ' H' → t { D with nx := Pv (i + 1), ct := Pv (i + 1), bk := D.nx } (σ'.set j (some (.int (i : Int)))) H') (hd : ∀ σ' H', Pv n σ' H' → D.nx σ' H') : ForB (Itr 0 n) (gName j) t D σ H :=
  for_range Pv h0 (fun i σ' H' hi p => by
    show t _ (σ'.set j (some (.int (0 + (i : Int))))) H'
    rw [Int.zero_add]
    exact hs i σ' H' hi p) hd
theorem for_r2 {lo : Int} {n j : Nat} (Pv : Nat → L2.St → Hp → Prop) (h0 : Pv 0 σ H)
    (hs : ∀ (i : Nat) σ' H', i < n → Pv i σ' H' → t { D with nx := Pv (i + 1), ct := Pv (i + 1), bk := D.nx } (σ'.set j (some (.int (lo + (i : Int))))) H') (hd : ∀ σ' H', Pv n σ' H' → D.nx σ' H') : ForB (Itr lo n) (gName j) t D σ H :=
  for_range Pv h0 hs hd
/-- a comprehension over range(n) whose elements leave the heap -/
theorem lc_r {n j : Nat} (f : Nat → V) (hn : n < 1000000) (hw : ∀ x, wipe ((wipe σ vs).set j (some x)) vs = wipe σ vs)
    (he : ∀ (i : Nat) H' (Q' : VK), i < n → Same H H' → Q' (f i) H' → te ((wipe σ vs).set j (some (.int (i : Int)))) H' Q')
    (q : ∀ p H', H p = none → Same H H' → H' p = some (.lst ((List.range n).map f)) → Q (.ref p) H') : LcB (Itr 0 n) (gName j) tYes te vs σ Q H := fun p hp =>
  lc_range (lo := 0) (n := n) (fun i H' => H' = upd H p (.lst ((List.range i).map f))) rfl (fun i H' hi e => by
    subst e
    have e0 : V.int (0 + (i : Int)) = V.int (i : Int) := by rw [Int.zero_add]
    show wipe ((wipe σ vs).set j (some (V.int (0 + (i : Int))))) vs = wipe σ vs ∧ te ((wipe σ vs).set j (some (V.int (0 + (i : Int))))) (upd H p (.lst ((List.range i).map f)))
      (fun y H4 => ∃ acc, H4 p = some (.lst acc) ∧ acc.length < sizeLine ∧ upd H4 p (.lst (acc ++ [y])) = upd H p (.lst ((List.range (i + 1)).map f)))
    rw [e0]
    refine ⟨hw _, he i _ _ hi (same_upd hp) ⟨_, upd_same, ?_, ?_⟩⟩
    · rw [List.length_map, List.length_range]
      exact Nat.lt_of_lt_of_le (show i < 16777216 by omega) (by rw [sizeLine_eq]; exact Nat.le_refl _)
    · rw [upd_upd, List.range_succ, List.map_append]
      rfl) fun H' e => by
    subst e
    exact q p _ hp (same_upd hp) upd_same
end
/-! lists of ints -/
theorem get_map {α : Type} {xs : List α} {f : α → V} {i : Nat} {x : V} (h : (xs.map f)[i]? = some x) : ∃ y, xs[i]? = some y ∧ x = f y := by
  rw [List.getElem?_map] at h
  cases e : xs[i]? with
  | none => rw [e] at h; cases h
  | some y => rw [e] at h; exact ⟨y, rfl, (Option.some.inj h).symm⟩
theorem cut_upto (xs : List V) (n : Nat) : cutV xs none (some (n : Int)) = xs.take n := by
  unfold cutV
  rw [HT.sIx_none, HT.sIx_nat, List.drop_zero, Nat.sub_zero]
  rcases Nat.le_total n xs.length with h | h
  · rw [Nat.min_eq_left h]
  · rw [Nat.min_eq_right h, List.take_of_length_le (Nat.le_refl _), List.take_of_length_le h]
theorem cut_from (xs : List V) (n : Nat) (h : n ≤ xs.length) : cutV xs (some (n : Int)) none = xs.drop n := by
  unfold cutV
  rw [HT.sIx_none, HT.sIx_nat, Nat.min_eq_left h]
  exact List.take_of_length_le (by rw [List.length_drop]; exact Nat.le_refl _)
/-- the cells of a law: at most 63 of the script, and nought behind -/
def cells (ns : List Int) : List Int := ns.take 63 ++ [0]
theorem cells_eq (ns : List Int) : cutV (ns.map V.int) none (some (63 : Int)) ++ [V.int 0] = (cells ns).map V.int := by
  rw [show (63 : Int) = ((63 : Nat) : Int) from rfl, cut_upto, cells, List.map_append, List.map_take]
  rfl
theorem cells_len (ns : List Int) : (cells ns).length ≤ 64 ∧ 1 ≤ (cells ns).length := by
  unfold cells
  rw [List.length_append, List.length_take, List.length_singleton]
  omega
theorem cutV_le (xs : List V) (lo hi : Option Int) {n : Nat} (h : xs.length ≤ n) : (cutV xs lo hi).length ≤ n := Nat.le_trans (cutV_length xs lo hi) h
/-! == of data -/
theorem w_neD {K : PySem.W.Frag} {H : Hp} {Q : VK} {x y : V} {d e : PyData} (hx : Dp K H x d) (hy : Dp K H y e) (sd : SeqAt.shaped d = true) (se : SeqAt.shaped e = true) (q : Q (.bl (!PyData.eqv d e)) H) : rNeD K x y H Q := ⟨d, e, hx, hy, sd, se, q⟩
theorem w_eqD {K : PySem.W.Frag} {H : Hp} {Q : VK} {x y : V} {d e : PyData} (hx : Dp K H x d) (hy : Dp K H y e) (sd : SeqAt.shaped d = true) (se : SeqAt.shaped e = true) (q : Q (.bl (PyData.eqv d e)) H) : rEqD K x y H Q := ⟨d, e, hx, hy, sd, se, q⟩
theorem w_neSame {K : PySem.W.Frag} {H : Hp} {Q : VK} {x y : V} (d : PyData) (hx : Dp K H x d) (hy : Dp K H y d) (sd : SeqAt.shaped d = true) (q : Q (.bl false) H) : rNeD K x y H Q :=
  ⟨d, d, hx, hy, sd, sd, by rw [SeqAt.eqv_refl d (SeqAt.canLay_of_shaped sd)]; exact q⟩
theorem w_eqSame {K : PySem.W.Frag} {H : Hp} {Q : VK} {x y : V} (d : PyData) (hx : Dp K H x d) (hy : Dp K H y d) (sd : SeqAt.shaped d = true) (q : Q (.bl true) H) : rEqD K x y H Q :=
  ⟨d, d, hx, hy, sd, sd, by rw [SeqAt.eqv_refl d (SeqAt.canLay_of_shaped sd)]; exact q⟩
theorem dp_ints {K : PySem.W.Frag} {H : Hp} : ∀ ns : List Int, DpAll K H (ns.map V.int) (ns.map PyData.int)
  | [] => .nil
  | n :: r => .cons (.int n) (dp_ints r)
theorem lay_ints : ∀ ns : List Int, PyData.canLayAll0 (ns.map PyData.int) = true
  | [] => rfl
  | n :: r => by
    show (PyData.canLay0 (.int n) && PyData.canLayAll0 (r.map PyData.int)) = true
    rw [lay_ints r]
    rfl
/-! lists that change -/
section
variable {K : PySem.W.Frag} {D : Ends} {σ : L2.St} {H H1 : Hp} {Q : VK} {to : TE} {t : TA} {b : TS}
/-- what H does not know may change behind it -/
theorem same_mut {o : Addr} {u : HO} (s : Same H H1) (n : H o = none) : Same H (upd H1 o u) := fun c x e => by
  rw [upd_ne (ne_of_none e n)]
  exact s c x e
def BM1 (K : PySem.W.Frag) (T : String) (f : V → List V → Hp → VK → Prop) (t : TA) (σ : L2.St) (Q : VK) (x : V) (H1 : Hp) : Prop := tyV K T x H1 ∧ t σ H1 fun xs H2 => f x xs H2 Q
def BM0 (K : PySem.W.Frag) (T : String) (f : V → List V → Hp → VK → Prop) (Q : VK) (x : V) (H1 : Hp) : Prop := tyV K T x H1 ∧ f x [] H1 Q
theorem w_bm {T : String} {f : V → List V → Hp → VK → Prop} (h : to σ H fun x H1 => BM1 K T f t σ Q x H1) : tBM K T f to t σ H Q := h
theorem w_bm0 {T : String} {f : V → List V → Hp → VK → Prop} (h : to σ H fun x H1 => BM0 K T f Q x H1) : tBM0 K T f to σ H Q := h
theorem w_BML {f : V → List V → Hp → VK → Prop} {p : Addr} {xs : List V} (e : H p = some (.lst xs)) (q : t σ H fun vs H2 => f (.ref p) vs H2 Q) : BM1 K "list" f t σ Q (.ref p) H := ⟨.inl ⟨rfl, xs, SqL.of e⟩, q⟩
theorem w_BM0L {f : V → List V → Hp → VK → Prop} {p : Addr} {xs : List V} (e : H p = some (.lst xs)) (q : f (.ref p) [] H Q) : BM0 K "list" f Q (.ref p) H := ⟨.inl ⟨rfl, xs, SqL.of e⟩, q⟩
theorem w_append {p : Addr} {xs : List V} {y : V} (e : H p = some (.lst xs)) (hz : xs.length ≤ 1000000) (q : Q .non (upd H p (.lst (xs ++ [y])))) : rAppend (.ref p) [y] H Q :=
  ⟨p, xs, y, rfl, rfl, e, Nat.lt_of_le_of_lt hz (by rw [sizeLine_eq]; decide), q⟩
/-- for k, x in enumerate(a list that stands) -/
def IE1 (K : PySem.W.Frag) (R : It → Hp → Prop) (vs : List V) (H1 : Hp) : Prop := ∃ a xs, vs = [.ref a] ∧ SqL K H1 a xs ∧ R (Ite K a) H1
theorem w_iE {s : TA} {R : It → Hp → Prop} (h : s σ H fun x H1 => IE1 K R x H1) : iEnum K s σ H R := h
theorem w_IE1 {a : Addr} {xs : List V} {R : It → Hp → Prop} (h : SqL K H a xs) (q : R (Ite K a) H) : IE1 K R [.ref a] H := ⟨a, xs, rfl, h, q⟩
theorem for_e {a : Addr} {j k : Nat} (xs : List V) (Pv : Nat → L2.St → Hp → Prop) (h0 : Pv 0 σ H) (hl : ∀ n σ H, n ≤ xs.length → Pv n σ H → SqL K H a xs)
    (hs : ∀ (n : Nat) x σ' H' H'', xs[n]? = some x → Pv n σ' H' → Same H' H'' → b { D with nx := Pv (n + 1), ct := Pv (n + 1), bk := D.nx } ((σ'.set j (some (.int (n : Int)))).set k (some x)) H'') (hd : ∀ σ' H', Pv xs.length σ' H' → D.nx σ' H') :
    ForB (Ite K a) (gTup K 2 (gCons (gName j) (gCons (gName k) gNil))) b D σ H := by
  refine ⟨fun i m σ H => m = xs.length - i ∧ i ≤ xs.length ∧ Pv i σ H, ⟨xs.length, by simp, Nat.zero_le _, h0⟩, ?_⟩
  rintro i m σ H ⟨rfl, hi, p⟩
  have q := hl i σ H hi p
  by_cases hlt : i < xs.length
  · refine .inr ⟨⟨xs, xs[i], q, by simp [hlt]⟩, Pv (i + 1), fun σ' H' p' => ⟨xs.length - (i + 1), by omega, rfl, hlt, p'⟩, fun x H' y => ?_⟩
    obtain ⟨T, y, rfl, nT, rfl, hy⟩ := y
    refine ⟨T, _, rfl, SqT.of upd_same, rfl, _, _, rfl, _, _, rfl, rfl, ?_⟩
    exact hs i y σ H _ (hy xs q) p (same_upd nT)
  · have e : i = xs.length := by omega
    subst e
    exact .inl ⟨⟨xs, q, Nat.le_refl _⟩, hd σ H p⟩
end
/-- x & 1 -/
def rBit1 : R2 := fun x y H Q => ∃ i : Int, x = .int i ∧ y = .int 1 ∧ Q (.int (i % 2)) H
theorem op_bit1 {X : Cx} : OpR X (binaryOp .BitAnd) rBit1 := by
  intro pins s σ H x y v u Q I rx ry h
  obtain ⟨i, rfl, rfl, q⟩ := h
  have e : Builtin.bitAnd i 1 = i % 2 := PySem.W.kbt_mask i 1
  rw [← e] at q
  exact op_and pins s σ H _ _ v u Q I rx ry ⟨_, _, rfl, rfl, q⟩
theorem w_bit1 {H : Hp} {Q : VK} {i : Int} (q : Q (.int (i % 2)) H) : rBit1 (.int i) (.int 1) H Q := ⟨i, rfl, rfl, q⟩
/-- x >> k, k a place -/
def rShrN : R2 := fun x y H Q => ∃ (i : Int) (k : Nat), x = .int i ∧ y = .int (k : Int) ∧ Q (.int (i / 2 ^ k)) H
theorem op_shrK {X : Cx} : OpR X (binaryOp .RShift) rShrN := op_shrN
theorem w_shrN {H : Hp} {Q : VK} {i : Int} {k : Nat} (q : Q (.int (i / 2 ^ k)) H) : rShrN (.int i) (.int (k : Int)) H Q := ⟨i, k, rfl, rfl, q⟩
/-- x << k, x small, k a place -/
def rShlN : R2 := fun x y H Q => ∃ (i : Int) (k : Nat), x = .int i ∧ y = .int (k : Int) ∧ (-100 ≤ i ∧ i ≤ 100 ∧ k ≤ 1000000) ∧ Q (.int (i * 2 ^ k)) H
theorem op_shlK {X : Cx} : OpR X (binaryOp .LShift) rShlN := by
  intro pins s σ H x y v u Q I rx ry h
  obtain ⟨i, k, rfl, rfl, ⟨h1, h2, h3⟩, q⟩ := h
  refine op_shl pins s σ H _ _ v u Q I rx ry ⟨_, _, rfl, rfl, ⟨by omega, by omega, Nat.lt_of_le_of_lt (show i.natAbs ≤ 100 by omega) (by decide)⟩, ?_⟩
  show Q (.int (i * 2 ^ (k : Int).toNat)) H
  rw [Int.toNat_natCast]
  exact q
theorem w_shlN {H : Hp} {Q : VK} {i : Int} {k : Nat} (h : -100 ≤ i ∧ i ≤ 100 ∧ k ≤ 1000000) (q : Q (.int (i * 2 ^ k)) H) : rShlN (.int i) (.int (k : Int)) H Q := ⟨i, k, rfl, rfl, h, q⟩
theorem bits_of_int {i : Int} {n : Nat} (h : i.natAbs < 2 ^ n) : Builtin.Int.intBits i ≤ n + 1 := by
  have b : Builtin.Int.intBits i ≤ i.natAbs.log2 + 1 := by
    unfold Builtin.Int.intBits
    split <;> omega
  rcases Nat.eq_zero_or_pos n with h0 | h0
  · subst h0
    have e : i.natAbs = 0 := by omega
    rw [e] at b
    exact b
  · have := PySem.Flt.log2_lt_of h0 h
    omega
theorem mul_ok {i j : Int} {n : Nat} (hi : Builtin.Int.intBits i ≤ 1048576) (hj : j.natAbs < 2 ^ n) (hn : n ≤ 1000000) : IntMulOk i j :=
  CMulX.ok (show (Builtin.Int.intBits i : Int) + (Builtin.Int.intBits j : Int) ≤ 134217728 by have := bits_of_int hj; omega)
theorem mul_sm {i j : Int} (h : -1000000000000 ≤ i ∧ i ≤ 1000000000000) : IntMulOk i j := .of_left (intBits_le_64 (by omega) (by omega))
theorem mul_sm2 {i j : Int} (h : -1000000000000 ≤ j ∧ j ≤ 1000000000000) : IntMulOk i j := .of_right (intBits_le_64 (by omega) (by omega))
theorem depth_ints : ∀ ns : List Int, PyData.depthAll (ns.map PyData.int) ≤ 1
  | [] => Nat.zero_le 1
  | n :: r => by
    have := depth_ints r
    show max (PyData.depth (.int n)) (PyData.depthAll (r.map PyData.int)) ≤ 1
    exact Nat.max_le.mpr ⟨Nat.zero_le 1, this⟩
theorem shaped_ints (ns : List Int) : SeqAt.shaped (.list (ns.map PyData.int)) = true := by
  unfold SeqAt.shaped
  rw [show PyData.canLay0 (.list (ns.map PyData.int)) = true from lay_ints ns, Bool.true_and]
  have h := depth_ints ns
  exact decide_eq_true (show PyData.depthAll (ns.map PyData.int) + 1 ≤ 64 by omega)
/-! targets of several names -/
section
variable {K : PySem.W.Frag} {σ : L2.St} {H : Hp} {t : TG} {u tt : TGs} {QS : L2.St → Hp → Prop}
theorem w_gTup {n : Nat} {a : Addr} {xs : List V} (h : SqT K H a xs) (e : xs.length = n) (q : tt xs σ H QS) : gTup K n tt (.ref a) σ H QS := ⟨a, xs, rfl, h, e, q⟩
theorem w_gCons {v : V} {r : List V} (q : t v σ H fun σ' H' => u r σ' H' QS) : gCons t u (v :: r) σ H QS := ⟨v, r, rfl, q⟩
theorem w_gNil (q : QS σ H) : gNil [] σ H QS := ⟨rfl, q⟩
theorem w_gName {v : V} {i : Nat} (q : QS (σ.set i (some v)) H) : gName i v σ H QS := q
end
/-- how many bits a number has -/
theorem ib_le {x : Int} (h : 0 ≤ x) (n : Nat) : Builtin.Int.intBits x ≤ n ↔ x < 2 ^ n := by
  obtain ⟨k, rfl⟩ := Int.eq_ofNat_of_zero_le h
  have e : (k : Int) < 2 ^ n ↔ k < 2 ^ n := by
    rw [show ((2 : Int) ^ n) = ((2 ^ n : Nat) : Int) by rw [Int.natCast_pow]; rfl]
    exact Int.ofNat_lt
  rw [e]
  by_cases h0 : k = 0
  · subst h0
    exact ⟨fun _ => Nat.pos_of_ne_zero (by intro z; exact absurd z (Nat.ne_of_gt (Nat.pow_pos (by decide)))), fun _ => Nat.zero_le _⟩
  · have hb : Builtin.Int.intBits (k : Int) = k.log2 + 1 := by
      unfold Builtin.Int.intBits
      rw [if_neg (by simpa using h0)]
      rfl
    rw [hb]
    exact (Nat.log2_lt h0)
theorem mul_cc {i j : Int} (hi : Builtin.Int.intBits i ≤ 1048576) (hj : Builtin.Int.intBits j ≤ 1048576) : IntMulOk i j :=
  CMulX.ok (show (Builtin.Int.intBits i : Int) + (Builtin.Int.intBits j : Int) ≤ 134217728 by omega)
theorem abs_pow (n : Nat) : ((1 : Int) * 2 ^ n).natAbs = 2 ^ n := by
  rw [Int.one_mul, Int.natAbs_pow]
  rfl
/-! cells of a script by their places -/
theorem get_int {ns : List Int} {i : Nat} (hi : i < ns.length) : atI (ns.map V.int) (i : Int) = some (.int ns[i]) := atI_nat (by rw [List.getElem?_map, List.getElem?_eq_getElem hi]; rfl)
theorem atI_lastD {bs : List Int} (h : bs ≠ []) : atI (bs.map V.int) (-1) = some (.int (bs.getLastD 0)) := by
  obtain ⟨r, x, rfl⟩ : ∃ r x, bs = r ++ [x] := ⟨bs.dropLast, bs.getLast h, (List.dropLast_concat_getLast h).symm⟩
  rw [List.map_append]
  have e : (r ++ [x]).getLastD 0 = x := by simp
  rw [e]
  exact atI_last _ _
theorem atI_prev {xs : List Int} {k : Nat} (hk : k < xs.length) : ∃ c, atI (xs.map V.int) ((k : Int) - 1) = some (.int c) ∧ c ∈ xs := by
  cases k with
  | zero =>
    have hne : xs ≠ [] := fun z => by
      rw [z] at hk
      exact absurd hk (by decide)
    refine ⟨xs.getLastD 0, atI_lastD hne, ?_⟩
    obtain ⟨r, x, rfl⟩ : ∃ r x, xs = r ++ [x] := ⟨xs.dropLast, xs.getLast hne, (List.dropLast_concat_getLast hne).symm⟩
    simp
  | succ j =>
    have hj : j < xs.length := by omega
    refine ⟨xs[j], ?_, List.getElem_mem hj⟩
    have e : ((j + 1 : Nat) : Int) - 1 = (j : Int) := by omega
    rw [e]
    exact get_int hj
theorem cells_bits {ns : List Int} (h : ∀ z ∈ ns, Builtin.Int.intBits z ≤ 1048576) : ∀ z ∈ cells ns, Builtin.Int.intBits z ≤ 1048576 := by
  intro z hz
  rcases List.mem_append.mp hz with q | q
  · exact h z (List.mem_of_mem_take q)
  · have e : z = 0 := List.mem_singleton.mp q
    rw [e]
    decide
/-! texts compared -/
theorem w_itS1 {x y : Str} {A B : Prop} (e : decide (x = y) = true) (h : A) : if decide (V.str x = V.str y) = true then A else B := by
  rw [of_decide_eq_true e, decide_eq_true rfl]
  exact w_itT h
theorem w_itS0 {x y : Str} {A B : Prop} (e : decide (x = y) = false) (h : B) : if decide (V.str x = V.str y) = true then A else B := by
  rw [decide_eq_false (fun z => of_decide_eq_false e (V.str.inj z))]
  exact w_itF h
theorem w_itN1 {x y : Str} {A B : Prop} (e : decide (x = y) = true) (h : B) : if (!decide (V.str x = V.str y)) = true then A else B := by
  rw [of_decide_eq_true e, decide_eq_true rfl]
  exact w_itF h
theorem w_itN0 {x y : Str} {A B : Prop} (e : decide (x = y) = false) (h : A) : if (!decide (V.str x = V.str y)) = true then A else B := by
  rw [decide_eq_false (fun z => of_decide_eq_false e (V.str.inj z))]
  exact w_itT h
theorem w_itS {x y : Str} {A B : Prop} (h1 : x = y → A) (h2 : x ≠ y → B) : if decide (V.str x = V.str y) = true then A else B := by
  by_cases e : x = y
  · exact w_itS1 (decide_eq_true e) (h1 e)
  · exact w_itS0 (decide_eq_false e) (h2 e)
theorem w_itSN {x y : Str} {A B : Prop} (h1 : x ≠ y → A) (h2 : x = y → B) : if (!decide (V.str x = V.str y)) = true then A else B := by
  by_cases e : x = y
  · exact w_itN1 (decide_eq_true e) (h2 e)
  · exact w_itN0 (decide_eq_false e) (h1 e)
/-! dicts asked -/
def DG1 (x y : V) (H2 : Hp) (Q : VK) : Prop := ∃ a v, x = .ref a ∧ DGet H2 a y (some v) ∧ Q v H2
theorem w_dget {td ty : TE} {σ : L2.St} {H : Hp} {Q : VK} (h : td σ H fun x H1 => ty σ H1 fun y H2 => DG1 x y H2 Q) : tDGet td ty σ H Q := h
theorem w_DG1 {a : Addr} {kvs : List (Key × V)} {n : Str} {v : V} {H : Hp} {Q : VK} (e : H a = some (.dK kvs)) (g : valV kvs (Sum.inr n) = some v) (q : Q v H) : DG1 (.ref a) (.str n) H Q :=
  ⟨a, v, rfl, by rw [← g]; exact DGet.k (k := Sum.inr n) e, q⟩
/-! lists in step -/
def A2 {α β : Type} (R : α → β → Prop) (xs : List α) (ys : List β) : Prop := xs.length = ys.length ∧ ∀ (i : Nat) x y, xs[i]? = some x → ys[i]? = some y → R x y
theorem A2.nil {α β : Type} {R : α → β → Prop} : A2 R [] [] := ⟨rfl, fun i x y h => by cases h⟩
theorem A2.snoc {α β : Type} {R : α → β → Prop} {xs : List α} {ys : List β} {x : α} {y : β} (h : A2 R xs ys) (r : R x y) : A2 R (xs ++ [x]) (ys ++ [y]) := by
  refine ⟨by rw [List.length_append, List.length_append, h.1]; rfl, fun i u v hu hv => ?_⟩
  rcases Nat.lt_trichotomy i xs.length with q | q | q
  · rw [List.getElem?_append_left q] at hu
    rw [List.getElem?_append_left (by rw [← h.1]; exact q)] at hv
    exact h.2 i u v hu hv
  · subst q
    rw [List.getElem?_append_right (Nat.le_refl _), Nat.sub_self] at hu
    rw [h.1, List.getElem?_append_right (Nat.le_refl _), Nat.sub_self] at hv
    cases hu
    cases hv
    exact r
  · rw [List.getElem?_eq_none (by rw [List.length_append]; exact q)] at hu
    cases hu
theorem A2.mono {α β : Type} {R S : α → β → Prop} {xs : List α} {ys : List β} (h : A2 R xs ys) (k : ∀ x y, R x y → S x y) : A2 S xs ys := ⟨h.1, fun i x y a b => k x y (h.2 i x y a b)⟩
theorem A2.get {α β : Type} {R : α → β → Prop} {xs : List α} {ys : List β} {i : Nat} {x : α} (h : A2 R xs ys) (e : xs[i]? = some x) : ∃ y, ys[i]? = some y ∧ R x y := by
  have hi := (List.getElem?_eq_some_iff.mp e).1
  have hj : i < ys.length := by rw [← h.1]; exact hi
  exact ⟨ys[i], List.getElem?_eq_getElem hj, h.2 i x _ e (List.getElem?_eq_getElem hj)⟩
theorem A2.get2 {α β : Type} {R : α → β → Prop} {xs : List α} {ys : List β} {i : Nat} {y : β} (h : A2 R xs ys) (e : ys[i]? = some y) : ∃ x, xs[i]? = some x ∧ R x y := by
  have hi := (List.getElem?_eq_some_iff.mp e).1
  have hj : i < xs.length := by rw [h.1]; exact hi
  exact ⟨xs[i], List.getElem?_eq_getElem hj, h.2 i _ y (List.getElem?_eq_getElem hj) e⟩
theorem mul_ok2 {i j : Int} {n : Nat} (hi : Builtin.Int.intBits i ≤ 1048576) (hj : j.natAbs < 2 ^ n) (hn : n ≤ 1000000) : IntMulOk i j := mul_ok hi hj hn
/-! the rules with the written part named (within a comprehension it must be) -/
theorem ix_tupK {X : Cx} (K : PySem.W.Frag) (e : X.K = K := by rfl) : IxR X (rIxT K) := by subst e; exact ix_tup
theorem ix_listK {X : Cx} (K : PySem.W.Frag) (e : X.K = K := by rfl) : IxR X (rIxL K) := by subst e; exact ix_list
theorem c_lenK {X : Cx} (K : PySem.W.Frag) (e : X.K = K := by rfl) : CallR X (.builtin "len") (rLen K) := by subst e; exact c_len
theorem c_listK {X : Cx} (K : PySem.W.Frag) (e : X.K = K := by rfl) : CallR X (.type "list") (rListOf K) := by subst e; exact c_list
theorem c_isiK {X : Cx} (K : PySem.W.Frag) (e : X.K = K := by rfl) : CallR X (.builtin "isinstance") (rIsi K) := by subst e; exact call_isi
/-- a comprehension over a list that stands, whose elements leave the heap -/
theorem lc_l {K : PySem.W.Frag} {σ : L2.St} {H : Hp} {Q : VK} {te : TE} {vs : List Nat} {a : Addr} {j : Nat} (xs ys : List V) (hlen : ys.length = xs.length) (hS : SqL K H a xs) (hz : xs.length ≤ 1000000) (hw : ∀ x, wipe ((wipe σ vs).set j (some x)) vs = wipe σ vs)
    (he : ∀ (i : Nat) x y H' (Q' : VK), xs[i]? = some x → ys[i]? = some y → Same H H' → Q' y H' → te ((wipe σ vs).set j (some x)) H' Q')
    (q : ∀ p H', H p = none → Same H H' → H' p = some (.lst ys) → Q (.ref p) H') : LcB (Itl K a) (gName j) tYes te vs σ Q H := fun p hp =>
  lc_list (xs := xs) (fun i H' => H' = upd H p (.lst (ys.take i))) rfl (fun i H' _ e => by
    subst e
    exact (same_upd hp).seq hS) (fun i x H' hx e => by
    subst e
    have hi := (List.getElem?_eq_some_iff.mp hx).1
    have hy : ys[i]? = some ys[i] := List.getElem?_eq_getElem (by omega)
    show wipe ((wipe σ vs).set j (some x)) vs = wipe σ vs ∧ te ((wipe σ vs).set j (some x)) (upd H p (.lst (ys.take i)))
      (fun y H4 => ∃ acc, H4 p = some (.lst acc) ∧ acc.length < sizeLine ∧ upd H4 p (.lst (acc ++ [y])) = upd H p (.lst (ys.take (i + 1))))
    refine ⟨hw _, he i x _ _ _ hx hy (same_upd hp) ⟨_, upd_same, ?_, ?_⟩⟩
    · rw [List.length_take]
      exact Nat.lt_of_lt_of_le (show min i ys.length < 16777216 by omega) (by rw [sizeLine_eq]; exact Nat.le_refl _)
    · rw [upd_upd, List.take_add_one, hy]
      rfl) fun H' e => by
    subst e
    refine q p _ hp (same_upd hp) ?_
    rw [upd_same, List.take_of_length_le (by omega)]
/-- x // (1 << k) -/
def rDivP : R2 := fun x y H Q => ∃ (i : Int) (k : Nat), x = .int i ∧ y = .int (1 * 2 ^ k) ∧ k ≤ 5000 ∧ Q (.int (i / 2 ^ k)) H
theorem op_divP {X : Cx} : OpR X (binaryOp .FloorDiv) rDivP := by
  intro pins s σ H x y v u Q I rx ry h
  obtain ⟨i, k, rfl, rfl, hk, q⟩ := h
  refine op_fdivW pins s σ H _ _ v u Q I rx ry ⟨_, _, rfl, rfl, ?_, ?_⟩
  · refine wide_div (b := k + 1) (by rw [Int.one_mul]; exact p2pos k) ?_ (Nat.succ_pos _) (by omega)
    rw [abs_pow]
    exact Nat.pow_lt_pow_right (by decide) (Nat.lt_succ_self k)
  · show Q (.int (i / (1 * 2 ^ k))) H
    rw [Int.one_mul]
    exact q
theorem w_divP {H : Hp} {Q : VK} {i : Int} {k : Nat} (h : k ≤ 5000) (q : Q (.int (i / 2 ^ k)) H) : rDivP (.int i) (.int (1 * 2 ^ k)) H Q := ⟨i, k, rfl, rfl, h, q⟩
theorem hp_upd {H : Hp} {a b : Addr} {o u : HO} (ne : b ≠ a) (h : H b = some o) : upd H a u b = some o := by rw [upd_ne ne]; exact h
theorem hp_upd2 {H : Hp} {a b : Addr} {o u : HO} (ne : a ≠ b) (h : H b = some o) : upd H a u b = some o := hp_upd ne.symm h
/-- a comprehension over a range, of whose elements something is known -/
theorem lc_rx {σ : L2.St} {H : Hp} {Q : VK} {te : TE} {vs : List Nat} {lo : Int} {n j : Nat} (P : V → Prop) (hn : n < 1000000) (hw : ∀ x, wipe ((wipe σ vs).set j (some x)) vs = wipe σ vs)
    (he : ∀ (i : Nat) H' (Q' : VK), i < n → Same H H' → (∀ y, P y → Q' y H') → te ((wipe σ vs).set j (some (.int (lo + (i : Int))))) H' Q')
    (q : ∀ ys p H', ys.length = n → (∀ y ∈ ys, P y) → H p = none → Same H H' → H' p = some (.lst ys) → Q (.ref p) H') : LcB (Itr lo n) (gName j) tYes te vs σ Q H := fun p hp =>
  lc_range (lo := lo) (n := n) (fun i H' => ∃ ys : List V, ys.length = i ∧ (∀ y ∈ ys, P y) ∧ H' = upd H p (.lst ys)) ⟨[], rfl, fun y h => (by cases h), rfl⟩ (fun i H' hi e => by
    obtain ⟨ys, hl, hP, rfl⟩ := e
    show wipe ((wipe σ vs).set j (some (V.int (lo + (i : Int))))) vs = wipe σ vs ∧ te ((wipe σ vs).set j (some (V.int (lo + (i : Int))))) (upd H p (.lst ys))
      (fun y H4 => ∃ acc, H4 p = some (.lst acc) ∧ acc.length < sizeLine ∧ ∃ zs : List V, zs.length = i + 1 ∧ (∀ y ∈ zs, P y) ∧ upd H4 p (.lst (acc ++ [y])) = upd H p (.lst zs))
    refine ⟨hw _, he i _ _ hi (same_upd hp) fun y hy => ⟨ys, upd_same, ?_, ys ++ [y], ?_, ?_, ?_⟩⟩
    · exact Nat.lt_of_lt_of_le (show ys.length < 16777216 by omega) (by rw [sizeLine_eq]; exact Nat.le_refl _)
    · rw [List.length_append, hl]
      rfl
    · intro z hz
      rcases List.mem_append.mp hz with k | k
      · exact hP z k
      · rw [List.mem_singleton.mp k]
        exact hy
    · rw [upd_upd]) fun H' e => by
    obtain ⟨ys, hl, hP, rfl⟩ := e
    exact q ys p _ hl hP hp (same_upd hp) upd_same
/-- .. over a list -/
theorem lc_lx {K : PySem.W.Frag} {σ : L2.St} {H : Hp} {Q : VK} {te : TE} {vs : List Nat} {a : Addr} {j : Nat} (xs : List V) (P : V → Prop) (hS : SqL K H a xs) (hz : xs.length ≤ 1000000) (hw : ∀ x, wipe ((wipe σ vs).set j (some x)) vs = wipe σ vs)
    (he : ∀ (i : Nat) x H' (Q' : VK), xs[i]? = some x → Same H H' → (∀ y, P y → Q' y H') → te ((wipe σ vs).set j (some x)) H' Q')
    (q : ∀ ys p H', ys.length = xs.length → (∀ y ∈ ys, P y) → H p = none → Same H H' → H' p = some (.lst ys) → Q (.ref p) H') : LcB (Itl K a) (gName j) tYes te vs σ Q H := fun p hp =>
  lc_list (xs := xs) (fun i H' => ∃ ys : List V, ys.length = i ∧ (∀ y ∈ ys, P y) ∧ H' = upd H p (.lst ys)) ⟨[], rfl, fun y h => (by cases h), rfl⟩ (fun i H' _ e => by
    obtain ⟨ys, hl, hP, rfl⟩ := e
    exact (same_upd hp).seq hS) (fun i x H' hx e => by
    obtain ⟨ys, hl, hP, rfl⟩ := e
    have hi := (List.getElem?_eq_some_iff.mp hx).1
    show wipe ((wipe σ vs).set j (some x)) vs = wipe σ vs ∧ te ((wipe σ vs).set j (some x)) (upd H p (.lst ys))
      (fun y H4 => ∃ acc, H4 p = some (.lst acc) ∧ acc.length < sizeLine ∧ ∃ zs : List V, zs.length = i + 1 ∧ (∀ y ∈ zs, P y) ∧ upd H4 p (.lst (acc ++ [y])) = upd H p (.lst zs))
    refine ⟨hw _, he i x _ _ hx (same_upd hp) fun y hy => ⟨ys, upd_same, ?_, ys ++ [y], ?_, ?_, ?_⟩⟩
    · exact Nat.lt_of_lt_of_le (show ys.length < 16777216 by omega) (by rw [sizeLine_eq]; exact Nat.le_refl _)
    · rw [List.length_append, hl]
      rfl
    · intro z hz
      rcases List.mem_append.mp hz with k | k
      · exact hP z k
      · rw [List.mem_singleton.mp k]
        exact hy
    · rw [upd_upd]) fun H' e => by
    obtain ⟨ys, hl, hP, rfl⟩ := e
    exact q ys p _ hl hP hp (same_upd hp) upd_same
/-- values that are all of one form -/
theorem all_map {α : Type} {f : α → V} {R : α → Prop} : ∀ {ys : List V}, (∀ y ∈ ys, ∃ x, y = f x ∧ R x) → ∃ xs : List α, ys = xs.map f ∧ ∀ x ∈ xs, R x
  | [], _ => ⟨[], rfl, fun x h => by cases h⟩
  | y :: r, h => by
    obtain ⟨x, rfl, hx⟩ := h y (List.mem_cons_self ..)
    obtain ⟨xs, rfl, hr⟩ := all_map (f := f) (R := R) fun z hz => h z (List.mem_cons_of_mem _ hz)
    exact ⟨x :: xs, rfl, fun z hz => by
      rcases List.mem_cons.mp hz with e | e
      · rw [e]; exact hx
      · exact hr z e⟩
/-- int(a truth value) -/
def rIntB : List V → Hp → VK → Prop := fun xs H Q => ∃ k : Bool, xs = [.bl k] ∧ Q (.int (if k then 1 else 0)) H
theorem c_intB {X : Cx} : CallR X (.type "int") rIntB := by
  intro pins s σ H xs us Q I r h
  obtain ⟨k, rfl, q⟩ := h
  exact call_int1 pins s σ H _ us Q I r (.inr ⟨k, rfl, q⟩)
theorem w_intB {H : Hp} {Q : VK} {k : Bool} (q : Q (.int (if k then 1 else 0)) H) : rIntB [.bl k] H Q := ⟨k, rfl, q⟩
theorem w_ixS {z : Str} {i : Int} {c : Nat} {H : Hp} {Q : VK} (hz : z.length ≤ 1000000) (h : atI z.cps.toList i = some c) (q : Q (.str ⟨#[c]⟩) H) : rIxS (.str z) (.int i) H Q :=
  ⟨z, i, c, rfl, rfl, Nat.le_trans hz (by rw [sizeLine_eq]; decide), h, q⟩
theorem w_slS {z : Str} {lo hi : Option Int} {H : Hp} {Q : VK} (hz : z.length ≤ 1000000) (q : Q (.str (cutS z lo hi)) H) : rSlS (.str z) lo hi H Q := ⟨z, rfl, Nat.le_trans hz (by rw [sizeLine_eq]; decide), q⟩
/-- ''.join -/
def rJoin (K : PySem.W.Frag) : V → List V → Hp → VK → Prop := fun x xs H Q => ∃ a p, ∃ ys : List Str, x = .str a ∧ xs = [.ref p] ∧ (SqL K H p (ys.map V.str) ∨ SqT K H p (ys.map V.str)) ∧
    (ys.map (·.length)).sum + ys.length * a.length ≤ 16777216 ∧ Q (.str (Txt.join a ys)) H
theorem p_join {X : Cx} {o e : Expr} {to te : TE} {apos pos : Pos} (K : PySem.W.Frag) (ho : PE X o to) (he : PE X e te) (hs : starEach [e] X.env = [(false, eval e X.env)] := by rfl) (hbase : attributeBase o "join" X.env (eval o X.env) = eval o X.env := by rfl) (hline : (apos.endLine == pos.line) = true := by rfl) (hK : X.K = K := by rfl) :
    PE X (.Call (.Attribute o "join" apos) [e] [] pos) (tM1 (rJoin K) to te) := by
  subst hK
  exact pe_join ho he hs hbase hline
def M11 (f : V → List V → Hp → VK → Prop) (te : TE) (σ : L2.St) (Q : VK) (x : V) (H1 : Hp) : Prop := (∃ a, x = .str a) ∧ te σ H1 fun y H2 => f x [y] H2 Q
theorem w_tm1 {f : V → List V → Hp → VK → Prop} {to te : TE} {σ : L2.St} {H : Hp} {Q : VK} (h : to σ H fun x H1 => M11 f te σ Q x H1) : tM1 f to te σ H Q := h
theorem w_M11 {f : V → List V → Hp → VK → Prop} {te : TE} {σ : L2.St} {H : Hp} {Q : VK} {a : Str} (h : te σ H fun y H2 => f (.str a) [y] H2 Q) : M11 f te σ Q (.str a) H := ⟨⟨a, rfl⟩, h⟩
theorem w_join {K : PySem.W.Frag} {H : Hp} {Q : VK} {a : Str} {p : Addr} {ys : List Str} (h : SqL K H p (ys.map V.str)) (hz : (ys.map (·.length)).sum + ys.length * a.length ≤ 16777216) (q : Q (.str (Txt.join a ys)) H) : rJoin K (.str a) [.ref p] H Q :=
  ⟨a, p, ys, rfl, rfl, .inl h, hz, q⟩
/-! x in a list, in a tuple -/
theorem w_inL {K : PySem.W.Frag} {H : Hp} {Q : VK} {x : V} {p : Addr} {xs : List V} (h : SqL K H p xs) (hx : flatV x = true) (ha : xs.all flatV = true) (q : Q (.bl (inV x xs)) H) : rIn K false x (.ref p) H Q := ⟨p, xs, rfl, .inl h, hx, ha, q⟩
theorem w_inT {K : PySem.W.Frag} {H : Hp} {Q : VK} {x : V} {p : Addr} {xs : List V} (h : SqT K H p xs) (hx : flatV x = true) (ha : xs.all flatV = true) (q : Q (.bl (inV x xs)) H) : rIn K false x (.ref p) H Q := ⟨p, xs, rfl, .inr h, hx, ha, q⟩
theorem op_inK {X : Cx} (K : PySem.W.Frag) (e : X.K = K := by rfl) : OpR X (compareOp .In) (rIn K false) := by subst e; exact op_in_seq
theorem w_niL {K : PySem.W.Frag} {H : Hp} {Q : VK} {x : V} {p : Addr} {xs : List V} (h : SqL K H p xs) (hx : flatV x = true) (ha : xs.all flatV = true) (q : Q (.bl (!inV x xs)) H) : rIn K true x (.ref p) H Q := ⟨p, xs, rfl, .inl h, hx, ha, q⟩
theorem w_niT {K : PySem.W.Frag} {H : Hp} {Q : VK} {x : V} {p : Addr} {xs : List V} (h : SqT K H p xs) (hx : flatV x = true) (ha : xs.all flatV = true) (q : Q (.bl (!inV x xs)) H) : rIn K true x (.ref p) H Q := ⟨p, xs, rfl, .inr h, hx, ha, q⟩
theorem op_niK {X : Cx} (K : PySem.W.Frag) (e : X.K = K := by rfl) : OpR X (compareOp .NotIn) (rIn K true) := by subst e; exact op_notIn_seq
end Dpr

namespace Dpr
open PySem PySem.Spec PyProof.Rows L2
/-! ### rows of gates -/
inductive Bop where
  | and | or | xor
  deriving DecidableEq
inductive Row where
  | fix (b : Int) | inn (n : Str) (k : Nat) | inv (a : Nat) | bin (o : Bop) (a b : Nat) | lat (a : Nat)
  deriving DecidableEq
def bopS : Bop → Str
  | .and => "and" | .or => "or" | .xor => "xor"
def rowV : Row → List V
  | .fix b => [.str "fix", .int b]
  | .inn n k => [.str "in", .str n, .int (k : Int)]
  | .inv a => [.str "not", .int (a : Int)]
  | .bin o a b => [.str (bopS o), .int (a : Int), .int (b : Int)]
  | .lat a => [.str "latch", .int (a : Int)]
def RowAt (H : Hp) (p : Addr) (r : Row) : Prop := H p = some (.tup (rowV r))
/-- a list of rows that may be read -/
def RowsL (K : PySem.W.Frag) (H : Hp) (a : Addr) (rs : List Row) : Prop := ∃ ps : List Addr, SqL K H a (ps.map V.ref) ∧ A2 (RowAt H) ps rs
/-- one of our own, that may change -/
def RowsM (H : Hp) (a : Addr) (rs : List Row) : Prop := ∃ ps : List Addr, H a = some (.lst (ps.map V.ref)) ∧ A2 (RowAt H) ps rs
theorem RowsL.same {K : PySem.W.Frag} {H H' : Hp} {a : Addr} {rs : List Row} (s : Same H H') (h : RowsL K H a rs) : RowsL K H' a rs := by
  obtain ⟨ps, h1, h2⟩ := h
  exact ⟨ps, s.seq h1, h2.mono fun p r e => s _ _ e⟩
theorem RowsM.same {H H' : Hp} {a : Addr} {rs : List Row} (s : Same H H') (h : RowsM H a rs) : RowsM H' a rs := by
  obtain ⟨ps, h1, h2⟩ := h
  exact ⟨ps, s _ _ h1, h2.mono fun p r e => s _ _ e⟩
theorem RowsM.read {K : PySem.W.Frag} {H : Hp} {a : Addr} {rs : List Row} (h : RowsM H a rs) : RowsL K H a rs := by
  obtain ⟨ps, h1, h2⟩ := h
  exact ⟨ps, SqL.of h1, h2⟩
/-! numbers by names -/
def wkv (ws : List (Str × Int)) : List (Key × V) := ws.map fun p => (Sum.inr p.1, V.int p.2)
def lookW (ws : List (Str × Int)) (n : Str) : Option Int := (ws.find? fun p => decide (p.1 = n)).map (·.2)
theorem valV_wkv (n : Str) : ∀ ws : List (Str × Int), valV (wkv ws) (Sum.inr n) = (lookW ws n).map V.int
  | [] => rfl
  | p :: r => by
    have ih := valV_wkv n r
    by_cases e : p.1 = n
    · rw [show wkv (p :: r) = (Sum.inr p.1, V.int p.2) :: wkv r from rfl, valV_pos (by rw [e])]
      unfold lookW
      rw [List.find?_cons_of_pos (by simpa using e)]
      rfl
    · rw [show wkv (p :: r) = (Sum.inr p.1, V.int p.2) :: wkv r from rfl, valV_neg (fun z => e (Sum.inr.inj z)), ih]
      unfold lookW
      rw [List.find?_cons_of_neg (by simpa using e)]
theorem lookW_hit {n : Str} {v : Int} {ws : List (Str × Int)} : lookW ((n, v) :: ws) n = some v := by
  unfold lookW
  rw [List.find?_cons_of_pos (by simp)]
  rfl
theorem lookW_skip {m n : Str} {v : Int} {ws : List (Str × Int)} (h : decide (m = n) = false) : lookW ((m, v) :: ws) n = lookW ws n := by
  unfold lookW
  rw [List.find?_cons_of_neg (by simpa using h)]
/-! what a gate tells -/
def bopI (o : Bop) (x y : Int) : Int := match o with
  | .and => x * y
  | .or => x + y - x * y
  | .xor => (x + y) % 2
def gateI (ws : List (Str × Int)) (bits : List Int) : Row → Int
  | .fix b => b
  | .inn n k => (lookW ws n).getD 0 / 2 ^ k % 2
  | .inv a => 1 - bits.getD a 0
  | .bin o a b => bopI o (bits.getD a 0) (bits.getD b 0)
  | .lat _ => 0
def is01 (x : Int) : Prop := x = 0 ∨ x = 1
def RowOk (N : Str → Prop) (n : Nat) : Row → Prop
  | .fix b => is01 b
  | .inn m k => N m ∧ k < 64
  | .inv a => a < n
  | .bin _ a b => a < n ∧ b < n
  | .lat a => a < n
def noLat : Row → Prop
  | .lat _ => False
  | _ => True
def RowsOk (N : Str → Prop) (rs : List Row) : Prop := ∀ (i : Nat) r, rs[i]? = some r → RowOk N i r
def NoLats (rs : List Row) : Prop := ∀ r ∈ rs, noLat r
/-- all names have numbers -/
def Has (N : Str → Prop) (ws : List (Str × Int)) : Prop := ∀ n, N n → ∃ v, lookW ws n = some v
def toldL (ws : List (Str × Int)) (rs : List Row) : List Int := rs.foldl (fun bits r => bits ++ [gateI ws bits r]) []
theorem toldL_snoc (ws : List (Str × Int)) (rs : List Row) (r : Row) : toldL ws (rs ++ [r]) = toldL ws rs ++ [gateI ws (toldL ws rs) r] := by
  unfold toldL
  rw [List.foldl_append]
  rfl
theorem take_snoc {α : Type} {xs : List α} {i : Nat} {x : α} (h : xs[i]? = some x) : xs.take (i + 1) = xs.take i ++ [x] := by
  rw [List.take_add_one, h]
  rfl
theorem toldL_len (ws : List (Str × Int)) (rs : List Row) : (toldL ws rs).length = rs.length := by
  have key : ∀ (rs : List Row) (acc : List Int), (rs.foldl (fun bits r => bits ++ [gateI ws bits r]) acc).length = acc.length + rs.length := by
    intro rs
    induction rs with
    | nil => intro acc; rfl
    | cons r rs ih =>
      intro acc
      rw [List.foldl_cons, ih, List.length_append, List.length_singleton, List.length_cons]
      omega
  unfold toldL
  rw [key]
  exact Nat.zero_add _
def All01 (bs : List Int) : Prop := ∀ x ∈ bs, is01 x
theorem all01_get {bs : List Int} (h : All01 bs) (i : Nat) : is01 (bs.getD i 0) := by
  rw [List.getD_eq_getElem?_getD]
  cases e : bs[i]? with
  | none => exact .inl rfl
  | some x => exact h x (List.mem_of_getElem? e)
theorem bopI_01 (o : Bop) {x y : Int} (hx : is01 x) (hy : is01 y) : is01 (bopI o x y) := by
  unfold is01 at *
  cases o <;> unfold bopI <;> rcases hx with rfl | rfl <;> rcases hy with rfl | rfl <;> decide
theorem gateI_01 {N : Str → Prop} {n : Nat} {r : Row} (ws : List (Str × Int)) {bs : List Int} (h : All01 bs) (ok : RowOk N n r) : is01 (gateI ws bs r) := by
  cases r with
  | fix b => exact ok
  | inn m k =>
    show (lookW ws m).getD 0 / 2 ^ k % 2 = 0 ∨ (lookW ws m).getD 0 / 2 ^ k % 2 = 1
    omega
  | inv a =>
    have q : bs.getD a 0 = 0 ∨ bs.getD a 0 = 1 := all01_get h a
    show 1 - bs.getD a 0 = 0 ∨ 1 - bs.getD a 0 = 1
    omega
  | bin o a b => exact bopI_01 o (all01_get h a) (all01_get h b)
  | lat a => exact .inl rfl
theorem toldL_01 {N : Str → Prop} (ws : List (Str × Int)) {rs : List Row} (ok : RowsOk N rs) : ∀ i, All01 (toldL ws (rs.take i))
  | 0 => fun x hx => by cases hx
  | i + 1 => by
    have ih := toldL_01 ws ok i
    cases e : rs[i]? with
    | none =>
      have : rs.take (i + 1) = rs.take i := by rw [List.take_add_one, e]; exact List.append_nil _
      rw [this]
      exact ih
    | some r =>
      rw [take_snoc e, toldL_snoc]
      intro x hx
      rcases List.mem_append.mp hx with q | q
      · exact ih x q
      · rw [List.mem_singleton.mp q]
        exact gateI_01 ws ih (ok i r e)
/-- a bit by its place -/
theorem bit_get {bs : List Int} {a : Nat} (h : a < bs.length) : atI (bs.map V.int) (a : Int) = some (.int (bs.getD a 0)) := by
  rw [get_int h, List.getD_eq_getElem?_getD, List.getElem?_eq_getElem h]
  rfl
/-! rows that are put -/
theorem rowAt_upd {H : Hp} {a p : Addr} {xs ys : List V} {r : Row} (h : H a = some (.lst xs)) (hp : RowAt H p r) : RowAt (upd H a (.lst ys)) p r := by
  have ne : p ≠ a := fun e => by
    rw [e] at hp
    exact absurd (hp.symm.trans h) (fun z => by cases z)
  show upd H a (.lst ys) p = _
  rw [upd_ne ne]
  exact hp
theorem RowsM.push {H : Hp} {a p : Addr} {rs : List Row} {r : Row} {ps : List Addr} (h : H a = some (.lst (ps.map V.ref))) (hA : A2 (RowAt H) ps rs) (hp : RowAt H p r) : RowsM (upd H a (.lst (ps.map V.ref ++ [.ref p]))) a (rs ++ [r]) :=
  ⟨ps ++ [p], by rw [upd_same, List.map_append]; rfl, (hA.mono fun _ _ e => rowAt_upd h e).snoc (rowAt_upd h hp)⟩
theorem RowsM.upd {H : Hp} {a b : Addr} {rs : List Row} {xs ys : List V} (ne : a ≠ b) (h : H b = some (.lst xs)) (hr : RowsM H a rs) : RowsM (upd H b (.lst ys)) a rs := by
  obtain ⟨ps, h1, h2⟩ := hr
  exact ⟨ps, by rw [upd_ne ne]; exact h1, h2.mono fun _ _ e => rowAt_upd h e⟩
theorem RowsM.len {H : Hp} {a : Addr} {rs : List Row} (h : RowsM H a rs) : ∃ ps : List Addr, H a = some (.lst (ps.map V.ref)) ∧ A2 (RowAt H) ps rs ∧ ps.length = rs.length := by
  obtain ⟨ps, h1, h2⟩ := h
  exact ⟨ps, h1, h2, h2.1⟩
theorem RowsOk.snoc {N : Str → Prop} {rs : List Row} {r : Row} (h : RowsOk N rs) (k : RowOk N rs.length r) : RowsOk N (rs ++ [r]) := by
  intro i x hx
  rcases Nat.lt_trichotomy i rs.length with q | q | q
  · rw [List.getElem?_append_left q] at hx
    exact h i x hx
  · subst q
    rw [List.getElem?_append_right (Nat.le_refl _), Nat.sub_self] at hx
    cases hx
    exact k
  · rw [List.getElem?_eq_none (by rw [List.length_append]; exact q)] at hx
    cases hx
theorem NoLats.snoc {rs : List Row} {r : Row} (h : NoLats rs) (k : noLat r) : NoLats (rs ++ [r]) := by
  intro x hx
  rcases List.mem_append.mp hx with q | q
  · exact h x q
  · rw [List.mem_singleton.mp q]
    exact k
/-! rows as data -/
def rowD : Row → PyData
  | .fix b => .tuple [.str "fix", .int b]
  | .inn n k => .tuple [.str "in", .str n, .int (k : Int)]
  | .inv a => .tuple [.str "not", .int (a : Int)]
  | .bin o a b => .tuple [.str (bopS o), .int (a : Int), .int (b : Int)]
  | .lat a => .tuple [.str "latch", .int (a : Int)]
theorem dp_row {K : PySem.W.Frag} {H : Hp} {p : Addr} {r : Row} (h : RowAt H p r) : Dp K H (.ref p) (rowD r) := by
  cases r with
  | fix b => exact .tup (SqT.of h) (.cons (.str _) (.cons (.int _) .nil))
  | inn n k => exact .tup (SqT.of h) (.cons (.str _) (.cons (.str _) (.cons (.int _) .nil)))
  | inv a => exact .tup (SqT.of h) (.cons (.str _) (.cons (.int _) .nil))
  | bin o a b => exact .tup (SqT.of h) (.cons (.str _) (.cons (.int _) (.cons (.int _) .nil)))
  | lat a => exact .tup (SqT.of h) (.cons (.str _) (.cons (.int _) .nil))
theorem A2.tail {α β : Type} {R : α → β → Prop} {x : α} {y : β} {xs : List α} {ys : List β} (h : A2 R (x :: xs) (y :: ys)) : R x y ∧ A2 R xs ys :=
  ⟨h.2 0 x y rfl rfl, by have := h.1; simp only [List.length_cons] at this; omega, fun i u v hu hv => h.2 (i + 1) u v hu hv⟩
theorem dp_rows {K : PySem.W.Frag} {H : Hp} : ∀ {ps : List Addr} {rs : List Row}, A2 (RowAt H) ps rs → DpAll K H (ps.map V.ref) (rs.map rowD)
  | [], [], _ => .nil
  | [], _ :: _, h => by have := h.1; simp at this
  | _ :: _, [], h => by have := h.1; simp at this
  | p :: ps, r :: rs, h => .cons (dp_row h.tail.1) (dp_rows h.tail.2)
def NmOk (r : Row) : Prop := match r with
  | .inn n _ => PyData.strOk n = true
  | _ => True
theorem lay_row {r : Row} (h : NmOk r) : PyData.canLay0 (rowD r) = true := by
  cases r with
  | fix b =>
    show (PyData.strOk "fix" && (true && true)) = true
    decide +kernel
  | inn n k =>
    show (PyData.strOk "in" && (PyData.strOk n && (true && true))) = true
    rw [show PyData.strOk n = true from h]
    decide +kernel
  | inv a =>
    show (PyData.strOk "not" && (true && true)) = true
    decide +kernel
  | bin o a b =>
    show (PyData.strOk (bopS o) && (true && (true && true))) = true
    cases o <;> decide +kernel
  | lat a =>
    show (PyData.strOk "latch" && (true && true)) = true
    decide +kernel
theorem lay_rows : ∀ {rs : List Row}, (∀ r ∈ rs, NmOk r) → PyData.canLayAll0 (rs.map rowD) = true
  | [], _ => rfl
  | r :: rs, h => by
    show (PyData.canLay0 (rowD r) && PyData.canLayAll0 (rs.map rowD)) = true
    rw [lay_row (h r (List.mem_cons_self ..)), lay_rows fun x hx => h x (List.mem_cons_of_mem _ hx)]
    rfl
theorem depth_row (r : Row) : PyData.depth (rowD r) ≤ 1 := by
  cases r <;> exact Nat.le_of_ble_eq_true rfl
theorem depth_rows : ∀ rs : List Row, PyData.depthAll (rs.map rowD) ≤ 1
  | [] => Nat.zero_le 1
  | r :: rs => Nat.max_le.mpr ⟨depth_row r, depth_rows rs⟩
theorem shaped_rows {rs : List Row} (h : ∀ r ∈ rs, NmOk r) : SeqAt.shaped (.list (rs.map rowD)) = true := by
  unfold SeqAt.shaped
  rw [show PyData.canLay0 (.list (rs.map rowD)) = true from lay_rows h, Bool.true_and]
  have := depth_rows rs
  exact decide_eq_true (show PyData.depthAll (rs.map rowD) + 1 ≤ 64 by omega)
/-! dicts of numbers compared, copied -/
theorem flat_wkv (ws : List (Str × Int)) : ∀ p ∈ wkv ws, flatB p.2 = true := by
  intro p hp
  obtain ⟨q, _, rfl⟩ := List.mem_map.mp hp
  rfl
theorem valV_self : ∀ {ws : List (Str × Int)}, (ws.map (·.1)).Nodup → ∀ p ∈ wkv ws, valV (wkv ws) p.1 = some p.2
  | [], _, p, hp => by cases hp
  | q :: r, h, p, hp => by
    obtain ⟨h1, h2⟩ := List.nodup_cons.mp (show (q.1 :: r.map (·.1)).Nodup from h)
    rcases List.mem_cons.mp hp with e | e
    · rw [e]
      exact valV_pos rfl
    · have ih := valV_self h2 p e
      obtain ⟨z, hz, rfl⟩ := List.mem_map.mp e
      have ne : ¬ q.1 = z.1 := fun w => h1 (by rw [w]; exact List.mem_map.mpr ⟨z, hz, rfl⟩)
      rw [show wkv (q :: r) = (Sum.inr q.1, V.int q.2) :: wkv r from rfl, valV_neg (fun w => ne (Sum.inr.inj w))]
      exact ih
theorem w_eqDict {H : Hp} {Q : VK} {a b : Addr} {ws : List (Str × Int)} (h1 : H a = some (.dK (wkv ws))) (h2 : H b = some (.dK (wkv ws))) (nd : (ws.map (·.1)).Nodup) (q : Q (.bl true) H) : rEqDA (.ref a) (.ref b) H Q :=
  ⟨a, b, _, _, rfl, rfl, h1, h2, rfl, fun p hp => ⟨valV_self nd p hp, flat_wkv ws p hp⟩, q⟩
theorem w_neDict {H : Hp} {Q : VK} {a b : Addr} {ws : List (Str × Int)} (h1 : H a = some (.dK (wkv ws))) (h2 : H b = some (.dK (wkv ws))) (nd : (ws.map (·.1)).Nodup) (q : Q (.bl false) H) : rNeDA (.ref a) (.ref b) H Q :=
  ⟨a, b, _, _, rfl, rfl, h1, h2, rfl, fun p hp => ⟨valV_self nd p hp, flat_wkv ws p hp⟩, q⟩
def rDictD : List V → Hp → VK → Prop := fun xs H Q => ∃ (a : Addr) (kvs : List (Key × V)), xs = [.ref a] ∧ Rd H a (.dK kvs) ∧ ∀ p, H p = none → Q (.ref p) (upd H p (.dK kvs))
theorem c_dictD {X : Cx} : CallR X (.type "dict") rDictD := call_dictD
theorem w_dictD {H : Hp} {Q : VK} {a : Addr} {kvs : List (Key × V)} (h : H a = some (.dK kvs)) (q : ∀ p H', H p = none → Same H H' → H' p = some (.dK kvs) → Q (.ref p) H') : rDictD [.ref a] H Q :=
  ⟨a, kvs, rfl, .inl h, fun p hp => q p _ hp (same_upd hp) upd_same⟩
/-! a written dict -/
def DspE (p : Addr) (Q : VK) (ps : List (V × V)) (H2 : Hp) : Prop := H2 p = some (.dK []) ∧ ∃ kvs : List (Key × V), ps = kvs.map (fun kv => (kV kv.1, kv.2)) ∧ kvs.length ≤ 15 ∧ Q (.ref p) (upd H2 p (.dK (mergeK [] kvs)))
theorem w_disp {σ : L2.St} {H : Hp} {Q : VK} {trs : List (TE × TE)} (h : ∀ p H', H p = none → Same H H' → H' p = some (.dK []) → tPairs trs σ H' fun ps H2 => DspE p Q ps H2) : tDisp trs σ H Q := fun p hp => h p _ hp (same_upd hp) upd_same
theorem w_pairs {σ : L2.St} {H : Hp} {tk tv : TE} {r : List (TE × TE)} {R : List (V × V) → Hp → Prop} (h : tk σ H fun x H1 => tv σ H1 fun y H2 => tPairs r σ H2 fun ps H3 => R ((x, y) :: ps) H3) : tPairs ((tk, tv) :: r) σ H R := h
theorem w_pairs0 {σ : L2.St} {H : Hp} {R : List (V × V) → Hp → Prop} (h : R [] H) : tPairs [] σ H R := h
theorem w_DspE {p : Addr} {Q : VK} {ps : List (V × V)} {H2 : Hp} (ws : List (Str × Int)) (nd : (ws.map (·.1)).Nodup) (e : H2 p = some (.dK [])) (ep : ps = (wkv ws).map (fun kv => (kV kv.1, kv.2))) (hl : ws.length ≤ 15) (q : ∀ H', H' p = some (.dK (wkv ws)) → (∀ H0, Same H0 H2 → H0 p = none → Same H0 H') → Q (.ref p) H') : DspE p Q ps H2 := by
  refine ⟨e, wkv ws, ep, by rw [wkv, List.length_map]; exact hl, ?_⟩
  have key : ∀ (r acc : List (Str × Int)), ((acc ++ r).map (·.1)).Nodup → mergeK (wkv acc) (wkv r) = wkv (acc ++ r) := by
    intro r
    induction r with
    | nil => intro acc _; rw [List.append_nil]; rfl
    | cons z r ih =>
      intro acc hn
      have hz : valV (wkv acc) (Sum.inr z.1) = none := by
        cases g : valV (wkv acc) (Sum.inr z.1) with
        | none => rfl
        | some v =>
          have m := valV_in g
          obtain ⟨u, hu, eu⟩ := List.mem_map.mp m
          obtain ⟨t, ht, rfl⟩ := List.mem_map.mp hu
          have e1 : t.1 = z.1 := Sum.inr.inj eu
          rw [List.map_append, List.map_cons] at hn
          have d := (List.nodup_append.mp hn).2.2 t.1 (List.mem_map.mpr ⟨t, ht, rfl⟩) z.1 (List.mem_cons_self ..)
          exact absurd e1 d
      show mergeK (putK (wkv acc) (Sum.inr z.1) (V.int z.2)) (wkv r) = _
      rw [putK_new _ hz]
      have e2 : wkv acc ++ [((Sum.inr z.1 : Key), V.int z.2)] = wkv (acc ++ [z]) := by
        unfold wkv
        rw [List.map_append]
        rfl
      rw [e2, ih (acc ++ [z]) (by rw [List.append_assoc]; exact hn), List.append_assoc]
      rfl
  have := key ws [] nd
  rw [show mergeK [] (wkv ws) = wkv ws from this]
  exact q _ upd_same fun H0 s n => same_mut s n
end Dpr

namespace Dpr
open PySem PySem.Spec PyProof.Rows L2
/-! a number put by its name -/
def putW (ws : List (Str × Int)) (n : Str) (v : Int) : List (Str × Int) :=
  if (ws.any fun kv => decide (kv.1 = n)) = true then ws.map (fun kv => if kv.1 = n then (kv.1, v) else kv) else ws ++ [(n, v)]
theorem put_wkv (ws : List (Str × Int)) (n : Str) (v : Int) : putK (wkv ws) (Sum.inr n) (V.int v) = wkv (putW ws n v) := by
  have e : ((wkv ws).any fun kv => decide (kv.1 = (Sum.inr n : Key))) = (ws.any fun kv => decide (kv.1 = n)) := by
    induction ws with
    | nil => rfl
    | cons p r ih =>
      show (decide ((Sum.inr p.1 : Key) = Sum.inr n) || (wkv r).any _) = (decide (p.1 = n) || r.any _)
      rw [ih]
      by_cases e : p.1 = n
      · rw [decide_eq_true e, decide_eq_true (by rw [e])]
      · rw [decide_eq_false e, decide_eq_false (fun z => e (Sum.inr.inj z))]
  unfold putK putW
  rw [e]
  split
  · unfold wkv
    rw [List.map_map, List.map_map]
    refine List.map_congr_left fun p _ => ?_
    show (if (Sum.inr p.1 : Key) = Sum.inr n then ((Sum.inr p.1 : Key), V.int v) else (Sum.inr p.1, V.int p.2)) = _
    by_cases e : p.1 = n
    · rw [if_pos (by rw [e])]
      show _ = (Sum.inr (if p.1 = n then (p.1, v) else p).1, V.int (if p.1 = n then (p.1, v) else p).2)
      rw [if_pos e]
    · rw [if_neg (fun z => e (Sum.inr.inj z))]
      show _ = (Sum.inr (if p.1 = n then (p.1, v) else p).1, V.int (if p.1 = n then (p.1, v) else p).2)
      rw [if_neg e]
  · unfold wkv
    rw [List.map_append]
    rfl
theorem putW_len (ws : List (Str × Int)) (n : Str) (v : Int) : (putW ws n v).length ≤ ws.length + 1 := by
  unfold putW
  split
  · rw [List.length_map]; omega
  · rw [List.length_append, List.length_cons, List.length_nil]; omega
theorem look_put (ws : List (Str × Int)) (n m : Str) (v : Int) : lookW (putW ws n v) m = if m = n then some v else lookW ws m := by
  have e := valV_wkv m (putW ws n v)
  rw [← put_wkv, valV_put, valV_wkv] at e
  by_cases h : m = n
  · rw [if_pos h]
    rw [if_pos (by rw [h])] at e
    cases g : lookW (putW ws n v) m with
    | none => rw [g] at e; cases e
    | some x => rw [g] at e; cases e; rfl
  · rw [if_neg h]
    rw [if_neg (fun z => h (Sum.inr.inj z))] at e
    cases g : lookW (putW ws n v) m with
    | none =>
      rw [g] at e
      cases g2 : lookW ws m with
      | none => rfl
      | some x => rw [g2] at e; cases e
    | some x =>
      rw [g] at e
      cases g2 : lookW ws m with
      | none => rw [g2] at e; cases e
      | some y => rw [g2] at e; cases e; rfl
theorem putW_keys {ws : List (Str × Int)} {n : Str} {v : Int} (h : (ws.any fun kv => decide (kv.1 = n)) = true) : (putW ws n v).map (·.1) = ws.map (·.1) := by
  unfold putW
  rw [if_pos h, List.map_map]
  refine List.map_congr_left fun p _ => ?_
  show (if p.1 = n then (p.1, v) else p).1 = p.1
  split <;> rfl
theorem putW_nodup {ws : List (Str × Int)} (n : Str) (v : Int) (h : (ws.map (·.1)).Nodup) : ((putW ws n v).map (·.1)).Nodup := by
  by_cases e : (ws.any fun kv => decide (kv.1 = n)) = true
  · rw [putW_keys e]
    exact h
  · unfold putW
    rw [if_neg e, List.map_append]
    refine List.nodup_append.mpr ⟨h, List.nodup_cons.mpr ⟨(fun z => by cases z), List.nodup_nil⟩, fun x hx y hy z => ?_⟩
    rw [List.mem_singleton.mp hy] at z
    obtain ⟨p, hp, ep⟩ := List.mem_map.mp hx
    exact e (List.any_eq_true.mpr ⟨p, hp, decide_eq_true (ep.trans z)⟩)
/-- names whose numbers are known -/
theorem has_put {N : Str → Prop} {ws : List (Str × Int)} {n : Str} {v : Int} (h : Has N ws) : Has (fun m => m = n ∨ N m) (putW ws n v) := by
  intro m hm
  rw [look_put]
  by_cases e : m = n
  · exact ⟨v, if_pos e⟩
  · rw [if_neg e]
    exact h m (hm.resolve_left e)
theorem Has.mono {N M : Str → Prop} {ws : List (Str × Int)} (h : Has N ws) (k : ∀ n, M n → N n) : Has M ws := fun n hn => h n (k n hn)
theorem has_keep {N : Str → Prop} {ws : List (Str × Int)} {n : Str} {v : Int} (h : Has N ws) : Has N (putW ws n v) := (has_put h).mono fun _ h => .inr h
def DPutB (D : Ends) (σ : L2.St) (v x y : V) (H3 : Hp) : Prop := ∃ a H4, x = .ref a ∧ DPut H3 a y v H4 ∧ D.nx σ H4
theorem w_dput {D : Ends} {σ : L2.St} {H : Hp} {td ty tv : TE} (h : tv σ H fun v H1 => td σ H1 fun x H2 => ty σ H2 fun y H3 => DPutB D σ v x y H3) : sDPut td ty tv D σ H := h
theorem w_DPutB {D : Ends} {σ : L2.St} {H : Hp} {a : Addr} {ws : List (Str × Int)} {n : Str} {v : Int} (h : H a = some (.dK (wkv ws))) (hl : ws.length ≤ 1000) (q : D.nx σ (upd H a (.dK (wkv (putW ws n v))))) : DPutB D σ (.int v) (.ref a) (.str n) H :=
  ⟨a, _, rfl, .k (k := Sum.inr n) h (by rw [wkv, List.length_map]; exact Nat.lt_of_le_of_lt hl (by rw [sizeLine_eq]; decide)), by rw [put_wkv]; exact q⟩
def rInsert : V → List V → Hp → VK → Prop := fun x vs H Q => ∃ (l : Addr) (xs : List V) (i : Int) (y : V), x = .ref l ∧ vs = [.int i, y] ∧ H l = some (.lst xs) ∧ xs.length < sizeLine ∧ 0 ≤ i ∧ i < 2 ^ 63 ∧ Q .non (upd H l (.lst (xs.take i.toNat ++ [y] ++ xs.drop i.toNat)))
theorem mt_ins0 {X : Cx} : MtR X "list.insert" rInsert := mt_insert
theorem w_insert {H : Hp} {Q : VK} {p : Addr} {xs : List V} {y : V} {i : Int} (e : H p = some (.lst xs)) (hz : xs.length ≤ 1000000) (hi : 0 ≤ i ∧ i ≤ 1000000) (q : Q .non (upd H p (.lst (xs.take i.toNat ++ [y] ++ xs.drop i.toNat)))) : rInsert (.ref p) [.int i, y] H Q :=
  ⟨p, xs, i, y, rfl, rfl, e, Nat.lt_of_le_of_lt hz (by rw [sizeLine_eq]; decide), hi.1, by omega, q⟩
theorem w_dnewK {σ : L2.St} {H : Hp} {Q : VK} (h : ∀ p H', H p = none → Same H H' → H' p = some (.dK (wkv [])) → Q (.ref p) H') : tDNewK σ H Q := fun p hp => h p _ hp (same_upd hp) upd_same
end Dpr

namespace Dpr
open PySem PySem.Spec PyProof.Rows L2
def RevB (R : It → Hp → Prop) (a b : Int) (H1 : Hp) : Prop := -(2 ^ 62) ≤ a ∧ a < 2 ^ 62 ∧ -(2 ^ 62) ≤ b ∧ b < 2 ^ 62 ∧ R (Itc (a + (((b - a).toNat : Nat) : Int) - 1) (-1) (b - a).toNat) H1
def RG1 (R : Int → Int → Hp → Prop) (x : V) (H1 : Hp) : Prop := ∃ i, x = .int i ∧ R 0 i H1
theorem w_revR {σ : L2.St} {H : Hp} {R : It → Hp → Prop} {tr : L2.St → Hp → (Int → Int → Hp → Prop) → Prop} (h : tr σ H (RevB R)) : iRevR tr σ H R := h
theorem w_rg1 {σ : L2.St} {H : Hp} {R : Int → Int → Hp → Prop} {ta : TE} (h : ta σ H (RG1 R)) : tRg1 ta σ H R := h
theorem w_RG1 {R : Int → Int → Hp → Prop} {b : Int} {H : Hp} (q : R 0 b H) : RG1 R (.int b) H := ⟨b, rfl, q⟩
theorem w_RevB {R : It → Hp → Prop} {a b : Int} {H : Hp} (h : -1000000 ≤ a ∧ a ≤ 1000000 ∧ -1000000 ≤ b ∧ b ≤ 1000000) (q : R (Itc (a + (((b - a).toNat : Nat) : Int) - 1) (-1) (b - a).toNat) H) : RevB R a b H := ⟨by omega, by omega, by omega, by omega, q⟩
theorem for_rc {lo c : Int} {n j : Nat} {t : TS} {D : Ends} {σ : L2.St} {H : Hp} (Pv : Nat → L2.St → Hp → Prop) (h0 : Pv 0 σ H)
    (hs : ∀ (i : Nat) σ' H', i < n → Pv i σ' H' → t { D with nx := Pv (i + 1), ct := Pv (i + 1), bk := D.nx } (σ'.set j (some (.int (lo + (i : Nat) * c)))) H') (hd : ∀ σ' H', Pv n σ' H' → D.nx σ' H') : ForB (Itc lo c n) (gName j) t D σ H :=
  for_rangeC Pv h0 hs hd
end Dpr

namespace Dpr
open PySem PySem.Spec PyProof.Rows L2
/-! objects of the program's classes -/
def IsC (K : PySem.W.Frag) (c : Str) (C : Addr) : Prop := PySem.W.nsIn K mainGlobals c = some (some (.ref C))
theorem IsC.one {K : PySem.W.Frag} {c : Str} {C D : Addr} (h : IsC K c C) (k : IsC K c D) : C = D := by
  unfold IsC at h k
  rw [h] at k
  cases k
  rfl
theorem lookup_hd {f : Str} {v : V} {r : List (Str × V)} : ((f, v) :: r).lookup f = some v := List.lookup_cons_self ..
theorem lookup_tl {f g : Str} {v : V} {r : List (Str × V)} {o : Option V} (h : (f == g) = false) (k : r.lookup f = o) : ((g, v) :: r).lookup f = o := by
  rw [List.lookup_cons, h]
  exact k
theorem lookup_no {f : Str} : ([] : List (Str × V)).lookup f = none := rfl
section
variable {K : PySem.W.Frag} {σ : L2.St} {H : Hp} {Q : VK} {D : Ends} {ta tv : TE} {t : TA} {f m : Str}
def FldB (K : PySem.W.Frag) (f : Str) (Q : VK) (x : V) (H1 : Hp) : Prop := ∃ a C dx fs v, x = .ref a ∧ H1 a = some (.ins C dx fs) ∧ Cls K C ∧ NoAttr K C f ∧ fs.lookup f = some v ∧ Q v H1
theorem w_fld (h : ta σ H (FldB K f Q)) : tFld K ta f σ H Q := h
theorem w_FldB {a C dx : Addr} {fs : List (Str × V)} {v : V} (h : H a = some (.ins C dx fs)) (c : Cls K C) (n : NoAttr K C f) (e : fs.lookup f = some v) (q : Q v H) : FldB K f Q (.ref a) H := ⟨a, C, dx, fs, v, rfl, h, c, n, e, q⟩
def SFldB (K : PySem.W.Frag) (f : Str) (D : Ends) (σ : L2.St) (y x : V) (H2 : Hp) : Prop := ∃ a C dx fs, x = .ref a ∧ H2 a = some (.ins C dx fs) ∧ Cls K C ∧ NoAttr K C f ∧ fs.length < 1000 ∧ D.nx σ (upd H2 a (.ins C dx (putF f y fs)))
theorem w_sfld (h : tv σ H fun y H1 => ta σ H1 fun x H2 => SFldB K f D σ y x H2) : sFld K ta tv f D σ H := h
theorem w_SFldB {a C dx : Addr} {fs : List (Str × V)} {y : V} (h : H a = some (.ins C dx fs)) (c : Cls K C) (n : NoAttr K C f) (l : fs.length < 1000) (q : D.nx σ (upd H a (.ins C dx (putF f y fs)))) : SFldB K f D σ y (.ref a) H := ⟨a, C, dx, fs, rfl, h, c, n, l, q⟩
def MethB (C : Addr) (m : Str) (sp : Sp) (dvs : List V) (E : XK) (t : TA) (σ : L2.St) (Q : VK) (x : V) (H1 : Hp) : Prop := ∃ a dx fs, x = .ref a ∧ H1 a = some (.ins C dx fs) ∧ fs.lookup m = none ∧ t σ H1 fun vs H2 => sp (x :: (vs ++ dvs)) H2 Q E
theorem w_meth {C : Addr} {sp : Sp} {dvs : List V} {E : XK} (h : ta σ H (MethB C m sp dvs E t σ Q)) : tMeth C m sp dvs E ta t σ H Q := h
theorem w_MethB {C a dx : Addr} {fs : List (Str × V)} {sp : Sp} {dvs : List V} {E : XK} (h : H a = some (.ins C dx fs)) (e : fs.lookup m = none) (q : t σ H fun vs H2 => sp (.ref a :: (vs ++ dvs)) H2 Q E) : MethB C m sp dvs E t σ Q (.ref a) H := ⟨a, dx, fs, rfl, h, e, q⟩
theorem w_make {C : Addr} {sp : Sp} {dvs : List V} {E : XK} (h : t σ H fun vs H1 => ∀ x dx, H1 x = none → H1 dx = none → dx ≠ x → sp (.ref x :: (vs ++ dvs)) (upd (upd H1 dx (.own x)) x (.ins C dx [])) (fun v H2 => v = .non ∧ Q (.ref x) H2) E) : tMake C sp dvs E t σ H Q := h
end
/-- a sheet, its rows at r -/
def SheetAt (K : PySem.W.Frag) (H : Hp) (s r : Addr) : Prop := ∃ C dx, H s = some (.ins C dx [("rows", .ref r)]) ∧ IsC K "Sheet" C
end Dpr

namespace Dpr
open PySem PySem.Spec PyProof.Rows L2
def topS (i : Nat) : Stmt := PySem.Challenge.pw_dotpress_k08_sheets_of_rows.main.body.getD i (.Pass ⟨0, 0, 0, 0⟩)
abbrev s_Sheet__init : Stmt := inClass (topS 1) 0
theorem sc_Sheet__init : FnScope ["self"] ["self"] (defScope s_Sheet__init) := ⟨rfl, rfl, rfl, by decide +kernel, rfl, by decide +kernel, by decide +kernel⟩
abbrev s_Sheet_add : Stmt := inClass (topS 1) 1
theorem sc_Sheet_add : FnScope ["self", "row"] ["self", "row"] (defScope s_Sheet_add) := ⟨rfl, rfl, rfl, by decide +kernel, rfl, by decide +kernel, by decide +kernel⟩
abbrev s_Sheet_rows_now : Stmt := inClass (topS 1) 2
theorem sc_Sheet_rows_now : FnScope ["self"] ["self"] (defScope s_Sheet_rows_now) := ⟨rfl, rfl, rfl, by decide +kernel, rfl, by decide +kernel, by decide +kernel⟩
abbrev s_law_whole : Stmt := topS 3
theorem sc_law_whole : FnScope ["_law_found"] ["_law_found"] (defScope s_law_whole) := ⟨rfl, rfl, rfl, by decide +kernel, rfl, by decide +kernel, by decide +kernel⟩
abbrev s_law_at : Stmt := topS 4
theorem sc_law_at : FnScope ["_law_script", "_law_k"] ["_law_script", "_law_k"] (defScope s_law_at) := ⟨rfl, rfl, rfl, by decide +kernel, rfl, by decide +kernel, by decide +kernel⟩
abbrev s_law_mixed : Stmt := topS 5
theorem sc_law_mixed : FnScope ["_law_cell", "_law_k", "_law_number"] ["_law_cell", "_law_k"] (defScope s_law_mixed) := ⟨rfl, rfl, rfl, by decide +kernel, rfl, by decide +kernel, by decide +kernel⟩
abbrev s_law_numbers : Stmt := topS 6
theorem sc_law_numbers : FnScope ["_law_script", "_law_start", "_law_some", "_law_k"] ["_law_script", "_law_start"] (defScope s_law_numbers) := ⟨rfl, rfl, rfl, by decide +kernel, rfl, by decide +kernel, by decide +kernel⟩
abbrev s_law_names : Stmt := topS 7
theorem sc_law_names : FnScope ["_law_number", "_law_letters", "_law_some", "_law_at_here", "_law_names_here", "_law_j", "_law_spots", "_law_word", "_law_k", "_law_spot"] ["_law_number"] (defScope s_law_names) := ⟨rfl, rfl, rfl, by decide +kernel, rfl, by decide +kernel, by decide +kernel⟩
abbrev s_law_ins : Stmt := topS 8
theorem sc_law_ins : FnScope ["_law_names_here", "_law_number", "_law_many", "_law_found", "_law_k"] ["_law_names_here", "_law_number", "_law_many"] (defScope s_law_ins) := ⟨rfl, rfl, rfl, by decide +kernel, rfl, by decide +kernel, by decide +kernel⟩
abbrev s_law_row : Stmt := topS 9
theorem sc_law_row : FnScope ["_law_rows", "_law_ins_here", "_law_number", "_law_at_here", "_law_mixed_here"] ["_law_rows", "_law_ins_here", "_law_number"] (defScope s_law_row) := ⟨rfl, rfl, rfl, by decide +kernel, rfl, by decide +kernel, by decide +kernel⟩
abbrev s_law_same : Stmt := topS 10
theorem sc_law_same : FnScope ["_law_found", "_law_due", "_law_k"] ["_law_found", "_law_due"] (defScope s_law_same) := ⟨rfl, rfl, rfl, by decide +kernel, rfl, by decide +kernel, by decide +kernel⟩
abbrev s_law : Stmt := topS 11
theorem sc_law : FnScope ["_law_script", "_law_names_here", "_law_ins_here", "_law_sheets", "_law_rows", "_law_held", "_law_number", "_law_one", "_law_row_here", "_law_wire", "_law_k", "_law_found", "_law_due"] ["_law_script"] (defScope s_law) := ⟨rfl, rfl, rfl, by decide +kernel, rfl, by decide +kernel, by decide +kernel⟩

structure Top (K : PySem.W.Frag) (mg : Str → Option Value) where
  a_Sheet__init : Addr
  d_Sheet__init : FuncData
  f_Sheet__init : Fun K "__init__" "Sheet.__init__" s_Sheet__init a_Sheet__init d_Sheet__init
  b_Sheet__init : Binds K d_Sheet__init ["self"] []
  a_Sheet_add : Addr
  d_Sheet_add : FuncData
  f_Sheet_add : Fun K "add" "Sheet.add" s_Sheet_add a_Sheet_add d_Sheet_add
  b_Sheet_add : Binds K d_Sheet_add ["self", "row"] []
  a_Sheet_rows_now : Addr
  d_Sheet_rows_now : FuncData
  f_Sheet_rows_now : Fun K "rows_now" "Sheet.rows_now" s_Sheet_rows_now a_Sheet_rows_now d_Sheet_rows_now
  b_Sheet_rows_now : Binds K d_Sheet_rows_now ["self"] []
  a_law_whole : Addr
  d_law_whole : FuncData
  f_law_whole : Fun K "_law_whole" "_law_whole" s_law_whole a_law_whole d_law_whole
  b_law_whole : Binds K d_law_whole ["_law_found"] []
  g_law_whole : mg "_law_whole" = some (.ref a_law_whole)
  a_law_at : Addr
  d_law_at : FuncData
  f_law_at : Fun K "_law_at" "_law_at" s_law_at a_law_at d_law_at
  b_law_at : Binds K d_law_at ["_law_script", "_law_k"] []
  g_law_at : mg "_law_at" = some (.ref a_law_at)
  a_law_mixed : Addr
  d_law_mixed : FuncData
  f_law_mixed : Fun K "_law_mixed" "_law_mixed" s_law_mixed a_law_mixed d_law_mixed
  b_law_mixed : Binds K d_law_mixed ["_law_cell", "_law_k"] []
  g_law_mixed : mg "_law_mixed" = some (.ref a_law_mixed)
  a_law_numbers : Addr
  d_law_numbers : FuncData
  f_law_numbers : Fun K "_law_numbers" "_law_numbers" s_law_numbers a_law_numbers d_law_numbers
  b_law_numbers : Binds K d_law_numbers ["_law_script", "_law_start"] []
  g_law_numbers : mg "_law_numbers" = some (.ref a_law_numbers)
  a_law_names : Addr
  d_law_names : FuncData
  f_law_names : Fun K "_law_names" "_law_names" s_law_names a_law_names d_law_names
  b_law_names : Binds K d_law_names ["_law_number"] []
  g_law_names : mg "_law_names" = some (.ref a_law_names)
  a_law_ins : Addr
  d_law_ins : FuncData
  f_law_ins : Fun K "_law_ins" "_law_ins" s_law_ins a_law_ins d_law_ins
  b_law_ins : Binds K d_law_ins ["_law_names_here", "_law_number", "_law_many"] []
  g_law_ins : mg "_law_ins" = some (.ref a_law_ins)
  a_law_row : Addr
  d_law_row : FuncData
  f_law_row : Fun K "_law_row" "_law_row" s_law_row a_law_row d_law_row
  b_law_row : Binds K d_law_row ["_law_rows", "_law_ins_here", "_law_number"] []
  g_law_row : mg "_law_row" = some (.ref a_law_row)
  a_law_same : Addr
  d_law_same : FuncData
  f_law_same : Fun K "_law_same" "_law_same" s_law_same a_law_same d_law_same
  b_law_same : Binds K d_law_same ["_law_found", "_law_due"] []
  g_law_same : mg "_law_same" = some (.ref a_law_same)
  a_law : Addr
  d_law : FuncData
  f_law : Fun K "law" "law" s_law a_law d_law
  b_law : Binds K d_law ["_law_script"] []
  g_law : mg "law" = some (.ref a_law)
  c_Sheet : Addr
  gc_Sheet : mg "Sheet" = some (.ref c_Sheet)
  nc_Sheet : IsC K "Sheet" c_Sheet
  kc_Sheet : PySem.W.keepIn K (.ref c_Sheet) = true
  cl_Sheet : Cls K c_Sheet
  mk_Sheet : Mk K c_Sheet a_Sheet__init
  m_Sheet_add : Meth K c_Sheet "add" a_Sheet_add
  m_Sheet_rows_now : Meth K c_Sheet "rows_now" a_Sheet_rows_now
  n_Sheet_rows : NoAttr K c_Sheet "rows"
  z_bool : mg "bool" = none
  z_int : mg "int" = none
  z_isinstance : mg "isinstance" = none
  z_len : mg "len" = none
  z_list : mg "list" = none
  z_range : mg "range" = none
  z_tuple : mg "tuple" = none

section
variable {P : Program} {w : World} {K : PySem.W.Frag} {mg : Str → Option Value} {base : Heap}


/-! the walk: one step a construct -/
open PySem PySem.Spec PyProof.Rows L2 Dpr
local macro_rules | `(tactic| walk_at "hp") => `(tactic| first
  | assumption
  | exact upd_same
  | (apply hp_upd; assumption; walk_at "hp")
  | (apply hp_upd2; assumption; walk_at "hp")
  | (apply same_at; assumption; walk_at "hp"))
local macro_rules | `(tactic| walk_at "sq") => `(tactic| first
  | assumption
  | exact SqL.of (by assumption)
  | exact SqL.of upd_same
  | exact SqT.of (by assumption)
  | (apply SqL.of; walk_at "hp")
  | (apply SqT.of; walk_at "hp")
  | (apply Same.seq; assumption; walk_at "sq")
  | (apply same_tup; assumption; walk_at "sq"))
local macro_rules | `(tactic| walk_at "sz") => `(tactic| first
  | omega
  | (simp only [List.length_map, List.length_append, List.length_cons, List.length_nil, List.length_range, List.length_replicate, List.length_take]; omega))
local macro_rules | `(tactic| walk_at "w1") => `(tactic| first
  | with_reducible refine w_seq ?_
  | with_reducible refine w_asg ?_
  | ((with_reducible apply w_var); rfl)
  | with_reducible refine w_c ?_
  | with_reducible refine w_op ?_
  | with_reducible refine w_un ?_
  | with_reducible refine w_I0 ?_
  | with_reducible refine w_U ?_
  | with_reducible refine w_bl ?_
  | with_reducible refine w_test ?_
  | with_reducible refine w_tB ?_
  | ((with_reducible refine w_eq ?_ ?_); rfl)
  | ((with_reducible refine w_ne ?_ ?_); rfl)
  | with_reducible refine w_if ?_
  | with_reducible refine w_cons ?_
  | with_reducible refine w_nil ?_
  | with_reducible refine w_itT ?_
  | with_reducible refine w_itF ?_
  | ((with_reducible refine w_itS1 ?_ ?_); decide +kernel)
  | ((with_reducible refine w_itS0 ?_ ?_); decide +kernel)
  | ((with_reducible refine w_itN1 ?_ ?_); decide +kernel)
  | ((with_reducible refine w_itN0 ?_ ?_); decide +kernel)
  | with_reducible refine w_dget ?_
  | ((with_reducible apply w_DG1); (walk_at "hp"); assumption)
  | ((with_reducible refine w_itC ?_ ?_); (first | decide +kernel | (simp only [List.length_cons, List.length_nil]; decide +kernel)))
  | ((with_reducible refine w_itD ?_ ?_); (first | decide +kernel | (simp only [List.length_cons, List.length_nil]; decide +kernel)))
  | with_reducible refine w_asgG ?_
  | with_reducible refine w_drop ?_
  | with_reducible refine w_ret ?_
  | with_reducible refine w_retN ?_
  | with_reducible refine w_next ?_
  | with_reducible refine w_cont ?_
  | with_reducible refine w_brk ?_
  | ((with_reducible apply w_aug); rfl)
  | with_reducible refine w_ipI ?_
  | with_reducible refine w_chain ?_
  | with_reducible refine w_and ?_
  | with_reducible refine w_or ?_
  | with_reducible refine w_not ?_
  | with_reducible refine w_andV ?_
  | with_reducible refine w_orV ?_
  | with_reducible refine w_notV ?_
  | with_reducible refine w_ifx ?_
  | with_reducible refine w_call ?_
  | with_reducible refine w_cb ?_
  | ((with_reducible refine w_for ?_); (try simp only [List.set_cons_zero, List.set_cons_succ]))
  | ((with_reducible refine w_lc ?_); (try simp only [List.set_cons_zero, List.set_cons_succ]))
  | with_reducible refine w_bm ?_
  | with_reducible refine w_bm0 ?_
  | ((with_reducible apply w_BML); (walk_at "hp"))
  | ((with_reducible apply w_BM0L); (walk_at "hp"))
  | ((with_reducible apply w_append); (walk_at "hp"); (try (walk_at "sz")))
  | ((with_reducible apply w_gTup); (walk_at "sq"); rfl)
  | with_reducible refine w_gCons ?_
  | with_reducible refine w_gNil ?_
  | with_reducible refine w_gName ?_
  | with_reducible refine w_iE ?_
  | ((with_reducible apply w_IE1); (walk_at "sq"))
  | with_reducible refine w_intB ?_
  | with_reducible refine w_tm1 ?_
  | with_reducible refine w_M11 ?_
  | ((with_reducible apply w_inL); (walk_at "sq"); rfl; rfl)
  | ((with_reducible apply w_inT); (walk_at "sq"); rfl; rfl)
  | ((with_reducible apply w_niL); (walk_at "sq"); rfl; rfl)
  | ((with_reducible apply w_niT); (walk_at "sq"); rfl; rfl)
  | with_reducible refine w_bit1 ?_
  | with_reducible refine w_shrN ?_
  | ((with_reducible refine w_shlN ?_ ?_); omega)
  | ((with_reducible refine w_divP ?_ ?_); omega)
  | with_reducible refine w_iL ?_
  | with_reducible refine w_iT ?_
  | with_reducible refine w_iR1 ?_
  | with_reducible refine w_iR2 ?_
  | ((with_reducible apply w_IL1); (walk_at "sq"))
  | ((with_reducible apply w_IT1); (walk_at "sq"))
  | ((with_reducible refine w_IR1 ?_ ?_); (walk_at "sz"))
  | ((with_reducible refine w_IR2 ?_ ?_); (walk_at "sz"))
  | ((with_reducible apply w_sl); (walk_at "sq"); intro _ _ _ _ _)
  | with_reducible refine w_tsl ?_
  | with_reducible refine w_tnp ?_
  | with_reducible refine w_tpt ?_
  | with_reducible refine w_pt ?_
  | ((with_reducible apply w_cat); (walk_at "hp"); (walk_at "hp"); (try (walk_at "sz")))
  | ((with_reducible apply w_listL); (walk_at "sq"); intro _ _ _ _ _)
  | ((with_reducible apply w_listT); (walk_at "sq"); intro _ _ _ _ _)
  | with_reducible refine w_tbits ?_
  | with_reducible refine w_bits ?_
  | with_reducible refine w_tup ?_
  | with_reducible refine w_lst ?_
  | ((with_reducible refine w_alT ?_ ?_); (exact sz_le rfl); intro _ _ _ _ _)
  | ((with_reducible refine w_alL ?_ ?_); (exact sz_le rfl); intro _ _ _ _ _)
  | with_reducible refine w_abs ?_
  | with_reducible refine w_max2 ?_
  | with_reducible refine w_min2 ?_
  | ((with_reducible refine w_I ?_ ?_); (first | exact ⟨by decide, by decide⟩ | (show (_ : Int) < _; decide) | exact p2pos _ | exact ⟨by omega, by omega, by decide⟩ | exact ⟨by omega, by omega⟩ | (show (_ : Int) < _; omega) | (show (_ : Int) ≤ _; omega) | exact .of_left (by decide) | exact .of_right (by decide) | exact mul_sm (by omega) | exact mul_sm2 (by omega) | exact mul_cc (by assumption) (by assumption) | exact mul_ok2 (n := 250) (by assumption) (by decide) (by decide)))
  | ((with_reducible apply w_ixL); (walk_at "sq"); rfl)
  | ((with_reducible apply w_ixT); (walk_at "sq"); rfl)
  | ((with_reducible apply w_lenL); (walk_at "sq"))
  | ((with_reducible apply w_lenT); (walk_at "sq"))
  | (with_reducible refine w_isi (TyX.base (TyOf.int _)) (kit_ii _) ?_)
  | (with_reducible refine w_isi (TyX.base (TyOf.int _)) (kit_ib _) ?_)
  | (with_reducible refine w_isi (TyX.base (TyOf.bl _)) (kit_bi _) ?_)
  | (with_reducible refine w_isi (TyX.base (TyOf.bl _)) (kit_bb _) ?_)
  | (with_reducible refine w_isi (TyX.base (TyOf.str _)) (kit_ss _) ?_)
  | ((with_reducible apply w_isiT); (walk_at "hp"))
  | ((with_reducible apply w_isiL); (walk_at "hp")))
local macro_rules | `(tactic| walk_at "split") => `(tactic| first
  | ((with_reducible refine w_itS ?_ ?_) <;> intro _)
  | ((with_reducible refine w_itSN ?_ ?_) <;> intro _)
  | ((with_reducible refine w_itI ?_ ?_) <;> intro _)
  | ((with_reducible refine w_itN ?_ ?_) <;> intro _)
  | ((with_reducible refine w_itn ?_ ?_) <;> intro _)
  | ((with_reducible refine w_itd ?_ ?_) <;> intro _)
  | ((with_reducible refine w_itb ?_ ?_) <;> intro _))
local macro_rules | `(tactic| walk_at "wk") => `(tactic| repeat' (walk_at "w1"))
local macro_rules | `(tactic| walk_at "ws") => `(tactic| repeat' (first | (walk_at "w1") | ((walk_at "split") <;> (try (exfalso; omega)))))

local macro_rules | `(tactic| walk_at "w1") => `(tactic| first
  | ((with_reducible refine w_disp ?_); intro _ _ _ _ _)
  | with_reducible refine w_pairs ?_
  | with_reducible refine w_pairs0 ?_
  | ((with_reducible apply w_dictD); (walk_at "hp"); intro _ _ _ _ _))

local macro_rules | `(tactic| walk_at "w1") => `(tactic| first
  | with_reducible refine w_dput ?_
  | ((with_reducible apply w_DPutB); (walk_at "hp"); (walk_at "sz"))
  | ((with_reducible apply w_insert); (walk_at "hp"); (walk_at "sz"); omega)
  | ((with_reducible refine w_dnewK ?_); intro _ _ _ _ _)
  | with_reducible refine w_revR ?_
  | with_reducible refine w_rg1 ?_
  | with_reducible refine w_RG1 ?_
  | ((with_reducible refine w_RevB ?_ ?_); omega))

local macro_rules | `(tactic| walk_at "lk") => `(tactic| first
  | exact lookup_hd
  | exact lookup_no
  | ((refine lookup_tl ?_ ?_); decide +kernel; (walk_at "lk")))
local macro_rules | `(tactic| walk_at "w1") => `(tactic| first
  | with_reducible refine w_fld ?_
  | ((with_reducible apply w_FldB); (walk_at "hp"); assumption; assumption; (walk_at "lk"))
  | with_reducible refine w_sfld ?_
  | ((with_reducible apply w_SFldB); (walk_at "hp"); assumption; assumption; exact Nat.le_of_ble_eq_true rfl)
  | with_reducible refine w_meth ?_
  | ((with_reducible apply w_MethB); (walk_at "hp"); (walk_at "lk")))

def sp_law_whole (K : PySem.W.Frag) : Sp := fun vs H Q _ => ∃ i : Int, vs = [.int i] ∧ Q (.bl true) H
theorem ok_law_whole (T : Top K mg) : FnOk P w K mg base CX0 1 T.a_law_whole T.d_law_whole ["_law_found"] (sp_law_whole K) := by
  refine T.f_law_whole.ok sc_law_whole (fun vs H Q E h => ?_) (fun cdv A outer s H vs Q E hr h => ?_)
  · obtain ⟨i, rfl, _⟩ := h
    rfl
  obtain ⟨i, rfl, h⟩ := h
  refine ⟨_, (pss_one (ps_ret (pe_and (pe_callB (c_isiK K) (by rfl) T.z_isinstance (by decide +kernel) (pa_cons (pv 0) (pa_cons (pe_bltn (v := .ty "int") (by rfl) T.z_int (by decide +kernel) rfl) pa_nil))) (pe_one (pe_not (pe_callB (c_isiK K) (by rfl) T.z_isinstance (by decide +kernel) (pa_cons (pv 0) (pa_cons (pe_bltn (v := .ty "bool") (by rfl) T.z_bool (by decide +kernel) rfl) pa_nil)))))))), ?_⟩
  try dsimp only [cxOf, Cx.nox, Cx.wish]
  simp only [L2.start, List.map_cons, List.map_nil, List.length_cons, List.length_nil, Nat.reduceAdd, Nat.reduceSub, List.replicate_succ, List.replicate_zero, List.cons_append, List.nil_append]
  walk_at "wk"
  exact h
theorem use_whole {i : Int} {H : Hp} {Q : VK} {E : XK} (h : Q (.bl true) H) : sp_law_whole K ([.int i] ++ []) H Q E := ⟨i, rfl, h⟩
local macro_rules | `(tactic| walk_at "w1") => `(tactic| with_reducible refine use_whole ?_)

/-! numbers drawn from a cell -/
def sp_law_mixed (K : PySem.W.Frag) : Sp := fun vs H Q _ => ∃ c k : Int, vs = [.int c, .int k] ∧ Builtin.Int.intBits c ≤ 1048577 ∧ (0 ≤ k ∧ k ≤ 1000000) ∧ ∀ v : Int, 0 ≤ v → v < 2147483648 → Q (.int v) H
theorem ok_law_mixed (T : Top K mg) : FnOk P w K mg base CX0 1 T.a_law_mixed T.d_law_mixed ["_law_cell", "_law_k"] (sp_law_mixed K) := by
  refine T.f_law_mixed.ok sc_law_mixed (fun vs H Q E h => ?_) (fun cdv A outer s H vs Q E hr h => ?_)
  · obtain ⟨c, k, rfl, _⟩ := h
    rfl
  obtain ⟨c, k, rfl, h⟩ := h
  refine ⟨_, (pss_cons (ps_if (pt_cmpR op_ge (pv 0) (pe_op op_pow pe_int pe_int) (nomark _)) (pss_one (ps_ret (pe_op op_mod (pe_op op_fdivW (pe_op op_sub (pv 0) (pe_op op_pow pe_int pe_int)) (pe_op op_shl pe_int (pe_op op_mulI pe_int (pe_op op_mod (pv 1) pe_int)))) (pe_op op_shl pe_int pe_int)))) pss_nil)
      (pss_cons (ps_set (i := 2) sc_law_mixed.nd rfl (.inl rfl) (pe_op op_mod (pe_op op_add (pe_op op_add (pe_op op_mulI (pv 0) pe_int) (pe_op op_mulI (pe_op op_mulI pe_int (pv 1)) (pv 1))) (pv 1)) pe_int))
      (pss_cons (ps_set (i := 2) sc_law_mixed.nd rfl (.inl rfl) (pe_op op_mod (pe_op op_mulI (pv 2) (pv 2)) pe_int))
      (pss_one (ps_ret (pe_op op_mod (pe_op op_mulI (pv 2) pe_int) pe_int)))))), ?_⟩
  try dsimp only [cxOf, Cx.nox, Cx.wish]
  simp only [L2.start, List.map_cons, List.map_nil, List.length_cons, List.length_nil, Nat.reduceAdd, Nat.reduceSub, List.replicate_succ, List.replicate_zero, List.cons_append, List.nil_append]
  obtain ⟨hc, hk, h⟩ := h
  walk_at "ws"
  · have hp : (0 : Int) < 1 * 2 ^ (31 * (k % 60)).toNat := by
      rw [Int.one_mul]
      exact p2pos _
    refine w_I (wide_div hp (b := 2001) (by rw [abs_pow]; exact Nat.pow_lt_pow_right (by decide) (by omega)) (by decide) (by decide)) ?_
    walk_at "ws"
    have e : (1 : Int) * 2 ^ Int.toNat 31 = 2147483648 := by decide
    rw [e]
    exact h _ (Int.emod_nonneg _ (by decide)) (Int.emod_lt_of_pos _ (by decide))
  · refine h _ (Int.emod_nonneg _ (by decide)) ?_
    exact Int.lt_trans (Int.emod_lt_of_pos _ (by decide)) (by decide)
theorem use_mixed {c k : Int} {H : Hp} {Q : VK} {E : XK} (hc : Builtin.Int.intBits c ≤ 1048577) (hk : 0 ≤ k ∧ k ≤ 1000000) (h : ∀ v : Int, 0 ≤ v → v < 2147483648 → Q (.int v) H) : sp_law_mixed K ([.int c, .int k] ++ []) H Q E :=
  ⟨c, k, rfl, hc, hk, h⟩
local macro_rules | `(tactic| walk_at "w1") => `(tactic| ((with_reducible refine use_mixed ?_ ?_ ?_); (first | assumption | exact Nat.le_succ_of_le (by assumption)); omega; intro _ _ _))

/-! names: one to six small letters -/
def letter (c : Nat) : Prop := 97 ≤ c ∧ c ≤ 122
def NameOk (s : Str) : Prop := (1 ≤ s.length ∧ s.length ≤ 6) ∧ ∀ c ∈ s.cps.toList, letter c
theorem letters_at (i : Int) (h : 0 ≤ i ∧ i < 26) : ∃ c, atI (Str.ofString "abcdefghijklmnopqrstuvwxyz").cps.toList i = some c ∧ letter c := by
  have e : (Str.ofString "abcdefghijklmnopqrstuvwxyz").cps.toList = (List.range 26).map (· + 97) := by decide +kernel
  rw [e]
  obtain ⟨n, rfl⟩ := Int.eq_ofNat_of_zero_le h.1
  have hn : n < 26 := by omega
  refine ⟨n + 97, atI_nat ?_, by unfold letter; omega⟩
  rw [List.getElem?_map, List.getElem?_range hn]
  rfl
theorem tl_concat : ∀ ss : List Str, (Txt.join "" ss).cps.toList = (ss.map fun s => s.cps.toList).flatten := by
  intro ss
  have h : TL.tl (Txt.join "" ss) = TL.joinL (TL.tl "") (ss.map TL.tl) := by rw [TL.join_eq, TL.tl_join]
  have e : TL.tl "" = [] := by decide +kernel
  rw [e] at h
  have key : ∀ l : List (List Nat), TL.joinL [] l = l.flatten := by
    intro l
    induction l with
    | nil => rfl
    | cons p r ih =>
      cases r with
      | nil => exact (List.append_nil p).symm
      | cons q r => show p ++ ([] ++ TL.joinL [] (q :: r)) = p ++ (q :: r).flatten; rw [List.nil_append, ih]
  rw [key] at h
  exact h
/-- signs that are one letter each -/
def oneL (s : Str) : Prop := ∃ c, s = ⟨#[c]⟩ ∧ letter c
theorem ones_join {ss : List Str} (h : ∀ s ∈ ss, oneL s) : (Txt.join "" ss).length = ss.length ∧ ∀ c ∈ (Txt.join "" ss).cps.toList, letter c := by
  have e := tl_concat ss
  have key : ∀ ss : List Str, (∀ s ∈ ss, oneL s) → (ss.map fun s => s.cps.toList).flatten.length = ss.length ∧ ∀ c ∈ (ss.map fun s => s.cps.toList).flatten, letter c := by
    intro ss
    induction ss with
    | nil => intro _; exact ⟨rfl, fun c hc => by cases hc⟩
    | cons s r ih =>
      intro h
      obtain ⟨c, rfl, hc⟩ := h s (List.mem_cons_self ..)
      obtain ⟨h1, h2⟩ := ih fun z hz => h z (List.mem_cons_of_mem _ hz)
      refine ⟨?_, fun d hd => ?_⟩
      · show (c :: (r.map fun s => s.cps.toList).flatten).length = (r.length + 1)
        rw [List.length_cons, h1]
      · rcases List.mem_cons.mp (show d ∈ c :: (r.map fun s => s.cps.toList).flatten from hd) with q | q
        · rw [q]; exact hc
        · exact h2 d q
  obtain ⟨k1, k2⟩ := key ss h
  refine ⟨?_, fun c hc => k2 c (by rw [← e]; exact hc)⟩
  rw [← k1, ← e]
  exact (Array.length_toList).symm
theorem ones_sum : ∀ {ss : List Str}, (∀ s ∈ ss, oneL s) → (ss.map (·.length)).sum = ss.length
  | [], _ => rfl
  | s :: r, h => by
    obtain ⟨c, rfl, hc⟩ := h s (List.mem_cons_self ..)
    have ih := ones_sum fun z hz => h z (List.mem_cons_of_mem _ hz)
    rw [List.map_cons, List.sum_cons, ih, List.length_cons]
    show 1 + r.length = r.length + 1
    omega
theorem cut_name {z : Str} {n : Nat} (hz : n ≤ z.length) (h : ∀ c ∈ z.cps.toList, letter c) (hn : 1 ≤ n ∧ n ≤ 6) : NameOk (cutS z none (some (n : Int))) := by
  have e : (cutS z none (some (n : Int))).cps.toList = z.cps.toList.take n := by
    unfold cutS
    rw [HT.sIx_none, HT.sIx_nat, Nat.min_eq_left hz, List.drop_zero, Nat.sub_zero, List.toList_toArray]
  have hl : (cutS z none (some (n : Int))).length = n := by
    have : (cutS z none (some (n : Int))).length = (cutS z none (some (n : Int))).cps.toList.length := (Array.length_toList).symm
    rw [this, e, List.length_take]
    have : z.cps.toList.length = z.length := Array.length_toList
    omega
  refine ⟨by rw [hl]; exact hn, fun c hc => ?_⟩
  rw [e] at hc
  exact h c (List.mem_of_mem_take hc)
theorem name_strOk {s : Str} (h : NameOk s) : PyData.strOk s = true := by
  unfold PyData.strOk
  rw [Array.all_eq_true_iff_forall_mem]
  intro c hc
  have := h.2 c (Array.mem_toList_iff.mpr hc)
  unfold letter at this
  exact decide_eq_true (by omega)
def sp_law_names (K : PySem.W.Frag) : Sp := fun vs H Q _ => ∃ n : Int, vs = [.int n] ∧ (0 ≤ n ∧ n < 2147483648) ∧
  ∀ (nm : List Str) p H', nm.length = 4 → (∀ x ∈ nm, NameOk x) → H p = none → Same H H' → H' p = some (.lst (nm.map V.str)) → Q (.ref p) H'
theorem ok_law_names (T : Top K mg) : FnOk P w K mg base CX0 1 T.a_law_names T.d_law_names ["_law_number"] (sp_law_names K) := by
  refine T.f_law_names.ok sc_law_names (fun vs H Q E h => ?_) (fun cdv A outer s H vs Q E hr h => ?_)
  · obtain ⟨n, rfl, _⟩ := h
    rfl
  obtain ⟨n, rfl, h⟩ := h
  refine ⟨_, (pss_cons (ps_set (i := 1) sc_law_names.nd rfl (.inr rfl) pe_str)
      (pss_cons (ps_set (i := 2) sc_law_names.nd rfl (.inr rfl) (pe_lc (own := [("_law_k", 8)]) (g := gName 8) (tt := tYes) (by rfl) sc_law_names.nd (pi_range1 (by rfl) T.z_range (pa_cons (pe_op op_add pe_int (pe_op op_mod (pv 0) pe_int)) pa_nil)) (blkOk_by (N := ["_law_number", "_law_letters", "_law_some", "_law_at_here", "_law_names_here", "_law_j", "_law_spots", "_law_word", "_law_k", "_law_spot"]) (sc := defScope s_law_names) (by decide +kernel)) (fun _ _ _ _ _ => (pg_name (i := 8) sc_law_names.nd rfl (.inl rfl))) (fun _ _ _ _ _ => pts_nil) (fun _ _ _ _ _ => (pe_op op_mod (pe_op op_fdiv (pv 0) (pe_op op_add (pv 8) pe_int)) pe_int))))
      (pss_cons (ps_set (i := 3) sc_law_names.nd rfl (.inr rfl) (pe_op op_mod (pe_op op_fdiv (pv 0) pe_int) (pe_callB (c_lenK K) (by rfl) T.z_len PySem.boot_len (pa_cons (pv 2) pa_nil))))
      (pss_cons (ps_set (i := 4) sc_law_names.nd rfl (.inl rfl) (pe_lst pa_nil))
      (pss_cons (ps_for PassesOwn.never rfl (pi_range1 (by rfl) T.z_range (pa_cons pe_int pa_nil)) (pg_name (i := 5) sc_law_names.nd rfl (.inr rfl))
      (pss_cons (ps_setLc (i := 6) (own := [("_law_k", 8)]) (g := gName 8) (tt := tYes) (by rfl) sc_law_names.nd rfl rfl (sw_true rfl rfl rfl (by decide +kernel)) (pi_range1 (by rfl) T.z_range (pa_cons (pe_callB (c_lenK K) (by rfl) T.z_len PySem.boot_len (pa_cons (pv 2) pa_nil)) pa_nil)) (blkOk_by (N := ["_law_number", "_law_letters", "_law_some", "_law_at_here", "_law_names_here", "_law_j", "_law_spots", "_law_word", "_law_k", "_law_spot"]) (sc := defScope s_law_names) (by decide +kernel)) (fun _ _ _ _ _ => (pg_name (i := 8) sc_law_names.nd rfl (.inl rfl))) (fun _ _ _ _ _ => pts_nil) (fun _ _ _ _ _ => (pe_op op_add (pe_ix (ix_listK K) (pv 2) (pv 8) (fun _ _ => rfl)) (pe_op op_mulI (pv 5) (pe_callTy c_intB (by rfl) T.z_int (by decide +kernel) (pa_cons (pe_cmpR op_eq (pv 8) (pv 3) (nomark _)) pa_nil))))))
      (pss_one (ps_expr (pe_bm PySem.F.plainAttrs_list PySem.F.slot_list_append PySem.F.type_list_append mt_append (pv 4) (pa_cons (p_join K pe_str (pe_lc (own := [("_law_spot", 9)]) (g := gName 9) (tt := tYes) (by rfl) sc_law_names.nd (pi_list (pv 6)) (blkOk_by (N := ["_law_number", "_law_letters", "_law_some", "_law_at_here", "_law_names_here", "_law_j", "_law_spots", "_law_word", "_law_k", "_law_spot"]) (sc := defScope s_law_names) (by decide +kernel)) (fun _ _ _ _ _ => (pg_name (i := 9) sc_law_names.nd rfl (.inl rfl))) (fun _ _ _ _ _ => pts_nil) (fun _ _ _ _ _ => (pe_ix ix_str (pv 1) (pe_op op_mod (pv 9) pe_int) (fun _ _ => rfl))))) pa_nil))))))
      (Evl.pss_cut (ps_if (pt_cmpR op_eq (pe_op op_mod (pe_op op_fdiv (pv 0) pe_int) pe_int) pe_int (nomark _)) (pss_cons (ps_set (i := 7) sc_law_names.nd rfl (.inr rfl) (p_join K pe_str (pe_lc (own := [("_law_k", 8)]) (g := gName 8) (tt := tYes) (by rfl) sc_law_names.nd (pi_range1 (by rfl) T.z_range (pa_cons pe_int pa_nil)) (blkOk_by (N := ["_law_number", "_law_letters", "_law_some", "_law_at_here", "_law_names_here", "_law_j", "_law_spots", "_law_word", "_law_k", "_law_spot"]) (sc := defScope s_law_names) (by decide +kernel)) (fun _ _ _ _ _ => (pg_name (i := 8) sc_law_names.nd rfl (.inl rfl))) (fun _ _ _ _ _ => pts_nil) (fun _ _ _ _ _ => (pe_ix ix_str (pv 1) (pe_op op_mod (pe_op op_fdiv (pv 0) (pe_op op_add (pv 8) pe_int)) pe_int) (fun _ _ => rfl))))))
      (pss_one (ps_setLc (i := 4) (own := [("_law_k", 8)]) (g := gName 8) (tt := tYes) (by rfl) sc_law_names.nd rfl rfl (sw_true rfl rfl rfl (by decide +kernel)) (pi_range1 (by rfl) T.z_range (pa_cons pe_int pa_nil)) (blkOk_by (N := ["_law_number", "_law_letters", "_law_some", "_law_at_here", "_law_names_here", "_law_j", "_law_spots", "_law_word", "_law_k", "_law_spot"]) (sc := defScope s_law_names) (by decide +kernel)) (fun _ _ _ _ _ => (pg_name (i := 8) sc_law_names.nd rfl (.inl rfl))) (fun _ _ _ _ _ => pts_nil) (fun _ _ _ _ _ => (pe_slice sl_str (pv 7) po_none (po_some (pe_op op_add (pv 8) pe_int))))))) pss_nil)
      (pss_one (ps_ret (pv 4))))))))), ?_⟩
  try dsimp only [cxOf, Cx.nox, Cx.wish]
  simp only [L2.start, List.map_cons, List.map_nil, List.length_cons, List.length_nil, Nat.reduceAdd, Nat.reduceSub, List.replicate_succ, List.replicate_zero, List.cons_append, List.nil_append]
  obtain ⟨hn, h⟩ := h
  walk_at "ws"
  refine lc_rx (lo := 0) (fun y => ∃ i : Int, y = .int i ∧ True) (by omega) (fun x => rfl) (fun i H' Q' hi _ q => ?_) (fun ys p H1 hl hP n1 s1 e1 => ?_)
  · rw [Int.zero_add]
    walk_at "ws"
    exact q _ ⟨_, rfl, True.intro⟩
  obtain ⟨xs, rfl, _⟩ := all_map (f := V.int) (R := fun _ => True) hP
  have hlx : xs.length = (1 + n % 6).toNat := by rw [← hl, List.length_map]
  have hlm : (xs.map V.int).length = xs.length := List.length_map ..
  walk_at "ws"
  rename_i p2 H2 n2 s2 e2
  have hat0 : 0 ≤ n / 64 % ((xs.map V.int).length : Int) := Int.emod_nonneg _ (by omega)
  generalize n / 64 % ((xs.map V.int).length : Int) = at0 at *
  refine for_r (fun i σ' G => ∃ (nm : List Str) (y5 y6 : Option V), σ' = [some (.int n), some (.str "abcdefghijklmnopqrstuvwxyz"), some (.ref p), some (.int at0), some (.ref p2), y5, y6, none, none, none] ∧ Same H1 G ∧ G p2 = some (.lst (nm.map V.str)) ∧ nm.length = i ∧ ∀ x ∈ nm, NameOk x) ⟨[], _, _, rfl, s2, e2, rfl, fun x h => (by cases h)⟩ (fun i σ' G hi q => ?_) (fun σ' G q => ?_)
  · obtain ⟨nm, y5, y6, rfl, sG, eG, hnm, hok⟩ := q
    walk_at "ws"
    refine lc_rx (lo := 0) (fun y => ∃ i : Int, y = .int i ∧ True) (by omega) (fun x => rfl) (fun k H' Q' hk sm q => ?_) (fun ys p3 G1 hl3 hP3 n3 s3 e3 => ?_)
    · rw [Int.zero_add]
      have hk2 : k < xs.length := by omega
      walk_at "ws"
      refine w_ixL ((sG.trans sm).seq (SqL.of e1)) (get_int hk2) ?_
      walk_at "ws"
      exact q _ ⟨_, rfl, True.intro⟩
    obtain ⟨zs, rfl, _⟩ := all_map (f := V.int) (R := fun _ => True) hP3
    have hlz : zs.length = xs.length := by
      rw [List.length_map] at hl3
      omega
    walk_at "ws"
    refine lc_lx (zs.map V.int) (fun y => ∃ s : Str, y = .str s ∧ oneL s) (SqL.of e3) (by rw [List.length_map]; omega) (fun x => rfl) (fun k x H' Q' hx sm q => ?_) (fun ys p4 G2 hl4 hP4 n4 s4 e4 => ?_)
    · obtain ⟨z, _, rfl⟩ := get_map hx
      walk_at "ws"
      obtain ⟨c, hc, lc⟩ := letters_at (z % 26) (by omega)
      refine w_ixS (by decide +kernel) hc ?_
      exact q _ ⟨_, rfl, c, rfl, lc⟩
    obtain ⟨ss, rfl, hss⟩ := all_map (f := V.str) (R := oneL) hP4
    have hls : ss.length = xs.length := by
      rw [List.length_map, List.length_map] at hl4
      omega
    have e0 : (Str.ofString "").length = 0 := by decide +kernel
    refine w_join (SqL.of e4) (by rw [ones_sum hss, e0]; omega) ?_
    obtain ⟨j1, j2⟩ := ones_join hss
    have eG2 : G2 p2 = some (.lst (nm.map V.str)) := s4 _ _ (s3 _ _ eG)
    walk_at "ws"
    refine ⟨nm ++ [Txt.join "" ss], _, _, rfl, same_mut ((sG.trans s3).trans s4) n2, ?_, by rw [List.length_append, hnm]; rfl, fun x hx => ?_⟩
    · rw [upd_same, List.map_append]
      rfl
    · rcases List.mem_append.mp hx with k | k
      · exact hok x k
      · rw [List.mem_singleton.mp k]
        exact ⟨by rw [j1]; omega, j2⟩
  obtain ⟨nm, y5, y6, rfl, sG, eG, hnm, hok⟩ := q
  walk_at "ws"
  have hnp : H p2 = none := s1.free n2
  refine w_cut (fun σ' G' => ∃ (nm : List Str) (q : Addr) (y7 : Option V), σ' = [some (.int n), some (.str "abcdefghijklmnopqrstuvwxyz"), some (.ref p), some (.int at0), some (.ref q), y5, y6, y7, none, none] ∧ Same H G' ∧ H q = none ∧ G' q = some (.lst (nm.map V.str)) ∧ nm.length = 4 ∧ ∀ x ∈ nm, NameOk x) ?_ ?_
  · walk_at "ws"
    · refine lc_rx (lo := 0) (fun y => ∃ s : Str, y = .str s ∧ oneL s) (by decide) (fun x => rfl) (fun k H' Q' hk sm q => ?_) (fun ys p4 G2 hl4 hP4 n4 s4 e4 => ?_)
      · have hk5 : k < 5 := hk
        rw [Int.zero_add]
        walk_at "ws"
        obtain ⟨c, hc, lc⟩ := letters_at (n / ((k : Int) + 3) % 26) (by omega)
        refine w_ixS (by decide +kernel) hc ?_
        exact q _ ⟨_, rfl, c, rfl, lc⟩
      obtain ⟨ss, rfl, hss⟩ := all_map (f := V.str) (R := oneL) hP4
      have hls : ss.length = 5 := by
        rw [List.length_map] at hl4
        exact hl4
      have e0 : (Str.ofString "").length = 0 := by decide +kernel
      refine w_join (SqL.of e4) (by rw [ones_sum hss, e0]; omega) ?_
      obtain ⟨j1, j2⟩ := ones_join hss
      walk_at "ws"
      refine lc_rx (lo := 0) (fun y => ∃ s : Str, y = .str s ∧ NameOk s) (by decide) (fun x => rfl) (fun k H' Q' hk sm q => ?_) (fun ys p5 G3 hl5 hP5 n5 s5 e5 => ?_)
      · have hk4 : k < 4 := hk
        rw [Int.zero_add]
        walk_at "ws"
        refine w_slS (by omega) ?_
        refine q _ ⟨_, rfl, ?_⟩
        exact cut_name (n := k + 1) (by omega) j2 (by omega)
      obtain ⟨ns, rfl, hns⟩ := all_map (f := V.str) (R := NameOk) hP5
      have hln : ns.length = 4 := by
        rw [List.length_map] at hl5
        exact hl5
      walk_at "ws"
      exact ⟨ns, p5, _, rfl, ((s1.trans sG).trans s4).trans s5, ((s1.trans sG).trans s4).free n5, e5, hln, hns⟩
    · exact ⟨nm, p2, _, rfl, s1.trans sG, hnp, eG, hnm, hok⟩
  rintro σ1 G1 ⟨nm, q, y7, rfl, sG1, nq, eq, hl, hok⟩
  walk_at "ws"
  exact h nm q G1 hl hok nq sG1 eq

def Bits (ns : List Int) : Prop := ∀ z ∈ ns, Builtin.Int.intBits z ≤ 1048576
def sp_law_at (K : PySem.W.Frag) : Sp := fun vs H Q _ => ∃ (a : Addr) (ns : List Int) (k : Int), vs = [.ref a, .int k] ∧ SqL K H a (ns.map V.int) ∧ Bits ns ∧ (0 ≤ k ∧ k ≤ 1000000) ∧ ∀ v : Int, Builtin.Int.intBits v ≤ 1048576 → Q (.int v) H
theorem ok_law_at (T : Top K mg) : FnOk P w K mg base CX0 1 T.a_law_at T.d_law_at ["_law_script", "_law_k"] (sp_law_at K) := by
  refine T.f_law_at.ok sc_law_at (fun vs H Q E h => ?_) (fun cdv A outer s H vs Q E hr h => ?_)
  · obtain ⟨a, ns, k, rfl, _⟩ := h
    rfl
  obtain ⟨a, ns, k, rfl, h⟩ := h
  refine ⟨_, (pss_cons (ps_if (pt_cmpR op_lt (pv 1) (pe_callB (c_lenK K) (by rfl) T.z_len PySem.boot_len (pa_cons (pv 0) pa_nil)) (nomark _)) (pss_one (ps_ret (pe_ix (ix_listK K) (pv 0) (pv 1) (fun _ _ => rfl)))) pss_nil)
      (pss_one (ps_ret pe_int))), ?_⟩
  try dsimp only [cxOf, Cx.nox, Cx.wish]
  simp only [L2.start, List.map_cons, List.map_nil, List.length_cons, List.length_nil, Nat.reduceAdd, Nat.reduceSub, List.replicate_succ, List.replicate_zero, List.cons_append, List.nil_append]
  obtain ⟨hS, hb, hk, h⟩ := h
  walk_at "ws"
  · rename_i hlt
    rw [List.length_map] at hlt
    obtain ⟨n, rfl⟩ := Int.eq_ofNat_of_zero_le hk.1
    have hn : n < ns.length := by omega
    refine w_ixL hS (get_int hn) ?_
    walk_at "ws"
    exact h _ (hb _ (List.getElem_mem hn))
  · exact h _ (by decide)
theorem use_at {a : Addr} {ns : List Int} {k : Int} {H : Hp} {Q : VK} {E : XK} (hS : SqL K H a (ns.map V.int)) (hb : Bits ns) (hk : 0 ≤ k ∧ k ≤ 1000000) (h : ∀ v : Int, Builtin.Int.intBits v ≤ 1048576 → Q (.int v) H) : sp_law_at K ([.ref a, .int k] ++ []) H Q E := ⟨a, ns, k, rfl, hS, hb, hk, h⟩
local macro_rules | `(tactic| walk_at "w1") => `(tactic| ((with_reducible apply use_at); (walk_at "sq"); assumption; omega; intro _ _))
/-- a drawn number -/
def Drawn (x : Int) : Prop := 0 ≤ x ∧ x < 2147483648
def sp_law_numbers (K : PySem.W.Frag) : Sp := fun vs H Q _ => ∃ (a : Addr) (ns : List Int) (k : Int), vs = [.ref a, .int k] ∧ SqL K H a (ns.map V.int) ∧ Bits ns ∧ (0 ≤ k ∧ k ≤ 100) ∧
  ∀ (xs : List Int) p H', xs.length ≤ 63 → (∀ x ∈ xs, Drawn x) → H p = none → Same H H' → H' p = some (.lst (xs.map V.int)) → Q (.ref p) H'
theorem ok_law_numbers (T : Top K mg) : FnOk P w K mg base CX0 2 T.a_law_numbers T.d_law_numbers ["_law_script", "_law_start"] (sp_law_numbers K) := by
  refine T.f_law_numbers.ok sc_law_numbers (fun vs H Q E h => ?_) (fun cdv A outer s H vs Q E hr h => ?_)
  · obtain ⟨a, ns, k, rfl, _⟩ := h
    rfl
  obtain ⟨a, ns, k, rfl, h⟩ := h
  refine ⟨_, (pss_cons (ps_set (i := 2) sc_law_numbers.nd rfl (.inr rfl) (pe_slice sl_list (pv 0) po_none (po_some pe_int)))
      (pss_one (ps_ret (pe_lc (own := [("_law_k", 3)]) (g := gName 3) (tt := tYes) (by rfl) sc_law_numbers.nd (pi_range2 (by rfl) T.z_range (pa_cons (pv 1) (pa_cons (pe_callB (c_lenK K) (by rfl) T.z_len PySem.boot_len (pa_cons (pv 2) pa_nil)) pa_nil))) (blkOk_by (N := ["_law_script", "_law_start", "_law_some", "_law_k"]) (sc := defScope s_law_numbers) (by decide +kernel)) (fun _ _ _ _ _ => (pg_name (i := 3) sc_law_numbers.nd rfl (.inl rfl))) (fun _ _ _ _ _ => pts_nil) (fun _ _ _ _ _ => (pe_call (ok_law_mixed T) (hr.mono (by decide)) (by rfl) T.g_law_mixed T.f_law_mixed.kp T.b_law_mixed .nil pass0 (pa_cons (pe_ix (ix_listK K) (pv 2) (pv 3) (fun _ _ => rfl)) (pa_cons (pv 3) pa_nil)))))))), ?_⟩
  try dsimp only [cxOf, Cx.nox, Cx.wish]
  simp only [L2.start, List.map_cons, List.map_nil, List.length_cons, List.length_nil, Nat.reduceAdd, Nat.reduceSub, List.replicate_succ, List.replicate_zero, List.cons_append, List.nil_append]
  obtain ⟨hS, hb, hk, h⟩ := h
  have hlm : (ns.map V.int).length = ns.length := List.length_map ..
  walk_at "ws"
  rename_i p1 H1 n1 s1 e1
  have e0 : cutV (ns.map V.int) none (some 63) = (ns.take 63).map V.int := by
    rw [show (63 : Int) = ((63 : Nat) : Int) from rfl, cut_upto, ← List.map_take]
  rw [e0] at e1
  rw [e0]
  have hl2 : (ns.take 63).length ≤ 63 := by rw [List.length_take]; omega
  have hlm2 : ((ns.take 63).map V.int).length = (ns.take 63).length := List.length_map ..
  have hb2 : Bits (ns.take 63) := fun z hz => hb z (List.mem_of_mem_take hz)
  generalize ns.take 63 = ms at *
  walk_at "ws"
  refine lc_rx (lo := k) (fun y => ∃ i : Int, y = .int i ∧ Drawn i) (by omega) (fun x => rfl) (fun i H' Q' hi sm q => ?_) (fun ys p H2 hl hP n2 s2 e2 => ?_)
  · obtain ⟨n, rfl⟩ := Int.eq_ofNat_of_zero_le hk.1
    have hn : n + i < ms.length := by omega
    have ek : ((n : Int) + (i : Int)) = ((n + i : Nat) : Int) := by omega
    rw [ek]
    have hbn := hb2 _ (List.getElem_mem hn)
    walk_at "ws"
    refine w_ixL (sm.seq (SqL.of e1)) (get_int hn) ?_
    walk_at "ws"
    rename_i v v0 v1
    exact q _ ⟨v, rfl, v0, v1⟩
  obtain ⟨xs, rfl, hx⟩ := all_map (f := V.int) (R := Drawn) hP
  have hlx : xs.length = ((ms.map V.int).length - k).toNat := by
    rw [← hl, List.length_map]
  exact h xs p H2 (by omega) hx (s1.free n2) (s1.trans s2) e2
/-- an in row of some names -/
def inRow (nm : List Str) (r : Row) : Prop := ∃ x k, r = .inn x k ∧ x ∈ nm ∧ k < 64
def sp_law_ins (K : PySem.W.Frag) : Sp := fun vs H Q _ => ∃ (a : Addr) (nm : List Str) (n m : Int), vs = [.ref a, .int n, .int m] ∧ SqL K H a (nm.map V.str) ∧ nm.length = 4 ∧ (0 ≤ n ∧ n < 2147483648) ∧ (0 ≤ m ∧ m ≤ 1000) ∧
  ∀ (rs : List Row) p H', rs.length = m.toNat → (∀ r ∈ rs, inRow nm r) → H p = none → Same H H' → RowsM H' p rs → Q (.ref p) H'
theorem get_str {ns : List Str} {i : Int} (h : 0 ≤ i ∧ i < ns.length) : ∃ x, atI (ns.map V.str) i = some (.str x) ∧ x ∈ ns := by
  obtain ⟨n, rfl⟩ := Int.eq_ofNat_of_zero_le h.1
  have hn : n < ns.length := by omega
  exact ⟨ns[n], atI_nat (by rw [List.getElem?_map, List.getElem?_eq_getElem hn]; rfl), List.getElem_mem hn⟩
theorem ok_law_ins (T : Top K mg) : FnOk P w K mg base CX0 1 T.a_law_ins T.d_law_ins ["_law_names_here", "_law_number", "_law_many"] (sp_law_ins K) := by
  refine T.f_law_ins.ok sc_law_ins (fun vs H Q E h => ?_) (fun cdv A outer s H vs Q E hr h => ?_)
  · obtain ⟨a, nm, n, m, rfl, _⟩ := h
    rfl
  obtain ⟨a, nm, n, m, rfl, h⟩ := h
  refine ⟨_, (pss_cons (ps_set (i := 3) sc_law_ins.nd rfl (.inl rfl) (pe_lst pa_nil))
      (pss_cons (ps_for PassesOwn.never rfl (pi_range1 (by rfl) T.z_range (pa_cons (pv 2) pa_nil)) (pg_name (i := 4) sc_law_ins.nd rfl (.inl rfl))
      (pss_one (ps_expr (pe_bm PySem.F.plainAttrs_list PySem.F.slot_list_append PySem.F.type_list_append mt_append (pv 3) (pa_cons (pe_tup (pa_cons pe_str (pa_cons (pe_ix (ix_listK K) (pv 0) (pe_op op_mod (pe_op op_fdiv (pv 1) (pe_op op_add (pv 4) pe_int)) pe_int) (fun _ _ => rfl)) (pa_cons (pe_op op_mod (pe_op op_fdiv (pv 1) (pe_op op_add (pe_op op_mulI (pv 4) (pv 4)) pe_int)) pe_int) pa_nil)))) pa_nil)))))
      (pss_one (ps_ret (pv 3))))), ?_⟩
  try dsimp only [cxOf, Cx.nox, Cx.wish]
  simp only [L2.start, List.map_cons, List.map_nil, List.length_cons, List.length_nil, Nat.reduceAdd, Nat.reduceSub, List.replicate_succ, List.replicate_zero, List.cons_append, List.nil_append]
  obtain ⟨hS, h4, hn, hm, h⟩ := h
  walk_at "ws"
  rename_i o H1 n1 s1 e1
  refine for_r (fun i σ' G => ∃ (rs : List Row) (y : Option V), σ' = [some (.ref a), some (.int n), some (.int m), some (.ref o), y] ∧ Same H G ∧ RowsM G o rs ∧ rs.length = i ∧ ∀ r ∈ rs, inRow nm r) ⟨[], _, rfl, s1, ⟨[], e1, A2.nil⟩, rfl, fun r hr => (by cases hr)⟩ (fun i σ' G hi q => ?_) (fun σ' G q => ?_)
  · obtain ⟨rs, y, rfl, sG, ⟨ps, e, hA⟩, hl, hr'⟩ := q
    have hpl := hA.1
    have kk : (0 : Int) ≤ (i : Int) * (i : Int) := Int.mul_nonneg (Int.natCast_nonneg i) (Int.natCast_nonneg i)
    have kk2 : (i : Int) * (i : Int) ≤ 1000 * 1000 := Int.mul_le_mul (by omega) (by omega) (Int.natCast_nonneg i) (by decide)
    walk_at "ws"
    obtain ⟨x, hx, mx⟩ := get_str (ns := nm) (i := n / ((i : Int) + 1) % 4) (by omega)
    refine w_ixL (sG.seq hS) hx ?_
    walk_at "ws"
    rename_i p2 H2 n2 s2 e2
    have d0 : 0 ≤ n / ((i : Int) * (i : Int) + 5) % 64 := by omega
    have d1 : n / ((i : Int) * (i : Int) + 5) % 64 < 64 := by omega
    generalize n / ((i : Int) * (i : Int) + 5) % 64 = z at *
    obtain ⟨zn, rfl⟩ := Int.eq_ofNat_of_zero_le d0
    refine ⟨rs ++ [.inn x zn], _, rfl, same_mut (sG.trans s2) n1, RowsM.push (s2 _ _ e) (hA.mono fun _ _ e => s2 _ _ e) (r := .inn x zn) e2, by rw [List.length_append, hl]; rfl, fun r hr => ?_⟩
    rcases List.mem_append.mp hr with k | k
    · exact hr' r k
    · rw [List.mem_singleton.mp k]
      exact ⟨x, zn, rfl, mx, by omega⟩
  · obtain ⟨rs, y, rfl, sG, hM, hl, hr'⟩ := q
    walk_at "ws"
    exact h rs o G hl hr' n1 sG hM

theorem name_str {n : Str} (h : NameOk n) : PyData.strOk n = true := by
  show (n.cps.all fun x => decide (x < 0x110000)) = true
  rw [← Array.all_toList, List.all_eq_true]
  intro c hc
  have := h.2 c hc
  unfold letter at this
  exact decide_eq_true (by omega)
theorem rows_named {nm : List Str} {rs : List Row} (hn : ∀ x ∈ nm, NameOk x) (h : RowsOk (· ∈ nm) rs) : ∀ r ∈ rs, NmOk r := by
  intro r hr
  obtain ⟨i, hi⟩ := List.mem_iff_getElem?.mp hr
  have ok := h i r hi
  cases r with
  | inn n k => exact name_str (hn _ ok.1)
  | _ => exact True.intro

def sp_Sheet__init (K : PySem.W.Frag) : Sp := fun vs H Q _ => ∃ (s C dx : Addr), vs = [.ref s] ∧ H s = some (.ins C dx []) ∧ IsC K "Sheet" C ∧ ∀ (r : Addr) (H1 : Hp), H r = none → Same H H1 → H1 r = some (.lst []) → Q .non (upd H1 s (.ins C dx [("rows", .ref r)]))
theorem ok_Sheet__init (T : Top K mg) : FnOk P w K mg base CX0 1 T.a_Sheet__init T.d_Sheet__init ["self"] (sp_Sheet__init K) := by
  refine T.f_Sheet__init.ok sc_Sheet__init (fun vs H Q E h => ?_) (fun cdv A outer s H vs Q E hr h => ?_)
  · obtain ⟨s, C, dx, rfl, _⟩ := h
    rfl
  obtain ⟨s, C, dx, rfl, h⟩ := h
  refine ⟨_, (pss_one (ps_fld (pv 0) (pe_lst pa_nil) rfl)), ?_⟩
  try dsimp only [cxOf, Cx.nox, Cx.wish]
  simp only [L2.start, List.map_cons, List.map_nil, List.length_cons, List.length_nil, Nat.reduceAdd, Nat.reduceSub, List.replicate_succ, List.replicate_zero, List.cons_append, List.nil_append]
  obtain ⟨hs, hC, h⟩ := h
  obtain rfl := hC.one T.nc_Sheet
  have c1 := T.cl_Sheet
  have c2 := T.n_Sheet_rows
  walk_at "ws"
  rename_i r H1 n1 s1 e1
  exact h r H1 n1 s1 e1
def sp_Sheet_add (K : PySem.W.Frag) : Sp := fun vs H Q _ => ∃ (s r : Addr) (xs : List V) (y : V), vs = [.ref s, y] ∧ SheetAt K H s r ∧ H r = some (.lst xs) ∧ xs.length ≤ 100000 ∧ Q (.int (xs.length : Int)) (upd H r (.lst (xs ++ [y])))
theorem ok_Sheet_add (T : Top K mg) : FnOk P w K mg base CX0 1 T.a_Sheet_add T.d_Sheet_add ["self", "row"] (sp_Sheet_add K) := by
  refine T.f_Sheet_add.ok sc_Sheet_add (fun vs H Q E h => ?_) (fun cdv A outer s H vs Q E hr h => ?_)
  · obtain ⟨s, r, xs, y, rfl, _⟩ := h
    rfl
  obtain ⟨s, r, xs, y, rfl, h⟩ := h
  refine ⟨_, (pss_cons (ps_expr (pe_bm PySem.F.plainAttrs_list PySem.F.slot_list_append PySem.F.type_list_append mt_append (pe_fld (pv 0) rfl) (pa_cons (pv 1) pa_nil)))
      (pss_one (ps_ret (pe_op op_sub (pe_callB (c_lenK K) (by rfl) T.z_len PySem.boot_len (pa_cons (pe_fld (pv 0) rfl) pa_nil)) pe_int)))), ?_⟩
  try dsimp only [cxOf, Cx.nox, Cx.wish]
  simp only [L2.start, List.map_cons, List.map_nil, List.length_cons, List.length_nil, Nat.reduceAdd, Nat.reduceSub, List.replicate_succ, List.replicate_zero, List.cons_append, List.nil_append]
  obtain ⟨⟨C, dx, hs, hC⟩, hr, hl, h⟩ := h
  obtain rfl := hC.one T.nc_Sheet
  have c1 := T.cl_Sheet
  have c2 := T.n_Sheet_rows
  have ne : s ≠ r := fun z => by
    rw [z, hr] at hs
    cases hs
  walk_at "ws"
  have e : (((xs ++ [y]).length : Nat) : Int) - 1 = (xs.length : Int) := by
    rw [List.length_append, List.length_singleton]
    omega
  rw [e]
  exact h
def sp_Sheet_rows_now (K : PySem.W.Frag) : Sp := fun vs H Q _ => ∃ (s r : Addr) (xs : List V), vs = [.ref s] ∧ SheetAt K H s r ∧ H r = some (.lst xs) ∧ xs.length ≤ 100000 ∧ ∀ p H', H p = none → Same H H' → H' p = some (.lst xs) → Q (.ref p) H'
theorem ok_Sheet_rows_now (T : Top K mg) : FnOk P w K mg base CX0 1 T.a_Sheet_rows_now T.d_Sheet_rows_now ["self"] (sp_Sheet_rows_now K) := by
  refine T.f_Sheet_rows_now.ok sc_Sheet_rows_now (fun vs H Q E h => ?_) (fun cdv A outer s H vs Q E hr h => ?_)
  · obtain ⟨s, r, xs, rfl, _⟩ := h
    rfl
  obtain ⟨s, r, xs, rfl, h⟩ := h
  refine ⟨_, (pss_one (ps_ret (pe_callTy (c_listK K) (by rfl) T.z_list (by decide +kernel) (pa_cons (pe_fld (pv 0) rfl) pa_nil)))), ?_⟩
  try dsimp only [cxOf, Cx.nox, Cx.wish]
  simp only [L2.start, List.map_cons, List.map_nil, List.length_cons, List.length_nil, Nat.reduceAdd, Nat.reduceSub, List.replicate_succ, List.replicate_zero, List.cons_append, List.nil_append]
  obtain ⟨⟨C, dx, hs, hC⟩, hr, hl, h⟩ := h
  obtain rfl := hC.one T.nc_Sheet
  have c1 := T.cl_Sheet
  have c2 := T.n_Sheet_rows
  walk_at "ws"
  rename_i p H1 n1 s1 e1
  exact h p H1 n1 s1 e1

theorem row_at {ps : List Addr} {i : Nat} (h : i < ps.length) : atI (ps.map V.ref) (i : Int) = some (.ref ps[i]) := atI_nat (by rw [List.getElem?_map, List.getElem?_eq_getElem h]; rfl)
def sp_law_row (K : PySem.W.Frag) : Sp := fun vs H Q _ => ∃ (a c : Addr) (rs is : List Row) (nm : List Str) (n : Int), vs = [.ref a, .ref c, .int n] ∧ RowsL K H a rs ∧ RowsL K H c is ∧ (∀ r ∈ is, inRow nm r) ∧ (1 ≤ is.length ∧ is.length ≤ 1000) ∧ 0 ≤ n ∧
  ∀ (r : Row) (p : Addr) (H' : Hp), Same H H' → RowAt H' p r → RowOk (· ∈ nm) rs.length r → Q (.ref p) H'
theorem ok_law_row (T : Top K mg) : FnOk P w K mg base CX0 1 T.a_law_row T.d_law_row ["_law_rows", "_law_ins_here", "_law_number"] (sp_law_row K) := by
  refine T.f_law_row.ok sc_law_row (fun vs H Q E h => ?_) (fun cdv A outer s H vs Q E hr h => ?_)
  · obtain ⟨a, c, rs, is, nm, n, rfl, _⟩ := h
    rfl
  obtain ⟨a, c, rs, is, nm, n, rfl, h⟩ := h
  refine ⟨_, (pss_cons (ps_set (i := 3) sc_law_row.nd rfl (.inl rfl) (pe_callB (c_lenK K) (by rfl) T.z_len PySem.boot_len (pa_cons (pv 0) pa_nil)))
      (pss_cons (ps_set (i := 4) sc_law_row.nd rfl (.inl rfl) (pe_op op_fdiv (pv 2) pe_int))
      (pss_cons (ps_if (PW.pt (pw_or (pt_cmpR op_eq (pv 3) pe_int (nomark _)) (pw_or1 (pt_cmpR op_lt (pe_op op_mod (pv 2) pe_int) pe_int (nomark _))))) (pss_one (ps_ret (pe_ix (ix_listK K) (pv 1) (pe_op op_mod (pv 4) (pe_callB (c_lenK K) (by rfl) T.z_len PySem.boot_len (pa_cons (pv 1) pa_nil))) (fun _ _ => rfl)))) pss_nil)
      (pss_cons (ps_if (pt_cmpR op_eq (pe_op op_mod (pv 2) pe_int) pe_int (nomark _)) (pss_one (ps_ret (pe_tup (pa_cons pe_str (pa_cons (pe_op op_mod (pv 4) pe_int) pa_nil))))) pss_nil)
      (pss_cons (ps_if (pt_cmpR op_lt (pe_op op_mod (pv 2) pe_int) pe_int (nomark _)) (pss_one (ps_ret (pe_tup (pa_cons (pe_ix (ix_listK K) (pe_lst (pa_cons pe_str (pa_cons pe_str pa_nil))) (pe_op op_sub (pe_op op_mod (pv 2) pe_int) pe_int) (fun _ _ => rfl)) (pa_cons (pe_op op_mod (pv 4) (pv 3)) pa_nil))))) pss_nil)
      (pss_one (ps_ret (pe_tup (pa_cons (pe_ix (ix_listK K) (pe_lst (pa_cons pe_str (pa_cons pe_str (pa_cons pe_str pa_nil)))) (pe_op op_sub (pe_op op_mod (pv 2) pe_int) pe_int) (fun _ _ => rfl)) (pa_cons (pe_op op_mod (pv 4) (pv 3)) (pa_cons (pe_op op_mod (pe_op op_fdiv (pv 2) pe_int) (pv 3)) pa_nil))))))))))), ?_⟩
  try dsimp only [cxOf, Cx.nox, Cx.wish]
  simp only [L2.start, List.map_cons, List.map_nil, List.length_cons, List.length_nil, Nat.reduceAdd, Nat.reduceSub, List.replicate_succ, List.replicate_zero, List.cons_append, List.nil_append]
  obtain ⟨⟨ps, hS, hA⟩, ⟨qs, hI, hB⟩, hin, hil, hn, h⟩ := h
  have hpl := hA.1
  have hql := hB.1
  have hpm : (ps.map V.ref).length = rs.length := by rw [List.length_map]; exact hpl
  have hqm : (qs.map V.ref).length = is.length := by rw [List.length_map]; exact hql
  have hfetch : ∀ z : Int, 0 ≤ z ∧ z < is.length → ∃ (q : Addr) (r : Row), atI (qs.map V.ref) z = some (.ref q) ∧ RowAt H q r ∧ inRow nm r := fun z hz => by
    obtain ⟨k, rfl⟩ := Int.eq_ofNat_of_zero_le hz.1
    have hk : k < qs.length := by omega
    obtain ⟨r, hr1, hr2⟩ := hB.get (List.getElem?_eq_getElem hk)
    exact ⟨qs[k], r, row_at hk, hr2, hin r (List.mem_of_getElem? hr1)⟩
  have m0 : 0 ≤ n / 512 := by omega
  walk_at "ws"
  · obtain ⟨q, r, f1, f2, x, k, rfl, f3, f4⟩ := hfetch (n / 512 % ((qs.map V.ref).length : Int)) (by rw [hqm]; exact ⟨Int.emod_nonneg _ (by omega), Int.emod_lt_of_pos _ (by omega)⟩)
    refine w_ixL hI f1 ?_
    walk_at "ws"
    exact h _ q H (Same.refl _) f2 ⟨f3, f4⟩
  · obtain ⟨q, r, f1, f2, x, k, rfl, f3, f4⟩ := hfetch (n / 512 % ((qs.map V.ref).length : Int)) (by rw [hqm]; exact ⟨Int.emod_nonneg _ (by omega), Int.emod_lt_of_pos _ (by omega)⟩)
    refine w_ixL hI f1 ?_
    walk_at "ws"
    exact h _ q H (Same.refl _) f2 ⟨f3, f4⟩
  · rename_i p1 H1 n1 s1 e1
    exact h (.fix (n / 512 % 2)) p1 H1 s1 e1 (by show _ ∨ _; omega)
  · rename_i hne _ _ _ p1 H1 n1 s1 e1
    have w0 : 0 ≤ n / 512 % ((ps.map V.ref).length : Int) := Int.emod_nonneg _ (by omega)
    have w1 : n / 512 % ((ps.map V.ref).length : Int) < ((ps.map V.ref).length : Int) := Int.emod_lt_of_pos _ (by omega)
    obtain ⟨b, hb⟩ : ∃ b : Bool, atI [V.str "not", V.str "latch"] (n % 8 - 3) = some (.str (if b then "not" else "latch")) := by
      rcases (show n % 8 - 3 = 0 ∨ n % 8 - 3 = 1 by omega) with e | e <;> rw [e]
      · exact ⟨true, rfl⟩
      · exact ⟨false, rfl⟩
    refine w_ixL (SqL.of e1) hb ?_
    walk_at "ws"
    rename_i p2 H2 n2 s2 e2
    generalize n / 512 % ((ps.map V.ref).length : Int) = z at *
    obtain ⟨zn, rfl⟩ := Int.eq_ofNat_of_zero_le w0
    cases b with
    | true => exact h (.inv zn) p2 H2 (s1.trans s2) e2 (show zn < rs.length by omega)
    | false => exact h (.lat zn) p2 H2 (s1.trans s2) e2 (show zn < rs.length by omega)
  · rename_i hne _ _ _ p1 H1 n1 s1 e1
    have w0 : 0 ≤ n / 512 % ((ps.map V.ref).length : Int) := Int.emod_nonneg _ (by omega)
    have w1 : n / 512 % ((ps.map V.ref).length : Int) < ((ps.map V.ref).length : Int) := Int.emod_lt_of_pos _ (by omega)
    have w2 : 0 ≤ n / 8 % ((ps.map V.ref).length : Int) := Int.emod_nonneg _ (by omega)
    have w3 : n / 8 % ((ps.map V.ref).length : Int) < ((ps.map V.ref).length : Int) := Int.emod_lt_of_pos _ (by omega)
    obtain ⟨o, ho⟩ : ∃ o, atI [V.str "and", V.str "or", V.str "xor"] (n % 8 - 5) = some (.str (bopS o)) := by
      rcases (show n % 8 - 5 = 0 ∨ n % 8 - 5 = 1 ∨ n % 8 - 5 = 2 by omega) with e | e | e <;> rw [e]
      · exact ⟨.and, rfl⟩
      · exact ⟨.or, rfl⟩
      · exact ⟨.xor, rfl⟩
    refine w_ixL (SqL.of e1) ho ?_
    walk_at "ws"
    rename_i p2 H2 n2 s2 e2
    generalize n / 512 % ((ps.map V.ref).length : Int) = z at *
    generalize n / 8 % ((ps.map V.ref).length : Int) = y at *
    obtain ⟨zn, rfl⟩ := Int.eq_ofNat_of_zero_le w0
    obtain ⟨yn, rfl⟩ := Int.eq_ofNat_of_zero_le w2
    exact h (.bin o zn yn) p2 H2 (s1.trans s2) e2 ⟨by omega, by omega⟩
def sp_law_same (K : PySem.W.Frag) : Sp := fun vs H Q _ => ∃ (f d : Addr) (ps qs : List Addr) (rs : List Row), vs = [.ref f, .ref d] ∧ H f = some (.lst (ps.map V.ref)) ∧ A2 (RowAt H) ps rs ∧ H d = some (.lst (qs.map V.ref)) ∧ A2 (RowAt H) qs rs ∧ (∀ r ∈ rs, NmOk r) ∧ rs.length ≤ 100000 ∧ ∀ H', Same H H' → Q (.bl true) H'
theorem shaped_row {r : Row} (h : NmOk r) : SeqAt.shaped (rowD r) = true := by
  unfold SeqAt.shaped
  rw [lay_row h, Bool.true_and]
  have := depth_row r
  exact decide_eq_true (by omega)
theorem ok_law_same (T : Top K mg) : FnOk P w K mg base CX0 1 T.a_law_same T.d_law_same ["_law_found", "_law_due"] (sp_law_same K) := by
  refine T.f_law_same.ok sc_law_same (fun vs H Q E h => ?_) (fun cdv A outer s H vs Q E hr h => ?_)
  · obtain ⟨f, d, ps, qs, rs, rfl, _⟩ := h
    rfl
  obtain ⟨f, d, ps, qs, rs, rfl, h⟩ := h
  refine ⟨_, (pss_cons (ps_if (PW.pt (pw_or (pt_not (pt_val (pe_callB (c_isiK K) (by rfl) T.z_isinstance (by decide +kernel) (pa_cons (pv 0) (pa_cons (pe_bltn (v := .ty "list") (by rfl) T.z_list (by decide +kernel) rfl) pa_nil))))) (pw_or1 (pt_cmpR op_ne (pe_callB (c_lenK K) (by rfl) T.z_len PySem.boot_len (pa_cons (pv 0) pa_nil)) (pe_callB (c_lenK K) (by rfl) T.z_len PySem.boot_len (pa_cons (pv 1) pa_nil)) (nomark _))))) (pss_one (ps_ret pe_bl)) pss_nil)
      (pss_cons (ps_for PassesOwn.never rfl (pi_range1 (by rfl) T.z_range (pa_cons (pe_callB (c_lenK K) (by rfl) T.z_len PySem.boot_len (pa_cons (pv 1) pa_nil)) pa_nil)) (pg_name (i := 2) sc_law_same.nd rfl (.inl rfl))
      (pss_one (ps_if (PW.pt (pw_or (pt_not (pt_val (pe_callB (c_isiK K) (by rfl) T.z_isinstance (by decide +kernel) (pa_cons (pe_ix (ix_listK K) (pv 0) (pv 2) (fun _ _ => rfl)) (pa_cons (pe_bltn (v := .ty "tuple") (by rfl) T.z_tuple (by decide +kernel) rfl) pa_nil))))) (pw_or1 (pt_cmpR (op_neD hr.units) (pe_ix (ix_listK K) (pv 0) (pv 2) (fun _ _ => rfl)) (pe_ix (ix_listK K) (pv 1) (pv 2) (fun _ _ => rfl)) (nomark _))))) (pss_one (ps_ret pe_bl)) pss_nil)))
      (pss_one (ps_ret pe_bl)))), ?_⟩
  try dsimp only [cxOf, Cx.nox, Cx.wish]
  simp only [L2.start, List.map_cons, List.map_nil, List.length_cons, List.length_nil, Nat.reduceAdd, Nat.reduceSub, List.replicate_succ, List.replicate_zero, List.cons_append, List.nil_append]
  obtain ⟨hf, hA, hd, hB, hnm, hl, h⟩ := h
  have hpl := hA.1
  have hql := hB.1
  have hpm : (ps.map V.ref).length = rs.length := by rw [List.length_map]; exact hpl
  have hqm : (qs.map V.ref).length = rs.length := by rw [List.length_map]; exact hql
  walk_at "ws"
  refine for_r (fun t σ' G => ∃ (y2 : Option V), σ' = [some (.ref f), some (.ref d), y2] ∧ Same H G) ⟨_, rfl, Same.refl _⟩ (fun t σ' G ht q => ?_) (fun σ' G q => ?_)
  · obtain ⟨y2, rfl, sG⟩ := q
    have h1 : t < ps.length := by omega
    have h2 : t < qs.length := by omega
    obtain ⟨r, hb1, hb2⟩ := hA.get (List.getElem?_eq_getElem h1)
    obtain ⟨r', hb3, hb4⟩ := hB.get (List.getElem?_eq_getElem h2)
    rw [hb1] at hb3
    cases hb3
    have hr2 : G ps[t] = some (.tup (rowV r)) := sG _ _ hb2
    walk_at "ws"
    refine w_ixL (SqL.of (sG _ _ hf)) (row_at h1) ?_
    walk_at "ws"
    refine w_ixL (SqL.of (sG _ _ hf)) (row_at h1) ?_
    walk_at "ws"
    refine w_ixL (SqL.of (sG _ _ hd)) (row_at h2) ?_
    walk_at "ws"
    refine w_neSame (rowD r) (dp_row (sG _ _ hb2)) (dp_row (sG _ _ hb4)) (shaped_row (hnm r (List.mem_of_getElem? hb1))) ?_
    walk_at "ws"
    exact ⟨_, rfl, sG⟩
  · obtain ⟨y2, rfl, sG⟩ := q
    walk_at "ws"
    exact h _ sG

theorem new_sheet {C : Addr} {H : Hp} {Q : VK} {E : XK} (hC : IsC K "Sheet" C) (h : ∀ (s r : Addr) (H' : Hp), H s = none → H r = none → Same H H' → SheetAt K H' s r → H' r = some (.lst []) → Q (.ref s) H') :
    ∀ x dx, H x = none → H dx = none → dx ≠ x → sp_Sheet__init K (.ref x :: ([] ++ [])) (upd (upd H dx (.own x)) x (.ins C dx [])) (fun v H2 => v = .non ∧ Q (.ref x) H2) E := by
  intro x dx nx ndx ne
  refine ⟨x, C, dx, rfl, upd_same, hC, fun r H1 nr s1 e1 => ⟨rfl, ?_⟩⟩
  have h1 : r ≠ x := fun z => by
    rw [z, upd_same] at nr
    cases nr
  have h2 : r ≠ dx := fun z => by
    rw [z, upd_ne ne, upd_same] at nr
    cases nr
  have nr2 : H r = none := by
    rw [upd_ne h1, upd_ne h2] at nr
    exact nr
  have s0 : Same H (upd (upd H dx (.own x)) x (.ins C dx [])) := same_mut (same_upd ndx) nx
  exact h x r _ nx nr2 (same_mut (s0.trans s1) nx) ⟨C, dx, upd_same, hC⟩ (by rw [upd_ne h1]; exact e1)
theorem w_newSheet {C : Addr} {σ : L2.St} {H : Hp} {Q : VK} {E : XK} (hC : IsC K "Sheet" C) (h : ∀ (s r : Addr) (H' : Hp), H s = none → H r = none → Same H H' → SheetAt K H' s r → H' r = some (.lst []) → Q (.ref s) H') : tMake C (sp_Sheet__init K) [] E tNil σ H Q :=
  new_sheet hC h
/-- all objects but those of M stay -/
def SameX (M : List Addr) (H H' : Hp) : Prop := ∀ a o, a ∉ M → H a = some o → H' a = some o
theorem SameX.refl (M : List Addr) (H : Hp) : SameX M H H := fun _ _ _ h => h
theorem SameX.trans {M : List Addr} {H G J : Hp} (h : SameX M H G) (k : SameX M G J) : SameX M H J := fun a o n e => k a o n (h a o n e)
theorem Same.sx {M : List Addr} {H G : Hp} (h : Same H G) : SameX M H G := fun a o _ e => h a o e
theorem SameX.upd {M : List Addr} {H : Hp} {a : Addr} {u : HO} (h : a ∈ M) : SameX M H (upd H a u) := fun b o n e => by
  rw [upd_ne (fun z => n (by rw [z]; exact h))]
  exact e
def LstM (M : List Addr) (G : Hp) : Prop := ∀ m ∈ M, ∃ xs, G m = some (.lst xs)
theorem LstM.same {M : List Addr} {G G' : Hp} (h : LstM M G) (s : Same G G') : LstM M G' := fun m hm => by
  obtain ⟨xs, e⟩ := h m hm
  exact ⟨xs, s _ _ e⟩
theorem LstM.upd {M : List Addr} {G : Hp} {a : Addr} {ys : List V} (h : LstM M G) : LstM M (upd G a (.lst ys)) := fun m hm => by
  by_cases e : m = a
  · exact ⟨ys, by rw [e, upd_same]⟩
  · obtain ⟨xs, k⟩ := h m hm
    exact ⟨xs, by rw [upd_ne e]; exact k⟩
theorem LstM.notin {M : List Addr} {G : Hp} {a : Addr} {xs : List V} (h : LstM M G) (e : G a = some (.tup xs)) : a ∉ M := fun m => by
  obtain ⟨ys, k⟩ := h a m
  rw [e] at k
  cases k
theorem LstM.fresh {M : List Addr} {G : Hp} {a : Addr} (h : LstM M G) (e : G a = none) : a ∉ M := fun m => by
  obtain ⟨ys, k⟩ := h a m
  rw [e] at k
  cases k
theorem RowAt.sx {M : List Addr} {G G' : Hp} {p : Addr} {r : Row} (hM : LstM M G) (s : SameX M G G') (h : RowAt G p r) : RowAt G' p r := s _ _ (hM.notin h) h
/-- two lists of the same rows, held -/
def HeldAt (M : List Addr) (G : Hp) (x : Addr) : Prop := ∃ (f d : Addr) (pf pd : List Addr) (rs : List Row), G x = some (.tup [.ref f, .ref d]) ∧ f ∉ M ∧ d ∉ M ∧ G f = some (.lst (pf.map V.ref)) ∧ G d = some (.lst (pd.map V.ref)) ∧ A2 (RowAt G) pf rs ∧ A2 (RowAt G) pd rs ∧ ∀ r ∈ rs, NmOk r
theorem HeldAt.sx {M : List Addr} {G G' : Hp} {x : Addr} (hM : LstM M G) (s : SameX M G G') (h : HeldAt M G x) : HeldAt M G' x := by
  obtain ⟨f, d, pf, pd, rs, e, n1, n2, ef, ed, h1, h2, h3⟩ := h
  exact ⟨f, d, pf, pd, rs, s _ _ (hM.notin e) e, n1, n2, s _ _ n1 ef, s _ _ n2 ed, h1.mono fun _ _ k => k.sx hM s, h2.mono fun _ _ k => k.sx hM s, h3⟩
def pick (b : Bool) (u v : Addr) : Addr := if b then v else u
theorem two_at (u v : Addr) (x : Int) : atI [V.ref u, V.ref v] (x % 2) = some (.ref (pick (decide (x % 2 = 1)) u v)) := by
  rcases (show x % 2 = 0 ∨ x % 2 = 1 by omega) with e | e <;> rw [e] <;> rfl
def Ms (r q : Bool → Addr) (o : Addr) : List Addr := [r false, r true, q false, q true, o]
structure Apart (r q : Bool → Addr) (o : Addr) : Prop where
  rq : ∀ c d, r c ≠ q d
  rr : r false ≠ r true
  qq : q false ≠ q true
  ro : ∀ c, r c ≠ o
  qo : ∀ c, q c ≠ o
theorem Apart.r2 {r q : Bool → Addr} {o : Addr} (h : Apart r q o) {c d : Bool} (e : c ≠ d) : r c ≠ r d := by
  cases c <;> cases d
  · exact absurd rfl e
  · exact h.rr
  · exact h.rr.symm
  · exact absurd rfl e
theorem Apart.q2 {r q : Bool → Addr} {o : Addr} (h : Apart r q o) {c d : Bool} (e : c ≠ d) : q c ≠ q d := by
  cases c <;> cases d
  · exact absurd rfl e
  · exact h.qq
  · exact h.qq.symm
  · exact absurd rfl e
theorem Ms.r (r q : Bool → Addr) (o : Addr) (b : Bool) : r b ∈ Ms r q o := by cases b <;> simp [Ms]
theorem Ms.q (r q : Bool → Addr) (o : Addr) (b : Bool) : q b ∈ Ms r q o := by cases b <;> simp [Ms]
theorem Ms.o (r q : Bool → Addr) (o : Addr) : o ∈ Ms r q o := by simp [Ms]
/-- two sheets' rows and what was put to them, and the held lists -/
structure Two (G : Hp) (r q : Bool → Addr) (o : Addr) (ps : Bool → List Addr) (rs : Bool → List Row) (ts : List Addr) (nm : List Str) : Prop where
  hr : ∀ b, G (r b) = some (.lst ((ps b).map V.ref))
  hq : ∀ b, G (q b) = some (.lst ((ps b).map V.ref))
  ha : ∀ b, A2 (RowAt G) (ps b) (rs b)
  ok : ∀ b, RowsOk (· ∈ nm) (rs b)
  ho : G o = some (.lst (ts.map V.ref))
  held : ∀ x ∈ ts, HeldAt (Ms r q o) G x
theorem Two.lm {G : Hp} {r q : Bool → Addr} {o : Addr} {ps : Bool → List Addr} {rs : Bool → List Row} {ts : List Addr} {nm : List Str} (h : Two G r q o ps rs ts nm) : LstM (Ms r q o) G := by
  intro m hm
  simp only [Ms, List.mem_cons, List.not_mem_nil, or_false] at hm
  rcases hm with rfl | rfl | rfl | rfl | rfl
  · exact ⟨_, h.hr false⟩
  · exact ⟨_, h.hr true⟩
  · exact ⟨_, h.hq false⟩
  · exact ⟨_, h.hq true⟩
  · exact ⟨_, h.ho⟩
theorem Two.same {G G' : Hp} {r q : Bool → Addr} {o : Addr} {ps : Bool → List Addr} {rs : Bool → List Row} {ts : List Addr} {nm : List Str} (h : Two G r q o ps rs ts nm) (s : Same G G') : Two G' r q o ps rs ts nm :=
  ⟨fun b => s _ _ (h.hr b), fun b => s _ _ (h.hq b), fun b => (h.ha b).mono fun _ _ e => s _ _ e, h.ok, s _ _ h.ho, fun x hx => (h.held x hx).sx h.lm (Same.sx s)⟩
theorem Two.put {G : Hp} {r q : Bool → Addr} {o p : Addr} {ps : Bool → List Addr} {rs : Bool → List Row} {ts : List Addr} {nm : List Str} {w : Row} (h : Two G r q o ps rs ts nm) (D : Apart r q o) (b : Bool) (hp : RowAt G p w) (hw : RowOk (· ∈ nm) (rs b).length w) :
    Two (upd (upd G (r b) (.lst ((ps b).map V.ref ++ [.ref p]))) (q b) (.lst ((ps b).map V.ref ++ [.ref p]))) r q o (fun c => if c = b then ps c ++ [p] else ps c) (fun c => if c = b then rs c ++ [w] else rs c) ts nm := by
  have sx : SameX (Ms r q o) G (upd (upd G (r b) (.lst ((ps b).map V.ref ++ [.ref p]))) (q b) (.lst ((ps b).map V.ref ++ [.ref p]))) := (SameX.upd (Ms.r r q o b)).trans (SameX.upd (Ms.q r q o b))
  have lm := h.lm
  refine ⟨fun c => ?_, fun c => ?_, fun c => ?_, fun c => ?_, ?_, fun x hx => (h.held x hx).sx lm sx⟩
  · rw [upd_ne (D.rq c b)]
    by_cases e : c = b
    · subst e
      rw [upd_same, if_pos rfl, List.map_append]
      rfl
    · rw [upd_ne (D.r2 e), if_neg e]
      exact h.hr c
  · by_cases e : c = b
    · subst e
      rw [upd_same, if_pos rfl, List.map_append]
      rfl
    · rw [upd_ne (D.q2 e), upd_ne (D.rq b c).symm, if_neg e]
      exact h.hq c
  · have k := (h.ha c).mono fun _ _ e => RowAt.sx lm sx e
    by_cases e : c = b
    · subst e
      rw [if_pos rfl, if_pos rfl]
      exact k.snoc (hp.sx lm sx)
    · rw [if_neg e, if_neg e]
      exact k
  · by_cases e : c = b
    · subst e
      rw [if_pos rfl]
      exact (h.ok c).snoc hw
    · rw [if_neg e]
      exact h.ok c
  · rw [upd_ne (D.qo b).symm, upd_ne (D.ro b).symm]
    exact h.ho
theorem Two.hold {G : Hp} {r q : Bool → Addr} {o x : Addr} {ps : Bool → List Addr} {rs : Bool → List Row} {ts : List Addr} {nm : List Str} (h : Two G r q o ps rs ts nm) (D : Apart r q o) (hx : HeldAt (Ms r q o) G x) :
    Two (upd G o (.lst (ts.map V.ref ++ [.ref x]))) r q o ps rs (ts ++ [x]) nm := by
  have lm := h.lm
  have sx : SameX (Ms r q o) G (upd G o (.lst (ts.map V.ref ++ [.ref x]))) := SameX.upd (Ms.o r q o)
  refine ⟨fun c => ?_, fun c => ?_, fun c => (h.ha c).mono fun _ _ e => RowAt.sx lm sx e, h.ok, ?_, fun y hy => ?_⟩
  · rw [upd_ne (D.ro c)]; exact h.hr c
  · rw [upd_ne (D.qo c)]; exact h.hq c
  · rw [upd_same, List.map_append]; rfl
  · rcases List.mem_append.mp hy with e | e
    · exact (h.held y e).sx lm sx
    · rw [List.mem_singleton.mp e]
      exact hx.sx lm sx
theorem Two.hold2 {G J : Hp} {r q : Bool → Addr} {o x : Addr} {ps : Bool → List Addr} {rs : Bool → List Row} {ts : List Addr} {nm : List Str} (h : Two G r q o ps rs ts nm) (D : Apart r q o) (sX : ∀ a u, a ≠ o → G a = some u → J a = some u) (eo : J o = some (.lst ((ts ++ [x]).map V.ref))) (hx : HeldAt (Ms r q o) J x) :
    Two J r q o ps rs (ts ++ [x]) nm := by
  have lm := h.lm
  have sx : SameX (Ms r q o) G J := fun a u n e => sX a u (fun z => n (by rw [z]; exact Ms.o r q o)) e
  refine ⟨fun c => sX _ _ (D.ro c) (h.hr c), fun c => sX _ _ (D.qo c) (h.hq c), fun c => (h.ha c).mono fun _ _ e => RowAt.sx lm sx e, h.ok, eo, fun y hy => ?_⟩
  rcases List.mem_append.mp hy with e | e
  · exact (h.held y e).sx lm sx
  · rw [List.mem_singleton.mp e]
    exact hx
def sp_law (K : PySem.W.Frag) : Sp := fun vs H Q _ => ∃ (a : Addr) (ns : List Int), vs = [.ref a] ∧ SqL K H a (ns.map V.int) ∧ ns.length ≤ 63 ∧ (∀ z ∈ ns, Builtin.Int.intBits z ≤ 1048576) ∧ ∀ H', Q (.bl true) H'
theorem ok_law (T : Top K mg) : FnOk P w K mg base CX0 3 T.a_law T.d_law ["_law_script"] (sp_law K) := by
  refine T.f_law.ok sc_law (fun vs H Q E h => ?_) (fun cdv A outer s H vs Q E hr h => ?_)
  · obtain ⟨a, ns, rfl, _⟩ := h
    rfl
  obtain ⟨a, ns, rfl, h⟩ := h
  refine ⟨_, (pss_cons (ps_set (i := 1) sc_law.nd rfl (.inl rfl) (pe_call (ok_law_names T) (hr.mono (by decide)) (by rfl) T.g_law_names T.f_law_names.kp T.b_law_names .nil pass0 (pa_cons (pe_call (ok_law_mixed T) (hr.mono (by decide)) (by rfl) T.g_law_mixed T.f_law_mixed.kp T.b_law_mixed .nil pass0 (pa_cons (pe_call (ok_law_at T) (hr.mono (by decide)) (by rfl) T.g_law_at T.f_law_at.kp T.b_law_at .nil pass0 (pa_cons (pv 0) (pa_cons pe_int pa_nil))) (pa_cons pe_int pa_nil))) pa_nil)))
      (pss_cons (ps_set (i := 2) sc_law.nd rfl (.inl rfl) (pe_call (ok_law_ins T) (hr.mono (by decide)) (by rfl) T.g_law_ins T.f_law_ins.kp T.b_law_ins .nil pass0 (pa_cons (pv 1) (pa_cons (pe_call (ok_law_mixed T) (hr.mono (by decide)) (by rfl) T.g_law_mixed T.f_law_mixed.kp T.b_law_mixed .nil pass0 (pa_cons (pe_call (ok_law_at T) (hr.mono (by decide)) (by rfl) T.g_law_at T.f_law_at.kp T.b_law_at .nil pass0 (pa_cons (pv 0) (pa_cons pe_int pa_nil))) (pa_cons pe_int pa_nil))) (pa_cons pe_int pa_nil)))))
      (pss_cons (ps_set (i := 3) sc_law.nd rfl (.inl rfl) (pe_lst (pa_cons (pe_make0 T.mk_Sheet (ok_Sheet__init T) (hr.mono (by decide)) (by rfl) T.gc_Sheet T.b_Sheet__init .nil pass0) (pa_cons (pe_make0 T.mk_Sheet (ok_Sheet__init T) (hr.mono (by decide)) (by rfl) T.gc_Sheet T.b_Sheet__init .nil pass0) pa_nil))))
      (pss_cons (ps_set (i := 4) sc_law.nd rfl (.inl rfl) (pe_lst (pa_cons (pe_lst pa_nil) (pa_cons (pe_lst pa_nil) pa_nil))))
      (pss_cons (ps_set (i := 5) sc_law.nd rfl (.inl rfl) (pe_lst pa_nil))
      (pss_cons (ps_for PassesOwn.never rfl (pi_list (pe_call (ok_law_numbers T) (hr.mono (by decide)) (by rfl) T.g_law_numbers T.f_law_numbers.kp T.b_law_numbers .nil pass0 (pa_cons (pv 0) (pa_cons pe_int pa_nil)))) (pg_name (i := 6) sc_law.nd rfl (.inl rfl))
      (pss_cons (ps_set (i := 7) sc_law.nd rfl (.inl rfl) (pe_op op_mod (pv 6) pe_int))
      (pss_cons (ps_set (i := 8) sc_law.nd rfl (.inl rfl) (pe_call (ok_law_row T) (hr.mono (by decide)) (by rfl) T.g_law_row T.f_law_row.kp T.b_law_row .nil pass0 (pa_cons (pe_ix (ix_listK K) (pv 4) (pv 7) (fun _ _ => rfl)) (pa_cons (pv 2) (pa_cons (pe_op op_fdiv (pv 6) pe_int) pa_nil)))))
      (pss_cons (ps_set (i := 9) sc_law.nd rfl (.inl rfl) (pe_meth (pe_ix (ix_listK K) (pv 3) (pv 7) (fun _ _ => rfl)) T.cl_Sheet T.m_Sheet_add (ok_Sheet_add T) (hr.mono (by decide)) T.b_Sheet_add .nil pass0 (pa_cons (pv 8) pa_nil)))
      (pss_cons (ps_if (PW.pt (pw_or (pt_not (pt_val (pe_call (ok_law_whole T) (hr.mono (by decide)) (by rfl) T.g_law_whole T.f_law_whole.kp T.b_law_whole .nil pass0 (pa_cons (pv 9) pa_nil)))) (pw_or1 (pt_cmpR op_ne (pv 9) (pe_callB (c_lenK K) (by rfl) T.z_len PySem.boot_len (pa_cons (pe_ix (ix_listK K) (pv 4) (pv 7) (fun _ _ => rfl)) pa_nil)) (nomark _))))) (pss_one (ps_ret pe_bl)) pss_nil)
      (pss_cons (ps_expr (pe_bm PySem.F.plainAttrs_list PySem.F.slot_list_append PySem.F.type_list_append mt_append (pe_ix (ix_listK K) (pv 4) (pv 7) (fun _ _ => rfl)) (pa_cons (pv 8) pa_nil)))
      (pss_one (ps_if (pt_cmpR op_eq (pe_op op_mod (pe_op op_add (pe_callB (c_lenK K) (by rfl) T.z_len PySem.boot_len (pa_cons (pe_ix (ix_listK K) (pv 4) pe_int (fun _ _ => rfl)) pa_nil)) (pe_callB (c_lenK K) (by rfl) T.z_len PySem.boot_len (pa_cons (pe_ix (ix_listK K) (pv 4) pe_int (fun _ _ => rfl)) pa_nil))) pe_int) pe_int (nomark _)) (pss_one (ps_for PassesOwn.never rfl (pi_range1 (by rfl) T.z_range (pa_cons pe_int pa_nil)) (pg_name (i := 10) sc_law.nd rfl (.inl rfl))
      (pss_cons (ps_set (i := 11) sc_law.nd rfl (.inl rfl) (pe_meth0 (pe_ix (ix_listK K) (pv 3) (pv 10) (fun _ _ => rfl)) T.cl_Sheet T.m_Sheet_rows_now (ok_Sheet_rows_now T) (hr.mono (by decide)) T.b_Sheet_rows_now .nil pass0))
      (pss_cons (ps_if (pt_not (pt_val (pe_call (ok_law_same T) (hr.mono (by decide)) (by rfl) T.g_law_same T.f_law_same.kp T.b_law_same .nil pass0 (pa_cons (pv 11) (pa_cons (pe_ix (ix_listK K) (pv 4) (pv 10) (fun _ _ => rfl)) pa_nil))))) (pss_one (ps_ret pe_bl)) pss_nil)
      (pss_cons (ps_expr (pe_bm PySem.F.plainAttrs_list PySem.F.slot_list_append PySem.F.type_list_append mt_append (pv 5) (pa_cons (pe_tup (pa_cons (pv 11) (pa_cons (pe_op op_cat (pe_callTy (c_listK K) (by rfl) T.z_list (by decide +kernel) (pa_cons (pe_ix (ix_listK K) (pv 4) (pv 10) (fun _ _ => rfl)) pa_nil)) (pe_lst (pa_cons (pe_tup (pa_cons pe_str (pa_cons pe_int pa_nil))) pa_nil))) pa_nil))) pa_nil)))
      (pss_one (ps_expr (pe_bm PySem.F.plainAttrs_list PySem.F.slot_list_append PySem.F.type_list_append mt_append (pv 11) (pa_cons (pe_tup (pa_cons pe_str (pa_cons pe_int pa_nil))) pa_nil))))))))) pss_nil))))))))
      (pss_cons (ps_for PassesOwn.never rfl (pi_list (pv 5)) (pg_tup (by rfl) (pgs_cons (pg_name (i := 11) sc_law.nd rfl (.inl rfl)) (pgs_cons (pg_name (i := 12) sc_law.nd rfl (.inl rfl)) pgs_nil)))
      (pss_one (ps_if (pt_cmpR (op_neD hr.units) (pv 11) (pv 12) (nomark _)) (pss_one (ps_ret pe_bl)) pss_nil)))
      (pss_one (ps_ret (pe_and (pe_call (ok_law_same T) (hr.mono (by decide)) (by rfl) T.g_law_same T.f_law_same.kp T.b_law_same .nil pass0 (pa_cons (pe_meth0 (pe_ix (ix_listK K) (pv 3) pe_int (fun _ _ => rfl)) T.cl_Sheet T.m_Sheet_rows_now (ok_Sheet_rows_now T) (hr.mono (by decide)) T.b_Sheet_rows_now .nil pass0) (pa_cons (pe_ix (ix_listK K) (pv 4) pe_int (fun _ _ => rfl)) pa_nil))) (pe_one (pe_call (ok_law_same T) (hr.mono (by decide)) (by rfl) T.g_law_same T.f_law_same.kp T.b_law_same .nil pass0 (pa_cons (pe_meth0 (pe_ix (ix_listK K) (pv 3) pe_int (fun _ _ => rfl)) T.cl_Sheet T.m_Sheet_rows_now (ok_Sheet_rows_now T) (hr.mono (by decide)) T.b_Sheet_rows_now .nil pass0) (pa_cons (pe_ix (ix_listK K) (pv 4) pe_int (fun _ _ => rfl)) pa_nil)))))))))))))), ?_⟩
  try dsimp only [cxOf, Cx.nox, Cx.wish]
  simp only [L2.start, List.map_cons, List.map_nil, List.length_cons, List.length_nil, Nat.reduceAdd, Nat.reduceSub, List.replicate_succ, List.replicate_zero, List.cons_append, List.nil_append]
  obtain ⟨hS, hlen, hb, h⟩ := h
  have hb : Bits ns := hb
  walk_at "ws"
  rename_i v0 b0 x0 y0 z0
  refine ⟨_, rfl, ⟨y0, z0⟩, fun nm pn Hn hn4 hnm nn sn en => ?_⟩
  walk_at "ws"
  rename_i v1 b1 x1 y1 z1
  refine ⟨_, nm, _, _, rfl, SqL.of en, hn4, ⟨y1, z1⟩, by omega, fun is pi Hi hil hin ni si hI => ?_⟩
  walk_at "ws"
  refine w_newSheet T.nc_Sheet fun sA rA HA nA nrA sA1 hA1 eA => ?_
  walk_at "ws"
  refine w_newSheet T.nc_Sheet fun sB rB HB nB nrB sB1 hB1 eB => ?_
  walk_at "ws"
  rename_i pL HL nL sL eL qA H1 n1 s1 e1 qB H2 n2 s2 e2 pR H3 n3 s3 e3 o H4 n4 s4 e4
  have sI4 : Same Hi H4 := ((((((sA1.trans sB1).trans sL).trans s1).trans s2).trans s3)).trans s4
  refine ⟨a, ns, 1, rfl, ((sn.trans si).trans sI4).seq hS, hb, by decide, fun xs px H5 hxl hx n5 s5 e5 => ?_⟩
  walk_at "ws"
  have eA2 : HB rA = some (.lst []) := sB1 _ _ eA
  have rA4 : H4 rA = some (.lst []) := s4 _ _ (s3 _ _ (s2 _ _ (s1 _ _ (sL _ _ eA2))))
  have rB4 : H4 rB = some (.lst []) := s4 _ _ (s3 _ _ (s2 _ _ (s1 _ _ (sL _ _ eB))))
  have qA4 : H4 qA = some (.lst []) := s4 _ _ (s3 _ _ (s2 _ _ e1))
  have qB4 : H4 qB = some (.lst []) := s4 _ _ (s3 _ _ e2)
  have pL4 : H4 pL = some (.lst [.ref sA, .ref sB]) := s4 _ _ (s3 _ _ (s2 _ _ (s1 _ _ eL)))
  have pR4 : H4 pR = some (.lst [.ref qA, .ref qB]) := s4 _ _ e3
  let r : Bool → Addr := fun b => if b then rB else rA
  let q : Bool → Addr := fun b => if b then qB else qA
  have lA1 : HL rA = some (.lst []) := sL _ _ eA2
  have lB1 : HL rB = some (.lst []) := sL _ _ eB
  have d1 : rA ≠ qA := ne_of_none lA1 n1
  have d2 : rB ≠ qA := ne_of_none lB1 n1
  have d3 : rA ≠ qB := ne_of_none (s1 _ _ lA1) n2
  have d4 : rB ≠ qB := ne_of_none (s1 _ _ lB1) n2
  have d5 : rA ≠ rB := ne_of_none eA nrB
  have d6 : qA ≠ qB := ne_of_none e1 n2
  have d7 : rA ≠ o := ne_of_none (s3 _ _ (s2 _ _ (s1 _ _ lA1))) n4
  have d8 : rB ≠ o := ne_of_none (s3 _ _ (s2 _ _ (s1 _ _ lB1))) n4
  have d9 : qA ≠ o := ne_of_none (s3 _ _ (s2 _ _ e1)) n4
  have d10 : qB ≠ o := ne_of_none (s3 _ _ e2) n4
  have D : Apart r q o := ⟨fun c d => by cases c <;> cases d <;> assumption, d5, d6, fun c => by cases c <;> assumption, fun c => by cases c <;> assumption⟩
  have two5 : Two H5 r q o (fun _ => []) (fun _ => []) [] nm := by
    refine Two.same (G := H4) ⟨fun b => ?_, fun b => ?_, fun b => A2.nil, fun b i w hw => (by cases hw), e4, fun x hx => (by cases hx)⟩ s5
    · cases b <;> assumption
    · cases b <;> assumption
  have lm5 := two5.lm
  have mem : ∀ z : Addr, z ≠ rA → z ≠ rB → z ≠ qA → z ≠ qB → z ≠ o → z ∉ Ms r q o := fun z h1 h2 h3 h4 h5 hm => by
    simp only [Ms, List.mem_cons, List.not_mem_nil, or_false] at hm
    rcases hm with k | k | k | k | k
    · exact h1 k
    · exact h2 k
    · exact h3 k
    · exact h4 k
    · exact h5 k
  have mL : pL ∉ Ms r q o := mem pL (ne_of_none eA2 nL).symm (ne_of_none eB nL).symm (ne_of_none eL n1) (ne_of_none (s1 _ _ eL) n2) (ne_of_none (s3 _ _ (s2 _ _ (s1 _ _ eL))) n4)
  have q3A : H2 qA = some (.lst []) := s2 _ _ e1
  have mR : pR ∉ Ms r q o := mem pR (ne_of_none (s2 _ _ (s1 _ _ lA1)) n3).symm (ne_of_none (s2 _ _ (s1 _ _ lB1)) n3).symm (ne_of_none q3A n3).symm (ne_of_none e2 n3).symm (ne_of_none e3 n4)
  obtain ⟨us, eI, hU⟩ := hI
  have mI : pi ∉ Ms r q o := mem pi (ne_of_none eI nrA) (ne_of_none (sA1 _ _ eI) nrB) (ne_of_none (sL _ _ (sB1 _ _ (sA1 _ _ eI))) n1) (ne_of_none (s1 _ _ (sL _ _ (sB1 _ _ (sA1 _ _ eI)))) n2) (ne_of_none (s3 _ _ (s2 _ _ (s1 _ _ (sL _ _ (sB1 _ _ (sA1 _ _ eI)))))) n4)
  have mX : px ∉ Ms r q o := mem px (ne_of_none rA4 n5).symm (ne_of_none rB4 n5).symm (ne_of_none qA4 n5).symm (ne_of_none qB4 n5).symm (ne_of_none e4 n5).symm
  have pL5 := s5 _ _ pL4
  have pR5 := s5 _ _ pR4
  have eI5 : H5 pi = some (.lst (us.map V.ref)) := s5 _ _ (sI4 _ _ eI)
  have hU5 : A2 (RowAt H5) us is := hU.mono fun _ _ e => s5 _ _ (sI4 _ _ e)
  let S : Bool → Addr := fun b => if b then sB else sA
  have hS5 : ∀ b, SheetAt K H5 (S b) (r b) := fun b => by
    cases b with
    | false =>
      obtain ⟨C, dx, k1, k2⟩ := hA1
      exact ⟨C, dx, s5 _ _ (s4 _ _ (s3 _ _ (s2 _ _ (s1 _ _ (sL _ _ (sB1 _ _ k1)))))), k2⟩
    | true =>
      obtain ⟨C, dx, k1, k2⟩ := hB1
      exact ⟨C, dx, s5 _ _ (s4 _ _ (s3 _ _ (s2 _ _ (s1 _ _ (sL _ _ k1))))), k2⟩
  have hSx : ∀ (G : Hp) b, SameX (Ms r q o) H5 G → SheetAt K G (S b) (r b) := fun G b sx => by
    obtain ⟨C, dx, k1, k2⟩ := hS5 b
    refine ⟨C, dx, sx _ _ (fun hm => ?_) k1, k2⟩
    obtain ⟨ys, k⟩ := lm5 _ hm
    rw [k1] at k
    cases k
  have hxl' : (xs.map V.int).length = xs.length := List.length_map ..
  refine for_l (xs.map V.int) (fun i σ' G => ∃ (ps : Bool → List Addr) (rs : Bool → List Row) (ts : List Addr) (y6 y7 y8 y9 y10 y11 y12 : Option V), σ' = [some (.ref a), some (.ref pn), some (.ref pi), some (.ref pL), some (.ref pR), some (.ref o), y6, y7, y8, y9, y10, y11, y12] ∧
      SameX (Ms r q o) H5 G ∧ Two G r q o ps rs ts nm ∧ (rs false).length + (rs true).length ≤ i ∧ ts.length ≤ 2 * i)
    ⟨_, _, _, _, _, _, _, _, _, _, rfl, SameX.refl _ _, two5, Nat.le_refl _, Nat.le_refl _⟩ (fun i σ' G _ k => ?_) (fun i x σ' G hx2 k => ?_) (fun σ' G k => ?_)
  · obtain ⟨ps, rs, ts, y6, y7, y8, y9, y10, y11, y12, rfl, sx, two, hl, htl⟩ := k
    exact SqL.of (sx _ _ mX e5)
  · obtain ⟨ps, rs, ts, y6, y7, y8, y9, y10, y11, y12, rfl, sx, two, hl, htl⟩ := k
    obtain ⟨x, hx3, rfl⟩ := get_map hx2
    have hix := (List.getElem?_eq_some_iff.mp hx3).1
    have hd : Drawn x := hx x (List.mem_of_getElem? hx3)
    unfold Drawn at hd
    have aq : atI [V.ref qA, .ref qB] (x % 2) = some (.ref (q (decide (x % 2 = 1)))) := two_at qA qB x
    have aS : atI [V.ref sA, .ref sB] (x % 2) = some (.ref (S (decide (x % 2 = 1)))) := two_at sA sB x
    generalize hbb : decide (x % 2 = 1) = b at aq aS
    have hpsl : ∀ c, (ps c).length = (rs c).length := fun c => (two.ha c).1
    have hlb : (rs b).length ≤ i := by cases b <;> omega
    have hlm : ((ps b).map V.ref).length = (rs b).length := by rw [List.length_map]; exact hpsl b
    have him : i < 63 := by omega
    walk_at "ws"
    refine w_ixL (SqL.of (sx _ _ mR pR5)) aq ?_
    walk_at "ws"
    refine ⟨q b, pi, rs b, is, nm, _, rfl, ⟨ps b, SqL.of (two.hq b), two.ha b⟩, ⟨us, SqL.of (sx _ _ mI eI5), hU5.mono fun _ _ e => RowAt.sx lm5 sx e⟩, hin, by omega, by omega, fun w p G1 sG1 hp hw => ?_⟩
    walk_at "ws"
    have sx1 := sx.trans (Same.sx sG1)
    have two1 := two.same sG1
    refine w_ixL (SqL.of (sx1 _ _ mL pL5)) aS ?_
    obtain ⟨C, dx, k1, k2⟩ := hSx G1 b sx1
    obtain rfl := k2.one T.nc_Sheet
    walk_at "ws"
    refine ⟨S b, r b, _, .ref p, rfl, hSx G1 b sx1, two1.hr b, by omega, ?_⟩
    have sx2 := sx1.trans (SameX.upd (H := G1) (u := .lst ((ps b).map V.ref ++ [.ref p])) (Ms.r r q o b))
    have eq2 : upd G1 (r b) (.lst ((ps b).map V.ref ++ [.ref p])) (q b) = some (.lst ((ps b).map V.ref)) := by rw [upd_ne (D.rq b b).symm]; exact two1.hq b
    walk_at "ws"
    refine w_ixL (SqL.of (sx2 _ _ mR pR5)) aq ?_
    walk_at "ws"
    refine w_ixL (SqL.of (sx2 _ _ mR pR5)) aq ?_
    obtain ⟨ps3, rs3, two3, hl3⟩ : ∃ ps3 rs3, Two (upd (upd G1 (r b) (.lst ((ps b).map V.ref ++ [.ref p]))) (q b) (.lst ((ps b).map V.ref ++ [.ref p]))) r q o ps3 rs3 ts nm ∧ (rs3 false).length + (rs3 true).length ≤ i + 1 :=
      ⟨_, _, two1.put D b hp hw, by cases b <;> simp <;> omega⟩
    have sx3 := sx2.trans (SameX.upd (H := upd G1 (r b) (.lst ((ps b).map V.ref ++ [.ref p]))) (u := .lst ((ps b).map V.ref ++ [.ref p])) (Ms.q r q o b))
    have pR3 := sx3 _ _ mR pR5
    have qA3 := two3.hq false
    have qB3 := two3.hq true
    walk_at "ws"
    · generalize upd (upd G1 (r b) (.lst ((ps b).map V.ref ++ [.ref p]))) (q b) (.lst ((ps b).map V.ref ++ [.ref p])) = G3 at *
      refine for_r (fun k σ' G4 => ∃ (ts4 : List Addr) (y10 y11 y12 : Option V), σ' = [some (.ref a), some (.ref pn), some (.ref pi), some (.ref pL), some (.ref pR), some (.ref o), some (.int x), some (.int (x % 2)), some (.ref p), some (.int (((ps b).map V.ref).length : Int)), y10, y11, y12] ∧
          SameX (Ms r q o) H5 G4 ∧ Two G4 r q o ps3 rs3 ts4 nm ∧ ts4.length ≤ 2 * i + k) ⟨ts, _, _, _, rfl, sx3, two3, htl⟩ (fun k σ' G4 hk z => ?_) (fun σ' G4 z => ?_)
      · obtain ⟨ts4, y10, y11, y12, rfl, sx4, two4, htl4⟩ := z
        have hk2 : k < 2 := hk
        obtain ⟨c, aS, aq⟩ : ∃ c, atI [V.ref sA, .ref sB] (k : Int) = some (.ref (S c)) ∧ atI [V.ref qA, .ref qB] (k : Int) = some (.ref (q c)) := by
          rcases (show k = 0 ∨ k = 1 by omega) with e | e <;> rw [e]
          · exact ⟨false, rfl, rfl⟩
          · exact ⟨true, rfl, rfl⟩
        have hlc : ((ps3 c).map V.ref).length = (rs3 c).length := by rw [List.length_map]; exact (two4.ha c).1
        have hlc2 : (rs3 c).length ≤ 64 := by cases c <;> omega
        have hpc : (ps3 c).length ≤ 64 := by rw [(two4.ha c).1]; exact hlc2
        walk_at "ws"
        refine w_ixL (SqL.of (sx4 _ _ mL pL5)) aS ?_
        obtain ⟨C, dx, k1, k2⟩ := hSx G4 c sx4
        obtain rfl := k2.one T.nc_Sheet
        walk_at "ws"
        refine ⟨S c, r c, _, rfl, hSx G4 c sx4, two4.hr c, by omega, fun f G5 nf sf ef => ?_⟩
        have sx5 := sx4.trans (Same.sx sf)
        have two5 := two4.same sf
        walk_at "ws"
        refine w_ixL (SqL.of (sx5 _ _ mR pR5)) aq ?_
        walk_at "ws"
        refine ⟨f, q c, ps3 c, ps3 c, rs3 c, rfl, ef, two5.ha c, two5.hq c, two5.ha c, rows_named hnm (two5.ok c), by omega, fun G6 s6 => ?_⟩
        have sx6 := sx5.trans (Same.sx s6)
        have two6 := two5.same s6
        have eq6 := two6.hq c
        have eo6 := two6.ho
        walk_at "ws"
        refine w_ixL (SqL.of (sx6 _ _ mR pR5)) aq ?_
        walk_at "ws"
        rename_i l1 A1 m1 t1 f1 p1 B1 m2 t2 f2 p2 B2 m3 t3 f3
        intro d B3 m4 t4 f4
        have t61 : Same G6 B3 := ((t1.trans t2).trans t3).trans t4
        walk_at "ws"
        rename_i x9 B4 m5 t5 f5
        have t64 : Same G6 B4 := t61.trans t5
        have eo9 : B4 o = some (.lst (ts4.map V.ref)) := t64 _ _ eo6
        have fo : f ≠ o := (ne_of_none two4.ho nf).symm
        have f4B : B4 f = some (.lst ((ps3 c).map V.ref)) := t64 _ _ (s6 _ _ ef)
        have ff : upd B4 o (.lst (ts4.map V.ref ++ [.ref x9])) f = some (.lst ((ps3 c).map V.ref)) := by rw [upd_ne fo]; exact f4B
        walk_at "ws"
        rename_i p5 B5 m6 t6 f6
        have t4B : Same G4 B4 := (sf.trans s6).trans t64
        have fB2 : B2 f = some (.lst ((ps3 c).map V.ref)) := t3 _ _ (t2 _ _ (t1 _ _ (s6 _ _ ef)))
        have oB2 : B2 o = some (.lst (ts4.map V.ref)) := t3 _ _ (t2 _ _ (t1 _ _ eo6))
        have jx : ∀ a u, a ≠ o → a ≠ f → B4 a = some u → upd B5 f (.lst ((ps3 c).map V.ref ++ [.ref p5])) a = some u := fun a u h1 h2 e => by
          rw [upd_ne h2]
          exact t6 _ _ (by rw [upd_ne h1]; exact e)
        have sX : ∀ a u, a ≠ o → G4 a = some u → upd B5 f (.lst ((ps3 c).map V.ref ++ [.ref p5])) a = some u := fun a u h1 e => jx a u h1 (ne_of_none e nf) (t4B _ _ e)
        have sxJ : SameX (Ms r q o) G4 (upd B5 f (.lst ((ps3 c).map V.ref ++ [.ref p5]))) := fun a u n e => sX a u (fun z => n (by rw [z]; exact Ms.o r q o)) e
        have dn : G4 d = none := (((sf.trans s6).trans ((t1.trans t2).trans t3))).free m4
        have e1o : p1 ≠ o := (ne_of_none (t1 _ _ eo6) m2).symm
        have e1f : p1 ≠ f := (ne_of_none (t1 _ _ (s6 _ _ ef)) m2).symm
        have e9o : x9 ≠ o := (ne_of_none (t4 _ _ oB2) m5).symm
        have e9f : x9 ≠ f := (ne_of_none (t4 _ _ fB2) m5).symm
        have edo : d ≠ o := (ne_of_none oB2 m4).symm
        have edf : d ≠ f := (ne_of_none fB2 m4).symm
        have e5f : p5 ≠ f := fun z => by
          rw [z] at m6
          rw [ff] at m6
          cases m6
        have hAJ : A2 (RowAt (upd B5 f (.lst ((ps3 c).map V.ref ++ [.ref p5])))) (ps3 c) (rs3 c) := (two4.ha c).mono fun _ _ e => RowAt.sx two4.lm sxJ e
        have r5 : RowAt (upd B5 f (.lst ((ps3 c).map V.ref ++ [.ref p5]))) p5 (.fix 1) := by
          unfold RowAt
          rw [upd_ne e5f]
          exact f6
        have r1 : RowAt (upd B5 f (.lst ((ps3 c).map V.ref ++ [.ref p5]))) p1 (.fix 1) := jx p1 _ e1o e1f (t5 _ _ (t4 _ _ (t3 _ _ f2)))
        have hnr := rows_named hnm (two4.ok c)
        refine ⟨ts4 ++ [x9], _, _, _, rfl, sx4.trans sxJ, two4.hold2 D sX ?_ ⟨f, d, ps3 c ++ [p5], ps3 c ++ [p1], rs3 c ++ [.fix 1], jx x9 _ e9o e9f f5, two4.lm.fresh nf, two4.lm.fresh dn, ?_, ?_, hAJ.snoc r5, hAJ.snoc r1, fun w hw => ?_⟩, ?_⟩
        · rw [upd_ne fo.symm]
          exact t6 _ _ (by rw [upd_same, List.map_append]; rfl)
        · rw [upd_same, List.map_append]
          rfl
        · rw [jx d _ edo edf (t5 _ _ f4), List.map_append]
          rfl
        · rcases List.mem_append.mp hw with e | e
          · exact hnr w e
          · rw [List.mem_singleton.mp e]
            exact True.intro
        · rw [List.length_append, List.length_singleton]
          omega
      · obtain ⟨ts4, y10, y11, y12, rfl, sx4, two4, htl4⟩ := z
        exact ⟨ps3, rs3, ts4, _, _, _, _, _, _, _, rfl, sx4, two4, hl3, by have h2 : ts4.length ≤ 2 * i + 2 := htl4; omega⟩
    · exact ⟨ps3, rs3, ts, _, _, _, _, _, _, _, rfl, sx3, two3, hl3, by omega⟩
  · obtain ⟨ps, rs, ts, y6, y7, y8, y9, y10, y11, y12, rfl, sx, two, hl, htl⟩ := k
    have eo := two.ho
    have hlf : (rs false).length + (rs true).length ≤ 63 := by omega
    walk_at "ws"
    refine for_list (xs := ts.map V.ref) (fun i σ' G2 => ∃ (y11 y12 : Option V), σ' = [some (.ref a), some (.ref pn), some (.ref pi), some (.ref pL), some (.ref pR), some (.ref o), y6, y7, y8, y9, y10, y11, y12] ∧ Same G G2) ⟨_, _, rfl, Same.refl _⟩ (fun i σ' G2 _ k => ?_) (fun i x σ' G2 hx4 k => ?_) (fun σ' G2 k => ?_)
    · obtain ⟨z11, z12, rfl, s2⟩ := k
      exact SqL.of (s2 _ _ eo)
    · obtain ⟨z11, z12, rfl, s2⟩ := k
      obtain ⟨t, ht, rfl⟩ := get_map hx4
      obtain ⟨f, d, pf, pd, ws, e0, _, _, ef, ed, hF, hDd, hnw⟩ := two.held t (List.mem_of_getElem? ht)
      have e0' : G2 t = some (.tup [.ref f, .ref d]) := s2 _ _ e0
      walk_at "ws"
      refine w_neSame (.list (ws.map rowD)) (.lst (SqL.of (s2 _ _ ef)) (dp_rows (hF.mono fun _ _ e => s2 _ _ e))) (.lst (SqL.of (s2 _ _ ed)) (dp_rows (hDd.mono fun _ _ e => s2 _ _ e))) (shaped_rows hnw) ?_
      walk_at "ws"
      exact ⟨_, _, rfl, s2⟩
    · obtain ⟨z11, z12, rfl, s2⟩ := k
      have sx2 := sx.trans (Same.sx s2)
      have two2 := two.same s2
      have hpl : ∀ c, ((ps c).map V.ref).length ≤ 63 := fun c => by
        rw [List.length_map, (two.ha c).1]
        cases c <;> omega
      have hrl : ∀ c, (rs c).length ≤ 63 := fun c => by cases c <;> omega
      have pL2 := sx2 _ _ mL pL5
      have pR2 := sx2 _ _ mR pR5
      obtain ⟨C, dx, k1, k2⟩ := hSx G2 false sx2
      obtain rfl := k2.one T.nc_Sheet
      have k1' : G2 sA = _ := k1
      walk_at "ws"
      refine ⟨sA, rA, _, rfl, hSx G2 false sx2, two2.hr false, by have := hpl false; omega, fun f G3 nf sf ef => ?_⟩
      have sx3 := sx2.trans (Same.sx sf)
      have two3 := two2.same sf
      have pL3 := sx3 _ _ mL pL5
      have pR3 := sx3 _ _ mR pR5
      walk_at "ws"
      refine ⟨f, qA, ps false, ps false, rs false, rfl, ef, two3.ha false, two3.hq false, two3.ha false, rows_named hnm (two3.ok false), by have := hrl false; omega, fun G4 s4' => ?_⟩
      have sx4 := sx3.trans (Same.sx s4')
      have two4 := two3.same s4'
      have pL4' := sx4 _ _ mL pL5
      have pR4' := sx4 _ _ mR pR5
      obtain ⟨C2, dx2, k3, k4⟩ := hSx G4 true sx4
      obtain rfl := k4.one T.nc_Sheet
      have k3' : G4 sB = _ := k3
      walk_at "ws"
      refine ⟨sB, rB, _, rfl, hSx G4 true sx4, two4.hr true, by have := hpl true; omega, fun f2 G5 nf2 sf2 ef2 => ?_⟩
      have sx5 := sx4.trans (Same.sx sf2)
      have two5' := two4.same sf2
      have pL5' := sx5 _ _ mL pL5
      have pR5' := sx5 _ _ mR pR5
      walk_at "ws"
      refine ⟨f2, qB, ps true, ps true, rs true, rfl, ef2, two5'.ha true, two5'.hq true, two5'.ha true, rows_named hnm (two5'.ok true), by have := hrl true; omega, fun G6 s6' => ?_⟩
      walk_at "ws"
      exact h _

end
theorem end_sp_law {K : PySem.W.Frag} {H : Hp} {a : Addr} {ns : List Int} (hl : ns.length ≤ 63) (hb : ∀ z ∈ ns, Builtin.Int.intBits z ≤ 1048576) (_ : Only H) (hS : SqL K H a (ns.map V.int)) : sp_law K [.ref a] H (fun v _ => v = .bl true) fun _ _ _ => False :=
  ⟨a, ns, rfl, hS, hl, hb, fun _ => rfl⟩
theorem all_mk {l : PySem.W.OpenLaw} {w : World} {K : PySem.W.Frag} {h : Heap} {mg : Str → Option Value} {fa ha0 ha1 ha2 ha3 ha4 ha5 ha6 ha7 ha8 ha9 ha10 ha11 c_Sheet : Addr} (X : K.In h) (G : h.Ns mainGlobals mg) (hfa : mg "law" = some (.ref fa))
    {od0 an0 od1 an1 od2 an2 od3 an3 od4 an4 od5 an5 od6 an6 od7 an7 od8 an8 od9 an9 od10 an10 od11 an11 : Option Addr} {shl0 shl1 shl2 shl3 shl4 shl5 shl6 shl7 shl8 shl9 shl10 shl11 : Array (Option Value)} {oc0 kV0 dc0 pm0 cd0 ct0 oc1 kV1 dc1 pm1 cd1 ct1 oc2 kV2 dc2 pm2 cd2 ct2 oc3 kV3 dc3 pm3 cd3 ct3 oc4 kV4 dc4 pm4 cd4 ct4 oc5 kV5 dc5 pm5 cd5 ct5 oc6 kV6 dc6 pm6 cd6 ct6 oc7 kV7 dc7 pm7 cd7 ct7 oc8 kV8 dc8 pm8 cd8 ct8 oc9 kV9 dc9 pm9 cd9 ct9 oc10 kV10 dc10 pm10 cd10 ct10 oc11 kV11 dc11 pm11 cd11 ct11 : Value}
    (hg0 : PySem.W.findIn K (.ref c_Sheet) "__init__" = some (some (.ref ha0)))
    (hi0 : PySem.W.isFn K (.ref ha0) = true)
    (hl0 : K.lookup ha0 = some ⟨oc0, od0, .func (PySem.W.fnOf "__init__" "Sheet.__init__" (defArgs s_Sheet__init) (defBody s_Sheet__init) (defScope s_Sheet__init) .none kV0 dc0 pm0 an0 cd0 ct0), shl0⟩)
    (hk0 : PySem.W.codeIn K cd0 "Sheet.__init__" = true)
    (hp0 : PySem.W.keepIn K (.ref ha0) = true)
    (hg1 : PySem.W.findIn K (.ref c_Sheet) "add" = some (some (.ref ha1)))
    (hi1 : PySem.W.isFn K (.ref ha1) = true)
    (hl1 : K.lookup ha1 = some ⟨oc1, od1, .func (PySem.W.fnOf "add" "Sheet.add" (defArgs s_Sheet_add) (defBody s_Sheet_add) (defScope s_Sheet_add) .none kV1 dc1 pm1 an1 cd1 ct1), shl1⟩)
    (hk1 : PySem.W.codeIn K cd1 "Sheet.add" = true)
    (hp1 : PySem.W.keepIn K (.ref ha1) = true)
    (hg2 : PySem.W.findIn K (.ref c_Sheet) "rows_now" = some (some (.ref ha2)))
    (hi2 : PySem.W.isFn K (.ref ha2) = true)
    (hl2 : K.lookup ha2 = some ⟨oc2, od2, .func (PySem.W.fnOf "rows_now" "Sheet.rows_now" (defArgs s_Sheet_rows_now) (defBody s_Sheet_rows_now) (defScope s_Sheet_rows_now) .none kV2 dc2 pm2 an2 cd2 ct2), shl2⟩)
    (hk2 : PySem.W.codeIn K cd2 "Sheet.rows_now" = true)
    (hp2 : PySem.W.keepIn K (.ref ha2) = true)
    (hg3 : PySem.W.nsIn K mainGlobals "_law_whole" = some (some (.ref ha3)))
    (hl3 : K.lookup ha3 = some ⟨oc3, od3, .func (PySem.W.fnOf "_law_whole" "_law_whole" (defArgs s_law_whole) (defBody s_law_whole) (defScope s_law_whole) .none kV3 dc3 pm3 an3 cd3 ct3), shl3⟩)
    (hk3 : PySem.W.codeIn K cd3 "_law_whole" = true)
    (hp3 : PySem.W.keepIn K (.ref ha3) = true)
    (hg4 : PySem.W.nsIn K mainGlobals "_law_at" = some (some (.ref ha4)))
    (hl4 : K.lookup ha4 = some ⟨oc4, od4, .func (PySem.W.fnOf "_law_at" "_law_at" (defArgs s_law_at) (defBody s_law_at) (defScope s_law_at) .none kV4 dc4 pm4 an4 cd4 ct4), shl4⟩)
    (hk4 : PySem.W.codeIn K cd4 "_law_at" = true)
    (hp4 : PySem.W.keepIn K (.ref ha4) = true)
    (hg5 : PySem.W.nsIn K mainGlobals "_law_mixed" = some (some (.ref ha5)))
    (hl5 : K.lookup ha5 = some ⟨oc5, od5, .func (PySem.W.fnOf "_law_mixed" "_law_mixed" (defArgs s_law_mixed) (defBody s_law_mixed) (defScope s_law_mixed) .none kV5 dc5 pm5 an5 cd5 ct5), shl5⟩)
    (hk5 : PySem.W.codeIn K cd5 "_law_mixed" = true)
    (hp5 : PySem.W.keepIn K (.ref ha5) = true)
    (hg6 : PySem.W.nsIn K mainGlobals "_law_numbers" = some (some (.ref ha6)))
    (hl6 : K.lookup ha6 = some ⟨oc6, od6, .func (PySem.W.fnOf "_law_numbers" "_law_numbers" (defArgs s_law_numbers) (defBody s_law_numbers) (defScope s_law_numbers) .none kV6 dc6 pm6 an6 cd6 ct6), shl6⟩)
    (hk6 : PySem.W.codeIn K cd6 "_law_numbers" = true)
    (hp6 : PySem.W.keepIn K (.ref ha6) = true)
    (hg7 : PySem.W.nsIn K mainGlobals "_law_names" = some (some (.ref ha7)))
    (hl7 : K.lookup ha7 = some ⟨oc7, od7, .func (PySem.W.fnOf "_law_names" "_law_names" (defArgs s_law_names) (defBody s_law_names) (defScope s_law_names) .none kV7 dc7 pm7 an7 cd7 ct7), shl7⟩)
    (hk7 : PySem.W.codeIn K cd7 "_law_names" = true)
    (hp7 : PySem.W.keepIn K (.ref ha7) = true)
    (hg8 : PySem.W.nsIn K mainGlobals "_law_ins" = some (some (.ref ha8)))
    (hl8 : K.lookup ha8 = some ⟨oc8, od8, .func (PySem.W.fnOf "_law_ins" "_law_ins" (defArgs s_law_ins) (defBody s_law_ins) (defScope s_law_ins) .none kV8 dc8 pm8 an8 cd8 ct8), shl8⟩)
    (hk8 : PySem.W.codeIn K cd8 "_law_ins" = true)
    (hp8 : PySem.W.keepIn K (.ref ha8) = true)
    (hg9 : PySem.W.nsIn K mainGlobals "_law_row" = some (some (.ref ha9)))
    (hl9 : K.lookup ha9 = some ⟨oc9, od9, .func (PySem.W.fnOf "_law_row" "_law_row" (defArgs s_law_row) (defBody s_law_row) (defScope s_law_row) .none kV9 dc9 pm9 an9 cd9 ct9), shl9⟩)
    (hk9 : PySem.W.codeIn K cd9 "_law_row" = true)
    (hp9 : PySem.W.keepIn K (.ref ha9) = true)
    (hg10 : PySem.W.nsIn K mainGlobals "_law_same" = some (some (.ref ha10)))
    (hl10 : K.lookup ha10 = some ⟨oc10, od10, .func (PySem.W.fnOf "_law_same" "_law_same" (defArgs s_law_same) (defBody s_law_same) (defScope s_law_same) .none kV10 dc10 pm10 an10 cd10 ct10), shl10⟩)
    (hk10 : PySem.W.codeIn K cd10 "_law_same" = true)
    (hp10 : PySem.W.keepIn K (.ref ha10) = true)
    (hg11 : PySem.W.nsIn K mainGlobals "law" = some (some (.ref ha11)))
    (hl11 : K.lookup ha11 = some ⟨oc11, od11, .func (PySem.W.fnOf "law" "law" (defArgs s_law) (defBody s_law) (defScope s_law) .none kV11 dc11 pm11 an11 cd11 ct11), shl11⟩)
    (hk11 : PySem.W.codeIn K cd11 "law" = true)
    (hp11 : PySem.W.keepIn K (.ref ha11) = true)
    (gc_Sheet : PySem.W.nsIn K mainGlobals "Sheet" = some (some (.ref c_Sheet)))
    (kc_Sheet : PySem.W.keepIn K (.ref c_Sheet) = true)
    (pg_Sheet : PySem.W.plainGet K c_Sheet Str.empty = true)
    (hd_Sheet : PySem.W.hasDictIn K c_Sheet = true)
    (po_Sheet : PySem.W.plainOver K c_Sheet = true)
    (sa_Sheet : PySem.W.findIn K (.ref c_Sheet) "__setattr__" = some (some (.builtin "object.__setattr__")))
    (mk_Sheet : PySem.W.makesIn K c_Sheet = true)
    (n_Sheet_rows : PySem.W.findIn K (.ref c_Sheet) "rows" = some none)
    (z_bool : PySem.W.nsIn K mainGlobals "bool" = some none)
    (z_int : PySem.W.nsIn K mainGlobals "int" = some none)
    (z_isinstance : PySem.W.nsIn K mainGlobals "isinstance" = some none)
    (z_len : PySem.W.nsIn K mainGlobals "len" = some none)
    (z_list : PySem.W.nsIn K mainGlobals "list" = some none)
    (z_range : PySem.W.nsIn K mainGlobals "range" = some none)
    (z_tuple : PySem.W.nsIn K mainGlobals "tuple" = some none) :
    ∃ fd : FuncData, (∀ (s : Shared) (v : Value), BindsTo s fd ⟨[v], []⟩ [("_law_script", v)]) ∧ ∀ base : Heap, K.In base → base.Ns mainGlobals mg → FnOk l.prog w K mg base CX0 3 fa fd ["_law_script"] (sp_law K) := by
  have e := hfa.symm.trans (PySem.W.mg_of X G hg11)
  cases e
  have F0 := fun_mk (st := s_Sheet__init) hl0 hk0 hp0
  have B0 := F0.binds (ps := ["self"]) fun _ _ _ _ _ _ us hl => match us, hl with | [_], _ => rfl
  have F1 := fun_mk (st := s_Sheet_add) hl1 hk1 hp1
  have B1 := F1.binds (ps := ["self", "row"]) fun _ _ _ _ _ _ us hl => match us, hl with | [_, _], _ => rfl
  have F2 := fun_mk (st := s_Sheet_rows_now) hl2 hk2 hp2
  have B2 := F2.binds (ps := ["self"]) fun _ _ _ _ _ _ us hl => match us, hl with | [_], _ => rfl
  have F3 := fun_mk (st := s_law_whole) hl3 hk3 hp3
  have B3 := F3.binds (ps := ["_law_found"]) fun _ _ _ _ _ _ us hl => match us, hl with | [_], _ => rfl
  have F4 := fun_mk (st := s_law_at) hl4 hk4 hp4
  have B4 := F4.binds (ps := ["_law_script", "_law_k"]) fun _ _ _ _ _ _ us hl => match us, hl with | [_, _], _ => rfl
  have F5 := fun_mk (st := s_law_mixed) hl5 hk5 hp5
  have B5 := F5.binds (ps := ["_law_cell", "_law_k"]) fun _ _ _ _ _ _ us hl => match us, hl with | [_, _], _ => rfl
  have F6 := fun_mk (st := s_law_numbers) hl6 hk6 hp6
  have B6 := F6.binds (ps := ["_law_script", "_law_start"]) fun _ _ _ _ _ _ us hl => match us, hl with | [_, _], _ => rfl
  have F7 := fun_mk (st := s_law_names) hl7 hk7 hp7
  have B7 := F7.binds (ps := ["_law_number"]) fun _ _ _ _ _ _ us hl => match us, hl with | [_], _ => rfl
  have F8 := fun_mk (st := s_law_ins) hl8 hk8 hp8
  have B8 := F8.binds (ps := ["_law_names_here", "_law_number", "_law_many"]) fun _ _ _ _ _ _ us hl => match us, hl with | [_, _, _], _ => rfl
  have F9 := fun_mk (st := s_law_row) hl9 hk9 hp9
  have B9 := F9.binds (ps := ["_law_rows", "_law_ins_here", "_law_number"]) fun _ _ _ _ _ _ us hl => match us, hl with | [_, _, _], _ => rfl
  have F10 := fun_mk (st := s_law_same) hl10 hk10 hp10
  have B10 := F10.binds (ps := ["_law_found", "_law_due"]) fun _ _ _ _ _ _ us hl => match us, hl with | [_, _], _ => rfl
  have F11 := fun_mk (st := s_law) hl11 hk11 hp11
  have B11 := F11.binds (ps := ["_law_script"]) fun _ _ _ _ _ _ us hl => match us, hl with | [_], _ => rfl
  let T : Top K mg := ⟨ha0,
    _,
    F0,
    B0,
    ha1,
    _,
    F1,
    B1,
    ha2,
    _,
    F2,
    B2,
    ha3,
    _,
    F3,
    B3,
    PySem.W.mg_of X G hg3,
    ha4,
    _,
    F4,
    B4,
    PySem.W.mg_of X G hg4,
    ha5,
    _,
    F5,
    B5,
    PySem.W.mg_of X G hg5,
    ha6,
    _,
    F6,
    B6,
    PySem.W.mg_of X G hg6,
    ha7,
    _,
    F7,
    B7,
    PySem.W.mg_of X G hg7,
    ha8,
    _,
    F8,
    B8,
    PySem.W.mg_of X G hg8,
    ha9,
    _,
    F9,
    B9,
    PySem.W.mg_of X G hg9,
    ha10,
    _,
    F10,
    B10,
    PySem.W.mg_of X G hg10,
    fa,
    _,
    F11,
    B11,
    PySem.W.mg_of X G hg11,
    c_Sheet,
    PySem.W.mg_of X G gc_Sheet,
    gc_Sheet,
    kc_Sheet,
    ⟨pg_Sheet, hd_Sheet, po_Sheet, sa_Sheet⟩,
    ⟨mk_Sheet, hg0, hi0, kc_Sheet⟩,
    ⟨hg1, hi1, hp1⟩,
    ⟨hg2, hi2, hp2⟩,
    n_Sheet_rows,
    PySem.W.mg_none_of X G z_bool,
    PySem.W.mg_none_of X G z_int,
    PySem.W.mg_none_of X G z_isinstance,
    PySem.W.mg_none_of X G z_len,
    PySem.W.mg_none_of X G z_list,
    PySem.W.mg_none_of X G z_range,
    PySem.W.mg_none_of X G z_tuple⟩
  exact ⟨T.d_law, fun s v => .of_eq rfl, fun base _ _ => ok_law T⟩
end Dpr
open PySem PySem.W PyProof.Rows
set_option maxHeartbeats 0 in
theorem PySem.Challenge.cw_dotpress_k08_sheets_of_rows_holds : PySem.Challenge.rw_dotpress_k08_sheets_of_rows.Holds := by
  w_on; o_law; k_head; (case hw => w_witness2)
  k_fill
  refine L2.walk_ofB (l := PySem.Challenge.rw_dotpress_k08_sheets_of_rows) (n := 63) (k := 3) (x := "_law_script") (CX := fun _ => L2.CX0) (sp := fun w => Dpr.sp_law _) rfl (by decide) rfl ⟨rfl, by decide, by decide⟩ (fun w h Y => PySem.W.kIn_of Y) ?F (fun w H a ns hl hb hO hS => Dpr.end_sp_law hl hb hO hS) (fun _ _ _ _ _ h => h)
  case F =>
    intro w mg fa h KX G hmg
    refine' Dpr.all_mk KX G hmg ?hg0 ?hi0 ?hl0 ?hk0 ?hp0 ?hg1 ?hi1 ?hl1 ?hk1 ?hp1 ?hg2 ?hi2 ?hl2 ?hk2 ?hp2 ?hg3 ?hl3 ?hk3 ?hp3 ?hg4 ?hl4 ?hk4 ?hp4 ?hg5 ?hl5 ?hk5 ?hp5 ?hg6 ?hl6 ?hk6 ?hp6 ?hg7 ?hl7 ?hk7 ?hp7 ?hg8 ?hl8 ?hk8 ?hp8 ?hg9 ?hl9 ?hk9 ?hp9 ?hg10 ?hl10 ?hk10 ?hp10 ?hg11 ?hl11 ?hk11 ?hp11 ?gc_Sheet ?kc_Sheet ?pg_Sheet ?hd_Sheet ?po_Sheet ?sa_Sheet ?mk_Sheet ?n_Sheet_rows ?z_bool ?z_int ?z_isinstance ?z_len ?z_list ?z_range ?z_tuple
    (case gc_Sheet => k_is)
    (case hg0 => k_is)
    (case hi0 => k_is)
    (case hl0 => k_is)
    (case hk0 => k_is)
    (case hp0 => k_is)
    (case hg1 => k_is)
    (case hi1 => k_is)
    (case hl1 => k_is)
    (case hk1 => k_is)
    (case hp1 => k_is)
    (case hg2 => k_is)
    (case hi2 => k_is)
    (case hl2 => k_is)
    (case hk2 => k_is)
    (case hp2 => k_is)
    (case hg3 => k_is)
    (case hl3 => k_is)
    (case hk3 => k_is)
    (case hp3 => k_is)
    (case hg4 => k_is)
    (case hl4 => k_is)
    (case hk4 => k_is)
    (case hp4 => k_is)
    (case hg5 => k_is)
    (case hl5 => k_is)
    (case hk5 => k_is)
    (case hp5 => k_is)
    (case hg6 => k_is)
    (case hl6 => k_is)
    (case hk6 => k_is)
    (case hp6 => k_is)
    (case hg7 => k_is)
    (case hl7 => k_is)
    (case hk7 => k_is)
    (case hp7 => k_is)
    (case hg8 => k_is)
    (case hl8 => k_is)
    (case hk8 => k_is)
    (case hp8 => k_is)
    (case hg9 => k_is)
    (case hl9 => k_is)
    (case hk9 => k_is)
    (case hp9 => k_is)
    (case hg10 => k_is)
    (case hl10 => k_is)
    (case hk10 => k_is)
    (case hp10 => k_is)
    (case hg11 => k_is)
    (case hl11 => k_is)
    (case hk11 => k_is)
    (case hp11 => k_is)
    (case kc_Sheet => k_is)
    (case pg_Sheet => k_is)
    (case hd_Sheet => k_is)
    (case po_Sheet => k_is)
    (case sa_Sheet => k_is)
    (case mk_Sheet => k_is)
    (case n_Sheet_rows => k_is)
    (case z_bool => k_is)
    (case z_int => k_is)
    (case z_isinstance => k_is)
    (case z_len => k_is)
    (case z_list => k_is)
    (case z_range => k_is)
    (case z_tuple => k_is)


