import PyProof.Rows.All
import Wide.All
import OpenK.AllK
import Wide.FinOn
import HandS.ForMost
import HandS.IsInst
import HandS.WideBits
import HandS.Wide
import HandS.EndBits
import HandS.Evl
import HandS.More
import HandS.DictComp
import HandS.RevRange
import HandS.DeepEq
import HandS.ListEq
import HandS.Deep
import PySem.Challenge.RW_dotpress_k14_whole_fewer
set_option Elab.async false
set_option linter.all false
set_option maxRecDepth 100000
set_option maxHeartbeats 4000000


namespace Dpr
open PySem PySem.Spec PyProof.Rows L2
/-! ### steps of a reading, one a construct -/
section
variable {K : PySem.W.Frag} {D : Ends} {σ : L2.St} {H : Hp} {Q : VK} {QB : Bool → Hp → Prop} {QA : List V → Hp → Prop} {ta tb tc te : TE} {t u : TS} {c : TT} {g : TG} {r r' : R2} {v x y : V}
theorem w_seq (h : t { D with nx := u D } σ H) : tSeq t u D σ H := h
theorem w_cut (M : L2.St → Hp → Prop) (h : t { D with nx := M } σ H) (k : ∀ σ' H', M σ' H' → u D σ' H') : Evl.tCut t u D σ H := ⟨M, h, k⟩
theorem w_asg {i : Nat} (h : te σ H fun v H1 => D.nx (σ.set i (some v)) H1) : tAsg te (gName i) D σ H := h
theorem w_asgG (h : te σ H fun v H1 => g v σ H1 D.nx) : tAsg te g D σ H := h
theorem w_drop (h : te σ H fun _ H1 => D.nx σ H1) : tDrop te D σ H := h
theorem w_ret (h : te σ H D.rt) : tRet te D σ H := h
theorem w_retN (h : D.rt .non H) : tRetN D σ H := h
theorem w_next (h : D.nx σ H) : tNext D σ H := h
theorem w_cont (h : D.ct σ H) : tCont D σ H := h
theorem w_brk (h : D.bk σ H) : tBreak D σ H := h
theorem w_if (h : c σ H fun b H1 => if b = true then t D σ H1 else u D σ H1) : tIfS c t u D σ H := h
theorem w_aug {i : Nat} {ti : TIp} (hx : σ[i]? = some (some x)) (h : te σ H fun y H1 => ti x y H1 fun z H2 => D.nx (σ.set i (some z)) H2) : tAug i te ti D σ H := ⟨x, hx, h⟩
theorem w_ipI {f : Int → Int → Int} {i j : Int} (h : Q (.int (f i j)) H) : ipI f (.int i) (.int j) H Q := ⟨i, j, rfl, rfl, h⟩
theorem w_var {i : Nat} (hx : σ[i]? = some (some v)) (h : Q v H) : tVar i σ H Q := ⟨v, hx, h⟩
theorem w_c (h : Q v H) : tC v σ H Q := h
theorem w_op (h : ta σ H fun x H1 => tb σ H1 fun y H2 => r x y H2 Q) : tOp r ta tb σ H Q := h
theorem w_un {f : V → Hp → VK → Prop} (h : ta σ H fun x H1 => f x H1 Q) : tUn f ta σ H Q := h
theorem w_chain (h : ta σ H fun x H1 => tb σ H1 fun y H2 => r x y H2 fun z H3 => ∃ k, z = .bl k ∧ (if k = true then tc σ H3 fun w' H4 => r' y w' H4 Q else Q (.bl false) H3)) : tChain r r' ta tb tc σ H Q := h
theorem w_test (h : te σ H fun x H1 => ∃ k, x = .bl k ∧ QB k H1) : tTest te σ H QB := h
theorem w_tB (h : te σ H fun x H1 => ∃ k, x = .bl k ∧ QB k H1) : tB te σ H QB := h
theorem w_bl {b : Bool} {P : Bool → Prop} (h : P b) : ∃ k, V.bl b = .bl k ∧ P k := ⟨b, rfl, h⟩
theorem w_and {t u : TT} (h : t σ H fun c H1 => if c = true then u σ H1 QB else QB false H1) : tAnd t u σ H QB := h
theorem w_or {t u : TT} (h : t σ H fun c H1 => if c = true then QB true H1 else u σ H1 QB) : tOr t u σ H QB := h
theorem w_not {t : TT} (h : t σ H fun c H1 => QB (!c) H1) : tNot t σ H QB := h
theorem w_andV (h : ta σ H fun x H1 => ∃ c, x = .bl c ∧ if c = true then tb σ H1 Q else Q (.bl false) H1) : tAndV ta tb σ H Q := h
theorem w_orV (h : ta σ H fun x H1 => ∃ c, x = .bl c ∧ if c = true then Q (.bl true) H1 else tb σ H1 Q) : tOrV ta tb σ H Q := h
theorem w_notV (h : ta σ H fun x H1 => ∃ c, x = .bl c ∧ Q (.bl (!c)) H1) : tNotV ta σ H Q := h
theorem w_ifx {t : TT} (h : t σ H fun c H1 => if c = true then ta σ H1 Q else tb σ H1 Q) : tIf t ta tb σ H Q := h
theorem w_nil (h : QA [] H) : tNil σ H QA := h
theorem w_cons {tr : TA} (h : ta σ H fun x H1 => tr σ H1 fun xs H2 => QA (x :: xs) H2) : tCons ta tr σ H QA := h
/-- a new tuple, a new list: the heap is a letter -/
def AlT (xs : List V) (H : Hp) (Q : VK) : Prop := xs.length ≤ sizeLine ∧ ∀ p, H p = none → Q (.ref p) (upd H p (.tup xs))
def AlL (xs : List V) (H : Hp) (Q : VK) : Prop := xs.length ≤ sizeLine ∧ ∀ p, H p = none → Q (.ref p) (upd H p (.lst xs))
theorem same_upd {H : Hp} {p : Addr} {o : HO} (h : H p = none) : Same H (upd H p o) := fun b x e => by
  rw [upd_ne (ne_of_none e h)]
  exact e
theorem w_tup {s : TA} (h : s σ H fun xs H1 => AlT xs H1 Q) : tTup s σ H Q := h
theorem w_lst {s : TA} (h : s σ H fun xs H1 => AlL xs H1 Q) : tLst s σ H Q := h
theorem sz_le {n : Nat} (h : Nat.ble n 1000 = true) : n ≤ sizeLine := Nat.le_trans (Nat.le_of_ble_eq_true h) (by rw [sizeLine_eq]; decide)
theorem w_alT {xs : List V} (hl : xs.length ≤ sizeLine) (h : ∀ p H', H p = none → Same H H' → H' p = some (.tup xs) → Q (.ref p) H') : AlT xs H Q := ⟨hl, fun p hp => h p _ hp (same_upd hp) upd_same⟩
theorem w_alL {xs : List V} (hl : xs.length ≤ sizeLine) (h : ∀ p H', H p = none → Same H H' → H' p = some (.lst xs) → Q (.ref p) H') : AlL xs H Q := ⟨hl, fun p hp => h p _ hp (same_upd hp) upd_same⟩
theorem w_call {sp : Sp} {dvs : List V} {E : XK} {s : TA} (h : s σ H fun vs H1 => sp (vs ++ dvs) H1 Q E) : tCall sp dvs E s σ H Q := h
theorem w_cb {f : List V → Hp → VK → Prop} {s : TA} (h : s σ H fun vs H1 => f vs H1 Q) : tCB f s σ H Q := h
theorem w_I0 {f : Int → Int → V} {i j : Int} (h : Q (f i j) H) : rI0 f (.int i) (.int j) H Q := ⟨i, j, rfl, rfl, h⟩
theorem w_I {C : Int → Int → Prop} {f : Int → Int → V} {i j : Int} (hc : C i j) (h : Q (f i j) H) : rI C f (.int i) (.int j) H Q := ⟨i, j, rfl, rfl, hc, h⟩
theorem w_U {f : Int → V} {i : Int} (h : Q (f i) H) : rU f (.int i) H Q := ⟨i, rfl, h⟩
theorem w_eq (hs : scal x y = true) (h : Q (.bl (decide (x = y))) H) : rEq x y H Q := ⟨hs, h⟩
theorem w_ne (hs : scal x y = true) (h : Q (.bl (!decide (x = y))) H) : rNe x y H Q := ⟨hs, h⟩
theorem w_bits {i : Int} (h : Q (.int (Builtin.Int.intBits i : Nat)) H) : (∃ j, V.int i = .int j ∧ Q (.int (Builtin.Int.intBits j : Nat)) H) := ⟨i, rfl, h⟩
theorem w_tbits (h : te σ H fun x H1 => ∃ i, x = .int i ∧ Q (.int (Builtin.Int.intBits i : Nat)) H1) : tBits te σ H Q := h
theorem w_ixL {p : Addr} {xs : List V} {i : Int} (hl : SqL K H p xs) (ha : atI xs i = some v) (h : Q v H) : rIxL K (.ref p) (.int i) H Q := ⟨p, xs, i, v, rfl, rfl, hl, ha, h⟩
theorem w_ixT {p : Addr} {xs : List V} {i : Int} (hl : SqT K H p xs) (ha : atI xs i = some v) (h : Q v H) : rIxT K (.ref p) (.int i) H Q := ⟨p, xs, i, v, rfl, rfl, hl, ha, h⟩
/-! tests -/
theorem w_itT {A B : Prop} (h : A) : if true = true then A else B := by rw [if_pos rfl]; exact h
theorem w_itF {A B : Prop} (h : B) : if false = true then A else B := by rw [if_neg Bool.false_ne_true]; exact h
theorem w_itC {b : Bool} {A B : Prop} (e : b = true) (h : A) : if b = true then A else B := by rw [if_pos e]; exact h
theorem w_itD {b : Bool} {A B : Prop} (e : b = false) (h : B) : if b = true then A else B := by rw [e, if_neg Bool.false_ne_true]; exact h
theorem w_itI {i j : Int} {A B : Prop} (h1 : i = j → A) (h2 : i ≠ j → B) : if decide (V.int i = V.int j) = true then A else B := by
  by_cases e : i = j
  · rw [if_pos (by rw [e]; exact decide_eq_true rfl)]; exact h1 e
  · rw [if_neg (fun z => e (V.int.inj (of_decide_eq_true z)))]; exact h2 e
theorem w_itN {i j : Int} {A B : Prop} (h1 : i ≠ j → A) (h2 : i = j → B) : if (!decide (V.int i = V.int j)) = true then A else B := by
  by_cases e : i = j
  · rw [e, decide_eq_true rfl]; exact w_itF (h2 e)
  · rw [decide_eq_false (fun z => e (V.int.inj z))]; exact w_itT (h1 e)
theorem w_itd {p A B : Prop} [Decidable p] (h1 : p → A) (h2 : ¬ p → B) : if decide p = true then A else B := by
  by_cases e : p
  · rw [if_pos (decide_eq_true e)]; exact h1 e
  · rw [if_neg (fun z => e (of_decide_eq_true z))]; exact h2 e
theorem w_itn {p A B : Prop} [Decidable p] (h1 : ¬ p → A) (h2 : p → B) : if (!decide p) = true then A else B := by
  by_cases e : p
  · rw [decide_eq_true e]; exact w_itF (h2 e)
  · rw [decide_eq_false e]; exact w_itT (h1 e)
theorem w_itb {b : Bool} {A B : Prop} (h1 : b = true → A) (h2 : b = false → B) : if b = true then A else B := by
  cases b with
  | true => exact w_itT (h1 rfl)
  | false => exact w_itF (h2 rfl)
end
/-! calls of built-ins, by names of our own -/
def rLen (K : PySem.W.Frag) : List V → Hp → VK → Prop := fun xs H Q => ∃ p ys, xs = [.ref p] ∧ (SqL K H p ys ∨ SqT K H p ys) ∧ Q (.int ys.length) H
theorem c_len {X : Cx} : CallR X (.builtin "len") (rLen X.K) := call_len_seq
theorem w_lenL {K : PySem.W.Frag} {H : Hp} {Q : VK} {p : Addr} {xs : List V} (h : SqL K H p xs) (q : Q (.int (xs.length : Int)) H) : rLen K [.ref p] H Q := ⟨p, xs, rfl, .inl h, q⟩
theorem w_lenT {K : PySem.W.Frag} {H : Hp} {Q : VK} {p : Addr} {xs : List V} (h : SqT K H p xs) (q : Q (.int (xs.length : Int)) H) : rLen K [.ref p] H Q := ⟨p, xs, rfl, .inr h, q⟩
def rAbs : List V → Hp → VK → Prop := fun xs H Q => ∃ i, xs = [.int i] ∧ Q (.int (if i < 0 then -i else i)) H
theorem c_abs {X : Cx} : CallR X (.builtin "abs") rAbs := call_abs
theorem w_abs {H : Hp} {Q : VK} {i : Int} (q : Q (.int (if i < 0 then -i else i)) H) : rAbs [.int i] H Q := ⟨i, rfl, q⟩
def rMax2 : List V → Hp → VK → Prop := fun xs H Q => ∃ i j, xs = [.int i, .int j] ∧ Q (.int (if j > i then j else i)) H
def rMin2 : List V → Hp → VK → Prop := fun xs H Q => ∃ i j, xs = [.int i, .int j] ∧ Q (.int (if j < i then j else i)) H
theorem c_max2 {X : Cx} (hc : X.calm = true) : CallR X (.builtin "max") rMax2 := call_max2 hc
theorem c_min2 {X : Cx} (hc : X.calm = true) : CallR X (.builtin "min") rMin2 := call_min2 hc
theorem w_max2 {H : Hp} {Q : VK} {i j : Int} (q : Q (.int (if j > i then j else i)) H) : rMax2 [.int i, .int j] H Q := ⟨i, j, rfl, q⟩
theorem w_min2 {H : Hp} {Q : VK} {i j : Int} (q : Q (.int (if j < i then j else i)) H) : rMin2 [.int i, .int j] H Q := ⟨i, j, rfl, q⟩
def rListOf (K : PySem.W.Frag) : List V → Hp → VK → Prop := fun xs H Q => ∃ p ys, xs = [.ref p] ∧ (SqL K H p ys ∨ SqT K H p ys) ∧ ∀ l, H l = none → Q (.ref l) (upd H l (.lst ys))
theorem c_list {X : Cx} : CallR X (.type "list") (rListOf X.K) := call_list_of
theorem w_listL {K : PySem.W.Frag} {H : Hp} {Q : VK} {p : Addr} {xs : List V} (h : SqL K H p xs) (q : ∀ l H', H l = none → Same H H' → H' l = some (.lst xs) → Q (.ref l) H') : rListOf K [.ref p] H Q := ⟨p, xs, rfl, .inl h, fun l hl => q l _ hl (same_upd hl) upd_same⟩
theorem w_listT {K : PySem.W.Frag} {H : Hp} {Q : VK} {p : Addr} {xs : List V} (h : SqT K H p xs) (q : ∀ l H', H l = none → Same H H' → H' l = some (.lst xs) → Q (.ref l) H') : rListOf K [.ref p] H Q := ⟨p, xs, rfl, .inr h, fun l hl => q l _ hl (same_upd hl) upd_same⟩
/-- a product of two ints of any size that the model allows -/
theorem op_mulI {X : Cx} : OpR X (binaryOp .Mult) (rI IntMulOk fun i j => .int (i * j)) := opI fun _ _ _ _ _ _ _ hc q => mul_int q hc
/-- isinstance, the answer told -/
theorem w_isi {K : PySem.W.Frag} {H : Hp} {Q : VK} {x : V} {t : Value} {n : String} {b : Bool} (ty : TyX K H x t) (e : PySem.W.kitOne K t (.type n) = some b) (q : Q (.bl b) H) : rIsi K [x, .ty n] H Q := ⟨x, .ty n, t, _, b, rfl, .ty n, ty, e, q⟩
theorem kit_ii (K : PySem.W.Frag) : PySem.W.kitOne K (.type "int") (.type "int") = some true := kit_ty (by decide +kernel)
theorem kit_ib (K : PySem.W.Frag) : PySem.W.kitOne K (.type "int") (.type "bool") = some false := kit_ty (by decide +kernel)
theorem kit_bi (K : PySem.W.Frag) : PySem.W.kitOne K (.type "bool") (.type "int") = some true := kit_ty (by decide +kernel)
theorem kit_bb (K : PySem.W.Frag) : PySem.W.kitOne K (.type "bool") (.type "bool") = some true := kit_ty (by decide +kernel)
theorem kit_ll (K : PySem.W.Frag) : PySem.W.kitOne K (.type "list") (.type "list") = some true := kit_ty (by decide +kernel)
theorem kit_tt (K : PySem.W.Frag) : PySem.W.kitOne K (.type "tuple") (.type "tuple") = some true := kit_ty (by decide +kernel)
theorem kit_ss (K : PySem.W.Frag) : PySem.W.kitOne K (.type "str") (.type "str") = some true := kit_ty (by decide +kernel)
theorem w_isiT {K : PySem.W.Frag} {H : Hp} {Q : VK} {p : Addr} {xs : List V} (e : H p = some (.tup xs)) (q : Q (.bl true) H) : rIsi K [.ref p, .ty "tuple"] H Q := w_isi (TyX.base (TyOf.tup e)) (kit_tt K) q
theorem w_isiL {K : PySem.W.Frag} {H : Hp} {Q : VK} {p : Addr} {xs : List V} (e : H p = some (.lst xs)) (q : Q (.bl true) H) : rIsi K [.ref p, .ty "list"] H Q := w_isi (TyX.base (TyOf.lst e)) (kit_ll K) q
theorem kit_tl (K : PySem.W.Frag) : PySem.W.kitOne K (.type "tuple") (.type "list") = some false := kit_ty (by decide +kernel)
theorem kit_lt (K : PySem.W.Frag) : PySem.W.kitOne K (.type "list") (.type "tuple") = some false := kit_ty (by decide +kernel)
/-! slices and sums of lists -/
section
variable {K : PySem.W.Frag} {σ : L2.St} {H : Hp} {Q : VK} {te : TE} {tl th : TO} {QO : Option Int → Hp → Prop}
theorem w_tsl {f : V → Option Int → Option Int → Hp → VK → Prop} (h : te σ H fun x H1 => tl σ H1 fun l H2 => th σ H2 fun u H3 => f x l u H3 Q) : tSl f te tl th σ H Q := h
theorem w_tnp (h : QO none H) : tNoPart σ H QO := h
theorem w_tpt (h : te σ H fun x H1 => ∃ i, x = .int i ∧ QO (some i) H1) : tPart te σ H QO := h
theorem w_pt {i : Int} {P : Int → Prop} (h : P i) : ∃ j, V.int i = .int j ∧ P j := ⟨i, rfl, h⟩
theorem w_sl {p : Addr} {xs : List V} {lo hi : Option Int} (h : SqL K H p xs) (q : ∀ l H', H l = none → Same H H' → H' l = some (.lst (cutV xs lo hi)) → Q (.ref l) H') : rSlL K (.ref p) lo hi H Q :=
  ⟨p, xs, rfl, h, fun l hl => q l _ hl (same_upd hl) upd_same⟩
theorem w_cat {p b : Addr} {xs ys : List V} (h1 : H p = some (.lst xs)) (h2 : H b = some (.lst ys)) (hz : xs.length + ys.length ≤ 16000000) (q : ∀ l H', H l = none → Same H H' → H' l = some (.lst (xs ++ ys)) → Q (.ref l) H') : rCat (.ref p) (.ref b) H Q :=
  ⟨p, b, xs, ys, rfl, rfl, h1, h2, Nat.le_trans hz (by rw [sizeLine_eq]; decide), fun l hl => q l _ hl (same_upd hl) upd_same⟩
end
/-! heaps that grow -/
theorem same_at {H H' : Hp} {b : Addr} {o : HO} (s : Same H H') (h : H b = some o) : H' b = some o := s b o h
theorem same_tup {K : PySem.W.Frag} {H H' : Hp} {a : Addr} {xs : List V} (e : Same H H') (h : SqT K H a xs) : SqT K H' a xs := by
  rcases h with (h | ⟨o, h⟩) | h
  · exact .inl (.inl (e _ _ h))
  · exact .inl (.inr ⟨o, e _ _ h⟩)
  · exact .inr h
theorem p2pos (k : Nat) : (0 : Int) < 2 ^ k := Int.pow_pos (by decide)
/-! loops -/
section
variable {K : PySem.W.Frag} {D : Ends} {σ : L2.St} {H : Hp} {Q : VK} {ta te tl : TE} {t : TS} {g : TG} {s : TA} {wi : TI} {tt : TT} {vs : List Nat}
def ForB (J : It) (g : TG) (t : TS) (D : Ends) (σ : L2.St) (H : Hp) : Prop := ∃ W : Nat → Nat → L2.St → Hp → Prop, (∃ m, W 0 m σ H) ∧ ∀ i m σ H, W i m σ H →
  (J.stop i H ∧ D.nx σ H) ∨ (J.go i H ∧ ∃ N : L2.St → Hp → Prop, (∀ σ' H', N σ' H' → ∃ m', m' < m ∧ W (i + 1) m' σ' H') ∧ ∀ x H', J.yld i H x H' → g x σ H' fun σ2 H2 => t { D with nx := N, ct := N, bk := D.nx } σ2 H2)
theorem w_for (h : wi σ H fun J H1 => ForB J g t D σ H1) : tFor wi g t D σ H := h
def LcB (J : It) (g : TG) (tt : TT) (te : TE) (vs : List Nat) (σ : L2.St) (Q : VK) (H1 : Hp) : Prop := ∀ D, H1 D = none → ∃ W : Nat → Nat → Hp → Prop, (∃ m, W 0 m (upd H1 D (.lst []))) ∧ ∀ i m H, W i m H →
  (J.stop i H ∧ Q (.ref D) H) ∨ (J.go i H ∧ ∃ Nx : Hp → Prop, (∀ H', Nx H' → ∃ m', m' < m ∧ W (i + 1) m' H') ∧ ∀ x H', J.yld i H x H' → g x (wipe σ vs) H' fun σ2 H2 => wipe σ2 vs = wipe σ vs ∧ tt σ2 H2 fun b H3 =>
    if b = true then te σ2 H3 fun y H4 => ∃ acc, H4 D = some (.lst acc) ∧ acc.length < sizeLine ∧ Nx (upd H4 D (.lst (acc ++ [y]))) else Nx H3)
theorem w_lc (h : wi σ H fun J H1 => LcB J g tt te vs σ Q H1) : tLc wi g tt te vs σ H Q := h
def IL1 (K : PySem.W.Frag) (R : It → Hp → Prop) (x : V) (H1 : Hp) : Prop := ∃ a, x = .ref a ∧ (∃ xs, SqL K H1 a xs) ∧ R (Itl K a) H1
def IT1 (K : PySem.W.Frag) (R : It → Hp → Prop) (x : V) (H1 : Hp) : Prop := ∃ a, x = .ref a ∧ (∃ xs, SqT K H1 a xs) ∧ R (Itt K a) H1
def IR1 (R : It → Hp → Prop) (vs : List V) (H1 : Hp) : Prop := ∃ j : Int, vs = [.int j] ∧ -(2 ^ 62) ≤ j ∧ j < 2 ^ 62 ∧ R (Itr 0 j.toNat) H1
def IR2 (R : It → Hp → Prop) (vs : List V) (H1 : Hp) : Prop := ∃ i j : Int, vs = [.int i, .int j] ∧ (-(2 ^ 62) ≤ i ∧ i < 2 ^ 62 ∧ -(2 ^ 62) ≤ j ∧ j < 2 ^ 62) ∧ R (Itr i (j - i).toNat) H1
variable {R : It → Hp → Prop}
theorem w_iL (h : tl σ H fun x H1 => IL1 K R x H1) : iList K tl σ H R := h
theorem w_iT (h : tl σ H fun x H1 => IT1 K R x H1) : iTup K tl σ H R := h
theorem w_iR1 (h : s σ H fun x H1 => IR1 R x H1) : iRng1 s σ H R := h
theorem w_iR2 (h : s σ H fun x H1 => IR2 R x H1) : iRng2 s σ H R := h
theorem w_IL1 {a : Addr} {xs : List V} (h : SqL K H a xs) (q : R (Itl K a) H) : IL1 K R (.ref a) H := ⟨a, rfl, ⟨xs, h⟩, q⟩
theorem w_IT1 {a : Addr} {xs : List V} (h : SqT K H a xs) (q : R (Itt K a) H) : IT1 K R (.ref a) H := ⟨a, rfl, ⟨xs, h⟩, q⟩
theorem w_IR1 {j : Int} (h : -1000000 ≤ j ∧ j ≤ 1000000) (q : R (Itr 0 j.toNat) H) : IR1 R [.int j] H := ⟨j, rfl, by omega, by omega, q⟩
theorem w_IR2 {i j : Int} (h : -1000000 ≤ i ∧ i ≤ 1000000 ∧ -1000000 ≤ j ∧ j ≤ 1000000) (q : R (Itr i (j - i).toNat) H) : IR2 R [.int i, .int j] H := ⟨i, j, rfl, by omega, q⟩
/-- for x in a list that stands: Pv by the turn, the slots, the heap -/
theorem for_l {a : Addr} {j : Nat} (xs : List V) (Pv : Nat → L2.St → Hp → Prop) (h0 : Pv 0 σ H) (hl : ∀ i σ H, i ≤ xs.length → Pv i σ H → SqL K H a xs)
    (hs : ∀ i x σ' H', xs[i]? = some x → Pv i σ' H' → t { D with nx := Pv (i + 1), ct := Pv (i + 1), bk := D.nx } (σ'.set j (some x)) H') (hd : ∀ σ' H', Pv xs.length σ' H' → D.nx σ' H') : ForB (Itl K a) (gName j) t D σ H :=
  for_list Pv h0 hl hs hd
theorem for_t {a : Addr} {j : Nat} (xs : List V) (Pv : Nat → L2.St → Hp → Prop) (h0 : Pv 0 σ H) (hl : ∀ i σ H, i ≤ xs.length → Pv i σ H → SqT K H a xs)
    (hs : ∀ i x σ' H', xs[i]? = some x → Pv i σ' H' → t { D with nx := Pv (i + 1), ct := Pv (i + 1), bk := D.nx } (σ'.set j (some x)) H') (hd : ∀ σ' H', Pv xs.length σ' H' → D.nx σ' H') : ForB (Itt K a) (gName j) t D σ H :=
  for_tup Pv h0 hl hs hd
theorem for_r {n j : Nat} (Pv : Nat → L2.St → Hp → Prop) (h0 : Pv 0 σ H)
    (hs : ∀ (i : Nat) σ' H', i < n → Pv i σ' H' → t { D with nx := Pv (i + 1), ct := Pv (i + 1), bk := D.nx } (σ'.set j (some (.int (i : Int)))) H') (hd : ∀ σ' H', Pv n σ' H' → D.nx σ' H') : ForB (Itr 0 n) (gName j) t D σ H :=
  for_range Pv h0 (fun i σ' H' hi p => by
    show t _ (σ'.set j (some (.int (0 + (i : Int))))) H'
    rw [Int.zero_add]
    exact hs i σ' H' hi p) hd
theorem for_r2 {lo : Int} {n j : Nat} (Pv : Nat → L2.St → Hp → Prop) (h0 : Pv 0 σ H)
    (hs : ∀ (i : Nat) σ' H', i < n → Pv i σ' H' → t { D with nx := Pv (i + 1), ct := Pv (i + 1), bk := D.nx } (σ'.set j (some (.int (lo + (i : Int))))) H') (hd : ∀ σ' H', Pv n σ' H' → D.nx σ' H') : ForB (Itr lo n) (gName j) t D σ H :=
  for_range Pv h0 hs hd
/-- a comprehension over range(n) whose elements leave the heap -/
theorem lc_r {n j : Nat} (f : Nat → V) (hn : n < 1000000) (hw : ∀ x, wipe ((wipe σ vs).set j (some x)) vs = wipe σ vs)
    (he : ∀ (i : Nat) H' (Q' : VK), i < n → Same H H' → Q' (f i) H' → te ((wipe σ vs).set j (some (.int (i : Int)))) H' Q')
    (q : ∀ p H', H p = none → Same H H' → H' p = some (.lst ((List.range n).map f)) → Q (.ref p) H') : LcB (Itr 0 n) (gName j) tYes te vs σ Q H := fun p hp =>
  lc_range (lo := 0) (n := n) (fun i H' => H' = upd H p (.lst ((List.range i).map f))) rfl (fun i H' hi e => by
    subst e
    have e0 : V.int (0 + (i : Int)) = V.int (i : Int) := by rw [Int.zero_add]
    show wipe ((wipe σ vs).set j (some (V.int (0 + (i : Int))))) vs = wipe σ vs ∧ te ((wipe σ vs).set j (some (V.int (0 + (i : Int))))) (upd H p (.lst ((List.range i).map f)))
      (fun y H4 => ∃ acc, H4 p = some (.lst acc) ∧ acc.length < sizeLine ∧ upd H4 p (.lst (acc ++ [y])) = upd H p (.lst ((List.range (i + 1)).map f)))
    rw [e0]
    refine ⟨hw _, he i _ _ hi (same_upd hp) ⟨_, upd_same, ?_, ?_⟩⟩
    · rw [List.length_map, List.length_range]
      exact Nat.lt_of_lt_of_le (show i < 16777216 by omega) (by rw [sizeLine_eq]; exact Nat.le_refl _)
    · rw [upd_upd, List.range_succ, List.map_append]
      rfl) fun H' e => by
    subst e
    exact q p _ hp (same_upd hp) upd_same
end
/-! lists of ints -/
theorem get_map {α : Type} {xs : List α} {f : α → V} {i : Nat} {x : V} (h : (xs.map f)[i]? = some x) : ∃ y, xs[i]? = some y ∧ x = f y := by
  rw [List.getElem?_map] at h
  cases e : xs[i]? with
  | none => rw [e] at h; cases h
  | some y => rw [e] at h; exact ⟨y, rfl, (Option.some.inj h).symm⟩
theorem cut_upto (xs : List V) (n : Nat) : cutV xs none (some (n : Int)) = xs.take n := by
  unfold cutV
  rw [HT.sIx_none, HT.sIx_nat, List.drop_zero, Nat.sub_zero]
  rcases Nat.le_total n xs.length with h | h
  · rw [Nat.min_eq_left h]
  · rw [Nat.min_eq_right h, List.take_of_length_le (Nat.le_refl _), List.take_of_length_le h]
theorem cut_from (xs : List V) (n : Nat) (h : n ≤ xs.length) : cutV xs (some (n : Int)) none = xs.drop n := by
  unfold cutV
  rw [HT.sIx_none, HT.sIx_nat, Nat.min_eq_left h]
  exact List.take_of_length_le (by rw [List.length_drop]; exact Nat.le_refl _)
/-- the cells of a law: at most 63 of the script, and nought behind -/
def cells (ns : List Int) : List Int := ns.take 63 ++ [0]
theorem cells_eq (ns : List Int) : cutV (ns.map V.int) none (some (63 : Int)) ++ [V.int 0] = (cells ns).map V.int := by
  rw [show (63 : Int) = ((63 : Nat) : Int) from rfl, cut_upto, cells, List.map_append, List.map_take]
  rfl
theorem cells_len (ns : List Int) : (cells ns).length ≤ 64 ∧ 1 ≤ (cells ns).length := by
  unfold cells
  rw [List.length_append, List.length_take, List.length_singleton]
  omega
theorem cutV_le (xs : List V) (lo hi : Option Int) {n : Nat} (h : xs.length ≤ n) : (cutV xs lo hi).length ≤ n := Nat.le_trans (cutV_length xs lo hi) h
/-! == of data -/
theorem w_neD {K : PySem.W.Frag} {H : Hp} {Q : VK} {x y : V} {d e : PyData} (hx : Dp K H x d) (hy : Dp K H y e) (sd : SeqAt.shaped d = true) (se : SeqAt.shaped e = true) (q : Q (.bl (!PyData.eqv d e)) H) : rNeD K x y H Q := ⟨d, e, hx, hy, sd, se, q⟩
theorem w_eqD {K : PySem.W.Frag} {H : Hp} {Q : VK} {x y : V} {d e : PyData} (hx : Dp K H x d) (hy : Dp K H y e) (sd : SeqAt.shaped d = true) (se : SeqAt.shaped e = true) (q : Q (.bl (PyData.eqv d e)) H) : rEqD K x y H Q := ⟨d, e, hx, hy, sd, se, q⟩
theorem w_neSame {K : PySem.W.Frag} {H : Hp} {Q : VK} {x y : V} (d : PyData) (hx : Dp K H x d) (hy : Dp K H y d) (sd : SeqAt.shaped d = true) (q : Q (.bl false) H) : rNeD K x y H Q :=
  ⟨d, d, hx, hy, sd, sd, by rw [SeqAt.eqv_refl d (SeqAt.canLay_of_shaped sd)]; exact q⟩
theorem w_eqSame {K : PySem.W.Frag} {H : Hp} {Q : VK} {x y : V} (d : PyData) (hx : Dp K H x d) (hy : Dp K H y d) (sd : SeqAt.shaped d = true) (q : Q (.bl true) H) : rEqD K x y H Q :=
  ⟨d, d, hx, hy, sd, sd, by rw [SeqAt.eqv_refl d (SeqAt.canLay_of_shaped sd)]; exact q⟩
theorem dp_ints {K : PySem.W.Frag} {H : Hp} : ∀ ns : List Int, DpAll K H (ns.map V.int) (ns.map PyData.int)
  | [] => .nil
  | n :: r => .cons (.int n) (dp_ints r)
theorem lay_ints : ∀ ns : List Int, PyData.canLayAll0 (ns.map PyData.int) = true
  | [] => rfl
  | n :: r => by
    show (PyData.canLay0 (.int n) && PyData.canLayAll0 (r.map PyData.int)) = true
    rw [lay_ints r]
    rfl
/-! lists that change -/
section
variable {K : PySem.W.Frag} {D : Ends} {σ : L2.St} {H H1 : Hp} {Q : VK} {to : TE} {t : TA} {b : TS}
/-- what H does not know may change behind it -/
theorem same_mut {o : Addr} {u : HO} (s : Same H H1) (n : H o = none) : Same H (upd H1 o u) := fun c x e => by
  rw [upd_ne (ne_of_none e n)]
  exact s c x e
def BM1 (K : PySem.W.Frag) (T : String) (f : V → List V → Hp → VK → Prop) (t : TA) (σ : L2.St) (Q : VK) (x : V) (H1 : Hp) : Prop := tyV K T x H1 ∧ t σ H1 fun xs H2 => f x xs H2 Q
def BM0 (K : PySem.W.Frag) (T : String) (f : V → List V → Hp → VK → Prop) (Q : VK) (x : V) (H1 : Hp) : Prop := tyV K T x H1 ∧ f x [] H1 Q
theorem w_bm {T : String} {f : V → List V → Hp → VK → Prop} (h : to σ H fun x H1 => BM1 K T f t σ Q x H1) : tBM K T f to t σ H Q := h
theorem w_bm0 {T : String} {f : V → List V → Hp → VK → Prop} (h : to σ H fun x H1 => BM0 K T f Q x H1) : tBM0 K T f to σ H Q := h
theorem w_BML {f : V → List V → Hp → VK → Prop} {p : Addr} {xs : List V} (e : H p = some (.lst xs)) (q : t σ H fun vs H2 => f (.ref p) vs H2 Q) : BM1 K "list" f t σ Q (.ref p) H := ⟨.inl ⟨rfl, xs, SqL.of e⟩, q⟩
theorem w_BM0L {f : V → List V → Hp → VK → Prop} {p : Addr} {xs : List V} (e : H p = some (.lst xs)) (q : f (.ref p) [] H Q) : BM0 K "list" f Q (.ref p) H := ⟨.inl ⟨rfl, xs, SqL.of e⟩, q⟩
theorem w_append {p : Addr} {xs : List V} {y : V} (e : H p = some (.lst xs)) (hz : xs.length ≤ 1000000) (q : Q .non (upd H p (.lst (xs ++ [y])))) : rAppend (.ref p) [y] H Q :=
  ⟨p, xs, y, rfl, rfl, e, Nat.lt_of_le_of_lt hz (by rw [sizeLine_eq]; decide), q⟩
/-- for k, x in enumerate(a list that stands) -/
def IE1 (K : PySem.W.Frag) (R : It → Hp → Prop) (vs : List V) (H1 : Hp) : Prop := ∃ a xs, vs = [.ref a] ∧ SqL K H1 a xs ∧ R (Ite K a) H1
theorem w_iE {s : TA} {R : It → Hp → Prop} (h : s σ H fun x H1 => IE1 K R x H1) : iEnum K s σ H R := h
theorem w_IE1 {a : Addr} {xs : List V} {R : It → Hp → Prop} (h : SqL K H a xs) (q : R (Ite K a) H) : IE1 K R [.ref a] H := ⟨a, xs, rfl, h, q⟩
theorem for_e {a : Addr} {j k : Nat} (xs : List V) (Pv : Nat → L2.St → Hp → Prop) (h0 : Pv 0 σ H) (hl : ∀ n σ H, n ≤ xs.length → Pv n σ H → SqL K H a xs)
    (hs : ∀ (n : Nat) x σ' H' H'', xs[n]? = some x → Pv n σ' H' → Same H' H'' → b { D with nx := Pv (n + 1), ct := Pv (n + 1), bk := D.nx } ((σ'.set j (some (.int (n : Int)))).set k (some x)) H'') (hd : ∀ σ' H', Pv xs.length σ' H' → D.nx σ' H') :
    ForB (Ite K a) (gTup K 2 (gCons (gName j) (gCons (gName k) gNil))) b D σ H := by
  refine ⟨fun i m σ H => m = xs.length - i ∧ i ≤ xs.length ∧ Pv i σ H, ⟨xs.length, by simp, Nat.zero_le _, h0⟩, ?_⟩
  rintro i m σ H ⟨rfl, hi, p⟩
  have q := hl i σ H hi p
  by_cases hlt : i < xs.length
  · refine .inr ⟨⟨xs, xs[i], q, by simp [hlt]⟩, Pv (i + 1), fun σ' H' p' => ⟨xs.length - (i + 1), by omega, rfl, hlt, p'⟩, fun x H' y => ?_⟩
    obtain ⟨T, y, rfl, nT, rfl, hy⟩ := y
    refine ⟨T, _, rfl, SqT.of upd_same, rfl, _, _, rfl, _, _, rfl, rfl, ?_⟩
    exact hs i y σ H _ (hy xs q) p (same_upd nT)
  · have e : i = xs.length := by omega
    subst e
    exact .inl ⟨⟨xs, q, Nat.le_refl _⟩, hd σ H p⟩
end
/-- x & 1 -/
def rBit1 : R2 := fun x y H Q => ∃ i : Int, x = .int i ∧ y = .int 1 ∧ Q (.int (i % 2)) H
theorem op_bit1 {X : Cx} : OpR X (binaryOp .BitAnd) rBit1 := by
  intro pins s σ H x y v u Q I rx ry h
  obtain ⟨i, rfl, rfl, q⟩ := h
  have e : Builtin.bitAnd i 1 = i % 2 := PySem.W.kbt_mask i 1
  rw [← e] at q
  exact op_and pins s σ H _ _ v u Q I rx ry ⟨_, _, rfl, rfl, q⟩
theorem w_bit1 {H : Hp} {Q : VK} {i : Int} (q : Q (.int (i % 2)) H) : rBit1 (.int i) (.int 1) H Q := ⟨i, rfl, rfl, q⟩
/-- x >> k, k a place -/
def rShrN : R2 := fun x y H Q => ∃ (i : Int) (k : Nat), x = .int i ∧ y = .int (k : Int) ∧ Q (.int (i / 2 ^ k)) H
theorem op_shrK {X : Cx} : OpR X (binaryOp .RShift) rShrN := op_shrN
theorem w_shrN {H : Hp} {Q : VK} {i : Int} {k : Nat} (q : Q (.int (i / 2 ^ k)) H) : rShrN (.int i) (.int (k : Int)) H Q := ⟨i, k, rfl, rfl, q⟩
/-- x << k, x small, k a place -/
def rShlN : R2 := fun x y H Q => ∃ (i : Int) (k : Nat), x = .int i ∧ y = .int (k : Int) ∧ (-100 ≤ i ∧ i ≤ 100 ∧ k ≤ 1000000) ∧ Q (.int (i * 2 ^ k)) H
theorem op_shlK {X : Cx} : OpR X (binaryOp .LShift) rShlN := by
  intro pins s σ H x y v u Q I rx ry h
  obtain ⟨i, k, rfl, rfl, ⟨h1, h2, h3⟩, q⟩ := h
  refine op_shl pins s σ H _ _ v u Q I rx ry ⟨_, _, rfl, rfl, ⟨by omega, by omega, Nat.lt_of_le_of_lt (show i.natAbs ≤ 100 by omega) (by decide)⟩, ?_⟩
  show Q (.int (i * 2 ^ (k : Int).toNat)) H
  rw [Int.toNat_natCast]
  exact q
theorem w_shlN {H : Hp} {Q : VK} {i : Int} {k : Nat} (h : -100 ≤ i ∧ i ≤ 100 ∧ k ≤ 1000000) (q : Q (.int (i * 2 ^ k)) H) : rShlN (.int i) (.int (k : Int)) H Q := ⟨i, k, rfl, rfl, h, q⟩
theorem bits_of_int {i : Int} {n : Nat} (h : i.natAbs < 2 ^ n) : Builtin.Int.intBits i ≤ n + 1 := by
  have b : Builtin.Int.intBits i ≤ i.natAbs.log2 + 1 := by
    unfold Builtin.Int.intBits
    split <;> omega
  rcases Nat.eq_zero_or_pos n with h0 | h0
  · subst h0
    have e : i.natAbs = 0 := by omega
    rw [e] at b
    exact b
  · have := PySem.Flt.log2_lt_of h0 h
    omega
theorem mul_ok {i j : Int} {n : Nat} (hi : Builtin.Int.intBits i ≤ 1048576) (hj : j.natAbs < 2 ^ n) (hn : n ≤ 1000000) : IntMulOk i j :=
  CMulX.ok (show (Builtin.Int.intBits i : Int) + (Builtin.Int.intBits j : Int) ≤ 134217728 by have := bits_of_int hj; omega)
theorem mul_sm {i j : Int} (h : -1000000000000 ≤ i ∧ i ≤ 1000000000000) : IntMulOk i j := .of_left (intBits_le_64 (by omega) (by omega))
theorem mul_sm2 {i j : Int} (h : -1000000000000 ≤ j ∧ j ≤ 1000000000000) : IntMulOk i j := .of_right (intBits_le_64 (by omega) (by omega))
theorem depth_ints : ∀ ns : List Int, PyData.depthAll (ns.map PyData.int) ≤ 1
  | [] => Nat.zero_le 1
  | n :: r => by
    have := depth_ints r
    show max (PyData.depth (.int n)) (PyData.depthAll (r.map PyData.int)) ≤ 1
    exact Nat.max_le.mpr ⟨Nat.zero_le 1, this⟩
theorem shaped_ints (ns : List Int) : SeqAt.shaped (.list (ns.map PyData.int)) = true := by
  unfold SeqAt.shaped
  rw [show PyData.canLay0 (.list (ns.map PyData.int)) = true from lay_ints ns, Bool.true_and]
  have h := depth_ints ns
  exact decide_eq_true (show PyData.depthAll (ns.map PyData.int) + 1 ≤ 64 by omega)
/-! targets of several names -/
section
variable {K : PySem.W.Frag} {σ : L2.St} {H : Hp} {t : TG} {u tt : TGs} {QS : L2.St → Hp → Prop}
theorem w_gTup {n : Nat} {a : Addr} {xs : List V} (h : SqT K H a xs) (e : xs.length = n) (q : tt xs σ H QS) : gTup K n tt (.ref a) σ H QS := ⟨a, xs, rfl, h, e, q⟩
theorem w_gCons {v : V} {r : List V} (q : t v σ H fun σ' H' => u r σ' H' QS) : gCons t u (v :: r) σ H QS := ⟨v, r, rfl, q⟩
theorem w_gNil (q : QS σ H) : gNil [] σ H QS := ⟨rfl, q⟩
theorem w_gName {v : V} {i : Nat} (q : QS (σ.set i (some v)) H) : gName i v σ H QS := q
end
/-- how many bits a number has -/
theorem ib_le {x : Int} (h : 0 ≤ x) (n : Nat) : Builtin.Int.intBits x ≤ n ↔ x < 2 ^ n := by
  obtain ⟨k, rfl⟩ := Int.eq_ofNat_of_zero_le h
  have e : (k : Int) < 2 ^ n ↔ k < 2 ^ n := by
    rw [show ((2 : Int) ^ n) = ((2 ^ n : Nat) : Int) by rw [Int.natCast_pow]; rfl]
    exact Int.ofNat_lt
  rw [e]
  by_cases h0 : k = 0
  · subst h0
    exact ⟨fun _ => Nat.pos_of_ne_zero (by intro z; exact absurd z (Nat.ne_of_gt (Nat.pow_pos (by decide)))), fun _ => Nat.zero_le _⟩
  · have hb : Builtin.Int.intBits (k : Int) = k.log2 + 1 := by
      unfold Builtin.Int.intBits
      rw [if_neg (by simpa using h0)]
      rfl
    rw [hb]
    exact (Nat.log2_lt h0)
theorem mul_cc {i j : Int} (hi : Builtin.Int.intBits i ≤ 1048576) (hj : Builtin.Int.intBits j ≤ 1048576) : IntMulOk i j :=
  CMulX.ok (show (Builtin.Int.intBits i : Int) + (Builtin.Int.intBits j : Int) ≤ 134217728 by omega)
theorem abs_pow (n : Nat) : ((1 : Int) * 2 ^ n).natAbs = 2 ^ n := by
  rw [Int.one_mul, Int.natAbs_pow]
  rfl
/-! cells of a script by their places -/
theorem get_int {ns : List Int} {i : Nat} (hi : i < ns.length) : atI (ns.map V.int) (i : Int) = some (.int ns[i]) := atI_nat (by rw [List.getElem?_map, List.getElem?_eq_getElem hi]; rfl)
theorem atI_lastD {bs : List Int} (h : bs ≠ []) : atI (bs.map V.int) (-1) = some (.int (bs.getLastD 0)) := by
  obtain ⟨r, x, rfl⟩ : ∃ r x, bs = r ++ [x] := ⟨bs.dropLast, bs.getLast h, (List.dropLast_concat_getLast h).symm⟩
  rw [List.map_append]
  have e : (r ++ [x]).getLastD 0 = x := by simp
  rw [e]
  exact atI_last _ _
theorem atI_prev {xs : List Int} {k : Nat} (hk : k < xs.length) : ∃ c, atI (xs.map V.int) ((k : Int) - 1) = some (.int c) ∧ c ∈ xs := by
  cases k with
  | zero =>
    have hne : xs ≠ [] := fun z => by
      rw [z] at hk
      exact absurd hk (by decide)
    refine ⟨xs.getLastD 0, atI_lastD hne, ?_⟩
    obtain ⟨r, x, rfl⟩ : ∃ r x, xs = r ++ [x] := ⟨xs.dropLast, xs.getLast hne, (List.dropLast_concat_getLast hne).symm⟩
    simp
  | succ j =>
    have hj : j < xs.length := by omega
    refine ⟨xs[j], ?_, List.getElem_mem hj⟩
    have e : ((j + 1 : Nat) : Int) - 1 = (j : Int) := by omega
    rw [e]
    exact get_int hj
theorem cells_bits {ns : List Int} (h : ∀ z ∈ ns, Builtin.Int.intBits z ≤ 1048576) : ∀ z ∈ cells ns, Builtin.Int.intBits z ≤ 1048576 := by
  intro z hz
  rcases List.mem_append.mp hz with q | q
  · exact h z (List.mem_of_mem_take q)
  · have e : z = 0 := List.mem_singleton.mp q
    rw [e]
    decide
/-! texts compared -/
theorem w_itS1 {x y : Str} {A B : Prop} (e : decide (x = y) = true) (h : A) : if decide (V.str x = V.str y) = true then A else B := by
  rw [of_decide_eq_true e, decide_eq_true rfl]
  exact w_itT h
theorem w_itS0 {x y : Str} {A B : Prop} (e : decide (x = y) = false) (h : B) : if decide (V.str x = V.str y) = true then A else B := by
  rw [decide_eq_false (fun z => of_decide_eq_false e (V.str.inj z))]
  exact w_itF h
theorem w_itN1 {x y : Str} {A B : Prop} (e : decide (x = y) = true) (h : B) : if (!decide (V.str x = V.str y)) = true then A else B := by
  rw [of_decide_eq_true e, decide_eq_true rfl]
  exact w_itF h
theorem w_itN0 {x y : Str} {A B : Prop} (e : decide (x = y) = false) (h : A) : if (!decide (V.str x = V.str y)) = true then A else B := by
  rw [decide_eq_false (fun z => of_decide_eq_false e (V.str.inj z))]
  exact w_itT h
theorem w_itS {x y : Str} {A B : Prop} (h1 : x = y → A) (h2 : x ≠ y → B) : if decide (V.str x = V.str y) = true then A else B := by
  by_cases e : x = y
  · exact w_itS1 (decide_eq_true e) (h1 e)
  · exact w_itS0 (decide_eq_false e) (h2 e)
theorem w_itSN {x y : Str} {A B : Prop} (h1 : x ≠ y → A) (h2 : x = y → B) : if (!decide (V.str x = V.str y)) = true then A else B := by
  by_cases e : x = y
  · exact w_itN1 (decide_eq_true e) (h2 e)
  · exact w_itN0 (decide_eq_false e) (h1 e)
/-! dicts asked -/
def DG1 (x y : V) (H2 : Hp) (Q : VK) : Prop := ∃ a v, x = .ref a ∧ DGet H2 a y (some v) ∧ Q v H2
theorem w_dget {td ty : TE} {σ : L2.St} {H : Hp} {Q : VK} (h : td σ H fun x H1 => ty σ H1 fun y H2 => DG1 x y H2 Q) : tDGet td ty σ H Q := h
theorem w_DG1 {a : Addr} {kvs : List (Key × V)} {n : Str} {v : V} {H : Hp} {Q : VK} (e : H a = some (.dK kvs)) (g : valV kvs (Sum.inr n) = some v) (q : Q v H) : DG1 (.ref a) (.str n) H Q :=
  ⟨a, v, rfl, by rw [← g]; exact DGet.k (k := Sum.inr n) e, q⟩
/-! lists in step -/
def A2 {α β : Type} (R : α → β → Prop) (xs : List α) (ys : List β) : Prop := xs.length = ys.length ∧ ∀ (i : Nat) x y, xs[i]? = some x → ys[i]? = some y → R x y
theorem A2.nil {α β : Type} {R : α → β → Prop} : A2 R [] [] := ⟨rfl, fun i x y h => by cases h⟩
theorem A2.snoc {α β : Type} {R : α → β → Prop} {xs : List α} {ys : List β} {x : α} {y : β} (h : A2 R xs ys) (r : R x y) : A2 R (xs ++ [x]) (ys ++ [y]) := by
  refine ⟨by rw [List.length_append, List.length_append, h.1]; rfl, fun i u v hu hv => ?_⟩
  rcases Nat.lt_trichotomy i xs.length with q | q | q
  · rw [List.getElem?_append_left q] at hu
    rw [List.getElem?_append_left (by rw [← h.1]; exact q)] at hv
    exact h.2 i u v hu hv
  · subst q
    rw [List.getElem?_append_right (Nat.le_refl _), Nat.sub_self] at hu
    rw [h.1, List.getElem?_append_right (Nat.le_refl _), Nat.sub_self] at hv
    cases hu
    cases hv
    exact r
  · rw [List.getElem?_eq_none (by rw [List.length_append]; exact q)] at hu
    cases hu
theorem A2.mono {α β : Type} {R S : α → β → Prop} {xs : List α} {ys : List β} (h : A2 R xs ys) (k : ∀ x y, R x y → S x y) : A2 S xs ys := ⟨h.1, fun i x y a b => k x y (h.2 i x y a b)⟩
theorem A2.get {α β : Type} {R : α → β → Prop} {xs : List α} {ys : List β} {i : Nat} {x : α} (h : A2 R xs ys) (e : xs[i]? = some x) : ∃ y, ys[i]? = some y ∧ R x y := by
  have hi := (List.getElem?_eq_some_iff.mp e).1
  have hj : i < ys.length := by rw [← h.1]; exact hi
  exact ⟨ys[i], List.getElem?_eq_getElem hj, h.2 i x _ e (List.getElem?_eq_getElem hj)⟩
theorem A2.get2 {α β : Type} {R : α → β → Prop} {xs : List α} {ys : List β} {i : Nat} {y : β} (h : A2 R xs ys) (e : ys[i]? = some y) : ∃ x, xs[i]? = some x ∧ R x y := by
  have hi := (List.getElem?_eq_some_iff.mp e).1
  have hj : i < xs.length := by rw [h.1]; exact hi
  exact ⟨xs[i], List.getElem?_eq_getElem hj, h.2 i _ y (List.getElem?_eq_getElem hj) e⟩
theorem mul_ok2 {i j : Int} {n : Nat} (hi : Builtin.Int.intBits i ≤ 1048576) (hj : j.natAbs < 2 ^ n) (hn : n ≤ 1000000) : IntMulOk i j := mul_ok hi hj hn
/-! the rules with the written part named (within a comprehension it must be) -/
theorem ix_tupK {X : Cx} (K : PySem.W.Frag) (e : X.K = K := by rfl) : IxR X (rIxT K) := by subst e; exact ix_tup
theorem ix_listK {X : Cx} (K : PySem.W.Frag) (e : X.K = K := by rfl) : IxR X (rIxL K) := by subst e; exact ix_list
theorem c_lenK {X : Cx} (K : PySem.W.Frag) (e : X.K = K := by rfl) : CallR X (.builtin "len") (rLen K) := by subst e; exact c_len
theorem c_listK {X : Cx} (K : PySem.W.Frag) (e : X.K = K := by rfl) : CallR X (.type "list") (rListOf K) := by subst e; exact c_list
theorem c_isiK {X : Cx} (K : PySem.W.Frag) (e : X.K = K := by rfl) : CallR X (.builtin "isinstance") (rIsi K) := by subst e; exact call_isi
/-- a comprehension over a list that stands, whose elements leave the heap -/
theorem lc_l {K : PySem.W.Frag} {σ : L2.St} {H : Hp} {Q : VK} {te : TE} {vs : List Nat} {a : Addr} {j : Nat} (xs ys : List V) (hlen : ys.length = xs.length) (hS : SqL K H a xs) (hz : xs.length ≤ 1000000) (hw : ∀ x, wipe ((wipe σ vs).set j (some x)) vs = wipe σ vs)
    (he : ∀ (i : Nat) x y H' (Q' : VK), xs[i]? = some x → ys[i]? = some y → Same H H' → Q' y H' → te ((wipe σ vs).set j (some x)) H' Q')
    (q : ∀ p H', H p = none → Same H H' → H' p = some (.lst ys) → Q (.ref p) H') : LcB (Itl K a) (gName j) tYes te vs σ Q H := fun p hp =>
  lc_list (xs := xs) (fun i H' => H' = upd H p (.lst (ys.take i))) rfl (fun i H' _ e => by
    subst e
    exact (same_upd hp).seq hS) (fun i x H' hx e => by
    subst e
    have hi := (List.getElem?_eq_some_iff.mp hx).1
    have hy : ys[i]? = some ys[i] := List.getElem?_eq_getElem (by omega)
    show wipe ((wipe σ vs).set j (some x)) vs = wipe σ vs ∧ te ((wipe σ vs).set j (some x)) (upd H p (.lst (ys.take i)))
      (fun y H4 => ∃ acc, H4 p = some (.lst acc) ∧ acc.length < sizeLine ∧ upd H4 p (.lst (acc ++ [y])) = upd H p (.lst (ys.take (i + 1))))
    refine ⟨hw _, he i x _ _ _ hx hy (same_upd hp) ⟨_, upd_same, ?_, ?_⟩⟩
    · rw [List.length_take]
      exact Nat.lt_of_lt_of_le (show min i ys.length < 16777216 by omega) (by rw [sizeLine_eq]; exact Nat.le_refl _)
    · rw [upd_upd, List.take_add_one, hy]
      rfl) fun H' e => by
    subst e
    refine q p _ hp (same_upd hp) ?_
    rw [upd_same, List.take_of_length_le (by omega)]
/-- x // (1 << k) -/
def rDivP : R2 := fun x y H Q => ∃ (i : Int) (k : Nat), x = .int i ∧ y = .int (1 * 2 ^ k) ∧ k ≤ 5000 ∧ Q (.int (i / 2 ^ k)) H
theorem op_divP {X : Cx} : OpR X (binaryOp .FloorDiv) rDivP := by
  intro pins s σ H x y v u Q I rx ry h
  obtain ⟨i, k, rfl, rfl, hk, q⟩ := h
  refine op_fdivW pins s σ H _ _ v u Q I rx ry ⟨_, _, rfl, rfl, ?_, ?_⟩
  · refine wide_div (b := k + 1) (by rw [Int.one_mul]; exact p2pos k) ?_ (Nat.succ_pos _) (by omega)
    rw [abs_pow]
    exact Nat.pow_lt_pow_right (by decide) (Nat.lt_succ_self k)
  · show Q (.int (i / (1 * 2 ^ k))) H
    rw [Int.one_mul]
    exact q
theorem w_divP {H : Hp} {Q : VK} {i : Int} {k : Nat} (h : k ≤ 5000) (q : Q (.int (i / 2 ^ k)) H) : rDivP (.int i) (.int (1 * 2 ^ k)) H Q := ⟨i, k, rfl, rfl, h, q⟩
theorem hp_upd {H : Hp} {a b : Addr} {o u : HO} (ne : b ≠ a) (h : H b = some o) : upd H a u b = some o := by rw [upd_ne ne]; exact h
theorem hp_upd2 {H : Hp} {a b : Addr} {o u : HO} (ne : a ≠ b) (h : H b = some o) : upd H a u b = some o := hp_upd ne.symm h
/-- a comprehension over a range, of whose elements something is known -/
theorem lc_rx {σ : L2.St} {H : Hp} {Q : VK} {te : TE} {vs : List Nat} {lo : Int} {n j : Nat} (P : V → Prop) (hn : n < 1000000) (hw : ∀ x, wipe ((wipe σ vs).set j (some x)) vs = wipe σ vs)
    (he : ∀ (i : Nat) H' (Q' : VK), i < n → Same H H' → (∀ y, P y → Q' y H') → te ((wipe σ vs).set j (some (.int (lo + (i : Int))))) H' Q')
    (q : ∀ ys p H', ys.length = n → (∀ y ∈ ys, P y) → H p = none → Same H H' → H' p = some (.lst ys) → Q (.ref p) H') : LcB (Itr lo n) (gName j) tYes te vs σ Q H := fun p hp =>
  lc_range (lo := lo) (n := n) (fun i H' => ∃ ys : List V, ys.length = i ∧ (∀ y ∈ ys, P y) ∧ H' = upd H p (.lst ys)) ⟨[], rfl, fun y h => (by cases h), rfl⟩ (fun i H' hi e => by
    obtain ⟨ys, hl, hP, rfl⟩ := e
    show wipe ((wipe σ vs).set j (some (V.int (lo + (i : Int))))) vs = wipe σ vs ∧ te ((wipe σ vs).set j (some (V.int (lo + (i : Int))))) (upd H p (.lst ys))
      (fun y H4 => ∃ acc, H4 p = some (.lst acc) ∧ acc.length < sizeLine ∧ ∃ zs : List V, zs.length = i + 1 ∧ (∀ y ∈ zs, P y) ∧ upd H4 p (.lst (acc ++ [y])) = upd H p (.lst zs))
    refine ⟨hw _, he i _ _ hi (same_upd hp) fun y hy => ⟨ys, upd_same, ?_, ys ++ [y], ?_, ?_, ?_⟩⟩
    · exact Nat.lt_of_lt_of_le (show ys.length < 16777216 by omega) (by rw [sizeLine_eq]; exact Nat.le_refl _)
    · rw [List.length_append, hl]
      rfl
    · intro z hz
      rcases List.mem_append.mp hz with k | k
      · exact hP z k
      · rw [List.mem_singleton.mp k]
        exact hy
    · rw [upd_upd]) fun H' e => by
    obtain ⟨ys, hl, hP, rfl⟩ := e
    exact q ys p _ hl hP hp (same_upd hp) upd_same
/-- .. over a list -/
theorem lc_lx {K : PySem.W.Frag} {σ : L2.St} {H : Hp} {Q : VK} {te : TE} {vs : List Nat} {a : Addr} {j : Nat} (xs : List V) (P : V → Prop) (hS : SqL K H a xs) (hz : xs.length ≤ 1000000) (hw : ∀ x, wipe ((wipe σ vs).set j (some x)) vs = wipe σ vs)
    (he : ∀ (i : Nat) x H' (Q' : VK), xs[i]? = some x → Same H H' → (∀ y, P y → Q' y H') → te ((wipe σ vs).set j (some x)) H' Q')
    (q : ∀ ys p H', ys.length = xs.length → (∀ y ∈ ys, P y) → H p = none → Same H H' → H' p = some (.lst ys) → Q (.ref p) H') : LcB (Itl K a) (gName j) tYes te vs σ Q H := fun p hp =>
  lc_list (xs := xs) (fun i H' => ∃ ys : List V, ys.length = i ∧ (∀ y ∈ ys, P y) ∧ H' = upd H p (.lst ys)) ⟨[], rfl, fun y h => (by cases h), rfl⟩ (fun i H' _ e => by
    obtain ⟨ys, hl, hP, rfl⟩ := e
    exact (same_upd hp).seq hS) (fun i x H' hx e => by
    obtain ⟨ys, hl, hP, rfl⟩ := e
    have hi := (List.getElem?_eq_some_iff.mp hx).1
    show wipe ((wipe σ vs).set j (some x)) vs = wipe σ vs ∧ te ((wipe σ vs).set j (some x)) (upd H p (.lst ys))
      (fun y H4 => ∃ acc, H4 p = some (.lst acc) ∧ acc.length < sizeLine ∧ ∃ zs : List V, zs.length = i + 1 ∧ (∀ y ∈ zs, P y) ∧ upd H4 p (.lst (acc ++ [y])) = upd H p (.lst zs))
    refine ⟨hw _, he i x _ _ hx (same_upd hp) fun y hy => ⟨ys, upd_same, ?_, ys ++ [y], ?_, ?_, ?_⟩⟩
    · exact Nat.lt_of_lt_of_le (show ys.length < 16777216 by omega) (by rw [sizeLine_eq]; exact Nat.le_refl _)
    · rw [List.length_append, hl]
      rfl
    · intro z hz
      rcases List.mem_append.mp hz with k | k
      · exact hP z k
      · rw [List.mem_singleton.mp k]
        exact hy
    · rw [upd_upd]) fun H' e => by
    obtain ⟨ys, hl, hP, rfl⟩ := e
    exact q ys p _ hl hP hp (same_upd hp) upd_same
/-- values that are all of one form -/
theorem all_map {α : Type} {f : α → V} {R : α → Prop} : ∀ {ys : List V}, (∀ y ∈ ys, ∃ x, y = f x ∧ R x) → ∃ xs : List α, ys = xs.map f ∧ ∀ x ∈ xs, R x
  | [], _ => ⟨[], rfl, fun x h => by cases h⟩
  | y :: r, h => by
    obtain ⟨x, rfl, hx⟩ := h y (List.mem_cons_self ..)
    obtain ⟨xs, rfl, hr⟩ := all_map (f := f) (R := R) fun z hz => h z (List.mem_cons_of_mem _ hz)
    exact ⟨x :: xs, rfl, fun z hz => by
      rcases List.mem_cons.mp hz with e | e
      · rw [e]; exact hx
      · exact hr z e⟩
/-- int(a truth value) -/
def rIntB : List V → Hp → VK → Prop := fun xs H Q => ∃ k : Bool, xs = [.bl k] ∧ Q (.int (if k then 1 else 0)) H
theorem c_intB {X : Cx} : CallR X (.type "int") rIntB := by
  intro pins s σ H xs us Q I r h
  obtain ⟨k, rfl, q⟩ := h
  exact call_int1 pins s σ H _ us Q I r (.inr ⟨k, rfl, q⟩)
theorem w_intB {H : Hp} {Q : VK} {k : Bool} (q : Q (.int (if k then 1 else 0)) H) : rIntB [.bl k] H Q := ⟨k, rfl, q⟩
theorem w_ixS {z : Str} {i : Int} {c : Nat} {H : Hp} {Q : VK} (hz : z.length ≤ 1000000) (h : atI z.cps.toList i = some c) (q : Q (.str ⟨#[c]⟩) H) : rIxS (.str z) (.int i) H Q :=
  ⟨z, i, c, rfl, rfl, Nat.le_trans hz (by rw [sizeLine_eq]; decide), h, q⟩
theorem w_slS {z : Str} {lo hi : Option Int} {H : Hp} {Q : VK} (hz : z.length ≤ 1000000) (q : Q (.str (cutS z lo hi)) H) : rSlS (.str z) lo hi H Q := ⟨z, rfl, Nat.le_trans hz (by rw [sizeLine_eq]; decide), q⟩
/-- ''.join -/
def rJoin (K : PySem.W.Frag) : V → List V → Hp → VK → Prop := fun x xs H Q => ∃ a p, ∃ ys : List Str, x = .str a ∧ xs = [.ref p] ∧ (SqL K H p (ys.map V.str) ∨ SqT K H p (ys.map V.str)) ∧
    (ys.map (·.length)).sum + ys.length * a.length ≤ 16777216 ∧ Q (.str (Txt.join a ys)) H
theorem p_join {X : Cx} {o e : Expr} {to te : TE} {apos pos : Pos} (K : PySem.W.Frag) (ho : PE X o to) (he : PE X e te) (hs : starEach [e] X.env = [(false, eval e X.env)] := by rfl) (hbase : attributeBase o "join" X.env (eval o X.env) = eval o X.env := by rfl) (hline : (apos.endLine == pos.line) = true := by rfl) (hK : X.K = K := by rfl) :
    PE X (.Call (.Attribute o "join" apos) [e] [] pos) (tM1 (rJoin K) to te) := by
  subst hK
  exact pe_join ho he hs hbase hline
def M11 (f : V → List V → Hp → VK → Prop) (te : TE) (σ : L2.St) (Q : VK) (x : V) (H1 : Hp) : Prop := (∃ a, x = .str a) ∧ te σ H1 fun y H2 => f x [y] H2 Q
theorem w_tm1 {f : V → List V → Hp → VK → Prop} {to te : TE} {σ : L2.St} {H : Hp} {Q : VK} (h : to σ H fun x H1 => M11 f te σ Q x H1) : tM1 f to te σ H Q := h
theorem w_M11 {f : V → List V → Hp → VK → Prop} {te : TE} {σ : L2.St} {H : Hp} {Q : VK} {a : Str} (h : te σ H fun y H2 => f (.str a) [y] H2 Q) : M11 f te σ Q (.str a) H := ⟨⟨a, rfl⟩, h⟩
theorem w_join {K : PySem.W.Frag} {H : Hp} {Q : VK} {a : Str} {p : Addr} {ys : List Str} (h : SqL K H p (ys.map V.str)) (hz : (ys.map (·.length)).sum + ys.length * a.length ≤ 16777216) (q : Q (.str (Txt.join a ys)) H) : rJoin K (.str a) [.ref p] H Q :=
  ⟨a, p, ys, rfl, rfl, .inl h, hz, q⟩
/-! x in a list, in a tuple -/
theorem w_inL {K : PySem.W.Frag} {H : Hp} {Q : VK} {x : V} {p : Addr} {xs : List V} (h : SqL K H p xs) (hx : flatV x = true) (ha : xs.all flatV = true) (q : Q (.bl (inV x xs)) H) : rIn K false x (.ref p) H Q := ⟨p, xs, rfl, .inl h, hx, ha, q⟩
theorem w_inT {K : PySem.W.Frag} {H : Hp} {Q : VK} {x : V} {p : Addr} {xs : List V} (h : SqT K H p xs) (hx : flatV x = true) (ha : xs.all flatV = true) (q : Q (.bl (inV x xs)) H) : rIn K false x (.ref p) H Q := ⟨p, xs, rfl, .inr h, hx, ha, q⟩
theorem op_inK {X : Cx} (K : PySem.W.Frag) (e : X.K = K := by rfl) : OpR X (compareOp .In) (rIn K false) := by subst e; exact op_in_seq
theorem w_niL {K : PySem.W.Frag} {H : Hp} {Q : VK} {x : V} {p : Addr} {xs : List V} (h : SqL K H p xs) (hx : flatV x = true) (ha : xs.all flatV = true) (q : Q (.bl (!inV x xs)) H) : rIn K true x (.ref p) H Q := ⟨p, xs, rfl, .inl h, hx, ha, q⟩
theorem w_niT {K : PySem.W.Frag} {H : Hp} {Q : VK} {x : V} {p : Addr} {xs : List V} (h : SqT K H p xs) (hx : flatV x = true) (ha : xs.all flatV = true) (q : Q (.bl (!inV x xs)) H) : rIn K true x (.ref p) H Q := ⟨p, xs, rfl, .inr h, hx, ha, q⟩
theorem op_niK {X : Cx} (K : PySem.W.Frag) (e : X.K = K := by rfl) : OpR X (compareOp .NotIn) (rIn K true) := by subst e; exact op_notIn_seq
end Dpr

namespace Dpr
open PySem PySem.Spec PyProof.Rows L2 PySem.SeqAt
open MeetsSeq MeetsSeq2 MeetsSeq3 SeqRoads2
/-! != of two lists whose items are alike -/
abbrev LstO (d : Option Addr) (xs : Array Value) (n : Nat) (z : Array (Option Value)) : Obj := { cls := .type "list", dict := d, data := .seq xs n, slots := z }
theorem unlike_loop {pr : Program} {wd : World} {p q : Addr} {xs ys : Array Value} {n m : Nat} {d d' : Option Addr} {z z' : Array (Option Value)} (same : xs.size = ys.size) : ∀ (left i : Nat), xs.size - i = left →
    MeetsIn pr wd (Builtin.«list.__eq__.loop» ⟨[.ref p, .ref q, rawInt i, rawInt 3], []⟩) fun A R s => s.heap.get? p = some (LstO d xs n z) ∧ s.heap.get? q = some (LstO d' ys m z') ∧
      (∀ j (u : j < xs.size) (v : j < ys.size), EqP pr wd A.in1 s xs[j] ys[j] true) ∧ R (.ok (.ret (.bool false))) s := by
  intro left
  induction left with
  | zero =>
    intro i gone A R st ⟨gp, gq, alike, r⟩
    obtain ⟨hp, gl, dd, tk, os⟩ := st
    wp_walk using AutoSeq1.wpAny_loadPart' gp, AutoSeq1.wpAny_loadPart' gq
    have n1 : xs[((i : Nat) : Int).toNat]? = none := Array.getElem?_eq_none (by rw [Int.toNat_natCast]; omega)
    have n2 : ys[((i : Nat) : Int).toNat]? = none := Array.getElem?_eq_none (by rw [Int.toNat_natCast]; omega)
    rw [n1, n2]
    wp_walk using AutoSeq1.wpAny_loadPart' gp, AutoSeq1.wpAny_loadPart' gq
    show R (.ok (.ret (.bool (xs.size != ys.size)))) _
    rw [same, bne_self_eq_false]
    exact r
  | succ left again =>
    intro i gone A R st ⟨gp, gq, alike, r⟩
    obtain ⟨hp, gl, dd, tk, os⟩ := st
    wp_walk using AutoSeq1.wpAny_loadPart' gp, AutoSeq1.wpAny_loadPart' gq
    have u : i < xs.size := by omega
    have v : i < ys.size := by omega
    have n1 : xs[((i : Nat) : Int).toNat]? = some xs[i] := by rw [Int.toNat_natCast]; exact Array.getElem?_eq_getElem u
    have n2 : ys[((i : Nat) : Int).toNat]? = some ys[i] := by rw [Int.toNat_natCast]; exact Array.getElem?_eq_getElem v
    rw [n1, n2]
    refine wpAny_bind (alike i u v _ _ ?_)
    wp_walk
    rw [show ((i : Int) + 1) = ((i + 1 : Nat) : Int) from rfl]
    exact ⟨plainId_quiet plain_eq_loop _, codeAny_builtin entry_eq_loop (by rw [Around.under_plainId plain_eq_loop _]; exact again (i + 1) (by omega) A R _ ⟨gp, gq, alike, r⟩)⟩
theorem unlike_list {pr : Program} {wd : World} {p q : Addr} {xs ys : Array Value} {n m : Nat} {d d' : Option Addr} {z z' : Array (Option Value)} (same : xs.size = ys.size) :
    MeetsIn pr wd (Builtin.«list.__ne__» ⟨[.ref p, .ref q], []⟩) fun A R s => s.heap.get? p = some (LstO d xs n z) ∧ s.heap.get? q = some (LstO d' ys m z') ∧
      (∀ j (u : j < xs.size) (v : j < ys.size), EqP pr wd A.in1 s xs[j] ys[j] true) ∧ R (.ok (.ret (.bool false))) s := by
  intro A R st ⟨gp, gq, alike, r⟩
  obtain ⟨hp, gl, dd, tk, os⟩ := st
  have sub := AutoSeq1.sub_list_list
  have nosz : ¬ (xs.size != ys.size) = true := by rw [same, bne_self_eq_false]; exact Bool.false_ne_true
  wp_walk using AutoSeq1.wpAny_loadPart' gp, AutoSeq1.wpAny_loadPart' gq
  exact ⟨plainId_quiet plain_eq_loop _, codeAny_builtin entry_eq_loop (by rw [Around.under_plainId plain_eq_loop _]; exact unlike_loop same _ 0 rfl A R _ ⟨gp, gq, alike, r⟩)⟩
theorem rc_unlike {pr : Program} {wd : World} {A : Around} {s : Shared} {p q : Addr} {xs ys : Array Value} (lp : s.heap.IsList p xs) (lq : s.heap.IsList q ys) (same : xs.size = ys.size) (room : A.units < cLine)
    (alike : ∀ j (u : j < xs.size) (v : j < ys.size), EqP pr wd A.in1 s xs[j] ys[j] true) (E Q : Value → Shared → Prop) (h : Q (.bool false) s) : wpAny (model pr wd) A (richCompare .NotEq (.ref p) (.ref q)) Q E s := by
  obtain ⟨⟨c, d, t, z⟩, gp, cp, n, tp⟩ := id lp
  obtain ⟨⟨c', d', t', z'⟩, gq, cq, m, tq⟩ := id lq
  simp only at cp tp cq tq
  subst cp tp cq tq
  have ip : s.TypeIs (.ref p) "list" := ⟨_, gp, rfl⟩
  have iq : s.TypeIs (.ref q) "list" := ⟨_, gq, rfl⟩
  exact wpAny_richCompare_same_room (op := .NotEq) ip iq F.slot_list_ne (call_meetsIn F.slot_list_ne ip F.entry_list_ne (F.args_list_ne_2 _ _) (unlike_list same) ⟨gp, gq, alike, show Value.bool false ≠ Value.notImplemented ∧ Q (.bool false) s from ⟨(fun z => nomatch z), h⟩⟩) room
/-- a != b, two lists of alike items -/
def rNeV (K : PySem.W.Frag) : R2 := fun x y H Q => ∃ n, n ≤ 60 ∧ (∃ a b xs ys, x = .ref a ∧ y = .ref b ∧ SqL K H a xs ∧ SqL K H b ys ∧ Paired (EqV K H n) xs ys) ∧ Q (.bl false) H
theorem op_neV {X : Cx} (hu : X.A.units + 64 < cLine) (K : PySem.W.Frag) (e : X.K = K := by rfl) : OpR X (compareOp .NotEq) (rNeV K) := by
  subst e
  intro pins s σ H x y v u Q I rx ry h
  obtain ⟨n, hn, ⟨a, b, xs, ys, rfl, rfl, ha, hb, hp⟩, q⟩ := h
  cases (show v = Value.ref a from rx)
  cases (show u = Value.ref b from ry)
  obtain ⟨us, r1, p1, _⟩ := I.list ha
  obtain ⟨ws, r2, p2, _⟩ := I.list hb
  have sz : us.toArray.size = ws.toArray.size := by
    rw [List.size_toArray, List.size_toArray, ← r1.length, ← r2.length]
    exact Paired.length hp
  refine rc_unlike p1.isList p2.isList sz (by omega) (fun j u v => ?_) _ _ ⟨.bl false, H, I, rfl, q⟩
  have k := items_run (eqV_run I n X.A.in1 (by show X.A.units + 1 + n < cLine; omega)) hp r1 r2 j (by simpa using u) (by simpa using v)
  simpa using k
end Dpr

namespace Dpr
open PySem PySem.Spec PyProof.Rows L2
/-! ### rows of gates -/
inductive Bop where
  | and | or | xor
  deriving DecidableEq
inductive Row where
  | fix (b : Int) | inn (n : Str) (k : Nat) | inv (a : Nat) | bin (o : Bop) (a b : Nat) | lat (a : Nat)
  deriving DecidableEq
def bopS : Bop → Str
  | .and => "and" | .or => "or" | .xor => "xor"
def rowV : Row → List V
  | .fix b => [.str "fix", .int b]
  | .inn n k => [.str "in", .str n, .int (k : Int)]
  | .inv a => [.str "not", .int (a : Int)]
  | .bin o a b => [.str (bopS o), .int (a : Int), .int (b : Int)]
  | .lat a => [.str "latch", .int (a : Int)]
def RowAt (H : Hp) (p : Addr) (r : Row) : Prop := H p = some (.tup (rowV r))
/-- a list of rows that may be read -/
def RowsL (K : PySem.W.Frag) (H : Hp) (a : Addr) (rs : List Row) : Prop := ∃ ps : List Addr, SqL K H a (ps.map V.ref) ∧ A2 (RowAt H) ps rs
/-- one of our own, that may change -/
def RowsM (H : Hp) (a : Addr) (rs : List Row) : Prop := ∃ ps : List Addr, H a = some (.lst (ps.map V.ref)) ∧ A2 (RowAt H) ps rs
theorem RowsL.same {K : PySem.W.Frag} {H H' : Hp} {a : Addr} {rs : List Row} (s : Same H H') (h : RowsL K H a rs) : RowsL K H' a rs := by
  obtain ⟨ps, h1, h2⟩ := h
  exact ⟨ps, s.seq h1, h2.mono fun p r e => s _ _ e⟩
theorem RowsM.same {H H' : Hp} {a : Addr} {rs : List Row} (s : Same H H') (h : RowsM H a rs) : RowsM H' a rs := by
  obtain ⟨ps, h1, h2⟩ := h
  exact ⟨ps, s _ _ h1, h2.mono fun p r e => s _ _ e⟩
theorem RowsM.read {K : PySem.W.Frag} {H : Hp} {a : Addr} {rs : List Row} (h : RowsM H a rs) : RowsL K H a rs := by
  obtain ⟨ps, h1, h2⟩ := h
  exact ⟨ps, SqL.of h1, h2⟩
/-! numbers by names -/
def wkv (ws : List (Str × Int)) : List (Key × V) := ws.map fun p => (Sum.inr p.1, V.int p.2)
def lookW (ws : List (Str × Int)) (n : Str) : Option Int := (ws.find? fun p => decide (p.1 = n)).map (·.2)
theorem valV_wkv (n : Str) : ∀ ws : List (Str × Int), valV (wkv ws) (Sum.inr n) = (lookW ws n).map V.int
  | [] => rfl
  | p :: r => by
    have ih := valV_wkv n r
    by_cases e : p.1 = n
    · rw [show wkv (p :: r) = (Sum.inr p.1, V.int p.2) :: wkv r from rfl, valV_pos (by rw [e])]
      unfold lookW
      rw [List.find?_cons_of_pos (by simpa using e)]
      rfl
    · rw [show wkv (p :: r) = (Sum.inr p.1, V.int p.2) :: wkv r from rfl, valV_neg (fun z => e (Sum.inr.inj z)), ih]
      unfold lookW
      rw [List.find?_cons_of_neg (by simpa using e)]
theorem lookW_hit {n : Str} {v : Int} {ws : List (Str × Int)} : lookW ((n, v) :: ws) n = some v := by
  unfold lookW
  rw [List.find?_cons_of_pos (by simp)]
  rfl
theorem lookW_skip {m n : Str} {v : Int} {ws : List (Str × Int)} (h : decide (m = n) = false) : lookW ((m, v) :: ws) n = lookW ws n := by
  unfold lookW
  rw [List.find?_cons_of_neg (by simpa using h)]
/-! what a gate tells -/
def bopI (o : Bop) (x y : Int) : Int := match o with
  | .and => x * y
  | .or => x + y - x * y
  | .xor => (x + y) % 2
def gateI (ws : List (Str × Int)) (bits : List Int) : Row → Int
  | .fix b => b
  | .inn n k => (lookW ws n).getD 0 / 2 ^ k % 2
  | .inv a => 1 - bits.getD a 0
  | .bin o a b => bopI o (bits.getD a 0) (bits.getD b 0)
  | .lat _ => 0
def is01 (x : Int) : Prop := x = 0 ∨ x = 1
def RowOk (N : Str → Prop) (n : Nat) : Row → Prop
  | .fix b => is01 b
  | .inn m k => N m ∧ k < 64
  | .inv a => a < n
  | .bin _ a b => a < n ∧ b < n
  | .lat a => a < n
def noLat : Row → Prop
  | .lat _ => False
  | _ => True
def RowsOk (N : Str → Prop) (rs : List Row) : Prop := ∀ (i : Nat) r, rs[i]? = some r → RowOk N i r
def NoLats (rs : List Row) : Prop := ∀ r ∈ rs, noLat r
/-- all names have numbers -/
def Has (N : Str → Prop) (ws : List (Str × Int)) : Prop := ∀ n, N n → ∃ v, lookW ws n = some v
def toldL (ws : List (Str × Int)) (rs : List Row) : List Int := rs.foldl (fun bits r => bits ++ [gateI ws bits r]) []
theorem toldL_snoc (ws : List (Str × Int)) (rs : List Row) (r : Row) : toldL ws (rs ++ [r]) = toldL ws rs ++ [gateI ws (toldL ws rs) r] := by
  unfold toldL
  rw [List.foldl_append]
  rfl
theorem take_snoc {α : Type} {xs : List α} {i : Nat} {x : α} (h : xs[i]? = some x) : xs.take (i + 1) = xs.take i ++ [x] := by
  rw [List.take_add_one, h]
  rfl
theorem toldL_len (ws : List (Str × Int)) (rs : List Row) : (toldL ws rs).length = rs.length := by
  have key : ∀ (rs : List Row) (acc : List Int), (rs.foldl (fun bits r => bits ++ [gateI ws bits r]) acc).length = acc.length + rs.length := by
    intro rs
    induction rs with
    | nil => intro acc; rfl
    | cons r rs ih =>
      intro acc
      rw [List.foldl_cons, ih, List.length_append, List.length_singleton, List.length_cons]
      omega
  unfold toldL
  rw [key]
  exact Nat.zero_add _
def All01 (bs : List Int) : Prop := ∀ x ∈ bs, is01 x
theorem all01_get {bs : List Int} (h : All01 bs) (i : Nat) : is01 (bs.getD i 0) := by
  rw [List.getD_eq_getElem?_getD]
  cases e : bs[i]? with
  | none => exact .inl rfl
  | some x => exact h x (List.mem_of_getElem? e)
theorem bopI_01 (o : Bop) {x y : Int} (hx : is01 x) (hy : is01 y) : is01 (bopI o x y) := by
  unfold is01 at *
  cases o <;> unfold bopI <;> rcases hx with rfl | rfl <;> rcases hy with rfl | rfl <;> decide
theorem gateI_01 {N : Str → Prop} {n : Nat} {r : Row} (ws : List (Str × Int)) {bs : List Int} (h : All01 bs) (ok : RowOk N n r) : is01 (gateI ws bs r) := by
  cases r with
  | fix b => exact ok
  | inn m k =>
    show (lookW ws m).getD 0 / 2 ^ k % 2 = 0 ∨ (lookW ws m).getD 0 / 2 ^ k % 2 = 1
    omega
  | inv a =>
    have q : bs.getD a 0 = 0 ∨ bs.getD a 0 = 1 := all01_get h a
    show 1 - bs.getD a 0 = 0 ∨ 1 - bs.getD a 0 = 1
    omega
  | bin o a b => exact bopI_01 o (all01_get h a) (all01_get h b)
  | lat a => exact .inl rfl
theorem toldL_01 {N : Str → Prop} (ws : List (Str × Int)) {rs : List Row} (ok : RowsOk N rs) : ∀ i, All01 (toldL ws (rs.take i))
  | 0 => fun x hx => by cases hx
  | i + 1 => by
    have ih := toldL_01 ws ok i
    cases e : rs[i]? with
    | none =>
      have : rs.take (i + 1) = rs.take i := by rw [List.take_add_one, e]; exact List.append_nil _
      rw [this]
      exact ih
    | some r =>
      rw [take_snoc e, toldL_snoc]
      intro x hx
      rcases List.mem_append.mp hx with q | q
      · exact ih x q
      · rw [List.mem_singleton.mp q]
        exact gateI_01 ws ih (ok i r e)
/-- a bit by its place -/
theorem bit_get {bs : List Int} {a : Nat} (h : a < bs.length) : atI (bs.map V.int) (a : Int) = some (.int (bs.getD a 0)) := by
  rw [get_int h, List.getD_eq_getElem?_getD, List.getElem?_eq_getElem h]
  rfl
/-! rows that are put -/
theorem rowAt_upd {H : Hp} {a p : Addr} {xs ys : List V} {r : Row} (h : H a = some (.lst xs)) (hp : RowAt H p r) : RowAt (upd H a (.lst ys)) p r := by
  have ne : p ≠ a := fun e => by
    rw [e] at hp
    exact absurd (hp.symm.trans h) (fun z => by cases z)
  show upd H a (.lst ys) p = _
  rw [upd_ne ne]
  exact hp
theorem RowsM.push {H : Hp} {a p : Addr} {rs : List Row} {r : Row} {ps : List Addr} (h : H a = some (.lst (ps.map V.ref))) (hA : A2 (RowAt H) ps rs) (hp : RowAt H p r) : RowsM (upd H a (.lst (ps.map V.ref ++ [.ref p]))) a (rs ++ [r]) :=
  ⟨ps ++ [p], by rw [upd_same, List.map_append]; rfl, (hA.mono fun _ _ e => rowAt_upd h e).snoc (rowAt_upd h hp)⟩
theorem RowsM.upd {H : Hp} {a b : Addr} {rs : List Row} {xs ys : List V} (ne : a ≠ b) (h : H b = some (.lst xs)) (hr : RowsM H a rs) : RowsM (upd H b (.lst ys)) a rs := by
  obtain ⟨ps, h1, h2⟩ := hr
  exact ⟨ps, by rw [upd_ne ne]; exact h1, h2.mono fun _ _ e => rowAt_upd h e⟩
theorem RowsM.len {H : Hp} {a : Addr} {rs : List Row} (h : RowsM H a rs) : ∃ ps : List Addr, H a = some (.lst (ps.map V.ref)) ∧ A2 (RowAt H) ps rs ∧ ps.length = rs.length := by
  obtain ⟨ps, h1, h2⟩ := h
  exact ⟨ps, h1, h2, h2.1⟩
theorem RowsOk.snoc {N : Str → Prop} {rs : List Row} {r : Row} (h : RowsOk N rs) (k : RowOk N rs.length r) : RowsOk N (rs ++ [r]) := by
  intro i x hx
  rcases Nat.lt_trichotomy i rs.length with q | q | q
  · rw [List.getElem?_append_left q] at hx
    exact h i x hx
  · subst q
    rw [List.getElem?_append_right (Nat.le_refl _), Nat.sub_self] at hx
    cases hx
    exact k
  · rw [List.getElem?_eq_none (by rw [List.length_append]; exact q)] at hx
    cases hx
theorem NoLats.snoc {rs : List Row} {r : Row} (h : NoLats rs) (k : noLat r) : NoLats (rs ++ [r]) := by
  intro x hx
  rcases List.mem_append.mp hx with q | q
  · exact h x q
  · rw [List.mem_singleton.mp q]
    exact k
/-! rows as data -/
def rowD : Row → PyData
  | .fix b => .tuple [.str "fix", .int b]
  | .inn n k => .tuple [.str "in", .str n, .int (k : Int)]
  | .inv a => .tuple [.str "not", .int (a : Int)]
  | .bin o a b => .tuple [.str (bopS o), .int (a : Int), .int (b : Int)]
  | .lat a => .tuple [.str "latch", .int (a : Int)]
theorem dp_row {K : PySem.W.Frag} {H : Hp} {p : Addr} {r : Row} (h : RowAt H p r) : Dp K H (.ref p) (rowD r) := by
  cases r with
  | fix b => exact .tup (SqT.of h) (.cons (.str _) (.cons (.int _) .nil))
  | inn n k => exact .tup (SqT.of h) (.cons (.str _) (.cons (.str _) (.cons (.int _) .nil)))
  | inv a => exact .tup (SqT.of h) (.cons (.str _) (.cons (.int _) .nil))
  | bin o a b => exact .tup (SqT.of h) (.cons (.str _) (.cons (.int _) (.cons (.int _) .nil)))
  | lat a => exact .tup (SqT.of h) (.cons (.str _) (.cons (.int _) .nil))
theorem A2.tail {α β : Type} {R : α → β → Prop} {x : α} {y : β} {xs : List α} {ys : List β} (h : A2 R (x :: xs) (y :: ys)) : R x y ∧ A2 R xs ys :=
  ⟨h.2 0 x y rfl rfl, by have := h.1; simp only [List.length_cons] at this; omega, fun i u v hu hv => h.2 (i + 1) u v hu hv⟩
theorem dp_rows {K : PySem.W.Frag} {H : Hp} : ∀ {ps : List Addr} {rs : List Row}, A2 (RowAt H) ps rs → DpAll K H (ps.map V.ref) (rs.map rowD)
  | [], [], _ => .nil
  | [], _ :: _, h => by have := h.1; simp at this
  | _ :: _, [], h => by have := h.1; simp at this
  | p :: ps, r :: rs, h => .cons (dp_row h.tail.1) (dp_rows h.tail.2)
def NmOk (r : Row) : Prop := match r with
  | .inn n _ => PyData.strOk n = true
  | _ => True
theorem lay_row {r : Row} (h : NmOk r) : PyData.canLay0 (rowD r) = true := by
  cases r with
  | fix b =>
    show (PyData.strOk "fix" && (true && true)) = true
    decide +kernel
  | inn n k =>
    show (PyData.strOk "in" && (PyData.strOk n && (true && true))) = true
    rw [show PyData.strOk n = true from h]
    decide +kernel
  | inv a =>
    show (PyData.strOk "not" && (true && true)) = true
    decide +kernel
  | bin o a b =>
    show (PyData.strOk (bopS o) && (true && (true && true))) = true
    cases o <;> decide +kernel
  | lat a =>
    show (PyData.strOk "latch" && (true && true)) = true
    decide +kernel
theorem lay_rows : ∀ {rs : List Row}, (∀ r ∈ rs, NmOk r) → PyData.canLayAll0 (rs.map rowD) = true
  | [], _ => rfl
  | r :: rs, h => by
    show (PyData.canLay0 (rowD r) && PyData.canLayAll0 (rs.map rowD)) = true
    rw [lay_row (h r (List.mem_cons_self ..)), lay_rows fun x hx => h x (List.mem_cons_of_mem _ hx)]
    rfl
theorem depth_row (r : Row) : PyData.depth (rowD r) ≤ 1 := by
  cases r <;> exact Nat.le_of_ble_eq_true rfl
theorem depth_rows : ∀ rs : List Row, PyData.depthAll (rs.map rowD) ≤ 1
  | [] => Nat.zero_le 1
  | r :: rs => Nat.max_le.mpr ⟨depth_row r, depth_rows rs⟩
theorem shaped_rows {rs : List Row} (h : ∀ r ∈ rs, NmOk r) : SeqAt.shaped (.list (rs.map rowD)) = true := by
  unfold SeqAt.shaped
  rw [show PyData.canLay0 (.list (rs.map rowD)) = true from lay_rows h, Bool.true_and]
  have := depth_rows rs
  exact decide_eq_true (show PyData.depthAll (rs.map rowD) + 1 ≤ 64 by omega)
/-! dicts of numbers compared, copied -/
theorem flat_wkv (ws : List (Str × Int)) : ∀ p ∈ wkv ws, flatB p.2 = true := by
  intro p hp
  obtain ⟨q, _, rfl⟩ := List.mem_map.mp hp
  rfl
theorem valV_self : ∀ {ws : List (Str × Int)}, (ws.map (·.1)).Nodup → ∀ p ∈ wkv ws, valV (wkv ws) p.1 = some p.2
  | [], _, p, hp => by cases hp
  | q :: r, h, p, hp => by
    obtain ⟨h1, h2⟩ := List.nodup_cons.mp (show (q.1 :: r.map (·.1)).Nodup from h)
    rcases List.mem_cons.mp hp with e | e
    · rw [e]
      exact valV_pos rfl
    · have ih := valV_self h2 p e
      obtain ⟨z, hz, rfl⟩ := List.mem_map.mp e
      have ne : ¬ q.1 = z.1 := fun w => h1 (by rw [w]; exact List.mem_map.mpr ⟨z, hz, rfl⟩)
      rw [show wkv (q :: r) = (Sum.inr q.1, V.int q.2) :: wkv r from rfl, valV_neg (fun w => ne (Sum.inr.inj w))]
      exact ih
theorem w_eqDict {H : Hp} {Q : VK} {a b : Addr} {ws : List (Str × Int)} (h1 : H a = some (.dK (wkv ws))) (h2 : H b = some (.dK (wkv ws))) (nd : (ws.map (·.1)).Nodup) (q : Q (.bl true) H) : rEqDA (.ref a) (.ref b) H Q :=
  ⟨a, b, _, _, rfl, rfl, h1, h2, rfl, fun p hp => ⟨valV_self nd p hp, flat_wkv ws p hp⟩, q⟩
theorem w_neDict {H : Hp} {Q : VK} {a b : Addr} {ws : List (Str × Int)} (h1 : H a = some (.dK (wkv ws))) (h2 : H b = some (.dK (wkv ws))) (nd : (ws.map (·.1)).Nodup) (q : Q (.bl false) H) : rNeDA (.ref a) (.ref b) H Q :=
  ⟨a, b, _, _, rfl, rfl, h1, h2, rfl, fun p hp => ⟨valV_self nd p hp, flat_wkv ws p hp⟩, q⟩
def rDictD : List V → Hp → VK → Prop := fun xs H Q => ∃ (a : Addr) (kvs : List (Key × V)), xs = [.ref a] ∧ Rd H a (.dK kvs) ∧ ∀ p, H p = none → Q (.ref p) (upd H p (.dK kvs))
theorem c_dictD {X : Cx} : CallR X (.type "dict") rDictD := call_dictD
theorem w_dictD {H : Hp} {Q : VK} {a : Addr} {kvs : List (Key × V)} (h : H a = some (.dK kvs)) (q : ∀ p H', H p = none → Same H H' → H' p = some (.dK kvs) → Q (.ref p) H') : rDictD [.ref a] H Q :=
  ⟨a, kvs, rfl, .inl h, fun p hp => q p _ hp (same_upd hp) upd_same⟩
/-! a written dict -/
def DspE (p : Addr) (Q : VK) (ps : List (V × V)) (H2 : Hp) : Prop := H2 p = some (.dK []) ∧ ∃ kvs : List (Key × V), ps = kvs.map (fun kv => (kV kv.1, kv.2)) ∧ kvs.length ≤ 15 ∧ Q (.ref p) (upd H2 p (.dK (mergeK [] kvs)))
theorem w_disp {σ : L2.St} {H : Hp} {Q : VK} {trs : List (TE × TE)} (h : ∀ p H', H p = none → Same H H' → H' p = some (.dK []) → tPairs trs σ H' fun ps H2 => DspE p Q ps H2) : tDisp trs σ H Q := fun p hp => h p _ hp (same_upd hp) upd_same
theorem w_pairs {σ : L2.St} {H : Hp} {tk tv : TE} {r : List (TE × TE)} {R : List (V × V) → Hp → Prop} (h : tk σ H fun x H1 => tv σ H1 fun y H2 => tPairs r σ H2 fun ps H3 => R ((x, y) :: ps) H3) : tPairs ((tk, tv) :: r) σ H R := h
theorem w_pairs0 {σ : L2.St} {H : Hp} {R : List (V × V) → Hp → Prop} (h : R [] H) : tPairs [] σ H R := h
theorem w_DspE {p : Addr} {Q : VK} {ps : List (V × V)} {H2 : Hp} (ws : List (Str × Int)) (nd : (ws.map (·.1)).Nodup) (e : H2 p = some (.dK [])) (ep : ps = (wkv ws).map (fun kv => (kV kv.1, kv.2))) (hl : ws.length ≤ 15) (q : ∀ H', H' p = some (.dK (wkv ws)) → (∀ H0, Same H0 H2 → H0 p = none → Same H0 H') → Q (.ref p) H') : DspE p Q ps H2 := by
  refine ⟨e, wkv ws, ep, by rw [wkv, List.length_map]; exact hl, ?_⟩
  have key : ∀ (r acc : List (Str × Int)), ((acc ++ r).map (·.1)).Nodup → mergeK (wkv acc) (wkv r) = wkv (acc ++ r) := by
    intro r
    induction r with
    | nil => intro acc _; rw [List.append_nil]; rfl
    | cons z r ih =>
      intro acc hn
      have hz : valV (wkv acc) (Sum.inr z.1) = none := by
        cases g : valV (wkv acc) (Sum.inr z.1) with
        | none => rfl
        | some v =>
          have m := valV_in g
          obtain ⟨u, hu, eu⟩ := List.mem_map.mp m
          obtain ⟨t, ht, rfl⟩ := List.mem_map.mp hu
          have e1 : t.1 = z.1 := Sum.inr.inj eu
          rw [List.map_append, List.map_cons] at hn
          have d := (List.nodup_append.mp hn).2.2 t.1 (List.mem_map.mpr ⟨t, ht, rfl⟩) z.1 (List.mem_cons_self ..)
          exact absurd e1 d
      show mergeK (putK (wkv acc) (Sum.inr z.1) (V.int z.2)) (wkv r) = _
      rw [putK_new _ hz]
      have e2 : wkv acc ++ [((Sum.inr z.1 : Key), V.int z.2)] = wkv (acc ++ [z]) := by
        unfold wkv
        rw [List.map_append]
        rfl
      rw [e2, ih (acc ++ [z]) (by rw [List.append_assoc]; exact hn), List.append_assoc]
      rfl
  have := key ws [] nd
  rw [show mergeK [] (wkv ws) = wkv ws from this]
  exact q _ upd_same fun H0 s n => same_mut s n
end Dpr

namespace Dpr
open PySem PySem.Spec PyProof.Rows L2
/-! a number put by its name -/
def putW (ws : List (Str × Int)) (n : Str) (v : Int) : List (Str × Int) :=
  if (ws.any fun kv => decide (kv.1 = n)) = true then ws.map (fun kv => if kv.1 = n then (kv.1, v) else kv) else ws ++ [(n, v)]
theorem put_wkv (ws : List (Str × Int)) (n : Str) (v : Int) : putK (wkv ws) (Sum.inr n) (V.int v) = wkv (putW ws n v) := by
  have e : ((wkv ws).any fun kv => decide (kv.1 = (Sum.inr n : Key))) = (ws.any fun kv => decide (kv.1 = n)) := by
    induction ws with
    | nil => rfl
    | cons p r ih =>
      show (decide ((Sum.inr p.1 : Key) = Sum.inr n) || (wkv r).any _) = (decide (p.1 = n) || r.any _)
      rw [ih]
      by_cases e : p.1 = n
      · rw [decide_eq_true e, decide_eq_true (by rw [e])]
      · rw [decide_eq_false e, decide_eq_false (fun z => e (Sum.inr.inj z))]
  unfold putK putW
  rw [e]
  split
  · unfold wkv
    rw [List.map_map, List.map_map]
    refine List.map_congr_left fun p _ => ?_
    show (if (Sum.inr p.1 : Key) = Sum.inr n then ((Sum.inr p.1 : Key), V.int v) else (Sum.inr p.1, V.int p.2)) = _
    by_cases e : p.1 = n
    · rw [if_pos (by rw [e])]
      show _ = (Sum.inr (if p.1 = n then (p.1, v) else p).1, V.int (if p.1 = n then (p.1, v) else p).2)
      rw [if_pos e]
    · rw [if_neg (fun z => e (Sum.inr.inj z))]
      show _ = (Sum.inr (if p.1 = n then (p.1, v) else p).1, V.int (if p.1 = n then (p.1, v) else p).2)
      rw [if_neg e]
  · unfold wkv
    rw [List.map_append]
    rfl
theorem putW_len (ws : List (Str × Int)) (n : Str) (v : Int) : (putW ws n v).length ≤ ws.length + 1 := by
  unfold putW
  split
  · rw [List.length_map]; omega
  · rw [List.length_append, List.length_cons, List.length_nil]; omega
theorem look_put (ws : List (Str × Int)) (n m : Str) (v : Int) : lookW (putW ws n v) m = if m = n then some v else lookW ws m := by
  have e := valV_wkv m (putW ws n v)
  rw [← put_wkv, valV_put, valV_wkv] at e
  by_cases h : m = n
  · rw [if_pos h]
    rw [if_pos (by rw [h])] at e
    cases g : lookW (putW ws n v) m with
    | none => rw [g] at e; cases e
    | some x => rw [g] at e; cases e; rfl
  · rw [if_neg h]
    rw [if_neg (fun z => h (Sum.inr.inj z))] at e
    cases g : lookW (putW ws n v) m with
    | none =>
      rw [g] at e
      cases g2 : lookW ws m with
      | none => rfl
      | some x => rw [g2] at e; cases e
    | some x =>
      rw [g] at e
      cases g2 : lookW ws m with
      | none => rw [g2] at e; cases e
      | some y => rw [g2] at e; cases e; rfl
theorem putW_keys {ws : List (Str × Int)} {n : Str} {v : Int} (h : (ws.any fun kv => decide (kv.1 = n)) = true) : (putW ws n v).map (·.1) = ws.map (·.1) := by
  unfold putW
  rw [if_pos h, List.map_map]
  refine List.map_congr_left fun p _ => ?_
  show (if p.1 = n then (p.1, v) else p).1 = p.1
  split <;> rfl
theorem putW_nodup {ws : List (Str × Int)} (n : Str) (v : Int) (h : (ws.map (·.1)).Nodup) : ((putW ws n v).map (·.1)).Nodup := by
  by_cases e : (ws.any fun kv => decide (kv.1 = n)) = true
  · rw [putW_keys e]
    exact h
  · unfold putW
    rw [if_neg e, List.map_append]
    refine List.nodup_append.mpr ⟨h, List.nodup_cons.mpr ⟨(fun z => by cases z), List.nodup_nil⟩, fun x hx y hy z => ?_⟩
    rw [List.mem_singleton.mp hy] at z
    obtain ⟨p, hp, ep⟩ := List.mem_map.mp hx
    exact e (List.any_eq_true.mpr ⟨p, hp, decide_eq_true (ep.trans z)⟩)
/-- names whose numbers are known -/
theorem has_put {N : Str → Prop} {ws : List (Str × Int)} {n : Str} {v : Int} (h : Has N ws) : Has (fun m => m = n ∨ N m) (putW ws n v) := by
  intro m hm
  rw [look_put]
  by_cases e : m = n
  · exact ⟨v, if_pos e⟩
  · rw [if_neg e]
    exact h m (hm.resolve_left e)
theorem Has.mono {N M : Str → Prop} {ws : List (Str × Int)} (h : Has N ws) (k : ∀ n, M n → N n) : Has M ws := fun n hn => h n (k n hn)
theorem has_keep {N : Str → Prop} {ws : List (Str × Int)} {n : Str} {v : Int} (h : Has N ws) : Has N (putW ws n v) := (has_put h).mono fun _ h => .inr h
def DPutB (D : Ends) (σ : L2.St) (v x y : V) (H3 : Hp) : Prop := ∃ a H4, x = .ref a ∧ DPut H3 a y v H4 ∧ D.nx σ H4
theorem w_dput {D : Ends} {σ : L2.St} {H : Hp} {td ty tv : TE} (h : tv σ H fun v H1 => td σ H1 fun x H2 => ty σ H2 fun y H3 => DPutB D σ v x y H3) : sDPut td ty tv D σ H := h
theorem w_DPutB {D : Ends} {σ : L2.St} {H : Hp} {a : Addr} {ws : List (Str × Int)} {n : Str} {v : Int} (h : H a = some (.dK (wkv ws))) (hl : ws.length ≤ 1000) (q : D.nx σ (upd H a (.dK (wkv (putW ws n v))))) : DPutB D σ (.int v) (.ref a) (.str n) H :=
  ⟨a, _, rfl, .k (k := Sum.inr n) h (by rw [wkv, List.length_map]; exact Nat.lt_of_le_of_lt hl (by rw [sizeLine_eq]; decide)), by rw [put_wkv]; exact q⟩
def rInsert : V → List V → Hp → VK → Prop := fun x vs H Q => ∃ (l : Addr) (xs : List V) (i : Int) (y : V), x = .ref l ∧ vs = [.int i, y] ∧ H l = some (.lst xs) ∧ xs.length < sizeLine ∧ 0 ≤ i ∧ i < 2 ^ 63 ∧ Q .non (upd H l (.lst (xs.take i.toNat ++ [y] ++ xs.drop i.toNat)))
theorem mt_ins0 {X : Cx} : MtR X "list.insert" rInsert := mt_insert
theorem w_insert {H : Hp} {Q : VK} {p : Addr} {xs : List V} {y : V} {i : Int} (e : H p = some (.lst xs)) (hz : xs.length ≤ 1000000) (hi : 0 ≤ i ∧ i ≤ 1000000) (q : Q .non (upd H p (.lst (xs.take i.toNat ++ [y] ++ xs.drop i.toNat)))) : rInsert (.ref p) [.int i, y] H Q :=
  ⟨p, xs, i, y, rfl, rfl, e, Nat.lt_of_le_of_lt hz (by rw [sizeLine_eq]; decide), hi.1, by omega, q⟩
theorem w_dnewK {σ : L2.St} {H : Hp} {Q : VK} (h : ∀ p H', H p = none → Same H H' → H' p = some (.dK (wkv [])) → Q (.ref p) H') : tDNewK σ H Q := fun p hp => h p _ hp (same_upd hp) upd_same
end Dpr

namespace Dpr
open PySem PySem.Spec PyProof.Rows L2
def RevB (R : It → Hp → Prop) (a b : Int) (H1 : Hp) : Prop := -(2 ^ 62) ≤ a ∧ a < 2 ^ 62 ∧ -(2 ^ 62) ≤ b ∧ b < 2 ^ 62 ∧ R (Itc (a + (((b - a).toNat : Nat) : Int) - 1) (-1) (b - a).toNat) H1
def RG1 (R : Int → Int → Hp → Prop) (x : V) (H1 : Hp) : Prop := ∃ i, x = .int i ∧ R 0 i H1
theorem w_revR {σ : L2.St} {H : Hp} {R : It → Hp → Prop} {tr : L2.St → Hp → (Int → Int → Hp → Prop) → Prop} (h : tr σ H (RevB R)) : iRevR tr σ H R := h
theorem w_rg1 {σ : L2.St} {H : Hp} {R : Int → Int → Hp → Prop} {ta : TE} (h : ta σ H (RG1 R)) : tRg1 ta σ H R := h
theorem w_RG1 {R : Int → Int → Hp → Prop} {b : Int} {H : Hp} (q : R 0 b H) : RG1 R (.int b) H := ⟨b, rfl, q⟩
theorem w_RevB {R : It → Hp → Prop} {a b : Int} {H : Hp} (h : -1000000 ≤ a ∧ a ≤ 1000000 ∧ -1000000 ≤ b ∧ b ≤ 1000000) (q : R (Itc (a + (((b - a).toNat : Nat) : Int) - 1) (-1) (b - a).toNat) H) : RevB R a b H := ⟨by omega, by omega, by omega, by omega, q⟩
theorem for_rc {lo c : Int} {n j : Nat} {t : TS} {D : Ends} {σ : L2.St} {H : Hp} (Pv : Nat → L2.St → Hp → Prop) (h0 : Pv 0 σ H)
    (hs : ∀ (i : Nat) σ' H', i < n → Pv i σ' H' → t { D with nx := Pv (i + 1), ct := Pv (i + 1), bk := D.nx } (σ'.set j (some (.int (lo + (i : Nat) * c)))) H') (hd : ∀ σ' H', Pv n σ' H' → D.nx σ' H') : ForB (Itc lo c n) (gName j) t D σ H :=
  for_rangeC Pv h0 hs hd
end Dpr

namespace Dpr
open PySem PySem.Spec PyProof.Rows L2
/-! a row from its second part on, the greatest of a list -/
theorem w_slT1 {K : PySem.W.Frag} {H : Hp} {Q : VK} {p : Addr} {x : V} {r : List V} (h : SqT K H p (x :: r)) (q : ∀ l H', H l = none → Same H H' → H' l = some (.tup r) → Q (.ref l) H') : rSlT K (.ref p) (some 1) none H Q := by
  refine ⟨p, _, rfl, h, fun z => ?_, fun l hl => ?_⟩
  · have e := z.1
    rw [show (1 : Int) = ((1 : Nat) : Int) from rfl, HT.sIx_nat, List.length_cons] at e
    omega
  · have e : cutV (x :: r) (some 1) none = r := cut_from (x :: r) 1 (by rw [List.length_cons]; omega)
    rw [e]
    exact q l _ hl (same_upd hl) upd_same
theorem w_maxL {K : PySem.W.Frag} {H : Hp} {Q : VK} {p : Addr} {ns : List Int} (h : SqL K H p (ns.map V.int)) (hn : 0 < ns.length) (q : ∀ m, m ∈ ns → (∀ y ∈ ns, y ≤ m) → Q (.int m) H) : rMax K [.ref p] H Q := ⟨p, ns, rfl, h, hn, q⟩
theorem c_maxK {X : Cx} (K : PySem.W.Frag) (e : X.K = K := by rfl) (hc : X.calm = true := by rfl) : CallR X (.builtin "max") (rMax K) := by subst e; exact cr_max hc
/-! lists told row by row -/
def runL (f : List Int → Row → Int) (rs : List Row) : List Int := rs.foldl (fun a r => a ++ [f a r]) []
theorem runL_snoc (f : List Int → Row → Int) (rs : List Row) (r : Row) : runL f (rs ++ [r]) = runL f rs ++ [f (runL f rs) r] := by
  unfold runL
  rw [List.foldl_append]
  rfl
theorem runL_len (f : List Int → Row → Int) (rs : List Row) : (runL f rs).length = rs.length := by
  have key : ∀ (rs : List Row) (acc : List Int), (rs.foldl (fun a r => a ++ [f a r]) acc).length = acc.length + rs.length := by
    intro rs
    induction rs with
    | nil => intro acc; rfl
    | cons r rs ih =>
      intro acc
      rw [List.foldl_cons, ih, List.length_append, List.length_singleton, List.length_cons]
      omega
  unfold runL
  rw [key]
  exact Nat.zero_add _
theorem runL_take (f : List Int → Row → Int) (rs : List Row) (i : Nat) : runL f (rs.take i) = (runL f rs).take i := by
  rcases Nat.le_total rs.length i with h | h
  · rw [List.take_of_length_le h, List.take_of_length_le (by rw [runL_len]; exact h)]
  · have key : ∀ (ss acc : List Int) (rs : List Row), ∃ t, rs.foldl (fun a r => a ++ [f a r]) acc = acc ++ t := by
      intro ss acc rs
      induction rs generalizing acc with
      | nil => exact ⟨[], (List.append_nil _).symm⟩
      | cons r rs ih =>
        obtain ⟨t, e⟩ := ih (acc ++ [f acc r])
        exact ⟨[f acc r] ++ t, by rw [List.foldl_cons, e, List.append_assoc]⟩
    obtain ⟨t, e⟩ := key [] (runL f (rs.take i)) (rs.drop i)
    have e2 : runL f rs = runL f (rs.take i) ++ t := by
      rw [← e]
      show rs.foldl _ [] = (rs.drop i).foldl _ ((rs.take i).foldl _ [])
      rw [← List.foldl_append, List.take_append_drop]
    rw [e2, List.take_left' (by rw [runL_len, List.length_take]; omega)]
theorem runL_get (f : List Int → Row → Int) {rs : List Row} {i : Nat} {r : Row} (h : rs[i]? = some r) : (runL f rs)[i]? = some (f ((runL f rs).take i) r) := by
  have hi := (List.getElem?_eq_some_iff.mp h).1
  have e : (runL f rs).take (i + 1) = (runL f rs).take i ++ [f ((runL f rs).take i) r] := by
    rw [← runL_take, take_snoc h, runL_snoc, runL_take]
  have hl : ((runL f rs).take i).length = i := by rw [List.length_take, runL_len]; omega
  have e2 : ((runL f rs).take (i + 1))[i]? = some (f ((runL f rs).take i) r) := by
    rw [e, List.getElem?_append_right (by omega), hl, Nat.sub_self]
    rfl
  rw [List.getElem?_take, if_pos (Nat.lt_succ_self i)] at e2
  exact e2
/-! depths -/
def ownR : Row → List Nat
  | .inv a => [a]
  | .bin _ a b => [a, b]
  | _ => []
def natI (ws : List Nat) : List Int := ws.map fun (z : Nat) => (z : Int)
theorem natI_len (ws : List Nat) : (natI ws).length = ws.length := List.length_map ..
theorem natI_get {ws : List Nat} {i : Nat} {x : Int} (h : (natI ws)[i]? = some x) : ∃ z : Nat, ws[i]? = some z ∧ x = (z : Int) := by
  unfold natI at h
  rw [List.getElem?_map] at h
  cases e : ws[i]? with
  | none => rw [e] at h; cases h
  | some y => rw [e] at h; exact ⟨y, rfl, (Option.some.inj h).symm⟩
def top2 (x y : Int) : Int := if y > x then y else x
def deepI (ds : List Int) (r : Row) : Int := (ownR r).foldl (fun d w => top2 d (ds.getD w 0 + 1)) 0
def depthL (rs : List Row) : List Int := runL deepI rs
theorem own_lt {N : Str → Prop} {i : Nat} {r : Row} (h : RowOk N i r) : ∀ w ∈ ownR r, w < i := by
  intro w hw
  cases r with
  | inv a => rw [List.mem_singleton.mp hw]; exact h
  | bin o a b =>
    rcases List.mem_cons.mp hw with e | e
    · rw [e]; exact h.1
    · rw [List.mem_singleton.mp e]; exact h.2
  | _ => cases hw
theorem own_len (r : Row) : (ownR r).length ≤ 2 := by
  cases r <;> exact Nat.le_of_ble_eq_true rfl
theorem top_of (g : Nat → Int) : ∀ (ws : List Nat) (x m : Int), m ∈ x :: ws.map g → (∀ y ∈ x :: ws.map g, y ≤ m) → m = ws.foldl (fun d w => top2 d (g w)) x
  | [], x, m, h, _ => List.mem_singleton.mp h
  | w :: r, x, m, h, hm => by
    show m = r.foldl (fun d w => top2 d (g w)) (top2 x (g w))
    have a1 := hm x (List.mem_cons_self ..)
    have a2 := hm (g w) (List.mem_cons_of_mem _ (List.mem_cons_self ..))
    refine top_of g r _ m ?_ fun y hy => ?_
    · unfold top2
      rcases List.mem_cons.mp h with e | e
      · subst e
        rw [if_neg (by omega)]
        exact List.mem_cons_self ..
      · rcases List.mem_cons.mp e with e | e
        · by_cases c : g w > x
          · rw [if_pos c, e]
            exact List.mem_cons_self ..
          · rw [if_neg c, show m = x by omega]
            exact List.mem_cons_self ..
        · exact List.mem_cons_of_mem _ e
    · rcases List.mem_cons.mp hy with e | e
      · rw [e]
        unfold top2
        split
        · exact a2
        · exact a1
      · exact hm y (List.mem_cons_of_mem _ (List.mem_cons_of_mem _ e))
end Dpr

namespace Dpr
open PySem PySem.Spec PyProof.Rows L2
/-! ways -/
def dep (rs : List Row) (x : Nat) : Int := (depthL rs).getD x 0
theorem fold_top (g : Nat → Int) : ∀ (ws : List Nat) (x : Int), ws.foldl (fun d w => top2 d (g w)) x = x ∨ ∃ w ∈ ws, ws.foldl (fun d w => top2 d (g w)) x = g w
  | [], x => .inl rfl
  | w :: r, x => by
    show r.foldl (fun d w => top2 d (g w)) (top2 x (g w)) = x ∨ ∃ z ∈ w :: r, r.foldl (fun d w => top2 d (g w)) (top2 x (g w)) = g z
    rcases fold_top g r (top2 x (g w)) with e | ⟨z, hz, e⟩
    · rw [e]
      unfold top2
      split
      · exact .inr ⟨w, List.mem_cons_self .., rfl⟩
      · exact .inl rfl
    · exact .inr ⟨z, List.mem_cons_of_mem _ hz, e⟩
theorem fold_top_le (g : Nat → Int) : ∀ (ws : List Nat) (x : Int), x ≤ ws.foldl (fun d w => top2 d (g w)) x ∧ ∀ w ∈ ws, g w ≤ ws.foldl (fun d w => top2 d (g w)) x
  | [], x => ⟨Int.le_refl _, fun w h => by cases h⟩
  | w :: r, x => by
    have ih := fold_top_le g r (top2 x (g w))
    have t1 : x ≤ top2 x (g w) ∧ g w ≤ top2 x (g w) := by unfold top2; split <;> omega
    refine ⟨Int.le_trans t1.1 ih.1, fun z hz => ?_⟩
    rcases List.mem_cons.mp hz with e | e
    · rw [e]; exact Int.le_trans t1.2 ih.1
    · exact ih.2 z e
theorem fold_congr {g h : Nat → Int} : ∀ (ws : List Nat) (x : Int), (∀ w ∈ ws, g w = h w) → ws.foldl (fun d w => top2 d (g w)) x = ws.foldl (fun d w => top2 d (h w)) x
  | [], _, _ => rfl
  | w :: r, x, e => by
    show r.foldl (fun d w => top2 d (g w)) (top2 x (g w)) = r.foldl (fun d w => top2 d (h w)) (top2 x (h w))
    rw [e w (List.mem_cons_self ..)]
    exact fold_congr r _ fun z hz => e z (List.mem_cons_of_mem _ hz)
theorem dep_eq {N : Str → Prop} {rs : List Row} (ok : RowsOk N rs) {x : Nat} {r : Row} (h : rs[x]? = some r) : dep rs x = (ownR r).foldl (fun d w => top2 d (dep rs w + 1)) 0 := by
  unfold dep
  have e := runL_get deepI h
  rw [List.getD_eq_getElem?_getD]
  show ((runL deepI rs)[x]?).getD 0 = _
  rw [e]
  show deepI ((runL deepI rs).take x) r = _
  unfold deepI
  refine fold_congr _ _ fun w hw => ?_
  have hlt := own_lt (ok x r h) w hw
  show ((runL deepI rs).take x).getD w 0 + 1 = (runL deepI rs).getD w 0 + 1
  rw [List.getD_eq_getElem?_getD, List.getD_eq_getElem?_getD, List.getElem?_take, if_pos hlt]
theorem dep_nn {N : Str → Prop} {rs : List Row} (ok : RowsOk N rs) (x : Nat) : 0 ≤ dep rs x := by
  cases e : rs[x]? with
  | some r => rw [dep_eq ok e]; exact (fold_top_le _ _ _).1
  | none =>
    have h : rs.length ≤ x := List.getElem?_eq_none_iff.mp e
    unfold dep
    rw [List.getD_eq_getElem?_getD, List.getElem?_eq_none (by show (runL deepI rs).length ≤ x; rw [runL_len]; exact h)]
    exact Int.le_refl 0
theorem dep_le {N : Str → Prop} {rs : List Row} (ok : RowsOk N rs) : ∀ (n x : Nat), x < n → dep rs x ≤ x
  | 0, x, h => by omega
  | n + 1, x, h => by
    cases e : rs[x]? with
    | some r =>
      rw [dep_eq ok e]
      rcases fold_top (fun z => dep rs z + 1) (ownR r) 0 with q | ⟨z, hz, q⟩
      · rw [q]; omega
      · rw [q]
        have hlt := own_lt (ok x r e) z hz
        have ih := dep_le ok n z (by omega)
        omega
    | none =>
      have h : rs.length ≤ x := List.getElem?_eq_none_iff.mp e
      unfold dep
      rw [List.getD_eq_getElem?_getD, List.getElem?_eq_none (by show (runL deepI rs).length ≤ x; rw [runL_len]; exact h)]
      show (0 : Int) ≤ x
      omega
def Way (rs : List Row) (w : Nat) (ws : List Nat) : Prop := ws[0]? = some w ∧ (∀ (k x y : Nat), ws[k]? = some x → ws[k + 1]? = some y → ∃ r, rs[x]? = some r ∧ y ∈ ownR r) ∧ ∀ (k x : Nat), ws[k]? = some x → x < rs.length ∧ dep rs x = dep rs w - k
theorem Way.one {rs : List Row} {w : Nat} (h : w < rs.length) : Way rs w [w] :=
  ⟨rfl, fun k x y _ hy => (by cases hy), fun k x hx => (by
    cases k with
    | zero => cases hx; exact ⟨h, by omega⟩
    | succ k => cases hx)⟩
theorem Way.snoc {rs : List Row} {w x y : Nat} {us : List Nat} {r : Row} (h : Way rs w (us ++ [x])) (hr : rs[x]? = some r) (hy : y ∈ ownR r) (hl : y < rs.length) (hd : dep rs y = dep rs x - 1) : Way rs w (us ++ [x] ++ [y]) := by
  have hux : (us ++ [x])[us.length]? = some x := by rw [List.getElem?_append_right (Nat.le_refl _), Nat.sub_self]; rfl
  have hlen : (us ++ [x]).length = us.length + 1 := by rw [List.length_append]; rfl
  refine ⟨by rw [List.getElem?_append_left (by omega)]; exact h.1, fun k a b ha hb => ?_, fun k a ha => ?_⟩
  · have hb' := (List.getElem?_eq_some_iff.mp hb).1
    rw [List.length_append, List.length_singleton, hlen] at hb'
    by_cases e : k + 1 < us.length + 1
    · rw [List.getElem?_append_left (by omega)] at ha hb
      exact h.2.1 k a b ha hb
    · have ek : k = us.length := by omega
      subst ek
      rw [List.getElem?_append_left (by omega), hux] at ha
      cases ha
      rw [List.getElem?_append_right (by omega), hlen, Nat.sub_self] at hb
      cases hb
      exact ⟨r, hr, hy⟩
  · have ha' := (List.getElem?_eq_some_iff.mp ha).1
    rw [List.length_append, List.length_singleton, hlen] at ha'
    by_cases e : k < us.length + 1
    · rw [List.getElem?_append_left (by omega)] at ha
      exact h.2.2 k a ha
    · have ek : k = us.length + 1 := by omega
      subst ek
      rw [List.getElem?_append_right (by omega), hlen, Nat.sub_self] at ha
      cases ha
      have hx := (h.2.2 us.length x hux).2
      exact ⟨hl, by omega⟩
/-- a way from its first wire on -/
def WayR (rs : List Row) (w : Nat) (ws : List Nat) : Prop := (ws.length : Int) = dep rs w + 1 ∧ (∀ x ∈ ws, x < rs.length) ∧ (∀ (k x y : Nat), ws[k]? = some y → ws[k + 1]? = some x → ∃ r, rs[x]? = some r ∧ y ∈ ownR r) ∧ (∃ us, ws = us ++ [w]) ∧ ∃ z, ws[0]? = some z ∧ dep rs z = 0
theorem Way.rev {rs : List Row} {w x : Nat} {us : List Nat} (h : Way rs w (us ++ [x])) (hx : dep rs x = 0) : WayR rs w (us ++ [x]).reverse := by
  have hux : (us ++ [x])[us.length]? = some x := by rw [List.getElem?_append_right (Nat.le_refl _), Nat.sub_self]; rfl
  have hlen : (us ++ [x]).length = us.length + 1 := by rw [List.length_append]; rfl
  have h0 := (h.2.2 us.length x hux).2
  refine ⟨by rw [List.length_reverse, hlen]; omega, fun z hz => ?_, fun k a b ha hb => ?_, ?_, x, ?_, hx⟩
  · obtain ⟨k, hk⟩ := List.mem_iff_getElem?.mp (List.mem_reverse.mp hz)
    exact (h.2.2 k z hk).1
  · have hb' := (List.getElem?_eq_some_iff.mp hb).1
    rw [List.length_reverse, hlen] at hb'
    rw [List.getElem?_reverse (by omega), hlen] at ha hb
    refine h.2.1 (us.length - (k + 1)) a b ?_ ?_
    · rw [show us.length - (k + 1) = us.length + 1 - 1 - (k + 1) by omega]; exact hb
    · rw [show us.length - (k + 1) + 1 = us.length + 1 - 1 - k by omega]; exact ha
  · have e := h.1
    cases us with
    | nil => cases e; exact ⟨[], rfl⟩
    | cons u us =>
      cases e
      exact ⟨(us ++ [x]).reverse, by rw [List.cons_append, List.reverse_cons]⟩
  · rw [List.getElem?_reverse (by omega), hlen]
    exact hux
theorem nat_last (us : List Nat) (x : Nat) : atI ((natI (us ++ [x])).map V.int) (-1) = some (.int (x : Int)) := by
  unfold natI
  rw [List.map_append, List.map_append]
  exact atI_last _ _
theorem nat_at {ws : List Nat} {k x : Nat} (h : ws[k]? = some x) : atI ((natI ws).map V.int) (k : Int) = some (.int (x : Int)) := atI_nat (by
  unfold natI
  rw [List.map_map, List.getElem?_map, h]
  rfl)
theorem nat_snoc (ws : List Nat) (x : Nat) : (natI ws).map V.int ++ [V.int (x : Int)] = (natI (ws ++ [x])).map V.int := by
  unfold natI
  rw [List.map_append, List.map_append]
  rfl
theorem nat_rev (ws : List Nat) : ((natI ws).map V.int).reverse = (natI ws.reverse).map V.int := by
  unfold natI
  rw [List.map_reverse, List.map_reverse]
end Dpr

namespace Dpr
open PySem PySem.Spec PyProof.Rows L2
theorem ib_abs (x : Int) (n : Nat) : Builtin.Int.intBits x ≤ n ↔ x.natAbs < 2 ^ n := by
  have e : Builtin.Int.intBits x = Builtin.Int.intBits (x.natAbs : Int) := by
    unfold Builtin.Int.intBits
    by_cases h : x = 0
    · subst h; rfl
    · rw [if_neg (by simpa using h), if_neg (by simpa using h)]
      rfl
  rw [e, ib_le (by omega) n]
  rw [show ((2 : Int) ^ n) = ((2 ^ n : Nat) : Int) by rw [Int.natCast_pow]; rfl]
  exact Int.ofNat_lt
theorem bits_add {c j : Int} {n : Nat} (h : Builtin.Int.intBits c ≤ n) (hj : Builtin.Int.intBits j ≤ n) : Builtin.Int.intBits (c + j) ≤ n + 1 := by
  rw [ib_abs] at *
  rw [Nat.pow_succ]
  omega
/-! beats -/
def beatI (ws : List (Str × Int)) (prev bits : List Int) (r : Row) : Int := match r with
  | .lat a => prev.getD a 0
  | r => gateI ws bits r
def beatL (rs : List Row) (prev : List Int) (ws : List (Str × Int)) : List Int := runL (beatI ws prev) rs
def beatsL (rs : List Row) (wss : List (List (Str × Int))) : List (List Int) := wss.foldl (fun acc ws => acc ++ [beatL rs (acc.getLastD []) ws]) []
theorem beatsL_snoc (rs : List Row) (wss : List (List (Str × Int))) (ws : List (Str × Int)) : beatsL rs (wss ++ [ws]) = beatsL rs wss ++ [beatL rs ((beatsL rs wss).getLastD []) ws] := by
  unfold beatsL
  rw [List.foldl_append]
  rfl
theorem beat_01 {N : Str → Prop} {n : Nat} {r : Row} (ws : List (Str × Int)) {prev bs : List Int} (hp : All01 prev) (h : All01 bs) (ok : RowOk N n r) : is01 (beatI ws prev bs r) := by
  cases r with
  | lat a => exact all01_get hp a
  | fix b => exact gateI_01 (r := .fix b) ws h ok
  | inn m k => exact gateI_01 (r := .inn m k) ws h ok
  | inv a => exact gateI_01 (r := .inv a) ws h ok
  | bin o a b => exact gateI_01 (r := .bin o a b) ws h ok
theorem beatL_01 {N : Str → Prop} (ws : List (Str × Int)) {prev : List Int} (hp : All01 prev) {rs : List Row} (ok : RowsOk N rs) : ∀ i, All01 (runL (beatI ws prev) (rs.take i))
  | 0 => fun x hx => by cases hx
  | i + 1 => by
    have ih := beatL_01 ws hp ok i
    cases e : rs[i]? with
    | none =>
      have : rs.take (i + 1) = rs.take i := by rw [List.take_add_one, e]; exact List.append_nil _
      rw [this]
      exact ih
    | some r =>
      rw [take_snoc e, runL_snoc]
      intro x hx
      rcases List.mem_append.mp hx with q | q
      · exact ih x q
      · rw [List.mem_singleton.mp q]
        exact beat_01 ws hp ih (ok i r e)
theorem A2.mono2 {α β : Type} {R S : α → β → Prop} {xs : List α} {ys : List β} (h : A2 R xs ys) (k : ∀ x y, x ∈ xs → R x y → S x y) : A2 S xs ys := ⟨h.1, fun i x y a b => k x y (List.mem_of_getElem? a) (h.2 i x y a b)⟩
def DictAt (H : Hp) (p : Addr) (ws : List (Str × Int)) : Prop := H p = some (.dK (wkv ws))
def IntsAt (H : Hp) (p : Addr) (bs : List Int) : Prop := H p = some (.lst (bs.map V.int))
def DictsL (K : PySem.W.Frag) (H : Hp) (a : Addr) (wss : List (List (Str × Int))) : Prop := ∃ ps : List Addr, SqL K H a (ps.map V.ref) ∧ A2 (DictAt H) ps wss
/-- what stood at the beat before: nothing, or a list -/
def Before (H : Hp) (n : Nat) (prev : List Int) (bv : V) : Prop := (bv = .non ∧ prev = []) ∨ ∃ q, bv = .ref q ∧ IntsAt H q prev ∧ prev.length = n
theorem Before.same {H H' : Hp} {n : Nat} {prev : List Int} {bv : V} (s : Same H H') (h : Before H n prev bv) : Before H' n prev bv := by
  rcases h with h | ⟨q, h1, h2, h3⟩
  · exact .inl h
  · exact .inr ⟨q, h1, s _ _ h2, h3⟩
def rIsNo : R2 := fun x y H Q => y = .non ∧ Q (.bl (decide (x = .non))) H
def rNotNo : R2 := fun x y H Q => y = .non ∧ Q (.bl (!decide (x = .non))) H
theorem op_isNo {X : Cx} : OpR X (compareOp .Is) rIsNo := op_isN
theorem op_notNo {X : Cx} : OpR X (compareOp .IsNot) rNotNo := op_notN
theorem w_isNo1 {H : Hp} {Q : VK} (h : Q (.bl true) H) : rIsNo .non .non H Q := ⟨rfl, h⟩
theorem w_isNo0 {p : Addr} {H : Hp} {Q : VK} (h : Q (.bl false) H) : rIsNo (.ref p) .non H Q := ⟨rfl, by rw [decide_eq_false (fun z => by cases z)]; exact h⟩
theorem w_notNo1 {H : Hp} {Q : VK} (h : Q (.bl false) H) : rNotNo .non .non H Q := ⟨rfl, h⟩
theorem w_notNo0 {p : Addr} {H : Hp} {Q : VK} (h : Q (.bl true) H) : rNotNo (.ref p) .non H Q := ⟨rfl, by rw [decide_eq_false (fun z => by cases z)]; exact h⟩
end Dpr

namespace Dpr
open PySem PySem.Spec PyProof.Rows L2
/-! objects of the program's classes -/
def IsC (K : PySem.W.Frag) (c : Str) (C : Addr) : Prop := PySem.W.nsIn K mainGlobals c = some (some (.ref C))
theorem IsC.one {K : PySem.W.Frag} {c : Str} {C D : Addr} (h : IsC K c C) (k : IsC K c D) : C = D := by
  unfold IsC at h k
  rw [h] at k
  cases k
  rfl
theorem lookup_hd {f : Str} {v : V} {r : List (Str × V)} : ((f, v) :: r).lookup f = some v := List.lookup_cons_self ..
theorem lookup_tl {f g : Str} {v : V} {r : List (Str × V)} {o : Option V} (h : (f == g) = false) (k : r.lookup f = o) : ((g, v) :: r).lookup f = o := by
  rw [List.lookup_cons, h]
  exact k
theorem lookup_no {f : Str} : ([] : List (Str × V)).lookup f = none := rfl
section
variable {K : PySem.W.Frag} {σ : L2.St} {H : Hp} {Q : VK} {D : Ends} {ta tv : TE} {t : TA} {f m : Str}
def FldB (K : PySem.W.Frag) (f : Str) (Q : VK) (x : V) (H1 : Hp) : Prop := ∃ a C dx fs v, x = .ref a ∧ H1 a = some (.ins C dx fs) ∧ Cls K C ∧ NoAttr K C f ∧ fs.lookup f = some v ∧ Q v H1
theorem w_fld (h : ta σ H (FldB K f Q)) : tFld K ta f σ H Q := h
theorem w_FldB {a C dx : Addr} {fs : List (Str × V)} {v : V} (h : H a = some (.ins C dx fs)) (c : Cls K C) (n : NoAttr K C f) (e : fs.lookup f = some v) (q : Q v H) : FldB K f Q (.ref a) H := ⟨a, C, dx, fs, v, rfl, h, c, n, e, q⟩
def SFldB (K : PySem.W.Frag) (f : Str) (D : Ends) (σ : L2.St) (y x : V) (H2 : Hp) : Prop := ∃ a C dx fs, x = .ref a ∧ H2 a = some (.ins C dx fs) ∧ Cls K C ∧ NoAttr K C f ∧ fs.length < 1000 ∧ D.nx σ (upd H2 a (.ins C dx (putF f y fs)))
theorem w_sfld (h : tv σ H fun y H1 => ta σ H1 fun x H2 => SFldB K f D σ y x H2) : sFld K ta tv f D σ H := h
theorem w_SFldB {a C dx : Addr} {fs : List (Str × V)} {y : V} (h : H a = some (.ins C dx fs)) (c : Cls K C) (n : NoAttr K C f) (l : fs.length < 1000) (q : D.nx σ (upd H a (.ins C dx (putF f y fs)))) : SFldB K f D σ y (.ref a) H := ⟨a, C, dx, fs, rfl, h, c, n, l, q⟩
def MethB (C : Addr) (m : Str) (sp : Sp) (dvs : List V) (E : XK) (t : TA) (σ : L2.St) (Q : VK) (x : V) (H1 : Hp) : Prop := ∃ a dx fs, x = .ref a ∧ H1 a = some (.ins C dx fs) ∧ fs.lookup m = none ∧ t σ H1 fun vs H2 => sp (x :: (vs ++ dvs)) H2 Q E
theorem w_meth {C : Addr} {sp : Sp} {dvs : List V} {E : XK} (h : ta σ H (MethB C m sp dvs E t σ Q)) : tMeth C m sp dvs E ta t σ H Q := h
theorem w_MethB {C a dx : Addr} {fs : List (Str × V)} {sp : Sp} {dvs : List V} {E : XK} (h : H a = some (.ins C dx fs)) (e : fs.lookup m = none) (q : t σ H fun vs H2 => sp (.ref a :: (vs ++ dvs)) H2 Q E) : MethB C m sp dvs E t σ Q (.ref a) H := ⟨a, dx, fs, rfl, h, e, q⟩
theorem w_make {C : Addr} {sp : Sp} {dvs : List V} {E : XK} (h : t σ H fun vs H1 => ∀ x dx, H1 x = none → H1 dx = none → dx ≠ x → sp (.ref x :: (vs ++ dvs)) (upd (upd H1 dx (.own x)) x (.ins C dx [])) (fun v H2 => v = .non ∧ Q (.ref x) H2) E) : tMake C sp dvs E t σ H Q := h
end
/-- a sheet, its rows at r -/
def SheetAt (K : PySem.W.Frag) (H : Hp) (s r : Addr) : Prop := ∃ C dx, H s = some (.ins C dx [("rows", .ref r)]) ∧ IsC K "Sheet" C
end Dpr

namespace Dpr
open PySem PySem.Spec PyProof.Rows L2
/-! rows as keys of a dict -/
def rowK : Row → List Key
  | .fix b => [.inr "fix", .inl b]
  | .inn n k => [.inr "in", .inr n, .inl (k : Int)]
  | .inv a => [.inr "not", .inl (a : Int)]
  | .bin o a b => [.inr (bopS o), .inl (a : Int), .inl (b : Int)]
  | .lat a => [.inr "latch", .inl (a : Int)]
theorem rowK_V (r : Row) : rowV r = (rowK r).map kV := by cases r <;> rfl
theorem bopS_inj {o p : Bop} (h : bopS o = bopS p) : o = p := by
  cases o <;> cases p <;> first | rfl | exact absurd h (by decide +kernel)
theorem bopS_odd (o : Bop) : bopS o ≠ "fix" ∧ bopS o ≠ "in" ∧ bopS o ≠ "not" ∧ bopS o ≠ "latch" := by
  cases o <;> decide +kernel
theorem rowK_inj {r t : Row} (h : rowK r = rowK t) : r = t := by
  have f1 : ("fix" : Str) ≠ "not" := by decide +kernel
  have f2 : ("fix" : Str) ≠ "latch" := by decide +kernel
  have f3 : ("not" : Str) ≠ "latch" := by decide +kernel
  have f4 : ("in" : Str) ≠ "fix" := by decide +kernel
  cases r with
  | fix b =>
    cases t with
    | fix c => unfold rowK at h; simp only [List.cons.injEq, Sum.inl.injEq, and_true, true_and] at h; rw [h]
    | inn n k => cases congrArg List.length h
    | inv a => exact absurd (Sum.inr.inj (List.cons.inj h).1) f1
    | bin o a c => cases congrArg List.length h
    | lat a => exact absurd (Sum.inr.inj (List.cons.inj h).1) f2
  | inn n k =>
    cases t with
    | inn m j =>
      unfold rowK at h
      simp only [List.cons.injEq, Sum.inl.injEq, Sum.inr.injEq, and_true, true_and] at h
      obtain ⟨h1, h2⟩ := h
      rw [h1, show k = j by omega]
    | bin o a c => exact absurd (Sum.inr.inj (List.cons.inj h).1).symm (bopS_odd o).2.1
    | _ => cases congrArg List.length h
  | inv a =>
    cases t with
    | fix c => exact absurd (Sum.inr.inj (List.cons.inj h).1).symm f1
    | inv c => unfold rowK at h; simp only [List.cons.injEq, Sum.inl.injEq, and_true, true_and] at h; rw [show a = c by omega]
    | lat c => exact absurd (Sum.inr.inj (List.cons.inj h).1) f3
    | _ => cases congrArg List.length h
  | bin o a b =>
    cases t with
    | inn m j => exact absurd (Sum.inr.inj (List.cons.inj h).1) (bopS_odd o).2.1
    | bin p c d =>
      unfold rowK at h
      simp only [List.cons.injEq, Sum.inl.injEq, Sum.inr.injEq, and_true] at h
      obtain ⟨h1, h2, h3⟩ := h
      rw [bopS_inj h1, show a = c by omega, show b = d by omega]
    | _ => cases congrArg List.length h
  | lat a =>
    cases t with
    | fix c => exact absurd (Sum.inr.inj (List.cons.inj h).1).symm f2
    | inv c => exact absurd (Sum.inr.inj (List.cons.inj h).1).symm f3
    | lat c => unfold rowK at h; simp only [List.cons.injEq, Sum.inl.injEq, and_true, true_and] at h; rw [show a = c by omega]
    | _ => cases congrArg List.length h
def placesFrom (n : Nat) : List Row → List (List Key × V)
  | [] => []
  | r :: rs => (rowK r, .int (n : Int)) :: placesFrom (n + 1) rs
def placesK (ks : List Row) : List (List Key × V) := placesFrom 0 ks
theorem placesFrom_none {r : Row} : ∀ (ks : List Row) (n : Nat), r ∉ ks → valV (placesFrom n ks) (rowK r) = none
  | [], _, _ => rfl
  | k :: ks, n, h => by
    rw [show placesFrom n (k :: ks) = (rowK k, V.int (n : Int)) :: placesFrom (n + 1) ks from rfl, valV_neg (fun z => h (by rw [← rowK_inj z]; exact List.mem_cons_self ..))]
    exact placesFrom_none ks (n + 1) fun z => h (List.mem_cons_of_mem _ z)
theorem placesFrom_some {r : Row} : ∀ (ks : List Row) (n i : Nat), ks.Nodup → ks[i]? = some r → valV (placesFrom n ks) (rowK r) = some (.int ((n + i : Nat) : Int))
  | [], _, _, _, h => by cases h
  | k :: ks, n, 0, _, h => by
    have e : k = r := Option.some.inj h
    rw [show placesFrom n (k :: ks) = (rowK k, V.int (n : Int)) :: placesFrom (n + 1) ks from rfl, valV_pos (by rw [e])]
    rfl
  | k :: ks, n, i + 1, nd, h => by
    have h' : ks[i]? = some r := h
    have ne : ¬ rowK k = rowK r := fun z => (List.nodup_cons.mp nd).1 (by rw [rowK_inj z]; exact List.mem_of_getElem? h')
    rw [show placesFrom n (k :: ks) = (rowK k, V.int (n : Int)) :: placesFrom (n + 1) ks from rfl, valV_neg ne, placesFrom_some ks (n + 1) i (List.nodup_cons.mp nd).2 h', show n + 1 + i = n + (i + 1) by omega]
theorem placesFrom_snoc (r : Row) : ∀ (ks : List Row) (n : Nat), placesFrom n (ks ++ [r]) = placesFrom n ks ++ [(rowK r, .int ((n + ks.length : Nat) : Int))]
  | [], n => rfl
  | k :: ks, n => by
    show (rowK k, V.int (n : Int)) :: placesFrom (n + 1) (ks ++ [r]) = (rowK k, V.int (n : Int)) :: (placesFrom (n + 1) ks ++ _)
    rw [placesFrom_snoc r ks (n + 1), List.length_cons, show n + 1 + ks.length = n + (ks.length + 1) by omega]
theorem placesFrom_len : ∀ (ks : List Row) (n : Nat), (placesFrom n ks).length = ks.length
  | [], _ => rfl
  | _ :: ks, n => by show (placesFrom (n + 1) ks).length + 1 = ks.length + 1; rw [placesFrom_len]
/-! the kept rows -/
def fixAt (ks : List Row) (w : Nat) : Prop := ∃ b, ks[w]? = some (.fix b)
def invAt (ks : List Row) (w : Nat) : Prop := ∃ a, ks[w]? = some (.inv a)
def FormR (ks : List Row) : Row → Prop
  | .inv a => ¬ fixAt ks a ∧ ¬ invAt ks a
  | .bin _ a b => a < b ∧ ¬ fixAt ks a ∧ ¬ fixAt ks b
  | _ => True
structure KOk (N : Str → Prop) (old ks : List Row) : Prop where
  ok : RowsOk N ks
  nl : NoLats ks
  nd : ks.Nodup
  form : ∀ r ∈ ks, FormR ks r
  ins : ∀ n k, Row.inn n k ∈ ks → Row.inn n k ∈ old
def Grow (ks ks' : List Row) : Prop := ∃ t, ks' = ks ++ t ∧ t.length ≤ 1
theorem Grow.refl (ks : List Row) : Grow ks ks := ⟨[], (List.append_nil ks).symm, Nat.zero_le _⟩
theorem Grow.len {ks ks' : List Row} (h : Grow ks ks') : ks.length ≤ ks'.length ∧ ks'.length ≤ ks.length + 1 := by
  obtain ⟨t, rfl, h⟩ := h
  rw [List.length_append]
  omega
theorem Grow.get {ks ks' : List Row} (h : Grow ks ks') {w : Nat} (hw : w < ks.length) : ks'[w]? = ks[w]? := by
  obtain ⟨t, rfl, h⟩ := h
  exact List.getElem?_append_left hw
def Fit (N : Str → Prop) (old ks : List Row) (r : Row) : Prop := RowOk N ks.length r ∧ noLat r ∧ FormR ks r ∧ ∀ n k, r = .inn n k → r ∈ old
theorem form_grow {N : Str → Prop} {ks t : List Row} {r : Row} (ok : RowOk N ks.length r) (h : FormR ks r) : FormR (ks ++ t) r := by
  have g : ∀ a, a < ks.length → (ks ++ t)[a]? = ks[a]? := fun a ha => List.getElem?_append_left ha
  cases r with
  | inv a =>
    have ha : a < ks.length := ok
    exact ⟨fun ⟨b, e⟩ => h.1 ⟨b, by rw [← g a ha]; exact e⟩, fun ⟨b, e⟩ => h.2 ⟨b, by rw [← g a ha]; exact e⟩⟩
  | bin o a b =>
    exact ⟨h.1, fun ⟨c, e⟩ => h.2.1 ⟨c, by rw [← g a ok.1]; exact e⟩, fun ⟨c, e⟩ => h.2.2 ⟨c, by rw [← g b ok.2]; exact e⟩⟩
  | _ => exact True.intro
theorem rowOk_le {N : Str → Prop} {n m : Nat} {r : Row} (h : RowOk N n r) (l : n ≤ m) : RowOk N m r := by
  cases r with
  | fix b => exact h
  | inn n k => exact h
  | inv a => exact Nat.lt_of_lt_of_le h l
  | bin o a b => exact ⟨Nat.lt_of_lt_of_le h.1 l, Nat.lt_of_lt_of_le h.2 l⟩
  | lat a => exact Nat.lt_of_lt_of_le h l
theorem KOk.rowOk {N : Str → Prop} {old ks : List Row} (k : KOk N old ks) {r : Row} (h : r ∈ ks) : RowOk N ks.length r := by
  obtain ⟨i, hi⟩ := List.mem_iff_getElem?.mp h
  exact rowOk_le (k.ok i r hi) (Nat.le_of_lt (List.getElem?_eq_some_iff.mp hi).1)
theorem KOk.put {N : Str → Prop} {old ks : List Row} {r : Row} (k : KOk N old ks) (f : Fit N old ks r) (new : r ∉ ks) : KOk N old (ks ++ [r]) := by
  refine ⟨k.ok.snoc f.1, k.nl.snoc f.2.1, ?_, fun x hx => ?_, fun n j hx => ?_⟩
  · refine List.nodup_append.mpr ⟨k.nd, List.nodup_cons.mpr ⟨(fun z => by cases z), List.nodup_nil⟩, fun x hx y hy e => ?_⟩
    rw [List.mem_singleton.mp hy] at e
    exact new (e ▸ hx)
  · rcases List.mem_append.mp hx with e | e
    · exact form_grow (k.rowOk e) (k.form x e)
    · rw [List.mem_singleton.mp e]
      exact form_grow f.1 f.2.2.1
  · rcases List.mem_append.mp hx with e | e
    · exact k.ins n j e
    · have e' := List.mem_singleton.mp e
      have := f.2.2.2 n j e'.symm
      rw [← e'] at this
      exact this
/-! what a wire tells -/
def bit (ws : List (Str × Int)) (ks : List Row) (w : Nat) : Int := (toldL ws ks).getD w 0
theorem run_grow (f : List Int → Row → Int) {ks t : List Row} {w : Nat} (h : w < ks.length) : (runL f (ks ++ t)).getD w 0 = (runL f ks).getD w 0 := by
  have e := runL_take f (ks ++ t) ks.length
  rw [List.take_left'  rfl] at e
  rw [e, List.getD_eq_getElem?_getD, List.getD_eq_getElem?_getD, List.getElem?_take, if_pos h]
theorem bit_grow {ks ks' : List Row} (g : Grow ks ks') (ws : List (Str × Int)) {w : Nat} (h : w < ks.length) : bit ws ks' w = bit ws ks w := by
  obtain ⟨t, rfl, _⟩ := g
  exact run_grow (gateI ws) h
theorem dep_grow {ks ks' : List Row} (g : Grow ks ks') {w : Nat} (h : w < ks.length) : dep ks' w = dep ks w := by
  obtain ⟨t, rfl, _⟩ := g
  exact run_grow deepI h
theorem run_at (f : List Int → Row → Int) {ks : List Row} {w : Nat} {r : Row} (h : ks[w]? = some r) : (runL f ks).getD w 0 = f ((runL f ks).take w) r := by
  rw [List.getD_eq_getElem?_getD, runL_get f h]
  rfl
theorem take_getD {xs : List Int} {w a : Nat} (h : a < w) : (xs.take w).getD a 0 = xs.getD a 0 := by
  rw [List.getD_eq_getElem?_getD, List.getD_eq_getElem?_getD, List.getElem?_take, if_pos h]
theorem bit_fix {ws : List (Str × Int)} {ks : List Row} {w : Nat} {b : Int} (h : ks[w]? = some (.fix b)) : bit ws ks w = b := run_at (gateI ws) h
theorem bit_inn {ws : List (Str × Int)} {ks : List Row} {w : Nat} {n : Str} {k : Nat} (h : ks[w]? = some (.inn n k)) : bit ws ks w = (lookW ws n).getD 0 / 2 ^ k % 2 := run_at (gateI ws) h
theorem bit_inv {N : Str → Prop} {ws : List (Str × Int)} {ks : List Row} {w a : Nat} (ok : RowsOk N ks) (h : ks[w]? = some (.inv a)) : bit ws ks w = 1 - bit ws ks a := by
  have ha : a < w := ok w _ h
  have e := run_at (gateI ws) h
  unfold bit
  show (runL (gateI ws) ks).getD w 0 = 1 - (runL (gateI ws) ks).getD a 0
  rw [e, ← take_getD ha]
  rfl
theorem bit_bin {N : Str → Prop} {ws : List (Str × Int)} {ks : List Row} {w a b : Nat} {o : Bop} (ok : RowsOk N ks) (h : ks[w]? = some (.bin o a b)) : bit ws ks w = bopI o (bit ws ks a) (bit ws ks b) := by
  have ha := ok w _ h
  have e := run_at (gateI ws) h
  unfold bit
  show (runL (gateI ws) ks).getD w 0 = bopI o ((runL (gateI ws) ks).getD a 0) ((runL (gateI ws) ks).getD b 0)
  rw [e, ← take_getD ha.1, ← take_getD ha.2]
  rfl
theorem bit_01 {N : Str → Prop} {ks : List Row} (ok : RowsOk N ks) (ws : List (Str × Int)) (w : Nat) : is01 (bit ws ks w) := by
  have h := toldL_01 ws ok ks.length
  rw [List.take_of_length_le (Nat.le_refl _)] at h
  exact all01_get h w
end Dpr

namespace Dpr
open PySem PySem.Spec PyProof.Rows L2
/-! heaps of which some places may change -/
def Fr (ms : List Addr) (H H' : Hp) : Prop := ∀ b o, H b = some o → b ∉ ms → H' b = some o
theorem Fr.refl {ms : List Addr} {H : Hp} : Fr ms H H := fun _ _ h _ => h
theorem Fr.trans {ms : List Addr} {H H1 H2 : Hp} (h : Fr ms H H1) (k : Fr ms H1 H2) : Fr ms H H2 := fun b o e n => k b o (h b o e n) n
theorem Fr.of {ms : List Addr} {H H' : Hp} (s : Same H H') : Fr ms H H' := fun b o e _ => s b o e
theorem Fr.put {ms : List Addr} {H : Hp} {a : Addr} {o : HO} (h : a ∈ ms) : Fr ms H (upd H a o) := fun b x e n => by
  rw [upd_ne (fun z => n (by rw [z]; exact h))]
  exact e
theorem Fr.same {ms : List Addr} {H0 H H' : Hp} (f : Fr ms H H') (s : Same H0 H) (n : ∀ m ∈ ms, H0 m = none) : Same H0 H' := fun b o e => f b o (s b o e) (fun z => by
  rw [n b z] at e
  cases e)
theorem Fr.mono {ms ns : List Addr} {H H' : Hp} (f : Fr ms H H') (h : ∀ m ∈ ms, m ∈ ns) : Fr ns H H' := fun b o e n => f b o e (fun z => n (h b z))
theorem seq_fr {K : PySem.W.Frag} {ms : List Addr} {H H' : Hp} {a : Addr} {xs : List V} (f : Fr ms H H') (n : a ∉ ms) (h : SqL K H a xs) : SqL K H' a xs := by
  rcases h with (h | ⟨o, h⟩) | h
  · exact .inl (.inl (f _ _ h n))
  · exact .inl (.inr ⟨o, f _ _ h n⟩)
  · exact .inr h
/-! dicts by rows -/
def NInB (Q : Bool → Hp → Prop) (y x : V) (H2 : Hp) : Prop := ∃ a o, x = .ref a ∧ DGet H2 a y o ∧ ∃ k, V.bl (!o.isSome) = .bl k ∧ Q k H2
def InB (Q : Bool → Hp → Prop) (y x : V) (H2 : Hp) : Prop := ∃ a o, x = .ref a ∧ DGet H2 a y o ∧ ∃ k, V.bl o.isSome = .bl k ∧ Q k H2
section
variable {σ : L2.St} {H : Hp} {Q : VK} {QB : Bool → Hp → Prop} {ty td : TE} {D : Ends}
theorem w_dnin (h : ty σ H fun y H1 => td σ H1 fun x H2 => NInB QB y x H2) : tB (tDNotIn ty td) σ H QB := h
theorem w_din (h : ty σ H fun y H1 => td σ H1 fun x H2 => InB QB y x H2) : tB (tDIn ty td) σ H QB := h
theorem w_NInT1 {a p : Addr} {kvs : List (List Key × V)} {k : List Key} (e : H a = some (.dT kvs)) (ep : H p = some (.tup (k.map kV))) (n : valV kvs k = none) (q : QB true H) : NInB QB (.ref p) (.ref a) H :=
  ⟨a, none, rfl, by rw [← n]; exact DGet.t e ep, true, rfl, q⟩
theorem w_NInT0 {a p : Addr} {kvs : List (List Key × V)} {k : List Key} {v : V} (e : H a = some (.dT kvs)) (ep : H p = some (.tup (k.map kV))) (n : valV kvs k = some v) (q : QB false H) : NInB QB (.ref p) (.ref a) H :=
  ⟨a, some v, rfl, by rw [← n]; exact DGet.t e ep, false, rfl, q⟩
theorem w_DGT {a p : Addr} {kvs : List (List Key × V)} {k : List Key} {v : V} (e : H a = some (.dT kvs)) (ep : H p = some (.tup (k.map kV))) (n : valV kvs k = some v) (q : Q v H) : DG1 (.ref a) (.ref p) H Q :=
  ⟨a, v, rfl, by rw [← n]; exact DGet.t e ep, q⟩
theorem w_DPutT {a p : Addr} {kvs : List (List Key × V)} {k : List Key} {v : V} (e : H a = some (.dT kvs)) (ep : H p = some (.tup (k.map kV))) (hl : kvs.length ≤ 1000000) (q : D.nx σ (upd H a (.dT (putK kvs k v)))) : DPutB D σ v (.ref a) (.ref p) H :=
  ⟨a, _, rfl, .inr ⟨kvs, k, p, e, rfl, ep, Nat.lt_of_le_of_lt hl (by rw [sizeLine_eq]; decide), rfl⟩, q⟩
theorem w_dnewT (h : ∀ p H', H p = none → Same H H' → H' p = some (.dT []) → Q (.ref p) H') : tDNewT σ H Q := fun p hp => h p _ hp (same_upd hp) upd_same
end
theorem w_notNoI {i : Int} {H : Hp} {Q : VK} (h : Q (.bl true) H) : rNotNo (.int i) .non H Q := ⟨rfl, h⟩
/-! objects made -/
section
variable {σ : L2.St} {H H1 : Hp} {Q : VK} {C : Addr} {sp : Sp} {vs dvs : List V} {E : XK} {t : TA}
def MkB (C : Addr) (sp : Sp) (dvs : List V) (E : XK) (Q : VK) (vs : List V) (H1 : Hp) : Prop := ∀ x dx, H1 x = none → H1 dx = none → dx ≠ x → sp (.ref x :: (vs ++ dvs)) (upd (upd H1 dx (.own x)) x (.ins C dx [])) (fun v H2 => v = .non ∧ Q (.ref x) H2) E
theorem w_mk (h : t σ H fun vs H1 => MkB C sp dvs E Q vs H1) : tMake C sp dvs E t σ H Q := h
theorem w_MkB (h : ∀ x dx H2, H1 x = none → H1 dx = none → Same H1 H2 → H2 x = some (.ins C dx []) → sp (.ref x :: (vs ++ dvs)) H2 (fun v H3 => v = .non ∧ Q (.ref x) H3) E) : MkB C sp dvs E Q vs H1 := fun x dx n1 n2 ne =>
  h x dx _ n1 n2 ((same_upd n2).trans (same_upd (by rw [upd_ne ne.symm]; exact n1))) upd_same
end
/-! lists set by places -/
section
variable {σ : L2.St} {H : Hp} {Q : VK} {QS : L2.St → Hp → Prop} {ta ti : TE} {ts : TSet} {v : V}
theorem w_gSub (h : ta σ H fun o H1 => ti σ H1 fun i H2 => ts o i v H2 fun H3 => QS σ H3) : gSub ta ti ts v σ H QS := h
theorem ixN_nat {n k : Nat} (h : k < n) : ixN n (k : Int) = some k := by
  unfold ixN
  rw [if_pos (by omega), if_pos (by omega), Int.toNat_natCast]
theorem w_setL {p : Addr} {xs : List V} {k : Nat} {QH : Hp → Prop} (hp : H p = some (.lst xs)) (hk : k < xs.length) (q : QH (upd H p (.lst (xs.set k v)))) : rSetL (.ref p) (.int (k : Int)) v H QH := ⟨p, xs, k, k, rfl, rfl, hp, ixN_nat hk, q⟩
end
/-! tuples of lists, tuples joined -/
def rTupOf (K : PySem.W.Frag) : List V → Hp → VK → Prop := fun xs H Q => ∃ p ys, xs = [.ref p] ∧ ((SqL K H p ys ∧ ∀ l, H l = none → Q (.ref l) (upd H l (.tup ys))) ∨ (SqT K H p ys ∧ Q (.ref p) H))
theorem c_tupK {X : Cx} (K : PySem.W.Frag) (e : X.K = K := by rfl) : CallR X (.type "tuple") (rTupOf K) := by subst e; exact call_tuple_of
theorem w_tupL {K : PySem.W.Frag} {H : Hp} {Q : VK} {p : Addr} {xs : List V} (h : SqL K H p xs) (q : ∀ l H', H l = none → Same H H' → H' l = some (.tup xs) → Q (.ref l) H') : rTupOf K [.ref p] H Q := ⟨p, xs, rfl, .inl ⟨h, fun l hl => q l _ hl (same_upd hl) upd_same⟩⟩
theorem op_catTK {X : Cx} (K : PySem.W.Frag) (e : X.K = K := by rfl) : OpR X (binaryOp .Add) (rCatT K) := by subst e; exact op_catT
theorem w_catT {K : PySem.W.Frag} {H : Hp} {Q : VK} {a b : Addr} {xs ys : List V} (ha : SqT K H a xs) (hb : SqT K H b ys) (hx : xs ≠ []) (hy : ys ≠ []) (hz : xs.length + ys.length ≤ 1000) (q : ∀ l H', H l = none → Same H H' → H' l = some (.tup (xs ++ ys)) → Q (.ref l) H') : rCatT K (.ref a) (.ref b) H Q :=
  ⟨a, b, xs, ys, rfl, rfl, ha, hb, hx, Nat.le_trans hz (by rw [sizeLine_eq]; decide), fun z => absurd z hy, fun _ l hl => q l _ hl (same_upd hl) upd_same⟩
/-- a comprehension over a tuple -/
theorem lc_t {K : PySem.W.Frag} {σ : L2.St} {H : Hp} {Q : VK} {te : TE} {vs : List Nat} {a : Addr} {j : Nat} (xs ys : List V) (hlen : ys.length = xs.length) (hS : SqT K H a xs) (hz : xs.length ≤ 1000000) (hw : ∀ x, wipe ((wipe σ vs).set j (some x)) vs = wipe σ vs)
    (he : ∀ (i : Nat) x y H' (Q' : VK), xs[i]? = some x → ys[i]? = some y → Same H H' → Q' y H' → te ((wipe σ vs).set j (some x)) H' Q')
    (q : ∀ p H', H p = none → Same H H' → H' p = some (.lst ys) → Q (.ref p) H') : LcB (Itt K a) (gName j) tYes te vs σ Q H := fun p hp =>
  lc_tup (xs := xs) (fun i H' => H' = upd H p (.lst (ys.take i))) rfl (fun i H' _ e => by
    subst e
    exact same_tup (same_upd hp) hS) (fun i x H' hx e => by
    subst e
    have hi := (List.getElem?_eq_some_iff.mp hx).1
    have hy : ys[i]? = some ys[i] := List.getElem?_eq_getElem (by omega)
    show wipe ((wipe σ vs).set j (some x)) vs = wipe σ vs ∧ te ((wipe σ vs).set j (some x)) (upd H p (.lst (ys.take i)))
      (fun y H4 => ∃ acc, H4 p = some (.lst acc) ∧ acc.length < sizeLine ∧ upd H4 p (.lst (acc ++ [y])) = upd H p (.lst (ys.take (i + 1))))
    refine ⟨hw _, he i x _ _ _ hx hy (same_upd hp) ⟨_, upd_same, ?_, ?_⟩⟩
    · rw [List.length_take]
      exact Nat.lt_of_lt_of_le (show min i ys.length < 16777216 by omega) (by rw [sizeLine_eq]; exact Nat.le_refl _)
    · rw [upd_upd, List.take_add_one, hy]
      rfl) fun H' e => by
    subst e
    refine q p _ hp (same_upd hp) ?_
    rw [upd_same, List.take_of_length_le (by omega)]
end Dpr

namespace Dpr
open PySem PySem.Spec PyProof.Rows L2
/-! depths, row by row -/
theorem dep_own {N : Str → Prop} {ks : List Row} (ok : RowsOk N ks) {w a : Nat} {r : Row} (h : ks[w]? = some r) (ha : a ∈ ownR r) : dep ks a + 1 ≤ dep ks w := by
  rw [dep_eq ok h]
  exact (fold_top_le (fun z => dep ks z + 1) (ownR r) 0).2 a ha
theorem dep_le_of {N : Str → Prop} {ks : List Row} (ok : RowsOk N ks) {w : Nat} {r : Row} {m : Int} (h : ks[w]? = some r) (hm : 0 ≤ m) (k : ∀ a ∈ ownR r, dep ks a + 1 ≤ m) : dep ks w ≤ m := by
  rw [dep_eq ok h]
  rcases fold_top (fun z => dep ks z + 1) (ownR r) 0 with e | ⟨z, hz, e⟩
  · rw [e]; exact hm
  · rw [e]; exact k z hz
/-! which wires are needed -/
def markL (fs : List Bool) (ws : List Nat) : List Bool := ws.foldl (fun f w => f.set w true) fs
theorem mark_len : ∀ (ws : List Nat) (fs : List Bool), (markL fs ws).length = fs.length
  | [], _ => rfl
  | w :: ws, fs => by
    show (markL (fs.set w true) ws).length = fs.length
    rw [mark_len ws, List.length_set]
theorem mark_get : ∀ (ws : List Nat) (fs : List Bool) (x : Nat), x < fs.length → ((markL fs ws)[x]? = some true ↔ x ∈ ws ∨ fs[x]? = some true)
  | [], fs, x, _ => ⟨.inr, fun h => h.resolve_left (fun z => by cases z)⟩
  | w :: ws, fs, x, hx => by
    show (markL (fs.set w true) ws)[x]? = some true ↔ _
    rw [mark_get ws (fs.set w true) x (by rw [List.length_set]; exact hx), List.getElem?_set]
    by_cases e : w = x
    · subst e
      rw [if_pos rfl, if_pos hx]
      exact ⟨fun _ => .inl (List.mem_cons_self ..), fun _ => .inr rfl⟩
    · rw [if_neg e, List.mem_cons]
      exact ⟨fun h => h.elim (fun a => .inl (.inr a)) .inr, fun h => h.elim (fun a => a.elim (fun z => absurd z.symm e) .inl) .inr⟩
theorem mark_snoc (fs : List Bool) (ws : List Nat) (w : Nat) : markL fs (ws ++ [w]) = (markL fs ws).set w true := by
  unfold markL
  rw [List.foldl_append]
  rfl
def NeedI (rs : List Row) (outs : List Nat) (n i : Nat) (fs : List Bool) : Prop := fs.length = n ∧ ∀ w, w < n → (fs[w]? = some true ↔ w ∈ outs ∨ ∃ j r, n - i ≤ j ∧ rs[j]? = some r ∧ w ∈ ownR r ∧ fs[j]? = some true)
theorem NeedI.start {rs : List Row} {outs : List Nat} (n : Nat) (hn : rs.length = n) : NeedI rs outs n 0 (markL (List.replicate n false) outs) := by
  have hl : (List.replicate n false).length = n := List.length_replicate
  refine ⟨by rw [mark_len, hl], fun w hw => ?_⟩
  rw [mark_get _ _ _ (by rw [hl]; exact hw)]
  constructor
  · rintro (h | h)
    · exact .inl h
    · rw [List.getElem?_replicate, if_pos hw] at h
      cases h
  · rintro (h | ⟨j, r, h1, h2, _⟩)
    · exact .inl h
    · have := (List.getElem?_eq_some_iff.mp h2).1
      omega
theorem NeedI.skip {rs : List Row} {outs : List Nat} {n i : Nat} {fs : List Bool} (h : NeedI rs outs n i fs) (hf : ¬ fs[n - (i + 1)]? = some true) (hi : i < n) : NeedI rs outs n (i + 1) fs := by
  refine ⟨h.1, fun w hw => ?_⟩
  rw [h.2 w hw]
  constructor
  · rintro (k | ⟨j, r, h1, h2⟩)
    · exact .inl k
    · exact .inr ⟨j, r, by omega, h2⟩
  · rintro (k | ⟨j, r, h1, h2, h3, h4⟩)
    · exact .inl k
    · by_cases e : n - i ≤ j
      · exact .inr ⟨j, r, e, h2, h3, h4⟩
      · have e2 : j = n - (i + 1) := by omega
        rw [e2] at h4
        exact absurd h4 hf
theorem NeedI.mark {N : Str → Prop} {rs : List Row} {outs : List Nat} {n i : Nat} {fs : List Bool} {r : Row} (ok : RowsOk N rs) (h : NeedI rs outs n i fs) (hf : fs[n - (i + 1)]? = some true) (hi : i < n) (hr : rs[n - (i + 1)]? = some r) : NeedI rs outs n (i + 1) (markL fs (ownR r)) := by
  have lt := own_lt (ok _ r hr)
  have same : ∀ j, n - (i + 1) ≤ j → j < n → ((markL fs (ownR r))[j]? = some true ↔ fs[j]? = some true) := fun j h1 h2 => by
    rw [mark_get _ _ _ (by rw [h.1]; exact h2)]
    exact ⟨fun k => k.resolve_left (fun z => by have := lt j z; omega), .inr⟩
  have inn : ∀ j, (markL fs (ownR r))[j]? = some true → j < n := fun j z => by
    have := (List.getElem?_eq_some_iff.mp z).1
    rw [mark_len, h.1] at this
    exact this
  have inn2 : ∀ j, fs[j]? = some true → j < n := fun j z => by
    have := (List.getElem?_eq_some_iff.mp z).1
    rw [h.1] at this
    exact this
  refine ⟨by rw [mark_len]; exact h.1, fun w hw => ?_⟩
  rw [mark_get _ _ _ (by rw [h.1]; exact hw), h.2 w hw]
  constructor
  · rintro (k | k | ⟨j, s, h1, h2, h3, h4⟩)
    · exact .inr ⟨n - (i + 1), r, Nat.le_refl _, hr, k, (same _ (Nat.le_refl _) (by omega)).mpr hf⟩
    · exact .inl k
    · exact .inr ⟨j, s, by omega, h2, h3, (same j (by omega) (inn2 j h4)).mpr h4⟩
  · rintro (k | ⟨j, s, h1, h2, h3, h4⟩)
    · exact .inr (.inl k)
    · have h5 := (same j h1 (inn j h4)).mp h4
      by_cases e : n - i ≤ j
      · exact .inr (.inr ⟨j, s, e, h2, h3, h5⟩)
      · have e2 : j = n - (i + 1) := by omega
        rw [e2, hr] at h2
        cases h2
        exact .inl h3
/-! rows numbered anew -/
def cnt (fs : List Bool) (j : Nat) : Nat := (fs.take j).count true
theorem cnt_succ {fs : List Bool} {j : Nat} {b : Bool} (h : fs[j]? = some b) : cnt fs (j + 1) = cnt fs j + (if b = true then 1 else 0) := by
  unfold cnt
  rw [take_snoc h, List.count_append]
  cases b <;> rfl
theorem cnt_mono (fs : List Bool) {i j : Nat} (h : i ≤ j) : cnt fs i ≤ cnt fs j := by
  unfold cnt
  exact List.Sublist.count_le true (List.take_sublist_take_left h)
theorem cnt_lt {fs : List Bool} {i j : Nat} (h : i < j) (hi : fs[i]? = some true) : cnt fs i < cnt fs j := by
  have e := cnt_succ hi
  rw [if_pos rfl] at e
  have := cnt_mono fs (show i + 1 ≤ j from h)
  omega
theorem cnt_le (fs : List Bool) (j : Nat) : cnt fs j ≤ j := by
  unfold cnt
  exact Nat.le_trans List.count_le_length (by rw [List.length_take]; omega)
theorem cnt_inv (fs : List Bool) : ∀ (i k : Nat), i ≤ fs.length → k < cnt fs i → ∃ j, j < i ∧ fs[j]? = some true ∧ cnt fs j = k
  | 0, k, _, h => by unfold cnt at h; rw [List.take_zero] at h; simp at h
  | i + 1, k, hl, h => by
    have hi : i < fs.length := by omega
    have e := cnt_succ (List.getElem?_eq_getElem hi)
    by_cases c : k < cnt fs i
    · obtain ⟨j, h1, h2, h3⟩ := cnt_inv fs i k (by omega) c
      exact ⟨j, by omega, h2, h3⟩
    · cases g : fs[i] with
      | true =>
        rw [g, if_pos rfl] at e
        exact ⟨i, Nat.lt_succ_self _, by rw [List.getElem?_eq_getElem hi, g], by omega⟩
      | false =>
        rw [g, if_neg Bool.false_ne_true] at e
        omega
def renR (f : Nat → Nat) : Row → Row
  | .inv a => .inv (f a)
  | .bin o a b => .bin o (f a) (f b)
  | r => r
theorem own_ren (f : Nat → Nat) (r : Row) (nl : noLat r) : ownR (renR f r) = (ownR r).map f := by
  cases r <;> first | rfl | exact nl.elim
theorem ren_inj {f : Nat → Nat} {r s : Row} (n1 : noLat r) (n2 : noLat s) (i : ∀ x ∈ ownR r, ∀ y ∈ ownR s, f x = f y → x = y) (h : renR f r = renR f s) : r = s := by
  cases r with
  | fix b =>
    cases s with
    | fix c => exact h
    | lat c => exact n2.elim
    | _ => exact Row.noConfusion h
  | inn m k =>
    cases s with
    | inn c d => exact h
    | lat c => exact n2.elim
    | _ => exact Row.noConfusion h
  | lat a => exact n1.elim
  | inv a =>
    cases s with
    | inv b => rw [i a (List.mem_cons_self ..) b (List.mem_cons_self ..) (Row.inv.inj h)]
    | lat c => exact n2.elim
    | _ => exact Row.noConfusion h
  | bin p a b =>
    cases s with
    | bin q c d =>
      obtain ⟨e1, e2, e3⟩ := Row.bin.inj h
      rw [e1, i a (List.mem_cons_self ..) c (List.mem_cons_self ..) e2, i b (List.mem_cons_of_mem _ (List.mem_cons_self ..)) d (List.mem_cons_of_mem _ (List.mem_cons_self ..)) e3]
    | lat c => exact n2.elim
    | _ => exact Row.noConfusion h
def Ren (rs : List Row) (fs : List Bool) (i : Nat) (made : List Row) : Prop := made.length = cnt fs i ∧ ∀ j r, j < i → rs[j]? = some r → fs[j]? = some true → made[cnt fs j]? = some (renR (cnt fs) r)
theorem Ren.start (rs : List Row) (fs : List Bool) : Ren rs fs 0 [] := ⟨rfl, fun j r h => by omega⟩
theorem Ren.skip {rs : List Row} {fs : List Bool} {i : Nat} {made : List Row} (h : Ren rs fs i made) (hi : fs[i]? = some false) : Ren rs fs (i + 1) made := by
  refine ⟨by rw [cnt_succ hi, h.1]; rfl, fun j r hj hr hf => ?_⟩
  by_cases e : j < i
  · exact h.2 j r e hr hf
  · rw [show j = i by omega, hi] at hf
    cases hf
theorem Ren.put {rs : List Row} {fs : List Bool} {i : Nat} {made : List Row} {r : Row} (h : Ren rs fs i made) (hi : fs[i]? = some true) (hr : rs[i]? = some r) : Ren rs fs (i + 1) (made ++ [renR (cnt fs) r]) := by
  refine ⟨by rw [List.length_append, cnt_succ hi, h.1]; rfl, fun j s hj hs hf => ?_⟩
  by_cases e : j < i
  · have := cnt_lt e hf
    rw [List.getElem?_append_left (by rw [h.1]; exact this)]
    exact h.2 j s e hs hf
  · obtain rfl : j = i := by omega
    rw [hr] at hs
    cases hs
    rw [← h.1, List.getElem?_append_right (Nat.le_refl _), Nat.sub_self]
    rfl
/-! rows made fewer -/
structure FewOk (N : Str → Prop) (rs : List Row) (outs : List Nat) (made : List Row) (outs' : List Nat) : Prop where
  kok : KOk N rs made
  len : made.length ≤ rs.length
  olen : outs'.length = outs.length
  olt : ∀ o ∈ outs', o < made.length
  same : ∀ (i o o' : Nat), outs[i]? = some o → outs'[i]? = some o' → (∀ ws, bit ws made o' = bit ws rs o) ∧ dep made o' ≤ dep rs o
  used : ∀ k, k < made.length → k ∈ outs' ∨ ∃ (j : Nat) (r : Row), made[j]? = some r ∧ k ∈ ownR r
section
variable {N : Str → Prop} {old ks made : List Row} {outs : List Nat} {fs : List Bool}
theorem ren_row (kok : KOk N old ks) (hR : Ren ks fs ks.length made) (hl : fs.length = ks.length) {k : Nat} {s : Row} (h : made[k]? = some s) : ∃ j r, ks[j]? = some r ∧ fs[j]? = some true ∧ cnt fs j = k ∧ s = renR (cnt fs) r := by
  have hk := (List.getElem?_eq_some_iff.mp h).1
  rw [hR.1] at hk
  obtain ⟨j, h1, h2, h3⟩ := cnt_inv fs _ k (by rw [hl]; exact Nat.le_refl _) hk
  refine ⟨j, ks[j], List.getElem?_eq_getElem h1, h2, h3, ?_⟩
  have e := hR.2 j _ h1 (List.getElem?_eq_getElem h1) h2
  rw [h3, h] at e
  exact Option.some.inj e
theorem need_own (hN : NeedI ks outs ks.length ks.length fs) (ok : RowsOk N ks) {j a : Nat} {r : Row} (hr : ks[j]? = some r) (hf : fs[j]? = some true) (ha : a ∈ ownR r) : a < j ∧ fs[a]? = some true := by
  have lt := own_lt (ok j r hr) a ha
  have hj := (List.getElem?_eq_some_iff.mp hr).1
  exact ⟨lt, (hN.2 a (by omega)).mpr (.inr ⟨j, r, by omega, hr, ha, hf⟩)⟩
theorem ren_ok (kok : KOk N old ks) (hN : NeedI ks outs ks.length ks.length fs) (hR : Ren ks fs ks.length made) : KOk N old made := by
  have row := fun {k : Nat} {s : Row} (h : made[k]? = some s) => ren_row kok hR hN.1 h
  have inj : ∀ (i j : Nat), fs[i]? = some true → fs[j]? = some true → cnt fs i = cnt fs j → i = j := fun i j hi hj e => by
    rcases Nat.lt_trichotomy i j with q | q | q
    · have := cnt_lt q hi; omega
    · exact q
    · have := cnt_lt q hj; omega
  have own : ∀ {j : Nat} {r : Row}, ks[j]? = some r → fs[j]? = some true → ∀ a ∈ ownR r, cnt fs a < cnt fs j ∧ fs[a]? = some true := fun hr hf a ha => by
    obtain ⟨h1, h2⟩ := need_own hN kok.ok hr hf ha
    exact ⟨cnt_lt h1 h2, h2⟩
  have at' : ∀ {j : Nat} {r : Row}, ks[j]? = some r → fs[j]? = some true → made[cnt fs j]? = some (renR (cnt fs) r) := fun hr hf => hR.2 _ _ (List.getElem?_eq_some_iff.mp hr).1 hr hf
  have back : ∀ {a : Nat} {s : Row}, fs[a]? = some true → made[cnt fs a]? = some s → ∃ r, ks[a]? = some r ∧ s = renR (cnt fs) r := fun {a s} ha hs => by
    obtain ⟨j, r, h1, h2, h3, h4⟩ := row hs
    obtain rfl := inj _ _ h2 ha h3
    exact ⟨r, h1, h4⟩
  have nofix : ∀ {a : Nat}, fs[a]? = some true → ¬ fixAt ks a → ¬ fixAt made (cnt fs a) := fun {a} ha hn ⟨b, hb⟩ => by
    obtain ⟨r, h1, h2⟩ := back ha hb
    cases r with
    | fix c => exact hn ⟨c, h1⟩
    | _ => cases h2
  have noinv : ∀ {a : Nat}, fs[a]? = some true → ¬ invAt ks a → ¬ invAt made (cnt fs a) := fun {a} ha hn ⟨b, hb⟩ => by
    obtain ⟨r, h1, h2⟩ := back ha hb
    cases r with
    | inv c => exact hn ⟨c, h1⟩
    | _ => cases h2
  refine ⟨fun k s hs => ?_, fun s hs => ?_, ?_, fun s hs => ?_, fun n k hs => ?_⟩
  · obtain ⟨j, r, h1, h2, h3, rfl⟩ := row hs
    have o := own h1 h2
    have okr := kok.ok j r h1
    rw [← h3]
    cases r with
    | fix b => exact okr
    | inn m k => exact okr
    | inv a => exact (o a (List.mem_cons_self ..)).1
    | bin p a b => exact ⟨(o a (List.mem_cons_self ..)).1, (o b (List.mem_cons_of_mem _ (List.mem_cons_self ..))).1⟩
    | lat a => exact (kok.nl _ (List.mem_of_getElem? h1)).elim
  · obtain ⟨k, hk⟩ := List.mem_iff_getElem?.mp hs
    obtain ⟨j, r, h1, h2, h3, rfl⟩ := row hk
    have := kok.nl _ (List.mem_of_getElem? h1)
    cases r <;> first | exact True.intro | exact this.elim
  · rw [List.nodup_iff_pairwise_ne, List.pairwise_iff_getElem]
    intro i j hi hj hij e
    obtain ⟨i', r, h1, h2, h3, h4⟩ := row (List.getElem?_eq_getElem hi)
    obtain ⟨j', s, g1, g2, g3, g4⟩ := row (List.getElem?_eq_getElem hj)
    rw [e, g4] at h4
    have o1 := own h1 h2
    have o2 := own g1 g2
    have n1 := kok.nl _ (List.mem_of_getElem? h1)
    have n2 := kok.nl _ (List.mem_of_getElem? g1)
    have e2 : r = s := ren_inj n1 n2 (fun x hx y hy e => inj x y (o1 x hx).2 (o2 y hy).2 e) h4.symm
    subst e2
    have hj' := (List.getElem?_eq_some_iff.mp h1)
    have hi' := (List.getElem?_eq_some_iff.mp g1)
    have : i' = j' := (List.getElem_inj kok.nd).mp (hj'.2.trans hi'.2.symm)
    subst this
    omega
  · obtain ⟨k, hk⟩ := List.mem_iff_getElem?.mp hs
    obtain ⟨j, r, h1, h2, h3, rfl⟩ := row hk
    have o := own h1 h2
    have f := kok.form r (List.mem_of_getElem? h1)
    cases r with
    | inv a =>
      have ha := (o a (List.mem_cons_self ..)).2
      exact ⟨nofix ha f.1, noinv ha f.2⟩
    | bin p a b =>
      have ha := (o a (List.mem_cons_self ..)).2
      have hb := (o b (List.mem_cons_of_mem _ (List.mem_cons_self ..))).2
      exact ⟨cnt_lt f.1 ha, nofix ha f.2.1, nofix hb f.2.2⟩
    | _ => exact True.intro
  · obtain ⟨i, hi⟩ := List.mem_iff_getElem?.mp hs
    obtain ⟨j, r, h1, h2, h3, h4⟩ := row hi
    cases r with
    | inn m l =>
      have e := h4
      unfold renR at e
      rw [e]
      exact kok.ins m l (List.mem_of_getElem? h1)
    | _ => cases h4
theorem ren_same (kok : KOk N old ks) (hN : NeedI ks outs ks.length ks.length fs) (hR : Ren ks fs ks.length made) : ∀ (n j : Nat), j < n → fs[j]? = some true → (∀ ws, bit ws made (cnt fs j) = bit ws ks j) ∧ dep made (cnt fs j) ≤ dep ks j
  | 0, j, h, _ => by omega
  | n + 1, j, h, hf => by
    have ok' := (ren_ok kok hN hR).ok
    have ih := ren_same kok hN hR n
    have hj : j < ks.length := by
      have := (List.getElem?_eq_some_iff.mp hf).1
      rw [hN.1] at this
      exact this
    have hr := List.getElem?_eq_getElem hj
    have hm := hR.2 j _ hj hr hf
    have o := fun a ha => need_own hN kok.ok hr hf (a := a) ha
    refine ⟨fun ws => ?_, ?_⟩
    · generalize ks[j] = r at *
      cases r with
      | fix b => rw [bit_fix hr, bit_fix hm]
      | inn m k => rw [bit_inn hr, bit_inn hm]
      | inv a =>
        obtain ⟨h1, h2⟩ := o a (List.mem_cons_self ..)
        rw [bit_inv kok.ok hr, bit_inv ok' hm, (ih a (by omega) h2).1]
      | bin p a b =>
        obtain ⟨h1, h2⟩ := o a (List.mem_cons_self ..)
        obtain ⟨g1, g2⟩ := o b (List.mem_cons_of_mem _ (List.mem_cons_self ..))
        rw [bit_bin kok.ok hr, bit_bin ok' hm, (ih a (by omega) h2).1, (ih b (by omega) g2).1]
      | lat a => exact (kok.nl _ (List.mem_of_getElem? hr)).elim
    · refine dep_le_of ok' hm (dep_nn kok.ok j) fun a ha => ?_
      rw [own_ren _ _ (kok.nl _ (List.mem_of_getElem? hr))] at ha
      obtain ⟨b, hb, rfl⟩ := List.mem_map.mp ha
      obtain ⟨h1, h2⟩ := o b hb
      have := dep_own kok.ok hr hb
      have := (ih b (by omega) h2).2
      omega
theorem few_of {rs : List Row} {new : List Nat} {os : List Nat} (kok : KOk N rs ks) (hlen : ks.length ≤ rs.length) (hnl : ∀ w ∈ new, w < ks.length) (hol : ∀ o ∈ os, o < new.length)
    (hnew : ∀ (i w : Nat), new[i]? = some w → (∀ ws, bit ws ks w = bit ws rs i) ∧ dep ks w ≤ dep rs i) (ho : outs = os.map fun o => new.getD o 0) (hN : NeedI ks outs ks.length ks.length fs) (hR : Ren ks fs ks.length made) :
    FewOk N rs os made (outs.map (cnt fs)) := by
  have kok' := ren_ok kok hN hR
  have oget : ∀ (i o : Nat), os[i]? = some o → ∃ w, new[o]? = some w ∧ outs[i]? = some w := fun i o h => by
    have h2 := hol o (List.mem_of_getElem? h)
    refine ⟨new[o], List.getElem?_eq_getElem h2, ?_⟩
    rw [ho, List.getElem?_map, h, Option.map_some, List.getD_eq_getElem?_getD, List.getElem?_eq_getElem h2]
    rfl
  have need : ∀ w ∈ outs, w < ks.length ∧ fs[w]? = some true := fun w hw => by
    have hw0 := hw
    rw [ho] at hw
    obtain ⟨o, h1, h2⟩ := List.mem_map.mp hw
    obtain ⟨i, hi⟩ := List.mem_iff_getElem?.mp h1
    obtain ⟨w', g1, g2⟩ := oget i o hi
    rw [List.getD_eq_getElem?_getD, g1] at h2
    have e : w' = w := h2
    rw [e] at g1
    have hlt := hnl w (List.mem_of_getElem? g1)
    exact ⟨hlt, (hN.2 w hlt).mpr (.inl hw0)⟩
  have mlen : made.length ≤ ks.length := by rw [hR.1]; exact cnt_le _ _
  refine ⟨kok', Nat.le_trans mlen hlen, by rw [List.length_map, ho, List.length_map], fun o h => ?_, fun i o o' h1 h2 => ?_, fun k hk => ?_⟩
  · obtain ⟨w, hw, rfl⟩ := List.mem_map.mp h
    obtain ⟨h1, h2⟩ := need w hw
    rw [hR.1]
    exact cnt_lt h1 h2
  · obtain ⟨w, g1, g2⟩ := oget i o h1
    rw [List.getElem?_map, g2] at h2
    cases h2
    have hw := (need w (List.mem_of_getElem? g2)).2
    have r := ren_same kok hN hR (w + 1) w (Nat.lt_succ_self _) hw
    have s := hnew o w g1
    exact ⟨fun ws => (r.1 ws).trans (s.1 ws), Int.le_trans r.2 s.2⟩
  · rw [hR.1] at hk
    obtain ⟨j, h1, h2, h3⟩ := cnt_inv fs _ k (by rw [hN.1]; exact Nat.le_refl _) hk
    rcases (hN.2 j h1).mp h2 with q | ⟨i, r, q1, q2, q3, q4⟩
    · exact .inl (List.mem_map.mpr ⟨j, q, h3⟩)
    · refine .inr ⟨cnt fs i, _, hR.2 i r (List.getElem?_eq_some_iff.mp q2).1 q2 q4, ?_⟩
      rw [own_ren _ _ (kok.nl _ (List.mem_of_getElem? q2))]
      exact List.mem_map.mpr ⟨j, q3, h3⟩
end
end Dpr

namespace Dpr
open PySem PySem.Spec PyProof.Rows L2
def topS (i : Nat) : Stmt := PySem.Challenge.pw_dotpress_k14_whole_fewer.main.body.getD i (.Pass ⟨0, 0, 0, 0⟩)
abbrev s_own_wires : Stmt := topS 1
theorem sc_own_wires : FnScope ["row"] ["row"] (defScope s_own_wires) := ⟨rfl, rfl, rfl, by decide +kernel, rfl, by decide +kernel, by decide +kernel⟩
abbrev s_Kept__init : Stmt := inClass (topS 3) 0
theorem sc_Kept__init : FnScope ["self"] ["self"] (defScope s_Kept__init) := ⟨rfl, rfl, rfl, by decide +kernel, rfl, by decide +kernel, by decide +kernel⟩
abbrev s_Kept_wire_of : Stmt := inClass (topS 3) 1
theorem sc_Kept_wire_of : FnScope ["self", "row"] ["self", "row"] (defScope s_Kept_wire_of) := ⟨rfl, rfl, rfl, by decide +kernel, rfl, by decide +kernel, by decide +kernel⟩
abbrev s_Kept_fixed : Stmt := inClass (topS 3) 2
theorem sc_Kept_fixed : FnScope ["self", "wire"] ["self", "wire"] (defScope s_Kept_fixed) := ⟨rfl, rfl, rfl, by decide +kernel, rfl, by decide +kernel, by decide +kernel⟩
abbrev s_Kept_turned : Stmt := inClass (topS 3) 3
theorem sc_Kept_turned : FnScope ["self", "wire", "row"] ["self", "wire"] (defScope s_Kept_turned) := ⟨rfl, rfl, rfl, by decide +kernel, rfl, by decide +kernel, by decide +kernel⟩
abbrev s_Kept_beside_fix : Stmt := inClass (topS 3) 4
theorem sc_Kept_beside_fix : FnScope ["self", "word", "bit", "wire"] ["self", "word", "bit", "wire"] (defScope s_Kept_beside_fix) := ⟨rfl, rfl, rfl, by decide +kernel, rfl, by decide +kernel, by decide +kernel⟩
abbrev s_Kept_paired : Stmt := inClass (topS 3) 5
theorem sc_Kept_paired : FnScope ["self", "word", "one", "other"] ["self", "word", "one", "other"] (defScope s_Kept_paired) := ⟨rfl, rfl, rfl, by decide +kernel, rfl, by decide +kernel, by decide +kernel⟩
abbrev s_needed : Stmt := topS 4
theorem sc_needed : FnScope ["rows", "outs", "found", "wire", "ahead", "row"] ["rows", "outs"] (defScope s_needed) := ⟨rfl, rfl, rfl, by decide +kernel, rfl, by decide +kernel, by decide +kernel⟩
abbrev s_renumbered : Stmt := topS 5
theorem sc_renumbered : FnScope ["rows", "outs", "wanted", "places", "made", "wire", "row", "ahead"] ["rows", "outs"] (defScope s_renumbered) := ⟨rfl, rfl, rfl, by decide +kernel, rfl, by decide +kernel, by decide +kernel⟩
abbrev s_fewer : Stmt := topS 6
theorem sc_fewer : FnScope ["rows", "outs", "kept", "new", "row", "wire"] ["rows", "outs"] (defScope s_fewer) := ⟨rfl, rfl, rfl, by decide +kernel, rfl, by decide +kernel, by decide +kernel⟩
abbrev s_law_whole : Stmt := topS 8
theorem sc_law_whole : FnScope ["_law_found"] ["_law_found"] (defScope s_law_whole) := ⟨rfl, rfl, rfl, by decide +kernel, rfl, by decide +kernel, by decide +kernel⟩
abbrev s_law_at : Stmt := topS 9
theorem sc_law_at : FnScope ["_law_script", "_law_k"] ["_law_script", "_law_k"] (defScope s_law_at) := ⟨rfl, rfl, rfl, by decide +kernel, rfl, by decide +kernel, by decide +kernel⟩
abbrev s_law_mixed : Stmt := topS 10
theorem sc_law_mixed : FnScope ["_law_cell", "_law_k", "_law_number"] ["_law_cell", "_law_k"] (defScope s_law_mixed) := ⟨rfl, rfl, rfl, by decide +kernel, rfl, by decide +kernel, by decide +kernel⟩
abbrev s_law_numbers : Stmt := topS 11
theorem sc_law_numbers : FnScope ["_law_script", "_law_start", "_law_some", "_law_k"] ["_law_script", "_law_start"] (defScope s_law_numbers) := ⟨rfl, rfl, rfl, by decide +kernel, rfl, by decide +kernel, by decide +kernel⟩
abbrev s_law_names : Stmt := topS 12
theorem sc_law_names : FnScope ["_law_number", "_law_letters", "_law_some", "_law_at_here", "_law_names_here", "_law_j", "_law_spots", "_law_word", "_law_k", "_law_spot"] ["_law_number"] (defScope s_law_names) := ⟨rfl, rfl, rfl, by decide +kernel, rfl, by decide +kernel, by decide +kernel⟩
abbrev s_law_rows : Stmt := topS 13
theorem sc_law_rows : FnScope ["_law_numbers_here", "_law_ins", "_law_near", "_law_late", "_law_rows_here", "_law_number", "_law_at_here", "_law_mixed_here", "_law_reach"] ["_law_numbers_here", "_law_ins", "_law_near", "_law_late"] (defScope s_law_rows) := ⟨rfl, rfl, rfl, by decide +kernel, rfl, by decide +kernel, by decide +kernel⟩
abbrev s_law_turned : Stmt := topS 14
theorem sc_law_turned : FnScope ["_law_row"] ["_law_row"] (defScope s_law_turned) := ⟨rfl, rfl, rfl, by decide +kernel, rfl, by decide +kernel, by decide +kernel⟩
abbrev s_law_gate : Stmt := topS 15
theorem sc_law_gate : FnScope ["_law_number", "_law_one", "_law_two"] ["_law_number", "_law_one", "_law_two"] (defScope s_law_gate) := ⟨rfl, rfl, rfl, by decide +kernel, rfl, by decide +kernel, by decide +kernel⟩
abbrev s_law_bit : Stmt := topS 16
theorem sc_law_bit : FnScope ["_law_row", "_law_bits_here", "_law_words", "_law_total"] ["_law_row", "_law_bits_here", "_law_words"] (defScope s_law_bit) := ⟨rfl, rfl, rfl, by decide +kernel, rfl, by decide +kernel, by decide +kernel⟩
abbrev s_law_bits : Stmt := topS 17
theorem sc_law_bits : FnScope ["_law_rows_here", "_law_words", "_law_bits_here", "_law_row"] ["_law_rows_here", "_law_words"] (defScope s_law_bits) := ⟨rfl, rfl, rfl, by decide +kernel, rfl, by decide +kernel, by decide +kernel⟩
abbrev s_law_wire : Stmt := topS 18
theorem sc_law_wire : FnScope ["_law_found", "_law_at_here"] ["_law_found", "_law_at_here"] (defScope s_law_wire) := ⟨rfl, rfl, rfl, by decide +kernel, rfl, by decide +kernel, by decide +kernel⟩
abbrev s_law_fine_row : Stmt := topS 19
theorem sc_law_fine_row : FnScope ["_law_row", "_law_at_here", "_law_ins"] ["_law_row", "_law_at_here", "_law_ins"] (defScope s_law_fine_row) := ⟨rfl, rfl, rfl, by decide +kernel, rfl, by decide +kernel, by decide +kernel⟩
abbrev s_law_fine : Stmt := topS 20
theorem sc_law_fine : FnScope ["_law_found", "_law_ins", "_law_many", "_law_at_here", "_law_wire_here"] ["_law_found", "_law_ins", "_law_many"] (defScope s_law_fine) := ⟨rfl, rfl, rfl, by decide +kernel, rfl, by decide +kernel, by decide +kernel⟩
abbrev s_law_outs : Stmt := topS 21
theorem sc_law_outs : FnScope ["_law_rows_here", "_law_cell", "_law_outs_here", "_law_k"] ["_law_rows_here", "_law_cell"] (defScope s_law_outs) := ⟨rfl, rfl, rfl, by decide +kernel, rfl, by decide +kernel, by decide +kernel⟩
abbrev s_law_own : Stmt := topS 22
theorem sc_law_own : FnScope ["_law_row"] ["_law_row"] (defScope s_law_own) := ⟨rfl, rfl, rfl, by decide +kernel, rfl, by decide +kernel, by decide +kernel⟩
abbrev s_law_depths : Stmt := topS 23
theorem sc_law_depths : FnScope ["_law_rows_here", "_law_found", "_law_row", "_law_wire_here"] ["_law_rows_here"] (defScope s_law_depths) := ⟨rfl, rfl, rfl, by decide +kernel, rfl, by decide +kernel, by decide +kernel⟩
abbrev s_law_key : Stmt := topS 24
theorem sc_law_key : FnScope ["_law_row"] ["_law_row"] (defScope s_law_key) := ⟨rfl, rfl, rfl, by decide +kernel, rfl, by decide +kernel, by decide +kernel⟩
abbrev s_law_formed : Stmt := topS 25
theorem sc_law_formed : FnScope ["_law_rows_here", "_law_outs_here", "_law_wanted", "_law_wire_here", "_law_keys", "_law_at_here", "_law_row", "_law_own_here"] ["_law_rows_here", "_law_outs_here"] (defScope s_law_formed) := ⟨rfl, rfl, rfl, by decide +kernel, rfl, by decide +kernel, by decide +kernel⟩
abbrev s_law_few_ins : Stmt := topS 26
theorem sc_law_few_ins : FnScope ["_law_names_here", "_law_number", "_law_many", "_law_found", "_law_k"] ["_law_names_here", "_law_number"] (defScope s_law_few_ins) := ⟨rfl, rfl, rfl, by decide +kernel, rfl, by decide +kernel, by decide +kernel⟩
abbrev s_law_all_words : Stmt := topS 27
theorem sc_law_all_words : FnScope ["_law_names_here", "_law_ins", "_law_found", "_law_s", "_law_words", "_law_name", "_law_k"] ["_law_names_here", "_law_ins"] (defScope s_law_all_words) := ⟨rfl, rfl, rfl, by decide +kernel, rfl, by decide +kernel, by decide +kernel⟩
abbrev s_law_holds : Stmt := topS 28
theorem sc_law_holds : FnScope ["_law_found", "_law_rows_here", "_law_outs_here", "_law_old", "_law_new", "_law_k"] ["_law_found", "_law_rows_here", "_law_outs_here"] (defScope s_law_holds) := ⟨rfl, rfl, rfl, by decide +kernel, rfl, by decide +kernel, by decide +kernel⟩
abbrev s_law_told : Stmt := topS 29
theorem sc_law_told : FnScope ["_law_rows_here", "_law_outs_here", "_law_some", "_law_found", "_law_words", "_law_bits_here", "_law_wire_here"] ["_law_rows_here", "_law_outs_here", "_law_some"] (defScope s_law_told) := ⟨rfl, rfl, rfl, by decide +kernel, rfl, by decide +kernel, by decide +kernel⟩
abbrev s_law : Stmt := topS 30
theorem sc_law : FnScope ["_law_script", "_law_names_here", "_law_ins", "_law_rows_here", "_law_outs_here", "_law_found", "_law_some", "_law_due", "_law_kept", "_law_again"] ["_law_script"] (defScope s_law) := ⟨rfl, rfl, rfl, by decide +kernel, rfl, by decide +kernel, by decide +kernel⟩

structure Top (K : PySem.W.Frag) (mg : Str → Option Value) where
  a_own_wires : Addr
  d_own_wires : FuncData
  f_own_wires : Fun K "own_wires" "own_wires" s_own_wires a_own_wires d_own_wires
  b_own_wires : Binds K d_own_wires ["row"] []
  g_own_wires : mg "own_wires" = some (.ref a_own_wires)
  a_Kept__init : Addr
  d_Kept__init : FuncData
  f_Kept__init : Fun K "__init__" "Kept.__init__" s_Kept__init a_Kept__init d_Kept__init
  b_Kept__init : Binds K d_Kept__init ["self"] []
  a_Kept_wire_of : Addr
  d_Kept_wire_of : FuncData
  f_Kept_wire_of : Fun K "wire_of" "Kept.wire_of" s_Kept_wire_of a_Kept_wire_of d_Kept_wire_of
  b_Kept_wire_of : Binds K d_Kept_wire_of ["self", "row"] []
  a_Kept_fixed : Addr
  d_Kept_fixed : FuncData
  f_Kept_fixed : Fun K "fixed" "Kept.fixed" s_Kept_fixed a_Kept_fixed d_Kept_fixed
  b_Kept_fixed : Binds K d_Kept_fixed ["self", "wire"] []
  a_Kept_turned : Addr
  d_Kept_turned : FuncData
  f_Kept_turned : Fun K "turned" "Kept.turned" s_Kept_turned a_Kept_turned d_Kept_turned
  b_Kept_turned : Binds K d_Kept_turned ["self", "wire"] []
  a_Kept_beside_fix : Addr
  d_Kept_beside_fix : FuncData
  f_Kept_beside_fix : Fun K "beside_fix" "Kept.beside_fix" s_Kept_beside_fix a_Kept_beside_fix d_Kept_beside_fix
  b_Kept_beside_fix : Binds K d_Kept_beside_fix ["self", "word", "bit", "wire"] []
  a_Kept_paired : Addr
  d_Kept_paired : FuncData
  f_Kept_paired : Fun K "paired" "Kept.paired" s_Kept_paired a_Kept_paired d_Kept_paired
  b_Kept_paired : Binds K d_Kept_paired ["self", "word", "one", "other"] []
  a_needed : Addr
  d_needed : FuncData
  f_needed : Fun K "needed" "needed" s_needed a_needed d_needed
  b_needed : Binds K d_needed ["rows", "outs"] []
  g_needed : mg "needed" = some (.ref a_needed)
  a_renumbered : Addr
  d_renumbered : FuncData
  f_renumbered : Fun K "renumbered" "renumbered" s_renumbered a_renumbered d_renumbered
  b_renumbered : Binds K d_renumbered ["rows", "outs"] []
  g_renumbered : mg "renumbered" = some (.ref a_renumbered)
  a_fewer : Addr
  d_fewer : FuncData
  f_fewer : Fun K "fewer" "fewer" s_fewer a_fewer d_fewer
  b_fewer : Binds K d_fewer ["rows", "outs"] []
  g_fewer : mg "fewer" = some (.ref a_fewer)
  a_law_whole : Addr
  d_law_whole : FuncData
  f_law_whole : Fun K "_law_whole" "_law_whole" s_law_whole a_law_whole d_law_whole
  b_law_whole : Binds K d_law_whole ["_law_found"] []
  g_law_whole : mg "_law_whole" = some (.ref a_law_whole)
  a_law_at : Addr
  d_law_at : FuncData
  f_law_at : Fun K "_law_at" "_law_at" s_law_at a_law_at d_law_at
  b_law_at : Binds K d_law_at ["_law_script", "_law_k"] []
  g_law_at : mg "_law_at" = some (.ref a_law_at)
  a_law_mixed : Addr
  d_law_mixed : FuncData
  f_law_mixed : Fun K "_law_mixed" "_law_mixed" s_law_mixed a_law_mixed d_law_mixed
  b_law_mixed : Binds K d_law_mixed ["_law_cell", "_law_k"] []
  g_law_mixed : mg "_law_mixed" = some (.ref a_law_mixed)
  a_law_numbers : Addr
  d_law_numbers : FuncData
  f_law_numbers : Fun K "_law_numbers" "_law_numbers" s_law_numbers a_law_numbers d_law_numbers
  b_law_numbers : Binds K d_law_numbers ["_law_script", "_law_start"] []
  g_law_numbers : mg "_law_numbers" = some (.ref a_law_numbers)
  a_law_names : Addr
  d_law_names : FuncData
  f_law_names : Fun K "_law_names" "_law_names" s_law_names a_law_names d_law_names
  b_law_names : Binds K d_law_names ["_law_number"] []
  g_law_names : mg "_law_names" = some (.ref a_law_names)
  a_law_rows : Addr
  d_law_rows : FuncData
  f_law_rows : Fun K "_law_rows" "_law_rows" s_law_rows a_law_rows d_law_rows
  b_law_rows : Binds K d_law_rows ["_law_numbers_here", "_law_ins", "_law_near", "_law_late"] []
  g_law_rows : mg "_law_rows" = some (.ref a_law_rows)
  a_law_turned : Addr
  d_law_turned : FuncData
  f_law_turned : Fun K "_law_turned" "_law_turned" s_law_turned a_law_turned d_law_turned
  b_law_turned : Binds K d_law_turned ["_law_row"] []
  g_law_turned : mg "_law_turned" = some (.ref a_law_turned)
  a_law_gate : Addr
  d_law_gate : FuncData
  f_law_gate : Fun K "_law_gate" "_law_gate" s_law_gate a_law_gate d_law_gate
  b_law_gate : Binds K d_law_gate ["_law_number", "_law_one", "_law_two"] []
  g_law_gate : mg "_law_gate" = some (.ref a_law_gate)
  a_law_bit : Addr
  d_law_bit : FuncData
  f_law_bit : Fun K "_law_bit" "_law_bit" s_law_bit a_law_bit d_law_bit
  b_law_bit : Binds K d_law_bit ["_law_row", "_law_bits_here", "_law_words"] []
  g_law_bit : mg "_law_bit" = some (.ref a_law_bit)
  a_law_bits : Addr
  d_law_bits : FuncData
  f_law_bits : Fun K "_law_bits" "_law_bits" s_law_bits a_law_bits d_law_bits
  b_law_bits : Binds K d_law_bits ["_law_rows_here", "_law_words"] []
  g_law_bits : mg "_law_bits" = some (.ref a_law_bits)
  a_law_wire : Addr
  d_law_wire : FuncData
  f_law_wire : Fun K "_law_wire" "_law_wire" s_law_wire a_law_wire d_law_wire
  b_law_wire : Binds K d_law_wire ["_law_found", "_law_at_here"] []
  g_law_wire : mg "_law_wire" = some (.ref a_law_wire)
  a_law_fine_row : Addr
  d_law_fine_row : FuncData
  f_law_fine_row : Fun K "_law_fine_row" "_law_fine_row" s_law_fine_row a_law_fine_row d_law_fine_row
  b_law_fine_row : Binds K d_law_fine_row ["_law_row", "_law_at_here", "_law_ins"] []
  g_law_fine_row : mg "_law_fine_row" = some (.ref a_law_fine_row)
  a_law_fine : Addr
  d_law_fine : FuncData
  f_law_fine : Fun K "_law_fine" "_law_fine" s_law_fine a_law_fine d_law_fine
  b_law_fine : Binds K d_law_fine ["_law_found", "_law_ins", "_law_many"] []
  g_law_fine : mg "_law_fine" = some (.ref a_law_fine)
  a_law_outs : Addr
  d_law_outs : FuncData
  f_law_outs : Fun K "_law_outs" "_law_outs" s_law_outs a_law_outs d_law_outs
  b_law_outs : Binds K d_law_outs ["_law_rows_here", "_law_cell"] []
  g_law_outs : mg "_law_outs" = some (.ref a_law_outs)
  a_law_own : Addr
  d_law_own : FuncData
  f_law_own : Fun K "_law_own" "_law_own" s_law_own a_law_own d_law_own
  b_law_own : Binds K d_law_own ["_law_row"] []
  g_law_own : mg "_law_own" = some (.ref a_law_own)
  a_law_depths : Addr
  d_law_depths : FuncData
  f_law_depths : Fun K "_law_depths" "_law_depths" s_law_depths a_law_depths d_law_depths
  b_law_depths : Binds K d_law_depths ["_law_rows_here"] []
  g_law_depths : mg "_law_depths" = some (.ref a_law_depths)
  a_law_key : Addr
  d_law_key : FuncData
  f_law_key : Fun K "_law_key" "_law_key" s_law_key a_law_key d_law_key
  b_law_key : Binds K d_law_key ["_law_row"] []
  g_law_key : mg "_law_key" = some (.ref a_law_key)
  a_law_formed : Addr
  d_law_formed : FuncData
  f_law_formed : Fun K "_law_formed" "_law_formed" s_law_formed a_law_formed d_law_formed
  b_law_formed : Binds K d_law_formed ["_law_rows_here", "_law_outs_here"] []
  g_law_formed : mg "_law_formed" = some (.ref a_law_formed)
  a_law_few_ins : Addr
  d_law_few_ins : FuncData
  f_law_few_ins : Fun K "_law_few_ins" "_law_few_ins" s_law_few_ins a_law_few_ins d_law_few_ins
  b_law_few_ins : Binds K d_law_few_ins ["_law_names_here", "_law_number"] []
  g_law_few_ins : mg "_law_few_ins" = some (.ref a_law_few_ins)
  a_law_all_words : Addr
  d_law_all_words : FuncData
  f_law_all_words : Fun K "_law_all_words" "_law_all_words" s_law_all_words a_law_all_words d_law_all_words
  b_law_all_words : Binds K d_law_all_words ["_law_names_here", "_law_ins"] []
  g_law_all_words : mg "_law_all_words" = some (.ref a_law_all_words)
  a_law_holds : Addr
  d_law_holds : FuncData
  f_law_holds : Fun K "_law_holds" "_law_holds" s_law_holds a_law_holds d_law_holds
  b_law_holds : Binds K d_law_holds ["_law_found", "_law_rows_here", "_law_outs_here"] []
  g_law_holds : mg "_law_holds" = some (.ref a_law_holds)
  a_law_told : Addr
  d_law_told : FuncData
  f_law_told : Fun K "_law_told" "_law_told" s_law_told a_law_told d_law_told
  b_law_told : Binds K d_law_told ["_law_rows_here", "_law_outs_here", "_law_some"] []
  g_law_told : mg "_law_told" = some (.ref a_law_told)
  a_law : Addr
  d_law : FuncData
  f_law : Fun K "law" "law" s_law a_law d_law
  b_law : Binds K d_law ["_law_script"] []
  g_law : mg "law" = some (.ref a_law)
  c_Kept : Addr
  gc_Kept : mg "Kept" = some (.ref c_Kept)
  nc_Kept : IsC K "Kept" c_Kept
  kc_Kept : PySem.W.keepIn K (.ref c_Kept) = true
  cl_Kept : Cls K c_Kept
  mk_Kept : Mk K c_Kept a_Kept__init
  m_Kept_wire_of : Meth K c_Kept "wire_of" a_Kept_wire_of
  m_Kept_fixed : Meth K c_Kept "fixed" a_Kept_fixed
  m_Kept_turned : Meth K c_Kept "turned" a_Kept_turned
  m_Kept_beside_fix : Meth K c_Kept "beside_fix" a_Kept_beside_fix
  m_Kept_paired : Meth K c_Kept "paired" a_Kept_paired
  n_Kept_rows : NoAttr K c_Kept "rows"
  n_Kept_places : NoAttr K c_Kept "places"
  z_bool : mg "bool" = none
  z_enumerate : mg "enumerate" = none
  z_int : mg "int" = none
  z_isinstance : mg "isinstance" = none
  z_len : mg "len" = none
  z_list : mg "list" = none
  z_max : mg "max" = none
  z_min : mg "min" = none
  z_range : mg "range" = none
  z_reversed : mg "reversed" = none
  z_str : mg "str" = none
  z_tuple : mg "tuple" = none

section
variable {P : Program} {w : World} {K : PySem.W.Frag} {mg : Str → Option Value} {base : Heap}


/-! the walk: one step a construct -/
open PySem PySem.Spec PyProof.Rows L2 Dpr
local macro_rules | `(tactic| walk_at "hp") => `(tactic| first
  | assumption
  | exact upd_same
  | (apply hp_upd; assumption; walk_at "hp")
  | (apply hp_upd2; assumption; walk_at "hp")
  | (apply same_at; assumption; walk_at "hp"))
local macro_rules | `(tactic| walk_at "sq") => `(tactic| first
  | assumption
  | exact SqL.of (by assumption)
  | exact SqL.of upd_same
  | exact SqT.of (by assumption)
  | (apply SqL.of; walk_at "hp")
  | (apply SqT.of; walk_at "hp")
  | (apply Same.seq; assumption; walk_at "sq")
  | (apply same_tup; assumption; walk_at "sq"))
local macro_rules | `(tactic| walk_at "sz") => `(tactic| first
  | omega
  | (simp only [List.length_map, List.length_append, List.length_cons, List.length_nil, List.length_range, List.length_replicate, List.length_take]; omega))
local macro_rules | `(tactic| walk_at "w1") => `(tactic| first
  | with_reducible refine w_seq ?_
  | with_reducible refine w_asg ?_
  | ((with_reducible apply w_var); rfl)
  | with_reducible refine w_c ?_
  | with_reducible refine w_op ?_
  | with_reducible refine w_un ?_
  | with_reducible refine w_I0 ?_
  | with_reducible refine w_U ?_
  | with_reducible refine w_bl ?_
  | with_reducible refine w_test ?_
  | with_reducible refine w_tB ?_
  | ((with_reducible refine w_eq ?_ ?_); rfl)
  | ((with_reducible refine w_ne ?_ ?_); rfl)
  | with_reducible refine w_if ?_
  | with_reducible refine w_cons ?_
  | with_reducible refine w_nil ?_
  | with_reducible refine w_itT ?_
  | with_reducible refine w_itF ?_
  | ((with_reducible refine w_itS1 ?_ ?_); decide +kernel)
  | ((with_reducible refine w_itS0 ?_ ?_); decide +kernel)
  | ((with_reducible refine w_itN1 ?_ ?_); decide +kernel)
  | ((with_reducible refine w_itN0 ?_ ?_); decide +kernel)
  | with_reducible refine w_dget ?_
  | ((with_reducible apply w_DG1); (walk_at "hp"); assumption)
  | ((with_reducible refine w_itC ?_ ?_); (first | decide +kernel | (simp only [List.length_cons, List.length_nil]; decide +kernel)))
  | ((with_reducible refine w_itD ?_ ?_); (first | decide +kernel | (simp only [List.length_cons, List.length_nil]; decide +kernel)))
  | with_reducible refine w_asgG ?_
  | with_reducible refine w_drop ?_
  | with_reducible refine w_ret ?_
  | with_reducible refine w_retN ?_
  | with_reducible refine w_next ?_
  | with_reducible refine w_cont ?_
  | with_reducible refine w_brk ?_
  | ((with_reducible apply w_aug); rfl)
  | with_reducible refine w_ipI ?_
  | with_reducible refine w_chain ?_
  | with_reducible refine w_and ?_
  | with_reducible refine w_or ?_
  | with_reducible refine w_not ?_
  | with_reducible refine w_andV ?_
  | with_reducible refine w_orV ?_
  | with_reducible refine w_notV ?_
  | with_reducible refine w_ifx ?_
  | with_reducible refine w_call ?_
  | with_reducible refine w_cb ?_
  | ((with_reducible refine w_for ?_); (try simp only [List.set_cons_zero, List.set_cons_succ]))
  | ((with_reducible refine w_lc ?_); (try simp only [List.set_cons_zero, List.set_cons_succ]))
  | with_reducible refine w_bm ?_
  | with_reducible refine w_bm0 ?_
  | ((with_reducible apply w_BML); (walk_at "hp"))
  | ((with_reducible apply w_BM0L); (walk_at "hp"))
  | ((with_reducible apply w_append); (walk_at "hp"); (try (walk_at "sz")))
  | ((with_reducible apply w_gTup); (walk_at "sq"); rfl)
  | with_reducible refine w_gCons ?_
  | with_reducible refine w_gNil ?_
  | with_reducible refine w_gName ?_
  | with_reducible refine w_iE ?_
  | ((with_reducible apply w_IE1); (walk_at "sq"))
  | with_reducible refine w_intB ?_
  | with_reducible refine w_tm1 ?_
  | with_reducible refine w_M11 ?_
  | ((with_reducible apply w_inL); (walk_at "sq"); rfl; rfl)
  | ((with_reducible apply w_inT); (walk_at "sq"); rfl; rfl)
  | ((with_reducible apply w_niL); (walk_at "sq"); rfl; rfl)
  | ((with_reducible apply w_niT); (walk_at "sq"); rfl; rfl)
  | with_reducible refine w_bit1 ?_
  | with_reducible refine w_shrN ?_
  | ((with_reducible refine w_shlN ?_ ?_); omega)
  | ((with_reducible refine w_divP ?_ ?_); omega)
  | with_reducible refine w_iL ?_
  | with_reducible refine w_iT ?_
  | with_reducible refine w_iR1 ?_
  | with_reducible refine w_iR2 ?_
  | ((with_reducible apply w_IL1); (walk_at "sq"))
  | ((with_reducible apply w_IT1); (walk_at "sq"))
  | ((with_reducible refine w_IR1 ?_ ?_); (walk_at "sz"))
  | ((with_reducible refine w_IR2 ?_ ?_); (walk_at "sz"))
  | ((with_reducible apply w_sl); (walk_at "sq"); intro _ _ _ _ _)
  | with_reducible refine w_tsl ?_
  | with_reducible refine w_tnp ?_
  | with_reducible refine w_tpt ?_
  | with_reducible refine w_pt ?_
  | ((with_reducible apply w_cat); (walk_at "hp"); (walk_at "hp"); (try (walk_at "sz")))
  | ((with_reducible apply w_listL); (walk_at "sq"); intro _ _ _ _ _)
  | ((with_reducible apply w_listT); (walk_at "sq"); intro _ _ _ _ _)
  | with_reducible refine w_tbits ?_
  | with_reducible refine w_bits ?_
  | with_reducible refine w_tup ?_
  | with_reducible refine w_lst ?_
  | ((with_reducible refine w_alT ?_ ?_); (exact sz_le rfl); intro _ _ _ _ _)
  | ((with_reducible refine w_alL ?_ ?_); (exact sz_le rfl); intro _ _ _ _ _)
  | with_reducible refine w_abs ?_
  | with_reducible refine w_max2 ?_
  | with_reducible refine w_min2 ?_
  | ((with_reducible refine w_I ?_ ?_); (first | exact ⟨by decide, by decide⟩ | (show (_ : Int) < _; decide) | exact p2pos _ | exact ⟨by omega, by omega, by decide⟩ | exact ⟨by omega, by omega⟩ | (show (_ : Int) < _; omega) | (show (_ : Int) ≤ _; omega) | exact .of_left (by decide) | exact .of_right (by decide) | exact mul_sm (by omega) | exact mul_sm2 (by omega) | exact mul_cc (by assumption) (by assumption) | exact mul_ok2 (n := 250) (by assumption) (by decide) (by decide)))
  | ((with_reducible apply w_ixL); (walk_at "sq"); rfl)
  | ((with_reducible apply w_ixT); (walk_at "sq"); rfl)
  | ((with_reducible apply w_lenL); (walk_at "sq"))
  | ((with_reducible apply w_lenT); (walk_at "sq"))
  | (with_reducible refine w_isi (TyX.base (TyOf.int _)) (kit_ii _) ?_)
  | (with_reducible refine w_isi (TyX.base (TyOf.int _)) (kit_ib _) ?_)
  | (with_reducible refine w_isi (TyX.base (TyOf.bl _)) (kit_bi _) ?_)
  | (with_reducible refine w_isi (TyX.base (TyOf.bl _)) (kit_bb _) ?_)
  | (with_reducible refine w_isi (TyX.base (TyOf.str _)) (kit_ss _) ?_)
  | ((with_reducible apply w_isiT); (walk_at "hp"))
  | ((with_reducible apply w_isiL); (walk_at "hp")))
local macro_rules | `(tactic| walk_at "split") => `(tactic| first
  | ((with_reducible refine w_itS ?_ ?_) <;> intro _)
  | ((with_reducible refine w_itSN ?_ ?_) <;> intro _)
  | ((with_reducible refine w_itI ?_ ?_) <;> intro _)
  | ((with_reducible refine w_itN ?_ ?_) <;> intro _)
  | ((with_reducible refine w_itn ?_ ?_) <;> intro _)
  | ((with_reducible refine w_itd ?_ ?_) <;> intro _)
  | ((with_reducible refine w_itb ?_ ?_) <;> intro _))
local macro_rules | `(tactic| walk_at "wk") => `(tactic| repeat' (walk_at "w1"))
local macro_rules | `(tactic| walk_at "ws") => `(tactic| repeat' (first | (walk_at "w1") | ((walk_at "split") <;> (try (exfalso; omega)))))

local macro_rules | `(tactic| walk_at "w1") => `(tactic| first
  | ((with_reducible refine w_disp ?_); intro _ _ _ _ _)
  | with_reducible refine w_pairs ?_
  | with_reducible refine w_pairs0 ?_
  | ((with_reducible apply w_dictD); (walk_at "hp"); intro _ _ _ _ _))

local macro_rules | `(tactic| walk_at "w1") => `(tactic| first
  | with_reducible refine w_dput ?_
  | ((with_reducible apply w_DPutB); (walk_at "hp"); (walk_at "sz"))
  | ((with_reducible apply w_insert); (walk_at "hp"); (walk_at "sz"); omega)
  | ((with_reducible refine w_dnewK ?_); intro _ _ _ _ _)
  | with_reducible refine w_revR ?_
  | with_reducible refine w_rg1 ?_
  | with_reducible refine w_RG1 ?_
  | ((with_reducible refine w_RevB ?_ ?_); omega))

local macro_rules | `(tactic| walk_at "w1") => `(tactic| first
  | ((with_reducible apply w_slT1); (walk_at "sq"); intro _ _ _ _ _))

local macro_rules | `(tactic| walk_at "w1") => `(tactic| first
  | with_reducible refine w_isNo1 ?_
  | with_reducible refine w_isNo0 ?_
  | with_reducible refine w_notNo1 ?_
  | with_reducible refine w_notNo0 ?_)

local macro_rules | `(tactic| walk_at "lk") => `(tactic| first
  | exact lookup_hd
  | exact lookup_no
  | ((refine lookup_tl ?_ ?_); decide +kernel; (walk_at "lk")))
local macro_rules | `(tactic| walk_at "w1") => `(tactic| first
  | with_reducible refine w_fld ?_
  | ((with_reducible apply w_FldB); (walk_at "hp"); assumption; assumption; (walk_at "lk"))
  | with_reducible refine w_sfld ?_
  | ((with_reducible apply w_SFldB); (walk_at "hp"); assumption; assumption; exact Nat.le_of_ble_eq_true rfl)
  | with_reducible refine w_meth ?_
  | ((with_reducible apply w_MethB); (walk_at "hp"); (walk_at "lk")))

local macro_rules | `(tactic| walk_at "w1") => `(tactic| first
  | with_reducible refine w_dnin ?_
  | with_reducible refine w_mk ?_
  | ((with_reducible refine w_MkB ?_); intro _ _ _ _ _ _ _)
  | with_reducible refine w_notNoI ?_
  | with_reducible refine w_din ?_
  | ((with_reducible refine w_dnewT ?_); intro _ _ _ _ _)
  | with_reducible refine w_gSub ?_
  | ((with_reducible apply w_tupL); (walk_at "sq"); intro _ _ _ _ _))

def sp_law_whole (K : PySem.W.Frag) : Sp := fun vs H Q _ => ∃ i : Int, vs = [.int i] ∧ Q (.bl true) H
theorem ok_law_whole (T : Top K mg) : FnOk P w K mg base CX0 1 T.a_law_whole T.d_law_whole ["_law_found"] (sp_law_whole K) := by
  refine T.f_law_whole.ok sc_law_whole (fun vs H Q E h => ?_) (fun cdv A outer s H vs Q E hr h => ?_)
  · obtain ⟨i, rfl, _⟩ := h
    rfl
  obtain ⟨i, rfl, h⟩ := h
  refine ⟨_, (pss_one (ps_ret (pe_and (pe_callB (c_isiK K) (by rfl) T.z_isinstance (by decide +kernel) (pa_cons (pv 0) (pa_cons (pe_bltn (v := .ty "int") (by rfl) T.z_int (by decide +kernel) rfl) pa_nil))) (pe_one (pe_not (pe_callB (c_isiK K) (by rfl) T.z_isinstance (by decide +kernel) (pa_cons (pv 0) (pa_cons (pe_bltn (v := .ty "bool") (by rfl) T.z_bool (by decide +kernel) rfl) pa_nil)))))))), ?_⟩
  try dsimp only [cxOf, Cx.nox, Cx.wish]
  simp only [L2.start, List.map_cons, List.map_nil, List.length_cons, List.length_nil, Nat.reduceAdd, Nat.reduceSub, List.replicate_succ, List.replicate_zero, List.cons_append, List.nil_append]
  walk_at "wk"
  exact h
theorem use_whole {i : Int} {H : Hp} {Q : VK} {E : XK} (h : Q (.bl true) H) : sp_law_whole K ([.int i] ++ []) H Q E := ⟨i, rfl, h⟩
local macro_rules | `(tactic| walk_at "w1") => `(tactic| with_reducible refine use_whole ?_)

def sp_own_wires (K : PySem.W.Frag) : Sp := fun vs H Q _ => ∃ (p : Addr) (r : Row), vs = [.ref p] ∧ RowAt H p r ∧ ∀ q H', H q = none → Same H H' → H' q = some (.lst ((natI (ownR r)).map V.int)) → Q (.ref q) H'
theorem ok_own_wires (T : Top K mg) : FnOk P w K mg base CX0 1 T.a_own_wires T.d_own_wires ["row"] (sp_own_wires K) := by
  refine T.f_own_wires.ok sc_own_wires (fun vs H Q E h => ?_) (fun cdv A outer s H vs Q E hr h => ?_)
  · obtain ⟨p, r, rfl, _⟩ := h
    rfl
  obtain ⟨p, r, rfl, h⟩ := h
  refine ⟨_, (pss_cons (ps_if (pt_cmpR (op_inK K) (pe_ix (ix_tupK K) (pv 0) pe_int (fun _ _ => rfl)) (pe_tup (pa_cons pe_str (pa_cons pe_str (pa_cons pe_str (pa_cons pe_str pa_nil))))) (by rfl)) (pss_one (ps_ret (pe_callTy (c_listK K) (by rfl) T.z_list (by decide +kernel) (pa_cons (pe_slice sl_tup (pv 0) (po_some pe_int) po_none) pa_nil)))) pss_nil)
      (pss_one (ps_ret (pe_lst pa_nil)))), ?_⟩
  try dsimp only [cxOf, Cx.nox, Cx.wish]
  simp only [L2.start, List.map_cons, List.map_nil, List.length_cons, List.length_nil, Nat.reduceAdd, Nat.reduceSub, List.replicate_succ, List.replicate_zero, List.cons_append, List.nil_append]
  obtain ⟨hp, h⟩ := h
  unfold RowAt at hp
  cases r with
  | bin o a b => cases o <;> (walk_at "ws"; exact h _ _ (Same.free (Same.trans (by assumption) (by assumption)) (by assumption)) (Same.trans (Same.trans (by assumption) (by assumption)) (by assumption)) (by assumption))
  | inv a => walk_at "ws"; exact h _ _ (Same.free (Same.trans (by assumption) (by assumption)) (by assumption)) (Same.trans (Same.trans (by assumption) (by assumption)) (by assumption)) (by assumption)
  | _ => walk_at "ws"; exact h _ _ (Same.free (by assumption) (by assumption)) (Same.trans (by assumption) (by assumption)) (by assumption)
def sp_law_own (K : PySem.W.Frag) : Sp := fun vs H Q _ => ∃ (p : Addr) (r : Row), vs = [.ref p] ∧ RowAt H p r ∧ ∀ q H', H q = none → Same H H' → H' q = some (.lst ((natI (ownR r)).map V.int)) → Q (.ref q) H'
theorem ok_law_own (T : Top K mg) : FnOk P w K mg base CX0 1 T.a_law_own T.d_law_own ["_law_row"] (sp_law_own K) := by
  refine T.f_law_own.ok sc_law_own (fun vs H Q E h => ?_) (fun cdv A outer s H vs Q E hr h => ?_)
  · obtain ⟨p, r, rfl, _⟩ := h
    rfl
  obtain ⟨p, r, rfl, h⟩ := h
  refine ⟨_, (pss_cons (ps_if (pt_cmpR (op_inK K) (pe_ix (ix_tupK K) (pv 0) pe_int (fun _ _ => rfl)) (pe_lst (pa_cons pe_str (pa_cons pe_str (pa_cons pe_str (pa_cons pe_str pa_nil))))) (by rfl)) (pss_one (ps_ret (pe_callTy (c_listK K) (by rfl) T.z_list (by decide +kernel) (pa_cons (pe_slice sl_tup (pv 0) (po_some pe_int) po_none) pa_nil)))) pss_nil)
      (pss_one (ps_ret (pe_lst pa_nil)))), ?_⟩
  try dsimp only [cxOf, Cx.nox, Cx.wish]
  simp only [L2.start, List.map_cons, List.map_nil, List.length_cons, List.length_nil, Nat.reduceAdd, Nat.reduceSub, List.replicate_succ, List.replicate_zero, List.cons_append, List.nil_append]
  obtain ⟨hp, h⟩ := h
  unfold RowAt at hp
  cases r with
  | bin o a b => cases o <;> (walk_at "ws"; exact h _ _ (Same.free (Same.trans (by assumption) (by assumption)) (by assumption)) (Same.trans (Same.trans (by assumption) (by assumption)) (by assumption)) (by assumption))
  | inv a => walk_at "ws"; exact h _ _ (Same.free (Same.trans (by assumption) (by assumption)) (by assumption)) (Same.trans (Same.trans (by assumption) (by assumption)) (by assumption)) (by assumption)
  | _ => walk_at "ws"; exact h _ _ (Same.free (by assumption) (by assumption)) (Same.trans (by assumption) (by assumption)) (by assumption)
theorem depth_get {rs : List Row} {a : Nat} (h : a < rs.length) : ∀ ds : List Int, ds.length = rs.length → atI (ds.map V.int) (a : Int) = some (.int (ds.getD a 0)) := fun ds e => bit_get (by omega)
def sp_law_depths (K : PySem.W.Frag) : Sp := fun vs H Q _ => ∃ (a : Addr) (rs : List Row) (N : Str → Prop), vs = [.ref a] ∧ RowsL K H a rs ∧ RowsOk N rs ∧ rs.length ≤ 60000 ∧
  ∀ p H', H p = none → Same H H' → H' p = some (.lst ((depthL rs).map V.int)) → Q (.ref p) H'
theorem ok_law_depths (T : Top K mg) : FnOk P w K mg base CX0 2 T.a_law_depths T.d_law_depths ["_law_rows_here"] (sp_law_depths K) := by
  refine T.f_law_depths.ok sc_law_depths (fun vs H Q E h => ?_) (fun cdv A outer s H vs Q E hr h => ?_)
  · obtain ⟨a, rs, N, rfl, _⟩ := h
    rfl
  obtain ⟨a, rs, N, rfl, h⟩ := h
  refine ⟨_, (pss_cons (ps_set (i := 1) sc_law_depths.nd rfl (.inr rfl) (pe_lst pa_nil))
      (pss_cons (ps_for PassesOwn.never rfl (pi_list (pv 0)) (pg_name (i := 2) sc_law_depths.nd rfl (.inl rfl))
      (pss_one (ps_expr (pe_bm PySem.F.plainAttrs_list PySem.F.slot_list_append PySem.F.type_list_append mt_append (pv 1) (pa_cons (pe_callB (c_maxK K) (by rfl) T.z_max (by decide +kernel) (pa_cons (pe_op op_cat (pe_lst (pa_cons pe_int pa_nil)) (pe_lc (own := [("_law_wire_here", 3)]) (g := gName 3) (tt := tYes) (by rfl) sc_law_depths.nd (pi_list (pe_call (ok_law_own T) (hr.mono (by decide)) (by rfl) T.g_law_own T.f_law_own.kp T.b_law_own .nil pass0 (pa_cons (pv 2) pa_nil))) (blkOk_by (N := ["_law_rows_here", "_law_found", "_law_row", "_law_wire_here"]) (sc := defScope s_law_depths) (by decide +kernel)) (fun _ _ _ _ _ => (pg_name (i := 3) sc_law_depths.nd rfl (.inl rfl))) (fun _ _ _ _ _ => pts_nil) (fun _ _ _ _ _ => (pe_op op_add (pe_ix (ix_listK K) (pv 1) (pv 3) (fun _ _ => rfl)) pe_int)))) pa_nil)) pa_nil)))))
      (pss_one (ps_ret (pv 1))))), ?_⟩
  try dsimp only [cxOf, Cx.nox, Cx.wish]
  simp only [L2.start, List.map_cons, List.map_nil, List.length_cons, List.length_nil, Nat.reduceAdd, Nat.reduceSub, List.replicate_succ, List.replicate_zero, List.cons_append, List.nil_append]
  obtain ⟨⟨ps, hS, hA⟩, ok, hlen, h⟩ := h
  walk_at "ws"
  rename_i o H1 n1 s1 e1
  refine for_l (ps.map V.ref) (fun i σ' H' => ∃ y3 y4, σ' = [some (.ref a), some (.ref o), y3, y4] ∧ Same H H' ∧ H' o = some (.lst ((depthL (rs.take i)).map V.int))) ⟨_, _, rfl, s1, e1⟩ (fun i σ' H' _ q => ?_) (fun i x σ' H' hx q => ?_) (fun σ' H' q => ?_)
  · obtain ⟨y3, y4, rfl, sm, e⟩ := q
    exact sm.seq hS
  · obtain ⟨y3, y4, rfl, sm, e⟩ := q
    obtain ⟨p, hp, rfl⟩ := get_map hx
    obtain ⟨r, hr', hpr⟩ := hA.get hp
    have hi := (List.getElem?_eq_some_iff.mp hr').1
    have hl : (depthL (rs.take i)).length = i := by unfold depthL; rw [runL_len, List.length_take]; omega
    have okr := own_lt (ok i r hr')
    have hown := own_len r
    generalize hds : depthL (rs.take i) = ds at *
    walk_at "ws"
    rename_i p2 G2 n2 s2 e2
    refine ⟨p, r, rfl, s2 _ _ (sm _ _ hpr), fun q G nq sq eq => ?_⟩
    walk_at "ws"
    refine lc_l ((natI (ownR r)).map V.int) ((ownR r).map fun z => V.int (ds.getD z 0 + 1)) (by rw [List.length_map, List.length_map, natI_len]) (SqL.of eq) (by rw [List.length_map, natI_len]; omega) (fun x => rfl) (fun j x y G' Q' hx2 hy2 s4 k => ?_) (fun p4 G4 n4 s4 e4 => ?_)
    · obtain ⟨z, hz, rfl⟩ := get_map hx2
      obtain ⟨u, hu, rfl⟩ := natI_get hz
      rw [List.getElem?_map, hu] at hy2
      cases hy2
      have hui := okr u (List.mem_of_getElem? hu)
      walk_at "ws"
      refine w_ixL (SqL.of (s4 _ _ (sq _ _ (s2 _ _ e)))) (bit_get (by omega)) ?_
      walk_at "ws"
      exact k
    · have e2' := s4 _ _ (sq _ _ e2)
      refine w_cat e2' e4 (by simp only [List.length_map, List.length_cons, List.length_nil]; omega) fun p5 G5 n5 s5 e5 => ?_
      walk_at "ws"
      have e5' : G5 p5 = some (.lst ((0 :: (ownR r).map fun z => ds.getD z 0 + 1).map V.int)) := by
        rw [e5, List.map_cons, List.map_map]
        rfl
      refine w_maxL (SqL.of e5') (Nat.succ_pos _) fun m hm1 hm2 => ?_
      have hm := top_of (fun z => ds.getD z 0 + 1) _ _ _ hm1 hm2
      walk_at "ws"
      refine ⟨_, _, rfl, same_mut (sm.trans (((s2.trans sq).trans s4).trans s5)) n1, ?_⟩
      rw [upd_same, take_snoc hr', show depthL (rs.take i ++ [r]) = depthL (rs.take i) ++ [deepI (depthL (rs.take i)) r] from runL_snoc .., hds, List.map_append, hm]
      rfl
  · obtain ⟨y3, y4, rfl, sm, e⟩ := q
    rw [List.length_map, hA.1, List.take_of_length_le (Nat.le_refl _)] at e
    walk_at "ws"
    exact h o H' n1 sm e

/-! numbers drawn from a cell -/
def sp_law_mixed (K : PySem.W.Frag) : Sp := fun vs H Q _ => ∃ c k : Int, vs = [.int c, .int k] ∧ Builtin.Int.intBits c ≤ 1048577 ∧ (0 ≤ k ∧ k ≤ 1000000) ∧ ∀ v : Int, 0 ≤ v → v < 2147483648 → Q (.int v) H
theorem ok_law_mixed (T : Top K mg) : FnOk P w K mg base CX0 1 T.a_law_mixed T.d_law_mixed ["_law_cell", "_law_k"] (sp_law_mixed K) := by
  refine T.f_law_mixed.ok sc_law_mixed (fun vs H Q E h => ?_) (fun cdv A outer s H vs Q E hr h => ?_)
  · obtain ⟨c, k, rfl, _⟩ := h
    rfl
  obtain ⟨c, k, rfl, h⟩ := h
  refine ⟨_, (pss_cons (ps_if (pt_cmpR op_ge (pv 0) (pe_op op_pow pe_int pe_int) (nomark _)) (pss_one (ps_ret (pe_op op_mod (pe_op op_fdivW (pe_op op_sub (pv 0) (pe_op op_pow pe_int pe_int)) (pe_op op_shl pe_int (pe_op op_mulI pe_int (pe_op op_mod (pv 1) pe_int)))) (pe_op op_shl pe_int pe_int)))) pss_nil)
      (pss_cons (ps_set (i := 2) sc_law_mixed.nd rfl (.inl rfl) (pe_op op_mod (pe_op op_add (pe_op op_add (pe_op op_mulI (pv 0) pe_int) (pe_op op_mulI (pe_op op_mulI pe_int (pv 1)) (pv 1))) (pv 1)) pe_int))
      (pss_cons (ps_set (i := 2) sc_law_mixed.nd rfl (.inl rfl) (pe_op op_mod (pe_op op_mulI (pv 2) (pv 2)) pe_int))
      (pss_one (ps_ret (pe_op op_mod (pe_op op_mulI (pv 2) pe_int) pe_int)))))), ?_⟩
  try dsimp only [cxOf, Cx.nox, Cx.wish]
  simp only [L2.start, List.map_cons, List.map_nil, List.length_cons, List.length_nil, Nat.reduceAdd, Nat.reduceSub, List.replicate_succ, List.replicate_zero, List.cons_append, List.nil_append]
  obtain ⟨hc, hk, h⟩ := h
  walk_at "ws"
  · have hp : (0 : Int) < 1 * 2 ^ (31 * (k % 60)).toNat := by
      rw [Int.one_mul]
      exact p2pos _
    refine w_I (wide_div hp (b := 2001) (by rw [abs_pow]; exact Nat.pow_lt_pow_right (by decide) (by omega)) (by decide) (by decide)) ?_
    walk_at "ws"
    have e : (1 : Int) * 2 ^ Int.toNat 31 = 2147483648 := by decide
    rw [e]
    exact h _ (Int.emod_nonneg _ (by decide)) (Int.emod_lt_of_pos _ (by decide))
  · refine h _ (Int.emod_nonneg _ (by decide)) ?_
    exact Int.lt_trans (Int.emod_lt_of_pos _ (by decide)) (by decide)
theorem use_mixed {c k : Int} {H : Hp} {Q : VK} {E : XK} (hc : Builtin.Int.intBits c ≤ 1048577) (hk : 0 ≤ k ∧ k ≤ 1000000) (h : ∀ v : Int, 0 ≤ v → v < 2147483648 → Q (.int v) H) : sp_law_mixed K ([.int c, .int k] ++ []) H Q E :=
  ⟨c, k, rfl, hc, hk, h⟩
local macro_rules | `(tactic| walk_at "w1") => `(tactic| ((with_reducible refine use_mixed ?_ ?_ ?_); (first | assumption | exact Nat.le_succ_of_le (by assumption)); omega; intro _ _ _))

/-! names: one to six small letters -/
def letter (c : Nat) : Prop := 97 ≤ c ∧ c ≤ 122
def NameOk (s : Str) : Prop := (1 ≤ s.length ∧ s.length ≤ 6) ∧ ∀ c ∈ s.cps.toList, letter c
theorem letters_at (i : Int) (h : 0 ≤ i ∧ i < 26) : ∃ c, atI (Str.ofString "abcdefghijklmnopqrstuvwxyz").cps.toList i = some c ∧ letter c := by
  have e : (Str.ofString "abcdefghijklmnopqrstuvwxyz").cps.toList = (List.range 26).map (· + 97) := by decide +kernel
  rw [e]
  obtain ⟨n, rfl⟩ := Int.eq_ofNat_of_zero_le h.1
  have hn : n < 26 := by omega
  refine ⟨n + 97, atI_nat ?_, by unfold letter; omega⟩
  rw [List.getElem?_map, List.getElem?_range hn]
  rfl
theorem tl_concat : ∀ ss : List Str, (Txt.join "" ss).cps.toList = (ss.map fun s => s.cps.toList).flatten := by
  intro ss
  have h : TL.tl (Txt.join "" ss) = TL.joinL (TL.tl "") (ss.map TL.tl) := by rw [TL.join_eq, TL.tl_join]
  have e : TL.tl "" = [] := by decide +kernel
  rw [e] at h
  have key : ∀ l : List (List Nat), TL.joinL [] l = l.flatten := by
    intro l
    induction l with
    | nil => rfl
    | cons p r ih =>
      cases r with
      | nil => exact (List.append_nil p).symm
      | cons q r => show p ++ ([] ++ TL.joinL [] (q :: r)) = p ++ (q :: r).flatten; rw [List.nil_append, ih]
  rw [key] at h
  exact h
/-- signs that are one letter each -/
def oneL (s : Str) : Prop := ∃ c, s = ⟨#[c]⟩ ∧ letter c
theorem ones_join {ss : List Str} (h : ∀ s ∈ ss, oneL s) : (Txt.join "" ss).length = ss.length ∧ ∀ c ∈ (Txt.join "" ss).cps.toList, letter c := by
  have e := tl_concat ss
  have key : ∀ ss : List Str, (∀ s ∈ ss, oneL s) → (ss.map fun s => s.cps.toList).flatten.length = ss.length ∧ ∀ c ∈ (ss.map fun s => s.cps.toList).flatten, letter c := by
    intro ss
    induction ss with
    | nil => intro _; exact ⟨rfl, fun c hc => by cases hc⟩
    | cons s r ih =>
      intro h
      obtain ⟨c, rfl, hc⟩ := h s (List.mem_cons_self ..)
      obtain ⟨h1, h2⟩ := ih fun z hz => h z (List.mem_cons_of_mem _ hz)
      refine ⟨?_, fun d hd => ?_⟩
      · show (c :: (r.map fun s => s.cps.toList).flatten).length = (r.length + 1)
        rw [List.length_cons, h1]
      · rcases List.mem_cons.mp (show d ∈ c :: (r.map fun s => s.cps.toList).flatten from hd) with q | q
        · rw [q]; exact hc
        · exact h2 d q
  obtain ⟨k1, k2⟩ := key ss h
  refine ⟨?_, fun c hc => k2 c (by rw [← e]; exact hc)⟩
  rw [← k1, ← e]
  exact (Array.length_toList).symm
theorem ones_sum : ∀ {ss : List Str}, (∀ s ∈ ss, oneL s) → (ss.map (·.length)).sum = ss.length
  | [], _ => rfl
  | s :: r, h => by
    obtain ⟨c, rfl, hc⟩ := h s (List.mem_cons_self ..)
    have ih := ones_sum fun z hz => h z (List.mem_cons_of_mem _ hz)
    rw [List.map_cons, List.sum_cons, ih, List.length_cons]
    show 1 + r.length = r.length + 1
    omega
theorem cut_name {z : Str} {n : Nat} (hz : n ≤ z.length) (h : ∀ c ∈ z.cps.toList, letter c) (hn : 1 ≤ n ∧ n ≤ 6) : NameOk (cutS z none (some (n : Int))) := by
  have e : (cutS z none (some (n : Int))).cps.toList = z.cps.toList.take n := by
    unfold cutS
    rw [HT.sIx_none, HT.sIx_nat, Nat.min_eq_left hz, List.drop_zero, Nat.sub_zero, List.toList_toArray]
  have hl : (cutS z none (some (n : Int))).length = n := by
    have : (cutS z none (some (n : Int))).length = (cutS z none (some (n : Int))).cps.toList.length := (Array.length_toList).symm
    rw [this, e, List.length_take]
    have : z.cps.toList.length = z.length := Array.length_toList
    omega
  refine ⟨by rw [hl]; exact hn, fun c hc => ?_⟩
  rw [e] at hc
  exact h c (List.mem_of_mem_take hc)
theorem name_strOk {s : Str} (h : NameOk s) : PyData.strOk s = true := by
  unfold PyData.strOk
  rw [Array.all_eq_true_iff_forall_mem]
  intro c hc
  have := h.2 c (Array.mem_toList_iff.mpr hc)
  unfold letter at this
  exact decide_eq_true (by omega)
def sp_law_names (K : PySem.W.Frag) : Sp := fun vs H Q _ => ∃ n : Int, vs = [.int n] ∧ (0 ≤ n ∧ n < 2147483648) ∧
  ∀ (nm : List Str) p H', nm.length = 4 → (∀ x ∈ nm, NameOk x) → H p = none → Same H H' → H' p = some (.lst (nm.map V.str)) → Q (.ref p) H'
theorem ok_law_names (T : Top K mg) : FnOk P w K mg base CX0 1 T.a_law_names T.d_law_names ["_law_number"] (sp_law_names K) := by
  refine T.f_law_names.ok sc_law_names (fun vs H Q E h => ?_) (fun cdv A outer s H vs Q E hr h => ?_)
  · obtain ⟨n, rfl, _⟩ := h
    rfl
  obtain ⟨n, rfl, h⟩ := h
  refine ⟨_, (pss_cons (ps_set (i := 1) sc_law_names.nd rfl (.inr rfl) pe_str)
      (pss_cons (ps_set (i := 2) sc_law_names.nd rfl (.inr rfl) (pe_lc (own := [("_law_k", 8)]) (g := gName 8) (tt := tYes) (by rfl) sc_law_names.nd (pi_range1 (by rfl) T.z_range (pa_cons (pe_op op_add pe_int (pe_op op_mod (pv 0) pe_int)) pa_nil)) (blkOk_by (N := ["_law_number", "_law_letters", "_law_some", "_law_at_here", "_law_names_here", "_law_j", "_law_spots", "_law_word", "_law_k", "_law_spot"]) (sc := defScope s_law_names) (by decide +kernel)) (fun _ _ _ _ _ => (pg_name (i := 8) sc_law_names.nd rfl (.inl rfl))) (fun _ _ _ _ _ => pts_nil) (fun _ _ _ _ _ => (pe_op op_mod (pe_op op_fdiv (pv 0) (pe_op op_add (pv 8) pe_int)) pe_int))))
      (pss_cons (ps_set (i := 3) sc_law_names.nd rfl (.inr rfl) (pe_op op_mod (pe_op op_fdiv (pv 0) pe_int) (pe_callB (c_lenK K) (by rfl) T.z_len PySem.boot_len (pa_cons (pv 2) pa_nil))))
      (pss_cons (ps_set (i := 4) sc_law_names.nd rfl (.inl rfl) (pe_lst pa_nil))
      (pss_cons (ps_for PassesOwn.never rfl (pi_range1 (by rfl) T.z_range (pa_cons pe_int pa_nil)) (pg_name (i := 5) sc_law_names.nd rfl (.inr rfl))
      (pss_cons (ps_setLc (i := 6) (own := [("_law_k", 8)]) (g := gName 8) (tt := tYes) (by rfl) sc_law_names.nd rfl rfl (sw_true rfl rfl rfl (by decide +kernel)) (pi_range1 (by rfl) T.z_range (pa_cons (pe_callB (c_lenK K) (by rfl) T.z_len PySem.boot_len (pa_cons (pv 2) pa_nil)) pa_nil)) (blkOk_by (N := ["_law_number", "_law_letters", "_law_some", "_law_at_here", "_law_names_here", "_law_j", "_law_spots", "_law_word", "_law_k", "_law_spot"]) (sc := defScope s_law_names) (by decide +kernel)) (fun _ _ _ _ _ => (pg_name (i := 8) sc_law_names.nd rfl (.inl rfl))) (fun _ _ _ _ _ => pts_nil) (fun _ _ _ _ _ => (pe_op op_add (pe_ix (ix_listK K) (pv 2) (pv 8) (fun _ _ => rfl)) (pe_op op_mulI (pv 5) (pe_callTy c_intB (by rfl) T.z_int (by decide +kernel) (pa_cons (pe_cmpR op_eq (pv 8) (pv 3) (nomark _)) pa_nil))))))
      (pss_one (ps_expr (pe_bm PySem.F.plainAttrs_list PySem.F.slot_list_append PySem.F.type_list_append mt_append (pv 4) (pa_cons (p_join K pe_str (pe_lc (own := [("_law_spot", 9)]) (g := gName 9) (tt := tYes) (by rfl) sc_law_names.nd (pi_list (pv 6)) (blkOk_by (N := ["_law_number", "_law_letters", "_law_some", "_law_at_here", "_law_names_here", "_law_j", "_law_spots", "_law_word", "_law_k", "_law_spot"]) (sc := defScope s_law_names) (by decide +kernel)) (fun _ _ _ _ _ => (pg_name (i := 9) sc_law_names.nd rfl (.inl rfl))) (fun _ _ _ _ _ => pts_nil) (fun _ _ _ _ _ => (pe_ix ix_str (pv 1) (pe_op op_mod (pv 9) pe_int) (fun _ _ => rfl))))) pa_nil))))))
      (Evl.pss_cut (ps_if (pt_cmpR op_eq (pe_op op_mod (pe_op op_fdiv (pv 0) pe_int) pe_int) pe_int (nomark _)) (pss_cons (ps_set (i := 7) sc_law_names.nd rfl (.inr rfl) (p_join K pe_str (pe_lc (own := [("_law_k", 8)]) (g := gName 8) (tt := tYes) (by rfl) sc_law_names.nd (pi_range1 (by rfl) T.z_range (pa_cons pe_int pa_nil)) (blkOk_by (N := ["_law_number", "_law_letters", "_law_some", "_law_at_here", "_law_names_here", "_law_j", "_law_spots", "_law_word", "_law_k", "_law_spot"]) (sc := defScope s_law_names) (by decide +kernel)) (fun _ _ _ _ _ => (pg_name (i := 8) sc_law_names.nd rfl (.inl rfl))) (fun _ _ _ _ _ => pts_nil) (fun _ _ _ _ _ => (pe_ix ix_str (pv 1) (pe_op op_mod (pe_op op_fdiv (pv 0) (pe_op op_add (pv 8) pe_int)) pe_int) (fun _ _ => rfl))))))
      (pss_one (ps_setLc (i := 4) (own := [("_law_k", 8)]) (g := gName 8) (tt := tYes) (by rfl) sc_law_names.nd rfl rfl (sw_true rfl rfl rfl (by decide +kernel)) (pi_range1 (by rfl) T.z_range (pa_cons pe_int pa_nil)) (blkOk_by (N := ["_law_number", "_law_letters", "_law_some", "_law_at_here", "_law_names_here", "_law_j", "_law_spots", "_law_word", "_law_k", "_law_spot"]) (sc := defScope s_law_names) (by decide +kernel)) (fun _ _ _ _ _ => (pg_name (i := 8) sc_law_names.nd rfl (.inl rfl))) (fun _ _ _ _ _ => pts_nil) (fun _ _ _ _ _ => (pe_slice sl_str (pv 7) po_none (po_some (pe_op op_add (pv 8) pe_int))))))) pss_nil)
      (pss_one (ps_ret (pv 4))))))))), ?_⟩
  try dsimp only [cxOf, Cx.nox, Cx.wish]
  simp only [L2.start, List.map_cons, List.map_nil, List.length_cons, List.length_nil, Nat.reduceAdd, Nat.reduceSub, List.replicate_succ, List.replicate_zero, List.cons_append, List.nil_append]
  obtain ⟨hn, h⟩ := h
  walk_at "ws"
  refine lc_rx (lo := 0) (fun y => ∃ i : Int, y = .int i ∧ True) (by omega) (fun x => rfl) (fun i H' Q' hi _ q => ?_) (fun ys p H1 hl hP n1 s1 e1 => ?_)
  · rw [Int.zero_add]
    walk_at "ws"
    exact q _ ⟨_, rfl, True.intro⟩
  obtain ⟨xs, rfl, _⟩ := all_map (f := V.int) (R := fun _ => True) hP
  have hlx : xs.length = (1 + n % 6).toNat := by rw [← hl, List.length_map]
  have hlm : (xs.map V.int).length = xs.length := List.length_map ..
  walk_at "ws"
  rename_i p2 H2 n2 s2 e2
  have hat0 : 0 ≤ n / 64 % ((xs.map V.int).length : Int) := Int.emod_nonneg _ (by omega)
  generalize n / 64 % ((xs.map V.int).length : Int) = at0 at *
  refine for_r (fun i σ' G => ∃ (nm : List Str) (y5 y6 : Option V), σ' = [some (.int n), some (.str "abcdefghijklmnopqrstuvwxyz"), some (.ref p), some (.int at0), some (.ref p2), y5, y6, none, none, none] ∧ Same H1 G ∧ G p2 = some (.lst (nm.map V.str)) ∧ nm.length = i ∧ ∀ x ∈ nm, NameOk x) ⟨[], _, _, rfl, s2, e2, rfl, fun x h => (by cases h)⟩ (fun i σ' G hi q => ?_) (fun σ' G q => ?_)
  · obtain ⟨nm, y5, y6, rfl, sG, eG, hnm, hok⟩ := q
    walk_at "ws"
    refine lc_rx (lo := 0) (fun y => ∃ i : Int, y = .int i ∧ True) (by omega) (fun x => rfl) (fun k H' Q' hk sm q => ?_) (fun ys p3 G1 hl3 hP3 n3 s3 e3 => ?_)
    · rw [Int.zero_add]
      have hk2 : k < xs.length := by omega
      walk_at "ws"
      refine w_ixL ((sG.trans sm).seq (SqL.of e1)) (get_int hk2) ?_
      walk_at "ws"
      exact q _ ⟨_, rfl, True.intro⟩
    obtain ⟨zs, rfl, _⟩ := all_map (f := V.int) (R := fun _ => True) hP3
    have hlz : zs.length = xs.length := by
      rw [List.length_map] at hl3
      omega
    walk_at "ws"
    refine lc_lx (zs.map V.int) (fun y => ∃ s : Str, y = .str s ∧ oneL s) (SqL.of e3) (by rw [List.length_map]; omega) (fun x => rfl) (fun k x H' Q' hx sm q => ?_) (fun ys p4 G2 hl4 hP4 n4 s4 e4 => ?_)
    · obtain ⟨z, _, rfl⟩ := get_map hx
      walk_at "ws"
      obtain ⟨c, hc, lc⟩ := letters_at (z % 26) (by omega)
      refine w_ixS (by decide +kernel) hc ?_
      exact q _ ⟨_, rfl, c, rfl, lc⟩
    obtain ⟨ss, rfl, hss⟩ := all_map (f := V.str) (R := oneL) hP4
    have hls : ss.length = xs.length := by
      rw [List.length_map, List.length_map] at hl4
      omega
    have e0 : (Str.ofString "").length = 0 := by decide +kernel
    refine w_join (SqL.of e4) (by rw [ones_sum hss, e0]; omega) ?_
    obtain ⟨j1, j2⟩ := ones_join hss
    have eG2 : G2 p2 = some (.lst (nm.map V.str)) := s4 _ _ (s3 _ _ eG)
    walk_at "ws"
    refine ⟨nm ++ [Txt.join "" ss], _, _, rfl, same_mut ((sG.trans s3).trans s4) n2, ?_, by rw [List.length_append, hnm]; rfl, fun x hx => ?_⟩
    · rw [upd_same, List.map_append]
      rfl
    · rcases List.mem_append.mp hx with k | k
      · exact hok x k
      · rw [List.mem_singleton.mp k]
        exact ⟨by rw [j1]; omega, j2⟩
  obtain ⟨nm, y5, y6, rfl, sG, eG, hnm, hok⟩ := q
  walk_at "ws"
  have hnp : H p2 = none := s1.free n2
  refine w_cut (fun σ' G' => ∃ (nm : List Str) (q : Addr) (y7 : Option V), σ' = [some (.int n), some (.str "abcdefghijklmnopqrstuvwxyz"), some (.ref p), some (.int at0), some (.ref q), y5, y6, y7, none, none] ∧ Same H G' ∧ H q = none ∧ G' q = some (.lst (nm.map V.str)) ∧ nm.length = 4 ∧ ∀ x ∈ nm, NameOk x) ?_ ?_
  · walk_at "ws"
    · refine lc_rx (lo := 0) (fun y => ∃ s : Str, y = .str s ∧ oneL s) (by decide) (fun x => rfl) (fun k H' Q' hk sm q => ?_) (fun ys p4 G2 hl4 hP4 n4 s4 e4 => ?_)
      · have hk5 : k < 5 := hk
        rw [Int.zero_add]
        walk_at "ws"
        obtain ⟨c, hc, lc⟩ := letters_at (n / ((k : Int) + 3) % 26) (by omega)
        refine w_ixS (by decide +kernel) hc ?_
        exact q _ ⟨_, rfl, c, rfl, lc⟩
      obtain ⟨ss, rfl, hss⟩ := all_map (f := V.str) (R := oneL) hP4
      have hls : ss.length = 5 := by
        rw [List.length_map] at hl4
        exact hl4
      have e0 : (Str.ofString "").length = 0 := by decide +kernel
      refine w_join (SqL.of e4) (by rw [ones_sum hss, e0]; omega) ?_
      obtain ⟨j1, j2⟩ := ones_join hss
      walk_at "ws"
      refine lc_rx (lo := 0) (fun y => ∃ s : Str, y = .str s ∧ NameOk s) (by decide) (fun x => rfl) (fun k H' Q' hk sm q => ?_) (fun ys p5 G3 hl5 hP5 n5 s5 e5 => ?_)
      · have hk4 : k < 4 := hk
        rw [Int.zero_add]
        walk_at "ws"
        refine w_slS (by omega) ?_
        refine q _ ⟨_, rfl, ?_⟩
        exact cut_name (n := k + 1) (by omega) j2 (by omega)
      obtain ⟨ns, rfl, hns⟩ := all_map (f := V.str) (R := NameOk) hP5
      have hln : ns.length = 4 := by
        rw [List.length_map] at hl5
        exact hl5
      walk_at "ws"
      exact ⟨ns, p5, _, rfl, ((s1.trans sG).trans s4).trans s5, ((s1.trans sG).trans s4).free n5, e5, hln, hns⟩
    · exact ⟨nm, p2, _, rfl, s1.trans sG, hnp, eG, hnm, hok⟩
  rintro σ1 G1 ⟨nm, q, y7, rfl, sG1, nq, eq, hl, hok⟩
  walk_at "ws"
  exact h nm q G1 hl hok nq sG1 eq

def Bits (ns : List Int) : Prop := ∀ z ∈ ns, Builtin.Int.intBits z ≤ 1048576
def sp_law_at (K : PySem.W.Frag) : Sp := fun vs H Q _ => ∃ (a : Addr) (ns : List Int) (k : Int), vs = [.ref a, .int k] ∧ SqL K H a (ns.map V.int) ∧ Bits ns ∧ (0 ≤ k ∧ k ≤ 1000000) ∧ ∀ v : Int, Builtin.Int.intBits v ≤ 1048576 → Q (.int v) H
theorem ok_law_at (T : Top K mg) : FnOk P w K mg base CX0 1 T.a_law_at T.d_law_at ["_law_script", "_law_k"] (sp_law_at K) := by
  refine T.f_law_at.ok sc_law_at (fun vs H Q E h => ?_) (fun cdv A outer s H vs Q E hr h => ?_)
  · obtain ⟨a, ns, k, rfl, _⟩ := h
    rfl
  obtain ⟨a, ns, k, rfl, h⟩ := h
  refine ⟨_, (pss_cons (ps_if (pt_cmpR op_lt (pv 1) (pe_callB (c_lenK K) (by rfl) T.z_len PySem.boot_len (pa_cons (pv 0) pa_nil)) (nomark _)) (pss_one (ps_ret (pe_ix (ix_listK K) (pv 0) (pv 1) (fun _ _ => rfl)))) pss_nil)
      (pss_one (ps_ret pe_int))), ?_⟩
  try dsimp only [cxOf, Cx.nox, Cx.wish]
  simp only [L2.start, List.map_cons, List.map_nil, List.length_cons, List.length_nil, Nat.reduceAdd, Nat.reduceSub, List.replicate_succ, List.replicate_zero, List.cons_append, List.nil_append]
  obtain ⟨hS, hb, hk, h⟩ := h
  walk_at "ws"
  · rename_i hlt
    rw [List.length_map] at hlt
    obtain ⟨n, rfl⟩ := Int.eq_ofNat_of_zero_le hk.1
    have hn : n < ns.length := by omega
    refine w_ixL hS (get_int hn) ?_
    walk_at "ws"
    exact h _ (hb _ (List.getElem_mem hn))
  · exact h _ (by decide)
theorem use_at {a : Addr} {ns : List Int} {k : Int} {H : Hp} {Q : VK} {E : XK} (hS : SqL K H a (ns.map V.int)) (hb : Bits ns) (hk : 0 ≤ k ∧ k ≤ 1000000) (h : ∀ v : Int, Builtin.Int.intBits v ≤ 1048576 → Q (.int v) H) : sp_law_at K ([.ref a, .int k] ++ []) H Q E := ⟨a, ns, k, rfl, hS, hb, hk, h⟩
local macro_rules | `(tactic| walk_at "w1") => `(tactic| ((with_reducible apply use_at); (walk_at "sq"); assumption; omega; intro _ _))
/-- a drawn number -/
def Drawn (x : Int) : Prop := 0 ≤ x ∧ x < 2147483648
def sp_law_numbers (K : PySem.W.Frag) : Sp := fun vs H Q _ => ∃ (a : Addr) (ns : List Int) (k : Int), vs = [.ref a, .int k] ∧ SqL K H a (ns.map V.int) ∧ Bits ns ∧ (0 ≤ k ∧ k ≤ 100) ∧
  ∀ (xs : List Int) p H', xs.length ≤ 63 → (∀ x ∈ xs, Drawn x) → H p = none → Same H H' → H' p = some (.lst (xs.map V.int)) → Q (.ref p) H'
theorem ok_law_numbers (T : Top K mg) : FnOk P w K mg base CX0 2 T.a_law_numbers T.d_law_numbers ["_law_script", "_law_start"] (sp_law_numbers K) := by
  refine T.f_law_numbers.ok sc_law_numbers (fun vs H Q E h => ?_) (fun cdv A outer s H vs Q E hr h => ?_)
  · obtain ⟨a, ns, k, rfl, _⟩ := h
    rfl
  obtain ⟨a, ns, k, rfl, h⟩ := h
  refine ⟨_, (pss_cons (ps_set (i := 2) sc_law_numbers.nd rfl (.inr rfl) (pe_slice sl_list (pv 0) po_none (po_some pe_int)))
      (pss_one (ps_ret (pe_lc (own := [("_law_k", 3)]) (g := gName 3) (tt := tYes) (by rfl) sc_law_numbers.nd (pi_range2 (by rfl) T.z_range (pa_cons (pv 1) (pa_cons (pe_callB (c_lenK K) (by rfl) T.z_len PySem.boot_len (pa_cons (pv 2) pa_nil)) pa_nil))) (blkOk_by (N := ["_law_script", "_law_start", "_law_some", "_law_k"]) (sc := defScope s_law_numbers) (by decide +kernel)) (fun _ _ _ _ _ => (pg_name (i := 3) sc_law_numbers.nd rfl (.inl rfl))) (fun _ _ _ _ _ => pts_nil) (fun _ _ _ _ _ => (pe_call (ok_law_mixed T) (hr.mono (by decide)) (by rfl) T.g_law_mixed T.f_law_mixed.kp T.b_law_mixed .nil pass0 (pa_cons (pe_ix (ix_listK K) (pv 2) (pv 3) (fun _ _ => rfl)) (pa_cons (pv 3) pa_nil)))))))), ?_⟩
  try dsimp only [cxOf, Cx.nox, Cx.wish]
  simp only [L2.start, List.map_cons, List.map_nil, List.length_cons, List.length_nil, Nat.reduceAdd, Nat.reduceSub, List.replicate_succ, List.replicate_zero, List.cons_append, List.nil_append]
  obtain ⟨hS, hb, hk, h⟩ := h
  have hlm : (ns.map V.int).length = ns.length := List.length_map ..
  walk_at "ws"
  rename_i p1 H1 n1 s1 e1
  have e0 : cutV (ns.map V.int) none (some 63) = (ns.take 63).map V.int := by
    rw [show (63 : Int) = ((63 : Nat) : Int) from rfl, cut_upto, ← List.map_take]
  rw [e0] at e1
  rw [e0]
  have hl2 : (ns.take 63).length ≤ 63 := by rw [List.length_take]; omega
  have hlm2 : ((ns.take 63).map V.int).length = (ns.take 63).length := List.length_map ..
  have hb2 : Bits (ns.take 63) := fun z hz => hb z (List.mem_of_mem_take hz)
  generalize ns.take 63 = ms at *
  walk_at "ws"
  refine lc_rx (lo := k) (fun y => ∃ i : Int, y = .int i ∧ Drawn i) (by omega) (fun x => rfl) (fun i H' Q' hi sm q => ?_) (fun ys p H2 hl hP n2 s2 e2 => ?_)
  · obtain ⟨n, rfl⟩ := Int.eq_ofNat_of_zero_le hk.1
    have hn : n + i < ms.length := by omega
    have ek : ((n : Int) + (i : Int)) = ((n + i : Nat) : Int) := by omega
    rw [ek]
    have hbn := hb2 _ (List.getElem_mem hn)
    walk_at "ws"
    refine w_ixL (sm.seq (SqL.of e1)) (get_int hn) ?_
    walk_at "ws"
    rename_i v v0 v1
    exact q _ ⟨v, rfl, v0, v1⟩
  obtain ⟨xs, rfl, hx⟩ := all_map (f := V.int) (R := Drawn) hP
  have hlx : xs.length = ((ms.map V.int).length - k).toNat := by
    rw [← hl, List.length_map]
  exact h xs p H2 (by omega) hx (s1.free n2) (s1.trans s2) e2
/-- an in row of some names -/
def inRow (nm : List Str) (r : Row) : Prop := ∃ x k, r = .inn x k ∧ x ∈ nm ∧ k < 64
theorem get_str {ns : List Str} {i : Int} (h : 0 ≤ i ∧ i < ns.length) : ∃ x, atI (ns.map V.str) i = some (.str x) ∧ x ∈ ns := by
  obtain ⟨n, rfl⟩ := Int.eq_ofNat_of_zero_le h.1
  have hn : n < ns.length := by omega
  exact ⟨ns[n], atI_nat (by rw [List.getElem?_map, List.getElem?_eq_getElem hn]; rfl), List.getElem_mem hn⟩
/-- a row with its wires turned -/
def turnR : Row → Row
  | .bin o a b => .bin o b a
  | r => r
def sp_law_turned (K : PySem.W.Frag) : Sp := fun vs H Q _ => ∃ (p : Addr) (r : Row), vs = [.ref p] ∧ RowAt H p r ∧ ∀ q H', Same H H' → RowAt H' q (turnR r) → Q (.ref q) H'
theorem ok_law_turned (T : Top K mg) : FnOk P w K mg base CX0 1 T.a_law_turned T.d_law_turned ["_law_row"] (sp_law_turned K) := by
  refine T.f_law_turned.ok sc_law_turned (fun vs H Q E h => ?_) (fun cdv A outer s H vs Q E hr h => ?_)
  · obtain ⟨p, r, rfl, _⟩ := h
    rfl
  obtain ⟨p, r, rfl, h⟩ := h
  refine ⟨_, (pss_cons (ps_if (pt_cmpR (op_inK K) (pe_ix (ix_tupK K) (pv 0) pe_int (fun _ _ => rfl)) (pe_lst (pa_cons pe_str (pa_cons pe_str (pa_cons pe_str pa_nil)))) (by rfl)) (pss_one (ps_ret (pe_tup (pa_cons (pe_ix (ix_tupK K) (pv 0) pe_int (fun _ _ => rfl)) (pa_cons (pe_ix (ix_tupK K) (pv 0) pe_int (fun _ _ => rfl)) (pa_cons (pe_ix (ix_tupK K) (pv 0) pe_int (fun _ _ => rfl)) pa_nil)))))) pss_nil)
      (pss_one (ps_ret (pv 0)))), ?_⟩
  try dsimp only [cxOf, Cx.nox, Cx.wish]
  simp only [L2.start, List.map_cons, List.map_nil, List.length_cons, List.length_nil, Nat.reduceAdd, Nat.reduceSub, List.replicate_succ, List.replicate_zero, List.cons_append, List.nil_append]
  obtain ⟨hp, h⟩ := h
  unfold RowAt at hp
  have hs : H p = some (.tup (rowV r)) := hp
  cases r with
  | bin o a b =>
    cases o <;> (walk_at "ws"; rename_i p1 H1 n1 s1 e1 p2 H2 n2 s2 e2; exact h p2 H2 (s1.trans s2) e2)
  | fix b => walk_at "ws"; rename_i p1 H1 n1 s1 e1; exact h p H1 s1 (s1 _ _ hs)
  | inn n k => walk_at "ws"; rename_i p1 H1 n1 s1 e1; exact h p H1 s1 (s1 _ _ hs)
  | inv a => walk_at "ws"; rename_i p1 H1 n1 s1 e1; exact h p H1 s1 (s1 _ _ hs)
  | lat a => walk_at "ws"; rename_i p1 H1 n1 s1 e1; exact h p H1 s1 (s1 _ _ hs)
theorem bop_at (i : Int) (h : 0 ≤ i ∧ i < 3) : ∃ o, atI [V.str "and", V.str "or", V.str "xor"] i = some (.str (bopS o)) := by
  rcases (show i = 0 ∨ i = 1 ∨ i = 2 by omega) with e | e | e <;> rw [e]
  · exact ⟨.and, rfl⟩
  · exact ⟨.or, rfl⟩
  · exact ⟨.xor, rfl⟩
def sp_law_gate (K : PySem.W.Frag) : Sp := fun vs H Q _ => ∃ n x y : Int, vs = [.int n, .int x, .int y] ∧ 0 ≤ x ∧ 0 ≤ y ∧
  ∀ r p H', (r = .inv x.toNat ∨ ∃ o, r = .bin o x.toNat y.toNat) → Same H H' → RowAt H' p r → Q (.ref p) H'
theorem ok_law_gate (T : Top K mg) : FnOk P w K mg base CX0 1 T.a_law_gate T.d_law_gate ["_law_number", "_law_one", "_law_two"] (sp_law_gate K) := by
  refine T.f_law_gate.ok sc_law_gate (fun vs H Q E h => ?_) (fun cdv A outer s H vs Q E hr h => ?_)
  · obtain ⟨n, x, y, rfl, _⟩ := h
    rfl
  obtain ⟨n, x, y, rfl, h⟩ := h
  refine ⟨_, (pss_cons (ps_if (pt_cmpR op_lt (pe_op op_mod (pv 0) pe_int) pe_int (nomark _)) (pss_one (ps_ret (pe_tup (pa_cons pe_str (pa_cons (pv 1) pa_nil))))) pss_nil)
      (pss_one (ps_ret (pe_tup (pa_cons (pe_ix (ix_listK K) (pe_lst (pa_cons pe_str (pa_cons pe_str (pa_cons pe_str pa_nil)))) (pe_op op_mod (pe_op op_mod (pv 0) pe_int) pe_int) (fun _ _ => rfl)) (pa_cons (pv 1) (pa_cons (pv 2) pa_nil))))))), ?_⟩
  try dsimp only [cxOf, Cx.nox, Cx.wish]
  simp only [L2.start, List.map_cons, List.map_nil, List.length_cons, List.length_nil, Nat.reduceAdd, Nat.reduceSub, List.replicate_succ, List.replicate_zero, List.cons_append, List.nil_append]
  obtain ⟨hx, hy, h⟩ := h
  obtain ⟨a, rfl⟩ := Int.eq_ofNat_of_zero_le hx
  obtain ⟨b, rfl⟩ := Int.eq_ofNat_of_zero_le hy
  walk_at "ws"
  · rename_i hlt p1 H1 n1 s1 e1
    exact h (.inv a) p1 H1 (.inl rfl) s1 e1
  · rename_i hlt p1 H1 n1 s1 e1
    obtain ⟨o, ho⟩ := bop_at (n % 9 % 3) (by omega)
    refine w_ixL (SqL.of e1) ho ?_
    walk_at "ws"
    rename_i p2 H2 n2 s2 e2
    exact h (.bin o a b) p2 H2 (.inr ⟨o, rfl⟩) (s1.trans s2) e2

theorem RowOk.le {N : Str → Prop} {i j : Nat} {r : Row} (h : RowOk N i r) (le : i ≤ j) : RowOk N j r := by
  cases r with
  | fix b => exact h
  | inn n k => exact h
  | inv a => exact Nat.lt_of_lt_of_le (show a < i from h) le
  | bin o a b => exact ⟨Nat.lt_of_lt_of_le h.1 le, Nat.lt_of_lt_of_le h.2 le⟩
  | lat a => exact Nat.lt_of_lt_of_le (show a < i from h) le
theorem RowOk.turn {N : Str → Prop} {i : Nat} {r : Row} (h : RowOk N i r) : RowOk N i (turnR r) := by
  cases r with
  | bin o a b => exact ⟨h.2, h.1⟩
  | _ => exact h
theorem noLat_turn {r : Row} (h : noLat r) : noLat (turnR r) := by
  cases r with
  | _ => exact h
theorem row_at {ps : List Addr} {i : Nat} (h : i < ps.length) : atI (ps.map V.ref) (i : Int) = some (.ref ps[i]) := atI_nat (by rw [List.getElem?_map, List.getElem?_eq_getElem h]; rfl)
def sp_law_rows (K : PySem.W.Frag) : Sp := fun vs H Q _ => ∃ (a c : Addr) (xs : List Int) (is : List Row) (near : Int) (late : Bool) (nm : List Str), vs = [.ref a, .ref c, .int near, .bl late] ∧ SqL K H a (xs.map V.int) ∧ (∀ x ∈ xs, Drawn x) ∧ xs.length ≤ 100 ∧
  RowsL K H c is ∧ (∀ r ∈ is, inRow nm r) ∧ (1 ≤ is.length ∧ is.length ≤ 1000) ∧ (near = 0 ∨ near = 1) ∧
  ∀ (rs : List Row) p H', rs.length = xs.length → RowsOk (· ∈ nm) rs → (late = false → NoLats rs) → H p = none → Same H H' → RowsM H' p rs → Q (.ref p) H'
theorem ok_law_rows (T : Top K mg) : FnOk P w K mg base CX0 2 T.a_law_rows T.d_law_rows ["_law_numbers_here", "_law_ins", "_law_near", "_law_late"] (sp_law_rows K) := by
  refine T.f_law_rows.ok sc_law_rows (fun vs H Q E h => ?_) (fun cdv A outer s H vs Q E hr h => ?_)
  · obtain ⟨a, c, xs, is, near, late, nm, rfl, _⟩ := h
    rfl
  obtain ⟨a, c, xs, is, near, late, nm, rfl, h⟩ := h
  refine ⟨_, (pss_cons (ps_set (i := 4) sc_law_rows.nd rfl (.inl rfl) (pe_lst pa_nil))
      (pss_cons (ps_for PassesOwn.never rfl (pi_list (pv 0)) (pg_name (i := 5) sc_law_rows.nd rfl (.inl rfl))
      (pss_cons (ps_set (i := 6) sc_law_rows.nd rfl (.inl rfl) (pe_callB (c_lenK K) (by rfl) T.z_len PySem.boot_len (pa_cons (pv 4) pa_nil)))
      (pss_cons (ps_set (i := 7) sc_law_rows.nd rfl (.inl rfl) (pe_op op_fdiv (pv 5) pe_int))
      (pss_one (ps_if (PW.pt (pw_or (pt_cmpR op_lt (pv 6) pe_int (nomark _)) (pw_or1 (pt_cmpR op_eq (pe_op op_mod (pv 5) pe_int) pe_int (nomark _))))) (pss_one (ps_expr (pe_bm PySem.F.plainAttrs_list PySem.F.slot_list_append PySem.F.type_list_append mt_append (pv 4) (pa_cons (pe_ix (ix_listK K) (pv 1) (pe_op op_mod (pv 7) (pe_callB (c_lenK K) (by rfl) T.z_len PySem.boot_len (pa_cons (pv 1) pa_nil))) (fun _ _ => rfl)) pa_nil)))) (pss_one (ps_if (PW.pt (pw_and (pt_cmpR op_eq (pe_op op_mod (pv 5) pe_int) pe_int (nomark _)) (pw_and1 (pt_cmpR op_gt (pe_op op_mod (pv 7) pe_int) pe_int (nomark _))))) (pss_one (ps_expr (pe_bm PySem.F.plainAttrs_list PySem.F.slot_list_append PySem.F.type_list_append mt_append (pv 4) (pa_cons (pe_tup (pa_cons pe_str (pa_cons (pe_op op_mod (pe_op op_fdiv (pv 7) pe_int) pe_int) pa_nil))) pa_nil)))) (pss_one (ps_if (PW.pt (pw_and (pt_cmpR op_eq (pe_op op_mod (pv 5) pe_int) pe_int (nomark _)) (pw_and1 (pt_val (pv 3))))) (pss_one (ps_expr (pe_bm PySem.F.plainAttrs_list PySem.F.slot_list_append PySem.F.type_list_append mt_append (pv 4) (pa_cons (pe_tup (pa_cons pe_str (pa_cons (pe_op op_mod (pe_op op_fdiv (pv 7) pe_int) (pv 6)) pa_nil))) pa_nil)))) (pss_one (ps_if (pt_cmpR op_eq (pe_op op_mod (pv 5) pe_int) pe_int (nomark _)) (pss_one (ps_expr (pe_bm PySem.F.plainAttrs_list PySem.F.slot_list_append PySem.F.type_list_append mt_append (pv 4) (pa_cons (pe_call (ok_law_turned T) (hr.mono (by decide)) (by rfl) T.g_law_turned T.f_law_turned.kp T.b_law_turned .nil pass0 (pa_cons (pe_ix (ix_listK K) (pv 4) (pe_op op_mod (pe_op op_fdiv (pv 7) pe_int) (pv 6)) (fun _ _ => rfl)) pa_nil)) pa_nil)))) (pss_cons (ps_set (i := 8) sc_law_rows.nd rfl (.inl rfl) (pe_ix (ix_listK K) (pe_lst (pa_cons (pv 6) (pa_cons (pe_callB (c_min2 rfl) (by rfl) T.z_min (by decide +kernel) (pa_cons (pv 6) (pa_cons pe_int pa_nil))) pa_nil))) (pv 2) (fun _ _ => rfl)))
      (pss_one (ps_expr (pe_bm PySem.F.plainAttrs_list PySem.F.slot_list_append PySem.F.type_list_append mt_append (pv 4) (pa_cons (pe_call (ok_law_gate T) (hr.mono (by decide)) (by rfl) T.g_law_gate T.f_law_gate.kp T.b_law_gate .nil pass0 (pa_cons (pv 5) (pa_cons (pe_op op_sub (pe_op op_sub (pv 6) pe_int) (pe_op op_mod (pe_op op_fdiv (pv 5) pe_int) (pv 8))) (pa_cons (pe_op op_sub (pe_op op_sub (pv 6) pe_int) (pe_op op_mod (pv 7) (pv 8))) pa_nil)))) pa_nil))))))))))))))))
      (pss_one (ps_ret (pv 4))))), ?_⟩
  try dsimp only [cxOf, Cx.nox, Cx.wish]
  simp only [L2.start, List.map_cons, List.map_nil, List.length_cons, List.length_nil, Nat.reduceAdd, Nat.reduceSub, List.replicate_succ, List.replicate_zero, List.cons_append, List.nil_append]
  obtain ⟨hS, hx, hxl, ⟨qs, hI, hIA⟩, hin, hil, hnear, h⟩ := h
  walk_at "ws"
  rename_i o H1 n1 s1 e1
  refine for_l (xs.map V.int) (fun i σ' G => ∃ (rs : List Row) (y5 y6 y7 y8 : Option V), σ' = [some (.ref a), some (.ref c), some (.int near), some (.bl late), some (.ref o), y5, y6, y7, y8] ∧ Same H G ∧ RowsM G o rs ∧ rs.length = i ∧ RowsOk (· ∈ nm) rs ∧ (late = false → NoLats rs))
    ⟨[], _, _, _, _, rfl, s1, ⟨[], e1, A2.nil⟩, rfl, fun i r hr => (by cases hr), fun _ r hr => (by cases hr)⟩ (fun i σ' G _ q => ?_) (fun i x σ' G hxi q => ?_) (fun σ' G q => ?_)
  · obtain ⟨rs, y5, y6, y7, y8, rfl, sG, _⟩ := q
    exact sG.seq hS
  · obtain ⟨rs, y5, y6, y7, y8, rfl, sG, ⟨ps, e, hA⟩, hl, hok, hnl⟩ := q
    obtain ⟨x, hx', rfl⟩ := get_map hxi
    have hi := (List.getElem?_eq_some_iff.mp hx').1
    have hd : Drawn x := hx x (List.mem_of_getElem? hx')
    unfold Drawn at hd
    have hpl := hA.1
    have hql := hIA.1
    have hpm : (ps.map V.ref).length = i := by rw [List.length_map]; omega
    have hqm : (qs.map V.ref).length = is.length := by rw [List.length_map]; omega
    have hput : ∀ (r : Row) (p : Addr) (G' : Hp), Same G G' → RowAt G' p r → RowOk (· ∈ nm) i r → (late = false → noLat r) → ∀ z5 z6 z7 z8 : Option V,
        ∃ (rs : List Row) (y5 y6 y7 y8 : Option V), [some (V.ref a), some (.ref c), some (.int near), some (.bl late), some (.ref o), z5, z6, z7, z8] = [some (.ref a), some (.ref c), some (.int near), some (.bl late), some (.ref o), y5, y6, y7, y8] ∧ Same H (upd G' o (.lst (ps.map V.ref ++ [.ref p]))) ∧ RowsM (upd G' o (.lst (ps.map V.ref ++ [.ref p]))) o rs ∧ rs.length = i + 1 ∧ RowsOk (· ∈ nm) rs ∧ (late = false → NoLats rs) := fun r p G' sm hp ho hn z5 z6 z7 z8 =>
      ⟨rs ++ [r], _, _, _, _, rfl, same_mut (sG.trans sm) n1, RowsM.push (sm _ _ e) (hA.mono fun _ _ e => sm _ _ e) hp, by rw [List.length_append, hl]; rfl, hok.snoc (by rw [hl]; exact ho), fun z => (hnl z).snoc (hn z)⟩
    have hfetch : ∀ z : Int, 0 ≤ z ∧ z < is.length → ∃ (q : Addr) (r : Row), atI (qs.map V.ref) z = some (.ref q) ∧ RowAt G q r ∧ inRow nm r := fun z hz => by
      obtain ⟨n, rfl⟩ := Int.eq_ofNat_of_zero_le hz.1
      have hn : n < qs.length := by omega
      obtain ⟨r, hr1, hr2⟩ := hIA.get (List.getElem?_eq_getElem hn)
      exact ⟨qs[n], r, row_at hn, sG _ _ hr2, hin r (List.mem_of_getElem? hr1)⟩
    have hinok : ∀ r, inRow nm r → RowOk (· ∈ nm) i r ∧ noLat r := fun r hr => by
      obtain ⟨x, k, rfl, h1, h2⟩ := hr
      exact ⟨⟨h1, h2⟩, True.intro⟩
    walk_at "ws"
    · obtain ⟨q, r, f1, f2, f3⟩ := hfetch (x / 576 % ((qs.map V.ref).length : Int)) (by rw [hqm]; exact ⟨Int.emod_nonneg _ (by omega), Int.emod_lt_of_pos _ (by omega)⟩)
      refine w_ixL (sG.seq hI) f1 ?_
      walk_at "ws"
      exact hput r q G (Same.refl _) f2 (hinok r f3).1 (fun _ => (hinok r f3).2) _ _ _ _
    · obtain ⟨q, r, f1, f2, f3⟩ := hfetch (x / 576 % ((qs.map V.ref).length : Int)) (by rw [hqm]; exact ⟨Int.emod_nonneg _ (by omega), Int.emod_lt_of_pos _ (by omega)⟩)
      refine w_ixL (sG.seq hI) f1 ?_
      walk_at "ws"
      exact hput r q G (Same.refl _) f2 (hinok r f3).1 (fun _ => (hinok r f3).2) _ _ _ _
    · rename_i p2 H2 n2 s2 e2
      exact hput (.fix (x / 576 / 3 % 2)) p2 H2 s2 e2 (by show _ ∨ _; omega) (fun _ => True.intro) _ _ _ _
    · rename_i hlate hx9 p2 H2 n2 s2 e2
      have w0 : 0 ≤ x / 576 / 3 % ((ps.map V.ref).length : Int) := Int.emod_nonneg _ (by omega)
      have w1 : x / 576 / 3 % ((ps.map V.ref).length : Int) < ((ps.map V.ref).length : Int) := Int.emod_lt_of_pos _ (by omega)
      generalize x / 576 / 3 % ((ps.map V.ref).length : Int) = z at *
      obtain ⟨zn, rfl⟩ := Int.eq_ofNat_of_zero_le w0
      refine hput (.lat zn) p2 H2 s2 e2 (show zn < i by omega) (fun z => ?_) _ _ _ _
      simp_all
    · have w0 : 0 ≤ x / 576 / 3 % ((ps.map V.ref).length : Int) := Int.emod_nonneg _ (by omega)
      have w1 : x / 576 / 3 % ((ps.map V.ref).length : Int) < ((ps.map V.ref).length : Int) := Int.emod_lt_of_pos _ (by omega)
      generalize x / 576 / 3 % ((ps.map V.ref).length : Int) = z at *
      obtain ⟨zn, rfl⟩ := Int.eq_ofNat_of_zero_le w0
      have hzn : zn < ps.length := by omega
      obtain ⟨r, hr1, hr2⟩ := hA.get (List.getElem?_eq_getElem hzn)
      refine w_ixL (SqL.of e) (row_at hzn) ?_
      walk_at "ws"
      refine ⟨_, r, rfl, hr2, fun q G2 s2 e2 => ?_⟩
      walk_at "ws"
      have hr3 := hok zn r hr1
      exact hput (turnR r) q G2 s2 e2 (hr3.le (by omega)).turn (fun z => noLat_turn (hnl z r (List.mem_of_getElem? hr1))) _ _ _ _
    · rename_i p2 H2 n2 s2 e2
      have hr0 : ∃ rc : Int, atI [V.int ((ps.map V.ref).length : Int), V.int (if 3 < ((ps.map V.ref).length : Int) then 3 else ((ps.map V.ref).length : Int))] near = some (.int rc) ∧ 1 ≤ rc ∧ rc ≤ i := by
        rcases hnear with rfl | rfl
        · exact ⟨_, rfl, by omega, by omega⟩
        · refine ⟨_, rfl, ?_, ?_⟩ <;> split <;> omega
      obtain ⟨rc, g1, g2, g3⟩ := hr0
      refine w_ixL (SqL.of e2) g1 ?_
      walk_at "ws"
      have m1 : 0 ≤ x / 9 % rc := Int.emod_nonneg _ (by omega)
      have m2 : x / 9 % rc < rc := Int.emod_lt_of_pos _ (by omega)
      have m3 : 0 ≤ x / 576 % rc := Int.emod_nonneg _ (by omega)
      have m4 : x / 576 % rc < rc := Int.emod_lt_of_pos _ (by omega)
      refine ⟨_, _, _, rfl, by omega, by omega, fun r q G2 hr3 s3 e3 => ?_⟩
      walk_at "ws"
      refine hput r q G2 (s2.trans s3) e3 ?_ (fun _ => ?_) _ _ _ _
      · rcases hr3 with rfl | ⟨o', rfl⟩
        · show (_ : Nat) < _
          omega
        · exact ⟨by omega, by omega⟩
      · rcases hr3 with rfl | ⟨o', rfl⟩ <;> exact True.intro
  · obtain ⟨rs, y5, y6, y7, y8, rfl, sG, hM, hl, hok, hnl⟩ := q
    walk_at "ws"
    exact h rs o G (by rw [hl, List.length_map]) hok hnl n1 sG hM

theorem tot_and {x y : Int} (hx : is01 x) (hy : is01 y) : (x + y) / 2 = bopI .and x y := by
  rcases hx with rfl | rfl <;> rcases hy with rfl | rfl <;> decide
theorem tot_or {x y : Int} (hx : is01 x) (hy : is01 y) : (if 1 < x + y then 1 else x + y) = bopI .or x y := by
  rcases hx with rfl | rfl <;> rcases hy with rfl | rfl <;> decide
def sp_law_bit (K : PySem.W.Frag) : Sp := fun vs H Q _ => ∃ (p b d : Addr) (r : Row) (bs : List Int) (ws : List (Str × Int)) (N : Str → Prop), vs = [.ref p, .ref b, .ref d] ∧ RowAt H p r ∧ SqL K H b (bs.map V.int) ∧ H d = some (.dK (wkv ws)) ∧
  RowOk N bs.length r ∧ noLat r ∧ Has N ws ∧ All01 bs ∧ Q (.int (gateI ws bs r)) H
theorem ok_law_bit (T : Top K mg) : FnOk P w K mg base CX0 1 T.a_law_bit T.d_law_bit ["_law_row", "_law_bits_here", "_law_words"] (sp_law_bit K) := by
  refine T.f_law_bit.ok sc_law_bit (fun vs H Q E h => ?_) (fun cdv A outer s H vs Q E hr h => ?_)
  · obtain ⟨p, b, d, r, bs, ws, N, rfl, _⟩ := h
    rfl
  obtain ⟨p, b, d, r, bs, ws, N, rfl, h⟩ := h
  refine ⟨_, (pss_cons (ps_if (pt_cmpR op_eq (pe_ix (ix_tupK K) (pv 0) pe_int (fun _ _ => rfl)) pe_str (nomark _)) (pss_one (ps_ret (pe_ix (ix_tupK K) (pv 0) pe_int (fun _ _ => rfl)))) pss_nil)
      (pss_cons (ps_if (pt_cmpR op_eq (pe_ix (ix_tupK K) (pv 0) pe_int (fun _ _ => rfl)) pe_str (nomark _)) (pss_one (ps_ret (pe_op op_mod (pe_op op_divP (pe_dget (hu_of hr) (pv 2) (pe_ix (ix_tupK K) (pv 0) pe_int (fun _ _ => rfl)) (fun _ _ => rfl)) (pe_op op_shlK pe_int (pe_ix (ix_tupK K) (pv 0) pe_int (fun _ _ => rfl)))) pe_int))) pss_nil)
      (pss_cons (ps_if (pt_cmpR op_eq (pe_ix (ix_tupK K) (pv 0) pe_int (fun _ _ => rfl)) pe_str (nomark _)) (pss_one (ps_ret (pe_op op_sub pe_int (pe_ix (ix_listK K) (pv 1) (pe_ix (ix_tupK K) (pv 0) pe_int (fun _ _ => rfl)) (fun _ _ => rfl))))) pss_nil)
      (pss_cons (ps_set (i := 3) sc_law_bit.nd rfl (.inl rfl) (pe_op op_add (pe_ix (ix_listK K) (pv 1) (pe_ix (ix_tupK K) (pv 0) pe_int (fun _ _ => rfl)) (fun _ _ => rfl)) (pe_ix (ix_listK K) (pv 1) (pe_ix (ix_tupK K) (pv 0) pe_int (fun _ _ => rfl)) (fun _ _ => rfl))))
      (pss_cons (ps_if (pt_cmpR op_eq (pe_ix (ix_tupK K) (pv 0) pe_int (fun _ _ => rfl)) pe_str (nomark _)) (pss_one (ps_ret (pe_op op_fdiv (pv 3) pe_int))) pss_nil)
      (pss_cons (ps_if (pt_cmpR op_eq (pe_ix (ix_tupK K) (pv 0) pe_int (fun _ _ => rfl)) pe_str (nomark _)) (pss_one (ps_ret (pe_callB (c_min2 rfl) (by rfl) T.z_min (by decide +kernel) (pa_cons (pv 3) (pa_cons pe_int pa_nil))))) pss_nil)
      (pss_one (ps_ret (pe_op op_mod (pv 3) pe_int))))))))), ?_⟩
  try dsimp only [cxOf, Cx.nox, Cx.wish]
  simp only [L2.start, List.map_cons, List.map_nil, List.length_cons, List.length_nil, Nat.reduceAdd, Nat.reduceSub, List.replicate_succ, List.replicate_zero, List.cons_append, List.nil_append]
  obtain ⟨hp, hb, hd, ok, nl, has, h01, h⟩ := h
  unfold RowAt at hp
  cases r with
  | fix x =>
    walk_at "ws"
    exact h
  | inn n k =>
    obtain ⟨v, hv⟩ := has n ok.1
    have hk : k < 64 := ok.2
    have hv2 : valV (wkv ws) (Sum.inr n) = some (.int v) := by rw [valV_wkv, hv]; rfl
    have e : gateI ws bs (.inn n k) = v / 2 ^ k % 2 := by
      show (lookW ws n).getD 0 / 2 ^ k % 2 = v / 2 ^ k % 2
      rw [hv]
      rfl
    rw [e] at h
    walk_at "ws"
    exact h
  | inv a =>
    walk_at "ws"
    refine w_ixL hb (bit_get ok) ?_
    walk_at "ws"
    exact h
  | bin o x y =>
    have e1 := bit_get ok.1
    have e2 := bit_get ok.2
    have h1 := all01_get h01 x
    have h2 := all01_get h01 y
    cases o with
    | and =>
      walk_at "ws"
      refine w_ixL hb e1 ?_
      walk_at "ws"
      refine w_ixL hb e2 ?_
      walk_at "ws"
      rw [tot_and h1 h2]
      exact h
    | or =>
      walk_at "ws"
      refine w_ixL hb e1 ?_
      walk_at "ws"
      refine w_ixL hb e2 ?_
      walk_at "ws"
      have e := tot_or h1 h2
      rw [e]
      exact h
    | xor =>
      walk_at "ws"
      refine w_ixL hb e1 ?_
      walk_at "ws"
      refine w_ixL hb e2 ?_
      walk_at "ws"
      exact h
  | lat a => exact nl.elim

def sp_law_bits (K : PySem.W.Frag) : Sp := fun vs H Q _ => ∃ (a d : Addr) (rs : List Row) (ws : List (Str × Int)) (N : Str → Prop), vs = [.ref a, .ref d] ∧ RowsL K H a rs ∧ H d = some (.dK (wkv ws)) ∧
  RowsOk N rs ∧ NoLats rs ∧ Has N ws ∧ rs.length ≤ 60000 ∧ ∀ p H', H p = none → Same H H' → H' p = some (.lst ((toldL ws rs).map V.int)) → Q (.ref p) H'
theorem ok_law_bits (T : Top K mg) : FnOk P w K mg base CX0 2 T.a_law_bits T.d_law_bits ["_law_rows_here", "_law_words"] (sp_law_bits K) := by
  refine T.f_law_bits.ok sc_law_bits (fun vs H Q E h => ?_) (fun cdv A outer s H vs Q E hr h => ?_)
  · obtain ⟨a, d, rs, ws, N, rfl, _⟩ := h
    rfl
  obtain ⟨a, d, rs, ws, N, rfl, h⟩ := h
  refine ⟨_, (pss_cons (ps_set (i := 2) sc_law_bits.nd rfl (.inl rfl) (pe_lst pa_nil))
      (pss_cons (ps_for PassesOwn.never rfl (pi_list (pv 0)) (pg_name (i := 3) sc_law_bits.nd rfl (.inl rfl))
      (pss_one (ps_expr (pe_bm PySem.F.plainAttrs_list PySem.F.slot_list_append PySem.F.type_list_append mt_append (pv 2) (pa_cons (pe_call (ok_law_bit T) (hr.mono (by decide)) (by rfl) T.g_law_bit T.f_law_bit.kp T.b_law_bit .nil pass0 (pa_cons (pv 3) (pa_cons (pv 2) (pa_cons (pv 1) pa_nil)))) pa_nil)))))
      (pss_one (ps_ret (pv 2))))), ?_⟩
  try dsimp only [cxOf, Cx.nox, Cx.wish]
  simp only [L2.start, List.map_cons, List.map_nil, List.length_cons, List.length_nil, Nat.reduceAdd, Nat.reduceSub, List.replicate_succ, List.replicate_zero, List.cons_append, List.nil_append]
  obtain ⟨⟨ps, hS, hA⟩, hd, ok, nl, has, hlen, h⟩ := h
  walk_at "ws"
  rename_i o H1 n1 s1 e1
  refine for_l (ps.map V.ref) (fun i σ' H' => ∃ y, σ' = [some (.ref a), some (.ref d), some (.ref o), y] ∧ Same H H' ∧ H' o = some (.lst ((toldL ws (rs.take i)).map V.int))) ⟨_, rfl, s1, e1⟩ (fun i σ' H' _ q => ?_) (fun i x σ' H' hx q => ?_) (fun σ' H' q => ?_)
  · obtain ⟨y, rfl, sm, e⟩ := q
    exact sm.seq hS
  · obtain ⟨y, rfl, sm, e⟩ := q
    obtain ⟨p, hp, rfl⟩ := get_map hx
    obtain ⟨r, hr', hpr⟩ := hA.get hp
    have hi := (List.getElem?_eq_some_iff.mp hr').1
    have hl : (toldL ws (rs.take i)).length = i := by rw [toldL_len, List.length_take]; omega
    walk_at "ws"
    refine ⟨p, o, d, r, _, ws, N, rfl, sm _ _ hpr, SqL.of e, sm _ _ hd, (by rw [hl]; exact ok i r hr'), nl r (List.mem_of_getElem? hr'), has, toldL_01 ws ok i, ?_⟩
    walk_at "ws"
    refine ⟨_, rfl, same_mut sm n1, ?_⟩
    rw [upd_same, take_snoc hr', toldL_snoc, List.map_append]
    rfl
  · obtain ⟨y, rfl, sm, e⟩ := q
    rw [List.length_map, hA.1, List.take_of_length_le (Nat.le_refl _)] at e
    walk_at "ws"
    exact h o H' n1 sm e

/-! rows kept apart -/
def KeptAt (K : PySem.W.Frag) (H : Hp) (k r d : Addr) (ks : List Row) : Prop := (∃ C dx, H k = some (.ins C dx [("rows", .ref r), ("places", .ref d)]) ∧ IsC K "Kept" C) ∧ RowsM H r ks ∧ H d = some (.dT (placesK ks))
theorem KeptAt.same {H H' : Hp} {k r d : Addr} {ks : List Row} (s : Same H H') (h : KeptAt K H k r d ks) : KeptAt K H' k r d ks := by
  obtain ⟨⟨C, dx, h1, h2⟩, h3, h4⟩ := h
  exact ⟨⟨C, dx, s _ _ h1, h2⟩, h3.same s, s _ _ h4⟩
def sp_Kept__init (K : PySem.W.Frag) : Sp := fun vs H Q _ => ∃ (s C dx : Addr), vs = [.ref s] ∧ H s = some (.ins C dx []) ∧ IsC K "Kept" C ∧ ∀ (r d : Addr) (H1 : Hp), H r = none → H d = none → KeptAt K H1 s r d [] → Fr [s] H H1 → Q .non H1
theorem ok_Kept__init (T : Top K mg) : FnOk P w K mg base CX0 1 T.a_Kept__init T.d_Kept__init ["self"] (sp_Kept__init K) := by
  refine T.f_Kept__init.ok sc_Kept__init (fun vs H Q E h => ?_) (fun cdv A outer s H vs Q E hr h => ?_)
  · obtain ⟨s, C, dx, rfl, _⟩ := h
    rfl
  obtain ⟨s, C, dx, rfl, h⟩ := h
  refine ⟨_, (pss_cons (ps_fld (pv 0) (pe_lst pa_nil) rfl)
      (pss_one (ps_fld (pv 0) pe_dnewT rfl))), ?_⟩
  try dsimp only [cxOf, Cx.nox, Cx.wish]
  simp only [L2.start, List.map_cons, List.map_nil, List.length_cons, List.length_nil, Nat.reduceAdd, Nat.reduceSub, List.replicate_succ, List.replicate_zero, List.cons_append, List.nil_append]
  obtain ⟨hs, hC, h⟩ := h
  obtain rfl := hC.one T.nc_Kept
  have c1 := T.cl_Kept
  have c2 := T.n_Kept_rows
  have c3 := T.n_Kept_places
  walk_at "w1"
  walk_at "ws"
  rename_i r H1 n1 s1 e1 d H2 n2 s2 e2
  have sr : r ≠ s := fun z => by rw [z, hs] at n1; cases n1
  have n2' : H1 d = none := by
    by_cases z : d = s
    · rw [z, upd_same] at n2; cases n2
    · rwa [upd_ne z] at n2
  have sd : d ≠ s := fun z => by rw [z, upd_same] at n2; cases n2
  have rd : r ≠ d := fun z => by rw [← z, e1] at n2'; cases n2'
  refine h r d _ n1 (s1.free n2') ⟨⟨T.c_Kept, dx, ?_, hC⟩, ⟨[], ?_, A2.nil⟩, ?_⟩ ?_
  · rw [upd_same]; rfl
  · rw [upd_ne sr]
    refine s2 _ _ ?_
    rw [upd_ne sr]
    exact e1
  · rw [upd_ne sd]; exact e2
  · refine ((Fr.of s1).trans (Fr.put (List.mem_cons_self ..))).trans ((Fr.of s2).trans (Fr.put (List.mem_cons_self ..)))
theorem row_key {H : Hp} {p : Addr} {x : Row} (hp : RowAt H p x) : H p = some (.tup ((rowK x).map kV)) := by rw [← rowK_V]; exact hp
theorem ref_at {ps : List Addr} {w : Nat} {p : Addr} (hp : ps[w]? = some p) : atI (ps.map V.ref) (w : Int) = some (.ref p) := atI_nat (by rw [List.getElem?_map, hp]; rfl)
def sp_Kept_wire_of (K : PySem.W.Frag) : Sp := fun vs H Q _ => ∃ (k p r d : Addr) (ks old : List Row) (x : Row) (N : Str → Prop), vs = [.ref k, .ref p] ∧ RowAt H p x ∧ KeptAt K H k r d ks ∧ KOk N old ks ∧ Fit N old ks x ∧ ks.length ≤ 100000 ∧
  ∀ (ks' : List Row) (w : Nat) H', Grow ks ks' → KOk N old ks' → ks'[w]? = some x → KeptAt K H' k r d ks' → Fr [r, d] H H' → Q (.int (w : Int)) H'
theorem ok_Kept_wire_of (T : Top K mg) : FnOk P w K mg base CX0 1 T.a_Kept_wire_of T.d_Kept_wire_of ["self", "row"] (sp_Kept_wire_of K) := by
  refine T.f_Kept_wire_of.ok sc_Kept_wire_of (fun vs H Q E h => ?_) (fun cdv A outer s H vs Q E hr h => ?_)
  · obtain ⟨k, p, r, d, ks, old, x, N, rfl, _⟩ := h
    rfl
  obtain ⟨k, p, r, d, ks, old, x, N, rfl, h⟩ := h
  refine ⟨_, (pss_cons (ps_if (pt_cmp (pc_dnotin (hu_of hr) (pv 1) (pe_fld (pv 0) rfl))) (pss_cons (ps_dput (hu_of hr) (pe_fld (pv 0) rfl) (pv 1) (pe_callB (c_lenK K) (by rfl) T.z_len PySem.boot_len (pa_cons (pe_fld (pv 0) rfl) pa_nil)) rfl)
      (pss_one (ps_expr (pe_bm PySem.F.plainAttrs_list PySem.F.slot_list_append PySem.F.type_list_append mt_append (pe_fld (pv 0) rfl) (pa_cons (pv 1) pa_nil))))) pss_nil)
      (pss_one (ps_ret (pe_dget (hu_of hr) (pe_fld (pv 0) rfl) (pv 1) (fun _ _ => rfl))))), ?_⟩
  try dsimp only [cxOf, Cx.nox, Cx.wish]
  simp only [L2.start, List.map_cons, List.map_nil, List.length_cons, List.length_nil, Nat.reduceAdd, Nat.reduceSub, List.replicate_succ, List.replicate_zero, List.cons_append, List.nil_append]
  obtain ⟨hp, ⟨⟨C, dx, hk, hC⟩, ⟨ps, hr, hA⟩, hd⟩, kok, hfit, hlen, h⟩ := h
  obtain rfl := hC.one T.nc_Kept
  have c1 := T.cl_Kept
  have c2 := T.n_Kept_rows
  have c3 := T.n_Kept_places
  have hp' := row_key hp
  have kr : k ≠ r := ne_of hk hr (by intro z; cases z)
  have kd : k ≠ d := ne_of hk hd (by intro z; cases z)
  have rd : r ≠ d := ne_of hr hd (by intro z; cases z)
  have pr : p ≠ r := ne_of hp' hr (by intro z; cases z)
  have pd : p ≠ d := ne_of hp' hd (by intro z; cases z)
  by_cases hx : x ∈ ks
  · obtain ⟨i, hi⟩ := List.mem_iff_getElem?.mp hx
    have hv : valV (placesK ks) (rowK x) = some (.int (i : Int)) := by
      have := placesFrom_some ks 0 i kok.nd hi
      rwa [Nat.zero_add] at this
    walk_at "ws"
    refine w_NInT0 hd hp' hv ?_
    walk_at "ws"
    refine w_DGT hd hp' hv ?_
    exact h ks i H (Grow.refl _) kok hi ⟨⟨T.c_Kept, dx, hk, hC⟩, ⟨ps, hr, hA⟩, hd⟩ Fr.refl
  · have hv : valV (placesK ks) (rowK x) = none := placesFrom_none ks 0 hx
    have hpl : (ps.map V.ref).length = ks.length := by rw [List.length_map, hA.1]
    walk_at "ws"
    refine w_NInT1 hd hp' hv ?_
    walk_at "ws"
    rw [hpl]
    have hlen2 : (placesK ks).length ≤ 1000000 := by
      show (placesFrom 0 ks).length ≤ _
      rw [placesFrom_len]; omega
    refine w_DPutT hd hp' hlen2 ?_
    have e3 : putK (placesK ks) (rowK x) (.int (ks.length : Int)) = placesK (ks ++ [x]) := by
      rw [putK_new _ hv]
      show _ = placesFrom 0 (ks ++ [x])
      rw [placesFrom_snoc, Nat.zero_add]
      rfl
    rw [e3]
    walk_at "ws"
    have kok' := kok.put hfit hx
    have hi : (ks ++ [x])[ks.length]? = some x := by rw [List.getElem?_append_right (Nat.le_refl _), Nat.sub_self]; rfl
    have hv2 : valV (placesK (ks ++ [x])) (rowK x) = some (.int (ks.length : Int)) := by
      have := placesFrom_some (ks ++ [x]) 0 ks.length kok'.nd hi
      rwa [Nat.zero_add] at this
    refine w_DGT (kvs := placesK (ks ++ [x])) (k := rowK x) ?_ ?_ hv2 ?_
    · rw [upd_ne rd.symm, upd_same]
    · rw [upd_ne pr, upd_ne pd]; exact hp'
    refine h (ks ++ [x]) ks.length _ ⟨[x], rfl, Nat.le_refl _⟩ kok' hi ⟨⟨T.c_Kept, dx, ?_, hC⟩, RowsM.push ?_ (hA.mono fun _ _ e => ?_) ?_, ?_⟩ ((Fr.put (List.mem_cons_of_mem _ (List.mem_cons_self ..))).trans (Fr.put (List.mem_cons_self ..)))
    · rw [upd_ne kr, upd_ne kd]; exact hk
    · rw [upd_ne rd]; exact hr
    · exact hp_upd (ne_of e hd (by intro z; cases z)) e
    · exact hp_upd pd hp
    · rw [upd_ne rd.symm, upd_same]
def fixV : Row → V
  | .fix b => .int b
  | _ => .non
def sp_Kept_fixed (K : PySem.W.Frag) : Sp := fun vs H Q _ => ∃ (k r d : Addr) (ks : List Row) (w : Nat) (x : Row), vs = [.ref k, .int (w : Int)] ∧ KeptAt K H k r d ks ∧ ks[w]? = some x ∧ Q (fixV x) H
theorem ok_Kept_fixed (T : Top K mg) : FnOk P w K mg base CX0 1 T.a_Kept_fixed T.d_Kept_fixed ["self", "wire"] (sp_Kept_fixed K) := by
  refine T.f_Kept_fixed.ok sc_Kept_fixed (fun vs H Q E h => ?_) (fun cdv A outer s H vs Q E hr h => ?_)
  · obtain ⟨k, r, d, ks, w, x, rfl, _⟩ := h
    rfl
  obtain ⟨k, r, d, ks, w, x, rfl, h⟩ := h
  refine ⟨_, (pss_cons (ps_if (pt_cmpR op_eq (pe_ix (ix_tupK K) (pe_ix (ix_listK K) (pe_fld (pv 0) rfl) (pv 1) (fun _ _ => rfl)) pe_int (fun _ _ => rfl)) pe_str (nomark _)) (pss_one (ps_ret (pe_ix (ix_tupK K) (pe_ix (ix_listK K) (pe_fld (pv 0) rfl) (pv 1) (fun _ _ => rfl)) pe_int (fun _ _ => rfl)))) pss_nil)
      (pss_one (ps_ret pe_non))), ?_⟩
  try dsimp only [cxOf, Cx.nox, Cx.wish]
  simp only [L2.start, List.map_cons, List.map_nil, List.length_cons, List.length_nil, Nat.reduceAdd, Nat.reduceSub, List.replicate_succ, List.replicate_zero, List.cons_append, List.nil_append]
  obtain ⟨⟨⟨C, dx, hk, hC⟩, ⟨ps, hr, hA⟩, hd⟩, hx, h⟩ := h
  obtain rfl := hC.one T.nc_Kept
  have c1 := T.cl_Kept
  have c2 := T.n_Kept_rows
  have c3 := T.n_Kept_places
  obtain ⟨p, hp, hpx⟩ := hA.get2 hx
  have hat := ref_at hp
  unfold RowAt at hpx
  cases x with
  | fix b =>
    walk_at "ws"
    refine w_ixL (SqL.of hr) hat ?_
    walk_at "ws"
    refine w_ixL (SqL.of hr) hat ?_
    walk_at "ws"
    exact h
  | bin o a b => cases o <;> (walk_at "ws"; refine w_ixL (SqL.of hr) hat ?_; walk_at "ws"; exact h)
  | _ =>
    walk_at "ws"
    refine w_ixL (SqL.of hr) hat ?_
    walk_at "ws"
    exact h
/-- what a wire of a kept row tells -/
def KRes (K : PySem.W.Frag) (N : Str → Prop) (old ks : List Row) (k r d : Addr) (H : Hp) (g : List (Str × Int) → Int) (m : Int) (Q : VK) : Prop :=
  ∀ (ks' : List Row) (w : Nat) H', Grow ks ks' → KOk N old ks' → w < ks'.length → (∀ ws, bit ws ks' w = g ws) → dep ks' w ≤ m → KeptAt K H' k r d ks' → Fr [r, d] H H' → Q (.int (w : Int)) H'
theorem KRes.here {N : Str → Prop} {old ks : List Row} {k r d : Addr} {H : Hp} {g : List (Str × Int) → Int} {m : Int} {Q : VK} (h : KRes K N old ks k r d H g m Q) (kok : KOk N old ks) {w : Nat} (hw : w < ks.length) (e : ∀ ws, bit ws ks w = g ws) (hd : dep ks w ≤ m) (ha : KeptAt K H k r d ks) : Q (.int (w : Int)) H :=
  h ks w H (Grow.refl _) kok hw e hd ha Fr.refl
theorem fit_fix {N : Str → Prop} {old ks : List Row} {b : Int} (hb : is01 b) : Fit N old ks (.fix b) := ⟨hb, True.intro, True.intro, fun n k e => by cases e⟩
/-- a fix row put -/
theorem KRes.fix {N : Str → Prop} {old ks : List Row} {k r d p : Addr} {H H1 : Hp} {g : List (Str × Int) → Int} {m : Int} {Q : VK} {E : XK} {b : Int} (h : KRes K N old ks k r d H g m Q) (kok : KOk N old ks) (hl : ks.length ≤ 100000) (s : Same H H1) (hp : H1 p = some (.tup [.str "fix", .int b])) (hb : is01 b) (e : ∀ ws, g ws = b) (hm : 0 ≤ m) (ha : KeptAt K H k r d ks) :
    sp_Kept_wire_of K (.ref k :: ([.ref p] ++ [])) H1 Q E :=
  ⟨k, p, r, d, ks, old, .fix b, N, rfl, hp, ha.same s, kok, fit_fix hb, hl, fun ks' w H' g' ko hw hA f => h ks' w H' g' ko (List.getElem?_eq_some_iff.mp hw).1 (fun ws => (bit_fix hw).trans (e ws).symm) (dep_le_of ko.ok hw hm fun a z => by cases z) hA ((Fr.of s).trans f)⟩
def sp_Kept_turned (K : PySem.W.Frag) : Sp := fun vs H Q _ => ∃ (k r d : Addr) (ks old : List Row) (w : Nat) (N : Str → Prop), vs = [.ref k, .int (w : Int)] ∧ KeptAt K H k r d ks ∧ KOk N old ks ∧ w < ks.length ∧ ks.length ≤ 100000 ∧
  KRes K N old ks k r d H (fun ws => 1 - bit ws ks w) (dep ks w + 1) Q
theorem ok_Kept_turned (T : Top K mg) : FnOk P w K mg base CX0 2 T.a_Kept_turned T.d_Kept_turned ["self", "wire"] (sp_Kept_turned K) := by
  refine T.f_Kept_turned.ok sc_Kept_turned (fun vs H Q E h => ?_) (fun cdv A outer s H vs Q E hr h => ?_)
  · obtain ⟨k, r, d, ks, old, w, N, rfl, _⟩ := h
    rfl
  obtain ⟨k, r, d, ks, old, w, N, rfl, h⟩ := h
  refine ⟨_, (pss_cons (ps_set (i := 2) sc_Kept_turned.nd rfl (.inl rfl) (pe_ix (ix_listK K) (pe_fld (pv 0) rfl) (pv 1) (fun _ _ => rfl)))
      (pss_cons (ps_if (pt_cmpR op_eq (pe_ix (ix_tupK K) (pv 2) pe_int (fun _ _ => rfl)) pe_str (nomark _)) (pss_one (ps_ret (pe_meth (pv 0) T.cl_Kept T.m_Kept_wire_of (ok_Kept_wire_of T) (hr.mono (by decide)) T.b_Kept_wire_of .nil pass0 (pa_cons (pe_tup (pa_cons pe_str (pa_cons (pe_op op_sub pe_int (pe_ix (ix_tupK K) (pv 2) pe_int (fun _ _ => rfl))) pa_nil))) pa_nil)))) pss_nil)
      (pss_cons (ps_if (pt_cmpR op_eq (pe_ix (ix_tupK K) (pv 2) pe_int (fun _ _ => rfl)) pe_str (nomark _)) (pss_one (ps_ret (pe_ix (ix_tupK K) (pv 2) pe_int (fun _ _ => rfl)))) pss_nil)
      (pss_one (ps_ret (pe_meth (pv 0) T.cl_Kept T.m_Kept_wire_of (ok_Kept_wire_of T) (hr.mono (by decide)) T.b_Kept_wire_of .nil pass0 (pa_cons (pe_tup (pa_cons pe_str (pa_cons (pv 1) pa_nil))) pa_nil))))))), ?_⟩
  try dsimp only [cxOf, Cx.nox, Cx.wish]
  simp only [L2.start, List.map_cons, List.map_nil, List.length_cons, List.length_nil, Nat.reduceAdd, Nat.reduceSub, List.replicate_succ, List.replicate_zero, List.cons_append, List.nil_append]
  obtain ⟨ha, kok, hw, hlen, h⟩ := h
  obtain ⟨⟨C, dx, hk, hC⟩, ⟨ps, hr, hA⟩, hd⟩ := id ha
  obtain rfl := hC.one T.nc_Kept
  have c1 := T.cl_Kept
  have c2 := T.n_Kept_rows
  have c3 := T.n_Kept_places
  have hx := List.getElem?_eq_getElem hw
  generalize ks[w] = x at hx
  obtain ⟨p, hp, hpx⟩ := hA.get2 hx
  have hat := ref_at hp
  have dn := dep_nn kok.ok w
  have nl := kok.nl x (List.mem_of_getElem? hx)
  have okr := kok.ok w x hx
  have put : ∀ {H1 : Hp} {q : Addr} {E : XK}, Same H H1 → H1 q = some (.tup [.str "not", .int (w : Int)]) → ¬ fixAt ks w → ¬ invAt ks w → sp_Kept_wire_of K (.ref k :: ([.ref q] ++ [])) H1 Q E := fun {H1 q E} s hq n1 n2 =>
    ⟨k, q, r, d, ks, old, .inv w, N, rfl, hq, ha.same s, kok, ⟨hw, True.intro, ⟨n1, n2⟩, fun n k e => by cases e⟩, hlen, fun ks' v H' g' ko hv hA f => h ks' v H' g' ko (List.getElem?_eq_some_iff.mp hv).1
      (fun ws => by rw [bit_inv ko.ok hv, bit_grow g' ws hw]) (dep_le_of ko.ok hv (by omega) fun a z => by rw [List.mem_singleton.mp z, dep_grow g' hw]; exact Int.le_refl _) hA ((Fr.of s).trans f)⟩
  unfold RowAt at hpx
  cases x with
  | fix b =>
    walk_at "ws"
    refine w_ixL (SqL.of hr) hat ?_
    walk_at "ws"
    have hb : is01 (1 - b) := by
      have : b = 0 ∨ b = 1 := okr
      unfold is01
      omega
    refine h.fix kok hlen (by assumption) (by assumption) hb (fun ws => by rw [bit_fix hx]) (by omega) ha
  | inv a =>
    walk_at "ws"
    refine w_ixL (SqL.of hr) hat ?_
    walk_at "ws"
    have := dep_own kok.ok hx (List.mem_cons_self ..)
    exact h.here kok (w := a) (Nat.lt_trans okr hw) (fun ws => by rw [bit_inv kok.ok hx]; omega) (by omega) ha
  | bin o a b =>
    have n1 : ¬ fixAt ks w := fun ⟨c, e⟩ => by rw [hx] at e; cases e
    have n2 : ¬ invAt ks w := fun ⟨c, e⟩ => by rw [hx] at e; cases e
    cases o <;> (walk_at "ws"; refine w_ixL (SqL.of hr) hat ?_; walk_at "ws"; exact put (by assumption) (by assumption) n1 n2)
  | inn n j =>
    have n1 : ¬ fixAt ks w := fun ⟨c, e⟩ => by rw [hx] at e; cases e
    have n2 : ¬ invAt ks w := fun ⟨c, e⟩ => by rw [hx] at e; cases e
    walk_at "ws"; refine w_ixL (SqL.of hr) hat ?_; walk_at "ws"; exact put (by assumption) (by assumption) n1 n2
  | lat a => exact nl.elim
def sp_Kept_beside_fix (K : PySem.W.Frag) : Sp := fun vs H Q _ => ∃ (k r d : Addr) (ks old : List Row) (o : Bop) (b : Int) (w : Nat) (N : Str → Prop), vs = [.ref k, .str (bopS o), .int b, .int (w : Int)] ∧ KeptAt K H k r d ks ∧ KOk N old ks ∧ w < ks.length ∧ ks.length ≤ 100000 ∧ is01 b ∧
  KRes K N old ks k r d H (fun ws => bopI o b (bit ws ks w)) (dep ks w + 1) Q
theorem ok_Kept_beside_fix (T : Top K mg) : FnOk P w K mg base CX0 3 T.a_Kept_beside_fix T.d_Kept_beside_fix ["self", "word", "bit", "wire"] (sp_Kept_beside_fix K) := by
  refine T.f_Kept_beside_fix.ok sc_Kept_beside_fix (fun vs H Q E h => ?_) (fun cdv A outer s H vs Q E hr h => ?_)
  · obtain ⟨k, r, d, ks, old, o, b, w, N, rfl, _⟩ := h
    rfl
  obtain ⟨k, r, d, ks, old, o, b, w, N, rfl, h⟩ := h
  refine ⟨_, (pss_cons (ps_if (PW.pt (pw_and (pt_cmpR op_eq (pv 1) pe_str (nomark _)) (pw_and1 (pt_cmpR op_eq (pv 2) pe_int (nomark _))))) (pss_one (ps_ret (pe_meth (pv 0) T.cl_Kept T.m_Kept_wire_of (ok_Kept_wire_of T) (hr.mono (by decide)) T.b_Kept_wire_of .nil pass0 (pa_cons (pe_tup (pa_cons pe_str (pa_cons pe_int pa_nil))) pa_nil)))) pss_nil)
      (pss_cons (ps_if (PW.pt (pw_and (pt_cmpR op_eq (pv 1) pe_str (nomark _)) (pw_and1 (pt_cmpR op_eq (pv 2) pe_int (nomark _))))) (pss_one (ps_ret (pe_meth (pv 0) T.cl_Kept T.m_Kept_wire_of (ok_Kept_wire_of T) (hr.mono (by decide)) T.b_Kept_wire_of .nil pass0 (pa_cons (pe_tup (pa_cons pe_str (pa_cons pe_int pa_nil))) pa_nil)))) pss_nil)
      (pss_cons (ps_if (PW.pt (pw_and (pt_cmpR op_eq (pv 1) pe_str (nomark _)) (pw_and1 (pt_cmpR op_eq (pv 2) pe_int (nomark _))))) (pss_one (ps_ret (pe_meth (pv 0) T.cl_Kept T.m_Kept_turned (ok_Kept_turned T) (hr.mono (by decide)) T.b_Kept_turned .nil pass0 (pa_cons (pv 3) pa_nil)))) pss_nil)
      (pss_one (ps_ret (pv 3)))))), ?_⟩
  try dsimp only [cxOf, Cx.nox, Cx.wish]
  simp only [L2.start, List.map_cons, List.map_nil, List.length_cons, List.length_nil, Nat.reduceAdd, Nat.reduceSub, List.replicate_succ, List.replicate_zero, List.cons_append, List.nil_append]
  obtain ⟨ha, kok, hw, hlen, hb, h⟩ := h
  obtain ⟨⟨C, dx, hk, hC⟩, ⟨ps, hr, hA⟩, hd⟩ := id ha
  obtain rfl := hC.one T.nc_Kept
  have dn := dep_nn kok.ok w
  have hb0 : is01 0 := .inl rfl
  have hb1 : is01 1 := .inr rfl
  have w01 := fun ws => bit_01 kok.ok ws w
  cases o with
  | and =>
    rcases hb with rfl | rfl
    · walk_at "ws"
      exact h.fix kok hlen (by assumption) (by assumption) hb0 (fun ws => Int.zero_mul _) (by omega) ha
    · walk_at "ws"
      exact h.here kok hw (fun ws => (Int.one_mul _).symm) (by omega) ha
  | or =>
    rcases hb with rfl | rfl
    · walk_at "ws"
      exact h.here kok hw (fun ws => by show _ = 0 + bit ws ks w - 0 * bit ws ks w; omega) (by omega) ha
    · walk_at "ws"
      exact h.fix kok hlen (by assumption) (by assumption) hb1 (fun ws => by show 1 + bit ws ks w - 1 * bit ws ks w = 1; omega) (by omega) ha
  | xor =>
    rcases hb with rfl | rfl
    · walk_at "ws"
      exact h.here kok hw (fun ws => by rcases w01 ws with e | e <;> rw [e] <;> rfl) (by omega) ha
    · walk_at "ws"
      refine ⟨k, r, d, ks, old, w, N, rfl, ha, kok, hw, hlen, fun ks' v H' g' ko hv hg hd hA f => h ks' v H' g' ko hv (fun ws => by rw [hg ws]; show 1 - bit ws ks w = (1 + bit ws ks w) % 2; rcases w01 ws with e | e <;> rw [e] <;> rfl) hd hA f⟩
def sp_Kept_paired (K : PySem.W.Frag) : Sp := fun vs H Q _ => ∃ (k r d : Addr) (ks old : List Row) (o : Bop) (a b : Nat) (N : Str → Prop) (m : Int), vs = [.ref k, .str (bopS o), .int (a : Int), .int (b : Int)] ∧ KeptAt K H k r d ks ∧ KOk N old ks ∧ a < ks.length ∧ b < ks.length ∧ ks.length ≤ 100000 ∧ dep ks a ≤ m ∧ dep ks b ≤ m ∧
  KRes K N old ks k r d H (fun ws => bopI o (bit ws ks a) (bit ws ks b)) (m + 1) Q
theorem bop_comm (o : Bop) (x y : Int) : bopI o x y = bopI o y x := by
  cases o
  · exact Int.mul_comm x y
  · show x + y - x * y = y + x - y * x
    rw [Int.mul_comm x y, Int.add_comm x y]
  · show (x + y) % 2 = (y + x) % 2
    rw [Int.add_comm x y]
theorem fixV_no {x : Row} (h : ∀ b, x ≠ .fix b) : fixV x = .non := by
  cases x with
  | fix b => exact absurd rfl (h b)
  | _ => rfl
theorem ok_Kept_paired (T : Top K mg) : FnOk P w K mg base CX0 4 T.a_Kept_paired T.d_Kept_paired ["self", "word", "one", "other"] (sp_Kept_paired K) := by
  refine T.f_Kept_paired.ok sc_Kept_paired (fun vs H Q E h => ?_) (fun cdv A outer s H vs Q E hr h => ?_)
  · obtain ⟨k, r, d, ks, old, o, a, b, N, m, rfl, _⟩ := h
    rfl
  obtain ⟨k, r, d, ks, old, o, a, b, N, m, rfl, h⟩ := h
  refine ⟨_, (pss_cons (ps_if (pt_cmpR op_notNo (pe_meth (pv 0) T.cl_Kept T.m_Kept_fixed (ok_Kept_fixed T) (hr.mono (by decide)) T.b_Kept_fixed .nil pass0 (pa_cons (pv 2) pa_nil)) pe_non (nomark _)) (pss_one (ps_ret (pe_meth (pv 0) T.cl_Kept T.m_Kept_beside_fix (ok_Kept_beside_fix T) (hr.mono (by decide)) T.b_Kept_beside_fix .nil pass0 (pa_cons (pv 1) (pa_cons (pe_meth (pv 0) T.cl_Kept T.m_Kept_fixed (ok_Kept_fixed T) (hr.mono (by decide)) T.b_Kept_fixed .nil pass0 (pa_cons (pv 2) pa_nil)) (pa_cons (pv 3) pa_nil)))))) pss_nil)
      (pss_cons (ps_if (pt_cmpR op_notNo (pe_meth (pv 0) T.cl_Kept T.m_Kept_fixed (ok_Kept_fixed T) (hr.mono (by decide)) T.b_Kept_fixed .nil pass0 (pa_cons (pv 3) pa_nil)) pe_non (nomark _)) (pss_one (ps_ret (pe_meth (pv 0) T.cl_Kept T.m_Kept_beside_fix (ok_Kept_beside_fix T) (hr.mono (by decide)) T.b_Kept_beside_fix .nil pass0 (pa_cons (pv 1) (pa_cons (pe_meth (pv 0) T.cl_Kept T.m_Kept_fixed (ok_Kept_fixed T) (hr.mono (by decide)) T.b_Kept_fixed .nil pass0 (pa_cons (pv 3) pa_nil)) (pa_cons (pv 2) pa_nil)))))) pss_nil)
      (pss_cons (ps_if (pt_cmpR op_eq (pv 2) (pv 3) (nomark _)) (pss_cons (ps_if (pt_cmpR op_eq (pv 1) pe_str (nomark _)) (pss_one (ps_ret (pe_meth (pv 0) T.cl_Kept T.m_Kept_wire_of (ok_Kept_wire_of T) (hr.mono (by decide)) T.b_Kept_wire_of .nil pass0 (pa_cons (pe_tup (pa_cons pe_str (pa_cons pe_int pa_nil))) pa_nil)))) pss_nil)
      (pss_one (ps_ret (pv 2)))) pss_nil)
      (pss_one (ps_ret (pe_meth (pv 0) T.cl_Kept T.m_Kept_wire_of (ok_Kept_wire_of T) (hr.mono (by decide)) T.b_Kept_wire_of .nil pass0 (pa_cons (pe_tup (pa_cons (pv 1) (pa_cons (pe_callB (c_min2 rfl) (by rfl) T.z_min (by decide +kernel) (pa_cons (pv 2) (pa_cons (pv 3) pa_nil))) (pa_cons (pe_callB (c_max2 rfl) (by rfl) T.z_max (by decide +kernel) (pa_cons (pv 2) (pa_cons (pv 3) pa_nil))) pa_nil)))) pa_nil))))))), ?_⟩
  try dsimp only [cxOf, Cx.nox, Cx.wish]
  simp only [L2.start, List.map_cons, List.map_nil, List.length_cons, List.length_nil, Nat.reduceAdd, Nat.reduceSub, List.replicate_succ, List.replicate_zero, List.cons_append, List.nil_append]
  obtain ⟨ha, kok, hwa, hwb, hlen, hda, hdb, h⟩ := h
  obtain ⟨⟨C, dx, hk, hC⟩, ⟨ps, hr, hA⟩, hd⟩ := id ha
  obtain rfl := hC.one T.nc_Kept
  have dna := dep_nn kok.ok a
  have hxa := List.getElem?_eq_getElem hwa
  have hxb := List.getElem?_eq_getElem hwb
  generalize ks[a] = xa at hxa
  generalize ks[b] = xb at hxb
  have a01 := fun ws => bit_01 kok.ok ws a
  walk_at "ws"
  refine ⟨k, r, d, ks, a, xa, rfl, ha, hxa, ?_⟩
  by_cases fa : ∃ c, xa = .fix c
  · obtain ⟨c, rfl⟩ := fa
    have hc : is01 c := kok.ok a _ hxa
    dsimp only [fixV]
    walk_at "ws"
    refine ⟨k, r, d, ks, a, _, rfl, ha, hxa, ?_⟩
    dsimp only [fixV]
    walk_at "ws"
    refine ⟨k, r, d, ks, old, o, c, b, N, rfl, ha, kok, hwb, hlen, hc, fun ks' v H' g' ko hv hg hd hA f => h ks' v H' g' ko hv (fun ws => by rw [hg ws]; show bopI o c (bit ws ks b) = bopI o (bit ws ks a) (bit ws ks b); rw [bit_fix hxa]) (by omega) hA f⟩
  rw [fixV_no fun c e => fa ⟨c, e⟩]
  walk_at "ws"
  refine ⟨k, r, d, ks, b, xb, rfl, ha, hxb, ?_⟩
  by_cases fb : ∃ c, xb = .fix c
  · obtain ⟨c, rfl⟩ := fb
    have hc : is01 c := kok.ok b _ hxb
    dsimp only [fixV]
    walk_at "ws"
    refine ⟨k, r, d, ks, b, _, rfl, ha, hxb, ?_⟩
    dsimp only [fixV]
    walk_at "ws"
    refine ⟨k, r, d, ks, old, o, c, a, N, rfl, ha, kok, hwa, hlen, hc, fun ks' v H' g' ko hv hg hd hA f => h ks' v H' g' ko hv (fun ws => by rw [hg ws]; show bopI o c (bit ws ks a) = bopI o (bit ws ks a) (bit ws ks b); rw [bit_fix hxb, bop_comm]) (by omega) hA f⟩
  rw [fixV_no fun c e => fb ⟨c, e⟩]
  have na : ¬ fixAt ks a := fun ⟨c, e⟩ => by rw [hxa] at e; exact fa ⟨c, Option.some.inj e⟩
  have nb : ¬ fixAt ks b := fun ⟨c, e⟩ => by rw [hxb] at e; exact fb ⟨c, Option.some.inj e⟩
  have hb0 : is01 0 := .inl rfl
  by_cases eab : a = b
  · subst eab
    cases o with
    | xor =>
      walk_at "ws"
      exact h.fix kok hlen (by assumption) (by assumption) hb0 (fun ws => by show (bit ws ks a + bit ws ks a) % 2 = 0; omega) (by omega) ha
    | and =>
      walk_at "ws"
      exact h.here kok hwa (fun ws => by rcases a01 ws with e | e <;> rw [e] <;> rfl) (by omega) ha
    | or =>
      walk_at "ws"
      exact h.here kok hwa (fun ws => by rcases a01 ws with e | e <;> rw [e] <;> rfl) (by omega) ha
  · have put : ∀ {H1 : Hp} {q : Addr} {E : XK} (x y : Nat), x < y → (x = a ∧ y = b ∨ x = b ∧ y = a) → Same H H1 → H1 q = some (.tup [.str (bopS o), .int (x : Int), .int (y : Int)]) → sp_Kept_wire_of K (.ref k :: ([.ref q] ++ [])) H1 Q E := fun {H1 q E} x y hxy hor s hq =>
      ⟨k, q, r, d, ks, old, .bin o x y, N, rfl, hq, ha.same s, kok, ⟨⟨by omega, by omega⟩, True.intro, ⟨hxy, (by rcases hor with ⟨rfl, rfl⟩ | ⟨rfl, rfl⟩ <;> assumption), (by rcases hor with ⟨rfl, rfl⟩ | ⟨rfl, rfl⟩ <;> assumption)⟩, fun n k e => by cases e⟩, hlen, fun ks' v H' g' ko hv hA f => h ks' v H' g' ko (List.getElem?_eq_some_iff.mp hv).1
        (fun ws => by
          rw [bit_bin ko.ok hv, bit_grow g' ws (by omega), bit_grow g' ws (by omega)]
          rcases hor with ⟨rfl, rfl⟩ | ⟨rfl, rfl⟩
          · rfl
          · exact bop_comm ..) (dep_le_of ko.ok hv (by omega) fun z hz => by
          rcases List.mem_cons.mp hz with e | e
          · rw [e, dep_grow g' (by omega)]
            rcases hor with ⟨rfl, rfl⟩ | ⟨rfl, rfl⟩ <;> omega
          · rw [List.mem_singleton.mp e, dep_grow g' (by omega)]
            rcases hor with ⟨rfl, rfl⟩ | ⟨rfl, rfl⟩ <;> omega) hA ((Fr.of s).trans f)⟩
    walk_at "ws"
    rename_i eq
    by_cases c : a < b
    · rw [if_neg (show ¬ ((b : Int) < (a : Int)) by omega), if_pos (show (b : Int) > (a : Int) by omega)] at eq
      exact put a b c (.inl ⟨rfl, rfl⟩) (by assumption) eq
    · rw [if_pos (show ((b : Int) < (a : Int)) by omega), if_neg (show ¬ (b : Int) > (a : Int) by omega)] at eq
      exact put b a (by omega) (.inr ⟨rfl, rfl⟩) (by assumption) eq

theorem bl_set (fs : List Bool) (w : Nat) : (fs.map V.bl).set w (.bl true) = (fs.set w true).map V.bl := by rw [List.map_set]
theorem bl_at {fs : List Bool} {w : Nat} (h : w < fs.length) : atI (fs.map V.bl) (w : Int) = some (.bl fs[w]) := atI_nat (by rw [List.getElem?_map, List.getElem?_eq_getElem h]; rfl)
def sp_needed (K : PySem.W.Frag) : Sp := fun vs H Q _ => ∃ (a b : Addr) (rs : List Row) (os : List Nat) (N : Str → Prop), vs = [.ref a, .ref b] ∧ RowsL K H a rs ∧ SqL K H b ((natI os).map V.int) ∧ RowsOk N rs ∧ rs.length ≤ 60000 ∧ (∀ o ∈ os, o < rs.length) ∧
  ∀ (fs : List Bool) p H', NeedI rs os rs.length rs.length fs → H p = none → Same H H' → H' p = some (.lst (fs.map V.bl)) → Q (.ref p) H'
theorem ok_needed (T : Top K mg) : FnOk P w K mg base CX0 2 T.a_needed T.d_needed ["rows", "outs"] (sp_needed K) := by
  refine T.f_needed.ok sc_needed (fun vs H Q E h => ?_) (fun cdv A outer s H vs Q E hr h => ?_)
  · obtain ⟨a, b, rs, os, N, rfl, _⟩ := h
    rfl
  obtain ⟨a, b, rs, os, N, rfl, h⟩ := h
  refine ⟨_, (pss_cons (ps_setLc (i := 2) (own := [("row", 5)]) (g := gName 5) (tt := tYes) (by rfl) sc_needed.nd rfl rfl (sw_true rfl rfl rfl (by decide +kernel)) (pi_list (pv 0)) (blkOk_by (N := ["rows", "outs", "found", "wire", "ahead", "row"]) (sc := defScope s_needed) (by decide +kernel)) (fun _ _ _ _ _ => (pg_name (i := 5) sc_needed.nd rfl (.inl rfl))) (fun _ _ _ _ _ => pts_nil) (fun _ _ _ _ _ => pe_bl))
      (pss_cons (ps_for PassesOwn.never rfl (pi_list (pv 1)) (pg_name (i := 3) sc_needed.nd rfl (.inl rfl))
      (pss_one (ps_asg pe_bl (pg_sub (pv 2) (pv 3) set_list))))
      (pss_cons (ps_for PassesOwn.never rfl (pi_revR (by rfl) T.z_reversed (prg_1 (by rfl) T.z_range (pe_callB (c_lenK K) (by rfl) T.z_len PySem.boot_len (pa_cons (pv 0) pa_nil)))) (pg_name (i := 3) sc_needed.nd rfl (.inl rfl))
      (pss_one (ps_if (pt_val (pe_ix (ix_listK K) (pv 2) (pv 3) (fun _ _ => rfl))) (pss_one (ps_for PassesOwn.never rfl (pi_list (pe_call (ok_own_wires T) (hr.mono (by decide)) (by rfl) T.g_own_wires T.f_own_wires.kp T.b_own_wires .nil pass0 (pa_cons (pe_ix (ix_listK K) (pv 0) (pv 3) (fun _ _ => rfl)) pa_nil))) (pg_name (i := 4) sc_needed.nd rfl (.inl rfl))
      (pss_one (ps_asg pe_bl (pg_sub (pv 2) (pv 4) set_list))))) pss_nil)))
      (pss_one (ps_ret (pv 2)))))), ?_⟩
  try dsimp only [cxOf, Cx.nox, Cx.wish]
  simp only [L2.start, List.map_cons, List.map_nil, List.length_cons, List.length_nil, Nat.reduceAdd, Nat.reduceSub, List.replicate_succ, List.replicate_zero, List.cons_append, List.nil_append]
  obtain ⟨⟨ps, hS, hA⟩, hO, ok, hlen, ho, h⟩ := h
  have hpl : ps.length = rs.length := hA.1
  have hpm : (ps.map V.ref).length = rs.length := by rw [List.length_map, hpl]
  walk_at "ws"
  refine lc_l (ps.map V.ref) ((List.replicate rs.length false).map V.bl) (by rw [hpm, List.length_map, List.length_replicate]) hS (by omega) (fun x => rfl) (fun i x y G' Q' hx hy s1 k => ?_) (fun p H1 n1 s1 e1 => ?_)
  · rw [List.getElem?_map, List.getElem?_replicate] at hy
    split at hy
    · cases hy
      walk_at "ws"
      exact k
    · cases hy
  walk_at "ws"
  refine for_l ((natI os).map V.int) (fun i σ' G => ∃ y3, σ' = [some (.ref a), some (.ref b), some (.ref p), y3, none, none] ∧ Same H G ∧ G p = some (.lst ((markL (List.replicate rs.length false) (os.take i)).map V.bl))) ⟨_, rfl, s1, e1⟩ (fun i σ' G _ q => ?_) (fun i x σ' G hx q => ?_) (fun σ' G q => ?_)
  · obtain ⟨y3, rfl, sm, e⟩ := q
    exact sm.seq hO
  · obtain ⟨y3, rfl, sm, e⟩ := q
    obtain ⟨z, hz, rfl⟩ := get_map hx
    obtain ⟨u, hu, rfl⟩ := natI_get hz
    have hul := ho u (List.mem_of_getElem? hu)
    walk_at "ws"
    refine w_setL e (by rw [List.length_map, mark_len, List.length_replicate]; exact hul) ?_
    refine ⟨_, rfl, same_mut sm n1, ?_⟩
    rw [upd_same, bl_set, take_snoc hu, mark_snoc]
  · obtain ⟨y3, rfl, sm, e⟩ := q
    rw [List.length_map, natI_len, List.take_of_length_le (Nat.le_refl _)] at e
    have need0 := NeedI.start (rs := rs) (outs := os) rs.length rfl
    generalize markL (List.replicate rs.length false) os = fs0 at *
    walk_at "ws"
    have en : ((((ps.map V.ref).length : Nat) : Int) - 0).toNat = rs.length := by rw [hpm]; omega
    rw [en]
    refine for_rc (fun i σ' G => ∃ fs y3 y4, σ' = [some (.ref a), some (.ref b), some (.ref p), y3, y4, none] ∧ Same H G ∧ G p = some (.lst (fs.map V.bl)) ∧ NeedI rs os rs.length i fs) ⟨fs0, _, _, rfl, sm, e, need0⟩ (fun i σ' G hi q => ?_) (fun σ' G q => ?_)
    · obtain ⟨fs, y3, y4, rfl, sm, e, nd⟩ := q
      have ew : (0 : Int) + ((rs.length : Nat) : Int) - 1 + (i : Nat) * (-1) = ((rs.length - (i + 1) : Nat) : Int) := by omega
      rw [ew]
      have hw : rs.length - (i + 1) < rs.length := by omega
      have hwf : rs.length - (i + 1) < fs.length := by rw [nd.1]; exact hw
      have hr := List.getElem?_eq_getElem hw
      have hf := List.getElem?_eq_getElem hwf
      have hbl := bl_at hwf
      generalize rs[rs.length - (i + 1)] = r at hr
      obtain ⟨pr, hpr, hrow⟩ := hA.get2 hr
      generalize hwd : rs.length - (i + 1) = w at *
      walk_at "ws"
      refine w_ixL (SqL.of e) hbl ?_
      generalize fs[w] = bb at *
      cases bb with
      | false =>
        walk_at "ws"
        exact ⟨fs, _, _, rfl, sm, e, nd.skip (by rw [hwd, hf]; intro z; cases z) hi⟩
      | true =>
        walk_at "ws"
        refine w_ixL (sm.seq hS) (ref_at hpr) ?_
        walk_at "ws"
        refine ⟨pr, r, rfl, sm _ _ hrow, fun q G1 nq sq eq => ?_⟩
        walk_at "ws"
        have qp : q ≠ p := fun z => by rw [z, e] at nq; cases nq
        have lt := own_lt (ok w r hr)
        refine for_l ((natI (ownR r)).map V.int) (fun j σ2 G2 => ∃ y4, σ2 = [some (.ref a), some (.ref b), some (.ref p), some (.int (w : Int)), y4, none] ∧ Fr [p] G1 G2 ∧ G2 p = some (.lst ((markL fs ((ownR r).take j)).map V.bl))) ⟨_, rfl, Fr.refl, sq _ _ e⟩ (fun j σ2 G2 _ k => ?_) (fun j x σ2 G2 hx2 k => ?_) (fun σ2 G2 k => ?_)
        · obtain ⟨z4, rfl, f2, e2⟩ := k
          exact SqL.of (f2 _ _ eq (by simpa using qp))
        · obtain ⟨z4, rfl, f2, e2⟩ := k
          obtain ⟨z, hz, rfl⟩ := get_map hx2
          obtain ⟨u, hu, rfl⟩ := natI_get hz
          have hul := lt u (List.mem_of_getElem? hu)
          walk_at "ws"
          refine w_setL e2 (by rw [List.length_map, mark_len, nd.1]; omega) ?_
          refine ⟨_, rfl, f2.trans (Fr.put (List.mem_cons_self ..)), ?_⟩
          rw [upd_same, bl_set, take_snoc hu, mark_snoc]
        · obtain ⟨z4, rfl, f2, e2⟩ := k
          rw [List.length_map, natI_len, List.take_of_length_le (Nat.le_refl _)] at e2
          walk_at "ws"
          refine ⟨_, _, _, rfl, f2.same (sm.trans sq) (fun m hm => by rw [List.mem_singleton.mp hm]; exact n1), e2, ?_⟩
          subst hwd
          exact nd.mark ok hf hi hr
    · obtain ⟨fs, y3, y4, rfl, sm, e, nd⟩ := q
      walk_at "ws"
      exact h fs p G nd n1 sm e

def sp_renumbered (K : PySem.W.Frag) : Sp := fun vs H Q _ => ∃ (a b : Addr) (rs : List Row) (os : List Nat) (N : Str → Prop), vs = [.ref a, .ref b] ∧ RowsL K H a rs ∧ SqL K H b ((natI os).map V.int) ∧ RowsOk N rs ∧ NoLats rs ∧ rs.length ≤ 60000 ∧ os.length ≤ 100000 ∧ (∀ o ∈ os, o < rs.length) ∧
  ∀ (fs : List Bool) (made : List Row) t q u H', NeedI rs os rs.length rs.length fs → Ren rs fs rs.length made → q ≠ u → H t = none → H q = none → H u = none → Same H H' → H' t = some (.tup [.ref q, .ref u]) → RowsM H' q made → H' u = some (.lst ((natI (os.map (cnt fs))).map V.int)) → Q (.ref t) H'
theorem nats_at {g : Nat → Nat} {n k : Nat} (h : k < n) : atI ((natI ((List.range n).map g)).map V.int) (k : Int) = some (.int (g k : Int)) := nat_at (by rw [List.getElem?_map, List.getElem?_range h]; rfl)
theorem natI_map (ws : List Nat) : (natI ws).map V.int = ws.map fun (z : Nat) => V.int (z : Int) := by unfold natI; rw [List.map_map]; rfl
theorem ok_renumbered (T : Top K mg) : FnOk P w K mg base CX0 3 T.a_renumbered T.d_renumbered ["rows", "outs"] (sp_renumbered K) := by
  refine T.f_renumbered.ok sc_renumbered (fun vs H Q E h => ?_) (fun cdv A outer s H vs Q E hr h => ?_)
  · obtain ⟨a, b, rs, os, N, rfl, _⟩ := h
    rfl
  obtain ⟨a, b, rs, os, N, rfl, h⟩ := h
  refine ⟨_, (pss_cons (ps_set (i := 2) sc_renumbered.nd rfl (.inl rfl) (pe_call (ok_needed T) (hr.mono (by decide)) (by rfl) T.g_needed T.f_needed.kp T.b_needed .nil pass0 (pa_cons (pv 0) (pa_cons (pv 1) pa_nil))))
      (pss_cons (ps_set (i := 3) sc_renumbered.nd rfl (.inr rfl) (pe_lst pa_nil))
      (pss_cons (ps_set (i := 4) sc_renumbered.nd rfl (.inl rfl) (pe_lst pa_nil))
      (pss_cons (ps_for PassesOwn.never rfl (pi_enum (by rfl) T.z_enumerate (pa_cons (pv 0) pa_nil)) (pg_tup (by rfl) (pgs_cons (pg_name (i := 5) sc_renumbered.nd rfl (.inl rfl)) (pgs_cons (pg_name (i := 6) sc_renumbered.nd rfl (.inl rfl)) pgs_nil)))
      (pss_cons (ps_expr (pe_bm PySem.F.plainAttrs_list PySem.F.slot_list_append PySem.F.type_list_append mt_append (pv 3) (pa_cons (pe_callB (c_lenK K) (by rfl) T.z_len PySem.boot_len (pa_cons (pv 4) pa_nil)) pa_nil)))
      (pss_one (ps_if (pt_val (pe_ix (ix_listK K) (pv 2) (pv 5) (fun _ _ => rfl))) (pss_cons (ps_if (pt_cmpR op_gt (pe_callB (c_lenK K) (by rfl) T.z_len PySem.boot_len (pa_cons (pe_call (ok_own_wires T) (hr.mono (by decide)) (by rfl) T.g_own_wires T.f_own_wires.kp T.b_own_wires .nil pass0 (pa_cons (pv 6) pa_nil)) pa_nil)) pe_int (nomark _)) (pss_one (ps_set (i := 6) sc_renumbered.nd rfl (.inl rfl) (pe_op op_catT (pe_tup (pa_cons (pe_ix (ix_tupK K) (pv 6) pe_int (fun _ _ => rfl)) pa_nil)) (pe_callTy (c_tupK K) (by rfl) T.z_tuple (by decide +kernel) (pa_cons (pe_lc (own := [("ahead", 7)]) (g := gName 7) (tt := tYes) (by rfl) sc_renumbered.nd (pi_tup (pe_slice sl_tup (pv 6) (po_some pe_int) po_none)) (blkOk_by (N := ["rows", "outs", "wanted", "places", "made", "wire", "row", "ahead"]) (sc := defScope s_renumbered) (by decide +kernel)) (fun _ _ _ _ _ => (pg_name (i := 7) sc_renumbered.nd rfl (.inl rfl))) (fun _ _ _ _ _ => pts_nil) (fun _ _ _ _ _ => (pe_ix (ix_listK K) (pv 3) (pv 7) (fun _ _ => rfl)))) pa_nil))))) pss_nil)
      (pss_one (ps_expr (pe_bm PySem.F.plainAttrs_list PySem.F.slot_list_append PySem.F.type_list_append mt_append (pv 4) (pa_cons (pv 6) pa_nil))))) pss_nil))))
      (pss_one (ps_ret (pe_tup (pa_cons (pv 4) (pa_cons (pe_lc (own := [("wire", 5)]) (g := gName 5) (tt := tYes) (by rfl) sc_renumbered.nd (pi_list (pv 1)) (blkOk_by (N := ["rows", "outs", "wanted", "places", "made", "wire", "row", "ahead"]) (sc := defScope s_renumbered) (by decide +kernel)) (fun _ _ _ _ _ => (pg_name (i := 5) sc_renumbered.nd rfl (.inl rfl))) (fun _ _ _ _ _ => pts_nil) (fun _ _ _ _ _ => (pe_ix (ix_listK K) (pv 3) (pv 5) (fun _ _ => rfl)))) pa_nil))))))))), ?_⟩
  try dsimp only [cxOf, Cx.nox, Cx.wish]
  simp only [L2.start, List.map_cons, List.map_nil, List.length_cons, List.length_nil, Nat.reduceAdd, Nat.reduceSub, List.replicate_succ, List.replicate_zero, List.cons_append, List.nil_append]
  obtain ⟨⟨ps, hS, hA⟩, hO, ok, nl, hlen, hol, ho, h⟩ := h
  have hpl : ps.length = rs.length := hA.1
  have hpm : (ps.map V.ref).length = rs.length := by rw [List.length_map, hpl]
  walk_at "ws"
  refine ⟨a, b, rs, os, N, rfl, ⟨ps, hS, hA⟩, hO, ok, hlen, ho, fun fs w Hw nd nw sw ew => ?_⟩
  walk_at "ws"
  rename_i pl H1 n1 s1 e1 md H2 n2 s2 e2
  have plmd : pl ≠ md := fun z => by rw [← z, e1] at n2; cases n2
  have wpl : w ≠ pl := fun z => by rw [← z, ew] at n1; cases n1
  have wmd : w ≠ md := fun z => by rw [← z, s1 _ _ ew] at n2; cases n2
  have nmd : H md = none := (sw.trans s1).free n2
  have npl : H pl = none := sw.free n1
  refine for_e (ps.map V.ref) (fun i σ' G => ∃ (made : List Row) (y5 y6 : Option V), σ' = [some (.ref a), some (.ref b), some (.ref w), some (.ref pl), some (.ref md), y5, y6, none] ∧ Same H G ∧ G w = some (.lst (fs.map V.bl)) ∧ G pl = some (.lst ((natI ((List.range i).map (cnt fs))).map V.int)) ∧ RowsM G md made ∧ Ren rs fs i made) ⟨[], _, _, rfl, (sw.trans s1).trans s2, s2 _ _ (s1 _ _ ew), s2 _ _ e1, ⟨[], e2, A2.nil⟩, Ren.start _ _⟩ (fun i σ' G _ q => ?_) (fun i x σ' G0 G hx q sG => ?_) (fun σ' G q => ?_)
  · obtain ⟨made, y5, y6, rfl, sm, _⟩ := q
    exact sm.seq hS
  · obtain ⟨made, y5, y6, rfl, sm0, ew0, ep0, hM0, hR⟩ := q
    have sm := sm0.trans sG
    have ewG := sG _ _ ew0
    have epG := sG _ _ ep0
    obtain ⟨qs, eM, hB⟩ := hM0.same sG
    obtain ⟨p, hp, rfl⟩ := get_map hx
    obtain ⟨r, hr, hrow⟩ := hA.get hp
    have hi := (List.getElem?_eq_some_iff.mp hr).1
    have hif : i < fs.length := by rw [nd.1]; exact hi
    have hf := List.getElem?_eq_getElem hif
    have hbl := bl_at hif
    have okr := ok i r hr
    have nlr := nl r (List.mem_of_getElem? hr)
    have hql : ((qs.map V.ref).length : Int) = (cnt fs i : Int) := by rw [List.length_map, hB.1, hR.1]
    have hcl : cnt fs i ≤ 60000 := Nat.le_trans (cnt_le _ _) (by omega)
    have hqz : (qs.map V.ref).length ≤ 60000 := by omega
    have hrl : ((natI ((List.range i).map (cnt fs))).map V.int).length = i := by rw [List.length_map, natI_len, List.length_map, List.length_range]
    have step : (natI ((List.range i).map (cnt fs))).map V.int ++ [V.int (cnt fs i : Int)] = (natI ((List.range (i + 1)).map (cnt fs))).map V.int := by
      rw [nat_snoc, List.range_succ, List.map_append]
      rfl
    have hrG : G p = some (.tup (rowV r)) := sm _ _ hrow
    generalize fs[i] = bb at *
    walk_at "ws"
    rw [hql, step]
    generalize hG3 : upd G pl (.lst ((natI ((List.range (i + 1)).map (cnt fs))).map V.int)) = G3 at *
    have f3 : Fr [pl] G G3 := by rw [← hG3]; exact Fr.put (List.mem_cons_self ..)
    have e3 : G3 pl = some (.lst ((natI ((List.range (i + 1)).map (cnt fs))).map V.int)) := by rw [← hG3, upd_same]
    have w3 : G3 w = some (.lst (fs.map V.bl)) := f3 _ _ ewG (by simpa using wpl)
    have sm3 : Same H G3 := f3.same sm (fun m hm => by rw [List.mem_singleton.mp hm]; exact npl)
    have m3 : G3 md = some (.lst (qs.map V.ref)) := f3 _ _ eM (by simpa using plmd.symm)
    have r3 : G3 p = some (.tup (rowV r)) := sm3 _ _ hrow
    have hB3 : A2 (RowAt G3) qs made := hB.mono fun x r e => f3 _ _ e (by
      intro z
      rw [List.mem_singleton.mp z] at e
      rw [show RowAt G pl r from e] at epG
      cases epG)
    refine w_ixL (SqL.of w3) hbl ?_
    cases bb with
    | false =>
      walk_at "ws"
      exact ⟨made, _, _, rfl, sm3, w3, e3, ⟨qs, m3, hB3⟩, hR.skip hf⟩
    | true =>
      have fin : ∀ (p' : Addr) (G' : Hp), Same G3 G' → G' p' = some (.tup (rowV (renR (cnt fs) r))) → ∃ (made : List Row) (y5 y6 : Option V), [some (V.ref a), some (.ref b), some (.ref w), some (.ref pl), some (.ref md), some (.int (i : Int)), some (.ref p'), none] = [some (.ref a), some (.ref b), some (.ref w), some (.ref pl), some (.ref md), y5, y6, none] ∧ Same H (upd G' md (.lst (qs.map V.ref ++ [.ref p']))) ∧ (upd G' md (.lst (qs.map V.ref ++ [.ref p']))) w = some (.lst (fs.map V.bl)) ∧ (upd G' md (.lst (qs.map V.ref ++ [.ref p']))) pl = some (.lst ((natI ((List.range (i + 1)).map (cnt fs))).map V.int)) ∧ RowsM (upd G' md (.lst (qs.map V.ref ++ [.ref p']))) md made ∧ Ren rs fs (i + 1) made := fun p' G' s e =>
        ⟨made ++ [renR (cnt fs) r], _, _, rfl, same_mut (sm3.trans s) nmd, hp_upd wmd (s _ _ w3), hp_upd plmd (s _ _ e3), RowsM.push (s _ _ m3) (hB3.mono fun _ _ e => s _ _ e) e, hR.put hf hr⟩
      walk_at "ws"
      refine ⟨p, r, rfl, r3, fun o G4 n4 s4 e4 => ?_⟩
      have hown : ∀ z ∈ ownR r, z < i := own_lt okr
      have p4 := s4 _ _ r3
      have pl4 := s4 _ _ e3
      have md4 := s4 _ _ m3
      cases r with
      | inv u =>
        have hu := hown u (List.mem_cons_self ..)
        obtain ⟨L, hL, e4'⟩ : ∃ L : List V, L.length = 1 ∧ G4 o = some (.lst L) := ⟨_, rfl, e4⟩
        clear e4
        walk_at "ws"
        rename_i _ p5 G5 n5 s5 e5 l6 G6 n6 s6 e6
        refine lc_t [V.int (u : Int)] [V.int (cnt fs u : Int)] rfl (SqT.of e6) (Nat.le_of_ble_eq_true rfl) (fun x => rfl) (fun j x y G7 Q' hx7 hy7 s7 k => ?_) (fun p7 G7 n7 s7 e7 => ?_)
        · cases j with
          | succ j => cases hx7
          | zero =>
            cases hx7
            cases hy7
            walk_at "ws"
            refine w_ixL (SqL.of (s7 _ _ (s6 _ _ (s5 _ _ pl4)))) (nats_at (by omega)) ?_
            exact k
        walk_at "ws"
        rename_i t8 G8 n8 s8 e8
        refine w_catT (SqT.of (s8 _ _ (s7 _ _ (s6 _ _ e5)))) (SqT.of e8) (fun z => by cases z) (fun z => by cases z) (Nat.le_of_ble_eq_true rfl) fun p9 G9 n9 s9 e9 => ?_
        have sA : Same G3 G9 := ((((s4.trans s5).trans s6).trans s7).trans s8).trans s9
        have md9 := sA _ _ m3
        walk_at "ws"
        exact fin p9 G9 sA e9
      | bin c u v =>
        have hu := hown u (List.mem_cons_self ..)
        have hv := hown v (List.mem_cons_of_mem _ (List.mem_cons_self ..))
        obtain ⟨L, hL, e4'⟩ : ∃ L : List V, L.length = 2 ∧ G4 o = some (.lst L) := ⟨_, rfl, e4⟩
        clear e4
        walk_at "ws"
        rename_i _ p5 G5 n5 s5 e5 l6 G6 n6 s6 e6
        refine lc_t [V.int (u : Int), V.int (v : Int)] [V.int (cnt fs u : Int), V.int (cnt fs v : Int)] rfl (SqT.of e6) (Nat.le_of_ble_eq_true rfl) (fun x => rfl) (fun j x y G7 Q' hx7 hy7 s7 k => ?_) (fun p7 G7 n7 s7 e7 => ?_)
        · have e37 := s7 _ _ (s6 _ _ (s5 _ _ pl4))
          cases j with
          | zero =>
            cases hx7
            cases hy7
            walk_at "ws"
            refine w_ixL (SqL.of e37) (nats_at (by omega)) ?_
            exact k
          | succ j =>
            cases j with
            | succ j => cases hx7
            | zero =>
              cases hx7
              cases hy7
              walk_at "ws"
              refine w_ixL (SqL.of e37) (nats_at (by omega)) ?_
              exact k
        walk_at "ws"
        rename_i t8 G8 n8 s8 e8
        refine w_catT (SqT.of (s8 _ _ (s7 _ _ (s6 _ _ e5)))) (SqT.of e8) (fun z => by cases z) (fun z => by cases z) (Nat.le_of_ble_eq_true rfl) fun p9 G9 n9 s9 e9 => ?_
        have sA : Same G3 G9 := ((((s4.trans s5).trans s6).trans s7).trans s8).trans s9
        have md9 := sA _ _ m3
        walk_at "ws"
        exact fin p9 G9 sA e9
      | lat u => exact nlr.elim
      | fix c =>
        obtain ⟨L, hL, e4'⟩ : ∃ L : List V, L.length = 0 ∧ G4 o = some (.lst L) := ⟨_, rfl, e4⟩
        clear e4
        walk_at "ws"
        exact fin p G4 s4 p4
      | inn n k =>
        obtain ⟨L, hL, e4'⟩ : ∃ L : List V, L.length = 0 ∧ G4 o = some (.lst L) := ⟨_, rfl, e4⟩
        clear e4
        walk_at "ws"
        exact fin p G4 s4 p4
  · obtain ⟨made, y5, y6, rfl, sm, ewG, ep, hM, hR⟩ := q
    rw [hpm] at ep hR
    walk_at "ws"
    refine lc_l ((natI os).map V.int) ((natI (os.map (cnt fs))).map V.int) (by rw [List.length_map, List.length_map, natI_len, natI_len, List.length_map]) (sm.seq hO) (by rw [List.length_map, natI_len]; omega) (fun x => rfl) (fun j x y G7 Q' hx7 hy7 s7 k => ?_) (fun p7 G7 n7 s7 e7 => ?_)
    · obtain ⟨z, hz, rfl⟩ := get_map hx7
      obtain ⟨u, hu, rfl⟩ := natI_get hz
      have hul := ho u (List.mem_of_getElem? hu)
      rw [natI_map, List.getElem?_map, List.getElem?_map, hu] at hy7
      cases hy7
      walk_at "ws"
      refine w_ixL (SqL.of (s7 _ _ ep)) (nats_at hul) ?_
      exact k
    walk_at "ws"
    rename_i t8 G8 n8 s8 e8
    have mp : md ≠ p7 := fun z => by
      obtain ⟨qs, eq, _⟩ := hM
      rw [← z, eq] at n7
      cases n7
    exact h fs made t8 md p7 G8 nd hR mp ((sm.trans s7).free n8) nmd (sm.free n7) ((sm.trans s7).trans s8) e8 ((hM.same s7).same s8) (s8 _ _ e7)

def sp_fewer (K : PySem.W.Frag) : Sp := fun vs H Q _ => ∃ (a b : Addr) (rs : List Row) (os : List Nat) (N : Str → Prop), vs = [.ref a, .ref b] ∧ RowsL K H a rs ∧ SqL K H b ((natI os).map V.int) ∧ RowsOk N rs ∧ NoLats rs ∧ rs.length ≤ 60000 ∧ os.length ≤ 100000 ∧ (∀ o ∈ os, o < rs.length) ∧
  ∀ (made : List Row) (os' : List Nat) t q u H', FewOk N rs os made os' → q ≠ u → H t = none → H q = none → H u = none → Same H H' → H' t = some (.tup [.ref q, .ref u]) → RowsM H' q made → H' u = some (.lst ((natI os').map V.int)) → Q (.ref t) H'
theorem ok_fewer (T : Top K mg) : FnOk P w K mg base CX0 5 T.a_fewer T.d_fewer ["rows", "outs"] (sp_fewer K) := by
  refine T.f_fewer.ok sc_fewer (fun vs H Q E h => ?_) (fun cdv A outer s H vs Q E hr h => ?_)
  · obtain ⟨a, b, rs, os, N, rfl, _⟩ := h
    rfl
  obtain ⟨a, b, rs, os, N, rfl, h⟩ := h
  refine ⟨_, (pss_cons (ps_set (i := 2) sc_fewer.nd rfl (.inl rfl) (pe_make0 T.mk_Kept (ok_Kept__init T) (hr.mono (by decide)) (by rfl) T.gc_Kept T.b_Kept__init .nil pass0))
      (pss_cons (ps_set (i := 3) sc_fewer.nd rfl (.inr rfl) (pe_lst pa_nil))
      (pss_cons (ps_for PassesOwn.never rfl (pi_list (pv 0)) (pg_name (i := 4) sc_fewer.nd rfl (.inl rfl))
      (pss_one (ps_if (pt_cmpR op_eq (pe_ix (ix_tupK K) (pv 4) pe_int (fun _ _ => rfl)) pe_str (nomark _)) (pss_one (ps_expr (pe_bm PySem.F.plainAttrs_list PySem.F.slot_list_append PySem.F.type_list_append mt_append (pv 3) (pa_cons (pe_meth (pv 2) T.cl_Kept T.m_Kept_turned (ok_Kept_turned T) (hr.mono (by decide)) T.b_Kept_turned .nil pass0 (pa_cons (pe_ix (ix_listK K) (pv 3) (pe_ix (ix_tupK K) (pv 4) pe_int (fun _ _ => rfl)) (fun _ _ => rfl)) pa_nil)) pa_nil)))) (pss_one (ps_if (pt_cmpR (op_inK K) (pe_ix (ix_tupK K) (pv 4) pe_int (fun _ _ => rfl)) (pe_tup (pa_cons pe_str (pa_cons pe_str (pa_cons pe_str pa_nil)))) (by rfl)) (pss_one (ps_expr (pe_bm PySem.F.plainAttrs_list PySem.F.slot_list_append PySem.F.type_list_append mt_append (pv 3) (pa_cons (pe_meth (pv 2) T.cl_Kept T.m_Kept_paired (ok_Kept_paired T) (hr.mono (by decide)) T.b_Kept_paired .nil pass0 (pa_cons (pe_ix (ix_tupK K) (pv 4) pe_int (fun _ _ => rfl)) (pa_cons (pe_ix (ix_listK K) (pv 3) (pe_ix (ix_tupK K) (pv 4) pe_int (fun _ _ => rfl)) (fun _ _ => rfl)) (pa_cons (pe_ix (ix_listK K) (pv 3) (pe_ix (ix_tupK K) (pv 4) pe_int (fun _ _ => rfl)) (fun _ _ => rfl)) pa_nil)))) pa_nil)))) (pss_one (ps_expr (pe_bm PySem.F.plainAttrs_list PySem.F.slot_list_append PySem.F.type_list_append mt_append (pv 3) (pa_cons (pe_meth (pv 2) T.cl_Kept T.m_Kept_wire_of (ok_Kept_wire_of T) (hr.mono (by decide)) T.b_Kept_wire_of .nil pass0 (pa_cons (pv 4) pa_nil)) pa_nil)))))))))
      (pss_one (ps_ret (pe_call (ok_renumbered T) (hr.mono (by decide)) (by rfl) T.g_renumbered T.f_renumbered.kp T.b_renumbered .nil pass0 (pa_cons (pe_fld (pv 2) rfl) (pa_cons (pe_lc (own := [("wire", 5)]) (g := gName 5) (tt := tYes) (by rfl) sc_fewer.nd (pi_list (pv 1)) (blkOk_by (N := ["rows", "outs", "kept", "new", "row", "wire"]) (sc := defScope s_fewer) (by decide +kernel)) (fun _ _ _ _ _ => (pg_name (i := 5) sc_fewer.nd rfl (.inl rfl))) (fun _ _ _ _ _ => pts_nil) (fun _ _ _ _ _ => (pe_ix (ix_listK K) (pv 3) (pv 5) (fun _ _ => rfl)))) pa_nil)))))))), ?_⟩
  try dsimp only [cxOf, Cx.nox, Cx.wish]
  simp only [L2.start, List.map_cons, List.map_nil, List.length_cons, List.length_nil, Nat.reduceAdd, Nat.reduceSub, List.replicate_succ, List.replicate_zero, List.cons_append, List.nil_append]
  obtain ⟨⟨ps, hS, hA⟩, hO, ok, nl, hlen, hol, ho, h⟩ := h
  have hpl : ps.length = rs.length := hA.1
  have hpm : (ps.map V.ref).length = rs.length := by rw [List.length_map, hpl]
  walk_at "ws"
  rename_i k dx H1 n1 nd1 s1 e1
  refine ⟨k, T.c_Kept, dx, rfl, e1, T.nc_Kept, fun r d H2 nr nd hK fr => ⟨rfl, ?_⟩⟩
  have s2 : Same H H2 := fr.same s1 (fun m hm => by rw [List.mem_singleton.mp hm]; exact n1)
  have hr0 : H r = none := s1.free nr
  have hd0 : H d = none := s1.free nd
  walk_at "ws"
  rename_i nw H3 n3 s3 e3
  have hnw0 : H nw = none := s2.free n3
  have nwr : nw ≠ r := fun z => by
    obtain ⟨_, ⟨qs, e, _⟩, _⟩ := hK
    rw [z, e] at n3
    cases n3
  have nwd : nw ≠ d := fun z => by
    obtain ⟨_, _, e⟩ := hK
    rw [z, e] at n3
    cases n3
  have c1 := T.cl_Kept
  have c2 := T.n_Kept_rows
  have s13 := s2.trans s3
  walk_at "ws"
  refine for_l (ps.map V.ref) (fun i σ' G => ∃ (ks : List Row) (new : List Nat) (y4 : Option V), σ' = [some (.ref a), some (.ref b), some (.ref k), some (.ref nw), y4, none] ∧ Same H G ∧ KeptAt K G k r d ks ∧ KOk N rs ks ∧ ks.length ≤ i ∧ G nw = some (.lst ((natI new).map V.int)) ∧ new.length = i ∧ (∀ w ∈ new, w < ks.length) ∧ ∀ (j w : Nat), new[j]? = some w → (∀ ws, bit ws ks w = bit ws rs j) ∧ dep ks w ≤ dep rs j)
    ⟨[], [], _, rfl, s2.trans s3, hK.same s3, ⟨fun i r z => (by cases z), fun r z => (by cases z), List.nodup_nil, fun r z => (by cases z), fun n k z => (by cases z)⟩, Nat.le_refl _, e3, rfl, fun w z => (by cases z), fun j w z => (by cases z)⟩ (fun i σ' G _ q => ?_) (fun i x σ' G hx q => ?_) (fun σ' G q => ?_)
  · obtain ⟨ks, new, y4, rfl, sm, _⟩ := q
    exact sm.seq hS
  · obtain ⟨ks, new, y4, rfl, sm, hK, kok, hkl, enw, hnl, hlt, hsame⟩ := q
    obtain ⟨p, hp, rfl⟩ := get_map hx
    obtain ⟨x, hr, hrow⟩ := hA.get hp
    have hi := (List.getElem?_eq_some_iff.mp hr).1
    have okr := ok i x hr
    have nlr := nl x (List.mem_of_getElem? hr)
    have hlen2 : ks.length ≤ 100000 := by omega
    have hz : ((natI new).map V.int).length ≤ 1000000 := by rw [List.length_map, natI_len]; omega
    have dn := dep_nn ok i
    obtain ⟨C, dx', hk, hC⟩ := hK.1
    obtain rfl := hC.one T.nc_Kept
    have fin : ∀ (ks' : List Row) (w : Nat) G', Grow ks ks' → KOk N rs ks' → w < ks'.length → (∀ ws, bit ws ks' w = bit ws rs i) → dep ks' w ≤ dep rs i → KeptAt K G' k r d ks' → Fr [r, d] G G' →
        ∃ (ks : List Row) (new' : List Nat) (y4 : Option V), [some (V.ref a), some (.ref b), some (.ref k), some (.ref nw), some (.ref p), none] = [some (.ref a), some (.ref b), some (.ref k), some (.ref nw), y4, none] ∧ Same H (upd G' nw (.lst ((natI new).map V.int ++ [.int (w : Int)]))) ∧ KeptAt K (upd G' nw (.lst ((natI new).map V.int ++ [.int (w : Int)]))) k r d ks ∧ KOk N rs ks ∧ ks.length ≤ i + 1 ∧ (upd G' nw (.lst ((natI new).map V.int ++ [.int (w : Int)]))) nw = some (.lst ((natI new').map V.int)) ∧ new'.length = i + 1 ∧ (∀ w ∈ new', w < ks.length) ∧ ∀ (j w : Nat), new'[j]? = some w → (∀ ws, bit ws ks w = bit ws rs j) ∧ dep ks w ≤ dep rs j :=
      fun ks' w G' g ko hw hb hd hK' f => by
        have gl := g.len
        obtain ⟨⟨C, dx2, k1, k2⟩, ⟨qs, k3, k4⟩, k5⟩ := hK'
        have enw' := f _ _ enw (by simp only [List.mem_cons, List.not_mem_nil, or_false]; rintro (z | z); exact nwr z; exact nwd z)
        refine ⟨ks', new ++ [w], _, rfl, same_mut (f.same sm (fun m hm => by rcases List.mem_cons.mp hm with z | z; rw [z]; exact hr0; rw [List.mem_singleton.mp z]; exact hd0)) hnw0, ⟨⟨C, dx2, hp_upd (ne_of k1 enw' (by intro z; cases z)) k1, k2⟩, ⟨qs, hp_upd nwr.symm k3, k4.mono fun _ _ e => hp_upd (ne_of e enw' (by intro z; cases z)) e⟩, hp_upd nwd.symm k5⟩, ko, by omega, by rw [upd_same, nat_snoc], by rw [List.length_append, hnl]; rfl, fun v hv => ?_, fun j v hv => ?_⟩
        · rcases List.mem_append.mp hv with z | z
          · exact Nat.lt_of_lt_of_le (hlt v z) gl.1
          · rw [List.mem_singleton.mp z]; exact hw
        · by_cases c : j < new.length
          · rw [List.getElem?_append_left c] at hv
            have hvl := hlt v (List.mem_of_getElem? hv)
            have := hsame j v hv
            exact ⟨fun ws => by rw [bit_grow g ws hvl]; exact this.1 ws, by rw [dep_grow g hvl]; exact this.2⟩
          · have hj := (List.getElem?_eq_some_iff.mp hv).1
            rw [List.length_append, List.length_singleton] at hj
            obtain rfl : j = new.length := by omega
            rw [List.getElem?_append_right (Nat.le_refl _), Nat.sub_self] at hv
            cases hv
            rw [hnl]
            exact ⟨hb, hd⟩
    have stay : ∀ {G'}, Fr [r, d] G G' → G' nw = some (.lst ((natI new).map V.int)) := fun f => f _ _ enw (by simp only [List.mem_cons, List.not_mem_nil, or_false]; rintro (z | z); exact nwr z; exact nwd z)
    have hrG : G p = some (.tup (rowV x)) := sm _ _ hrow
    have put : ∀ {G1 : Hp} {E : XK} {Q1 : VK}, Same G G1 → Fit N rs ks x → (∀ (w : Nat) G', G' nw = some (.lst ((natI new).map V.int)) → (∀ y4 : Option V, ∃ (ks : List Row) (new' : List Nat) (y4 : Option V), [some (V.ref a), some (.ref b), some (.ref k), some (.ref nw), some (.ref p), none] = [some (.ref a), some (.ref b), some (.ref k), some (.ref nw), y4, none] ∧ Same H (upd G' nw (.lst ((natI new).map V.int ++ [.int (w : Int)]))) ∧ KeptAt K (upd G' nw (.lst ((natI new).map V.int ++ [.int (w : Int)]))) k r d ks ∧ KOk N rs ks ∧ ks.length ≤ i + 1 ∧ (upd G' nw (.lst ((natI new).map V.int ++ [.int (w : Int)]))) nw = some (.lst ((natI new').map V.int)) ∧ new'.length = i + 1 ∧ (∀ w ∈ new', w < ks.length) ∧ ∀ (j w : Nat), new'[j]? = some w → (∀ ws, bit ws ks w = bit ws rs j) ∧ dep ks w ≤ dep rs j) → Q1 (.int (w : Int)) G') →
        (∀ ks' w, RowsOk N ks' → ks'[w]? = some x → (∀ ws, bit ws ks' w = bit ws rs i) ∧ dep ks' w ≤ dep rs i) → sp_Kept_wire_of K (.ref k :: ([.ref p] ++ [])) G1 Q1 E := fun {G1 E Q1} s1 hfit hq hb =>
      ⟨k, p, r, d, ks, rs, x, N, rfl, s1 _ _ hrG, hK.same s1, kok, hfit, hlen2, fun ks' w G' g ko hw hK' f => hq w G' (stay ((Fr.of s1).trans f)) fun _ => fin ks' w G' g ko (List.getElem?_eq_some_iff.mp hw).1 (hb ks' w ko.ok hw).1 (hb ks' w ko.ok hw).2 hK' ((Fr.of s1).trans f)⟩
    cases x with
    | inv u =>
      have hu : u < new.length := by rw [hnl]; exact okr
      have hnu := List.getElem?_eq_getElem hu
      generalize new[u] = wu at hnu
      have hwu := hlt wu (List.mem_of_getElem? hnu)
      have hs := hsame u wu hnu
      have hdo := dep_own ok hr (List.mem_cons_self ..)
      walk_at "ws"
      refine w_ixL (SqL.of enw) (nat_at hnu) ?_
      walk_at "ws"
      refine ⟨k, r, d, ks, rs, wu, N, rfl, hK, kok, hwu, hlen2, fun ks' w G' g ko hw hb hd hK' f => ?_⟩
      have enw' := stay f
      walk_at "ws"
      exact fin ks' w G' g ko hw (fun ws => by rw [hb ws]; show 1 - bit ws ks wu = bit ws rs i; rw [hs.1 ws, bit_inv ok hr]) (by omega) hK' f
    | bin o u v =>
      have hu : u < new.length := by rw [hnl]; exact okr.1
      have hv : v < new.length := by rw [hnl]; exact okr.2
      have hnu := List.getElem?_eq_getElem hu
      have hnv := List.getElem?_eq_getElem hv
      generalize new[u] = wu at hnu
      generalize new[v] = wv at hnv
      have hwu := hlt wu (List.mem_of_getElem? hnu)
      have hwv := hlt wv (List.mem_of_getElem? hnv)
      have hs := hsame u wu hnu
      have ht := hsame v wv hnv
      have hdo := dep_own ok hr (List.mem_cons_self ..)
      have hdp := dep_own ok hr (List.mem_cons_of_mem _ (List.mem_cons_self ..))
      have call : ∀ {G1 : Hp} {E : XK} {Q1 : VK}, Same G G1 → (∀ (ks' : List Row) (w : Nat) G', Grow ks ks' → KOk N rs ks' → w < ks'.length → (∀ ws, bit ws ks' w = bit ws rs i) → dep ks' w ≤ dep rs i → KeptAt K G' k r d ks' → Fr [r, d] G G' → Q1 (.int (w : Int)) G') → sp_Kept_paired K (.ref k :: ([.str (bopS o), .int (wu : Int), .int (wv : Int)] ++ [])) G1 Q1 E := fun {G1 E Q1} s1 hq =>
        ⟨k, r, d, ks, rs, o, wu, wv, N, dep rs i - 1, rfl, hK.same s1, kok, hwu, hwv, hlen2, by omega, by omega, fun ks' w G' g ko hw hb hd hK' f => hq ks' w G' g ko hw (fun ws => by rw [hb ws]; show bopI o (bit ws ks wu) (bit ws ks wv) = bit ws rs i; rw [hs.1 ws, ht.1 ws, bit_bin ok hr]) (by omega) hK' ((Fr.of s1).trans f)⟩
      cases o <;>
      · walk_at "ws"
        have enw1 := (show Same G _ by assumption) _ _ enw
        refine w_ixL (SqL.of enw1) (nat_at hnu) ?_
        walk_at "ws"
        refine w_ixL (SqL.of enw1) (nat_at hnv) ?_
        walk_at "ws"
        refine call (by assumption) fun ks' w G' g ko hw hb hd hK' f => ?_
        have enw' := stay f
        walk_at "ws"
        exact fin ks' w G' g ko hw hb hd hK' f
    | fix c =>
      walk_at "ws"
      refine put (by assumption) ⟨okr, True.intro, True.intro, fun n k e => by cases e⟩ (fun w G' enw' hq => ?_) fun ks' w ko hw => ⟨fun ws => by rw [bit_fix hw, bit_fix hr], dep_le_of ko hw dn fun a z => by cases z⟩
      walk_at "ws"
      exact hq none
    | inn n j =>
      walk_at "ws"
      refine put (by assumption) ⟨okr, True.intro, True.intro, fun n k e => List.mem_of_getElem? hr⟩ (fun w G' enw' hq => ?_) fun ks' w ko hw => ⟨fun ws => by rw [bit_inn hw, bit_inn hr], dep_le_of ko hw dn fun a z => by cases z⟩
      walk_at "ws"
      exact hq none
    | lat u => exact nlr.elim
  · obtain ⟨ks, new, y4, rfl, sm, hK, kok, hkl, enw, hnl, hlt, hsame⟩ := q
    rw [hpm] at hkl hnl
    obtain ⟨⟨C, dx', hk, hC⟩, hM, hd⟩ := hK
    obtain rfl := hC.one T.nc_Kept
    walk_at "ws"
    refine lc_l ((natI os).map V.int) ((natI (os.map fun o => new.getD o 0)).map V.int) (by rw [List.length_map, List.length_map, natI_len, natI_len, List.length_map]) (sm.seq hO) (by rw [List.length_map, natI_len]; omega) (fun x => rfl) (fun j x y G7 Q' hx7 hy7 s7 k => ?_) (fun p7 G7 n7 s7 e7 => ?_)
    · obtain ⟨z, hz, rfl⟩ := get_map hx7
      obtain ⟨u, hu, rfl⟩ := natI_get hz
      have hul := ho u (List.mem_of_getElem? hu)
      have hnu := List.getElem?_eq_getElem (show u < new.length by omega)
      rw [natI_map, List.getElem?_map, List.getElem?_map, hu] at hy7
      cases hy7
      walk_at "ws"
      refine w_ixL (SqL.of (s7 _ _ enw)) (nat_at hnu) ?_
      have e : new.getD u 0 = new[u] := by rw [List.getD_eq_getElem?_getD, hnu]; rfl
      rw [← e]
      exact k
    walk_at "ws"
    refine ⟨r, p7, ks, _, N, rfl, (hM.same s7).read, SqL.of e7, kok.ok, kok.nl, by omega, by rw [List.length_map]; exact hol, fun w hw => ?_, fun fs made t q u H' nd hR qu nt nq nu s et eq eu => ?_⟩
    · obtain ⟨o, h1, rfl⟩ := List.mem_map.mp hw
      have hnu := List.getElem?_eq_getElem (show o < new.length by have := ho o h1; omega)
      rw [List.getD_eq_getElem?_getD, hnu]
      exact hlt _ (List.mem_of_getElem? hnu)
    · exact h made _ t q u H' (few_of kok (by omega) hlt (fun o h1 => by have := ho o h1; omega) hsame rfl nd hR) qu ((sm.trans s7).free nt) ((sm.trans s7).free nq) ((sm.trans s7).free nu) ((sm.trans s7).trans s) et eq eu

/-! outs drawn -/
theorem small_bits {j : Int} (h : 0 ≤ j ∧ j ≤ 1000) : Builtin.Int.intBits j ≤ 1048576 := by
  refine Nat.le_trans ((ib_le h.1 10).mpr ?_) (by decide)
  have : (2 : Int) ^ 10 = 1024 := by decide
  omega
theorem add_bits {c j : Int} (hc : Builtin.Int.intBits c ≤ 1048576) (h : 0 ≤ j ∧ j ≤ 1000) : Builtin.Int.intBits (c + j) ≤ 1048577 := bits_add hc (small_bits h)
theorem rg_nat {n : Nat} : rgV 0 (n : Int) = (natI (List.range n)).map V.int := by
  unfold rgV natI
  rw [show ((n : Int) - 0).toNat = n by omega, List.map_map]
  refine List.map_congr_left fun i _ => ?_
  show V.int (0 + (i : Nat)) = V.int (i : Int)
  rw [Int.zero_add]
def LsB (Q : VK) (a b : Int) (H1 : Hp) : Prop := RgOk a b ∧ ∀ q, H1 q = none → Q (.ref q) (upd H1 q (.lst (rgV a b)))
theorem w_lrg {te : L2.St → Hp → (Int → Int → Hp → Prop) → Prop} {σ : L2.St} {H : Hp} {Q : VK} (h : te σ H (LsB Q)) : tLstRg te σ H Q := h
theorem w_LsB {Q : VK} {n : Nat} {H : Hp} (hn : n ≤ 1000000) (q : ∀ p H', H p = none → Same H H' → H' p = some (.lst ((natI (List.range n)).map V.int)) → Q (.ref p) H') : LsB Q 0 (n : Int) H :=
  ⟨RgOk.of_le (by decide) (by omega) (by decide) (by omega), fun p hp => by rw [rg_nat]; exact q p _ hp (same_upd hp) upd_same⟩
local macro_rules | `(tactic| walk_at "w1") => `(tactic| first
  | with_reducible refine w_lrg ?_
  | ((with_reducible refine w_LsB ?_ ?_); omega; intro _ _ _ _ _))
def sp_law_outs (K : PySem.W.Frag) : Sp := fun vs H Q _ => ∃ (a : Addr) (xs : List V) (c : Int), vs = [.ref a, .int c] ∧ SqL K H a xs ∧ xs.length ≤ 1000 ∧ Builtin.Int.intBits c ≤ 1048576 ∧
  ∀ (os : List Nat) p H', (∀ o ∈ os, o < xs.length) → os.length ≤ 1000 → H p = none → Same H H' → H' p = some (.lst ((natI os).map V.int)) → Q (.ref p) H'
theorem ok_law_outs (T : Top K mg) : FnOk P w K mg base CX0 2 T.a_law_outs T.d_law_outs ["_law_rows_here", "_law_cell"] (sp_law_outs K) := by
  refine T.f_law_outs.ok sc_law_outs (fun vs H Q E h => ?_) (fun cdv A outer s H vs Q E hr h => ?_)
  · obtain ⟨a, xs, c, rfl, _⟩ := h
    rfl
  obtain ⟨a, xs, c, rfl, h⟩ := h
  refine ⟨_, (pss_cons (ps_if (pt_cmpR op_eq (pe_callB (c_lenK K) (by rfl) T.z_len PySem.boot_len (pa_cons (pv 0) pa_nil)) pe_int (nomark _)) (pss_one (ps_ret (pe_lst pa_nil))) pss_nil)
      (pss_cons (ps_setLc (i := 2) (own := [("_law_k", 3)]) (g := gName 3) (tt := tYes) (by rfl) sc_law_outs.nd rfl rfl (sw_true rfl rfl rfl (by decide +kernel)) (pi_range1 (by rfl) T.z_range (pa_cons (pe_op op_mod (pv 1) pe_int) pa_nil)) (blkOk_by (N := ["_law_rows_here", "_law_cell", "_law_outs_here", "_law_k"]) (sc := defScope s_law_outs) (by decide +kernel)) (fun _ _ _ _ _ => (pg_name (i := 3) sc_law_outs.nd rfl (.inl rfl))) (fun _ _ _ _ _ => pts_nil) (fun _ _ _ _ _ => (pe_op op_mod (pe_call (ok_law_mixed T) (hr.mono (by decide)) (by rfl) T.g_law_mixed T.f_law_mixed.kp T.b_law_mixed .nil pass0 (pa_cons (pe_op op_add (pv 1) (pv 3)) (pa_cons (pe_op op_add (pv 3) pe_int) pa_nil))) (pe_callB (c_lenK K) (by rfl) T.z_len PySem.boot_len (pa_cons (pv 0) pa_nil)))))
      (Evl.pss_cut (ps_if (pt_cmpR op_eq (pe_op op_mod (pe_op op_fdiv (pv 1) pe_int) pe_int) pe_int (nomark _)) (pss_one (ps_expr (pe_bm PySem.F.plainAttrs_list PySem.F.slot_list_append PySem.F.type_list_append mt_append (pv 2) (pa_cons (pe_op op_sub (pe_callB (c_lenK K) (by rfl) T.z_len PySem.boot_len (pa_cons (pv 0) pa_nil)) pe_int) pa_nil)))) pss_nil)
      (Evl.pss_cut (ps_if (pt_cmpR op_eq (pe_op op_mod (pe_op op_fdiv (pv 1) pe_int) pe_int) pe_int (nomark _)) (pss_one (ps_set (i := 2) sc_law_outs.nd rfl (.inl rfl) (pe_op op_cat (pv 2) (pe_slice sl_list (pv 2) po_none (po_some pe_int))))) pss_nil)
      (pss_cons (ps_if (pt_cmpR op_eq (pe_op op_mod (pe_op op_fdiv (pv 1) pe_int) pe_int) pe_int (nomark _)) (pss_one (ps_set (i := 2) sc_law_outs.nd rfl (.inl rfl) (pe_listRg rfl (by rfl) T.z_list (prg_1 (by rfl) T.z_range (pe_callB (c_lenK K) (by rfl) T.z_len PySem.boot_len (pa_cons (pv 0) pa_nil)))))) pss_nil)
      (pss_one (ps_ret (pv 2)))))))), ?_⟩
  try dsimp only [cxOf, Cx.nox, Cx.wish]
  simp only [L2.start, List.map_cons, List.map_nil, List.length_cons, List.length_nil, Nat.reduceAdd, Nat.reduceSub, List.replicate_succ, List.replicate_zero, List.cons_append, List.nil_append]
  obtain ⟨hS, hl, hc, h⟩ := h
  walk_at "ws"
  · exact h [] _ _ (fun o z => by cases z) (by decide) (by assumption) (by assumption) (by assumption)
  have hpos : 0 < xs.length := by omega
  refine lc_rx (lo := 0) (fun y => ∃ z : Nat, y = .int (z : Int) ∧ z < xs.length) (by omega) (fun x => rfl) (fun i H' Q' hi s1 q => ?_) (fun ys p H1 hyl hP n1 s1 e1 => ?_)
  · rw [Int.zero_add]
    have hci := add_bits hc (j := (i : Int)) (by omega)
    walk_at "ws"
    rename_i v v0 v1
    have m0 : 0 ≤ v % (xs.length : Int) := Int.emod_nonneg _ (by omega)
    have m1 : v % (xs.length : Int) < (xs.length : Int) := Int.emod_lt_of_pos _ (by omega)
    obtain ⟨z, hz⟩ := Int.eq_ofNat_of_zero_le m0
    rw [hz]
    exact q _ ⟨z, rfl, by omega⟩
  obtain ⟨os, rfl, ho⟩ := all_map (f := fun (z : Nat) => V.int (z : Int)) (R := fun z => z < xs.length) hP
  rw [List.length_map] at hyl
  rw [← natI_map] at e1
  have hl5 : os.length ≤ 5 := by omega
  have hS1 := s1.seq hS
  refine w_cut (fun σ' G => ∃ (os : List Nat) (y3 : Option V), σ' = [some (.ref a), some (.int c), some (.ref p), y3] ∧ Same H G ∧ G p = some (.lst ((natI os).map V.int)) ∧ (∀ o ∈ os, o < xs.length) ∧ os.length ≤ 6) ?_ fun σ' G k => ?_
  · have hz : ((natI os).map V.int).length ≤ 1000 := by rw [List.length_map, natI_len]; omega
    walk_at "ws"
    · refine ⟨os ++ [xs.length - 1], _, rfl, same_mut s1 n1, ?_, fun o z => ?_, ?_⟩
      · rw [upd_same, ← nat_snoc, show ((xs.length : Nat) : Int) - 1 = ((xs.length - 1 : Nat) : Int) by omega]
      · rcases List.mem_append.mp z with z | z
        · exact ho o z
        · rw [List.mem_singleton.mp z]; omega
      · rw [List.length_append, List.length_singleton]; omega
    · exact ⟨os, _, rfl, s1, e1, ho, by omega⟩
  obtain ⟨os2, y3, rfl, s2, e2, ho2, hl2⟩ := k
  refine w_cut (fun σ' G => ∃ (os : List Nat) (y3 : Option V) (pp : Addr), σ' = [some (.ref a), some (.int c), some (.ref pp), y3] ∧ H pp = none ∧ Same H G ∧ G pp = some (.lst ((natI os).map V.int)) ∧ (∀ o ∈ os, o < xs.length) ∧ os.length ≤ 100) ?_ fun σ' G k => ?_
  · have hz : ((natI os2).map V.int).length ≤ 6 := by rw [List.length_map, natI_len]; omega
    walk_at "ws"
    · have := cutV_le ((natI os2).map V.int) none (some 1) hz
      omega
    · rename_i pc Gc nc sc ec
      intro pd Gd nd sd ed
      have e3 : cutV ((natI os2).map V.int) none (some 1) = (natI (os2.take 1)).map V.int := by
        rw [show (1 : Int) = ((1 : Nat) : Int) from rfl, cut_upto]
        unfold natI
        rw [List.map_take, List.map_take]
      rw [e3, ← List.map_append, show natI os2 ++ natI (os2.take 1) = natI (os2 ++ os2.take 1) by unfold natI; rw [List.map_append]] at ed
      refine ⟨os2 ++ os2.take 1, _, pd, rfl, (s2.trans sc).free nd, (s2.trans sc).trans sd, ed, fun o z => ?_, ?_⟩
      · rcases List.mem_append.mp z with z | z
        · exact ho2 o z
        · exact ho2 o (List.mem_of_mem_take z)
      · rw [List.length_append, List.length_take]; omega
    · exact ⟨os2, _, p, rfl, n1, s2, e2, ho2, by omega⟩
  obtain ⟨os3, y3, pp, rfl, n3, s3, e3, ho3, hl3⟩ := k
  walk_at "ws"
  · rename_i pq Gq nq sq eq
    exact h (List.range xs.length) pq Gq (fun o z => List.mem_range.mp z) (by rw [List.length_range]; exact hl) (s3.free nq) (s3.trans sq) eq
  · exact h os3 pp _ ho3 (by omega) n3 s3 e3

/-! what is looked at of new rows -/
theorem lc_none {K : PySem.W.Frag} {σ : L2.St} {H : Hp} {Q : VK} {tt : TT} {te : TE} {vs : List Nat} {a : Addr} {j : Nat} (xs : List V) (hS : SqL K H a xs) (hw : ∀ x, wipe ((wipe σ vs).set j (some x)) vs = wipe σ vs)
    (he : ∀ (i : Nat) x H' (QB : Bool → Hp → Prop), xs[i]? = some x → Same H H' → QB false H' → tt ((wipe σ vs).set j (some x)) H' QB)
    (q : ∀ p H', H p = none → Same H H' → H' p = some (.lst []) → Q (.ref p) H') : LcB (Itl K a) (gName j) tt te vs σ Q H := fun p hp =>
  lc_list (xs := xs) (fun i H' => H' = upd H p (.lst [])) rfl (fun i H' _ e => by
    subst e
    exact (same_upd hp).seq hS) (fun i x H' hx e => by
    subst e
    show wipe ((wipe σ vs).set j (some x)) vs = wipe σ vs ∧ tt ((wipe σ vs).set j (some x)) (upd H p (.lst []))
      (fun b H3 => if b = true then te ((wipe σ vs).set j (some x)) H3 (fun y H4 => ∃ acc, H4 p = some (.lst acc) ∧ acc.length < sizeLine ∧ upd H4 p (.lst (acc ++ [y])) = upd H p (.lst [])) else H3 = upd H p (.lst []))
    exact ⟨hw _, he i x _ _ hx (same_upd hp) (w_itF rfl)⟩) fun H' e => by
    subst e
    exact q p _ hp (same_upd hp) upd_same
theorem w_pts {t : TT} {u : TT} {σ : L2.St} {H : Hp} {QB : Bool → Hp → Prop} (h : t σ H QB) : t σ H QB := h
theorem w_lenT2 {K : PySem.W.Frag} {H : Hp} {Q : VK} {p : Addr} {x y : V} (h : SqT K H p [x, y]) (q : Q (.int 2) H) : rLen K [.ref p] H Q := ⟨p, _, rfl, .inr h, q⟩
theorem w_lenT3 {K : PySem.W.Frag} {H : Hp} {Q : VK} {p : Addr} {x y z : V} (h : SqT K H p [x, y, z]) (q : Q (.int 3) H) : rLen K [.ref p] H Q := ⟨p, _, rfl, .inr h, q⟩
local macro_rules | `(tactic| walk_at "w1") => `(tactic| first
  | ((with_reducible apply w_lenT2); (walk_at "sq"))
  | ((with_reducible apply w_lenT3); (walk_at "sq")))
theorem room65 {k : Nat} {A : Around} (hr : Room k A) : A.units + 65 < cLine := by
  have := hr.un
  omega
theorem op_inDK {X : Cx} (hu : X.A.units + 65 < cLine) (K : PySem.W.Frag) (e : X.K = K := by rfl) : OpR X (compareOp .In) (rInD K) := by subst e; exact op_inD hu
theorem w_inD {K : PySem.W.Frag} {H : Hp} {Q : VK} {x y : V} {d : PyData} {ds : List PyData} (hx : Dp K H x d) (hy : Dp K H y (.list ds)) (sd : SeqAt.shaped d = true) (se : SeqAt.shaped (.list ds) = true) (m : d ∈ ds) (q : Q (.bl true) H) : rInD K x y H Q :=
  ⟨d, ds, hx, hy, sd, se, by
    have e : (ds.any fun z => PyData.eqv z d) = true := List.any_eq_true.mpr ⟨d, m, SeqAt.eqv_refl d (SeqAt.canLay_of_shaped sd)⟩
    rw [e]
    exact q⟩
theorem shaped_row {r : Row} (h : NmOk r) : SeqAt.shaped (rowD r) = true := by
  unfold SeqAt.shaped
  rw [lay_row h, Bool.true_and]
  have := depth_row r
  exact decide_eq_true (by omega)
def sp_law_wire (K : PySem.W.Frag) : Sp := fun vs H Q _ => ∃ (x n : Int), vs = [.int x, .int n] ∧ 0 ≤ x ∧ x < n ∧ Q (.bl true) H
theorem ok_law_wire (T : Top K mg) : FnOk P w K mg base CX0 2 T.a_law_wire T.d_law_wire ["_law_found", "_law_at_here"] (sp_law_wire K) := by
  refine T.f_law_wire.ok sc_law_wire (fun vs H Q E h => ?_) (fun cdv A outer s H vs Q E hr h => ?_)
  · obtain ⟨x, n, rfl, _⟩ := h
    rfl
  obtain ⟨x, n, rfl, h⟩ := h
  refine ⟨_, (pss_one (ps_ret (pe_and (pe_call (ok_law_whole T) (hr.mono (by decide)) (by rfl) T.g_law_whole T.f_law_whole.kp T.b_law_whole .nil pass0 (pa_cons (pv 0) pa_nil)) (pe_and (pe_cmpR op_le pe_int (pv 0) (nomark _)) (pe_one (pe_cmpR op_lt (pv 0) (pv 1) (nomark _))))))), ?_⟩
  try dsimp only [cxOf, Cx.nox, Cx.wish]
  simp only [L2.start, List.map_cons, List.map_nil, List.length_cons, List.length_nil, Nat.reduceAdd, Nat.reduceSub, List.replicate_succ, List.replicate_zero, List.cons_append, List.nil_append]
  obtain ⟨h0, h1, h⟩ := h
  walk_at "ws"
  rw [decide_eq_true h1]
  exact h
theorem use_wire {x n : Int} {H : Hp} {Q : VK} {E : XK} (h0 : 0 ≤ x ∧ x < n) (h : Q (.bl true) H) : sp_law_wire K ([.int x, .int n] ++ []) H Q E := ⟨x, n, rfl, h0.1, h0.2, h⟩
local macro_rules | `(tactic| walk_at "w1") => `(tactic| ((with_reducible refine use_wire ?_ ?_); omega))
def sp_law_fine_row (K : PySem.W.Frag) : Sp := fun vs H Q _ => ∃ (p a : Addr) (i : Nat) (r : Row) (old : List Row) (N : Str → Prop), vs = [.ref p, .int (i : Int), .ref a] ∧ RowAt H p r ∧ RowsL K H a old ∧ RowOk N i r ∧ noLat r ∧ (∀ n k, r = .inn n k → r ∈ old) ∧ (∀ x ∈ old, NmOk x) ∧ ∀ H', Same H H' → Q (.bl true) H'
theorem ok_law_fine_row (T : Top K mg) : FnOk P w K mg base CX0 3 T.a_law_fine_row T.d_law_fine_row ["_law_row", "_law_at_here", "_law_ins"] (sp_law_fine_row K) := by
  refine T.f_law_fine_row.ok sc_law_fine_row (fun vs H Q E h => ?_) (fun cdv A outer s H vs Q E hr h => ?_)
  · obtain ⟨p, a, i, r, old, N, rfl, _⟩ := h
    rfl
  obtain ⟨p, a, i, r, old, N, rfl, h⟩ := h
  refine ⟨_, (pss_cons (ps_if (PW.pt (pw_or (pt_not (pt_val (pe_callB (c_isiK K) (by rfl) T.z_isinstance (by decide +kernel) (pa_cons (pv 0) (pa_cons (pe_bltn (v := .ty "tuple") (by rfl) T.z_tuple (by decide +kernel) rfl) pa_nil))))) (pw_or (pt_cmpR op_lt (pe_callB (c_lenK K) (by rfl) T.z_len PySem.boot_len (pa_cons (pv 0) pa_nil)) pe_int (nomark _)) (pw_or1 (pt_not (pt_val (pe_callB (c_isiK K) (by rfl) T.z_isinstance (by decide +kernel) (pa_cons (pe_ix (ix_tupK K) (pv 0) pe_int (fun _ _ => rfl)) (pa_cons (pe_bltn (v := .ty "str") (by rfl) T.z_str (by decide +kernel) rfl) pa_nil))))))))) (pss_one (ps_ret pe_bl)) pss_nil)
      (pss_cons (ps_if (pt_cmpR op_eq (pe_ix (ix_tupK K) (pv 0) pe_int (fun _ _ => rfl)) pe_str (nomark _)) (pss_one (ps_ret (pe_and (pe_cmpR op_eq (pe_callB (c_lenK K) (by rfl) T.z_len PySem.boot_len (pa_cons (pv 0) pa_nil)) pe_int (nomark _)) (pe_and (pe_call (ok_law_whole T) (hr.mono (by decide)) (by rfl) T.g_law_whole T.f_law_whole.kp T.b_law_whole .nil pass0 (pa_cons (pe_ix (ix_tupK K) (pv 0) pe_int (fun _ _ => rfl)) pa_nil)) (pe_one (pe_or (pe_cmpR op_eq (pe_ix (ix_tupK K) (pv 0) pe_int (fun _ _ => rfl)) pe_int (nomark _)) (pe_one (pe_cmpR op_eq (pe_ix (ix_tupK K) (pv 0) pe_int (fun _ _ => rfl)) pe_int (nomark _))))))))) pss_nil)
      (pss_cons (ps_if (pt_cmpR op_eq (pe_ix (ix_tupK K) (pv 0) pe_int (fun _ _ => rfl)) pe_str (nomark _)) (pss_one (ps_ret (pe_and (pe_cmpR (op_inDK (room65 hr) K) (pv 0) (pv 2) (by rfl)) (pe_and (pe_callB (c_isiK K) (by rfl) T.z_isinstance (by decide +kernel) (pa_cons (pe_ix (ix_tupK K) (pv 0) pe_int (fun _ _ => rfl)) (pa_cons (pe_bltn (v := .ty "str") (by rfl) T.z_str (by decide +kernel) rfl) pa_nil))) (pe_one (pe_call (ok_law_whole T) (hr.mono (by decide)) (by rfl) T.g_law_whole T.f_law_whole.kp T.b_law_whole .nil pass0 (pa_cons (pe_ix (ix_tupK K) (pv 0) pe_int (fun _ _ => rfl)) pa_nil))))))) pss_nil)
      (pss_cons (ps_if (pt_cmpR op_eq (pe_ix (ix_tupK K) (pv 0) pe_int (fun _ _ => rfl)) pe_str (nomark _)) (pss_one (ps_ret (pe_and (pe_cmpR op_eq (pe_callB (c_lenK K) (by rfl) T.z_len PySem.boot_len (pa_cons (pv 0) pa_nil)) pe_int (nomark _)) (pe_one (pe_call (ok_law_wire T) (hr.mono (by decide)) (by rfl) T.g_law_wire T.f_law_wire.kp T.b_law_wire .nil pass0 (pa_cons (pe_ix (ix_tupK K) (pv 0) pe_int (fun _ _ => rfl)) (pa_cons (pv 1) pa_nil))))))) pss_nil)
      (pss_cons (ps_if (pt_cmpR (op_inK K) (pe_ix (ix_tupK K) (pv 0) pe_int (fun _ _ => rfl)) (pe_lst (pa_cons pe_str (pa_cons pe_str (pa_cons pe_str pa_nil)))) (by rfl)) (pss_one (ps_ret (pe_and (pe_cmpR op_eq (pe_callB (c_lenK K) (by rfl) T.z_len PySem.boot_len (pa_cons (pv 0) pa_nil)) pe_int (nomark _)) (pe_and (pe_call (ok_law_wire T) (hr.mono (by decide)) (by rfl) T.g_law_wire T.f_law_wire.kp T.b_law_wire .nil pass0 (pa_cons (pe_ix (ix_tupK K) (pv 0) pe_int (fun _ _ => rfl)) (pa_cons (pv 1) pa_nil))) (pe_one (pe_call (ok_law_wire T) (hr.mono (by decide)) (by rfl) T.g_law_wire T.f_law_wire.kp T.b_law_wire .nil pass0 (pa_cons (pe_ix (ix_tupK K) (pv 0) pe_int (fun _ _ => rfl)) (pa_cons (pv 1) pa_nil)))))))) pss_nil)
      (pss_one (ps_ret pe_bl))))))), ?_⟩
  try dsimp only [cxOf, Cx.nox, Cx.wish]
  simp only [L2.start, List.map_cons, List.map_nil, List.length_cons, List.length_nil, Nat.reduceAdd, Nat.reduceSub, List.replicate_succ, List.replicate_zero, List.cons_append, List.nil_append]
  obtain ⟨hp, ⟨ps, hS, hA⟩, ok, nl, hin, hnm, h⟩ := h
  have hp0 := hp
  unfold RowAt at hp
  cases r with
  | fix b =>
    have hb : b = 0 ∨ b = 1 := ok
    have e0 : decide (V.int 1 = V.int 1) = true := decide_eq_true rfl
    rcases hb with rfl | rfl
    · walk_at "ws"
      exact h _ (Same.refl _)
    · walk_at "ws"
      rw [e0]
      exact h _ (Same.refl _)
  | inn n k =>
    have hm := hin n k rfl
    walk_at "ws"
    refine w_inD (dp_row hp0) (.lst hS (dp_rows hA)) (shaped_row (hnm _ hm)) (shaped_rows hnm) (List.mem_map.mpr ⟨_, hm, rfl⟩) ?_
    walk_at "ws"
    exact h _ (Same.refl _)
  | inv u =>
    have hu : u < i := ok
    walk_at "ws"
    exact h _ (Same.refl _)
  | bin o u v =>
    have hu := ok.1
    have hv := ok.2
    cases o <;> (walk_at "ws"; exact h _ (by assumption))
  | lat u => exact nl.elim
def sp_law_fine (K : PySem.W.Frag) : Sp := fun vs H Q _ => ∃ (t q u a : Addr) (made : List Row) (os : List Nat) (old : List Row) (m : Nat) (N : Str → Prop), vs = [.ref t, .ref a, .int (m : Int)] ∧ H t = some (.tup [.ref q, .ref u]) ∧ RowsM H q made ∧ H u = some (.lst ((natI os).map V.int)) ∧ RowsL K H a old ∧ KOk N old made ∧ (∀ o ∈ os, o < made.length) ∧ os.length = m ∧ made.length ≤ 100000 ∧ (∀ x ∈ old, NmOk x) ∧
  ∀ H', Same H H' → Q (.bl true) H'
theorem ok_law_fine (T : Top K mg) : FnOk P w K mg base CX0 4 T.a_law_fine T.d_law_fine ["_law_found", "_law_ins", "_law_many"] (sp_law_fine K) := by
  refine T.f_law_fine.ok sc_law_fine (fun vs H Q E h => ?_) (fun cdv A outer s H vs Q E hr h => ?_)
  · obtain ⟨t, q, u, a, made, os, old, m, N, rfl, _⟩ := h
    rfl
  obtain ⟨t, q, u, a, made, os, old, m, N, rfl, h⟩ := h
  refine ⟨_, (pss_cons (ps_if (PW.pt (pw_or (pt_not (pt_val (pe_callB (c_isiK K) (by rfl) T.z_isinstance (by decide +kernel) (pa_cons (pv 0) (pa_cons (pe_bltn (v := .ty "tuple") (by rfl) T.z_tuple (by decide +kernel) rfl) pa_nil))))) (pw_or1 (pt_cmpR op_ne (pe_callB (c_lenK K) (by rfl) T.z_len PySem.boot_len (pa_cons (pv 0) pa_nil)) pe_int (nomark _))))) (pss_one (ps_ret pe_bl)) pss_nil)
      (pss_cons (ps_if (PW.pt (pw_or (pt_not (pt_val (pe_callB (c_isiK K) (by rfl) T.z_isinstance (by decide +kernel) (pa_cons (pe_ix (ix_tupK K) (pv 0) pe_int (fun _ _ => rfl)) (pa_cons (pe_bltn (v := .ty "list") (by rfl) T.z_list (by decide +kernel) rfl) pa_nil))))) (pw_or (pt_not (pt_val (pe_callB (c_isiK K) (by rfl) T.z_isinstance (by decide +kernel) (pa_cons (pe_ix (ix_tupK K) (pv 0) pe_int (fun _ _ => rfl)) (pa_cons (pe_bltn (v := .ty "list") (by rfl) T.z_list (by decide +kernel) rfl) pa_nil))))) (pw_or1 (pt_cmpR op_ne (pe_callB (c_lenK K) (by rfl) T.z_len PySem.boot_len (pa_cons (pe_ix (ix_tupK K) (pv 0) pe_int (fun _ _ => rfl)) pa_nil)) (pv 2) (nomark _)))))) (pss_one (ps_ret pe_bl)) pss_nil)
      (pss_cons (ps_for PassesOwn.never rfl (pi_range1 (by rfl) T.z_range (pa_cons (pe_callB (c_lenK K) (by rfl) T.z_len PySem.boot_len (pa_cons (pe_ix (ix_tupK K) (pv 0) pe_int (fun _ _ => rfl)) pa_nil)) pa_nil)) (pg_name (i := 3) sc_law_fine.nd rfl (.inl rfl))
      (pss_one (ps_if (pt_not (pt_val (pe_call (ok_law_fine_row T) (hr.mono (by decide)) (by rfl) T.g_law_fine_row T.f_law_fine_row.kp T.b_law_fine_row .nil pass0 (pa_cons (pe_ix (ix_listK K) (pe_ix (ix_tupK K) (pv 0) pe_int (fun _ _ => rfl)) (pv 3) (fun _ _ => rfl)) (pa_cons (pv 3) (pa_cons (pv 1) pa_nil)))))) (pss_one (ps_ret pe_bl)) pss_nil)))
      (pss_one (ps_ret (pe_cmpR op_eq (pe_callB (c_lenK K) (by rfl) T.z_len PySem.boot_len (pa_cons (pe_lc (own := [("_law_wire_here", 4)]) (g := gName 4) (by rfl) sc_law_fine.nd (pi_list (pe_ix (ix_tupK K) (pv 0) pe_int (fun _ _ => rfl))) (blkOk_by (N := ["_law_found", "_law_ins", "_law_many", "_law_at_here", "_law_wire_here"]) (sc := defScope s_law_fine) (by decide +kernel)) (fun _ _ _ _ _ => (pg_name (i := 4) sc_law_fine.nd rfl (.inl rfl))) (fun _ _ _ _ _ => (pts_one (pt_not (pt_val (pe_call (ok_law_wire T) (hr.mono (by decide)) (by rfl) T.g_law_wire T.f_law_wire.kp T.b_law_wire .nil pass0 (pa_cons (pv 4) (pa_cons (pe_callB (c_lenK K) (by rfl) T.z_len PySem.boot_len (pa_cons (pe_ix (ix_tupK K) (pv 0) pe_int (fun _ _ => rfl)) pa_nil)) pa_nil))))))) (fun _ _ _ _ _ => (pv 4))) pa_nil)) pe_int (nomark _))))))), ?_⟩
  try dsimp only [cxOf, Cx.nox, Cx.wish]
  simp only [L2.start, List.map_cons, List.map_nil, List.length_cons, List.length_nil, Nat.reduceAdd, Nat.reduceSub, List.replicate_succ, List.replicate_zero, List.cons_append, List.nil_append]
  obtain ⟨ht, ⟨ps, hq, hA⟩, hu, hO, kok, ho, hm, hl, hnm, h⟩ := h
  have hpl := hA.1
  have hpm : (ps.map V.ref).length = made.length := by rw [List.length_map, hpl]
  have hom : ((natI os).map V.int).length = m := by rw [List.length_map, natI_len, hm]
  walk_at "ws"
  refine for_r (fun i σ' G => ∃ y3, σ' = [some (.ref t), some (.ref a), some (.int (m : Int)), y3, none] ∧ Same H G) ⟨_, rfl, Same.refl _⟩ (fun i σ' G hi k => ?_) (fun σ' G k => ?_)
  · obtain ⟨y3, rfl, sm⟩ := k
    have hi' : i < made.length := by omega
    have hr := List.getElem?_eq_getElem hi'
    generalize made[i] = r at hr
    obtain ⟨p, hp, hrow⟩ := hA.get2 hr
    have ht' := sm _ _ ht
    have hq' := sm _ _ hq
    walk_at "ws"
    refine w_ixL (SqL.of hq') (ref_at hp) ?_
    walk_at "ws"
    refine ⟨p, a, i, r, old, N, rfl, sm _ _ hrow, hO.same sm, kok.ok i r hr, kok.nl r (List.mem_of_getElem? hr), fun n k e => by rw [e] at hr ⊢; exact kok.ins n k (List.mem_of_getElem? hr), hnm, fun G2 s2 => ?_⟩
    walk_at "ws"
    exact ⟨_, rfl, sm.trans s2⟩
  · obtain ⟨y3, rfl, sm⟩ := k
    have ht' := sm _ _ ht
    have hq' := sm _ _ hq
    have hu' := sm _ _ hu
    walk_at "ws"
    refine lc_none ((natI os).map V.int) (SqL.of hu') (fun x => rfl) (fun j x G' QB hx s1 k => ?_) (fun p1 G1 n1 s1 e1 => ?_)
    · obtain ⟨z, hz, rfl⟩ := get_map hx
      obtain ⟨w, hw, rfl⟩ := natI_get hz
      have hwl := ho w (List.mem_of_getElem? hw)
      have ht2 := s1 _ _ ht'
      have hq2 := s1 _ _ hq'
      walk_at "ws"
      exact k
    walk_at "ws"
    exact h _ (sm.trans s1)

theorem name_str {n : Str} (h : NameOk n) : PyData.strOk n = true := by
  show (n.cps.all fun x => decide (x < 0x110000)) = true
  rw [← Array.all_toList, List.all_eq_true]
  intro c hc
  have := h.2 c hc
  unfold letter at this
  exact decide_eq_true (by omega)
theorem rows_named {nm : List Str} {rs : List Row} (hn : ∀ x ∈ nm, NameOk x) (h : RowsOk (· ∈ nm) rs) : ∀ r ∈ rs, NmOk r := by
  intro r hr
  obtain ⟨i, hi⟩ := List.mem_iff_getElem?.mp hr
  have ok := h i r hi
  cases r with
  | inn n k => exact name_str (hn _ ok.1)
  | _ => exact True.intro

/-! rows formed as told -/
theorem w_DPutI {D : Ends} {σ : L2.St} {H : Hp} {a : Addr} {kvs : List (Key × V)} {i : Int} {v : V} (e : H a = some (.dK kvs)) (hl : kvs.length ≤ 1000000) (q : D.nx σ (upd H a (.dK (putK kvs (Sum.inl i) v)))) : DPutB D σ v (.ref a) (.int i) H :=
  ⟨a, _, rfl, .k (k := Sum.inl i) e (Nat.lt_of_le_of_lt hl (by rw [sizeLine_eq]; decide)), q⟩
theorem w_NInI0 {H : Hp} {QB : Bool → Hp → Prop} {a : Addr} {kvs : List (Key × V)} {i : Int} (e : H a = some (.dK kvs)) (s : (valV kvs (Sum.inl i)).isSome = true) (q : QB false H) : NInB QB (.int i) (.ref a) H :=
  ⟨a, valV kvs (Sum.inl i), rfl, DGet.k (k := Sum.inl i) e, false, by rw [s]; rfl, q⟩
theorem w_InT0 {H : Hp} {QB : Bool → Hp → Prop} {a p : Addr} {kvs : List (List Key × V)} {k : List Key} (e : H a = some (.dT kvs)) (ep : H p = some (.tup (k.map kV))) (n : valV kvs k = none) (q : QB false H) : InB QB (.ref p) (.ref a) H :=
  ⟨a, none, rfl, by rw [← n]; exact DGet.t e ep, false, rfl, q⟩
theorem putI_has {kvs : List (Key × V)} {i j : Int} {v : V} (h : j = i ∨ (valV kvs (Sum.inl j)).isSome = true) : (valV (putK kvs (Sum.inl i) v) (Sum.inl j)).isSome = true := by
  rw [valV_put]
  by_cases e : j = i
  · rw [if_pos (by rw [e])]
    rfl
  · rw [if_neg (fun z => e (Sum.inl.inj z))]
    exact h.resolve_left e
theorem w_lenL0 {K : PySem.W.Frag} {H : Hp} {Q : VK} {p : Addr} (h : SqL K H p []) (q : Q (.int 0) H) : rLen K [.ref p] H Q := ⟨p, _, rfl, .inl h, q⟩
theorem w_lenL1 {K : PySem.W.Frag} {H : Hp} {Q : VK} {p : Addr} {x : V} (h : SqL K H p [x]) (q : Q (.int 1) H) : rLen K [.ref p] H Q := ⟨p, _, rfl, .inl h, q⟩
theorem w_lenL2 {K : PySem.W.Frag} {H : Hp} {Q : VK} {p : Addr} {x y : V} (h : SqL K H p [x, y]) (q : Q (.int 2) H) : rLen K [.ref p] H Q := ⟨p, _, rfl, .inl h, q⟩
local macro_rules | `(tactic| walk_at "w1") => `(tactic| first
  | ((with_reducible apply w_lenL0); (walk_at "sq"))
  | ((with_reducible apply w_lenL1); (walk_at "sq"))
  | ((with_reducible apply w_lenL2); (walk_at "sq")))
def Sorted2 (r : Row) : Prop := match r with
  | .bin _ a b => a < b
  | _ => True
def sp_law_key (K : PySem.W.Frag) : Sp := fun vs H Q _ => ∃ (p : Addr) (r : Row), vs = [.ref p] ∧ RowAt H p r ∧ Sorted2 r ∧ ∀ q H', Same H H' → RowAt H' q r → Q (.ref q) H'
theorem ok_law_key (T : Top K mg) : FnOk P w K mg base CX0 1 T.a_law_key T.d_law_key ["_law_row"] (sp_law_key K) := by
  refine T.f_law_key.ok sc_law_key (fun vs H Q E h => ?_) (fun cdv A outer s H vs Q E hr h => ?_)
  · obtain ⟨p, r, rfl, _⟩ := h
    rfl
  obtain ⟨p, r, rfl, h⟩ := h
  refine ⟨_, (pss_cons (ps_if (pt_cmpR (op_inK K) (pe_ix (ix_tupK K) (pv 0) pe_int (fun _ _ => rfl)) (pe_lst (pa_cons pe_str (pa_cons pe_str (pa_cons pe_str pa_nil)))) (by rfl)) (pss_one (ps_ret (pe_tup (pa_cons (pe_ix (ix_tupK K) (pv 0) pe_int (fun _ _ => rfl)) (pa_cons (pe_callB (c_min2 rfl) (by rfl) T.z_min (by decide +kernel) (pa_cons (pe_ix (ix_tupK K) (pv 0) pe_int (fun _ _ => rfl)) (pa_cons (pe_ix (ix_tupK K) (pv 0) pe_int (fun _ _ => rfl)) pa_nil))) (pa_cons (pe_callB (c_max2 rfl) (by rfl) T.z_max (by decide +kernel) (pa_cons (pe_ix (ix_tupK K) (pv 0) pe_int (fun _ _ => rfl)) (pa_cons (pe_ix (ix_tupK K) (pv 0) pe_int (fun _ _ => rfl)) pa_nil))) pa_nil)))))) pss_nil)
      (pss_one (ps_ret (pv 0)))), ?_⟩
  try dsimp only [cxOf, Cx.nox, Cx.wish]
  simp only [L2.start, List.map_cons, List.map_nil, List.length_cons, List.length_nil, Nat.reduceAdd, Nat.reduceSub, List.replicate_succ, List.replicate_zero, List.cons_append, List.nil_append]
  obtain ⟨hp, hs, h⟩ := h
  have hp0 := hp
  unfold RowAt at hp
  cases r with
  | bin o a b =>
    have hab : a < b := hs
    have e1 : (if (b : Int) < (a : Int) then (b : Int) else (a : Int)) = (a : Int) := if_neg (by omega)
    have e2 : (if (b : Int) > (a : Int) then (b : Int) else (a : Int)) = (b : Int) := if_pos (by omega)
    cases o <;>
    · walk_at "ws"
      rename_i eq
      rw [e1, e2] at eq
      exact h _ _ (Same.trans (by assumption) (by assumption)) eq
  | _ =>
    walk_at "ws"
    exact h _ _ (by assumption) (same_at (by assumption) hp0)
theorem ne_of_none' {H : Hp} {a b : Addr} {o : HO} (n : H a = none) (e : H b = some o) : a ≠ b := fun z => by rw [z, e] at n; cases n
theorem form_own {ks : List Row} {r : Row} {u : Nat} (h : FormR ks r) (hu : u ∈ ownR r) : ¬ fixAt ks u ∧ ((∃ a, r = .inv a) → ¬ invAt ks u) := by
  cases r with
  | inv a =>
    rw [List.mem_singleton.mp hu]
    exact ⟨h.1, fun _ => h.2⟩
  | bin o a b =>
    refine ⟨?_, fun ⟨c, e⟩ => by cases e⟩
    rcases List.mem_cons.mp hu with e | e
    · rw [e]; exact h.2.1
    · rw [List.mem_singleton.mp e]; exact h.2.2
  | _ => cases hu
theorem form_sorted {ks : List Row} {r : Row} (h : FormR ks r) : Sorted2 r := by
  cases r with
  | bin o a b => exact h.1
  | _ => exact True.intro
def sp_law_formed (K : PySem.W.Frag) : Sp := fun vs H Q _ => ∃ (a u : Addr) (made : List Row) (os : List Nat) (N : Str → Prop) (old : List Row), vs = [.ref a, .ref u] ∧ RowsL K H a made ∧ SqL K H u ((natI os).map V.int) ∧ KOk N old made ∧ (∀ k, k < made.length → k ∈ os ∨ ∃ (j : Nat) (r : Row), made[j]? = some r ∧ k ∈ ownR r) ∧ made.length ≤ 100000 ∧ os.length ≤ 100000 ∧ ∀ H', Same H H' → Q (.bl true) H'
theorem ok_law_formed (T : Top K mg) : FnOk P w K mg base CX0 2 T.a_law_formed T.d_law_formed ["_law_rows_here", "_law_outs_here"] (sp_law_formed K) := by
  refine T.f_law_formed.ok sc_law_formed (fun vs H Q E h => ?_) (fun cdv A outer s H vs Q E hr h => ?_)
  · obtain ⟨a, u, made, os, N, old, rfl, _⟩ := h
    rfl
  obtain ⟨a, u, made, os, N, old, rfl, h⟩ := h
  refine ⟨_, (pss_cons (ps_set (i := 2) sc_law_formed.nd rfl (.inl rfl) pe_dnewK)
      (pss_cons (ps_for PassesOwn.never rfl (pi_list (pv 1)) (pg_name (i := 3) sc_law_formed.nd rfl (.inl rfl))
      (pss_one (ps_dput (hu_of hr) (pv 2) (pv 3) pe_bl rfl)))
      (pss_cons (ps_set (i := 4) sc_law_formed.nd rfl (.inl rfl) pe_dnewT)
      (pss_cons (ps_for PassesOwn.never rfl (pi_revR (by rfl) T.z_reversed (prg_1 (by rfl) T.z_range (pe_callB (c_lenK K) (by rfl) T.z_len PySem.boot_len (pa_cons (pv 0) pa_nil)))) (pg_name (i := 5) sc_law_formed.nd rfl (.inl rfl))
      (pss_cons (ps_set (i := 6) sc_law_formed.nd rfl (.inl rfl) (pe_ix (ix_listK K) (pv 0) (pv 5) (fun _ _ => rfl)))
      (pss_cons (ps_set (i := 7) sc_law_formed.nd rfl (.inl rfl) (pe_call (ok_law_own T) (hr.mono (by decide)) (by rfl) T.g_law_own T.f_law_own.kp T.b_law_own .nil pass0 (pa_cons (pv 6) pa_nil)))
      (pss_cons (ps_if (PW.pt (pw_or (pt_cmp (pc_dnotin (hu_of hr) (pv 5) (pv 2))) (pw_or1 (pt_cmp (pc_din (hu_of hr) (pe_call (ok_law_key T) (hr.mono (by decide)) (by rfl) T.g_law_key T.f_law_key.kp T.b_law_key .nil pass0 (pa_cons (pv 6) pa_nil)) (pv 4)))))) (pss_one (ps_ret pe_bl)) pss_nil)
      (pss_cons (ps_dput (hu_of hr) (pv 4) (pe_call (ok_law_key T) (hr.mono (by decide)) (by rfl) T.g_law_key T.f_law_key.kp T.b_law_key .nil pass0 (pa_cons (pv 6) pa_nil)) pe_bl rfl)
      (Evl.pss_cut (ps_if (PW.pt (pw_and (pt_cmpR op_eq (pe_callB (c_lenK K) (by rfl) T.z_len PySem.boot_len (pa_cons (pv 7) pa_nil)) pe_int (nomark _)) (pw_and1 (pt_cmpR op_eq (pe_ix (ix_listK K) (pv 7) pe_int (fun _ _ => rfl)) (pe_ix (ix_listK K) (pv 7) pe_int (fun _ _ => rfl)) (nomark _))))) (pss_one (ps_ret pe_bl)) pss_nil)
      (pss_one (ps_for PassesOwn.never rfl (pi_list (pv 7)) (pg_name (i := 3) sc_law_formed.nd rfl (.inl rfl))
      (pss_cons (ps_dput (hu_of hr) (pv 2) (pv 3) pe_bl rfl)
      (pss_one (ps_if (PW.pt (pw_or (pt_cmpR op_eq (pe_ix (ix_tupK K) (pe_ix (ix_listK K) (pv 0) (pv 3) (fun _ _ => rfl)) pe_int (fun _ _ => rfl)) pe_str (nomark _)) (pw_or1 (PW.pt (pw_and (pt_cmpR op_eq (pe_ix (ix_tupK K) (pv 6) pe_int (fun _ _ => rfl)) pe_str (nomark _)) (pw_and1 (pt_cmpR op_eq (pe_ix (ix_tupK K) (pe_ix (ix_listK K) (pv 0) (pv 3) (fun _ _ => rfl)) pe_int (fun _ _ => rfl)) pe_str (nomark _)))))))) (pss_one (ps_ret pe_bl)) pss_nil)))))))))))
      (pss_one (ps_ret pe_bl)))))), ?_⟩
  try dsimp only [cxOf, Cx.nox, Cx.wish]
  simp only [L2.start, List.map_cons, List.map_nil, List.length_cons, List.length_nil, Nat.reduceAdd, Nat.reduceSub, List.replicate_succ, List.replicate_zero, List.cons_append, List.nil_append]
  obtain ⟨⟨ps, hS, hA⟩, hO, kok, used, hl, hol, h⟩ := h
  have hpl := hA.1
  have hpm : (ps.map V.ref).length = made.length := by rw [List.length_map, hpl]
  walk_at "ws"
  rename_i d H1 n1 s1 e1
  refine for_l ((natI os).map V.int) (fun i σ' G => ∃ (kvs : List (Key × V)) (y3 : Option V), σ' = [some (.ref a), some (.ref u), some (.ref d), y3, none, none, none, none] ∧ Same H G ∧ G d = some (.dK kvs) ∧ kvs.length ≤ i ∧ ∀ w ∈ os.take i, (valV kvs (Sum.inl (w : Int))).isSome = true) ⟨[], _, rfl, s1, e1, Nat.le_refl _, fun w z => by cases z⟩ (fun i σ' G _ q => ?_) (fun i x σ' G hx q => ?_) (fun σ' G q => ?_)
  · obtain ⟨kvs, y3, rfl, sm, _⟩ := q
    exact sm.seq hO
  · obtain ⟨kvs, y3, rfl, sm, e, hkl, hk⟩ := q
    obtain ⟨z, hz, rfl⟩ := get_map hx
    obtain ⟨w, hw, rfl⟩ := natI_get hz
    have hi := (List.getElem?_eq_some_iff.mp hw).1
    walk_at "ws"
    refine w_DPutI e (by omega) ?_
    refine ⟨_, _, rfl, same_mut sm n1, upd_same, ?_, fun v hv => putI_has ?_⟩
    · have := length_putK kvs (Sum.inl (w : Int)) (.bl true)
      omega
    · rw [take_snoc hw] at hv
      rcases List.mem_append.mp hv with z | z
      · exact .inr (hk v z)
      · rw [List.mem_singleton.mp z]; exact .inl rfl
  · obtain ⟨kvs0, y3, rfl, sm, e, hkl, hk⟩ := q
    rw [List.length_map, natI_len] at hkl hk
    rw [List.take_of_length_le (Nat.le_refl _)] at hk
    walk_at "ws"
    rename_i c H2 n2 s2 e2
    have en : ((((ps.map V.ref).length : Nat) : Int) - 0).toNat = made.length := by rw [hpm]; omega
    rw [en]
    have cn : H c = none := sm.free n2
    have cd : c ≠ d := fun z => by rw [z, e] at n2; cases n2
    refine for_rc (fun i σ' G => ∃ (kvs : List (Key × V)) (cks : List (List Key × V)) (y3 y5 y6 y7 : Option V), σ' = [some (.ref a), some (.ref u), some (.ref d), y3, some (.ref c), y5, y6, y7] ∧ Same H G ∧ G d = some (.dK kvs) ∧ G c = some (.dT cks) ∧ kvs.length ≤ os.length + 2 * i ∧ cks.length ≤ i ∧
      (∀ w, (w ∈ os ∨ ∃ (j : Nat) (r : Row), made.length - i ≤ j ∧ made[j]? = some r ∧ w ∈ ownR r) → (valV kvs (Sum.inl (w : Int))).isSome = true) ∧ ∀ (j : Nat) (r : Row), j < made.length - i → made[j]? = some r → valV cks (rowK r) = none)
      ⟨kvs0, [], _, _, _, _, rfl, sm.trans s2, s2 _ _ e, e2, by omega, Nat.le_refl _, fun w hw => ?_, fun j r _ _ => rfl⟩ (fun i σ' G hi q => ?_) (fun σ' G q => ?_)
    · rcases hw with hw | ⟨j, r, h1, h2, h3⟩
      · exact hk w hw
      · have := (List.getElem?_eq_some_iff.mp h2).1
        omega
    · obtain ⟨kvs, cks, y3, y5, y6, y7, rfl, sm, ed, ec, hkl, hcl, hk, hc⟩ := q
      have ew : (0 : Int) + ((made.length : Nat) : Int) - 1 + (i : Nat) * (-1) = ((made.length - (i + 1) : Nat) : Int) := by omega
      rw [ew]
      have hw : made.length - (i + 1) < made.length := by omega
      have hr := List.getElem?_eq_getElem hw
      generalize made[made.length - (i + 1)] = r at hr
      obtain ⟨pr, hpr, hrow⟩ := hA.get2 hr
      have form := kok.form r (List.mem_of_getElem? hr)
      have hwant : (valV kvs (Sum.inl ((made.length - (i + 1) : Nat) : Int))).isSome = true := hk _ (by
        rcases used _ hw with z | ⟨j, s, h1, h2⟩
        · exact .inl z
        · have := own_lt (kok.ok j s h1) _ h2
          exact .inr ⟨j, s, by omega, h1, h2⟩)
      have hnew : valV cks (rowK r) = none := hc _ r (by omega) hr
      generalize hwd : made.length - (i + 1) = w at *
      walk_at "ws"
      refine w_ixL (sm.seq hS) (ref_at hpr) ?_
      walk_at "ws"
      refine ⟨pr, r, rfl, sm _ _ hrow, fun o G1 no so eo => ?_⟩
      walk_at "ws"
      refine w_NInI0 (so _ _ ed) hwant ?_
      walk_at "ws"
      refine ⟨pr, r, rfl, so _ _ (sm _ _ hrow), form_sorted form, fun q G2 s2 eq => ?_⟩
      walk_at "ws"
      refine w_InT0 (s2 _ _ (so _ _ ec)) (row_key eq) hnew ?_
      walk_at "ws"
      refine ⟨pr, r, rfl, s2 _ _ (so _ _ (sm _ _ hrow)), form_sorted form, fun q2 G3 s3 eq2 => ?_⟩
      walk_at "ws"
      refine w_DPutT (s3 _ _ (s2 _ _ (so _ _ ec))) (row_key eq2) (by omega) ?_
      have oc : o ≠ c := ne_of_none' no ec
      have od : o ≠ d := ne_of_none' no ed
      have so3 := so.trans (s2.trans s3)
      have f4 : Fr [d, c] G (upd G3 c (.dT (putK cks (rowK r) (.bl true)))) := (Fr.of so3).trans (Fr.put (List.mem_cons_of_mem _ (List.mem_cons_self ..)))
      have eo4 : (upd G3 c (.dT (putK cks (rowK r) (.bl true)))) o = _ := hp_upd oc (s3 _ _ (s2 _ _ eo))
      have ed4 : (upd G3 c (.dT (putK cks (rowK r) (.bl true)))) d = _ := hp_upd cd.symm (so3 _ _ ed)
      have ec4 : (upd G3 c (.dT (putK cks (rowK r) (.bl true)))) c = _ := upd_same
      generalize upd G3 c (.dT (putK cks (rowK r) (.bl true))) = G4 at *
      have sm4 : Same H G4 := f4.same sm (fun m hm => by rcases List.mem_cons.mp hm with z | z; rw [z]; exact n1; rw [List.mem_singleton.mp z]; exact cn)
      refine w_cut (fun σ' G' => σ' = [some (.ref a), some (.ref u), some (.ref d), y3, some (.ref c), some (.int (w : Int)), some (.ref pr), some (.ref o)] ∧ G' = G4) ?_ fun σ' G' k => ?_
      · cases r with
        | bin b x y =>
          have xy : x < y := form.1
          have eo5 : G4 o = some (.lst [.int (x : Int), .int (y : Int)]) := eo4
          clear eo4 eo
          walk_at "ws"
          exact ⟨rfl, rfl⟩
        | inv x =>
          have eo5 : G4 o = some (.lst [.int (x : Int)]) := eo4
          clear eo4 eo
          walk_at "ws"
          exact ⟨rfl, rfl⟩
        | _ =>
          have eo5 : G4 o = some (.lst []) := eo4
          clear eo4 eo
          walk_at "ws"
          exact ⟨rfl, rfl⟩
      obtain ⟨rfl, rfl⟩ := k
      walk_at "ws"
      have lt := own_lt (kok.ok w r hr)
      refine for_l ((natI (ownR r)).map V.int) (fun j σ2 G2 => ∃ (kv2 : List (Key × V)) (y3 : Option V), σ2 = [some (.ref a), some (.ref u), some (.ref d), y3, some (.ref c), some (.int (w : Int)), some (.ref pr), some (.ref o)] ∧ Fr [d] G' G2 ∧ G2 d = some (.dK kv2) ∧ kv2.length ≤ kvs.length + j ∧ (∀ z : Nat, (valV kvs (Sum.inl (z : Int))).isSome = true → (valV kv2 (Sum.inl (z : Int))).isSome = true) ∧ ∀ z ∈ (ownR r).take j, (valV kv2 (Sum.inl (z : Int))).isSome = true)
        ⟨kvs, _, rfl, Fr.refl, ed4, Nat.le_refl _, fun z hz => hz, fun z hz => by cases hz⟩ (fun j σ2 G2 _ k => ?_) (fun j x σ2 G2 hx2 k => ?_) (fun σ2 G2 k => ?_)
      · obtain ⟨kv2, z3, rfl, f2, _⟩ := k
        exact SqL.of (f2 _ _ eo4 (by simpa using od))
      · obtain ⟨kv2, z3, rfl, f2, e2, hl2, hm2, ht2⟩ := k
        obtain ⟨z, hz, rfl⟩ := get_map hx2
        obtain ⟨v, hv, rfl⟩ := natI_get hz
        have hvm := List.mem_of_getElem? hv
        have hvl := lt v hvm
        have hj := (List.getElem?_eq_some_iff.mp hv).1
        have hown := own_len r
        have hx := List.getElem?_eq_getElem (show v < made.length by omega)
        generalize made[v] = xr at hx
        obtain ⟨px, hpx, hxrow⟩ := hA.get2 hx
        have fo := form_own form hvm
        have sH2 : Same H (upd G2 d (.dK (putK kv2 (Sum.inl (v : Int)) (.bl true)))) := same_mut (f2.same sm4 (fun m hm => by rw [List.mem_singleton.mp hm]; exact n1)) n1
        have hrow2 := sH2 _ _ hrow
        have hxrow2 := sH2 _ _ hxrow
        have hS2 := sH2.seq hS
        have fin : ∃ (kv3 : List (Key × V)) (y3 : Option V), [some (V.ref a), some (.ref u), some (.ref d), some (.int (v : Int)), some (.ref c), some (.int (w : Int)), some (.ref pr), some (.ref o)] = [some (.ref a), some (.ref u), some (.ref d), y3, some (.ref c), some (.int (w : Int)), some (.ref pr), some (.ref o)] ∧ Fr [d] G' (upd G2 d (.dK (putK kv2 (Sum.inl (v : Int)) (.bl true)))) ∧ (upd G2 d (.dK (putK kv2 (Sum.inl (v : Int)) (.bl true)))) d = some (.dK kv3) ∧ kv3.length ≤ kvs.length + (j + 1) ∧ (∀ z : Nat, (valV kvs (Sum.inl (z : Int))).isSome = true → (valV kv3 (Sum.inl (z : Int))).isSome = true) ∧ ∀ z ∈ (ownR r).take (j + 1), (valV kv3 (Sum.inl (z : Int))).isSome = true := by
          refine ⟨_, _, rfl, f2.trans (Fr.put (List.mem_cons_self ..)), upd_same, ?_, fun z hz => putI_has (.inr (hm2 z hz)), fun z hz => putI_has ?_⟩
          · have := length_putK kv2 (Sum.inl (v : Int)) (.bl true)
            omega
          · rw [take_snoc hv] at hz
            rcases List.mem_append.mp hz with q | q
            · exact .inr (ht2 z q)
            · rw [List.mem_singleton.mp q]; exact .inl rfl
        walk_at "ws"
        refine w_DPutI e2 (by omega) ?_
        generalize upd G2 d (.dK (putK kv2 (Sum.inl (v : Int)) (.bl true))) = G5 at *
        have hat := ref_at hpx
        have nofix : ∀ b, xr ≠ .fix b := fun b z => fo.1 ⟨b, by rw [hx, z]⟩
        walk_at "ws"
        refine w_ixL hS2 hat ?_
        cases xr with
        | fix b => exact absurd rfl (nofix b)
        | lat b => exact (kok.nl _ (List.mem_of_getElem? hx)).elim
        | inv b =>
          cases r with
          | inv b2 => exact absurd ⟨b, hx⟩ (fo.2 ⟨b2, rfl⟩)
          | bin o2 b1 b2 => cases o2 <;> (walk_at "ws"; exact fin)
          | _ => cases hvm
        | inn b1 b2 =>
          cases r with
          | inv b2 =>
            walk_at "ws"
            refine w_ixL hS2 hat ?_
            walk_at "ws"
            exact fin
          | bin o2 b1 b2 => cases o2 <;> (walk_at "ws"; exact fin)
          | _ => cases hvm
        | bin o3 c1 c2 =>
          cases r with
          | inv b2 =>
            cases o3 <;>
            · walk_at "ws"
              refine w_ixL hS2 hat ?_
              walk_at "ws"
              exact fin
          | bin o2 b1 b2 => cases o3 <;> cases o2 <;> (walk_at "ws"; exact fin)
          | _ => cases hvm
      · obtain ⟨kv2, z3, rfl, f2, e2, hl2, hm2, ht2⟩ := k
        rw [List.length_map, natI_len] at hl2 ht2
        rw [List.take_of_length_le (Nat.le_refl _)] at ht2
        have hown := own_len r
        walk_at "ws"
        have hpk := length_putK cks (rowK r) (.bl true)
        refine ⟨kv2, _, _, _, _, _, rfl, f2.same sm4 (fun m hm => by rw [List.mem_singleton.mp hm]; exact n1), e2, f2 _ _ ec4 (by simpa using cd), by omega, by omega, fun z hz => ?_, fun j s hj hs => ?_⟩
        · rcases hz with hz | ⟨j, s, h1, h2, h3⟩
          · exact hm2 z (hk z (.inl hz))
          · by_cases e : made.length - i ≤ j
            · exact hm2 z (hk z (.inr ⟨j, s, e, h2, h3⟩))
            · rw [show j = w by omega, hr] at h2
              cases h2
              exact ht2 z h3
        · rw [valV_put, if_neg (fun z => ?_)]
          · exact hc j s (by omega) hs
          · have e := rowK_inj z
            rw [e] at hs
            have h1 := List.getElem?_eq_some_iff.mp hs
            have h2 := List.getElem?_eq_some_iff.mp hr
            have := (List.getElem_inj kok.nd).mp (h1.2.trans h2.2.symm)
            omega
    · obtain ⟨kvs, cks, y3, y5, y6, y7, rfl, sm, _⟩ := q
      walk_at "ws"
      exact h _ sm

theorem few_outs {N : Str → Prop} {rs made : List Row} {os os' : List Nat} (few : FewOk N rs os made os') (ws : List (Str × Int)) : os'.map (bit ws made) = os.map (bit ws rs) := by
  apply List.ext_getElem?
  intro i
  rw [List.getElem?_map, List.getElem?_map]
  by_cases hi : i < os.length
  · have h1 := List.getElem?_eq_getElem hi
    have h2 := List.getElem?_eq_getElem (show i < os'.length by rw [few.olen]; exact hi)
    rw [h1, h2, Option.map_some, Option.map_some, (few.same i _ _ h1 h2).1 ws]
  · rw [List.getElem?_eq_none (show os'.length ≤ i by rw [few.olen]; omega), List.getElem?_eq_none (show os.length ≤ i by omega)]
    rfl
theorem bit_at {ws : List (Str × Int)} {ks : List Row} {w : Nat} (h : w < ks.length) : atI ((toldL ws ks).map V.int) (w : Int) = some (.int (bit ws ks w)) := by
  rw [bit_get (by rw [toldL_len]; exact h)]
  rfl
/-! dicts for each way to set some bits -/
def DictsM (H : Hp) (a : Addr) (wss : List (List (Str × Int))) : Prop := ∃ ps : List Addr, H a = some (.lst (ps.map V.ref)) ∧ A2 (DictAt H) ps wss
theorem p2_small {k : Nat} (h : k ≤ 4) : (1 : Int) * 2 ^ k ≤ 16 ∧ 0 ≤ (1 : Int) * 2 ^ k := by
  have : k = 0 ∨ k = 1 ∨ k = 2 ∨ k = 3 ∨ k = 4 := by omega
  rcases this with rfl | rfl | rfl | rfl | rfl <;> decide
def sp_law_few_ins (K : PySem.W.Frag) : Sp := fun vs H Q _ => ∃ (a : Addr) (nm : List Str) (n : Int), vs = [.ref a, .int n] ∧ SqL K H a (nm.map V.str) ∧ nm.length = 2 ∧ (0 ≤ n ∧ n < 2147483648) ∧
  ∀ (rs : List Row) p H', 1 ≤ rs.length → rs.length ≤ 4 → (∀ r ∈ rs, inRow nm r) → H p = none → Same H H' → RowsM H' p rs → Q (.ref p) H'
theorem ok_law_few_ins (T : Top K mg) : FnOk P w K mg base CX0 1 T.a_law_few_ins T.d_law_few_ins ["_law_names_here", "_law_number"] (sp_law_few_ins K) := by
  refine T.f_law_few_ins.ok sc_law_few_ins (fun vs H Q E h => ?_) (fun cdv A outer s H vs Q E hr h => ?_)
  · obtain ⟨a, nm, n, rfl, _⟩ := h
    rfl
  obtain ⟨a, nm, n, rfl, h⟩ := h
  refine ⟨_, (pss_cons (ps_set (i := 2) sc_law_few_ins.nd rfl (.inl rfl) (pe_op op_add pe_int (pe_op op_mod (pv 1) pe_int)))
      (pss_cons (ps_set (i := 3) sc_law_few_ins.nd rfl (.inl rfl) (pe_lst pa_nil))
      (pss_cons (ps_for PassesOwn.never rfl (pi_range1 (by rfl) T.z_range (pa_cons (pv 2) pa_nil)) (pg_name (i := 4) sc_law_few_ins.nd rfl (.inl rfl))
      (pss_one (ps_expr (pe_bm PySem.F.plainAttrs_list PySem.F.slot_list_append PySem.F.type_list_append mt_append (pv 3) (pa_cons (pe_tup (pa_cons pe_str (pa_cons (pe_ix (ix_listK K) (pv 0) (pe_op op_mod (pe_op op_fdiv (pv 1) (pe_op op_add (pv 4) pe_int)) pe_int) (fun _ _ => rfl)) (pa_cons (pe_op op_add (pe_op op_mulI (pv 4) pe_int) (pe_op op_mod (pe_op op_fdiv (pv 1) pe_int) (pe_op op_add (pv 4) pe_int))) pa_nil)))) pa_nil)))))
      (pss_one (ps_ret (pv 3)))))), ?_⟩
  try dsimp only [cxOf, Cx.nox, Cx.wish]
  simp only [L2.start, List.map_cons, List.map_nil, List.length_cons, List.length_nil, Nat.reduceAdd, Nat.reduceSub, List.replicate_succ, List.replicate_zero, List.cons_append, List.nil_append]
  obtain ⟨hS, h2, hn, h⟩ := h
  walk_at "ws"
  rename_i o H1 n1 s1 e1
  have hm : (1 + n % 4).toNat ≤ 4 ∧ 1 ≤ (1 + n % 4).toNat := by omega
  generalize (1 + n % 4) = m at *
  refine for_r (fun i σ' G => ∃ (rs : List Row) (y : Option V), σ' = [some (.ref a), some (.int n), some (.int m), some (.ref o), y] ∧ Same H G ∧ RowsM G o rs ∧ rs.length = i ∧ ∀ r ∈ rs, inRow nm r) ⟨[], _, rfl, s1, ⟨[], e1, A2.nil⟩, rfl, fun r hr => (by cases hr)⟩ (fun i σ' G hi q => ?_) (fun σ' G q => ?_)
  · obtain ⟨rs, y, rfl, sG, ⟨ps, e, hA⟩, hl, hr'⟩ := q
    have hpl := hA.1
    have hi4 : i < 4 := by omega
    walk_at "ws"
    obtain ⟨x, hx, mx⟩ := get_str (ns := nm) (i := n / ((i : Int) + 1) % 2) (by omega)
    refine w_ixL (sG.seq hS) hx ?_
    walk_at "ws"
    rename_i p2 H2 n2 s2 e2
    have d0 : 0 ≤ n / 16 % ((i : Int) + 1) := Int.emod_nonneg _ (by omega)
    have d1 : n / 16 % ((i : Int) + 1) < (i : Int) + 1 := Int.emod_lt_of_pos _ (by omega)
    generalize n / 16 % ((i : Int) + 1) = z at *
    obtain ⟨zn, rfl⟩ := Int.eq_ofNat_of_zero_le d0
    rw [show (i : Int) * 20 + (zn : Int) = ((i * 20 + zn : Nat) : Int) by omega] at e2
    refine ⟨rs ++ [.inn x (i * 20 + zn)], _, rfl, same_mut (sG.trans s2) n1, RowsM.push (s2 _ _ e) (hA.mono fun _ _ e => s2 _ _ e) (r := .inn x (i * 20 + zn)) e2, by rw [List.length_append, hl]; rfl, fun r hr => ?_⟩
    rcases List.mem_append.mp hr with k | k
    · exact hr' r k
    · rw [List.mem_singleton.mp k]
      exact ⟨x, _, rfl, mx, by omega⟩
  · obtain ⟨rs, y, rfl, sG, hM, hl, hr'⟩ := q
    walk_at "ws"
    exact h rs o G (by omega) (by omega) hr' n1 sG hM
theorem dict_upd {H : Hp} {a p : Addr} {xs ys : List V} {ws : List (Str × Int)} (h : H a = some (.lst xs)) (hp : DictAt H p ws) : DictAt (upd H a (.lst ys)) p ws := hp_upd (ne_of hp h (by intro z; cases z)) hp
theorem putW_has {N : Str → Prop} {ws : List (Str × Int)} {n : Str} {v : Int} (h : Has N ws) : Has N (putW ws n v) := has_keep h
def sp_law_all_words (K : PySem.W.Frag) : Sp := fun vs H Q _ => ∃ (a c : Addr) (nm : List Str) (is : List Row), vs = [.ref a, .ref c] ∧ SqL K H a (nm.map V.str) ∧ RowsL K H c is ∧ (∀ r ∈ is, inRow nm r) ∧ is.length ≤ 4 ∧ nm.length ≤ 4 ∧
  ∀ (wss : List (List (Str × Int))) p H', (∀ ws ∈ wss, Has (· ∈ nm) ws) → wss.length ≤ 16 → H p = none → Same H H' → DictsM H' p wss → Q (.ref p) H'
theorem ok_law_all_words (T : Top K mg) : FnOk P w K mg base CX0 1 T.a_law_all_words T.d_law_all_words ["_law_names_here", "_law_ins"] (sp_law_all_words K) := by
  refine T.f_law_all_words.ok sc_law_all_words (fun vs H Q E h => ?_) (fun cdv A outer s H vs Q E hr h => ?_)
  · obtain ⟨a, c, nm, is, rfl, _⟩ := h
    rfl
  obtain ⟨a, c, nm, is, rfl, h⟩ := h
  refine ⟨_, (pss_cons (ps_set (i := 2) sc_law_all_words.nd rfl (.inl rfl) (pe_lst pa_nil))
      (pss_cons (ps_for PassesOwn.never rfl (pi_range1 (by rfl) T.z_range (pa_cons (pe_op op_shlK pe_int (pe_callB (c_lenK K) (by rfl) T.z_len PySem.boot_len (pa_cons (pv 1) pa_nil))) pa_nil)) (pg_name (i := 3) sc_law_all_words.nd rfl (.inl rfl))
      (pss_cons (ps_set (i := 4) sc_law_all_words.nd rfl (.inl rfl) pe_dnewK)
      (pss_cons (ps_for PassesOwn.never rfl (pi_list (pv 0)) (pg_name (i := 5) sc_law_all_words.nd rfl (.inl rfl))
      (pss_one (ps_dput (hu_of hr) (pv 4) (pv 5) pe_int rfl)))
      (pss_cons (ps_for PassesOwn.never rfl (pi_range1 (by rfl) T.z_range (pa_cons (pe_callB (c_lenK K) (by rfl) T.z_len PySem.boot_len (pa_cons (pv 1) pa_nil)) pa_nil)) (pg_name (i := 6) sc_law_all_words.nd rfl (.inl rfl))
      (pss_one (ps_dput (hu_of hr) (pv 4) (pe_ix (ix_tupK K) (pe_ix (ix_listK K) (pv 1) (pv 6) (fun _ _ => rfl)) pe_int (fun _ _ => rfl)) (pe_op op_add (pe_dget (hu_of hr) (pv 4) (pe_ix (ix_tupK K) (pe_ix (ix_listK K) (pv 1) (pv 6) (fun _ _ => rfl)) pe_int (fun _ _ => rfl)) (fun _ _ => rfl)) (pe_op op_mulI (pe_op op_mod (pe_op op_divP (pv 3) (pe_op op_shlK pe_int (pv 6))) pe_int) (pe_op op_shlK pe_int (pe_ix (ix_tupK K) (pe_ix (ix_listK K) (pv 1) (pv 6) (fun _ _ => rfl)) pe_int (fun _ _ => rfl))))) rfl)))
      (pss_one (ps_expr (pe_bm PySem.F.plainAttrs_list PySem.F.slot_list_append PySem.F.type_list_append mt_append (pv 2) (pa_cons (pv 4) pa_nil))))))))
      (pss_one (ps_ret (pv 2))))), ?_⟩
  try dsimp only [cxOf, Cx.nox, Cx.wish]
  simp only [L2.start, List.map_cons, List.map_nil, List.length_cons, List.length_nil, Nat.reduceAdd, Nat.reduceSub, List.replicate_succ, List.replicate_zero, List.cons_append, List.nil_append]
  obtain ⟨hS, ⟨ps, hC, hA⟩, hin, hil, hnl, h⟩ := h
  have hpl := hA.1
  have hpm : (ps.map V.ref).length = is.length := by rw [List.length_map, hpl]
  have hp2 := p2_small (k := (ps.map V.ref).length) (by omega)
  walk_at "ws"
  rename_i o H1 n1 s1 e1
  refine for_r (fun i σ' G => ∃ (wss : List (List (Str × Int))) (y3 y4 y5 y6 : Option V), σ' = [some (.ref a), some (.ref c), some (.ref o), y3, y4, y5, y6] ∧ Same H G ∧ DictsM G o wss ∧ wss.length = i ∧ ∀ ws ∈ wss, Has (· ∈ nm) ws) ⟨[], _, _, _, _, rfl, s1, ⟨[], e1, A2.nil⟩, rfl, fun r hr => (by cases hr)⟩ (fun i σ' G hi q => ?_) (fun σ' G q => ?_)
  · obtain ⟨wss, y3, y4, y5, y6, rfl, sG, ⟨qs, eo, hB⟩, hl, hhas⟩ := q
    have hi16 : i < 16 := by omega
    walk_at "ws"
    rename_i d G1 n2 s2 e2
    have dn : H d = none := sG.free n2
    have od : o ≠ d := (ne_of_none' n2 eo).symm
    have sG1 := sG.trans s2
    have hS1 := sG1.seq hS
    walk_at "ws"
    refine for_l (nm.map V.str) (fun j σ2 G2 => ∃ (ws : List (Str × Int)) (y5 : Option V), σ2 = [some (.ref a), some (.ref c), some (.ref o), some (.int (i : Int)), some (.ref d), y5, y6] ∧ Fr [d] G G2 ∧ G2 d = some (.dK (wkv ws)) ∧ ws.length ≤ j ∧ Has (· ∈ nm.take j) ws) ⟨[], _, rfl, Fr.of s2, e2, Nat.le_refl _, fun n z => (by cases z)⟩ (fun j σ2 G2 _ k => ?_) (fun j x σ2 G2 hx2 k => ?_) (fun σ2 G2 k => ?_)
    · obtain ⟨ws, y5, rfl, f2, _⟩ := k
      exact (f2.same sG (fun m hm => by rw [List.mem_singleton.mp hm]; exact dn)).seq hS
    · obtain ⟨ws, y5, rfl, f2, ed, hwl, has⟩ := k
      obtain ⟨x, hx, rfl⟩ := get_map hx2
      have hj := (List.getElem?_eq_some_iff.mp hx).1
      walk_at "ws"
      refine ⟨_, _, rfl, f2.trans (Fr.put (List.mem_cons_self ..)), upd_same, ?_, (has_put has).mono fun n hn => ?_⟩
      · have := putW_len ws x 0
        omega
      · rw [take_snoc hx] at hn
        rcases List.mem_append.mp hn with z | z
        · exact .inr z
        · exact .inl (List.mem_singleton.mp z)
    · obtain ⟨ws0, y5, rfl, f2, ed, hwl, has⟩ := k
      rw [List.length_map, List.take_of_length_le (Nat.le_refl _)] at has
      rw [List.length_map] at hwl
      have sG2 := f2.same sG (fun m hm => by rw [List.mem_singleton.mp hm]; exact dn)
      have hC2 := sG2.seq hC
      walk_at "ws"
      refine for_r (fun j σ3 G3 => ∃ (ws : List (Str × Int)) (y6 : Option V), σ3 = [some (.ref a), some (.ref c), some (.ref o), some (.int (i : Int)), some (.ref d), y5, y6] ∧ Fr [d] G G3 ∧ G3 d = some (.dK (wkv ws)) ∧ ws.length ≤ 4 + j ∧ Has (· ∈ nm) ws) ⟨ws0, _, rfl, f2, ed, by omega, has⟩ (fun j σ3 G3 hj k => ?_) (fun σ3 G3 k => ?_)
      · obtain ⟨ws, y6, rfl, f3, ed3, hwl3, has3⟩ := k
        have hj' : j < is.length := by omega
        have hr := List.getElem?_eq_getElem hj'
        generalize is[j] = r at hr
        obtain ⟨pr, hpr, hrow⟩ := hA.get2 hr
        obtain ⟨x, kk, rfl, hxm, hkk⟩ := hin r (List.mem_of_getElem? hr)
        have sG3 := f3.same sG (fun m hm => by rw [List.mem_singleton.mp hm]; exact dn)
        have hrow3 : G3 pr = some (.tup (rowV (.inn x kk))) := sG3 _ _ hrow
        have hC3 := sG3.seq hC
        have hat := ref_at hpr
        obtain ⟨v, hv⟩ := has3 x hxm
        have hv2 : valV (wkv ws) (Sum.inr x) = some (.int v) := by rw [valV_wkv, hv]; rfl
        walk_at "ws"
        refine w_ixL hC3 hat ?_
        walk_at "ws"
        refine w_ixL hC3 hat ?_
        walk_at "ws"
        refine w_ixL hC3 hat ?_
        walk_at "ws"
        refine ⟨_, _, rfl, f3.trans (Fr.put (List.mem_cons_self ..)), upd_same, ?_, putW_has has3⟩
        have := putW_len ws x (v + i / 2 ^ j % 2 * (1 * 2 ^ kk))
        omega
      · obtain ⟨ws, y6, rfl, f3, ed3, hwl3, has3⟩ := k
        have sG3 := f3.same sG (fun m hm => by rw [List.mem_singleton.mp hm]; exact dn)
        have eo3 := f3 _ _ eo (by simpa using od)
        have hB3 : A2 (DictAt G3) qs wss := hB.mono fun x ws e => f3 _ _ e (by
          intro z
          rw [List.mem_singleton.mp z] at e
          rw [show G d = _ from e] at n2
          cases n2)
        have hqz : (qs.map V.ref).length ≤ 1000 := by rw [List.length_map, hB.1]; omega
        walk_at "ws"
        refine ⟨wss ++ [ws], _, _, _, _, rfl, same_mut sG3 n1, ⟨qs ++ [d], by rw [upd_same, List.map_append]; rfl, (hB3.mono fun _ _ e => dict_upd eo3 e).snoc (dict_upd eo3 ed3)⟩, by rw [List.length_append, hl]; rfl, fun w hw => ?_⟩
        rcases List.mem_append.mp hw with z | z
        · exact hhas w z
        · rw [List.mem_singleton.mp z]; exact has3
  · obtain ⟨wss, y3, y4, y5, y6, rfl, sG, hD, hl, hhas⟩ := q
    walk_at "ws"
    exact h wss o G hhas (by omega) n1 sG hD
def LListM (H : Hp) (a : Addr) (bss : List (List Int)) : Prop := ∃ ps : List Addr, H a = some (.lst (ps.map V.ref)) ∧ A2 (IntsAt H) ps bss
def sp_law_told (K : PySem.W.Frag) : Sp := fun vs H Q _ => ∃ (a b c : Addr) (rs : List Row) (os : List Nat) (wss : List (List (Str × Int))) (N : Str → Prop), vs = [.ref a, .ref b, .ref c] ∧ RowsL K H a rs ∧ SqL K H b ((natI os).map V.int) ∧ DictsM H c wss ∧ RowsOk N rs ∧ NoLats rs ∧ (∀ ws ∈ wss, Has N ws) ∧ rs.length ≤ 60000 ∧ os.length ≤ 1000 ∧ wss.length ≤ 16 ∧ (∀ o ∈ os, o < rs.length) ∧
  ∀ p H', H p = none → Same H H' → LListM H' p (wss.map fun ws => os.map (bit ws rs)) → Q (.ref p) H'
theorem ok_law_told (T : Top K mg) : FnOk P w K mg base CX0 3 T.a_law_told T.d_law_told ["_law_rows_here", "_law_outs_here", "_law_some"] (sp_law_told K) := by
  refine T.f_law_told.ok sc_law_told (fun vs H Q E h => ?_) (fun cdv A outer s H vs Q E hr h => ?_)
  · obtain ⟨a, b, c, rs, os, wss, N, rfl, _⟩ := h
    rfl
  obtain ⟨a, b, c, rs, os, wss, N, rfl, h⟩ := h
  refine ⟨_, (pss_cons (ps_set (i := 3) sc_law_told.nd rfl (.inl rfl) (pe_lst pa_nil))
      (pss_cons (ps_for PassesOwn.never rfl (pi_list (pv 2)) (pg_name (i := 4) sc_law_told.nd rfl (.inl rfl))
      (pss_cons (ps_set (i := 5) sc_law_told.nd rfl (.inr rfl) (pe_call (ok_law_bits T) (hr.mono (by decide)) (by rfl) T.g_law_bits T.f_law_bits.kp T.b_law_bits .nil pass0 (pa_cons (pv 0) (pa_cons (pv 4) pa_nil))))
      (pss_one (ps_expr (pe_bm PySem.F.plainAttrs_list PySem.F.slot_list_append PySem.F.type_list_append mt_append (pv 3) (pa_cons (pe_lc (own := [("_law_wire_here", 6)]) (g := gName 6) (tt := tYes) (by rfl) sc_law_told.nd (pi_list (pv 1)) (blkOk_by (N := ["_law_rows_here", "_law_outs_here", "_law_some", "_law_found", "_law_words", "_law_bits_here", "_law_wire_here"]) (sc := defScope s_law_told) (by decide +kernel)) (fun _ _ _ _ _ => (pg_name (i := 6) sc_law_told.nd rfl (.inl rfl))) (fun _ _ _ _ _ => pts_nil) (fun _ _ _ _ _ => (pe_ix (ix_listK K) (pv 5) (pv 6) (fun _ _ => rfl)))) pa_nil))))))
      (pss_one (ps_ret (pv 3))))), ?_⟩
  try dsimp only [cxOf, Cx.nox, Cx.wish]
  simp only [L2.start, List.map_cons, List.map_nil, List.length_cons, List.length_nil, Nat.reduceAdd, Nat.reduceSub, List.replicate_succ, List.replicate_zero, List.cons_append, List.nil_append]
  obtain ⟨hR, hO, ⟨ps, hc, hA⟩, ok, nl, has, hl, hol, hwl, ho, h⟩ := h
  have hpl := hA.1
  walk_at "ws"
  rename_i o H1 n1 s1 e1
  refine for_l (ps.map V.ref) (fun i σ' G => ∃ (qs : List Addr) (y4 y5 : Option V), σ' = [some (.ref a), some (.ref b), some (.ref c), some (.ref o), y4, y5, none] ∧ Same H G ∧ G o = some (.lst (qs.map V.ref)) ∧ A2 (IntsAt G) qs ((wss.take i).map fun ws => os.map (bit ws rs)) ∧ ∀ q ∈ qs, q ≠ o) ⟨[], _, _, rfl, s1, e1, A2.nil, fun q z => (by cases z)⟩ (fun i σ' G _ q => ?_) (fun i x σ' G hx q => ?_) (fun σ' G q => ?_)
  · obtain ⟨qs, y4, y5, rfl, sG, _⟩ := q
    exact SqL.of (sG _ _ hc)
  · obtain ⟨qs, y4, y5, rfl, sG, eo, hB, hne⟩ := q
    obtain ⟨pw, hp, rfl⟩ := get_map hx
    obtain ⟨ws, hw, hd⟩ := hA.get hp
    have hi := (List.getElem?_eq_some_iff.mp hw).1
    have hwm := List.mem_of_getElem? hw
    walk_at "ws"
    refine ⟨a, pw, rs, ws, N, rfl, hR.same sG, sG _ _ hd, ok, nl, has ws hwm, hl, fun pb G2 n2 s2 e2 => ?_⟩
    have eo2 := s2 _ _ eo
    have sG2 := sG.trans s2
    have hqz : (qs.map V.ref).length ≤ 1000 := by
      have := hB.1
      rw [List.length_map, List.length_take] at this
      rw [List.length_map]
      omega
    walk_at "ws"
    refine lc_l ((natI os).map V.int) ((os.map (bit ws rs)).map V.int) (by rw [List.length_map, List.length_map, List.length_map, natI_len]) (sG2.seq hO) (by rw [List.length_map, natI_len]; omega) (fun x => rfl) (fun j x y G5 Q' hx5 hy5 s5 k => ?_) (fun p5 G5 n5 s5 e5 => ?_)
    · obtain ⟨z, hz, rfl⟩ := get_map hx5
      obtain ⟨o, hu, rfl⟩ := natI_get hz
      have hol := ho o (List.mem_of_getElem? hu)
      rw [List.getElem?_map, List.getElem?_map, hu] at hy5
      cases hy5
      walk_at "ws"
      refine w_ixL (SqL.of (s5 _ _ e2)) (bit_at hol) ?_
      exact k
    have eo5 := s5 _ _ eo2
    have po : p5 ≠ o := ne_of_none' n5 eo2
    walk_at "ws"
    refine ⟨qs ++ [p5], _, _, rfl, same_mut (sG2.trans s5) n1, by rw [upd_same, List.map_append]; rfl, ?_, fun q z => ?_⟩
    · rw [take_snoc hw, List.map_append]
      refine A2.snoc (hB.mono2 fun q bs hq e => ?_) ?_
      · exact hp_upd (hne q hq) (s5 _ _ (s2 _ _ e))
      · exact hp_upd po e5
    · rcases List.mem_append.mp z with z | z
      · exact hne q z
      · rw [List.mem_singleton.mp z]; exact po
  · obtain ⟨qs, y4, y5, rfl, sG, eo, hB, hne⟩ := q
    rw [List.length_map, hpl, List.take_of_length_le (Nat.le_refl _)] at hB
    walk_at "ws"
    exact h o G n1 sG ⟨qs, eo, hB⟩

theorem dep_at {ks : List Row} {w : Nat} (h : w < ks.length) : atI ((depthL ks).map V.int) (w : Int) = some (.int (dep ks w)) := by
  rw [bit_get (by rw [show (depthL ks).length = ks.length from runL_len ..]; exact h)]
  rfl
def sp_law_holds (K : PySem.W.Frag) : Sp := fun vs H Q _ => ∃ (t q u a b : Addr) (rs made : List Row) (os os' : List Nat) (nm : List Str), vs = [.ref t, .ref a, .ref b] ∧ H t = some (.tup [.ref q, .ref u]) ∧ RowsM H q made ∧ H u = some (.lst ((natI os').map V.int)) ∧ RowsL K H a rs ∧ SqL K H b ((natI os).map V.int) ∧ FewOk (· ∈ nm) rs os made os' ∧ RowsOk (· ∈ nm) rs ∧ (∀ x ∈ rs, NmOk x) ∧ rs.length ≤ 1000 ∧ os.length ≤ 1000 ∧ (∀ o ∈ os, o < rs.length) ∧ ∀ H', Same H H' → Q (.bl true) H'
theorem ok_law_holds (T : Top K mg) : FnOk P w K mg base CX0 5 T.a_law_holds T.d_law_holds ["_law_found", "_law_rows_here", "_law_outs_here"] (sp_law_holds K) := by
  refine T.f_law_holds.ok sc_law_holds (fun vs H Q E h => ?_) (fun cdv A outer s H vs Q E hr h => ?_)
  · obtain ⟨t, q, u, a, b, rs, made, os, os', nm, rfl, _⟩ := h
    rfl
  obtain ⟨t, q, u, a, b, rs, made, os, os', nm, rfl, h⟩ := h
  refine ⟨_, (pss_cons (ps_if (PW.pt (pw_or (pt_not (pt_val (pe_call (ok_law_fine T) (hr.mono (by decide)) (by rfl) T.g_law_fine T.f_law_fine.kp T.b_law_fine .nil pass0 (pa_cons (pv 0) (pa_cons (pv 1) (pa_cons (pe_callB (c_lenK K) (by rfl) T.z_len PySem.boot_len (pa_cons (pv 2) pa_nil)) pa_nil)))))) (pw_or1 (pt_cmpR op_gt (pe_callB (c_lenK K) (by rfl) T.z_len PySem.boot_len (pa_cons (pe_ix (ix_tupK K) (pv 0) pe_int (fun _ _ => rfl)) pa_nil)) (pe_callB (c_lenK K) (by rfl) T.z_len PySem.boot_len (pa_cons (pv 1) pa_nil)) (nomark _))))) (pss_one (ps_ret pe_bl)) pss_nil)
      (pss_cons (ps_set (i := 3) sc_law_holds.nd rfl (.inl rfl) (pe_call (ok_law_depths T) (hr.mono (by decide)) (by rfl) T.g_law_depths T.f_law_depths.kp T.b_law_depths .nil pass0 (pa_cons (pv 1) pa_nil)))
      (pss_cons (ps_set (i := 4) sc_law_holds.nd rfl (.inl rfl) (pe_call (ok_law_depths T) (hr.mono (by decide)) (by rfl) T.g_law_depths T.f_law_depths.kp T.b_law_depths .nil pass0 (pa_cons (pe_ix (ix_tupK K) (pv 0) pe_int (fun _ _ => rfl)) pa_nil)))
      (pss_cons (ps_for PassesOwn.never rfl (pi_range1 (by rfl) T.z_range (pa_cons (pe_callB (c_lenK K) (by rfl) T.z_len PySem.boot_len (pa_cons (pv 2) pa_nil)) pa_nil)) (pg_name (i := 5) sc_law_holds.nd rfl (.inl rfl))
      (pss_one (ps_if (pt_cmpR op_gt (pe_ix (ix_listK K) (pv 4) (pe_ix (ix_listK K) (pe_ix (ix_tupK K) (pv 0) pe_int (fun _ _ => rfl)) (pv 5) (fun _ _ => rfl)) (fun _ _ => rfl)) (pe_ix (ix_listK K) (pv 3) (pe_ix (ix_listK K) (pv 2) (pv 5) (fun _ _ => rfl)) (fun _ _ => rfl)) (nomark _)) (pss_one (ps_ret pe_bl)) pss_nil)))
      (pss_one (ps_ret (pe_call (ok_law_formed T) (hr.mono (by decide)) (by rfl) T.g_law_formed T.f_law_formed.kp T.b_law_formed .nil pass0 (pa_cons (pe_ix (ix_tupK K) (pv 0) pe_int (fun _ _ => rfl)) (pa_cons (pe_ix (ix_tupK K) (pv 0) pe_int (fun _ _ => rfl)) pa_nil))))))))), ?_⟩
  try dsimp only [cxOf, Cx.nox, Cx.wish]
  simp only [L2.start, List.map_cons, List.map_nil, List.length_cons, List.length_nil, Nat.reduceAdd, Nat.reduceSub, List.replicate_succ, List.replicate_zero, List.cons_append, List.nil_append]
  obtain ⟨et, hM, eu, hR, hO, few, ok, hnm, hl, hol, ho, h⟩ := h
  obtain ⟨ps, hS, hA⟩ := id hR
  have hpl := hA.1
  have hpm : (ps.map V.ref).length = rs.length := by rw [List.length_map, hpl]
  have hml := few.len
  have holm : ((natI os).map V.int).length = os.length := by rw [List.length_map, natI_len]
  walk_at "ws"
  refine ⟨t, q, u, a, made, os', rs, _, (· ∈ nm), rfl, et, hM, eu, hR, few.kok, few.olt, by rw [holm, few.olen], by omega, hnm, fun H4 s4 => ?_⟩
  have et4 := s4 _ _ et
  have hM4 := hM.same s4
  obtain ⟨qs, eq4, hB4⟩ := hM4
  have hqm : (qs.map V.ref).length = made.length := by rw [List.length_map, hB4.1]
  have hS4 := s4.seq hS
  have hA4 : A2 (RowAt H4) ps rs := hA.mono fun _ _ e => s4 _ _ e
  walk_at "ws"
  refine ⟨a, rs, _, rfl, ⟨ps, hS4, hA4⟩, ok, by omega, fun pd H5 n5 s5 e5 => ?_⟩
  have et5 := s5 _ _ et4
  walk_at "ws"
  refine ⟨q, made, _, rfl, ⟨qs, SqL.of (s5 _ _ eq4), hB4.mono fun _ _ e => s5 _ _ e⟩, few.kok.ok, by omega, fun pe H6 n6 s6 e6 => ?_⟩
  have s46 := s5.trans s6
  have et6 := s46 _ _ et4
  have eu6 := s46 _ _ (s4 _ _ eu)
  have hO6 := s46.seq (s4.seq hO)
  have e56 := s6 _ _ e5
  walk_at "ws"
  refine for_r (fun i σ' G => ∃ y6 : Option V, σ' = [some (.ref t), some (.ref a), some (.ref b), some (.ref pd), some (.ref pe), y6] ∧ G = H6) ⟨_, rfl, rfl⟩ (fun i σ' G hi k => ?_) (fun σ' G k => ?_)
  · obtain ⟨y6, rfl, rfl⟩ := k
    have hi' : i < os.length := by omega
    obtain ⟨o, h1⟩ : ∃ o, os[i]? = some o := ⟨_, List.getElem?_eq_getElem hi'⟩
    obtain ⟨o', h2⟩ : ∃ o, os'[i]? = some o := ⟨_, List.getElem?_eq_getElem (show i < os'.length by rw [few.olen]; exact hi')⟩
    have hlt := few.olt _ (List.mem_of_getElem? h2)
    have hlo := ho _ (List.mem_of_getElem? h1)
    have hd := (few.same i _ _ h1 h2).2
    walk_at "ws"
    refine w_ixL (SqL.of eu6) (nat_at h2) ?_
    refine w_ixL (SqL.of e6) (dep_at hlt) ?_
    walk_at "ws"
    refine w_ixL hO6 (nat_at h1) ?_
    refine w_ixL (SqL.of e56) (dep_at hlo) ?_
    walk_at "ws"
    exact ⟨_, rfl, rfl⟩
  · obtain ⟨y6, rfl, rfl⟩ := k
    walk_at "ws"
    refine ⟨q, u, made, os', (· ∈ nm), rs, rfl, ⟨qs, SqL.of (s46 _ _ eq4), hB4.mono fun _ _ e => s46 _ _ e⟩, SqL.of eu6, few.kok, few.used, by omega, by rw [few.olen]; omega, fun H7 s7 => ?_⟩
    exact h _ ((s4.trans s46).trans s7)
theorem dp_ll {K : PySem.W.Frag} {H : Hp} : ∀ {ps : List Addr} {bss : List (List Int)}, A2 (IntsAt H) ps bss → DpAll K H (ps.map V.ref) (bss.map fun bs => .list (bs.map PyData.int))
  | [], [], _ => .nil
  | [], _ :: _, h => by have := h.1; simp at this
  | _ :: _, [], h => by have := h.1; simp at this
  | p :: ps, bs :: bss, h => .cons (.lst (SqL.of h.tail.1) (dp_ints _)) (dp_ll h.tail.2)
theorem lay_ll : ∀ bss : List (List Int), PyData.canLayAll0 (bss.map fun bs => PyData.list (bs.map PyData.int)) = true
  | [] => rfl
  | b :: r => by
    show (PyData.canLayAll0 (b.map PyData.int) && PyData.canLayAll0 (r.map fun bs => PyData.list (bs.map PyData.int))) = true
    rw [lay_ll r, lay_ints b]
    rfl
theorem depth_ll : ∀ bss : List (List Int), PyData.depthAll (bss.map fun bs => PyData.list (bs.map PyData.int)) ≤ 2
  | [] => Nat.zero_le 2
  | b :: r => by
    have h1 := depth_ints b
    have h2 := depth_ll r
    show max (PyData.depthAll (b.map PyData.int) + 1) (PyData.depthAll (r.map fun bs => PyData.list (bs.map PyData.int))) ≤ 2
    omega
theorem shaped_ll (bss : List (List Int)) : SeqAt.shaped (.list (bss.map fun bs => PyData.list (bs.map PyData.int))) = true := by
  unfold SeqAt.shaped
  rw [show PyData.canLay0 (.list (bss.map fun bs => PyData.list (bs.map PyData.int))) = true from lay_ll bss, Bool.true_and]
  have := depth_ll bss
  exact decide_eq_true (show PyData.depthAll (bss.map fun bs => PyData.list (bs.map PyData.int)) + 1 ≤ 64 by omega)
theorem w_neLL {K : PySem.W.Frag} {H : Hp} {Q : VK} {a b : Addr} {bss css : List (List Int)} (ha : LListM H a bss) (hb : LListM H b css) (e : css = bss) (q : Q (.bl false) H) : rNeD K (.ref a) (.ref b) H Q := by
  obtain ⟨ps, h1, h2⟩ := ha
  obtain ⟨qs, h3, h4⟩ := hb
  subst e
  exact w_neSame (.list (css.map fun bs => PyData.list (bs.map PyData.int))) (.lst (SqL.of h1) (dp_ll h2)) (.lst (SqL.of h3) (dp_ll h4)) (shaped_ll css) q
theorem LListM.same {H H' : Hp} {a : Addr} {bss : List (List Int)} (s : Same H H') (h : LListM H a bss) : LListM H' a bss := by
  obtain ⟨ps, h1, h2⟩ := h
  exact ⟨ps, s _ _ h1, h2.mono fun _ _ e => s _ _ e⟩
theorem DictsM.same {H H' : Hp} {a : Addr} {wss : List (List (Str × Int))} (s : Same H H') (h : DictsM H a wss) : DictsM H' a wss := by
  obtain ⟨ps, h1, h2⟩ := h
  exact ⟨ps, s _ _ h1, h2.mono fun _ _ e => s _ _ e⟩
theorem few_told {N : Str → Prop} {rs made : List Row} {os os' : List Nat} (few : FewOk N rs os made os') (wss : List (List (Str × Int))) : (wss.map fun ws => os'.map (bit ws made)) = wss.map fun ws => os.map (bit ws rs) := List.map_congr_left fun ws _ => few_outs few ws
def sp_law (K : PySem.W.Frag) : Sp := fun vs H Q _ => ∃ (a : Addr) (ns : List Int), vs = [.ref a] ∧ SqL K H a (ns.map V.int) ∧ ns.length ≤ 63 ∧ (∀ z ∈ ns, Builtin.Int.intBits z ≤ 1048576) ∧ ∀ H', Q (.bl true) H'
theorem ok_law (T : Top K mg) : FnOk P w K mg base CX0 6 T.a_law T.d_law ["_law_script"] (sp_law K) := by
  refine T.f_law.ok sc_law (fun vs H Q E h => ?_) (fun cdv A outer s H vs Q E hr h => ?_)
  · obtain ⟨a, ns, rfl, _⟩ := h
    rfl
  obtain ⟨a, ns, rfl, h⟩ := h
  refine ⟨_, (pss_cons (ps_set (i := 1) sc_law.nd rfl (.inl rfl) (pe_slice sl_list (pe_call (ok_law_names T) (hr.mono (by decide)) (by rfl) T.g_law_names T.f_law_names.kp T.b_law_names .nil pass0 (pa_cons (pe_call (ok_law_mixed T) (hr.mono (by decide)) (by rfl) T.g_law_mixed T.f_law_mixed.kp T.b_law_mixed .nil pass0 (pa_cons (pe_call (ok_law_at T) (hr.mono (by decide)) (by rfl) T.g_law_at T.f_law_at.kp T.b_law_at .nil pass0 (pa_cons (pv 0) (pa_cons pe_int pa_nil))) (pa_cons pe_int pa_nil))) pa_nil)) po_none (po_some pe_int)))
      (pss_cons (ps_set (i := 2) sc_law.nd rfl (.inl rfl) (pe_call (ok_law_few_ins T) (hr.mono (by decide)) (by rfl) T.g_law_few_ins T.f_law_few_ins.kp T.b_law_few_ins .nil pass0 (pa_cons (pv 1) (pa_cons (pe_call (ok_law_mixed T) (hr.mono (by decide)) (by rfl) T.g_law_mixed T.f_law_mixed.kp T.b_law_mixed .nil pass0 (pa_cons (pe_call (ok_law_at T) (hr.mono (by decide)) (by rfl) T.g_law_at T.f_law_at.kp T.b_law_at .nil pass0 (pa_cons (pv 0) (pa_cons pe_int pa_nil))) (pa_cons pe_int pa_nil))) pa_nil))))
      (pss_cons (ps_set (i := 3) sc_law.nd rfl (.inl rfl) (pe_call (ok_law_rows T) (hr.mono (by decide)) (by rfl) T.g_law_rows T.f_law_rows.kp T.b_law_rows .nil pass0 (pa_cons (pe_call (ok_law_numbers T) (hr.mono (by decide)) (by rfl) T.g_law_numbers T.f_law_numbers.kp T.b_law_numbers .nil pass0 (pa_cons (pv 0) (pa_cons pe_int pa_nil))) (pa_cons (pv 2) (pa_cons (pe_op op_mod (pe_call (ok_law_at T) (hr.mono (by decide)) (by rfl) T.g_law_at T.f_law_at.kp T.b_law_at .nil pass0 (pa_cons (pv 0) (pa_cons pe_int pa_nil))) pe_int) (pa_cons pe_bl pa_nil))))))
      (pss_cons (ps_set (i := 4) sc_law.nd rfl (.inl rfl) (pe_call (ok_law_outs T) (hr.mono (by decide)) (by rfl) T.g_law_outs T.f_law_outs.kp T.b_law_outs .nil pass0 (pa_cons (pv 3) (pa_cons (pe_call (ok_law_at T) (hr.mono (by decide)) (by rfl) T.g_law_at T.f_law_at.kp T.b_law_at .nil pass0 (pa_cons (pv 0) (pa_cons pe_int pa_nil))) pa_nil))))
      (pss_cons (ps_set (i := 5) sc_law.nd rfl (.inl rfl) (pe_call (ok_fewer T) (hr.mono (by decide)) (by rfl) T.g_fewer T.f_fewer.kp T.b_fewer .nil pass0 (pa_cons (pv 3) (pa_cons (pv 4) pa_nil))))
      (pss_cons (ps_if (pt_not (pt_val (pe_call (ok_law_holds T) (hr.mono (by decide)) (by rfl) T.g_law_holds T.f_law_holds.kp T.b_law_holds .nil pass0 (pa_cons (pv 5) (pa_cons (pv 3) (pa_cons (pv 4) pa_nil)))))) (pss_one (ps_ret pe_bl)) pss_nil)
      (pss_cons (ps_set (i := 6) sc_law.nd rfl (.inl rfl) (pe_call (ok_law_all_words T) (hr.mono (by decide)) (by rfl) T.g_law_all_words T.f_law_all_words.kp T.b_law_all_words .nil pass0 (pa_cons (pv 1) (pa_cons (pv 2) pa_nil))))
      (pss_cons (ps_set (i := 7) sc_law.nd rfl (.inl rfl) (pe_call (ok_law_told T) (hr.mono (by decide)) (by rfl) T.g_law_told T.f_law_told.kp T.b_law_told .nil pass0 (pa_cons (pv 3) (pa_cons (pv 4) (pa_cons (pv 6) pa_nil)))))
      (pss_cons (ps_if (pt_cmpR (op_neD hr.units) (pe_call (ok_law_told T) (hr.mono (by decide)) (by rfl) T.g_law_told T.f_law_told.kp T.b_law_told .nil pass0 (pa_cons (pe_ix (ix_tupK K) (pv 5) pe_int (fun _ _ => rfl)) (pa_cons (pe_ix (ix_tupK K) (pv 5) pe_int (fun _ _ => rfl)) (pa_cons (pv 6) pa_nil)))) (pv 7) (nomark _)) (pss_one (ps_ret pe_bl)) pss_nil)
      (pss_cons (ps_set (i := 8) sc_law.nd rfl (.inl rfl) (pe_tup (pa_cons (pe_callTy (c_listK K) (by rfl) T.z_list (by decide +kernel) (pa_cons (pe_ix (ix_tupK K) (pv 5) pe_int (fun _ _ => rfl)) pa_nil)) (pa_cons (pe_callTy (c_listK K) (by rfl) T.z_list (by decide +kernel) (pa_cons (pe_ix (ix_tupK K) (pv 5) pe_int (fun _ _ => rfl)) pa_nil)) pa_nil))))
      (pss_cons (ps_set (i := 9) sc_law.nd rfl (.inl rfl) (pe_call (ok_fewer T) (hr.mono (by decide)) (by rfl) T.g_fewer T.f_fewer.kp T.b_fewer .nil pass0 (pa_cons (pe_ix (ix_tupK K) (pv 5) pe_int (fun _ _ => rfl)) (pa_cons (pe_ix (ix_tupK K) (pv 5) pe_int (fun _ _ => rfl)) pa_nil))))
      (pss_cons (ps_if (PW.pt (pw_or (pt_not (pt_val (pe_call (ok_law_holds T) (hr.mono (by decide)) (by rfl) T.g_law_holds T.f_law_holds.kp T.b_law_holds .nil pass0 (pa_cons (pv 9) (pa_cons (pe_ix (ix_tupK K) (pv 5) pe_int (fun _ _ => rfl)) (pa_cons (pe_ix (ix_tupK K) (pv 5) pe_int (fun _ _ => rfl)) pa_nil)))))) (pw_or1 (pt_cmpR (op_neD hr.units) (pe_call (ok_law_told T) (hr.mono (by decide)) (by rfl) T.g_law_told T.f_law_told.kp T.b_law_told .nil pass0 (pa_cons (pe_ix (ix_tupK K) (pv 9) pe_int (fun _ _ => rfl)) (pa_cons (pe_ix (ix_tupK K) (pv 9) pe_int (fun _ _ => rfl)) (pa_cons (pv 6) pa_nil)))) (pv 7) (nomark _))))) (pss_one (ps_ret pe_bl)) pss_nil)
      (pss_cons (ps_expr (pe_bm PySem.F.plainAttrs_list PySem.F.slot_list_append PySem.F.type_list_append mt_append (pe_ix (ix_tupK K) (pv 9) pe_int (fun _ _ => rfl)) (pa_cons (pe_tup (pa_cons pe_str (pa_cons pe_int pa_nil))) pa_nil)))
      (pss_cons (ps_expr (pe_bm PySem.F.plainAttrs_list PySem.F.slot_list_append PySem.F.type_list_append mt_append (pe_ix (ix_tupK K) (pv 9) pe_int (fun _ _ => rfl)) (pa_cons pe_int pa_nil)))
      (pss_one (ps_ret (pe_and (pe_cmpR (op_eqD hr.units) (pe_ix (ix_tupK K) (pv 5) pe_int (fun _ _ => rfl)) (pe_ix (ix_tupK K) (pv 8) pe_int (fun _ _ => rfl)) (nomark _)) (pe_one (pe_cmpR (op_eqD hr.units) (pe_ix (ix_tupK K) (pv 5) pe_int (fun _ _ => rfl)) (pe_ix (ix_tupK K) (pv 8) pe_int (fun _ _ => rfl)) (nomark _)))))))))))))))))))), ?_⟩
  try dsimp only [cxOf, Cx.nox, Cx.wish]
  simp only [L2.start, List.map_cons, List.map_nil, List.length_cons, List.length_nil, Nat.reduceAdd, Nat.reduceSub, List.replicate_succ, List.replicate_zero, List.cons_append, List.nil_append]
  obtain ⟨hS, hlen, hb, h⟩ := h
  have hb : Bits ns := hb
  walk_at "ws"
  rename_i v0 b0 x0 y0 z0
  refine ⟨_, rfl, ⟨y0, z0⟩, fun nm4 pn4 Hn4 hn4 hnm4 nn4 sn4 en4 => ?_⟩
  walk_at "ws"
  rename_i pn Hn nn sn en v1 b1 x1 y1 z1
  have e2 : cutV (nm4.map V.str) none (some 2) = (nm4.take 2).map V.str := by
    rw [show (2 : Int) = ((2 : Nat) : Int) from rfl, cut_upto, ← List.map_take]
  rw [e2] at en
  have hnl : (nm4.take 2).length = 2 := by rw [List.length_take]; omega
  have hnm : ∀ x ∈ nm4.take 2, NameOk x := fun x z => hnm4 x (List.mem_of_mem_take z)
  generalize nm4.take 2 = nm at *
  have sN : Same H Hn := sn4.trans sn
  have hSN := sN.seq hS
  clear sn4 sn
  refine ⟨pn, nm, _, rfl, SqL.of en, hnl, ⟨y1, z1⟩, fun is pi Hi hi1 hil hin ni si hI => ?_⟩
  have hSI := si.seq hSN
  walk_at "ws"
  refine ⟨_, ns, _, rfl, hSI, hb, by decide, fun xs px Hx hxl hx nx sx ex => ?_⟩
  have hSX := sx.seq hSI
  walk_at "ws"
  rename_i v3 b3
  refine ⟨px, pi, xs, is, _, false, nm, rfl, SqL.of ex, hx, by omega, (hI.same sx).read, hin, by omega, by omega, fun rs pr Hr hrl hok hnl2 nr sr hR => ?_⟩
  have hnl2 := hnl2 rfl
  have sNR : Same Hn Hr := (si.trans sx).trans sr
  have hIR := (hI.same sx).same sr
  have hSR := sr.seq hSX
  have enR := sNR _ _ en
  clear si sx sr hI ex
  obtain ⟨ps, er, hA⟩ := hR
  have hpl := hA.1
  have hpm : (ps.map V.ref).length = rs.length := by rw [List.length_map, hpl]
  have hnmr := rows_named hnm hok
  walk_at "ws"
  rename_i v4 b4
  refine ⟨pr, ps.map V.ref, _, rfl, SqL.of er, by omega, b4, fun os po Ho ho hol no so eo => ?_⟩
  have ho' : ∀ o ∈ os, o < rs.length := fun o z => by have := ho o z; omega
  have hRO : RowsM Ho pr rs := ⟨ps, so _ _ er, hA.mono fun _ _ e => so _ _ e⟩
  walk_at "ws"
  refine ⟨pr, po, rs, os, (· ∈ nm), rfl, hRO.read, SqL.of eo, hok, hnl2, by omega, by omega, ho', fun made os' t q u Hf few qu nt nq nu sf et hM eu => ?_⟩
  have hml := few.len
  have hol' := few.olen
  walk_at "ws"
  refine ⟨t, q, u, pr, po, rs, made, os, os', nm, rfl, et, hM, eu, (hRO.same sf).read, SqL.of (sf _ _ eo), few, hok, hnmr, by omega, hol, ho', fun H1 s1 => ?_⟩
  have hI1 := ((hIR.same so).same sf).same s1
  have en1 := s1 _ _ (sf _ _ (so _ _ enR))
  have hR1 := (hRO.same sf).same s1
  have eo1 := s1 _ _ (sf _ _ eo)
  have et1 := s1 _ _ et
  have hM1 := hM.same s1
  have eu1 := s1 _ _ eu
  walk_at "ws"
  refine ⟨pn, pi, nm, is, rfl, SqL.of en1, hI1.read, hin, hil, by omega, fun wss pw H2 has hwl nw s2 hD => ?_⟩
  walk_at "ws"
  refine ⟨pr, po, pw, rs, os, wss, (· ∈ nm), rfl, (hR1.same s2).read, SqL.of (s2 _ _ eo1), hD, hok, hnl2, has, by omega, hol, hwl, ho', fun pd H3 n3 s3 hLL => ?_⟩
  have et3 := s3 _ _ (s2 _ _ et1)
  have hM3 := (hM1.same s2).same s3
  have eu3 := s3 _ _ (s2 _ _ eu1)
  walk_at "ws"
  refine ⟨q, u, pw, made, os', wss, (· ∈ nm), rfl, hM3.read, SqL.of eu3, hD.same s3, few.kok.ok, few.kok.nl, has, by omega, by omega, hwl, few.olt, fun pe H4 n4 s4 hLL2 => ?_⟩
  walk_at "ws"
  refine w_neLL hLL2 (hLL.same s4) (few_told few wss).symm ?_
  have et4 := s4 _ _ et3
  have hM4 := hM3.same s4
  have eu4 := s4 _ _ eu3
  obtain ⟨qs, eq4, hB4⟩ := id hM4
  have hLL4 := hLL.same s4
  have hD4 := (hD.same s3).same s4
  walk_at "ws"
  rename_i p1 G1 n1 s1' e1 p2 G2 n2 s2' e2' pk G3 nk sk ek
  have sK : Same H4 G3 := (s1'.trans s2').trans sk
  have et5 := sK _ _ et4
  refine ⟨q, u, made, os', (· ∈ nm), rfl, (hM4.same sK).read, SqL.of (sK _ _ eu4), few.kok.ok, few.kok.nl, by omega, by omega, few.olt, fun made2 os2 t2 q2 u2 H5 few2 qu2 nt2 nq2 nu2 s5 et2 hM2 eu2 => ?_⟩
  have hml2 := few2.len
  have hol2 := few2.olen
  have et6 := s5 _ _ et5
  have s45 := sK.trans s5
  have hM5 := hM4.same s45
  have eu5 := s45 _ _ eu4
  have hnmm := rows_named hnm few.kok.ok
  walk_at "ws"
  refine ⟨t2, q2, u2, q, u, made, made2, os', os2, nm, rfl, et2, hM2, eu2, hM5.read, SqL.of eu5, few2, few.kok.ok, hnmm, by omega, by omega, few.olt, fun H6 s6 => ?_⟩
  have et26 := s6 _ _ et2
  have hM26 := hM2.same s6
  have eu26 := s6 _ _ eu2
  have s46 := s45.trans s6
  walk_at "ws"
  refine ⟨q2, u2, pw, made2, os2, wss, (· ∈ nm), rfl, hM26.read, SqL.of eu26, hD4.same s46, few2.kok.ok, few2.kok.nl, has, by omega, by omega, hwl, few2.olt, fun pf H7 n7 s7 hLL3 => ?_⟩
  walk_at "ws"
  refine w_neLL hLL3 ((hLL4.same s46).same s7) ((few_told few2 wss).trans (few_told few wss)).symm ?_
  have s47 := s46.trans s7
  have et27 := s7 _ _ et26
  have eu27 := s7 _ _ eu26
  obtain ⟨qs2, eq27, hB2⟩ := hM26.same s7
  have hqz : (qs2.map V.ref).length ≤ 1000 := by rw [List.length_map, hB2.1]; omega
  walk_at "ws"
  rename_i pz G7 n7' s7' e7
  have f8 : Fr [q2, u2] H7 (upd G7 q2 (.lst (qs2.map V.ref ++ [.ref pz]))) := (Fr.of s7').trans (Fr.put (List.mem_cons_self ..))
  have old : ∀ {b : Addr} {o : HO}, G3 b = some o → b ∉ [q2, u2] := fun e z => by
    rcases List.mem_cons.mp z with z | z
    · rw [z, nq2] at e; cases e
    · rw [List.mem_singleton.mp z, nu2] at e; cases e
  have tq : t2 ≠ q2 := ne_of et27 eq27 (by intro z; cases z)
  have tu : t2 ≠ u2 := ne_of et27 eu27 (by intro z; cases z)
  have et8 := f8 _ _ et27 (by simp only [List.mem_cons, List.not_mem_nil, or_false]; rintro (z | z); exact tq z; exact tu z)
  have eu8 : (upd G7 q2 (.lst (qs2.map V.ref ++ [.ref pz]))) u2 = _ := hp_upd qu2.symm (s7' _ _ eu27)
  generalize upd G7 q2 (.lst (qs2.map V.ref ++ [.ref pz])) = G8 at *
  have hoz : ((natI os2).map V.int).length ≤ 10000 := by rw [List.length_map, natI_len]; omega
  walk_at "ws"
  have f9 : Fr [q2, u2] H7 (upd G8 u2 (.lst ((natI os2).map V.int ++ [.int 0]))) := f8.trans (Fr.put (List.mem_cons_of_mem _ (List.mem_cons_self ..)))
  generalize upd G8 u2 (.lst ((natI os2).map V.int ++ [.int 0])) = G9 at *
  have go : ∀ {b : Addr} {o : HO}, G3 b = some o → G9 b = some o := fun e => f9 _ _ (s7 _ _ (s6 _ _ (s5 _ _ e))) (old e)
  have et9 := go et5
  have ek9 := go ek
  have ea9 := go (sK _ _ eq4)
  have eb9 := go (sK _ _ eu4)
  have ec9 := go (sk _ _ (s2' _ _ e1))
  have ed9 := go (sk _ _ e2')
  have hB9 : A2 (RowAt G9) qs made := hB4.mono fun _ _ e => go (sK _ _ e)
  walk_at "ws"
  refine w_eqSame (.list (made.map rowD)) (.lst (SqL.of ea9) (dp_rows hB9)) (.lst (SqL.of ec9) (dp_rows hB9)) (shaped_rows hnmm) ?_
  walk_at "ws"
  refine w_eqSame (.list ((natI os').map PyData.int)) (.lst (SqL.of eb9) (dp_ints _)) (.lst (SqL.of ed9) (dp_ints _)) (shaped_ints _) ?_
  walk_at "ws"
  exact h _

end
theorem end_sp_law {K : PySem.W.Frag} {H : Hp} {a : Addr} {ns : List Int} (hl : ns.length ≤ 63) (hb : ∀ z ∈ ns, Builtin.Int.intBits z ≤ 1048576) (_ : Only H) (hS : SqL K H a (ns.map V.int)) : sp_law K [.ref a] H (fun v _ => v = .bl true) fun _ _ _ => False :=
  ⟨a, ns, rfl, hS, hl, hb, fun _ => rfl⟩
theorem all_mk {l : PySem.W.OpenLaw} {w : World} {K : PySem.W.Frag} {h : Heap} {mg : Str → Option Value} {fa ha0 ha1 ha2 ha3 ha4 ha5 ha6 ha7 ha8 ha9 ha10 ha11 ha12 ha13 ha14 ha15 ha16 ha17 ha18 ha19 ha20 ha21 ha22 ha23 ha24 ha25 ha26 ha27 ha28 ha29 ha30 ha31 ha32 c_Kept : Addr} (X : K.In h) (G : h.Ns mainGlobals mg) (hfa : mg "law" = some (.ref fa))
    {od0 an0 od1 an1 od2 an2 od3 an3 od4 an4 od5 an5 od6 an6 od7 an7 od8 an8 od9 an9 od10 an10 od11 an11 od12 an12 od13 an13 od14 an14 od15 an15 od16 an16 od17 an17 od18 an18 od19 an19 od20 an20 od21 an21 od22 an22 od23 an23 od24 an24 od25 an25 od26 an26 od27 an27 od28 an28 od29 an29 od30 an30 od31 an31 od32 an32 : Option Addr} {shl0 shl1 shl2 shl3 shl4 shl5 shl6 shl7 shl8 shl9 shl10 shl11 shl12 shl13 shl14 shl15 shl16 shl17 shl18 shl19 shl20 shl21 shl22 shl23 shl24 shl25 shl26 shl27 shl28 shl29 shl30 shl31 shl32 : Array (Option Value)} {oc0 kV0 dc0 pm0 cd0 ct0 oc1 kV1 dc1 pm1 cd1 ct1 oc2 kV2 dc2 pm2 cd2 ct2 oc3 kV3 dc3 pm3 cd3 ct3 oc4 kV4 dc4 pm4 cd4 ct4 oc5 kV5 dc5 pm5 cd5 ct5 oc6 kV6 dc6 pm6 cd6 ct6 oc7 kV7 dc7 pm7 cd7 ct7 oc8 kV8 dc8 pm8 cd8 ct8 oc9 kV9 dc9 pm9 cd9 ct9 oc10 kV10 dc10 pm10 cd10 ct10 oc11 kV11 dc11 pm11 cd11 ct11 oc12 kV12 dc12 pm12 cd12 ct12 oc13 kV13 dc13 pm13 cd13 ct13 oc14 kV14 dc14 pm14 cd14 ct14 oc15 kV15 dc15 pm15 cd15 ct15 oc16 kV16 dc16 pm16 cd16 ct16 oc17 kV17 dc17 pm17 cd17 ct17 oc18 kV18 dc18 pm18 cd18 ct18 oc19 kV19 dc19 pm19 cd19 ct19 oc20 kV20 dc20 pm20 cd20 ct20 oc21 kV21 dc21 pm21 cd21 ct21 oc22 kV22 dc22 pm22 cd22 ct22 oc23 kV23 dc23 pm23 cd23 ct23 oc24 kV24 dc24 pm24 cd24 ct24 oc25 kV25 dc25 pm25 cd25 ct25 oc26 kV26 dc26 pm26 cd26 ct26 oc27 kV27 dc27 pm27 cd27 ct27 oc28 kV28 dc28 pm28 cd28 ct28 oc29 kV29 dc29 pm29 cd29 ct29 oc30 kV30 dc30 pm30 cd30 ct30 oc31 kV31 dc31 pm31 cd31 ct31 oc32 kV32 dc32 pm32 cd32 ct32 : Value}
    (hg0 : PySem.W.nsIn K mainGlobals "own_wires" = some (some (.ref ha0)))
    (hl0 : K.lookup ha0 = some ⟨oc0, od0, .func (PySem.W.fnOf "own_wires" "own_wires" (defArgs s_own_wires) (defBody s_own_wires) (defScope s_own_wires) .none kV0 dc0 pm0 an0 cd0 ct0), shl0⟩)
    (hk0 : PySem.W.codeIn K cd0 "own_wires" = true)
    (hp0 : PySem.W.keepIn K (.ref ha0) = true)
    (hg1 : PySem.W.findIn K (.ref c_Kept) "__init__" = some (some (.ref ha1)))
    (hi1 : PySem.W.isFn K (.ref ha1) = true)
    (hl1 : K.lookup ha1 = some ⟨oc1, od1, .func (PySem.W.fnOf "__init__" "Kept.__init__" (defArgs s_Kept__init) (defBody s_Kept__init) (defScope s_Kept__init) .none kV1 dc1 pm1 an1 cd1 ct1), shl1⟩)
    (hk1 : PySem.W.codeIn K cd1 "Kept.__init__" = true)
    (hp1 : PySem.W.keepIn K (.ref ha1) = true)
    (hg2 : PySem.W.findIn K (.ref c_Kept) "wire_of" = some (some (.ref ha2)))
    (hi2 : PySem.W.isFn K (.ref ha2) = true)
    (hl2 : K.lookup ha2 = some ⟨oc2, od2, .func (PySem.W.fnOf "wire_of" "Kept.wire_of" (defArgs s_Kept_wire_of) (defBody s_Kept_wire_of) (defScope s_Kept_wire_of) .none kV2 dc2 pm2 an2 cd2 ct2), shl2⟩)
    (hk2 : PySem.W.codeIn K cd2 "Kept.wire_of" = true)
    (hp2 : PySem.W.keepIn K (.ref ha2) = true)
    (hg3 : PySem.W.findIn K (.ref c_Kept) "fixed" = some (some (.ref ha3)))
    (hi3 : PySem.W.isFn K (.ref ha3) = true)
    (hl3 : K.lookup ha3 = some ⟨oc3, od3, .func (PySem.W.fnOf "fixed" "Kept.fixed" (defArgs s_Kept_fixed) (defBody s_Kept_fixed) (defScope s_Kept_fixed) .none kV3 dc3 pm3 an3 cd3 ct3), shl3⟩)
    (hk3 : PySem.W.codeIn K cd3 "Kept.fixed" = true)
    (hp3 : PySem.W.keepIn K (.ref ha3) = true)
    (hg4 : PySem.W.findIn K (.ref c_Kept) "turned" = some (some (.ref ha4)))
    (hi4 : PySem.W.isFn K (.ref ha4) = true)
    (hl4 : K.lookup ha4 = some ⟨oc4, od4, .func (PySem.W.fnOf "turned" "Kept.turned" (defArgs s_Kept_turned) (defBody s_Kept_turned) (defScope s_Kept_turned) .none kV4 dc4 pm4 an4 cd4 ct4), shl4⟩)
    (hk4 : PySem.W.codeIn K cd4 "Kept.turned" = true)
    (hp4 : PySem.W.keepIn K (.ref ha4) = true)
    (hg5 : PySem.W.findIn K (.ref c_Kept) "beside_fix" = some (some (.ref ha5)))
    (hi5 : PySem.W.isFn K (.ref ha5) = true)
    (hl5 : K.lookup ha5 = some ⟨oc5, od5, .func (PySem.W.fnOf "beside_fix" "Kept.beside_fix" (defArgs s_Kept_beside_fix) (defBody s_Kept_beside_fix) (defScope s_Kept_beside_fix) .none kV5 dc5 pm5 an5 cd5 ct5), shl5⟩)
    (hk5 : PySem.W.codeIn K cd5 "Kept.beside_fix" = true)
    (hp5 : PySem.W.keepIn K (.ref ha5) = true)
    (hg6 : PySem.W.findIn K (.ref c_Kept) "paired" = some (some (.ref ha6)))
    (hi6 : PySem.W.isFn K (.ref ha6) = true)
    (hl6 : K.lookup ha6 = some ⟨oc6, od6, .func (PySem.W.fnOf "paired" "Kept.paired" (defArgs s_Kept_paired) (defBody s_Kept_paired) (defScope s_Kept_paired) .none kV6 dc6 pm6 an6 cd6 ct6), shl6⟩)
    (hk6 : PySem.W.codeIn K cd6 "Kept.paired" = true)
    (hp6 : PySem.W.keepIn K (.ref ha6) = true)
    (hg7 : PySem.W.nsIn K mainGlobals "needed" = some (some (.ref ha7)))
    (hl7 : K.lookup ha7 = some ⟨oc7, od7, .func (PySem.W.fnOf "needed" "needed" (defArgs s_needed) (defBody s_needed) (defScope s_needed) .none kV7 dc7 pm7 an7 cd7 ct7), shl7⟩)
    (hk7 : PySem.W.codeIn K cd7 "needed" = true)
    (hp7 : PySem.W.keepIn K (.ref ha7) = true)
    (hg8 : PySem.W.nsIn K mainGlobals "renumbered" = some (some (.ref ha8)))
    (hl8 : K.lookup ha8 = some ⟨oc8, od8, .func (PySem.W.fnOf "renumbered" "renumbered" (defArgs s_renumbered) (defBody s_renumbered) (defScope s_renumbered) .none kV8 dc8 pm8 an8 cd8 ct8), shl8⟩)
    (hk8 : PySem.W.codeIn K cd8 "renumbered" = true)
    (hp8 : PySem.W.keepIn K (.ref ha8) = true)
    (hg9 : PySem.W.nsIn K mainGlobals "fewer" = some (some (.ref ha9)))
    (hl9 : K.lookup ha9 = some ⟨oc9, od9, .func (PySem.W.fnOf "fewer" "fewer" (defArgs s_fewer) (defBody s_fewer) (defScope s_fewer) .none kV9 dc9 pm9 an9 cd9 ct9), shl9⟩)
    (hk9 : PySem.W.codeIn K cd9 "fewer" = true)
    (hp9 : PySem.W.keepIn K (.ref ha9) = true)
    (hg10 : PySem.W.nsIn K mainGlobals "_law_whole" = some (some (.ref ha10)))
    (hl10 : K.lookup ha10 = some ⟨oc10, od10, .func (PySem.W.fnOf "_law_whole" "_law_whole" (defArgs s_law_whole) (defBody s_law_whole) (defScope s_law_whole) .none kV10 dc10 pm10 an10 cd10 ct10), shl10⟩)
    (hk10 : PySem.W.codeIn K cd10 "_law_whole" = true)
    (hp10 : PySem.W.keepIn K (.ref ha10) = true)
    (hg11 : PySem.W.nsIn K mainGlobals "_law_at" = some (some (.ref ha11)))
    (hl11 : K.lookup ha11 = some ⟨oc11, od11, .func (PySem.W.fnOf "_law_at" "_law_at" (defArgs s_law_at) (defBody s_law_at) (defScope s_law_at) .none kV11 dc11 pm11 an11 cd11 ct11), shl11⟩)
    (hk11 : PySem.W.codeIn K cd11 "_law_at" = true)
    (hp11 : PySem.W.keepIn K (.ref ha11) = true)
    (hg12 : PySem.W.nsIn K mainGlobals "_law_mixed" = some (some (.ref ha12)))
    (hl12 : K.lookup ha12 = some ⟨oc12, od12, .func (PySem.W.fnOf "_law_mixed" "_law_mixed" (defArgs s_law_mixed) (defBody s_law_mixed) (defScope s_law_mixed) .none kV12 dc12 pm12 an12 cd12 ct12), shl12⟩)
    (hk12 : PySem.W.codeIn K cd12 "_law_mixed" = true)
    (hp12 : PySem.W.keepIn K (.ref ha12) = true)
    (hg13 : PySem.W.nsIn K mainGlobals "_law_numbers" = some (some (.ref ha13)))
    (hl13 : K.lookup ha13 = some ⟨oc13, od13, .func (PySem.W.fnOf "_law_numbers" "_law_numbers" (defArgs s_law_numbers) (defBody s_law_numbers) (defScope s_law_numbers) .none kV13 dc13 pm13 an13 cd13 ct13), shl13⟩)
    (hk13 : PySem.W.codeIn K cd13 "_law_numbers" = true)
    (hp13 : PySem.W.keepIn K (.ref ha13) = true)
    (hg14 : PySem.W.nsIn K mainGlobals "_law_names" = some (some (.ref ha14)))
    (hl14 : K.lookup ha14 = some ⟨oc14, od14, .func (PySem.W.fnOf "_law_names" "_law_names" (defArgs s_law_names) (defBody s_law_names) (defScope s_law_names) .none kV14 dc14 pm14 an14 cd14 ct14), shl14⟩)
    (hk14 : PySem.W.codeIn K cd14 "_law_names" = true)
    (hp14 : PySem.W.keepIn K (.ref ha14) = true)
    (hg15 : PySem.W.nsIn K mainGlobals "_law_rows" = some (some (.ref ha15)))
    (hl15 : K.lookup ha15 = some ⟨oc15, od15, .func (PySem.W.fnOf "_law_rows" "_law_rows" (defArgs s_law_rows) (defBody s_law_rows) (defScope s_law_rows) .none kV15 dc15 pm15 an15 cd15 ct15), shl15⟩)
    (hk15 : PySem.W.codeIn K cd15 "_law_rows" = true)
    (hp15 : PySem.W.keepIn K (.ref ha15) = true)
    (hg16 : PySem.W.nsIn K mainGlobals "_law_turned" = some (some (.ref ha16)))
    (hl16 : K.lookup ha16 = some ⟨oc16, od16, .func (PySem.W.fnOf "_law_turned" "_law_turned" (defArgs s_law_turned) (defBody s_law_turned) (defScope s_law_turned) .none kV16 dc16 pm16 an16 cd16 ct16), shl16⟩)
    (hk16 : PySem.W.codeIn K cd16 "_law_turned" = true)
    (hp16 : PySem.W.keepIn K (.ref ha16) = true)
    (hg17 : PySem.W.nsIn K mainGlobals "_law_gate" = some (some (.ref ha17)))
    (hl17 : K.lookup ha17 = some ⟨oc17, od17, .func (PySem.W.fnOf "_law_gate" "_law_gate" (defArgs s_law_gate) (defBody s_law_gate) (defScope s_law_gate) .none kV17 dc17 pm17 an17 cd17 ct17), shl17⟩)
    (hk17 : PySem.W.codeIn K cd17 "_law_gate" = true)
    (hp17 : PySem.W.keepIn K (.ref ha17) = true)
    (hg18 : PySem.W.nsIn K mainGlobals "_law_bit" = some (some (.ref ha18)))
    (hl18 : K.lookup ha18 = some ⟨oc18, od18, .func (PySem.W.fnOf "_law_bit" "_law_bit" (defArgs s_law_bit) (defBody s_law_bit) (defScope s_law_bit) .none kV18 dc18 pm18 an18 cd18 ct18), shl18⟩)
    (hk18 : PySem.W.codeIn K cd18 "_law_bit" = true)
    (hp18 : PySem.W.keepIn K (.ref ha18) = true)
    (hg19 : PySem.W.nsIn K mainGlobals "_law_bits" = some (some (.ref ha19)))
    (hl19 : K.lookup ha19 = some ⟨oc19, od19, .func (PySem.W.fnOf "_law_bits" "_law_bits" (defArgs s_law_bits) (defBody s_law_bits) (defScope s_law_bits) .none kV19 dc19 pm19 an19 cd19 ct19), shl19⟩)
    (hk19 : PySem.W.codeIn K cd19 "_law_bits" = true)
    (hp19 : PySem.W.keepIn K (.ref ha19) = true)
    (hg20 : PySem.W.nsIn K mainGlobals "_law_wire" = some (some (.ref ha20)))
    (hl20 : K.lookup ha20 = some ⟨oc20, od20, .func (PySem.W.fnOf "_law_wire" "_law_wire" (defArgs s_law_wire) (defBody s_law_wire) (defScope s_law_wire) .none kV20 dc20 pm20 an20 cd20 ct20), shl20⟩)
    (hk20 : PySem.W.codeIn K cd20 "_law_wire" = true)
    (hp20 : PySem.W.keepIn K (.ref ha20) = true)
    (hg21 : PySem.W.nsIn K mainGlobals "_law_fine_row" = some (some (.ref ha21)))
    (hl21 : K.lookup ha21 = some ⟨oc21, od21, .func (PySem.W.fnOf "_law_fine_row" "_law_fine_row" (defArgs s_law_fine_row) (defBody s_law_fine_row) (defScope s_law_fine_row) .none kV21 dc21 pm21 an21 cd21 ct21), shl21⟩)
    (hk21 : PySem.W.codeIn K cd21 "_law_fine_row" = true)
    (hp21 : PySem.W.keepIn K (.ref ha21) = true)
    (hg22 : PySem.W.nsIn K mainGlobals "_law_fine" = some (some (.ref ha22)))
    (hl22 : K.lookup ha22 = some ⟨oc22, od22, .func (PySem.W.fnOf "_law_fine" "_law_fine" (defArgs s_law_fine) (defBody s_law_fine) (defScope s_law_fine) .none kV22 dc22 pm22 an22 cd22 ct22), shl22⟩)
    (hk22 : PySem.W.codeIn K cd22 "_law_fine" = true)
    (hp22 : PySem.W.keepIn K (.ref ha22) = true)
    (hg23 : PySem.W.nsIn K mainGlobals "_law_outs" = some (some (.ref ha23)))
    (hl23 : K.lookup ha23 = some ⟨oc23, od23, .func (PySem.W.fnOf "_law_outs" "_law_outs" (defArgs s_law_outs) (defBody s_law_outs) (defScope s_law_outs) .none kV23 dc23 pm23 an23 cd23 ct23), shl23⟩)
    (hk23 : PySem.W.codeIn K cd23 "_law_outs" = true)
    (hp23 : PySem.W.keepIn K (.ref ha23) = true)
    (hg24 : PySem.W.nsIn K mainGlobals "_law_own" = some (some (.ref ha24)))
    (hl24 : K.lookup ha24 = some ⟨oc24, od24, .func (PySem.W.fnOf "_law_own" "_law_own" (defArgs s_law_own) (defBody s_law_own) (defScope s_law_own) .none kV24 dc24 pm24 an24 cd24 ct24), shl24⟩)
    (hk24 : PySem.W.codeIn K cd24 "_law_own" = true)
    (hp24 : PySem.W.keepIn K (.ref ha24) = true)
    (hg25 : PySem.W.nsIn K mainGlobals "_law_depths" = some (some (.ref ha25)))
    (hl25 : K.lookup ha25 = some ⟨oc25, od25, .func (PySem.W.fnOf "_law_depths" "_law_depths" (defArgs s_law_depths) (defBody s_law_depths) (defScope s_law_depths) .none kV25 dc25 pm25 an25 cd25 ct25), shl25⟩)
    (hk25 : PySem.W.codeIn K cd25 "_law_depths" = true)
    (hp25 : PySem.W.keepIn K (.ref ha25) = true)
    (hg26 : PySem.W.nsIn K mainGlobals "_law_key" = some (some (.ref ha26)))
    (hl26 : K.lookup ha26 = some ⟨oc26, od26, .func (PySem.W.fnOf "_law_key" "_law_key" (defArgs s_law_key) (defBody s_law_key) (defScope s_law_key) .none kV26 dc26 pm26 an26 cd26 ct26), shl26⟩)
    (hk26 : PySem.W.codeIn K cd26 "_law_key" = true)
    (hp26 : PySem.W.keepIn K (.ref ha26) = true)
    (hg27 : PySem.W.nsIn K mainGlobals "_law_formed" = some (some (.ref ha27)))
    (hl27 : K.lookup ha27 = some ⟨oc27, od27, .func (PySem.W.fnOf "_law_formed" "_law_formed" (defArgs s_law_formed) (defBody s_law_formed) (defScope s_law_formed) .none kV27 dc27 pm27 an27 cd27 ct27), shl27⟩)
    (hk27 : PySem.W.codeIn K cd27 "_law_formed" = true)
    (hp27 : PySem.W.keepIn K (.ref ha27) = true)
    (hg28 : PySem.W.nsIn K mainGlobals "_law_few_ins" = some (some (.ref ha28)))
    (hl28 : K.lookup ha28 = some ⟨oc28, od28, .func (PySem.W.fnOf "_law_few_ins" "_law_few_ins" (defArgs s_law_few_ins) (defBody s_law_few_ins) (defScope s_law_few_ins) .none kV28 dc28 pm28 an28 cd28 ct28), shl28⟩)
    (hk28 : PySem.W.codeIn K cd28 "_law_few_ins" = true)
    (hp28 : PySem.W.keepIn K (.ref ha28) = true)
    (hg29 : PySem.W.nsIn K mainGlobals "_law_all_words" = some (some (.ref ha29)))
    (hl29 : K.lookup ha29 = some ⟨oc29, od29, .func (PySem.W.fnOf "_law_all_words" "_law_all_words" (defArgs s_law_all_words) (defBody s_law_all_words) (defScope s_law_all_words) .none kV29 dc29 pm29 an29 cd29 ct29), shl29⟩)
    (hk29 : PySem.W.codeIn K cd29 "_law_all_words" = true)
    (hp29 : PySem.W.keepIn K (.ref ha29) = true)
    (hg30 : PySem.W.nsIn K mainGlobals "_law_holds" = some (some (.ref ha30)))
    (hl30 : K.lookup ha30 = some ⟨oc30, od30, .func (PySem.W.fnOf "_law_holds" "_law_holds" (defArgs s_law_holds) (defBody s_law_holds) (defScope s_law_holds) .none kV30 dc30 pm30 an30 cd30 ct30), shl30⟩)
    (hk30 : PySem.W.codeIn K cd30 "_law_holds" = true)
    (hp30 : PySem.W.keepIn K (.ref ha30) = true)
    (hg31 : PySem.W.nsIn K mainGlobals "_law_told" = some (some (.ref ha31)))
    (hl31 : K.lookup ha31 = some ⟨oc31, od31, .func (PySem.W.fnOf "_law_told" "_law_told" (defArgs s_law_told) (defBody s_law_told) (defScope s_law_told) .none kV31 dc31 pm31 an31 cd31 ct31), shl31⟩)
    (hk31 : PySem.W.codeIn K cd31 "_law_told" = true)
    (hp31 : PySem.W.keepIn K (.ref ha31) = true)
    (hg32 : PySem.W.nsIn K mainGlobals "law" = some (some (.ref ha32)))
    (hl32 : K.lookup ha32 = some ⟨oc32, od32, .func (PySem.W.fnOf "law" "law" (defArgs s_law) (defBody s_law) (defScope s_law) .none kV32 dc32 pm32 an32 cd32 ct32), shl32⟩)
    (hk32 : PySem.W.codeIn K cd32 "law" = true)
    (hp32 : PySem.W.keepIn K (.ref ha32) = true)
    (gc_Kept : PySem.W.nsIn K mainGlobals "Kept" = some (some (.ref c_Kept)))
    (kc_Kept : PySem.W.keepIn K (.ref c_Kept) = true)
    (pg_Kept : PySem.W.plainGet K c_Kept Str.empty = true)
    (hd_Kept : PySem.W.hasDictIn K c_Kept = true)
    (po_Kept : PySem.W.plainOver K c_Kept = true)
    (sa_Kept : PySem.W.findIn K (.ref c_Kept) "__setattr__" = some (some (.builtin "object.__setattr__")))
    (mk_Kept : PySem.W.makesIn K c_Kept = true)
    (n_Kept_rows : PySem.W.findIn K (.ref c_Kept) "rows" = some none)
    (n_Kept_places : PySem.W.findIn K (.ref c_Kept) "places" = some none)
    (z_bool : PySem.W.nsIn K mainGlobals "bool" = some none)
    (z_enumerate : PySem.W.nsIn K mainGlobals "enumerate" = some none)
    (z_int : PySem.W.nsIn K mainGlobals "int" = some none)
    (z_isinstance : PySem.W.nsIn K mainGlobals "isinstance" = some none)
    (z_len : PySem.W.nsIn K mainGlobals "len" = some none)
    (z_list : PySem.W.nsIn K mainGlobals "list" = some none)
    (z_max : PySem.W.nsIn K mainGlobals "max" = some none)
    (z_min : PySem.W.nsIn K mainGlobals "min" = some none)
    (z_range : PySem.W.nsIn K mainGlobals "range" = some none)
    (z_reversed : PySem.W.nsIn K mainGlobals "reversed" = some none)
    (z_str : PySem.W.nsIn K mainGlobals "str" = some none)
    (z_tuple : PySem.W.nsIn K mainGlobals "tuple" = some none) :
    ∃ fd : FuncData, (∀ (s : Shared) (v : Value), BindsTo s fd ⟨[v], []⟩ [("_law_script", v)]) ∧ ∀ base : Heap, K.In base → base.Ns mainGlobals mg → FnOk l.prog w K mg base CX0 6 fa fd ["_law_script"] (sp_law K) := by
  have e := hfa.symm.trans (PySem.W.mg_of X G hg32)
  cases e
  have F0 := fun_mk (st := s_own_wires) hl0 hk0 hp0
  have B0 := F0.binds (ps := ["row"]) fun _ _ _ _ _ _ us hl => match us, hl with | [_], _ => rfl
  have F1 := fun_mk (st := s_Kept__init) hl1 hk1 hp1
  have B1 := F1.binds (ps := ["self"]) fun _ _ _ _ _ _ us hl => match us, hl with | [_], _ => rfl
  have F2 := fun_mk (st := s_Kept_wire_of) hl2 hk2 hp2
  have B2 := F2.binds (ps := ["self", "row"]) fun _ _ _ _ _ _ us hl => match us, hl with | [_, _], _ => rfl
  have F3 := fun_mk (st := s_Kept_fixed) hl3 hk3 hp3
  have B3 := F3.binds (ps := ["self", "wire"]) fun _ _ _ _ _ _ us hl => match us, hl with | [_, _], _ => rfl
  have F4 := fun_mk (st := s_Kept_turned) hl4 hk4 hp4
  have B4 := F4.binds (ps := ["self", "wire"]) fun _ _ _ _ _ _ us hl => match us, hl with | [_, _], _ => rfl
  have F5 := fun_mk (st := s_Kept_beside_fix) hl5 hk5 hp5
  have B5 := F5.binds (ps := ["self", "word", "bit", "wire"]) fun _ _ _ _ _ _ us hl => match us, hl with | [_, _, _, _], _ => rfl
  have F6 := fun_mk (st := s_Kept_paired) hl6 hk6 hp6
  have B6 := F6.binds (ps := ["self", "word", "one", "other"]) fun _ _ _ _ _ _ us hl => match us, hl with | [_, _, _, _], _ => rfl
  have F7 := fun_mk (st := s_needed) hl7 hk7 hp7
  have B7 := F7.binds (ps := ["rows", "outs"]) fun _ _ _ _ _ _ us hl => match us, hl with | [_, _], _ => rfl
  have F8 := fun_mk (st := s_renumbered) hl8 hk8 hp8
  have B8 := F8.binds (ps := ["rows", "outs"]) fun _ _ _ _ _ _ us hl => match us, hl with | [_, _], _ => rfl
  have F9 := fun_mk (st := s_fewer) hl9 hk9 hp9
  have B9 := F9.binds (ps := ["rows", "outs"]) fun _ _ _ _ _ _ us hl => match us, hl with | [_, _], _ => rfl
  have F10 := fun_mk (st := s_law_whole) hl10 hk10 hp10
  have B10 := F10.binds (ps := ["_law_found"]) fun _ _ _ _ _ _ us hl => match us, hl with | [_], _ => rfl
  have F11 := fun_mk (st := s_law_at) hl11 hk11 hp11
  have B11 := F11.binds (ps := ["_law_script", "_law_k"]) fun _ _ _ _ _ _ us hl => match us, hl with | [_, _], _ => rfl
  have F12 := fun_mk (st := s_law_mixed) hl12 hk12 hp12
  have B12 := F12.binds (ps := ["_law_cell", "_law_k"]) fun _ _ _ _ _ _ us hl => match us, hl with | [_, _], _ => rfl
  have F13 := fun_mk (st := s_law_numbers) hl13 hk13 hp13
  have B13 := F13.binds (ps := ["_law_script", "_law_start"]) fun _ _ _ _ _ _ us hl => match us, hl with | [_, _], _ => rfl
  have F14 := fun_mk (st := s_law_names) hl14 hk14 hp14
  have B14 := F14.binds (ps := ["_law_number"]) fun _ _ _ _ _ _ us hl => match us, hl with | [_], _ => rfl
  have F15 := fun_mk (st := s_law_rows) hl15 hk15 hp15
  have B15 := F15.binds (ps := ["_law_numbers_here", "_law_ins", "_law_near", "_law_late"]) fun _ _ _ _ _ _ us hl => match us, hl with | [_, _, _, _], _ => rfl
  have F16 := fun_mk (st := s_law_turned) hl16 hk16 hp16
  have B16 := F16.binds (ps := ["_law_row"]) fun _ _ _ _ _ _ us hl => match us, hl with | [_], _ => rfl
  have F17 := fun_mk (st := s_law_gate) hl17 hk17 hp17
  have B17 := F17.binds (ps := ["_law_number", "_law_one", "_law_two"]) fun _ _ _ _ _ _ us hl => match us, hl with | [_, _, _], _ => rfl
  have F18 := fun_mk (st := s_law_bit) hl18 hk18 hp18
  have B18 := F18.binds (ps := ["_law_row", "_law_bits_here", "_law_words"]) fun _ _ _ _ _ _ us hl => match us, hl with | [_, _, _], _ => rfl
  have F19 := fun_mk (st := s_law_bits) hl19 hk19 hp19
  have B19 := F19.binds (ps := ["_law_rows_here", "_law_words"]) fun _ _ _ _ _ _ us hl => match us, hl with | [_, _], _ => rfl
  have F20 := fun_mk (st := s_law_wire) hl20 hk20 hp20
  have B20 := F20.binds (ps := ["_law_found", "_law_at_here"]) fun _ _ _ _ _ _ us hl => match us, hl with | [_, _], _ => rfl
  have F21 := fun_mk (st := s_law_fine_row) hl21 hk21 hp21
  have B21 := F21.binds (ps := ["_law_row", "_law_at_here", "_law_ins"]) fun _ _ _ _ _ _ us hl => match us, hl with | [_, _, _], _ => rfl
  have F22 := fun_mk (st := s_law_fine) hl22 hk22 hp22
  have B22 := F22.binds (ps := ["_law_found", "_law_ins", "_law_many"]) fun _ _ _ _ _ _ us hl => match us, hl with | [_, _, _], _ => rfl
  have F23 := fun_mk (st := s_law_outs) hl23 hk23 hp23
  have B23 := F23.binds (ps := ["_law_rows_here", "_law_cell"]) fun _ _ _ _ _ _ us hl => match us, hl with | [_, _], _ => rfl
  have F24 := fun_mk (st := s_law_own) hl24 hk24 hp24
  have B24 := F24.binds (ps := ["_law_row"]) fun _ _ _ _ _ _ us hl => match us, hl with | [_], _ => rfl
  have F25 := fun_mk (st := s_law_depths) hl25 hk25 hp25
  have B25 := F25.binds (ps := ["_law_rows_here"]) fun _ _ _ _ _ _ us hl => match us, hl with | [_], _ => rfl
  have F26 := fun_mk (st := s_law_key) hl26 hk26 hp26
  have B26 := F26.binds (ps := ["_law_row"]) fun _ _ _ _ _ _ us hl => match us, hl with | [_], _ => rfl
  have F27 := fun_mk (st := s_law_formed) hl27 hk27 hp27
  have B27 := F27.binds (ps := ["_law_rows_here", "_law_outs_here"]) fun _ _ _ _ _ _ us hl => match us, hl with | [_, _], _ => rfl
  have F28 := fun_mk (st := s_law_few_ins) hl28 hk28 hp28
  have B28 := F28.binds (ps := ["_law_names_here", "_law_number"]) fun _ _ _ _ _ _ us hl => match us, hl with | [_, _], _ => rfl
  have F29 := fun_mk (st := s_law_all_words) hl29 hk29 hp29
  have B29 := F29.binds (ps := ["_law_names_here", "_law_ins"]) fun _ _ _ _ _ _ us hl => match us, hl with | [_, _], _ => rfl
  have F30 := fun_mk (st := s_law_holds) hl30 hk30 hp30
  have B30 := F30.binds (ps := ["_law_found", "_law_rows_here", "_law_outs_here"]) fun _ _ _ _ _ _ us hl => match us, hl with | [_, _, _], _ => rfl
  have F31 := fun_mk (st := s_law_told) hl31 hk31 hp31
  have B31 := F31.binds (ps := ["_law_rows_here", "_law_outs_here", "_law_some"]) fun _ _ _ _ _ _ us hl => match us, hl with | [_, _, _], _ => rfl
  have F32 := fun_mk (st := s_law) hl32 hk32 hp32
  have B32 := F32.binds (ps := ["_law_script"]) fun _ _ _ _ _ _ us hl => match us, hl with | [_], _ => rfl
  let T : Top K mg := ⟨ha0,
    _,
    F0,
    B0,
    PySem.W.mg_of X G hg0,
    ha1,
    _,
    F1,
    B1,
    ha2,
    _,
    F2,
    B2,
    ha3,
    _,
    F3,
    B3,
    ha4,
    _,
    F4,
    B4,
    ha5,
    _,
    F5,
    B5,
    ha6,
    _,
    F6,
    B6,
    ha7,
    _,
    F7,
    B7,
    PySem.W.mg_of X G hg7,
    ha8,
    _,
    F8,
    B8,
    PySem.W.mg_of X G hg8,
    ha9,
    _,
    F9,
    B9,
    PySem.W.mg_of X G hg9,
    ha10,
    _,
    F10,
    B10,
    PySem.W.mg_of X G hg10,
    ha11,
    _,
    F11,
    B11,
    PySem.W.mg_of X G hg11,
    ha12,
    _,
    F12,
    B12,
    PySem.W.mg_of X G hg12,
    ha13,
    _,
    F13,
    B13,
    PySem.W.mg_of X G hg13,
    ha14,
    _,
    F14,
    B14,
    PySem.W.mg_of X G hg14,
    ha15,
    _,
    F15,
    B15,
    PySem.W.mg_of X G hg15,
    ha16,
    _,
    F16,
    B16,
    PySem.W.mg_of X G hg16,
    ha17,
    _,
    F17,
    B17,
    PySem.W.mg_of X G hg17,
    ha18,
    _,
    F18,
    B18,
    PySem.W.mg_of X G hg18,
    ha19,
    _,
    F19,
    B19,
    PySem.W.mg_of X G hg19,
    ha20,
    _,
    F20,
    B20,
    PySem.W.mg_of X G hg20,
    ha21,
    _,
    F21,
    B21,
    PySem.W.mg_of X G hg21,
    ha22,
    _,
    F22,
    B22,
    PySem.W.mg_of X G hg22,
    ha23,
    _,
    F23,
    B23,
    PySem.W.mg_of X G hg23,
    ha24,
    _,
    F24,
    B24,
    PySem.W.mg_of X G hg24,
    ha25,
    _,
    F25,
    B25,
    PySem.W.mg_of X G hg25,
    ha26,
    _,
    F26,
    B26,
    PySem.W.mg_of X G hg26,
    ha27,
    _,
    F27,
    B27,
    PySem.W.mg_of X G hg27,
    ha28,
    _,
    F28,
    B28,
    PySem.W.mg_of X G hg28,
    ha29,
    _,
    F29,
    B29,
    PySem.W.mg_of X G hg29,
    ha30,
    _,
    F30,
    B30,
    PySem.W.mg_of X G hg30,
    ha31,
    _,
    F31,
    B31,
    PySem.W.mg_of X G hg31,
    fa,
    _,
    F32,
    B32,
    PySem.W.mg_of X G hg32,
    c_Kept,
    PySem.W.mg_of X G gc_Kept,
    gc_Kept,
    kc_Kept,
    ⟨pg_Kept, hd_Kept, po_Kept, sa_Kept⟩,
    ⟨mk_Kept, hg1, hi1, kc_Kept⟩,
    ⟨hg2, hi2, hp2⟩,
    ⟨hg3, hi3, hp3⟩,
    ⟨hg4, hi4, hp4⟩,
    ⟨hg5, hi5, hp5⟩,
    ⟨hg6, hi6, hp6⟩,
    n_Kept_rows,
    n_Kept_places,
    PySem.W.mg_none_of X G z_bool,
    PySem.W.mg_none_of X G z_enumerate,
    PySem.W.mg_none_of X G z_int,
    PySem.W.mg_none_of X G z_isinstance,
    PySem.W.mg_none_of X G z_len,
    PySem.W.mg_none_of X G z_list,
    PySem.W.mg_none_of X G z_max,
    PySem.W.mg_none_of X G z_min,
    PySem.W.mg_none_of X G z_range,
    PySem.W.mg_none_of X G z_reversed,
    PySem.W.mg_none_of X G z_str,
    PySem.W.mg_none_of X G z_tuple⟩
  exact ⟨T.d_law, fun s v => .of_eq rfl, fun base _ _ => ok_law T⟩
end Dpr
open PySem PySem.W PyProof.Rows
set_option maxHeartbeats 0 in
theorem PySem.Challenge.cw_dotpress_k14_whole_fewer_holds : PySem.Challenge.rw_dotpress_k14_whole_fewer.Holds := by
  w_on; o_law; k_head; (case hw => w_witness2)
  k_fill
  refine L2.walk_ofB (l := PySem.Challenge.rw_dotpress_k14_whole_fewer) (n := 63) (k := 6) (x := "_law_script") (CX := fun _ => L2.CX0) (sp := fun w => Dpr.sp_law _) rfl (by decide) rfl ⟨rfl, by decide, by decide⟩ (fun w h Y => PySem.W.kIn_of Y) ?F (fun w H a ns hl hb hO hS => Dpr.end_sp_law hl hb hO hS) (fun _ _ _ _ _ h => h)
  case F =>
    intro w mg fa h KX G hmg
    refine' Dpr.all_mk KX G hmg ?hg0 ?hl0 ?hk0 ?hp0 ?hg1 ?hi1 ?hl1 ?hk1 ?hp1 ?hg2 ?hi2 ?hl2 ?hk2 ?hp2 ?hg3 ?hi3 ?hl3 ?hk3 ?hp3 ?hg4 ?hi4 ?hl4 ?hk4 ?hp4 ?hg5 ?hi5 ?hl5 ?hk5 ?hp5 ?hg6 ?hi6 ?hl6 ?hk6 ?hp6 ?hg7 ?hl7 ?hk7 ?hp7 ?hg8 ?hl8 ?hk8 ?hp8 ?hg9 ?hl9 ?hk9 ?hp9 ?hg10 ?hl10 ?hk10 ?hp10 ?hg11 ?hl11 ?hk11 ?hp11 ?hg12 ?hl12 ?hk12 ?hp12 ?hg13 ?hl13 ?hk13 ?hp13 ?hg14 ?hl14 ?hk14 ?hp14 ?hg15 ?hl15 ?hk15 ?hp15 ?hg16 ?hl16 ?hk16 ?hp16 ?hg17 ?hl17 ?hk17 ?hp17 ?hg18 ?hl18 ?hk18 ?hp18 ?hg19 ?hl19 ?hk19 ?hp19 ?hg20 ?hl20 ?hk20 ?hp20 ?hg21 ?hl21 ?hk21 ?hp21 ?hg22 ?hl22 ?hk22 ?hp22 ?hg23 ?hl23 ?hk23 ?hp23 ?hg24 ?hl24 ?hk24 ?hp24 ?hg25 ?hl25 ?hk25 ?hp25 ?hg26 ?hl26 ?hk26 ?hp26 ?hg27 ?hl27 ?hk27 ?hp27 ?hg28 ?hl28 ?hk28 ?hp28 ?hg29 ?hl29 ?hk29 ?hp29 ?hg30 ?hl30 ?hk30 ?hp30 ?hg31 ?hl31 ?hk31 ?hp31 ?hg32 ?hl32 ?hk32 ?hp32 ?gc_Kept ?kc_Kept ?pg_Kept ?hd_Kept ?po_Kept ?sa_Kept ?mk_Kept ?n_Kept_rows ?n_Kept_places ?z_bool ?z_enumerate ?z_int ?z_isinstance ?z_len ?z_list ?z_max ?z_min ?z_range ?z_reversed ?z_str ?z_tuple
    (case gc_Kept => k_is)
    (case hg0 => k_is)
    (case hl0 => k_is)
    (case hk0 => k_is)
    (case hp0 => k_is)
    (case hg1 => k_is)
    (case hi1 => k_is)
    (case hl1 => k_is)
    (case hk1 => k_is)
    (case hp1 => k_is)
    (case hg2 => k_is)
    (case hi2 => k_is)
    (case hl2 => k_is)
    (case hk2 => k_is)
    (case hp2 => k_is)
    (case hg3 => k_is)
    (case hi3 => k_is)
    (case hl3 => k_is)
    (case hk3 => k_is)
    (case hp3 => k_is)
    (case hg4 => k_is)
    (case hi4 => k_is)
    (case hl4 => k_is)
    (case hk4 => k_is)
    (case hp4 => k_is)
    (case hg5 => k_is)
    (case hi5 => k_is)
    (case hl5 => k_is)
    (case hk5 => k_is)
    (case hp5 => k_is)
    (case hg6 => k_is)
    (case hi6 => k_is)
    (case hl6 => k_is)
    (case hk6 => k_is)
    (case hp6 => k_is)
    (case hg7 => k_is)
    (case hl7 => k_is)
    (case hk7 => k_is)
    (case hp7 => k_is)
    (case hg8 => k_is)
    (case hl8 => k_is)
    (case hk8 => k_is)
    (case hp8 => k_is)
    (case hg9 => k_is)
    (case hl9 => k_is)
    (case hk9 => k_is)
    (case hp9 => k_is)
    (case hg10 => k_is)
    (case hl10 => k_is)
    (case hk10 => k_is)
    (case hp10 => k_is)
    (case hg11 => k_is)
    (case hl11 => k_is)
    (case hk11 => k_is)
    (case hp11 => k_is)
    (case hg12 => k_is)
    (case hl12 => k_is)
    (case hk12 => k_is)
    (case hp12 => k_is)
    (case hg13 => k_is)
    (case hl13 => k_is)
    (case hk13 => k_is)
    (case hp13 => k_is)
    (case hg14 => k_is)
    (case hl14 => k_is)
    (case hk14 => k_is)
    (case hp14 => k_is)
    (case hg15 => k_is)
    (case hl15 => k_is)
    (case hk15 => k_is)
    (case hp15 => k_is)
    (case hg16 => k_is)
    (case hl16 => k_is)
    (case hk16 => k_is)
    (case hp16 => k_is)
    (case hg17 => k_is)
    (case hl17 => k_is)
    (case hk17 => k_is)
    (case hp17 => k_is)
    (case hg18 => k_is)
    (case hl18 => k_is)
    (case hk18 => k_is)
    (case hp18 => k_is)
    (case hg19 => k_is)
    (case hl19 => k_is)
    (case hk19 => k_is)
    (case hp19 => k_is)
    (case hg20 => k_is)
    (case hl20 => k_is)
    (case hk20 => k_is)
    (case hp20 => k_is)
    (case hg21 => k_is)
    (case hl21 => k_is)
    (case hk21 => k_is)
    (case hp21 => k_is)
    (case hg22 => k_is)
    (case hl22 => k_is)
    (case hk22 => k_is)
    (case hp22 => k_is)
    (case hg23 => k_is)
    (case hl23 => k_is)
    (case hk23 => k_is)
    (case hp23 => k_is)
    (case hg24 => k_is)
    (case hl24 => k_is)
    (case hk24 => k_is)
    (case hp24 => k_is)
    (case hg25 => k_is)
    (case hl25 => k_is)
    (case hk25 => k_is)
    (case hp25 => k_is)
    (case hg26 => k_is)
    (case hl26 => k_is)
    (case hk26 => k_is)
    (case hp26 => k_is)
    (case hg27 => k_is)
    (case hl27 => k_is)
    (case hk27 => k_is)
    (case hp27 => k_is)
    (case hg28 => k_is)
    (case hl28 => k_is)
    (case hk28 => k_is)
    (case hp28 => k_is)
    (case hg29 => k_is)
    (case hl29 => k_is)
    (case hk29 => k_is)
    (case hp29 => k_is)
    (case hg30 => k_is)
    (case hl30 => k_is)
    (case hk30 => k_is)
    (case hp30 => k_is)
    (case hg31 => k_is)
    (case hl31 => k_is)
    (case hk31 => k_is)
    (case hp31 => k_is)
    (case hg32 => k_is)
    (case hl32 => k_is)
    (case hk32 => k_is)
    (case hp32 => k_is)
    (case kc_Kept => k_is)
    (case pg_Kept => k_is)
    (case hd_Kept => k_is)
    (case po_Kept => k_is)
    (case sa_Kept => k_is)
    (case mk_Kept => k_is)
    (case n_Kept_rows => k_is)
    (case n_Kept_places => k_is)
    (case z_bool => k_is)
    (case z_enumerate => k_is)
    (case z_int => k_is)
    (case z_isinstance => k_is)
    (case z_len => k_is)
    (case z_list => k_is)
    (case z_max => k_is)
    (case z_min => k_is)
    (case z_range => k_is)
    (case z_reversed => k_is)
    (case z_str => k_is)
    (case z_tuple => k_is)


