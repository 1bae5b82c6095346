/- A part of the proof of 'Rows.QueryReadUptoSaid': for every text and every seeds (of bulk at most 1048576 together) fathomlaw19.QueryRead returns true and its arguments read afterwards as before. -/
import Derived.Test.YtaikjbfkbijlnaaGreatF15
import Derived.Test.YtaikjbfkbijlnaaGreatF24
namespace Go.Proofs.Fathom
open Go Go.Proofs
inductive Tr where
  | leaf (f : Nat) (c : ACode) (r : List ARes) (nt : Nat)
  | node (k : Nat) (a b : Tr)
def Tr.get : Tr → Tab
  | .leaf k c r nt, f => bif Nat.beq f k then some (c, r, nt) else none
  | .node k a b, f => bif Nat.blt f k then a.get f else b.get f
def Tr.Ok (P : Program) : Tr → Prop
  | .leaf k c r nt => FnW P k c r nt
  | .node k a b => a.Ok P ∧ b.Ok P
theorem Tr.get_ok {P : Program} : ∀ {t : Tr}, t.Ok P → TabOk P t.get
  | .leaf k c r nt, h, f, c', r', nt', e => by
    simp only [Tr.get] at e
    by_cases hf : f = k
    · subst hf
      simp only [Nat.beq_refl, cond_true] at e
      cases e
      exact h
    · rw [beq_ne hf] at e
      cases e
  | .node k a b, h, f, c', r', nt', e => by
    simp only [Tr.get] at e
    cases hb : Nat.blt f k <;> rw [hb] at e
    · exact Tr.get_ok h.2 _ _ _ _ e
    · exact Tr.get_ok h.1 _ _ _ _ e
def tr : Tr := (.node 87 (.node 50 (.node 27 (.node 17 (.node 10 (.node 8 (.node 7 (.leaf 5 c_fathomlaw19_QueryRead r_fathomlaw19_QueryRead 165)
 (.leaf 7 c_fathomlaw19_awake r_fathomlaw19_awake 114))
 (.node 9 (.leaf 8 c_fathomlaw19_read r_fathomlaw19_read 45)
 (.leaf 9 c_fathomlaw17_Tables r_fathomlaw17_Tables 78)))
 (.node 14 (.node 13 (.leaf 10 c_query_Places r_query_Places 48)
 (.leaf 13 c_query_Strict r_query_Strict 30))
 (.node 15 (.leaf 14 c_fathomref15_Top r_fathomref15_Top 9)
 (.leaf 15 c_query_Needs r_query_Needs 42))))
 (.node 23 (.node 19 (.node 18 (.leaf 17 c_fathomlaw17_Rising r_fathomlaw17_Rising 110)
 (.leaf 18 c_query_Demand r_query_Demand 70))
 (.node 20 (.leaf 19 c_fathomref15_Is r_fathomref15_Is 13)
 (.leaf 20 c_fathomref16_At r_fathomref16_At 31)))
 (.node 25 (.node 24 (.leaf 23 c_fathomref18_Analyse r_fathomref18_Analyse 116)
 (.leaf 24 c_fathomref04_Parse r_fathomref04_Parse 57))
 (.node 26 (.leaf 25 c_fathomref04_Wide r_fathomref04_Wide 2)
 (.leaf 26 c_fathomref17_Types r_fathomref17_Types 22)))))
 (.node 40 (.node 35 (.node 29 (.node 28 (.leaf 27 c_fathomref16_Count r_fathomref16_Count 36)
 (.leaf 28 c_fathomref16_Of r_fathomref16_Of 13))
 (.node 30 (.leaf 29 c_query_fit r_query_fit 71)
 (.leaf 30 c_query_at r_query_at 42)))
 (.node 38 (.node 37 (.leaf 35 c_abseval_Expr r_abseval_Expr 74)
 (.leaf 37 c_fathomref16_Points r_fathomref16_Points 53))
 (.node 39 (.leaf 38 c_fathomref16_Tuple r_fathomref16_Tuple 52)
 (.leaf 39 c_fathomref16_Number r_fathomref16_Number 53))))
 (.node 46 (.node 44 (.node 43 (.leaf 40 c_points_Top r_points_Top 10)
 (.leaf 43 c_fathomref18_Fits r_fathomref18_Fits 43))
 (.node 45 (.leaf 44 c_fathomref17_Sight_Round r_fathomref17_Sight_Round 47)
 (.leaf 45 c_fathomref18_same r_fathomref18_same 26)))
 (.node 48 (.node 47 (.leaf 46 c_fathomref03_Marks r_fathomref03_Marks 61)
 (.leaf 47 c_fathomref04_reader_program r_fathomref04_reader_program 34))
 (.node 49 (.leaf 48 c_fathomref16_copied r_fathomref16_copied 7)
 (.leaf 49 c_fathomref02_Pack r_fathomref02_Pack 45))))))
 (.node 71 (.node 59 (.node 55 (.node 52 (.node 51 (.leaf 50 c_types_Check r_types_Check 37)
 (.leaf 51 c_tuples_Check r_tuples_Check 55))
 (.node 53 (.leaf 52 c_tuples_At r_tuples_At 27)
 (.leaf 53 c_fathomref07_Check r_fathomref07_Check 64)))
 (.node 57 (.node 56 (.leaf 55 c_abseval_see r_abseval_see 86)
 (.leaf 56 c_points_Check r_points_Check 24))
 (.node 58 (.leaf 57 c_types_Of r_types_Of 38)
 (.leaf 58 c_abseval_shallow r_abseval_shallow 6))))
 (.node 67 (.node 63 (.node 62 (.leaf 59 c_abseval_sight_point r_abseval_sight_point 142)
 (.leaf 62 c_fathomref06_Nest r_fathomref06_Nest 38))
 (.node 64 (.leaf 63 c_fathomref17_Sight_Expr r_fathomref17_Sight_Expr 155)
 (.leaf 64 c_fathomref02_Cells r_fathomref02_Cells 57)))
 (.node 69 (.node 68 (.leaf 67 c_fathomref17_Sight_body r_fathomref17_Sight_body 43)
 (.leaf 68 c_fathomref03_Blank r_fathomref03_Blank 17))
 (.node 70 (.leaf 69 c_fathomref03_one r_fathomref03_one 79)
 (.leaf 70 c_fathomref04_reader_next r_fathomref04_reader_next 13)))))
 (.node 79 (.node 75 (.node 73 (.node 72 (.leaf 71 c_fathomref04_reader_def r_fathomref04_reader_def 103)
 (.leaf 72 c_scope_Check r_scope_Check 75))
 (.node 74 (.leaf 73 c_types_open r_types_open 34)
 (.leaf 74 c_types_Check_1 r_types_Check_1 14)))
 (.node 77 (.node 76 (.leaf 75 c_types_checker_want r_types_checker_want 92)
 (.leaf 76 c_tuples_Count r_tuples_Count 31))
 (.node 78 (.leaf 77 c_tuples_size r_tuples_size 14)
 (.leaf 78 c_rows_Check r_rows_Check 40))))
 (.node 83 (.node 81 (.node 80 (.leaf 79 c_rows_Count r_rows_Count 58)
 (.leaf 80 c_tuples_place r_tuples_place 18))
 (.node 82 (.leaf 81 c_rows_Get r_rows_Get 32)
 (.leaf 82 c_fathomref06_Check r_fathomref06_Check 32)))
 (.node 85 (.node 84 (.leaf 83 c_fathomref07_wrong r_fathomref07_wrong 59)
 (.leaf 84 c_types_Of_1 r_types_Of_1 5))
 (.node 86 (.leaf 85 c_scope_Nest r_scope_Nest 27)
 (.leaf 86 c_abseval_names_find r_abseval_names_find 19)))))))
 (.node 119 (.node 103 (.node 95 (.node 91 (.node 89 (.node 88 (.leaf 87 c_abseval_sight_cases r_abseval_sight_cases 65)
 (.leaf 88 c_abseval_sight_join r_abseval_sight_join 73))
 (.node 90 (.leaf 89 c_fathomref17_Sight_cases r_fathomref17_Sight_cases 62)
 (.leaf 90 c_fathomref17_with r_fathomref17_with 17)))
 (.node 93 (.node 92 (.leaf 91 c_fathomref17_Sight_parts r_fathomref17_Sight_parts 72)
 (.leaf 92 c_fathomref03_run r_fathomref03_run 42))
 (.node 94 (.leaf 93 c_fathomref03_digit r_fathomref03_digit 9)
 (.leaf 94 c_fathomref01_Parse r_fathomref01_Parse 58))))
 (.node 99 (.node 97 (.node 96 (.leaf 95 c_fathomref01_Num_Z r_fathomref01_Num_Z 10)
 (.leaf 96 c_fathomref03_Reserved r_fathomref03_Reserved 18))
 (.node 98 (.leaf 97 c_fathomref03_sign r_fathomref03_sign 57)
 (.leaf 98 c_fathomref04_reader_fail r_fathomref04_reader_fail 19)))
 (.node 101 (.node 100 (.leaf 99 c_fathomref04_reader_name r_fathomref04_reader_name 27)
 (.leaf 100 c_fathomref04_reader_want r_fathomref04_reader_want 10))
 (.node 102 (.leaf 101 c_fathomref04_reader_is r_fathomref04_reader_is 29)
 (.leaf 102 c_fathomref04_reader_typ r_fathomref04_reader_typ 22)))))
 (.node 111 (.node 107 (.node 105 (.node 104 (.leaf 103 c_fathomref04_reader_expr r_fathomref04_reader_expr 106)
 (.leaf 104 c_scope_Check_1 r_scope_Check_1 17))
 (.node 106 (.leaf 105 c_scope_walk r_scope_walk 55)
 (.leaf 106 c_scope_Check_2 r_scope_Check_2 61)))
 (.node 109 (.node 108 (.leaf 107 c_types_checker_all r_types_checker_all 19)
 (.leaf 108 c_types_checker_in r_types_checker_in 32))
 (.node 110 (.leaf 109 c_types_checker_want_1 r_types_checker_want_1 10)
 (.leaf 110 c_types_checker_want_2 r_types_checker_want_2 18))))
 (.node 115 (.node 113 (.node 112 (.leaf 111 c_types_checker_want_3 r_types_checker_want_3 10)
 (.leaf 112 c_types_checker_own r_types_checker_own 85))
 (.node 114 (.leaf 113 c_rows_words r_rows_words 6)
 (.leaf 114 c_bits_OnesCount64 r_bits_OnesCount64 35)))
 (.node 117 (.node 116 (.leaf 115 c_tuples_Number r_tuples_Number 58)
 (.leaf 116 c_fathomref06_faults r_fathomref06_faults 129))
 (.node 118 (.leaf 117 c_fathomref07_own r_fathomref07_own 79)
 (.leaf 118 c_fathomref07_Within r_fathomref07_Within 42))))))
 (.node 135 (.node 127 (.node 123 (.node 121 (.node 120 (.leaf 119 c_fathomref07_Wanted r_fathomref07_Wanted 60)
 (.leaf 120 c_points_Cases r_points_Cases 22))
 (.node 122 (.leaf 121 c_points_Cons r_points_Cons 19)
 (.leaf 122 c_fathomref15_Cases r_fathomref15_Cases 18)))
 (.node 125 (.node 124 (.leaf 123 c_fathomref15_Cons r_fathomref15_Cons 14)
 (.leaf 124 c_fathomref17_number r_fathomref17_number 17))
 (.node 126 (.leaf 125 c_fathomref03_letter r_fathomref03_letter 17)
 (.leaf 126 c_fathomref01_whole r_fathomref01_whole 52))))
 (.node 131 (.node 129 (.node 128 (.leaf 127 c_fathomref01_in r_fathomref01_in 24)
 (.leaf 128 c_fathomref01_Text r_fathomref01_Text 39))
 (.node 130 (.leaf 129 c_fathomref03_Words r_fathomref03_Words 2)
 (.leaf 130 c_fathomref04_reader_take r_fathomref04_reader_take 16)))
 (.node 133 (.node 132 (.leaf 131 c_fathomref04_reader_cons r_fathomref04_reader_cons 20)
 (.leaf 132 c_fathomref04_reader_parts r_fathomref04_reader_parts 32))
 (.node 134 (.leaf 133 c_fathomref04_reader_branches r_fathomref04_reader_branches 51)
 (.leaf 134 c_scope_bound r_scope_bound 32)))))
 (.node 143 (.node 139 (.node 137 (.node 136 (.leaf 135 c_types_checker_call r_types_checker_call 67)
 (.leaf 136 c_fathomref06_heads r_fathomref06_heads 22))
 (.node 138 (.leaf 137 c_fathomref06_Has r_fathomref06_Has 18)
 (.leaf 138 c_fathomref06_seen r_fathomref06_seen 55)))
 (.node 141 (.node 140 (.leaf 139 c_fathomref07_Head r_fathomref07_Head 28)
 (.leaf 140 c_fathomref07_with r_fathomref07_with 17))
 (.node 142 (.leaf 141 c_fathomref01_digits r_fathomref01_digits 24)
 (.leaf 142 c_fathomref04_reader_comp r_fathomref04_reader_comp 29))))
 (.node 147 (.node 145 (.node 144 (.leaf 143 c_fathomref04_two r_fathomref04_two 16)
 (.leaf 144 c_fathomref06_with r_fathomref06_with 12))
 (.node 146 (.leaf 145 c_fathomref06_Bound r_fathomref06_Bound 32)
 (.leaf 146 c_fathomref04_reader_sum r_fathomref04_reader_sum 35)))
 (.node 149 (.node 148 (.leaf 147 c_fathomref04_reader_term r_fathomref04_reader_term 35)
 (.leaf 148 c_fathomref04_reader_unit r_fathomref04_reader_unit 101))
 (.node 150 (.leaf 149 c_fathomref04_reader_named r_fathomref04_reader_named 47)
 (.leaf 150 c_fathomref04_word r_fathomref04_word 20))))))))
def tab : Tab := tr.get
theorem tab_ok : TabOk Tryz.prog tab := Tr.get_ok (t := tr) ⟨⟨⟨⟨⟨⟨⟨w_fathomlaw19_QueryRead,
 w_fathomlaw19_awake⟩,
 ⟨w_fathomlaw19_read,
 w_fathomlaw17_Tables⟩⟩,
 ⟨⟨w_query_Places,
 w_query_Strict⟩,
 ⟨w_fathomref15_Top,
 w_query_Needs⟩⟩⟩,
 ⟨⟨⟨w_fathomlaw17_Rising,
 w_query_Demand⟩,
 ⟨w_fathomref15_Is,
 w_fathomref16_At⟩⟩,
 ⟨⟨w_fathomref18_Analyse,
 w_fathomref04_Parse⟩,
 ⟨w_fathomref04_Wide,
 w_fathomref17_Types⟩⟩⟩⟩,
 ⟨⟨⟨⟨w_fathomref16_Count,
 w_fathomref16_Of⟩,
 ⟨w_query_fit,
 w_query_at⟩⟩,
 ⟨⟨w_abseval_Expr,
 w_fathomref16_Points⟩,
 ⟨w_fathomref16_Tuple,
 w_fathomref16_Number⟩⟩⟩,
 ⟨⟨⟨w_points_Top,
 w_fathomref18_Fits⟩,
 ⟨w_fathomref17_Sight_Round,
 w_fathomref18_same⟩⟩,
 ⟨⟨w_fathomref03_Marks,
 w_fathomref04_reader_program⟩,
 ⟨w_fathomref16_copied,
 w_fathomref02_Pack⟩⟩⟩⟩⟩,
 ⟨⟨⟨⟨⟨w_types_Check,
 w_tuples_Check⟩,
 ⟨w_tuples_At,
 w_fathomref07_Check⟩⟩,
 ⟨⟨w_abseval_see,
 w_points_Check⟩,
 ⟨w_types_Of,
 w_abseval_shallow⟩⟩⟩,
 ⟨⟨⟨w_abseval_sight_point,
 w_fathomref06_Nest⟩,
 ⟨w_fathomref17_Sight_Expr,
 w_fathomref02_Cells⟩⟩,
 ⟨⟨w_fathomref17_Sight_body,
 w_fathomref03_Blank⟩,
 ⟨w_fathomref03_one,
 w_fathomref04_reader_next⟩⟩⟩⟩,
 ⟨⟨⟨⟨w_fathomref04_reader_def,
 w_scope_Check⟩,
 ⟨w_types_open,
 w_types_Check_1⟩⟩,
 ⟨⟨w_types_checker_want,
 w_tuples_Count⟩,
 ⟨w_tuples_size,
 w_rows_Check⟩⟩⟩,
 ⟨⟨⟨w_rows_Count,
 w_tuples_place⟩,
 ⟨w_rows_Get,
 w_fathomref06_Check⟩⟩,
 ⟨⟨w_fathomref07_wrong,
 w_types_Of_1⟩,
 ⟨w_scope_Nest,
 w_abseval_names_find⟩⟩⟩⟩⟩⟩,
 ⟨⟨⟨⟨⟨⟨w_abseval_sight_cases,
 w_abseval_sight_join⟩,
 ⟨w_fathomref17_Sight_cases,
 w_fathomref17_with⟩⟩,
 ⟨⟨w_fathomref17_Sight_parts,
 w_fathomref03_run⟩,
 ⟨w_fathomref03_digit,
 w_fathomref01_Parse⟩⟩⟩,
 ⟨⟨⟨w_fathomref01_Num_Z,
 w_fathomref03_Reserved⟩,
 ⟨w_fathomref03_sign,
 w_fathomref04_reader_fail⟩⟩,
 ⟨⟨w_fathomref04_reader_name,
 w_fathomref04_reader_want⟩,
 ⟨w_fathomref04_reader_is,
 w_fathomref04_reader_typ⟩⟩⟩⟩,
 ⟨⟨⟨⟨w_fathomref04_reader_expr,
 w_scope_Check_1⟩,
 ⟨w_scope_walk,
 w_scope_Check_2⟩⟩,
 ⟨⟨w_types_checker_all,
 w_types_checker_in⟩,
 ⟨w_types_checker_want_1,
 w_types_checker_want_2⟩⟩⟩,
 ⟨⟨⟨w_types_checker_want_3,
 w_types_checker_own⟩,
 ⟨w_rows_words,
 w_bits_OnesCount64⟩⟩,
 ⟨⟨w_tuples_Number,
 w_fathomref06_faults⟩,
 ⟨w_fathomref07_own,
 w_fathomref07_Within⟩⟩⟩⟩⟩,
 ⟨⟨⟨⟨⟨w_fathomref07_Wanted,
 w_points_Cases⟩,
 ⟨w_points_Cons,
 w_fathomref15_Cases⟩⟩,
 ⟨⟨w_fathomref15_Cons,
 w_fathomref17_number⟩,
 ⟨w_fathomref03_letter,
 w_fathomref01_whole⟩⟩⟩,
 ⟨⟨⟨w_fathomref01_in,
 w_fathomref01_Text⟩,
 ⟨w_fathomref03_Words,
 w_fathomref04_reader_take⟩⟩,
 ⟨⟨w_fathomref04_reader_cons,
 w_fathomref04_reader_parts⟩,
 ⟨w_fathomref04_reader_branches,
 w_scope_bound⟩⟩⟩⟩,
 ⟨⟨⟨⟨w_types_checker_call,
 w_fathomref06_heads⟩,
 ⟨w_fathomref06_Has,
 w_fathomref06_seen⟩⟩,
 ⟨⟨w_fathomref07_Head,
 w_fathomref07_with⟩,
 ⟨w_fathomref01_digits,
 w_fathomref04_reader_comp⟩⟩⟩,
 ⟨⟨⟨w_fathomref04_two,
 w_fathomref06_with⟩,
 ⟨w_fathomref06_Bound,
 w_fathomref04_reader_sum⟩⟩,
 ⟨⟨w_fathomref04_reader_term,
 w_fathomref04_reader_unit⟩,
 ⟨w_fathomref04_reader_named,
 w_fathomref04_word⟩⟩⟩⟩⟩⟩⟩
def esc (f : FuncId) : Bool := [37, 38, 64, 73, 75, 107, 108, 109, 110, 111, 112, 135].any fun k => Nat.beq k f
end Go.Proofs.Fathom
