/-
The numbers of the functions, types and variables of this seat's program, by name; printed by a program of this work.
The library's contracts that this seat's proofs use (strconv.FormatInt at base 10, strings.Repeat), laid at its program in plain words by the kit's tool.
The machine at this seat's program: what is known of the package's variables; the library's functions that are met by a contract.
Trees of values, as data of the machine.
Bits of numbers that are not below nought.
Letters in bytes, as the program has them.
The walks through package utf.
The reference's letters are the program's.
The walks through the reference's letters.
The walks through the reference's letters, II.
-/
import Derived.Test.YtaoejccgdpppgaaGreatDoorPE
import Derived.Test.YtaoejccgdpppgaaGreatDoorProg
import Derived.KernelRfl
import Derived.Shelf.Strconv.Itoa4
import Derived.Shelf.Strings.Repeat
import Derived.Lib.AppendIntMem

section
namespace Go.Proofs.YtaoejccgdpppgaaGreatDoor
open Go Go.Am
noncomputable abbrev PP : Program := Tryz.prog
theorem mixP : PP.follows .mixedOrders = true := by kernel_rfl
namespace T
abbrev int64 : Nat := 2
abbrev int : Nat := 3
abbrev uint8 : Nat := 5
abbrev string : Nat := 9
abbrev api_Kind : Nat := 23
abbrev sl_api_Value : Nat := 24
abbrev sl_api_Pair : Nat := 25
abbrev api_Value : Nat := 27
abbrev api_Pair : Nat := 51
abbrev ptr_jprint_printer : Nat := 59
abbrev jprint_printer : Nat := 64
abbrev value_judge : Nat := 91
abbrev error : Nat := 94
abbrev dec_number : Nat := 149
abbrev uint64 : Nat := 160
abbrev ptr_strconv_NumError : Nat := 174
abbrev arr20_uint64 : Nat := 180
abbrev ptr_errors_errorString : Nat := 202
abbrev errors_errorString : Nat := 204
end T
namespace Gl
abbrev internal_strconv_uint64pow10 : Nat := 1
abbrev strconv_ErrSyntax : Nat := 4
abbrev strconv_ErrRange : Nat := 5
end Gl
namespace F
abbrev law9_JprintSays : Nat := 4
theorem law9_JprintSays_is : FnIs PP 4 (Tryz.f4.body.getD .skip) 30 1 Tryz.f4.results.toList := ⟨⟨_, Tryz.func4, by kernel_rfl, by kernel_rfl, rfl, by kernel_rfl⟩, by decide, by kernel_rfl⟩
abbrev law9_JprintApart : Nat := 5
theorem law9_JprintApart_is : FnIs PP 5 (Tryz.f5.body.getD .skip) 51 2 Tryz.f5.results.toList := ⟨⟨_, Tryz.func5, by kernel_rfl, by kernel_rfl, rfl, by kernel_rfl⟩, by decide, by kernel_rfl⟩
abbrev law9_JprintLines : Nat := 6
noncomputable abbrev law9_JprintLines_c : Option Code := Tryz.f6.body
theorem law9_JprintLines_is : FnIs PP 6 (Tryz.f6.body.getD .skip) 58 1 Tryz.f6.results.toList := ⟨⟨_, Tryz.func6, by kernel_rfl, by kernel_rfl, rfl, by kernel_rfl⟩, by decide, by kernel_rfl⟩
abbrev law9_awake : Nat := 10
theorem law9_awake_is : FnIs PP 10 (Tryz.f10.body.getD .skip) 9 0 Tryz.f10.results.toList := ⟨⟨_, Tryz.func10, by kernel_rfl, by kernel_rfl, rfl, by kernel_rfl⟩, by decide, by kernel_rfl⟩
abbrev jprint_Compact : Nat := 11
theorem jprint_Compact_is : FnIs PP 11 (Tryz.f11.body.getD .skip) 5 1 Tryz.f11.results.toList := ⟨⟨_, Tryz.func11, by kernel_rfl, by kernel_rfl, rfl, by kernel_rfl⟩, by decide, by kernel_rfl⟩
abbrev jprint_Indent : Nat := 12
theorem jprint_Indent_is : FnIs PP 12 (Tryz.f12.body.getD .skip) 5 1 Tryz.f12.results.toList := ⟨⟨_, Tryz.func12, by kernel_rfl, by kernel_rfl, rfl, by kernel_rfl⟩, by decide, by kernel_rfl⟩
abbrev ref1_Heavy : Nat := 13
theorem ref1_Heavy_is : FnIs PP 13 (Tryz.f13.body.getD .skip) 17 3 Tryz.f13.results.toList := ⟨⟨_, Tryz.func13, by kernel_rfl, by kernel_rfl, rfl, by kernel_rfl⟩, by decide, by kernel_rfl⟩
abbrev ref1_Value : Nat := 14
theorem ref1_Value_is : FnIs PP 14 (Tryz.f14.body.getD .skip) 10 1 Tryz.f14.results.toList := ⟨⟨_, Tryz.func14, by kernel_rfl, by kernel_rfl, rfl, by kernel_rfl⟩, by decide, by kernel_rfl⟩
abbrev ref8_Print : Nat := 15
noncomputable abbrev ref8_Print_c : Option Code := Tryz.f15.body
theorem ref8_Print_is : FnIs PP 15 (Tryz.f15.body.getD .skip) 111 2 Tryz.f15.results.toList := ⟨⟨_, Tryz.func15, by kernel_rfl, by kernel_rfl, rfl, by kernel_rfl⟩, by decide, by kernel_rfl⟩
abbrev law9_stamped : Nat := 16
noncomputable abbrev law9_stamped_c : Option Code := Tryz.f16.body
theorem law9_stamped_is : FnIs PP 16 (Tryz.f16.body.getD .skip) 35 1 Tryz.f16.results.toList := ⟨⟨_, Tryz.func16, by kernel_rfl, by kernel_rfl, rfl, by kernel_rfl⟩, by decide, by kernel_rfl⟩
abbrev ref1_Same : Nat := 17
noncomputable abbrev ref1_Same_c : Option Code := Tryz.f17.body
theorem ref1_Same_is : FnIs PP 17 (Tryz.f17.body.getD .skip) 118 3 Tryz.f17.results.toList := ⟨⟨_, Tryz.func17, by kernel_rfl, by kernel_rfl, rfl, by kernel_rfl⟩, by decide, by kernel_rfl⟩
abbrev ref1_Valid : Nat := 19
noncomputable abbrev ref1_Valid_c : Option Code := Tryz.f19.body
theorem ref1_Valid_is : FnIs PP 19 (Tryz.f19.body.getD .skip) 23 1 Tryz.f19.results.toList := ⟨⟨_, Tryz.func19, by kernel_rfl, by kernel_rfl, rfl, by kernel_rfl⟩, by decide, by kernel_rfl⟩
abbrev law9_one : Nat := 21
theorem law9_one_is : FnIs PP 21 (Tryz.f21.body.getD .skip) 5 0 Tryz.f21.results.toList := ⟨⟨_, Tryz.func21, by kernel_rfl, by kernel_rfl, rfl, by kernel_rfl⟩, by decide, by kernel_rfl⟩
abbrev jprint_text : Nat := 22
theorem jprint_text_is : FnIs PP 22 (Tryz.f22.body.getD .skip) 19 2 Tryz.f22.results.toList := ⟨⟨_, Tryz.func22, by kernel_rfl, by kernel_rfl, rfl, by kernel_rfl⟩, by decide, by kernel_rfl⟩
abbrev ref1_steep : Nat := 23
noncomputable abbrev ref1_steep_c : Option Code := Tryz.f23.body
theorem ref1_steep_is : FnIs PP 23 (Tryz.f23.body.getD .skip) 66 3 Tryz.f23.results.toList := ⟨⟨_, Tryz.func23, by kernel_rfl, by kernel_rfl, rfl, by kernel_rfl⟩, by decide, by kernel_rfl⟩
abbrev ref1_plain : Nat := 24
noncomputable abbrev ref1_plain_c : Option Code := Tryz.f24.body
theorem ref1_plain_is : FnIs PP 24 (Tryz.f24.body.getD .skip) 160 1 Tryz.f24.results.toList := ⟨⟨_, Tryz.func24, by kernel_rfl, by kernel_rfl, rfl, by kernel_rfl⟩, by decide, by kernel_rfl⟩
abbrev ref1_Text : Nat := 25
theorem ref1_Text_is : FnIs PP 25 (Tryz.f25.body.getD .skip) 28 1 Tryz.f25.results.toList := ⟨⟨_, Tryz.func25, by kernel_rfl, by kernel_rfl, rfl, by kernel_rfl⟩, by decide, by kernel_rfl⟩
abbrev ref5_Quote : Nat := 26
noncomputable abbrev ref5_Quote_c : Option Code := Tryz.f26.body
theorem ref5_Quote_is : FnIs PP 26 (Tryz.f26.body.getD .skip) 101 2 Tryz.f26.results.toList := ⟨⟨_, Tryz.func26, by kernel_rfl, by kernel_rfl, rfl, by kernel_rfl⟩, by decide, by kernel_rfl⟩
abbrev ref8_line : Nat := 27
noncomputable abbrev ref8_line_c : Option Code := Tryz.f27.body
theorem ref8_line_is : FnIs PP 27 (Tryz.f27.body.getD .skip) 15 1 Tryz.f27.results.toList := ⟨⟨_, Tryz.func27, by kernel_rfl, by kernel_rfl, rfl, by kernel_rfl⟩, by decide, by kernel_rfl⟩
abbrev ref1_Take : Nat := 31
noncomputable abbrev ref1_Take_c : Option Code := Tryz.f31.body
theorem ref1_Take_is : FnIs PP 31 (Tryz.f31.body.getD .skip) 79 1 Tryz.f31.results.toList := ⟨⟨_, Tryz.func31, by kernel_rfl, by kernel_rfl, rfl, by kernel_rfl⟩, by decide, by kernel_rfl⟩
abbrev value_Good : Nat := 32
theorem value_Good_is : FnIs PP 32 (Tryz.f32.body.getD .skip) 9 1 Tryz.f32.results.toList := ⟨⟨_, Tryz.func32, by kernel_rfl, by kernel_rfl, rfl, by kernel_rfl⟩, by decide, by kernel_rfl⟩
abbrev jprint_printer_value : Nat := 33
theorem jprint_printer_value_is : FnIs PP 33 (Tryz.f33.body.getD .skip) 69 3 Tryz.f33.results.toList := ⟨⟨_, Tryz.func33, by kernel_rfl, by kernel_rfl, rfl, by kernel_rfl⟩, by decide, by kernel_rfl⟩
abbrev strings_Builder_String : Nat := 34
theorem strings_Builder_String_is : FnIs PP 34 (Tryz.f34.body.getD .skip) 14 1 Tryz.f34.results.toList := ⟨⟨_, Tryz.func34, by kernel_rfl, by kernel_rfl, rfl, by kernel_rfl⟩, by decide, by kernel_rfl⟩
abbrev ref1_Int : Nat := 35
noncomputable abbrev ref1_Int_c : Option Code := Tryz.f35.body
theorem ref1_Int_is : FnIs PP 35 (Tryz.f35.body.getD .skip) 59 1 Tryz.f35.results.toList := ⟨⟨_, Tryz.func35, by kernel_rfl, by kernel_rfl, rfl, by kernel_rfl⟩, by decide, by kernel_rfl⟩
abbrev ref1_Number : Nat := 36
theorem ref1_Number_is : FnIs PP 36 (Tryz.f36.body.getD .skip) 20 1 Tryz.f36.results.toList := ⟨⟨_, Tryz.func36, by kernel_rfl, by kernel_rfl, rfl, by kernel_rfl⟩, by decide, by kernel_rfl⟩
abbrev ref1_Str : Nat := 37
theorem ref1_Str_is : FnIs PP 37 (Tryz.f37.body.getD .skip) 11 1 Tryz.f37.results.toList := ⟨⟨_, Tryz.func37, by kernel_rfl, by kernel_rfl, rfl, by kernel_rfl⟩, by decide, by kernel_rfl⟩
abbrev ref1_Stamp : Nat := 38
noncomputable abbrev ref1_Stamp_c : Option Code := Tryz.f38.body
theorem ref1_Stamp_is : FnIs PP 38 (Tryz.f38.body.getD .skip) 28 1 Tryz.f38.results.toList := ⟨⟨_, Tryz.func38, by kernel_rfl, by kernel_rfl, rfl, by kernel_rfl⟩, by decide, by kernel_rfl⟩
abbrev ref1_Starts : Nat := 39
noncomputable abbrev ref1_Starts_c : Option Code := Tryz.f39.body
theorem ref1_Starts_is : FnIs PP 39 (Tryz.f39.body.getD .skip) 32 1 Tryz.f39.results.toList := ⟨⟨_, Tryz.func39, by kernel_rfl, by kernel_rfl, rfl, by kernel_rfl⟩, by decide, by kernel_rfl⟩
abbrev ref5_hex4 : Nat := 40
theorem ref5_hex4_is : FnIs PP 40 (Tryz.f40.body.getD .skip) 25 1 Tryz.f40.results.toList := ⟨⟨_, Tryz.func40, by kernel_rfl, by kernel_rfl, rfl, by kernel_rfl⟩, by decide, by kernel_rfl⟩
abbrev ref1_Put : Nat := 51
theorem ref1_Put_is : FnIs PP 51 (Tryz.f51.body.getD .skip) 64 1 Tryz.f51.results.toList := ⟨⟨_, Tryz.func51, by kernel_rfl, by kernel_rfl, rfl, by kernel_rfl⟩, by decide, by kernel_rfl⟩
abbrev value_judge_value : Nat := 52
noncomputable abbrev value_judge_value_c : Option Code := Tryz.f52.body
theorem value_judge_value_is : FnIs PP 52 (Tryz.f52.body.getD .skip) 84 3 Tryz.f52.results.toList := ⟨⟨_, Tryz.func52, by kernel_rfl, by kernel_rfl, rfl, by kernel_rfl⟩, by decide, by kernel_rfl⟩
abbrev strings_Builder_WriteString : Nat := 53
theorem strings_Builder_WriteString_is : FnIs PP 53 (Tryz.f53.body.getD .skip) 19 2 Tryz.f53.results.toList := ⟨⟨_, Tryz.func53, by kernel_rfl, by kernel_rfl, rfl, by kernel_rfl⟩, by decide, by kernel_rfl⟩
abbrev dec_Text : Nat := 54
theorem dec_Text_is : FnIs PP 54 (Tryz.f54.body.getD .skip) 5 1 Tryz.f54.results.toList := ⟨⟨_, Tryz.func54, by kernel_rfl, by kernel_rfl, rfl, by kernel_rfl⟩, by decide, by kernel_rfl⟩
abbrev jprint_printer_parts : Nat := 55
noncomputable abbrev jprint_printer_parts_c : Option Code := Tryz.f55.body
theorem jprint_printer_parts_is : FnIs PP 55 (Tryz.f55.body.getD .skip) 46 6 Tryz.f55.results.toList := ⟨⟨_, Tryz.func55, by kernel_rfl, by kernel_rfl, rfl, by kernel_rfl⟩, by decide, by kernel_rfl⟩
abbrev jprint_printer_value_1 : Nat := 56
theorem jprint_printer_value_1_is : FnIs PP 56 (Tryz.f56.body.getD .skip) 14 4 Tryz.f56.results.toList := ⟨⟨_, Tryz.func56, by kernel_rfl, by kernel_rfl, rfl, by kernel_rfl⟩, by decide, by kernel_rfl⟩
abbrev jprint_printer_value_2 : Nat := 57
theorem jprint_printer_value_2_is : FnIs PP 57 (Tryz.f57.body.getD .skip) 14 4 Tryz.f57.results.toList := ⟨⟨_, Tryz.func57, by kernel_rfl, by kernel_rfl, rfl, by kernel_rfl⟩, by decide, by kernel_rfl⟩
abbrev jprint_printer_pair : Nat := 58
theorem jprint_printer_pair_is : FnIs PP 58 (Tryz.f58.body.getD .skip) 27 3 Tryz.f58.results.toList := ⟨⟨_, Tryz.func58, by kernel_rfl, by kernel_rfl, rfl, by kernel_rfl⟩, by decide, by kernel_rfl⟩
abbrev esc_Quote : Nat := 59
theorem esc_Quote_is : FnIs PP 59 (Tryz.f59.body.getD .skip) 5 1 Tryz.f59.results.toList := ⟨⟨_, Tryz.func59, by kernel_rfl, by kernel_rfl, rfl, by kernel_rfl⟩, by decide, by kernel_rfl⟩
abbrev ref1_parts : Nat := 60
noncomputable abbrev ref1_parts_c : Option Code := Tryz.f60.body
theorem ref1_parts_is : FnIs PP 60 (Tryz.f60.body.getD .skip) 106 1 Tryz.f60.results.toList := ⟨⟨_, Tryz.func60, by kernel_rfl, by kernel_rfl, rfl, by kernel_rfl⟩, by decide, by kernel_rfl⟩
abbrev ref1_Form : Nat := 61
theorem ref1_Form_is : FnIs PP 61 (Tryz.f61.body.getD .skip) 30 1 Tryz.f61.results.toList := ⟨⟨_, Tryz.func61, by kernel_rfl, by kernel_rfl, rfl, by kernel_rfl⟩, by decide, by kernel_rfl⟩
abbrev ref1_power : Nat := 62
noncomputable abbrev ref1_power_c : Option Code := Tryz.f62.body
theorem ref1_power_is : FnIs PP 62 (Tryz.f62.body.getD .skip) 36 1 Tryz.f62.results.toList := ⟨⟨_, Tryz.func62, by kernel_rfl, by kernel_rfl, rfl, by kernel_rfl⟩, by decide, by kernel_rfl⟩
abbrev utf_Valid : Nat := 63
noncomputable abbrev utf_Valid_c : Option Code := Tryz.f63.body
theorem utf_Valid_is : FnIs PP 63 (Tryz.f63.body.getD .skip) 26 1 Tryz.f63.results.toList := ⟨⟨_, Tryz.func63, by kernel_rfl, by kernel_rfl, rfl, by kernel_rfl⟩, by decide, by kernel_rfl⟩
abbrev strings_TrimLeft : Nat := 64
theorem strings_TrimLeft_is : FnIs PP 64 (Tryz.f64.body.getD .skip) 37 2 Tryz.f64.results.toList := ⟨⟨_, Tryz.func64, by kernel_rfl, by kernel_rfl, rfl, by kernel_rfl⟩, by decide, by kernel_rfl⟩
abbrev strings_IndexByte : Nat := 65
theorem strings_IndexByte_is : FnIs PP 65 (Tryz.f65.body.getD .skip) 8 2 Tryz.f65.results.toList := ⟨⟨_, Tryz.func65, by kernel_rfl, by kernel_rfl, rfl, by kernel_rfl⟩, by decide, by kernel_rfl⟩
abbrev dec_Int : Nat := 71
theorem dec_Int_is : FnIs PP 71 (Tryz.f71.body.getD .skip) 25 1 Tryz.f71.results.toList := ⟨⟨_, Tryz.func71, by kernel_rfl, by kernel_rfl, rfl, by kernel_rfl⟩, by decide, by kernel_rfl⟩
abbrev ref1_Good : Nat := 74
theorem ref1_Good_is : FnIs PP 74 (Tryz.f74.body.getD .skip) 17 1 Tryz.f74.results.toList := ⟨⟨_, Tryz.func74, by kernel_rfl, by kernel_rfl, rfl, by kernel_rfl⟩, by decide, by kernel_rfl⟩
abbrev value_own : Nat := 75
noncomputable abbrev value_own_c : Option Code := Tryz.f75.body
theorem value_own_is : FnIs PP 75 (Tryz.f75.body.getD .skip) 135 1 Tryz.f75.results.toList := ⟨⟨_, Tryz.func75, by kernel_rfl, by kernel_rfl, rfl, by kernel_rfl⟩, by decide, by kernel_rfl⟩
abbrev value_letters : Nat := 76
theorem value_letters_is : FnIs PP 76 (Tryz.f76.body.getD .skip) 15 1 Tryz.f76.results.toList := ⟨⟨_, Tryz.func76, by kernel_rfl, by kernel_rfl, rfl, by kernel_rfl⟩, by decide, by kernel_rfl⟩
abbrev strings_Builder_copyCheck : Nat := 77
theorem strings_Builder_copyCheck_is : FnIs PP 77 (Tryz.f77.body.getD .skip) 20 1 Tryz.f77.results.toList := ⟨⟨_, Tryz.func77, by kernel_rfl, by kernel_rfl, rfl, by kernel_rfl⟩, by decide, by kernel_rfl⟩
abbrev strconv_FormatInt : Nat := 78
abbrev jprint_printer_line : Nat := 79
theorem jprint_printer_line_is : FnIs PP 79 (Tryz.f79.body.getD .skip) 15 2 Tryz.f79.results.toList := ⟨⟨_, Tryz.func79, by kernel_rfl, by kernel_rfl, rfl, by kernel_rfl⟩, by decide, by kernel_rfl⟩
abbrev esc_quote : Nat := 80
noncomputable abbrev esc_quote_c : Option Code := Tryz.f80.body
theorem esc_quote_is : FnIs PP 80 (Tryz.f80.body.getD .skip) 64 2 Tryz.f80.results.toList := ⟨⟨_, Tryz.func80, by kernel_rfl, by kernel_rfl, rfl, by kernel_rfl⟩, by decide, by kernel_rfl⟩
abbrev ref1_run : Nat := 81
noncomputable abbrev ref1_run_c : Option Code := Tryz.f81.body
theorem ref1_run_is : FnIs PP 81 (Tryz.f81.body.getD .skip) 17 1 Tryz.f81.results.toList := ⟨⟨_, Tryz.func81, by kernel_rfl, by kernel_rfl, rfl, by kernel_rfl⟩, by decide, by kernel_rfl⟩
abbrev ref1_digit : Nat := 82
theorem ref1_digit_is : FnIs PP 82 (Tryz.f82.body.getD .skip) 9 1 Tryz.f82.results.toList := ⟨⟨_, Tryz.func82, by kernel_rfl, by kernel_rfl, rfl, by kernel_rfl⟩, by decide, by kernel_rfl⟩
abbrev utf_Take : Nat := 83
noncomputable abbrev utf_Take_c : Option Code := Tryz.f83.body
theorem utf_Take_is : FnIs PP 83 (Tryz.f83.body.getD .skip) 52 1 Tryz.f83.results.toList := ⟨⟨_, Tryz.func83, by kernel_rfl, by kernel_rfl, rfl, by kernel_rfl⟩, by decide, by kernel_rfl⟩
abbrev strings_trimLeftByte : Nat := 84
noncomputable abbrev strings_trimLeftByte_c : Option Code := Tryz.f84.body
theorem strings_trimLeftByte_is : FnIs PP 84 (Tryz.f84.body.getD .skip) 17 2 Tryz.f84.results.toList := ⟨⟨_, Tryz.func84, by kernel_rfl, by kernel_rfl, rfl, by kernel_rfl⟩, by decide, by kernel_rfl⟩
abbrev internal_stringslite_IndexByte : Nat := 88
theorem internal_stringslite_IndexByte_is : FnIs PP 88 (Tryz.f88.body.getD .skip) 8 2 Tryz.f88.results.toList := ⟨⟨_, Tryz.func88, by kernel_rfl, by kernel_rfl, rfl, by kernel_rfl⟩, by decide, by kernel_rfl⟩
abbrev dec_Good : Nat := 93
theorem dec_Good_is : FnIs PP 93 (Tryz.f93.body.getD .skip) 11 1 Tryz.f93.results.toList := ⟨⟨_, Tryz.func93, by kernel_rfl, by kernel_rfl, rfl, by kernel_rfl⟩, by decide, by kernel_rfl⟩
abbrev strings_ContainsAny : Nat := 98
abbrev strconv_ParseInt : Nat := 99
abbrev value_stamp : Nat := 103
theorem value_stamp_is : FnIs PP 103 (Tryz.f103.body.getD .skip) 19 1 Tryz.f103.results.toList := ⟨⟨_, Tryz.func103, by kernel_rfl, by kernel_rfl, rfl, by kernel_rfl⟩, by decide, by kernel_rfl⟩
abbrev internal_abi_NoEscape : Nat := 104
abbrev strings_Repeat : Nat := 106
abbrev utf_Put : Nat := 107
theorem utf_Put_is : FnIs PP 107 (Tryz.f107.body.getD .skip) 77 2 Tryz.f107.results.toList := ⟨⟨_, Tryz.func107, by kernel_rfl, by kernel_rfl, rfl, by kernel_rfl⟩, by decide, by kernel_rfl⟩
abbrev utf_begins : Nat := 108
theorem utf_begins_is : FnIs PP 108 (Tryz.f108.body.getD .skip) 30 1 Tryz.f108.results.toList := ⟨⟨_, Tryz.func108, by kernel_rfl, by kernel_rfl, rfl, by kernel_rfl⟩, by decide, by kernel_rfl⟩
abbrev utf_Good : Nat := 109
theorem utf_Good_is : FnIs PP 109 (Tryz.f109.body.getD .skip) 17 1 Tryz.f109.results.toList := ⟨⟨_, Tryz.func109, by kernel_rfl, by kernel_rfl, rfl, by kernel_rfl⟩, by decide, by kernel_rfl⟩
abbrev utf_size : Nat := 110
theorem utf_size_is : FnIs PP 110 (Tryz.f110.body.getD .skip) 12 1 Tryz.f110.results.toList := ⟨⟨_, Tryz.func110, by kernel_rfl, by kernel_rfl, rfl, by kernel_rfl⟩, by decide, by kernel_rfl⟩
abbrev internal_bytealg_IndexByteString : Nat := 114
abbrev strings_HasPrefix : Nat := 115
theorem strings_HasPrefix_is : FnIs PP 115 (Tryz.f115.body.getD .skip) 8 2 Tryz.f115.results.toList := ⟨⟨_, Tryz.func115, by kernel_rfl, by kernel_rfl, rfl, by kernel_rfl⟩, by decide, by kernel_rfl⟩
abbrev dec_parse : Nat := 119
noncomputable abbrev dec_parse_c : Option Code := Tryz.f119.body
theorem dec_parse_is : FnIs PP 119 (Tryz.f119.body.getD .skip) 103 1 Tryz.f119.results.toList := ⟨⟨_, Tryz.func119, by kernel_rfl, by kernel_rfl, rfl, by kernel_rfl⟩, by decide, by kernel_rfl⟩
abbrev value_stamp_1 : Nat := 130
theorem value_stamp_1_is : FnIs PP 130 (Tryz.f130.body.getD .skip) 9 1 Tryz.f130.results.toList := ⟨⟨_, Tryz.func130, by kernel_rfl, by kernel_rfl, rfl, by kernel_rfl⟩, by decide, by kernel_rfl⟩
abbrev slices_ContainsFunc_byte_byte : Nat := 131
theorem slices_ContainsFunc_byte_byte_is : FnIs PP 131 (Tryz.f131.body.getD .skip) 9 2 Tryz.f131.results.toList := ⟨⟨_, Tryz.func131, by kernel_rfl, by kernel_rfl, rfl, by kernel_rfl⟩, by decide, by kernel_rfl⟩
abbrev internal_stringslite_HasPrefix : Nat := 141
theorem internal_stringslite_HasPrefix_is : FnIs PP 141 (Tryz.f141.body.getD .skip) 18 2 Tryz.f141.results.toList := ⟨⟨_, Tryz.func141, by kernel_rfl, by kernel_rfl, rfl, by kernel_rfl⟩, by decide, by kernel_rfl⟩
abbrev strings_CutPrefix : Nat := 143
theorem strings_CutPrefix_is : FnIs PP 143 (Tryz.f143.body.getD .skip) 11 2 Tryz.f143.results.toList := ⟨⟨_, Tryz.func143, by kernel_rfl, by kernel_rfl, rfl, by kernel_rfl⟩, by decide, by kernel_rfl⟩
abbrev dec_digits : Nat := 144
noncomputable abbrev dec_digits_c : Option Code := Tryz.f144.body
theorem dec_digits_is : FnIs PP 144 (Tryz.f144.body.getD .skip) 23 1 Tryz.f144.results.toList := ⟨⟨_, Tryz.func144, by kernel_rfl, by kernel_rfl, rfl, by kernel_rfl⟩, by decide, by kernel_rfl⟩
abbrev dec_power : Nat := 145
noncomputable abbrev dec_power_c : Option Code := Tryz.f145.body
theorem dec_power_is : FnIs PP 145 (Tryz.f145.body.getD .skip) 46 1 Tryz.f145.results.toList := ⟨⟨_, Tryz.func145, by kernel_rfl, by kernel_rfl, rfl, by kernel_rfl⟩, by decide, by kernel_rfl⟩
abbrev strings_TrimRight : Nat := 146
theorem strings_TrimRight_is : FnIs PP 146 (Tryz.f146.body.getD .skip) 37 2 Tryz.f146.results.toList := ⟨⟨_, Tryz.func146, by kernel_rfl, by kernel_rfl, rfl, by kernel_rfl⟩, by decide, by kernel_rfl⟩
abbrev slices_IndexFunc_byte_byte : Nat := 157
noncomputable abbrev slices_IndexFunc_byte_byte_c : Option Code := Tryz.f157.body
theorem slices_IndexFunc_byte_byte_is : FnIs PP 157 (Tryz.f157.body.getD .skip) 19 2 Tryz.f157.results.toList := ⟨⟨_, Tryz.func157, by kernel_rfl, by kernel_rfl, rfl, by kernel_rfl⟩, by decide, by kernel_rfl⟩
abbrev internal_stringslite_CutPrefix : Nat := 169
theorem internal_stringslite_CutPrefix_is : FnIs PP 169 (Tryz.f169.body.getD .skip) 15 2 Tryz.f169.results.toList := ⟨⟨_, Tryz.func169, by kernel_rfl, by kernel_rfl, rfl, by kernel_rfl⟩, by decide, by kernel_rfl⟩
abbrev strings_trimRightByte : Nat := 170
noncomputable abbrev strings_trimRightByte_c : Option Code := Tryz.f170.body
theorem strings_trimRightByte_is : FnIs PP 170 (Tryz.f170.body.getD .skip) 23 2 Tryz.f170.results.toList := ⟨⟨_, Tryz.func170, by kernel_rfl, by kernel_rfl, rfl, by kernel_rfl⟩, by decide, by kernel_rfl⟩
def ref1_Same_t13 : List Nat × List Nat × List Nat := ([0, 1, 0, 7, 15, 31, 0, 64, 0, 448, 960, 1984, 4095, 8191, 16383, 32767, 16383, 131071, 262143, 524287, 16383, 1064959, 16383, 7356415, 15745023, 32522239, 16383, 134217727, 268435455, 536870911], [0, 1, 2, 3, 4, 5, 6, 7, 8, 9, 10, 11, 12, 13, 14, 15, 16, 17, 18, 19, 20, 21, 22, 23, 24, 25, 26, 28, 29], [27])
def ref1_plain_t28 : List Nat × List Nat × List Nat := ([0, 1, 0, 7, 15, 31, 63, 127, 255, 511, 1023, 2047, 4095, 8191, 4095, 32767, 65535, 131071, 4095, 266239, 4095, 1052671, 3936255, 8130559, 16519167, 33554431, 67108863, 134217727, 268435455, 536870911, 1073741823, 536870911, 4294967295, 8589934591, 17179869183, 34359738367, 68719476735, 137438953471], [0, 1, 2, 3, 4, 5, 7, 8, 9, 10, 11, 12, 13, 14, 15, 16, 17, 18, 19, 20, 21, 22, 23, 24, 25, 26, 27, 28, 29, 30, 31, 32, 33, 34, 36, 37], [6, 35])
def value_judge_value_t13 : List Nat × List Nat × List Nat := ([0, 1, 3, 7, 15, 7, 39, 7, 135, 487, 999, 2023, 4095, 8191, 16383, 32767, 65535, 131071, 262143, 524287, 1048575, 2097151, 2097151, 6291455, 2097151, 18874367, 67108863, 134217727, 268435455], [0, 1, 2, 3, 4, 5, 6, 7, 8, 9, 10, 11, 12, 13, 14, 15, 16, 18, 19, 20, 21, 22, 23, 24, 25, 27, 28], [17, 26])
end F
end Go.Proofs.YtaoejccgdpppgaaGreatDoor
end

section
namespace Go.Proofs
open Go.Shelf
def Tryz.laysM173_ren : Go.Shelf.Ren := ⟨fun | 173 => 78 | 246 => 105 | 283 => 132 | 284 => 133 | 285 => 134 | 286 => 135 | 129 => 159 | 317 => 158 | 318 => 160 | 319 => 161 | 320 => 162 | 337 => 182 | 338 => 183 | n => n, fun | 2 => 2 | 3 => 3 | 9 => 9 | 4 => 4 | 171 => 159 | 0 => 0 | 53 => 160 | 37 => 34 | 5 => 5 | 173 => 163 | 212 => 180 | 51 => 181 | 20 => 20 | 213 => 182 | 46 => 106 | 232 => 212 | 233 => 213 | n => n, fun | 17 => 1 | 18 => 6 | 19 => 7 | n => n⟩
theorem Tryz.laysM173 : Go.Proofs.LaysM.n173 Tryz.prog Tryz.laysM173_ren := {
  mixed := by kernel_rfl
  f129 := Tryz.func159.trans (congrArg some (by kernel_rfl))
  f173 := Tryz.func78.trans (congrArg some (by kernel_rfl))
  f246 := Tryz.func105.trans (congrArg some (by kernel_rfl))
  f283 := Tryz.func132.trans (congrArg some (by kernel_rfl))
  f284 := Tryz.func133.trans (congrArg some (by kernel_rfl))
  f285 := Tryz.func134.trans (congrArg some (by kernel_rfl))
  f286 := Tryz.func135.trans (congrArg some (by kernel_rfl))
  f317 := Tryz.func158.trans (congrArg some (by kernel_rfl))
  f318 := Tryz.func160.trans (congrArg some (by kernel_rfl))
  f319 := Tryz.func161.trans (congrArg some (by kernel_rfl))
  f320 := Tryz.func162.trans (congrArg some (by kernel_rfl))
  f337 := Tryz.func182.trans (congrArg some (by kernel_rfl))
  f338 := Tryz.func183.trans (congrArg some (by kernel_rfl))
  t0 := Tryz.underlying0
  a0 := Tryz.isAgg0
  z0 := Tryz.sizeOf0
  v0 := Tryz.zeroValue0
  t2 := Tryz.underlying2
  a2 := Tryz.isAgg2
  z2 := Tryz.sizeOf2
  v2 := Tryz.zeroValue2
  t3 := Tryz.underlying3
  a3 := Tryz.isAgg3
  z3 := Tryz.sizeOf3
  v3 := Tryz.zeroValue3
  t4 := Tryz.underlying4
  a4 := Tryz.isAgg4
  z4 := Tryz.sizeOf4
  v4 := Tryz.zeroValue4
  t5 := Tryz.underlying5
  a5 := Tryz.isAgg5
  z5 := Tryz.sizeOf5
  v5 := Tryz.zeroValue5
  t9 := Tryz.underlying9
  a9 := Tryz.isAgg9
  z9 := Tryz.sizeOf9
  v9 := Tryz.zeroValue9
  t20 := Tryz.underlying20
  a20 := Tryz.isAgg20
  z20 := Tryz.sizeOf20
  v20 := Tryz.zeroValue20
  t37 := Tryz.underlying34
  a37 := Tryz.isAgg34
  z37 := Tryz.sizeOf34
  v37 := Tryz.zeroValue34
  t46 := Tryz.underlying106
  a46 := Tryz.isAgg106
  z46 := Tryz.sizeOf106
  v46 := Tryz.zeroValue106
  t51 := Tryz.underlying181
  a51 := Tryz.isAgg181
  z51 := Tryz.sizeOf181
  v51 := Tryz.zeroValue181
  t53 := Tryz.underlying160
  a53 := Tryz.isAgg160
  z53 := Tryz.sizeOf160
  v53 := Tryz.zeroValue160
  t171 := Tryz.underlying159
  a171 := Tryz.isAgg159
  z171 := Tryz.sizeOf159
  v171 := Tryz.zeroValue159
  t173 := Tryz.underlying163
  a173 := Tryz.isAgg163
  z173 := Tryz.sizeOf163
  v173 := Tryz.zeroValue163
  t212 := Tryz.underlying180
  a212 := Tryz.isAgg180
  z212 := Tryz.sizeOf180
  v212 := Tryz.zeroValue180
  t213 := Tryz.underlying182
  a213 := Tryz.isAgg182
  z213 := Tryz.sizeOf182
  t232 := Tryz.underlying212
  a232 := Tryz.isAgg212
  z232 := Tryz.sizeOf212
  v232 := Tryz.zeroValue212
  t233 := Tryz.underlying213
  a233 := Tryz.isAgg213
  z233 := Tryz.sizeOf213
  v233 := Tryz.zeroValue213
  g17 := by kernel_rfl
  g18 := by kernel_rfl
  g19 := by kernel_rfl
  i0 := by kernel_rfl
  i2 := by kernel_rfl
  i3 := by kernel_rfl
  i4 := by kernel_rfl
  i5 := by kernel_rfl
  i9 := by kernel_rfl
  i20 := by kernel_rfl
  i37 := by kernel_rfl
  i46 := by kernel_rfl
  i51 := by kernel_rfl
  i53 := by kernel_rfl
  i171 := by kernel_rfl
  i173 := by kernel_rfl
  i212 := by kernel_rfl
  i232 := by kernel_rfl
  i233 := by kernel_rfl
  m17 := by kernel_rfl
  m18 := by kernel_rfl
  m19 := by kernel_rfl }
def Tryz.lays105_ren : Go.Shelf.Ren := ⟨fun | 105 => 106 | 212 => 136 | 99 => 115 | 165 => 137 | 166 => 53 | 170 => 138 | 169 => 34 | 263 => 163 | 264 => 164 | 206 => 141 | 240 => 77 | 241 => 165 | 276 => 104 | 277 => 184 | n => n, fun | 9 => 9 | 3 => 3 | 4 => 4 | 20 => 20 | 0 => 0 | 46 => 106 | 109 => 165 | 5 => 5 | 72 => 62 | 76 => 95 | 51 => 181 | 146 => 184 | 53 => 160 | 148 => 186 | 70 => 60 | 37 => 34 | 75 => 94 | 127 => 101 | 164 => 136 | 80 => 66 | n => n, fun | n => n⟩
theorem Tryz.lays105 : Go.Proofs.Lays.n105 Tryz.prog Tryz.lays105_ren := {
  mixed := by kernel_rfl
  f99 := Tryz.func115.trans (congrArg some (by kernel_rfl))
  f105 := Tryz.func106.trans (congrArg some (by kernel_rfl))
  f165 := Tryz.func137.trans (congrArg some (by kernel_rfl))
  f166 := Tryz.func53.trans (congrArg some (by kernel_rfl))
  f169 := Tryz.func34.trans (congrArg some (by kernel_rfl))
  f170 := Tryz.func138.trans (congrArg some (by kernel_rfl))
  f206 := Tryz.func141.trans (congrArg some (by kernel_rfl))
  f212 := Tryz.func136.trans (congrArg some (by kernel_rfl))
  f240 := Tryz.func77.trans (congrArg some (by kernel_rfl))
  f241 := Tryz.func165.trans (congrArg some (by kernel_rfl))
  f263 := Tryz.func163.trans (congrArg some (by kernel_rfl))
  f264 := Tryz.func164.trans (congrArg some (by kernel_rfl))
  f276 := Tryz.func104.trans (congrArg some (by kernel_rfl))
  f277 := Tryz.func184.trans (congrArg some (by kernel_rfl))
  t0 := Tryz.underlying0
  a0 := Tryz.isAgg0
  z0 := Tryz.sizeOf0
  v0 := Tryz.zeroValue0
  t3 := Tryz.underlying3
  a3 := Tryz.isAgg3
  z3 := Tryz.sizeOf3
  v3 := Tryz.zeroValue3
  t4 := Tryz.underlying4
  a4 := Tryz.isAgg4
  z4 := Tryz.sizeOf4
  v4 := Tryz.zeroValue4
  t5 := Tryz.underlying5
  a5 := Tryz.isAgg5
  z5 := Tryz.sizeOf5
  v5 := Tryz.zeroValue5
  t9 := Tryz.underlying9
  a9 := Tryz.isAgg9
  z9 := Tryz.sizeOf9
  v9 := Tryz.zeroValue9
  t20 := Tryz.underlying20
  a20 := Tryz.isAgg20
  z20 := Tryz.sizeOf20
  v20 := Tryz.zeroValue20
  t37 := Tryz.underlying34
  a37 := Tryz.isAgg34
  z37 := Tryz.sizeOf34
  v37 := Tryz.zeroValue34
  t46 := Tryz.underlying106
  a46 := Tryz.isAgg106
  z46 := Tryz.sizeOf106
  v46 := Tryz.zeroValue106
  t51 := Tryz.underlying181
  a51 := Tryz.isAgg181
  z51 := Tryz.sizeOf181
  v51 := Tryz.zeroValue181
  t53 := Tryz.underlying160
  a53 := Tryz.isAgg160
  z53 := Tryz.sizeOf160
  v53 := Tryz.zeroValue160
  t70 := Tryz.underlying60
  a70 := Tryz.isAgg60
  z70 := Tryz.sizeOf60
  v70 := Tryz.zeroValue60
  t72 := Tryz.underlying62
  a72 := Tryz.isAgg62
  z72 := Tryz.sizeOf62
  v72 := Tryz.zeroValue62
  t75 := Tryz.underlying94
  a75 := Tryz.isAgg94
  z75 := Tryz.sizeOf94
  v75 := Tryz.zeroValue94
  t76 := Tryz.underlying95
  a76 := Tryz.isAgg95
  z76 := Tryz.sizeOf95
  v76 := Tryz.zeroValue95
  t109 := Tryz.underlying165
  a109 := Tryz.isAgg165
  z109 := Tryz.sizeOf165
  v109 := Tryz.zeroValue165
  t127 := Tryz.underlying101
  a127 := Tryz.isAgg101
  z127 := Tryz.sizeOf101
  v127 := Tryz.zeroValue101
  t146 := Tryz.underlying184
  a146 := Tryz.isAgg184
  z146 := Tryz.sizeOf184
  v146 := Tryz.zeroValue184
  t148 := Tryz.underlying186
  a148 := Tryz.isAgg186
  z148 := Tryz.sizeOf186
  v148 := Tryz.zeroValue186
  t164 := Tryz.underlying136
  a164 := Tryz.isAgg136
  z164 := Tryz.sizeOf136
  v164 := Tryz.zeroValue136 }
theorem Tryz.Builder_Extra_105 : Builder.Extra Tryz.prog Tryz.lays105_ren := {
  sizeBuilder := by kernel_rfl
  liesBuilder := by kernel_rfl
  t5 := Tryz.underlying5
  a5 := Tryz.isAgg5
  z5 := Tryz.sizeOf5
  v5 := Tryz.zeroValue5
  infoByte := by kernel_rfl
  cellsByte := by kernel_rfl
  sizeByte := by kernel_rfl
  neB5 := by decide }
open Go.RowKit Go.Sort Go.Lib in
theorem Tryz.strconv_FormatInt_10 (n : Int) (h0 : -9223372036854775808 ≤ n) (h1 : n ≤ 9223372036854775807) (w : World) (htab : Lib.TabIs Tryz.prog w "internal/strconv.uint64pow10" .u64 Lib.pow10Tab) :
    Calls Tryz.prog 78 #[.int .i64 n, .int .i64 10] w fun e w' => e = .returned (.string ⟨(Lib.itoa n).toArray⟩) ∧ ∃ k os, w' = grow (w.drewN k) os := Any.strconv_FormatInt_10 Tryz.laysM173 n h0 h1 w htab
open Go.RowKit Go.Lib in
theorem Tryz.strings_Repeat (s : ByteArray) (c : Nat) (w : World) (hc : c ≤ 9223372036854775807) (hlen : s.size * c ≤ 140737488355328) :
    Calls Tryz.prog 106 #[.string s, .int .i64 c] w fun e w' => e = .returned (.string ⟨(Lib.repeatL s.data.toList c).toArray⟩) ∧ Below w.heap.size w w' := Any.strings_Repeat Tryz.lays105 Tryz.Builder_Extra_105 s c w hc hlen
end Go.Proofs
end

section
namespace Go.Proofs.YtaoejccgdpppgaaGreatDoor
open Go Go.Am Go.RowKit
def GG : Nat → Option PV := fun g => match Nat.beq g Gl.internal_strconv_uint64pow10 with
  | true => some (tabV .u64 ([1, 10, 100, 1000, 10000, 100000, 1000000, 10000000, 100000000, 1000000000, 10000000000, 100000000000, 1000000000000, 10000000000000, 100000000000000, 1000000000000000, 10000000000000000, 100000000000000000, 1000000000000000000, 10000000000000000000]))
  | false => match Nat.beq g Gl.strconv_ErrSyntax with
    | true => some (.iface T.ptr_errors_errorString .anyp)
    | false => match Nat.beq g Gl.strconv_ErrRange with
      | true => some (.iface T.ptr_errors_errorString .anyp)
      | false => none
theorem pow10_lit : Lib.pow10Tab = [1, 10, 100, 1000, 10000, 100000, 1000000, 10000000, 100000000, 1000000000, 10000000000, 100000000000, 1000000000000, 10000000000000, 100000000000000, 1000000000000000, 10000000000000000, 100000000000000000, 1000000000000000000, 10000000000000000000] := by decide
theorem gPow : PP.globalNamed "internal/strconv.uint64pow10" = some Gl.internal_strconv_uint64pow10 := by kernel_rfl
/-- whose fresh arrays may be written to by the caller -/
def polG : Pol := { keepR := fun f => Nat.beq f F.utf_Put, byref := fun _ => false, mask := fun _ _ => none }
/-- the same, with stops ahead of regions -/
def polC (l : List Nat) : Pol := { keepR := fun f => Nat.beq f F.utf_Put, byref := fun _ => false, mask := fun _ _ => none, cut := cutAt l }
def ngOk (P : Program) : Bool := P.funcs.all fun fn => !(fn.name == "runtime.NumGoroutine")
theorem ngP (f : Nat) (fn : Func) (h : PP.funcs[f]? = some fn) : (fn.name == "runtime.NumGoroutine") = false := by
  have h0 : ngOk PP = true := by kernel_rfl
  unfold ngOk at h0
  rw [Array.all_eq_true_iff_forall_mem] at h0
  simpa using h0 fn (Array.mem_of_getElem? h)
/-! ### contracts -/
theorem abi_NoEscape (x : V) (H : Heap) : AbsCall PP GG F.internal_abi_NoEscape [x] H ⟨.ret x, H, []⟩ :=
  abs_same (Tryz.func104) (by kernel_rfl) (by kernel_rfl) (by kernel_rfl) (by kernel_rfl) x H
theorem bytealg_IndexByteString (s : List UInt8) (c : Int) (H : Heap) : AbsCall PP GG F.internal_bytealg_IndexByteString [.p (.str s), .p (.int .u8 c)] H ⟨.ret (.p (.int .i64 (firstIdx ⟨s.toArray⟩ c.toNat.toUInt8))), H, []⟩ :=
  abs_indexByte Tryz.func114 (by kernel_rfl) (by kernel_rfl) (by kernel_rfl) (by kernel_rfl) s c H
theorem strconv_FormatInt (n : Int) (hn : -9223372036854775808 ≤ n ∧ n ≤ 9223372036854775807) (H : Heap) : AbsCall PP GG F.strconv_FormatInt [.p (.int .i64 n), .p (.int .i64 10)] H ⟨.ret (.p (.str (Lib.itoa n))), H, []⟩ := by
  refine absBelow fun B L w vs _ ha hg => ?_
  obtain ⟨v, u, rfl, hv, hu⟩ := vrel2 ha
  obtain rfl := vint hv
  obtain rfl := vint hu
  refine CallTo.of_calls Tryz.func78 (by kernel_rfl) rfl ((Tryz.strconv_FormatInt_10 n hn.1 hn.2 w (tab_of_gok hg (by rw [pow10_lit]; rfl) gPow)).mono ?_)
  rintro e w' ⟨rfl, k, os, rfl⟩
  exact ⟨Lib.below_grow _ _ (Nat.le_refl _) _ _, _, rfl, .p _ _ (.str _)⟩
theorem strings_Repeat (s : List UInt8) (n : Int) (h0 : 0 ≤ n) (h1 : n ≤ 9223372036854775807) (h2 : s.length * n.toNat ≤ 140737488355328) (H : Heap) :
    AbsCall PP GG F.strings_Repeat [.p (.str s), .p (.int .i64 n)] H ⟨.ret (.p (.str (Lib.repeatL s n.toNat))), H, []⟩ := by
  refine absBelow fun B L w vs _ ha hg => ?_
  obtain ⟨v, u, rfl, hv, hu⟩ := vrel2 ha
  obtain rfl := vstr hv
  obtain rfl := vint hu
  obtain ⟨m, rfl⟩ := Int.eq_ofNat_of_zero_le h0
  refine CallTo.of_calls Tryz.func106 (by kernel_rfl) rfl ((Tryz.strings_Repeat ⟨s.toArray⟩ m w (by omega) (by simpa [ByteArray.size] using h2)).mono ?_)
  rintro e w' ⟨rfl, hb⟩
  exact ⟨hb, _, rfl, by simpa using VRel.p _ _ (.str _)⟩
end Go.Proofs.YtaoejccgdpppgaaGreatDoor
end

section
namespace Go.Am
open Go
abbrev Str := List UInt8
inductive Tree where
  | mk (kind n : Int) (s : Str) (l : List Tree) (m : List (Str × Tree))
  deriving Inhabited
namespace Tree
def kind : Tree → Int | .mk k _ _ _ _ => k
def n : Tree → Int | .mk _ n _ _ _ => n
def s : Tree → Str | .mk _ _ s _ _ => s
def l : Tree → List Tree | .mk _ _ _ l _ => l
def m : Tree → List (Str × Tree) | .mk _ _ _ _ m => m
mutual
def enc : Tree → PV
  | .mk k n s l m => .agg [.int .i64 k, .int .i64 n, .str s, .lst false (encL l), .lst false (encM m)]
def encL : List Tree → List PV
  | [] => []
  | t :: l => enc t :: encL l
def encM : List (Str × Tree) → List PV
  | [] => []
  | p :: m => encP p :: encM m
def encP : Str × Tree → PV
  | (k, t) => .agg (.str k :: (enc t).cells)
end
mutual
def nodes : Tree → Nat
  | .mk _ _ _ l m => 1 + nodesL l + nodesM m
def nodesL : List Tree → Nat
  | [] => 0
  | t :: l => nodes t + nodesL l
def nodesM : List (Str × Tree) → Nat
  | [] => 0
  | p :: m => nodesP p + nodesM m
def nodesP : Str × Tree → Nat
  | (_, t) => nodes t
end
mutual
def depth : Tree → Nat
  | .mk _ _ _ l m => 1 + max (depthL l) (depthM m)
def depthL : List Tree → Nat
  | [] => 0
  | t :: l => max (depth t) (depthL l)
def depthM : List (Str × Tree) → Nat
  | [] => 0
  | p :: m => max (depthP p) (depthM m)
def depthP : Str × Tree → Nat
  | (_, t) => depth t
end
theorem encL_eq : ∀ l : List Tree, encL l = l.map enc
  | [] => rfl
  | t :: l => by rw [encL, encL_eq l]; rfl
theorem encM_eq : ∀ m : List (Str × Tree), encM m = m.map encP
  | [] => rfl
  | p :: m => by rw [encM, encM_eq m]; rfl
theorem encL_length (l : List Tree) : (encL l).length = l.length := by rw [encL_eq, List.length_map]
theorem encM_length (m : List (Str × Tree)) : (encM m).length = m.length := by rw [encM_eq, List.length_map]
theorem encL_get {l : List Tree} {i : Nat} {t : Tree} (h : l[i]? = some t) : (encL l)[i]? = some (enc t) := by rw [encL_eq, List.getElem?_map, h]; rfl
theorem encM_get {m : List (Str × Tree)} {i : Nat} {p : Str × Tree} (h : m[i]? = some p) : (encM m)[i]? = some (encP p) := by rw [encM_eq, List.getElem?_map, h]; rfl
theorem encL_append (l r : List Tree) : encL (l ++ r) = encL l ++ encL r := by simp [encL_eq]
theorem encM_append (l r : List (Str × Tree)) : encM (l ++ r) = encM l ++ encM r := by simp [encM_eq]
theorem enc_cells : ∀ t : Tree, (enc t).cells.length = 5
  | .mk _ _ _ _ _ => rfl
theorem encP_cells : ∀ p : Str × Tree, (encP p).cells.length = 6
  | (_, .mk _ _ _ _ _) => rfl
theorem enc_isAgg : ∀ t : Tree, (enc t).isAgg = true
  | .mk _ _ _ _ _ => rfl
theorem enc_leaf : ∀ (t : Tree), ∀ c ∈ (enc t).cells, c.leaf = true
  | .mk _ _ _ _ _ => by simp [enc, PV.cells, PV.leaf]
theorem encP_leaf : ∀ (p : Str × Tree), ∀ c ∈ (encP p).cells, c.leaf = true
  | (_, .mk _ _ _ _ _) => by simp [encP, enc, PV.cells, PV.leaf]
theorem encL_cells (l : List Tree) : ∀ x ∈ encL l, x.cells.length = 5 := by
  rw [encL_eq]; intro x hx; obtain ⟨t, _, rfl⟩ := List.mem_map.1 hx; exact enc_cells t
theorem encM_cells (m : List (Str × Tree)) : ∀ x ∈ encM m, x.cells.length = 6 := by
  rw [encM_eq]; intro x hx; obtain ⟨t, _, rfl⟩ := List.mem_map.1 hx; exact encP_cells t
theorem nodes_pos : ∀ t : Tree, 0 < nodes t
  | .mk _ _ _ _ _ => by simp [nodes]; omega
theorem nodesL_mem {l : List Tree} {t : Tree} (h : t ∈ l) : nodes t ≤ nodesL l := by
  induction l with
  | nil => simp at h
  | cons x l ih =>
    rw [nodesL]
    rcases List.mem_cons.1 h with rfl | h
    · omega
    · have := ih h; omega
theorem nodesM_mem {m : List (Str × Tree)} {p : Str × Tree} (h : p ∈ m) : nodes p.2 ≤ nodesM m := by
  induction m with
  | nil => simp at h
  | cons x l ih =>
    rw [nodesM]
    rcases List.mem_cons.1 h with rfl | h
    · obtain ⟨a, b⟩ := p; simp [nodesP]
    · have := ih h; omega
theorem nodes_l {t x : Tree} (h : x ∈ t.l) : nodes x < nodes t := by
  obtain ⟨k, n, s, l, m⟩ := t
  have := nodesL_mem (show x ∈ l from h)
  rw [nodes.eq_def (.mk k n s l m)]
  simp only []
  omega
theorem nodes_m {t : Tree} {p : Str × Tree} (h : p ∈ t.m) : nodes p.2 < nodes t := by
  obtain ⟨k, n, s, l, m⟩ := t
  have := nodesM_mem (show p ∈ m from h)
  rw [nodes.eq_def (.mk k n s l m)]
  simp only []
  omega
/-- what is shown of all parts is shown of the whole -/
theorem ind {p : Tree → Prop} (h : ∀ t : Tree, (∀ x ∈ t.l, p x) → (∀ x ∈ t.m, p x.2) → p t) : ∀ t, p t := by
  intro t
  generalize hn : nodes t = q
  induction q using Nat.strongRecOn generalizing t with
  | ind q ih =>
    subst hn
    exact h t (fun x hx => ih _ (nodes_l hx) x rfl) (fun x hx => ih _ (nodes_m hx) x.2 rfl)
theorem eta (t : Tree) : t = .mk t.kind t.n t.s t.l t.m := by cases t; rfl
theorem enc_eta (t : Tree) : enc t = .agg [.int .i64 t.kind, .int .i64 t.n, .str t.s, .lst false (encL t.l), .lst false (encM t.m)] := by cases t; rfl
end Tree
/-! ### nodes about trees -/
theorem ElemZ.tree {l : List Tree} {i : Nat} {K : PV → Prop} {t : Tree} (h : l[i]? = some t) (k : K t.enc) : ElemZ (Tree.encL l) i 5 K := ⟨_, Tree.encL_get h, Tree.enc_cells t, k⟩
theorem ElemZ.pair {m : List (Str × Tree)} {i : Nat} {K : PV → Prop} {p : Str × Tree} (h : m[i]? = some p) (k : K (Tree.encP p)) : ElemZ (Tree.encM m) i 6 K := ⟨_, Tree.encM_get h, Tree.encP_cells p, k⟩
theorem CLe.eq {c c' : CR} (h : c = c') : CLe c c' := h ▸ CLe.refl c
theorem CLe.retP {d e : PV} {H : Heap} {mv : List Nat} (h : d = e) : CLe ⟨.ret (.p d), H, mv⟩ ⟨.ret (.p e), H, mv⟩ := by rw [h]; exact CLe.refl _
theorem drop_cons {α : Type} {l : List α} {i : Nat} {x : α} (h : l[i]? = some x) : l.drop i = x :: l.drop (i + 1) := by
  obtain ⟨hi, rfl⟩ := List.getElem?_eq_some_iff.1 h
  exact List.drop_eq_getElem_cons hi
end Go.Am
namespace Go.Am
theorem strNil (s : Str) : (s = []) = (s.length = 0) := by simp
theorem not_strNil (s : Str) : (¬ s = []) = (0 < s.length) := by simp [List.length_pos_iff]
end Go.Am
namespace Go.Am
theorem isEmptyCons {α : Type} (a : α) (l : List α) : (a :: l).isEmpty = false := rfl
theorem Br.not {c : Bool} {A B : Prop} (h : Br c B A) : Br (!c) A B := ⟨fun e => h.f (by simpa using e), fun e => h.t (by simpa using e)⟩
end Go.Am
namespace Go.Am
theorem Br.dec {p : Prop} [inst : Decidable p] {A B : Prop} (t : p → A) (f : ¬ p → B) : Br (decide p) A B := ⟨fun h => t (of_decide_eq_true h), fun h => f (of_decide_eq_false h)⟩
theorem Br.ndec {p : Prop} [inst : Decidable p] {A B : Prop} (t : ¬ p → A) (f : p → B) : Br (!decide p) A B := ⟨fun h => t (of_decide_eq_false (by simpa using h)), fun h => f (of_decide_eq_true (by simpa using h))⟩
end Go.Am
/-! ### how much a tree holds -/
namespace Go.Am
namespace Tree
mutual
def wt : Tree → Nat
  | .mk _ _ s l m => 1 + s.length + wtL l + wtM m
def wtL : List Tree → Nat
  | [] => 0
  | t :: l => wt t + wtL l
def wtM : List (Str × Tree) → Nat
  | [] => 0
  | p :: m => wtP p + wtM m
def wtP : Str × Tree → Nat
  | (k, t) => k.length + wt t
end
theorem wt_pos : ∀ t : Tree, 0 < wt t
  | .mk _ _ _ _ _ => by simp [wt]; omega
theorem wtL_mem {l : List Tree} {t : Tree} (h : t ∈ l) : wt t ≤ wtL l := by
  induction l with
  | nil => simp at h
  | cons x l ih =>
    rw [wtL]
    rcases List.mem_cons.1 h with rfl | h
    · omega
    · have := ih h; omega
theorem wtM_mem {m : List (Str × Tree)} {p : Str × Tree} (h : p ∈ m) : p.1.length + wt p.2 ≤ wtM m := by
  induction m with
  | nil => simp at h
  | cons x l ih =>
    rw [wtM]
    rcases List.mem_cons.1 h with rfl | h
    · obtain ⟨a, b⟩ := p; simp [wtP]
    · have := ih h; omega
theorem wtL_len : ∀ l : List Tree, l.length ≤ wtL l
  | [] => by simp [wtL]
  | t :: l => by have := wtL_len l; have := wt_pos t; simp only [wtL, List.length_cons]; omega
theorem wtM_len : ∀ l : List (Str × Tree), l.length ≤ wtM l
  | [] => by simp [wtM]
  | (k, t) :: l => by have := wtM_len l; have := wt_pos t; simp only [wtM, wtP, List.length_cons]; omega
theorem wt_eq (t : Tree) : wt t = 1 + t.s.length + wtL t.l + wtM t.m := by cases t; simp [wt, s, l, m]
theorem wt_s (t : Tree) : t.s.length < wt t := by rw [wt_eq]; omega
theorem wt_ll (t : Tree) : t.l.length < wt t := by rw [wt_eq]; have := wtL_len t.l; omega
theorem wt_ml (t : Tree) : t.m.length < wt t := by rw [wt_eq]; have := wtM_len t.m; omega
theorem wt_l {t x : Tree} (h : x ∈ t.l) : wt x < wt t := by rw [wt_eq t]; have := wtL_mem h; omega
theorem wt_m {t : Tree} {p : Str × Tree} (h : p ∈ t.m) : p.1.length + wt p.2 < wt t := by rw [wt_eq t]; have := wtM_mem h; omega
/-- what is shown of all small parts is shown of the small whole -/
theorem indW {B : Nat} {p : Tree → Prop} (h : ∀ t : Tree, wt t ≤ B → (∀ x ∈ t.l, wt x ≤ B ∧ p x) → (∀ x ∈ t.m, x.1.length ≤ B ∧ wt x.2 ≤ B ∧ p x.2) → p t) : ∀ t, wt t ≤ B → p t := by
  refine ind ?_
  intro t hl hm hw
  refine h t hw (fun x hx => ?_) (fun x hx => ?_)
  · have := wt_l hx
    exact ⟨by omega, hl x hx (by omega)⟩
  · have := wt_m hx
    exact ⟨by omega, by omega, hm x hx (by omega)⟩
end Tree
end Go.Am
namespace Go.Am
/-- a list whose elements are told less of -/
theorem PLe.lstE {ex : Bool} {l m : List PV} (hl : l.length = m.length) (hs : ∀ sz, (∀ x ∈ l, x.cells.length = sz) → ∀ y ∈ m, y.cells.length = sz) (hf : ∀ x ∈ flat m, x.leaf = true) (h : LeL (flat l) (flat m)) : PLe (.lst ex l) (.lst ex m) := fun B w x hx => by
  obtain ⟨h1, h2⟩ := h.spec
  cases hx with
  | lst0 ex a cap he =>
    cases m with
    | nil => exact .lst0 ex a cap he
    | cons y m => cases hl
  | lst ex l b o cap sz u hb hw hz hsz hfl hcap he hc hr =>
    rw [hl]
    refine .lst ex m b o cap sz u hb hw hz (hs sz hsz) hf (by omega) (fun e => ?_) (fun k hk => hc k (by omega)) fun k y hk => ?_
    · obtain ⟨h3, h4⟩ := he e
      refine ⟨by omega, ?_⟩
      rintro rfl
      exact h4 (List.eq_nil_of_length_eq_zero hl)
    · have hk' : k < (flat l).length := by have := (List.getElem?_eq_some_iff.1 hk).1; omega
      exact h2 k (flat l)[k] y (by simp [hk']) hk B w (u k) (hr k _ (by simp [hk']))
end Go.Am
/-! ### one word for the walks -/
namespace Go.Am
theorem ZZ : (∀ (p : Prop) [Decidable p], (decide p = true) = p) ∧ (∀ (p : Prop) [Decidable p], (decide p = false) = ¬ p) ∧ (∀ b : Bool, ((!b) = true) = (b = false)) ∧ (∀ b : Bool, ((!b) = false) = (b = true)) ∧
    (∀ a b : Bool, ((a || b) = true) = (a = true ∨ b = true)) ∧ (∀ a b : Bool, ((a || b) = false) = (a = false ∧ b = false)) ∧ (∀ a b : Bool, ((a && b) = true) = (a = true ∧ b = true)) ∧ (∀ a b : Bool, ((a && b) = false) = (a = false ∨ b = false)) ∧
    (∀ b : Bool, (!(!b)) = b) ∧ (∀ s : Str, (s = []) = (s.length = 0)) ∧ (∀ s : Str, (¬ s = []) = (0 < s.length)) ∧ (∀ b : Bool, (¬ (b = true)) = (b = false)) ∧ (∀ b : Bool, (¬ (b = false)) = (b = true)) :=
  ⟨fun _ _ => by simp, fun _ _ => by simp, by simp, by simp, by simp, by simp, by simp, fun _ _ => propext Bool.and_eq_false_iff, by simp, strNil, not_strNil, by simp, by simp⟩
end Go.Am
end

section
namespace Go.Am
open Go
theorem InR.natK {k : IntKind} {n : Nat} (h : n < 2 ^ (k.bits - 1)) : InR k n := by
  cases k <;> simp only [IntKind.bits, Nat.reduceSub, Nat.reducePow] at h <;> (constructor <;> omega)
theorem bv_nat (w a : Nat) : (BitVec.ofInt w (a : Int)) = BitVec.ofNat w a := BitVec.ofInt_natCast w a
theorem iand_nat {k : IntKind} {a b : Nat} (ha : a < 2 ^ k.bits) (hb : b < 2 ^ (k.bits - 1)) : iand k a b = ((a &&& b : Nat) : Int) := by
  have hb' : b < 2 ^ k.bits := Nat.lt_of_lt_of_le hb (Nat.pow_le_pow_right (by omega) (Nat.sub_le _ _))
  unfold iand
  rw [bv_nat, bv_nat, BitVec.toNat_and, BitVec.toNat_ofNat, BitVec.toNat_ofNat, Nat.mod_eq_of_lt ha, Nat.mod_eq_of_lt hb']
  exact InR.wrap (InR.natK (Nat.lt_of_le_of_lt Nat.and_le_right hb))
theorem ior_nat {k : IntKind} {a b : Nat} (ha : a < 2 ^ (k.bits - 1)) (hb : b < 2 ^ (k.bits - 1)) : ior k a b = ((a ||| b : Nat) : Int) := by
  have ha' : a < 2 ^ k.bits := Nat.lt_of_lt_of_le ha (Nat.pow_le_pow_right (by omega) (Nat.sub_le _ _))
  have hb' : b < 2 ^ k.bits := Nat.lt_of_lt_of_le hb (Nat.pow_le_pow_right (by omega) (Nat.sub_le _ _))
  unfold ior
  rw [bv_nat, bv_nat, BitVec.toNat_or, BitVec.toNat_ofNat, BitVec.toNat_ofNat, Nat.mod_eq_of_lt ha', Nat.mod_eq_of_lt hb']
  exact InR.wrap (InR.natK (Nat.or_lt_two_pow ha hb))
/-- the lowest bits -/
theorem iand_low {k : IntKind} {a : Int} (q : Nat) (h0 : 0 ≤ a) (ha : a < 2 ^ k.bits) (hq : q < k.bits) : iand k a (2 ^ q - 1 : Nat) = a % 2 ^ q := by
  obtain ⟨n, rfl⟩ := Int.eq_ofNat_of_zero_le h0
  have hn : n < 2 ^ k.bits := by exact_mod_cast ha
  have hb : 2 ^ q - 1 < 2 ^ (k.bits - 1) := by
    have : 2 ^ q ≤ 2 ^ (k.bits - 1) := Nat.pow_le_pow_right (by omega) (by omega)
    have := Nat.pow_pos (n := q) (show 0 < 2 by omega)
    omega
  rw [iand_nat hn hb, Nat.and_two_pow_sub_one_eq_mod]
  simp
theorem iand63 {a : Int} (h0 : 0 ≤ a) (ha : a ≤ 9223372036854775807) : iand .i64 a 63 = a % 64 := by
  have h2 : a < 2 ^ (IntKind.i64).bits := by
    show a < 2 ^ 64
    omega
  have h3 := iand_low (k := .i64) 6 h0 h2 (by decide)
  rw [show ((2 ^ 6 - 1 : Nat) : Int) = 63 from rfl, show (2 : Int) ^ 6 = 64 from rfl] at h3
  exact h3
theorem ior_shift {a : Int} {q : Nat} {x : Int} (h0 : 0 ≤ a) (ha : a * 2 ^ q ≤ 9223372036854775807) (hx0 : 0 ≤ x) (hx : x < 2 ^ q) (hq : q < 63) : ior .i64 (a * 2 ^ q) x = a * 2 ^ q + x := by
  obtain ⟨n, rfl⟩ := Int.eq_ofNat_of_zero_le h0
  obtain ⟨y, rfl⟩ := Int.eq_ofNat_of_zero_le hx0
  have hy : y < 2 ^ q := by exact_mod_cast hx
  have hn : n * 2 ^ q < 2 ^ 63 := by
    have : ((n * 2 ^ q : Nat) : Int) ≤ 9223372036854775807 := by push_cast; exact ha
    have h : n * 2 ^ q ≤ 9223372036854775807 := Int.ofNat_le.1 (show ((n * 2 ^ q : Nat) : Int) ≤ ((9223372036854775807 : Nat) : Int) from this)
    omega
  have h2 : y < 2 ^ 63 := Nat.lt_trans hy (Nat.pow_lt_pow_right (by omega) hq)
  have e : ((n : Int) * 2 ^ q) = ((n * 2 ^ q : Nat) : Int) := by push_cast; rfl
  rw [e, ior_nat (k := .i64) hn h2, ← Nat.shiftLeft_eq, ← Nat.shiftLeft_add_eq_or_of_lt hy]
  push_cast
  rfl
theorem oct_and63 : ∀ n : Nat, n < 256 → iand .u8 n 63 = ((n % 64 : Nat) : Int) := by decide +kernel
theorem oct_and192 : ∀ n : Nat, n < 256 → (decide (iand .u8 n 192 = 128)) = decide (128 ≤ n ∧ n < 192) := by decide +kernel
theorem oct_andn192 : ∀ n : Nat, n < 256 → 192 ≤ n → iandn .u8 n 192 = ((n % 64 : Nat) : Int) := by decide +kernel
theorem oct_andn224 : ∀ n : Nat, n < 256 → 224 ≤ n → iandn .u8 n 224 = ((n % 32 : Nat) : Int) := by decide +kernel
theorem oct_andn240 : ∀ n : Nat, n < 256 → 240 ≤ n → iandn .u8 n 240 = ((n % 16 : Nat) : Int) := by decide +kernel
theorem oct_or128 : ∀ n : Nat, n < 64 → ior .i64 128 n = ((128 + n : Nat) : Int) := by decide +kernel
theorem oct_or192 : ∀ n : Nat, n < 32 → ior .i64 192 n = ((192 + n : Nat) : Int) := by decide +kernel
theorem oct_or224 : ∀ n : Nat, n < 16 → ior .i64 224 n = ((224 + n : Nat) : Int) := by decide +kernel
theorem oct_or240 : ∀ n : Nat, n < 8 → ior .i64 240 n = ((240 + n : Nat) : Int) := by decide +kernel
end Go.Am
end

section
namespace Go.Am
open Go
def utfSize (r : Int) : Int := if r < 128 then 1 else if r < 2048 then 2 else if r < 65536 then 3 else 4
def utfGood (r : Int) : Bool := decide (0 ≤ r ∧ r ≤ 1114111 ∧ (r < 55296 ∨ 57343 < r))
/-- how many bytes a letter has that begins so, and that byte's bits -/
def utfBegins (c : Nat) : Int × Int :=
  if c < 128 then (1, c) else if c < 192 then (0, 0) else if c < 224 then (2, (c % 64 : Nat)) else if c < 240 then (3, (c % 32 : Nat)) else if c < 248 then (4, (c % 16 : Nat)) else (0, 0)
/-- q bytes more of a letter -/
def takeL : Nat → Str → Int → Option Int
  | 0, _, r => some r
  | _ + 1, [], _ => none
  | q + 1, b :: s, r => if 128 ≤ b.toNat ∧ b.toNat < 192 then takeL q s (r * 64 + (b.toNat % 64 : Nat)) else none
def utfTake (s : Str) : Int × Int :=
  match s with
  | [] => (0, 0)
  | c :: cs => if (utfBegins c.toNat).1 = 0 ∨ (s.length : Int) < (utfBegins c.toNat).1 then (0, 0) else
    match takeL ((utfBegins c.toNat).1.toNat - 1) cs (utfBegins c.toNat).2 with
    | none => (0, 0)
    | some r => if utfGood r = true ∧ utfSize r = (utfBegins c.toNat).1 then (r, (utfBegins c.toNat).1) else (0, 0)
/-- the bytes of a letter -/
def utfEnc (r : Int) : Str :=
  if utfGood r = false then [] else
  if r < 128 then [UInt8.ofNat r.toNat] else
  if r < 2048 then [UInt8.ofNat (192 + r.toNat / 64), UInt8.ofNat (128 + r.toNat % 64)] else
  if r < 65536 then [UInt8.ofNat (224 + r.toNat / 4096), UInt8.ofNat (128 + r.toNat / 64 % 64), UInt8.ofNat (128 + r.toNat % 64)] else
  [UInt8.ofNat (240 + r.toNat / 262144), UInt8.ofNat (128 + r.toNat / 4096 % 64), UInt8.ofNat (128 + r.toNat / 64 % 64), UInt8.ofNat (128 + r.toNat % 64)]
theorem utfBegins_n (c : Nat) : (utfBegins c).1 = 0 ∨ (utfBegins c).1 = 1 ∨ (utfBegins c).1 = 2 ∨ (utfBegins c).1 = 3 ∨ (utfBegins c).1 = 4 := by
  unfold utfBegins
  repeat' split
  all_goals simp
theorem utfBegins_r (c : Nat) : 0 ≤ (utfBegins c).2 ∧ (utfBegins c).2 ≤ 127 := by
  unfold utfBegins
  repeat' split
  all_goals (constructor <;> simp only [] <;> omega)
/-- where a text goes on: letters all, or up to where -/
def utfScan : Nat → Str → Int → Int × Bool
  | 0, _, at_ => (at_, true)
  | q + 1, s, at_ => match s with
    | [] => (at_, true)
    | c :: cs => if (utfTake (c :: cs)).2 = 0 then (at_, false) else utfScan q ((c :: cs).drop (utfTake (c :: cs)).2.toNat) (at_ + (utfTake (c :: cs)).2)
def utfValid (s : Str) : Int × Bool := utfScan s.length s 0
theorem utfTake_n (s : Str) : (utfTake s).2 = 0 ∨ (1 ≤ (utfTake s).2 ∧ (utfTake s).2 ≤ 4 ∧ (utfTake s).2 ≤ s.length) := by
  unfold utfTake
  split
  · simp
  · rename_i c cs
    split
    · simp
    · rename_i h
      simp only [not_or, Int.not_lt] at h
      split
      · simp
      · split
        · have := utfBegins_n c.toNat
          right
          simp only []
          omega
        · simp
theorem utfTake_r (s : Str) : (utfTake s).2 = 0 ∨ utfGood (utfTake s).1 = true := by
  unfold utfTake
  split
  · simp
  · split
    · simp
    · split
      · simp
      · split
        · rename_i h; right; exact h.1
        · simp
theorem utfTake_0 {s : Str} (h : (utfTake s).2 = 0) : (utfTake s).1 = 0 := by
  unfold utfTake at h ⊢
  split
  · rfl
  · rename_i c cs
    simp only [] at h
    split
    · rfl
    · rename_i h1
      rw [if_neg h1] at h
      split
      · rfl
      · rename_i r hr
        rw [hr] at h
        simp only [] at h
        split
        · rename_i h2
          rw [if_pos h2] at h
          simp only [] at h
          exact absurd h (fun e => h1 (.inl e))
        · rfl
end Go.Am
namespace Go.Am
def takeU : Nat → Int
  | 0 => 1073741824
  | 1 => 16777216
  | 2 => 262144
  | 3 => 4096
  | _ => 64
theorem takeU_step {q : Nat} (hq : q ≤ 2) {r x : Int} (h : r < takeU (q + 1)) (hx : x < 64) : r * 64 + x < takeU q ∧ takeU q ≤ 1073741824 := by
  have : q = 0 ∨ q = 1 ∨ q = 2 := by omega
  rcases this with rfl | rfl | rfl <;> simp only [takeU] at h ⊢ <;> (constructor <;> omega)
theorem takeU_pos (q : Nat) (hq : q ≤ 3) : 127 < takeU q := by
  have : q = 0 ∨ q = 1 ∨ q = 2 ∨ q = 3 := by omega
  rcases this with rfl | rfl | rfl | rfl <;> simp [takeU]
theorem getD_of {s : Str} {i : Nat} {b : UInt8} (h : s[i]? = some b) : s.getD i 0 = b := by simp [List.getD, h]
theorem beginsR (s : Str) : True := trivial
end Go.Am
namespace Go.Am
theorem CLe.arr {t : TypeId} {sz : Nat} {es es' : List PV} {mv : List Nat} (h : es = es') : CLe ⟨.ret (.sl 0 0 es.length), [.arr t sz es], mv⟩ ⟨.ret (.sl 0 0 es'.length), [.arr t sz es'], mv⟩ := by rw [h]; exact CLe.refl _
theorem bytes_cells (s : Str) : ∀ y ∈ s.map byteP, y.cells.length = 1 := by
  intro y hy; obtain ⟨b, _, rfl⟩ := List.mem_map.1 hy; rfl
theorem byte_of {x : Int} (h0 : 0 ≤ x) (h1 : x ≤ 255) : PV.int .u8 (IntKind.u8.wrap x) = byteP (UInt8.ofNat x.toNat) := by
  obtain ⟨n, rfl⟩ := Int.eq_ofNat_of_zero_le h0
  have hn : n < 256 := by omega
  rw [InR.wrap (show InR .u8 (n : Int) from ⟨by omega, by omega⟩)]
  unfold byteP
  rw [Int.toNat_natCast, UInt8.toNat_ofNat']
  congr 1
  simp only [Nat.reducePow]
  omega
theorem bytesOf_map (s : Str) : bytesOf (s.map byteP) = some s := by
  induction s with
  | nil => rfl
  | cons b s ih =>
    rw [List.map_cons]
    simp only [byteP, bytesOf, ih, Option.map_some, Int.toNat_natCast]
    simp
theorem Bytes.mk' {l : List PV} {s : Str} {K : Str → Prop} (h : l = s.map byteP) (k : K s) : Bytes l K := ⟨s, by rw [h, bytesOf_map], k⟩
end Go.Am
namespace Go.Am
theorem utfSize_1 (r : Int) : utfSize r = 1 ↔ r < 128 := by
  unfold utfSize
  repeat' split
  all_goals (constructor <;> intro h <;> omega)
theorem utfSize_2 (r : Int) : utfSize r = 2 ↔ 128 ≤ r ∧ r < 2048 := by
  unfold utfSize
  repeat' split
  all_goals (constructor <;> intro h <;> omega)
theorem utfSize_3 (r : Int) : utfSize r = 3 ↔ 2048 ≤ r ∧ r < 65536 := by
  unfold utfSize
  repeat' split
  all_goals (constructor <;> intro h <;> omega)
end Go.Am
end

section
namespace Go.Proofs.YtaoejccgdpppgaaGreatDoor
open Go Go.Am
set_option maxRecDepth 100000
theorem utf_size (r : Int) : AbsCall PP GG F.utf_size [.p (.int .i64 r)] [] ⟨.ret (.p (.int .i64 (utfSize r))), [], []⟩ := by
  refine absCall_of (pol := polG) mixP F.utf_size_is ?_
  conv => whnf
  repeat' (first
   | ((first | with_reducible refine Br.dec (fun hb => ?_) (fun hb => ?_) | with_reducible refine Br.ndec (fun hb => ?_) (fun hb => ?_)) <;> (try dsimp only at hb) <;> (try simp only [ZZ] at hb) <;> (first | omega | (conv => whnf)))
   | ((first | with_reducible refine Br.tt rfl ?_ | with_reducible refine Br.ff rfl ?_ | with_reducible refine Br.ff (isEmptyCons _ _) ?_); conv => whnf)
   | (refine Side.mk ?_ ?_; (focus (first | omega | (dsimp only [InR]; omega) | (dsimp only [Int.reduceToNat, IntKind.bits, Int.reducePow, InR]; omega) | (simp [PV.cells, PV.leaf, byteP]; done) | (constructor <;> omega))); conv => whnf)
   | (refine Br.mk (fun hb => ?_) (fun hb => ?_) <;> (try dsimp only at hb) <;> (try simp only [ZZ] at hb) <;> (first | omega | (conv => whnf)))
   | ((first | refine Src.whole ⟨rfl, rfl⟩ ?_ | refine FrzV.whole ?_); conv => whnf))
  all_goals exact CLe.retP (by simp [utfSize, *])
theorem utf_Good (r : Int) : AbsCall PP GG F.utf_Good [.p (.int .i64 r)] [] ⟨.ret (.p (.bool (utfGood r))), [], []⟩ := by
  refine absCall_of (pol := polG) mixP F.utf_Good_is ?_
  conv => whnf
  repeat' (first
   | ((first | with_reducible refine Br.dec (fun hb => ?_) (fun hb => ?_) | with_reducible refine Br.ndec (fun hb => ?_) (fun hb => ?_)) <;> (try dsimp only at hb) <;> (try simp only [ZZ] at hb) <;> (first | omega | (conv => whnf)))
   | ((first | with_reducible refine Br.tt rfl ?_ | with_reducible refine Br.ff rfl ?_ | with_reducible refine Br.ff (isEmptyCons _ _) ?_); conv => whnf)
   | (refine Side.mk ?_ ?_; (focus (first | omega | (dsimp only [InR]; omega) | (dsimp only [Int.reduceToNat, IntKind.bits, Int.reducePow, InR]; omega) | (simp [PV.cells, PV.leaf, byteP]; done) | (constructor <;> omega))); conv => whnf)
   | (refine Br.mk (fun hb => ?_) (fun hb => ?_) <;> (try dsimp only at hb) <;> (try simp only [ZZ] at hb) <;> (first | omega | (conv => whnf)))
   | ((first | refine Src.whole ⟨rfl, rfl⟩ ?_ | refine FrzV.whole ?_); conv => whnf))
  all_goals exact CLe.retP (by simp only [PV.bool.injEq, utfGood]; first | (symm; rw [decide_eq_false_iff_not]; omega) | (symm; rw [decide_eq_true_eq]; omega) | (rw [decide_eq_decide]; omega))
theorem utf_begins (c : UInt8) : AbsCall PP GG F.utf_begins [.p (byteP c)] [] ⟨.ret (.tup [.p (.int .i64 (utfBegins c.toNat).1), .p (.int .i64 (utfBegins c.toNat).2)]), [], []⟩ := by
  have hc : c.toNat < 256 := UInt8.toNat_lt c
  refine absCall_of (pol := polG) mixP F.utf_begins_is ?_
  conv => whnf
  repeat' (first
   | ((first | with_reducible refine Br.dec (fun hb => ?_) (fun hb => ?_) | with_reducible refine Br.ndec (fun hb => ?_) (fun hb => ?_)) <;> (try dsimp only at hb) <;> (try simp only [ZZ] at hb) <;> (first | omega | (conv => whnf)))
   | ((first | with_reducible refine Br.tt rfl ?_ | with_reducible refine Br.ff rfl ?_ | with_reducible refine Br.ff (isEmptyCons _ _) ?_); conv => whnf)
   | (refine Side.mk ?_ ?_; (focus (first | omega | (dsimp only [InR]; omega) | (dsimp only [Int.reduceToNat, IntKind.bits, Int.reducePow, InR]; omega) | (simp only [oct_andn192 _ hc (by omega), InR]; omega) | (simp only [oct_andn224 _ hc (by omega), InR]; omega) | (simp only [oct_andn240 _ hc (by omega), InR]; omega) | (simp [PV.cells, PV.leaf, byteP]; done) | (constructor <;> omega))); conv => whnf)
   | (refine Br.mk (fun hb => ?_) (fun hb => ?_) <;> (try dsimp only at hb) <;> (try simp only [ZZ] at hb) <;> (first | omega | (conv => whnf)))
   | ((first | refine Src.whole ⟨rfl, rfl⟩ ?_ | refine FrzV.whole ?_); conv => whnf))
  all_goals
    refine CLe.eq ?_
    unfold utfBegins
    first
      | (rw [if_pos (by omega)]; done)
      | (rw [if_neg (by omega), if_pos (by omega)]; done)
      | (rw [if_neg (by omega), if_neg (by omega), if_pos (by omega), oct_andn192 _ hc (by omega)]; done)
      | (rw [if_neg (by omega), if_neg (by omega), if_neg (by omega), if_pos (by omega), oct_andn224 _ hc (by omega)]; done)
      | (rw [if_neg (by omega), if_neg (by omega), if_neg (by omega), if_neg (by omega), if_pos (by omega), oct_andn240 _ hc (by omega)]; done)
      | (rw [if_neg (by omega), if_neg (by omega), if_neg (by omega), if_neg (by omega), if_neg (by omega)]; done)
theorem take_loop (s : Str) (n : Nat) (hn : n ≤ 4) (hns : n ≤ s.length) (R : Option Int) (K : Post)
    (h0 : ∀ r, R = some r → K (.exit 0) [(4, .p (.int .i64 n)), (5, .p (.int .i64 r))] [] [])
    (hr : R = none → K .ret [(2, .p (.int .i64 0)), (3, .p (.int .i64 0))] [] []) :
    ∀ (q i : Nat) (r : Int), i + q = n → 1 ≤ i → 0 ≤ r → r < takeU q → takeL q (s.drop i) r = R →
      LoopW PP GG 52 0 (loopN F.utf_Take_c 0) [(0, .p (.str s)), (4, .p (.int .i64 n)), (5, .p (.int .i64 r)), (6, .p (.int .i64 i))] [] [] (PostCl 52 K) := by
  intro q
  induction q with
  | zero =>
    intro i r hi h1 hr0 hr1 hR
    rw [takeL] at hR
    refine LoopW.round (pol := polG) mixP ?_
    conv => whnf
    repeat' (first
     | ((first | with_reducible refine Br.dec (fun hb => ?_) (fun hb => ?_) | with_reducible refine Br.ndec (fun hb => ?_) (fun hb => ?_)) <;> (try dsimp only at hb) <;> (try simp only [ZZ] at hb) <;> (first | omega | (conv => whnf)))
     | ((first | with_reducible refine Br.tt rfl ?_ | with_reducible refine Br.ff rfl ?_ | with_reducible refine Br.ff (isEmptyCons _ _) ?_); conv => whnf)
     | (refine Side.mk ?_ ?_; (focus (first | omega | (dsimp only [InR]; omega) | (dsimp only [Int.reduceToNat, IntKind.bits, Int.reducePow, InR]; omega) | (simp [PV.cells, PV.leaf, byteP]; done) | (constructor <;> omega))); conv => whnf)
     | (refine Br.mk (fun hb => ?_) (fun hb => ?_) <;> (try dsimp only at hb) <;> (try simp only [ZZ] at hb) <;> (first | omega | (conv => whnf)))
     | ((first | refine Src.whole ⟨rfl, rfl⟩ ?_ | refine FrzV.whole ?_); conv => whnf))
    · refine PostCl.of (h0 r hR.symm) ?_ ?_
      · repeat (first | exact True.intro | refine And.intro (by first | exact VLe.refl _ | fail) ?_)
      · repeat (first | exact True.intro | refine And.intro (by decide) ?_)
  | succ q ih =>
    intro i r hi h1 hr0 hr1 hR
    obtain ⟨b, hb⟩ : ∃ b, s[i]? = some b := ⟨_, List.getElem?_eq_getElem (show i < s.length by omega)⟩
    rw [drop_cons hb, takeL] at hR
    have hbl := UInt8.toNat_lt b
    have hst := takeU_step (q := q) (by omega) hr1 (x := (b.toNat % 64 : Nat)) (by omega)
    have hg : s.getD (Int.toNat ↑i) 0 = b := getD_of (by simpa using hb)
    refine LoopW.round (pol := polG) mixP ?_
    conv => whnf
    repeat' (first
     | ((first | with_reducible refine Br.dec (fun hb => ?_) (fun hb => ?_) | with_reducible refine Br.ndec (fun hb => ?_) (fun hb => ?_)) <;> (try dsimp only at hb) <;> (try simp only [ZZ] at hb) <;> (first | omega | (conv => whnf)))
     | ((first | with_reducible refine Br.tt rfl ?_ | with_reducible refine Br.ff rfl ?_ | with_reducible refine Br.ff (isEmptyCons _ _) ?_); conv => whnf)
     | (refine Side.mk ?_ ?_; (focus (first | omega | (dsimp only [InR]; omega) | (dsimp only [Int.reduceToNat, IntKind.bits, Int.reducePow, InR]; omega) | (simp only [hg, oct_and63 _ hbl, InR]; omega) | (simp [PV.cells, PV.leaf, byteP]; done) | (constructor <;> omega))); conv => whnf)
     | (refine Br.mk (fun hb => ?_) (fun hb => ?_) <;> (try dsimp only at hb) <;> (try simp only [ZZ] at hb) <;> (first | omega | (conv => whnf)))
     | ((first | refine Src.whole ⟨rfl, rfl⟩ ?_ | refine FrzV.whole ?_); conv => whnf))
    · have hbb := hb
      rw [hg] at hbb
      have := oct_and192 _ hbl
      rw [decide_eq_decide] at this
      rw [this] at hbb
      rw [if_neg hbb] at hR
      refine PostCl.of (hr hR.symm) ?_ ?_
      · repeat (first | exact True.intro | refine And.intro (by first | exact VLe.refl _ | fail) ?_)
      · repeat (first | exact True.intro | refine And.intro (by decide) ?_)
    · have hbb := hb
      rw [hg] at hbb ⊢
      have := oct_and192 _ hbl
      rw [decide_eq_decide] at this
      rw [this] at hbb
      rw [if_pos hbb] at hR
      have hio : ior .i64 (r * 2 ^ Int.toNat 6) (iand .u8 b.toNat 63) = r * 64 + (b.toNat % 64 : Nat) := by
        rw [oct_and63 _ hbl]
        exact ior_shift (q := 6) hr0 (by omega) (by omega) (by omega) (by decide)
      rw [hio]
      refine LoopW.sub (ih (i + 1) _ (by omega) (by omega) (by omega) hst.1 hR) (by repeat (first | exact True.intro | refine And.intro (by first | exact VLe.refl _ | fail) ?_)) (by repeat (first | exact True.intro | refine And.intro (by decide) ?_))
theorem utf_Take (s : Str) (hs : s.length ≤ 1073741824) : AbsCall PP GG F.utf_Take [.p (.str s)] [] ⟨.ret (.tup [.p (.int .i64 (utfTake s).1), .p (.int .i64 (utfTake s).2)]), [], []⟩ := by
  cases s with
  | nil =>
    refine absCall_of (pol := polG) mixP F.utf_Take_is ?_
    conv => whnf
    repeat' (first
     | ((first | with_reducible refine Br.dec (fun hb => ?_) (fun hb => ?_) | with_reducible refine Br.ndec (fun hb => ?_) (fun hb => ?_)) <;> (try dsimp only at hb) <;> (try simp only [ZZ] at hb) <;> (first | omega | (conv => whnf)))
     | ((first | with_reducible refine Br.tt rfl ?_ | with_reducible refine Br.ff rfl ?_ | with_reducible refine Br.ff (isEmptyCons _ _) ?_); conv => whnf)
     | (refine Side.mk ?_ ?_; (focus (first | omega | (dsimp only [InR]; omega) | (dsimp only [Int.reduceToNat, IntKind.bits, Int.reducePow, InR]; omega) | (simp [PV.cells, PV.leaf, byteP]; done) | (constructor <;> omega))); conv => whnf)
     | (refine Br.mk (fun hb => ?_) (fun hb => ?_) <;> (try dsimp only at hb) <;> (try simp only [ZZ] at hb) <;> (first | omega | (conv => whnf)))
     | ((first | refine Src.whole ⟨rfl, rfl⟩ ?_ | refine FrzV.whole ?_); conv => whnf))
    exact CLe.eq rfl
  | cons c cs =>
    have hbn := utfBegins_n c.toNat
    have hbr := utfBegins_r c.toNat
    have hsp := utf_begins c
    have hT : utfTake (c :: cs) = if (utfBegins c.toNat).1 = 0 ∨ ((c :: cs).length : Int) < (utfBegins c.toNat).1 then (0, 0) else
      match takeL ((utfBegins c.toNat).1.toNat - 1) cs (utfBegins c.toNat).2 with
      | none => (0, 0)
      | some r => if utfGood r = true ∧ utfSize r = (utfBegins c.toNat).1 then (r, (utfBegins c.toNat).1) else (0, 0) := rfl
    generalize utfBegins c.toNat = B at *
    obtain ⟨b1, r⟩ := B
    obtain ⟨n, rfl⟩ : ∃ n : Nat, b1 = n := ⟨b1.toNat, by simp only [] at hbn; omega⟩
    simp only [] at hbn hbr hsp hT
    refine absCall_of (pol := polG) mixP F.utf_Take_is ?_
    conv => whnf
    repeat' (first
     | ((first | with_reducible refine Br.dec (fun hb => ?_) (fun hb => ?_) | with_reducible refine Br.ndec (fun hb => ?_) (fun hb => ?_)) <;> (try dsimp only at hb) <;> (try simp only [ZZ] at hb) <;> (first | omega | (conv => whnf)))
     | ((first | with_reducible refine Br.tt rfl ?_ | with_reducible refine Br.ff rfl ?_ | with_reducible refine Br.ff (isEmptyCons _ _) ?_); conv => whnf)
     | (refine Side.mk ?_ ?_; (focus (first | omega | (dsimp only [InR]; omega) | (dsimp only [Int.reduceToNat, IntKind.bits, Int.reducePow, InR]; omega) | (simp only [List.length_cons]; omega) | (simp [PV.cells, PV.leaf, byteP]; done) | (constructor <;> omega))); conv => whnf)
     | (refine Br.mk (fun hb => ?_) (fun hb => ?_) <;> (try dsimp only at hb) <;> (try simp only [ZZ] at hb) <;> (first | omega | (conv => whnf)))
     | ((first | refine Src.whole ⟨rfl, rfl⟩ ?_ | refine FrzV.whole ?_); conv => whnf)
     | ((first | refine CallW.use (hsp) ?_); conv => whnf))
    · exact CLe.eq (by rw [hT, if_pos (by omega)])
    · exact CLe.eq (by rw [hT, if_pos (by omega)])
    · rename_i hn0
      rw [if_neg (by omega)] at hT
      refine LoopW.cl ?_
      refine LoopW.sub (take_loop (c :: cs) n (by omega) (by omega) (takeL (n - 1) cs r) _ (fun r' hr' => ?_) (fun hr' => ?_) (n - 1) 1 r (by omega) (by omega) hbr.1 (by have := takeU_pos (n - 1) (by omega); omega) rfl) (by repeat (first | exact True.intro | refine And.intro (by first | exact VLe.refl _ | fail) ?_)) (by repeat (first | exact True.intro | refine And.intro (by decide) ?_))
      · rw [Int.toNat_natCast, hr'] at hT
        simp only [] at hT
        conv => whnf
        repeat' (first
         | ((first | with_reducible refine Br.dec (fun hb => ?_) (fun hb => ?_) | with_reducible refine Br.ndec (fun hb => ?_) (fun hb => ?_)) <;> (try dsimp only at hb) <;> (try simp only [ZZ] at hb) <;> (first | omega | (conv => whnf)))
         | ((first | with_reducible refine Br.tt rfl ?_ | with_reducible refine Br.ff rfl ?_ | with_reducible refine Br.ff (isEmptyCons _ _) ?_); conv => whnf)
         | (refine Side.mk ?_ ?_; (focus (first | omega | (dsimp only [InR]; omega) | (dsimp only [Int.reduceToNat, IntKind.bits, Int.reducePow, InR]; omega) | (simp [PV.cells, PV.leaf, byteP]; done) | (constructor <;> omega))); conv => whnf)
         | (refine Br.mk (fun hb => ?_) (fun hb => ?_) <;> (try dsimp only at hb) <;> (try simp only [ZZ] at hb) <;> (first | omega | (conv => whnf)))
         | ((first | refine Src.whole ⟨rfl, rfl⟩ ?_ | refine FrzV.whole ?_); conv => whnf)
         | ((first | refine CallW.use (utf_Good _) ?_ | refine CallW.use (utf_size _) ?_); conv => whnf))
        all_goals refine CLe.eq ?_
        all_goals rw [hT]
        · rw [if_neg (by simp_all)]
        · rw [if_neg (by simp_all)]
        · rw [if_pos (by simp_all)]
      · rw [Int.toNat_natCast, hr'] at hT
        simp only [] at hT
        conv => whnf
        exact CLe.eq (by rw [hT])
theorem utf_Put (bs : Str) (r : Int) (hs : bs.length ≤ 1073741824) : AbsCall PP GG F.utf_Put [.p (.lst false (bs.map byteP)), .p (.int .i64 r)] [] ⟨.ret (.sl 0 0 ((bs ++ utfEnc r).map byteP).length), [.arr T.uint8 1 ((bs ++ utfEnc r).map byteP)], []⟩ := by
  have hlen : (bs.map byteP).length = bs.length := by simp
  have hgr : utfGood r = true → 0 ≤ r ∧ r ≤ 1114111 := by intro hg; unfold utfGood at hg; rw [decide_eq_true_eq] at hg; omega
  refine absCall_of (pol := polG) mixP F.utf_Put_is ?_
  conv => whnf
  repeat' (first
   | ((first | with_reducible refine Br.dec (fun hb => ?_) (fun hb => ?_) | with_reducible refine Br.ndec (fun hb => ?_) (fun hb => ?_)) <;> (try dsimp only at hb) <;> (try simp only [ZZ] at hb) <;> (first | omega | (conv => whnf)))
   | ((first | with_reducible refine Br.tt rfl ?_ | with_reducible refine Br.ff rfl ?_ | with_reducible refine Br.ff (isEmptyCons _ _) ?_); conv => whnf)
   | (refine Side.mk ?_ ?_; (focus (first | omega | (dsimp only [InR]; omega) | (dsimp only [Int.reduceToNat, IntKind.bits, Int.reducePow, InR]; omega) | exact ⟨bytes_cells bs, by simp, by simp; omega⟩ | exact ⟨by simp [PV.cells], by simp, by simp; omega⟩ | (simp [PV.cells, PV.leaf, byteP]; done) | (constructor <;> omega))); conv => whnf)
   | (refine Br.mk (fun hb => ?_) (fun hb => ?_) <;> (try dsimp only at hb) <;> (try simp only [ZZ] at hb) <;> (first | omega | (conv => whnf)))
   | ((first | refine Src.whole ⟨rfl, rfl⟩ ?_ | refine FrzV.whole ?_); conv => whnf)
   | ((first | refine CallW.use (utf_Good _) ?_ | refine CallW.use (utf_size _) ?_); conv => whnf)
   | (refine Src.whole ⟨rfl, by simp⟩ ?_; conv => whnf))
  · refine CLe.arr ?_
    rw [show utfEnc r = [] by unfold utfEnc; rw [if_pos hb]]
    simp
  all_goals
    obtain ⟨hr0, hr1⟩ := hgr ‹utfGood r = true›
    obtain ⟨n, rfl⟩ := Int.eq_ofNat_of_zero_le hr0
    have hng : utfGood (n : Int) ≠ false := by simp_all
    refine CLe.arr ?_
    unfold utfEnc
    rw [if_neg hng]
    have q6 : (n : Int) / 2 ^ Int.toNat 6 = ((n / 64 : Nat) : Int) := by show (n : Int) / 64 = _; omega
    have q12 : (n : Int) / 2 ^ Int.toNat 12 = ((n / 4096 : Nat) : Int) := by show (n : Int) / 4096 = _; omega
    have q18 : (n : Int) / 2 ^ Int.toNat 18 = ((n / 262144 : Nat) : Int) := by show (n : Int) / 262144 = _; omega
    have low : ∀ m : Nat, m ≤ 1114111 → iand .i64 (m : Int) 63 = ((m % 64 : Nat) : Int) := by
      intro m hm
      rw [iand63 (by omega) (by omega)]; omega
    have by' : ∀ m : Nat, m ≤ 255 → PV.int .u8 (IntKind.u8.wrap (m : Int)) = byteP (UInt8.ofNat m) := by
      intro m hm
      have := byte_of (x := (m : Int)) (by omega) (by omega)
      simpa using this
    rw [List.map_append, show List.replicate (Int.toNat 0) (PV.int IntKind.u8 0) = [] from rfl, List.nil_append]
    congr 1
  · rw [utfSize_1] at hb
    rw [if_pos hb]
    simp only [List.map_cons, List.map_nil]
    rw [Int.toNat_natCast, by' n (by omega)]
  · rename_i h1
    rw [utfSize_1] at h1
    rw [utfSize_2] at hb
    rw [if_neg h1, if_pos hb.2]
    simp only [List.map_cons, List.map_nil]
    rw [Int.toNat_natCast, q6, low n (by omega), oct_or192 _ (by omega), oct_or128 _ (by omega), by' _ (by omega), by' _ (by omega)]
  · rename_i h1 h2
    rw [utfSize_1] at h1
    rw [utfSize_2] at h2
    rw [utfSize_3] at hb
    rw [if_neg h1, if_neg (by omega), if_pos hb.2]
    simp only [List.map_cons, List.map_nil]
    rw [Int.toNat_natCast, q6, q12, low n (by omega), low (n / 64) (by omega), oct_or224 _ (by omega), oct_or128 _ (by omega), oct_or128 _ (by omega), by' _ (by omega), by' _ (by omega), by' _ (by omega)]
  · rename_i h1 h2
    rw [utfSize_1] at h1
    rw [utfSize_2] at h2
    rw [utfSize_3] at hb
    rw [if_neg h1, if_neg (by omega), if_neg (by omega)]
    simp only [List.map_cons, List.map_nil]
    rw [Int.toNat_natCast, q6, q12, q18, low n (by omega), low (n / 64) (by omega), low (n / 4096) (by omega), oct_or240 _ (by omega), oct_or128 _ (by omega), oct_or128 _ (by omega), oct_or128 _ (by omega), by' _ (by omega), by' _ (by omega), by' _ (by omega), by' _ (by omega)]
/-- round by round: where letters end -/
theorem valid_loop (s : Str) (hs : s.length ≤ 1073741824) (R : Int × Bool) (K : Post)
    (h0 : R = ((s.length : Int), true) → K (.exit 0) [(0, .p (.str s))] [] [])
    (hr : R.2 = false → K .ret [(2, .p (.int .i64 R.1)), (3, .p (.bool false))] [] []) :
    ∀ (q i : Nat), s.length ≤ i + q → i ≤ s.length → utfScan q (s.drop i) i = R →
      LoopW PP GG 26 0 (loopN F.utf_Valid_c 0) [(0, .p (.str s)), (4, .p (.int .i64 i))] [] [] (PostCl 26 K) := by
  intro q
  induction q with
  | zero =>
    intro i hi hil hR
    rw [utfScan] at hR
    subst hR
    refine LoopW.round (pol := polG) mixP ?_
    conv => whnf
    repeat' (first
     | ((first | with_reducible refine Br.dec (fun hb => ?_) (fun hb => ?_) | with_reducible refine Br.ndec (fun hb => ?_) (fun hb => ?_)) <;> (try dsimp only at hb) <;> (try simp only [ZZ] at hb) <;> (first | omega | (conv => whnf)))
     | ((first | with_reducible refine Br.tt rfl ?_ | with_reducible refine Br.ff rfl ?_ | with_reducible refine Br.ff (isEmptyCons _ _) ?_); conv => whnf)
     | (refine Side.mk ?_ ?_; (focus (first | omega | (dsimp only [InR]; omega) | (dsimp only [Int.reduceToNat, IntKind.bits, Int.reducePow, InR]; omega) | (simp [PV.cells, PV.leaf, byteP]; done) | (constructor <;> omega))); conv => whnf)
     | (refine Br.mk (fun hb => ?_) (fun hb => ?_) <;> (try dsimp only at hb) <;> (try simp only [ZZ] at hb) <;> (first | omega | (conv => whnf)))
     | ((first | refine Src.whole ⟨rfl, rfl⟩ ?_ | refine FrzV.whole ?_); conv => whnf))
    · refine PostCl.of (h0 (by congr 1; omega)) ?_ ?_
      · repeat (first | exact True.intro | refine And.intro (by first | exact VLe.refl _ | fail) ?_)
      · repeat (first | exact True.intro | refine And.intro (by decide) ?_)
  | succ q ih =>
    intro i hi hil hR
    have hT := utfTake_n (s.drop i)
    have hd : (s.drop i).length ≤ 1073741824 := by simp only [List.length_drop]; omega
    have hdl : (s.drop i).length = s.length - i := List.length_drop
    cases hsd : s.drop i with
    | nil =>
      have : (s.drop i).length = 0 := by rw [hsd]; rfl
      rw [hsd, utfScan] at hR
      subst hR
      refine LoopW.round (pol := polG) mixP ?_
      conv => whnf
      repeat' (first
       | ((first | with_reducible refine Br.dec (fun hb => ?_) (fun hb => ?_) | with_reducible refine Br.ndec (fun hb => ?_) (fun hb => ?_)) <;> (try dsimp only at hb) <;> (try simp only [ZZ] at hb) <;> (first | omega | (conv => whnf)))
       | ((first | with_reducible refine Br.tt rfl ?_ | with_reducible refine Br.ff rfl ?_ | with_reducible refine Br.ff (isEmptyCons _ _) ?_); conv => whnf)
       | (refine Side.mk ?_ ?_; (focus (first | omega | (dsimp only [InR]; omega) | (dsimp only [Int.reduceToNat, IntKind.bits, Int.reducePow, InR]; omega) | (simp [PV.cells, PV.leaf, byteP]; done) | (constructor <;> omega))); conv => whnf)
       | (refine Br.mk (fun hb => ?_) (fun hb => ?_) <;> (try dsimp only at hb) <;> (try simp only [ZZ] at hb) <;> (first | omega | (conv => whnf)))
       | ((first | refine Src.whole ⟨rfl, rfl⟩ ?_ | refine FrzV.whole ?_); conv => whnf))
      · refine PostCl.of (h0 (by congr 1; omega)) ?_ ?_
        · repeat (first | exact True.intro | refine And.intro (by first | exact VLe.refl _ | fail) ?_)
        · repeat (first | exact True.intro | refine And.intro (by decide) ?_)
    | cons c cs =>
      have hlt : i < s.length := by have : (s.drop i).length = cs.length + 1 := by rw [hsd]; rfl
                                    omega
      rw [hsd, utfScan, ← hsd] at hR
      refine LoopW.round (pol := polG) mixP ?_
      conv => whnf
      repeat' (first
       | ((first | with_reducible refine Br.dec (fun hb => ?_) (fun hb => ?_) | with_reducible refine Br.ndec (fun hb => ?_) (fun hb => ?_)) <;> (try dsimp only at hb) <;> (try simp only [ZZ] at hb) <;> (first | omega | (conv => whnf)))
       | ((first | with_reducible refine Br.tt rfl ?_ | with_reducible refine Br.ff rfl ?_ | with_reducible refine Br.ff (isEmptyCons _ _) ?_); conv => whnf)
       | (refine Side.mk ?_ ?_; (focus (first | omega | (dsimp only [InR]; omega) | (dsimp only [Int.reduceToNat, IntKind.bits, Int.reducePow, InR]; omega) | (simp [PV.cells, PV.leaf, byteP]; done) | (constructor <;> omega))); conv => whnf)
       | (refine Br.mk (fun hb => ?_) (fun hb => ?_) <;> (try dsimp only at hb) <;> (try simp only [ZZ] at hb) <;> (first | omega | (conv => whnf)))
       | ((first | refine Src.whole ⟨rfl, rfl⟩ ?_ | refine FrzV.whole ?_); conv => whnf)
       | ((first | refine CallW.use (utf_Take (s.drop i) hd) ?_); conv => whnf))
      · rw [if_pos hb] at hR
        subst hR
        refine PostCl.of (hr rfl) ?_ ?_
        · repeat (first | exact True.intro | refine And.intro (by first | exact VLe.refl _ | fail) ?_)
        · repeat (first | exact True.intro | refine And.intro (by decide) ?_)
      · rw [if_neg hb, List.drop_drop] at hR
        obtain ⟨m, hm⟩ : ∃ m : Nat, (utfTake (s.drop i)).2 = m := ⟨(utfTake (s.drop i)).2.toNat, by omega⟩
        rw [hm] at hR ⊢
        refine LoopW.sub (ih (i + m) (by omega) (by omega) (by rw [← hR]; congr 1)) (by repeat (first | exact True.intro | refine And.intro (by first | exact VLe.refl _ | fail) ?_)) (by repeat (first | exact True.intro | refine And.intro (by decide) ?_))
theorem utf_Valid (s : Str) (hs : s.length ≤ 1073741824) : AbsCall PP GG F.utf_Valid [.p (.str s)] [] ⟨.ret (.tup [.p (.int .i64 (utfValid s).1), .p (.bool (utfValid s).2)]), [], []⟩ := by
  refine absCall_of (pol := polG) mixP F.utf_Valid_is ?_
  conv => whnf
  refine LoopW.cl ?_
  refine LoopW.sub (valid_loop s hs (utfValid s) _ (fun h => ?_) (fun h => ?_) s.length 0 (by omega) (by omega) rfl) (by repeat (first | exact True.intro | refine And.intro (by first | exact VLe.refl _ | fail) ?_)) (by repeat (first | exact True.intro | refine And.intro (by decide) ?_))
  · conv => whnf
    repeat' (first
     | ((first | with_reducible refine Br.dec (fun hb => ?_) (fun hb => ?_) | with_reducible refine Br.ndec (fun hb => ?_) (fun hb => ?_)) <;> (try dsimp only at hb) <;> (try simp only [ZZ] at hb) <;> (first | omega | (conv => whnf)))
     | ((first | with_reducible refine Br.tt rfl ?_ | with_reducible refine Br.ff rfl ?_ | with_reducible refine Br.ff (isEmptyCons _ _) ?_); conv => whnf)
     | (refine Side.mk ?_ ?_; (focus (first | omega | (dsimp only [InR]; omega) | (dsimp only [Int.reduceToNat, IntKind.bits, Int.reducePow, InR]; omega) | (simp [PV.cells, PV.leaf, byteP]; done) | (constructor <;> omega))); conv => whnf)
     | (refine Br.mk (fun hb => ?_) (fun hb => ?_) <;> (try dsimp only at hb) <;> (try simp only [ZZ] at hb) <;> (first | omega | (conv => whnf)))
     | ((first | refine Src.whole ⟨rfl, rfl⟩ ?_ | refine FrzV.whole ?_); conv => whnf))
    exact CLe.eq (by rw [h])
  · conv => whnf
    repeat' (first
     | ((first | with_reducible refine Br.dec (fun hb => ?_) (fun hb => ?_) | with_reducible refine Br.ndec (fun hb => ?_) (fun hb => ?_)) <;> (try dsimp only at hb) <;> (try simp only [ZZ] at hb) <;> (first | omega | (conv => whnf)))
     | ((first | with_reducible refine Br.tt rfl ?_ | with_reducible refine Br.ff rfl ?_ | with_reducible refine Br.ff (isEmptyCons _ _) ?_); conv => whnf)
     | (refine Side.mk ?_ ?_; (focus (first | omega | (dsimp only [InR]; omega) | (dsimp only [Int.reduceToNat, IntKind.bits, Int.reducePow, InR]; omega) | (simp [PV.cells, PV.leaf, byteP]; done) | (constructor <;> omega))); conv => whnf)
     | (refine Br.mk (fun hb => ?_) (fun hb => ?_) <;> (try dsimp only at hb) <;> (try simp only [ZZ] at hb) <;> (first | omega | (conv => whnf)))
     | ((first | refine Src.whole ⟨rfl, rfl⟩ ?_ | refine FrzV.whole ?_); conv => whnf))
    exact CLe.eq (by rw [h])
end Go.Proofs.YtaoejccgdpppgaaGreatDoor
end

section
namespace Go.Am
open Go
def refTake (s : Str) : Int × Int :=
  match s with
  | [] => (0, 0)
  | c :: cs => if (utfBegins c.toNat).1 = 0 ∨ (s.length : Int) < (utfBegins c.toNat).1 then (0, 0) else
    match takeL ((utfBegins c.toNat).1.toNat - 1) cs (utfBegins c.toNat).2 with
    | none => (0, 0)
    | some r => if utfEnc r = s.take (utfBegins c.toNat).1.toNat then (r, (utfBegins c.toNat).1) else (0, 0)
theorem utfEnc_length (r : Int) : ((utfEnc r).length : Int) = if utfGood r = true then utfSize r else 0 := by
  unfold utfEnc utfSize
  cases utfGood r with
  | false => simp
  | true =>
    simp only [Bool.true_eq_false, if_false, if_true]
    repeat' split
    all_goals simp
theorem enc_byte {b : UInt8} {n : Nat} (h : n = b.toNat) : UInt8.ofNat n = b := by subst h; simp
/-- the bytes of a letter that was read are those that were read -/
theorem enc_take {c : UInt8} {cs : Str} {r : Int} (h0 : (utfBegins c.toNat).1 ≠ 0) (h1 : ¬ ((c :: cs).length : Int) < (utfBegins c.toNat).1) (h2 : takeL ((utfBegins c.toNat).1.toNat - 1) cs (utfBegins c.toNat).2 = some r)
    (hg : utfGood r = true) (hs : utfSize r = (utfBegins c.toNat).1) : utfEnc r = (c :: cs).take (utfBegins c.toNat).1.toNat := by
  have hgn : ¬ utfGood r = false := by rw [hg]; simp
  have hc := UInt8.toNat_lt c
  have split1 : ∀ (q : Nat) (s : Str) (x : Int), takeL (q + 1) s x = some r → ∃ b t, s = b :: t ∧ 128 ≤ b.toNat ∧ b.toNat < 192 ∧ takeL q t (x * 64 + (b.toNat % 64 : Nat)) = some r := by
    intro q s x h
    cases s with
    | nil => simp [takeL] at h
    | cons b t =>
      rw [takeL] at h
      split at h
      · rename_i hb; exact ⟨b, t, rfl, hb.1, hb.2, h⟩
      · cases h
  have last : ∀ (s : Str) (x : Int), takeL 0 s x = some r → r = x := by
    intro s x h
    rw [takeL] at h
    exact (Option.some.inj h).symm
  unfold utfBegins at h0 h1 h2 hs ⊢
  by_cases b1 : c.toNat < 128
  · simp only [if_pos b1] at h0 h1 h2 hs ⊢
    have := last _ _ h2
    subst this
    unfold utfEnc
    rw [if_neg hgn, if_pos (by omega)]
    simp
  · by_cases b2 : c.toNat < 192
    · simp only [if_neg b1, if_pos b2] at h0
      exact absurd rfl h0
    · by_cases b3 : c.toNat < 224
      · simp only [if_neg b1, if_neg b2, if_pos b3] at h0 h1 h2 hs ⊢
        obtain ⟨b, t, rfl, e1, e2, h2⟩ := split1 0 _ _ h2
        have := last _ _ h2
        rw [utfSize_2] at hs
        unfold utfEnc
        rw [if_neg hgn, if_neg (by omega), if_pos (by omega)]
        show _ = [c, b]
        rw [enc_byte (b := c) (by omega), enc_byte (b := b) (by omega)]
      · by_cases b4 : c.toNat < 240
        · simp only [if_neg b1, if_neg b2, if_neg b3, if_pos b4] at h0 h1 h2 hs ⊢
          obtain ⟨b, t, rfl, e1, e2, h2⟩ := split1 1 _ _ h2
          obtain ⟨d, u, rfl, e3, e4, h2⟩ := split1 0 _ _ h2
          have := last _ _ h2
          rw [utfSize_3] at hs
          unfold utfEnc
          rw [if_neg hgn, if_neg (by omega), if_neg (by omega), if_pos (by omega)]
          show _ = [c, b, d]
          rw [enc_byte (b := c) (by omega), enc_byte (b := b) (by omega), enc_byte (b := d) (by omega)]
        · by_cases b5 : c.toNat < 248
          · simp only [if_neg b1, if_neg b2, if_neg b3, if_neg b4, if_pos b5] at h0 h1 h2 hs ⊢
            obtain ⟨b, t, rfl, e1, e2, h2⟩ := split1 2 _ _ h2
            obtain ⟨d, u, rfl, e3, e4, h2⟩ := split1 1 _ _ h2
            obtain ⟨e, v, rfl, e5, e6, h2⟩ := split1 0 _ _ h2
            have := last _ _ h2
            have hg' : 0 ≤ r ∧ r ≤ 1114111 := by unfold utfGood at hg; rw [decide_eq_true_eq] at hg; omega
            have hs' : 65536 ≤ r := by
              unfold utfSize at hs
              split at hs
              · omega
              · split at hs
                · omega
                · split at hs <;> omega
            unfold utfEnc
            rw [if_neg hgn, if_neg (by omega), if_neg (by omega), if_neg (by omega)]
            show _ = [c, b, d, e]
            rw [enc_byte (b := c) (by omega), enc_byte (b := b) (by omega), enc_byte (b := d) (by omega), enc_byte (b := e) (by omega)]
          · simp only [if_neg b1, if_neg b2, if_neg b3, if_neg b4, if_neg b5] at h0
            exact absurd rfl h0
theorem refTake_eq (s : Str) : refTake s = utfTake s := by
  cases s with
  | nil => rfl
  | cons c cs =>
    unfold refTake utfTake
    simp only []
    split
    · rfl
    · rename_i h
      simp only [not_or] at h
      cases ht : takeL ((utfBegins c.toNat).1.toNat - 1) cs (utfBegins c.toNat).2 with
      | none => rfl
      | some r =>
        simp only []
        by_cases hg : utfGood r = true ∧ utfSize r = (utfBegins c.toNat).1
        · rw [if_pos hg, if_pos (enc_take h.1 h.2 ht hg.1 hg.2)]
        · rw [if_neg hg, if_neg]
          intro he
          refine hg ?_
          have hl := utfEnc_length r
          have hn := utfBegins_n c.toNat
          rw [he, List.length_take] at hl
          have hm : ((min (utfBegins c.toNat).1.toNat (c :: cs).length : Nat) : Int) = (utfBegins c.toNat).1 := by omega
          rw [hm] at hl
          split at hl
          · rename_i hg'; exact ⟨hg', hl.symm⟩
          · exact absurd hl h.1
/-- where letters begin, and the end -/
def startsL : Nat → Str → Int → List Int
  | 0, _, at_ => [at_]
  | _ + 1, [], at_ => [at_]
  | q + 1, c :: cs, at_ => at_ :: startsL q ((c :: cs).drop (max (utfTake (c :: cs)).2 1).toNat) (at_ + max (utfTake (c :: cs)).2 1)
end Go.Am
namespace Go.Am
def refValid (s : Str) : Int := if (utfValid s).2 = true then -1 else (utfValid s).1
theorem startsL_len : ∀ (q : Nat) (s : Str) (i : Int), (startsL q s i).length ≤ q + 1
  | 0, _, _ => by simp [startsL]
  | q + 1, [], _ => by simp [startsL]
  | q + 1, c :: cs, i => by
    rw [startsL, List.length_cons]
    have := startsL_len q ((c :: cs).drop (max (utfTake (c :: cs)).2 1).toNat) (i + max (utfTake (c :: cs)).2 1)
    omega
def intP (n : Int) : PV := .int .i64 n
end Go.Am
namespace Go.Am
def strOk (s : Str) : Bool := decide (s.length ≤ 4096) && (utfValid s).2
def stampOk (s : Str) : Bool := decide (1 ≤ s.length ∧ s.length ≤ 64 ∧ ∀ b ∈ s, 32 ≤ b.toNat ∧ b.toNat ≤ 126)
theorem utfScan_nn : ∀ (q : Nat) (s : Str) (i : Int), 0 ≤ i → 0 ≤ (utfScan q s i).1
  | 0, _, _, h => h
  | q + 1, [], _, h => h
  | q + 1, c :: cs, i, h => by
    rw [utfScan]
    split
    · exact h
    · have := utfTake_n (c :: cs)
      exact utfScan_nn q _ _ (by omega)
theorem refValid_neg (s : Str) : decide (refValid s < 0) = (utfValid s).2 := by
  have := utfScan_nn s.length s 0 (by omega)
  unfold refValid
  cases h : (utfValid s).2 with
  | true => simp
  | false =>
    rw [if_neg (by simp)]
    rw [decide_eq_false_iff_not]
    have : 0 ≤ (utfValid s).1 := this
    omega
end Go.Am
end

section
namespace Go.Proofs.YtaoejccgdpppgaaGreatDoor
open Go Go.Am
set_option maxRecDepth 100000
theorem ref1_Good (r : Int) : AbsCall PP GG F.ref1_Good [.p (.int .i64 r)] [] ⟨.ret (.p (.bool (utfGood r))), [], []⟩ := by
  refine absCall_of (pol := polG) mixP F.ref1_Good_is ?_
  conv => whnf
  repeat' (first
   | ((first | with_reducible refine Br.dec (fun hb => ?_) (fun hb => ?_) | with_reducible refine Br.ndec (fun hb => ?_) (fun hb => ?_)) <;> (try dsimp only at hb) <;> (try simp only [ZZ] at hb) <;> (first | omega | (conv => whnf)))
   | ((first | with_reducible refine Br.tt rfl ?_ | with_reducible refine Br.ff rfl ?_ | with_reducible refine Br.ff (isEmptyCons _ _) ?_); conv => whnf)
   | (refine Side.mk ?_ ?_; (focus (first | omega | (dsimp only [InR]; omega) | (dsimp only [Int.reduceToNat, IntKind.bits, Int.reducePow, InR]; omega) | (simp [PV.cells, PV.leaf, byteP]; done) | (constructor <;> omega))); conv => whnf)
   | (refine Br.mk (fun hb => ?_) (fun hb => ?_) <;> (try dsimp only at hb) <;> (try simp only [ZZ] at hb) <;> (first | omega | (conv => whnf)))
   | ((first | refine Src.whole ⟨rfl, rfl⟩ ?_ | refine FrzV.whole ?_); conv => whnf))
  all_goals exact CLe.retP (by simp only [PV.bool.injEq, utfGood]; first | (symm; rw [decide_eq_false_iff_not]; omega) | (symm; rw [decide_eq_true_eq]; omega) | (rw [decide_eq_decide]; omega))
theorem ref1_Put (r : Int) : AbsCall PP GG F.ref1_Put [.p (.int .i64 r)] [] ⟨.ret (.p (.str (utfEnc r))), [], []⟩ := by
  have hgr : utfGood r = true → 0 ≤ r ∧ r ≤ 1114111 := by intro hg; unfold utfGood at hg; rw [decide_eq_true_eq] at hg; omega
  by_cases hg : utfGood r = true
  · obtain ⟨hr0, hr1⟩ := hgr hg
    obtain ⟨n, rfl⟩ := Int.eq_ofNat_of_zero_le hr0
    have by' : ∀ m : Nat, m ≤ 255 → PV.int .u8 (IntKind.u8.wrap (m : Int)) = byteP (UInt8.ofNat m) := by
      intro m hm
      have := byte_of (x := (m : Int)) (by omega) (by omega)
      simpa using this
    have by2 : ∀ a m : Nat, a + m ≤ 255 → PV.int .u8 (IntKind.u8.wrap ((a : Int) + (m : Int))) = byteP (UInt8.ofNat (a + m)) := by
      intro a m hm
      rw [← Int.natCast_add]
      exact by' _ hm
    have dv : ∀ m : Nat, 0 < m → (n : Int).tdiv (m : Int) = ((n / m : Nat) : Int) := fun m hm => by rw [Int.tdiv_eq_ediv_of_nonneg (by omega)]; rfl
    have md : ∀ (a m : Nat), (a : Int).tmod (m : Int) = ((a % m : Nat) : Int) := fun a m => by rw [Int.tmod_eq_emod_of_nonneg (by omega)]; rfl
    have d1 := dv 64 (by omega)
    have d2 := dv 4096 (by omega)
    have d3 := dv 262144 (by omega)
    have m1 := md n 64
    have m2 := md (n / 64) 64
    have m3 := md (n / 4096) 64
    rw [show ((64 : Nat) : Int) = 64 from rfl] at d1 m1 m2 m3
    rw [show ((4096 : Nat) : Int) = 4096 from rfl] at d2
    rw [show ((262144 : Nat) : Int) = 262144 from rfl] at d3
    have hng : ¬ utfGood (n : Int) = false := by rw [hg]; simp
    have e1 : (n : Int) < 128 → [PV.int .u8 (IntKind.u8.wrap (n : Int))] = (utfEnc (n : Int)).map byteP := by
      intro h
      unfold utfEnc
      rw [if_neg hng, if_pos h, Int.toNat_natCast, by' n (by omega)]; rfl
    have e2 : ¬ (n : Int) < 128 → (n : Int) < 2048 → [PV.int .u8 (IntKind.u8.wrap (192 + (n : Int).tdiv 64)), PV.int .u8 (IntKind.u8.wrap (128 + (n : Int).tmod 64))] = (utfEnc (n : Int)).map byteP := by
      intro h h2
      unfold utfEnc
      rw [if_neg hng, if_neg h, if_pos h2, Int.toNat_natCast, d1, m1]
      have a1 : PV.int .u8 (IntKind.u8.wrap (192 + ((n / 64 : Nat) : Int))) = byteP (UInt8.ofNat (192 + n / 64)) := by2 192 (n / 64) (by omega)
      have a2 : PV.int .u8 (IntKind.u8.wrap (128 + ((n % 64 : Nat) : Int))) = byteP (UInt8.ofNat (128 + n % 64)) := by2 128 (n % 64) (by omega)
      rw [a1, a2]; rfl
    have e3 : ¬ (n : Int) < 2048 → (n : Int) < 65536 → [PV.int .u8 (IntKind.u8.wrap (224 + (n : Int).tdiv 4096)), PV.int .u8 (IntKind.u8.wrap (128 + ((n : Int).tdiv 64).tmod 64)), PV.int .u8 (IntKind.u8.wrap (128 + (n : Int).tmod 64))] = (utfEnc (n : Int)).map byteP := by
      intro h h2
      unfold utfEnc
      rw [if_neg hng, if_neg (by omega), if_neg h, if_pos h2, Int.toNat_natCast, d1, d2, m1, m2]
      have a1 : PV.int .u8 (IntKind.u8.wrap (224 + ((n / 4096 : Nat) : Int))) = byteP (UInt8.ofNat (224 + n / 4096)) := by2 224 (n / 4096) (by omega)
      have a2 : PV.int .u8 (IntKind.u8.wrap (128 + ((n / 64 % 64 : Nat) : Int))) = byteP (UInt8.ofNat (128 + n / 64 % 64)) := by2 128 (n / 64 % 64) (by omega)
      have a3 : PV.int .u8 (IntKind.u8.wrap (128 + ((n % 64 : Nat) : Int))) = byteP (UInt8.ofNat (128 + n % 64)) := by2 128 (n % 64) (by omega)
      rw [a1, a2, a3]; rfl
    have e4 : ¬ (n : Int) < 65536 → [PV.int .u8 (IntKind.u8.wrap (240 + (n : Int).tdiv 262144)), PV.int .u8 (IntKind.u8.wrap (128 + ((n : Int).tdiv 4096).tmod 64)), PV.int .u8 (IntKind.u8.wrap (128 + ((n : Int).tdiv 64).tmod 64)), PV.int .u8 (IntKind.u8.wrap (128 + (n : Int).tmod 64))] = (utfEnc (n : Int)).map byteP := by
      intro h
      unfold utfEnc
      rw [if_neg hng, if_neg (by omega), if_neg (by omega), if_neg h, Int.toNat_natCast, d1, d2, d3, m1, m2, m3]
      have a1 : PV.int .u8 (IntKind.u8.wrap (240 + ((n / 262144 : Nat) : Int))) = byteP (UInt8.ofNat (240 + n / 262144)) := by2 240 (n / 262144) (by omega)
      have a2 : PV.int .u8 (IntKind.u8.wrap (128 + ((n / 4096 % 64 : Nat) : Int))) = byteP (UInt8.ofNat (128 + n / 4096 % 64)) := by2 128 (n / 4096 % 64) (by omega)
      have a3 : PV.int .u8 (IntKind.u8.wrap (128 + ((n / 64 % 64 : Nat) : Int))) = byteP (UInt8.ofNat (128 + n / 64 % 64)) := by2 128 (n / 64 % 64) (by omega)
      have a4 : PV.int .u8 (IntKind.u8.wrap (128 + ((n % 64 : Nat) : Int))) = byteP (UInt8.ofNat (128 + n % 64)) := by2 128 (n % 64) (by omega)
      rw [a1, a2, a3, a4]; rfl
    have hsp := ref1_Good (n : Int)
    rw [hg] at hsp
    refine absCall_of (pol := polG) mixP F.ref1_Put_is ?_
    conv => whnf
    repeat' (first
     | ((first | with_reducible refine Br.dec (fun hb => ?_) (fun hb => ?_) | with_reducible refine Br.ndec (fun hb => ?_) (fun hb => ?_)) <;> (try dsimp only at hb) <;> (try simp only [ZZ] at hb) <;> (first | omega | (conv => whnf)))
     | ((first | with_reducible refine Br.tt rfl ?_ | with_reducible refine Br.ff rfl ?_ | with_reducible refine Br.ff (isEmptyCons _ _) ?_); conv => whnf)
     | (refine Side.mk ?_ ?_; (focus (first | omega | (dsimp only [InR]; omega) | (dsimp only [Int.reduceToNat, IntKind.bits, Int.reducePow, InR]; omega) | (simp only [d1, d2, d3, m1, m2, m3, InR]; omega) | (simp only [d1, d2, d3, m1, m2, m3, InR]; decide) | (refine ⟨by decide, ?_⟩; simp only [d1, d2, d3, InR]; omega) | (simp [PV.cells, PV.leaf, byteP]; done) | (constructor <;> omega))); conv => whnf)
     | (refine Br.mk (fun hb => ?_) (fun hb => ?_) <;> (try dsimp only at hb) <;> (try simp only [ZZ] at hb) <;> (first | omega | (conv => whnf)))
     | ((first | refine Src.whole ⟨rfl, rfl⟩ ?_ | refine FrzV.whole ?_); conv => whnf)
     | ((first | refine CallW.use (hsp) ?_); conv => whnf)
     | (refine Bytes.mk' (s := utfEnc (n : Int)) (e1 (by omega)) ?_; conv => whnf)
     | (refine Bytes.mk' (s := utfEnc (n : Int)) (e2 (by omega) (by omega)) ?_; conv => whnf)
     | (refine Bytes.mk' (s := utfEnc (n : Int)) (e3 (by omega) (by omega)) ?_; conv => whnf)
     | (refine Bytes.mk' (s := utfEnc (n : Int)) (e4 (by omega)) ?_; conv => whnf))
    all_goals exact CLe.eq rfl
  · have hg' : utfGood r = false := by simpa using hg
    have hsp := ref1_Good r
    rw [hg'] at hsp
    refine absCall_of (pol := polG) mixP F.ref1_Put_is ?_
    conv => whnf
    repeat' (first
     | ((first | with_reducible refine Br.dec (fun hb => ?_) (fun hb => ?_) | with_reducible refine Br.ndec (fun hb => ?_) (fun hb => ?_)) <;> (try dsimp only at hb) <;> (try simp only [ZZ] at hb) <;> (first | omega | (conv => whnf)))
     | ((first | with_reducible refine Br.tt rfl ?_ | with_reducible refine Br.ff rfl ?_ | with_reducible refine Br.ff (isEmptyCons _ _) ?_); conv => whnf)
     | (refine Side.mk ?_ ?_; (focus (first | omega | (dsimp only [InR]; omega) | (dsimp only [Int.reduceToNat, IntKind.bits, Int.reducePow, InR]; omega) | (simp [PV.cells, PV.leaf, byteP]; done) | (constructor <;> omega))); conv => whnf)
     | (refine Br.mk (fun hb => ?_) (fun hb => ?_) <;> (try dsimp only at hb) <;> (try simp only [ZZ] at hb) <;> (first | omega | (conv => whnf)))
     | ((first | refine Src.whole ⟨rfl, rfl⟩ ?_ | refine FrzV.whole ?_); conv => whnf)
     | ((first | refine CallW.use (hsp) ?_); conv => whnf))
    exact CLe.retP (by unfold utfEnc; rw [if_pos hg'])
theorem refTake_loop (s : Str) (n : Nat) (hn : n ≤ 4) (hns : n ≤ s.length) (R : Option Int) (K : Post)
    (h0 : ∀ r, R = some r → 0 ≤ r → K (.exit 1) [(0, .p (.str s)), (5, .p (.int .i64 n)), (6, .p (.int .i64 r))] [] [])
    (hr : R = none → K .ret [(2, .p (.int .i64 0)), (3, .p (.int .i64 0))] [] []) :
    ∀ (q i : Nat) (r : Int), i + q = n → 1 ≤ i → 0 ≤ r → r < takeU q → takeL q (s.drop i) r = R →
      LoopW PP GG 79 0 (loopN F.ref1_Take_c 0) [(0, .p (.str s)), (5, .p (.int .i64 n)), (6, .p (.int .i64 r)), (7, .p (.int .i64 i))] [] [] (PostCl 79 K) := by
  intro q
  induction q with
  | zero =>
    intro i r hi h1 hr0 hr1 hR
    rw [takeL] at hR
    refine LoopW.round (pol := polG) mixP ?_
    conv => whnf
    repeat' (first
     | ((first | with_reducible refine Br.dec (fun hb => ?_) (fun hb => ?_) | with_reducible refine Br.ndec (fun hb => ?_) (fun hb => ?_)) <;> (try dsimp only at hb) <;> (try simp only [ZZ] at hb) <;> (first | omega | (conv => whnf)))
     | ((first | with_reducible refine Br.tt rfl ?_ | with_reducible refine Br.ff rfl ?_ | with_reducible refine Br.ff (isEmptyCons _ _) ?_); conv => whnf)
     | (refine Side.mk ?_ ?_; (focus (first | omega | (dsimp only [InR]; omega) | (dsimp only [Int.reduceToNat, IntKind.bits, Int.reducePow, InR]; omega) | (simp [PV.cells, PV.leaf, byteP]; done) | (constructor <;> omega))); conv => whnf)
     | (refine Br.mk (fun hb => ?_) (fun hb => ?_) <;> (try dsimp only at hb) <;> (try simp only [ZZ] at hb) <;> (first | omega | (conv => whnf)))
     | ((first | refine Src.whole ⟨rfl, rfl⟩ ?_ | refine FrzV.whole ?_); conv => whnf))
    · refine PostCl.of (h0 r hR.symm hr0) ?_ ?_
      · repeat (first | exact True.intro | refine And.intro (by first | exact VLe.refl _ | fail) ?_)
      · repeat (first | exact True.intro | refine And.intro (by decide) ?_)
  | succ q ih =>
    intro i r hi h1 hr0 hr1 hR
    obtain ⟨b, hb⟩ : ∃ b, s[i]? = some b := ⟨_, List.getElem?_eq_getElem (show i < s.length by omega)⟩
    rw [drop_cons hb, takeL] at hR
    have hbl := UInt8.toNat_lt b
    have hst := takeU_step (q := q) (by omega) hr1 (x := (b.toNat % 64 : Nat)) (by omega)
    have hg : s.getD (Int.toNat ↑i) 0 = b := getD_of (by simpa using hb)
    refine LoopW.round (pol := polG) mixP ?_
    conv => whnf
    repeat' (first
     | ((first | with_reducible refine Br.dec (fun hb => ?_) (fun hb => ?_) | with_reducible refine Br.ndec (fun hb => ?_) (fun hb => ?_)) <;> (try dsimp only at hb) <;> (try simp only [ZZ] at hb) <;> (first | omega | (conv => whnf)))
     | ((first | with_reducible refine Br.tt rfl ?_ | with_reducible refine Br.ff rfl ?_ | with_reducible refine Br.ff (isEmptyCons _ _) ?_); conv => whnf)
     | (refine Side.mk ?_ ?_; (focus (first | omega | (dsimp only [InR]; omega) | (dsimp only [Int.reduceToNat, IntKind.bits, Int.reducePow, InR]; omega) | (simp only [hg, InR]; omega) | (simp [PV.cells, PV.leaf, byteP]; done) | (constructor <;> omega))); conv => whnf)
     | (refine Br.mk (fun hb => ?_) (fun hb => ?_) <;> (try dsimp only at hb) <;> (try simp only [ZZ] at hb) <;> (first | omega | (conv => whnf)))
     | ((first | refine Src.whole ⟨rfl, rfl⟩ ?_ | refine FrzV.whole ?_); conv => whnf))
    · rw [hg] at hb
      rw [if_neg (by omega)] at hR
      refine PostCl.of (hr hR.symm) ?_ ?_
      · repeat (first | exact True.intro | refine And.intro (by first | exact VLe.refl _ | fail) ?_)
      · repeat (first | exact True.intro | refine And.intro (by decide) ?_)
    · rename_i h1
      rw [hg] at hb h1
      rw [if_neg (by omega)] at hR
      refine PostCl.of (hr hR.symm) ?_ ?_
      · repeat (first | exact True.intro | refine And.intro (by first | exact VLe.refl _ | fail) ?_)
      · repeat (first | exact True.intro | refine And.intro (by decide) ?_)
    · rename_i h1
      rw [hg] at hb h1 ⊢
      rw [if_pos (by omega)] at hR
      have e : 64 * r + (b.toNat : Int) - 128 = r * 64 + (b.toNat % 64 : Nat) := by omega
      rw [e]
      refine LoopW.sub (ih (i + 1) _ (by omega) (by omega) (by omega) hst.1 hR) (by repeat (first | exact True.intro | refine And.intro (by first | exact VLe.refl _ | fail) ?_)) (by repeat (first | exact True.intro | refine And.intro (by decide) ?_))
end Go.Proofs.YtaoejccgdpppgaaGreatDoor
end

section
namespace Go.Proofs.YtaoejccgdpppgaaGreatDoor
open Go Go.Am
set_option maxRecDepth 100000
theorem ref1_Take (s : Str) (hs : s.length ≤ 1073741824) : AbsCall PP GG F.ref1_Take [.p (.str s)] [] ⟨.ret (.tup [.p (.int .i64 (utfTake s).1), .p (.int .i64 (utfTake s).2)]), [], []⟩ := by
  rw [← refTake_eq]
  cases s with
  | nil =>
    refine absCall_of (pol := polG) mixP F.ref1_Take_is ?_
    conv => whnf
    repeat' (first
     | ((first | with_reducible refine Br.dec (fun hb => ?_) (fun hb => ?_) | with_reducible refine Br.ndec (fun hb => ?_) (fun hb => ?_)) <;> (try dsimp only at hb) <;> (try simp only [ZZ] at hb) <;> (first | omega | (conv => whnf)))
     | ((first | with_reducible refine Br.tt rfl ?_ | with_reducible refine Br.ff rfl ?_ | with_reducible refine Br.ff (isEmptyCons _ _) ?_); conv => whnf)
     | (refine Side.mk ?_ ?_; (focus (first | omega | (dsimp only [InR]; omega) | (dsimp only [Int.reduceToNat, IntKind.bits, Int.reducePow, InR]; omega) | (simp [PV.cells, PV.leaf, byteP]; done) | (constructor <;> omega))); conv => whnf)
     | (refine Br.mk (fun hb => ?_) (fun hb => ?_) <;> (try dsimp only at hb) <;> (try simp only [ZZ] at hb) <;> (first | omega | (conv => whnf)))
     | ((first | refine Src.whole ⟨rfl, rfl⟩ ?_ | refine FrzV.whole ?_); conv => whnf))
    exact CLe.eq rfl
  | cons c cs =>
    have hc : c.toNat < 256 := UInt8.toNat_lt c
    have hg0 : (c :: cs).getD (Int.toNat 0) 0 = c := rfl
    have hl : (c :: cs).length = cs.length + 1 := rfl
    have h0 : (utfBegins c.toNat).1 = 0 ∨ ((c :: cs).length : Int) < (utfBegins c.toNat).1 → refTake (c :: cs) = (0, 0) := fun h => by unfold refTake; simp only []; rw [if_pos h]
    have hT0 : ¬ ((utfBegins c.toNat).1 = 0 ∨ ((c :: cs).length : Int) < (utfBegins c.toNat).1) → refTake (c :: cs) = _ := fun h => by unfold refTake; simp only []; rw [if_neg h]
    refine absCall_of (pol := polG) mixP F.ref1_Take_is ?_
    conv => whnf
    repeat' (first
     | ((first | with_reducible refine Br.dec (fun hb => ?_) (fun hb => ?_) | with_reducible refine Br.ndec (fun hb => ?_) (fun hb => ?_)) <;> (try dsimp only at hb) <;> (try simp only [ZZ, hg0] at hb) <;> (first | omega | (conv => whnf)))
     | ((first | with_reducible refine Br.tt rfl ?_ | with_reducible refine Br.ff rfl ?_ | with_reducible refine Br.ff (isEmptyCons _ _) ?_); conv => whnf)
     | (refine Side.mk ?_ ?_; (focus (first | omega | (dsimp only [InR]; omega) | (dsimp only [Int.reduceToNat, IntKind.bits, Int.reducePow, InR]; omega) | (simp only [hg0, InR]; omega) | (simp only [List.length_cons]; omega) | (simp [PV.cells, PV.leaf, byteP]; done) | (constructor <;> omega))); conv => whnf)
     | (refine Br.mk (fun hb => ?_) (fun hb => ?_) <;> (try dsimp only at hb) <;> (try simp only [ZZ, hg0] at hb) <;> (first | omega | (conv => whnf)))
     | ((first | refine Src.whole ⟨rfl, rfl⟩ ?_ | refine FrzV.whole ?_); conv => whnf))
    · exact CLe.eq (by rw [h0 (by unfold utfBegins; (repeat' split) <;> first | omega | exact Or.inl rfl | (simp only []; omega))])
    · have hB : utfBegins c.toNat = (4, ((((c :: cs).getD (Int.toNat 0) 0).toNat : Int) - 240)) := by unfold utfBegins; rw [hg0]; (repeat' split) <;> first | omega | rfl | (congr 1; omega)
      have hr0 := utfBegins_r c.toNat
      have hT := hT0 (by rw [hB]; simp only []; omega)
      rw [hB] at hr0 hT
      simp only [] at hr0 hT
      refine LoopW.cl ?_
      refine LoopW.sub (refTake_loop (c :: cs) 4 (by omega) (by omega) (takeL 3 cs ((((c :: cs).getD (Int.toNat 0) 0).toNat : Int) - 240)) _ (fun r' hr' hp' => ?_) (fun hr' => ?_) 3 1 ((((c :: cs).getD (Int.toNat 0) 0).toNat : Int) - 240) (by omega) (by omega) (by omega) (by have := takeU_pos 3 (by omega); omega) rfl) (by repeat (first | exact True.intro | refine And.intro (by first | exact VLe.refl _ | fail) ?_)) (by repeat (first | exact True.intro | refine And.intro (by decide) ?_))
      · conv => whnf
        have hT : refTake (c :: cs) = if utfEnc r' = List.take 4 (c :: cs) then (r', 4) else (0, 0) := by rw [hT, show takeL (Int.toNat 4 - 1) cs ((((c :: cs).getD (Int.toNat 0) 0).toNat : Int) - 240) = some r' from hr']; rfl
        repeat' (first
         | ((first | with_reducible refine Br.dec (fun hb => ?_) (fun hb => ?_) | with_reducible refine Br.ndec (fun hb => ?_) (fun hb => ?_)) <;> (try dsimp only at hb) <;> (try simp only [ZZ] at hb) <;> (first | omega | (conv => whnf)))
         | ((first | with_reducible refine Br.tt rfl ?_ | with_reducible refine Br.ff rfl ?_ | with_reducible refine Br.ff (isEmptyCons _ _) ?_); conv => whnf)
         | (refine Side.mk ?_ ?_; (focus (first | omega | (dsimp only [InR]; omega) | (dsimp only [Int.reduceToNat, IntKind.bits, Int.reducePow, InR]; omega) | (simp [PV.cells, PV.leaf, byteP]; done) | (constructor <;> omega))); conv => whnf)
         | (refine Br.mk (fun hb => ?_) (fun hb => ?_) <;> (try dsimp only at hb) <;> (try simp only [ZZ] at hb) <;> (first | omega | (conv => whnf)))
         | ((first | refine Src.whole ⟨rfl, rfl⟩ ?_ | refine FrzV.whole ?_); conv => whnf)
         | ((first | refine CallW.use (ref1_Put _) ?_); conv => whnf))
        · exact CLe.eq (by rw [hT, if_neg (show ¬ utfEnc r' = List.take 4 (c :: cs) from hb)])
        · exact CLe.eq (by rw [hT, if_pos (show utfEnc r' = List.take 4 (c :: cs) from hb)]; rfl)
      · conv => whnf
        exact CLe.eq (by rw [hT, show takeL (Int.toNat 4 - 1) cs ((((c :: cs).getD (Int.toNat 0) 0).toNat : Int) - 240) = none from hr'])
    · exact CLe.eq (by rw [h0 (by unfold utfBegins; (repeat' split) <;> first | omega | exact Or.inl rfl | (simp only []; omega))])
    · exact CLe.eq (by rw [h0 (by unfold utfBegins; (repeat' split) <;> first | omega | exact Or.inl rfl | (simp only []; omega))])
    · have hB : utfBegins c.toNat = (3, ((((c :: cs).getD (Int.toNat 0) 0).toNat : Int) - 224)) := by unfold utfBegins; rw [hg0]; (repeat' split) <;> first | omega | rfl | (congr 1; omega)
      have hr0 := utfBegins_r c.toNat
      have hT := hT0 (by rw [hB]; simp only []; omega)
      rw [hB] at hr0 hT
      simp only [] at hr0 hT
      refine LoopW.cl ?_
      refine LoopW.sub (refTake_loop (c :: cs) 3 (by omega) (by omega) (takeL 2 cs ((((c :: cs).getD (Int.toNat 0) 0).toNat : Int) - 224)) _ (fun r' hr' hp' => ?_) (fun hr' => ?_) 2 1 ((((c :: cs).getD (Int.toNat 0) 0).toNat : Int) - 224) (by omega) (by omega) (by omega) (by have := takeU_pos 2 (by omega); omega) rfl) (by repeat (first | exact True.intro | refine And.intro (by first | exact VLe.refl _ | fail) ?_)) (by repeat (first | exact True.intro | refine And.intro (by decide) ?_))
      · conv => whnf
        have hT : refTake (c :: cs) = if utfEnc r' = List.take 3 (c :: cs) then (r', 3) else (0, 0) := by rw [hT, show takeL (Int.toNat 3 - 1) cs ((((c :: cs).getD (Int.toNat 0) 0).toNat : Int) - 224) = some r' from hr']; rfl
        repeat' (first
         | ((first | with_reducible refine Br.dec (fun hb => ?_) (fun hb => ?_) | with_reducible refine Br.ndec (fun hb => ?_) (fun hb => ?_)) <;> (try dsimp only at hb) <;> (try simp only [ZZ] at hb) <;> (first | omega | (conv => whnf)))
         | ((first | with_reducible refine Br.tt rfl ?_ | with_reducible refine Br.ff rfl ?_ | with_reducible refine Br.ff (isEmptyCons _ _) ?_); conv => whnf)
         | (refine Side.mk ?_ ?_; (focus (first | omega | (dsimp only [InR]; omega) | (dsimp only [Int.reduceToNat, IntKind.bits, Int.reducePow, InR]; omega) | (simp [PV.cells, PV.leaf, byteP]; done) | (constructor <;> omega))); conv => whnf)
         | (refine Br.mk (fun hb => ?_) (fun hb => ?_) <;> (try dsimp only at hb) <;> (try simp only [ZZ] at hb) <;> (first | omega | (conv => whnf)))
         | ((first | refine Src.whole ⟨rfl, rfl⟩ ?_ | refine FrzV.whole ?_); conv => whnf)
         | ((first | refine CallW.use (ref1_Put _) ?_); conv => whnf))
        · exact CLe.eq (by rw [hT, if_neg (show ¬ utfEnc r' = List.take 3 (c :: cs) from hb)])
        · exact CLe.eq (by rw [hT, if_pos (show utfEnc r' = List.take 3 (c :: cs) from hb)]; rfl)
      · conv => whnf
        exact CLe.eq (by rw [hT, show takeL (Int.toNat 3 - 1) cs ((((c :: cs).getD (Int.toNat 0) 0).toNat : Int) - 224) = none from hr'])
    · exact CLe.eq (by rw [h0 (by unfold utfBegins; (repeat' split) <;> first | omega | exact Or.inl rfl | (simp only []; omega))])
    · have hB : utfBegins c.toNat = (2, ((((c :: cs).getD (Int.toNat 0) 0).toNat : Int) - 192)) := by unfold utfBegins; rw [hg0]; (repeat' split) <;> first | omega | rfl | (congr 1; omega)
      have hr0 := utfBegins_r c.toNat
      have hT := hT0 (by rw [hB]; simp only []; omega)
      rw [hB] at hr0 hT
      simp only [] at hr0 hT
      refine LoopW.cl ?_
      refine LoopW.sub (refTake_loop (c :: cs) 2 (by omega) (by omega) (takeL 1 cs ((((c :: cs).getD (Int.toNat 0) 0).toNat : Int) - 192)) _ (fun r' hr' hp' => ?_) (fun hr' => ?_) 1 1 ((((c :: cs).getD (Int.toNat 0) 0).toNat : Int) - 192) (by omega) (by omega) (by omega) (by have := takeU_pos 1 (by omega); omega) rfl) (by repeat (first | exact True.intro | refine And.intro (by first | exact VLe.refl _ | fail) ?_)) (by repeat (first | exact True.intro | refine And.intro (by decide) ?_))
      · conv => whnf
        have hT : refTake (c :: cs) = if utfEnc r' = List.take 2 (c :: cs) then (r', 2) else (0, 0) := by rw [hT, show takeL (Int.toNat 2 - 1) cs ((((c :: cs).getD (Int.toNat 0) 0).toNat : Int) - 192) = some r' from hr']; rfl
        repeat' (first
         | ((first | with_reducible refine Br.dec (fun hb => ?_) (fun hb => ?_) | with_reducible refine Br.ndec (fun hb => ?_) (fun hb => ?_)) <;> (try dsimp only at hb) <;> (try simp only [ZZ] at hb) <;> (first | omega | (conv => whnf)))
         | ((first | with_reducible refine Br.tt rfl ?_ | with_reducible refine Br.ff rfl ?_ | with_reducible refine Br.ff (isEmptyCons _ _) ?_); conv => whnf)
         | (refine Side.mk ?_ ?_; (focus (first | omega | (dsimp only [InR]; omega) | (dsimp only [Int.reduceToNat, IntKind.bits, Int.reducePow, InR]; omega) | (simp [PV.cells, PV.leaf, byteP]; done) | (constructor <;> omega))); conv => whnf)
         | (refine Br.mk (fun hb => ?_) (fun hb => ?_) <;> (try dsimp only at hb) <;> (try simp only [ZZ] at hb) <;> (first | omega | (conv => whnf)))
         | ((first | refine Src.whole ⟨rfl, rfl⟩ ?_ | refine FrzV.whole ?_); conv => whnf)
         | ((first | refine CallW.use (ref1_Put _) ?_); conv => whnf))
        · exact CLe.eq (by rw [hT, if_neg (show ¬ utfEnc r' = List.take 2 (c :: cs) from hb)])
        · exact CLe.eq (by rw [hT, if_pos (show utfEnc r' = List.take 2 (c :: cs) from hb)]; rfl)
      · conv => whnf
        exact CLe.eq (by rw [hT, show takeL (Int.toNat 2 - 1) cs ((((c :: cs).getD (Int.toNat 0) 0).toNat : Int) - 192) = none from hr'])
    · exact CLe.eq (by rw [h0 (by unfold utfBegins; (repeat' split) <;> first | omega | exact Or.inl rfl | (simp only []; omega))])
    · have hB : utfBegins c.toNat = (1, (((c :: cs).getD (Int.toNat 0) 0).toNat : Int)) := by unfold utfBegins; rw [hg0]; (repeat' split) <;> first | omega | rfl | (congr 1; omega)
      have hr0 := utfBegins_r c.toNat
      have hT := hT0 (by rw [hB]; simp only []; omega)
      rw [hB] at hr0 hT
      simp only [] at hr0 hT
      refine LoopW.cl ?_
      refine LoopW.sub (refTake_loop (c :: cs) 1 (by omega) (by omega) (takeL 0 cs (((c :: cs).getD (Int.toNat 0) 0).toNat : Int)) _ (fun r' hr' hp' => ?_) (fun hr' => ?_) 0 1 (((c :: cs).getD (Int.toNat 0) 0).toNat : Int) (by omega) (by omega) (by omega) (by have := takeU_pos 0 (by omega); omega) rfl) (by repeat (first | exact True.intro | refine And.intro (by first | exact VLe.refl _ | fail) ?_)) (by repeat (first | exact True.intro | refine And.intro (by decide) ?_))
      · conv => whnf
        have hT : refTake (c :: cs) = if utfEnc r' = List.take 1 (c :: cs) then (r', 1) else (0, 0) := by rw [hT, show takeL (Int.toNat 1 - 1) cs (((c :: cs).getD (Int.toNat 0) 0).toNat : Int) = some r' from hr']; rfl
        repeat' (first
         | ((first | with_reducible refine Br.dec (fun hb => ?_) (fun hb => ?_) | with_reducible refine Br.ndec (fun hb => ?_) (fun hb => ?_)) <;> (try dsimp only at hb) <;> (try simp only [ZZ] at hb) <;> (first | omega | (conv => whnf)))
         | ((first | with_reducible refine Br.tt rfl ?_ | with_reducible refine Br.ff rfl ?_ | with_reducible refine Br.ff (isEmptyCons _ _) ?_); conv => whnf)
         | (refine Side.mk ?_ ?_; (focus (first | omega | (dsimp only [InR]; omega) | (dsimp only [Int.reduceToNat, IntKind.bits, Int.reducePow, InR]; omega) | (simp [PV.cells, PV.leaf, byteP]; done) | (constructor <;> omega))); conv => whnf)
         | (refine Br.mk (fun hb => ?_) (fun hb => ?_) <;> (try dsimp only at hb) <;> (try simp only [ZZ] at hb) <;> (first | omega | (conv => whnf)))
         | ((first | refine Src.whole ⟨rfl, rfl⟩ ?_ | refine FrzV.whole ?_); conv => whnf)
         | ((first | refine CallW.use (ref1_Put _) ?_); conv => whnf))
        · exact CLe.eq (by rw [hT, if_neg (show ¬ utfEnc r' = List.take 1 (c :: cs) from hb)])
        · exact CLe.eq (by rw [hT, if_pos (show utfEnc r' = List.take 1 (c :: cs) from hb)]; rfl)
      · conv => whnf
        exact CLe.eq (by rw [hT, show takeL (Int.toNat 1 - 1) cs (((c :: cs).getD (Int.toNat 0) 0).toNat : Int) = none from hr'])
end Go.Proofs.YtaoejccgdpppgaaGreatDoor
end
